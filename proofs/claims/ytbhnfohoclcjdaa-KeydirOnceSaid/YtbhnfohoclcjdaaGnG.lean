/- A table of terms as it lies in memory; what a call that makes terms leaves alone. -/
import Derived.Test.YtbhnfohoclcjdaaGnF
import Derived.Test.YtbhnfohoclcjdaaKdL
set_option linter.unusedVariables false
set_option linter.unusedSimpArgs false
namespace Go
open Go.Dr Go.Kd

/-! ### A world without memory -/
def World.void (w : World) : World := { w with heap := #[] }
theorem World.void_fr (w : World) : Fr [] w.void w := ⟨rfl, rfl, rfl, Nat.zero_le _, fun k hk _ => by simp [World.void] at hk⟩
theorem World.void_size (w : World) : w.void.heap.size = 0 := rfl
/-- Blocks that are held, new or old. -/
theorem OwB.hold (w : World) : OwB w.void [] w := ⟨.nil _, List.nodup_nil, (fun p hp => by cases hp), w.void_fr⟩
theorem OwB.weak {w0 w1 w : World} {L : List (Nat × Obj)} (h : OwB w0 L w) (h1 : Fr [] w1 w) (hs : w1.heap.size ≤ w0.heap.size) : OwB w1 L w := ⟨h.has, h.nd, fun p hp => Nat.le_trans hs (h.lo p hp), h1⟩

/-! ### What a call that makes terms leaves alone -/
/-- The types of a table, of its list's cells, of bytes, of slices of bytes. -/
structure TTy where
  tT : Nat
  lT : Nat
  bT : Nat
  sT : Nat
  h1 : bT ≠ tT
  h2 : bT ≠ lT
  h3 : sT ≠ tT
  h4 : sT ≠ lT
/-- A table doesn't consist of it. -/
def other (t : TTy) : Obj → Prop
  | .cells _ T _ => T ≠ t.tT ∧ T ≠ t.lT
  | .map .. => False
  | _ => True
structure FrT (t : TTy) (lo : Nat) (w w' : World) : Prop where
  os : w'.os = w.os
  tape : w'.tape = w.tape
  output : w'.output = w.output
  size : w.heap.size ≤ w'.heap.size
  at_ : ∀ k o, w.blk k = some o → (k < lo ∨ other t o) → w'.blk k = some o
/-- Bytes, and slices of them, stay. -/
def Stay (t : TTy) (w w' : World) : Prop := ∀ k cs T fr, w.blk k = some (.cells cs T fr) → (T = t.bT ∨ T = t.sT) → w'.blk k = some (.cells cs T fr)
section
variable {t : TTy} {lo : Nat} {w w' w1 w0 : World} {L : List (Nat × Obj)}
theorem FrT.of (F : Fr [] w w') : FrT t lo w w' := ⟨F.os, F.tape, F.output, F.size, fun k o h _ => F.get h (by simp)⟩
theorem FrT.refl (w : World) : FrT t lo w w := .of (Fr.refl _ _)
theorem FrT.trans (h : FrT t lo w w1) (k : FrT t lo w1 w') : FrT t lo w w' :=
  ⟨k.os.trans h.os, k.tape.trans h.tape, k.output.trans h.output, Nat.le_trans h.size k.size, fun i o ho hc => k.at_ i o (h.at_ i o ho hc) hc⟩
theorem FrT.get (h : FrT t lo w w') {k : Nat} {o : Obj} (ho : w.blk k = some o) (hc : k < lo ∨ other t o) : w'.blk k = some o := h.at_ k o ho hc
theorem FrT.fr (h : FrT t lo w w') (hl : w.heap.size ≤ lo) : Fr [] w w' := ⟨h.os, h.tape, h.output, h.size, fun k hk _ => by
  have e : w.blk k = some w.heap[k] := Array.getElem?_eq_getElem hk
  rw [e]; exact h.at_ k _ e (.inl (by omega))⟩
/-- Seen from an older world, all whose blocks are older than the tables. -/
theorem FrT.fr2 (h : FrT t lo w w') (F : Fr [] w0 w) (hl : w0.heap.size ≤ lo) : Fr [] w0 w' := ⟨h.os.trans F.os, h.tape.trans F.tape, h.output.trans F.output, Nat.le_trans F.size h.size, fun k hk hn => by
  have e0 := F.at_ k hk hn
  have e : w0.blk k = some w0.heap[k] := Array.getElem?_eq_getElem hk
  rw [e] at e0 ⊢
  exact h.at_ k _ e0 (.inl (by omega))⟩
/-- A write to what is new. -/
theorem FrT.put (h : FrT t lo w w') {b : Nat} (o : Obj) (hb : w.heap.size ≤ b) : FrT t lo w (w'.put b o) :=
  ⟨h.os, h.tape, h.output, by simpa using h.size, fun k o' ho hc => by
    have := World.at_lt ho
    rw [World.at_put_other _ _ _ _ (by omega)]
    exact h.at_ k o' ho hc⟩
theorem FrT.drew (h : FrT t lo w w') : FrT t lo w w'.drew := ⟨h.os, h.tape, h.output, h.size, h.at_⟩
theorem FrT.alloc (h : FrT t lo w w') (o : Obj) : FrT t lo w (w'.alloc o) := h.trans (.of ((Fr.refl [] w').alloc o))
/-- Only blocks of a table, or new ones, have turned. -/
theorem FrT.turn {fp : List Nat} (F : Fr fp w w') (h : ∀ b ∈ fp, lo ≤ b ∧ ∀ o, w.blk b = some o → ¬ other t o) : FrT t lo w w' :=
  ⟨F.os, F.tape, F.output, F.size, fun k o ho hc => F.get ho fun hm => by
    have := h k hm
    rcases hc with hc | hc
    · omega
    · exact this.2 o ho hc⟩
theorem OwB.callT (h : OwB w0 L w) (F : FrT t lo w w') (hL : ∀ q ∈ L, q.1 < lo ∨ other t q.2) (hl : w0.heap.size ≤ lo) : OwB w0 L w' :=
  ⟨fun q hq => F.get (h.has q hq) (hL q hq), h.nd, h.lo, F.fr2 h.fr hl⟩
theorem Has.after (h : Has L w) (hL : ∀ q ∈ L, q.1 < lo ∨ other t q.2) (F : FrT t lo w w') : Has L w' := fun q hq => F.get (h q hq) (hL q hq)
theorem Has.stay (h : Has L w) (hL : ∀ q ∈ L, ∃ cs T fr, q.2 = .cells cs T fr ∧ (T = t.bT ∨ T = t.sT)) (F : Stay t w w') : Has L w' := fun q hq => by
  obtain ⟨cs, T, fr, h1, h2⟩ := hL q hq
  rw [h1]
  exact F _ _ _ _ (by rw [← h1]; exact h q hq) h2
theorem Stay.refl (w : World) : Stay t w w := fun _ _ _ _ h _ => h
theorem Stay.trans (h : Stay t w w1) (k : Stay t w1 w') : Stay t w w' := fun i cs T fr h1 h2 => k i cs T fr (h i cs T fr h1 h2) h2
theorem Stay.of (F : Fr [] w w') : Stay t w w' := fun _ _ _ _ h _ => F.get h (by simp)
theorem FrT.stay (h : FrT t lo w w') : Stay t w w' := fun k cs T fr h1 h2 => h.get h1 (.inr (by
  rcases h2 with rfl | rfl
  · exact ⟨t.h1, t.h2⟩
  · exact ⟨t.h3, t.h4⟩))
theorem Stay.put {b : Nat} {cs cs' : Array Value} {T : TypeId} {fr fr' : Nat × Nat} (hb : w.blk b = some (.cells cs T fr)) (h1 : T ≠ t.bT) (h2 : T ≠ t.sT) (o : Obj) : Stay t w (w.put b o) := fun k cs2 T2 fr2 h3 h4 => by
  rw [World.at_put_other _ _ _ _ (fun e => by
    subst e
    rw [hb] at h3
    simp only [Option.some.injEq, Obj.cells.injEq] at h3
    rcases h4 with h4 | h4
    · exact h1 (h3.2.1.trans h4)
    · exact h2 (h3.2.1.trans h4))]
  exact h3
/-- What holds also behind whatever leaves bytes and slices of them. -/
def After (t : TTy) (w : World) (φ : World → Prop) : Prop := ∀ w', Stay t w w' → φ w'
theorem After.now {φ : World → Prop} (h : After t w φ) : φ w := h w (.refl w)
theorem After.step {φ : World → Prop} (h : After t w φ) (F : Stay t w w') : After t w' φ := fun w2 G => h w2 (F.trans G)
theorem BldV.svStay {e sz : Nat} {p : Option Addr} {n cap : Nat} {vs : List Value} (h : BldV w0 L e sz w p n cap vs) (he : e = t.bT ∨ e = t.sT) (F : Stay t w w') : Sv sz w' p n cap vs := by
  have hl := h.len
  rcases h.row.2 with ⟨hv, h0⟩ | ⟨g, c, cur, hv, _, hg, hnc, hcm, hcs, ht⟩
  · simp only [Value.slice.injEq] at hv
    obtain ⟨rfl, _, rfl⟩ := hv
    exact ⟨hl, by omega, .inl h0, fun _ => rfl, by simp⟩
  · simp only [Value.slice.injEq] at hv
    obtain ⟨rfl, _, rfl⟩ := hv
    refine ⟨hl, hnc, .inr ⟨g, 0, cur, e, (0, 0), rfl, F _ _ _ _ (by rw [World.blk_heap]; exact hg) he, ?_, ?_⟩, by simp, fun a ha => ?_⟩
    · rw [hcs, Nat.zero_add]; exact Nat.mul_le_mul_right _ hnc
    · rw [Array.toList_extract, List.extract_eq_take_drop]
      simpa using ht
    · simp only [Option.some.injEq] at ha
      exact ⟨g, 0, ha.symm⟩
theorem Bld.slStay {k : IntKind} {e : Nat} {p : Option Addr} {n cap : Nat} {l : List Int} (h : Bld w0 L k e w p n cap l) (he : e = t.bT ∨ e = t.sT) (F : Stay t w w') : Sl k w' p n cap l := by
  have hl := h.len
  rcases h.row.2 with ⟨hv, h0⟩ | ⟨g, c, cur, hv, _, hg, hnc, hcm, hcs, ht⟩
  · simp only [Value.slice.injEq] at hv
    obtain ⟨rfl, _, rfl⟩ := hv
    exact ⟨hl, by omega, .inl h0, fun _ => rfl, by simp⟩
  · simp only [Value.slice.injEq] at hv
    obtain ⟨rfl, _, rfl⟩ := hv
    refine Sl.of (F _ _ _ _ (by rw [World.blk_heap]; exact hg) he) (by rw [hcs]; omega) ?_ hnc
    rw [Array.toList_extract, List.extract_eq_take_drop]
    simpa using ht
end

/-! ### Rows that are kept among the others -/
theorem Has.of_append {A B : List (Nat × Obj)} {w : World} (h : Has (A ++ B) w) : Has A w ∧ Has B w := ⟨fun q hq => h q (by simp [hq]), fun q hq => h q (by simp [hq])⟩
section
variable {w0 w w1 : World} {L : List (Nat × Obj)} {e e' sz : Nat} {p p' : Option Addr} {n cap n' cap' : Nat} {vs : List Value} {k : IntKind} {l : List Int}
/-- A row that a callee has made joins the call's own blocks; it reads as it does as long as these stand. -/
theorem BldV.join (h : BldV w0 L e sz w p n cap vs) (B : Bld w [] k e' w1 p' n' cap' l) :
    ∃ M, BldV w0 (M ++ L) e sz w1 p n cap vs ∧ (∀ x ∈ M, ∃ cs fr, x.2 = .cells cs e' fr) ∧ ∀ w', Has M w' → Sl k w' p' n' cap' l := by
  have hl := B.len
  rcases B.row.2 with ⟨hv, h0⟩ | ⟨g, c, cur, hv, _, hg, hnc, hcm, hcs, ht⟩
  · simp only [Value.slice.injEq] at hv
    obtain ⟨rfl, _, rfl⟩ := hv
    exact ⟨[], h.call B.own.fr, by simp, fun w' _ => ⟨hl, by omega, .inl h0, fun _ => rfl, by simp⟩⟩
  · simp only [Value.slice.injEq] at hv
    obtain ⟨rfl, _, rfl⟩ := hv
    refine ⟨[(g, .cells cur e' (0, 0))], h.add B.own.fr (by rw [World.blk_heap]; exact hg) (B.new g rfl).1, fun x hx => ?_, fun w' hw' => ?_⟩
    · simp only [List.mem_singleton] at hx
      subst hx
      exact ⟨_, _, rfl⟩
    · refine Sl.of (hw'.nth 0 rfl) (by rw [hcs]; omega) ?_ hnc
      rw [Array.toList_extract, List.extract_eq_take_drop]
      simpa using ht
end

/-! ### A table's keys -/
def goodT (t : Tm) : Prop := fits t.2 = true ∧ (∀ l ∈ t.2, isBytes l) ∧ 1 ≤ t.1 ∧ t.1 ≤ 8
def keysT : List Tm → Nat → List (ByteArray × Value)
  | [], _ => []
  | t :: T, i => (strB (txt t), .int .i64 ((i + 1 : Nat) : Int)) :: keysT T (i + 1)
theorem isBytes_join {ps : List Bs} (hf : fits ps = true) (hb : ∀ l ∈ ps, isBytes l) : isBytes (joinB ps) := by
  simp only [fits, Bool.and_eq_true, decide_eq_true_eq, List.all_eq_true] at hf
  intro x hx
  simp only [joinB, List.mem_cons, List.mem_flatMap] at hx
  rcases hx with rfl | ⟨p, hp, rfl | rfl | hx⟩
  · omega
  · have := hf.2 p hp; omega
  · omega
  · exact hb p hp x hx
theorem isBytes_txt {t : Tm} (h : goodT t) : isBytes (txt t) := by
  intro x hx
  simp only [txt, List.mem_append, List.mem_singleton] at hx
  rcases hx with hx | rfl
  · exact isBytes_join h.1 h.2.1 x hx
  · have := h.2.2; omega
theorem strB_txt {t u : Tm} (ht : goodT t) (hu : goodT u) : (strB (txt t) = strB (txt u)) ↔ txt t = txt u :=
  ⟨fun h => strB_inj (isBytes_txt ht) (isBytes_txt hu) h, fun h => by rw [h]⟩
theorem findS_keysT {t : Tm} (ht : goodT t) : ∀ (T : List Tm) (i j : Nat), (∀ u ∈ T, goodT u) →
    findS (strB (txt t)) (keysT T i) j = (T.findIdx? (fun u => txt u == txt t)).map fun n => (j + n, Value.int .i64 ((i + n + 1 : Nat) : Int)) := by
  intro T
  induction T with
  | nil => intro i j _; rfl
  | cons u T ih =>
    intro i j hT
    rw [keysT, findS, List.findIdx?_cons]
    by_cases he : txt t = txt u
    · rw [if_pos (by rw [he]), show (txt u == txt t) = true by rw [he]; exact beq_self_eq_true _]
      simp
    · rw [if_neg (fun h => he ((strB_txt ht (hT u (by simp))).1 h)), show (txt u == txt t) = false by rw [beq_eq_false_iff_ne]; exact fun h => he h.symm, ih (i + 1) (j + 1) (fun v hv => hT v (by simp [hv]))]
      simp only [Bool.false_eq_true, if_false, Option.map_map]
      congr 1
      funext n
      simp only [Function.comp]
      rw [show j + 1 + n = j + (n + 1) by omega, show i + 1 + n + 1 = i + (n + 1) + 1 by omega]
theorem keysT_append (t : Tm) : ∀ (T : List Tm) (i : Nat), keysT (T ++ [t]) i = keysT T i ++ [(strB (txt t), .int .i64 ((i + T.length + 1 : Nat) : Int))] := by
  intro T
  induction T with
  | nil => intro i; rfl
  | cons u T ih =>
    intro i
    rw [List.cons_append, keysT, ih, keysT, List.cons_append, List.length_cons, show i + 1 + T.length + 1 = i + (T.length + 1) + 1 by omega]

theorem BldV.block {w0 w : World} {L : List (Nat × Obj)} {e sz : Nat} {p : Option Addr} {n cap : Nat} {vs : List Value} (h : BldV w0 L e sz w p n cap vs) {g : Nat} (hg : p.map (·.block) = some g) : ∃ cs fr, w.blk g = some (.cells cs e fr) := by
  rcases h.row.2 with ⟨hv, _⟩ | ⟨g', c, cur, hv, _, hg', _⟩
  · simp only [Value.slice.injEq] at hv
    rw [hv.1] at hg; cases hg
  · simp only [Value.slice.injEq] at hv
    rw [hv.1] at hg
    simp only [Option.map_some, Option.some.injEq] at hg
    subst hg
    exact ⟨cur, _, (World.blk_heap w g').trans hg'⟩
/-! ### A table -/
/-- The three cells of a term. -/
def Cell3 (t : TTy) (w : World) (vs : List Value) (i : Nat) (u : Tm) : Prop :=
  vs[3 * i]? = some (.int .i64 u.1) ∧ ∃ (q : Option Addr) (m c : Nat) (q2 : Option Addr) (m2 c2 : Nat), vs[3 * i + 1]? = some (.slice q m c) ∧ vs[3 * i + 2]? = some (.slice q2 m2 c2) ∧ After t w fun w' => Sll w' q m c u.2
structure Tab (t : TTy) (lo tb : Nat) (w : World) (T : List Tm) : Prop where
  ex : ∃ (w0 : World) (mb : Nat) (p : Option Addr) (cap : Nat) (vs : List Value) (es : Array MapEntry) (clock : Nat), w0.heap.size = 0 ∧
    BldV w0 [(tb, .cells #[.slice p T.length cap, .map (some mb)] t.tT), (mb, .map es clock)] t.lT 3 w p T.length cap vs ∧ lo ≤ tb ∧ lo ≤ mb ∧ (∀ g, p.map (·.block) = some g → lo ≤ g) ∧
    es.toList.map (fun e => (e.key, e.val)) = (keysT T 0).map (fun p => (Value.string p.1, p.2)) ∧ (∀ u ∈ vs, u.oneCell' = true) ∧ ∀ i u, T[i]? = some u → Cell3 t w vs i u
  good : ∀ u ∈ T, goodT u
  len : T.length ≤ 65535
theorem Tab.fr0 {t : TTy} {lo tb : Nat} {w w' : World} {T : List Tm} (h : Tab t lo tb w T) (F : Fr [] w w') : Tab t lo tb w' T := by
  obtain ⟨w0, mb, p, cap, vs, es, clock, h0, B, h1, h2, h3, h4, h5, h6⟩ := h.ex
  refine ⟨⟨w0, mb, p, cap, vs, es, clock, h0, B.call F, h1, h2, h3, h4, h5, fun i u hu => ?_⟩, h.good, h.len⟩
  obtain ⟨a, q, m, c, q2, m2, c2, b, d, e⟩ := h6 i u hu
  exact ⟨a, q, m, c, q2, m2, c2, b, d, e.step (.of F)⟩
/-- A box of the caller's own is written. -/
theorem Tab.put {t : TTy} {lo tb : Nat} {w : World} {T : List Tm} (h : Tab t lo tb w T) {b : Nat} {cs : Array Value} {T' : TypeId} {fr : Nat × Nat} (hb : w.blk b = some (.cells cs T' fr)) (h1 : T' ≠ t.bT ∧ T' ≠ t.sT ∧ T' ≠ t.tT ∧ T' ≠ t.lT) (o : Obj) : Tab t lo tb (w.put b o) T := by
  obtain ⟨w0, mb, p, cap, vs, es, clock, h0, B, k1, k2, k3, k4, k5, k6⟩ := h.ex
  have n1 : b ≠ tb := fun e => by
    have := B.own.nth 0 rfl
    rw [← e, hb] at this
    simp only [Option.some.injEq, Obj.cells.injEq] at this
    exact h1.2.2.1 this.2.1
  have n2 : b ≠ mb := fun e => by
    have := B.own.nth 1 rfl
    rw [← e, hb] at this
    simp at this
  have n3 : ∀ g, p.map (·.block) = some g → g ≠ b := fun g hg e => by
    rcases B.row.2 with ⟨hv, _⟩ | ⟨g', c, cur, hv, _, hg', _⟩
    · simp only [Value.slice.injEq] at hv
      rw [hv.1] at hg; cases hg
    · simp only [Value.slice.injEq] at hv
      rw [hv.1] at hg
      simp only [Option.map_some, Option.some.injEq] at hg
      subst hg
      subst e
      have := (World.blk_heap w g').trans hg'
      rw [hb] at this
      simp only [Option.some.injEq, Obj.cells.injEq] at this
      exact h1.2.2.2 this.2.1
  refine ⟨⟨w0, mb, p, cap, vs, es, clock, h0, ⟨⟨?_, B.own.nd, B.own.lo, ?_⟩, ?_, B.new⟩, k1, k2, k3, k4, k5, fun i u hu => ?_⟩, h.good, h.len⟩
  · exact B.own.has.put b o (fun q hq => by
      simp only [List.mem_cons, List.not_mem_nil, or_false] at hq
      rcases hq with rfl | rfl
      · exact Ne.symm n1
      · exact Ne.symm n2)
  · exact B.own.fr.put b o (fun hlt => by omega)
  · exact ((Fr.refl [b] w).put b o (by simp)).owns B.row (fun g hg hgb => by
      rw [List.mem_singleton] at hgb
      exact n3 g (by cases p with | none => cases hg | some q => simpa [Value.ownBlock] using hg) hgb)
  · obtain ⟨a, q, m, c, q2, m2, c2, d, e, f⟩ := k6 i u hu
    exact ⟨a, q, m, c, q2, m2, c2, d, e, f.step (.put (fr' := fr) (cs' := cs) hb h1.1 h1.2.1 o)⟩
theorem Tab.new {t : TTy} {tb mb : Nat} {w0 w : World} (h : OwB w0 [(tb, .cells #[.slice none 0 0, .map (some mb)] t.tT), (mb, .map #[] 0)] w) : Tab t w0.heap.size tb w [] := by
  refine ⟨⟨w.void, mb, none, 0, [], #[], 0, rfl, BldV.nil (h.weak w.void_fr (Nat.zero_le _)), h.low 0 rfl, h.low 1 rfl, (fun g hg => by cases hg), rfl, by simp, fun i t ht => by simp at ht⟩, by simp, by simp⟩
/-- Only the table's own blocks, and new ones, have turned. -/
theorem FrT.ofTab {t : TTy} {lo tb mb : Nat} {w0 w w' : World} {L : List (Nat × Obj)} {p : Option Addr} {n cap : Nat} {vs : List Value} {cs : Array Value} {es : Array MapEntry} {clock : Nat} (B : BldV w0 L t.lT 3 w p n cap vs) (ht : w.blk tb = some (.cells cs t.tT)) (hm : w.blk mb = some (.map es clock))
    (h1 : lo ≤ tb) (h2 : lo ≤ mb) (h3 : ∀ g, p.map (·.block) = some g → lo ≤ g) (F : Fr ((p.map (·.block)).toList ++ [tb, mb]) w w') : FrT t lo w w' := by
  refine FrT.turn F fun b hb => ?_
  simp only [List.mem_append, List.mem_cons, List.not_mem_nil, or_false, Option.mem_toList] at hb
  rcases hb with hb | rfl | rfl
  · obtain ⟨cs, fr, h⟩ := B.block hb
    refine ⟨h3 b hb, fun o ho => ?_⟩
    rw [h] at ho
    injection ho with ho
    subst ho
    exact fun hh => hh.2 rfl
  · refine ⟨h1, fun o ho => ?_⟩
    rw [ht] at ho
    injection ho with ho
    subst ho
    exact fun hh => hh.1 rfl
  · refine ⟨h2, fun o ho => ?_⟩
    rw [hm] at ho
    injection ho with ho
    subst ho
    exact id
theorem Tab.mono {t : TTy} {lo lo' tb : Nat} {w : World} {T : List Tm} (h : Tab t lo tb w T) (hl : lo' ≤ lo) : Tab t lo' tb w T := by
  obtain ⟨w0, mb, p, cap, vs, es, clock, h0, B, h1, h2, h3, h4⟩ := h.ex
  exact ⟨⟨w0, mb, p, cap, vs, es, clock, h0, B, Nat.le_trans hl h1, Nat.le_trans hl h2, fun g hg => Nat.le_trans hl (h3 g hg), h4⟩, h.good, h.len⟩
theorem Tab.lower {t : TTy} {lo tb : Nat} {w : World} {T : List Tm} (h : Tab t lo tb w T) : lo ≤ tb := by
  obtain ⟨w0, mb, p, cap, vs, es, clock, h0, B, h1, _⟩ := h.ex
  exact h1
theorem Tab.lt {t : TTy} {lo tb : Nat} {w : World} {T : List Tm} (h : Tab t lo tb w T) : tb < w.heap.size := by
  obtain ⟨w0, mb, p, cap, vs, es, clock, h0, B, h1, _⟩ := h.ex
  exact B.own.lt 0 rfl
end Go
