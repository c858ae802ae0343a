/- Joined: GnG, GnH, GnK, GnY, SoB, SoO, SoC, StM. -/
import Derived.Test.YtombhkekocbfoaaZf
import Derived.Test.YtombhkekocbfoaaZh
import Derived.Lib.SlBytesConst
set_option linter.unusedVariables false
set_option linter.unusedSimpArgs false
namespace Go
open Go.Dr Go.Kd

/-! ### A world without memory -/
def World.void (w : World) : World := { w with heap := #[] }
theorem World.void_fr (w : World) : Fr [] w.void w := ⟨rfl, rfl, rfl, Nat.zero_le _, fun k hk _ => by simp [World.void] at hk⟩
theorem World.void_size (w : World) : w.void.heap.size = 0 := rfl
/-- Blocks that are held, new or old. -/
theorem OwB.hold (w : World) : OwB w.void [] w := ⟨.nil _, List.nodup_nil, (fun p hp => by cases hp), w.void_fr⟩
theorem OwB.weak {w0 w1 w : World} {L : List (Nat × Obj)} (h : OwB w0 L w) (h1 : Fr [] w1 w) (hs : w1.heap.size ≤ w0.heap.size) : OwB w1 L w := ⟨h.has, h.nd, fun p hp => Nat.le_trans hs (h.lo p hp), h1⟩

/-! ### What a call that makes terms leaves alone -/
/-- The types of a table, of its list's cells, of bytes, of slices of bytes. -/
structure TTy where
  tT : Nat
  lT : Nat
  bT : Nat
  sT : Nat
  h1 : bT ≠ tT
  h2 : bT ≠ lT
  h3 : sT ≠ tT
  h4 : sT ≠ lT
  /-- May maps turn? -/
  mp : Bool
/-- A table doesn't consist of it. -/
def other (t : TTy) : Obj → Prop
  | .cells _ T _ => T ≠ t.tT ∧ T ≠ t.lT
  | .map .. => t.mp = false
  | _ => True
structure FrT (t : TTy) (lo : Nat) (w w' : World) : Prop where
  os : w'.os = w.os
  tape : w'.tape = w.tape
  output : w'.output = w.output
  size : w.heap.size ≤ w'.heap.size
  at_ : ∀ k o, w.blk k = some o → (k < lo ∨ other t o) → w'.blk k = some o
/-- Bytes, and slices of them, stay. -/
def Stay (t : TTy) (w w' : World) : Prop := ∀ k cs T fr, w.blk k = some (.cells cs T fr) → (T = t.bT ∨ T = t.sT) → w'.blk k = some (.cells cs T fr)
section
variable {t : TTy} {lo : Nat} {w w' w1 w0 : World} {L : List (Nat × Obj)}
theorem FrT.of (F : Fr [] w w') : FrT t lo w w' := ⟨F.os, F.tape, F.output, F.size, fun k o h _ => F.get h (by simp)⟩
theorem FrT.refl (w : World) : FrT t lo w w := .of (Fr.refl _ _)
theorem FrT.trans (h : FrT t lo w w1) (k : FrT t lo w1 w') : FrT t lo w w' :=
  ⟨k.os.trans h.os, k.tape.trans h.tape, k.output.trans h.output, Nat.le_trans h.size k.size, fun i o ho hc => k.at_ i o (h.at_ i o ho hc) hc⟩
theorem FrT.get (h : FrT t lo w w') {k : Nat} {o : Obj} (ho : w.blk k = some o) (hc : k < lo ∨ other t o) : w'.blk k = some o := h.at_ k o ho hc
theorem FrT.fr (h : FrT t lo w w') (hl : w.heap.size ≤ lo) : Fr [] w w' := ⟨h.os, h.tape, h.output, h.size, fun k hk _ => by
  have e : w.blk k = some w.heap[k] := Array.getElem?_eq_getElem hk
  rw [e]; exact h.at_ k _ e (.inl (by omega))⟩
/-- Seen from an older world, all whose blocks are older than the tables. -/
theorem FrT.fr2 (h : FrT t lo w w') (F : Fr [] w0 w) (hl : w0.heap.size ≤ lo) : Fr [] w0 w' := ⟨h.os.trans F.os, h.tape.trans F.tape, h.output.trans F.output, Nat.le_trans F.size h.size, fun k hk hn => by
  have e0 := F.at_ k hk hn
  have e : w0.blk k = some w0.heap[k] := Array.getElem?_eq_getElem hk
  rw [e] at e0 ⊢
  exact h.at_ k _ e0 (.inl (by omega))⟩
/-- A write to what is new. -/
theorem FrT.put (h : FrT t lo w w') {b : Nat} (o : Obj) (hb : w.heap.size ≤ b) : FrT t lo w (w'.put b o) :=
  ⟨h.os, h.tape, h.output, by simpa using h.size, fun k o' ho hc => by
    have := World.at_lt ho
    rw [World.at_put_other _ _ _ _ (by omega)]
    exact h.at_ k o' ho hc⟩
theorem FrT.drew (h : FrT t lo w w') : FrT t lo w w'.drew := ⟨h.os, h.tape, h.output, h.size, h.at_⟩
theorem FrT.alloc (h : FrT t lo w w') (o : Obj) : FrT t lo w (w'.alloc o) := h.trans (.of ((Fr.refl [] w').alloc o))
/-- Only blocks of a table, or new ones, have turned. -/
theorem FrT.turn {fp : List Nat} (F : Fr fp w w') (h : ∀ b ∈ fp, lo ≤ b ∧ ∀ o, w.blk b = some o → ¬ other t o) : FrT t lo w w' :=
  ⟨F.os, F.tape, F.output, F.size, fun k o ho hc => F.get ho fun hm => by
    have := h k hm
    rcases hc with hc | hc
    · omega
    · exact this.2 o ho hc⟩
theorem OwB.callT (h : OwB w0 L w) (F : FrT t lo w w') (hL : ∀ q ∈ L, q.1 < lo ∨ other t q.2) (hl : w0.heap.size ≤ lo) : OwB w0 L w' :=
  ⟨fun q hq => F.get (h.has q hq) (hL q hq), h.nd, h.lo, F.fr2 h.fr hl⟩
theorem Has.after (h : Has L w) (hL : ∀ q ∈ L, q.1 < lo ∨ other t q.2) (F : FrT t lo w w') : Has L w' := fun q hq => F.get (h q hq) (hL q hq)
theorem Has.stay (h : Has L w) (hL : ∀ q ∈ L, ∃ cs T fr, q.2 = .cells cs T fr ∧ (T = t.bT ∨ T = t.sT)) (F : Stay t w w') : Has L w' := fun q hq => by
  obtain ⟨cs, T, fr, h1, h2⟩ := hL q hq
  rw [h1]
  exact F _ _ _ _ (by rw [← h1]; exact h q hq) h2
theorem Stay.refl (w : World) : Stay t w w := fun _ _ _ _ h _ => h
theorem Stay.trans (h : Stay t w w1) (k : Stay t w1 w') : Stay t w w' := fun i cs T fr h1 h2 => k i cs T fr (h i cs T fr h1 h2) h2
theorem Stay.of (F : Fr [] w w') : Stay t w w' := fun _ _ _ _ h _ => F.get h (by simp)
theorem FrT.stay (h : FrT t lo w w') : Stay t w w' := fun k cs T fr h1 h2 => h.get h1 (.inr (by
  rcases h2 with rfl | rfl
  · exact ⟨t.h1, t.h2⟩
  · exact ⟨t.h3, t.h4⟩))
theorem Stay.put {b : Nat} {cs cs' : Array Value} {T : TypeId} {fr fr' : Nat × Nat} (hb : w.blk b = some (.cells cs T fr)) (h1 : T ≠ t.bT) (h2 : T ≠ t.sT) (o : Obj) : Stay t w (w.put b o) := fun k cs2 T2 fr2 h3 h4 => by
  rw [World.at_put_other _ _ _ _ (fun e => by
    subst e
    rw [hb] at h3
    simp only [Option.some.injEq, Obj.cells.injEq] at h3
    rcases h4 with h4 | h4
    · exact h1 (h3.2.1.trans h4)
    · exact h2 (h3.2.1.trans h4))]
  exact h3
/-- What holds also behind whatever leaves bytes and slices of them. -/
def After (t : TTy) (w : World) (φ : World → Prop) : Prop := ∀ w', Stay t w w' → φ w'
theorem After.now {φ : World → Prop} (h : After t w φ) : φ w := h w (.refl w)
theorem After.step {φ : World → Prop} (h : After t w φ) (F : Stay t w w') : After t w' φ := fun w2 G => h w2 (F.trans G)
theorem BldV.svStay {e sz : Nat} {p : Option Addr} {n cap : Nat} {vs : List Value} (h : BldV w0 L e sz w p n cap vs) (he : e = t.bT ∨ e = t.sT) (F : Stay t w w') : Sv sz w' p n cap vs := by
  have hl := h.len
  rcases h.row.2 with ⟨hv, h0⟩ | ⟨g, c, cur, hv, _, hg, hnc, hcm, hcs, ht⟩
  · simp only [Value.slice.injEq] at hv
    obtain ⟨rfl, _, rfl⟩ := hv
    exact ⟨hl, by omega, .inl h0, fun _ => rfl, by simp⟩
  · simp only [Value.slice.injEq] at hv
    obtain ⟨rfl, _, rfl⟩ := hv
    refine ⟨hl, hnc, .inr ⟨g, 0, cur, e, (0, 0), rfl, F _ _ _ _ (by rw [World.blk_heap]; exact hg) he, ?_, ?_⟩, by simp, trivial⟩
    · rw [hcs, Nat.zero_add]; exact Nat.mul_le_mul_right _ hnc
    · rw [Array.toList_extract, List.extract_eq_take_drop]
      simpa using ht
theorem Bld.slStay {k : IntKind} {e : Nat} {p : Option Addr} {n cap : Nat} {l : List Int} (h : Bld w0 L k e w p n cap l) (he : e = t.bT ∨ e = t.sT) (F : Stay t w w') : Sl k w' p n cap l := by
  have hl := h.len
  rcases h.row.2 with ⟨hv, h0⟩ | ⟨g, c, cur, hv, _, hg, hnc, hcm, hcs, ht⟩
  · simp only [Value.slice.injEq] at hv
    obtain ⟨rfl, _, rfl⟩ := hv
    exact ⟨hl, by omega, .inl h0, fun _ => rfl, by simp⟩
  · simp only [Value.slice.injEq] at hv
    obtain ⟨rfl, _, rfl⟩ := hv
    refine Sl.of (F _ _ _ _ (by rw [World.blk_heap]; exact hg) he) (by rw [hcs]; omega) ?_ hnc
    rw [Array.toList_extract, List.extract_eq_take_drop]
    simpa using ht
end

/-! ### Rows that are kept among the others -/
theorem Has.of_append {A B : List (Nat × Obj)} {w : World} (h : Has (A ++ B) w) : Has A w ∧ Has B w := ⟨fun q hq => h q (by simp [hq]), fun q hq => h q (by simp [hq])⟩
section
variable {w0 w w1 : World} {L : List (Nat × Obj)} {e e' sz : Nat} {p p' : Option Addr} {n cap n' cap' : Nat} {vs : List Value} {k : IntKind} {l : List Int}
/-- A row that a callee has made joins the call's own blocks; it reads as it does as long as these stand. -/
theorem BldV.join (h : BldV w0 L e sz w p n cap vs) (B : Bld w [] k e' w1 p' n' cap' l) :
    ∃ M, BldV w0 (M ++ L) e sz w1 p n cap vs ∧ (∀ x ∈ M, ∃ cs fr, x.2 = .cells cs e' fr) ∧ ∀ w', Has M w' → Sl k w' p' n' cap' l := by
  have hl := B.len
  rcases B.row.2 with ⟨hv, h0⟩ | ⟨g, c, cur, hv, _, hg, hnc, hcm, hcs, ht⟩
  · simp only [Value.slice.injEq] at hv
    obtain ⟨rfl, _, rfl⟩ := hv
    exact ⟨[], h.call B.own.fr, by simp, fun w' _ => ⟨hl, by omega, .inl h0, fun _ => rfl, by simp⟩⟩
  · simp only [Value.slice.injEq] at hv
    obtain ⟨rfl, _, rfl⟩ := hv
    refine ⟨[(g, .cells cur e' (0, 0))], h.add B.own.fr (by rw [World.blk_heap]; exact hg) (B.new g rfl).1, fun x hx => ?_, fun w' hw' => ?_⟩
    · simp only [List.mem_singleton] at hx
      subst hx
      exact ⟨_, _, rfl⟩
    · refine Sl.of (hw'.nth 0 rfl) (by rw [hcs]; omega) ?_ hnc
      rw [Array.toList_extract, List.extract_eq_take_drop]
      simpa using ht
end

/-! ### A table's keys -/
def goodT (t : Tm) : Prop := fits t.2 = true ∧ (∀ l ∈ t.2, isBytes l) ∧ 1 ≤ t.1 ∧ t.1 ≤ 8
def keysT : List Tm → Nat → List (ByteArray × Value)
  | [], _ => []
  | t :: T, i => (strB (txt t), .int .i64 ((i + 1 : Nat) : Int)) :: keysT T (i + 1)
theorem isBytes_join {ps : List Bs} (hf : fits ps = true) (hb : ∀ l ∈ ps, isBytes l) : isBytes (joinB ps) := by
  simp only [fits, Bool.and_eq_true, decide_eq_true_eq, List.all_eq_true] at hf
  intro x hx
  simp only [joinB, List.mem_cons, List.mem_flatMap] at hx
  rcases hx with rfl | ⟨p, hp, rfl | rfl | hx⟩
  · omega
  · have := hf.2 p hp; omega
  · omega
  · exact hb p hp x hx
theorem isBytes_txt {t : Tm} (h : goodT t) : isBytes (txt t) := by
  intro x hx
  simp only [txt, List.mem_append, List.mem_singleton] at hx
  rcases hx with hx | rfl
  · exact isBytes_join h.1 h.2.1 x hx
  · have := h.2.2; omega
theorem strB_txt {t u : Tm} (ht : goodT t) (hu : goodT u) : (strB (txt t) = strB (txt u)) ↔ txt t = txt u :=
  ⟨fun h => strB_inj (isBytes_txt ht) (isBytes_txt hu) h, fun h => by rw [h]⟩
theorem findS_keysT {t : Tm} (ht : goodT t) : ∀ (T : List Tm) (i j : Nat), (∀ u ∈ T, goodT u) →
    findS (strB (txt t)) (keysT T i) j = (T.findIdx? (fun u => txt u == txt t)).map fun n => (j + n, Value.int .i64 ((i + n + 1 : Nat) : Int)) := by
  intro T
  induction T with
  | nil => intro i j _; rfl
  | cons u T ih =>
    intro i j hT
    rw [keysT, findS, List.findIdx?_cons]
    by_cases he : txt t = txt u
    · rw [if_pos (by rw [he]), show (txt u == txt t) = true by rw [he]; exact beq_self_eq_true _]
      simp
    · rw [if_neg (fun h => he ((strB_txt ht (hT u (by simp))).1 h)), show (txt u == txt t) = false by rw [beq_eq_false_iff_ne]; exact fun h => he h.symm, ih (i + 1) (j + 1) (fun v hv => hT v (by simp [hv]))]
      simp only [Bool.false_eq_true, if_false, Option.map_map]
      congr 1
      funext n
      simp only [Function.comp]
      rw [show j + 1 + n = j + (n + 1) by omega, show i + 1 + n + 1 = i + (n + 1) + 1 by omega]
theorem keysT_append (t : Tm) : ∀ (T : List Tm) (i : Nat), keysT (T ++ [t]) i = keysT T i ++ [(strB (txt t), .int .i64 ((i + T.length + 1 : Nat) : Int))] := by
  intro T
  induction T with
  | nil => intro i; rfl
  | cons u T ih =>
    intro i
    rw [List.cons_append, keysT, ih, keysT, List.cons_append, List.length_cons, show i + 1 + T.length + 1 = i + (T.length + 1) + 1 by omega]

theorem BldV.block {w0 w : World} {L : List (Nat × Obj)} {e sz : Nat} {p : Option Addr} {n cap : Nat} {vs : List Value} (h : BldV w0 L e sz w p n cap vs) {g : Nat} (hg : p.map (·.block) = some g) : ∃ cs fr, w.blk g = some (.cells cs e fr) := by
  rcases h.row.2 with ⟨hv, _⟩ | ⟨g', c, cur, hv, _, hg', _⟩
  · simp only [Value.slice.injEq] at hv
    rw [hv.1] at hg; cases hg
  · simp only [Value.slice.injEq] at hv
    rw [hv.1] at hg
    simp only [Option.map_some, Option.some.injEq] at hg
    subst hg
    exact ⟨cur, _, (World.blk_heap w g').trans hg'⟩
/-! ### A table -/
/-- The three cells of a term. -/
def Cell3 (t : TTy) (w : World) (vs : List Value) (i : Nat) (u : Tm) : Prop :=
  vs[3 * i]? = some (.int .i64 u.1) ∧ ∃ (q : Option Addr) (m c : Nat) (q2 : Option Addr) (m2 c2 : Nat), vs[3 * i + 1]? = some (.slice q m c) ∧ vs[3 * i + 2]? = some (.slice q2 m2 c2) ∧ After t w fun w' => Sll w' q m c u.2
structure Tab (t : TTy) (lo tb : Nat) (w : World) (T : List Tm) : Prop where
  ex : ∃ (w0 : World) (mb : Nat) (p : Option Addr) (cap : Nat) (vs : List Value) (es : Array MapEntry) (clock : Nat), w0.heap.size = 0 ∧
    BldV w0 [(tb, .cells #[.slice p T.length cap, .map (some mb)] t.tT), (mb, .map es clock)] t.lT 3 w p T.length cap vs ∧ lo ≤ tb ∧ lo ≤ mb ∧ (∀ g, p.map (·.block) = some g → lo ≤ g) ∧
    es.toList.map (fun e => (e.key, e.val)) = (keysT T 0).map (fun p => (Value.string p.1, p.2)) ∧ (∀ u ∈ vs, u.oneCell' = true) ∧ ∀ i u, T[i]? = some u → Cell3 t w vs i u
  good : ∀ u ∈ T, goodT u
  len : T.length ≤ 65535
theorem Tab.fr0 {t : TTy} {lo tb : Nat} {w w' : World} {T : List Tm} (h : Tab t lo tb w T) (F : Fr [] w w') : Tab t lo tb w' T := by
  obtain ⟨w0, mb, p, cap, vs, es, clock, h0, B, h1, h2, h3, h4, h5, h6⟩ := h.ex
  refine ⟨⟨w0, mb, p, cap, vs, es, clock, h0, B.call F, h1, h2, h3, h4, h5, fun i u hu => ?_⟩, h.good, h.len⟩
  obtain ⟨a, q, m, c, q2, m2, c2, b, d, e⟩ := h6 i u hu
  exact ⟨a, q, m, c, q2, m2, c2, b, d, e.step (.of F)⟩
/-- A box of the caller's own is written. -/
theorem Tab.put {t : TTy} {lo tb : Nat} {w : World} {T : List Tm} (h : Tab t lo tb w T) {b : Nat} {cs : Array Value} {T' : TypeId} {fr : Nat × Nat} (hb : w.blk b = some (.cells cs T' fr)) (h1 : T' ≠ t.bT ∧ T' ≠ t.sT ∧ T' ≠ t.tT ∧ T' ≠ t.lT) (o : Obj) : Tab t lo tb (w.put b o) T := by
  obtain ⟨w0, mb, p, cap, vs, es, clock, h0, B, k1, k2, k3, k4, k5, k6⟩ := h.ex
  have n1 : b ≠ tb := fun e => by
    have := B.own.nth 0 rfl
    rw [← e, hb] at this
    simp only [Option.some.injEq, Obj.cells.injEq] at this
    exact h1.2.2.1 this.2.1
  have n2 : b ≠ mb := fun e => by
    have := B.own.nth 1 rfl
    rw [← e, hb] at this
    simp at this
  have n3 : ∀ g, p.map (·.block) = some g → g ≠ b := fun g hg e => by
    rcases B.row.2 with ⟨hv, _⟩ | ⟨g', c, cur, hv, _, hg', _⟩
    · simp only [Value.slice.injEq] at hv
      rw [hv.1] at hg; cases hg
    · simp only [Value.slice.injEq] at hv
      rw [hv.1] at hg
      simp only [Option.map_some, Option.some.injEq] at hg
      subst hg
      subst e
      have := (World.blk_heap w g').trans hg'
      rw [hb] at this
      simp only [Option.some.injEq, Obj.cells.injEq] at this
      exact h1.2.2.2 this.2.1
  refine ⟨⟨w0, mb, p, cap, vs, es, clock, h0, ⟨⟨?_, B.own.nd, B.own.lo, ?_⟩, ?_, B.new⟩, k1, k2, k3, k4, k5, fun i u hu => ?_⟩, h.good, h.len⟩
  · exact B.own.has.put b o (fun q hq => by
      simp only [List.mem_cons, List.not_mem_nil, or_false] at hq
      rcases hq with rfl | rfl
      · exact Ne.symm n1
      · exact Ne.symm n2)
  · exact B.own.fr.put b o (fun hlt => by omega)
  · exact ((Fr.refl [b] w).put b o (by simp)).owns B.row (fun g hg hgb => by
      rw [List.mem_singleton] at hgb
      exact n3 g (by cases p with | none => cases hg | some q => simpa [Value.ownBlock] using hg) hgb)
  · obtain ⟨a, q, m, c, q2, m2, c2, d, e, f⟩ := k6 i u hu
    exact ⟨a, q, m, c, q2, m2, c2, d, e, f.step (.put (fr' := fr) (cs' := cs) hb h1.1 h1.2.1 o)⟩
theorem Tab.new {t : TTy} {tb mb : Nat} {w0 w : World} (h : OwB w0 [(tb, .cells #[.slice none 0 0, .map (some mb)] t.tT), (mb, .map #[] 0)] w) : Tab t w0.heap.size tb w [] := by
  refine ⟨⟨w.void, mb, none, 0, [], #[], 0, rfl, BldV.nil (h.weak w.void_fr (Nat.zero_le _)), h.low 0 rfl, h.low 1 rfl, (fun g hg => by cases hg), rfl, by simp, fun i t ht => by simp at ht⟩, by simp, by simp⟩
/-- Only the table's own blocks, and new ones, have turned. -/
theorem FrT.ofTab {t : TTy} {lo tb mb : Nat} {w0 w w' : World} {L : List (Nat × Obj)} {p : Option Addr} {n cap : Nat} {vs : List Value} {cs : Array Value} {es : Array MapEntry} {clock : Nat} (B : BldV w0 L t.lT 3 w p n cap vs) (ht : w.blk tb = some (.cells cs t.tT)) (hm : w.blk mb = some (.map es clock))
    (hmp : t.mp = true)
    (h1 : lo ≤ tb) (h2 : lo ≤ mb) (h3 : ∀ g, p.map (·.block) = some g → lo ≤ g) (F : Fr ((p.map (·.block)).toList ++ [tb, mb]) w w') : FrT t lo w w' := by
  refine FrT.turn F fun b hb => ?_
  simp only [List.mem_append, List.mem_cons, List.not_mem_nil, or_false, Option.mem_toList] at hb
  rcases hb with hb | rfl | rfl
  · obtain ⟨cs, fr, h⟩ := B.block hb
    refine ⟨h3 b hb, fun o ho => ?_⟩
    rw [h] at ho
    injection ho with ho
    subst ho
    exact fun hh => hh.2 rfl
  · refine ⟨h1, fun o ho => ?_⟩
    rw [ht] at ho
    injection ho with ho
    subst ho
    exact fun hh => hh.1 rfl
  · refine ⟨h2, fun o ho => ?_⟩
    rw [hm] at ho
    injection ho with ho
    subst ho
    show ¬ (t.mp = false)
    rw [hmp]
    decide
theorem Tab.mono {t : TTy} {lo lo' tb : Nat} {w : World} {T : List Tm} (h : Tab t lo tb w T) (hl : lo' ≤ lo) : Tab t lo' tb w T := by
  obtain ⟨w0, mb, p, cap, vs, es, clock, h0, B, h1, h2, h3, h4⟩ := h.ex
  exact ⟨⟨w0, mb, p, cap, vs, es, clock, h0, B, Nat.le_trans hl h1, Nat.le_trans hl h2, fun g hg => Nat.le_trans hl (h3 g hg), h4⟩, h.good, h.len⟩
theorem Tab.lower {t : TTy} {lo tb : Nat} {w : World} {T : List Tm} (h : Tab t lo tb w T) : lo ≤ tb := by
  obtain ⟨w0, mb, p, cap, vs, es, clock, h0, B, h1, _⟩ := h.ex
  exact h1
theorem Tab.lt {t : TTy} {lo tb : Nat} {w : World} {T : List Tm} (h : Tab t lo tb w T) : tb < w.heap.size := by
  obtain ⟨w0, mb, p, cap, vs, es, clock, h0, B, h1, _⟩ := h.ex
  exact B.own.lt 0 rfl
end Go
namespace Go
open Go.Dr
theorem flatMap_part {α β : Type} (f : α → List β) (m : Nat) : ∀ (xs : List α) (j : Nat) (x : α), (∀ x ∈ xs, (f x).length = m) → xs[j]? = some x → ((xs.flatMap f).drop (j * m)).take m = f x := by
  intro xs
  induction xs with
  | nil => intro j x _ h; simp at h
  | cons y xs ih =>
    intro j x hm h
    have hy := hm y (by simp)
    cases j with
    | zero =>
      simp only [List.getElem?_cons_zero, Option.some.injEq] at h
      subst h
      rw [Nat.zero_mul, List.drop_zero, List.flatMap_cons, List.take_append_of_le_length (by omega), List.take_of_length_le (by omega)]
    | succ j =>
      rw [List.flatMap_cons, List.drop_append, List.drop_eq_nil_of_le (by rw [hy, Nat.add_mul]; omega), List.nil_append, hy, show (j + 1) * m - m = j * m by rw [Nat.add_mul]; omega]
      exact ih j x (fun z hz => hm z (by simp [hz])) (by simpa using h)
theorem Sv.elem {sz : Nat} {w : World} {p : Option Addr} {n cap : Nat} {vs : List Value} (h : Sv sz w p n cap vs) {j : Nat} (hj : j < n) :
    ∃ b off cs T fr, p = some ⟨b, off, none⟩ ∧ w.blk b = some (.cells cs T fr) ∧ off + n * sz ≤ cs.size ∧ off + j * sz + sz ≤ cs.size ∧ cs.extract (off + j * sz) (off + j * sz + sz) = ((vs.drop (j * sz)).take sz).toArray := by
  obtain ⟨b, off, cs, T, fr, hp, hb, hs, hat⟩ := h.at hj
  have h1 : (j + 1) * sz ≤ n * sz := Nat.mul_le_mul_right _ hj
  rw [Nat.add_mul, Nat.one_mul] at h1
  have hl := h.len
  refine ⟨b, off, cs, T, fr, hp, hb, hs, by omega, ?_⟩
  apply Array.ext_getElem?
  intro i
  rcases Nat.lt_or_ge i sz with hi | hi
  · rw [Array.getElem?_extract_of_lt (by omega), ← Array.getElem?_eq_getElem, hat i hi]
    simp [List.getElem?_take, List.getElem?_drop, hi]
  · rw [Array.getElem?_eq_none (by simp only [Array.size_extract]; omega), Array.getElem?_eq_none (by simp; omega)]
end Go
namespace Go
open Go.Dr
section
variable {w : World} {e sz : Nat} {p : Option Addr} {n : Nat} {vs : List Value}
theorem wpList_grow {P : Program} {ops : Array Oper} {rest : List Oper} {o : Oper} {a : Act} {Q : Exit → Act → World → Prop} (hgd : o.guard = none) (s x : Operand) (t tx : TypeId)
    (ho : o.op = .call { callee := .builtin .append, args := #[s, x], argTypes := #[t, tx] }) {i : TypeInfo} {z : Value} {bytes : Nat}
    (ht : P.underlying t = some (.slice e)) (hi : P.info? e = some i) (hz : i.zero = some z) (hsz : i.size = sz) (h0 : 0 < sz) (hby : i.bytes = bytes) (hzs : z.cells.size = sz)
    (hs : a.eval s = .slice p n n) (B : Src P sz t (.slice p n n) n vs w) {v : Value} (hx : a.eval x = v) {m : Nat} {l2 : List Value} (S : Apd P t tx e i z v m l2 w) (hm : 0 < m)
    (hbig : (n + m) * bytes ≤ 140737488355328) (h63 : n + m ≤ 4611686018427387904)
    (h : ∀ p' cap' w', BldV w [] e sz w' p' (n + m) cap' (vs ++ l2) → wpList P ops Q rest (a.put o.dst (.slice p' (n + m) cap')) w') : wpList P ops Q (o :: rest) a w := by
  refine wpList_plain hgd fun K hK => ?_
  subst hsz hby
  have h63' : n + m ≤ maxLen := by unfold maxLen; omega
  have hmb : (m : Int) * i.bytes ≤ 281474976710656 := by
    have h1 : m * i.bytes ≤ (n + m) * i.bytes := Nat.mul_le_mul_right _ (Nat.le_add_left _ _)
    have h2 : ((m * i.bytes : Nat) : Int) ≤ 140737488355328 := by omega
    rw [Int.natCast_mul] at h2
    omega
  have hr := S.grow o.type p n n vs B.cellsD (by omega) (by omega) (growslice_fits (by omega) hbig) hmb
  have hge := grownCap_ge w (n + m) n e
  have hcm : grownCap w (n + m) n e ≤ maxLen := grownCap_le_maxLen w (n + m) n e h63'
  have hlen : (vs ++ l2).length = (n + m) * i.size := by rw [List.length_append, B.newsLen, S.len, Nat.add_mul]
  unfold Oper.wp execOp
  simp only [ho, resolve, invoke, builtin, Sem.run_bind, Sem.run_pure, Result.andThen_ok, List.map_toArray, List.map_cons, List.map_nil, hs, hx, hr]
  refine hK _ _ (h _ _ _ ⟨(OwB.start w).call ((Fr.refl [] w).drew.alloc _), ⟨hlen, .inr ⟨w.heap.size, _, _, rfl, Nat.zero_le _, heap_alloc_new w.drew _, hge, hcm, ?_, ?_⟩⟩, fun g hg => ⟨by simp at hg; omega, by simp⟩⟩)
  · simp only [Array.size_append, List.size_toArray, size_zeroCells, hzs, hlen, ← Nat.add_mul]
    congr 1
    omega
  · simp only [Array.toList_append]
    rw [← hlen]
    exact List.take_left
end
end Go
namespace Go
theorem World.freeze_at {w : World} {b : Nat} {C : Array Value} {e : TypeId} (k : Nat) (h : w.blk b = some (.cells C e)) : w.freeze ⟨b, k, none⟩ 1 = w.put b (.cells C e (k, k + 1)) := by
  unfold World.freeze World.put
  rw [if_neg (by decide)]
  congr 1
  apply Array.ext
  · simp
  · intro i h1 h2
    have hb := Array.getElem?_eq_some_iff.1 h
    rw [Array.getElem_modify, Array.getElem_setIfInBounds]
    by_cases hi : b = i
    · subst hi
      rw [if_pos rfl, if_pos rfl, hb.2]
      rfl
    · rw [if_neg hi, if_neg hi]
/-- '[]byte("..")' of a constant, its row laid anywhere. -/
theorem run_convert_mark {P : Program} {w : World} {b : Nat} {C : Array Value} {t e : TypeId} (n c : Nat) (h : w.blk b = some (.cells C e)) (ht : P.underlying t = some (.slice e)) (he : P.underlying e = some (.int .u8)) :
    (convert t t (.slice (some ⟨b, 0, none⟩) n c)).run P w = .ok (.slice (some ⟨b, 0, none⟩) n c) (w.put b (.cells C e (C.size, C.size + 1))) := by
  have hsh : w.shape? b = some (e, C.size) := by
    unfold World.shape?
    rw [show w.heap[b]? = some (.cells C e) from h]
  simp [convert, run_underlying ht, run_underlying he, markStringish, hsh]
  exact World.freeze_at _ h
end Go
namespace Go.Dr
section
variable {P : Program} {ops : Array Oper} {Q : Exit → Act → World → Prop} {S : World → Prop} {N : Nat}
theorem drawn_wpOp {fuel : Nat} {listed : Array Bool} {a : Act} {w : World} (i : Nat) (o : Oper) (ho : ops[i]? = some o)
    (h : ∀ K : Act → World → Prop, (∀ a' w', S w' ∧ wpAnyS P .any ops (NoP Q) S N fuel (listed.setIfInBounds i true) a' w' → K a' w') →
      wpList P ops (Exit.then K fun e a w => e = .outgrown ∧ Q e a w) [o] a w) :
    wpOp P ops (NoP Q) i (fun a' w' => (N ≤ i ∨ S w') ∧ wpAnyS P .any ops (NoP Q) S N fuel (listed.setIfInBounds i true) a' w') a w := by
  have h1 : wpList P ops (Exit.then (fun a' w' => (N ≤ i ∨ S w') ∧ wpAnyS P .any ops (NoP Q) S N fuel (listed.setIfInBounds i true) a' w') (NoP Q)) [o] a w :=
    wpList_imp (fun e a w h => by
      cases e <;> first | exact h | exact h.2 | (exact absurd h.1 (by simp))) _ _ _ (h (fun a' w' => (N ≤ i ∨ S w') ∧ wpAnyS P .any ops (NoP Q) S N fuel (listed.setIfInBounds i true) a' w') (fun _ _ h => ⟨.inr h.1, h.2⟩))
  unfold wpOp
  simp only [ho]
  unfold wpList at h1
  split
  · rename_i hw
    rw [if_pos hw] at h1
    rcases h1 with h1 | ⟨ha, a', w', hl⟩
    · left
      revert h1
      unfold Oper.wp
      generalize (execOp a.eval o).run P w = r
      intro h1
      cases r with
      | ok n w' =>
        cases n <;> simp only [Oper.upon] at h1 ⊢
        case value v => exact h1
        case skip => exact h1
        case defer d => exact h1
        case enter f args =>
          refine Calls.mono h1 (fun e w'' he => ?_)
          cases e <;> exact he
        case row row args => exact Rows.mono h1 (fun v w'' he => he)
      | halt x w' => cases x <;> simp only [Oper.upon] at h1 ⊢ <;> exact h1
    · exact .inr ⟨ha, a', w', hl⟩
  · rename_i hw
    rw [if_neg hw] at h1
    exact h1
/-- Three may come up now. -/
theorem drawn_next3 (i j l : Nat) {o u v : Oper} {fuel : Nat} {listed : Array Bool} {a : Act} {w : World} (ho : ops[i]? = some o) (hu : ops[j]? = some u) (hv : ops[l]? = some v) (hr : Region.ready .any ops listed = [i, j, l])
    (h : ∀ K : Act → World → Prop, (∀ a' w', S w' ∧ wpAnyS P .any ops (NoP Q) S N fuel (listed.setIfInBounds i true) a' w' → K a' w') →
      wpList P ops (Exit.then K fun e a w => e = .outgrown ∧ Q e a w) [o] a w)
    (k : ∀ K : Act → World → Prop, (∀ a' w', S w' ∧ wpAnyS P .any ops (NoP Q) S N fuel (listed.setIfInBounds j true) a' w' → K a' w') →
      wpList P ops (Exit.then K fun e a w => e = .outgrown ∧ Q e a w) [u] a w)
    (m : ∀ K : Act → World → Prop, (∀ a' w', S w' ∧ wpAnyS P .any ops (NoP Q) S N fuel (listed.setIfInBounds l true) a' w' → K a' w') →
      wpList P ops (Exit.then K fun e a w => e = .outgrown ∧ Q e a w) [v] a w) : wpAnyS P .any ops (NoP Q) S N (fuel + 1) listed a w := by
  refine ⟨fun h0 => (by rw [h0] at hr; cases hr), fun t hl => ?_⟩
  rw [hr] at hl
  rcases List.mem_cons.1 hl with rfl | hl
  · exact drawn_wpOp _ _ ho h
  rcases List.mem_cons.1 hl with rfl | hl
  · exact drawn_wpOp _ _ hu k
  rcases List.mem_cons.1 hl with rfl | hl
  · exact drawn_wpOp _ _ hv m
  · cases hl
end
end Go.Dr
namespace Go.Proofs.Ytombhkekocbfoaa
open Go.RowKit Go.Dr Go.Kd Go.St
section
variable {w0 w : World} {L : List (Nat × Obj)} {p : Option Addr} {n cap : Nat} {l : List Int} {ops : Array Oper} {rest : List Oper} {o : Oper} {a : Act} {Q : Exit → Act → World → Prop}
theorem Bld.subL {L' : List (Nat × Obj)} {k : IntKind} {e : Nat} (B : Bld w0 L k e w p n cap l) (hs : L'.Sublist L) : Bld w0 L' k e w p n cap l := ⟨B.own.sub hs, B.row, fun g hg => ⟨(B.new g hg).1, fun hm => (B.new g hg).2 ((hs.map Prod.fst).subset hm)⟩⟩
theorem bldOfV (B : BldV w0 L 5 1 w p n cap (l.map (Value.int .u8))) : Bld w0 L .u8 5 w p n cap l := ⟨B.own, B.row, B.new⟩
/-- An append of bytes to a full slice. -/
theorem wpList_grow22 (hgd : o.guard = none) (s x : Operand) (ho : o.op = .call { callee := .builtin .append, args := #[s, x], argTypes := #[22, 22] })
    (hs : a.eval s = .slice p n n) (S0 : Sl .u8 w p n n l) {q : Option Addr} {m c : Nat} {l2 : List Int} (hx : a.eval x = .slice q m c) (S : Sl .u8 w q m c l2) (hm : 0 < m) (hbig : n + m ≤ 140737488355328)
    (h : ∀ p' cap' w', Bld w [] .u8 5 w' p' (n + m) cap' (l ++ l2) → wpList Try.prog ops Q rest (a.put o.dst (.slice p' (n + m) cap')) w') : wpList Try.prog ops Q (o :: rest) a w := by
  obtain ⟨i, hi, hz, hs1, hb1⟩ := info_parts info5
  exact wpList_grow hgd s x 22 22 ho Try.underlying22 hi hz hs1 (by omega) hb1 rfl hs (S0.src Try.underlying22) hx (Apd.ofSrc Try.underlying22 hi hz (by rw [hs1]; exact S.src Try.underlying22)) hm (by omega) (by omega) fun p' cap' w' B => h p' cap' w' (bldOfV (by rw [List.map_append]; exact B))
/-- of zeros. -/
theorem wpList_app22z (hgd : o.guard = none) (s x : Operand) (ho : o.op = .call { callee := .builtin .append, args := #[s, x], argTypes := #[22, 3] })
    (hs : a.eval s = .slice p n cap) (B : Bld w0 L .u8 5 w p n cap l) (m : Nat) (hx : a.eval x = .int .i64 m) (hbig : n + m ≤ 140737488355328)
    (h : ∀ p' cap' w', Bld w0 L .u8 5 w' p' (n + m) cap' (l ++ zs m) → wpList Try.prog ops Q rest (a.put o.dst (.slice p' (n + m) cap')) w') : wpList Try.prog ops Q (o :: rest) a w := by
  obtain ⟨i, hi, hz, hs1, hb1⟩ := info_parts info5
  have e : (Builtin.zeroCells (Value.int .u8 0).cells m).toList = (zs m).map (Value.int .u8) := by
    apply List.ext_getElem?
    intro j
    by_cases hj : j < m
    · simp [Builtin.zeroCells, Value.cells, zs, hj, Nat.mod_one]
    · rw [List.getElem?_eq_none (by simp [Builtin.zeroCells, Value.cells]; omega), List.getElem?_eq_none (by simp [zs]; omega)]
  have A := Apd.ofZeros (P := Try.prog) (w := w) Try.underlying22 Try.underlying3 hi hz (by rw [hs1]; rfl) (by simp [Value.cells, Value.oneCell']) m (by omega) (by rw [hb1]; omega)
  rw [e] at A
  exact wpList_apd hgd s x 22 3 ho Try.underlying22 hi hz hs1 hb1 rfl hs B hx A (by omega) (by omega) h
end
section
variable {w : World}
theorem isBytes_putB (k s : Nat) : isBytes (putB k s) := byt_putB k s
theorem byt_headP (e c n : Nat) : isBytes (headP e c n) := by
  have h0 : Byt headW := by intro x hx; simp [headW] at hx; omega
  exact ((h0.append (byt_putB _ _)).append (byt_putB _ _)).append (byt_putB _ _)
set_option maxRecDepth 100000 in
set_option maxHeartbeats 4000000 in
theorem hbytes_f {e c n : Nat} (hc : c < 4294967296) (hn : n < 4294967296) :
    Calls Try.prog 34 #[.agg #[.int .u64 (e : Int), .int .u32 (c : Int), .int .u32 (n : Int)]] w fun en w' => ∃ q m cp, en = .returned (.slice q m cp) ∧ Bld w [] .u8 5 w' q m cp (headB e c n) := by
  obtain ⟨xs, hxs⟩ : ∃ xs : Array Value, xs = #[.int .u64 (e : Int), .int .u32 (c : Int), .int .u32 (n : Int)] := ⟨_, rfl⟩
  have hsz : xs.size = 3 := by rw [hxs]; rfl
  have hon : ones xs.toList = true := by rw [hxs]; rfl
  have x0 : ∃ h : 0 < xs.size, xs[0] = .int .u64 (e : Int) := Array.getElem?_eq_some_iff.1 (by rw [hxs]; rfl)
  have x1 : ∃ h : 1 < xs.size, xs[1] = .int .u32 (c : Int) := Array.getElem?_eq_some_iff.1 (by rw [hxs]; rfl)
  have x2 : ∃ h : 2 < xs.size, xs[2] = .int .u32 (n : Int) := Array.getElem?_eq_some_iff.1 (by rw [hxs]; rfl)
  obtain ⟨x0', x0⟩ := x0
  obtain ⟨x1', x1⟩ := x1
  obtain ⟨x2', x2⟩ := x2
  rw [← hxs]
  clear hxs
  have wc : IntKind.u64.wrap (c : Int) = (c : Int) := by rw [IntKind.wrap_u64]; omega
  have wn : IntKind.u64.wrap (n : Int) = (n : Int) := by rw [IntKind.wrap_u64]; omega
  have hconv : (convert 22 22 (.slice (some ⟨w.heap.size + 1, 0, none⟩) 4 4)).run Try.prog ((w.alloc (.cells xs 73)).alloc (.cells #[.int .u8 104, .int .u8 101, .int .u8 97, .int .u8 100] 5)) =
      .ok (.slice (some ⟨w.heap.size + 1, 0, none⟩) 4 4) ((w.alloc (.cells xs 73)).alloc (.cells #[.int .u8 104, .int .u8 101, .int .u8 97, .int .u8 100] 5 (4, 5))) := by
    have := Lib.run_convert_bytes_const (P := Try.prog) (w.alloc (.cells xs 73)) 22 5 #[.int .u8 104, .int .u8 101, .int .u8 97, .int .u8 100] 4 4 Try.underlying22 Try.underlying5
    rw [World.size_alloc] at this
    exact this
  go_enter Try.func34, Try.ntmps34
  go_wp2_with fail
  refine OwB.named (Q := fun X => Calls Try.prog 54 _ X _) (((OwB.start w).allocN (.cells xs 73) w.heap.size rfl).allocN (.cells (ints .u8 headW) 5 (4, 5)) (w.heap.size + 1) (by simp)) ?_
  clear hconv
  intro V hV
  generalize w.heap.size + 1 = b2 at hV ⊢
  generalize w.heap.size = b1 at hV ⊢
  have HV := Lib.hid hV
  clear hV
  refine (num_b (n := e) (s := 8) (.inl rfl)).mono ?_
  rintro en w1 ⟨b8, rfl, g8, l8, F1⟩
  have HV1 := Lib.hid (HV.out.call F1)
  have G8 := Lib.hid g8
  clear g8 l8 F1 HV
  go_wp2_with (refine wpList_grow22 rfl _ _ rfl rfl (Sl.whole (HV1.out.nth 0 rfl) rfl) rfl (Sl.whole G8.out (putB_length _ _)) (by omega) (by omega) ?_)
  intro q3 c3 W3 B3
  have HB3 := Lib.hid (B3.lift HV1.out)
  clear B3 G8 HV1
  have f1 := HB3.out.own.nth 1 rfl
  have t1 := World.at_lt f1
  go_upto_region 2 with (fail)
  refine drawn_begin 11 (fun w' => w'.blk b1 = some (.cells xs 73)) (by kernel_rfl) ?_
  refine drawn_reads (fuel := 5) [0, 1, 2, 3, 6, 7, 8] rfl (by kernel_rfl) f1 ?_
  repeat (first | (refine rowK_step2 rfl rfl (fun K hK => ?_); go_wp2) | (refine rowK_step rfl (fun K hK => ?_); go_simp; refine hK _ ?_; clear hK K))
  refine rowK_nil ⟨fun w' e1 => ?_, ?_⟩
  · clear f1 t1
    have t1 := World.at_lt e1
    repeat (first | (refine rowWp_step2 rfl rfl (fun K hK => ?_); go_wp2) | (refine rowWp_step rfl (fun K hK => ?_); go_simp; refine hK _ ?_; clear hK K))
    exact rowWp_nil rfl
  refine drawn_next 4 (fuel := 4) rfl (by kernel_rfl) ?_
  intro K hK
  go_wp2_with fail
  refine (num_b (n := c) (s := 4) (.inr ⟨rfl, hc⟩)).mono ?_
  rintro en w2 ⟨b4, rfl, g4, l4, F2⟩
  have HB4 := Lib.hid (HB3.out.call ((Fr.refl [] _).drew.trans F2))
  have G4 := Lib.hid g4
  clear g4 l4 F2 HB3 f1 t1
  have f1 := HB4.out.own.nth 1 rfl
  have t1 := World.at_lt f1
  go_wp2_with fail
  refine ⟨f1, ?_⟩
  refine drawn_next 5 (fuel := 3) rfl (by kernel_rfl) ?_
  intro K hK
  refine wpList_app47 rfl _ _ rfl rfl HB4.out rfl (Sl.whole G4.out (putB_length _ _)) (by omega) ?_
  intro q5 c5 W5 B5
  have HB5 := Lib.hid B5
  clear B5 G4 HB4 f1 t1
  have f1 := HB5.out.own.nth 1 rfl
  have t1 := World.at_lt f1
  refine wpList_nil ?_
  refine hK _ _ ⟨f1, ?_⟩
  refine drawn_next 9 (fuel := 2) rfl (by kernel_rfl) ?_
  intro K hK
  go_wp2_with fail
  refine (num_b (n := n) (s := 4) (.inr ⟨rfl, hn⟩)).mono ?_
  rintro en w6 ⟨b6, rfl, g6, l6, F6⟩
  have HB6 := Lib.hid (HB5.out.call F6)
  have G6 := Lib.hid g6
  clear g6 l6 F6 HB5 f1 t1
  have f1 := HB6.out.own.nth 1 rfl
  have t1 := World.at_lt f1
  go_wp2_with fail
  refine ⟨f1, ?_⟩
  refine drawn_next 10 (fuel := 1) rfl (by kernel_rfl) ?_
  intro K hK
  refine wpList_app47 rfl _ _ rfl rfl HB6.out rfl (Sl.whole G6.out (putB_length _ _)) (by omega) ?_
  intro q7 c7 W7 B7
  have e20 : headW ++ putB e 8 ++ putB c 4 ++ putB n 4 = headP e c n := rfl
  rw [e20] at B7
  have f1 := B7.own.nth 1 rfl
  have HB7 := Lib.hid (Bld.subL (L' := []) B7 (List.nil_sublist _))
  clear B7 G6 HB6 t1 e20
  refine wpList_nil ?_
  refine hK _ _ ⟨f1, ?_⟩
  clear f1
  refine drawn_end rfl (by kernel_rfl) ?_
  intro K hK
  have hPl := headP_length e c n
  have hPb := byt_headP e c n
  obtain ⟨P, hP⟩ : ∃ P, P = headP e c n := ⟨_, rfl⟩
  rw [← hP] at hPl hPb HB7
  have HPE := Lib.hid hP
  clear hP
  go_wp2_with fail
  have HB8 := Lib.hid (HB7.out.call ((Fr.refl [] _).alloc (.cells #[.slice q7 (4 + 8 + 4 + 4) c7] 22)))
  refine named_world (A := fun X => Bld w [] .u8 5 X q7 20 c7 P ∧ Sll X (some ⟨W7.heap.size, 0, none⟩) 1 1 [P]) (Q := fun X => Calls Try.prog 55 _ X _) ⟨HB8.out, Sll.of (Sv.one (World.at_alloc_new _ _ _ rfl)) (.cons HB8.out.sl .nil)⟩ ?_
  rintro U ⟨hBU, hSU⟩
  have HBU := Lib.hid hBU
  clear HB8 HB7 hBU
  refine (total_f hSU (by intro l hl; simp only [List.mem_singleton] at hl; rw [hl]; exact hPb) (by simp [hPl]) (by omega)).mono ?_
  clear hSU
  rintro en w8 ⟨rfl, F8⟩
  have HB9 := Lib.hid (HBU.out.call F8)
  clear F8 HBU
  rw [show [P].flatten = P by simp]
  have hS := S_lt P
  obtain ⟨s0, hs0⟩ : ∃ s0, s0 = Go.St.S P := ⟨_, rfl⟩
  rw [← hs0] at hS ⊢
  have HS0 := Lib.hid hs0
  clear hs0
  go_wp2_with fail
  refine (num_b (n := s0) (s := 4) (.inr ⟨rfl, by omega⟩)).mono ?_
  rintro en w9 ⟨b9, rfl, g9, l9, F9⟩
  have HB10 := Lib.hid (HB9.out.call F9)
  have G9 := Lib.hid g9
  clear g9 l9 F9 HB9
  go_wp2_with (refine wpList_app47 rfl _ _ rfl rfl HB10.out rfl (Sl.whole G9.out (putB_length _ _)) (by omega) ?_)
  intro q10 c10 W10 B10
  have HB11 := Lib.hid B10
  clear B10 HB10 G9
  have w40 : IntKind.i64.wrap (64 - 24) = ((40 : Nat) : Int) := by rfl
  go_wp2_with (refine wpList_app22z rfl _ _ rfl rfl HB11.out 40 (by first | rfl | go_simp) (by omega) ?_)
  intro q12 c12 W12 B12
  have HB13 := Lib.hid B12
  clear B12 HB11
  go_wp2_with fail
  refine bodyPost_ret (results_tmp rfl _ _ _) rfl ⟨q12, 64, c12, rfl, ?_⟩
  have h := HB13.out
  rw [HS0.out, HPE.out] at h
  exact h
end
end Go.Proofs.Ytombhkekocbfoaa
namespace Go.Proofs.Ytombhkekocbfoaa
open Go.RowKit Go.Dr Go.Kd Go.St
theorem w64_id {x : Int} (h1 : 0 ≤ x) (h2 : x ≤ 9223372036854775807) : wrap64 x = x := by unfold wrap64; omega
section
variable {w : World}
set_option maxRecDepth 100000 in
set_option maxHeartbeats 2000000 in
theorem rput8_b {n s : Nat} (h1 : 1 ≤ s) (h8 : s ≤ 8) (hn : n < 256 ^ s) :
    Calls Try.prog 73 #[.int .u64 n, .int .i64 s] w fun e w' => ∃ b, e = .returned (.tuple #[.slice (some ⟨b, 0, none⟩) s s, .bool true]) ∧ w'.blk b = some (.cells (ints .u8 (putB n s)) 5) ∧ w.heap.size ≤ b ∧ Fr [] w w' := by
  have hn64 : n < 18446744073709551616 := Nat.lt_of_lt_of_le hn (Nat.le_trans (Nat.pow_le_pow_right (by omega) (by omega : s ≤ 8)) (by decide))
  go_enter Try.func73, Try.ntmps73
  have d1 : decide ((s : Int) < 1) = false := by rw [decide_eq_false_iff_not]; omega
  have d2 : decide ((s : Int) > 8) = false := by rw [decide_eq_false_iff_not]; omega
  have m0 : (0 : Int) ≤ s := by omega
  have m1 : (s : Int) ≤ 281474976710656 := by omega
  have w1 : IntKind.i64.wrap ((s : Int) - 1) = (s : Int) - 1 := by rw [IntKind.wrap_i64]; omega
  go_wp2_with fail
  refine OwB.named (Q := fun X => Code.wp _ _ _ _ X) (show OwB w [(w.heap.size, .cells (ints .u8 (rowP n s 0)) 5)] _ from (by rw [rowP_zero]; exact (OwB.start w).allocN (.cells (ints .u8 (zs s)) 5) w.heap.size rfl)) ?_
  intro V hV
  obtain ⟨b, hb⟩ : ∃ b, b = w.heap.size := ⟨_, rfl⟩
  rw [← hb] at hV ⊢
  have HB := Lib.hid hb
  clear hb w1
  go_loopw [0, 7] (fun nv iv wy => ∃ (j : Nat) (k : Int) (m : Nat), j ≤ s ∧ Hid (k = (s : Int) - 1 - j) ∧ iv = .int .i64 k ∧ nv = .int .u64 (m : Int) ∧ Hid (m = n / 256 ^ j) ∧ Hid (OwB w [(b, .cells (ints .u8 (rowP n s j)) 5)] wy)) (fun _ iv _ => (intOf iv + 1).toNat)
  case atStart => exact ⟨0, _, n, by omega, Lib.hid (by simp), rfl, rfl, Lib.hid (by simp), Lib.hid hV⟩
  case round =>
    clear hV
    obtain ⟨j, k, m, hj, hk, rfl, rfl, hm, hO⟩ := hrel
    have f0 := hO.out.nth 0 rfl
    have t0 := hO.out.lt 0 rfl
    obtain ⟨U, hU⟩ : ∃ U, U = rowP n s j := ⟨_, rfl⟩
    have lU : U.length = s := by rw [hU, length_rowP]
    rw [← hU] at f0
    have HU := Lib.hid hU
    clear hU
    have hm64 : m < 18446744073709551616 := by rw [hm.out]; exact Nat.lt_of_le_of_lt (Nat.div_le_self _ _) hn64
    by_cases hlt : j < s
    · have hd : decide (k ≥ 0) = true := by rw [decide_eq_true_eq, hk.out]; omega
      have hd2 : decide (0 ≤ k) = true := by rw [decide_eq_true_eq, hk.out]; omega
      obtain ⟨q, hq⟩ : ∃ q : Nat, k = (q : Int) := ⟨s - 1 - j, by rw [hk.out]; omega⟩
      have hqs : q < s := by have := hk.out; omega
      have hqe : q = s - 1 - j := by have := hk.out; omega
      subst hq
      have w3 : IntKind.i64.wrap ((q : Int) - 1) = (q : Int) - 1 := by rw [IntKind.wrap_i64]; omega
      have w4 : IntKind.u8.wrap ((m : Int) % 256) = (m : Int) % 256 := by rw [IntKind.wrap_u8]; omega
      have w5 : IntKind.u64.wrap ((m : Int) / 256) = (m : Int) / 256 := by rw [IntKind.wrap_u64, Int.emod_eq_of_lt] <;> omega
      have HQ := Lib.hid hqe
      clear hqe
      go_wp2
      go_roundw
      case rel =>
        refine ⟨j + 1, (q : Int) - 1, m / 256, by omega, Lib.hid (by have := HQ.out; omega), rfl, by simp, Lib.hid (by rw [hm.out, Nat.div_div_eq_div_mul, Nat.pow_succ]), Lib.hid ?_⟩
        have hn2 := hO.out.set 0 (.cells (ints .u8 (rowP n s (j + 1))) 5) rfl
        have ev : U.set q ((m : Int) % 256) = rowP n s (j + 1) := by
          rw [HU.out, HQ.out, ← rowP_succ hlt, ← hm.out]
          try rfl
        rw [ev]
        exact hn2
      case measure => simp [intOf]
    · obtain rfl : j = s := by omega
      have hd : decide (k ≥ 0) = false := by rw [decide_eq_false_iff_not, hk.out]; omega
      have hd2 : decide (0 ≤ k) = false := by rw [decide_eq_false_iff_not, hk.out]; omega
      have hm0 : m = 0 := by rw [hm.out]; exact Nat.div_eq_of_lt hn
      have hmd : ((m : Int) != 0) = false := by rw [hm0]; rfl
      clear hm0
      go_wp2
      refine bodyPost_ret (results_tmp2 rfl _ _ _) rfl ⟨b, rfl, ?_, by rw [HB.out]; exact Nat.le_refl _, hO.out.fr⟩
      rw [HU.out, rowP_full] at f0
      exact f0
set_option maxRecDepth 100000 in
set_option maxHeartbeats 2000000 in
theorem long_b {n : Nat} (hn : n < 18446744073709551616) :
    Calls Try.prog 62 #[.int .u64 n] w fun e w' => ∃ b, e = .returned (.slice (some ⟨b, 0, none⟩) 8 8) ∧ w'.blk b = some (.cells (ints .u8 (putB n 8)) 5) ∧ w.heap.size ≤ b ∧ Fr [] w w' := by
  go_enter Try.func62, Try.ntmps62
  go_wp2_with fail
  refine (rput8_b (n := n) (s := 8) (by omega) (by omega) (by simpa using hn)).mono ?_
  rintro e w1 ⟨b, rfl, g, hl, F⟩
  have G := Lib.hid g
  have HF := Lib.hid F
  clear g F
  go_wp2_with fail
  exact bodyPost_ret (results_tmp rfl _ _ _) rfl ⟨b, rfl, G.out, hl, HF.out⟩
set_option maxRecDepth 100000 in
set_option maxHeartbeats 2000000 in
theorem dS_f {p : Option Addr} {n cap : Nat} {b : Bs} (T : Sl .u8 w p n cap b) (hb : isBytes b) (hn : n ≤ 1000000000) :
    Calls Try.prog 64 #[.slice p n cap] w fun e w' => e = .returned (.int .i64 (Go.St.S b : Nat)) ∧ w' = w := by
  have HS := Lib.hid T
  have HN := Lib.hid T.len
  have HB := Lib.hid hb
  clear T hb
  go_enter Try.func64, Try.ntmps64
  go_wp2_with fail
  go_loopw [3, 4] (fun sv iv wy => ∃ i : Nat, i ≤ n ∧ iv = .int .i64 (i : Int) ∧ sv = .int .i64 (Go.St.S (b.take i) : Nat) ∧ wy = w) (fun _ iv _ => (n - intOf iv).toNat)
  case atStart => exact ⟨0, by omega, rfl, rfl, rfl⟩
  case round =>
    obtain ⟨i, hin, rfl, rfl, rfl⟩ := hrel
    by_cases hlt : i < n
    · have hd : decide ((i : Int) < (n : Int)) = true := by rw [decide_eq_true_eq]; omega
      obtain ⟨bb, off, cs, TT, fr, rfl, hbk, hs2, hat⟩ := HS.out.at hlt
      have tb := World.at_lt hbk
      obtain ⟨y, hy⟩ : ∃ y : Nat, el b i = (y : Int) := ⟨(el b i).toNat, by have := el_byte HB.out (i := i) (by rw [HN.out]; exact hlt); omega⟩
      have hyb : y < 256 := by have := el_byte HB.out (i := i) (by rw [HN.out]; exact hlt); omega
      rw [hy] at hat
      replace hat := (Array.getElem?_eq_some_iff.1 hat).2
      have hnext : Go.St.S (b.take (i + 1)) = (Go.St.S (b.take i) + (i + 1) * y) % 2147483647 := by
        rw [take_el (by rw [HN.out]; exact hlt), hy, S_snoc, List.length_take, HN.out, Nat.min_eq_left (by omega)]
        rfl
      have hsl := S_lt (b.take i)
      obtain ⟨s0, hs0⟩ : ∃ s0, s0 = Go.St.S (b.take i) := ⟨_, rfl⟩
      rw [← hs0] at hnext hsl ⊢
      have HNX := Lib.hid hnext
      clear hnext hs0
      have hmul : (i + 1) * y ≤ 256000000000 := Nat.le_trans (Nat.mul_le_mul (show i + 1 ≤ 1000000000 by omega) (show y ≤ 256 by omega)) (by decide)
      obtain ⟨m0, hm0⟩ : ∃ m0, (i + 1) * y = m0 := ⟨_, rfl⟩
      rw [hm0] at hmul
      have ki : (i : Int) < (n : Int) := by omega
      have w5 : ((s0 : Int) + (m0 : Int)).tmod 2147483647 = (((s0 + m0) % 2147483647 : Nat) : Int) := by
        rw [Int.tmod_eq_emod_of_nonneg (by omega)]; omega
      have wm : ((i : Int) + 1) * (y : Int) = (m0 : Int) := by rw [← hm0]; push_cast; rfl
      have HM0 := Lib.hid hm0
      clear hy hm0
      go_wp2_with fail
      go_roundw
      case rel => exact ⟨i + 1, hlt, by first | rfl | simp, by rw [HNX.out, HM0.out]; first | rfl | simp, trivial⟩
      case measure => simp [intOf]; omega
    · obtain rfl : i = n := by omega
      have hd : decide ((i : Int) < (i : Int)) = false := by simp
      have htk : b.take i = b := List.take_of_length_le (by rw [HN.out]; exact Nat.le_refl _)
      rw [htk]
      go_wp2_with fail
      exact bodyPost_ret (results_tmp rfl _ _ _) rfl ⟨rfl, rfl⟩
end
end Go.Proofs.Ytombhkekocbfoaa
namespace Go.Proofs.Ytombhkekocbfoaa
open Go.RowKit Go.Dr Go.Kd Go.St
section
variable {w : World}
set_option maxRecDepth 100000 in
set_option maxHeartbeats 4000000 in
theorem record_f {e k n cap : Nat} {p : Option Addr} {P : Bs} (hk : k < 4294967296) (S : Sl .u8 w p n cap P) (hP : isBytes P) (hn : n ≤ 1000000) :
    Calls Try.prog 37 #[.int .u64 (e : Int), .int .u32 (k : Int), .slice p n cap] w fun en w' => ∃ q m cp, en = .returned (.slice q m cp) ∧ Bld w [] .u8 5 w' q m cp (recB e k P) := by
  have HS := Lib.hid S
  have HPB := Lib.hid hP
  have HN := Lib.hid S.len
  clear S hP
  have wn : IntKind.u64.wrap (n : Int) = (n : Int) := by rw [IntKind.wrap_u64]; omega
  have wk : IntKind.u64.wrap (k : Int) = (k : Int) := by rw [IntKind.wrap_u64]; omega
  go_enter Try.func37, Try.ntmps37
  go_wp2_with fail
  refine (num_b (n := n) (s := 4) (.inr ⟨rfl, by omega⟩)).mono ?_
  rintro en w1 ⟨b7, rfl, g7, l7, F1⟩
  have HV1 := Lib.hid (((OwB.start w).call F1).room g7 (by simp) l7)
  clear g7 l7 F1
  have f7 := HV1.out.nth 0 rfl
  have t7 := World.at_lt f7
  go_upto_region 2 with (fail)
  refine drawn_begin 13 (fun w' => w'.blk b7 = some (.cells (ints .u8 (putB n 4)) 5)) (by kernel_rfl) ?_
  refine drawn_reads (fuel := 7) [0, 1, 2, 4, 5, 7, 8] rfl (by kernel_rfl) f7 ?_
  repeat (first | (refine rowK_step2 rfl rfl (fun K hK => ?_); go_wp2) | (refine rowK_step rfl (fun K hK => ?_); go_simp; refine hK _ ?_; clear hK K))
  refine rowK_nil ⟨fun w' e1 => ?_, ?_⟩
  · clear f7 t7
    have t7 := World.at_lt e1
    repeat (first | (refine rowWp_step2 rfl rfl (fun K hK => ?_); go_wp2) | (refine rowWp_step rfl (fun K hK => ?_); go_simp; refine hK _ ?_; clear hK K))
    exact rowWp_nil rfl
  refine drawn_next 3 (fuel := 6) rfl (by kernel_rfl) ?_
  intro K hK
  go_wp2_with fail
  refine (num_b (n := e) (s := 8) (.inl rfl)).mono ?_
  rintro en w2 ⟨b8, rfl, g8, l8, F2⟩
  have HV2 := Lib.hid ((HV1.out.call (show Fr [] w1 w2 from by first | exact F2 | exact (Fr.refl [] _).drew.trans F2)).room g8 (HV1.out.fresh (by simpa using l8)) (Nat.le_trans HV1.out.fr.size (by simpa using l8)))
  clear g8 l8 F2 HV1 f7 t7
  have f7 := HV2.out.nth 1 rfl
  have t7 := World.at_lt f7
  go_wp2_with fail
  refine ⟨f7, ?_⟩
  refine drawn_next 6 (fuel := 5) rfl (by kernel_rfl) ?_
  intro K hK
  go_wp2_with fail
  refine (num_b (n := k) (s := 4) (.inr ⟨rfl, hk⟩)).mono ?_
  rintro en w3 ⟨b9, rfl, g9, l9, F3⟩
  have HV3 := Lib.hid ((HV2.out.call F3).room g9 (HV2.out.fresh l9) (Nat.le_trans HV2.out.fr.size l9))
  clear g9 l9 F3 HV2 f7 t7
  have f7 := HV3.out.nth 2 rfl
  have t7 := World.at_lt f7
  go_wp2_with fail
  refine ⟨f7, ?_⟩
  refine drawn_next 9 (fuel := 4) rfl (by kernel_rfl) ?_
  intro K hK
  go_wp2_with fail
  refine ⟨by go_simp, ?_⟩
  refine named_world (A := fun X => OwB w [(w3.heap.size, .cells #[.slice (some ⟨b8, 0, none⟩) 8 8, .slice (some ⟨b9, 0, none⟩) 4 4, .slice (some ⟨b7, 0, none⟩) 4 4, .slice p n cap] 22), (b9, .cells (ints .u8 (putB k 4)) 5), (b8, .cells (ints .u8 (putB e 8)) 5), (b7, .cells (ints .u8 (putB n 4)) 5)] X) (Q := fun X => Go.Dr.wpAnyS Try.prog .any _ _ _ _ _ _ _ X) (HV3.out.allocN _ w3.heap.size rfl) ?_
  intro U hU
  generalize w3.heap.size = bx at hU ⊢
  have SL : Sll U (some ⟨bx, 0, none⟩) 4 4 [putB e 8, putB k 4, putB n 4, P] := by
    refine Sll.of (vs := [.slice (some ⟨b8, 0, none⟩) 8 8, .slice (some ⟨b9, 0, none⟩) 4 4, .slice (some ⟨b7, 0, none⟩) 4 4, .slice p n cap]) ⟨rfl, Nat.le_refl 4, .inr ⟨bx, 0, _, 22, (0, 0), rfl, hU.nth 0 rfl, by simp, by simp⟩, by simp, trivial⟩ ?_
    exact .cons (Sl.whole (hU.nth 2 rfl) (putB_length _ _)) (.cons (Sl.whole (hU.nth 1 rfl) (putB_length _ _)) (.cons (Sl.whole (hU.nth 3 rfl) (putB_length _ _)) (.cons (HS.out.fr0 hU.fr) .nil)))
  have HSL := Lib.hid SL
  have HU := Lib.hid hU
  clear SL hU HV3 f7 t7
  have f7 := HU.out.nth 3 rfl
  have t7 := World.at_lt f7
  have hTl : (recT e k P).length = 16 + n := by
    have := HN.out
    simp only [recT, List.length_append, putB_length, this]
  have hfl : [putB e 8, putB k 4, putB n 4, P].flatten = recT e k P := by
    have := HN.out
    simp [recT, this]
  obtain ⟨T, hT⟩ : ∃ T, T = recT e k P := ⟨_, rfl⟩
  rw [← hT] at hTl hfl
  have HTE := Lib.hid hT
  have HFL := Lib.hid hfl
  have HTL := Lib.hid hTl
  clear hT hfl hTl
  refine drawn_next 10 (fuel := 3) rfl (by kernel_rfl) ?_
  intro K hK
  go_wp2_with fail
  refine (total_f HSL.out (by
    intro l hl
    simp only [List.mem_cons, List.not_mem_nil, or_false] at hl
    rcases hl with rfl | rfl | rfl | rfl
    · exact isBytes_putB _ _
    · exact isBytes_putB _ _
    · exact isBytes_putB _ _
    · exact HPB.out) (by rw [HFL.out, HTL.out]; omega) (by omega)).mono ?_
  rintro en w4 ⟨rfl, F4⟩
  rw [HFL.out]
  have HU4 := Lib.hid (HU.out.call F4)
  clear F4 HU HSL f7 t7
  have f7 := HU4.out.nth 3 rfl
  have t7 := World.at_lt f7
  have hS := S_lt T
  obtain ⟨s0, hs0⟩ : ∃ s0, s0 = Go.St.S T := ⟨_, rfl⟩
  rw [← hs0] at hS ⊢
  have HS0 := Lib.hid hs0
  clear hs0
  go_wp2_with fail
  refine ⟨f7, ?_⟩
  refine drawn_next 11 (fuel := 2) rfl (by kernel_rfl) ?_
  intro K hK
  go_wp2_with fail
  refine (num_b (n := s0) (s := 4) (.inr ⟨rfl, by omega⟩)).mono ?_
  rintro en w5 ⟨b10, rfl, g10, l10, F5⟩
  have HU5 := Lib.hid (HU4.out.call F5)
  have G10 := Lib.hid g10
  clear g10 l10 F5 HU4 f7 t7
  have f7 := HU5.out.nth 3 rfl
  have t7 := World.at_lt f7
  go_wp2_with fail
  refine ⟨f7, ?_⟩
  refine drawn_next 12 (fuel := 1) rfl (by kernel_rfl) ?_
  intro K hK
  refine wpList_grow22 rfl _ _ rfl rfl (Sl.whole (HU5.out.nth 3 rfl) (putB_length _ _)) rfl (Sl.whole G10.out (putB_length _ _)) (by omega) (by omega) ?_
  intro q6 c6 W6 B6
  have B6l := B6.lift HU5.out
  have f7' := B6l.own.nth 3 rfl
  have HB6 := Lib.hid (Bld.subL (L' := []) B6l (List.nil_sublist _))
  clear B6 B6l HU5 G10 f7 t7
  refine wpList_nil ?_
  refine hK _ _ ⟨f7', ?_⟩
  clear f7'
  refine drawn_end rfl (by kernel_rfl) ?_
  intro K hK
  go_wp2_with (refine wpList_app47 rfl _ _ rfl rfl HB6.out rfl (HS.out.fr0 HB6.out.own.fr) (by omega) ?_)
  intro q8 c8 W8 B8
  obtain ⟨N8, hN8⟩ : ∃ N8, N8 = 8 + n := ⟨_, rfl⟩
  rw [show 4 + 4 + n = N8 by omega] at B8
  have HB8 := Lib.hid B8
  rw [show 4 + 4 + n = N8 by omega]
  clear B8 HB6
  obtain ⟨A, hA⟩ : ∃ A, A = N8 % 64 := ⟨_, rfl⟩
  obtain ⟨B, hB⟩ : ∃ B, B = 64 - A := ⟨_, rfl⟩
  obtain ⟨Z, hZ⟩ : ∃ Z, Z = B % 64 := ⟨_, rfl⟩
  have a1 : (N8 : Int).tmod 64 = (A : Int) := by rw [hA]; rfl
  have a2 : IntKind.i64.wrap (64 - (A : Int)) = (B : Int) := by rw [IntKind.wrap_i64]; omega
  have a3 : (B : Int).tmod 64 = (Z : Int) := by rw [hZ]; rfl
  have hZe : Z = (64 - (8 + n) % 64) % 64 := by rw [hZ, hB, hA, hN8]
  have HZE := Lib.hid hZe
  have hZ64 : Z < 64 := by omega
  have hN8b : N8 ≤ 1000008 := by omega
  clear hA hB hZ hZe hN8
  go_wp2_with (refine wpList_app22z rfl _ _ rfl rfl HB8.out Z (by first | rfl | go_simp) (by omega) ?_)
  intro q9 c9 W9 B9
  have HB9 := Lib.hid B9
  clear B9 HB8
  go_wp2_with fail
  refine bodyPost_ret (results_tmp rfl _ _ _) rfl ⟨q9, N8 + Z, c9, rfl, ?_⟩
  have h := HB9.out
  rw [HZE.out, HS0.out, HTE.out, show putB n 4 = putB P.length 4 by rw [HN.out]] at h
  have e9 : recB e k P = putB P.length 4 ++ putB (Go.St.S (recT e k P)) 4 ++ P ++ zs ((64 - (8 + n) % 64) % 64) := by
    rw [recB, recH, HN.out]
    rfl
  rw [e9, HZE.out]
  exact h
end
end Go.Proofs.Ytombhkekocbfoaa
namespace Go.St
open Go.Kd Go.Dr
def BytM (m : DM) : Prop := Byt m.kept ∧ Byt m.seen ∧ ∀ x ∈ m.waits, Byt x.2
theorem byt_zs (n : Nat) : Byt (zs n) := fun x hx => by
  have h : x = 0 := List.eq_of_mem_replicate (by simpa [zs] using hx)
  subst h
  decide
theorem byt_lay {c b : Bs} (hc : Byt c) (hb : Byt b) (o : Nat) : Byt (lay c o b) := by
  unfold lay
  exact ((hc.take _).append hb).append (hc.drop _)
theorem byt_layW : ∀ {ws : List (Nat × Bs)} {c : Bs}, Byt c → (∀ x ∈ ws, Byt x.2) → Byt (layW c ws) := by
  intro ws
  induction ws with
  | nil => intro c h _; exact h
  | cons x ws ih =>
    intro c h hx
    exact ih (byt_lay h (hx x (by simp)) _) fun y hy => hx y (by simp [hy])
theorem BytM.new (b : Int) : BytM (newM b) := ⟨byt_zs _, byt_zs _, fun x hx => by cases hx⟩
theorem BytM.alive {m : DM} (h : BytM m) : BytM (aliveM m) := by
  obtain ⟨h1, h2, h3⟩ := h
  obtain ⟨-, e1, e2, e3⟩ := aliveM_same m
  exact ⟨by rw [e1]; exact h1, by rw [e2]; exact h2, by rw [e3]; exact h3⟩
theorem BytM.write {m : DM} (h : BytM m) {a : Int} {b : Bs} (hb : Byt b) : BytM (writeM m a b).2 := by
  unfold writeM
  split
  · exact h
  · split
    · refine ⟨h.alive.1, byt_lay h.2.1 hb _, fun x hx => ?_⟩
      rcases List.mem_append.1 hx with hx | hx
      · exact h.2.2 x hx
      · rw [List.mem_singleton] at hx
        subst hx
        exact hb
    · exact h.alive
theorem BytM.wr : ∀ {bs : List Bs} {m : DM} {p : Nat}, BytM m → (∀ b ∈ bs, Byt b) → BytM (wrM m p bs).2 := by
  intro bs
  induction bs with
  | nil => intro m p h _; exact h
  | cons b bs ih =>
    intro m p h hb
    rw [wrM]
    split
    · exact ih (h.write (hb b (by simp))) fun x hx => hb x (by simp [hx])
    · exact h.write (hb b (by simp))
theorem BytM.sync {m : DM} (h : BytM m) : BytM (syncM m).2 := by
  unfold syncM
  split
  · exact ⟨byt_layW h.1 h.2.2, h.alive.2.1, fun x hx => by cases hx⟩
  · exact h.alive
theorem BytM.put {m : DM} (h : BytM m) {p : Nat} {b : Bs} (hb : Byt b) : BytM (putM m p b).2 := by
  have hc : ∀ x ∈ chunks b, Byt x := fun x hx => by
    obtain ⟨i, -, rfl⟩ := List.mem_map.1 hx
    exact (hb.drop _).take _
  unfold putM
  split
  · exact (h.wr hc).sync
  · exact h.wr hc
theorem BytM.crash {m : DM} (h : BytM m) (k : Int) : BytM (crashM m k) := by
  have : Byt (layW m.kept (m.waits.take k.toNat)) := byt_layW h.1 fun x hx => h.2.2 x (List.mem_of_mem_take hx)
  exact ⟨this, this, fun x hx => by cases hx⟩
theorem BytM.fuse {m : DM} (h : BytM m) (n : Int) : BytM (fuseM m n) := h
theorem byt_zeros (n : Nat) : Byt (zeros n) := fun x hx => by
  have h : x = 0 := List.eq_of_mem_replicate (by simpa [zeros] using hx)
  subst h
  decide
theorem byt_headB (e c n : Nat) : Byt (headB e c n) := by
  have h0 : Byt headW := by intro x hx; simp only [headW, List.mem_cons, List.not_mem_nil, or_false] at hx; omega
  exact (((((h0.append (byt_putB _ _)).append (byt_putB _ _)).append (byt_putB _ _))).append (byt_putB _ _)).append (byt_zeros _)
theorem byt_recB {e k : Nat} {p : Bs} (hp : Byt p) : Byt (recB e k p) := (((byt_putB _ _).append (byt_putB _ _)).append hp).append (byt_zeros _)
theorem byt_joinB {ps : List Bs} (h1 : ps.length ≤ 255) (h : ∀ p ∈ ps, Byt p ∧ p.length ≤ 65535) : Byt (joinB ps) := by
  intro x hx
  rw [joinB] at hx
  rcases List.mem_cons.1 hx with rfl | hx
  · omega
  · obtain ⟨p, hp, hx⟩ := List.mem_flatMap.1 hx
    obtain ⟨h2, h3⟩ := h p hp
    rcases List.mem_cons.1 hx with rfl | hx
    · omega
    · rcases List.mem_cons.1 hx with rfl | hx
      · omega
      · exact h2 x hx
theorem chgP_byt {c : Chg} (h : ChgB c) : ∀ p ∈ chgP c, Byt p ∧ p.length ≤ 4000 := by
  intro p hp
  have := h.ok.n2
  have := h.ok.v
  unfold chgP at hp
  split at hp
  · rw [List.mem_singleton] at hp
    subst hp
    exact ⟨h.nb, by omega⟩
  · rcases List.mem_cons.1 hp with rfl | hp
    · exact ⟨h.nb, by omega⟩
    · rw [List.mem_singleton] at hp
      subst hp
      exact ⟨h.vb, by omega⟩
theorem byt_payB' {l : List Chg} (h : ∀ c ∈ l, ChgB c) (hl : l.length ≤ 64) : Byt (payB l) := by
  refine byt_joinB (by rw [List.length_map]; omega) fun p hp => ?_
  obtain ⟨c, hc, rfl⟩ := List.mem_map.1 hp
  refine ⟨byt_joinB ?_ fun q hq => ⟨(chgP_byt (h c hc) q hq).1, by have := (chgP_byt (h c hc) q hq).2; omega⟩, by have := chgJ_length (h c hc).ok; omega⟩
  unfold chgP
  split <;> simp
theorem BytM.openM {m : DM} (h : BytM m) : BytM (openM m).2.2 := by
  have hr : ∀ half x, (readH m half x).2.2 = m := by
    intro half x
    unfold readH
    split <;> rfl
  unfold Go.St.openM
  split
  · exact h
  · split
    · exact h
    · split
      · split
        · exact h.put (byt_headB _ _ _)
        · exact h.put (byt_headB _ _ _)
      · split
        · exact h
        · split
          · rw [hr]; exact h
          · rw [hr]; exact h
      · rw [hr]; exact h
      · rw [hr]; exact h
      · exact h
theorem asC_chgB {L : List (Bs × Bs)} (h : ∀ x ∈ L, EntOk x) : ∀ c ∈ asC L, ChgB c := fun c hc => by
  obtain ⟨x, hx, rfl⟩ := List.mem_map.1 hc
  have := h x hx
  exact ⟨⟨this.n1, this.n2, this.v, fun h => by cases h⟩, this.nb, this.vb⟩
theorem BytM.commit {m : DM} (h : BytM m) {sp : SP} (K : SPB m.n sp) {l : List Chg} (hl : ∀ c ∈ l, Byt c.name ∧ Byt c.val) : BytM (commitM sp m l).2.2 := by
  have key : ∀ (half at_ e c : Nat) (L : List (Bs × Bs)) (b : Bs), Byt b → BytM (finM sp m L half at_ e c b).2.2 := by
    intro half at_ e c L b hb
    unfold finM
    split
    · split
      · exact (h.put hb).put (byt_headB _ _ _)
      · exact (h.put hb).put (byt_headB _ _ _)
    · exact h.put hb
  unfold commitM
  split
  · exact h
  · rename_i hbad
    have hc : ∀ c ∈ l, ChgB c := fun c hc => ⟨badC_none.1 hbad c hc, (hl c hc).1, (hl c hc).2⟩
    split
    · exact h
    · rename_i h64
      split
      · exact h
      · rename_i hn64
        split
        · exact h
        · split
          · exact h
          · split
            · split
              · exact h
              · split
                · exact h
                · exact key _ _ _ _ _ _ (byt_recB (byt_payB' (asC_chgB (ent_allC K.ent hc)) (by rw [asC, List.length_map]; omega)))
            · exact key _ _ _ _ _ _ (byt_recB (byt_payB' hc (by omega)))
/-- A store's own bounds hold behind a commit. -/
theorem commit_spb {m : DM} {sp : SP} (g : Good m sp) (hb : BytM m) (K : SPB m.n sp) {l : List Chg} (hl : ∀ c ∈ l, Byt c.name ∧ Byt c.val) (h0 : (commitM sp m l).1 = 0) : SPB (commitM sp m l).2.2.n (commitM sp m l).2.1 := by
  have g2 : Good (commitM sp m l).2.2 (commitM sp m l).2.1 := by
    rcases commit_good g l with ⟨-, h, -⟩ | ⟨h, -⟩ | ⟨h, -⟩
    · exact h
    · rw [h0] at h; cases h
    · exact absurd h0 h
  exact (open_ok (sp := (commitM sp m l).2.1) g2.ok (hb.commit K hl).2.1 (by rw [open_good g2])).1
theorem good_spb {m : DM} {sp : SP} (g : Good m sp) (hb : BytM m) : SPB m.n sp := (open_ok g.ok hb.2.1 (by rw [open_good g])).1
theorem commit_one {m : DM} (g : Good m sp0) (hf : m.fuse = -1) {n v : Bs} (hc : ChgOk ⟨n, false, v⟩) (hr : 1 + (recB 1 1 (payB [⟨n, false, v⟩])).length / 64 ≤ m.n / 2) :
    (commitM sp0 m [⟨n, false, v⟩]).1 = 0 ∧ (commitM sp0 m [⟨n, false, v⟩]).2.1.L = [(n, v)] := by
  have h150 := commit_nofuse g hf [⟨n, false, v⟩]
  have hg := commit_good g [⟨n, false, v⟩]
  have hb : badC [⟨n, false, v⟩] = none := badC_none.2 fun c hc' => by
    rw [List.mem_singleton] at hc'
    subst hc'
    exact hc
  have hL : allC sp0.L [⟨n, false, v⟩] = [(n, v)] := rfl
  have e : commitM sp0 m [⟨n, false, v⟩] = finM sp0 m [(n, v)] 0 1 1 1 (recB 1 1 (payB [⟨n, false, v⟩])) := by
    rw [commitM, hb]
    simp only [hL, List.length_singleton]
    rw [if_neg (by decide), if_neg (by decide), if_neg (by simp [sp0]), if_neg (by simp), if_neg (show ¬ (m.n / 2 < sp0.fin + (recB sp0.epoch (sp0.count + 1) (payB [⟨n, false, v⟩])).length / 64) by show ¬ (m.n / 2 < 1 + (recB 1 1 (payB [⟨n, false, v⟩])).length / 64); omega)]
    rfl
  have h3 : (commitM sp0 m [⟨n, false, v⟩]).1 = 0 ∨ (commitM sp0 m [⟨n, false, v⟩]).1 = 150 := by
    rw [e]
    unfold finM
    split
    · split
      · exact .inl rfl
      · exact .inr rfl
    · exact .inr rfl
  rcases hg with ⟨h1, -, h2⟩ | ⟨h1, -⟩ | ⟨h1, h2, -⟩
  · exact ⟨h1, h2⟩
  · exact absurd h1 h150.1
  · rcases h3 with h3 | h3
    · exact absurd h3 h1
    · exact absurd h3 h2
theorem pay_one (n v : Bs) : (payB [⟨n, false, v⟩]).length = n.length + v.length + 8 := by
  simp [payB, joinB, chgP]
  omega
end Go.St
