/- Texts out of bytes; maps whose keys are texts; slices of slices of bytes. -/
import Derived.Test.YtbhnfohoclcjdaaGnC
import Derived.Test.YtbhnfohoclcjdaaGnD
import Derived.Laws.BytesString
import Derived.MapKept
set_option linter.unusedVariables false
set_option linter.unusedSimpArgs false
namespace Go
open Go.Dr

/-! ### Texts -/
def strB (l : List Int) : ByteArray := ⟨(l.map fun n => UInt8.ofNat n.toNat).toArray⟩
theorem strB_fold (l : List Int) : ∀ s : ByteArray, l.foldl (fun r n => r.push (UInt8.ofNat n.toNat)) s = ⟨s.data ++ (l.map fun n => UInt8.ofNat n.toNat).toArray⟩ := by
  induction l with
  | nil => intro s; simp
  | cons x l ih =>
    intro s
    rw [List.foldl_cons, ih]
    congr 1
    apply Array.ext'
    simp [ByteArray.push]
theorem strB_nil : strB [] = ByteArray.empty := rfl
def isBytes (l : List Int) : Prop := ∀ x ∈ l, 0 ≤ x ∧ x < 256
theorem strB_inj : ∀ {a b : List Int}, isBytes a → isBytes b → strB a = strB b → a = b := by
  intro a b ha hb h
  have h1 : (a.map fun n => UInt8.ofNat n.toNat) = b.map fun n => UInt8.ofNat n.toNat := by
    have := congrArg (fun s : ByteArray => s.data.toList) h
    simpa [strB] using this
  clear h
  induction a generalizing b with
  | nil => cases b with
    | nil => rfl
    | cons y b => simp at h1
  | cons x a ih => cases b with
    | nil => simp at h1
    | cons y b =>
      simp only [List.map_cons, List.cons.injEq] at h1
      have hx := ha x (by simp)
      have hy := hb y (by simp)
      have h2 := congrArg UInt8.toNat h1.1
      simp only [UInt8.toNat_ofNat'] at h2
      rw [ih (fun z hz => ha z (by simp [hz])) (fun z hz => hb z (by simp [hz])) h1.2]
      congr 1
      omega
theorem Sl.toStr {P : Program} {w : World} {p : Option Addr} {n cap : Nat} {l : List Int} (h : Sl .u8 w p n cap l) : (Conv.bytesToString (.slice p n cap)).run P w = .ok (.string (strB l)) w := by
  cases p with
  | none =>
    have h0 := h.nil rfl
    have h1 := h.cap_
    have hl : l = [] := List.eq_nil_of_length_eq_zero (by rw [h.len]; omega)
    subst hl
    simp [Conv.bytesToString, Sem.run_pure, strB_nil]
  | some a =>
    have hn : (l.map (Value.int .u8)).length = n := by rw [List.length_map, h.len]
    have hl : (loadCells a n).run P w = .ok (l.map (Value.int .u8)).toArray w := by
      have := run_loadCells_list (P := P) w a (l.map (Value.int .u8)) fun j u hu => by
        have hj : j < n := by have := (List.getElem?_eq_some_iff.1 hu).1; rw [hn] at this; exact this
        obtain ⟨b, off, cs, T, fr, hp, hb, hs, hx⟩ := h.out (by omega)
        simp only [Option.some.injEq] at hp
        subst hp
        rw [Addr.add_mid, World.cell?_at, hb]
        rw [← hx, Array.getElem?_toList, Array.getElem?_extract_of_lt (by omega)] at hu
        show cs[off + j]? = some u
        rw [Array.getElem?_eq_getElem (by omega)]; exact hu
      rw [hn] at this
      exact this
    rw [run_bytesToString w a n cap l hl, strB_fold]
    congr 3
    apply Array.ext'
    rw [Array.toList_append]
    rfl

/-! ### A map by texts -/
structure MapS (w : World) (b : Nat) (kvs : List (ByteArray × Value)) : Prop where
  ex : ∃ es clock, w.blk b = some (.map es clock) ∧ es.toList.map (fun e => (e.key, e.val)) = kvs.map fun p => (Value.string p.1, p.2)
theorem MapS.made (w : World) : MapS (w.alloc (.map #[] 0)) w.heap.size [] := ⟨#[], 0, World.at_alloc_new _ _ _ rfl, rfl⟩
theorem MapS.fr {w w' : World} {b : Nat} {kvs : List (ByteArray × Value)} {fp : List Nat} (h : MapS w b kvs) (F : Fr fp w w') (hn : b ∉ fp) : MapS w' b kvs := by
  obtain ⟨es, clock, hb, he⟩ := h.ex
  exact ⟨es, clock, F.get hb hn, he⟩
def findS (k : ByteArray) : List (ByteArray × Value) → Nat → Option (Nat × Value)
  | [], _ => none
  | p :: l, i => if k = p.1 then some (i, p.2) else findS k l (i + 1)
theorem beqB (a b : ByteArray) : (a == b) = decide (a = b) := by
  cases a with
  | mk x => cases b with
    | mk y =>
      show (x == y) = _
      rw [Bool.eq_iff_iff]
      simp
theorem findNow_str (k : ByteArray) : ∀ (es : List MapEntry) (kvs : List (ByteArray × Value)) (i : Nat), es.map (fun e => (e.key, e.val)) = kvs.map (fun p => (Value.string p.1, p.2)) →
    Instr.findNow .string (.string k) es i = some (findS k kvs i) := by
  intro es
  induction es with
  | nil => intro kvs i h; cases kvs with
    | nil => rfl
    | cons p l => simp at h
  | cons e es ih => intro kvs i h; cases kvs with
    | nil => simp at h
    | cons p l =>
      simp only [List.map_cons, List.cons.injEq, Prod.mk.injEq] at h
      obtain ⟨⟨h1, h2⟩, h3⟩ := h
      unfold Instr.findNow findS
      rw [h1]
      simp only [Instr.sameNow]
      rw [beqB]
      by_cases hk : k = p.1
      · rw [decide_eq_true hk, if_pos hk, h2]
      · rw [decide_eq_false hk, if_neg hk]
        exact ih l (i + 1) h3
section
variable {P : Program} {w : World} {b : Nat} {kvs : List (ByteArray × Value)} {t kt et : TypeId} {z : Value}
theorem MapS.look (h : MapS w b kvs) (ht : P.underlying t = some (.map kt et)) (hk : P.underlying kt = some .string) (hz : (zeroValue et).run P w = .ok z w) (k : ByteArray) (ok : Bool) :
    (Instr.lookup t (.map (some b)) (.string k) ok).run P w =
      .ok (if ok then .tuple #[((findS k kvs 0).map Prod.snd).getD z, .bool (findS k kvs 0).isSome] else ((findS k kvs 0).map Prod.snd).getD z) w := by
  obtain ⟨es, clock, hb, he⟩ := h.ex
  have hf := findNow_str k es.toList kvs 0 he
  have hc : ∀ em, (Instr.checkKey em 10000 kt (.string k)).run P w = .ok () w := fun em => MapKept.run_checkKey hk (by simp [MapKept.IsKey]) em 9999
  cases hr : findS k kvs 0 with
  | none => rw [hr] at hf; simp [Instr.lookup, run_underlying ht, MapKept.run_getObj_map hb, hc, Instr.findKey, run_underlying hk, hf, hz, Result.andThen, Sem.run_pure]
  | some q => rw [hr] at hf; simp [Instr.lookup, run_underlying ht, MapKept.run_getObj_map hb, hc, Instr.findKey, run_underlying hk, hf, Result.andThen, Sem.run_pure]
theorem MapS.add (h : MapS w b kvs) (ht : P.underlying t = some (.map kt et)) (hk : P.underlying kt = some .string) (k : ByteArray) (v : Value) (hn : findS k kvs 0 = none) :
    ∃ w', (Instr.mapUpdate t (.map (some b)) (.string k) v).run P w = .ok () w' ∧ MapS w' b (kvs ++ [(k, v)]) ∧ Fr [b] w w' := by
  obtain ⟨es, clock, hb, he⟩ := h.ex
  have hf := findNow_str k es.toList kvs 0 he
  have hc : ∀ em, (Instr.checkKey em 10000 kt (.string k)).run P w = .ok () w := fun em => MapKept.run_checkKey hk (by simp [MapKept.IsKey]) em 9999
  rw [hn] at hf
  refine ⟨w.put b (.map (es.push { key := .string k, val := v, born := clock }) (clock + 1)), ?_, ⟨_, _, World.at_put_same _ _ _ (World.at_lt hb), ?_⟩, (Fr.refl [b] w).put _ _ (by simp)⟩
  · simp [Instr.mapUpdate, run_underlying ht, MapKept.run_getObj_map hb, hc, Instr.findKey, run_underlying hk, hf, MapKept.run_setObj_map _ hb, Result.andThen, Sem.run_pure, World.put]
  · simp [he]
end

/-! ### A slice of slices of bytes -/
structure Sll (w : World) (p : Option Addr) (n cap : Nat) (ls : List (List Int)) : Prop where
  ex : ∃ vs : List Value, Sv 1 w p n cap vs ∧ vs.length = ls.length ∧ ∀ (j : Nat) (l : List Int), ls[j]? = some l → ∃ (q : Option Addr) (m c : Nat), vs[j]? = some (Value.slice q m c) ∧ Sl .u8 w q m c l
theorem Sll.fr0 {w w' : World} {p : Option Addr} {n cap : Nat} {ls : List (List Int)} (h : Sll w p n cap ls) (F : Fr [] w w') : Sll w' p n cap ls := by
  obtain ⟨vs, h1, h2, h3⟩ := h.ex
  exact ⟨vs, h1.fr0 F, h2, fun j l hj => by obtain ⟨q, m, c, h4, h5⟩ := h3 j l hj; exact ⟨q, m, c, h4, h5.fr0 F⟩⟩
theorem Sll.len {w : World} {p : Option Addr} {n cap : Nat} {ls : List (List Int)} (h : Sll w p n cap ls) : ls.length = n := by
  obtain ⟨vs, h1, h2, _⟩ := h.ex
  rw [← h2, h1.len, Nat.mul_one]
theorem Sll.at {w : World} {p : Option Addr} {n cap : Nat} {ls : List (List Int)} (h : Sll w p n cap ls) {j : Nat} (hj : j < n) :
    ∃ (b off : Nat) (cs : Array Value) (T : TypeId) (fr : Nat × Nat) (q : Option Addr) (m c : Nat) (l : List Int), p = some ⟨b, off, none⟩ ∧ w.blk b = some (.cells cs T fr) ∧ off + j < cs.size ∧ cs[off + j]? = some (Value.slice q m c) ∧ ls[j]? = some l ∧ Sl .u8 w q m c l := by
  have hl := h.len
  obtain ⟨vs, h1, h2, h3⟩ := h.ex
  obtain ⟨b, off, cs, T, fr, hp, hb, hs, hat⟩ := h1.at1 hj (by omega)
  obtain ⟨q, m, c, h4, h5⟩ := h3 j ls[j] (List.getElem?_eq_getElem (by omega))
  refine ⟨b, off, cs, T, fr, q, m, c, ls[j], hp, hb, hs, ?_, List.getElem?_eq_getElem (by omega), h5⟩
  rw [hat, ← h4, List.getElem?_eq_getElem (by omega)]

/-! ### Rows that join the call's own blocks -/
theorem Bld.lift {w0 w w' : World} {L : List (Nat × Obj)} {k : IntKind} {e : Nat} {p : Option Addr} {n cap : Nat} {l : List Int} (h : Bld w [] k e w' p n cap l) (hV : OwB w0 L w) : Bld w0 L k e w' p n cap l :=
  ⟨hV.call h.own.fr, h.row, fun g hg => ⟨Nat.le_trans hV.fr.size (h.new g hg).1, fun hm => by
    obtain ⟨q, hq, rfl⟩ := List.mem_map.1 hm
    have h1 := World.at_lt (hV.has q hq)
    have h2 := (h.new q.1 hg).1
    omega⟩⟩

section
variable {w0 w w' : World} {L : List (Nat × Obj)} {e sz : Nat} {p : Option Addr} {n cap : Nat} {vs : List Value}
theorem BldV.block_lt (h : BldV w0 L e sz w p n cap vs) {g : Nat} (hg : p.map (·.block) = some g) : g < w.heap.size := by
  rcases h.row.2 with ⟨hv, _⟩ | ⟨g', c, cur, hv, _, hb, _⟩
  · simp only [Value.slice.injEq] at hv
    rw [hv.1] at hg; cases hg
  · simp only [Value.slice.injEq] at hv
    rw [hv.1] at hg
    simp only [Option.map_some, Option.some.injEq] at hg
    subst hg
    exact World.at_lt (by rw [World.blk_heap]; exact hb)
theorem Sv.one {b : Nat} {v : Value} {T : TypeId} {fr : Nat × Nat} (hb : w.blk b = some (.cells #[v] T fr)) : Sv 1 w (some ⟨b, 0, none⟩) 1 1 [v] :=
  ⟨rfl, Nat.le_refl 1, .inr ⟨b, 0, #[v], T, fr, rfl, hb, by simp, by simp⟩, (fun h => by cases h), fun a ha => ⟨b, 0, by simpa using ha.symm⟩⟩
/-- A block that a callee has made. -/
theorem BldV.add (h : BldV w0 L e sz w p n cap vs) (F : Fr [] w w') {b : Nat} {o : Obj} (hb : w'.blk b = some o) (hn : w.heap.size ≤ b) : BldV w0 ((b, o) :: L) e sz w' p n cap vs := by
  have h2 := h.call F
  refine ⟨h2.own.room hb (fun hm => ?_) (Nat.le_trans h.own.fr.size hn), h2.row, fun g hg => ⟨(h2.new g hg).1, fun hm => ?_⟩⟩
  · obtain ⟨q, hq, rfl⟩ := List.mem_map.1 hm
    have := World.at_lt (h.own.has q hq)
    omega
  · rw [List.map_cons, List.mem_cons] at hm
    rcases hm with rfl | hm
    · have := h.block_lt hg; omega
    · exact (h2.new g hg).2 hm
theorem BldV.set (h : BldV w0 L e sz w p n cap vs) {b : Nat} {o : Obj} (i : Nat) (o' : Obj) (hi : L[i]? = some (b, o)) : BldV w0 (L.set i (b, o')) e sz (w.put b o') p n cap vs := by
  have hm : (L.set i (b, o')).map Prod.fst = L.map Prod.fst := by
    apply List.ext_getElem?
    intro j
    rw [List.getElem?_map, List.getElem?_map, List.getElem?_set]
    by_cases hij : i = j
    · subst hij
      rw [if_pos rfl, hi]
      split
      · rfl
      · rename_i hlt
        rw [List.getElem?_eq_none (by omega)] at hi
        cases hi
    · rw [if_neg hij]
  refine ⟨h.own.set i o' hi, ((Fr.refl [b] w).put b o' (by simp)).owns h.row (fun g hg hgb => ?_), fun g hg => ⟨(h.new g hg).1, ?_⟩⟩
  · rw [List.mem_singleton] at hgb
    subst hgb
    have hg2 : p.map (·.block) = some g := by
      cases p with
      | none => cases hg
      | some q => simpa [Value.ownBlock] using hg
    exact (h.new g hg2).2 (List.mem_map.2 ⟨_, List.mem_of_getElem? hi, rfl⟩)
  · rw [hm]; exact (h.new g hg).2
end

section
variable {w0 w : World} {L : List (Nat × Obj)}
theorem OwB.swap {x y : Nat × Obj} (h : OwB w0 (x :: y :: L) w) : OwB w0 (y :: x :: L) w :=
  ⟨fun q hq => h.has q (by simp only [List.mem_cons] at hq ⊢; exact or_left_comm.1 hq), by
    have := h.nd
    simp only [List.map_cons, List.nodup_cons, List.mem_cons, not_or] at this ⊢
    exact ⟨⟨fun e => this.1.1 e.symm, this.2.1⟩, this.1.2, this.2.2⟩, fun q hq => h.lo q (by simp only [List.mem_cons] at hq ⊢; exact or_left_comm.1 hq), h.fr⟩
/-- A slice of slices, piece by piece. -/
inductive Sls (w : World) : List Value → List (List Int) → Prop
  | nil : Sls w [] []
  | cons {q : Option Addr} {m c : Nat} {l : List Int} {vs : List Value} {ls : List (List Int)} (h : Sl .u8 w q m c l) (hs : Sls w vs ls) : Sls w (.slice q m c :: vs) (l :: ls)
theorem Sls.len {vs : List Value} {ls : List (List Int)} (h : Sls w vs ls) : vs.length = ls.length := by
  induction h with
  | nil => rfl
  | cons h hs ih => rw [List.length_cons, List.length_cons, ih]
theorem Sls.at {vs : List Value} {ls : List (List Int)} (h : Sls w vs ls) : ∀ (j : Nat) (l : List Int), ls[j]? = some l → ∃ (q : Option Addr) (m c : Nat), vs[j]? = some (Value.slice q m c) ∧ Sl .u8 w q m c l := by
  induction h with
  | nil => intro j l hj; simp at hj
  | cons h hs ih =>
    intro j l hj
    cases j with
    | zero => simp at hj; subst hj; exact ⟨_, _, _, rfl, h⟩
    | succ j => simpa using ih j l (by simpa using hj)
theorem Sls.append {vs us : List Value} {ls ms : List (List Int)} (h : Sls w vs ls) (k : Sls w us ms) : Sls w (vs ++ us) (ls ++ ms) := by
  induction h with
  | nil => exact k
  | cons h hs ih => exact .cons h ih
theorem Sll.of {p : Option Addr} {n cap : Nat} {vs : List Value} {ls : List (List Int)} (S : Sv 1 w p n cap vs) (h : Sls w vs ls) : Sll w p n cap ls := ⟨vs, S, h.len, h.at⟩
theorem Sl.whole {b : Nat} {A : List Int} {T : TypeId} {fr : Nat × Nat} {k : IntKind} {n : Nat} (hb : w.blk b = some (.cells (ints k A) T fr)) (hn : A.length = n) : Sl k w (some ⟨b, 0, none⟩) n n A :=
  Sl.ofInts hb (by omega) (by rw [List.drop_zero, List.take_of_length_le (by omega)]) (Nat.le_refl _)
end
/-- A world gets a name. -/
theorem named_world {A Q : World → Prop} {V : World} (h : A V) (k : ∀ V', A V' → Q V') : Q V := k V h
section
variable {w0 w : World} {L A B N : List (Nat × Obj)} {e sz : Nat} {p : Option Addr} {n cap : Nat} {vs : List Value} {b : Nat} {o o' : Obj}
theorem BldV.sub {L' : List (Nat × Obj)} (h : BldV w0 L e sz w p n cap vs) (hs : L'.Sublist L) : BldV w0 L' e sz w p n cap vs :=
  ⟨h.own.sub hs, h.row, fun g hg => ⟨(h.new g hg).1, fun hm => (h.new g hg).2 ((hs.map Prod.fst).subset hm)⟩⟩
theorem OwB.mem (h : OwB w0 L w) (hm : (b, o) ∈ L) : w.blk b = some o := h.has (b, o) hm
theorem OwB.set_mid (h : OwB w0 (A ++ (b, o) :: B) w) (o' : Obj) : OwB w0 (A ++ (b, o') :: B) (w.put b o') := by
  have := h.set A.length o' (by rw [List.getElem?_append_right (Nat.le_refl _), Nat.sub_self]; rfl)
  rwa [List.set_append_right _ _ (Nat.le_refl _), Nat.sub_self] at this
/-- A growing row among the blocks: none yet, or one block. -/
def Parked (N : List (Nat × Obj)) (e sz : Nat) (p : Option Addr) (n cap : Nat) (vs : List Value) : Prop :=
  (N = [] ∧ p = none ∧ n = 0 ∧ cap = 0 ∧ vs = []) ∨ ∃ (g : Nat) (r : Array Value), N = [(g, .cells (rowV vs r) e (0, 0))] ∧ p = some ⟨g, 0, none⟩ ∧ vs.length = n * sz ∧ cap * sz = vs.length + r.size ∧ n ≤ cap ∧ cap ≤ maxLen
theorem BldV.park (h : BldV w0 L e sz w p n cap vs) : ∃ N, OwB w0 (N ++ L) w ∧ Parked N e sz p n cap vs := by
  have hl := h.len
  rcases h.row.2 with ⟨hv, h0⟩ | ⟨g, c, cur, hv, _⟩
  · simp only [Value.slice.injEq] at hv
    obtain ⟨rfl, _, rfl⟩ := hv
    subst h0
    exact ⟨[], h.own, .inl ⟨rfl, rfl, rfl, rfl, List.eq_nil_of_length_eq_zero (by simpa using hl)⟩⟩
  · simp only [Value.slice.injEq] at hv
    obtain ⟨rfl, _, _⟩ := hv
    obtain ⟨r, hO, hc, hn, hm⟩ := h.room
    exact ⟨[(g, .cells (rowV vs r) e (0, 0))], hO, .inr ⟨g, r, rfl, rfl, hl, hc, hn, hm⟩⟩
theorem Parked.take (h : Parked N e sz p n cap vs) (hO : OwB w0 (N ++ L) w) : BldV w0 L e sz w p n cap vs := by
  rcases h with ⟨rfl, rfl, rfl, rfl, rfl⟩ | ⟨g, r, rfl, rfl, hl, hc, hn, hm⟩
  · exact BldV.nil hO
  · exact BldV.of hO hl hc hn hm
theorem Parked.nil (e sz : Nat) : Parked [] e sz none 0 0 [] := .inl ⟨rfl, rfl, rfl, rfl, rfl⟩
end
section
variable {w0 w w1 w' : World} {L New : List (Nat × Obj)} {e e' sz : Nat} {p p' : Option Addr} {n cap n' cap' : Nat} {vs : List Value} {k : IntKind} {l : List Int}
/-- A row that a callee has made joins the call's own blocks; it reads as it does as long as these stand. -/
theorem OwB.join (h : OwB w0 L w) (B : Bld w [] k e' w1 p' n' cap' l) :
    ∃ M, OwB w0 (M ++ L) w1 ∧ (∀ x ∈ M, ∃ cs fr, x.2 = .cells cs e' fr) ∧ ∀ w', Has M w' → Sl k w' p' n' cap' l := by
  have hl := B.len
  rcases B.row.2 with ⟨hv, h0⟩ | ⟨g, c, cur, hv, _, hg, hnc, hcm, hcs, ht⟩
  · simp only [Value.slice.injEq] at hv
    obtain ⟨rfl, _, rfl⟩ := hv
    exact ⟨[], h.call B.own.fr, by simp, fun w' _ => ⟨hl, by omega, .inl h0, fun _ => rfl, by simp⟩⟩
  · simp only [Value.slice.injEq] at hv
    obtain ⟨rfl, _, rfl⟩ := hv
    refine ⟨[(g, .cells cur e' (0, 0))], (h.call B.own.fr).room (by rw [World.blk_heap]; exact hg) (h.fresh (B.new g rfl).1) (Nat.le_trans h.fr.size (B.new g rfl).1), fun x hx => ?_, fun w' hw' => ?_⟩
    · simp only [List.mem_singleton] at hx
      subst hx
      exact ⟨_, _, rfl⟩
    · refine Sl.of (hw'.nth 0 rfl) (by rw [hcs]; omega) ?_ hnc
      rw [Array.toList_extract, List.extract_eq_take_drop]
      simpa using ht
/-- Blocks that are new since an older world, beside those that were there. -/
theorem OwB.merge (h : OwB w0 L w) (O : OwB w New w') : OwB w0 (New ++ L) w' := by
  refine ⟨fun q hq => ?_, ?_, fun q hq => ?_, h.fr.trans O.fr⟩
  · rcases List.mem_append.1 hq with hq | hq
    · exact O.has q hq
    · exact O.fr.get (h.has q hq) (by simp)
  · rw [List.map_append, List.nodup_append]
    refine ⟨O.nd, h.nd, fun a ha b hb e => ?_⟩
    subst e
    obtain ⟨q, hq, rfl⟩ := List.mem_map.1 ha
    have h1 := O.lo q hq
    obtain ⟨u, hu, he⟩ := List.mem_map.1 hb
    have h2 := World.at_lt (h.has u hu)
    omega
  · rcases List.mem_append.1 hq with hq | hq
    · exact Nat.le_trans h.fr.size (O.lo q hq)
    · exact h.lo q hq
theorem BldV.merge (h : BldV w0 L e sz w p n cap vs) (O : OwB w New w') : BldV w0 (New ++ L) e sz w' p n cap vs := by
  refine ⟨h.own.merge O, O.fr.owns h.row fun _ _ => by simp, fun g hg => ⟨(h.new g hg).1, fun hm => ?_⟩⟩
  rw [List.map_append, List.mem_append] at hm
  rcases hm with hm | hm
  · obtain ⟨q, hq, rfl⟩ := List.mem_map.1 hm
    have := O.lo q hq
    have := h.block_lt hg
    omega
  · exact (h.new g hg).2 hm
end
section
variable {P : Program} {w w0 : World} {A B : List (Nat × Obj)} {b e sz : Nat} {o o' : Obj} {p : Option Addr} {n cap : Nat} {vs : List Value} {kvs : List (ByteArray × Value)} {t kt et : TypeId}
/-- A new key in a map by texts. -/
theorem run_mapAdd {es : Array MapEntry} {clock : Nat} (hb : w.blk b = some (.map es clock)) (he : es.toList.map (fun e => (e.key, e.val)) = kvs.map fun p => (Value.string p.1, p.2)) (ht : P.underlying t = some (.map kt et)) (hk : P.underlying kt = some .string) (k : ByteArray) (v : Value) (hn : findS k kvs 0 = none) :
    (Instr.mapUpdate t (.map (some b)) (.string k) v).run P w = .ok () (w.put b (.map (es.push { key := .string k, val := v, born := clock }) (clock + 1))) := by
  have hf := findNow_str k es.toList kvs 0 he
  have hc : ∀ em, (Instr.checkKey em 10000 kt (.string k)).run P w = .ok () w := fun em => MapKept.run_checkKey hk (by simp [MapKept.IsKey]) em 9999
  rw [hn] at hf
  simp [Instr.mapUpdate, run_underlying ht, MapKept.run_getObj_map hb, hc, Instr.findKey, run_underlying hk, hf, MapKept.run_setObj_map _ hb, Result.andThen, Sem.run_pure, World.put]
theorem BldV.set_mid (h : BldV w0 (A ++ (b, o) :: B) e sz w p n cap vs) (o' : Obj) : BldV w0 (A ++ (b, o') :: B) e sz (w.put b o') p n cap vs := by
  have := h.set A.length o' (by rw [List.getElem?_append_right (Nat.le_refl _), Nat.sub_self]; rfl)
  rwa [List.set_append_right _ _ (Nat.le_refl _), Nat.sub_self] at this
end
end Go
