/- Joined: GnF, KdL, KdA, KdB, KdC, KdD, KdE, KdF, KdH, KeC, StA, StD. -/
import Derived.Test.YtombhkekocbfoaaZc
import Derived.Laws.BytesString
import Derived.MapKept
import GoSem.Core.World
import Derived.Test.YtombhkekocbfoaaZd
import Derived.Test.YtombhkekocbfoaaChecked
import Derived.Laws.BitsAllLaws
import Derived.Test.YtombhkekocbfoaaZa
set_option linter.unusedVariables false
set_option linter.unusedSimpArgs false
namespace Go
open Go.Dr

/-! ### Texts -/
def strB (l : List Int) : ByteArray := ⟨(l.map fun n => UInt8.ofNat n.toNat).toArray⟩
theorem strB_fold (l : List Int) : ∀ s : ByteArray, l.foldl (fun r n => r.push (UInt8.ofNat n.toNat)) s = ⟨s.data ++ (l.map fun n => UInt8.ofNat n.toNat).toArray⟩ := by
  induction l with
  | nil => intro s; simp
  | cons x l ih =>
    intro s
    rw [List.foldl_cons, ih]
    congr 1
    apply Array.ext'
    simp [ByteArray.push]
theorem strB_nil : strB [] = ByteArray.empty := rfl
def isBytes (l : List Int) : Prop := ∀ x ∈ l, 0 ≤ x ∧ x < 256
theorem strB_inj : ∀ {a b : List Int}, isBytes a → isBytes b → strB a = strB b → a = b := by
  intro a b ha hb h
  have h1 : (a.map fun n => UInt8.ofNat n.toNat) = b.map fun n => UInt8.ofNat n.toNat := by
    have := congrArg (fun s : ByteArray => s.data.toList) h
    simpa [strB] using this
  clear h
  induction a generalizing b with
  | nil => cases b with
    | nil => rfl
    | cons y b => simp at h1
  | cons x a ih => cases b with
    | nil => simp at h1
    | cons y b =>
      simp only [List.map_cons, List.cons.injEq] at h1
      have hx := ha x (by simp)
      have hy := hb y (by simp)
      have h2 := congrArg UInt8.toNat h1.1
      simp only [UInt8.toNat_ofNat'] at h2
      rw [ih (fun z hz => ha z (by simp [hz])) (fun z hz => hb z (by simp [hz])) h1.2]
      congr 1
      omega
theorem Sl.toStr {P : Program} {w : World} {p : Option Addr} {n cap : Nat} {l : List Int} (h : Sl .u8 w p n cap l) : (Conv.bytesToString (.slice p n cap)).run P w = .ok (.string (strB l)) w := by
  cases p with
  | none =>
    have h0 := h.nil rfl
    have h1 := h.cap_
    have hl : l = [] := List.eq_nil_of_length_eq_zero (by rw [h.len]; omega)
    subst hl
    simp [Conv.bytesToString, Sem.run_pure, strB_nil]
  | some a =>
    have hn : (l.map (Value.int .u8)).length = n := by rw [List.length_map, h.len]
    have hl : (loadCells a n).run P w = .ok (l.map (Value.int .u8)).toArray w := by
      have := run_loadCells_list (P := P) w a (l.map (Value.int .u8)) fun j u hu => by
        have hj : j < n := by have := (List.getElem?_eq_some_iff.1 hu).1; rw [hn] at this; exact this
        obtain ⟨b, off, cs, T, fr, hp, hb, hs, hx⟩ := h.out (by omega)
        simp only [Option.some.injEq] at hp
        subst hp
        rw [Addr.add_mid, World.cell?_at, hb]
        rw [← hx, Array.getElem?_toList, Array.getElem?_extract_of_lt (by omega)] at hu
        show cs[off + j]? = some u
        rw [Array.getElem?_eq_getElem (by omega)]; exact hu
      rw [hn] at this
      exact this
    rw [run_bytesToString w a n cap l hl, strB_fold]
    congr 3
    apply Array.ext'
    rw [Array.toList_append]
    rfl

/-! ### A map by texts -/
structure MapS (w : World) (b : Nat) (kvs : List (ByteArray × Value)) : Prop where
  ex : ∃ es clock, w.blk b = some (.map es clock) ∧ es.toList.map (fun e => (e.key, e.val)) = kvs.map fun p => (Value.string p.1, p.2)
theorem MapS.made (w : World) : MapS (w.alloc (.map #[] 0)) w.heap.size [] := ⟨#[], 0, World.at_alloc_new _ _ _ rfl, rfl⟩
theorem MapS.fr {w w' : World} {b : Nat} {kvs : List (ByteArray × Value)} {fp : List Nat} (h : MapS w b kvs) (F : Fr fp w w') (hn : b ∉ fp) : MapS w' b kvs := by
  obtain ⟨es, clock, hb, he⟩ := h.ex
  exact ⟨es, clock, F.get hb hn, he⟩
def findS (k : ByteArray) : List (ByteArray × Value) → Nat → Option (Nat × Value)
  | [], _ => none
  | p :: l, i => if k = p.1 then some (i, p.2) else findS k l (i + 1)
theorem beqB (a b : ByteArray) : (a == b) = decide (a = b) := by
  cases a with
  | mk x => cases b with
    | mk y =>
      show (x == y) = _
      rw [Bool.eq_iff_iff]
      simp
theorem findNow_str (k : ByteArray) : ∀ (es : List MapEntry) (kvs : List (ByteArray × Value)) (i : Nat), es.map (fun e => (e.key, e.val)) = kvs.map (fun p => (Value.string p.1, p.2)) →
    Instr.findNow .string (.string k) es i = some (findS k kvs i) := by
  intro es
  induction es with
  | nil => intro kvs i h; cases kvs with
    | nil => rfl
    | cons p l => simp at h
  | cons e es ih => intro kvs i h; cases kvs with
    | nil => simp at h
    | cons p l =>
      simp only [List.map_cons, List.cons.injEq, Prod.mk.injEq] at h
      obtain ⟨⟨h1, h2⟩, h3⟩ := h
      unfold Instr.findNow findS
      rw [h1]
      simp only [Instr.sameNow]
      rw [beqB]
      by_cases hk : k = p.1
      · rw [decide_eq_true hk, if_pos hk, h2]
      · rw [decide_eq_false hk, if_neg hk]
        exact ih l (i + 1) h3
section
variable {P : Program} {w : World} {b : Nat} {kvs : List (ByteArray × Value)} {t kt et : TypeId} {z : Value}
theorem MapS.look (h : MapS w b kvs) (ht : P.underlying t = some (.map kt et)) (hk : P.underlying kt = some .string) (hz : (zeroValue et).run P w = .ok z w) (k : ByteArray) (ok : Bool) :
    (Instr.lookup t (.map (some b)) (.string k) ok).run P w =
      .ok (if ok then .tuple #[((findS k kvs 0).map Prod.snd).getD z, .bool (findS k kvs 0).isSome] else ((findS k kvs 0).map Prod.snd).getD z) w := by
  obtain ⟨es, clock, hb, he⟩ := h.ex
  have hf := findNow_str k es.toList kvs 0 he
  have hc : ∀ em, (Instr.checkKey em 10000 kt (.string k)).run P w = .ok () w := fun em => MapKept.run_checkKey hk (by simp [MapKept.IsKey]) em 9999
  cases hr : findS k kvs 0 with
  | none => rw [hr] at hf; simp [Instr.lookup, run_underlying ht, MapKept.run_getObj_map hb, hc, Instr.findKey, run_underlying hk, hf, hz, Result.andThen, Sem.run_pure]
  | some q => rw [hr] at hf; simp [Instr.lookup, run_underlying ht, MapKept.run_getObj_map hb, hc, Instr.findKey, run_underlying hk, hf, Result.andThen, Sem.run_pure]
theorem MapS.add (h : MapS w b kvs) (ht : P.underlying t = some (.map kt et)) (hk : P.underlying kt = some .string) (k : ByteArray) (v : Value) (hn : findS k kvs 0 = none) :
    ∃ w', (Instr.mapUpdate t (.map (some b)) (.string k) v).run P w = .ok () w' ∧ MapS w' b (kvs ++ [(k, v)]) ∧ Fr [b] w w' := by
  obtain ⟨es, clock, hb, he⟩ := h.ex
  have hf := findNow_str k es.toList kvs 0 he
  have hc : ∀ em, (Instr.checkKey em 10000 kt (.string k)).run P w = .ok () w := fun em => MapKept.run_checkKey hk (by simp [MapKept.IsKey]) em 9999
  rw [hn] at hf
  refine ⟨w.put b (.map (es.push { key := .string k, val := v, born := clock }) (clock + 1)), ?_, ⟨_, _, World.at_put_same _ _ _ (World.at_lt hb), ?_⟩, (Fr.refl [b] w).put _ _ (by simp)⟩
  · simp [Instr.mapUpdate, run_underlying ht, MapKept.run_getObj_map hb, hc, Instr.findKey, run_underlying hk, hf, MapKept.run_setObj_map _ hb, Result.andThen, Sem.run_pure, World.put]
  · simp [he]
end

/-! ### A slice of slices of bytes -/
structure Sll (w : World) (p : Option Addr) (n cap : Nat) (ls : List (List Int)) : Prop where
  ex : ∃ vs : List Value, Sv 1 w p n cap vs ∧ vs.length = ls.length ∧ ∀ (j : Nat) (l : List Int), ls[j]? = some l → ∃ (q : Option Addr) (m c : Nat), vs[j]? = some (Value.slice q m c) ∧ Sl .u8 w q m c l
theorem Sll.fr0 {w w' : World} {p : Option Addr} {n cap : Nat} {ls : List (List Int)} (h : Sll w p n cap ls) (F : Fr [] w w') : Sll w' p n cap ls := by
  obtain ⟨vs, h1, h2, h3⟩ := h.ex
  exact ⟨vs, h1.fr0 F, h2, fun j l hj => by obtain ⟨q, m, c, h4, h5⟩ := h3 j l hj; exact ⟨q, m, c, h4, h5.fr0 F⟩⟩
theorem Sll.len {w : World} {p : Option Addr} {n cap : Nat} {ls : List (List Int)} (h : Sll w p n cap ls) : ls.length = n := by
  obtain ⟨vs, h1, h2, _⟩ := h.ex
  rw [← h2, h1.len, Nat.mul_one]
theorem Sll.at {w : World} {p : Option Addr} {n cap : Nat} {ls : List (List Int)} (h : Sll w p n cap ls) {j : Nat} (hj : j < n) :
    ∃ (b off : Nat) (cs : Array Value) (T : TypeId) (fr : Nat × Nat) (q : Option Addr) (m c : Nat) (l : List Int), p = some ⟨b, off, none⟩ ∧ w.blk b = some (.cells cs T fr) ∧ off + j < cs.size ∧ cs[off + j]? = some (Value.slice q m c) ∧ ls[j]? = some l ∧ Sl .u8 w q m c l := by
  have hl := h.len
  obtain ⟨vs, h1, h2, h3⟩ := h.ex
  obtain ⟨b, off, cs, T, fr, hp, hb, hs, hat⟩ := h1.at1 hj (by omega)
  obtain ⟨q, m, c, h4, h5⟩ := h3 j ls[j] (List.getElem?_eq_getElem (by omega))
  refine ⟨b, off, cs, T, fr, q, m, c, ls[j], hp, hb, hs, ?_, List.getElem?_eq_getElem (by omega), h5⟩
  rw [hat, ← h4, List.getElem?_eq_getElem (by omega)]

/-! ### Rows that join the call's own blocks -/
theorem Bld.lift {w0 w w' : World} {L : List (Nat × Obj)} {k : IntKind} {e : Nat} {p : Option Addr} {n cap : Nat} {l : List Int} (h : Bld w [] k e w' p n cap l) (hV : OwB w0 L w) : Bld w0 L k e w' p n cap l :=
  ⟨hV.call h.own.fr, h.row, fun g hg => ⟨Nat.le_trans hV.fr.size (h.new g hg).1, fun hm => by
    obtain ⟨q, hq, rfl⟩ := List.mem_map.1 hm
    have h1 := World.at_lt (hV.has q hq)
    have h2 := (h.new q.1 hg).1
    omega⟩⟩

section
variable {w0 w w' : World} {L : List (Nat × Obj)} {e sz : Nat} {p : Option Addr} {n cap : Nat} {vs : List Value}
theorem BldV.block_lt (h : BldV w0 L e sz w p n cap vs) {g : Nat} (hg : p.map (·.block) = some g) : g < w.heap.size := by
  rcases h.row.2 with ⟨hv, _⟩ | ⟨g', c, cur, hv, _, hb, _⟩
  · simp only [Value.slice.injEq] at hv
    rw [hv.1] at hg; cases hg
  · simp only [Value.slice.injEq] at hv
    rw [hv.1] at hg
    simp only [Option.map_some, Option.some.injEq] at hg
    subst hg
    exact World.at_lt (by rw [World.blk_heap]; exact hb)
theorem Sv.one {b : Nat} {v : Value} {T : TypeId} {fr : Nat × Nat} (hb : w.blk b = some (.cells #[v] T fr)) : Sv 1 w (some ⟨b, 0, none⟩) 1 1 [v] :=
  ⟨rfl, Nat.le_refl 1, .inr ⟨b, 0, #[v], T, fr, rfl, hb, by simp, by simp⟩, (fun h => by cases h), trivial⟩
/-- A block that a callee has made. -/
theorem BldV.add (h : BldV w0 L e sz w p n cap vs) (F : Fr [] w w') {b : Nat} {o : Obj} (hb : w'.blk b = some o) (hn : w.heap.size ≤ b) : BldV w0 ((b, o) :: L) e sz w' p n cap vs := by
  have h2 := h.call F
  refine ⟨h2.own.room hb (fun hm => ?_) (Nat.le_trans h.own.fr.size hn), h2.row, fun g hg => ⟨(h2.new g hg).1, fun hm => ?_⟩⟩
  · obtain ⟨q, hq, rfl⟩ := List.mem_map.1 hm
    have := World.at_lt (h.own.has q hq)
    omega
  · rw [List.map_cons, List.mem_cons] at hm
    rcases hm with rfl | hm
    · have := h.block_lt hg; omega
    · exact (h2.new g hg).2 hm
theorem BldV.set (h : BldV w0 L e sz w p n cap vs) {b : Nat} {o : Obj} (i : Nat) (o' : Obj) (hi : L[i]? = some (b, o)) : BldV w0 (L.set i (b, o')) e sz (w.put b o') p n cap vs := by
  have hm : (L.set i (b, o')).map Prod.fst = L.map Prod.fst := by
    apply List.ext_getElem?
    intro j
    rw [List.getElem?_map, List.getElem?_map, List.getElem?_set]
    by_cases hij : i = j
    · subst hij
      rw [if_pos rfl, hi]
      split
      · rfl
      · rename_i hlt
        rw [List.getElem?_eq_none (by omega)] at hi
        cases hi
    · rw [if_neg hij]
  refine ⟨h.own.set i o' hi, ((Fr.refl [b] w).put b o' (by simp)).owns h.row (fun g hg hgb => ?_), fun g hg => ⟨(h.new g hg).1, ?_⟩⟩
  · rw [List.mem_singleton] at hgb
    subst hgb
    have hg2 : p.map (·.block) = some g := by
      cases p with
      | none => cases hg
      | some q => simpa [Value.ownBlock] using hg
    exact (h.new g hg2).2 (List.mem_map.2 ⟨_, List.mem_of_getElem? hi, rfl⟩)
  · rw [hm]; exact (h.new g hg).2
end

section
variable {w0 w : World} {L : List (Nat × Obj)}
theorem OwB.swap {x y : Nat × Obj} (h : OwB w0 (x :: y :: L) w) : OwB w0 (y :: x :: L) w :=
  ⟨fun q hq => h.has q (by simp only [List.mem_cons] at hq ⊢; exact or_left_comm.1 hq), by
    have := h.nd
    simp only [List.map_cons, List.nodup_cons, List.mem_cons, not_or] at this ⊢
    exact ⟨⟨fun e => this.1.1 e.symm, this.2.1⟩, this.1.2, this.2.2⟩, fun q hq => h.lo q (by simp only [List.mem_cons] at hq ⊢; exact or_left_comm.1 hq), h.fr⟩
/-- A slice of slices, piece by piece. -/
inductive Sls (w : World) : List Value → List (List Int) → Prop
  | nil : Sls w [] []
  | cons {q : Option Addr} {m c : Nat} {l : List Int} {vs : List Value} {ls : List (List Int)} (h : Sl .u8 w q m c l) (hs : Sls w vs ls) : Sls w (.slice q m c :: vs) (l :: ls)
theorem Sls.len {vs : List Value} {ls : List (List Int)} (h : Sls w vs ls) : vs.length = ls.length := by
  induction h with
  | nil => rfl
  | cons h hs ih => rw [List.length_cons, List.length_cons, ih]
theorem Sls.at {vs : List Value} {ls : List (List Int)} (h : Sls w vs ls) : ∀ (j : Nat) (l : List Int), ls[j]? = some l → ∃ (q : Option Addr) (m c : Nat), vs[j]? = some (Value.slice q m c) ∧ Sl .u8 w q m c l := by
  induction h with
  | nil => intro j l hj; simp at hj
  | cons h hs ih =>
    intro j l hj
    cases j with
    | zero => simp at hj; subst hj; exact ⟨_, _, _, rfl, h⟩
    | succ j => simpa using ih j l (by simpa using hj)
theorem Sls.append {vs us : List Value} {ls ms : List (List Int)} (h : Sls w vs ls) (k : Sls w us ms) : Sls w (vs ++ us) (ls ++ ms) := by
  induction h with
  | nil => exact k
  | cons h hs ih => exact .cons h ih
theorem Sll.of {p : Option Addr} {n cap : Nat} {vs : List Value} {ls : List (List Int)} (S : Sv 1 w p n cap vs) (h : Sls w vs ls) : Sll w p n cap ls := ⟨vs, S, h.len, h.at⟩
theorem Sl.whole {b : Nat} {A : List Int} {T : TypeId} {fr : Nat × Nat} {k : IntKind} {n : Nat} (hb : w.blk b = some (.cells (ints k A) T fr)) (hn : A.length = n) : Sl k w (some ⟨b, 0, none⟩) n n A :=
  Sl.ofInts hb (by omega) (by rw [List.drop_zero, List.take_of_length_le (by omega)]) (Nat.le_refl _)
end
/-- A world gets a name. -/
theorem named_world {A Q : World → Prop} {V : World} (h : A V) (k : ∀ V', A V' → Q V') : Q V := k V h
section
variable {w0 w : World} {L A B N : List (Nat × Obj)} {e sz : Nat} {p : Option Addr} {n cap : Nat} {vs : List Value} {b : Nat} {o o' : Obj}
theorem BldV.sub {L' : List (Nat × Obj)} (h : BldV w0 L e sz w p n cap vs) (hs : L'.Sublist L) : BldV w0 L' e sz w p n cap vs :=
  ⟨h.own.sub hs, h.row, fun g hg => ⟨(h.new g hg).1, fun hm => (h.new g hg).2 ((hs.map Prod.fst).subset hm)⟩⟩
theorem OwB.mem (h : OwB w0 L w) (hm : (b, o) ∈ L) : w.blk b = some o := h.has (b, o) hm
theorem OwB.set_mid (h : OwB w0 (A ++ (b, o) :: B) w) (o' : Obj) : OwB w0 (A ++ (b, o') :: B) (w.put b o') := by
  have := h.set A.length o' (by rw [List.getElem?_append_right (Nat.le_refl _), Nat.sub_self]; rfl)
  rwa [List.set_append_right _ _ (Nat.le_refl _), Nat.sub_self] at this
/-- A growing row among the blocks: none yet, or one block. -/
def Parked (N : List (Nat × Obj)) (e sz : Nat) (p : Option Addr) (n cap : Nat) (vs : List Value) : Prop :=
  (N = [] ∧ p = none ∧ n = 0 ∧ cap = 0 ∧ vs = []) ∨ ∃ (g : Nat) (r : Array Value), N = [(g, .cells (rowV vs r) e (0, 0))] ∧ p = some ⟨g, 0, none⟩ ∧ vs.length = n * sz ∧ cap * sz = vs.length + r.size ∧ n ≤ cap ∧ cap ≤ maxLen
theorem BldV.park (h : BldV w0 L e sz w p n cap vs) : ∃ N, OwB w0 (N ++ L) w ∧ Parked N e sz p n cap vs := by
  have hl := h.len
  rcases h.row.2 with ⟨hv, h0⟩ | ⟨g, c, cur, hv, _⟩
  · simp only [Value.slice.injEq] at hv
    obtain ⟨rfl, _, rfl⟩ := hv
    subst h0
    exact ⟨[], h.own, .inl ⟨rfl, rfl, rfl, rfl, List.eq_nil_of_length_eq_zero (by simpa using hl)⟩⟩
  · simp only [Value.slice.injEq] at hv
    obtain ⟨rfl, _, _⟩ := hv
    obtain ⟨r, hO, hc, hn, hm⟩ := h.room
    exact ⟨[(g, .cells (rowV vs r) e (0, 0))], hO, .inr ⟨g, r, rfl, rfl, hl, hc, hn, hm⟩⟩
theorem Parked.take (h : Parked N e sz p n cap vs) (hO : OwB w0 (N ++ L) w) : BldV w0 L e sz w p n cap vs := by
  rcases h with ⟨rfl, rfl, rfl, rfl, rfl⟩ | ⟨g, r, rfl, rfl, hl, hc, hn, hm⟩
  · exact BldV.nil hO
  · exact BldV.of hO hl hc hn hm
theorem Parked.nil (e sz : Nat) : Parked [] e sz none 0 0 [] := .inl ⟨rfl, rfl, rfl, rfl, rfl⟩
end
section
variable {w0 w w1 w' : World} {L New : List (Nat × Obj)} {e e' sz : Nat} {p p' : Option Addr} {n cap n' cap' : Nat} {vs : List Value} {k : IntKind} {l : List Int}
/-- A row that a callee has made joins the call's own blocks; it reads as it does as long as these stand. -/
theorem OwB.join (h : OwB w0 L w) (B : Bld w [] k e' w1 p' n' cap' l) :
    ∃ M, OwB w0 (M ++ L) w1 ∧ (∀ x ∈ M, ∃ cs fr, x.2 = .cells cs e' fr) ∧ ∀ w', Has M w' → Sl k w' p' n' cap' l := by
  have hl := B.len
  rcases B.row.2 with ⟨hv, h0⟩ | ⟨g, c, cur, hv, _, hg, hnc, hcm, hcs, ht⟩
  · simp only [Value.slice.injEq] at hv
    obtain ⟨rfl, _, rfl⟩ := hv
    exact ⟨[], h.call B.own.fr, by simp, fun w' _ => ⟨hl, by omega, .inl h0, fun _ => rfl, by simp⟩⟩
  · simp only [Value.slice.injEq] at hv
    obtain ⟨rfl, _, rfl⟩ := hv
    refine ⟨[(g, .cells cur e' (0, 0))], (h.call B.own.fr).room (by rw [World.blk_heap]; exact hg) (h.fresh (B.new g rfl).1) (Nat.le_trans h.fr.size (B.new g rfl).1), fun x hx => ?_, fun w' hw' => ?_⟩
    · simp only [List.mem_singleton] at hx
      subst hx
      exact ⟨_, _, rfl⟩
    · refine Sl.of (hw'.nth 0 rfl) (by rw [hcs]; omega) ?_ hnc
      rw [Array.toList_extract, List.extract_eq_take_drop]
      simpa using ht
/-- Blocks that are new since an older world, beside those that were there. -/
theorem OwB.merge (h : OwB w0 L w) (O : OwB w New w') : OwB w0 (New ++ L) w' := by
  refine ⟨fun q hq => ?_, ?_, fun q hq => ?_, h.fr.trans O.fr⟩
  · rcases List.mem_append.1 hq with hq | hq
    · exact O.has q hq
    · exact O.fr.get (h.has q hq) (by simp)
  · rw [List.map_append, List.nodup_append]
    refine ⟨O.nd, h.nd, fun a ha b hb e => ?_⟩
    subst e
    obtain ⟨q, hq, rfl⟩ := List.mem_map.1 ha
    have h1 := O.lo q hq
    obtain ⟨u, hu, he⟩ := List.mem_map.1 hb
    have h2 := World.at_lt (h.has u hu)
    omega
  · rcases List.mem_append.1 hq with hq | hq
    · exact Nat.le_trans h.fr.size (O.lo q hq)
    · exact h.lo q hq
theorem BldV.merge (h : BldV w0 L e sz w p n cap vs) (O : OwB w New w') : BldV w0 (New ++ L) e sz w' p n cap vs := by
  refine ⟨h.own.merge O, O.fr.owns h.row fun _ _ => by simp, fun g hg => ⟨(h.new g hg).1, fun hm => ?_⟩⟩
  rw [List.map_append, List.mem_append] at hm
  rcases hm with hm | hm
  · obtain ⟨q, hq, rfl⟩ := List.mem_map.1 hm
    have := O.lo q hq
    have := h.block_lt hg
    omega
  · exact (h.new g hg).2 hm
end
section
variable {P : Program} {w w0 : World} {A B : List (Nat × Obj)} {b e sz : Nat} {o o' : Obj} {p : Option Addr} {n cap : Nat} {vs : List Value} {kvs : List (ByteArray × Value)} {t kt et : TypeId}
/-- A new key in a map by texts. -/
theorem run_mapAdd {es : Array MapEntry} {clock : Nat} (hb : w.blk b = some (.map es clock)) (he : es.toList.map (fun e => (e.key, e.val)) = kvs.map fun p => (Value.string p.1, p.2)) (ht : P.underlying t = some (.map kt et)) (hk : P.underlying kt = some .string) (k : ByteArray) (v : Value) (hn : findS k kvs 0 = none) :
    (Instr.mapUpdate t (.map (some b)) (.string k) v).run P w = .ok () (w.put b (.map (es.push { key := .string k, val := v, born := clock }) (clock + 1))) := by
  have hf := findNow_str k es.toList kvs 0 he
  have hc : ∀ em, (Instr.checkKey em 10000 kt (.string k)).run P w = .ok () w := fun em => MapKept.run_checkKey hk (by simp [MapKept.IsKey]) em 9999
  rw [hn] at hf
  simp [Instr.mapUpdate, run_underlying ht, MapKept.run_getObj_map hb, hc, Instr.findKey, run_underlying hk, hf, MapKept.run_setObj_map _ hb, Result.andThen, Sem.run_pure, World.put]
theorem BldV.set_mid (h : BldV w0 (A ++ (b, o) :: B) e sz w p n cap vs) (o' : Obj) : BldV w0 (A ++ (b, o') :: B) e sz (w.put b o') p n cap vs := by
  have := h.set A.length o' (by rw [List.getElem?_append_right (Nat.le_refl _), Nat.sub_self]; rfl)
  rwa [List.set_append_right _ _ (Nat.le_refl _), Nat.sub_self] at this
end
end Go
namespace Go.Kd

/-! ### Bytes -/
abbrev Bs := List Int
def putB (n size : Nat) : Bs := (List.range size).map fun i => ((n / 256 ^ (size - 1 - i) % 256 : Nat) : Int)
def getB (l : Bs) : Nat := l.foldl (fun n c => n * 256 + c.toNat) 0
def fits (ps : List Bs) : Bool := decide (ps.length ≤ 64) && ps.all fun p => decide (p.length ≤ 4096)
def joinB (ps : List Bs) : Bs := (ps.length : Int) :: ps.flatMap fun p => ((p.length / 256 : Nat) : Int) :: ((p.length % 256 : Nat) : Int) :: p
def zeros (n : Nat) : Bs := List.replicate n 0

/-! ### Terms -/
abbrev Tm := Int × List Bs
def nameB (n : Nat) : Bs := [116, 101, 114, 109] ++ (putB n 4 ++ zeros 24)
def numB (b : Bs) (most : Nat) : Nat :=
  if b.length < 32 then 0
  else if getB ((b.drop 4).take 4) < 1 ∨ most < getB ((b.drop 4).take 4) ∨ b.take 32 ≠ nameB (getB ((b.drop 4).take 4)) then 0
  else getB ((b.drop 4).take 4)
def txt (t : Tm) : Bs := joinB t.2 ++ [t.1]
def makeT (T : List Tm) (t : Tm) : List Tm × Bs × Bool :=
  if fits t.2 = false ∨ t.1 < 1 ∨ 8 < t.1 then (T, zeros 32, false)
  else match T.findIdx? (fun u => txt u == txt t) with
    | some i => (T, nameB (i + 1), true)
    | none => if 65535 ≤ T.length then (T, zeros 32, false) else (T ++ [t], nameB (T.length + 1), true)
def ofT (T : List Tm) (k : Bs) : Option Tm := if numB k T.length = 0 then none else T[numB k T.length - 1]?

/-! ### The free suite -/
def signF (T : List Tm) (secret text : Bs) : List Tm × Bs :=
  if 4096 < text.length then (T, zeros 64) else ((makeT T (6, [secret, text])).1, (makeT T (6, [secret, text])).2.1 ++ zeros 32)
def verifyF (T : List Tm) (signer text sig : Bs) : Bool :=
  if 4096 < text.length then false
  else match ofT T (sig.take 32) with
    | some (6, [a, b]) => decide (sig.drop 32 = zeros 32) && decide (b = text) && (match ofT T signer with | some (5, [c]) => decide (c = a) | _ => false)
    | _ => false

/-! ### Objects -/
structure Ob where
  server : Int
  n : Int
  key : Bs
  frm : Int
  til : Int
  sig : Bs
  vs : List (Int × Bs)
def objText (x : Ob) : Bs := joinB [[107, 101, 121], putB x.server.toNat 1, putB x.n.toNat 1, x.key, putB x.frm.toNat 4, putB x.til.toNat 4]
def vouchText (x : Ob) (notary : Int) : Bs := joinB [[118, 111, 117, 99, 104], [notary], objText x]
/-- Which notaries' vouches count. -/
def vouchers (T : List Tm) (first : List Bs) (x : Ob) : List Int :=
  ((x.vs.filter fun v => decide (v.1 < 4) && decide (v.1 ≠ x.server) && decide (first.getD v.1.toNat [] ≠ zeros 32) && verifyF T (first.getD v.1.toNat []) (vouchText x v.1) v.2).map Prod.fst).eraseDups
/-- The first key that doesn't follow: none; or the last key. -/
def chainF (T : List Tm) (first : List Bs) (need : Nat) (server : Int) : List Ob → Nat → Bs → Option Bs
  | [], _, key => some key
  | x :: l, i, key =>
    if x.server ≠ server ∨ x.n ≠ (i : Int) + 1 ∨ verifyF T key (objText x) x.sig = false ∨ (vouchers T first x).length < need then none
    else chainF T first need server l (i + 1) x.key
def checkF (T : List Tm) (first : List Bs) (highest : List Int) (need : Nat) (server : Int) (chain : List Ob) (now : Int) : Bs × Int × Int :=
  if 4 ≤ server ∨ 4 < chain.length then (zeros 32, 0, 200)
  else match chainF T first need server chain 0 (first.getD server.toNat []) with
    | none => (zeros 32, 0, 200)
    | some key =>
      if (chain.length : Int) < highest.getD server.toNat 0 then (zeros 32, 0, 210)
      else match chain.getLast? with
        | some x => if now < x.frm ∨ x.til ≤ now then (zeros 32, 0, 201) else (key, chain.length, 0)
        | none => (key, chain.length, 0)

/-! ### The examples -/
def key1 (n : Int) : Bs := n :: zeros 31
def ali1 : List Tm × Bs × Bool := makeT [] (5, [key1 1])
def ali2 : List Tm × Bs × Bool := makeT ali1.1 (5, [key1 2])
def aliX : Ob := ⟨0, 1, key1 9, 5, 7, zeros 64, []⟩
def ali3 : List Tm × Bs := signF ali2.1 (key1 1) (objText aliX)
def aliY : Ob := { aliX with sig := ali3.2 }
def aliC : List Bs := [ali1.2.1, ali2.2.1, zeros 32, zeros 32]
theorem alive_one : checkF ali3.1 aliC [0, 0, 0, 0] 0 0 [] 0 = (ali1.2.1, 0, 0) := by decide
theorem alive_two : (checkF ali3.1 aliC [0, 0, 0, 0] 0 0 [aliY] 4).2.2 = 201 := by decide
theorem alive_three : checkF ali3.1 aliC [0, 0, 0, 0] 0 0 [aliY] 5 = (key1 9, 1, 0) := by decide
theorem alive_four : (checkF ali3.1 aliC [0, 0, 0, 0] 0 1 [aliY] 5).2.2 = 200 := by decide

/-! ### KeydirFree -/
def free1 : List Tm × Bs × Bool := makeT [] (1, [key1 200])
def free2 (by_ : Bs) : List Tm × Bs × Bool := makeT free1.1 (1, [by_])
def free3 (by_ : Bs) : List Tm × Bs × Bool := makeT (free2 by_).1 (5, [free1.2.1])
def free4 (by_ : Bs) (x : Ob) : List Tm × Bs := signF (free3 by_).1 (free2 by_).2.1 (objText x)
def freeC (by_ : Bs) : List Bs := [(free3 by_).2.1, zeros 32, zeros 32, zeros 32]
def freeE (by_ : Bs) (x : Ob) (now : Int) : Int := (checkF (free4 by_ x).1 (freeC by_) [0, 0, 0, 0] 0 0 [{ x with sig := (free4 by_ x).2 }] now).2.2
theorem putB_length (n size : Nat) : (putB n size).length = size := by simp [putB]
theorem objText_length (x : Ob) (h : x.key.length = 32) : (objText x).length = 58 := by
  simp [objText, joinB, h, putB_length]
theorem free2_same : free2 (key1 200) = (free1.1, free1.2.1, true) := by decide
theorem txt_ne {by_ : Bs} (h : by_.length = 32) (hn : by_ ≠ key1 200) : (txt (1, [key1 200]) == txt (1, [by_])) = false := by
  rw [beq_eq_false_iff_ne]
  intro e
  apply hn
  have e2 : ((key1 200).length : Int) = by_.length := by rw [h]; rfl
  simp only [txt, joinB, List.flatMap_cons, List.flatMap_nil, List.append_nil, List.cons_append, List.cons.injEq, List.length_cons, List.length_nil] at e
  exact (List.append_cancel_right e.2.2.2).symm
theorem nameB_length (n : Nat) : (nameB n).length = 32 := by simp [nameB, putB, zeros]
theorem nameB_sig (n : Nat) (r : Bs) : (nameB n ++ r).take 32 = nameB n := by
  rw [List.take_append_of_le_length (by rw [nameB_length]; exact Nat.le_refl 32)]
  exact List.take_of_length_le (by rw [nameB_length]; exact Nat.le_refl 32)
theorem nameB_four (n : Nat) (r : Bs) : ((nameB n ++ r).drop 4).take 4 = putB n 4 := by
  simp [nameB, putB, List.range, List.range.loop]
theorem getB_putB4 {n : Nat} (h : n < 4294967296) : getB (putB n 4) = n := by
  simp [getB, putB, List.range, List.range.loop]
  omega
theorem numB_name {n most : Nat} (r : Bs) (h0 : 0 < n) (h : n ≤ most) (hm : most < 4294967296) : numB (nameB n ++ r) most = n := by
  unfold numB
  have hl : ¬ (nameB n ++ r).length < 32 := by rw [List.length_append, nameB_length]; omega
  rw [if_neg hl, nameB_four, getB_putB4 (by omega), nameB_sig, if_neg (by simp; omega)]
theorem ofT_name {T : List Tm} {n : Nat} {t : Tm} (r : Bs) (h0 : 0 < n) (ht : T[n - 1]? = some t) (hm : T.length < 4294967296) : ofT T (nameB n ++ r) = some t := by
  have hl := (List.getElem?_eq_some_iff.1 ht).1
  unfold ofT
  rw [numB_name r h0 (by omega) hm, if_neg (by omega), ht]
theorem ofT_name' {T : List Tm} {n : Nat} {t : Tm} (h0 : 0 < n) (ht : T[n - 1]? = some t) (hm : T.length < 4294967296) : ofT T (nameB n) = some t := by
  have := ofT_name [] h0 ht hm
  rwa [List.append_nil] at this
theorem makeT_new {T : List Tm} {t : Tm} (hf : fits t.2 = true) (h1 : 1 ≤ t.1) (h8 : t.1 ≤ 8) (hn : ∀ u ∈ T, (txt u == txt t) = false) (hl : T.length < 65535) : makeT T t = (T ++ [t], nameB (T.length + 1), true) := by
  unfold makeT
  rw [if_neg (by rw [hf]; simp; omega)]
  have : T.findIdx? (fun u => txt u == txt t) = none := List.findIdx?_eq_none_iff.2 hn
  rw [this]
  simp only [if_neg (show ¬ 65535 ≤ T.length by omega)]
theorem length_parts_le : ∀ ps : List Bs, (∀ p ∈ ps, p.length ≤ 4096) → (ps.flatMap fun p => ((p.length / 256 : Nat) : Int) :: ((p.length % 256 : Nat) : Int) :: p).length ≤ ps.length * 4098
  | [], _ => by simp
  | p :: ps, h => by
    have h1 := length_parts_le ps (fun q hq => h q (by simp [hq]))
    have h2 := h p (by simp)
    simp only [List.flatMap_cons, List.length_append, List.length_cons] at h1 ⊢
    omega
theorem length_joinB_le {ps : List Bs} (h : fits ps = true) : (joinB ps).length ≤ 262273 := by
  simp only [fits, Bool.and_eq_true, decide_eq_true_eq, List.all_eq_true] at h
  have := length_parts_le ps h.2
  simp only [joinB, List.length_cons]
  omega
theorem makeT_len (T : List Tm) (t : Tm) : (makeT T t).2.1.length = 32 := by
  have h : ∀ n, (nameB n).length = 32 := fun n => by simp [nameB, putB, zeros]
  unfold makeT
  split
  · rfl
  · split
    · exact h _
    · split
      · rfl
      · exact h _
theorem makeT_old {T : List Tm} {t : Tm} {i : Nat} (hf : fits t.2 = true) (h1 : 1 ≤ t.1) (h8 : t.1 ≤ 8) (h : T.findIdx? (fun u => txt u == txt t) = some i) : makeT T t = (T, nameB (i + 1), true) := by
  unfold makeT
  rw [if_neg (by rw [hf]; simp; omega), h]
theorem makeT_full {T : List Tm} {t : Tm} (hf : fits t.2 = true) (h1 : 1 ≤ t.1) (h8 : t.1 ≤ 8) (h : T.findIdx? (fun u => txt u == txt t) = none) (hl : 65535 ≤ T.length) : makeT T t = (T, zeros 32, false) := by
  unfold makeT
  rw [if_neg (by rw [hf]; simp; omega), h]
  simp only [if_pos hl]
theorem makeT_more {T : List Tm} {t : Tm} (hf : fits t.2 = true) (h1 : 1 ≤ t.1) (h8 : t.1 ≤ 8) (h : T.findIdx? (fun u => txt u == txt t) = none) (hl : T.length < 65535) : makeT T t = (T ++ [t], nameB (T.length + 1), true) := by
  unfold makeT
  rw [if_neg (by rw [hf]; simp; omega), h]
  simp only [if_neg (show ¬ 65535 ≤ T.length by omega)]
theorem nameB_ne {m n : Nat} (hm : m < 4294967296) (hn : n < 4294967296) (h : m ≠ n) : nameB m ≠ nameB n := by
  intro e
  apply h
  have h1 := nameB_four m []
  have h2 := nameB_four n []
  rw [e] at h1
  rw [← getB_putB4 hm, ← getB_putB4 hn, ← h1, ← h2]
theorem txt_count {s t : Tm} (h : s.2.length ≠ t.2.length) : (txt s == txt t) = false := by
  rw [beq_eq_false_iff_ne]
  intro e
  simp only [txt, joinB, List.cons_append, List.cons.injEq] at e
  omega
theorem txt_kind {s t : Tm} (h : s.1 ≠ t.1) : (txt s == txt t) = false := by
  rw [beq_eq_false_iff_ne]
  intro e
  have := congrArg List.getLast? e
  simp only [txt, List.getLast?_append, List.getLast?_singleton, Option.some_or, Option.some.injEq] at this
  exact h this
theorem checkF_one {T : List Tm} {first : List Bs} {x : Ob} {now : Int} (h1 : x.server = 0) (h2 : x.n = 1) (hv : x.vs = []) :
    (checkF T first [0, 0, 0, 0] 0 0 [x] now).2.2 = if verifyF T (first.getD 0 []) (objText x) x.sig = false then 200 else if now < x.frm ∨ x.til ≤ now then 201 else 0 := by
  unfold checkF
  rw [if_neg (by simp)]
  simp only [chainF, h1, h2, vouchers, hv]
  by_cases h : verifyF T (first.getD 0 []) (objText x) x.sig = false
  · simp at h
    simp [h]
  · simp at h
    simp [h]
    split <;> rfl
theorem free_law {by_ : Bs} {x : Ob} {now : Int} (h1 : x.server = 0) (h2 : x.n = 1) (hv : x.vs = []) (hk : x.key.length = 32) (hb : by_.length = 32) :
    freeE by_ x now = if by_ = key1 200 then (if now < x.frm ∨ x.til ≤ now then 201 else 0) else 200 := by
  have htl : ¬ 4096 < (objText x).length := by rw [objText_length x hk]; omega
  have hfit : ∀ s : Bs, s.length = 32 → fits [s, objText x] = true := by
    intro s hs
    simp [fits, objText_length x hk, hs]
  unfold freeE
  rw [checkF_one (x := { x with sig := (free4 by_ x).2 }) h1 h2 hv]
  show (if verifyF _ _ (objText x) (free4 by_ x).2 = false then (200 : Int) else if now < x.frm ∨ x.til ≤ now then 201 else 0) = _
  have f1 : free1 = ([(1, [key1 200])], nameB 1, true) := by decide
  by_cases hs : by_ = key1 200
  · rw [if_pos hs]
    have f2 : free2 by_ = ([(1, [key1 200])], nameB 1, true) := by rw [hs]; decide
    have f3 : free3 by_ = ([(1, [key1 200]), (5, [nameB 1])], nameB 2, true) := by unfold free3; rw [f2, f1]; decide
    have f4 : free4 by_ x = ([(1, [key1 200]), (5, [nameB 1]), (6, [nameB 1, objText x])], nameB 3 ++ zeros 32) := by
      unfold free4 signF
      rw [f3, f2, if_neg htl, makeT_new (hfit _ (nameB_length 1)) (by simp) (by simp) (by
        intro u hu
        simp only [List.mem_cons, List.not_mem_nil, or_false] at hu
        rcases hu with rfl | rfl <;> exact txt_count (by simp)) (by simp)]
      rfl
    have hc : (freeC by_).getD 0 [] = nameB 2 := by unfold freeC; rw [f3]; rfl
    rw [if_neg]
    rw [hc, f4]
    unfold verifyF
    rw [if_neg htl, nameB_sig, ofT_name' (n := 3) (t := (6, [nameB 1, objText x])) (by omega) rfl (by simp), ofT_name' (n := 2) (t := (5, [nameB 1])) (by omega) rfl (by simp)]
    simp [nameB_length]
  · rw [if_neg hs]
    have f2 : free2 by_ = ([(1, [key1 200]), (1, [by_])], nameB 2, true) := by
      unfold free2
      rw [f1, makeT_new (by simp [fits, hb]) (by simp) (by simp) (by
        intro u hu
        simp only [List.mem_cons, List.not_mem_nil, or_false] at hu
        subst hu
        exact txt_ne hb hs) (by simp)]
      rfl
    have f3 : free3 by_ = ([(1, [key1 200]), (1, [by_]), (5, [nameB 1])], nameB 3, true) := by
      unfold free3
      rw [f2, f1, makeT_new (by simp [fits, nameB_length]) (by simp) (by simp) (by
        intro u hu
        simp only [List.mem_cons, List.not_mem_nil, or_false] at hu
        rcases hu with rfl | rfl <;> exact txt_kind (by simp)) (by simp)]
      rfl
    have f4 : free4 by_ x = ([(1, [key1 200]), (1, [by_]), (5, [nameB 1]), (6, [nameB 2, objText x])], nameB 4 ++ zeros 32) := by
      unfold free4 signF
      rw [f3, f2, if_neg htl, makeT_new (hfit _ (nameB_length 2)) (by simp) (by simp) (by
        intro u hu
        simp only [List.mem_cons, List.not_mem_nil, or_false] at hu
        rcases hu with rfl | rfl | rfl <;> exact txt_count (by simp)) (by simp)]
      rfl
    have hc : (freeC by_).getD 0 [] = nameB 3 := by unfold freeC; rw [f3]; rfl
    rw [if_pos]
    rw [hc, f4]
    unfold verifyF
    rw [if_neg htl, nameB_sig, ofT_name' (n := 4) (t := (6, [nameB 2, objText x])) (by omega) rfl (by simp), ofT_name' (n := 3) (t := (5, [nameB 1])) (by omega) rfl (by simp)]
    have := nameB_ne (m := 1) (n := 2) (by omega) (by omega) (by omega)
    simp [this]
end Go.Kd
namespace Go.Proofs.Ytombhkekocbfoaa
open Go.RowKit Go.Dr Go.Kd
section
variable {w : World}
theorem or_add (s : Nat) (x y : Int) (z : Nat) (hx : 0 ≤ x) (hx2 : x < ((2 ^ s : Nat) : Int)) (hx3 : x < 18446744073709551616) (hy : y = (2 ^ s * z : Nat)) (hy2 : y < 18446744073709551616) : bits .or .u64 x y = x + y := by
  obtain ⟨a, rfl⟩ : ∃ a : Nat, x = a := ⟨x.toNat, by omega⟩
  subst hy
  rw [u64_or_nat a (2 ^ s * z) (by omega) (by omega), Nat.or_comm, ← Nat.two_pow_add_eq_or_of_lt (by omega)]
  omega
theorem or_comm64 (x y : Int) : bits .or .u64 x y = bits .or .u64 y x := by simp only [bits, BitVec.or_comm]
theorem getB_snoc (l : Bs) (c : Int) : getB (l ++ [c]) = getB l * 256 + c.toNat := by simp [getB]
theorem getB_lt : ∀ (n : Nat) (l : Bs), l.length = n → isBytes l → getB l < 256 ^ n := by
  intro n
  induction n with
  | zero => intro l h _; rw [List.eq_nil_of_length_eq_zero h]; decide
  | succ n ih =>
    intro l h hb
    rcases List.eq_nil_or_concat l with rfl | ⟨m, c, rfl⟩
    · cases h
    · rw [List.concat_eq_append] at h hb ⊢
      rw [getB_snoc]
      have h1 := ih m (by simpa using h) (fun x hx => hb x (by simp [hx]))
      have h2 := hb c (by simp)
      rw [Nat.pow_succ]
      omega
def getOk (n : Nat) : Bool := decide (1 ≤ n ∧ n ≤ 8)
def getV (B : Bs) : Nat := if getOk B.length then getB B else 0
theorem take_el {B : List Int} {i : Nat} (h : i < B.length) : B.take (i + 1) = B.take i ++ [el B i] := by
  rw [List.take_add_one, List.getElem?_eq_getElem h]
  simp [el, h]
theorem el_byte {B : List Int} (hB : isBytes B) {i : Nat} (h : i < B.length) : 0 ≤ el B i ∧ el B i < 256 := hB _ (by simp [el, h])
set_option maxRecDepth 100000 in
set_option maxHeartbeats 2000000 in
theorem get_f {p : Option Addr} {n cap : Nat} {B : List Int} (S : Sl .u8 w p n cap B) (hB : isBytes B) :
    Calls Try.prog 53 #[.slice p n cap] w fun e w' => e = .returned (.tuple #[.int .u64 (getV B), .bool (getOk n)]) ∧ Fr [] w w' := by
  have HS := Lib.hid S
  have HB := Lib.hid hB
  have HN := Lib.hid S.len
  clear S hB
  go_enter Try.func53, Try.ntmps53
  by_cases hn : 1 ≤ n ∧ n ≤ 8
  · have d1 : decide ((n : Int) < 1) = false := by rw [decide_eq_false_iff_not]; omega
    have d2 : decide ((n : Int) > 8) = false := by rw [decide_eq_false_iff_not]; omega
    go_wp2_with fail
    go_loopw [4, 17] (fun v iv wy => ∃ i : Nat, i ≤ n ∧ iv = .int .i64 (i : Int) ∧ v = .int .u64 (getB (B.take i) : Nat) ∧ Hid (OwB w [] wy)) (fun _ iv _ => (n - intOf iv).toNat)
    case atStart => exact ⟨0, by omega, rfl, rfl, Lib.hid (OwB.start w)⟩
    case round =>
      obtain ⟨i, hi9, rfl, rfl, hO⟩ := hrel
      by_cases hlt : i < n
      · have hd : decide ((i : Int) < (n : Int)) = true := by rw [decide_eq_true_eq]; omega
        obtain ⟨b, off, cs, T, fr, rfl, f0, hs, hc⟩ := (HS.out.fr0 hO.out.fr).at hlt
        obtain ⟨x, hx⟩ : ∃ x, x = getB (B.take i) := ⟨_, rfl⟩
        rw [← hx]
        have HX := Lib.hid hx
        clear hx
        have hil : i < B.length := by rw [HN.out]; exact hlt
        have hx8 : x < 72057594037927936 := by
          rw [HX.out]
          have h1 := getB_lt i (B.take i) (by rw [List.length_take]; omega) fun y hy => HB.out y (List.mem_of_mem_take hy)
          have h2 : (256 : Nat) ^ i ≤ 256 ^ 7 := Nat.pow_le_pow_right (by omega) (by omega)
          omega
        have hc2 := (Array.getElem?_eq_some_iff.1 hc).2
        have w1 : IntKind.u64.wrap ((x : Int) * 256) = ((x * 256 : Nat) : Int) := by
          rw [IntKind.wrap_u64, Int.emod_eq_of_lt] <;> omega
        go_wp2
        go_roundw
        case rel =>
          refine ⟨i + 1, by omega, by simp, ?_, hO⟩
          have hb := el_byte HB.out hil
          have w2 : IntKind.u64.wrap (el B i) = el B i := by
            rw [IntKind.wrap_u64, Int.emod_eq_of_lt] <;> omega
          rw [w2, or_comm64, or_add 8 (el B i) ((x : Int) * 256) x hb.1 (by omega) (by omega) (by omega) (by omega), take_el hil, getB_snoc, ← HX.out]
          congr 1
          omega
        case measure => simp [intOf]; omega
      · obtain rfl : i = n := by omega
        have hd : decide ((i : Int) < (i : Int)) = false := by simp
        go_wp2
        rw [List.take_of_length_le (by rw [HN.out]; exact Nat.le_refl _)]
        have e1 : getOk i = true := by unfold getOk; rw [decide_eq_true_eq]; exact hn
        have e2 : getV B = getB B := by unfold getV; rw [HN.out, e1, if_pos rfl]
        rw [e1, e2]
        exact bodyPost_ret (results_tmp2 rfl _ _ _) rfl ⟨rfl, hO.out.fr⟩
  · have e1 : getOk n = false := by unfold getOk; rw [decide_eq_false_iff_not]; exact hn
    have e2 : getV B = 0 := by unfold getV; rw [HN.out, e1, if_neg (by simp)]
    rw [e1, e2]
    have HF := Lib.hid (Fr.refl [] w)
    by_cases h1 : n < 1
    · have d1 : decide ((n : Int) < 1) = true := by rw [decide_eq_true_eq]; omega
      go_wp2_with fail
      exact bodyPost_ret (results_tmp2 rfl _ _ _) rfl ⟨rfl, HF.out⟩
    · have d1 : decide ((n : Int) < 1) = false := by rw [decide_eq_false_iff_not]; omega
      have d2 : decide ((n : Int) > 8) = true := by rw [decide_eq_true_eq]; omega
      go_wp2_with fail
      exact bodyPost_ret (results_tmp2 rfl _ _ _) rfl ⟨rfl, HF.out⟩
end
end Go.Proofs.Ytombhkekocbfoaa
namespace Go.Proofs.Ytombhkekocbfoaa
open Go.RowKit Go.Dr Go.Kd
theorem info5 : (Try.prog.info? 5).map (fun i => (i.zero, i.size, i.bytes)) = some (some (.int .u8 0), 1, 1) := by kernel_rfl
theorem E47 : ElemT Try.prog 22 5 1 1 (ints .u8 (zs 1)) := ⟨Try.underlying22, by kernel_rfl, by rw [size_ints, length_zs]⟩
@[go_sem] theorem make47 (w : World) (kl kc : IntKind) (l c : Int) (h0 : 0 ≤ l) (hlc : l ≤ c) (hb : c ≤ 281474976710656) : (Instr.makeSlice 22 (.int kl l) (.int kc c)).run Try.prog w = .ok (.slice (some ⟨w.heap.size, 0, none⟩) l.toNat c.toNat) (w.alloc (.cells (ints .u8 (zs c.toNat)) 5)) := by
  rw [E47.make w kl kc l c h0 hlc (by omega) (by omega), madeCells_ints _ _ _ (by omega), Nat.mul_one]
@[go_sem] theorem one47 (w : World) (x : Int) : (buildOneK 22 #[(0, .int .u8 x)]).run Try.prog w = .ok (.slice (some ⟨w.heap.size, 0, none⟩) 1 1) (w.alloc (.cells #[.int .u8 x] 5)) :=
  E47.buildOne (by omega) (by omega) w (.int .u8 x) rfl
section
variable {w : World}
/-- After so many rounds: the low bytes lie at the end. -/
def rowP (n s i : Nat) : Bs := (List.range s).map fun k => if s - i ≤ k then ((n / 256 ^ (s - 1 - k) % 256 : Nat) : Int) else 0
theorem length_rowP (n s i : Nat) : (rowP n s i).length = s := by simp [rowP]
theorem rowP_zero (n s : Nat) : rowP n s 0 = zs s := by
  apply List.ext_getElem
  · simp [rowP, zs]
  · intro k h1 h2
    have : k < s := by simpa [rowP] using h1
    simp [rowP, zs]
    omega
theorem rowP_full (n s : Nat) : rowP n s s = putB n s := by simp [rowP, putB]
theorem rowP_succ {n s i : Nat} (h : i < s) : (rowP n s i).set (s - 1 - i) ((n / 256 ^ i % 256 : Nat) : Int) = rowP n s (i + 1) := by
  apply List.ext_getElem
  · simp [rowP]
  · intro k h1 h2
    have hk : k < s := by simpa [rowP] using h2
    rw [List.getElem_set]
    by_cases e : s - 1 - i = k
    · rw [if_pos e]
      simp only [rowP, List.getElem_map, List.getElem_range]
      rw [if_pos (by omega)]
      congr 5
      omega
    · rw [if_neg e]
      simp only [rowP, List.getElem_map, List.getElem_range]
      by_cases e2 : s - i ≤ k
      · rw [if_pos e2, if_pos (by omega)]
      · rw [if_neg e2, if_neg (by omega)]
theorem pow_256 (i : Nat) : (2 : Nat) ^ (8 * i) = 256 ^ i := by rw [Nat.pow_mul]
set_option maxRecDepth 100000 in
set_option maxHeartbeats 2000000 in
theorem put_b {n s : Nat} (h1 : 1 ≤ s) (h8 : s < 8) (hn : n < 256 ^ s) :
    Calls Try.prog 67 #[.int .u64 n, .int .i64 s] w fun e w' => ∃ b, e = .returned (.tuple #[.slice (some ⟨b, 0, none⟩) s s, .bool true]) ∧ w'.blk b = some (.cells (ints .u8 (putB n s)) 5) ∧ w.heap.size ≤ b ∧ Fr [] w w' := by
  go_enter Try.func67, Try.ntmps67
  have d1 : decide ((s : Int) < 1) = false := by rw [decide_eq_false_iff_not]; omega
  have d2 : decide ((s : Int) > 8) = false := by rw [decide_eq_false_iff_not]; omega
  have d3 : decide ((s : Int) < 8) = true := by rw [decide_eq_true_eq]; omega
  have w1 : IntKind.i64.wrap (8 * (s : Int)) = 8 * s := by rw [IntKind.wrap_i64]; omega
  have d4 : ((n : Int) / 2 ^ (8 * s) != 0) = false := by
    have e : ((n : Int) / 2 ^ (8 * s)) = ((n / 2 ^ (8 * s) : Nat) : Int) := by norm_cast
    rw [e, pow_256, Nat.div_eq_of_lt hn]
    rfl
  have m0 : (0 : Int) ≤ s := by omega
  have m1 : (s : Int) ≤ 281474976710656 := by omega
  go_wp2_with fail
  refine OwB.named (Q := fun X => Code.wp _ _ _ _ X) (show OwB w [(w.heap.size, .cells (ints .u8 (rowP n s 0)) 5)] _ from (by rw [rowP_zero]; exact (OwB.start w).allocN (.cells (ints .u8 (zs s)) 5) w.heap.size rfl)) ?_
  intro V hV
  obtain ⟨b, hb⟩ : ∃ b, b = w.heap.size := ⟨_, rfl⟩
  rw [← hb] at hV ⊢
  have HB := Lib.hid hb
  clear hb
  go_loopw [29] (fun iv wy => ∃ i : Nat, i ≤ s ∧ iv = .int .i64 (i : Int) ∧ Hid (OwB w [(b, .cells (ints .u8 (rowP n s i)) 5)] wy)) (fun iv _ => (s - intOf iv).toNat)
  case atStart => exact ⟨0, by omega, rfl, Lib.hid hV⟩
  case round =>
    clear hV
    obtain ⟨i, hi9, rfl, hO⟩ := hrel
    have f0 := hO.out.nth 0 rfl
    have t0 := hO.out.lt 0 rfl
    obtain ⟨U, hU⟩ : ∃ U, U = rowP n s i := ⟨_, rfl⟩
    have lU : U.length = s := by rw [hU, length_rowP]
    rw [← hU] at f0
    have HU := Lib.hid hU
    clear hU
    by_cases hlt : i < s
    · have hd : decide ((i : Int) < (s : Int)) = true := by rw [decide_eq_true_eq]; omega
      have w2 : IntKind.i64.wrap ((s : Int) - 1) = s - 1 := by rw [IntKind.wrap_i64]; omega
      have w3 : IntKind.i64.wrap ((s : Int) - 1 - i) = ((s - 1 - i : Nat) : Int) := by rw [IntKind.wrap_i64]; omega
      have w4 : IntKind.i64.wrap (8 * (i : Int)) = 8 * i := by rw [IntKind.wrap_i64]; omega
      have hj : s - 1 - i < s := by omega
      obtain ⟨j, hj2⟩ : ∃ j, j = s - 1 - i := ⟨_, rfl⟩
      rw [← hj2] at w3 hj
      have HJ := Lib.hid hj2
      clear hj2
      go_wp2
      go_roundw
      case rel =>
        refine ⟨i + 1, by omega, by simp, Lib.hid ?_⟩
        have hn2 := hO.out.set 0 (.cells (ints .u8 (rowP n s (i + 1))) 5) rfl
        have ev : U.set j ((n : Int) / 2 ^ (8 * i) % 256) = rowP n s (i + 1) := by
          rw [HU.out, HJ.out, ← rowP_succ hlt, show ((n : Int) / 2 ^ (8 * i) % 256) = ((n / 256 ^ i % 256 : Nat) : Int) from by rw [← pow_256]; norm_cast]
        rw [ev]
        exact hn2
      case measure => simp [intOf]; omega
    · obtain rfl : i = s := by omega
      have hd : decide ((i : Int) < (i : Int)) = false := by simp
      go_wp2
      refine bodyPost_ret (results_tmp2 rfl _ _ _) rfl ⟨b, rfl, ?_, by rw [HB.out]; exact Nat.le_refl _, hO.out.fr⟩
      rw [HU.out, rowP_full] at f0
      exact f0
theorem put_f {n s : Nat} (h1 : 1 ≤ s) (h8 : s < 8) (hn : n < 256 ^ s) :
    Calls Try.prog 67 #[.int .u64 n, .int .i64 s] w fun e w' => ∃ b, e = .returned (.tuple #[.slice (some ⟨b, 0, none⟩) s s, .bool true]) ∧ Sl .u8 w' (some ⟨b, 0, none⟩) s s (putB n s) ∧ w.heap.size ≤ b ∧ Fr [] w w' :=
  (put_b h1 h8 hn).mono fun _ _ ⟨b, he, hb, hs, hF⟩ => ⟨b, he, Sl.ofInts hb (by rw [putB_length]; omega) (by rw [List.drop_zero, List.take_of_length_le (by rw [putB_length]; exact Nat.le_refl _)]) (Nat.le_refl _), hs, hF⟩
end
end Go.Proofs.Ytombhkekocbfoaa
namespace Go
theorem run_copy_str {P : Program} (w : World) (dT sT ty : TypeId) (d : Addr) (dl dc : Nat) (s : ByteArray) (h : P.underlying dT = some (.slice (P.elem dT))) :
    (Builtin.copy_ #[dT, sT] ty #[.slice (some d) dl dc, .string s]).run P w =
      ((sizeOf (P.elem dT)).run P w).andThen fun _ w1 => ((storeCells d (((s.extract 0 (Nat.min s.size dl)).data.map fun b => Value.int .u8 b.toNat).toList)).run P w1).andThen fun _ w3 => .ok (goInt (Nat.min s.size dl)) w3 := by
  simp only [Builtin.copy_, Builtin.lenOf, Builtin.firstCells, List.getElem?_toArray, List.getElem?_cons_zero, List.getElem?_cons_succ, Sem.run_bind, run_underlying h, Result.andThen_ok, Sem.run_pure]
attribute [go_sem] run_copy_str
end Go
namespace Go.Proofs.Ytombhkekocbfoaa
open Go.RowKit Go.Dr Go.Kd
@[go_sem] theorem term_cells : ((((⟨#[116, 101, 114, 109]⟩ : ByteArray).extract 0 (Nat.min (⟨#[116, 101, 114, 109]⟩ : ByteArray).size 32)).data.map fun b => Value.int .u8 b.toNat).toList) = [.int .u8 116, .int .u8 101, .int .u8 114, .int .u8 109] := by kernel_rfl
section
variable {w : World}
end
end Go.Proofs.Ytombhkekocbfoaa
namespace Go.Proofs.Ytombhkekocbfoaa
open Go.RowKit Go.Dr Go.Kd
theorem conv47 {w : World} {p : Option Addr} {n cap : Nat} {l : List Int} (S : Sl .u8 w p n cap l) : (convert 22 9 (.slice p n cap)).run Try.prog w = .ok (.string (strB l)) w := by
  rw [run_convert_bytes_string w 22 9 5 p n cap Try.underlying22 Try.underlying5 Try.underlying9]
  exact S.toStr
section
variable {w : World}
end
end Go.Proofs.Ytombhkekocbfoaa
namespace Go.Proofs.Ytombhkekocbfoaa
open Go.RowKit Go.Dr Go.Kd
section
variable {w : World}
theorem byt_nameB (n : Nat) : isBytes (nameB n) := by
  intro x hx
  simp only [nameB, List.mem_append, putB, List.mem_map, Kd.zeros, List.mem_replicate] at hx
  rcases hx with hx | ⟨i, _, rfl⟩ | ⟨_, rfl⟩
  · simp only [List.mem_cons, List.not_mem_nil, or_false] at hx
    omega
  · omega
  · omega
theorem beq_str {a b : List Int} (ha : isBytes a) (hb : isBytes b) : ((strB a).toList == (strB b).toList) = decide (a = b) := by
  rw [← beq_toListBytes, beqB]
  by_cases h : a = b
  · rw [h]; simp
  · rw [decide_eq_false h, decide_eq_false fun e => h (strB_inj ha hb e)]
end
end Go.Proofs.Ytombhkekocbfoaa
namespace Go.Proofs.Ytombhkekocbfoaa
open Go.RowKit Go.Dr Go.Kd
section
variable {w0 w : World} {L : List (Nat × Obj)} {p : Option Addr} {n cap : Nat} {l : List Int} {ops : Array Oper} {rest : List Oper} {o : Oper} {a : Act} {Q : Exit → Act → World → Prop}
/-- []byte: append of a slice. -/
theorem wpList_app47 (hgd : o.guard = none) (s x : Operand) (ho : o.op = .call { callee := .builtin .append, args := #[s, x], argTypes := #[22, 22] })
    (hs : a.eval s = .slice p n cap) (B : Bld w0 L .u8 5 w p n cap l) {q : Option Addr} {m c : Nat} {l2 : List Int} (hx : a.eval x = .slice q m c) (S : Sl .u8 w q m c l2) (hbig : n + m ≤ 140737488355328)
    (h : ∀ p' cap' w', Bld w0 L .u8 5 w' p' (n + m) cap' (l ++ l2) → wpList Try.prog ops Q rest (a.put o.dst (.slice p' (n + m) cap')) w') : wpList Try.prog ops Q (o :: rest) a w := by
  obtain ⟨i, hi, hz, hs1, hb1⟩ := info_parts info5
  exact wpList_apd hgd s x 22 22 ho Try.underlying22 hi hz hs1 hb1 rfl hs B hx (Apd.ofSrc Try.underlying22 hi hz (by rw [hs1]; exact S.src Try.underlying22)) (by omega) (by omega) h
end
section
variable {w : World}
def partB (p : Bs) : Bs := ((p.length / 256 : Nat) : Int) :: ((p.length % 256 : Nat) : Int) :: p
def joinP (ls : List Bs) (i : Nat) : Bs := (ls.length : Int) :: (ls.take i).flatMap partB
theorem joinP_full {ls : List Bs} {n : Nat} (h : ls.length = n) : joinP ls n = joinB ls := by
  unfold joinP joinB
  rw [List.take_of_length_le (by omega)]
  rfl
theorem joinP_succ {ls : List Bs} {i : Nat} {l : Bs} (h : ls[i]? = some l) : joinP ls (i + 1) = joinP ls i ++ [((l.length / 256 : Nat) : Int), ((l.length % 256 : Nat) : Int)] ++ l := by
  unfold joinP
  rw [List.take_add_one, h]
  simp [partB]
set_option maxRecDepth 100000 in
set_option maxHeartbeats 2000000 in
theorem join_f {p : Option Addr} {n cap : Nat} {ls : List (List Int)} (S : Sll w p n cap ls) (hf : fits ls = true) :
    Calls Try.prog 58 #[.slice p n cap] w fun e w' => ∃ q m c, e = .returned (.tuple #[.slice q m c, .bool true]) ∧ Bld w [] .u8 5 w' q m c (joinB ls) := by
  have HS := Lib.hid S
  have HN := Lib.hid S.len
  have hf1 : n ≤ 64 := by
    simp only [fits, Bool.and_eq_true, decide_eq_true_eq] at hf
    rw [HN.out] at hf
    exact hf.1
  have hf2 : ∀ l ∈ ls, l.length ≤ 4096 := by
    simp only [fits, Bool.and_eq_true, decide_eq_true_eq, List.all_eq_true] at hf
    exact hf.2
  have HF := Lib.hid hf2
  clear S hf hf2
  go_enter Try.func58, Try.ntmps58
  have d1 : decide ((n : Int) > 64) = false := by rw [decide_eq_false_iff_not]; omega
  have w1 : IntKind.u8.wrap (n : Int) = n := by rw [IntKind.wrap_u8, Int.emod_eq_of_lt] <;> omega
  go_wp2_with fail
  have hB0 : Bld w [] .u8 5 (w.alloc (.cells #[.int .u8 (n : Int)] 5)) (some ⟨w.heap.size, 0, none⟩) 1 1 (joinP ls 0) := by
    have h1 := Bld.of (k := .u8) (e := 5) (l := [(n : Int)]) (r := #[]) ((OwB.start w).allocN (.cells #[.int .u8 (n : Int)] 5) w.heap.size rfl) (by simp [maxLen])
    have e : joinP ls 0 = [(n : Int)] := by unfold joinP; rw [HN.out]; rfl
    rw [e]
    exact h1
  have HB0 := Lib.hid hB0
  clear hB0
  go_loopw [4, 16] (fun v iv wy => ∃ (i : Nat) (q : Option Addr) (m c : Nat), i ≤ n ∧ iv = .int .i64 (i : Int) ∧ v = .slice q m c ∧ m ≤ 1 + 4098 * i ∧ Hid (Bld w [] .u8 5 wy q m c (joinP ls i))) (fun _ iv _ => (n - intOf iv).toNat)
  case atStart => exact ⟨0, _, 1, 1, by omega, rfl, rfl, by omega, HB0⟩
  case round =>
    clear HB0
    obtain ⟨i, q, m, c, hi9, rfl, rfl, hm, hO⟩ := hrel
    by_cases hlt : i < n
    · have hd : decide ((i : Int) < (n : Int)) = true := by rw [decide_eq_true_eq]; omega
      obtain ⟨b, off, cs, T, fr, q2, m2, c2, l2, rfl, f00, hs, hc, hl, S2⟩ := HS.out.at hlt
      have f0 := hO.out.own.fr.get f00 (by simp)
      have hc2 := (Array.getElem?_eq_some_iff.1 hc).2
      have hl2 := HF.out l2 (List.mem_of_getElem? hl)
      have hm2 := S2.len
      have d2 : decide ((m2 : Int) > 4096) = false := by rw [decide_eq_false_iff_not]; omega
      have w2 : IntKind.u8.wrap ((m2 : Int) / 256) = ((m2 / 256 : Nat) : Int) := by rw [IntKind.wrap_u8, Int.emod_eq_of_lt] <;> omega
      have w3 : IntKind.u8.wrap (m2 : Int) = ((m2 % 256 : Nat) : Int) := by rw [IntKind.wrap_u8]; omega
      have HL := Lib.hid hl
      have HS2 := Lib.hid S2
      have HM2 := Lib.hid hm2
      clear hl S2 hm2 hl2 f00
      have hml : m2 ≤ 4096 := by rw [← HM2.out]; exact HF.out l2 (List.mem_of_getElem? HL.out)
      go_wp2_with (refine wpList_app47 rfl _ _ rfl rfl (hO.out.call ((Fr.refl [] wr).alloc (.cells #[.int .u8 ((m2 : Int) / 256), .int .u8 ((m2 : Int) % 256)] 5))) rfl (l2 := [((l2.length / 256 : Nat) : Int), ((l2.length % 256 : Nat) : Int)]) (Sl.of (World.at_alloc_new _ _ _ rfl) (by simp) (by rw [HM2.out]; simp) (Nat.le_refl 2)) (by omega) ?_)
      intro q3 c3 W3 hB3
      have HB3 := Lib.hid hB3
      clear hB3
      go_wp2_with (refine wpList_app47 rfl _ _ rfl rfl HB3.out rfl (HS2.out.fr0 HB3.out.own.fr) (by omega) ?_)
      intro q4 c4 W4 hB4
      have HB4 := Lib.hid hB4
      clear hB4
      go_wp2_with fail
      go_roundw
      case rel =>
        refine ⟨i + 1, q4, m + 2 + m2, c4, by omega, by simp, rfl, by omega, ?_⟩
        rw [joinP_succ HL.out, List.append_assoc]
        exact HB4
      case measure => simp [intOf]; omega
    · obtain rfl : i = n := by omega
      have hd : decide ((i : Int) < (i : Int)) = false := by simp
      have ev := joinP_full HN.out
      rw [ev] at hO
      go_wp2_with fail
      exact bodyPost_ret (results_tmp2 rfl _ _ _) rfl ⟨q, m, c, rfl, hO.out⟩
end
end Go.Proofs.Ytombhkekocbfoaa
namespace Go.Proofs.Ytombhkekocbfoaa
open Go.RowKit Go.Dr Go.Kd
theorem info47 : (Try.prog.info? 22).map (fun i => (i.zero, i.size, i.bytes)) = some (some (.slice none 0 0), 1, 24) := by kernel_rfl
theorem E86 : ElemT Try.prog 46 22 1 24 #[.slice none 0 0] := ⟨Try.underlying46, by kernel_rfl, rfl⟩
@[go_sem] theorem one86 (w : World) (q : Option Addr) (m c : Nat) : (buildOneK 46 #[(0, .slice q m c)]).run Try.prog w = .ok (.slice (some ⟨w.heap.size, 0, none⟩) 1 1) (w.alloc (.cells #[.slice q m c] 22)) :=
  E86.buildOne (by omega) (by omega) w (.slice q m c) rfl
section
variable {w0 w : World} {L : List (Nat × Obj)} {p : Option Addr} {n cap : Nat} {vs : List Value} {ops : Array Oper} {rest : List Oper} {o : Oper} {a : Act} {Q : Exit → Act → World → Prop}
/-- [][]byte: append of a slice of slices. -/
theorem wpList_app86 (hgd : o.guard = none) (s x : Operand) (ho : o.op = .call { callee := .builtin .append, args := #[s, x], argTypes := #[46, 46] })
    (hs : a.eval s = .slice p n cap) (B : BldV w0 L 22 1 w p n cap vs) {q : Option Addr} {m c : Nat} {us : List Value} (hx : a.eval x = .slice q m c) (S : Sv 1 w q m c us) (h1 : ∀ u ∈ us, u.oneCell' = true) (hbig : n + m ≤ 1000000)
    (h : ∀ p' cap' w', BldV w0 L 22 1 w' p' (n + m) cap' (vs ++ us) → wpList Try.prog ops Q rest (a.put o.dst (.slice p' (n + m) cap')) w') : wpList Try.prog ops Q (o :: rest) a w := by
  obtain ⟨i, hi, hz, hs1, hb1⟩ := info_parts info47
  exact wpList_apdV hgd s x 46 46 ho Try.underlying46 hi hz hs1 (by omega) hb1 rfl hs B hx (Apd.ofSrc Try.underlying46 hi hz (by rw [hs1]; exact S.src Try.underlying46 h1)) (by omega) (by omega) h
end
section
variable {w0 w : World} {L : List (Nat × Obj)} {p : Option Addr} {n cap : Nat} {vs : List Value}
end
end Go.Proofs.Ytombhkekocbfoaa
namespace Go.Proofs.Ytombhkekocbfoaa
open Go.RowKit Go.Dr Go.Kd
section
variable {w : World}
set_option maxRecDepth 100000 in
set_option maxHeartbeats 2000000 in
theorem rput_b {n s : Nat} (h1 : 1 ≤ s) (h8 : s < 8) (hn : n < 256 ^ s) :
    Calls Try.prog 73 #[.int .u64 n, .int .i64 s] w fun e w' => ∃ b, e = .returned (.tuple #[.slice (some ⟨b, 0, none⟩) s s, .bool true]) ∧ w'.blk b = some (.cells (ints .u8 (putB n s)) 5) ∧ w.heap.size ≤ b ∧ Fr [] w w' := by
  have hn64 : n < 18446744073709551616 := Nat.lt_of_lt_of_le hn (Nat.le_trans (Nat.pow_le_pow_right (by omega) (by omega : s ≤ 8)) (by decide))
  go_enter Try.func73, Try.ntmps73
  have d1 : decide ((s : Int) < 1) = false := by rw [decide_eq_false_iff_not]; omega
  have d2 : decide ((s : Int) > 8) = false := by rw [decide_eq_false_iff_not]; omega
  have m0 : (0 : Int) ≤ s := by omega
  have m1 : (s : Int) ≤ 281474976710656 := by omega
  have w1 : IntKind.i64.wrap ((s : Int) - 1) = (s : Int) - 1 := by rw [IntKind.wrap_i64]; omega
  go_wp2_with fail
  refine OwB.named (Q := fun X => Code.wp _ _ _ _ X) (show OwB w [(w.heap.size, .cells (ints .u8 (rowP n s 0)) 5)] _ from (by rw [rowP_zero]; exact (OwB.start w).allocN (.cells (ints .u8 (zs s)) 5) w.heap.size rfl)) ?_
  intro V hV
  obtain ⟨b, hb⟩ : ∃ b, b = w.heap.size := ⟨_, rfl⟩
  rw [← hb] at hV ⊢
  have HB := Lib.hid hb
  clear hb w1
  go_loopw [0, 7] (fun nv iv wy => ∃ (j : Nat) (k : Int) (m : Nat), j ≤ s ∧ Hid (k = (s : Int) - 1 - j) ∧ iv = .int .i64 k ∧ nv = .int .u64 (m : Int) ∧ Hid (m = n / 256 ^ j) ∧ Hid (OwB w [(b, .cells (ints .u8 (rowP n s j)) 5)] wy)) (fun _ iv _ => (intOf iv + 1).toNat)
  case atStart => exact ⟨0, _, n, by omega, Lib.hid (by simp), rfl, rfl, Lib.hid (by simp), Lib.hid hV⟩
  case round =>
    clear hV
    obtain ⟨j, k, m, hj, hk, rfl, rfl, hm, hO⟩ := hrel
    have f0 := hO.out.nth 0 rfl
    have t0 := hO.out.lt 0 rfl
    obtain ⟨U, hU⟩ : ∃ U, U = rowP n s j := ⟨_, rfl⟩
    have lU : U.length = s := by rw [hU, length_rowP]
    rw [← hU] at f0
    have HU := Lib.hid hU
    clear hU
    have hm64 : m < 18446744073709551616 := by rw [hm.out]; exact Nat.lt_of_le_of_lt (Nat.div_le_self _ _) hn64
    by_cases hlt : j < s
    · have hd : decide (k ≥ 0) = true := by rw [decide_eq_true_eq, hk.out]; omega
      have hd2 : decide (0 ≤ k) = true := by rw [decide_eq_true_eq, hk.out]; omega
      obtain ⟨q, hq⟩ : ∃ q : Nat, k = (q : Int) := ⟨s - 1 - j, by rw [hk.out]; omega⟩
      have hqs : q < s := by have := hk.out; omega
      have hqe : q = s - 1 - j := by have := hk.out; omega
      subst hq
      have w3 : IntKind.i64.wrap ((q : Int) - 1) = (q : Int) - 1 := by rw [IntKind.wrap_i64]; omega
      have w4 : IntKind.u8.wrap ((m : Int) % 256) = (m : Int) % 256 := by rw [IntKind.wrap_u8]; omega
      have w5 : IntKind.u64.wrap ((m : Int) / 256) = (m : Int) / 256 := by rw [IntKind.wrap_u64, Int.emod_eq_of_lt] <;> omega
      have HQ := Lib.hid hqe
      clear hqe
      go_wp2
      go_roundw
      case rel =>
        refine ⟨j + 1, (q : Int) - 1, m / 256, by omega, Lib.hid (by have := HQ.out; omega), rfl, by simp, Lib.hid (by rw [hm.out, Nat.div_div_eq_div_mul, Nat.pow_succ]), Lib.hid ?_⟩
        have hn2 := hO.out.set 0 (.cells (ints .u8 (rowP n s (j + 1))) 5) rfl
        have ev : U.set q ((m : Int) % 256) = rowP n s (j + 1) := by
          rw [HU.out, HQ.out, ← rowP_succ hlt, ← hm.out]
          try rfl
        rw [ev]
        exact hn2
      case measure => simp [intOf]
    · obtain rfl : j = s := by omega
      have hd : decide (k ≥ 0) = false := by rw [decide_eq_false_iff_not, hk.out]; omega
      have hd2 : decide (0 ≤ k) = false := by rw [decide_eq_false_iff_not, hk.out]; omega
      have hm0 : m = 0 := by rw [hm.out]; exact Nat.div_eq_of_lt hn
      have hmd : ((m : Int) != 0) = false := by rw [hm0]; rfl
      clear hm0
      go_wp2
      refine bodyPost_ret (results_tmp2 rfl _ _ _) rfl ⟨b, rfl, ?_, by rw [HB.out]; exact Nat.le_refl _, hO.out.fr⟩
      rw [HU.out, rowP_full] at f0
      exact f0
set_option maxRecDepth 100000 in
set_option maxHeartbeats 2000000 in
theorem rnum_b {n s : Nat} (h1 : 1 ≤ s) (h8 : s < 8) (hn : n < 256 ^ s) :
    Calls Try.prog 63 #[.int .i64 n, .int .i64 s] w fun e w' => ∃ b, e = .returned (.slice (some ⟨b, 0, none⟩) s s) ∧ w'.blk b = some (.cells (ints .u8 (putB n s)) 5) ∧ w.heap.size ≤ b ∧ Fr [] w w' := by
  have hn64 : n < 18446744073709551616 := Nat.lt_of_lt_of_le hn (Nat.le_trans (Nat.pow_le_pow_right (by omega) (by omega : s ≤ 8)) (by decide))
  have w1 : IntKind.u64.wrap (n : Int) = n := by rw [IntKind.wrap_u64, Int.emod_eq_of_lt] <;> omega
  go_enter Try.func63, Try.ntmps63
  go_wp2_with fail
  refine (rput_b h1 h8 hn).mono ?_
  rintro e w1 ⟨b, rfl, hb, hs, F⟩
  have HB := Lib.hid hb
  have HF := Lib.hid F
  clear hb F
  go_wp2_with fail
  exact bodyPost_ret (results_tmp rfl _ _ _) rfl ⟨b, rfl, HB.out, hs, HF.out⟩
theorem putB_two {m : Nat} (hm : m ≤ 4096) : putB m 2 = [((m / 256 : Nat) : Int), ((m % 256 : Nat) : Int)] := by
  simp [putB, List.range, List.range.loop]
  omega
set_option maxRecDepth 100000 in
set_option maxHeartbeats 2000000 in
theorem rjoin_f {p : Option Addr} {n cap : Nat} {ls : List (List Int)} (S : Sll w p n cap ls) (hf : fits ls = true) :
    Calls Try.prog 74 #[.slice p n cap] w fun e w' => ∃ q m c, e = .returned (.tuple #[.slice q m c, .bool true]) ∧ Bld w [] .u8 5 w' q m c (joinB ls) := by
  have HS := Lib.hid S
  have HN := Lib.hid S.len
  have hf1 : n ≤ 64 := by
    simp only [fits, Bool.and_eq_true, decide_eq_true_eq] at hf
    rw [HN.out] at hf
    exact hf.1
  have hf2 : ∀ l ∈ ls, l.length ≤ 4096 := by
    simp only [fits, Bool.and_eq_true, decide_eq_true_eq, List.all_eq_true] at hf
    exact hf.2
  have HF := Lib.hid hf2
  clear S hf hf2
  go_enter Try.func74, Try.ntmps74
  have d1 : decide ((n : Int) > 64) = false := by rw [decide_eq_false_iff_not]; omega
  have w1 : IntKind.u8.wrap (n : Int) = n := by rw [IntKind.wrap_u8, Int.emod_eq_of_lt] <;> omega
  go_wp2_with fail
  have hB0 : Bld w [] .u8 5 (w.alloc (.cells #[.int .u8 (n : Int)] 5)) (some ⟨w.heap.size, 0, none⟩) 1 1 (joinP ls 0) := by
    have h1 := Bld.of (k := .u8) (e := 5) (l := [(n : Int)]) (r := #[]) ((OwB.start w).allocN (.cells #[.int .u8 (n : Int)] 5) w.heap.size rfl) (by simp [maxLen])
    have e : joinP ls 0 = [(n : Int)] := by unfold joinP; rw [HN.out]; rfl
    rw [e]
    exact h1
  have HB0 := Lib.hid hB0
  clear hB0
  go_loopw [4, 5] (fun v iv wy => ∃ (i : Nat) (q : Option Addr) (m c : Nat), i ≤ n ∧ iv = .int .i64 (i : Int) ∧ v = .slice q m c ∧ m ≤ 1 + 4098 * i ∧ Hid (Bld w [] .u8 5 wy q m c (joinP ls i))) (fun _ iv _ => (n - intOf iv).toNat)
  case atStart => exact ⟨0, _, 1, 1, by omega, rfl, rfl, by omega, HB0⟩
  case round =>
    clear HB0
    obtain ⟨i, q, m, c, hi9, rfl, rfl, hm, hO⟩ := hrel
    by_cases hlt : i < n
    · have hd : decide ((i : Int) < (n : Int)) = true := by rw [decide_eq_true_eq]; omega
      obtain ⟨b, off, cs, T, fr, q2, m2, c2, l2, rfl, f00, hs, hc, hl, S2⟩ := HS.out.at hlt
      have f0 := hO.out.own.fr.get f00 (by simp)
      have hc2 := (Array.getElem?_eq_some_iff.1 hc).2
      have hl2 := HF.out l2 (List.mem_of_getElem? hl)
      have hm2 := S2.len
      have d2 : decide ((m2 : Int) > 4096) = false := by rw [decide_eq_false_iff_not]; omega
      have HL := Lib.hid hl
      have HS2 := Lib.hid S2
      have HM2 := Lib.hid hm2
      have F00 := Lib.hid f00
      clear hl S2 hm2 hl2 f00
      have hml : m2 ≤ 4096 := by rw [← HM2.out]; exact HF.out l2 (List.mem_of_getElem? HL.out)
      go_wp2_with fail
      refine (rnum_b (n := m2) (s := 2) (by omega) (by omega) (by omega)).mono ?_
      rintro e w3 ⟨b3, rfl, hb3, hs3, F3⟩
      have HO3 := Lib.hid (hO.out.call F3)
      have HB3 := Lib.hid hb3
      clear f0 hb3 F3 hs3
      have f0 := HO3.out.own.fr.get F00.out (by simp)
      go_wp2_with (refine wpList_app47 rfl _ _ rfl rfl HO3.out rfl (Sl.whole HB3.out (putB_length _ _)) (by omega) ?_)
      intro q3 c3 W3 hB3
      have HB4 := Lib.hid hB3
      have f1 := hB3.own.fr.get F00.out (by simp)
      clear hB3 f0
      go_wp2_with (refine wpList_app47 rfl _ _ rfl rfl HB4.out rfl (HS2.out.fr0 HB4.out.own.fr) (by omega) ?_)
      intro q4 c4 W4 hB4
      have HB5 := Lib.hid hB4
      clear hB4 f1
      go_wp2_with fail
      go_roundw
      case rel =>
        refine ⟨i + 1, q4, m + 2 + m2, c4, by omega, by simp, rfl, by omega, ?_⟩
        rw [joinP_succ HL.out, HM2.out, ← putB_two hml, List.append_assoc]
        exact HB5
      case measure => simp [intOf]; omega
    · obtain rfl : i = n := by omega
      have hd : decide ((i : Int) < (i : Int)) = false := by simp
      have ev := joinP_full HN.out
      rw [ev] at hO
      go_wp2_with fail
      exact bodyPost_ret (results_tmp2 rfl _ _ _) rfl ⟨q, m, c, rfl, hO.out⟩
set_option maxRecDepth 100000 in
set_option maxHeartbeats 2000000 in
theorem rall_f {p : Option Addr} {n cap : Nat} {ls : List (List Int)} (S : Sll w p n cap ls) (hf : fits ls = true) :
    Calls Try.prog 66 #[.slice p n cap] w fun e w' => ∃ q m c, e = .returned (.slice q m c) ∧ Bld w [] .u8 5 w' q m c (joinB ls) := by
  have HS := Lib.hid S
  clear S
  go_enter Try.func66, Try.ntmps66
  go_wp2_with fail
  refine (rjoin_f HS.out hf).mono ?_
  rintro e w1 ⟨q, m, c, rfl, B⟩
  have HB := Lib.hid B
  clear B
  go_wp2_with fail
  exact bodyPost_ret (results_tmp rfl _ _ _) rfl ⟨q, m, c, rfl, HB.out⟩
end
end Go.Proofs.Ytombhkekocbfoaa
namespace Go.St
open Go.Kd

/-! ### S of bytes -/
def sumW : Nat → Bs → Nat
  | _, [] => 0
  | i, c :: b => (i + 1) * c.toNat + sumW (i + 1) b
/-- S. -/
def S (b : Bs) : Nat := sumW 0 b % 2147483647
theorem sumW_append (a b : Bs) : ∀ i, sumW i (a ++ b) = sumW i a + sumW (i + a.length) b := by
  induction a with
  | nil => intro i; simp [sumW]
  | cons c a ih =>
    intro i
    rw [List.cons_append, sumW, sumW, ih, List.length_cons, show i + 1 + a.length = i + (a.length + 1) by omega]
    omega
theorem S_nil : S [] = 0 := rfl
theorem S_snoc (a : Bs) (c : Int) : S (a ++ [c]) = (S a + (a.length + 1) * c.toNat) % 2147483647 := by
  unfold S
  rw [sumW_append]
  simp only [sumW, Nat.add_zero, Nat.zero_add]
  omega
theorem S_lt (b : Bs) : S b < 2147483647 := Nat.mod_lt _ (by decide)
theorem cop : ∀ d : Nat, 0 < d → d < 256 → Nat.Coprime 2147483647 d := by
  have h : ∀ d ∈ List.range 256, 0 < d → Nat.gcd 2147483647 d = 1 := by decide +kernel
  intro d h0 h1
  exact h d (List.mem_range.2 h1) h0
theorem mod_ne {a b k d : Nat} (hab : a + k * d = b) (hd0 : 0 < d) (hd : d < 256) (hk0 : 0 < k) (hk : k < 2147483647) : a % 2147483647 ≠ b % 2147483647 := by
  intro h
  have h1 : (2147483647 : Nat) ∣ k * d := by
    have : k * d = b - a := by omega
    rw [this]
    exact Nat.dvd_of_mod_eq_zero (Nat.sub_mod_eq_zero_of_mod_eq h.symm)
  have h2 : (2147483647 : Nat) ∣ k := (cop d hd0 hd).dvd_of_dvd_mul_right h1
  have := Nat.le_of_dvd hk0 h2
  omega
/-- A byte that is another one turns S. -/
theorem S_turn {a b : Bs} {x y : Int} (hx : 0 ≤ x ∧ x < 256) (hy : 0 ≤ y ∧ y < 256) (hxy : x ≠ y) (hl : a.length + 1 < 2147483647) : S (a ++ x :: b) ≠ S (a ++ y :: b) := by
  unfold S
  rw [sumW_append, sumW_append]
  simp only [sumW, Nat.zero_add]
  rcases Int.lt_or_gt_of_ne hxy with h | h
  · refine mod_ne (k := a.length + 1) (d := y.toNat - x.toNat) ?_ (by omega) (by omega) (by omega) hl
    have : (a.length + 1) * y.toNat = (a.length + 1) * x.toNat + (a.length + 1) * (y.toNat - x.toNat) := by
      rw [← Nat.mul_add]; congr 1; omega
    omega
  · refine (mod_ne (k := a.length + 1) (d := x.toNat - y.toNat) ?_ (by omega) (by omega) (by omega) hl).symm
    have : (a.length + 1) * x.toNat = (a.length + 1) * y.toNat + (a.length + 1) * (x.toNat - y.toNat) := by
      rw [← Nat.mul_add]; congr 1; omega
    omega

/-! ### Headers and records -/
def headW : Bs := [104, 101, 97, 100]
def headP (e c n : Nat) : Bs := headW ++ putB e 8 ++ putB c 4 ++ putB n 4
def head24 (e c n : Nat) : Bs := headP e c n ++ putB (S (headP e c n)) 4
/-- A header's block. -/
def headB (e c n : Nat) : Bs := head24 e c n ++ zeros 40
def recT (e k : Nat) (p : Bs) : Bs := putB e 8 ++ putB k 4 ++ putB p.length 4 ++ p
def recH (e k : Nat) (p : Bs) : Bs := putB p.length 4 ++ putB (S (recT e k p)) 4
/-- A record's blocks. -/
def recB (e k : Nat) (p : Bs) : Bs := recH e k p ++ p ++ zeros ((64 - (8 + p.length) % 64) % 64)
theorem headP_length (e c n : Nat) : (headP e c n).length = 20 := by simp [headP, headW, putB_length]
theorem head24_length (e c n : Nat) : (head24 e c n).length = 24 := by simp [head24, headP_length, putB_length]
theorem headB_length (e c n : Nat) : (headB e c n).length = 64 := by simp [headB, head24_length, zeros]
theorem recH_length (e k : Nat) (p : Bs) : (recH e k p).length = 8 := by simp [recH, putB_length]
theorem recB_length (e k : Nat) (p : Bs) : (recB e k p).length = (8 + p.length + 63) / 64 * 64 := by
  simp only [recB, List.length_append, recH_length, zeros, List.length_replicate]
  omega

/-! ### Changes -/
structure Chg where
  name : Bs
  gone : Bool
  val : Bs
def chgP (c : Chg) : List Bs := if c.gone then [c.name] else [c.name, c.val]
def payB (l : List Chg) : Bs := joinB (l.map fun c => joinB (chgP c))
/-- Names and values by rising names: one more, one less. -/
def putL (n v : Bs) : List (Bs × Bs) → List (Bs × Bs)
  | [] => [(n, v)]
  | (m, u) :: L => if n < m then (n, v) :: (m, u) :: L else if n = m then (n, v) :: L else (m, u) :: putL n v L
def delL (n : Bs) (L : List (Bs × Bs)) : List (Bs × Bs) := L.filter fun x => decide (x.1 ≠ n)
def doC (L : List (Bs × Bs)) (c : Chg) : List (Bs × Bs) := if c.gone then delL c.name L else putL c.name c.val L
def allC (L : List (Bs × Bs)) (l : List Chg) : List (Bs × Bs) := l.foldl doC L
/-- By rising names. -/
def Sorted (L : List (Bs × Bs)) : Prop := L.Pairwise fun x y => x.1 < y.1
end Go.St
namespace Go.St
open Go.Kd Go.Dr
structure DM where
  n : Nat
  kept : List Int
  seen : List Int
  waits : List (Nat × List Int)
  fuse : Int
  dead : Bool
structure DM.Ok (m : DM) : Prop where
  n1 : 1 ≤ m.n
  n2 : m.n ≤ 4096
  kl : m.kept.length = 64 * m.n
  sl : m.seen.length = 64 * m.n
  f1 : -1 ≤ m.fuse
  f2 : m.fuse ≤ 9223372036854775807
  ws : ∀ x ∈ m.waits, x.1 < m.n ∧ x.2.length = 64
def aliveM (m : DM) : DM := if m.dead || m.fuse == 0 then { m with dead := true } else { m with fuse := if 0 < m.fuse then m.fuse - 1 else m.fuse, dead := false }
def livesM (m : DM) : Bool := !(m.dead || m.fuse == 0)
theorem aliveM_ok {m : DM} (h : m.Ok) : (aliveM m).Ok := by
  unfold aliveM
  have := h.f1; have := h.f2
  split
  · exact ⟨h.n1, h.n2, h.kl, h.sl, h.f1, h.f2, h.ws⟩
  · exact ⟨h.n1, h.n2, h.kl, h.sl, by dsimp only; split <;> omega, by dsimp only; split <;> omega, h.ws⟩
theorem aliveM_same (m : DM) : (aliveM m).n = m.n ∧ (aliveM m).kept = m.kept ∧ (aliveM m).seen = m.seen ∧ (aliveM m).waits = m.waits := by
  unfold aliveM; split <;> exact ⟨rfl, rfl, rfl, rfl⟩
def argM (m : DM) (at_ : Int) (b : List Int) : Bool := decide (at_ < 0) || decide ((m.n : Int) ≤ at_) || b.length != 64
def writeM (m : DM) (at_ : Int) (b : List Int) : Int × DM :=
  if argM m at_ b then (1, m) else if livesM m then (0, { aliveM m with seen := lay m.seen (at_.toNat * 64) b, waits := m.waits ++ [(at_.toNat, b)] }) else (150, aliveM m)
def layW (c : List Int) (ws : List (Nat × List Int)) : List Int := ws.foldl (fun c x => lay c (x.1 * 64) x.2) c
def noBlock (m : DM) (at_ : Int) : Bool := decide (at_ < 0) || decide ((m.n : Int) ≤ at_)
def blockOf (l : List Int) (at_ : Nat) : List Int := (l.take (at_ * 64 + 64)).drop (at_ * 64)
def crashM (m : DM) (keep : Int) : DM := { m with kept := layW m.kept (m.waits.take keep.toNat), seen := layW m.kept (m.waits.take keep.toNat), waits := [], fuse := -1, dead := false }
def newM (b : Int) : DM := ⟨(max 1 (min b 4096)).toNat, zs (64 * (max 1 (min b 4096)).toNat), zs (64 * (max 1 (min b 4096)).toNat), [], -1, false⟩
def syncM (m : DM) : Int × DM := if livesM m then (0, { aliveM m with kept := layW m.kept m.waits, waits := [] }) else (150, aliveM m)
def readM (m : DM) (at_ : Int) : Int × List Int := if noBlock m at_ then (1, []) else if m.dead then (150, []) else (0, blockOf m.seen at_.toNat)
def fuseM (m : DM) (n : Int) : DM := { m with fuse := max n (-1) }
theorem length_layW (n : Nat) : ∀ (ws : List (Nat × List Int)) (c : List Int), c.length = 64 * n → (∀ x ∈ ws, x.1 < n ∧ x.2.length = 64) → (layW c ws).length = 64 * n := by
  intro ws
  induction ws with
  | nil => intro c h _; exact h
  | cons x ws ih =>
    intro c h hx
    obtain ⟨h1, h2⟩ := hx x (by simp)
    exact ih _ (by rw [length_lay _ _ _ (by omega), h]) fun y hy => hx y (by simp [hy])
end Go.St
