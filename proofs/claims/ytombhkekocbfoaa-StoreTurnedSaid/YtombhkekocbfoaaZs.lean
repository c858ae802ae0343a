/- Joined: SoT, SoW, StO, SoTa, SoS. -/
import Derived.Test.YtombhkekocbfoaaRows
import Derived.Test.YtombhkekocbfoaaZb
import Derived.Test.YtombhkekocbfoaaZe
import Derived.Test.YtombhkekocbfoaaZg
import Derived.ProofKit
import Derived.OpenShut
import Derived.SizedLaws
import Derived.Deep.Slices
import Derived.Test.YtombhkekocbfoaaZi
import Derived.Test.YtombhkekocbfoaaZo
import Derived.Test.YtombhkekocbfoaaZh
import Derived.Test.YtombhkekocbfoaaZr
import Derived.Test.YtombhkekocbfoaaZn
import Derived.Test.YtombhkekocbfoaaZm
import Derived.Test.YtombhkekocbfoaaZq
set_option linter.unusedVariables false
set_option linter.unusedSimpArgs false
namespace Go.Proofs.Ytombhkekocbfoaa
open Go.ChangeShapes Go.WideShapes Go.ChangeAt Go.RowKit Go.Dr Go.Kd Go.St
theorem own : ownKnob Try.prog.godebug = none := by kernel_rfl
theorem laidOut : laidOutB Try.prog = true := by kernel_rfl
theorem Fr.below {W W' : World} (h : Fr [] W W') : Below W.heap.size W W' :=
  ⟨h.os, h.tape, h.output, h.size, fun k hk => h.at_ k hk (by simp)⟩
theorem cells5 : Try.prog.cellsOf 5 = 1 := by kernel_rfl
theorem bytes5 : Try.prog.bytesOf 5 = 1 := by kernel_rfl
theorem wf_u8 {n : Int} (h : (Lit.int .u8 n).wf = true) : 0 ≤ n ∧ n ≤ 255 := by
  simp [Lit.wf, IntKind.min, IntKind.max, IntKind.signed, IntKind.bits] at h; omega
theorem slice_cell {P : Program} {w : World} {r : Reach} {base u e : Nat} {v : Value} (h : Cell.okWide P w r base u v) (hu : P.underlying u = some (.slice e)) : ∃ p n c, v = .slice p n c := by
  unfold Cell.okWide at h
  rw [hu] at h
  cases v <;> simp only [Cell.ok, hu] at h <;> first | exact h.elim | exact ⟨_, _, _, rfl⟩ | skip
/-- Every text is some bytes. -/
theorem str_all (s : ByteArray) : ∃ n : List Int, (∀ x ∈ n, 0 ≤ x ∧ x < 256) ∧ s = strB n := by
  refine ⟨s.data.toList.map fun b => (b.toNat : Int), fun x hx => ?_, ?_⟩
  · obtain ⟨b, -, rfl⟩ := List.mem_map.1 hx
    have := b.toNat_lt
    omega
  · obtain ⟨d⟩ := s
    unfold strB
    congr 1
    apply Array.ext'
    simp only [List.map_map]
    refine (List.map_id _).symm.trans (List.map_congr_left fun b _ => ?_)
    simp [Function.comp]
section
variable {H : Type} {enc : TypeId × Value → H} {w : World} {base : Nat} {spare : Nat → Bool} {held : Bool}
/-- Cells that are there, one behind the other. -/
theorem cellsN {a : Addr} {cs : List Value} {n : Nat} (h : w.cells? base a n = some cs) : cs.length = n ∧ ∀ i v, cs[i]? = some v → w.cell? (a.add i) = some v := by
  unfold World.cells? at h
  split at h
  · have hl := mapM_some_length h
    refine ⟨by simpa using hl, fun i v hv => ?_⟩
    have hi : i < n := by
      have := (List.getElem?_eq_some_iff.1 hv).1
      simp only [List.length_range] at hl; omega
    have := mapM_some_get h i i (by simp [hi])
    rw [this]; exact hv
  · cases h

set_option maxRecDepth 100000 in
theorem spot_of22 {r : Reach} {b0 : Nat} {v : Value} (h : Cell.okWide Try.prog w r b0 22 v) : ∀ a n c, v = .slice (some a) n c → a.spot = none := fun a n c e => by
  subst e
  unfold Cell.okWide at h
  rw [Try.underlying22] at h
  simp only [Cell.ok, Try.underlying22] at h
  exact h.2.2.2.1
set_option maxRecDepth 100000 in
theorem open22 {r : Reach} {b0 : Nat} {v : Value} {d : DataW H} {ps : List MemPlace} (hval : Value.okWide Try.prog w r b0 22 v) (hd : DataW.Trod enc Try.prog w base spare held 22 v d ps) :
    ∃ p n c l, v = .slice p n c ∧ Sl .u8 w p n c l ∧ isBytes l ∧ (n = 0 ∨ ∃ es sp, d = .slice es sp ∧ es.length = n) := by
  unfold Value.okWide at hval
  rw [Try.underlying22] at hval
  obtain ⟨p, N0, c, rfl⟩ := slice_cell hval Try.underlying22
  obtain ⟨fuel, hf⟩ := hd
  have hsp := spot_of22 hval
  rcases Go.Deep.open_slice Try.underlying22 hf with ⟨hcs, _⟩ | ⟨a, len, cap, m, n, D, Pl, hcs, _, hlc, hcm, hmm, hx0, hel⟩
  · replace hcs : [Value.slice p N0 c] = [.slice none 0 0] := hcs
    simp only [List.cons.injEq, and_true] at hcs
    exact ⟨none, 0, 0, [], hcs, ⟨rfl, Nat.le_refl 0, .inl rfl, fun _ => rfl, by simp⟩, by simp [isBytes], .inl rfl⟩
  · replace hcs : [Value.slice p N0 c] = [.slice (some a) len cap] := hcs
    simp only [List.cons.injEq, and_true] at hcs
    have hle : len ≤ m := by rw [hmm]; split <;> omega
    have hspot : a.spot = none := hsp _ _ _ hcs
    obtain ⟨b, off, spot⟩ := a
    replace hspot : spot = none := hspot
    subst hspot
    have key : ∀ i, i < len → ∃ x : Int, (0 ≤ x ∧ x < 256) ∧ w.cell? ⟨b, off + i, none⟩ = some (.int .u8 x) := fun i hi => by
      obtain ⟨cs, hc, ht⟩ := hel i (by omega)
      rw [cells5] at hc
      obtain ⟨hl4, hcell⟩ := cellsN hc
      obtain ⟨y, hy, _, q⟩ := DataW.trod_int Try.underlying5 ht
      subst hy
      have := wf_u8 q
      refine ⟨y, ⟨this.1, by omega⟩, ?_⟩
      have h := hcell 0 _ rfl
      rw [Go.Deep.add_add, Addr.add_mid] at h
      simpa using h
    obtain ⟨f, hf'⟩ := Classical.axiomOfChoice (r := fun (i : Nat) (x : Int) => i < len → (0 ≤ x ∧ x < 256) ∧ w.cell? ⟨b, off + i, none⟩ = some (.int .u8 x)) (fun i => by
      by_cases hi : i < len
      · obtain ⟨x, h⟩ := key i hi; exact ⟨x, fun _ => h⟩
      · exact ⟨0, fun h => absurd h hi⟩)
    refine ⟨some ⟨b, off, none⟩, len, cap, (List.range len).map f, hcs, ⟨by simp, hlc, ?_, by simp, by simp⟩, fun x hx => ?_, .inr ⟨_, _, congrArg Prod.fst hx0, by simp⟩⟩
    · rcases Nat.eq_zero_or_pos len with h0 | h0
      · exact .inl h0
      · right
        have hb := (hf' 0 h0).2
        rw [World.cell?_at] at hb
        cases hbl : w.blk b with
        | none => rw [hbl] at hb; simp at hb
        | some o =>
          cases o with
          | cells cs T fr =>
            have hall : ∀ i, i < len → cs[off + i]? = some (.int .u8 (f i)) := fun i hi => by
              have h := (hf' i hi).2
              rw [World.cell?_at, hbl] at h
              exact h
            have hlast := (Array.getElem?_eq_some_iff.1 (hall (len - 1) (by omega))).1
            refine ⟨b, off, cs, T, fr, rfl, hbl, by omega, ?_⟩
            apply List.ext_getElem?
            intro k
            rcases Nat.lt_or_ge k len with hk | hk
            · rw [Array.getElem?_toList, Array.getElem?_extract_of_lt (by omega), ← Array.getElem?_eq_getElem, hall k hk]
              simp [hk]
            · rw [List.getElem?_eq_none (by rw [Array.length_toList, Array.size_extract]; omega), List.getElem?_eq_none (by simp; omega)]
          | _ => rw [hbl] at hb; simp at hb
    · obtain ⟨i, hi, rfl⟩ := List.mem_map.1 hx
      exact (hf' i (List.mem_range.1 hi)).1
end
theorem and_true' {a b : Bool} (h : a = true) (k : b = true) : (a && b) = true := by rw [h, k]; rfl
theorem mapsRowedFact : (mapsRowed Try.pinned.checked.prog) = true := by kernel_rfl
theorem mayEnterFact : (Try.pinned.checked.prog.mayEnter) = true := by kernel_rfl
theorem liftsFact : ((Rows.storeOwnRow.lifted == Try.pinned.checked.prog.liftsFinal)) = true := by kernel_rfl
theorem makeFact : ((Try.pinned.checked.prog.make == some Rows.storeOwnRow.make)) = true := by kernel_rfl
end Go.Proofs.Ytombhkekocbfoaa
namespace Go.Proofs.Ytombhkekocbfoaa
open Go.ChangeShapes Go.WideShapes Go.ChangeAt Go.RowKit Go.Dr Go.Kd Go.St
theorem cells32 : Try.prog.cellsOf 32 = 3 := by kernel_rfl
theorem cells62 : Try.prog.cellsOf 62 = 4 := by kernel_rfl
theorem cells9 : Try.prog.cellsOf 9 = 1 := by kernel_rfl
theorem cells22 : Try.prog.cellsOf 22 = 1 := by kernel_rfl
theorem cells33 : Try.prog.cellsOf 33 = 1 := by kernel_rfl
theorem cells4 : Try.prog.cellsOf 4 = 1 := by kernel_rfl
theorem cells3 : Try.prog.cellsOf 3 = 1 := by kernel_rfl
theorem wf_i64' {n : Int} (h : (Lit.int .i64 n).wf = true) : -9223372036854775808 ≤ n ∧ n ≤ 9223372036854775807 := by
  simp [Lit.wf, IntKind.min, IntKind.max, IntKind.signed, IntKind.bits] at h; omega
/-- Rows of structs whose cells are read one by one. -/
theorem sv_of {α : Type} {sz : Nat} (hz : 0 < sz) {w : World} {a : Addr} {len cap : Nat} {C : α → List Value} {O : α → Prop} (d : α) (hlc : len ≤ cap) (hC : ∀ x, O x → (C x).length = sz)
    (key : ∀ i, i < len → ∃ x, O x ∧ ∀ j v, (C x)[j]? = some v → w.cell? (a.add (i * sz + j)) = some v) :
    ∃ l : List α, l.length = len ∧ (∀ x ∈ l, O x) ∧ Sv sz w (some a) len cap (l.flatMap C) := by
  obtain ⟨f, hf'⟩ := Classical.axiomOfChoice (r := fun (i : Nat) (b : α) => i < len → O b ∧ ∀ j v, (C b)[j]? = some v → w.cell? (a.add (i * sz + j)) = some v)
    (fun i => by
      by_cases hi : i < len
      · obtain ⟨o, h⟩ := key i hi; exact ⟨o, fun _ => h⟩
      · exact ⟨d, fun h => absurd h hi⟩)
  have okl : ∀ x ∈ (List.range len).map f, O x := fun x hx => by
    obtain ⟨i, hi, rfl⟩ := List.mem_map.1 hx
    exact (hf' i (List.mem_range.1 hi)).1
  have hlen : ((List.range len).map f).length = len := by simp
  refine ⟨(List.range len).map f, hlen, okl, ?_⟩
  rcases Nat.eq_zero_or_pos len with h0 | h0
  · subst h0
    exact ⟨by simp, hlc, .inl rfl, (fun h => by cases h), trivial⟩
  have szc : ∀ i, i < len → (C (f i)).length = sz := fun i hi => hC _ (hf' i hi).1
  have cell : ∀ i, i < len → ∀ j, j < sz → w.cell? (a.add (i * sz + j)) = (C (f i))[j]? := fun i hi j hj => by
    have h1 : (C (f i))[j]? = some ((C (f i))[j]'(by rw [szc i hi]; exact hj)) := List.getElem?_eq_getElem _
    rw [(hf' i hi).2 j _ h1, ← h1]
  have hfirst := cell 0 h0 0 hz
  rw [List.getElem?_eq_getElem (by rw [szc 0 h0]; exact hz)] at hfirst
  rw [show 0 * sz + 0 = 0 by omega] at hfirst
  obtain ⟨b, off, spot⟩ := a
  have hspot : spot = none := by
    unfold World.cell? at hfirst
    rw [Addr.add_zero'] at hfirst
    split at hfirst
    · cases spot with
      | none => rfl
      | some s => simp at hfirst
    · cases hfirst
  subst hspot
  have hlast := cell (len - 1) (by omega) (sz - 1) (by omega)
  rw [List.getElem?_eq_getElem (by rw [szc (len - 1) (by omega)]; omega), Addr.add_mid, World.cell?_at] at hlast
  cases hb : w.blk b with
  | none => rw [hb] at hlast; cases hlast
  | some ob =>
    rw [hb] at hlast
    cases ob with
    | cells cs T fr =>
      have hsz : off + ((len - 1) * sz + (sz - 1)) < cs.size := (Array.getElem?_eq_some_iff.1 hlast).1
      have hmul : len * sz = (len - 1) * sz + sz := by rw [← Nat.succ_mul]; congr 1; omega
      have flat : ∀ l : List α, (∀ x ∈ l, O x) → (l.flatMap C).length = l.length * sz := by
        intro l
        induction l with
        | nil => intro _; simp
        | cons x l ih =>
          intro hx
          rw [List.flatMap_cons, List.length_append, hC x (hx x (by simp)), ih (fun y hy => hx y (by simp [hy])), List.length_cons, Nat.add_mul]
          omega
      have hfl : (((List.range len).map f).flatMap C).length = len * sz := by rw [flat _ okl, hlen]
      refine ⟨hfl, hlc, .inr ⟨b, off, cs, T, fr, rfl, hb, by omega, ?_⟩, (fun h => by cases h), trivial⟩
      apply List.ext_getElem?
      intro k
      rcases Nat.lt_or_ge k (len * sz) with hk | hk
      · have hi : k / sz < len := Nat.div_lt_of_lt_mul (by rw [Nat.mul_comm]; exact hk)
        have hj : k % sz < sz := Nat.mod_lt _ hz
        have hkk : k / sz * sz + k % sz = k := by rw [Nat.mul_comm]; exact Nat.div_add_mod k sz
        have h2 := cell (k / sz) hi (k % sz) hj
        rw [Addr.add_mid, World.cell?_at, hb] at h2
        have h3 : cs[off + (k / sz * sz + k % sz)]? = (C (f (k / sz)))[k % sz]? := h2
        rw [hkk] at h3
        rw [Array.getElem?_toList, Array.getElem?_extract_of_lt (by omega), ← Array.getElem?_eq_getElem, h3]
        have part : ∀ (l : List α) (i : Nat) (x : α), (∀ y ∈ l, O y) → l[i]? = some x → ((l.flatMap C).drop (i * sz)).take sz = C x := by
          intro l
          induction l with
          | nil => intro i x _ h; simp at h
          | cons y l ih =>
            intro i x ho h
            have hy := hC y (ho y (by simp))
            cases i with
            | zero =>
              simp only [List.getElem?_cons_zero, Option.some.injEq] at h
              subst h
              rw [Nat.zero_mul, List.drop_zero, List.flatMap_cons, ← hy, List.take_left]
            | succ i =>
              rw [List.getElem?_cons_succ] at h
              rw [List.flatMap_cons, show (i + 1) * sz = (C y).length + i * sz by rw [hy, Nat.add_mul]; omega, List.drop_append, List.drop_of_length_le (by omega), Nat.add_sub_cancel_left, List.nil_append]
              exact ih i x (fun z hz => ho z (by simp [hz])) h
        have h4 := part ((List.range len).map f) (k / sz) (f (k / sz)) okl (by simp [hi])
        have h5 : (((List.range len).map f).flatMap C)[k]? = (((((List.range len).map f).flatMap C).drop (k / sz * sz)).take sz)[k % sz]? := by
          rw [List.getElem?_take, if_pos hj, List.getElem?_drop, hkk]
        rw [h5, h4]
      · rw [List.getElem?_eq_none (by rw [Array.length_toList, Array.size_extract]; omega), List.getElem?_eq_none (by omega)]
    | _ => cases hlast
/-- A change as it lies. -/
structure ChI (w : World) where
  c : Chg
  q : Option Addr
  m : Nat
  d : Nat
  s : Sl .u8 w q m d c.val
  nb : Byt c.name
  vb : Byt c.val
def chI {w : World} (x : ChI w) : List Value := [.string (strB x.c.name), .slice x.q x.m x.d, .bool x.c.gone]
theorem chV_of {w : World} : ∀ l : List (ChI w), ChV w (l.flatMap chI) (l.map (·.c))
  | [] => .nil
  | x :: l => .cons x.s (chV_of l)
/-- A step as it lies: its changes. -/
structure StI (w : World) where
  l : List Chg
  q : Option Addr
  m : Nat
  d : Nat
  fuse : Int
  crash : Bool
  keep : Int
  c : Chs w q m d l
  b : ∀ c ∈ l, Byt c.name ∧ Byt c.val
  f1 : -9223372036854775808 ≤ fuse ∧ fuse ≤ 9223372036854775807
  k1 : -9223372036854775808 ≤ keep ∧ keep ≤ 9223372036854775807
  len : m ≤ 9223372036854775807
def stI {w : World} (x : StI w) : List Value := [.slice x.q x.m x.d, .int .i64 x.fuse, .bool x.crash, .int .i64 x.keep]
section
variable {H : Type} {enc : TypeId × Value → H} {w : World} {base : Nat} {spare : Nat → Bool} {held : Bool}
set_option maxRecDepth 100000 in
/-- Bytes that lie in a struct. -/
theorem bytes_of_trod {fuel : Nat} {cs : List Value} {x : DataW H × List MemPlace} (hf : DataW.trod enc Try.prog w base spare held fuel 22 cs = some x) :
    ∃ p n c l, cs = [.slice p n c] ∧ Sl .u8 w p n c l ∧ isBytes l := by
  rcases Go.Deep.open_slice Try.underlying22 hf with ⟨hcs, _⟩ | ⟨a, len, cap, m, n, D, Pl, hcs, _, hlc, hcm, hmm, _, hel⟩
  · exact ⟨none, 0, 0, [], hcs, ⟨rfl, Nat.le_refl 0, .inl rfl, fun _ => rfl, trivial⟩, by simp [isBytes]⟩
  · have hle : len ≤ m := by rw [hmm]; split <;> omega
    obtain ⟨l, h1, h2, h3⟩ := sv_of (sz := 1) (by omega) (C := fun x : Int => [Value.int .u8 x]) (O := fun x => 0 ≤ x ∧ x < 256) 0 hlc (fun x hx => rfl) (w := w) (a := a) fun i hi => by
      obtain ⟨cs, hc, ht⟩ := hel i (by omega)
      rw [cells5] at hc
      obtain ⟨hl4, hcell⟩ := cellsN hc
      obtain ⟨y, hy, _, q⟩ := DataW.trod_int Try.underlying5 ht
      subst hy
      have := wf_u8 q
      refine ⟨y, ⟨this.1, by omega⟩, fun j v hv => ?_⟩
      have := hcell j v hv
      rwa [Go.Deep.add_add] at this
    refine ⟨some a, len, cap, l, hcs, ⟨h1, hlc, ?_, (fun h => by cases h), trivial⟩, h2⟩
    rcases h3.row with h0 | ⟨b, off, cs, T, fr, e, hb, hs, hx⟩
    · exact .inl h0
    · refine .inr ⟨b, off, cs, T, fr, e, hb, by omega, ?_⟩
      rw [Nat.mul_one] at hx
      rw [hx]
      clear hx h1 h2 h3
      induction l with
      | nil => rfl
      | cons x l ih => simp [ih]
theorem drop_split (cs : List Value) (a b : Nat) : cs.drop a = (cs.drop a).take b ++ cs.drop (a + b) := by
  rw [← List.drop_drop, List.take_append_drop]
set_option maxRecDepth 100000 in
theorem change_of_trod {fuel : Nat} {cs : List Value} {x : DataW H × List MemPlace} (h : DataW.trod enc Try.prog w base spare held fuel 32 cs = some x) :
    ∃ y : ChI w, cs = chI y := by
  obtain ⟨xs, m, rfl, _, hl, hxl, hf⟩ := DataW.trod_struct Try.underlying32 h
  rw [cells32] at hl
  have hs : xs.length = 3 := hxl
  have h0 : DataW.trod enc Try.prog w base spare held m 9 ((cs.drop 0).take (Try.prog.cellsOf 9)) = xs[0]? := hf 0 _ rfl
  have h1 : DataW.trod enc Try.prog w base spare held m 22 ((cs.drop 1).take (Try.prog.cellsOf 22)) = xs[1]? := hf 1 _ rfl
  have h2 : DataW.trod enc Try.prog w base spare held m 4 ((cs.drop 2).take (Try.prog.cellsOf 4)) = xs[2]? := hf 2 _ rfl
  rw [cells9] at h0
  rw [cells22] at h1
  rw [cells4] at h2
  rw [List.getElem?_eq_getElem (by omega)] at h0 h1 h2
  obtain ⟨s0, p0, _, _⟩ := DataW.trod_string Try.underlying9 h0
  obtain ⟨p, n, c, l, p1, S1, b1⟩ := bytes_of_trod h1
  obtain ⟨g, p2, _⟩ := DataW.trod_bool Try.underlying4 h2
  obtain ⟨nm, hnm, hs0⟩ := str_all s0
  refine ⟨⟨⟨nm, g, l⟩, p, n, c, S1, hnm, b1⟩, ?_⟩
  have e : cs = cs.drop 0 := rfl
  rw [e, drop_split cs 0 1, drop_split cs (0 + 1) 1, drop_split cs (0 + 1 + 1) 1]
  rw [show 0 + 1 = 1 from rfl, show 1 + 1 = 2 from rfl, show 2 + 1 = 3 from rfl, p0, p1, p2, List.drop_of_length_le (by omega), hs0]
  rfl
set_option maxRecDepth 100000 in
theorem changes_of_trod {fuel : Nat} {cs : List Value} {x : DataW H × List MemPlace} (hf : DataW.trod enc Try.prog w base spare held fuel 33 cs = some x) :
    ∃ p n c l, cs = [.slice p n c] ∧ Chs w p n c l ∧ (∀ x ∈ l, Byt x.name ∧ Byt x.val) ∧ n ≤ 9223372036854775807 := by
  rcases Go.Deep.open_slice Try.underlying33 hf with ⟨hcs, _⟩ | ⟨a, len, cap, m, n, D, Pl, hcs, _, hlc, hcm, hmm, _, hel⟩
  · exact ⟨none, 0, 0, [], hcs, ⟨[], ⟨rfl, Nat.le_refl 0, .inl rfl, fun _ => rfl, trivial⟩, .nil⟩, by simp, by omega⟩
  · have hle : len ≤ m := by rw [hmm]; split <;> omega
    have key : ∀ i, i < len → ∃ x : ChI w, True ∧ ∀ j v, (chI x)[j]? = some v → w.cell? (a.add (i * 3 + j)) = some v := fun i hi => by
      obtain ⟨cs, hc, ht⟩ := hel i (by omega)
      rw [cells32] at hc
      obtain ⟨hl4, hcell⟩ := cellsN hc
      obtain ⟨y, rfl⟩ := change_of_trod ht
      refine ⟨y, trivial, fun j v hv => ?_⟩
      have := hcell j v hv
      rwa [Go.Deep.add_add] at this
    obtain ⟨l, h1, -, h3⟩ := sv_of (sz := 3) (by omega) (C := chI) (O := fun _ => True) ⟨⟨[], false, []⟩, none, 0, 0, ⟨rfl, Nat.le_refl 0, .inl rfl, fun _ => rfl, trivial⟩, by simp [Byt], by simp [Byt]⟩ hlc (fun x _ => rfl) key
    refine ⟨some a, len, cap, l.map (·.c), hcs, ⟨_, h3, chV_of l⟩, fun x hx => ?_, by unfold maxLen at hcm; omega⟩
    obtain ⟨y, _, rfl⟩ := List.mem_map.1 hx
    exact ⟨y.nb, y.vb⟩
set_option maxRecDepth 100000 in
theorem step_of_trod {fuel : Nat} {cs : List Value} {x : DataW H × List MemPlace} (h : DataW.trod enc Try.prog w base spare held fuel 62 cs = some x) :
    ∃ y : StI w, cs = stI y := by
  obtain ⟨xs, m, rfl, _, hl, hxl, hf⟩ := DataW.trod_struct Try.underlying62 h
  rw [cells62] at hl
  have hs : xs.length = 4 := hxl
  have h0 : DataW.trod enc Try.prog w base spare held m 33 ((cs.drop 0).take (Try.prog.cellsOf 33)) = xs[0]? := hf 0 _ rfl
  have h1 : DataW.trod enc Try.prog w base spare held m 3 ((cs.drop 1).take (Try.prog.cellsOf 3)) = xs[1]? := hf 1 _ rfl
  have h2 : DataW.trod enc Try.prog w base spare held m 4 ((cs.drop 2).take (Try.prog.cellsOf 4)) = xs[2]? := hf 2 _ rfl
  have h3 : DataW.trod enc Try.prog w base spare held m 3 ((cs.drop 3).take (Try.prog.cellsOf 3)) = xs[3]? := hf 3 _ rfl
  rw [cells33] at h0
  rw [cells3] at h1 h3
  rw [cells4] at h2
  rw [List.getElem?_eq_getElem (by omega)] at h0 h1 h2 h3
  obtain ⟨p, n, c, l, p0, C0, b0, n0⟩ := changes_of_trod h0
  obtain ⟨n1, p1, _, q1⟩ := DataW.trod_int Try.underlying3 h1
  obtain ⟨g, p2, _⟩ := DataW.trod_bool Try.underlying4 h2
  obtain ⟨n3, p3, _, q3⟩ := DataW.trod_int Try.underlying3 h3
  refine ⟨⟨l, p, n, c, n1, g, n3, C0, b0, wf_i64' q1, wf_i64' q3, n0⟩, ?_⟩
  have e : cs = cs.drop 0 := rfl
  rw [e, drop_split cs 0 1, drop_split cs (0 + 1) 1, drop_split cs (0 + 1 + 1) 1, drop_split cs (0 + 1 + 1 + 1) 1]
  rw [show 0 + 1 = 1 from rfl, show 1 + 1 = 2 from rfl, show 2 + 1 = 3 from rfl, show 3 + 1 = 4 from rfl, p0, p1, p2, p3, List.drop_of_length_le (by omega)]
  rfl
set_option maxRecDepth 100000 in
theorem open33 {r : Reach} {b0 : Nat} {v : Value} {d : DataW H} {ps : List MemPlace} (hval : Value.okWide Try.prog w r b0 33 v) (hd : DataW.Trod enc Try.prog w base spare held 33 v d ps) :
    ∃ p n c l, v = .slice p n c ∧ Chs w p n c l ∧ (∀ x ∈ l, Byt x.name ∧ Byt x.val) ∧ n ≤ 9223372036854775807 := by
  unfold Value.okWide at hval
  rw [Try.underlying33] at hval
  obtain ⟨p, N0, c, rfl⟩ := slice_cell hval Try.underlying33
  obtain ⟨fuel, hf⟩ := hd
  obtain ⟨p', n', c', l, h1, h2, h3, h4⟩ := changes_of_trod hf
  replace h1 : [Value.slice p N0 c] = [.slice p' n' c'] := h1
  simp only [List.cons.injEq, and_true] at h1
  exact ⟨p', n', c', l, h1, h2, h3, h4⟩
/-- Steps, as they lie. -/
def Stps (w : World) (p : Option Addr) (n cap : Nat) (l : List (StI w)) : Prop := Sv 4 w p n cap (l.flatMap stI) ∧ l.length = n
set_option maxRecDepth 100000 in
theorem openSteps {r : Reach} {b0 : Nat} {v : Value} {d : DataW H} {ps : List MemPlace} (hval : Value.okWide Try.prog w r b0 59 v) (hd : DataW.Trod enc Try.prog w base spare held 59 v d ps) :
    ∃ p n c, ∃ l : List (StI w), v = .slice p n c ∧ Stps w p n c l ∧ n ≤ 9223372036854775807 := by
  unfold Value.okWide at hval
  rw [Try.underlying59] at hval
  obtain ⟨p, N0, c, rfl⟩ := slice_cell hval Try.underlying59
  obtain ⟨fuel, hf⟩ := hd
  rcases Go.Deep.open_slice Try.underlying59 hf with ⟨hcs, _⟩ | ⟨a, len, cap, m, n, D, Pl, hcs, _, hlc, hcm, hmm, _, hel⟩
  · replace hcs : [Value.slice p N0 c] = [.slice none 0 0] := hcs
    simp only [List.cons.injEq, and_true] at hcs
    exact ⟨none, 0, 0, [], hcs, ⟨⟨rfl, Nat.le_refl 0, .inl rfl, fun _ => rfl, trivial⟩, rfl⟩, by omega⟩
  · replace hcs : [Value.slice p N0 c] = [.slice (some a) len cap] := hcs
    simp only [List.cons.injEq, and_true] at hcs
    have hle : len ≤ m := by rw [hmm]; split <;> omega
    have key : ∀ i, i < len → ∃ x : StI w, True ∧ ∀ j v, (stI x)[j]? = some v → w.cell? (a.add (i * 4 + j)) = some v := fun i hi => by
      obtain ⟨cs, hc, ht⟩ := hel i (by omega)
      rw [cells62] at hc
      obtain ⟨hl4, hcell⟩ := cellsN hc
      obtain ⟨y, rfl⟩ := step_of_trod ht
      refine ⟨y, trivial, fun j v hv => ?_⟩
      have := hcell j v hv
      rwa [Go.Deep.add_add] at this
    obtain ⟨l, h1, -, h3⟩ := sv_of (sz := 4) (by omega) (C := stI) (O := fun _ => True) ⟨[], none, 0, 0, 0, false, 0, ⟨[], ⟨rfl, Nat.le_refl 0, .inl rfl, fun _ => rfl, trivial⟩, .nil⟩, by simp, by omega, by omega, by omega⟩ hlc (fun x _ => rfl) key
    exact ⟨some a, len, cap, l, hcs, ⟨h3, h1⟩, by unfold maxLen at hcm; omega⟩
end
end Go.Proofs.Ytombhkekocbfoaa
namespace Go.St
open Go.Kd Go.Dr Go.Proofs.Ytombhkekocbfoaa
theorem seg_set (l : Bs) (p a k : Nat) (y : Int) : seg (l.set p y) a k = if p < a then seg l a k else (seg l a k).set (p - a) y := by
  unfold seg
  rw [List.drop_set]
  split
  · rfl
  · rw [List.take_set]
theorem seg_set_out {l : Bs} {p a k : Nat} {y : Int} (h : p < a ∨ a + k ≤ p) : seg (l.set p y) a k = seg l a k := by
  rw [seg_set]
  split
  · rfl
  · rw [List.set_eq_of_length_le]
    unfold seg
    rw [List.length_take]
    omega
theorem seg_set_in {l : Bs} {p a k : Nat} {y : Int} (h : a ≤ p) : seg (l.set p y) a k = (seg l a k).set (p - a) y := by
  rw [seg_set, if_neg (by omega)]
theorem seg_get {l : Bs} {a k i : Nat} (h : i < k) : (seg l a k)[i]? = l[a + i]? := by
  unfold seg
  rw [List.getElem?_take, if_pos h, List.getElem?_drop]
theorem plc_lt {e : Nat} : ∀ (c k : Nat) (all : Bs) (L L1 : List (Bs × Bs)) (off q : Nat), all.length % 64 = 0 → readR e c k all L = some L1 → q ∈ plc c all off → q < off + all.length := by
  intro c
  induction c with
  | zero => intro k all L L1 off q _ _ h; cases h
  | succ c ih =>
    intro k all L L1 off q hm h hq
    rw [readR] at h
    split at h
    · cases h
    · rename_i hnil
      have hpos : 64 ≤ all.length := by
        have : all.length ≠ 0 := fun h0 => hnil (List.eq_nil_of_length_eq_zero h0)
        omega
      split at h
      · cases h
      · rename_i hn
        split at h
        · split at h
          · cases h
          · split at h
            · cases h
            · rw [plc] at hq
              rcases List.mem_append.1 hq with hq | hq
              · obtain ⟨i, hi, rfl⟩ := List.mem_map.1 hq
                have := List.mem_range.1 hi
                omega
              · have := ih _ _ _ _ _ _ (by rw [List.length_drop]; omega) h hq
                rw [List.length_drop] at this
                omega
        · cases h
/-- The places of a half's header that was written. -/
def hdPl (m : DM) (a : Nat) : List Nat := if el m.kept (a * (m.n / 2) * 64) = 0 then [] else (List.range 24).map fun i => a * (m.n / 2) * 64 + i
/-- The places that count. -/
def PL (m : DM) (sp : SP) : List Nat := hdPl m 0 ++ hdPl m 1 ++ plc sp.count (recsM m sp.half sp.fin) ((sp.half * (m.n / 2) + 1) * 64)
theorem look_none_zero {b : Bs} {h : Nat} (hl : lookH b h = some none) : b.all (fun x => x == 0) = true := by
  unfold lookH at hl
  split at hl
  · assumption
  · split at hl <;> cases hl
theorem look_half {m : DM} {sp : SP} (g : Good m sp) {a : Nat} (ha : a ≤ 1) (hz : el m.kept (a * (m.n / 2) * 64) ≠ 0) : ∃ x, lookH (seg m.kept (a * (m.n / 2) * 64) 64) (m.n / 2) = some (some x) := by
  have k := g.k
  have cnt := k.cnt
  have f2 := k.f2
  have n2 := k.n2
  have n4 := k.n4
  have hcl := k.cl
  by_cases h : a = sp.half
  · subst h
    rw [k.hd]
    exact ⟨_, look_head k.e64 (by omega) (by omega) k.f1 k.f2⟩
  · have h2 : a = 1 - sp.half := by have := k.half; omega
    obtain ⟨o, ho, -⟩ := k.oth
    rw [h2] at hz ⊢
    cases o with
    | some x => exact ⟨x, ho⟩
    | none =>
      exfalso
      have hall := look_none_zero ho
      have hlt : (1 - sp.half) * (m.n / 2) * 64 + 64 ≤ m.kept.length := by
        rcases half_cases k.half with h | h <;> rw [h, hcl] <;> omega
      have hg := seg_get (l := m.kept) (a := (1 - sp.half) * (m.n / 2) * 64) (k := 64) (i := 0) (by omega)
      have hel := List.getElem?_eq_getElem (l := m.kept) (i := (1 - sp.half) * (m.n / 2) * 64) (by omega)
      rw [Nat.add_zero, hel] at hg
      have hm := List.mem_of_getElem? hg
      have h0 := List.all_eq_true.1 hall _ hm
      apply hz
      rw [el, List.getD_eq_getElem?_getD, hel]
      simpa using h0
theorem pl_lt {m : DM} {sp : SP} (g : Good m sp) {p : Nat} (hp : p ∈ PL m sp) : p < 64 * m.n := by
  have k := g.k
  have f1 := k.f1
  have f2 := k.f2
  have n4 := k.n4
  have hsl := g.ok.sl
  have hh := half_cases k.half
  unfold PL at hp
  rcases List.mem_append.1 hp with hp | hp
  · have key : ∀ a, a ≤ 1 → p ∈ hdPl m a → p < 64 * m.n := fun a ha h => by
      unfold hdPl at h
      split at h
      · cases h
      · obtain ⟨i, hi, rfl⟩ := List.mem_map.1 h
        have := List.mem_range.1 hi
        rcases half_cases ha with h | h <;> subst h <;> omega
    rcases List.mem_append.1 hp with h | h
    · exact key 0 (by omega) h
    · exact key 1 (by omega) h
  · have hrec : recsM m sp.half sp.fin = seg m.kept ((sp.half * (m.n / 2) + 1) * 64) ((sp.fin - 1) * 64) := by rw [recsM, g.sk]; rfl
    have hlen : (recsM m sp.half sp.fin).length = (sp.fin - 1) * 64 := by
      rw [recsM, List.length_take, List.length_drop]
      rcases hh with h | h <;> rw [h] <;> omega
    have h1 := plc_lt _ 0 _ [] sp.L _ _ (by rw [hlen]; omega) (by rw [hrec]; exact k.recs) hp
    rw [hlen] at h1
    rcases hh with h | h <;> rw [h] at h1 <;> omega
theorem turned_open {m : DM} {sp : SP} (g : Good m sp) (hb : Byt m.kept) {p : Nat} (hp : p ∈ PL m sp) {y : Int} (hy : 0 ≤ y ∧ y < 256) (hne : m.kept[p]? ≠ some y) {m2 : DM} (h1 : m2.n = m.n) (h2 : m2.dead = false) (h3 : m2.seen = m.kept.set p y) : openM m2 = (160, none, m2) := by
  have k := g.k
  have f1 := k.f1
  have f2 := k.f2
  have n4 := k.n4
  have n2 := k.n2
  have cnt := k.cnt
  have hcl := k.cl
  have hh := half_cases k.half
  have hn4 : ¬ m2.n < 4 := by rw [h1]; omega
  unfold PL at hp
  rcases List.mem_append.1 hp with hp | hp
  · have key : ∀ a, a ≤ 1 → p ∈ hdPl m a → lookH (blockOf m2.seen (a * (m.n / 2))) (m.n / 2) = none := fun a ha h => by
      unfold hdPl at h
      split at h
      · cases h
      · rename_i hz
        obtain ⟨i, hi, rfl⟩ := List.mem_map.1 h
        have hi := List.mem_range.1 hi
        obtain ⟨x, hx⟩ := look_half g ha hz
        have hlt : a * (m.n / 2) * 64 + 64 ≤ m.kept.length := by
          rcases half_cases ha with h | h <;> subst h <;> rw [hcl] <;> omega
        rw [h3, blockOf_seg, seg_set_in (by omega), Nat.add_sub_cancel_left]
        exact look_turn ((hb.drop _).take _) (seg_length hlt) hx hi hy (by rw [seg_get (by omega)]; exact hne)
    rcases List.mem_append.1 hp with h | h
    · have := key 0 (by omega) h
      rw [Nat.zero_mul] at this
      exact openM_no0 (h := m.n / 2) hn4 h2 (by rw [h1]) this
    · have := key 1 (by omega) h
      rw [Nat.one_mul] at this
      exact openM_no1 (h := m.n / 2) hn4 h2 (by rw [h1]) this
  · have hrec : recsM m sp.half sp.fin = seg m.kept ((sp.half * (m.n / 2) + 1) * 64) ((sp.fin - 1) * 64) := by rw [recsM, g.sk]; rfl
    have hlen : (recsM m sp.half sp.fin).length = (sp.fin - 1) * 64 := by
      have hsl := g.ok.sl
      rw [recsM, List.length_take, List.length_drop]
      rcases hh with h | h <;> rw [h] <;> omega
    have hlt := plc_lt _ 0 _ [] sp.L _ _ (by rw [hlen]; omega) (by rw [hrec]; exact k.recs) hp
    have hge := plc_ge _ _ _ _ hp
    rw [hlen] at hlt
    have hrd : readR sp.epoch sp.count 0 (recsM m2 sp.half sp.fin) [] = none := by
      have e : recsM m2 sp.half sp.fin = (recsM m sp.half sp.fin).set (p - (sp.half * (m.n / 2) + 1) * 64) y := by
        rw [hrec, ← seg_set_in hge, recsM, h1, h3]; rfl
      rw [e]
      refine readR_turn hy _ 0 _ [] sp.L _ p (by rw [hrec]; exact (hb.drop _).take _) (by rw [hlen]; omega) (by rw [hlen]; omega) (by rw [hrec]; exact k.recs) hp ?_
      rw [hrec, seg_get (by omega), show (sp.half * (m.n / 2) + 1) * 64 + (p - (sp.half * (m.n / 2) + 1) * 64) = p by omega]
      exact hne
    have hread : readH m2 sp.half (sp.epoch, sp.count, sp.fin) = (160, none, m2) := by
      unfold readH
      simp only
      rw [hrd]
    have hl := look_head (h := m.n / 2) k.e64 (show sp.count < 4294967296 by omega) (show sp.fin < 4294967296 by omega) k.f1 k.f2
    obtain ⟨o, ho, hx⟩ := k.oth
    have hd := k.hd
    rw [openM, if_neg hn4, h2]
    simp only [Bool.false_eq_true, if_false]
    rw [h1, h3, blockOf_seg, blockOf_seg]
    rcases hh with h | h
    · rw [h] at hd ho hread hge hlt
      simp only [Nat.zero_mul, Nat.sub_zero, Nat.one_mul] at hd ho hge hlt
      rw [Nat.zero_mul, seg_set_out (by omega), seg_set_out (by omega), hd, hl, ho]
      cases o with
      | none => exact hread
      | some z =>
        have := hx z rfl
        simp only
        rw [if_neg (by omega), if_neg (by omega)]
        exact hread
    · rw [h] at hd ho hread hge hlt
      simp only [Nat.sub_self, Nat.zero_mul, Nat.one_mul] at hd ho hge hlt
      rw [Nat.zero_mul, seg_set_out (by omega), seg_set_out (by omega), hd, hl, ho]
      cases o with
      | none => exact hread
      | some z =>
        have := hx z rfl
        simp only
        rw [if_neg (by omega), if_pos (by omega)]
        exact hread
theorem readR_step {e c k : Nat} {all : Bs} {L L1 : List (Bs × Bs)} (hm : all.length % 64 = 0) (h : readR e (c + 1) k all L = some L1) : 64 ≤ all.length ∧ 8 + getB (all.take 4) ≤ all.length ∧ ∃ L2, readR e c (k + 1) (all.drop ((8 + getB (all.take 4) + 63) / 64 * 64)) L2 = some L1 := by
  rw [readR] at h
  split at h
  · cases h
  · rename_i hnil
    have hpos : 64 ≤ all.length := by
      have : all.length ≠ 0 := fun h0 => hnil (List.eq_nil_of_length_eq_zero h0)
      omega
    split at h
    · cases h
    · rename_i hn
      split at h
      · split at h
        · cases h
        · split at h
          · cases h
          · exact ⟨hpos, by omega, _, h⟩
      · cases h
theorem plc_len {e : Nat} : ∀ (c k : Nat) (all : Bs) (L L1 : List (Bs × Bs)) (off : Nat), all.length % 64 = 0 → readR e c k all L = some L1 → (plc c all off).length ≤ all.length := by
  intro c
  induction c with
  | zero => intro k all L L1 off _ _; exact Nat.zero_le _
  | succ c ih =>
    intro k all L L1 off hm h
    obtain ⟨h1, h2, L2, h3⟩ := readR_step hm h
    have := ih _ _ _ _ (off + (8 + getB (all.take 4) + 63) / 64 * 64) (by rw [List.length_drop]; omega) h3
    rw [List.length_drop] at this
    rw [plc, List.length_append, List.length_map, List.length_range]
    omega
theorem recs_len {m : DM} {sp : SP} (g : Good m sp) : (recsM m sp.half sp.fin).length = (sp.fin - 1) * 64 := by
  have k := g.k
  have f1 := k.f1
  have f2 := k.f2
  have hsl := g.ok.sl
  rw [recsM, List.length_take, List.length_drop]
  rcases half_cases k.half with h | h <;> rw [h] <;> omega
theorem recs_read {m : DM} {sp : SP} (g : Good m sp) : readR sp.epoch sp.count 0 (recsM m sp.half sp.fin) [] = some sp.L := by
  have hrec : recsM m sp.half sp.fin = seg m.kept ((sp.half * (m.n / 2) + 1) * 64) ((sp.fin - 1) * 64) := by rw [recsM, g.sk]; rfl
  rw [hrec]
  exact g.k.recs
theorem hdPl_len (m : DM) (a : Nat) : (hdPl m a).length ≤ 24 := by
  unfold hdPl
  split
  · simp
  · simp
theorem pl_len {m : DM} {sp : SP} (g : Good m sp) : (PL m sp).length ≤ 48 + 64 * m.n := by
  have h1 := hdPl_len m 0
  have h2 := hdPl_len m 1
  have h3 := plc_len _ 0 _ [] sp.L ((sp.half * (m.n / 2) + 1) * 64) (by rw [recs_len g]; omega) (recs_read g)
  rw [recs_len g] at h3
  have := g.k.f2
  unfold PL
  rw [List.length_append, List.length_append]
  omega
theorem pl_pos {m : DM} {sp : SP} (g : Good m sp) : 0 < (PL m sp).length := by
  have k := g.k
  have hb := k.hd
  have n4 := k.n4
  have hz : el m.kept (sp.half * (m.n / 2) * 64) ≠ 0 := by
    have hlt : sp.half * (m.n / 2) * 64 + 64 ≤ m.kept.length := by
      rw [k.cl]
      rcases half_cases k.half with h | h <;> rw [h] <;> omega
    have hg := seg_get (l := m.kept) (a := sp.half * (m.n / 2) * 64) (k := 64) (i := 0) (by omega)
    rw [hb, Nat.add_zero] at hg
    rw [el, List.getD_eq_getElem?_getD, ← hg]
    simp [headB, head24, headP, headW]
  have h1 : 0 < (hdPl m sp.half).length := by
    unfold hdPl
    rw [if_neg hz]
    simp
  unfold PL
  rw [List.length_append, List.length_append]
  rcases half_cases k.half with h | h <;> rw [h] at h1 <;> omega
end Go.St
namespace Go.Proofs.Ytombhkekocbfoaa
open Go.RowKit Go.Dr Go.Kd Go.St
theorem flat_partT : ∀ {w : World} (l : List (StI w)) (i : Nat) (x : StI w), l[i]? = some x → ((l.flatMap stI).drop (i * 4)).take 4 = stI x := by
  intro w l
  induction l with
  | nil => intro i x h; simp at h
  | cons y l ih =>
    intro i x h
    cases i with
    | zero =>
      simp only [List.getElem?_cons_zero, Option.some.injEq] at h
      subst h
      rfl
    | succ i =>
      rw [List.getElem?_cons_succ] at h
      rw [List.flatMap_cons, show (i + 1) * 4 = (stI y).length + i * 4 by simp [stI]; omega, List.drop_append, List.drop_of_length_le (by omega), Nat.add_sub_cancel_left, List.nil_append]
      exact ih i x h
/-- A step's changes, as they lie. -/
theorem Stps.atT {w : World} {p : Option Addr} {n cap : Nat} {l : List (StI w)} (h : Stps w p n cap l) {j : Nat} (hj : j < n) : ∃ (x : StI w) (b off : Nat) (cs : Array Value) (T : TypeId) (fr : Nat × Nat), p = some ⟨b, off, none⟩ ∧ w.blk b = some (.cells cs T fr) ∧ off + j * 4 + 4 ≤ cs.size ∧ (∃ h : off + j * 4 < cs.size, cs[off + j * 4] = .slice x.q x.m x.d) ∧ l[j]? = some x := by
  obtain ⟨h1, h2⟩ := h
  obtain ⟨b, off, cs, T, fr, e1, e2, e3, e4, e5⟩ := h1.elem hj
  obtain ⟨x, hx⟩ : ∃ x, l[j]? = some x := ⟨_, List.getElem?_eq_getElem (by omega)⟩
  rw [flat_partT l j x hx] at e5
  have g0 := congrArg (fun a => a[0]?) e5
  rw [Array.getElem?_extract_of_lt (by omega)] at g0
  exact ⟨x, b, off, cs, T, fr, e1, e2, e4, ⟨by omega, by simpa [stI] using g0⟩, hx⟩
noncomputable def t6 : Code := Try.f6.body.getD .skip
noncomputable def t9 : Code := behind 7 t6
noncomputable def t16 : Code := behind 8 t6
noncomputable def t19 : Code := behind 10 t6
noncomputable def t27 : Code := behind 12 t6
noncomputable def t37 : Code := behind 14 t6
noncomputable def tRnd : Code := loopOf' ((blockOf' 0 t6).getD .skip)
set_option maxRecDepth 100000 in
/-- StoreTurned's frame, written out. -/
def frm6 (u : Nat → Value) : Array Value := (u 0 :: u 1 :: u 2 :: u 3 :: u 4 :: u 5 :: u 6 :: u 7 :: u 8 :: u 9 :: u 10 :: u 11 :: u 12 :: u 13 :: u 14 :: u 15 :: u 16 :: u 17 :: u 18 :: u 19 :: u 20 :: u 21 :: u 22 :: u 23 :: u 24 :: u 25 :: u 26 :: u 27 :: u 28 :: u 29 :: u 30 :: u 31 :: u 32 :: u 33 :: u 34 :: u 35 :: u 36 :: u 37 :: u 38 :: u 39 :: u 40 :: u 41 :: u 42 :: u 43 :: u 44 :: u 45 :: u 46 :: u 47 :: u 48 :: u 49 :: u 50 :: u 51 :: u 52 :: u 53 :: u 54 :: u 55 :: u 56 :: u 57 :: u 58 :: u 59 :: u 60 :: u 61 :: u 62 :: u 63 :: u 64 :: u 65 :: u 66 :: u 67 :: u 68 :: u 69 :: u 70 :: u 71 :: u 72 :: u 73 :: u 74 :: u 75 :: u 76 :: u 77 :: u 78 :: u 79 :: u 80 :: u 81 :: u 82 :: u 83 :: u 84 :: u 85 :: u 86 :: u 87 :: u 88 :: u 89 :: u 90 :: u 91 :: u 92 :: u 93 :: u 94 :: u 95 :: u 96 :: u 97 :: u 98 :: u 99 :: u 100 :: u 101 :: u 102 :: u 103 :: u 104 :: u 105 :: u 106 :: u 107 :: u 108 :: u 109 :: u 110 :: u 111 :: u 112 :: u 113 :: u 114 :: u 115 :: u 116 :: u 117 :: u 118 :: u 119 :: u 120 :: u 121 :: u 122 :: u 123 :: u 124 :: u 125 :: u 126 :: u 127 :: u 128 :: u 129 :: u 130 :: u 131 :: u 132 :: u 133 :: u 134 :: u 135 :: u 136 :: u 137 :: u 138 :: u 139 :: u 140 :: u 141 :: u 142 :: u 143 :: u 144 :: u 145 :: u 146 :: u 147 :: u 148 :: u 149 :: u 150 :: u 151 :: u 152 :: u 153 :: u 154 :: u 155 :: u 156 :: u 157 :: u 158 :: u 159 :: u 160 :: u 161 :: u 162 :: u 163 :: u 164 :: u 165 :: u 166 :: u 167 :: u 168 :: u 169 :: u 170 :: u 171 :: u 172 :: u 173 :: u 174 :: u 175 :: u 176 :: u 177 :: u 178 :: u 179 :: u 180 :: u 181 :: u 182 :: u 183 :: u 184 :: u 185 :: u 186 :: u 187 :: u 188 :: u 189 :: u 190 :: u 191 :: u 192 :: u 193 :: u 194 :: u 195 :: u 196 :: u 197 :: u 198 :: u 199 :: u 200 :: u 201 :: u 202 :: u 203 :: u 204 :: u 205 :: u 206 :: u 207 :: u 208 :: u 209 :: u 210 :: u 211 :: u 212 :: u 213 :: u 214 :: u 215 :: u 216 :: u 217 :: u 218 :: u 219 :: u 220 :: u 221 :: u 222 :: u 223 :: u 224 :: u 225 :: u 226 :: u 227 :: u 228 :: u 229 :: u 230 :: []).toArray
set_option maxRecDepth 100000 in
theorem frm6_of {tm : Array Value} (h : tm.size = 231) : ∃ u : Nat → Value, tm = frm6 u := ⟨fun i => tm.getD i undef, arr_fun h⟩
/-- Two stores that are whole, and the same. -/
structure TG (w0 W : World) (d r s t : Nat) (m : DM) (sp : SP) (fp rfp : List Nat) : Prop where
  P : Pl w0 W d r s t m sp m sp fp rfp
  G : Go.St.Good m sp
  f : m.fuse = -1
  b : BytM m
  n : m.n = 32
theorem TG.fr0 {w0 W W' : World} {d r s t : Nat} {m : DM} {sp : SP} {fp rfp : List Nat} (h : TG w0 W d r s t m sp fp rfp) (F : Fr [] W W') : TG w0 W' d r s t m sp fp rfp := ⟨h.P.fr0 F, h.G, h.f, h.b, h.n⟩
/-- Between two steps. -/
structure TI (p : Option Addr) (n cap : Nat) (at_ : Int) (y : Int) (w0 : World) (d r i : Nat) (tm : Array Value) (W : World) (s t : Nat) (m : DM) (sp : SP) (fp rfp : List Nat) : Prop where
  sz : tm.size = 231
  s0 : tm.getD 0 undef = .slice p n cap
  s1 : tm.getD 1 undef = .int .i64 at_
  s2 : tm.getD 2 undef = .int .u8 y
  s7 : tm.getD 7 undef = .pointer (some ⟨d, 0, none⟩)
  s8 : tm.getD 8 undef = .pointer (some ⟨r, 0, none⟩)
  s9 : tm.getD 9 undef = .pointer (some ⟨s, 0, none⟩)
  s11 : tm.getD 11 undef = .pointer (some ⟨t, 0, none⟩)
  s13 : tm.getD 13 undef = .int .i64 (i : Int)
  g : TG w0 W d r s t m sp fp rfp
/-- StoreTurned's end. -/
def TEnd (w : World) (Q : Exit → Act → World → Prop) : Prop := ∀ (tm' : Array Value) (W' : World), tm'.getD 6 undef = .bool true → Fr [] w W' → Q .ret ⟨tm', []⟩ W'
section
variable {w : World}
set_option maxRecDepth 100000 in
set_option maxHeartbeats 8000000 in
theorem tRnd_f {Q : Exit → Act → World → Prop} {tm : Array Value} {w0 W : World} {p : Option Addr} {n cap d r i s t : Nat} {at_ y : Int} {m : DM} {sp : SP} {fp rfp : List Nat} {ls : List (StI w)} (L : Stps w p n cap ls) (F0 : Fr [] w w0) (Y : TI p n cap at_ y w0 d r i tm W s t m sp fp rfp) (hin : i ≤ n) (hn9 : n ≤ 9223372036854775807)
    (hnext : ∀ tm' W' m' sp' fp' rfp', i < n → TI p n cap at_ y w0 d r (i + 1) tm' W' s t m' sp' fp' rfp' → Q .normal ⟨tm', []⟩ W')
    (hout : ∀ tm' W', TI p n cap at_ y w0 d r i tm' W' s t m sp fp rfp → Q (.exit 0) ⟨tm', []⟩ W') (HQ : TEnd w0 Q) : tRnd.wp Try.prog Q ⟨tm, []⟩ W := by
  obtain ⟨sz, s0, s1, s2, s7, s8, s9, s11, s13, ⟨P, G, hf, hb, hn32⟩⟩ := Y
  obtain ⟨u, rfl⟩ := frm6_of sz
  have a0 : u 0 = _ := s0
  have a1 : u 1 = _ := s1
  have a2 : u 2 = _ := s2
  have a7 : u 7 = _ := s7
  have a8 : u 8 = _ := s8
  have a9 : u 9 = _ := s9
  have a11 : u 11 = _ := s11
  have a13 : u 13 = _ := s13
  have HN := Lib.hid hnext
  have HO := Lib.hid hout
  have HQ := Lib.hid HQ
  have HP := Lib.hid P
  have HG := Lib.hid G
  have HFZ := Lib.hid hf
  have HBY := Lib.hid hb
  have HN32 := Lib.hid hn32
  have HL := Lib.hid L
  have HF0 := Lib.hid F0
  clear hnext hout P G hf hb hn32 s0 s1 s2 s7 s8 s9 s11 s13 sz L F0
  conv => arg 2; whnf
  unfold frm6
  rw [a0, a1, a2, a7, a8, a9, a11, a13]
  clear a0 a1 a2 a7 a8 a9 a11 a13
  by_cases hlt : i < n
  · have hd : decide ((i : Int) < (n : Int)) = true := by rw [decide_eq_true_eq]; omega
    have ki : (i : Int) < (n : Int) := by omega
    by_cases hl20 : i < 20
    · have hd2 : decide ((i : Int) < 20) = true := by rw [decide_eq_true_eq]; omega
      have ki2 : (i : Int) < 20 := by omega
      obtain ⟨x, b, off, cs, TT, fr, rfl, fb, hsz, ⟨x0', x0⟩, hxl⟩ := HL.out.atT hlt
      have hcx := x.c
      have hbx := x.b
      have hml := x.len
      obtain ⟨qx, hqx⟩ : ∃ qx, qx = x.q := ⟨_, rfl⟩
      obtain ⟨mx, hmx⟩ : ∃ mx, mx = x.m := ⟨_, rfl⟩
      obtain ⟨dx, hdx⟩ : ∃ dx, dx = x.d := ⟨_, rfl⟩
      obtain ⟨lx, hlx⟩ : ∃ lx, lx = x.l := ⟨_, rfl⟩
      rw [← hqx, ← hmx, ← hdx] at x0
      rw [← hqx, ← hmx, ← hdx, ← hlx] at hcx
      rw [← hlx] at hbx
      rw [← hmx] at hml
      have HCX := Lib.hid hcx
      have HBX := Lib.hid hbx
      have HML := Lib.hid hml
      have HFB := Lib.hid fb
      have fbw := (HF0.out.trans HP.out.fr).get fb (by simp)
      have tb := World.at_lt fbw
      clear hcx hqx hmx hdx hxl fb hml hlx hbx
      go_wp2_with fail
      refine (small_f (HCX.out.fr0 (HF0.out.trans HP.out.fr)) HML.out).mono ?_
      rintro en w1 ⟨b1, rfl, F1, hr⟩
      have HP1 := Lib.hid (HP.out.fr0 F1)
      have fb1 := F1.get fbw (by simp)
      clear F1 fbw tb
      have tb := World.at_lt fb1
      cases b1 with
      | false =>
        go_wp2_with fail
        exact HQ.out _ _ rfl HP1.out.fr
      | true =>
        have hm3 := hr rfl
        have hmb : mx ≤ 40000 := by omega
        clear hr hm3
        have HSPB := Lib.hid (good_spb HG.out HBY.out)
        go_wp2_with fail
        refine (commit_f (av := t :: rfp) HP1.out.T (fun k hk => by
          rcases List.mem_cons.1 hk with rfl | hk
          · exact HP1.out.T2.tlt
          · exact HP1.out.T2.disk.lt k hk) HSPB.out (by rw [HN32.out]; decide) (by rw [HG.out.wt]; decide) (HCX.out.fr0 (HF0.out.trans HP1.out.fr)) HBX.out (by omega)).mono ?_
        rintro en w2 ⟨fp2, rfl, T2, F2, N2⟩
        have hnf := commit_nofuse HG.out HFZ.out lx
        have hg : Go.St.Good (commitM sp m lx).2.2 (commitM sp m lx).2.1 := by
          rcases commit_good HG.out lx with ⟨-, h, -⟩ | ⟨h, -⟩ | ⟨-, -, h⟩
          · exact h
          · exact absurd h hnf.1
          · rw [h]; exact HG.out
        have hby := HBY.out.commit HSPB.out HBX.out
        have hn2 := (commitM_n sp m lx).trans HN32.out
        obtain ⟨cm, hcm⟩ : ∃ cm, cm = commitM sp m lx := ⟨_, rfl⟩
        rw [← hcm] at T2 hg hby hn2 hnf ⊢
        have HCM := Lib.hid hcm
        have HG2 := Lib.hid hg
        have HBY2 := Lib.hid hby
        have HN2 := Lib.hid hn2
        have HNF := Lib.hid hnf.2
        have HP2 := Lib.hid (HP1.out.code T2 F2 N2)
        have fb2 := (HF0.out.trans HP2.out.fr).get HFB.out (by simp)
        clear T2 F2 N2 hcm hg hby hn2 hnf fb1 tb
        have tb := World.at_lt fb2
        go_wp2_with fail
        refine (dcommit_f (av := s :: fp2) HP2.out.T2 HSPB.out (HCX.out.awayP (HF0.out.trans HP2.out.fr) (fun k hk => by
          have h1 := HP2.out.lo k (by
            simp only [List.mem_cons, List.mem_append] at hk ⊢
            rcases hk with h | (h | h) | h <;> simp [h])
          have := HF0.out.size
          omega)) HBX.out (by omega) (fun k hk => by
          simp only [List.mem_cons, List.mem_append] at hk
          rcases hk with rfl | (rfl | h) | h
          · exact HP2.out.T2.tlt
          · exact HP2.out.T.slt
          · exact HP2.out.T.disk.lt k h
          · exact HP2.out.T2.disk.lt k h) (by rw [HN32.out]; decide) (by rw [HG.out.wt]; decide)).mono ?_
        rintro en w3 ⟨rfp3, rfl, T3, F3, N3⟩
        rw [← HCM.out] at T3 ⊢
        have HP3 := Lib.hid (HP2.out.doc T3 F3 N3)
        clear T3 F3 N3 fb2 tb
        go_wp2_with fail
        exact HN.out _ _ cm.2.2 cm.2.1 fp2 rfp3 hlt ⟨rfl, rfl, rfl, rfl, rfl, rfl, rfl, rfl, by first | rfl | exact congrArg (Value.int .i64) (by push_cast; rfl), ⟨HP3.out, HG2.out, HNF.out, HBY2.out, HN2.out⟩⟩
    · have hd2 : decide ((i : Int) < 20) = false := by rw [decide_eq_false_iff_not]; omega
      have ki2 : ¬ (i : Int) < 20 := by omega
      go_wp2_with fail
      exact HO.out _ _ ⟨rfl, rfl, rfl, rfl, rfl, rfl, rfl, rfl, rfl, ⟨HP.out, HG.out, HFZ.out, HBY.out, HN32.out⟩⟩
  · have hd : decide ((i : Int) < (n : Int)) = false := by rw [decide_eq_false_iff_not]; omega
    have ki : ¬ (i : Int) < (n : Int) := by omega
    go_wp2_with fail
    exact HO.out _ _ ⟨rfl, rfl, rfl, rfl, rfl, rfl, rfl, rfl, rfl, ⟨HP.out, HG.out, HFZ.out, HBY.out, HN32.out⟩⟩
end
end Go.Proofs.Ytombhkekocbfoaa
namespace Go.Proofs.Ytombhkekocbfoaa
open Go.RowKit Go.Dr Go.Kd Go.St
theorem StAt.av0 {w w' : World} {s d : Nat} {sp : SP} {m : DM} {fp av : List Nat} (T : StAt w s d sp m fp) (hL : sp.L = []) (F : Fr [] w w') (hav : ∀ k ∈ av, w.heap.size ≤ k) : StAv w' s d sp m fp av := by
  obtain ⟨mb, f0, hs, D, M⟩ := T.ex
  obtain ⟨hb, kvs, g, hm, hr, hv⟩ := M
  refine ⟨mb, F.get f0 (by simp), hs, D.fr0 F, fun h => ?_, kvs, g, hm.fr F (by simp), hr, by rw [hL]; simp⟩
  rcases List.mem_append.1 h with h | h
  · have := hav _ h; have := hm.lt; omega
  · exact hb h
theorem DiskAt.frl {w w' : World} {d : Nat} {m : DM} {fp av : List Nat} (D : DiskAt w d m fp) (hs : ∀ k ∈ fp, k ∉ av) (F : Fr av w w') : DiskAt w' d m fp := by
  obtain ⟨kb, sb, p, cap, D, rfl, ok⟩ := D
  exact ⟨kb, sb, p, cap, ⟨F.get D.hd (hs _ (by simp [fpOf])), F.get D.hk (hs _ (by simp [fpOf])), F.get D.hs (hs _ (by simp [fpOf])), F.owns D.hw (fun g hg => hs _ (by unfold fpOf; simp only [List.mem_cons, Option.mem_toList]; exact .inr (.inr (.inr (by cases p with | none => cases hg | some a => simpa [Value.ownBlock] using hg))))), D.ne1, D.ne2, D.ne3, D.nw⟩, rfl, ok⟩
theorem StAv.turn {w w' : World} {s d : Nat} {sp : SP} {m : DM} {fp av : List Nat} (T : StAv w s d sp m fp av) (F : Fr av w w') (hs : s ∉ av) (hf : ∀ k ∈ fp, k ∉ av) : StAv w' s d sp m fp av := by
  obtain ⟨mb, f0, hsf, D, M⟩ := T.ex
  exact ⟨mb, F.get f0 hs, hsf, D.frl hf F, M.fr (F.mono fun k hk _ => List.mem_append_left _ hk) fun k hk => .inl hk⟩
/-- One byte of a slice is turned. -/
theorem wrl_set {W : World} {b off n c : Nat} {cs : Array Value} {T : TypeId} {l : Bs} (hb : W.blk b = some (.cells cs T (0, 0))) (hs : off + n ≤ cs.size) (hx : (cs.extract off (off + n)).toList = l.map (Value.int .u8)) (hc : n ≤ c) {i : Nat} (hi : i < n) (y : Int) :
    WrL (W.put b (.cells (cs.setIfInBounds (off + i) (.int .u8 y)) T)) (some ⟨b, off, none⟩) n c (l.set i y) := by
  have hll : l.length = n := by
    have := congrArg List.length hx
    simp only [Array.length_toList, Array.size_extract, List.length_map] at this
    omega
  refine ⟨hc, .inr ⟨b, off, _, T, rfl, World.at_put_same _ _ _ (World.at_lt hb), by rw [Array.size_setIfInBounds]; exact hs, ?_⟩⟩
  apply List.ext_getElem?
  intro j
  have hj := congrArg (fun l => l[j]?) hx
  simp only [Array.getElem?_toList, List.getElem?_map] at hj ⊢
  by_cases hjn : j < n
  · rw [Array.getElem?_extract_of_lt (by omega)] at hj
    rw [Array.getElem?_extract_of_lt (by rw [Array.size_setIfInBounds]; omega), List.getElem?_set]
    by_cases hij : i = j
    · subst hij
      rw [if_pos rfl, if_pos (by omega)]
      simp
    · rw [if_neg hij, ← hj]
      rw [Array.getElem_setIfInBounds (by omega), if_neg (by omega)]
  · rw [Array.getElem?_eq_none (by rw [Array.size_extract, Array.size_setIfInBounds]; omega), List.getElem?_eq_none (by rw [List.length_set]; omega)]
    rfl
/-- A byte of a slice that may be written. -/
theorem WrL.at {w : World} {q : Option Addr} {n c : Nat} {l : Bs} (h : WrL w q n c l) (hl : isBytes l) {i : Nat} (hi : i < n) :
    ∃ (b off : Nat) (cs : Array Value) (T : TypeId) (y : Nat), q = some ⟨b, off, none⟩ ∧ w.blk b = some (.cells cs T (0, 0)) ∧ y < 256 ∧ (∃ h : off + i < cs.size, cs[off + i] = .int .u8 (y : Int)) ∧ off + n ≤ cs.size ∧ (cs.extract off (off + n)).toList = l.map (Value.int .u8) := by
  rcases h.2 with h0 | ⟨b, off, cs, T, rfl, hb, hs, hx⟩
  · omega
  have hll : l.length = n := by
    have := congrArg List.length hx
    simp only [Array.length_toList, Array.size_extract, List.length_map] at this
    omega
  have hj := congrArg (fun l => l[i]?) hx
  simp only [Array.getElem?_toList, List.getElem?_map] at hj
  rw [Array.getElem?_extract_of_lt (by omega), List.getElem?_eq_getElem (by omega)] at hj
  have hm := hl _ (List.getElem_mem (by omega : i < l.length))
  refine ⟨b, off, cs, T, (l[i]'(by omega)).toNat, rfl, hb, by omega, ⟨by omega, ?_⟩, hs, hx⟩
  simp only [Option.map_some, Option.some.injEq] at hj
  rw [hj, show (((l[i]'(by omega)).toNat : Nat) : Int) = l[i]'(by omega) by omega]
theorem isBytes_set {l : Bs} (h : isBytes l) {i : Nat} {y : Int} (hy : 0 ≤ y ∧ y < 256) : isBytes (l.set i y) := fun x hx => by
  rcases List.mem_or_eq_of_mem_set hx with h1 | h1
  · exact h x h1
  · rw [h1]; exact hy
/-- The one change that a row of changes holds: its value lies apart from the row, and is new. -/
theorem GchN.one {w0 w : World} {q : Option Addr} {c : Nat} {x : Chg} (G : GchN w0 [] w q 1 c [x]) : ∃ g cur qv mv cv, q = some ⟨g, 0, none⟩ ∧ w.blk g = some (.cells cur 32 (0, 0)) ∧ (∃ h : 1 < cur.size, cur[1] = .slice qv mv cv) ∧ (∃ lv, isBytes lv ∧ WrL w qv mv cv lv) ∧ (∀ a, qv = some a → w0.heap.size ≤ a.block) ∧ (0 < mv → ∀ b, qv.map (·.block) = some b → b ≠ g) ∧ w0.heap.size ≤ g ∧ x.val.length = mv := by
  obtain ⟨us, M, B, S, N⟩ := G.ex
  have hlen := B.len
  have hS := (S w B.own.has.of_append.1).1
  have hWv := (S w B.own.has.of_append.1).2
  cases us with
  | nil => cases hlen
  | cons u0 us =>
    have hS2 : ∀ W, Has M W → ∃ q' m' d', u0 :: us = [.string (strB x.name), .slice q' m' d', .bool x.gone] ∧ Sl .u8 W q' m' d' x.val := fun W hW => by
      have h := (S W hW).1
      cases h with
      | cons h1 h2 => cases h2; exact ⟨_, _, _, rfl, h1⟩
    obtain ⟨qv, mv, cv, hus, hsl⟩ := hS2 w B.own.has.of_append.1
    rcases B.row.2 with ⟨_, h0⟩ | ⟨g, cap, cur, hv, _, hg, hnc, hcm, hcs, ht⟩
    · cases h0
    · simp only [Value.slice.injEq] at hv
      obtain ⟨rfl, _, _⟩ := hv
      have hnew := B.new g rfl
      refine ⟨g, cur, qv, mv, cv, rfl, hg, ?_, hWv (.slice qv mv cv) (by rw [hus]; simp) qv mv cv rfl, fun a ha => N (.slice qv mv cv) (by rw [hus]; simp) a mv cv (by rw [ha]), fun h0 b hb e => ?_, hnew.1, hsl.len⟩
      · rw [hus] at ht
        have h4 := congrArg (fun l => l[1]?) ht
        rw [List.getElem?_take, if_pos (by omega), Array.getElem?_toList] at h4
        exact Array.getElem?_eq_some_iff.1 h4
      · subst e
        obtain ⟨q', m', d', hus2, hsl2⟩ := hS2 (w.put b (.cells #[] 32)) fun y hy => by
          refine (World.at_put_other _ _ _ _ fun e => hnew.2 ?_).trans (B.own.has.of_append.1 y hy)
          rw [List.map_append]
          exact List.mem_append_left _ (List.mem_map.2 ⟨y, hy, e.symm⟩)
        rw [hus] at hus2
        simp only [List.cons.injEq, Value.slice.injEq, and_true, true_and] at hus2
        obtain ⟨rfl, rfl, rfl⟩ := hus2
        obtain ⟨bb, off, cs, T, fr, rfl, fc, hs', hx'⟩ := hsl2.out h0
        simp only [Option.map_some, Option.some.injEq] at hb
        subst hb
        rw [World.at_put_same _ _ _ (World.at_lt hg)] at fc
        cases fc
        simp at hs'
        omega
section
variable {w : World}
set_option maxRecDepth 100000 in
set_option maxHeartbeats 8000000 in
theorem storeOwn_walk {nm : Bs} (hnm : Byt nm) {p : Option Addr} {n cap : Nat} {l : Bs} (S : Sl .u8 w p n cap l) (hl : isBytes l) (hn : n ≤ 140737488355328) :
    Calls Try.prog 3 #[.string (strB nm), .slice p n cap] w fun e w' => e = .returned (.bool true) ∧ Fr [] w w' := by
  have HS := Lib.hid S
  have HB := Lib.hid hl
  have HNM := Lib.hid hnm
  have HL := Lib.hid S.len
  obtain ⟨X, hX⟩ : ∃ X, X = strB nm := ⟨_, rfl⟩
  rw [← hX]
  have HX := Lib.hid hX
  clear S hl hnm hX
  go_enter Try.func3, Try.ntmps3
  go_wp2_with fail
  refine (alive_f (w := w)).mono ?_
  rintro en w0 ⟨rfl, F0⟩
  have HF0 := Lib.hid F0
  clear F0
  go_wp2_with fail
  refine (new_m 512 w0).mono ?_
  rintro en w1 ⟨d, fp, rfl, D1, F1, N1⟩
  obtain ⟨m1, hop, G1, hf1, hn1, hb1⟩ := good_fresh 512 (by decide) D1.ok'
  have hn1 : m1.n = 512 := hn1
  have HD1 := Lib.hid D1
  have HF1 := Lib.hid F1
  have HOP := Lib.hid hop
  have HN1 := Lib.hid N1
  clear D1 F1 N1 hop
  go_wp2_with fail
  refine (open_f HD1.out (by decide) (byt_zs _) (by decide)).mono ?_
  intro en w2 hO
  rw [HOP.out] at hO
  obtain ⟨-, s, fp1, rfl, T2, F2, N2, L2⟩ := hO
  have HFp : ∀ k ∈ fp1, w0.heap.size ≤ k := fun k hk => by
    rcases N2 k hk with h | h
    · rcases HN1.out k h with h | h
      · cases h
      · exact h
    · exact Nat.le_trans HF1.out.size h
  have HF2 := Lib.hid (show Fr [] w0 w2 from HF1.out.seq F2 fun k hk hl => by
    rcases HN1.out k hk with h | h
    · exact h
    · omega)
  have HFP := Lib.hid HFp
  have HT2 := Lib.hid T2
  have HLs := Lib.hid (Nat.le_trans HF1.out.size L2)
  clear T2 F2 N2 L2 HFp
  have hB0 : Bld w2 [] .u8 5 (w2.alloc (.cells #[] 5)) (some ⟨w2.heap.size, 0, none⟩) 0 0 [] := Bld.made (OwB.start w2) 0 (by decide)
  have HB0 := Lib.hid hB0
  clear hB0
  go_wp2_with (refine wpList_app47 rfl _ _ rfl rfl HB0.out rfl (HS.out.fr0 ((HF0.out.trans HF2.out).trans ((Fr.refl [] w2).alloc _))) (by omega) ?_)
  intro q3 c3 W3 B3
  have HB3 := Lib.hid B3
  have HWB3 := Lib.hid (Bld.wr B3)
  have hav : ∀ k ∈ (q3.map (·.block)).toList, w2.heap.size ≤ k := fun k hk => (B3.new k (by simpa using hk)).1
  have HAV := Lib.hid hav
  have HTX := Lib.hid (HT2.out.av0 (av := (q3.map (·.block)).toList) rfl B3.own.fr hav)
  clear B3 HB0 hav
  go_wp2_with fail
  have hK1 := good_spb G1 hb1
  have hcl : ∀ c ∈ [(⟨nm, false, l⟩ : Chg)], Byt c.name ∧ Byt c.val := fun c hc => by
    rw [List.mem_singleton] at hc
    subst hc
    exact ⟨HNM.out, HB.out⟩
  have hn2 := commitM_n sp0 m1 [⟨nm, false, l⟩]
  have hone : ChgOk ⟨nm, false, l⟩ → (commitM sp0 m1 [⟨nm, false, l⟩]).1 = 0 := fun h => (commit_one (n := nm) (v := l) G1 hf1 h (by
    have h2 := h.n2
    have h3 := h.v
    rw [recB_length, pay_one, hn1]
    simp only at h2 h3
    omega)).1
  have hgood : (commitM sp0 m1 [⟨nm, false, l⟩]).1 = 0 → (commitM sp0 m1 [⟨nm, false, l⟩]).2.1.L = [(nm, l)] := fun h => by
    rcases commit_good G1 [⟨nm, false, l⟩] with ⟨-, -, h2⟩ | ⟨h2, -⟩ | ⟨h2, -⟩
    · exact h2
    · rw [h] at h2; cases h2
    · exact absurd h h2
  have hspb : (commitM sp0 m1 [⟨nm, false, l⟩]).1 = 0 → SPB (commitM sp0 m1 [⟨nm, false, l⟩]).2.2.n (commitM sp0 m1 [⟨nm, false, l⟩]).2.1 := fun h => commit_spb G1 hb1 hK1 hcl h
  refine named_world (A := fun Y => StAv Y s d sp0 m1 fp1 (q3.map (·.block)).toList ∧ Chs Y (some ⟨W3.heap.size, 0, none⟩) 1 1 [⟨nm, false, l⟩] ∧ Fr [] W3 Y ∧ Sl .u8 Y q3 n c3 l) (Q := fun Y => Calls Try.prog 11 _ Y _) ⟨HTX.out.fr0 ((Fr.refl [] W3).alloc _), chs_one (q := q3) (m := n) (c := c3) (by rw [HX.out]; exact World.at_alloc_new _ _ _ rfl) (HB3.out.sl.fr0 ((Fr.refl [] W3).alloc _)) (by decide), (Fr.refl [] W3).alloc _, HB3.out.sl.fr0 ((Fr.refl [] W3).alloc _)⟩ ?_
  rintro Y ⟨TY, CY, FY, SY⟩
  have HFY := Lib.hid (HB3.out.own.fr.trans FY)
  have HFYs := Lib.hid FY
  have hc5 := commit_f TY (fun k hk => by
    rw [Option.mem_toList] at hk
    have := HB3.out
    have h2 : k < W3.heap.size := by
      rcases this.row.2 with ⟨hv, _⟩ | ⟨g, _, _, hv, _, hg, _⟩
      · simp only [Value.slice.injEq] at hv
        rw [hv.1] at hk
        cases hk
      · simp only [Value.slice.injEq] at hv
        rw [hv.1] at hk
        simp only [Option.map_some, Option.mem_def, Option.some.injEq] at hk
        subst hk
        exact World.at_lt hg
    exact Nat.lt_of_lt_of_le h2 FY.size) hK1 (by rw [hn1]; decide) (by rw [G1.wt]; decide) CY hcl (by decide)
  have hs2 : s < w2.heap.size := HT2.out.av.lt
  have hfp2 := DiskAt.lt HT2.out.av.disk
  have HS2 := Lib.hid hs2
  have HFP2 := Lib.hid hfp2
  have HSY := Lib.hid SY
  obtain ⟨cm, hcm⟩ : ∃ cm, cm = commitM sp0 m1 [⟨nm, false, l⟩] := ⟨_, rfl⟩
  rw [← hcm] at hc5 hone hgood hspb hn2
  have HONE := Lib.hid hone
  have HGOOD := Lib.hid hgood
  have HSPB := Lib.hid hspb
  refine hc5.mono ?_
  clear hc5 hone hgood hspb hn2 hcm hK1 hcl TY CY FY SY hs2 hfp2
  rintro en w5 ⟨fp2, rfl, T5, F5, N5⟩
  have HT5 := Lib.hid T5
  have HF5 := Lib.hid (show Fr [] w0 w5 from ((HF2.out.trans HFY.out).seq F5 fun k hk hl => by
    rcases List.mem_cons.1 hk with rfl | h
    · have := HLs.out; omega
    · have := HFP.out k h; omega))
  have HF25 := Lib.hid (show Fr (s :: fp1) w2 w5 from (HFY.out.mono (by simp)).seq F5 (fun k hk hl => hk))
  have HSV := Lib.hid (sl_fr HSY.out F5 fun g hg hgf => by
    have h1 := HAV.out g (by simpa using hg)
    rcases List.mem_cons.1 hgf with rfl | h
    · have := HS2.out; omega
    · have := HFP2.out g h; omega)
  have HWR0 := Lib.hid ((HWB3.out.fr HFYs.out (fun _ _ => by simp)).fr F5 fun g hg hgf => by
    have h1 := HAV.out g (by simpa using hg)
    rcases List.mem_cons.1 hgf with rfl | h
    · have := HS2.out; omega
    · have := HFP2.out g h; omega)
  have HFP5 := Lib.hid (show ∀ k ∈ fp2, k ∉ (q3.map (·.block)).toList from fun k hk hkv => by
    have h1 := HAV.out k hkv
    have h3 : k < Y.heap.size := by
      have hkk : q3.map (·.block) = some k := by simpa using hkv
      rcases HB3.out.row.2 with ⟨hv, _⟩ | ⟨g, _, _, hv, _, hg, _⟩
      · simp only [Value.slice.injEq] at hv
        rw [hv.1] at hkk
        cases hkk
      · simp only [Value.slice.injEq] at hv
        rw [hv.1] at hkk
        simp only [Option.map_some, Option.some.injEq] at hkk
        subst hkk
        exact Nat.lt_of_lt_of_le (World.at_lt hg) HFYs.out.size
    rcases N5 k hk with h | h
    · have := HFP2.out k h; omega
    · omega)
  have HSV5 := Lib.hid (show s ∉ (q3.map (·.block)).toList from fun h => by
    have h1 := HAV.out s h
    have := HS2.out
    omega)
  clear T5 F5 N5
  obtain ⟨E, hE⟩ : ∃ E, E = cm.1 := ⟨_, rfl⟩
  rw [← hE]
  have hXs : X.size = nm.length := by rw [HX.out, strB_size]
  have HXs := Lib.hid hXs
  by_cases hE0 : E = 0
  · have hcm0 : cm.1 = 0 := by rw [← hE]; exact hE0
    have hL := HGOOD.out hcm0
    have hK := HSPB.out hcm0
    obtain ⟨sp3, hsp3⟩ : ∃ sp3, sp3 = cm.2.1 := ⟨_, rfl⟩
    obtain ⟨m3, hm3⟩ : ∃ m3, m3 = cm.2.2 := ⟨_, rfl⟩
    have hT5 := HT5.out
    rw [← hsp3, ← hm3] at hT5
    rw [← hsp3] at hL
    rw [← hsp3, ← hm3] at hK
    have HT := Lib.hid hT5
    have HLL := Lib.hid hL
    have HK := Lib.hid hK
    subst hE0
    clear hE hcm0 hL hK hT5 hsp3 hm3 hXs
    -- LOOPS
    have HWR := Lib.hid (HWR0.out)
    go_wp2_with fail
    go_loopw [8] (fun iv wy => ∃ i : Nat, i ≤ n ∧ iv = .int .i64 (i : Int) ∧ Hid (∃ l', WrL wy q3 n c3 l' ∧ isBytes l' ∧ Fr (q3.map (·.block)).toList w5 wy)) (fun iv _ => (n - intOf iv).toNat)
    case atStart => exact ⟨0, by omega, rfl, Lib.hid ⟨l, HWR.out, HB.out, Fr.refl _ _⟩⟩
    case round =>
      obtain ⟨i, hin, rfl, hW⟩ := hrel
      by_cases hlt : i < n
      · have hd : decide ((i : Int) < (n : Int)) = true := by rw [decide_eq_true_eq]; omega
        obtain ⟨l', S', hb', F'⟩ := hW.out
        obtain ⟨bb, off, cs, TT, y, rfl, hbk, hyb, ⟨hat1, hat⟩, hs3, hx3⟩ := S'.at hb' hlt
        have hcap := S'.1
        have tb := World.at_lt hbk
        have ki : (i : Int) < (n : Int) := by omega
        obtain ⟨z, hz, hzb⟩ : ∃ z : Int, IntKind.u8.wrap ((y : Int) + 1) = z ∧ 0 ≤ z ∧ z < 256 := ⟨_, rfl, by rw [IntKind.wrap_u8]; omega⟩
        have HNW := Lib.hid (show ∃ l', WrL (wr.put bb (.cells (cs.setIfInBounds (off + i) (.int .u8 z)) TT)) (some ⟨bb, off, none⟩) n c3 l' ∧ isBytes l' ∧ Fr (((some (⟨bb, off, none⟩ : Addr)).map (·.block)).toList) w5 (wr.put bb (.cells (cs.setIfInBounds (off + i) (.int .u8 z)) TT)) from
          ⟨l'.set i z, wrl_set hbk hs3 hx3 hcap hlt z, isBytes_set hb' hzb, F'.put _ _ (fun _ => by simp)⟩)
        clear hx3 hW S' hb' F' 
        go_wp2_with fail
        go_roundw
        case rel => exact ⟨i + 1, hlt, by first | rfl | simp, HNW⟩
        case measure => simp [intOf]; omega
      · obtain rfl : i = n := by omega
        have hd : decide ((i : Int) < (i : Int)) = false := by simp
        obtain ⟨l', S', hb', F'⟩ := hW.out
        have HTa := Lib.hid (HT.out.turn F' HSV5.out HFP5.out)
        have HFa := Lib.hid (HF5.out.seq F' fun k hk hl => by
          have h1 := HAV.out k hk
          have h2 := HF2.out.size
          omega)
        clear S' hb' F' hW
        go_wp2_with fail
        rw [HX.out]
        refine (get_sf HTa.out.st HK.out.srt (fun x hx => (HK.out.ent x hx).nb) (fun x hx => (HK.out.ent x hx).v) HNM.out).mono ?_
        rintro en w6 ⟨q5, m5, c5, rfl, B5⟩
        have hgl : getL nm sp3.L = some l := by
          rw [HLL.out]
          simp [getL]
        rw [hgl] at B5 ⊢
        have HGL := Lib.hid hgl
        have HB5 := Lib.hid B5
        have HTb := Lib.hid (HTa.out.fr0 B5.own.fr)
        have HFb := Lib.hid (HFa.out.trans B5.own.fr)
        have hlo5 : ∀ a, q5 = some a → wr.heap.size ≤ a.block := fun a ha => (B5.new a.block (by rw [ha]; rfl)).1
        have HLO5 := Lib.hid hlo5
        obtain ⟨wb, hwb⟩ : ∃ wb, wb = wr := ⟨_, rfl⟩
        rw [← hwb] at HLO5 HTa HFa
        have HBF := Lib.hid (show Fr [] wb w6 by rw [hwb]; exact B5.own.fr)
        have HW5 := Lib.hid (Bld.wr B5)
        have hm5 : m5 ≤ 4000 := by
          have h1 := B5.len
          have h2 := (HK.out.ent (nm, l) (by rw [HLL.out]; simp)).v
          simp only [Option.getD_some] at h1 h2
          omega
        clear B5 hgl hlo5 hwb
        go_wp2_with fail
        go_loopw [11] (fun iv wy => ∃ i : Nat, i ≤ m5 ∧ iv = .int .i64 (i : Int) ∧ Hid (∃ l', WrL wy q5 m5 c5 l' ∧ isBytes l' ∧ Fr [] wb wy)) (fun iv _ => (m5 - intOf iv).toNat)
        case atStart => exact ⟨0, by omega, rfl, Lib.hid ⟨_, HW5.out, HB.out, HBF.out⟩⟩
        case round =>
          obtain ⟨i, hin, rfl, hW⟩ := hrel
          by_cases hlt : i < m5
          · have hd : decide ((i : Int) < (m5 : Int)) = true := by rw [decide_eq_true_eq]; omega
            obtain ⟨l', S', hb', F'⟩ := hW.out
            obtain ⟨bb, off, cs, TT, y, rfl, hbk, hyb, ⟨hat1, hat⟩, hs3, hx3⟩ := S'.at hb' hlt
            have hcap := S'.1
            have tb := World.at_lt hbk
            have ki : (i : Int) < (m5 : Int) := by omega
            obtain ⟨z, hz, hzb⟩ : ∃ z : Int, IntKind.u8.wrap ((y : Int) - 1) = z ∧ 0 ≤ z ∧ z < 256 := ⟨_, rfl, by rw [IntKind.wrap_u8]; omega⟩
            have HNW := Lib.hid (show ∃ l', WrL (wr.put bb (.cells (cs.setIfInBounds (off + i) (.int .u8 z)) TT)) (some ⟨bb, off, none⟩) m5 c5 l' ∧ isBytes l' ∧ Fr [] wb (wr.put bb (.cells (cs.setIfInBounds (off + i) (.int .u8 z)) TT)) from
              ⟨l'.set i z, wrl_set hbk hs3 hx3 hcap hlt z, isBytes_set hb' hzb, F'.put _ _ (fun h => by have := HLO5.out _ rfl; simp only at this; omega)⟩)
            clear hx3 hW S' hb' F' 
            go_wp2_with fail
            go_roundw
            case rel => exact ⟨i + 1, hlt, by first | rfl | simp, HNW⟩
            case measure => simp [intOf]; omega
          · obtain rfl : i = m5 := by omega
            have hd : decide ((i : Int) < (i : Int)) = false := by simp
            obtain ⟨l', S', hb', F'⟩ := hW.out
            have HTc := Lib.hid (HTa.out.fr0 F')
            have HFc := Lib.hid (HFa.out.trans F')
            clear S' hb' F' hW
            go_wp2_with fail
            refine (all_sf HTc.out.st HK.out.srt HK.out.ent HK.out.len).mono ?_
            rintro en w7 ⟨q9, c9, rfl, G9⟩
            rw [HLL.out] at G9 ⊢
            obtain ⟨wc, hwc⟩ : ∃ wc, wc = wr := ⟨_, rfl⟩
            rw [← hwc] at G9 HTc HFc
            have F9 := G9.gch.own.fr
            have hone9 : GchN wc [] w7 q9 1 c9 [⟨nm, false, l⟩] := G9
            obtain ⟨g, cur, qv, mv, cv, rfl, hg, ⟨hc1, hc2⟩, ⟨lv, hlvb, hwv⟩, hnv, hap, hgn, hml⟩ := hone9.one
            have hmv : mv ≤ 4000 := by
              have h2 := (HK.out.ent (nm, l) (by rw [HLL.out]; simp)).v
              simp only at h2 hml
              omega
            have HNV := Lib.hid hnv
            have HAP := Lib.hid hap
            have HWV := Lib.hid hwv
            have HLVB := Lib.hid hlvb
            have HG := Lib.hid hg
            have HF9 := Lib.hid F9
            have HGN := Lib.hid hgn
            have tg := World.at_lt hg
            clear G9 hone9 hnv hap hwv hlvb F9 hwc hgn hml
            go_wp2_with fail
            refine wp_loop_rounds 2 ?_
            rw [rounds_succ]
            go_wp2_with fail
            go_loopw [14] (fun iv wy => ∃ i : Nat, i ≤ mv ∧ iv = .int .i64 (i : Int) ∧ Hid (∃ l', WrL wy qv mv cv l' ∧ isBytes l' ∧ Fr [] wc wy ∧ wy.blk g = some (.cells cur 32 (0, 0)))) (fun iv _ => (mv - intOf iv).toNat)
            case atStart => exact ⟨0, by omega, rfl, Lib.hid ⟨lv, HWV.out, HLVB.out, HF9.out, HG.out⟩⟩
            case round =>
              obtain ⟨i, hin, rfl, hW⟩ := hrel
              clear hg tg
              obtain ⟨l', S', hb', F', hg⟩ := hW.out
              have tg := World.at_lt hg
              by_cases hlt : i < mv
              · have hd : decide ((i : Int) < (mv : Int)) = true := by rw [decide_eq_true_eq]; omega
                obtain ⟨bb, off, cs, TT, y, rfl, hbk, hyb, ⟨hat1, hat⟩, hs3, hx3⟩ := S'.at hb' hlt
                have hcap := S'.1
                have tb := World.at_lt hbk
                have ki : (i : Int) < (mv : Int) := by omega
                obtain ⟨z, hz, hzb⟩ : ∃ z : Int, IntKind.u8.wrap ((y : Int) + 7) = z ∧ 0 ≤ z ∧ z < 256 := ⟨_, rfl, by rw [IntKind.wrap_u8]; omega⟩
                have hne : bb ≠ g := HAP.out (by omega) bb rfl
                have hne2 := hne.symm
                have hlow : wc.heap.size ≤ bb := HNV.out _ rfl
                have HNW := Lib.hid (show ∃ l', WrL (wr.put bb (.cells (cs.setIfInBounds (off + i) (.int .u8 z)) TT)).drew (some ⟨bb, off, none⟩) mv cv l' ∧ isBytes l' ∧ Fr [] wc (wr.put bb (.cells (cs.setIfInBounds (off + i) (.int .u8 z)) TT)).drew ∧ (wr.put bb (.cells (cs.setIfInBounds (off + i) (.int .u8 z)) TT)).drew.blk g = some (.cells cur 32 (0, 0)) from
                  ⟨l'.set i z, wrl_set hbk hs3 hx3 hcap hlt z, isBytes_set hb' hzb, (F'.put _ _ (fun h => by omega)).drew, (World.at_put_other _ _ _ _ hne).trans hg⟩)
                clear hx3 hW S' hb' F'
                go_upto_region 23 with (fail)
                refine drawn_begin 16 (fun w' => w'.blk g = some (.cells cur 32 (0, 0)) ∧ w'.blk bb = some (.cells cs TT (0, 0))) (by kernel_rfl) ?_
                refine drawn_reads (fuel := 1) [0, 1, 2, 3, 4, 5, 6, 7, 8, 9, 10, 11, 12, 13, 14, 15] rfl (by kernel_rfl) ⟨hg, hbk⟩ ?_
                repeat (first | (refine rowK_step2 rfl rfl (fun K hK => ?_); go_wp2) | (refine rowK_step rfl (fun K hK => ?_); go_simp; refine hK _ ?_; clear hK K))
                refine rowK_nil ⟨fun w' e1 => ?_, ?_⟩
                · obtain ⟨e1, e2⟩ := e1
                  clear hg hbk tg tb
                  have tg := World.at_lt e1
                  have tb := World.at_lt e2
                  repeat (first | (refine rowWp_step2 rfl rfl (fun K hK => ?_); go_wp2) | (refine rowWp_step rfl (fun K hK => ?_); go_simp; refine hK _ ?_; clear hK K))
                  exact rowWp_nil rfl
                refine drawn_end rfl (by kernel_rfl) ?_
                intro K hK
                go_wp2_with fail
                go_roundw
                case rel => exact ⟨i + 1, hlt, by first | rfl | simp, HNW⟩
                case measure => simp [intOf]; omega
              · obtain rfl : i = mv := by omega
                have hd : decide ((i : Int) < (i : Int)) = false := by simp
                have HTd := Lib.hid (HTc.out.fr0 F')
                have HFd := Lib.hid (HFc.out.trans F')
                clear S' hb' F' hW
                go_wp2_with fail
                rw [rounds_succ]
                go_wp2_with fail
                refine (get_sf HTd.out.st HK.out.srt (fun x hx => (HK.out.ent x hx).nb) (fun x hx => (HK.out.ent x hx).v) HNM.out).mono ?_
                rintro en w10 ⟨qx, mx, cx, rfl, Bx⟩
                rw [HGL.out] at Bx ⊢
                have HBx := Lib.hid Bx
                have HFx := Lib.hid (HFd.out.trans Bx.own.fr)
                clear Bx hg tg
                go_wp2_with fail
                refine (bytes_f (A := l) (B := l) HBx.out.sl (HS.out.fr0 (HF0.out.trans HFx.out)) HB.out HB.out).mono ?_
                rintro en w11 ⟨rfl, F11⟩
                have HFy := Lib.hid ((HF0.out.trans HFx.out).trans F11)
                have hdl : decide (l = l) = true := by simp
                rw [hdl]
                clear F11 hdl
                go_wp2_with fail
                exact bodyPost_ret (results_tmp rfl _ _ _) rfl ⟨rfl, HFy.out⟩
  · have hne : (E == 0) = false := by rw [beq_eq_false_iff_ne]; exact hE0
    have hne2 : (E != 0) = true := by rw [bne, hne]; rfl
    have hbad : ¬ ChgOk ⟨nm, false, l⟩ := fun h => hE0 (by rw [hE]; exact HONE.out h)
    have hsz : nm.length < 1 ∨ 32 < nm.length ∨ 4000 < n := by
      rcases Nat.lt_or_ge nm.length 1 with h | h
      · exact .inl h
      · rcases Nat.lt_or_ge 32 nm.length with h2 | h2
        · exact .inr (.inl h2)
        · rcases Nat.lt_or_ge 4000 n with h3 | h3
          · exact .inr (.inr h3)
          · exact absurd ⟨h, h2, by show l.length ≤ 4000; rw [HL.out]; exact h3, by simp⟩ hbad
    have HFW := Lib.hid (HF0.out.trans HF5.out)
    rw [← hXs] at hsz
    clear hbad hE hE0 hXs
    by_cases z1 : X.size < 1
    · have d1 : decide ((X.size : Int) < 1) = true := by rw [decide_eq_true_eq]; omega
      go_wp2_with fail
      exact bodyPost_ret (results_tmp rfl _ _ _) rfl ⟨rfl, HFW.out⟩
    have d1 : decide ((X.size : Int) < 1) = false := by rw [decide_eq_false_iff_not]; omega
    by_cases z2 : 32 < X.size
    · have d2 : decide ((32 : Int) < (X.size : Int)) = true := by rw [decide_eq_true_eq]; omega
      go_wp2_with fail
      exact bodyPost_ret (results_tmp rfl _ _ _) rfl ⟨rfl, HFW.out⟩
    have d2 : decide ((32 : Int) < (X.size : Int)) = false := by rw [decide_eq_false_iff_not]; omega
    have d3 : decide ((4000 : Int) < (n : Int)) = true := by rw [decide_eq_true_eq]; omega
    go_wp2_with fail
    exact bodyPost_ret (results_tmp rfl _ _ _) rfl ⟨rfl, HFW.out⟩
end
end Go.Proofs.Ytombhkekocbfoaa
