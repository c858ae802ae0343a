/- Joined: SoT, SoW, SoZt, SoZu, SoZv, SoZw, SoZx. -/
import Derived.Test.YtombhkekocbfoaaRows
import Derived.Test.YtombhkekocbfoaaZb
import Derived.Test.YtombhkekocbfoaaZe
import Derived.Test.YtombhkekocbfoaaZg
import Derived.ProofKit
import Derived.OpenShut
import Derived.SizedLaws
import Derived.Deep.Slices
import Derived.Test.YtombhkekocbfoaaZi
import Derived.Test.YtombhkekocbfoaaZr
import Derived.Test.YtombhkekocbfoaaZn
import Derived.Test.YtombhkekocbfoaaZm
set_option linter.unusedVariables false
set_option linter.unusedSimpArgs false
namespace Go.Proofs.Ytombhkekocbfoaa
open Go.ChangeShapes Go.WideShapes Go.ChangeAt Go.RowKit Go.Dr Go.Kd Go.St
theorem own : ownKnob Try.prog.godebug = none := by kernel_rfl
theorem laidOut : laidOutB Try.prog = true := by kernel_rfl
theorem Fr.below {W W' : World} (h : Fr [] W W') : Below W.heap.size W W' :=
  ⟨h.os, h.tape, h.output, h.size, fun k hk => h.at_ k hk (by simp)⟩
theorem cells5 : Try.prog.cellsOf 5 = 1 := by kernel_rfl
theorem bytes5 : Try.prog.bytesOf 5 = 1 := by kernel_rfl
theorem wf_u8 {n : Int} (h : (Lit.int .u8 n).wf = true) : 0 ≤ n ∧ n ≤ 255 := by
  simp [Lit.wf, IntKind.min, IntKind.max, IntKind.signed, IntKind.bits] at h; omega
theorem slice_cell {P : Program} {w : World} {r : Reach} {base u e : Nat} {v : Value} (h : Cell.okWide P w r base u v) (hu : P.underlying u = some (.slice e)) : ∃ p n c, v = .slice p n c := by
  unfold Cell.okWide at h
  rw [hu] at h
  cases v <;> simp only [Cell.ok, hu] at h <;> first | exact h.elim | exact ⟨_, _, _, rfl⟩ | skip
/-- Every text is some bytes. -/
theorem str_all (s : ByteArray) : ∃ n : List Int, (∀ x ∈ n, 0 ≤ x ∧ x < 256) ∧ s = strB n := by
  refine ⟨s.data.toList.map fun b => (b.toNat : Int), fun x hx => ?_, ?_⟩
  · obtain ⟨b, -, rfl⟩ := List.mem_map.1 hx
    have := b.toNat_lt
    omega
  · obtain ⟨d⟩ := s
    unfold strB
    congr 1
    apply Array.ext'
    simp only [List.map_map]
    refine (List.map_id _).symm.trans (List.map_congr_left fun b _ => ?_)
    simp [Function.comp]
section
variable {H : Type} {enc : TypeId × Value → H} {w : World} {base : Nat} {spare : Nat → Bool} {held : Bool}
/-- Cells that are there, one behind the other. -/
theorem cellsN {a : Addr} {cs : List Value} {n : Nat} (h : w.cells? base a n = some cs) : cs.length = n ∧ ∀ i v, cs[i]? = some v → w.cell? (a.add i) = some v := by
  unfold World.cells? at h
  split at h
  · have hl := mapM_some_length h
    refine ⟨by simpa using hl, fun i v hv => ?_⟩
    have hi : i < n := by
      have := (List.getElem?_eq_some_iff.1 hv).1
      simp only [List.length_range] at hl; omega
    have := mapM_some_get h i i (by simp [hi])
    rw [this]; exact hv
  · cases h

set_option maxRecDepth 100000 in
theorem spot_of22 {r : Reach} {b0 : Nat} {v : Value} (h : Cell.okWide Try.prog w r b0 22 v) : ∀ a n c, v = .slice (some a) n c → a.spot = none := fun a n c e => by
  subst e
  unfold Cell.okWide at h
  rw [Try.underlying22] at h
  simp only [Cell.ok, Try.underlying22] at h
  exact h.2.2.2.1
set_option maxRecDepth 100000 in
theorem open22 {r : Reach} {b0 : Nat} {v : Value} {d : DataW H} {ps : List MemPlace} (hval : Value.okWide Try.prog w r b0 22 v) (hd : DataW.Trod enc Try.prog w base spare held 22 v d ps) :
    ∃ p n c l, v = .slice p n c ∧ Sl .u8 w p n c l ∧ isBytes l ∧ (n = 0 ∨ ∃ es sp, d = .slice es sp ∧ es.length = n) := by
  unfold Value.okWide at hval
  rw [Try.underlying22] at hval
  obtain ⟨p, N0, c, rfl⟩ := slice_cell hval Try.underlying22
  obtain ⟨fuel, hf⟩ := hd
  have hsp := spot_of22 hval
  rcases Go.Deep.open_slice Try.underlying22 hf with ⟨hcs, _⟩ | ⟨a, len, cap, m, n, D, Pl, hcs, _, hlc, hcm, hmm, hx0, hel⟩
  · replace hcs : [Value.slice p N0 c] = [.slice none 0 0] := hcs
    simp only [List.cons.injEq, and_true] at hcs
    exact ⟨none, 0, 0, [], hcs, ⟨rfl, Nat.le_refl 0, .inl rfl, fun _ => rfl, by simp⟩, by simp [isBytes], .inl rfl⟩
  · replace hcs : [Value.slice p N0 c] = [.slice (some a) len cap] := hcs
    simp only [List.cons.injEq, and_true] at hcs
    have hle : len ≤ m := by rw [hmm]; split <;> omega
    have hspot : a.spot = none := hsp _ _ _ hcs
    obtain ⟨b, off, spot⟩ := a
    replace hspot : spot = none := hspot
    subst hspot
    have key : ∀ i, i < len → ∃ x : Int, (0 ≤ x ∧ x < 256) ∧ w.cell? ⟨b, off + i, none⟩ = some (.int .u8 x) := fun i hi => by
      obtain ⟨cs, hc, ht⟩ := hel i (by omega)
      rw [cells5] at hc
      obtain ⟨hl4, hcell⟩ := cellsN hc
      obtain ⟨y, hy, _, q⟩ := DataW.trod_int Try.underlying5 ht
      subst hy
      have := wf_u8 q
      refine ⟨y, ⟨this.1, by omega⟩, ?_⟩
      have h := hcell 0 _ rfl
      rw [Go.Deep.add_add, Addr.add_mid] at h
      simpa using h
    obtain ⟨f, hf'⟩ := Classical.axiomOfChoice (r := fun (i : Nat) (x : Int) => i < len → (0 ≤ x ∧ x < 256) ∧ w.cell? ⟨b, off + i, none⟩ = some (.int .u8 x)) (fun i => by
      by_cases hi : i < len
      · obtain ⟨x, h⟩ := key i hi; exact ⟨x, fun _ => h⟩
      · exact ⟨0, fun h => absurd h hi⟩)
    refine ⟨some ⟨b, off, none⟩, len, cap, (List.range len).map f, hcs, ⟨by simp, hlc, ?_, by simp, by simp⟩, fun x hx => ?_, .inr ⟨_, _, congrArg Prod.fst hx0, by simp⟩⟩
    · rcases Nat.eq_zero_or_pos len with h0 | h0
      · exact .inl h0
      · right
        have hb := (hf' 0 h0).2
        rw [World.cell?_at] at hb
        cases hbl : w.blk b with
        | none => rw [hbl] at hb; simp at hb
        | some o =>
          cases o with
          | cells cs T fr =>
            have hall : ∀ i, i < len → cs[off + i]? = some (.int .u8 (f i)) := fun i hi => by
              have h := (hf' i hi).2
              rw [World.cell?_at, hbl] at h
              exact h
            have hlast := (Array.getElem?_eq_some_iff.1 (hall (len - 1) (by omega))).1
            refine ⟨b, off, cs, T, fr, rfl, hbl, by omega, ?_⟩
            apply List.ext_getElem?
            intro k
            rcases Nat.lt_or_ge k len with hk | hk
            · rw [Array.getElem?_toList, Array.getElem?_extract_of_lt (by omega), ← Array.getElem?_eq_getElem, hall k hk]
              simp [hk]
            · rw [List.getElem?_eq_none (by rw [Array.length_toList, Array.size_extract]; omega), List.getElem?_eq_none (by simp; omega)]
          | _ => rw [hbl] at hb; simp at hb
    · obtain ⟨i, hi, rfl⟩ := List.mem_map.1 hx
      exact (hf' i (List.mem_range.1 hi)).1
end
theorem and_true' {a b : Bool} (h : a = true) (k : b = true) : (a && b) = true := by rw [h, k]; rfl
theorem mapsRowedFact : (mapsRowed Try.pinned.checked.prog) = true := by kernel_rfl
theorem mayEnterFact : (Try.pinned.checked.prog.mayEnter) = true := by kernel_rfl
theorem liftsFact : ((Rows.storeOwnRow.lifted == Try.pinned.checked.prog.liftsFinal)) = true := by kernel_rfl
theorem makeFact : ((Try.pinned.checked.prog.make == some Rows.storeOwnRow.make)) = true := by kernel_rfl
end Go.Proofs.Ytombhkekocbfoaa
namespace Go.Proofs.Ytombhkekocbfoaa
open Go.ChangeShapes Go.WideShapes Go.ChangeAt Go.RowKit Go.Dr Go.Kd Go.St
theorem cells32 : Try.prog.cellsOf 32 = 3 := by kernel_rfl
theorem cells62 : Try.prog.cellsOf 62 = 4 := by kernel_rfl
theorem cells9 : Try.prog.cellsOf 9 = 1 := by kernel_rfl
theorem cells22 : Try.prog.cellsOf 22 = 1 := by kernel_rfl
theorem cells33 : Try.prog.cellsOf 33 = 1 := by kernel_rfl
theorem cells4 : Try.prog.cellsOf 4 = 1 := by kernel_rfl
theorem cells3 : Try.prog.cellsOf 3 = 1 := by kernel_rfl
theorem wf_i64' {n : Int} (h : (Lit.int .i64 n).wf = true) : -9223372036854775808 ≤ n ∧ n ≤ 9223372036854775807 := by
  simp [Lit.wf, IntKind.min, IntKind.max, IntKind.signed, IntKind.bits] at h; omega
/-- Rows of structs whose cells are read one by one. -/
theorem sv_of {α : Type} {sz : Nat} (hz : 0 < sz) {w : World} {a : Addr} {len cap : Nat} {C : α → List Value} {O : α → Prop} (d : α) (hlc : len ≤ cap) (hC : ∀ x, O x → (C x).length = sz)
    (key : ∀ i, i < len → ∃ x, O x ∧ ∀ j v, (C x)[j]? = some v → w.cell? (a.add (i * sz + j)) = some v) :
    ∃ l : List α, l.length = len ∧ (∀ x ∈ l, O x) ∧ Sv sz w (some a) len cap (l.flatMap C) := by
  obtain ⟨f, hf'⟩ := Classical.axiomOfChoice (r := fun (i : Nat) (b : α) => i < len → O b ∧ ∀ j v, (C b)[j]? = some v → w.cell? (a.add (i * sz + j)) = some v)
    (fun i => by
      by_cases hi : i < len
      · obtain ⟨o, h⟩ := key i hi; exact ⟨o, fun _ => h⟩
      · exact ⟨d, fun h => absurd h hi⟩)
  have okl : ∀ x ∈ (List.range len).map f, O x := fun x hx => by
    obtain ⟨i, hi, rfl⟩ := List.mem_map.1 hx
    exact (hf' i (List.mem_range.1 hi)).1
  have hlen : ((List.range len).map f).length = len := by simp
  refine ⟨(List.range len).map f, hlen, okl, ?_⟩
  rcases Nat.eq_zero_or_pos len with h0 | h0
  · subst h0
    exact ⟨by simp, hlc, .inl rfl, (fun h => by cases h), trivial⟩
  have szc : ∀ i, i < len → (C (f i)).length = sz := fun i hi => hC _ (hf' i hi).1
  have cell : ∀ i, i < len → ∀ j, j < sz → w.cell? (a.add (i * sz + j)) = (C (f i))[j]? := fun i hi j hj => by
    have h1 : (C (f i))[j]? = some ((C (f i))[j]'(by rw [szc i hi]; exact hj)) := List.getElem?_eq_getElem _
    rw [(hf' i hi).2 j _ h1, ← h1]
  have hfirst := cell 0 h0 0 hz
  rw [List.getElem?_eq_getElem (by rw [szc 0 h0]; exact hz)] at hfirst
  rw [show 0 * sz + 0 = 0 by omega] at hfirst
  obtain ⟨b, off, spot⟩ := a
  have hspot : spot = none := by
    unfold World.cell? at hfirst
    rw [Addr.add_zero'] at hfirst
    split at hfirst
    · cases spot with
      | none => rfl
      | some s => simp at hfirst
    · cases hfirst
  subst hspot
  have hlast := cell (len - 1) (by omega) (sz - 1) (by omega)
  rw [List.getElem?_eq_getElem (by rw [szc (len - 1) (by omega)]; omega), Addr.add_mid, World.cell?_at] at hlast
  cases hb : w.blk b with
  | none => rw [hb] at hlast; cases hlast
  | some ob =>
    rw [hb] at hlast
    cases ob with
    | cells cs T fr =>
      have hsz : off + ((len - 1) * sz + (sz - 1)) < cs.size := (Array.getElem?_eq_some_iff.1 hlast).1
      have hmul : len * sz = (len - 1) * sz + sz := by rw [← Nat.succ_mul]; congr 1; omega
      have flat : ∀ l : List α, (∀ x ∈ l, O x) → (l.flatMap C).length = l.length * sz := by
        intro l
        induction l with
        | nil => intro _; simp
        | cons x l ih =>
          intro hx
          rw [List.flatMap_cons, List.length_append, hC x (hx x (by simp)), ih (fun y hy => hx y (by simp [hy])), List.length_cons, Nat.add_mul]
          omega
      have hfl : (((List.range len).map f).flatMap C).length = len * sz := by rw [flat _ okl, hlen]
      refine ⟨hfl, hlc, .inr ⟨b, off, cs, T, fr, rfl, hb, by omega, ?_⟩, (fun h => by cases h), trivial⟩
      apply List.ext_getElem?
      intro k
      rcases Nat.lt_or_ge k (len * sz) with hk | hk
      · have hi : k / sz < len := Nat.div_lt_of_lt_mul (by rw [Nat.mul_comm]; exact hk)
        have hj : k % sz < sz := Nat.mod_lt _ hz
        have hkk : k / sz * sz + k % sz = k := by rw [Nat.mul_comm]; exact Nat.div_add_mod k sz
        have h2 := cell (k / sz) hi (k % sz) hj
        rw [Addr.add_mid, World.cell?_at, hb] at h2
        have h3 : cs[off + (k / sz * sz + k % sz)]? = (C (f (k / sz)))[k % sz]? := h2
        rw [hkk] at h3
        rw [Array.getElem?_toList, Array.getElem?_extract_of_lt (by omega), ← Array.getElem?_eq_getElem, h3]
        have part : ∀ (l : List α) (i : Nat) (x : α), (∀ y ∈ l, O y) → l[i]? = some x → ((l.flatMap C).drop (i * sz)).take sz = C x := by
          intro l
          induction l with
          | nil => intro i x _ h; simp at h
          | cons y l ih =>
            intro i x ho h
            have hy := hC y (ho y (by simp))
            cases i with
            | zero =>
              simp only [List.getElem?_cons_zero, Option.some.injEq] at h
              subst h
              rw [Nat.zero_mul, List.drop_zero, List.flatMap_cons, ← hy, List.take_left]
            | succ i =>
              rw [List.getElem?_cons_succ] at h
              rw [List.flatMap_cons, show (i + 1) * sz = (C y).length + i * sz by rw [hy, Nat.add_mul]; omega, List.drop_append, List.drop_of_length_le (by omega), Nat.add_sub_cancel_left, List.nil_append]
              exact ih i x (fun z hz => ho z (by simp [hz])) h
        have h4 := part ((List.range len).map f) (k / sz) (f (k / sz)) okl (by simp [hi])
        have h5 : (((List.range len).map f).flatMap C)[k]? = (((((List.range len).map f).flatMap C).drop (k / sz * sz)).take sz)[k % sz]? := by
          rw [List.getElem?_take, if_pos hj, List.getElem?_drop, hkk]
        rw [h5, h4]
      · rw [List.getElem?_eq_none (by rw [Array.length_toList, Array.size_extract]; omega), List.getElem?_eq_none (by omega)]
    | _ => cases hlast
/-- A change as it lies. -/
structure ChI (w : World) where
  c : Chg
  q : Option Addr
  m : Nat
  d : Nat
  s : Sl .u8 w q m d c.val
  nb : Byt c.name
  vb : Byt c.val
def chI {w : World} (x : ChI w) : List Value := [.string (strB x.c.name), .slice x.q x.m x.d, .bool x.c.gone]
theorem chV_of {w : World} : ∀ l : List (ChI w), ChV w (l.flatMap chI) (l.map (·.c))
  | [] => .nil
  | x :: l => .cons x.s (chV_of l)
/-- A step as it lies: its changes. -/
structure StI (w : World) where
  l : List Chg
  q : Option Addr
  m : Nat
  d : Nat
  fuse : Int
  crash : Bool
  keep : Int
  c : Chs w q m d l
  b : ∀ c ∈ l, Byt c.name ∧ Byt c.val
  f1 : -9223372036854775808 ≤ fuse ∧ fuse ≤ 9223372036854775807
  k1 : -9223372036854775808 ≤ keep ∧ keep ≤ 9223372036854775807
  len : m ≤ 9223372036854775807
def stI {w : World} (x : StI w) : List Value := [.slice x.q x.m x.d, .int .i64 x.fuse, .bool x.crash, .int .i64 x.keep]
section
variable {H : Type} {enc : TypeId × Value → H} {w : World} {base : Nat} {spare : Nat → Bool} {held : Bool}
set_option maxRecDepth 100000 in
/-- Bytes that lie in a struct. -/
theorem bytes_of_trod {fuel : Nat} {cs : List Value} {x : DataW H × List MemPlace} (hf : DataW.trod enc Try.prog w base spare held fuel 22 cs = some x) :
    ∃ p n c l, cs = [.slice p n c] ∧ Sl .u8 w p n c l ∧ isBytes l := by
  rcases Go.Deep.open_slice Try.underlying22 hf with ⟨hcs, _⟩ | ⟨a, len, cap, m, n, D, Pl, hcs, _, hlc, hcm, hmm, _, hel⟩
  · exact ⟨none, 0, 0, [], hcs, ⟨rfl, Nat.le_refl 0, .inl rfl, fun _ => rfl, trivial⟩, by simp [isBytes]⟩
  · have hle : len ≤ m := by rw [hmm]; split <;> omega
    obtain ⟨l, h1, h2, h3⟩ := sv_of (sz := 1) (by omega) (C := fun x : Int => [Value.int .u8 x]) (O := fun x => 0 ≤ x ∧ x < 256) 0 hlc (fun x hx => rfl) (w := w) (a := a) fun i hi => by
      obtain ⟨cs, hc, ht⟩ := hel i (by omega)
      rw [cells5] at hc
      obtain ⟨hl4, hcell⟩ := cellsN hc
      obtain ⟨y, hy, _, q⟩ := DataW.trod_int Try.underlying5 ht
      subst hy
      have := wf_u8 q
      refine ⟨y, ⟨this.1, by omega⟩, fun j v hv => ?_⟩
      have := hcell j v hv
      rwa [Go.Deep.add_add] at this
    refine ⟨some a, len, cap, l, hcs, ⟨h1, hlc, ?_, (fun h => by cases h), trivial⟩, h2⟩
    rcases h3.row with h0 | ⟨b, off, cs, T, fr, e, hb, hs, hx⟩
    · exact .inl h0
    · refine .inr ⟨b, off, cs, T, fr, e, hb, by omega, ?_⟩
      rw [Nat.mul_one] at hx
      rw [hx]
      clear hx h1 h2 h3
      induction l with
      | nil => rfl
      | cons x l ih => simp [ih]
theorem drop_split (cs : List Value) (a b : Nat) : cs.drop a = (cs.drop a).take b ++ cs.drop (a + b) := by
  rw [← List.drop_drop, List.take_append_drop]
set_option maxRecDepth 100000 in
theorem change_of_trod {fuel : Nat} {cs : List Value} {x : DataW H × List MemPlace} (h : DataW.trod enc Try.prog w base spare held fuel 32 cs = some x) :
    ∃ y : ChI w, cs = chI y := by
  obtain ⟨xs, m, rfl, _, hl, hxl, hf⟩ := DataW.trod_struct Try.underlying32 h
  rw [cells32] at hl
  have hs : xs.length = 3 := hxl
  have h0 : DataW.trod enc Try.prog w base spare held m 9 ((cs.drop 0).take (Try.prog.cellsOf 9)) = xs[0]? := hf 0 _ rfl
  have h1 : DataW.trod enc Try.prog w base spare held m 22 ((cs.drop 1).take (Try.prog.cellsOf 22)) = xs[1]? := hf 1 _ rfl
  have h2 : DataW.trod enc Try.prog w base spare held m 4 ((cs.drop 2).take (Try.prog.cellsOf 4)) = xs[2]? := hf 2 _ rfl
  rw [cells9] at h0
  rw [cells22] at h1
  rw [cells4] at h2
  rw [List.getElem?_eq_getElem (by omega)] at h0 h1 h2
  obtain ⟨s0, p0, _, _⟩ := DataW.trod_string Try.underlying9 h0
  obtain ⟨p, n, c, l, p1, S1, b1⟩ := bytes_of_trod h1
  obtain ⟨g, p2, _⟩ := DataW.trod_bool Try.underlying4 h2
  obtain ⟨nm, hnm, hs0⟩ := str_all s0
  refine ⟨⟨⟨nm, g, l⟩, p, n, c, S1, hnm, b1⟩, ?_⟩
  have e : cs = cs.drop 0 := rfl
  rw [e, drop_split cs 0 1, drop_split cs (0 + 1) 1, drop_split cs (0 + 1 + 1) 1]
  rw [show 0 + 1 = 1 from rfl, show 1 + 1 = 2 from rfl, show 2 + 1 = 3 from rfl, p0, p1, p2, List.drop_of_length_le (by omega), hs0]
  rfl
set_option maxRecDepth 100000 in
theorem changes_of_trod {fuel : Nat} {cs : List Value} {x : DataW H × List MemPlace} (hf : DataW.trod enc Try.prog w base spare held fuel 33 cs = some x) :
    ∃ p n c l, cs = [.slice p n c] ∧ Chs w p n c l ∧ (∀ x ∈ l, Byt x.name ∧ Byt x.val) ∧ n ≤ 9223372036854775807 := by
  rcases Go.Deep.open_slice Try.underlying33 hf with ⟨hcs, _⟩ | ⟨a, len, cap, m, n, D, Pl, hcs, _, hlc, hcm, hmm, _, hel⟩
  · exact ⟨none, 0, 0, [], hcs, ⟨[], ⟨rfl, Nat.le_refl 0, .inl rfl, fun _ => rfl, trivial⟩, .nil⟩, by simp, by omega⟩
  · have hle : len ≤ m := by rw [hmm]; split <;> omega
    have key : ∀ i, i < len → ∃ x : ChI w, True ∧ ∀ j v, (chI x)[j]? = some v → w.cell? (a.add (i * 3 + j)) = some v := fun i hi => by
      obtain ⟨cs, hc, ht⟩ := hel i (by omega)
      rw [cells32] at hc
      obtain ⟨hl4, hcell⟩ := cellsN hc
      obtain ⟨y, rfl⟩ := change_of_trod ht
      refine ⟨y, trivial, fun j v hv => ?_⟩
      have := hcell j v hv
      rwa [Go.Deep.add_add] at this
    obtain ⟨l, h1, -, h3⟩ := sv_of (sz := 3) (by omega) (C := chI) (O := fun _ => True) ⟨⟨[], false, []⟩, none, 0, 0, ⟨rfl, Nat.le_refl 0, .inl rfl, fun _ => rfl, trivial⟩, by simp [Byt], by simp [Byt]⟩ hlc (fun x _ => rfl) key
    refine ⟨some a, len, cap, l.map (·.c), hcs, ⟨_, h3, chV_of l⟩, fun x hx => ?_, by unfold maxLen at hcm; omega⟩
    obtain ⟨y, _, rfl⟩ := List.mem_map.1 hx
    exact ⟨y.nb, y.vb⟩
set_option maxRecDepth 100000 in
theorem step_of_trod {fuel : Nat} {cs : List Value} {x : DataW H × List MemPlace} (h : DataW.trod enc Try.prog w base spare held fuel 62 cs = some x) :
    ∃ y : StI w, cs = stI y := by
  obtain ⟨xs, m, rfl, _, hl, hxl, hf⟩ := DataW.trod_struct Try.underlying62 h
  rw [cells62] at hl
  have hs : xs.length = 4 := hxl
  have h0 : DataW.trod enc Try.prog w base spare held m 33 ((cs.drop 0).take (Try.prog.cellsOf 33)) = xs[0]? := hf 0 _ rfl
  have h1 : DataW.trod enc Try.prog w base spare held m 3 ((cs.drop 1).take (Try.prog.cellsOf 3)) = xs[1]? := hf 1 _ rfl
  have h2 : DataW.trod enc Try.prog w base spare held m 4 ((cs.drop 2).take (Try.prog.cellsOf 4)) = xs[2]? := hf 2 _ rfl
  have h3 : DataW.trod enc Try.prog w base spare held m 3 ((cs.drop 3).take (Try.prog.cellsOf 3)) = xs[3]? := hf 3 _ rfl
  rw [cells33] at h0
  rw [cells3] at h1 h3
  rw [cells4] at h2
  rw [List.getElem?_eq_getElem (by omega)] at h0 h1 h2 h3
  obtain ⟨p, n, c, l, p0, C0, b0, n0⟩ := changes_of_trod h0
  obtain ⟨n1, p1, _, q1⟩ := DataW.trod_int Try.underlying3 h1
  obtain ⟨g, p2, _⟩ := DataW.trod_bool Try.underlying4 h2
  obtain ⟨n3, p3, _, q3⟩ := DataW.trod_int Try.underlying3 h3
  refine ⟨⟨l, p, n, c, n1, g, n3, C0, b0, wf_i64' q1, wf_i64' q3, n0⟩, ?_⟩
  have e : cs = cs.drop 0 := rfl
  rw [e, drop_split cs 0 1, drop_split cs (0 + 1) 1, drop_split cs (0 + 1 + 1) 1, drop_split cs (0 + 1 + 1 + 1) 1]
  rw [show 0 + 1 = 1 from rfl, show 1 + 1 = 2 from rfl, show 2 + 1 = 3 from rfl, show 3 + 1 = 4 from rfl, p0, p1, p2, p3, List.drop_of_length_le (by omega)]
  rfl
set_option maxRecDepth 100000 in
theorem open33 {r : Reach} {b0 : Nat} {v : Value} {d : DataW H} {ps : List MemPlace} (hval : Value.okWide Try.prog w r b0 33 v) (hd : DataW.Trod enc Try.prog w base spare held 33 v d ps) :
    ∃ p n c l, v = .slice p n c ∧ Chs w p n c l ∧ (∀ x ∈ l, Byt x.name ∧ Byt x.val) ∧ n ≤ 9223372036854775807 := by
  unfold Value.okWide at hval
  rw [Try.underlying33] at hval
  obtain ⟨p, N0, c, rfl⟩ := slice_cell hval Try.underlying33
  obtain ⟨fuel, hf⟩ := hd
  obtain ⟨p', n', c', l, h1, h2, h3, h4⟩ := changes_of_trod hf
  replace h1 : [Value.slice p N0 c] = [.slice p' n' c'] := h1
  simp only [List.cons.injEq, and_true] at h1
  exact ⟨p', n', c', l, h1, h2, h3, h4⟩
/-- Steps, as they lie. -/
def Stps (w : World) (p : Option Addr) (n cap : Nat) (l : List (StI w)) : Prop := Sv 4 w p n cap (l.flatMap stI) ∧ l.length = n
set_option maxRecDepth 100000 in
theorem openSteps {r : Reach} {b0 : Nat} {v : Value} {d : DataW H} {ps : List MemPlace} (hval : Value.okWide Try.prog w r b0 59 v) (hd : DataW.Trod enc Try.prog w base spare held 59 v d ps) :
    ∃ p n c, ∃ l : List (StI w), v = .slice p n c ∧ Stps w p n c l ∧ n ≤ 9223372036854775807 := by
  unfold Value.okWide at hval
  rw [Try.underlying59] at hval
  obtain ⟨p, N0, c, rfl⟩ := slice_cell hval Try.underlying59
  obtain ⟨fuel, hf⟩ := hd
  rcases Go.Deep.open_slice Try.underlying59 hf with ⟨hcs, _⟩ | ⟨a, len, cap, m, n, D, Pl, hcs, _, hlc, hcm, hmm, _, hel⟩
  · replace hcs : [Value.slice p N0 c] = [.slice none 0 0] := hcs
    simp only [List.cons.injEq, and_true] at hcs
    exact ⟨none, 0, 0, [], hcs, ⟨⟨rfl, Nat.le_refl 0, .inl rfl, fun _ => rfl, trivial⟩, rfl⟩, by omega⟩
  · replace hcs : [Value.slice p N0 c] = [.slice (some a) len cap] := hcs
    simp only [List.cons.injEq, and_true] at hcs
    have hle : len ≤ m := by rw [hmm]; split <;> omega
    have key : ∀ i, i < len → ∃ x : StI w, True ∧ ∀ j v, (stI x)[j]? = some v → w.cell? (a.add (i * 4 + j)) = some v := fun i hi => by
      obtain ⟨cs, hc, ht⟩ := hel i (by omega)
      rw [cells62] at hc
      obtain ⟨hl4, hcell⟩ := cellsN hc
      obtain ⟨y, rfl⟩ := step_of_trod ht
      refine ⟨y, trivial, fun j v hv => ?_⟩
      have := hcell j v hv
      rwa [Go.Deep.add_add] at this
    obtain ⟨l, h1, -, h3⟩ := sv_of (sz := 4) (by omega) (C := stI) (O := fun _ => True) ⟨[], none, 0, 0, 0, false, 0, ⟨[], ⟨rfl, Nat.le_refl 0, .inl rfl, fun _ => rfl, trivial⟩, .nil⟩, by simp, by omega, by omega, by omega⟩ hlc (fun x _ => rfl) key
    exact ⟨some a, len, cap, l, hcs, ⟨h3, h1⟩, by unfold maxLen at hcm; omega⟩
end
end Go.Proofs.Ytombhkekocbfoaa
namespace Go.Proofs.Ytombhkekocbfoaa
open Go.RowKit Go.Dr Go.Kd Go.St
theorem flat_partP : ∀ {w : World} (l : List (StI w)) (i : Nat) (x : StI w), l[i]? = some x → ((l.flatMap stI).drop (i * 4)).take 4 = stI x := by
  intro w l
  induction l with
  | nil => intro i x h; simp at h
  | cons y l ih =>
    intro i x h
    cases i with
    | zero =>
      simp only [List.getElem?_cons_zero, Option.some.injEq] at h
      subst h
      rfl
    | succ i =>
      rw [List.getElem?_cons_succ] at h
      rw [List.flatMap_cons, show (i + 1) * 4 = (stI y).length + i * 4 by simp [stI]; omega, List.drop_append, List.drop_of_length_le (by omega), Nat.add_sub_cancel_left, List.nil_append]
      exact ih i x h
/-- A step, as it lies. -/
theorem Stps.atP {w : World} {p : Option Addr} {n cap : Nat} {l : List (StI w)} (h : Stps w p n cap l) {j : Nat} (hj : j < n) : ∃ (x : StI w) (b off : Nat) (cs : Array Value) (T : TypeId) (fr : Nat × Nat), p = some ⟨b, off, none⟩ ∧ w.blk b = some (.cells cs T fr) ∧ off + j * 4 + 4 ≤ cs.size ∧ (∃ h : off + j * 4 < cs.size, cs[off + j * 4] = .slice x.q x.m x.d) ∧ (∃ h : off + j * 4 + 1 < cs.size, cs[off + j * 4 + 1] = .int .i64 x.fuse) ∧ (∃ h : off + j * 4 + 2 < cs.size, cs[off + j * 4 + 2] = .bool x.crash) ∧ (∃ h : off + j * 4 + 3 < cs.size, cs[off + j * 4 + 3] = .int .i64 x.keep) ∧ l[j]? = some x := by
  obtain ⟨h1, h2⟩ := h
  obtain ⟨b, off, cs, T, fr, e1, e2, e3, e4, e5⟩ := h1.elem hj
  obtain ⟨x, hx⟩ : ∃ x, l[j]? = some x := ⟨_, List.getElem?_eq_getElem (by omega)⟩
  rw [flat_partP l j x hx] at e5
  have g0 := congrArg (fun a => a[0]?) e5
  have g1 := congrArg (fun a => a[1]?) e5
  have g2 := congrArg (fun a => a[2]?) e5
  have g3 := congrArg (fun a => a[3]?) e5
  rw [Array.getElem?_extract_of_lt (by omega)] at g0 g1 g2 g3
  exact ⟨x, b, off, cs, T, fr, e1, e2, e4, ⟨by omega, by simpa [stI] using g0⟩, ⟨by omega, by simpa [stI] using g1⟩, ⟨by omega, by simpa [stI] using g2⟩, ⟨by omega, by simpa [stI] using g3⟩, hx⟩
noncomputable def y7 : Code := Try.f7.body.getD .skip
noncomputable def y10 : Code := behind 8 y7
noncomputable def y27 : Code := behind 9 y7
noncomputable def yRnd : Code := loopOf' ((blockOf' 0 y7).getD .skip)
noncomputable def yB1 : Code := (blockOf' 1 y7).getD .skip
noncomputable def y15 : Code := behind 1 yB1
noncomputable def y18 : Code := behind 2 yB1
noncomputable def y20 : Code := behind 3 yB1
set_option maxRecDepth 100000 in
/-- StorePlays' frame, written out. -/
def frm7 (u : Nat → Value) : Array Value := (u 0 :: u 1 :: u 2 :: u 3 :: u 4 :: u 5 :: u 6 :: u 7 :: u 8 :: u 9 :: u 10 :: u 11 :: u 12 :: u 13 :: u 14 :: u 15 :: u 16 :: u 17 :: u 18 :: u 19 :: u 20 :: u 21 :: u 22 :: u 23 :: u 24 :: u 25 :: u 26 :: u 27 :: u 28 :: u 29 :: u 30 :: u 31 :: u 32 :: u 33 :: u 34 :: u 35 :: u 36 :: u 37 :: u 38 :: u 39 :: u 40 :: u 41 :: u 42 :: u 43 :: u 44 :: u 45 :: u 46 :: u 47 :: u 48 :: u 49 :: u 50 :: u 51 :: u 52 :: u 53 :: u 54 :: u 55 :: u 56 :: u 57 :: u 58 :: u 59 :: u 60 :: u 61 :: u 62 :: u 63 :: u 64 :: u 65 :: u 66 :: u 67 :: u 68 :: u 69 :: u 70 :: u 71 :: u 72 :: u 73 :: u 74 :: u 75 :: u 76 :: u 77 :: u 78 :: u 79 :: u 80 :: u 81 :: u 82 :: u 83 :: u 84 :: u 85 :: u 86 :: u 87 :: u 88 :: u 89 :: u 90 :: u 91 :: u 92 :: u 93 :: u 94 :: u 95 :: u 96 :: u 97 :: u 98 :: u 99 :: u 100 :: u 101 :: u 102 :: u 103 :: u 104 :: u 105 :: u 106 :: u 107 :: u 108 :: u 109 :: u 110 :: u 111 :: u 112 :: u 113 :: u 114 :: u 115 :: u 116 :: u 117 :: u 118 :: u 119 :: u 120 :: u 121 :: u 122 :: u 123 :: u 124 :: u 125 :: u 126 :: u 127 :: u 128 :: u 129 :: u 130 :: u 131 :: u 132 :: u 133 :: u 134 :: u 135 :: u 136 :: u 137 :: u 138 :: u 139 :: u 140 :: u 141 :: u 142 :: u 143 :: u 144 :: u 145 :: u 146 :: u 147 :: u 148 :: u 149 :: u 150 :: u 151 :: u 152 :: u 153 :: u 154 :: u 155 :: u 156 :: u 157 :: u 158 :: u 159 :: u 160 :: u 161 :: u 162 :: u 163 :: u 164 :: u 165 :: u 166 :: u 167 :: u 168 :: u 169 :: u 170 :: u 171 :: u 172 :: u 173 :: u 174 :: u 175 :: u 176 :: u 177 :: u 178 :: u 179 :: u 180 :: u 181 :: u 182 :: u 183 :: u 184 :: u 185 :: u 186 :: u 187 :: u 188 :: u 189 :: u 190 :: u 191 :: u 192 :: u 193 :: u 194 :: u 195 :: u 196 :: u 197 :: u 198 :: u 199 :: u 200 :: u 201 :: u 202 :: u 203 :: u 204 :: u 205 :: u 206 :: u 207 :: u 208 :: u 209 :: u 210 :: []).toArray
set_option maxRecDepth 100000 in
theorem frm7_of {tm : Array Value} (h : tm.size = 211) : ∃ u : Nat → Value, tm = frm7 u := ⟨fun i => tm.getD i undef, arr_fun h⟩
/-- Between two steps: the frame and the stores. -/
structure YI (p : Option Addr) (n cap : Nat) (w0 : World) (d r i : Nat) (tm : Array Value) (W : World) (s t : Nat) (m : DM) (sp : SP) (fp rfp : List Nat) : Prop where
  sz : tm.size = 211
  s1 : tm.getD 1 undef = .slice p n cap
  s5 : tm.getD 5 undef = .pointer (some ⟨d, 0, none⟩)
  s6 : tm.getD 6 undef = .pointer (some ⟨r, 0, none⟩)
  s7 : tm.getD 7 undef = .pointer (some ⟨s, 0, none⟩)
  s9 : tm.getD 9 undef = .pointer (some ⟨t, 0, none⟩)
  s11 : tm.getD 11 undef = .int .i64 (i : Int)
  P : Pl w0 W d r s t m sp m sp fp rfp
  I : Inv m sp
  n64 : m.n ≤ 64
theorem byt_asC {sp : SP} {n : Nat} (K : SPB n sp) : ∀ c ∈ asC sp.L, Byt c.name ∧ Byt c.val := fun c hc => by
  obtain ⟨x, hx, rfl⟩ := List.mem_map.1 hc
  exact ⟨(K.ent x hx).nb, (K.ent x hx).vb⟩
section
variable {w : World}
set_option maxRecDepth 100000 in
set_option maxHeartbeats 8000000 in
theorem y20_f {Q : Exit → Act → World → Prop} {tm : Array Value} {w0 W : World} {p : Option Addr} {n cap d r i s t : Nat} {m : DM} {sp : SP} {fp rfp : List Nat} {ls : List (StI w)} (L : Stps w p n cap ls) (F0 : Fr [] w w0) (Y : YI p n cap w0 d r i tm W s t m sp fp rfp) (hi : i < n)
    (hnext : ∀ tm' W' s' t' m' sp' fp' rfp', YI p n cap w0 d r i tm' W' s' t' m' sp' fp' rfp' → Q .normal ⟨tm', []⟩ W') : y20.wp Try.prog Q ⟨tm, []⟩ W := by
  obtain ⟨sz, s1, s5, s6, s7, s9, s11, P, I, n64⟩ := Y
  obtain ⟨u, rfl⟩ := frm7_of sz
  have a1 : u 1 = _ := s1
  have a5 : u 5 = _ := s5
  have a6 : u 6 = _ := s6
  have a7 : u 7 = _ := s7
  have a9 : u 9 = _ := s9
  have a11 : u 11 = _ := s11
  have HN := Lib.hid hnext
  have HP := Lib.hid P
  have HI := Lib.hid I
  obtain ⟨x, b, off, cs, TT, fr, rfl, fb, hsz, -, -, ⟨x2', x2⟩, ⟨x3', x3⟩, -⟩ := L.atP hi
  obtain ⟨cr, hcr⟩ : ∃ cr, cr = x.crash := ⟨_, rfl⟩
  obtain ⟨kp, hkp⟩ : ∃ kp, kp = x.keep := ⟨_, rfl⟩
  rw [← hcr] at x2
  rw [← hkp] at x3
  have HFB := Lib.hid fb
  have HF0 := Lib.hid F0
  have fbw := (F0.trans P.fr).get fb (by simp)
  have tb := World.at_lt fbw
  clear hnext P I s1 s5 s6 s7 s9 s11 sz hcr hkp fb L
  conv => arg 2; whnf
  unfold frm7
  rw [a1, a5, a6, a7, a9, a11]
  clear a1 a5 a6 a7 a9 a11
  have ki : (i : Int) < (n : Int) := by omega
  cases cr with
  | false =>
    go_wp2_with fail
    exact HN.out _ _ s t m sp fp rfp ⟨rfl, rfl, rfl, rfl, rfl, rfl, rfl, HP.out, HI.out, n64⟩
  | true =>
    go_wp2_with fail
    refine (crash_any HP.out.T.disk kp (by have := HI.out.wl; omega)).mono ?_
    rintro en w1 ⟨rfl, fp1, D1, F1, N1⟩
    have HB1 := Lib.hid (HP.out.both.disk D1 F1 N1)
    have fb1 := (HF0.out.trans HB1.out.fr).get HFB.out (by simp)
    clear D1 F1 N1 fbw tb
    have tb := World.at_lt fb1
    go_wp2_with fail
    refine (rcrash_any HB1.out.R kp (by have := HI.out.wl; omega)).mono ?_
    rintro en w2 ⟨rfl, rfp2, R2, F2, N2⟩
    have HB2 := Lib.hid (HB1.out.ref R2 F2 (News.sub N2))
    obtain ⟨sp', hop, hI'⟩ := HI.out.crash kp
    have hnn : (crashM m kp).n ≤ 64 := n64
    obtain ⟨m', hm'⟩ : ∃ m', m' = crashM m kp := ⟨_, rfl⟩
    rw [← hm'] at HB2 hop hI' hnn
    have HOP := Lib.hid hop
    have HI' := Lib.hid hI'
    clear R2 F2 N2 fb1 tb hm' hop hI'
    go_wp2_with fail
    refine (open_fv (av := rfp2) HB2.out.D (fun k hk => HB2.out.R.lt k hk) (by omega) HI'.out.byt.2.1 (by have := HI'.out.wl; omega)).mono ?_
    intro en w3 hO
    rw [HOP.out] at hO
    obtain ⟨-, s', fp3, rfl, T3, F3, N3, hsl⟩ := hO
    have HB3 := Lib.hid (HB2.out.disk T3.disk F3 N3)
    have HT3 := Lib.hid T3
    have HF3 := Lib.hid F3
    have HN3 := Lib.hid N3
    clear T3 F3 N3
    go_wp2_with fail
    refine (dopen_f (av := s' :: fp3) HB3.out.R (fun k hk => by
      rcases List.mem_cons.1 hk with rfl | hk
      · exact HT3.out.slt
      · exact HB3.out.D.lt k hk) (by omega) HI'.out.byt.2.1 HI'.out.seen (by have := HI'.out.wl; omega)).mono ?_
    intro en w4 hO
    rw [HOP.out] at hO
    obtain ⟨-, t', rfp4, rfl, T4, F4, N4, htl⟩ := hO
    have HPL := Lib.hid (HB2.out.open_ HT3.out HF3.out HN3.out hsl T4 F4 N4 htl)
    obtain ⟨⟨q, nL, c, ft, C⟩, -, -⟩ := T4
    have HC := Lib.hid C.chs
    obtain ⟨SC, hSC⟩ : ∃ SC, SC = dsC r sp'.half sp'.epoch sp'.count sp'.fin q nL c sp'.broken := ⟨_, rfl⟩
    rw [← hSC] at ft
    have szC : SC.size = 7 := by rw [hSC]; rfl
    obtain ⟨x5', x5⟩ := Array.getElem?_eq_some_iff.1 (show SC[5]? = some (.slice q nL c) by rw [hSC]; rfl)
    have tt := World.at_lt ft
    clear F4 N4 C hSC
    go_upto_region 25 with (fail)
    refine drawn_begin 15 (fun w' => w'.blk t' = some (.cells SC 56)) (by kernel_rfl) ?_
    refine drawn_reads (fuel := 4) [0, 1, 2, 3, 4, 5, 6, 7, 9, 10, 11, 12] rfl (by kernel_rfl) ft ?_
    repeat (first | (refine rowK_step2 rfl rfl (fun K hK => ?_); go_wp2) | (refine rowK_step rfl (fun K hK => ?_); go_simp; refine hK _ ?_; clear hK K))
    refine rowK_nil ⟨fun w' e1 => ?_, ?_⟩
    · clear ft tt
      have tt := World.at_lt e1
      repeat (first | (refine rowWp_step2 rfl rfl (fun K hK => ?_); go_wp2) | (refine rowWp_step rfl (fun K hK => ?_); go_simp; refine hK _ ?_; clear hK K))
      exact rowWp_nil rfl
    refine drawn_next 8 (fuel := 3) rfl (by kernel_rfl) ?_
    intro K hK
    go_wp2_with fail
    refine (all_sf (HPL.out.T.st.fr0 (Fr.refl [] _).drew) HI'.out.spb.srt HI'.out.spb.ent HI'.out.spb.len).mono ?_
    rintro en w5 ⟨q1, c1, rfl, G1⟩
    have F5 : Fr [] w4 w5 := (Fr.refl [] w4).drew.trans G1.gch.own.fr
    have f5 := F5.get ft (by simp)
    have HC1 := Lib.hid G1.gch.chs
    have HF5 := Lib.hid F5
    have hl64 := HI'.out.spb.len
    obtain ⟨n1, hn1⟩ : ∃ n1, n1 = sp'.L.length := ⟨_, rfl⟩
    rw [← hn1] at HC1 hl64 ⊢
    clear G1 F5 ft tt hn1
    have t5 := World.at_lt f5
    go_wp2_with fail
    refine ⟨f5, ?_⟩
    refine drawn_next 13 (fuel := 2) rfl (by kernel_rfl) ?_
    intro K hK
    go_wp2_with fail
    refine (same_f HC1.out (HC.out.fr0 HF5.out) (byt_asC HI'.out.spb) (byt_asC HI'.out.spb) (by omega)).mono ?_
    rintro en w6 ⟨b6, rfl, F6, hr⟩
    obtain rfl : b6 = true := hr.2 rfl
    have f6 := F6.get f5 (by simp)
    have t6 := World.at_lt f6
    have HF6 := Lib.hid (HF5.out.trans F6)
    clear F6 f5 t5 hr
    go_wp2_with fail
    refine ⟨f6, ?_⟩
    refine drawn_next 14 (fuel := 1) rfl (by kernel_rfl) ?_
    intro K hK
    go_wp2_with fail
    refine ⟨f6, ?_⟩
    refine drawn_end rfl (by kernel_rfl) ?_
    intro K hK
    go_wp2_with fail
    exact HN.out _ _ s' t' m' sp' fp3 rfp4 ⟨rfl, rfl, rfl, rfl, rfl, rfl, rfl, HPL.out.fr0 HF6.out, HI'.out, hnn⟩
end
end Go.Proofs.Ytombhkekocbfoaa
namespace Go.Proofs.Ytombhkekocbfoaa
open Go.RowKit Go.Dr Go.Kd Go.St
section
variable {w : World}
set_option maxRecDepth 100000 in
set_option maxHeartbeats 8000000 in
theorem y18_f {Q : Exit → Act → World → Prop} {tm : Array Value} {w0 W : World} {p : Option Addr} {n cap d r i s t : Nat} {m : DM} {sp : SP} {fp rfp : List Nat} {ls : List (StI w)} (L : Stps w p n cap ls) (F0 : Fr [] w w0) (Y : YI p n cap w0 d r i tm W s t m sp fp rfp) (hi : i < n)
    (hsm : ∀ x, ls[i]? = some x → x.m ≤ 40000)
    (hnext : ∀ tm' W' s' t' m' sp' fp' rfp', YI p n cap w0 d r i tm' W' s' t' m' sp' fp' rfp' → Q .normal ⟨tm', []⟩ W') : y18.wp Try.prog Q ⟨tm, []⟩ W := by
  obtain ⟨sz, s1, s5, s6, s7, s9, s11, P, I, n64⟩ := Y
  obtain ⟨u, rfl⟩ := frm7_of sz
  have a1 : u 1 = _ := s1
  have a5 : u 5 = _ := s5
  have a6 : u 6 = _ := s6
  have a7 : u 7 = _ := s7
  have a9 : u 9 = _ := s9
  have a11 : u 11 = _ := s11
  have HN := Lib.hid hnext
  have HP := Lib.hid P
  have HI := Lib.hid I
  have HL := Lib.hid L
  obtain ⟨x, b, off, cs, TT, fr, rfl, fb, hsz, ⟨x0', x0⟩, -, -, -, hxl⟩ := L.atP hi
  obtain ⟨qx, hqx⟩ : ∃ qx, qx = x.q := ⟨_, rfl⟩
  obtain ⟨mx, hmx⟩ : ∃ mx, mx = x.m := ⟨_, rfl⟩
  obtain ⟨dx, hdx⟩ : ∃ dx, dx = x.d := ⟨_, rfl⟩
  obtain ⟨lx, hlx⟩ : ∃ lx, lx = x.l := ⟨_, rfl⟩
  have hcx := x.c
  have hbx := x.b
  have hmb := hsm x hxl
  rw [← hqx, ← hmx, ← hdx] at x0
  rw [← hqx, ← hmx, ← hdx, ← hlx] at hcx
  rw [← hlx] at hbx
  rw [← hmx] at hmb
  have HCX := Lib.hid hcx
  have HBX := Lib.hid hbx
  have HFB := Lib.hid fb
  have HF0 := Lib.hid F0
  have fbw := (F0.trans P.fr).get fb (by simp)
  have tb := World.at_lt fbw
  have hbw := World.at_lt fb
  have HBW := Lib.hid hbw
  clear hnext P I s1 s5 s6 s7 s9 s11 sz fb L hcx hbx hqx hmx hdx hlx hxl hsm hbw
  conv => arg 2; whnf
  unfold frm7
  rw [a1, a5, a6, a7, a9, a11]
  clear a1 a5 a6 a7 a9 a11
  have ki : (i : Int) < (n : Int) := by omega
  go_upto_region 18 with (fail)
  rename_i K20 h20 Kc hc2
  have H20 := Lib.hid h20
  clear h20
  refine drawn_begin 33 (fun w' => w'.blk b = some (.cells cs TT fr)) (by kernel_rfl) ?_
  refine drawn_reads (fuel := 22) [0, 1, 2, 3, 4, 5, 7, 8, 9, 10, 11, 12] rfl (by kernel_rfl) fbw ?_
  repeat (first | (refine rowK_step2 rfl rfl (fun K hK => ?_); go_wp2) | (refine rowK_step rfl (fun K hK => ?_); go_simp; refine hK _ ?_; clear hK K))
  refine rowK_nil ⟨fun w' e1 => ?_, ?_⟩
  · clear fbw tb
    have tb := World.at_lt e1
    repeat (first | (refine rowWp_step2 rfl rfl (fun K hK => ?_); go_wp2) | (refine rowWp_step rfl (fun K hK => ?_); go_simp; refine hK _ ?_; clear hK K))
    exact rowWp_nil rfl
  refine drawn_next 6 (fuel := 21) rfl (by kernel_rfl) ?_
  intro K hK
  go_wp2_with fail
  have FD : Fr [] W W.drew := (Fr.refl [] W).drew
  have PD := HP.out.fr0 FD
  refine (commit_f (av := t :: rfp) PD.T (fun k hk => by
    rcases List.mem_cons.1 hk with rfl | hk
    · exact PD.T2.tlt
    · exact PD.T2.disk.lt k hk) HI.out.spb (by omega) (by have := HI.out.wl; omega) (HCX.out.fr0 ((HF0.out.trans HP.out.fr).trans FD)) HBX.out (by omega)).mono ?_
  rintro en w1 ⟨fp1, rfl, T1, F1, N1⟩
  have hIc := HI.out.commit (by omega) HBX.out T1.disk.ok
  have hnc : (commitM sp m lx).2.2.n ≤ 64 := by rw [commitM_n]; exact n64
  obtain ⟨cm, hcm⟩ : ∃ cm, cm = commitM sp m lx := ⟨_, rfl⟩
  rw [← hcm] at T1 hIc hnc ⊢
  have HCM := Lib.hid hcm
  have HIC := Lib.hid hIc
  have HP1 := Lib.hid (PD.code T1 F1 N1)
  have hb0 : ∀ k ∈ s :: fp, k ≠ b := fun k hk e => by
    have h1 := HP.out.lo k (by
      clear e
      rcases List.mem_cons.1 hk with rfl | h
      · simp
      · simp [h])
    have h2 := HF0.out.size
    have h3 := HBW.out
    omega
  have fb1 := F1.get (FD.get fbw (by simp)) (fun h => hb0 b h rfl)
  clear T1 F1 N1 hcm hIc fbw tb PD FD
  obtain ⟨E, hE⟩ : ∃ E, E = cm.1 := ⟨_, rfl⟩
  rw [← hE]
  have HEE := Lib.hid hE
  clear hE
  have tb := World.at_lt fb1
  go_wp2_with fail
  refine ⟨fb1, ?_⟩
  refine drawn_next 13 (fuel := 20) rfl (by kernel_rfl) ?_
  intro K hK
  go_wp2_with fail
  have hfw1 := HF0.out.trans HP1.out.fr
  refine (dcommit_f (av := s :: fp1) HP1.out.T2 HI.out.spb (HCX.out.awayP hfw1 (fun k hk => by
    have h1 := HP1.out.lo k (by
      simp only [List.mem_cons, List.mem_append] at hk ⊢
      rcases hk with h | (h | h) | h <;> simp [h])
    have := HF0.out.size
    omega)) HBX.out (by omega) (fun k hk => by
    simp only [List.mem_cons, List.mem_append] at hk
    rcases hk with rfl | (rfl | h) | h
    · exact HP1.out.T2.tlt
    · exact HP1.out.T.slt
    · exact HP1.out.T.disk.lt k h
    · exact HP1.out.T2.disk.lt k h) (by omega) (by have := HI.out.wl; omega)).mono ?_
  rintro en w2 ⟨rfp2, rfl, T2, F2, N2⟩
  rw [← HCM.out] at T2 ⊢
  rw [← HEE.out]
  have HP2 := Lib.hid (HP1.out.doc T2 F2 N2)
  have hb1 : ∀ k ∈ t :: rfp, k ≠ b := fun k hk e => by
    have h1 := HP.out.lo k (by
      clear e
      rcases List.mem_cons.1 hk with rfl | h
      · simp
      · simp [h])
    have h2 := HF0.out.size
    have h3 := HBW.out
    omega
  have fb2 := F2.get fb1 (fun h => hb1 b h rfl)
  obtain ⟨⟨q, nL, c, ft, C⟩, -, -⟩ := T2
  have HC := Lib.hid C.chs
  obtain ⟨ep, hep⟩ : ∃ ep, ep = cm.2.1.epoch := ⟨_, rfl⟩
  have HEP := Lib.hid hep
  obtain ⟨SC, hSC⟩ : ∃ SC, SC = dsC r cm.2.1.half cm.2.1.epoch cm.2.1.count cm.2.1.fin q nL c cm.2.1.broken := ⟨_, rfl⟩
  rw [← hSC] at ft
  have szC : SC.size = 7 := by rw [hSC]; rfl
  obtain ⟨x2', x2⟩ := Array.getElem?_eq_some_iff.1 (show SC[2]? = some (.int .u64 (ep : Int)) by rw [hSC, hep]; rfl)
  obtain ⟨x5', x5⟩ := Array.getElem?_eq_some_iff.1 (show SC[5]? = some (.slice q nL c) by rw [hSC]; rfl)
  clear F2 N2 C hSC hep fb1 tb hfw1
  have tb := World.at_lt fb2
  have tt := World.at_lt ft
  have hE1 : (E == E) = true := beq_self_eq_true _
  have hE2 : (E != E) = false := by simp
  go_wp2_with fail
  refine ⟨fb2, ?_⟩
  refine wpAnyS_mono (S := fun w' => w'.blk t = some (.cells SC 56) ∧ w'.blk b = some (.cells cs TT fr)) (fun _ h => h.2) _ _ _ _ ?_
  refine drawn_reads (fuel := 13) [14, 15, 16, 18, 19, 20, 21] rfl (by kernel_rfl) ⟨ft, fb2⟩ ?_
  repeat (first | (refine rowK_step2 rfl rfl (fun K hK => ?_); go_wp2) | (refine rowK_step rfl (fun K hK => ?_); go_simp; refine hK _ ?_; clear hK K))
  refine rowK_nil ⟨fun w' e1 => ?_, ?_⟩
  · obtain ⟨e1, e2⟩ := e1
    clear ft tt fb2 tb
    have tt := World.at_lt e1
    repeat (first | (refine rowWp_step2 rfl rfl (fun K hK => ?_); go_wp2) | (refine rowWp_step rfl (fun K hK => ?_); go_simp; refine hK _ ?_; clear hK K))
    exact rowWp_nil rfl
  refine drawn_next 17 (fuel := 12) rfl (by kernel_rfl) ?_
  intro K hK
  go_wp2_with fail
  refine (all_sf HP2.out.T.st HIC.out.spb.srt HIC.out.spb.ent HIC.out.spb.len).mono ?_
  rintro en w5 ⟨q1, c1, rfl, G1⟩
  have F5 : Fr [] w2 w5 := G1.gch.own.fr
  have f5 := F5.get ft (by simp)
  have fb5 := F5.get fb2 (by simp)
  have HC1 := Lib.hid G1.gch.chs
  have HF5 := Lib.hid F5
  have hl64 := HIC.out.spb.len
  obtain ⟨n1, hn1⟩ : ∃ n1, n1 = cm.2.1.L.length := ⟨_, rfl⟩
  rw [← hn1] at HC1 hl64 ⊢
  clear G1 F5 ft tt hn1 fb2 tb
  have t5 := World.at_lt f5
  go_wp2_with fail
  refine ⟨⟨f5, fb5⟩, ?_⟩
  refine drawn_next 22 (fuel := 11) rfl (by kernel_rfl) ?_
  intro K hK
  go_wp2_with fail
  refine (same_f HC1.out (HC.out.fr0 HF5.out) (byt_asC HIC.out.spb) (byt_asC HIC.out.spb) (by omega)).mono ?_
  rintro en w6 ⟨b6, rfl, F6, hr⟩
  obtain rfl : b6 = true := hr.2 rfl
  have f6 := F6.get f5 (by simp)
  have fb6 := F6.get fb5 (by simp)
  have t6 := World.at_lt f6
  have HF6 := Lib.hid (HF5.out.trans F6)
  clear F6 f5 t5 hr fb5
  go_wp2_with fail
  refine ⟨⟨f6, fb6⟩, ?_⟩
  refine drawn_reads (fuel := 3) [23, 24, 25, 26, 28, 29, 30, 31] rfl (by kernel_rfl) ⟨f6, fb6⟩ ?_
  repeat (first | (refine rowK_step2 rfl rfl (fun K hK => ?_); go_wp2) | (refine rowK_step rfl (fun K hK => ?_); go_simp; refine hK _ ?_; clear hK K))
  refine rowK_nil ⟨fun w' e1 => ?_, ?_⟩
  · obtain ⟨e1, e2⟩ := e1
    clear f6 t6 fb6
    have tt := World.at_lt e1
    repeat (first | (refine rowWp_step2 rfl rfl (fun K hK => ?_); go_wp2) | (refine rowWp_step rfl (fun K hK => ?_); go_simp; refine hK _ ?_; clear hK K))
    exact rowWp_nil rfl
  refine drawn_next 27 (fuel := 2) rfl (by kernel_rfl) ?_
  intro K hK
  go_wp2_with fail
  refine (epoch_f (HP2.out.T.st.fr0 HF6.out)).mono ?_
  rintro en w7 ⟨rfl, hw7⟩
  rw [← HEP.out]
  subst hw7
  have hbe : ((ep : Int) == (ep : Int)) = true := beq_self_eq_true _
  have hbe2 : ((ep : Int) != (ep : Int)) = false := by simp
  go_wp2_with fail
  refine ⟨⟨f6, fb6⟩, ?_⟩
  refine drawn_next 32 (fuel := 1) rfl (by kernel_rfl) ?_
  intro K hK
  go_wp2_with fail
  refine ⟨⟨f6, fb6⟩, ?_⟩
  refine drawn_end rfl (by kernel_rfl) ?_
  intro K hK
  go_wp2_with fail
  refine H20.out _ _ ?_
  exact Eq.mp (congrArg (fun c => Code.wp Try.prog c _ _ _) (show y20 = _ from by kernel_rfl)) (y20_f HL.out HF0.out ⟨rfl, rfl, rfl, rfl, rfl, rfl, rfl, HP2.out.fr0 HF6.out, HIC.out, hnc⟩ hi HN.out)
end
end Go.Proofs.Ytombhkekocbfoaa
namespace Go.Proofs.Ytombhkekocbfoaa
open Go.RowKit Go.Dr Go.Kd Go.St
section
variable {w : World}
theorem inv_fuse' {m : DM} {sp : SP} (h : Inv m sp) {n : Int} (h0 : 0 ≤ n) (hn : n ≤ 9223372036854775807) : Inv { m with fuse := n } sp := by
  have := h.fuse hn
  unfold fuseM at this
  rwa [show max n (-1) = n by omega] at this
set_option maxRecDepth 100000 in
set_option maxHeartbeats 8000000 in
theorem y15_f {Q : Exit → Act → World → Prop} {tm : Array Value} {w0 W : World} {p : Option Addr} {n cap d r i s t : Nat} {m : DM} {sp : SP} {fp rfp : List Nat} {ls : List (StI w)} (L : Stps w p n cap ls) (F0 : Fr [] w w0) (Y : YI p n cap w0 d r i tm W s t m sp fp rfp) (hi : i < n)
    (hsm : ∀ x, ls[i]? = some x → x.m ≤ 40000)
    (hnext : ∀ tm' W' s' t' m' sp' fp' rfp', YI p n cap w0 d r i tm' W' s' t' m' sp' fp' rfp' → Q .normal ⟨tm', []⟩ W') : y15.wp Try.prog Q ⟨tm, []⟩ W := by
  obtain ⟨sz, s1, s5, s6, s7, s9, s11, P, I, n64⟩ := Y
  obtain ⟨u, rfl⟩ := frm7_of sz
  have a1 : u 1 = _ := s1
  have a5 : u 5 = _ := s5
  have a6 : u 6 = _ := s6
  have a7 : u 7 = _ := s7
  have a9 : u 9 = _ := s9
  have a11 : u 11 = _ := s11
  have HN := Lib.hid hnext
  have HP := Lib.hid P
  have HI := Lib.hid I
  have HL := Lib.hid L
  have HSM := Lib.hid hsm
  obtain ⟨x, b, off, cs, TT, fr, rfl, fb, hsz, -, ⟨x1', x1⟩, -, -, -⟩ := L.atP hi
  have hf2 := x.f1.2
  obtain ⟨fx, hfx⟩ : ∃ fx, fx = x.fuse := ⟨_, rfl⟩
  rw [← hfx] at x1 hf2
  have HFB := Lib.hid fb
  have HF0 := Lib.hid F0
  have fbw := (F0.trans P.fr).get fb (by simp)
  have tb := World.at_lt fbw
  clear hnext P I s1 s5 s6 s7 s9 s11 sz fb L hfx hsm
  conv => arg 2; whnf
  unfold frm7
  rw [a1, a5, a6, a7, a9, a11]
  clear a1 a5 a6 a7 a9 a11
  have ki : (i : Int) < (n : Int) := by omega
  go_upto_region 15 with (fail)
  rename_i K18 h18 Kc hc2
  have H18 := Lib.hid h18
  clear h18
  by_cases hf0 : 0 < fx
  · have d0 : decide (0 < fx) = true := decide_eq_true hf0
    go_wp2_with fail
    refine (fuse_any HP.out.T.disk (fx - 1) (by omega)).mono ?_
    rintro en w1 ⟨rfl, D1, F1⟩
    rw [show max (fx - 1) (-1) = fx - 1 by omega] at D1
    have P1 := HP.out.code (HP.out.T.dsk D1 rfl F1 (fun k hk => .inl hk) HP.out.T.slt) (F1.mono fun k hk _ => List.mem_cons_of_mem _ hk) (fun k hk => .inl hk)
    obtain ⟨C, fC, szC, R2, F2⟩ := P1.T2.disk.setFuse (fx - 1) (by omega)
    have HP2 := Lib.hid (P1.doc (P1.T2.dsk R2 F2 (fun k hk => .inl hk) P1.T2.tlt) (F2.mono fun k hk _ => List.mem_cons_of_mem _ hk) (fun k hk => .inl hk))
    have HI2 := Lib.hid (inv_fuse' HI.out (n := fx - 1) (by omega) (by omega))
    have fb1 := (HF0.out.trans P1.fr).get HFB.out (by simp)
    have tC := World.at_lt fC
    clear D1 F1 P1 R2 F2 fbw tb
    have tb := World.at_lt fb1
    go_wp2_with fail
    refine H18.out _ _ ?_
    exact Eq.mp (congrArg (fun c => Code.wp Try.prog c _ _ _) (show y18 = _ from by kernel_rfl)) (y18_f HL.out HF0.out ⟨rfl, rfl, rfl, rfl, rfl, rfl, rfl, HP2.out, HI2.out, n64⟩ hi HSM.out HN.out)
  · have d0 : decide (0 < fx) = false := decide_eq_false hf0
    go_wp2_with fail
    refine H18.out _ _ ?_
    exact Eq.mp (congrArg (fun c => Code.wp Try.prog c _ _ _) (show y18 = _ from by kernel_rfl)) (y18_f HL.out HF0.out ⟨rfl, rfl, rfl, rfl, rfl, rfl, rfl, HP.out, HI.out, n64⟩ hi HSM.out HN.out)
/-- StorePlays' end. -/
def YEnd (w : World) (Q : Exit → Act → World → Prop) : Prop := ∀ (tm' : Array Value) (W' : World), tm'.getD 4 undef = .bool true → Fr [] w W' → Q .ret ⟨tm', []⟩ W'
set_option maxRecDepth 100000 in
set_option maxHeartbeats 8000000 in
theorem yRnd_f {Q : Exit → Act → World → Prop} {tm : Array Value} {w0 W : World} {p : Option Addr} {n cap d r i s t : Nat} {m : DM} {sp : SP} {fp rfp : List Nat} {ls : List (StI w)} (L : Stps w p n cap ls) (F0 : Fr [] w w0) (Y : YI p n cap w0 d r i tm W s t m sp fp rfp) (hin : i ≤ n) (hn9 : n ≤ 9223372036854775807)
    (hnext : ∀ tm' W' s' t' m' sp' fp' rfp', i < n → i < 40 → YI p n cap w0 d r (i + 1) tm' W' s' t' m' sp' fp' rfp' → Q .normal ⟨tm', []⟩ W')
    (hout : ∀ tm' W', YI p n cap w0 d r i tm' W' s t m sp fp rfp → Q (.exit 0) ⟨tm', []⟩ W') (HQ : YEnd w0 Q) : yRnd.wp Try.prog Q ⟨tm, []⟩ W := by
  obtain ⟨sz, s1, s5, s6, s7, s9, s11, P, I, n64⟩ := Y
  obtain ⟨u, rfl⟩ := frm7_of sz
  have a1 : u 1 = _ := s1
  have a5 : u 5 = _ := s5
  have a6 : u 6 = _ := s6
  have a7 : u 7 = _ := s7
  have a9 : u 9 = _ := s9
  have a11 : u 11 = _ := s11
  have HN := Lib.hid hnext
  have HO := Lib.hid hout
  have HQ := Lib.hid HQ
  have HP := Lib.hid P
  have HI := Lib.hid I
  have HL := Lib.hid L
  have HF0 := Lib.hid F0
  clear hnext hout P I s1 s5 s6 s7 s9 s11 sz L F0
  conv => arg 2; whnf
  unfold frm7
  rw [a1, a5, a6, a7, a9, a11]
  clear a1 a5 a6 a7 a9 a11
  by_cases hlt : i < n
  · have hd : decide ((i : Int) < (n : Int)) = true := by rw [decide_eq_true_eq]; omega
    have ki : (i : Int) < (n : Int) := by omega
    by_cases hl40 : i < 40
    · have hd2 : decide ((i : Int) < 40) = true := by rw [decide_eq_true_eq]; omega
      have ki2 : (i : Int) < 40 := by omega
      obtain ⟨x, b, off, cs, TT, fr, rfl, fb, hsz, ⟨x0', x0⟩, -, -, -, hxl⟩ := HL.out.atP hlt
      have HX := Lib.hid hxl
      have hcx := x.c
      have hml := x.len
      obtain ⟨qx, hqx⟩ : ∃ qx, qx = x.q := ⟨_, rfl⟩
      obtain ⟨mx, hmx⟩ : ∃ mx, mx = x.m := ⟨_, rfl⟩
      obtain ⟨dx, hdx⟩ : ∃ dx, dx = x.d := ⟨_, rfl⟩
      rw [← hqx, ← hmx, ← hdx] at x0 hcx
      rw [← hmx] at hml
      have HMX := Lib.hid hmx
      have HCX := Lib.hid hcx
      have HML := Lib.hid hml
      have fbw := (HF0.out.trans HP.out.fr).get fb (by simp)
      have tb := World.at_lt fbw
      clear hcx hqx hmx hdx hxl fb hml
      go_upto_region 13 with (fail)
      rename_i K12 h12 K15 h15 Kc hc2
      have H12 := Lib.hid h12
      have H15 := Lib.hid h15
      clear h12 h15
      go_wp2_with fail
      refine (small_f (HCX.out.fr0 (HF0.out.trans HP.out.fr)) HML.out).mono ?_
      rintro en w1 ⟨b1, rfl, F1, hr⟩
      have HP1 := Lib.hid (HP.out.fr0 F1)
      have HR := Lib.hid hr
      clear F1 hr fbw tb
      cases b1 with
      | false =>
        go_wp2_with fail
        exact HQ.out _ _ rfl HP1.out.fr
      | true =>
        go_wp2_with fail
        refine H15.out _ _ ?_
        refine Eq.mp (congrArg (fun c => Code.wp Try.prog c _ _ _) (show y15 = _ from by kernel_rfl)) (y15_f HL.out HF0.out ⟨rfl, rfl, rfl, rfl, rfl, rfl, rfl, HP1.out, HI.out, n64⟩ hlt (fun y hy => ?_) ?_)
        · have h1 := HX.out
          rw [hy] at h1
          cases h1
          have h2 := HR.out (by trivial)
          have h3 := HMX.out
          omega
        · intro tm' W' s' t' m' sp' fp' rfp' Y'
          obtain ⟨v, rfl⟩ := frm7_of Y'.sz
          have e1 : v 1 = _ := Y'.s1
          have e5 : v 5 = _ := Y'.s5
          have e6 : v 6 = _ := Y'.s6
          have e7 : v 7 = _ := Y'.s7
          have e9 : v 9 = _ := Y'.s9
          have e11 : v 11 = _ := Y'.s11
          have HY := Lib.hid (And.intro Y'.P (And.intro Y'.I Y'.n64))
          refine H12.out _ _ ?_
          clear Y'
          unfold frm7
          rw [e1, e5, e6, e7, e9, e11]
          clear e1 e5 e6 e7 e9 e11
          go_wp2_with fail
          exact HN.out _ _ s' t' m' sp' fp' rfp' hlt hl40 ⟨rfl, rfl, rfl, rfl, rfl, rfl, by first | rfl | exact congrArg (Value.int .i64) (by push_cast; rfl), HY.out.1, HY.out.2.1, HY.out.2.2⟩
    · have hd2 : decide ((i : Int) < 40) = false := by rw [decide_eq_false_iff_not]; omega
      have ki2 : ¬ (i : Int) < 40 := by omega
      go_wp2_with fail
      exact HO.out _ _ ⟨rfl, rfl, rfl, rfl, rfl, rfl, rfl, HP.out, HI.out, n64⟩
  · have hd : decide ((i : Int) < (n : Int)) = false := by rw [decide_eq_false_iff_not]; omega
    have ki : ¬ (i : Int) < (n : Int) := by omega
    go_wp2_with fail
    exact HO.out _ _ ⟨rfl, rfl, rfl, rfl, rfl, rfl, rfl, HP.out, HI.out, n64⟩
end
end Go.Proofs.Ytombhkekocbfoaa
namespace Go.Proofs.Ytombhkekocbfoaa
open Go.RowKit Go.Dr Go.Kd Go.St
/-- The bytes that the document's disk keeps. -/
theorem RefAt.kept {w : World} {r : Nat} {m : DM} {fp : List Nat} (R : RefAt w r m fp) : ∃ C kb, w.blk r = some (.cells C 48 (0, 0)) ∧ C.size = 6 ∧ (∃ h : 1 < C.size, C[1] = .slice (some ⟨kb, 0, none⟩) (64 * m.n) (64 * m.n)) ∧ Sl .u8 w (some ⟨kb, 0, none⟩) (64 * m.n) (64 * m.n) m.kept := by
  obtain ⟨kb, pa, ca, pb, cb, bs, D, rfl, ok⟩ := R
  refine ⟨_, kb, D.hr, rfl, ⟨by simp, rfl⟩, ?_⟩
  have h := Sl.whole D.hk (show m.kept.length = 64 * m.n from ok.kl)
  exact h
section
variable {w : World}
set_option maxRecDepth 100000 in
set_option maxHeartbeats 8000000 in
theorem y27_f {Q : Exit → Act → World → Prop} {tm : Array Value} {w0 W : World} {p : Option Addr} {n cap d r i s t : Nat} {m : DM} {sp : SP} {fp rfp : List Nat} (Y : YI p n cap w0 d r i tm W s t m sp fp rfp) (HQ : YEnd w0 Q) : y27.wp Try.prog Q ⟨tm, []⟩ W := by
  obtain ⟨sz, s1, s5, s6, s7, s9, s11, P, I, n64⟩ := Y
  obtain ⟨u, rfl⟩ := frm7_of sz
  have a5 : u 5 = _ := s5
  have a6 : u 6 = _ := s6
  have a7 : u 7 = _ := s7
  have a9 : u 9 = _ := s9
  have HQ := Lib.hid HQ
  have HP := Lib.hid P
  have HI := Lib.hid I
  obtain ⟨⟨q, nL, c, ft, C⟩, -, -⟩ := P.T2
  have hcl : (asC sp.L).length = nL := C.chs.len
  have hnL : nL ≤ 64 := by rw [← hcl, asC, List.length_map]; exact I.spb.len
  have HC := Lib.hid C
  obtain ⟨SC, hSC⟩ : ∃ SC, SC = dsC r sp.half sp.epoch sp.count sp.fin q nL c sp.broken := ⟨_, rfl⟩
  rw [← hSC] at ft
  have szC : SC.size = 7 := by rw [hSC]; rfl
  obtain ⟨x5', x5⟩ := Array.getElem?_eq_some_iff.1 (show SC[5]? = some (.slice q nL c) by rw [hSC]; rfl)
  have HFT := Lib.hid ft
  have HSL := Lib.hid (byt_asC I.spb)
  clear s1 s5 s6 s7 s9 s11 sz P I C hSC hcl
  conv => arg 2; whnf
  unfold frm7
  rw [a5, a6, a7, a9]
  clear a5 a6 a7 a9
  go_wp2_with fail
  go_loopw [12] (fun iv wy => ∃ j : Nat, j ≤ nL ∧ iv = .int .i64 (j : Int) ∧ Hid (Fr [] W wy)) (fun iv _ => (nL - intOf iv).toNat)
  case atStart => exact ⟨0, by omega, rfl, Lib.hid (Fr.refl _ _)⟩
  case round =>
    obtain ⟨j, hjn, rfl, hW⟩ := hrel
    have f1 := hW.out.get HFT.out (by simp)
    have t1 := World.at_lt f1
    by_cases hlt : j < nL
    · have hd : decide ((j : Int) < (nL : Int)) = true := by rw [decide_eq_true_eq]; omega
      have kj : (j : Int) < (nL : Int) := by omega
      obtain ⟨x, q2, m2, d2, b, off, cs, TT, fr, hx, rfl, fb, hsz, hext, S2, -⟩ := (HC.out.fr0 hW.out).at hlt
      have e0 := congrArg (fun a => a[0]?) hext
      have e1 := congrArg (fun a => a[1]?) hext
      rw [Array.getElem?_extract_of_lt (by omega)] at e0 e1
      obtain ⟨X, hX⟩ : ∃ X, X = strB x.name := ⟨_, rfl⟩
      have x0 : ∃ h : off + j * 3 < cs.size, cs[off + j * 3] = .string X := ⟨by omega, by rw [hX]; simpa using e0⟩
      have x1 : ∃ h : off + j * 3 + 1 < cs.size, cs[off + j * 3 + 1] = .slice q2 m2 d2 := ⟨by omega, by simpa using e1⟩
      obtain ⟨x0', x0⟩ := x0
      obtain ⟨x1', x1⟩ := x1
      have hmem := List.mem_of_getElem? hx
      have hgl : getL x.name sp.L = some x.val := by
        obtain ⟨z, hz, rfl⟩ := List.mem_map.1 hmem
        exact getL_some HI.out.spb.srt hz
      have HGL := Lib.hid hgl
      have HBX := Lib.hid (HSL.out x hmem)
      have HX := Lib.hid hX
      have HS2 := Lib.hid S2
      have HFB := Lib.hid fb
      have tb := World.at_lt fb
      clear e0 e1 hext hmem hgl hX S2 hx
      go_wp2_with fail
      rw [HX.out]
      refine (get_sf (HP.out.T.st.fr0 hW.out) HI.out.spb.srt (fun x hx => (HI.out.spb.ent x hx).nb) (fun x hx => (HI.out.spb.ent x hx).v) HBX.out.1).mono ?_
      rintro en w1 ⟨q1, m1, c1, rfl, B1⟩
      rw [HGL.out] at B1 ⊢
      have B1 : Bld wr [] .u8 5 w1 q1 m1 c1 x.val := B1
      rw [show (some x.val).isSome = true from rfl]
      have HB1 := Lib.hid B1.sl
      have HF1 := Lib.hid B1.own.fr
      have f2 := B1.own.fr.get f1 (by simp)
      have fb2 := B1.own.fr.get fb (by simp)
      rw [← HX.out]
      clear B1 f1 t1 fb tb
      have t2 := World.at_lt f2
      have tb := World.at_lt fb2
      go_wp2_with fail
      refine (bytes_f HB1.out (HS2.out.fr0 HF1.out) HBX.out.2 HBX.out.2).mono ?_
      rintro en w2 ⟨rfl, F2⟩
      rw [show decide (x.val = x.val) = true from decide_eq_true rfl]
      have HF2 := Lib.hid (hW.out.trans (HF1.out.trans F2))
      clear F2 f2 t2 fb2 tb
      go_wp2_with fail
      go_roundw
      case rel => exact ⟨j + 1, hlt, by first | rfl | simp, HF2⟩
      case measure => simp [intOf]; omega
    · obtain rfl : j = nL := by omega
      have hd : decide ((j : Int) < (j : Int)) = false := by simp
      have HPW := Lib.hid (HP.out.fr0 hW.out)
      obtain ⟨RC, kb, fr1, szR, ⟨y1', y1⟩, SK⟩ := (HP.out.fr0 hW.out).T2.disk.kept
      have HSK := Lib.hid SK
      have tr := World.at_lt fr1
      clear SK
      go_upto_region 33 with (fail)
      refine drawn_begin 7 (fun w' => w'.blk r = some (.cells RC 48)) (by kernel_rfl) ?_
      refine drawn_reads (fuel := 3) [0, 2, 3, 4, 5] rfl (by kernel_rfl) fr1 ?_
      repeat (first | (refine rowK_step2 rfl rfl (fun K hK => ?_); go_wp2) | (refine rowK_step rfl (fun K hK => ?_); go_simp; refine hK _ ?_; clear hK K))
      refine rowK_nil ⟨fun w' e1 => ?_, ?_⟩
      · clear fr1 tr f1 t1
        have tr := World.at_lt e1
        repeat (first | (refine rowWp_step2 rfl rfl (fun K hK => ?_); go_wp2) | (refine rowWp_step rfl (fun K hK => ?_); go_simp; refine hK _ ?_; clear hK K))
        exact rowWp_nil rfl
      refine drawn_next 1 (fuel := 2) rfl (by kernel_rfl) ?_
      intro K hK
      go_wp2_with fail
      refine (kept_any (HPW.out.T.disk.fr0 (Fr.refl [] _).drew)).mono ?_
      rintro en w3 ⟨v, bb, rfl, B3, F3, -⟩
      have F3' : Fr [] wr w3 := (Fr.refl [] wr).drew.trans F3
      have f3 := F3'.get fr1 (by simp)
      obtain ⟨q3, c3, rfl, S3⟩ := B3.sl
      have HS3 := Lib.hid S3
      have HF3 := Lib.hid F3'
      obtain ⟨n3, hn3⟩ : ∃ n3, n3 = m.kept.length := ⟨_, rfl⟩
      rw [← hn3] at HS3 ⊢
      clear B3 F3 F3' S3 fr1 tr f1 t1 hn3
      have t3 := World.at_lt f3
      go_wp2_with fail
      refine ⟨f3, ?_⟩
      refine drawn_next 6 (fuel := 1) rfl (by kernel_rfl) ?_
      intro K hK
      go_wp2_with fail
      refine (bytes_f HS3.out (HSK.out.fr0 HF3.out) HI.out.byt.1 HI.out.byt.1).mono ?_
      rintro en w4 ⟨rfl, F4⟩
      rw [show decide (m.kept = m.kept) = true from decide_eq_true rfl]
      have HF4 := Lib.hid (HPW.out.fr.trans (HF3.out.trans F4))
      have f4 := F4.get f3 (by simp)
      clear F4 f3 t3
      have t4 := World.at_lt f4
      go_wp2_with fail
      refine ⟨f4, ?_⟩
      refine drawn_end rfl (by kernel_rfl) ?_
      intro K hK
      go_wp2_with fail
      exact HQ.out _ _ rfl HF4.out
set_option maxRecDepth 100000 in
set_option maxHeartbeats 8000000 in
theorem y10_f {Q : Exit → Act → World → Prop} {tm : Array Value} {w0 W : World} {p : Option Addr} {n cap d r s t : Nat} {m : DM} {sp : SP} {fp rfp : List Nat} {ls : List (StI w)} (L : Stps w p n cap ls) (hn9 : n ≤ 9223372036854775807) (F0 : Fr [] w w0) (sz : tm.size = 211)
    (s1 : tm.getD 1 undef = .slice p n cap) (s5 : tm.getD 5 undef = .pointer (some ⟨d, 0, none⟩)) (s6 : tm.getD 6 undef = .pointer (some ⟨r, 0, none⟩)) (s7 : tm.getD 7 undef = .pointer (some ⟨s, 0, none⟩)) (s9 : tm.getD 9 undef = .pointer (some ⟨t, 0, none⟩))
    (P : Pl w0 W d r s t m sp m sp fp rfp) (I : Inv m sp) (n64 : m.n ≤ 64) (HQ : YEnd w0 Q) : y10.wp Try.prog Q ⟨tm, []⟩ W := by
  obtain ⟨u, rfl⟩ := frm7_of sz
  have a1 : u 1 = _ := s1
  have a5 : u 5 = _ := s5
  have a6 : u 6 = _ := s6
  have a7 : u 7 = _ := s7
  have a9 : u 9 = _ := s9
  have HQ := Lib.hid HQ
  have HP := Lib.hid P
  have HI := Lib.hid I
  have HL := Lib.hid L
  have HF0 := Lib.hid F0
  clear s1 s5 s6 s7 s9 sz P I L F0
  conv => arg 2; whnf
  unfold frm7
  rw [a1, a5, a6, a7, a9]
  clear a1 a5 a6 a7 a9
  go_wp2_with fail
  rename_i K27 h27
  have H27 := Lib.hid h27
  clear h27
  refine wp_loop (fun A W' => A.defers = [] ∧ ∃ i s t m sp fp rfp, i ≤ n ∧ YI p n cap w0 d r i A.tmps W' s t m sp fp rfp) (fun A _ => (n - intOf (A.tmps.getD 11 undef)).toNat) ⟨rfl, 0, s, t, m, sp, fp, rfp, Nat.zero_le _, rfl, rfl, rfl, rfl, rfl, rfl, rfl, HP.out, HI.out, n64⟩ ?_
  rintro ⟨tm', df⟩ W' ⟨hdf, i, s', t', m', sp', fp', rfp', hin, Y⟩
  have hdf : df = [] := hdf
  subst hdf
  refine Eq.mp (congrArg (fun c => Code.wp Try.prog c _ _ _) (show yRnd = _ from by kernel_rfl)) (yRnd_f HL.out HF0.out Y hin hn9 ?_ ?_ ?_)
  · intro tm2 W2 s2 t2 m2 sp2 fp2 rfp2 hlt h40 Y2
    refine ⟨⟨rfl, i + 1, s2, t2, m2, sp2, fp2, rfp2, hlt, Y2⟩, ?_⟩
    show (n - intOf (tm2.getD 11 undef)).toNat < (n - intOf (tm'.getD 11 undef)).toNat
    rw [Y2.s11, Y.s11]
    simp only [intOf]
    omega
  · intro tm2 W2 Y2
    refine H27.out _ _ ?_
    exact Eq.mp (congrArg (fun c => Code.wp Try.prog c _ _ _) (show y27 = _ from by kernel_rfl)) (y27_f Y2 HQ.out)
  · intro tm2 W2 h4 F
    exact HQ.out tm2 W2 h4 F
end
end Go.Proofs.Ytombhkekocbfoaa
namespace Go.Proofs.Ytombhkekocbfoaa
open Go.RowKit Go.Dr Go.Kd Go.St
section
variable {w : World}
set_option maxRecDepth 100000 in
set_option maxHeartbeats 8000000 in
theorem storePlays_walk {blocks : Int} (hbl : -9223372036854775808 ≤ blocks ∧ blocks ≤ 9223372036854775807) {p : Option Addr} {n cap : Nat} {ls : List (StI w)} (L : Stps w p n cap ls) (hn9 : n ≤ 9223372036854775807) :
    Calls Try.prog 7 #[.int .i64 blocks, .slice p n cap] w fun e w' => e = .returned (.bool true) ∧ Fr [] w w' := by
  have HL := Lib.hid L
  clear L
  go_enter Try.func7, Try.ntmps7
  go_wp2_with fail
  refine (alive_f (w := w)).mono ?_
  rintro en w0 ⟨rfl, F0⟩
  have HF0 := Lib.hid F0
  clear F0
  obtain ⟨bm, hbm⟩ : ∃ bm : Int, bm = min blocks 64 := ⟨_, rfl⟩
  obtain ⟨b0, hb0⟩ : ∃ b0 : Int, b0 = max 0 bm := ⟨_, rfl⟩
  have hb1 : 0 ≤ b0 ∧ b0 ≤ 64 := by omega
  go_wp2_with fail
  rw [show max 0 (min blocks 64) = b0 from by rw [hb0, hbm]]
  clear hb0 hbm
  refine (new_m b0 w0).mono ?_
  rintro en w1 ⟨d, fp, rfl, D1, F1, N1⟩
  have HD1 := Lib.hid D1
  have HF1 := Lib.hid F1
  have HN1 := Lib.hid N1
  clear D1 F1 N1
  go_wp2_with fail
  refine (rnew_any b0 w1).mono ?_
  rintro en w2 ⟨r, rfp, rfl, R2, F2, N2⟩
  obtain ⟨m0, hm0⟩ : ∃ m0, m0 = newM b0 := ⟨_, rfl⟩
  have hB : Both w0 w2 d r m0 m0 fp rfp := by
    rw [hm0]
    exact ⟨HD1.out.fr0 F2, R2, fun k hk hk' => by
      have := HD1.out.lt k hk
      rcases N2 k hk' with h | h
      · cases h
      · omega, HF1.out.trans F2, HN1.out, fun k hk => by
      rcases N2 k hk with h | h
      · cases h
      · exact .inr (Nat.le_trans HF1.out.size h)⟩
  have hs0 : SeenM m0 := by rw [hm0]; exact SeenM.new b0
  have hy0 : BytM m0 := by rw [hm0]; exact BytM.new b0
  have hw0 : m0.waits.length = 0 := by rw [hm0]; rfl
  have hn64 : m0.n ≤ 64 := by rw [hm0]; simp only [newM]; omega
  have hcase : (∃ m1, openM m0 = (0, some sp0, m1) ∧ Inv m1 sp0 ∧ m1.n ≤ 64) ∨ openM m0 = (1, none, m0) := by
    by_cases h4 : 4 ≤ b0
    · obtain ⟨m1, h1, h2, h3, h5, h6⟩ := good_fresh b0 h4 (by rw [← hm0]; exact hB.D.ok)
      rw [← hm0] at h1 h5
      exact .inl ⟨m1, h1, h2.inv h6, by rw [h5]; exact hn64⟩
    · right
      rw [openM, if_pos]
      rw [hm0]
      simp only [newM]
      omega
  have HB := Lib.hid hB
  have HS := Lib.hid hs0
  have HY := Lib.hid hy0
  have HCASE := Lib.hid hcase
  have HOE := Lib.hid (show YEnd w0 (bodyPost Try.prog Try.f7 fun e w' => e = .returned (.bool true) ∧ Fr [] w w') from fun tm' W' h4 F => bodyPost_ret (results_tmp rfl tm' _ _) rfl ⟨by rw [h4], HF0.out.trans F⟩)
  clear hB hs0 hy0 hm0 R2 F2 N2 HD1 HF1 HN1 hcase
  go_wp2_with fail
  refine (open_fv (av := rfp) HB.out.D (fun k hk => HB.out.R.lt k hk) (by omega) HY.out.2.1 (by omega)).mono ?_
  intro en w3 hO
  rcases HCASE.out with ⟨m1, hop, hI, hn1⟩ | hop
  · have HOP := Lib.hid hop
    have HI := Lib.hid hI
    rw [hop] at hO
    obtain ⟨-, s, fp3, rfl, T3, F3, N3, hsl⟩ := hO
    have HB3 := Lib.hid (HB.out.disk T3.disk F3 N3)
    have HT3 := Lib.hid T3
    have HF3 := Lib.hid F3
    have HN3 := Lib.hid N3
    clear T3 F3 N3 hop hI
    go_wp2_with fail
    refine (dopen_f (av := s :: fp3) HB3.out.R (fun k hk => by
      rcases List.mem_cons.1 hk with rfl | hk
      · exact HT3.out.slt
      · exact HB3.out.D.lt k hk) (by omega) HY.out.2.1 HS.out (by omega)).mono ?_
    intro en w4 hO
    rw [HOP.out] at hO
    obtain ⟨-, t, rfp4, rfl, T4, F4, N4, htl⟩ := hO
    have HPL := Lib.hid (HB.out.open_ HT3.out HF3.out HN3.out hsl T4 F4 N4 htl)
    clear T4 F4 N4
    go_upto_region 8 with (fail)
    rename_i K10 h10 Kc hc2
    have H10 := Lib.hid h10
    clear h10
    go_wp2_with fail
    refine H10.out _ _ ?_
    exact Eq.mp (congrArg (fun c => Code.wp Try.prog c _ _ _) (show y10 = _ from by kernel_rfl)) (y10_f HL.out hn9 HF0.out rfl rfl rfl rfl rfl rfl HPL.out HI.out hn1 HOE.out)
  · have HOP := Lib.hid hop
    rw [hop] at hO
    obtain ⟨fp3, rfl, D3, F3, N3⟩ := hO
    have HB3 := Lib.hid (HB.out.disk D3 F3 N3)
    clear D3 F3 N3 hop
    go_wp2_with fail
    refine (dopen_f (av := []) HB3.out.R (fun k hk => by cases hk) (by omega) HY.out.2.1 HS.out (by omega)).mono ?_
    intro en w4 hO
    rw [HOP.out] at hO
    obtain ⟨rfp4, rfl, R4, F4, N4⟩ := hO
    have HB4 := Lib.hid (HB3.out.ref R4 F4 N4)
    clear R4 F4 N4
    go_wp2_with fail
    exact HOE.out _ _ rfl HB4.out.fr
end
end Go.Proofs.Ytombhkekocbfoaa
