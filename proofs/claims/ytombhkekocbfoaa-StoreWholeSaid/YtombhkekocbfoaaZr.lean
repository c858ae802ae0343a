/- Joined: SoW, SoX. -/
import Derived.Test.YtombhkekocbfoaaZq
import Derived.Test.YtombhkekocbfoaaZj
import Derived.Test.YtombhkekocbfoaaZp
set_option linter.unusedVariables false
set_option linter.unusedSimpArgs false
namespace Go.Proofs.Ytombhkekocbfoaa
open Go.ChangeShapes Go.WideShapes Go.ChangeAt Go.RowKit Go.Dr Go.Kd Go.St
theorem cells32 : Try.prog.cellsOf 32 = 3 := by kernel_rfl
theorem cells62 : Try.prog.cellsOf 62 = 4 := by kernel_rfl
theorem cells9 : Try.prog.cellsOf 9 = 1 := by kernel_rfl
theorem cells22 : Try.prog.cellsOf 22 = 1 := by kernel_rfl
theorem cells33 : Try.prog.cellsOf 33 = 1 := by kernel_rfl
theorem cells4 : Try.prog.cellsOf 4 = 1 := by kernel_rfl
theorem cells3 : Try.prog.cellsOf 3 = 1 := by kernel_rfl
theorem wf_i64' {n : Int} (h : (Lit.int .i64 n).wf = true) : -9223372036854775808 ≤ n ∧ n ≤ 9223372036854775807 := by
  simp [Lit.wf, IntKind.min, IntKind.max, IntKind.signed, IntKind.bits] at h; omega
/-- Rows of structs whose cells are read one by one. -/
theorem sv_of {α : Type} {sz : Nat} (hz : 0 < sz) {w : World} {a : Addr} {len cap : Nat} {C : α → List Value} {O : α → Prop} (d : α) (hlc : len ≤ cap) (hC : ∀ x, O x → (C x).length = sz)
    (key : ∀ i, i < len → ∃ x, O x ∧ ∀ j v, (C x)[j]? = some v → w.cell? (a.add (i * sz + j)) = some v) :
    ∃ l : List α, l.length = len ∧ (∀ x ∈ l, O x) ∧ Sv sz w (some a) len cap (l.flatMap C) := by
  obtain ⟨f, hf'⟩ := Classical.axiomOfChoice (r := fun (i : Nat) (b : α) => i < len → O b ∧ ∀ j v, (C b)[j]? = some v → w.cell? (a.add (i * sz + j)) = some v)
    (fun i => by
      by_cases hi : i < len
      · obtain ⟨o, h⟩ := key i hi; exact ⟨o, fun _ => h⟩
      · exact ⟨d, fun h => absurd h hi⟩)
  have okl : ∀ x ∈ (List.range len).map f, O x := fun x hx => by
    obtain ⟨i, hi, rfl⟩ := List.mem_map.1 hx
    exact (hf' i (List.mem_range.1 hi)).1
  have hlen : ((List.range len).map f).length = len := by simp
  refine ⟨(List.range len).map f, hlen, okl, ?_⟩
  rcases Nat.eq_zero_or_pos len with h0 | h0
  · subst h0
    exact ⟨by simp, hlc, .inl rfl, (fun h => by cases h), trivial⟩
  have szc : ∀ i, i < len → (C (f i)).length = sz := fun i hi => hC _ (hf' i hi).1
  have cell : ∀ i, i < len → ∀ j, j < sz → w.cell? (a.add (i * sz + j)) = (C (f i))[j]? := fun i hi j hj => by
    have h1 : (C (f i))[j]? = some ((C (f i))[j]'(by rw [szc i hi]; exact hj)) := List.getElem?_eq_getElem _
    rw [(hf' i hi).2 j _ h1, ← h1]
  have hfirst := cell 0 h0 0 hz
  rw [List.getElem?_eq_getElem (by rw [szc 0 h0]; exact hz)] at hfirst
  rw [show 0 * sz + 0 = 0 by omega] at hfirst
  obtain ⟨b, off, spot⟩ := a
  have hspot : spot = none := by
    unfold World.cell? at hfirst
    rw [Addr.add_zero'] at hfirst
    split at hfirst
    · cases spot with
      | none => rfl
      | some s => simp at hfirst
    · cases hfirst
  subst hspot
  have hlast := cell (len - 1) (by omega) (sz - 1) (by omega)
  rw [List.getElem?_eq_getElem (by rw [szc (len - 1) (by omega)]; omega), Addr.add_mid, World.cell?_at] at hlast
  cases hb : w.blk b with
  | none => rw [hb] at hlast; cases hlast
  | some ob =>
    rw [hb] at hlast
    cases ob with
    | cells cs T fr =>
      have hsz : off + ((len - 1) * sz + (sz - 1)) < cs.size := (Array.getElem?_eq_some_iff.1 hlast).1
      have hmul : len * sz = (len - 1) * sz + sz := by rw [← Nat.succ_mul]; congr 1; omega
      have flat : ∀ l : List α, (∀ x ∈ l, O x) → (l.flatMap C).length = l.length * sz := by
        intro l
        induction l with
        | nil => intro _; simp
        | cons x l ih =>
          intro hx
          rw [List.flatMap_cons, List.length_append, hC x (hx x (by simp)), ih (fun y hy => hx y (by simp [hy])), List.length_cons, Nat.add_mul]
          omega
      have hfl : (((List.range len).map f).flatMap C).length = len * sz := by rw [flat _ okl, hlen]
      refine ⟨hfl, hlc, .inr ⟨b, off, cs, T, fr, rfl, hb, by omega, ?_⟩, (fun h => by cases h), trivial⟩
      apply List.ext_getElem?
      intro k
      rcases Nat.lt_or_ge k (len * sz) with hk | hk
      · have hi : k / sz < len := Nat.div_lt_of_lt_mul (by rw [Nat.mul_comm]; exact hk)
        have hj : k % sz < sz := Nat.mod_lt _ hz
        have hkk : k / sz * sz + k % sz = k := by rw [Nat.mul_comm]; exact Nat.div_add_mod k sz
        have h2 := cell (k / sz) hi (k % sz) hj
        rw [Addr.add_mid, World.cell?_at, hb] at h2
        have h3 : cs[off + (k / sz * sz + k % sz)]? = (C (f (k / sz)))[k % sz]? := h2
        rw [hkk] at h3
        rw [Array.getElem?_toList, Array.getElem?_extract_of_lt (by omega), ← Array.getElem?_eq_getElem, h3]
        have part : ∀ (l : List α) (i : Nat) (x : α), (∀ y ∈ l, O y) → l[i]? = some x → ((l.flatMap C).drop (i * sz)).take sz = C x := by
          intro l
          induction l with
          | nil => intro i x _ h; simp at h
          | cons y l ih =>
            intro i x ho h
            have hy := hC y (ho y (by simp))
            cases i with
            | zero =>
              simp only [List.getElem?_cons_zero, Option.some.injEq] at h
              subst h
              rw [Nat.zero_mul, List.drop_zero, List.flatMap_cons, ← hy, List.take_left]
            | succ i =>
              rw [List.getElem?_cons_succ] at h
              rw [List.flatMap_cons, show (i + 1) * sz = (C y).length + i * sz by rw [hy, Nat.add_mul]; omega, List.drop_append, List.drop_of_length_le (by omega), Nat.add_sub_cancel_left, List.nil_append]
              exact ih i x (fun z hz => ho z (by simp [hz])) h
        have h4 := part ((List.range len).map f) (k / sz) (f (k / sz)) okl (by simp [hi])
        have h5 : (((List.range len).map f).flatMap C)[k]? = (((((List.range len).map f).flatMap C).drop (k / sz * sz)).take sz)[k % sz]? := by
          rw [List.getElem?_take, if_pos hj, List.getElem?_drop, hkk]
        rw [h5, h4]
      · rw [List.getElem?_eq_none (by rw [Array.length_toList, Array.size_extract]; omega), List.getElem?_eq_none (by omega)]
    | _ => cases hlast
/-- A change as it lies. -/
structure ChI (w : World) where
  c : Chg
  q : Option Addr
  m : Nat
  d : Nat
  s : Sl .u8 w q m d c.val
  nb : Byt c.name
  vb : Byt c.val
def chI {w : World} (x : ChI w) : List Value := [.string (strB x.c.name), .slice x.q x.m x.d, .bool x.c.gone]
theorem chV_of {w : World} : ∀ l : List (ChI w), ChV w (l.flatMap chI) (l.map (·.c))
  | [] => .nil
  | x :: l => .cons x.s (chV_of l)
/-- A step as it lies: its changes. -/
structure StI (w : World) where
  l : List Chg
  q : Option Addr
  m : Nat
  d : Nat
  fuse : Int
  crash : Bool
  keep : Int
  c : Chs w q m d l
  b : ∀ c ∈ l, Byt c.name ∧ Byt c.val
  f1 : -9223372036854775808 ≤ fuse ∧ fuse ≤ 9223372036854775807
  k1 : -9223372036854775808 ≤ keep ∧ keep ≤ 9223372036854775807
  len : m ≤ 9223372036854775807
def stI {w : World} (x : StI w) : List Value := [.slice x.q x.m x.d, .int .i64 x.fuse, .bool x.crash, .int .i64 x.keep]
section
variable {H : Type} {enc : TypeId × Value → H} {w : World} {base : Nat} {spare : Nat → Bool} {held : Bool}
set_option maxRecDepth 100000 in
/-- Bytes that lie in a struct. -/
theorem bytes_of_trod {fuel : Nat} {cs : List Value} {x : DataW H × List MemPlace} (hf : DataW.trod enc Try.prog w base spare held fuel 22 cs = some x) :
    ∃ p n c l, cs = [.slice p n c] ∧ Sl .u8 w p n c l ∧ isBytes l := by
  rcases Go.Deep.open_slice Try.underlying22 hf with ⟨hcs, _⟩ | ⟨a, len, cap, m, n, D, Pl, hcs, _, hlc, hcm, hmm, _, hel⟩
  · exact ⟨none, 0, 0, [], hcs, ⟨rfl, Nat.le_refl 0, .inl rfl, fun _ => rfl, trivial⟩, by simp [isBytes]⟩
  · have hle : len ≤ m := by rw [hmm]; split <;> omega
    obtain ⟨l, h1, h2, h3⟩ := sv_of (sz := 1) (by omega) (C := fun x : Int => [Value.int .u8 x]) (O := fun x => 0 ≤ x ∧ x < 256) 0 hlc (fun x hx => rfl) (w := w) (a := a) fun i hi => by
      obtain ⟨cs, hc, ht⟩ := hel i (by omega)
      rw [cells5] at hc
      obtain ⟨hl4, hcell⟩ := cellsN hc
      obtain ⟨y, hy, _, q⟩ := DataW.trod_int Try.underlying5 ht
      subst hy
      have := wf_u8 q
      refine ⟨y, ⟨this.1, by omega⟩, fun j v hv => ?_⟩
      have := hcell j v hv
      rwa [Go.Deep.add_add] at this
    refine ⟨some a, len, cap, l, hcs, ⟨h1, hlc, ?_, (fun h => by cases h), trivial⟩, h2⟩
    rcases h3.row with h0 | ⟨b, off, cs, T, fr, e, hb, hs, hx⟩
    · exact .inl h0
    · refine .inr ⟨b, off, cs, T, fr, e, hb, by omega, ?_⟩
      rw [Nat.mul_one] at hx
      rw [hx]
      clear hx h1 h2 h3
      induction l with
      | nil => rfl
      | cons x l ih => simp [ih]
theorem drop_split (cs : List Value) (a b : Nat) : cs.drop a = (cs.drop a).take b ++ cs.drop (a + b) := by
  rw [← List.drop_drop, List.take_append_drop]
set_option maxRecDepth 100000 in
theorem change_of_trod {fuel : Nat} {cs : List Value} {x : DataW H × List MemPlace} (h : DataW.trod enc Try.prog w base spare held fuel 32 cs = some x) :
    ∃ y : ChI w, cs = chI y := by
  obtain ⟨xs, m, rfl, _, hl, hxl, hf⟩ := DataW.trod_struct Try.underlying32 h
  rw [cells32] at hl
  have hs : xs.length = 3 := hxl
  have h0 : DataW.trod enc Try.prog w base spare held m 9 ((cs.drop 0).take (Try.prog.cellsOf 9)) = xs[0]? := hf 0 _ rfl
  have h1 : DataW.trod enc Try.prog w base spare held m 22 ((cs.drop 1).take (Try.prog.cellsOf 22)) = xs[1]? := hf 1 _ rfl
  have h2 : DataW.trod enc Try.prog w base spare held m 4 ((cs.drop 2).take (Try.prog.cellsOf 4)) = xs[2]? := hf 2 _ rfl
  rw [cells9] at h0
  rw [cells22] at h1
  rw [cells4] at h2
  rw [List.getElem?_eq_getElem (by omega)] at h0 h1 h2
  obtain ⟨s0, p0, _, _⟩ := DataW.trod_string Try.underlying9 h0
  obtain ⟨p, n, c, l, p1, S1, b1⟩ := bytes_of_trod h1
  obtain ⟨g, p2, _⟩ := DataW.trod_bool Try.underlying4 h2
  obtain ⟨nm, hnm, hs0⟩ := str_all s0
  refine ⟨⟨⟨nm, g, l⟩, p, n, c, S1, hnm, b1⟩, ?_⟩
  have e : cs = cs.drop 0 := rfl
  rw [e, drop_split cs 0 1, drop_split cs (0 + 1) 1, drop_split cs (0 + 1 + 1) 1]
  rw [show 0 + 1 = 1 from rfl, show 1 + 1 = 2 from rfl, show 2 + 1 = 3 from rfl, p0, p1, p2, List.drop_of_length_le (by omega), hs0]
  rfl
set_option maxRecDepth 100000 in
theorem changes_of_trod {fuel : Nat} {cs : List Value} {x : DataW H × List MemPlace} (hf : DataW.trod enc Try.prog w base spare held fuel 33 cs = some x) :
    ∃ p n c l, cs = [.slice p n c] ∧ Chs w p n c l ∧ (∀ x ∈ l, Byt x.name ∧ Byt x.val) ∧ n ≤ 9223372036854775807 := by
  rcases Go.Deep.open_slice Try.underlying33 hf with ⟨hcs, _⟩ | ⟨a, len, cap, m, n, D, Pl, hcs, _, hlc, hcm, hmm, _, hel⟩
  · exact ⟨none, 0, 0, [], hcs, ⟨[], ⟨rfl, Nat.le_refl 0, .inl rfl, fun _ => rfl, trivial⟩, .nil⟩, by simp, by omega⟩
  · have hle : len ≤ m := by rw [hmm]; split <;> omega
    have key : ∀ i, i < len → ∃ x : ChI w, True ∧ ∀ j v, (chI x)[j]? = some v → w.cell? (a.add (i * 3 + j)) = some v := fun i hi => by
      obtain ⟨cs, hc, ht⟩ := hel i (by omega)
      rw [cells32] at hc
      obtain ⟨hl4, hcell⟩ := cellsN hc
      obtain ⟨y, rfl⟩ := change_of_trod ht
      refine ⟨y, trivial, fun j v hv => ?_⟩
      have := hcell j v hv
      rwa [Go.Deep.add_add] at this
    obtain ⟨l, h1, -, h3⟩ := sv_of (sz := 3) (by omega) (C := chI) (O := fun _ => True) ⟨⟨[], false, []⟩, none, 0, 0, ⟨rfl, Nat.le_refl 0, .inl rfl, fun _ => rfl, trivial⟩, by simp [Byt], by simp [Byt]⟩ hlc (fun x _ => rfl) key
    refine ⟨some a, len, cap, l.map (·.c), hcs, ⟨_, h3, chV_of l⟩, fun x hx => ?_, by unfold maxLen at hcm; omega⟩
    obtain ⟨y, _, rfl⟩ := List.mem_map.1 hx
    exact ⟨y.nb, y.vb⟩
set_option maxRecDepth 100000 in
theorem step_of_trod {fuel : Nat} {cs : List Value} {x : DataW H × List MemPlace} (h : DataW.trod enc Try.prog w base spare held fuel 62 cs = some x) :
    ∃ y : StI w, cs = stI y := by
  obtain ⟨xs, m, rfl, _, hl, hxl, hf⟩ := DataW.trod_struct Try.underlying62 h
  rw [cells62] at hl
  have hs : xs.length = 4 := hxl
  have h0 : DataW.trod enc Try.prog w base spare held m 33 ((cs.drop 0).take (Try.prog.cellsOf 33)) = xs[0]? := hf 0 _ rfl
  have h1 : DataW.trod enc Try.prog w base spare held m 3 ((cs.drop 1).take (Try.prog.cellsOf 3)) = xs[1]? := hf 1 _ rfl
  have h2 : DataW.trod enc Try.prog w base spare held m 4 ((cs.drop 2).take (Try.prog.cellsOf 4)) = xs[2]? := hf 2 _ rfl
  have h3 : DataW.trod enc Try.prog w base spare held m 3 ((cs.drop 3).take (Try.prog.cellsOf 3)) = xs[3]? := hf 3 _ rfl
  rw [cells33] at h0
  rw [cells3] at h1 h3
  rw [cells4] at h2
  rw [List.getElem?_eq_getElem (by omega)] at h0 h1 h2 h3
  obtain ⟨p, n, c, l, p0, C0, b0, n0⟩ := changes_of_trod h0
  obtain ⟨n1, p1, _, q1⟩ := DataW.trod_int Try.underlying3 h1
  obtain ⟨g, p2, _⟩ := DataW.trod_bool Try.underlying4 h2
  obtain ⟨n3, p3, _, q3⟩ := DataW.trod_int Try.underlying3 h3
  refine ⟨⟨l, p, n, c, n1, g, n3, C0, b0, wf_i64' q1, wf_i64' q3, n0⟩, ?_⟩
  have e : cs = cs.drop 0 := rfl
  rw [e, drop_split cs 0 1, drop_split cs (0 + 1) 1, drop_split cs (0 + 1 + 1) 1, drop_split cs (0 + 1 + 1 + 1) 1]
  rw [show 0 + 1 = 1 from rfl, show 1 + 1 = 2 from rfl, show 2 + 1 = 3 from rfl, show 3 + 1 = 4 from rfl, p0, p1, p2, p3, List.drop_of_length_le (by omega)]
  rfl
set_option maxRecDepth 100000 in
theorem open33 {r : Reach} {b0 : Nat} {v : Value} {d : DataW H} {ps : List MemPlace} (hval : Value.okWide Try.prog w r b0 33 v) (hd : DataW.Trod enc Try.prog w base spare held 33 v d ps) :
    ∃ p n c l, v = .slice p n c ∧ Chs w p n c l ∧ (∀ x ∈ l, Byt x.name ∧ Byt x.val) ∧ n ≤ 9223372036854775807 := by
  unfold Value.okWide at hval
  rw [Try.underlying33] at hval
  obtain ⟨p, N0, c, rfl⟩ := slice_cell hval Try.underlying33
  obtain ⟨fuel, hf⟩ := hd
  obtain ⟨p', n', c', l, h1, h2, h3, h4⟩ := changes_of_trod hf
  replace h1 : [Value.slice p N0 c] = [.slice p' n' c'] := h1
  simp only [List.cons.injEq, and_true] at h1
  exact ⟨p', n', c', l, h1, h2, h3, h4⟩
/-- Steps, as they lie. -/
def Stps (w : World) (p : Option Addr) (n cap : Nat) (l : List (StI w)) : Prop := Sv 4 w p n cap (l.flatMap stI) ∧ l.length = n
set_option maxRecDepth 100000 in
theorem openSteps {r : Reach} {b0 : Nat} {v : Value} {d : DataW H} {ps : List MemPlace} (hval : Value.okWide Try.prog w r b0 59 v) (hd : DataW.Trod enc Try.prog w base spare held 59 v d ps) :
    ∃ p n c, ∃ l : List (StI w), v = .slice p n c ∧ Stps w p n c l ∧ n ≤ 9223372036854775807 := by
  unfold Value.okWide at hval
  rw [Try.underlying59] at hval
  obtain ⟨p, N0, c, rfl⟩ := slice_cell hval Try.underlying59
  obtain ⟨fuel, hf⟩ := hd
  rcases Go.Deep.open_slice Try.underlying59 hf with ⟨hcs, _⟩ | ⟨a, len, cap, m, n, D, Pl, hcs, _, hlc, hcm, hmm, _, hel⟩
  · replace hcs : [Value.slice p N0 c] = [.slice none 0 0] := hcs
    simp only [List.cons.injEq, and_true] at hcs
    exact ⟨none, 0, 0, [], hcs, ⟨⟨rfl, Nat.le_refl 0, .inl rfl, fun _ => rfl, trivial⟩, rfl⟩, by omega⟩
  · replace hcs : [Value.slice p N0 c] = [.slice (some a) len cap] := hcs
    simp only [List.cons.injEq, and_true] at hcs
    have hle : len ≤ m := by rw [hmm]; split <;> omega
    have key : ∀ i, i < len → ∃ x : StI w, True ∧ ∀ j v, (stI x)[j]? = some v → w.cell? (a.add (i * 4 + j)) = some v := fun i hi => by
      obtain ⟨cs, hc, ht⟩ := hel i (by omega)
      rw [cells62] at hc
      obtain ⟨hl4, hcell⟩ := cellsN hc
      obtain ⟨y, rfl⟩ := step_of_trod ht
      refine ⟨y, trivial, fun j v hv => ?_⟩
      have := hcell j v hv
      rwa [Go.Deep.add_add] at this
    obtain ⟨l, h1, -, h3⟩ := sv_of (sz := 4) (by omega) (C := stI) (O := fun _ => True) ⟨[], none, 0, 0, 0, false, 0, ⟨[], ⟨rfl, Nat.le_refl 0, .inl rfl, fun _ => rfl, trivial⟩, .nil⟩, by simp, by omega, by omega, by omega⟩ hlc (fun x _ => rfl) key
    exact ⟨some a, len, cap, l, hcs, ⟨h3, h1⟩, by unfold maxLen at hcm; omega⟩
end
end Go.Proofs.Ytombhkekocbfoaa
namespace Go.St
open Go.Kd Go.Dr
theorem asC_inj {a b : List (Bs × Bs)} (h : asC a = asC b) : a = b := by
  have h2 := congrArg (List.map fun c : Chg => (c.name, c.val)) h
  simpa [asC, Function.comp_def] using h2
theorem byv_putL {n v : Bs} {L : List (Bs × Bs)} (h : ∀ x ∈ L, Byt x.1 ∧ Byt x.2) (hn : Byt n) (hv : Byt v) : ∀ x ∈ putL n v L, Byt x.1 ∧ Byt x.2 := fun x hx => by
  rcases mem_putL hx with rfl | h1
  · exact ⟨hn, hv⟩
  · exact h x h1
theorem byv_allC : ∀ {l : List Chg} {L : List (Bs × Bs)}, (∀ x ∈ L, Byt x.1 ∧ Byt x.2) → (∀ c ∈ l, Byt c.name ∧ Byt c.val) → ∀ x ∈ allC L l, Byt x.1 ∧ Byt x.2 := by
  intro l
  induction l with
  | nil => intro L h _; exact h
  | cons c l ih =>
    intro L h hc
    refine ih (L := doC L c) (fun x hx => ?_) fun c hc2 => hc c (by simp [hc2])
    unfold doC at hx
    split at hx
    · exact h x (List.mem_filter.1 hx).1
    · exact byv_putL h (hc c (by simp)).1 (hc c (by simp)).2 x hx
theorem byv_asC {L : List (Bs × Bs)} (h : ∀ x ∈ L, Byt x.1 ∧ Byt x.2) : ∀ c ∈ asC L, Byt c.name ∧ Byt c.val := fun c hc => by
  obtain ⟨x, hx, rfl⟩ := List.mem_map.1 hc
  exact h x hx
theorem fuse_good {m : DM} {sp : SP} (g : Good m sp) {n : Int} (h : n ≤ 9223372036854775807) : Good (fuseM m n) sp :=
  ⟨⟨g.ok.n1, g.ok.n2, g.ok.kl, g.ok.sl, by show -1 ≤ max n (-1); omega, by show max n (-1) ≤ _; omega, g.ok.ws⟩, g.dead, g.wt, g.sk, g.k⟩
end Go.St
namespace Go.Proofs.Ytombhkekocbfoaa
open Go.RowKit Go.Dr Go.Kd Go.St
theorem byt_pair {L : List (Bs × Bs)} (h : ∀ x ∈ L, EntOk x) : ∀ x ∈ L, Byt x.1 ∧ Byt x.2 := fun x hx => ⟨(h x hx).nb, (h x hx).vb⟩
/-- A store that is whole, made behind w0. -/
structure StW (N : Nat) (w0 w : World) (s d : Nat) (sp : SP) (m : DM) (fp : List Nat) : Prop where
  t : StAv w s d sp m fp []
  g : Go.St.Good m sp
  b : BytM m
  n : m.n = N
  f : m.fuse = -1
  fr : Fr [] w0 w
  fpn : ∀ k ∈ fp, w0.heap.size ≤ k
  sn : w0.heap.size ≤ s
theorem commitM_wl (sp : SP) (m : DM) (l : List Chg) : (commitM sp m l).2.2.waits.length ≤ m.waits.length + m.n / 2 + 1 := by
  have key : ∀ (L : List (Bs × Bs)) (half at_ e c : Nat) (b : Bs), at_ + b.length / 64 ≤ m.n / 2 → (finM sp m L half at_ e c b).2.2.waits.length ≤ m.waits.length + m.n / 2 + 1 := by
    intro L half at_ e c b hb
    have h1 := (putM_nn m (half * (m.n / 2) + at_) b).2
    have h2 := (putM_nn (putM m (half * (m.n / 2) + at_) b).2 (half * (m.n / 2)) (headB e c (at_ + b.length / 64))).2
    rw [headB_length] at h2
    unfold finM
    split
    · split
      · show (putM _ _ _).2.waits.length ≤ _; omega
      · show (putM _ _ _).2.waits.length ≤ _; omega
    · show (putM _ _ _).2.waits.length ≤ _; omega
  unfold commitM
  split
  · show m.waits.length ≤ _; omega
  · split
    · show m.waits.length ≤ _; omega
    · split
      · show m.waits.length ≤ _; omega
      · split
        · show m.waits.length ≤ _; omega
        · split
          · show m.waits.length ≤ _; omega
          · split
            · split
              · show m.waits.length ≤ _; omega
              · split
                · show m.waits.length ≤ _; omega
                · exact key _ _ _ _ _ _ (by omega)
            · exact key _ _ _ _ _ _ (by omega)
theorem StW.commit {N : Nat} {w0 w w' : World} {s d : Nat} {sp : SP} {m : DM} {fp : List Nat} {l : List Chg} {en : Ending} (S : StW N w0 w s d sp m fp) (hl : ∀ c ∈ l, Byt c.name ∧ Byt c.val) (C : CommR w s d fp [] en w' (commitM sp m l)) :
    ∃ (E : Int) (sp' : SP) (m' : DM) (fp' : List Nat), en = .returned (.int .i64 E) ∧ StW N w0 w' s d sp' m' fp' := by
  obtain ⟨fp', rfl, T, F, Nw⟩ := C
  have hF : Fr [] w0 w' := S.fr.seq F fun k hk hlt => by
    rcases List.mem_cons.1 hk with rfl | h
    · have := S.sn; omega
    · have := S.fpn k h; omega
  have hfp : ∀ k ∈ fp', w0.heap.size ≤ k := fun k hk => by
    rcases Nw k hk with h | h
    · exact S.fpn k h
    · exact Nat.le_trans S.fr.size h
  have hnf := commit_nofuse S.g S.f l
  have hg : Go.St.Good (commitM sp m l).2.2 (commitM sp m l).2.1 := by
    rcases commit_good S.g l with ⟨-, h, -⟩ | ⟨h, -⟩ | ⟨-, -, h⟩
    · exact h
    · exact absurd h hnf.1
    · rw [h]; exact S.g
  exact ⟨_, _, _, fp', rfl, ⟨T, hg, S.b.commit (good_spb S.g S.b) hl, (commitM_n sp m l).trans S.n, hnf.2, hF, hfp, S.sn⟩⟩
theorem flat_part : ∀ {w : World} (l : List (StI w)) (i : Nat) (x : StI w), l[i]? = some x → ((l.flatMap stI).drop (i * 4)).take 4 = stI x := by
  intro w l
  induction l with
  | nil => intro i x h; simp at h
  | cons y l ih =>
    intro i x h
    cases i with
    | zero =>
      simp only [List.getElem?_cons_zero, Option.some.injEq] at h
      subst h
      rfl
    | succ i =>
      rw [List.getElem?_cons_succ] at h
      rw [List.flatMap_cons, show (i + 1) * 4 = (stI y).length + i * 4 by simp [stI]; omega, List.drop_append, List.drop_of_length_le (by omega), Nat.add_sub_cancel_left, List.nil_append]
      exact ih i x h
/-- A step's changes. -/
theorem Stps.at {w : World} {p : Option Addr} {n cap : Nat} {l : List (StI w)} (h : Stps w p n cap l) {j : Nat} (hj : j < n) : ∃ (x : StI w) (b off : Nat) (cs : Array Value) (T : TypeId) (fr : Nat × Nat), p = some ⟨b, off, none⟩ ∧ w.blk b = some (.cells cs T fr) ∧ off + j * 4 + 4 ≤ cs.size ∧ (∃ h : off + j * 4 < cs.size, cs[off + j * 4] = .slice x.q x.m x.d) ∧ (∃ h : off + j * 4 + 1 < cs.size, cs[off + j * 4 + 1] = .int .i64 x.fuse) ∧ (∃ h : off + j * 4 + 2 < cs.size, cs[off + j * 4 + 2] = .bool x.crash) ∧ (∃ h : off + j * 4 + 3 < cs.size, cs[off + j * 4 + 3] = .int .i64 x.keep) ∧ l[j]? = some x := by
  obtain ⟨h1, h2⟩ := h
  obtain ⟨b, off, cs, T, fr, e1, e2, e3, e4, e5⟩ := h1.elem hj
  obtain ⟨x, hx⟩ : ∃ x, l[j]? = some x := ⟨_, List.getElem?_eq_getElem (by omega)⟩
  rw [flat_part l j x hx] at e5
  have g0 := congrArg (fun a => a[0]?) e5
  have g1 := congrArg (fun a => a[1]?) e5
  have g2 := congrArg (fun a => a[2]?) e5
  have g3 := congrArg (fun a => a[3]?) e5
  rw [Array.getElem?_extract_of_lt (by omega)] at g0 g1 g2 g3
  exact ⟨x, b, off, cs, T, fr, e1, e2, e4, ⟨by omega, by simpa [stI] using g0⟩, ⟨by omega, by simpa [stI] using g1⟩, ⟨by omega, by simpa [stI] using g2⟩, ⟨by omega, by simpa [stI] using g3⟩, hx⟩
theorem ChsA.sub {w : World} {av av' : List Nat} {p : Option Addr} {n cap : Nat} {l : List Chg} (h : ChsA w av p n cap l) (hs : ∀ k ∈ av', k ∈ av) : ChsA w av' p n cap l := by
  obtain ⟨vs, h1, h2, h3, h4⟩ := h
  exact ⟨vs, h1, h2, fun u hu q m d e h0 k hk hf => h3 u hu q m d e h0 k hk (hs k hf), fun h0 k hk hf => h4 h0 k hk (hs k hf)⟩
theorem Chs.awayN {w w' : World} {av : List Nat} {p : Option Addr} {n cap : Nat} {l : List Chg} (h : Chs w p n cap l) (F : Fr [] w w') (hav : ∀ k ∈ av, w.heap.size ≤ k) : ChsA w' av p n cap l := by
  obtain ⟨vs, h1, h2⟩ := h
  refine ⟨vs, h1.fr0 F, h2.fr0 F, fun u hu q m d e h0 k hk hf => ?_, fun h0 k hk hf => ?_⟩
  · have h3 := h2.lt u hu q m d e h0 k hk
    have := hav k hf; omega
  · rcases h1.row with h6 | ⟨b, off, cs, T, fr, rfl, hb, -⟩
    · omega
    · simp only [Option.map_some, Option.some.injEq] at hk
      subst hk
      have := World.at_lt hb
      have := hav _ hf; omega
/-- What All told lies elsewhere than what was there. -/
theorem GchN.away {w0 w : World} {q : Option Addr} {k c : Nat} {l : List Chg} (h : GchN w0 [] w q k c l) {av : List Nat} (hav : ∀ b ∈ av, b < w0.heap.size) : ChsA w av q k c l := by
  obtain ⟨us, M, B, S, N⟩ := h.ex
  refine ⟨us, B.sv, (S w B.own.has.of_append.1).1, fun u hu q m d e h0 k hk hf => ?_, fun h0 k hk hf => ?_⟩
  · cases q with
    | none => cases hk
    | some a =>
      simp only [Option.map_some, Option.some.injEq] at hk
      subst hk
      have := N u hu a m d e
      have := hav _ hf; omega
  · have := (B.new k hk).1
    have := hav k hf; omega
section
variable {w : World}
set_option maxRecDepth 100000 in
set_option maxHeartbeats 16000000 in
theorem storeWhole_walk {p : Option Addr} {n cap : Nat} {ls : List (StI w)} (L : Stps w p n cap ls) (hn : n ≤ 9223372036854775807) {q : Option Addr} {m d0 : Nat} {last : List Chg} (C : Chs w q m d0 last) (hlb : (∀ c ∈ last, Byt c.name ∧ Byt c.val) ∧ m ≤ 9223372036854775807) {fuse keep : Int} (hf : -9223372036854775808 ≤ fuse ∧ fuse ≤ 9223372036854775807) (hk : -9223372036854775808 ≤ keep ∧ keep ≤ 9223372036854775807) :
    Calls Try.prog 5 #[.slice p n cap, .slice q m d0, .int .i64 fuse, .int .i64 keep] w fun e w' => e = .returned (.bool true) ∧ Fr [] w w' := by
  have HL := Lib.hid L
  have HC := Lib.hid C
  have HLB := Lib.hid hlb
  have HML := Lib.hid C.len
  clear L C hlb
  go_enter Try.func5, Try.ntmps5
  go_wp2_with fail
  refine (alive_f (w := w)).mono ?_
  rintro en w0 ⟨rfl, F0⟩
  have HF0 := Lib.hid F0
  clear F0
  go_wp2_with fail
  refine (new_m 24 w0).mono ?_
  rintro en w1 ⟨d, fp, rfl, D1, F1, N1⟩
  obtain ⟨m1, hop, G1, hf1, hn1, hb1⟩ := good_fresh 24 (by decide) D1.ok'
  have hn1 : m1.n = 24 := hn1
  have HD1 := Lib.hid D1
  have HF1 := Lib.hid F1
  have HOP := Lib.hid hop
  have HN1 := Lib.hid N1
  clear D1 F1 N1 hop
  go_wp2_with fail
  refine (open_f HD1.out (by decide) (byt_zs _) (by decide)).mono ?_
  intro en w2 hO
  rw [HOP.out] at hO
  obtain ⟨-, s, fp1, rfl, T2, F2, N2, L2⟩ := hO
  have HFp : ∀ k ∈ fp1, w0.heap.size ≤ k := fun k hk => by
    rcases N2 k hk with h | h
    · rcases HN1.out k h with h | h
      · cases h
      · exact h
    · exact Nat.le_trans HF1.out.size h
  have HS := Lib.hid (show StW 24 w0 w2 s d sp0 m1 fp1 from ⟨T2.av, G1, hb1, hn1, hf1, HF1.out.seq F2 (fun k hk hl => by
    rcases HN1.out k hk with h | h
    · exact h
    · omega), HFp, Nat.le_trans HF1.out.size L2⟩)
  clear T2 F2 N2 L2 HFp G1 hf1 hn1 hb1
  go_wp2_with fail
  refine (small_f (HC.out.fr0 (HF0.out.trans HS.out.fr)) HLB.out.2).mono ?_
  rintro en w3 ⟨r, rfl, F3, hr⟩
  have HS3 := Lib.hid (show StW 24 w0 w3 s d sp0 m1 fp1 from ⟨HS.out.t.fr0 F3, HS.out.g, HS.out.b, HS.out.n, HS.out.f, HS.out.fr.trans F3, HS.out.fpn, HS.out.sn⟩)
  clear F3
  cases r with
  | false =>
    have HFE := Lib.hid (HF0.out.trans HS3.out.fr)
    go_wp2_with fail
    exact bodyPost_ret (results_tmp rfl _ _ _) rfl ⟨rfl, HFE.out⟩
  | true =>
    have hm30 := hr rfl
    have HM30 := Lib.hid hm30
    clear hr hm30
    go_wp2_with fail
    go_loopw [12] (fun iv wy => ∃ (i : Nat) (sp : SP) (m : DM) (fp : List Nat), i ≤ n ∧ i ≤ 20 ∧ iv = .int .i64 (i : Int) ∧ Hid (StW 24 w0 wy s d sp m fp)) (fun iv _ => (20 - intOf iv).toNat)
    case atStart => exact ⟨0, sp0, m1, fp1, by omega, by omega, rfl, HS3⟩
    case round =>
      obtain ⟨i, sp, mm, fp2, hin, hi20, rfl, hW⟩ := hrel
      by_cases hlt : i < n
      · have hd : decide ((i : Int) < (n : Int)) = true := by rw [decide_eq_true_eq]; omega
        by_cases hl20 : i < 20
        · have hd2 : decide ((i : Int) < 20) = true := by rw [decide_eq_true_eq]; omega
          obtain ⟨x, b, off, cs, TT, fr, rfl, fb, hsz, ⟨x0', x0⟩, -, -, -, hxl⟩ := HL.out.at hlt
          have FW := HF0.out.trans hW.out.fr
          have fbw := FW.get fb (by simp)
          have tb := World.at_lt fbw
          have HFB := Lib.hid fb
          have HFW := Lib.hid FW
          have ki : (i : Int) < (n : Int) := by omega
          obtain ⟨qx, hqx⟩ : ∃ qx, qx = x.q := ⟨_, rfl⟩
          obtain ⟨mx, hmx⟩ : ∃ mx, mx = x.m := ⟨_, rfl⟩
          obtain ⟨dx, hdx⟩ : ∃ dx, dx = x.d := ⟨_, rfl⟩
          obtain ⟨lx, hlx⟩ : ∃ lx, lx = x.l := ⟨_, rfl⟩
          have hcx := x.c
          have hbx := x.b
          have hmxl := x.len
          rw [← hqx, ← hmx, ← hdx] at x0
          rw [← hqx, ← hmx, ← hdx, ← hlx] at hcx
          rw [← hlx] at hbx
          rw [← hmx] at hmxl
          have HCX := Lib.hid hcx
          have HBX := Lib.hid hbx
          have HMX := Lib.hid hmxl
          clear fb FW hcx hbx hmxl hqx hmx hdx hlx hxl
          go_wp2_with fail
          refine (small_f (HCX.out.fr0 HFW.out) HMX.out).mono ?_
          rintro en w4 ⟨r, rfl, F4, hr⟩
          have HS4 := Lib.hid (show StW 24 w0 w4 s d sp mm fp2 from ⟨hW.out.t.fr0 F4, hW.out.g, hW.out.b, hW.out.n, hW.out.f, hW.out.fr.trans F4, hW.out.fpn, hW.out.sn⟩)
          have HF4 := Lib.hid (HFW.out.trans F4)
          have fbw := HF4.out.get HFB.out (by simp)
          have tb := World.at_lt fbw
          clear F4
          cases r with
          | false =>
            go_wp2_with fail
            exact bodyPost_ret (results_tmp rfl _ _ _) rfl ⟨rfl, HF4.out⟩
          | true =>
            have hm3 := hr rfl
            have HM3 := Lib.hid (show mx ≤ 1000000 by omega)
            clear hr hm3
            go_wp2_with fail
            have hc := commit_f HS4.out.t (by simp) (good_spb HS4.out.g HS4.out.b) (by rw [HS4.out.n]; decide) (by rw [HS4.out.g.wt]; decide) (HCX.out.fr0 HF4.out) HBX.out HM3.out
            refine hc.mono ?_
            clear hc
            intro en w5 hC5
            obtain ⟨E, sp', m', fp', rfl, S5⟩ := HS4.out.commit HBX.out hC5
            have HS5 := Lib.hid S5
            clear hC5 S5 fbw tb
            go_wp2_with fail
            go_roundw
            case rel => exact ⟨i + 1, sp', m', fp', hlt, hl20, by first | rfl | simp, HS5⟩
            case measure => simp [intOf]; omega
        · have hd2 : decide ((i : Int) < 20) = false := by rw [decide_eq_false_iff_not]; omega
          have HSE := Lib.hid hW.out
          have HK := Lib.hid (good_spb hW.out.g hW.out.b)
          have HLOW := Lib.hid (DiskAt.lt hW.out.t.disk)
          have HSL := Lib.hid hW.out.t.lt
          clear hW
          go_wp2_with fail
          refine (all_sf HSE.out.t.st HK.out.srt HK.out.ent HK.out.len).mono ?_
          rintro en wA ⟨q1, c1, rfl, G1⟩
          have HFA := Lib.hid G1.gch.own.fr
          have HWA := Lib.hid (G1.away (av := s :: fp2) (fun b hb => by
            rcases List.mem_cons.1 hb with rfl | h
            · exact HSL.out
            · exact HLOW.out b h))
          have HTA := Lib.hid (HSE.out.t.fr0 G1.gch.own.fr)
          obtain ⟨n1, hn1⟩ : ∃ n1, n1 = sp.L.length := ⟨_, rfl⟩
          rw [← hn1] at HWA ⊢
          have HNN1 := Lib.hid hn1
          clear G1 hn1
          obtain ⟨fu, hfu⟩ : ∃ fu : Int, fu = max fuse 0 := ⟨_, rfl⟩
          have hfu2 : fu ≤ 9223372036854775807 := by omega
          have HFU := Lib.hid hfu
          go_wp2_with fail
          rw [show max fuse 0 = fu from hfu.symm]
          refine (fuse_any HTA.out.disk fu hfu2).mono ?_
          rintro en w4 ⟨rfl, D4, F4⟩
          obtain ⟨m4, hm4⟩ : ∃ m4, m4 = fuseM mm fu := ⟨_, rfl⟩
          have hT4 : StAv w4 s d sp m4 fp2 [] := by
            obtain ⟨mb, f0, hs, D, M⟩ := HTA.out.ex
            rw [hm4]
            exact ⟨mb, F4.get f0 hs, hs, D4, M.fr (F4.mono fun k hk _ => hk) fun k hk => .inl hk⟩
          have hg4 : Go.St.Good m4 sp := by rw [hm4]; exact fuse_good HSE.out.g hfu2
          have hb4 : BytM m4 := by rw [hm4]; exact HSE.out.b
          have hn4 : m4.n = 24 := by rw [hm4]; exact HSE.out.n
          have HT4 := Lib.hid hT4
          have HG4 := Lib.hid hg4
          have HB4 := Lib.hid hb4
          have HN4 := Lib.hid hn4
          have HW4 := Lib.hid (HWA.out.fr (F4.mono (fp' := s :: fp2) fun k hk _ => List.mem_cons_of_mem _ hk) (fun k hk => .inl hk))
          have HF4 := Lib.hid (show Fr [] w0 w4 from (HSE.out.fr.trans HFA.out).seq F4 fun k hk hl => by have := HSE.out.fpn k hk; omega)
          clear hT4 hg4 hb4 hn4 hm4 D4 F4 hfu
          go_wp2_with fail
          have hc := commit_f HT4.out (by simp) (good_spb HG4.out HB4.out) (by rw [HN4.out]; decide) (by rw [HG4.out.wt]; decide) (HC.out.fr0 (HF0.out.trans HF4.out)) HLB.out.1 (Nat.le_trans (Nat.le_of_lt HM30.out) (by decide))
          have hcg := commit_good HG4.out last
          have hcb := HB4.out.commit (good_spb HG4.out HB4.out) HLB.out.1
          have hcn := (commitM_n sp m4 last).trans HN4.out
          have hcw := commitM_wl sp m4 last
          rw [HG4.out.wt, HN4.out] at hcw
          obtain ⟨cm, hcm⟩ : ∃ cm, cm = commitM sp m4 last := ⟨_, rfl⟩
          rw [← hcm] at hc hcg hcb hcn hcw
          have HCW := Lib.hid hcw
          have HCG := Lib.hid hcg
          have HCB := Lib.hid hcb
          have HCN := Lib.hid hcn
          refine hc.mono ?_
          clear hc hcg hcb hcn hcm hcw
          rintro en w5 ⟨fp5, rfl, T5, F5, N5⟩
          have HT5 := Lib.hid T5
          have HFP5 := Lib.hid (show ∀ k ∈ fp5, w0.heap.size ≤ k from fun k hk => by
            rcases N5 k hk with h | h
            · exact HSE.out.fpn k h
            · exact Nat.le_trans HF4.out.size h)
          have HF5 := Lib.hid (show Fr [] w0 w5 from HF4.out.seq F5 fun k hk hl => by
            rcases List.mem_cons.1 hk with rfl | h
            · have := HSE.out.sn; omega
            · have := HSE.out.fpn k h; omega)
          have HW5 := Lib.hid (HW4.out.fr F5 (fp' := s :: fp5) fun k hk => by
            rcases List.mem_cons.1 hk with rfl | h
            · exact .inl (by simp)
            · rcases N5 k h with h | h
              · exact .inl (List.mem_cons_of_mem _ h)
              · exact .inr h)
          have HL5 := Lib.hid (show ∀ b ∈ s :: fp5, b < w5.heap.size from fun b hb => by
            rcases List.mem_cons.1 hb with rfl | h
            · exact T5.lt
            · exact DiskAt.lt T5.disk b h)
          have HC5 := Lib.hid (HC.out.awayN (HF0.out.trans HF5.out) (av := s :: fp5) fun k hk => by
            have h0 := HF0.out.size
            rcases List.mem_cons.1 hk with rfl | h
            · have := HSE.out.sn; omega
            · have := HFP5.out k h; omega)
          obtain ⟨E, hE⟩ : ∃ E, E = cm.1 := ⟨_, rfl⟩
          rw [← hE]
          have HE := Lib.hid hE
          clear T5 F5 N5 hE
          go_wp2_with fail
          have hBL := byt_pair HK.out.ent
          have HBL := Lib.hid hBL
          refine (dall_f HL5.out HW5.out (fun x hx => (HBL.out x hx).1) HK.out.srt (by rw [HNN1.out]; have := HK.out.len; omega) HC5.out (fun c hc => (HLB.out.1 c hc).1) (by have := HM30.out; omega)).mono ?_
          rintro en w6 ⟨q6, k6, c6, rfl, C6, F6⟩
          have HC6 := Lib.hid C6
          have HW6 := Lib.hid (HW5.out.fr0 F6)
          have HT6 := Lib.hid (HT5.out.fr0 F6)
          have HF6 := Lib.hid (HF5.out.trans F6)
          have hk6 : k6 ≤ 1000000 := by
            have h1 := C6.chs.len
            have h2 := allC_le last sp.L
            rw [asC, List.length_map] at h1
            have h3 := HML.out
            have h4 := HM30.out
            have h5 := HK.out.len
            omega
          have HK6 := Lib.hid hk6
          have HBN := Lib.hid (byv_allC HBL.out HLB.out.1)
          clear C6 F6 hBL hk6
          go_wp2_with fail
          refine (crash_any HT6.out.disk keep (by have := HCW.out; simp at this; omega)).mono ?_
          rintro en w7 ⟨rfl, fp7, D7, F7, N7⟩
          have HD7 := Lib.hid D7
          have HFP7 := Lib.hid (show ∀ k ∈ fp7, w0.heap.size ≤ k from fun k hk => by
            rcases N7 k hk with h | h
            · exact HFP5.out k h
            · exact Nat.le_trans HF6.out.size h)
          have HF7 := Lib.hid (show Fr [] w0 w7 from HF6.out.seq F7 fun k hk hl => by have := HFP5.out k hk; omega)
          have HW7 := Lib.hid ((HW6.out.sub (av' := fp5) fun k hk => List.mem_cons_of_mem _ hk).fr F7 N7)
          have HC7 := Lib.hid ((HC6.out.sub (av' := fp5) fun k hk => List.mem_cons_of_mem _ hk).fr F7 N7)
          have hop : ∃ sp8, openM (crashM cm.2.2 keep) = (0, some sp8, crashM cm.2.2 keep) ∧ SPB 24 sp8 ∧ ((E = 0 ∧ sp8.L = allC sp.L last) ∨ (E = 150 ∧ (sp8.L = sp.L ∨ sp8.L = allC sp.L last)) ∨ (E ≠ 0 ∧ E ≠ 150 ∧ sp8.L = sp.L)) := by
            have hbk := HCB.out.crash keep
            have hnk : (crashM cm.2.2 keep).n = 24 := HCN.out
            rw [HE.out]
            rcases HCG.out with ⟨h1, h2, h3⟩ | ⟨h1, h2⟩ | ⟨h1, h2, h3⟩
            · have hgk := crash_same h2 keep
              exact ⟨_, open_good hgk, by rw [← hnk]; exact good_spb hgk hbk, .inl ⟨h1, h3⟩⟩
            · obtain ⟨sp', hgk, hL⟩ := h2 keep
              exact ⟨_, open_good hgk, by rw [← hnk]; exact good_spb hgk hbk, .inr (.inl ⟨h1, hL⟩)⟩
            · have hgk := crash_same (sp := sp) (m := cm.2.2) (by rw [h3]; exact HG4.out) keep
              exact ⟨_, open_good hgk, by rw [← hnk]; exact good_spb hgk hbk, .inr (.inr ⟨h1, h2, rfl⟩)⟩
          obtain ⟨sp8, hop, hK8, hcase⟩ := hop
          obtain ⟨m8, hm8⟩ : ∃ m8, m8 = crashM cm.2.2 keep := ⟨_, rfl⟩
          have hb8 : BytM m8 := by rw [hm8]; exact HCB.out.crash keep
          have hn8 : m8.n = 24 := by rw [hm8]; exact HCN.out
          have hw8 : m8.waits = [] := by rw [hm8]; rfl
          rw [← hm8] at hop HD7
          have HOP := Lib.hid hop
          have HK8 := Lib.hid hK8
          have HCASE := Lib.hid hcase
          have HB8 := Lib.hid hb8
          have HN8 := Lib.hid hn8
          have HW8E := Lib.hid hw8
          clear D7 F7 N7 hop hK8 hcase hm8 hb8 hn8 hw8
          go_wp2_with fail
          refine (open_f HD7.out (by rw [HN8.out]; decide) HB8.out.2.1 (by rw [HW8E.out]; decide)).mono ?_
          intro en w8 hO
          rw [HOP.out] at hO
          obtain ⟨-, s8, fp8, rfl, T8, F8, N8, L8⟩ := hO
          have HT8 := Lib.hid T8
          have HF8 := Lib.hid (show Fr [] w0 w8 from HF7.out.seq F8 fun k hk hl => by have := HFP7.out k hk; omega)
          have HW8 := Lib.hid (HW7.out.fr F8 N8)
          have HC8 := Lib.hid (HC7.out.fr F8 N8)
          clear T8 F8 N8 L8
          go_wp2_with fail
          refine (all_sf HT8.out HK8.out.srt HK8.out.ent HK8.out.len).mono ?_
          rintro en w9 ⟨q9, c9, rfl, G9⟩
          have HG9 := Lib.hid G9.gch.chs
          have HF9 := Lib.hid (HF8.out.trans G9.gch.own.fr)
          have HW9 := Lib.hid (HW8.out.fr0 G9.gch.own.fr).chs
          have HC9 := Lib.hid (HC8.out.fr0 G9.gch.own.fr).chs
          have HB9 := Lib.hid (byt_pair HK8.out.ent)
          obtain ⟨n9, hn9⟩ : ∃ n9, n9 = sp8.L.length := ⟨_, rfl⟩
          have hn9b : n9 ≤ 1000000 := by rw [hn9]; have := HK8.out.len; omega
          have HN9B := Lib.hid hn9b
          rw [← hn9] at HG9 ⊢
          clear G9 hn9 hn9b
          have hsn := same_f HG9.out HC9.out (byv_asC HB9.out) (byv_asC HBN.out) HN9B.out
          have hsw := same_f HG9.out HW9.out (byv_asC HB9.out) (byv_asC HBL.out) HN9B.out
          have HSN := Lib.hid hsn
          have HSW := Lib.hid hsw
          clear hsn hsw
          by_cases hE0 : E = 0
          · subst hE0
            have HLE := Lib.hid (show sp8.L = allC sp.L last by
              rcases HCASE.out with ⟨-, h⟩ | ⟨h, -⟩ | ⟨h, -⟩
              · exact h
              · cases h
              · exact absurd rfl h)
            go_wp2_with fail
            refine HSN.out.mono ?_
            rintro en wB ⟨r, rfl, FB, hr⟩
            have hrt : r = true := hr.2 (by rw [HLE.out])
            subst hrt
            have HFB := Lib.hid (HF0.out.trans (HF9.out.trans FB))
            clear hr FB
            go_wp2_with fail
            exact bodyPost_ret (results_tmp rfl _ _ _) rfl ⟨rfl, HFB.out⟩
          have e0 : (E == 0) = false := by rw [beq_eq_false_iff_ne]; exact hE0
          by_cases hE1 : E = 150
          · subst hE1
            have HLE := Lib.hid (show sp8.L = sp.L ∨ sp8.L = allC sp.L last by
              rcases HCASE.out with ⟨h, -⟩ | ⟨-, h⟩ | ⟨-, h, -⟩
              · cases h
              · exact h
              · exact absurd rfl h)
            go_wp2_with fail
            refine HSW.out.mono ?_
            rintro en wB ⟨r, rfl, FB, hr⟩
            have HFB := Lib.hid (HF0.out.trans (HF9.out.trans FB))
            cases r with
            | true =>
              clear hr FB
              go_wp2_with fail
              exact bodyPost_ret (results_tmp rfl _ _ _) rfl ⟨rfl, HFB.out⟩
            | false =>
              have HLE2 := Lib.hid (show sp8.L = allC sp.L last by
                rcases HLE.out with h | h
                · exact absurd (hr.2 (by rw [h])) (by simp)
                · exact h)
              have hs2 := same_f (HG9.out.fr0 FB) (HC9.out.fr0 FB) (byv_asC HB9.out) (byv_asC HBN.out) HN9B.out
              have HS2 := Lib.hid hs2
              clear hr FB hs2
              go_wp2_with fail
              refine HS2.out.mono ?_
              rintro en wC ⟨r, rfl, FC, hr⟩
              have hrt : r = true := hr.2 (by rw [HLE2.out])
              subst hrt
              have HFC := Lib.hid (HFB.out.trans FC)
              clear hr FC
              go_wp2_with fail
              exact bodyPost_ret (results_tmp rfl _ _ _) rfl ⟨rfl, HFC.out⟩
          have e1 : (E == 150) = false := by rw [beq_eq_false_iff_ne]; exact hE1
          have HLE := Lib.hid (show sp8.L = sp.L by
            rcases HCASE.out with ⟨h, -⟩ | ⟨h, -⟩ | ⟨-, -, h⟩
            · exact absurd h hE0
            · exact absurd h hE1
            · exact h)
          go_wp2_with fail
          refine HSW.out.mono ?_
          rintro en wB ⟨r, rfl, FB, hr⟩
          have hrt : r = true := hr.2 (by rw [HLE.out])
          subst hrt
          have HFB := Lib.hid (HF0.out.trans (HF9.out.trans FB))
          clear hr FB
          go_wp2_with fail
          exact bodyPost_ret (results_tmp rfl _ _ _) rfl ⟨rfl, HFB.out⟩
      · have hd : decide ((i : Int) < (n : Int)) = false := by rw [decide_eq_false_iff_not]; omega
        have HSE := Lib.hid hW.out
        have HK := Lib.hid (good_spb hW.out.g hW.out.b)
        have HLOW := Lib.hid (DiskAt.lt hW.out.t.disk)
        have HSL := Lib.hid hW.out.t.lt
        clear hW
        go_wp2_with fail
        refine (all_sf HSE.out.t.st HK.out.srt HK.out.ent HK.out.len).mono ?_
        rintro en wA ⟨q1, c1, rfl, G1⟩
        have HFA := Lib.hid G1.gch.own.fr
        have HWA := Lib.hid (G1.away (av := s :: fp2) (fun b hb => by
          rcases List.mem_cons.1 hb with rfl | h
          · exact HSL.out
          · exact HLOW.out b h))
        have HTA := Lib.hid (HSE.out.t.fr0 G1.gch.own.fr)
        obtain ⟨n1, hn1⟩ : ∃ n1, n1 = sp.L.length := ⟨_, rfl⟩
        rw [← hn1] at HWA ⊢
        have HNN1 := Lib.hid hn1
        clear G1 hn1
        obtain ⟨fu, hfu⟩ : ∃ fu : Int, fu = max fuse 0 := ⟨_, rfl⟩
        have hfu2 : fu ≤ 9223372036854775807 := by omega
        have HFU := Lib.hid hfu
        go_wp2_with fail
        rw [show max fuse 0 = fu from hfu.symm]
        refine (fuse_any HTA.out.disk fu hfu2).mono ?_
        rintro en w4 ⟨rfl, D4, F4⟩
        obtain ⟨m4, hm4⟩ : ∃ m4, m4 = fuseM mm fu := ⟨_, rfl⟩
        have hT4 : StAv w4 s d sp m4 fp2 [] := by
          obtain ⟨mb, f0, hs, D, M⟩ := HTA.out.ex
          rw [hm4]
          exact ⟨mb, F4.get f0 hs, hs, D4, M.fr (F4.mono fun k hk _ => hk) fun k hk => .inl hk⟩
        have hg4 : Go.St.Good m4 sp := by rw [hm4]; exact fuse_good HSE.out.g hfu2
        have hb4 : BytM m4 := by rw [hm4]; exact HSE.out.b
        have hn4 : m4.n = 24 := by rw [hm4]; exact HSE.out.n
        have HT4 := Lib.hid hT4
        have HG4 := Lib.hid hg4
        have HB4 := Lib.hid hb4
        have HN4 := Lib.hid hn4
        have HW4 := Lib.hid (HWA.out.fr (F4.mono (fp' := s :: fp2) fun k hk _ => List.mem_cons_of_mem _ hk) (fun k hk => .inl hk))
        have HF4 := Lib.hid (show Fr [] w0 w4 from (HSE.out.fr.trans HFA.out).seq F4 fun k hk hl => by have := HSE.out.fpn k hk; omega)
        clear hT4 hg4 hb4 hn4 hm4 D4 F4 hfu
        go_wp2_with fail
        have hc := commit_f HT4.out (by simp) (good_spb HG4.out HB4.out) (by rw [HN4.out]; decide) (by rw [HG4.out.wt]; decide) (HC.out.fr0 (HF0.out.trans HF4.out)) HLB.out.1 (Nat.le_trans (Nat.le_of_lt HM30.out) (by decide))
        have hcg := commit_good HG4.out last
        have hcb := HB4.out.commit (good_spb HG4.out HB4.out) HLB.out.1
        have hcn := (commitM_n sp m4 last).trans HN4.out
        have hcw := commitM_wl sp m4 last
        rw [HG4.out.wt, HN4.out] at hcw
        obtain ⟨cm, hcm⟩ : ∃ cm, cm = commitM sp m4 last := ⟨_, rfl⟩
        rw [← hcm] at hc hcg hcb hcn hcw
        have HCW := Lib.hid hcw
        have HCG := Lib.hid hcg
        have HCB := Lib.hid hcb
        have HCN := Lib.hid hcn
        refine hc.mono ?_
        clear hc hcg hcb hcn hcm hcw
        rintro en w5 ⟨fp5, rfl, T5, F5, N5⟩
        have HT5 := Lib.hid T5
        have HFP5 := Lib.hid (show ∀ k ∈ fp5, w0.heap.size ≤ k from fun k hk => by
          rcases N5 k hk with h | h
          · exact HSE.out.fpn k h
          · exact Nat.le_trans HF4.out.size h)
        have HF5 := Lib.hid (show Fr [] w0 w5 from HF4.out.seq F5 fun k hk hl => by
          rcases List.mem_cons.1 hk with rfl | h
          · have := HSE.out.sn; omega
          · have := HSE.out.fpn k h; omega)
        have HW5 := Lib.hid (HW4.out.fr F5 (fp' := s :: fp5) fun k hk => by
          rcases List.mem_cons.1 hk with rfl | h
          · exact .inl (by simp)
          · rcases N5 k h with h | h
            · exact .inl (List.mem_cons_of_mem _ h)
            · exact .inr h)
        have HL5 := Lib.hid (show ∀ b ∈ s :: fp5, b < w5.heap.size from fun b hb => by
          rcases List.mem_cons.1 hb with rfl | h
          · exact T5.lt
          · exact DiskAt.lt T5.disk b h)
        have HC5 := Lib.hid (HC.out.awayN (HF0.out.trans HF5.out) (av := s :: fp5) fun k hk => by
          have h0 := HF0.out.size
          rcases List.mem_cons.1 hk with rfl | h
          · have := HSE.out.sn; omega
          · have := HFP5.out k h; omega)
        obtain ⟨E, hE⟩ : ∃ E, E = cm.1 := ⟨_, rfl⟩
        rw [← hE]
        have HE := Lib.hid hE
        clear T5 F5 N5 hE
        go_wp2_with fail
        have hBL := byt_pair HK.out.ent
        have HBL := Lib.hid hBL
        refine (dall_f HL5.out HW5.out (fun x hx => (HBL.out x hx).1) HK.out.srt (by rw [HNN1.out]; have := HK.out.len; omega) HC5.out (fun c hc => (HLB.out.1 c hc).1) (by have := HM30.out; omega)).mono ?_
        rintro en w6 ⟨q6, k6, c6, rfl, C6, F6⟩
        have HC6 := Lib.hid C6
        have HW6 := Lib.hid (HW5.out.fr0 F6)
        have HT6 := Lib.hid (HT5.out.fr0 F6)
        have HF6 := Lib.hid (HF5.out.trans F6)
        have hk6 : k6 ≤ 1000000 := by
          have h1 := C6.chs.len
          have h2 := allC_le last sp.L
          rw [asC, List.length_map] at h1
          have h3 := HML.out
          have h4 := HM30.out
          have h5 := HK.out.len
          omega
        have HK6 := Lib.hid hk6
        have HBN := Lib.hid (byv_allC HBL.out HLB.out.1)
        clear C6 F6 hBL hk6
        go_wp2_with fail
        refine (crash_any HT6.out.disk keep (by have := HCW.out; simp at this; omega)).mono ?_
        rintro en w7 ⟨rfl, fp7, D7, F7, N7⟩
        have HD7 := Lib.hid D7
        have HFP7 := Lib.hid (show ∀ k ∈ fp7, w0.heap.size ≤ k from fun k hk => by
          rcases N7 k hk with h | h
          · exact HFP5.out k h
          · exact Nat.le_trans HF6.out.size h)
        have HF7 := Lib.hid (show Fr [] w0 w7 from HF6.out.seq F7 fun k hk hl => by have := HFP5.out k hk; omega)
        have HW7 := Lib.hid ((HW6.out.sub (av' := fp5) fun k hk => List.mem_cons_of_mem _ hk).fr F7 N7)
        have HC7 := Lib.hid ((HC6.out.sub (av' := fp5) fun k hk => List.mem_cons_of_mem _ hk).fr F7 N7)
        have hop : ∃ sp8, openM (crashM cm.2.2 keep) = (0, some sp8, crashM cm.2.2 keep) ∧ SPB 24 sp8 ∧ ((E = 0 ∧ sp8.L = allC sp.L last) ∨ (E = 150 ∧ (sp8.L = sp.L ∨ sp8.L = allC sp.L last)) ∨ (E ≠ 0 ∧ E ≠ 150 ∧ sp8.L = sp.L)) := by
          have hbk := HCB.out.crash keep
          have hnk : (crashM cm.2.2 keep).n = 24 := HCN.out
          rw [HE.out]
          rcases HCG.out with ⟨h1, h2, h3⟩ | ⟨h1, h2⟩ | ⟨h1, h2, h3⟩
          · have hgk := crash_same h2 keep
            exact ⟨_, open_good hgk, by rw [← hnk]; exact good_spb hgk hbk, .inl ⟨h1, h3⟩⟩
          · obtain ⟨sp', hgk, hL⟩ := h2 keep
            exact ⟨_, open_good hgk, by rw [← hnk]; exact good_spb hgk hbk, .inr (.inl ⟨h1, hL⟩)⟩
          · have hgk := crash_same (sp := sp) (m := cm.2.2) (by rw [h3]; exact HG4.out) keep
            exact ⟨_, open_good hgk, by rw [← hnk]; exact good_spb hgk hbk, .inr (.inr ⟨h1, h2, rfl⟩)⟩
        obtain ⟨sp8, hop, hK8, hcase⟩ := hop
        obtain ⟨m8, hm8⟩ : ∃ m8, m8 = crashM cm.2.2 keep := ⟨_, rfl⟩
        have hb8 : BytM m8 := by rw [hm8]; exact HCB.out.crash keep
        have hn8 : m8.n = 24 := by rw [hm8]; exact HCN.out
        have hw8 : m8.waits = [] := by rw [hm8]; rfl
        rw [← hm8] at hop HD7
        have HOP := Lib.hid hop
        have HK8 := Lib.hid hK8
        have HCASE := Lib.hid hcase
        have HB8 := Lib.hid hb8
        have HN8 := Lib.hid hn8
        have HW8E := Lib.hid hw8
        clear D7 F7 N7 hop hK8 hcase hm8 hb8 hn8 hw8
        go_wp2_with fail
        refine (open_f HD7.out (by rw [HN8.out]; decide) HB8.out.2.1 (by rw [HW8E.out]; decide)).mono ?_
        intro en w8 hO
        rw [HOP.out] at hO
        obtain ⟨-, s8, fp8, rfl, T8, F8, N8, L8⟩ := hO
        have HT8 := Lib.hid T8
        have HF8 := Lib.hid (show Fr [] w0 w8 from HF7.out.seq F8 fun k hk hl => by have := HFP7.out k hk; omega)
        have HW8 := Lib.hid (HW7.out.fr F8 N8)
        have HC8 := Lib.hid (HC7.out.fr F8 N8)
        clear T8 F8 N8 L8
        go_wp2_with fail
        refine (all_sf HT8.out HK8.out.srt HK8.out.ent HK8.out.len).mono ?_
        rintro en w9 ⟨q9, c9, rfl, G9⟩
        have HG9 := Lib.hid G9.gch.chs
        have HF9 := Lib.hid (HF8.out.trans G9.gch.own.fr)
        have HW9 := Lib.hid (HW8.out.fr0 G9.gch.own.fr).chs
        have HC9 := Lib.hid (HC8.out.fr0 G9.gch.own.fr).chs
        have HB9 := Lib.hid (byt_pair HK8.out.ent)
        obtain ⟨n9, hn9⟩ : ∃ n9, n9 = sp8.L.length := ⟨_, rfl⟩
        have hn9b : n9 ≤ 1000000 := by rw [hn9]; have := HK8.out.len; omega
        have HN9B := Lib.hid hn9b
        rw [← hn9] at HG9 ⊢
        clear G9 hn9 hn9b
        have hsn := same_f HG9.out HC9.out (byv_asC HB9.out) (byv_asC HBN.out) HN9B.out
        have hsw := same_f HG9.out HW9.out (byv_asC HB9.out) (byv_asC HBL.out) HN9B.out
        have HSN := Lib.hid hsn
        have HSW := Lib.hid hsw
        clear hsn hsw
        by_cases hE0 : E = 0
        · subst hE0
          have HLE := Lib.hid (show sp8.L = allC sp.L last by
            rcases HCASE.out with ⟨-, h⟩ | ⟨h, -⟩ | ⟨h, -⟩
            · exact h
            · cases h
            · exact absurd rfl h)
          go_wp2_with fail
          refine HSN.out.mono ?_
          rintro en wB ⟨r, rfl, FB, hr⟩
          have hrt : r = true := hr.2 (by rw [HLE.out])
          subst hrt
          have HFB := Lib.hid (HF0.out.trans (HF9.out.trans FB))
          clear hr FB
          go_wp2_with fail
          exact bodyPost_ret (results_tmp rfl _ _ _) rfl ⟨rfl, HFB.out⟩
        have e0 : (E == 0) = false := by rw [beq_eq_false_iff_ne]; exact hE0
        by_cases hE1 : E = 150
        · subst hE1
          have HLE := Lib.hid (show sp8.L = sp.L ∨ sp8.L = allC sp.L last by
            rcases HCASE.out with ⟨h, -⟩ | ⟨-, h⟩ | ⟨-, h, -⟩
            · cases h
            · exact h
            · exact absurd rfl h)
          go_wp2_with fail
          refine HSW.out.mono ?_
          rintro en wB ⟨r, rfl, FB, hr⟩
          have HFB := Lib.hid (HF0.out.trans (HF9.out.trans FB))
          cases r with
          | true =>
            clear hr FB
            go_wp2_with fail
            exact bodyPost_ret (results_tmp rfl _ _ _) rfl ⟨rfl, HFB.out⟩
          | false =>
            have HLE2 := Lib.hid (show sp8.L = allC sp.L last by
              rcases HLE.out with h | h
              · exact absurd (hr.2 (by rw [h])) (by simp)
              · exact h)
            have hs2 := same_f (HG9.out.fr0 FB) (HC9.out.fr0 FB) (byv_asC HB9.out) (byv_asC HBN.out) HN9B.out
            have HS2 := Lib.hid hs2
            clear hr FB hs2
            go_wp2_with fail
            refine HS2.out.mono ?_
            rintro en wC ⟨r, rfl, FC, hr⟩
            have hrt : r = true := hr.2 (by rw [HLE2.out])
            subst hrt
            have HFC := Lib.hid (HFB.out.trans FC)
            clear hr FC
            go_wp2_with fail
            exact bodyPost_ret (results_tmp rfl _ _ _) rfl ⟨rfl, HFC.out⟩
        have e1 : (E == 150) = false := by rw [beq_eq_false_iff_ne]; exact hE1
        have HLE := Lib.hid (show sp8.L = sp.L by
          rcases HCASE.out with ⟨h, -⟩ | ⟨h, -⟩ | ⟨-, -, h⟩
          · exact absurd h hE0
          · exact absurd h hE1
          · exact h)
        go_wp2_with fail
        refine HSW.out.mono ?_
        rintro en wB ⟨r, rfl, FB, hr⟩
        have hrt : r = true := hr.2 (by rw [HLE.out])
        subst hrt
        have HFB := Lib.hid (HF0.out.trans (HF9.out.trans FB))
        clear hr FB
        go_wp2_with fail
        exact bodyPost_ret (results_tmp rfl _ _ _) rfl ⟨rfl, HFB.out⟩
end
end Go.Proofs.Ytombhkekocbfoaa
