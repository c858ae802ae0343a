/- The document's numbers (missiveref07): prime, less, minus, half. The document's numbers: fold, the plain part: sums of digits. The document's numbers: fold, the walk. The document's numbers: Small, Add, Neg, Sub, Bytes, Of. The document's numbers: Bytes, Of. The document's numbers: Mul, half. The document's numbers: half, power, Inv. The document's numbers: Inv, Root. The statements of the package field: their example; FieldBytes. FieldBytes: the walk. -/
import Derived.Test.YtakhmmnklkckpaaZb
import Derived.Deep.DeepCutAuto
namespace Go.Proofs.Ytakhmmnklkckpaa
open Go.RowKit Go.Dr

@[go_sem] theorem agg32 : aggB Try.prog 32 16 = true := by kernel_rfl
@[go_sem] theorem ix31 (w : World) (l : List Int) (ki : IntKind) (i : Int) (h0 : 0 ≤ i) (hi : i < 16) (hl : l.length = 16) :
    (Instr.index 32 (.agg (ints .i64 l)) (.int ki i)).run Try.prog w = .ok (.int .i64 (el l i.toNat)) w :=
  run_index_ints Try.underlying32 (fun w => by kernel_rfl) (fun w => by kernel_rfl) w _ l ki i h0 hi hl
/-- The sixteen digits of a natural number. -/
def digs (n : Nat) : List Int := (List.range 16).map fun i => ((n / 65536 ^ i % 65536 : Nat) : Int)
theorem length_digs (n : Nat) : (digs n).length = 16 := by simp [digs]
theorem el_digs (n i : Nat) (h : i < 16) : el (digs n) i = ((n / 65536 ^ i % 65536 : Nat) : Int) := by rw [digs, el_map_range _ _ _ h]
theorem el_digs_lt (n i : Nat) (h : i < 16) : 0 ≤ el (digs n) i ∧ el (digs n) i < 65536 := by rw [el_digs _ _ h]; omega
/-- A Num. -/
@[go_sem] def nm (n : Nat) : Value := .agg (ints .i64 (digs n))
/-- p. -/
def pN : Nat := 57896044618658097711785492504343953926634992332820282019728792003956564819949
section
variable {w : World}
theorem prime_any : Calls Try.prog 70 #[] w fun e w' => e = .returned (nm pN) ∧ Fr [] w w' := by
  have hd : digs pN = [65517, 65535, 65535, 65535, 65535, 65535, 65535, 65535, 65535, 65535, 65535, 65535, 65535, 65535, 65535, 32767] := by kernel_rfl
  unfold nm
  rw [hd]
  go_enter Try.func70, Try.ntmps70
  go_wp2
  refine ret_cell rfl rfl rfl ?_
  go_simp
  exact ⟨rfl, (Fr.refl _ _).alloc _⟩
theorem top_eq {m n i : Nat} (h : m / 65536 ^ (i + 1) = n / 65536 ^ (i + 1)) (hd : m / 65536 ^ i % 65536 = n / 65536 ^ i % 65536) : m / 65536 ^ i = n / 65536 ^ i := by
  rw [Nat.pow_succ, ← Nat.div_div_eq_div_mul, ← Nat.div_div_eq_div_mul] at h
  omega
theorem top_lt {m n i : Nat} (h : m / 65536 ^ (i + 1) = n / 65536 ^ (i + 1)) (hd : m / 65536 ^ i % 65536 < n / 65536 ^ i % 65536) : m < n := by
  rw [Nat.pow_succ, ← Nat.div_div_eq_div_mul, ← Nat.div_div_eq_div_mul] at h
  have h1 : m / 65536 ^ i < n / 65536 ^ i := by omega
  apply Classical.byContradiction
  intro hc
  have := Nat.div_le_div_right (c := 65536 ^ i) (Nat.le_of_not_lt hc)
  omega
set_option maxRecDepth 100000 in
theorem less_any (m n : Nat) (hm : m < 65536 ^ 16) (hn : n < 65536 ^ 16) : Calls Try.prog 97 #[nm m, nm n] w fun e w' => e = .returned (.bool (decide (m < n))) ∧ Fr [] w w' := by
  have lm := length_digs m
  have ln := length_digs n
  go_enter Try.func97, Try.ntmps97
  unfold nm
  go_wp2
  obtain ⟨V, hV⟩ : ∃ V, V = (w.alloc (.cells (ints .i64 (digs m)) 32)).alloc (.cells (ints .i64 (digs n)) 32) := ⟨_, rfl⟩
  refine Eq.mp (congrArg (fun X => Code.wp _ _ _ _ X) hV) ?_
  have h0 : V.blk w.heap.size = some (.cells (ints .i64 (digs m)) 32) := by rw [hV]; go_simp
  have h1 : V.blk (w.heap.size + 1) = some (.cells (ints .i64 (digs n)) 32) := by rw [hV]; go_simp
  have FV : Fr [] w V := by rw [hV]; exact ((Fr.refl _ _).alloc _).alloc _
  have HFV := Lib.hid FV
  clear hV FV
  go_loopw [5] (fun iv wr => ∃ j : Nat, j ≤ 16 ∧ iv = .int .i64 ((j : Int) - 1) ∧ wr.blk w.heap.size = some (.cells (ints .i64 (digs m)) 32) ∧ wr.blk (w.heap.size + 1) = some (.cells (ints .i64 (digs n)) 32) ∧ Fr [] w wr ∧ m / 65536 ^ j = n / 65536 ^ j) (fun iv _ => (intOf iv + 1).toNat)
  case atStart => exact ⟨16, by omega, rfl, h0, h1, HFV.out, by rw [Nat.div_eq_of_lt hm, Nat.div_eq_of_lt hn]⟩
  case round =>
    obtain ⟨j, hj, rfl, g0, g1, FR, htop⟩ := hrel
    have HFR := Lib.hid FR
    have HT := Lib.hid htop
    clear FR htop h0 h1
    by_cases hj0 : 1 ≤ j
    · obtain ⟨i, rfl⟩ : ∃ i, j = i + 1 := ⟨j - 1, by omega⟩
      rw [show ((i + 1 : Nat) : Int) - 1 = (i : Int) from by omega]
      have hi : i < 16 := by omega
      have dm := el_digs_lt m i hi
      have dn := el_digs_lt n i hi
      by_cases hne : el (digs m) i = el (digs n) i
      · have hq : (el (digs m) i != el (digs n) i) = false := by simp [hne]
        have htop := top_eq HT.out (by rw [el_digs _ _ hi, el_digs _ _ hi] at hne; omega)
        have HT2 := Lib.hid htop
        clear hne htop
        go_wp2
        refine drawn_head 6 (by kernel_rfl) rfl rfl (by kernel_rfl) ?_
        change rowK _ _ _ [0,1,2,3,4,5] _ _
        repeat (refine rowK_step2 rfl rfl (fun K hK => ?_); go_wp2)
        refine rowK_nil ?_
        intro K hK
        go_wp2
        go_roundw
        case rel => exact ⟨i, by omega, rfl, g0, g1, HFR.out.drew, HT2.out⟩
        case measure => simp [intOf]
      · have hq : (el (digs m) i != el (digs n) i) = true := by simp [hne]
        have hdec : decide (m < n) = decide (el (digs m) i < el (digs n) i) := by
          rw [el_digs _ _ hi, el_digs _ _ hi] at hne ⊢
          by_cases h : m / 65536 ^ i % 65536 < n / 65536 ^ i % 65536
          · have := top_lt HT.out h
            rw [decide_eq_true this, decide_eq_true (by omega)]
          · have := top_lt HT.out.symm (show n / 65536 ^ i % 65536 < m / 65536 ^ i % 65536 by omega)
            rw [decide_eq_false (by omega), decide_eq_false (by omega)]
        have HD := Lib.hid hdec
        clear hne hdec
        go_wp2
        refine drawn_head 6 (by kernel_rfl) rfl rfl (by kernel_rfl) ?_
        change rowK _ _ _ [0,1,2,3,4,5] _ _
        repeat (refine rowK_step2 rfl rfl (fun K hK => ?_); go_wp2)
        refine rowK_nil ?_
        intro K hK
        go_wp2
        refine drawn_head 6 (by kernel_rfl) rfl rfl (by kernel_rfl) ?_
        change rowK _ _ _ [0,1,2,3,4,5] _ _
        repeat (refine rowK_step2 rfl rfl (fun K hK => ?_); go_wp2)
        refine rowK_nil ?_
        intro K hK
        go_wp2
        go_ret
        rw [HD.out]
        exact ⟨rfl, HFR.out.drew.drew⟩
    · obtain rfl : j = 0 := by omega
      have hmn : m = n := by have := HT.out; rwa [Nat.pow_zero, Nat.div_one, Nat.div_one] at this
      have HMN := Lib.hid hmn
      clear hmn
      go_wp2
      go_ret
      rw [HMN.out]
      exact ⟨by simp, HFR.out⟩
end
/-! ### minus -/
def bor (m n k : Nat) : Int := if m % 65536 ^ k < n % 65536 ^ k then 1 else 0
theorem bor_zero (m n : Nat) : bor m n 0 = 0 := by simp [bor, Nat.mod_one]
theorem minus_step (m n k : Nat) (h : n ≤ m) :
    (((m - n) / 65536 ^ k % 65536 : Nat) : Int) = (if ((m / 65536 ^ k % 65536 : Nat) : Int) - ((n / 65536 ^ k % 65536 : Nat) : Int) - bor m n k < 0 then ((m / 65536 ^ k % 65536 : Nat) : Int) - ((n / 65536 ^ k % 65536 : Nat) : Int) - bor m n k + 65536 else ((m / 65536 ^ k % 65536 : Nat) : Int) - ((n / 65536 ^ k % 65536 : Nat) : Int) - bor m n k) ∧
    bor m n (k + 1) = (if ((m / 65536 ^ k % 65536 : Nat) : Int) - ((n / 65536 ^ k % 65536 : Nat) : Int) - bor m n k < 0 then 1 else 0) := by
  have hQ : 0 < 65536 ^ k := Nat.pow_pos (by omega)
  have em := Nat.mod_mul (x := m) (a := 65536 ^ k) (b := 65536)
  have en := Nat.mod_mul (x := n) (a := 65536 ^ k) (b := 65536)
  have dm := Nat.div_add_mod m (65536 ^ k)
  have dn := Nat.div_add_mod n (65536 ^ k)
  have hr := Nat.mod_lt m hQ
  have hs := Nat.mod_lt n hQ
  have hk1 : 65536 ^ (k + 1) = 65536 ^ k * 65536 := Nat.pow_succ ..
  have hle := Nat.div_le_div_right (c := 65536 ^ k) h
  have hdiv : (m - n) / 65536 ^ k = m / 65536 ^ k - n / 65536 ^ k - (if m % 65536 ^ k < n % 65536 ^ k then 1 else 0) := by
    generalize m / 65536 ^ k = a at dm hle ⊢
    generalize n / 65536 ^ k = b at dn hle ⊢
    generalize 65536 ^ k = Q at hQ dm dn hr hs hle ⊢
    generalize m % Q = r at dm hr ⊢
    generalize n % Q = t at dn hs ⊢
    have hab : Q * a = Q * b + Q * (a - b) := by rw [← Nat.mul_add, show b + (a - b) = a from by omega]
    split
    · rename_i hlt
      have hne : b < a := by
        rcases Nat.lt_or_ge b a with h' | h'
        · exact h'
        · have : a = b := by omega
          subst this; omega
      have hab2 : Q * (a - b) = Q * (a - b - 1) + Q := by rw [← Nat.mul_succ, show (a - b - 1).succ = a - b from by omega]
      rw [show m - n = Q * (a - b - 1) + (Q + r - t) from by omega, Nat.mul_add_div hQ, Nat.div_eq_of_lt (by omega)]
      omega
    · rw [show m - n = Q * (a - b) + (r - t) from by omega, Nat.mul_add_div hQ, Nat.div_eq_of_lt (by omega)]
      omega
  rw [hdiv]
  have hb1 : bor m n (k + 1) = if m % 65536 ^ k + 65536 ^ k * (m / 65536 ^ k % 65536) < n % 65536 ^ k + 65536 ^ k * (n / 65536 ^ k % 65536) then 1 else 0 := by
    unfold bor; rw [hk1, em, en]
  rw [hb1]
  unfold bor
  clear hb1 em en hk1 hdiv
  have hne : m % 65536 ^ k < n % 65536 ^ k → n / 65536 ^ k < m / 65536 ^ k := fun hlt => by
    rcases Nat.lt_or_ge (n / 65536 ^ k) (m / 65536 ^ k) with h' | h'
    · exact h'
    · have e : m / 65536 ^ k = n / 65536 ^ k := by omega
      rw [e] at dm; omega
  generalize m / 65536 ^ k = a at dm hle hne ⊢
  generalize n / 65536 ^ k = b at dn hle hne ⊢
  generalize m % 65536 ^ k = r at dm hr hne ⊢
  generalize n % 65536 ^ k = t at dn hs hne ⊢
  generalize 65536 ^ k = Q at hQ dm dn hr hs hle hne ⊢
  have hcmp : (r + Q * (a % 65536) < t + Q * (b % 65536)) ↔ (a % 65536 < b % 65536 ∨ (a % 65536 = b % 65536 ∧ r < t)) := by
    constructor
    · intro hlt
      rcases Nat.lt_or_ge (a % 65536) (b % 65536) with h' | h'
      · exact .inl h'
      · right
        rcases Nat.eq_or_lt_of_le h' with e | e
        · rw [e] at hlt; exact ⟨e.symm, by omega⟩
        · have := Nat.mul_le_mul_left Q (show b % 65536 + 1 ≤ a % 65536 from e)
          rw [Nat.mul_add, Nat.mul_one] at this
          omega
    · rintro (h' | ⟨e, h'⟩)
      · have := Nat.mul_le_mul_left Q (show a % 65536 + 1 ≤ b % 65536 from h')
        rw [Nat.mul_add, Nat.mul_one] at this
        omega
      · rw [e]; omega
  by_cases hrt : r < t
  · have := hne hrt
    simp only [hrt, ↓reduceIte, and_true] at hcmp ⊢
    constructor
    · split <;> omega
    · by_cases hc : r + Q * (a % 65536) < t + Q * (b % 65536)
      · rw [if_pos hc, if_pos (by have := hcmp.1 hc; omega)]
      · rw [if_neg hc, if_neg (by have := fun h => hc (hcmp.2 h); omega)]
  · simp only [hrt, ↓reduceIte, and_false, or_false] at hcmp ⊢
    constructor
    · split <;> omega
    · by_cases hc : r + Q * (a % 65536) < t + Q * (b % 65536)
      · rw [if_pos hc, if_pos (by have := hcmp.1 hc; omega)]
      · rw [if_neg hc, if_neg (by have := fun h => hc (hcmp.2 h); omega)]
theorem bor_01 (m n k : Nat) : 0 ≤ bor m n k ∧ bor m n k ≤ 1 := by unfold bor; split <;> omega
/-- The first digits of a difference, and what waits. -/
abbrev minD (m n k : Nat) : List Int := upd (fun i => (((m - n) / 65536 ^ i % 65536 : Nat) : Int)) (digs m) k
section
variable {w : World}
set_option maxRecDepth 100000 in
theorem minus_any (m n : Nat) (hn : n ≤ m) : Calls Try.prog 69 #[nm m, nm n] w fun e w' => e = .returned (nm (m - n)) ∧ Fr [] w w' := by
  have lm := length_digs m
  have ln := length_digs n
  unfold nm
  go_enter Try.func69, Try.ntmps69
  go_wp2
  obtain ⟨V, hV⟩ : ∃ V, V = ((w.alloc (.cells (ints .i64 (digs m)) 32)).alloc (.cells (ints .i64 (digs n)) 32)).alloc (.cells (ints .i64 (zs 16)) 32) := ⟨_, rfl⟩
  refine Eq.mp (congrArg (fun X => Code.wp _ _ _ _ X) hV) ?_
  have h0 : V.blk w.heap.size = some (.cells (ints .i64 (digs m)) 32) := by rw [hV]; go_simp
  have h1 : V.blk (w.heap.size + 1) = some (.cells (ints .i64 (digs n)) 32) := by rw [hV]; go_simp
  have h2 : V.blk (w.heap.size + 2) = some (.cells (ints .i64 (zs 16)) 32) := by rw [hV]; go_simp
  have HFV := Lib.hid (show Fr [] w V by rw [hV]; exact (((Fr.refl _ _).alloc _).alloc _).alloc _)
  clear hV
  go_loopw [5, 6] (fun bv iv wr => ∃ k : Nat, k ≤ 16 ∧ iv = .int .i64 k ∧ bv = .int .i64 (bor m n k) ∧ Fr [w.heap.size] V wr ∧ wr.blk w.heap.size = some (.cells (ints .i64 (minD m n k)) 32)) (fun _ iv _ => 16 - (intOf iv).toNat)
  case atStart => exact ⟨0, by omega, rfl, by rw [bor_zero], Fr.refl _ _, by unfold minD; rw [upd_zero]; exact h0⟩
  case round =>
    obtain ⟨k, hk, rfl, rfl, FR, hc⟩ := hrel
    have k1 := FR.get h1 (by simp)
    have k2 := FR.get h2 (by simp)
    have hcl := World.at_lt hc
    have k1l := World.at_lt k1
    have k2l := World.at_lt k2
    have HFR := Lib.hid FR
    clear FR h0 h1 h2
    have hlu : (minD m n k).length = 16 := by unfold minD; rw [length_upd _ _ _ (by omega)]; exact lm
    by_cases hlt : k < 16
    · have hset : ∀ x, (((m - n) / 65536 ^ k % 65536 : Nat) : Int) = x → (minD m n k).set k x = minD m n (k + 1) := fun x hx => by
        unfold minD; rw [← hx]; exact set_upd (fun i => (((m - n) / 65536 ^ i % 65536 : Nat) : Int)) (digs m) k (by omega)
      have hel : el (minD m n k) k = el (digs m) k := by unfold minD; rw [el_upd, if_neg (by omega)]
      obtain ⟨s1, s2⟩ := minus_step m n k hn
      rw [← el_digs m k hlt, ← el_digs n k hlt] at s1 s2
      have dm := el_digs_lt m k hlt
      have dn := el_digs_lt n k hlt
      have hb := bor_01 m n k
      by_cases hneg : el (digs m) k - el (digs n) k - bor m n k < 0
      · rw [if_pos hneg] at s1 s2
        have hset' := hset _ s1
        have hd1 : decide (el (digs m) k - el (digs n) k - bor m n k < 0) = true := decide_eq_true hneg
        have S2 := Lib.hid s2
        clear s1 s2 hset
        go_wp2
        refine drawn_head 9 (by kernel_rfl) rfl rfl (by kernel_rfl) ?_
        change rowK _ _ _ [0,1,2,3,4,5,6,7,8] _ _
        repeat (refine rowK_step2 rfl rfl (fun K hK => ?_); go_wp2)
        refine rowK_nil ?_
        intro K hK
        go_wp2
        go_roundw
        case rel => exact ⟨k + 1, by omega, by go_num, by rw [S2.out], HFR.out.drew.put _ _ (by simp), World.at_put_same _ _ _ hcl⟩
        case measure => simp [intOf]; omega
      · rw [if_neg hneg] at s1 s2
        have hset' := hset _ s1
        have hd1 : decide (el (digs m) k - el (digs n) k - bor m n k < 0) = false := decide_eq_false hneg
        have S2 := Lib.hid s2
        clear s1 s2 hset
        go_wp2
        refine drawn_head 9 (by kernel_rfl) rfl rfl (by kernel_rfl) ?_
        change rowK _ _ _ [0,1,2,3,4,5,6,7,8] _ _
        repeat (refine rowK_step2 rfl rfl (fun K hK => ?_); go_wp2)
        refine rowK_nil ?_
        intro K hK
        go_wp2
        go_roundw
        case rel => exact ⟨k + 1, by omega, by go_num, by rw [S2.out], HFR.out.drew.put _ _ (by simp), World.at_put_same _ _ _ hcl⟩
        case measure => simp [intOf]; omega
    · obtain rfl : k = 16 := by omega
      have hfull : minD m n 16 = digs (m - n) := upd_full _ _ _ lm
      rw [hfull] at hc hlu
      have HFX := Lib.hid (HFV.out.seq HFR.out (by simp))
      clear hfull
      go_wp2
      refine ret_cell rfl rfl rfl ?_
      go_simp
      exact HFX.out.put _ _ (by omega)
end
end Go.Proofs.Ytakhmmnklkckpaa
namespace Go.Proofs.Ytakhmmnklkckpaa
open Go.RowKit Go.Dr

/-- The sum of the first digits. -/
def pre (l : List Int) : Nat → Int
  | 0 => 0
  | i + 1 => pre l i + el l i * 65536 ^ i
theorem B_pos (i : Nat) : (0 : Int) < 65536 ^ i := Int.pow_pos (by decide)
theorem pre_nonneg {l : List Int} (h : ∀ i, 0 ≤ el l i) : ∀ k, 0 ≤ pre l k
  | 0 => Int.le_refl 0
  | k + 1 => by
    have := pre_nonneg h k
    have := Int.mul_nonneg (h k) (Int.le_of_lt (B_pos k))
    unfold pre; omega
theorem pre_congr {l m : List Int} : ∀ k, (∀ i, i < k → el l i = el m i) → pre l k = pre m k
  | 0, _ => rfl
  | k + 1, h => by rw [pre, pre, pre_congr k (fun i hi => h i (by omega)), h k (by omega)]
theorem el_out (l : List Int) (i : Nat) (h : l.length ≤ i) : el l i = 0 := by simp [el, h]
theorem pre_out (l : List Int) (k : Nat) (h : l.length ≤ k) : pre l k = pre l l.length := by
  obtain ⟨d, rfl⟩ : ∃ d, k = l.length + d := ⟨k - l.length, by omega⟩
  induction d with
  | zero => rfl
  | succ d ih =>
    rw [show l.length + (d + 1) = l.length + d + 1 from rfl, pre, ih (by omega), el_out l _ (by omega), Int.zero_mul, Int.add_zero]
theorem pre_set (l : List Int) (j : Nat) (hj : j < l.length) (x : Int) : ∀ k, pre (l.set j (el l j + x)) k = pre l k + if j < k then x * 65536 ^ j else 0
  | 0 => by simp [pre]
  | k + 1 => by
    rw [pre, pre_set l j hj x k, el_set _ _ _ _ hj, pre]
    by_cases h1 : j = k
    · subst h1
      rw [if_pos rfl, if_neg (by omega), if_pos (by omega), Int.add_mul]; omega
    · rw [if_neg h1]
      by_cases h2 : j < k
      · rw [if_pos h2, if_pos (by omega)]; omega
      · rw [if_neg h2, if_neg (by omega)]; omega
/-- The digit that comes out at j. -/
def dg (l : List Int) (j : Nat) : Int := pre l (j + 1) / 65536 ^ j % 65536
theorem carry_add (l : List Int) (i : Nat) : pre l i / 65536 ^ i + el l i = pre l (i + 1) / 65536 ^ i := by
  rw [pre, Int.add_mul_ediv_right _ _ (by have := B_pos i; omega)]
theorem carry_next (l : List Int) (i : Nat) : pre l (i + 1) / 65536 ^ i / 65536 = pre l (i + 1) / 65536 ^ (i + 1) := by
  rw [Int.ediv_ediv_of_nonneg (Int.le_of_lt (B_pos i)), Int.pow_succ]
theorem carry_lt {l : List Int} (h : ∀ i, 0 ≤ el l i ∧ el l i ≤ 1099511627776) : ∀ i, 0 ≤ pre l i / 65536 ^ i ∧ pre l i / 65536 ^ i ≤ 1099511627776
  | 0 => by simp [pre]
  | i + 1 => by
    have ih := carry_lt h i
    have h1 := carry_add l i
    have h2 := carry_next l i
    have := h i
    omega
theorem pre_more (l : List Int) (i : Nat) : ∀ d, ∃ y : Int, pre l (i + d) = pre l i + 65536 ^ i * y
  | 0 => ⟨0, by simp⟩
  | d + 1 => by
    obtain ⟨y, hy⟩ := pre_more l i d
    refine ⟨y + el l (i + d) * 65536 ^ d, ?_⟩
    rw [show i + (d + 1) = i + d + 1 from rfl, pre, hy, Int.pow_add]
    grind
theorem dg_all (l : List Int) (j m : Nat) (h : j < m) : dg l j = pre l m / 65536 ^ j % 65536 := by
  obtain ⟨d, rfl⟩ : ∃ d, m = j + 1 + d := ⟨m - (j + 1), by omega⟩
  obtain ⟨y, hy⟩ := pre_more l (j + 1) d
  rw [dg, hy, Int.pow_succ, Int.mul_assoc, Int.add_mul_ediv_left _ _ (by have := B_pos j; omega), Int.add_mul_emod_self_left]
/-- So many digits of a number. -/
def digN (V : Nat) (m : Nat) : List Int := (List.range m).map fun j => ((V / 65536 ^ j % 65536 : Nat) : Int)
theorem length_digN (V m : Nat) : (digN V m).length = m := by simp [digN]
theorem el_digN (V m j : Nat) : el (digN V m) j = if j < m then ((V / 65536 ^ j % 65536 : Nat) : Int) else 0 := by
  split
  · rw [digN, el_map_range _ _ _ (by assumption)]
  · exact el_out _ _ (by rw [length_digN]; omega)
theorem digN_succ (V m : Nat) : digN V m ++ [((V / 65536 ^ m % 65536 : Nat) : Int)] = digN V (m + 1) := by simp [digN, List.range_succ]
theorem el_digN_lt (V m j : Nat) : 0 ≤ el (digN V m) j ∧ el (digN V m) j < 65536 := by rw [el_digN]; split <;> omega
theorem pre_digN (V m : Nat) : ∀ k, k ≤ m → pre (digN V m) k = ((V % 65536 ^ k : Nat) : Int)
  | 0, _ => by simp [pre, Nat.mod_one]
  | k + 1, h => by
    rw [pre, pre_digN V m k (by omega), el_digN, if_pos (by omega), Nat.pow_succ, Nat.mod_mul, Int.natCast_add, Int.natCast_mul, Int.natCast_pow]
    grind
/-- What comes out is the number's digits. -/
theorem dg_digN {l : List Int} (h : ∀ i, 0 ≤ el l i) (m : Nat) : (List.range m).map (dg l) = digN (pre l m).toNat m := by
  refine List.map_congr_left fun j hj => ?_
  have hj' := List.mem_range.1 hj
  rw [dg_all l j m hj', Int.natCast_emod, Int.natCast_ediv, Int.natCast_pow, Int.toNat_of_nonneg (pre_nonneg h m)]
  rfl
/-- Digits from 16 on count 38 times. -/
def eF (l : List Int) (k j : Nat) : Int := (if j < k then el l j else 0) + (if j + 16 < k then 38 * el l (j + 16) else 0)
theorem eF_lo (l : List Int) (k : Nat) (h : k < 16) : (List.range 16).map (eF l (k + 1)) = ((List.range 16).map (eF l k)).set k (el ((List.range 16).map (eF l k)) k + el l k) := by
  apply el_ext
  · simp
  · intro j hj
    have hj' : j < 16 := by simpa using hj
    rw [el_set _ _ _ _ (by simp; omega), el_map_range _ _ _ hj', el_map_range _ _ _ h, el_map_range _ _ _ hj']
    unfold eF
    by_cases hjk : k = j
    · subst hjk
      rw [if_pos rfl, if_pos (by omega), if_neg (by omega), if_neg (by omega), if_neg (by omega)]; omega
    · rw [if_neg hjk]
      congr 1
      · by_cases h2 : j < k
        · rw [if_pos h2, if_pos (by omega)]
        · rw [if_neg h2, if_neg (by omega)]
      · rw [if_neg (by omega), if_neg (by omega)]
theorem eF_hi (l : List Int) (k : Nat) (h1 : 16 ≤ k) (h2 : k < 32) : (List.range 16).map (eF l (k + 1)) = ((List.range 16).map (eF l k)).set (k - 16) (el ((List.range 16).map (eF l k)) (k - 16) + 38 * el l k) := by
  apply el_ext
  · simp
  · intro j hj
    have hj' : j < 16 := by simpa using hj
    rw [el_set _ _ _ _ (by simp; omega), el_map_range _ _ _ hj', el_map_range _ _ _ (by omega), el_map_range _ _ _ hj']
    unfold eF
    by_cases hjk : k - 16 = j
    · subst hjk
      rw [if_pos rfl, if_pos (by omega), if_pos (by omega), if_pos (by omega), if_neg (by omega), show k - 16 + 16 = k from by omega]; omega
    · rw [if_neg hjk, if_pos (show j < k + 1 by omega), if_pos (show j < k by omega)]
      congr 1
      by_cases h3 : j + 16 < k
      · rw [if_pos h3, if_pos (show j + 16 < k + 1 by omega)]
      · rw [if_neg h3, if_neg (show ¬ j + 16 < k + 1 by omega)]
/-- The folded row: its bounds, its sum. -/
theorem eF_end (V m : Nat) (hm1 : 16 < m) (hm2 : m ≤ 32) (hV : V < 65536 ^ m) :
    (∀ i, 0 ≤ el ((List.range 16).map (eF (digN V m) m)) i ∧ el ((List.range 16).map (eF (digN V m) m)) i ≤ 1099511627776) ∧
    pre ((List.range 16).map (eF (digN V m) m)) 16 = ((V % 65536 ^ 16 + 38 * (V / 65536 ^ 16) : Nat) : Int) := by
  constructor
  · intro i
    by_cases hi : i < 16
    · rw [el_map_range _ _ _ hi, eF]
      have h1 := el_digN_lt V m i
      have h2 := el_digN_lt V m (i + 16)
      split <;> split <;> omega
    · rw [el_out _ _ (by simp; omega)]; omega
  · have key : ∀ k, k ≤ 16 → pre ((List.range 16).map (eF (digN V m) m)) k = ((V % 65536 ^ k + 38 * (V / 65536 ^ 16 % 65536 ^ k) : Nat) : Int) := by
      intro k
      induction k with
      | zero => intro _; simp [pre, Nat.mod_one]
      | succ k ih =>
        intro hk
        rw [pre, ih (by omega), el_map_range _ _ _ (by omega), eF, if_pos (by omega), el_digN, if_pos (by omega), el_digN]
        have e1 := Nat.mod_mul (x := V) (a := 65536 ^ k) (b := 65536)
        have e2 := Nat.mod_mul (x := V / 65536 ^ 16) (a := 65536 ^ k) (b := 65536)
        have e0 : 65536 ^ (k + 1) = 65536 ^ k * 65536 := Nat.pow_succ ..
        rw [e0, e1, e2]
        have e3 : V / 65536 ^ 16 / 65536 ^ k = V / 65536 ^ (k + 16) := by rw [Nat.div_div_eq_div_mul, ← Nat.pow_add, Nat.add_comm]
        rw [e3]
        by_cases hkm : k + 16 < m
        · rw [if_pos hkm, if_pos hkm]
          simp only [Int.natCast_add, Int.natCast_mul, Int.natCast_pow]
          grind
        · have hz : V / 65536 ^ (k + 16) = 0 := Nat.div_eq_of_lt (Nat.lt_of_lt_of_le hV (Nat.pow_le_pow_right (by omega) (by omega)))
          rw [if_neg hkm, hz]
          simp only [Int.natCast_add, Int.natCast_mul, Int.natCast_pow, Nat.zero_mod]
          grind
    rw [key 16 (by omega)]
    have : V / 65536 ^ 16 < 65536 ^ 16 := by
      rw [Nat.div_lt_iff_lt_mul (Nat.pow_pos (by omega)), ← Nat.pow_add]
      exact Nat.lt_of_lt_of_le hV (Nat.pow_le_pow_right (by omega) (by omega))
    rw [Nat.mod_eq_of_lt this]
/-- Modulo p nothing has turned. -/
theorem fold_mod (V : Nat) : (V % 65536 ^ 16 + 38 * (V / 65536 ^ 16)) % pN = V % pN := by
  have h := Nat.div_add_mod V (65536 ^ 16)
  have e : V = V % 65536 ^ 16 + 38 * (V / 65536 ^ 16) + pN * (2 * (V / 65536 ^ 16)) := by
    rw [show (65536 ^ 16 : Nat) = 115792089237316195423570985008687907853269984665640564039457584007913129639936 from by decide] at h ⊢
    unfold pN
    omega
  conv => rhs; rw [e]
  rw [Nat.add_mul_mod_self_left]
theorem digs_digN (V : Nat) : digs V = digN V 16 := rfl
end Go.Proofs.Ytakhmmnklkckpaa
namespace Go.Proofs.Ytakhmmnklkckpaa
open Go.RowKit Go.Dr

theorem E76 : ElemT Try.prog 76 3 1 8 (ints .i64 (zs 1)) := ⟨Try.underlying76, by kernel_rfl, by rw [size_ints, length_zs]⟩
@[go_sem] theorem mk76 (w : World) (kl kc : IntKind) (l c : Int) (h0 : 0 ≤ l) (hlc : l ≤ c) (hc : c ≤ 1099511627776) :
    (Instr.makeSlice 76 (.int kl l) (.int kc c)).run Try.prog w = .ok (.slice (some ⟨w.heap.size, 0, none⟩) l.toNat c.toNat) (w.alloc (.cells (ints .i64 (zs c.toNat)) 3)) := by
  rw [E76.make w kl kc l c h0 hlc (by omega) (by omega), madeCells_ints _ _ _ (by omega), Nat.mul_one]
@[go_sem] theorem one76 (w : World) (x : Int) : (buildOneK 76 #[(0, .int .i64 x)]).run Try.prog w = .ok (.slice (some ⟨w.heap.size, 0, none⟩) 1 1) (w.alloc (.cells #[.int .i64 x] 3)) :=
  E76.buildOne (by omega) (by omega) w (.int .i64 x) rfl
@[go_sem] theorem spl_rowR (k : IntKind) (l : List Int) (r : Array Value) (i : Nat) (x : Int) (h : i < l.length) : spl (rowR k l r) i [.int k x] = rowR k (l.set i x) r := by
  rw [spl_one _ _ _ (by rw [size_rowR]; omega), set_rowR _ _ _ _ _ h]
/-- The value of a row of cells. -/
def cellsV (cs : Array Value) : Nat → Int
  | 0 => 0
  | i + 1 => cellsV cs i + intOf (cs.getD i undef) * 65536 ^ i
theorem cellsV_row (l : List Int) (r : Array Value) : ∀ n, n ≤ l.length → cellsV (rowR .i64 l r) n = pre l n
  | 0, _ => rfl
  | n + 1, h => by
    rw [cellsV, pre, cellsV_row l r n (by omega)]
    have := getElem?_rowR .i64 l r n (by omega)
    rw [Array.getD_eq_getD_getElem?, this]
    rfl
/-- What the great loop counts down. -/
def msr (v : Value) (w : World) : Nat :=
  match v with
  | .slice (some a) n _ => match w.blk a.block with
    | some (.cells cs _ _) => 64 * (cellsV cs n).toNat + n
    | _ => 0
  | _ => 0
theorem msr_row {w : World} {b : Nat} {l : List Int} {r : Array Value} {T : TypeId} {fr : Nat × Nat} (h : w.blk b = some (.cells (rowR .i64 l r) T fr)) (cap : Nat) :
    msr (.slice (some ⟨b, 0, none⟩) l.length cap) w = 64 * (pre l l.length).toNat + l.length := by
  simp only [msr, h, cellsV_row l r _ (Nat.le_refl _)]
theorem el_zs (n j : Nat) : el (zs n) j = 0 := by
  unfold el zs
  rw [List.getD_eq_getElem?_getD, List.getElem?_replicate]
  split <;> rfl
theorem copy_digs (X m : Nat) (hm : m ≤ 16) (hX : X < 65536 ^ m) : upd (el (digN X m)) (zs 16) m = digs X := by
  apply el_ext
  · rw [length_upd _ _ _ (by rw [length_zs]; omega), length_zs, length_digs]
  · intro j hj
    rw [length_upd _ _ _ (by rw [length_zs]; omega), length_zs] at hj
    rw [el_upd, el_digs _ _ hj, el_digN]
    by_cases h : j < m
    · rw [if_pos h, if_pos h]
    · rw [if_neg h, Nat.div_eq_of_lt (Nat.lt_of_lt_of_le hX (Nat.pow_le_pow_right (by omega) (by omega)))]
      rw [el_zs]; rfl
/-- What the last loop counts down. -/
def mA (b : Nat) (w : World) : Nat :=
  match w.blk b with
  | some (.cells cs _ _) => (cellsV cs 16).toNat
  | _ => 0
theorem mA_digs {w : World} {b v : Nat} {T : TypeId} {fr : Nat × Nat} (h : w.blk b = some (.cells (ints .i64 (digs v)) T fr)) (hv : v < 65536 ^ 16) : mA b w = v := by
  have h' := h
  rw [← rowR_nil] at h'
  simp only [mA, h']
  rw [cellsV_row _ _ 16 (by rw [length_digs]; omega), digs_digN, pre_digN _ _ _ (Nat.le_refl _), Nat.mod_eq_of_lt hv, Int.toNat_natCast]
section
variable {w : World}
set_option maxRecDepth 100000 in
set_option maxHeartbeats 4000000 in
theorem fold_walk (b0 : Nat) (l0 : List Int) (r0 : Array Value) (hb : w.blk b0 = some (.cells (rowR .i64 l0 r0) 3)) (hr : l0.length + r0.size ≤ maxLen) (h1 : 1 ≤ l0.length) (h32 : l0.length ≤ 32)
    (hd : ∀ i, 0 ≤ el l0 i ∧ el l0 i ≤ 1099511627776) (hV : pre l0 l0.length < 65536 ^ 32) :
    Calls Try.prog 68 #[.slice (some ⟨b0, 0, none⟩) l0.length (l0.length + r0.size)] w fun e w' => e = .returned (nm ((pre l0 l0.length).toNat % pN)) ∧ Fr [b0] w w' := by
  have hbl := World.at_lt hb
  go_enter Try.func68, Try.ntmps68
  go_wp2
  obtain ⟨V, hVe⟩ : ∃ V, V = (w.alloc (.cells (ints .i64 (zs 16)) 32)).alloc (.cells (ints .i64 (zs 16)) 32) := ⟨_, rfl⟩
  refine Eq.mp (congrArg (fun X => Code.wp _ _ _ _ X) hVe) ?_
  have h0 : V.blk w.heap.size = some (.cells (ints .i64 (zs 16)) 32) := by rw [hVe]; go_simp
  have h1' : V.blk (w.heap.size + 1) = some (.cells (ints .i64 (zs 16)) 32) := by rw [hVe]; go_simp
  have hb' : V.blk b0 = some (.cells (rowR .i64 l0 r0) 3) := by rw [hVe]; go_simp
  have HFV := Lib.hid (show Fr [b0] w V by rw [hVe]; exact ((Fr.refl _ _).alloc _).alloc _)
  clear hVe
  go_loopw [0] (fun dv wr => ∃ (b : Nat) (l : List Int) (r : Array Value), dv = .slice (some ⟨b, 0, none⟩) l.length (l.length + r.size) ∧ wr.blk b = some (.cells (rowR .i64 l r) 3) ∧ l.length + r.size ≤ maxLen ∧ 1 ≤ l.length ∧ l.length ≤ 32 ∧
    Hid (∀ i, 0 ≤ el l i ∧ el l i ≤ 1099511627776) ∧ Hid (pre l l.length < 65536 ^ 32) ∧ Hid ((pre l l.length).toNat % pN = (pre l0 l0.length).toNat % pN) ∧
    wr.blk w.heap.size = some (.cells (ints .i64 (zs 16)) 32) ∧ wr.blk (w.heap.size + 1) = some (.cells (ints .i64 (zs 16)) 32) ∧ b ≠ w.heap.size ∧ b ≠ w.heap.size + 1 ∧ Hid (b = b0 ∨ w.heap.size ≤ b) ∧ Hid (Fr [b0] w wr)) (fun dv wr => msr dv wr)
  case atStart => exact ⟨b0, l0, r0, rfl, hb', hr, h1, h32, hd, hV, rfl, h0, h1', by omega, by omega, .inl rfl, HFV.out⟩
  case round =>
    obtain ⟨b, l, r, rfl, hbw, hcap, hl1, hl32, hD, hVl, hmod, g0, g1, n0, n1, hbo, hFw⟩ := hrel
    have n0' : w.heap.size ≠ b := fun e => n0 e.symm
    have n1' : w.heap.size + 1 ≠ b := fun e => n1 e.symm
    have hbwl := World.at_lt hbw
    clear h0 h1' hb' hb hbl h1 h32 hd hV hr
    go_wp2
    go_loopw [4, 5] (fun cv iv wv => ∃ i : Nat, i ≤ l.length ∧ iv = .int .i64 i ∧ cv = .int .i64 (pre l i / 65536 ^ i) ∧ Hid (Fr [b] wr wv) ∧ wv.blk b = some (.cells (rowR .i64 (upd (dg l) l i) r) 3)) (fun _ iv _ => l.length - (intOf iv).toNat)
    case atStart => exact ⟨0, Nat.zero_le _, rfl, rfl, Fr.refl _ _, by rw [upd_zero]; exact hbw⟩
    case round =>
      obtain ⟨i, hi, rfl, rfl, hFv, hbv⟩ := hrel
      have hbvl := World.at_lt hbv
      have hlu := length_upd (dg l) l i hi
      have hct := carry_lt hD.out i
      have hca := carry_add l i
      by_cases hlt : i < l.length
      · have hdi := hD.out i
        have hcn := carry_next l i
        have hel : el (upd (dg l) l i) i = el l i := by rw [el_upd, if_neg (by omega)]
        have hset : (upd (dg l) l i).set i (pre l (i + 1) / 65536 ^ i % 65536) = upd (dg l) l (i + 1) := set_upd (dg l) l i hlt
        have hnn : 0 ≤ pre l (i + 1) / 65536 ^ i := by omega
        clear hbwl
        have HBW := Lib.hid hbw
        clear hbw
        go_wp2
        go_roundw
        case rel => exact ⟨i + 1, by omega, by go_num, by rw [hcn], (hFv.out.put _ _ (by simp)), World.at_put_same _ _ _ hbvl⟩
        case measure => simp [intOf]; omega
      · obtain rfl : i = l.length := by omega
        have hfull : upd (dg l) l l.length = digN (pre l l.length).toNat l.length := by
          rw [upd_full _ _ _ rfl]; exact dg_digN (fun i => (hD.out i).1) l.length
        obtain ⟨X, hX⟩ : ∃ X, X = (pre l l.length).toNat := ⟨_, rfl⟩
        have hXi : pre l l.length = (X : Int) := by rw [hX, Int.toNat_of_nonneg (pre_nonneg (fun i => (hD.out i).1) _)]
        have hcx : pre l l.length / 65536 ^ l.length = ((X / 65536 ^ l.length : Nat) : Int) := by rw [hXi, Int.natCast_ediv, Int.natCast_pow]; rfl
        rw [hfull, ← hX] at hbv
        rw [hcx]
        have hX32 : X < 65536 ^ 32 := by have := hVl.out; rw [hXi] at this; exact Int.ofNat_lt.1 (by rw [Int.natCast_pow]; exact this)
        have HX32 := Lib.hid hX32
        have HCB : Hid (X / 65536 ^ l.length ≤ 1099511627776) := by have h := hct.2; rw [hcx] at h; exact Int.ofNat_le.1 h
        have hmod' : Hid (X % pN = (pre l0 l0.length).toNat % pN) := by have := hmod.out; rw [← hX] at this; exact this
        have v0 := hFv.out.get g0 (fun h => n0' (List.mem_singleton.1 h))
        have v1 := hFv.out.get g1 (fun h => n1' (List.mem_singleton.1 h))
        have HFb := Lib.hid (hFw.out.seq hFv.out (fun k hk hlt => by simp at hk; subst hk; rcases hbo.out with e | e; simp [e]; omega))
        have hmsr := msr_row hbw (l.length + r.size)
        rw [← hX] at hmsr
        have HM := Lib.hid hmsr
        have hcap' : Hid (l.length + r.size ≤ maxLen) := hcap
        have hdl := length_digN X l.length
        have hbo' := hbo
        clear hfull hct hca hlu hcx hmod hX32 g0 g1 hmsr hbw hbwl hFv hX hXi hVl
        go_wp2
        go_loopw [0, 4] (fun dv cv wv => ∃ (b' m : Nat) (r' : Array Value), dv = .slice (some ⟨b', 0, none⟩) m (m + r'.size) ∧ cv = .int .i64 ((X / 65536 ^ m : Nat) : Int) ∧ wv.blk b' = some (.cells (rowR .i64 (digN X m) r') 3) ∧ m + r'.size ≤ maxLen ∧
          l.length ≤ m ∧ m ≤ 32 ∧ Hid (X / 65536 ^ m ≤ 1099511627776) ∧ Hid (m = l.length ∨ 65536 ^ (m - 1) ≤ X) ∧ wv.blk w.heap.size = some (.cells (ints .i64 (zs 16)) 32) ∧ wv.blk (w.heap.size + 1) = some (.cells (ints .i64 (zs 16)) 32) ∧ b' ≠ w.heap.size ∧ b' ≠ w.heap.size + 1 ∧ Hid (b' = b0 ∨ w.heap.size ≤ b') ∧ Hid (Fr [b0] w wv)) (fun _ cv _ => (intOf cv).toNat)
        case atStart => exact ⟨b, l.length, r, rfl, rfl, hbv, hcap'.out, Nat.le_refl _, hl32, HCB, .inl rfl, v0, v1, n0, n1, hbo, HFb.out⟩
        case round =>
          obtain ⟨b', m, r', rfl, rfl, hbv', hcm, hlm, hm32, hcb, hml, y0, y1, q0, q1, hbo2, hFy⟩ := hrel
          have hyl := World.at_lt hbv'
          clear hbv v0 v1 hbvl HFb
          have hdm := length_digN X m
          by_cases hz : X / 65536 ^ m = 0
          · have hXm : X < 65536 ^ m := by
              rcases Nat.lt_or_ge X (65536 ^ m) with h | h
              · exact h
              · have := Nat.div_pos h (Nat.pow_pos (by omega)); omega
            rw [hz]
            have HXM := Lib.hid hXm
            clear hz hXm
            by_cases h16 : m ≤ 16
            · rw [show ((0 : Nat) : Int) = 0 from rfl]
              have HXP := Lib.hid (show X < 65536 ^ 16 from Nat.lt_of_lt_of_le HXM.out (Nat.pow_le_pow_right (by omega) h16))
              go_wp2
              rw [show decide ((m : Int) ≤ 16) = true from by simp; omega]
              have q1' : w.heap.size + 1 ≠ b' := fun e => q1 e.symm
              clear q0 n0 n1 n0' n1'
              go_loopw [8] (fun iv wv => ∃ k : Nat, k ≤ m ∧ iv = .int .i64 k ∧ Hid (Fr [w.heap.size + 1] wr wv) ∧ wv.blk (w.heap.size + 1) = some (.cells (ints .i64 (upd (el (digN X m)) (zs 16) k)) 32) ∧ wv.blk b' = some (.cells (rowR .i64 (digN X m) r') 3)) (fun iv _ => m - (intOf iv).toNat)
              case atStart => exact ⟨0, by omega, rfl, Fr.refl _ _, by rw [upd_zero]; exact y1, hbv'⟩
              case round =>
                obtain ⟨k, hk, rfl, hFk, hck, hdk⟩ := hrel
                have hckl := World.at_lt hck
                have hlu := length_upd (el (digN X m)) (zs 16) k (by rw [length_zs]; omega)
                rw [length_zs] at hlu
                by_cases hlt : k < m
                · have hset : (upd (el (digN X m)) (zs 16) k).set k (el (digN X m) k) = upd (el (digN X m)) (zs 16) (k + 1) := set_upd _ _ _ (by rw [length_zs]; omega)
                  have hk16 : k < 16 := by omega
                  clear y1 hbv' hyl
                  go_wp2
                  go_roundw
                  case rel => exact ⟨k + 1, by omega, by go_num, hFk.out.put _ _ (by simp), World.at_put_same _ _ _ hckl, by rw [World.at_put_other _ _ _ _ q1']; exact hdk⟩
                  case measure => simp [intOf]; omega
                · obtain rfl : k = m := by omega
                  rw [copy_digs X k h16 HXM.out] at hck hlu
                  have z0 := hFk.out.get y0 (fun h => by simp at h)
                  have HFz := Lib.hid (hFy.out.seq hFk.out (fun k hk hlt => by rw [List.mem_singleton.1 hk] at hlt; omega))
                  clear hbv' y0 y1 hyl hdk hckl hFk
                  rename_i wz
                  go_wp2
                  have hpre : Hid (X % pN = (pre l0 l0.length).toNat % pN) := hmod'
                  clear hmod' HM HCB hcap' hdl hbo' hml hcb HX32 hD hFw hbo hcap hl1 hl32
                  go_loopw [] (fun wv => ∃ v : Nat, Hid (v < 65536 ^ 16) ∧ Hid (v % pN = X % pN) ∧ wv.blk (w.heap.size + 1) = some (.cells (ints .i64 (digs v)) 32) ∧ wv.blk w.heap.size = some (.cells (ints .i64 (zs 16)) 32) ∧ Hid (Fr [b0] w wv)) (fun wv => mA (w.heap.size + 1) wv)
                  case atStart => exact ⟨X, HXP, rfl, hck, z0, HFz.out⟩
                  case round =>
                    obtain ⟨v, hv16, hvm, hv1, hv0, hFv⟩ := hrel
                    have hv1l := World.at_lt hv1
                    have hdv := length_digs v
                    have HMA := Lib.hid (mA_digs hv1 hv16.out)
                    clear hck z0 HFz
                    have hs : Has [(w.heap.size + 1, .cells (ints .i64 (digs v)) 32), (w.heap.size, .cells (ints .i64 (zs 16)) 32)] wr := .cons hv1 (.cons hv0 (.nil _))
                    obtain ⟨L, hL⟩ : ∃ L : List (Nat × Obj), L = [(w.heap.size + 1, .cells (ints .i64 (digs v)) 32), (w.heap.size, .cells (ints .i64 (zs 16)) 32)] := ⟨_, rfl⟩
                    rw [← hL] at hs
                    have HL := Lib.hid hL
                    clear hL
                    go_wp2
                    go_cut [92] (fun bv wc => bv = .bool (!decide (v < pN)) ∧ Has L wc ∧ Hid (Fr [b0] w wc))
                    case first =>
                      refine drawn_begin 4 (Has L) (by kernel_rfl) ?_
                      refine drawn_reads (fuel := 3) [0] rfl (by kernel_rfl) hs.drew ?_
                      repeat (refine rowK_step2 rfl rfl (fun K hK => ?_); go_wp2)
                      refine rowK_nil ⟨fun w' hw' => ?_, ?_⟩
                      · rw [HL.out] at hw'
                        have e1 := hw'.nth 0 rfl
                        repeat (refine rowWp_step2 rfl rfl (fun K hK => ?_); go_wp2)
                        exact rowWp_nil rfl
                      refine drawn_next 1 (fuel := 2) rfl (by kernel_rfl) ?_
                      intro K hK
                      go_wp2_with fail
                      refine prime_any.mono ?_
                      rintro e wa ⟨rfl, FA⟩
                      have sA := hs.drew.fr0 FA
                      simp only []
                      go_wp2
                      refine ⟨sA, ?_⟩
                      refine drawn_next 2 (fuel := 1) rfl (by kernel_rfl) ?_
                      intro K hK
                      go_wp2_with fail
                      refine (less_any v pN hv16.out (by decide)).mono ?_
                      rintro e wb ⟨rfl, FB⟩
                      have sB := sA.fr0 FB
                      have HFB := Lib.hid (((hFv.out.drew.trans (FA.mono (fun _ h => by cases h))).trans (FB.mono (fun _ h => by cases h))))
                      clear FA FB
                      simp only []
                      go_wp2
                      refine ⟨sB, ?_⟩
                      refine drawn_reads (fuel := 0) [3] rfl (by kernel_rfl) sB ?_
                      repeat (refine rowK_step2 rfl rfl (fun K hK => ?_); go_wp2)
                      refine rowK_nil ⟨fun w' hw' => ?_, ?_⟩
                      · repeat (refine rowWp_step2 rfl rfl (fun K hK => ?_); go_wp2)
                        exact rowWp_nil rfl
                      refine drawn_end (ol := []) rfl (by kernel_rfl) ?_
                      intro K hK
                      go_wp2
                      go_meet
                      case rel => exact ⟨rfl, sB, HFB.out⟩
                    case rest =>
                      obtain ⟨rfl, sC, hFC⟩ := hcut
                      have sC' := sC
                      rw [HL.out] at sC'
                      have c1 := sC'.nth 0 rfl
                      have c0 := sC'.nth 1 rfl
                      have c0l := World.at_lt c0
                      have c1l := World.at_lt c1
                      clear hv1 hv0 hv1l hs sC'
                      rename_i wc
                      by_cases hvp : v < pN
                      · rw [decide_eq_true hvp]
                        have HR : Hid (v = (pre l0 l0.length).toNat % pN) := by
                          show v = _
                          rw [← hpre.out, ← hvm.out, Nat.mod_eq_of_lt hvp]
                        clear hvp
                        go_wp2
                        refine ret_cell rfl rfl rfl ?_
                        go_simp
                        rw [← HR.out]
                        exact ⟨rfl, hFC.out.put _ _ (fun h => by omega)⟩
                      · rw [decide_eq_false hvp]
                        have hvp' : pN ≤ v := by omega
                        have HVP := Lib.hid hvp'
                        clear hvp hvp'
                        go_wp2
                        refine drawn_begin 3 (Has L) (by kernel_rfl) ?_
                        refine drawn_reads (fuel := 3) [0] rfl (by kernel_rfl) sC.drew ?_
                        repeat (refine rowK_step2 rfl rfl (fun K hK => ?_); go_wp2)
                        refine rowK_nil ⟨fun w' hw' => ?_, ?_⟩
                        · rw [HL.out] at hw'
                          have e1 := hw'.nth 0 rfl
                          repeat (refine rowWp_step2 rfl rfl (fun K hK => ?_); go_wp2)
                          exact rowWp_nil rfl
                        refine drawn_next 1 (fuel := 2) rfl (by kernel_rfl) ?_
                        intro K hK
                        go_wp2_with fail
                        refine prime_any.mono ?_
                        rintro e wa ⟨rfl, FA⟩
                        have sA := sC.drew.fr0 FA
                        simp only []
                        go_wp2
                        refine ⟨sA, ?_⟩
                        refine drawn_next 2 (fuel := 1) rfl (by kernel_rfl) ?_
                        intro K hK
                        go_wp2_with fail
                        refine (minus_any v pN HVP.out).mono ?_
                        rintro e wb ⟨rfl, FB⟩
                        have sB := sA.fr0 FB
                        have HFB := Lib.hid (((hFC.out.drew.trans (FA.mono (fun _ h => by cases h))).trans (FB.mono (fun _ h => by cases h))))
                        have sB' := sB
                        rw [HL.out] at sB'
                        have d1 := sB'.nth 0 rfl
                        have d0 := sB'.nth 1 rfl
                        have d1l := World.at_lt d1
                        have hdm := length_digs (v - pN)
                        clear FA FB sB' c0 c1 c0l c1l sA
                        simp only []
                        go_wp2
                        refine ⟨sB, ?_⟩
                        refine drawn_end rfl (by kernel_rfl) ?_
                        intro K hK
                        clear sB sC
                        go_wp2
                        have hp0 : (wb.put (w.heap.size + 1) (.cells (ints .i64 (digs (v - pN))) 32)).blk (w.heap.size + 1) = some (.cells (ints .i64 (digs (v - pN))) 32) := World.at_put_same _ _ _ d1l
                        have hlt16 : v - pN < 65536 ^ 16 := Nat.lt_of_le_of_lt (Nat.sub_le _ _) hv16.out
                        have HMB := Lib.hid (mA_digs hp0 hlt16)
                        go_roundw
                        case rel =>
                          refine ⟨v - pN, hlt16, ?_, hp0, by rw [World.at_put_other _ _ _ _ (by omega)]; exact d0, HFB.out.put _ _ (fun h => by omega)⟩
                          have h1 := hvm.out
                          have h2 : v = (v - pN) + pN := by have := HVP.out; omega
                          rw [h2, Nat.add_mod_right] at h1
                          exact h1
                        case measure =>
                          rw [HMA.out, HMB.out]
                          have h1 := HVP.out
                          have h2 : 0 < pN := by decide
                          omega
            · rw [show ((0 : Nat) : Int) = 0 from rfl]
              go_wp2
              rw [show decide ((m : Int) ≤ 16) = false from by simp; omega]
              obtain ⟨W, hW⟩ : ∃ W, W = wr.alloc (.cells (ints .i64 (zs 16)) 3) := ⟨_, rfl⟩
              refine Eq.mp (congrArg (fun X => Code.wp _ _ _ _ X) hW) ?_
              have we : W.blk wr.heap.size = some (.cells (ints .i64 ((List.range 16).map (eF (digN X m) 0))) 3) := by rw [hW]; exact World.at_alloc_new _ _ _ rfl
              have wd : W.blk b' = some (.cells (rowR .i64 (digN X m) r') 3) := by rw [hW, World.at_alloc_lt _ _ _ hyl]; exact hbv'
              have w0 : W.blk w.heap.size = some (.cells (ints .i64 (zs 16)) 32) := by rw [hW, World.at_alloc_lt _ _ _ (World.at_lt y0)]; exact y0
              have w1 : W.blk (w.heap.size + 1) = some (.cells (ints .i64 (zs 16)) 32) := by rw [hW, World.at_alloc_lt _ _ _ (World.at_lt y1)]; exact y1
              have HFW := Lib.hid (show Fr [b0] w W by rw [hW]; exact hFy.out.alloc _)
              have hsy := World.at_lt y1
              have hbw := World.at_lt hbv'
              obtain ⟨eb, heb⟩ : ∃ eb, eb = wr.heap.size := ⟨_, rfl⟩
              rw [← heb] at we hbw hsy ⊢
              have e0 : eb ≠ w.heap.size := by omega
              have e1 : eb ≠ w.heap.size + 1 := by omega
              have e2 : eb ≠ b' := by omega
              have e3 : w.heap.size ≤ eb := by omega
              clear heb
              clear hW hbv' y0 y1 hyl hsy hFy hbw
              go_loopw [7] (fun iv wv => ∃ k : Nat, k ≤ m ∧ iv = .int .i64 k ∧ Hid (Fr [eb] W wv) ∧ wv.blk eb = some (.cells (ints .i64 ((List.range 16).map (eF (digN X m) k))) 3) ∧ wv.blk b' = some (.cells (rowR .i64 (digN X m) r') 3)) (fun iv _ => m - (intOf iv).toNat)
              case atStart => exact ⟨0, by omega, rfl, Fr.refl _ _, we, wd⟩
              case round =>
                obtain ⟨k, hk, rfl, hFk, hek, hdk⟩ := hrel
                have hekl := World.at_lt hek
                clear we wd
                have hel16 : ((List.range 16).map (eF (digN X m) k)).length = 16 := by simp
                obtain ⟨E, hE⟩ : ∃ E, E = (List.range 16).map (eF (digN X m) k) := ⟨_, rfl⟩
                have hEb : ∀ i, 0 ≤ el E i ∧ el E i ≤ 2555904 := fun i => by
                  rw [hE]
                  by_cases hi : i < 16
                  · rw [el_map_range _ _ _ hi, eF]
                    have h1 := el_digN_lt X m i
                    have h2 := el_digN_lt X m (i + 16)
                    split <;> split <;> omega
                  · rw [el_out _ _ (by simp; omega)]; omega
                rw [← hE] at hek hel16
                have hdk' := el_digN_lt X m k
                by_cases hlt : k < m
                · by_cases hlo : k < 16
                  · have hset := eF_lo (digN X m) k hlo
                    rw [← hE] at hset
                    have hset' := hset.symm
                    have hEk := hEb k
                    clear hset hE hEb
                    go_wp2
                    refine drawn_head 12 (by kernel_rfl) rfl rfl (by kernel_rfl) ?_
                    change rowK _ _ _ [0,1,2,3,4,5,6,7,8,9,10,11] _ _
                    repeat (refine rowK_step2 rfl rfl (fun K hK => ?_); go_wp2)
                    refine rowK_nil ?_
                    intro K hK
                    go_wp2
                    go_roundw
                    case rel => exact ⟨k + 1, by omega, by go_num, hFk.out.drew.put _ _ (by simp), World.at_put_same _ _ _ hekl, by rw [World.at_drew, World.at_put_other _ _ _ _ e2]; exact hdk⟩
                    case measure => simp [intOf]; omega
                  · have hset := eF_hi (digN X m) k (by omega) (by omega)
                    rw [← hE] at hset
                    have hset' := hset.symm
                    have hEk := hEb (k - 16)
                    have hk16 : k - 16 < 16 := by omega
                    clear hset hE hEb
                    go_wp2
                    refine drawn_head 15 (by kernel_rfl) rfl rfl (by kernel_rfl) ?_
                    change rowK _ _ _ [0,1,2,3,4,5,6,7,8,9,10,11,12,13,14] _ _
                    repeat (refine rowK_step2 rfl rfl (fun K hK => ?_); go_wp2)
                    refine rowK_nil ?_
                    intro K hK
                    go_wp2
                    go_roundw
                    case rel => exact ⟨k + 1, by omega, by go_num, hFk.out.drew.put _ _ (by simp), World.at_put_same _ _ _ hekl, by rw [World.at_drew, World.at_put_other _ _ _ _ e2]; exact hdk⟩
                    case measure => simp [intOf]; omega
                · obtain rfl : k = m := by omega
                  obtain ⟨E1, E2⟩ := eF_end X k (by omega) hm32 HXM.out
                  rw [← hE] at E1 E2
                  have z0 := hFk.out.get w0 (fun h => e0 (List.mem_singleton.1 h).symm)
                  have z1 := hFk.out.get w1 (fun h => e1 (List.mem_singleton.1 h).symm)
                  have HFz := Lib.hid (HFW.out.seq hFk.out (fun k hk hlt => by rw [List.mem_singleton.1 hk] at hlt; omega))
                  have hX32 := HX32.out
                  have hYX : X % 65536 ^ 16 + 38 * (X / 65536 ^ 16) < 65536 ^ 32 := by
                    have h := Nat.div_add_mod X (65536 ^ 16)
                    have e16 : (65536 ^ 16 : Nat) = 115792089237316195423570985008687907853269984665640564039457584007913129639936 := by kernel_rfl
                    rw [e16] at h ⊢
                    omega
                  have hmeas : 64 * (X % 65536 ^ 16 + 38 * (X / 65536 ^ 16)) + 16 < 64 * X + l.length := by
                    have h := Nat.div_add_mod X (65536 ^ 16)
                    have e16 : (65536 ^ 16 : Nat) = 115792089237316195423570985008687907853269984665640564039457584007913129639936 := by kernel_rfl
                    rcases hml.out with e | e
                    · rw [e16] at h ⊢; omega
                    · have : 65536 ^ 16 ≤ X := Nat.le_trans (Nat.pow_le_pow_right (by omega) (by omega)) e
                      rw [e16] at h this ⊢; omega
                  have hbk : wr.blk eb = some (.cells (rowR .i64 E #[]) 3) := by rw [rowR_nil]; exact hek
                  have hm1 := msr_row hbk 16
                  rw [hel16, E2, Int.toNat_natCast] at hm1
                  have HE1 := Lib.hid E1
                  have HE2 := Lib.hid E2
                  have HMS := Lib.hid hm1
                  have HMM := Lib.hid hmeas
                  have HYX := Lib.hid hYX
                  clear E1 E2 hm1 hmeas hYX hE hEb hX32 hek w0 w1 hdk hdk'
                  go_wp2
                  go_roundw
                  case rel =>
                    refine ⟨eb, E, #[], by rw [hel16]; rfl, hbk, by rw [hel16]; decide, by omega, by omega, HE1.out, ?_, ?_, z0, z1, e0, e1, .inr e3, HFz.out⟩
                    · show pre E E.length < 65536 ^ 32
                      rw [hel16, HE2.out]
                      have := Int.ofNat_lt.2 HYX.out
                      rw [Int.natCast_pow] at this
                      exact this
                    · show (pre E E.length).toNat % pN = _
                      rw [hel16, HE2.out, Int.toNat_natCast, fold_mod]
                      exact hmod'.out
                  case measure =>
                    rw [HMS.out, HM.out]
                    exact HMM.out
          · have hm : m < 32 := by
              rcases Nat.lt_or_ge m 32 with h | h
              · exact h
              · exact (hz (Nat.div_eq_of_lt (Nat.lt_of_lt_of_le HX32.out (Nat.pow_le_pow_right (by omega) h)))).elim
            obtain ⟨c, hce⟩ : ∃ c, c = X / 65536 ^ m := ⟨_, rfl⟩
            have hc0 : 0 < c := by omega
            have hc2 : X / 65536 ^ (m + 1) = c / 65536 := by rw [hce, Nat.div_div_eq_div_mul, ← Nat.pow_succ]
            have hdg : (digN X m).map (Value.int .i64) ++ [.int .i64 ((c : Int) % 65536)] = (digN X (m + 1)).map (Value.int .i64) := by
              rw [← digN_succ, List.map_append, ← hce]; rfl
            rw [← hce]
            have hown : OwnsR wr 3 1 (some ⟨b', 0, none⟩) m (m + r'.size) ((digN X m).map (Value.int .i64)) := by
              have := OwnsR.mk' hbv' (by rw [hdm]; exact hcm)
              rwa [hdm] at this
            have hown2 : OwnsR (wr.alloc (.cells #[.int .i64 ((c : Int) % 65536)] 3)) 3 1 (some ⟨b', 0, none⟩) m (m + r'.size) ((digN X m).map (Value.int .i64)) :=
              ((Fr.refl [] wr).alloc _).owns hown (fun _ _ => by simp)
            have hnew : (wr.alloc (.cells #[.int .i64 ((c : Int) % 65536)] 3)).blk wr.heap.size = some (.cells #[.int .i64 ((c : Int) % 65536)] 3) := World.at_alloc_new _ _ _ rfl
            have hc32 : c ≤ 1099511627776 := by have := hcb.out; rw [← hce] at this; exact this
            have HLE : Hid (65536 ^ (m + 1 - 1) ≤ X) := by
              rw [Nat.add_sub_cancel]
              rcases Nat.lt_or_ge X (65536 ^ m) with h | h
              · rw [Nat.div_eq_of_lt h] at hce; omega
              · exact h
            have HO := Lib.hid hown2
            have HN := Lib.hid hnew
            have HCE := Lib.hid hce
            have HC2 := Lib.hid hc2
            have HDG := Lib.hid hdg
            clear hown hown2 hnew hce hc2 hdg hz
            go_wp2_with (refine wpList_app rfl _ _ 76 rfl E76 (by omega) (some ⟨b', 0, none⟩) m (m + r'.size) ((digN X m).map (Value.int .i64)) rfl HO.out wr.heap.size 0 1 1 rfl _ _ _ HN.out [.int .i64 ((c : Int) % 65536)] rfl (by simp) (by simp [ones_cons, ones_nil, Value.oneCell']) (by omega) (by omega) ?_)
            intro p' cap' w' ⟨hown, FA, hblk⟩
            obtain ⟨g, rfl⟩ := hown.some_of (by omega)
            rw [HDG.out] at hown
            obtain ⟨r2, hb2, hc2, hn2, hm2⟩ := hown.out
            have hd2 := length_digN X (m + 1)
            rw [hd2] at hc2
            have FA' : Fr [b'] wr w' := ((Fr.refl [b'] wr).alloc _).trans (FA.mono (fun k hk _ => by simpa using hk))
            have z0 := FA'.get y0 (fun h => q0 (List.mem_singleton.1 h).symm)
            have z1 := FA'.get y1 (fun h => q1 (List.mem_singleton.1 h).symm)
            have hgb : g = b' ∨ wr.heap.size ≤ g := by
              rcases hblk g rfl with h | h
              · left; simpa using h.symm
              · right; simp at h; omega
            have hgs : g ≠ w.heap.size ∧ g ≠ w.heap.size + 1 := by
              have := World.at_lt y1
              rcases hgb with h | h
              · rw [h]; exact ⟨q0, q1⟩
              · constructor <;> omega
            have HG : Hid (g = b0 ∨ w.heap.size ≤ g) := by
              have := World.at_lt y1
              rcases hgb with h | h
              · rw [h]; exact hbo2
              · right; omega
            have HFA := Lib.hid (hFy.out.seq FA' (fun k hk hlt => by
              rcases hbo2.out with e | e
              · rw [List.mem_singleton.1 hk, e]; exact List.mem_singleton.2 rfl
              · rw [List.mem_singleton.1 hk] at hlt; omega))
            subst hc2
            clear FA FA' hblk hown hgb y0 y1 hbv' hyl hn2
            go_wp2
            go_roundw
            case rel =>
              refine ⟨g, m + 1, r2, rfl, by rw [HC2.out]; simp, hb2, hm2, by omega, by omega, ?_, .inr HLE.out, z0, z1, hgs.1, hgs.2, HG, HFA.out⟩
              rw [HC2.out]; exact (show c / 65536 ≤ 1099511627776 by omega)
            case measure => simp [intOf]; omega
end
end Go.Proofs.Ytakhmmnklkckpaa
namespace Go.Proofs.Ytakhmmnklkckpaa
open Go.RowKit Go.Dr

section
variable {w : World}
/-- fold, of a row that is just as long. -/
theorem fold_any (b0 : Nat) (l0 : List Int) (V : Nat) (hb : w.blk b0 = some (.cells (ints .i64 l0) 3)) (h1 : 1 ≤ l0.length) (h32 : l0.length ≤ 32)
    (hd : ∀ i, 0 ≤ el l0 i ∧ el l0 i ≤ 1099511627776) (hp : pre l0 l0.length = V) (hV : V < 65536 ^ 32) :
    Calls Try.prog 68 #[.slice (some ⟨b0, 0, none⟩) l0.length l0.length] w fun e w' => e = .returned (nm (V % pN)) ∧ Fr [b0] w w' := by
  have h := fold_walk (w := w) b0 l0 #[] (by rw [rowR_nil]; exact hb) (show l0.length + 0 ≤ maxLen by unfold maxLen; omega) h1 h32 hd (by rw [hp]; have := Int.ofNat_lt.2 hV; rw [Int.natCast_pow] at this; exact this)
  rw [hp, Int.toNat_natCast] at h
  exact h
theorem small_any (n : Nat) (hn : n ≤ 1099511627776) : Calls Try.prog 76 #[.int .i64 n] w fun e w' => e = .returned (nm (n % pN)) ∧ Fr [] w w' := by
  go_enter Try.func76, Try.ntmps76
  go_wp2_with fail
  refine (fold_any (w.heap.size + 1) [(n : Int)] n (by go_simp; rfl) (by simp) (by simp) (fun i => ?_) ?_ ?_).mono ?_
  · match i with
    | 0 => simp [el]; omega
    | i + 1 => simp [el]
  · simp [pre, el]
  · exact Nat.lt_of_le_of_lt hn (by decide)
  rintro e w1 ⟨rfl, F1⟩
  have h0 := F1.get (b := w.heap.size) (o := .cells (ints .i64 (zs 16)) 32) (by go_simp; rfl) (by simp)
  have h0l := World.at_lt h0
  have hlm := length_digs (n % pN)
  have HF := Lib.hid ((((Fr.refl [] w).alloc _).alloc _).seq F1 (by simp))
  clear F1
  simp only []
  go_wp2
  refine ret_cell rfl rfl rfl ?_
  go_simp
  exact HF.out.put _ _ (by omega)
/-- The digits' sums. -/
theorem pre_sum (m n : Nat) : ∀ k, k ≤ 16 → pre ((List.range 16).map fun i => el (digs m) i + el (digs n) i) k = pre (digs m) k + pre (digs n) k
  | 0, _ => rfl
  | k + 1, h => by
    rw [pre, pre, pre, pre_sum m n k (by omega), el_map_range _ _ _ (by omega)]
    grind
theorem pre_digs (m : Nat) (hm : m < 65536 ^ 16) : pre (digs m) 16 = m := by rw [digs_digN, pre_digN _ _ _ (Nat.le_refl _), Nat.mod_eq_of_lt hm]
theorem lt16 {m : Nat} (h : m < pN) : m < 65536 ^ 16 := Nat.lt_trans h (by decide)
set_option maxRecDepth 100000 in
theorem radd_any (m n : Nat) (hm : m < pN) (hn : n < pN) : Calls Try.prog 31 #[nm m, nm n] w fun e w' => e = .returned (nm ((m + n) % pN)) ∧ Fr [] w w' := by
  have lm := length_digs m
  have ln := length_digs n
  unfold nm
  go_enter Try.func31, Try.ntmps31
  go_wp2
  obtain ⟨V, hV⟩ : ∃ V, V = (((w.alloc (.cells (ints .i64 (digs m)) 32)).alloc (.cells (ints .i64 (digs n)) 32)).alloc (.cells (ints .i64 (zs 16)) 32)).alloc (.cells (ints .i64 (zs 16)) 3) := ⟨_, rfl⟩
  refine Eq.mp (congrArg (fun X => Code.wp _ _ _ _ X) hV) ?_
  have h0 : V.blk w.heap.size = some (.cells (ints .i64 (digs m)) 32) := by rw [hV]; go_simp
  have h1 : V.blk (w.heap.size + 1) = some (.cells (ints .i64 (digs n)) 32) := by rw [hV]; go_simp
  have h2 : V.blk (w.heap.size + 2) = some (.cells (ints .i64 (zs 16)) 32) := by rw [hV]; go_simp
  have h3 : V.blk (w.heap.size + 3) = some (.cells (ints .i64 (zs 16)) 3) := by rw [hV]; go_simp
  have HFV := Lib.hid (show Fr [] w V by rw [hV]; exact ((((Fr.refl _ _).alloc _).alloc _).alloc _).alloc _)
  clear hV
  go_loopw [6] (fun iv wr => ∃ k : Nat, k ≤ 16 ∧ iv = .int .i64 k ∧ Fr [w.heap.size + 3] V wr ∧ wr.blk (w.heap.size + 3) = some (.cells (ints .i64 (upd (fun i => el (digs m) i + el (digs n) i) (zs 16) k)) 3)) (fun iv _ => 16 - (intOf iv).toNat)
  case atStart => exact ⟨0, by omega, rfl, Fr.refl _ _, by rw [upd_zero]; exact h3⟩
  case round =>
    obtain ⟨k, hk, rfl, FR, hc⟩ := hrel
    have k0 := FR.get h0 (by simp)
    have k1 := FR.get h1 (by simp)
    have k2 := FR.get h2 (by simp)
    have hcl := World.at_lt hc
    have HFR := Lib.hid FR
    clear FR h0 h1 h2 h3
    have hlu := length_upd (fun i => el (digs m) i + el (digs n) i) (zs 16) k (by rw [length_zs]; omega)
    rw [length_zs] at hlu
    by_cases hlt : k < 16
    · have dm := el_digs_lt m k hlt
      have dn := el_digs_lt n k hlt
      have hset : (upd (fun i => el (digs m) i + el (digs n) i) (zs 16) k).set k (el (digs m) k + el (digs n) k) = upd (fun i => el (digs m) i + el (digs n) i) (zs 16) (k + 1) := set_upd (fun i => el (digs m) i + el (digs n) i) (zs 16) k (by rw [length_zs]; omega)
      go_wp2
      refine drawn_head 10 (by kernel_rfl) rfl rfl (by kernel_rfl) ?_
      change rowK _ _ _ [0,1,2,3,4,5,6,7,8,9] _ _
      repeat (refine rowK_step2 rfl rfl (fun K hK => ?_); go_wp2)
      refine rowK_nil ?_
      intro K hK
      go_wp2
      go_roundw
      case rel => exact ⟨k + 1, by omega, by go_num, HFR.out.drew.put _ _ (by simp), World.at_put_same _ _ _ hcl⟩
      case measure => simp [intOf]; omega
    · obtain rfl : k = 16 := by omega
      have hfull : upd (fun i => el (digs m) i + el (digs n) i) (zs 16) 16 = (List.range 16).map fun i => el (digs m) i + el (digs n) i := upd_full _ _ _ (length_zs 16)
      rw [hfull] at hc hlu
      obtain ⟨D, hD⟩ : ∃ D, D = (List.range 16).map fun i => el (digs m) i + el (digs n) i := ⟨_, rfl⟩
      have hDb : ∀ i, 0 ≤ el D i ∧ el D i ≤ 1099511627776 := fun i => by
        rw [hD]
        by_cases hi : i < 16
        · rw [el_map_range _ _ _ hi]
          have := el_digs_lt m i hi
          have := el_digs_lt n i hi
          omega
        · rw [el_out _ _ (by simp; omega)]; omega
      have hDp : pre D D.length = ((m + n : Nat) : Int) := by
        rw [hD]
        rw [show ((List.range 16).map fun i => el (digs m) i + el (digs n) i).length = 16 from by simp, pre_sum _ _ _ (Nat.le_refl _), pre_digs _ (lt16 hm), pre_digs _ (lt16 hn), Int.natCast_add]
      have hlt : m + n < 65536 ^ 32 := by
        have : pN + pN < 65536 ^ 32 := by decide
        omega
      rw [← hD] at hc hlu
      have HDB := Lib.hid hDb
      have HDP := Lib.hid hDp
      have HFX := Lib.hid (HFV.out.seq HFR.out (by simp))
      have hfold := fold_any (w := wr) (w.heap.size + 3) D (m + n) hc (by omega) (by omega) HDB.out HDP.out hlt
      rw [hlu] at hfold
      have HFO := Lib.hid hfold
      clear hfull hD hDb hDp hlt hfold k0 k1
      go_wp2_with fail
      refine HFO.out.mono ?_
      rintro e w1 ⟨rfl, F1⟩
      have g2 := F1.get k2 (by simp)
      have g2l := World.at_lt g2
      have hlm := length_digs ((m + n) % pN)
      have HF := Lib.hid (HFX.out.seq F1 (by simp))
      clear F1 k2 hc
      simp only []
      go_wp2
      refine ret_cell rfl rfl rfl ?_
      go_simp
      exact HF.out.put _ _ (by omega)
theorem digs_zero : digs 0 = zs 16 := by kernel_rfl
theorem digs_inj {m n : Nat} (hm : m < 65536 ^ 16) (hn : n < 65536 ^ 16) : digs m = digs n ↔ m = n :=
  ⟨fun h => by
    have h1 := pre_digs m hm
    rw [h, pre_digs n hn] at h1
    omega, fun h => by rw [h]⟩
set_option maxRecDepth 100000 in
theorem rneg_any (m : Nat) (hm : m < pN) : Calls Try.prog 35 #[nm m] w fun e w' => e = .returned (nm ((pN - m) % pN)) ∧ Fr [] w w' := by
  have lm := length_digs m
  have hz := length_zs 16
  have hdec : (digs m == [0, 0, 0, 0, 0, 0, 0, 0, 0, 0, 0, 0, 0, 0, 0, 0]) = decide (m = 0) := by
    rw [beq_dec, show ([0, 0, 0, 0, 0, 0, 0, 0, 0, 0, 0, 0, 0, 0, 0, 0] : List Int) = digs 0 from by kernel_rfl, Bool.eq_iff_iff, decide_eq_true_eq, decide_eq_true_eq, digs_inj (lt16 hm) (by decide)]
  have HD := Lib.hid hdec
  obtain ⟨q, hq⟩ : ∃ q, q = (pN - m) % pN := ⟨_, rfl⟩
  rw [← hq]
  have HQ := Lib.hid hq
  clear hdec hq
  unfold nm
  go_enter Try.func35, Try.ntmps35
  go_upto_if 5 with (fail)
  rw [HD.out]
  obtain ⟨V, hV⟩ : ∃ V, V = (w.alloc (.cells (ints .i64 (digs m)) 32)).alloc (.cells (ints .i64 (zs 16)) 32) := ⟨_, rfl⟩
  refine Eq.mp (congrArg (fun X => Code.wp _ _ _ _ X) hV) ?_
  have g0 : V.blk w.heap.size = some (.cells (ints .i64 (digs m)) 32) := by rw [hV]; go_simp
  have g1 : V.blk (w.heap.size + 1) = some (.cells (ints .i64 (zs 16)) 32) := by rw [hV]; go_simp
  have HF := Lib.hid (show Fr [] w V by rw [hV]; exact ((Fr.refl _ _).alloc _).alloc _)
  have g1l := World.at_lt g1
  clear hV
  by_cases h0 : m = 0
  · have hr : q = m := by rw [HQ.out, h0]; decide
    have HR := Lib.hid hr
    rw [decide_eq_true h0]
    clear hr h0
    go_wp2
    refine ret_cell rfl rfl rfl ?_
    go_simp
    rw [HR.out]
    exact ⟨rfl, HF.out.put _ _ (by omega)⟩
  · have hr : q = pN - m := by rw [HQ.out, Nat.mod_eq_of_lt (show pN - m < pN by omega)]
    have HR := Lib.hid hr
    rw [decide_eq_false h0]
    clear hr h0
    go_wp2
    have hs : Has [(w.heap.size, .cells (ints .i64 (digs m)) 32), (w.heap.size + 1, .cells (ints .i64 (zs 16)) 32)] V := .cons g0 (.cons g1 (.nil _))
    obtain ⟨L, hL⟩ : ∃ L : List (Nat × Obj), L = [(w.heap.size, .cells (ints .i64 (digs m)) 32), (w.heap.size + 1, .cells (ints .i64 (zs 16)) 32)] := ⟨_, rfl⟩
    rw [← hL] at hs
    have HL := Lib.hid hL
    clear hL
    refine drawn_begin 3 (Has L) (by kernel_rfl) ?_
    refine drawn_reads (fuel := 3) [1] rfl (by kernel_rfl) hs.drew ?_
    repeat (refine rowK_step2 rfl rfl (fun K hK => ?_); go_wp2)
    refine rowK_nil ⟨fun w' hw' => ?_, ?_⟩
    · rw [HL.out] at hw'
      have e1 := hw'.nth 0 rfl
      repeat (refine rowWp_step2 rfl rfl (fun K hK => ?_); go_wp2)
      exact rowWp_nil rfl
    refine drawn_next 0 (fuel := 2) rfl (by kernel_rfl) ?_
    intro K hK
    go_wp2_with fail
    refine prime_any.mono ?_
    rintro e wa ⟨rfl, FA⟩
    have sA := hs.drew.fr0 FA
    simp only []
    go_wp2
    refine ⟨sA, ?_⟩
    refine drawn_next 2 (fuel := 1) rfl (by kernel_rfl) ?_
    intro K hK
    go_wp2_with fail
    refine (minus_any pN m (by omega)).mono ?_
    rintro e wb ⟨rfl, FB⟩
    have sB := sA.fr0 FB
    have HFB := Lib.hid (((HF.out.drew).trans FA).trans FB)
    have sB' := sB
    rw [HL.out] at sB'
    have d1 := sB'.nth 1 rfl
    have d1l := World.at_lt d1
    have hdm := length_digs (pN - m)
    clear FA FB sB' g0 g1 g1l sA
    simp only []
    go_wp2
    refine ⟨sB, ?_⟩
    refine drawn_end rfl (by kernel_rfl) ?_
    intro K hK
    clear sB hs
    go_wp2
    refine ret_cell rfl rfl rfl ?_
    go_simp
    rw [HR.out]
    exact ⟨rfl, HFB.out.put _ _ (by omega)⟩
set_option maxRecDepth 100000 in
theorem rsub_any (m n : Nat) (hm : m < pN) (hn : n < pN) : Calls Try.prog 33 #[nm m, nm n] w fun e w' => e = .returned (nm ((m + (pN - n) % pN) % pN)) ∧ Fr [] w w' := by
  have lm := length_digs m
  have ln := length_digs n
  obtain ⟨q, hq⟩ : ∃ q, q = (pN - n) % pN := ⟨_, rfl⟩
  obtain ⟨s, hs⟩ : ∃ s, s = (m + q) % pN := ⟨_, rfl⟩
  have hqp : q < pN := by rw [hq]; exact Nat.mod_lt _ (by decide)
  rw [← hq, ← hs]
  have HQ := Lib.hid hq
  have HS := Lib.hid hs
  clear hq hs
  unfold nm
  go_enter Try.func33, Try.ntmps33
  go_wp2
  obtain ⟨V, hV⟩ : ∃ V, V = ((w.alloc (.cells (ints .i64 (digs m)) 32)).alloc (.cells (ints .i64 (digs n)) 32)).alloc (.cells (ints .i64 (zs 16)) 32) := ⟨_, rfl⟩
  refine Eq.mp (congrArg (fun X => Code.wp _ _ _ _ X) hV) ?_
  have g0 : V.blk w.heap.size = some (.cells (ints .i64 (digs m)) 32) := by rw [hV]; go_simp
  have g1 : V.blk (w.heap.size + 1) = some (.cells (ints .i64 (digs n)) 32) := by rw [hV]; go_simp
  have g2 : V.blk (w.heap.size + 2) = some (.cells (ints .i64 (zs 16)) 32) := by rw [hV]; go_simp
  have HF := Lib.hid (show Fr [] w V by rw [hV]; exact (((Fr.refl _ _).alloc _).alloc _).alloc _)
  clear hV
  have hs : Has [(w.heap.size, .cells (ints .i64 (digs m)) 32), (w.heap.size + 1, .cells (ints .i64 (digs n)) 32), (w.heap.size + 2, .cells (ints .i64 (zs 16)) 32)] V := .cons g0 (.cons g1 (.cons g2 (.nil _)))
  obtain ⟨L, hL⟩ : ∃ L : List (Nat × Obj), L = [(w.heap.size, .cells (ints .i64 (digs m)) 32), (w.heap.size + 1, .cells (ints .i64 (digs n)) 32), (w.heap.size + 2, .cells (ints .i64 (zs 16)) 32)] := ⟨_, rfl⟩
  rw [← hL] at hs
  have HL := Lib.hid hL
  clear hL
  refine drawn_begin 4 (Has L) (by kernel_rfl) ?_
  refine drawn_reads (fuel := 3) [0, 1] rfl (by kernel_rfl) hs.drew ?_
  repeat (refine rowK_step2 rfl rfl (fun K hK => ?_); go_wp2)
  refine rowK_nil ⟨fun w' hw' => ?_, ?_⟩
  · rw [HL.out] at hw'
    have e1 := hw'.nth 0 rfl
    have e2 := hw'.nth 1 rfl
    repeat (refine rowWp_step2 rfl rfl (fun K hK => ?_); go_wp2)
    exact rowWp_nil rfl
  refine drawn_next 2 (fuel := 2) rfl (by kernel_rfl) ?_
  intro K hK
  go_wp2_with fail
  refine (rneg_any n hn).mono ?_
  rw [← HQ.out]
  rintro e wa ⟨rfl, FA⟩
  have sA := hs.drew.fr0 FA
  simp only []
  go_wp2
  refine ⟨sA, ?_⟩
  refine drawn_next 3 (fuel := 1) rfl (by kernel_rfl) ?_
  intro K hK
  go_wp2_with fail
  refine (radd_any m q hm hqp).mono ?_
  rw [← HS.out]
  rintro e wb ⟨rfl, FB⟩
  have sB := sA.fr0 FB
  have HFB := Lib.hid (((HF.out.drew).trans FA).trans FB)
  have sB' := sB
  rw [HL.out] at sB'
  have d2 := sB'.nth 2 rfl
  have d2l := World.at_lt d2
  have hdm := length_digs s
  clear FA FB sB' g0 g1 g2 sA
  simp only []
  go_wp2
  refine ⟨sB, ?_⟩
  refine drawn_end rfl (by kernel_rfl) ?_
  intro K hK
  clear sB hs
  go_wp2
  refine ret_cell rfl rfl rfl ?_
  go_simp
  exact HFB.out.put _ _ (by omega)
end
end Go.Proofs.Ytakhmmnklkckpaa
namespace Go.Proofs.Ytakhmmnklkckpaa
open Go.RowKit Go.Dr

theorem byte_lo (m k : Nat) : (((m / 65536 ^ k % 65536 : Nat) : Int) % 256) = (m : Int) / 256 ^ (2 * k) % 256 := by
  have e : (256 : Int) ^ (2 * k) = ((65536 ^ k : Nat) : Int) := by rw [Int.pow_mul, Int.natCast_pow]; rfl
  rw [e, Int.natCast_emod, Int.natCast_ediv]
  generalize (m : Int) / ((65536 ^ k : Nat) : Int) = x
  omega
theorem byte_hi (m k : Nat) : (((m / 65536 ^ k % 65536 : Nat) : Int) / 256) = (m : Int) / 256 ^ (2 * k + 1) % 256 := by
  have e : (256 : Int) ^ (2 * k) = ((65536 ^ k : Nat) : Int) := by rw [Int.pow_mul, Int.natCast_pow]; rfl
  rw [Int.pow_succ, ← Int.ediv_ediv_of_nonneg (by rw [e]; exact Int.natCast_nonneg _), e, Int.natCast_emod, Int.natCast_ediv]
  generalize (m : Int) / ((65536 ^ k : Nat) : Int) = x
  omega
section
variable {w : World}
set_option maxRecDepth 100000 in
theorem rbytes_any (m : Nat) : Calls Try.prog 28 #[nm m] w fun e w' => e = .returned (.agg (ints .u8 (bytesL m))) ∧ Fr [] w w' := by
  have lm := length_digs m
  unfold nm
  go_enter Try.func28, Try.ntmps28
  go_wp2
  obtain ⟨V, hV⟩ : ∃ V, V = ((w.alloc (.cells (ints .i64 (digs m)) 32)).alloc (.cells (ints .u8 (zs 32)) 22)).alloc (.cells (ints .u8 (zs 32)) 22) := ⟨_, rfl⟩
  refine Eq.mp (congrArg (fun X => Code.wp _ _ _ _ X) hV) ?_
  have h0 : V.blk w.heap.size = some (.cells (ints .i64 (digs m)) 32) := by rw [hV]; go_simp
  have h1 : V.blk (w.heap.size + 1) = some (.cells (ints .u8 (zs 32)) 22) := by rw [hV]; go_simp
  have h2 : V.blk (w.heap.size + 2) = some (.cells (ints .u8 (zs 32)) 22) := by rw [hV]; go_simp
  have HFV := Lib.hid (show Fr [] w V by rw [hV]; exact (((Fr.refl _ _).alloc _).alloc _).alloc _)
  clear hV
  go_loopw [4] (fun iv wr => ∃ k : Nat, k ≤ 16 ∧ iv = .int .i64 k ∧ Hid (Fr [w.heap.size + 2] V wr) ∧ wr.blk (w.heap.size + 2) = some (.cells (ints .u8 (upd (fun i => (m : Int) / 256 ^ i % 256) (zs 32) (2 * k))) 22)) (fun iv _ => 16 - (intOf iv).toNat)
  case atStart => exact ⟨0, by omega, rfl, Fr.refl _ _, by rw [Nat.mul_zero, upd_zero]; exact h2⟩
  case round =>
    obtain ⟨k, hk, rfl, FR, hc⟩ := hrel
    have k0 := FR.out.get h0 (by simp)
    have k1 := FR.out.get h1 (by simp)
    have hcl := World.at_lt hc
    have k1l := World.at_lt k1
    clear h0 h1 h2
    have hlu := length_upd (fun i => (m : Int) / 256 ^ i % 256) (zs 32) (2 * k) (by rw [length_zs]; omega)
    rw [length_zs] at hlu
    by_cases hlt : k < 16
    · have dm := el_digs_lt m k hlt
      have hlo := byte_lo m k
      have hhi := byte_hi m k
      rw [← el_digs m k hlt] at hlo hhi
      have hs1 : (upd (fun i => (m : Int) / 256 ^ i % 256) (zs 32) (2 * k)).set (2 * k) (el (digs m) k % 256) = upd (fun i => (m : Int) / 256 ^ i % 256) (zs 32) (2 * k + 1) := by
        rw [hlo]; exact set_upd (fun i => (m : Int) / 256 ^ i % 256) (zs 32) (2 * k) (by rw [length_zs]; omega)
      have hs2 : (upd (fun i => (m : Int) / 256 ^ i % 256) (zs 32) (2 * k + 1)).set (2 * k + 1) (el (digs m) k / 256) = upd (fun i => (m : Int) / 256 ^ i % 256) (zs 32) (2 * (k + 1)) := by
        rw [hhi]; exact set_upd (fun i => (m : Int) / 256 ^ i % 256) (zs 32) (2 * k + 1) (by rw [length_zs]; omega)
      have hlu2 := length_upd (fun i => (m : Int) / 256 ^ i % 256) (zs 32) (2 * k + 1) (by rw [length_zs]; omega)
      rw [length_zs] at hlu2
      have hk2 : 2 * k < 32 := by omega
      have hk3 : 2 * k + 1 < 32 := by omega
      have hne : w.heap.size + 1 + 1 ≠ w.heap.size := by omega
      clear hlo hhi
      go_wp2
      go_roundw
      case rel =>
        refine ⟨k + 1, by omega, by go_num, FR.out.put _ _ (by simp), World.at_put_same _ _ _ hcl⟩
      case measure => simp [intOf]; omega
    · obtain rfl : k = 16 := by omega
      have hfull : upd (fun i => (m : Int) / 256 ^ i % 256) (zs 32) (2 * 16) = bytesL m := upd_full _ _ _ (length_zs 32)
      rw [hfull] at hc hlu
      have HFX := Lib.hid (HFV.out.seq FR.out (by simp))
      clear hfull
      go_wp2
      refine ret_cell rfl rfl rfl ?_
      go_simp
      exact HFX.out.put _ _ (by omega)
end
/-- The digits of bytes. -/
def pairD (b : List Int) (i : Nat) : Int := el b (2 * i) + 256 * el b (2 * i + 1)
theorem take_snoc (b : List Int) (i : Nat) (h : i < b.length) : b.take (i + 1) = b.take i ++ [el b i] := by
  rw [List.take_add_one, el]
  simp [List.getElem?_eq_getElem h]
theorem pre_pairs {b : List Int} (hb : b.length = 32) : ∀ k, k ≤ 16 → pre ((List.range 16).map (pairD b)) k = le (b.take (2 * k))
  | 0, _ => by simp [pre, le]
  | k + 1, h => by
    rw [pre, pre_pairs hb k (by omega), el_map_range _ _ _ (by omega)]
    rw [show 2 * (k + 1) = 2 * k + 1 + 1 from by omega, take_snoc b (2 * k + 1) (by omega), take_snoc b (2 * k) (by omega), le_append, le_append]
    have l1 : (b.take (2 * k)).length = 2 * k := by simp; omega
    simp only [List.length_append, List.length_cons, List.length_nil, l1, le, pairD]
    have e : (256 : Int) ^ (2 * k) = 65536 ^ k := by rw [Int.pow_mul]; rfl
    rw [Int.pow_succ, e]
    grind
theorem pre_of {b : List Int} (hb : b.length = 32) (hB : Byt b) : pre (((List.range 16).map (pairD b)).set 15 (pairD b 15 % 32768)) 16 = le b % 57896044618658097711785492504343953926634992332820282019728792003956564819968 := by
  have h16 := pre_pairs hb 16 (by omega)
  rw [List.take_of_length_le (by omega)] at h16
  have h15 := pre_pairs hb 15 (by omega)
  have e : ∀ x : Int, pre (((List.range 16).map (pairD b)).set 15 x) 16 = le (b.take 30) + x * 65536 ^ 15 := fun x => by
    have hc := pre_congr (l := ((List.range 16).map (pairD b)).set 15 x) (m := (List.range 16).map (pairD b)) 15 (fun i hi => by rw [el_set _ _ _ _ (by simp), if_neg (by omega)])
    rw [pre, el_set_same _ _ _ (by simp), hc, h15]
  have e2 : le b = le (b.take 30) + pairD b 15 * 65536 ^ 15 := by
    rw [← h16, pre, h15, el_map_range _ _ _ (by omega)]
  have hlt := le_lt (b.take 30) (fun x hx => hB x (List.mem_of_mem_take hx))
  have hl : (b.take 30).length = 30 := by simp; omega
  rw [hl] at hlt
  rw [e, e2]
  generalize le (b.take 30) = A at hlt
  generalize pairD b 15 = d
  omega
section
variable {w : World}
set_option maxRecDepth 100000 in
theorem rof_any (b : List Int) (hlb : b.length = 32) (hB : Byt b) : Calls Try.prog 29 #[.agg (ints .u8 b)] w fun e w' => e = .returned (nm ((le b % 57896044618658097711785492504343953926634992332820282019728792003956564819968).toNat % pN)) ∧ Fr [] w w' := by
  have HB := Lib.hid hB
  clear hB
  go_enter Try.func29, Try.ntmps29
  go_wp2
  obtain ⟨V, hV⟩ : ∃ V, V = ((w.alloc (.cells (ints .u8 b) 22)).alloc (.cells (ints .i64 (zs 16)) 32)).alloc (.cells (ints .i64 (zs 16)) 3) := ⟨_, rfl⟩
  refine Eq.mp (congrArg (fun X => Code.wp _ _ _ _ X) hV) ?_
  have h0 : V.blk w.heap.size = some (.cells (ints .u8 b) 22) := by rw [hV]; go_simp
  have h1 : V.blk (w.heap.size + 1) = some (.cells (ints .i64 (zs 16)) 32) := by rw [hV]; go_simp
  have h2 : V.blk (w.heap.size + 2) = some (.cells (ints .i64 (zs 16)) 3) := by rw [hV]; go_simp
  have HFV := Lib.hid (show Fr [] w V by rw [hV]; exact (((Fr.refl _ _).alloc _).alloc _).alloc _)
  clear hV
  go_loopw [4] (fun iv wr => ∃ k : Nat, k ≤ 16 ∧ iv = .int .i64 k ∧ Hid (Fr [w.heap.size + 2] V wr) ∧ wr.blk (w.heap.size + 2) = some (.cells (ints .i64 (upd (pairD b) (zs 16) k)) 3)) (fun iv _ => 16 - (intOf iv).toNat)
  case atStart => exact ⟨0, by omega, rfl, Fr.refl _ _, by rw [upd_zero]; exact h2⟩
  case round =>
    obtain ⟨k, hk, rfl, FR, hc⟩ := hrel
    have k0 := FR.out.get h0 (by simp)
    have k1 := FR.out.get h1 (by simp)
    have hcl := World.at_lt hc
    clear h0 h1 h2
    have hlu := length_upd (pairD b) (zs 16) k (by rw [length_zs]; omega)
    rw [length_zs] at hlu
    by_cases hlt : k < 16
    · have d0 := HB.out.at_ (2 * k) (by omega)
      have d1 := HB.out.at_ (2 * k + 1) (by omega)
      have hset : (upd (pairD b) (zs 16) k).set k (el b (2 * k) + 256 * el b (2 * k + 1)) = upd (pairD b) (zs 16) (k + 1) := set_upd (pairD b) (zs 16) k (by rw [length_zs]; omega)
      have hk2 : 2 * k < 32 := by omega
      have hk3 : 2 * k + 1 < 32 := by omega
      go_wp2
      refine drawn_head 16 (by kernel_rfl) rfl rfl (by kernel_rfl) ?_
      change rowK _ _ _ [0,1,2,3,4,5,6,7,8,9,10,11,12,13,14,15] _ _
      repeat (refine rowK_step2 rfl rfl (fun K hK => ?_); go_wp2)
      refine rowK_nil ?_
      intro K hK
      go_wp2
      go_roundw
      case rel => exact ⟨k + 1, by omega, by go_num, FR.out.drew.put _ _ (by simp), World.at_put_same _ _ _ hcl⟩
      case measure => simp [intOf]; omega
    · obtain rfl : k = 16 := by omega
      have hfull : upd (pairD b) (zs 16) 16 = (List.range 16).map (pairD b) := upd_full _ _ _ (length_zs 16)
      rw [hfull] at hc hlu
      obtain ⟨D, hD⟩ : ∃ D, D = (List.range 16).map (pairD b) := ⟨_, rfl⟩
      rw [← hD] at hc hlu
      have d15 : el D 15 = pairD b 15 := by rw [hD, el_map_range _ _ _ (by omega)]
      have hpb : ∀ i, i < 16 → 0 ≤ pairD b i ∧ pairD b i < 65536 := fun i hi => by
        have := HB.out.at_ (2 * i) (by omega)
        have := HB.out.at_ (2 * i + 1) (by omega)
        unfold pairD; omega
      have hd15 := hpb 15 (by omega)
      rw [← d15] at hd15
      obtain ⟨E, hE⟩ : ∃ E, E = D.set 15 (el D 15 % 32768) := ⟨_, rfl⟩
      have hEl : E.length = 16 := by rw [hE, List.length_set]; exact hlu
      have hEb : ∀ i, 0 ≤ el E i ∧ el E i ≤ 1099511627776 := fun i => by
        rw [hE, el_set _ _ _ _ (by omega)]
        by_cases h15 : 15 = i
        · rw [if_pos h15]; omega
        · rw [if_neg h15]
          by_cases hi : i < 16
          · rw [hD, el_map_range _ _ _ hi]
            have := hpb i hi
            omega
          · rw [el_out _ _ (by omega)]; omega
      obtain ⟨n, hn⟩ : ∃ n, n = (le b % 57896044618658097711785492504343953926634992332820282019728792003956564819968).toNat := ⟨_, rfl⟩
      have hEp : pre E E.length = (n : Int) := by
        rw [hEl, hE, d15, hD, pre_of hlb HB.out, hn, Int.toNat_of_nonneg (by omega)]
      have hnlt : n < 65536 ^ 32 := by
        have : n < 57896044618658097711785492504343953926634992332820282019728792003956564819968 := by omega
        exact Nat.lt_trans this (by decide)
      have HE := Lib.hid hE.symm
      have HEB := Lib.hid hEb
      have HEP := Lib.hid hEp
      have HN := Lib.hid hn
      have HFX := Lib.hid (HFV.out.seq FR.out (by simp))
      have hset := hE.symm
      clear hfull hD hE hEb hEp hpb hn d15 k0
      go_wp2_with fail
      have hbk : (wr.put (w.heap.size + 2) (.cells (ints .i64 E) 3)).blk (w.heap.size + 2) = some (.cells (ints .i64 E) 3) := World.at_put_same _ _ _ hcl
      have hfold := fold_any (w.heap.size + 2) E n hbk (by omega) (by omega) HEB.out HEP.out hnlt
      rw [hEl] at hfold
      refine hfold.mono ?_
      rintro e w1 ⟨rfl, F1⟩
      have g1 := F1.get (b := w.heap.size + 1) (o := .cells (ints .i64 (zs 16)) 32) (by go_simp) (by simp)
      have g1l := World.at_lt g1
      have hlm := length_digs (n % pN)
      have HF := Lib.hid ((HFX.out.put _ _ (by omega)).seq F1 (by simp))
      clear F1 k1 hc hbk hfold
      simp only []
      go_wp2
      refine ret_cell rfl rfl rfl ?_
      go_simp
      rw [← HN.out]
      exact ⟨rfl, HF.out.put _ _ (by omega)⟩
end
end Go.Proofs.Ytakhmmnklkckpaa
namespace Go.Proofs.Ytakhmmnklkckpaa
open Go.RowKit Go.Dr

section
variable {w : World}
set_option maxRecDepth 100000 in
set_option maxHeartbeats 1000000 in
theorem rmul_any (m n : Nat) (hm : m < pN) (hn : n < pN) : Calls Try.prog 37 #[nm m, nm n] w fun e w' => e = .returned (nm (m * n % pN)) ∧ Fr [] w w' := by
  have lm := length_digs m
  have ln := length_digs n
  obtain ⟨q, hq⟩ : ∃ q, q = m * n % pN := ⟨_, rfl⟩
  rw [← hq]
  have HQ := Lib.hid hq
  clear hq
  unfold nm
  go_enter Try.func37, Try.ntmps37
  go_wp2
  obtain ⟨V, hV⟩ : ∃ V, V = (((w.alloc (.cells (ints .i64 (digs m)) 32)).alloc (.cells (ints .i64 (digs n)) 32)).alloc (.cells (ints .i64 (zs 16)) 32)).alloc (.cells (ints .i64 (zs 31)) 3) := ⟨_, rfl⟩
  refine Eq.mp (congrArg (fun X => Code.wp _ _ _ _ X) hV) ?_
  have h0 : V.blk w.heap.size = some (.cells (ints .i64 (digs m)) 32) := by rw [hV]; go_simp
  have h1 : V.blk (w.heap.size + 1) = some (.cells (ints .i64 (digs n)) 32) := by rw [hV]; go_simp
  have h2 : V.blk (w.heap.size + 2) = some (.cells (ints .i64 (zs 16)) 32) := by rw [hV]; go_simp
  have h3 : V.blk (w.heap.size + 3) = some (.cells (ints .i64 (zs 31)) 3) := by rw [hV]; go_simp
  have HFV := Lib.hid (show Fr [] w V by rw [hV]; exact ((((Fr.refl _ _).alloc _).alloc _).alloc _).alloc _)
  have H0 := Lib.hid h0
  have H1 := Lib.hid h1
  have H2 := Lib.hid h2
  clear hV h0 h1 h2
  have z31 : ∀ j, el (zs 31) j = 0 := el_zs 31
  have pz : ∀ k, pre (zs 31) k = 0 := fun k => by
    induction k with
    | zero => rfl
    | succ k ih => rw [pre, ih, z31]; simp
  go_loopw [6] (fun iv wr => ∃ (i : Nat) (D : List Int), i ≤ 16 ∧ iv = .int .i64 i ∧ D.length = 31 ∧ Hid (Fr [w.heap.size + 3] V wr) ∧ wr.blk (w.heap.size + 3) = some (.cells (ints .i64 D) 3) ∧
    Hid (∀ j, 0 ≤ el D j ∧ el D j ≤ 16 * i * 4294836225) ∧ Hid (pre D 31 = pre (digs m) i * n)) (fun iv _ => 16 - (intOf iv).toNat)
  case atStart => exact ⟨0, zs 31, by omega, rfl, rfl, Fr.refl _ _, h3, fun j => by rw [z31]; omega, by rw [Hid, pz]; simp [pre]⟩
  case round =>
    obtain ⟨i, D, hi, rfl, hDl, FR, hc, hDb, hDp⟩ := hrel
    clear h3 z31 pz
    by_cases hlt : i < 16
    · go_wp2
      rw [show decide ((i : Int) < 16) = true from by simp; omega]
      go_loopw [7] (fun kv wv => ∃ (k : Nat) (D : List Int), k ≤ 16 ∧ kv = .int .i64 k ∧ D.length = 31 ∧ Hid (Fr [w.heap.size + 3] V wv) ∧ wv.blk (w.heap.size + 3) = some (.cells (ints .i64 D) 3) ∧
        Hid (∀ j, 0 ≤ el D j ∧ el D j ≤ (16 * i + k) * 4294836225) ∧ Hid (pre D 31 = pre (digs m) i * n + el (digs m) i * 65536 ^ i * pre (digs n) k)) (fun kv _ => 16 - (intOf kv).toNat)
      case atStart => exact ⟨0, D, by omega, rfl, hDl, FR, hc, fun j => by have := hDb.out j; omega, by rw [Hid, hDp.out]; simp [pre]⟩
      case round =>
        obtain ⟨k, E, hk, rfl, hEl, FR2, hc2, hEb, hEp⟩ := hrel
        clear hc
        have hcl := World.at_lt hc2
        have k0 := FR2.out.get H0.out (by simp)
        have k1 := FR2.out.get H1.out (by simp)
        by_cases hltk : k < 16
        · have dm := el_digs_lt m i hlt
          have dn := el_digs_lt n k hltk
          have hmul : 0 ≤ el (digs m) i * el (digs n) k ∧ el (digs m) i * el (digs n) k ≤ 65535 * 65535 := ⟨Int.mul_nonneg dm.1 dn.1, Int.mul_le_mul (by omega) (by omega) dn.1 (by omega)⟩
          have hEj := hEb.out (i + k)
          have hik : i + k < 31 := by omega
          have hps := pre_set E (i + k) (by omega) (el (digs m) i * el (digs n) k) 31
          rw [if_pos hik] at hps
          obtain ⟨E', hE'⟩ : ∃ E', E' = E.set (i + k) (el E (i + k) + el (digs m) i * el (digs n) k) := ⟨_, rfl⟩
          have hE'l : E'.length = 31 := by rw [hE', List.length_set]; exact hEl
          have HE'b : Hid (∀ j, 0 ≤ el E' j ∧ el E' j ≤ (16 * i + (k + 1 : Nat)) * 4294836225) := fun j => by
            rw [hE', el_set _ _ _ _ (by omega)]
            have := hEb.out j
            split <;> omega
          have HE'p : Hid (pre E' 31 = pre (digs m) i * n + el (digs m) i * 65536 ^ i * pre (digs n) (k + 1)) := by
            rw [Hid, hE', hps, hEp.out, pre, Int.pow_add]
            grind
          have hset := hE'.symm
          clear hE' hps
          go_wp2
          refine drawn_head 19 (by kernel_rfl) rfl rfl (by kernel_rfl) ?_
          change rowK _ _ _ [0,1,2,3,4,5,6,7,8,9,10,11,12,13,14,15,16,17,18] _ _
          repeat (refine rowK_step2 rfl rfl (fun K hK => ?_); go_wp2)
          refine rowK_nil ?_
          intro K hK
          go_wp2
          go_roundw
          case rel => exact ⟨k + 1, E', by omega, by go_num, hE'l, FR2.out.drew.put _ _ (by simp), World.at_put_same _ _ _ hcl, HE'b, HE'p⟩
          case measure => simp [intOf]; omega
        · obtain rfl : k = 16 := by omega
          have hEp2 : Hid (pre E 31 = pre (digs m) (i + 1) * n) := by
            rw [Hid, hEp.out, pre_digs n (lt16 hn), pre]
            grind
          have hEb2 : Hid (∀ j, 0 ≤ el E j ∧ el E j ≤ 16 * ((i + 1 : Nat) : Int) * 4294836225) := fun j => by have := hEb.out j; omega
          go_wp2
          go_roundw
          case rel => exact ⟨i + 1, E, by omega, by go_num, hEl, FR2, hc2, hEb2, hEp2⟩
          case measure => simp [intOf]; omega
    · obtain rfl : i = 16 := by omega
      have hlt2 : m * n < 65536 ^ 32 := by
        have h1 : m * n ≤ pN * pN := Nat.mul_le_mul (by omega) (by omega)
        exact Nat.lt_of_le_of_lt h1 (by decide)
      have HFX := Lib.hid (HFV.out.seq FR.out (by simp))
      have g2 := FR.out.get H2.out (by simp)
      have hfold := fold_any (w := wr) (w.heap.size + 3) D (m * n) hc (by omega) (by omega) (fun j => by have := hDb.out j; omega) (by rw [hDl, hDp.out, pre_digs m (lt16 hm), Int.natCast_mul]) hlt2
      rw [hDl, ← HQ.out] at hfold
      have HFO := Lib.hid hfold
      clear hlt2 hfold
      go_wp2_with fail
      refine HFO.out.mono ?_
      rintro e w1 ⟨rfl, F1⟩
      have g3 := F1.get g2 (by simp)
      have g3l := World.at_lt g3
      have hlm := length_digs q
      have HF := Lib.hid (HFX.out.seq F1 (by simp))
      clear F1 g2 hc
      simp only []
      go_wp2
      refine ret_cell rfl rfl rfl ?_
      go_simp
      exact HF.out.put _ _ (by omega)
end
end Go.Proofs.Ytakhmmnklkckpaa
namespace Go.Proofs.Ytakhmmnklkckpaa
open Go.RowKit Go.Dr

theorem half_digit (n k : Nat) : ((n / 2 / 65536 ^ k % 65536 : Nat) : Int) = ((n / 65536 ^ k % 65536 : Nat) : Int) / 2 + ((n / 65536 ^ (k + 1) % 65536 : Nat) : Int) % 2 * 32768 := by
  rw [Nat.div_div_eq_div_mul, Nat.mul_comm 2, ← Nat.div_div_eq_div_mul, Nat.pow_succ, ← Nat.div_div_eq_div_mul n]
  generalize n / 65536 ^ k = y
  omega
theorem half_last (n : Nat) (hn : n < 65536 ^ 16) : ((n / 2 / 65536 ^ 15 % 65536 : Nat) : Int) = ((n / 65536 ^ 15 % 65536 : Nat) : Int) / 2 := by
  rw [half_digit n 15, Nat.div_eq_of_lt (show n < 65536 ^ (15 + 1) from hn)]
  simp
abbrev halfD (n k : Nat) : List Int := upd (fun i => ((n / 2 / 65536 ^ i % 65536 : Nat) : Int)) (digs n) k
section
variable {w : World}
set_option maxRecDepth 100000 in
theorem half_any (n : Nat) (hn : n < 65536 ^ 16) : Calls Try.prog 75 #[nm n] w fun e w' => e = .returned (nm (n / 2)) ∧ Fr [] w w' := by
  have ln := length_digs n
  have hl := half_last n hn
  rw [← el_digs n 15 (by omega)] at hl
  have HL := Lib.hid hl
  clear hl
  unfold nm
  go_enter Try.func75, Try.ntmps75
  go_wp2
  obtain ⟨V, hV⟩ : ∃ V, V = (w.alloc (.cells (ints .i64 (digs n)) 32)).alloc (.cells (ints .i64 (zs 16)) 32) := ⟨_, rfl⟩
  refine Eq.mp (congrArg (fun X => Code.wp _ _ _ _ X) hV) ?_
  have h0 : V.blk w.heap.size = some (.cells (ints .i64 (digs n)) 32) := by rw [hV]; go_simp
  have h1 : V.blk (w.heap.size + 1) = some (.cells (ints .i64 (zs 16)) 32) := by rw [hV]; go_simp
  have HFV := Lib.hid (show Fr [] w V by rw [hV]; exact ((Fr.refl _ _).alloc _).alloc _)
  clear hV
  go_loopw [3] (fun iv wr => ∃ k : Nat, k ≤ 16 ∧ iv = .int .i64 k ∧ Hid (Fr [w.heap.size] V wr) ∧ wr.blk w.heap.size = some (.cells (ints .i64 (halfD n k)) 32)) (fun iv _ => 16 - (intOf iv).toNat)
  case atStart => exact ⟨0, by omega, rfl, Fr.refl _ _, by unfold halfD; rw [upd_zero]; exact h0⟩
  case round =>
    obtain ⟨k, hk, rfl, FR, hc⟩ := hrel
    have hcl := World.at_lt hc
    have k1 := FR.out.get h1 (by simp)
    have k1l := World.at_lt k1
    clear h0 h1
    have hlu : (halfD n k).length = 16 := by unfold halfD; rw [length_upd _ _ _ (by omega)]; exact ln
    by_cases hlt : k < 16
    · have dk := el_digs_lt n k hlt
      have hel : el (halfD n k) k = el (digs n) k := by unfold halfD; rw [el_upd, if_neg (by omega)]
      have hset : ∀ x, ((n / 2 / 65536 ^ k % 65536 : Nat) : Int) = x → (halfD n k).set k x = halfD n (k + 1) := fun x hx => by
        unfold halfD; rw [← hx]; exact set_upd (fun i => ((n / 2 / 65536 ^ i % 65536 : Nat) : Int)) (digs n) k (by omega)
      by_cases h15 : k < 15
      · have dk1 := el_digs_lt n (k + 1) (by omega)
        have hx := half_digit n k
        rw [← el_digs n k hlt, ← el_digs n (k + 1) (by omega)] at hx
        have hs := hset _ hx
        have e1 : el ((halfD n k).set k (el (digs n) k / 2)) k = el (digs n) k / 2 := by rw [el_set _ _ _ _ (by omega), if_pos rfl]
        have e2 : el ((halfD n k).set k (el (digs n) k / 2)) (k + 1) = el (digs n) (k + 1) := by
          rw [el_set _ _ _ _ (by omega), if_neg (by omega)]; unfold halfD; rw [el_upd, if_neg (by omega)]
        have e3 : ((halfD n k).set k (el (digs n) k / 2)).set k (el (digs n) k / 2 + el (digs n) (k + 1) % 2 * 32768) = halfD n (k + 1) := by rw [List.set_set]; exact hs
        have hk1 : k + 1 < 16 := by omega
        obtain ⟨T, hT⟩ : ∃ T, T = (halfD n k).set k (el (digs n) k / 2) := ⟨_, rfl⟩
        have hTl : T.length = 16 := by rw [hT, List.length_set]; exact hlu
        rw [← hT] at e1 e2 e3
        have hT' := hT.symm
        clear hset hx hs hT
        go_wp2
        refine drawn_head 12 (by kernel_rfl) rfl rfl (by kernel_rfl) ?_
        change rowK _ _ _ [0,1,2,3,4,5,6,7,8,9,10,11] _ _
        repeat (refine rowK_step2 rfl rfl (fun K hK => ?_); go_wp2)
        refine rowK_nil ?_
        intro K hK
        go_wp2
        go_roundw
        case rel => exact ⟨k + 1, by omega, by go_num, (FR.out.put _ _ (by simp)).drew, World.at_put_same _ _ _ hcl⟩
        case measure => simp [intOf]; omega
      · obtain rfl : k = 15 := by omega
        have hs := hset _ (half_last n hn)
        rw [← el_digs n 15 hlt] at hs
        clear hset
        go_wp2
        go_roundw
        case rel => exact ⟨16, by omega, by go_num, FR.out.put _ _ (by simp), World.at_put_same _ _ _ hcl⟩
        case measure => simp [intOf]
    · obtain rfl : k = 16 := by omega
      have hfull : halfD n 16 = digs (n / 2) := upd_full _ _ _ ln
      rw [hfull] at hc hlu
      have HFX := Lib.hid (HFV.out.seq FR.out (by simp))
      clear hfull
      go_wp2
      refine ret_cell rfl rfl rfl ?_
      go_simp
      exact HFX.out.put _ _ (by omega)
end
/-- A Num of a number modulo p. -/
@[go_sem] def dF (x : Fp) : Value := .agg (ints .i64 (digs x.val))
theorem dF_lt (x : Fp) : x.val < pN := x.isLt
theorem pN_pos : 0 < pN := by decide
theorem toFp_val' (n : Nat) : (toFp n).val = n % pN := by
  have h := val_toFp n
  rw [show prI = (pN : Int) from rfl, ← Int.natCast_emod] at h
  exact Int.ofNat.inj h
section
variable {w : World}
theorem rmul_f (x y : Fp) : Calls Try.prog 37 #[dF x, dF y] w fun e w' => e = .returned (dF (x * y)) ∧ Fr [] w w' := by
  have h := rmul_any (w := w) x.val y.val (dF_lt x) (dF_lt y)
  rw [show x.val * y.val % pN = (x * y).val from (Fin.val_mul x y).symm] at h
  exact h
theorem radd_f (x y : Fp) : Calls Try.prog 31 #[dF x, dF y] w fun e w' => e = .returned (dF (x + y)) ∧ Fr [] w w' := by
  have h := radd_any (w := w) x.val y.val (dF_lt x) (dF_lt y)
  rw [show (x.val + y.val) % pN = (x + y).val from (Fin.val_add x y).symm] at h
  exact h
theorem rneg_f (x : Fp) : Calls Try.prog 35 #[dF x] w fun e w' => e = .returned (dF (-x)) ∧ Fr [] w w' := by
  have h := rneg_any (w := w) x.val (dF_lt x)
  rw [show (pN - x.val) % pN = (-x).val from (Fin.val_neg' x).symm] at h
  exact h
theorem rsub_f (x y : Fp) : Calls Try.prog 33 #[dF x, dF y] w fun e w' => e = .returned (dF (x - y)) ∧ Fr [] w w' := by
  have h := rsub_any (w := w) x.val y.val (dF_lt x) (dF_lt y)
  rw [show (pN - y.val) % pN = (-y).val from (Fin.val_neg' y).symm, show (x.val + (-y).val) % pN = (x + -y).val from (Fin.val_add x (-y)).symm, show x + -y = x - y from by grobner] at h
  exact h
theorem small_f (n : Nat) (hn : n ≤ 1099511627776) : Calls Try.prog 76 #[.int .i64 n] w fun e w' => e = .returned (dF (toFp n)) ∧ Fr [] w w' := by
  have h := small_any (w := w) n hn
  rw [← toFp_val'] at h
  exact h
theorem rof_f (b : List Int) (hlb : b.length = 32) (hB : Byt b) : Calls Try.prog 29 #[.agg (ints .u8 b)] w fun e w' => e = .returned (dF (toFp (le b % 57896044618658097711785492504343953926634992332820282019728792003956564819968))) ∧ Fr [] w w' := by
  have h := rof_any (w := w) b hlb hB
  rw [← toFp_val', Int.toNat_of_nonneg (Int.emod_nonneg _ (by decide))] at h
  exact h
theorem rbytes_f (x : Fp) : Calls Try.prog 28 #[dF x] w fun e w' => e = .returned (.agg (ints .u8 (bytesF x))) ∧ Fr [] w w' := rbytes_any x.val
end
theorem bit_digit (e i : Nat) : (e / 65536 ^ (i / 16) % 65536) / 2 ^ (i % 16) % 2 = e / 2 ^ i % 2 := by
  have h1 : 2 ^ i = 65536 ^ (i / 16) * 2 ^ (i % 16) := by
    rw [show (65536 : Nat) = 2 ^ 16 from rfl, ← Nat.pow_mul, ← Nat.pow_add, Nat.div_add_mod]
  rw [h1, ← Nat.div_div_eq_div_mul]
  generalize e / 65536 ^ (i / 16) = y
  have hr : i % 16 < 16 := Nat.mod_lt _ (by decide)
  generalize i % 16 = r at hr
  have hc : r = 0 ∨ r = 1 ∨ r = 2 ∨ r = 3 ∨ r = 4 ∨ r = 5 ∨ r = 6 ∨ r = 7 ∨ r = 8 ∨ r = 9 ∨ r = 10 ∨ r = 11 ∨ r = 12 ∨ r = 13 ∨ r = 14 ∨ r = 15 := by omega
  rcases hc with rfl | rfl | rfl | rfl | rfl | rfl | rfl | rfl | rfl | rfl | rfl | rfl | rfl | rfl | rfl | rfl <;> omega
section
variable {w : World}
set_option maxRecDepth 100000 in
theorem rpower_f (x : Fp) (e : Nat) (he : e < 65536 ^ 16) : Calls Try.prog 74 #[dF x, nm e] w fun r w' => r = .returned (dF (pw x e)) ∧ Fr [] w w' := by
  have lx := length_digs x.val
  have le' := length_digs e
  unfold dF nm
  go_enter Try.func74, Try.ntmps74
  go_wp2_with fail
  refine (small_f 1 (by decide)).mono ?_
  rintro r w1 ⟨rfl, F1⟩
  have k0 := F1.get (b := w.heap.size) (o := .cells (ints .i64 (digs x.val)) 32) (by go_simp) (by simp)
  have k1 := F1.get (b := w.heap.size + 1) (o := .cells (ints .i64 (digs e)) 32) (by go_simp) (by simp)
  have k2 := F1.get (b := w.heap.size + 2) (o := .cells (ints .i64 (zs 16)) 32) (by go_simp; rfl) (by simp)
  have HF1 := Lib.hid (((((Fr.refl [] w).alloc _).alloc _).alloc _).trans F1)
  have n0 := World.at_lt k0
  have n1 := World.at_lt k1
  have n2 := World.at_lt k2
  obtain ⟨y, hy⟩ : ∃ y, y = toFp ((1 : Nat) : Int) := ⟨_, rfl⟩
  have hy1 : y = 1 := by rw [hy]; exact toFp_one
  rw [← hy]
  have ly := length_digs y.val
  have HY := Lib.hid hy1
  clear F1 hy hy1
  simp only []
  go_wp2
  unfold dF
  obtain ⟨V, hV⟩ : ∃ V, V = w1.alloc (.cells (ints .i64 (digs y.val)) 32) := ⟨_, rfl⟩
  refine Eq.mp (congrArg (fun X => Code.wp _ _ _ _ X) hV) ?_
  have g0 : V.blk w.heap.size = some (.cells (ints .i64 (digs x.val)) 32) := by rw [hV, World.at_alloc_lt _ _ _ n0]; exact k0
  have g1 : V.blk (w.heap.size + 1) = some (.cells (ints .i64 (digs e)) 32) := by rw [hV, World.at_alloc_lt _ _ _ n1]; exact k1
  have g2 : V.blk (w.heap.size + 2) = some (.cells (ints .i64 (zs 16)) 32) := by rw [hV, World.at_alloc_lt _ _ _ n2]; exact k2
  have g3 : V.blk w1.heap.size = some (.cells (ints .i64 (digs y.val)) 32) := by rw [hV]; exact World.at_alloc_new _ _ _ rfl
  obtain ⟨B, hB⟩ : ∃ B, B = w1.heap.size := ⟨_, rfl⟩
  rw [← hB] at g3 n0 n1 n2 ⊢
  have G0 := Lib.hid g0
  have G1 := Lib.hid g1
  have G2 := Lib.hid g2
  have HFV := Lib.hid (show Fr [] w V by rw [hV]; exact HF1.out.alloc _)
  have m0 : B ≠ w.heap.size := by omega
  have m1 : B ≠ w.heap.size + 1 := by omega
  have m2 : B ≠ w.heap.size + 2 := by omega
  have HBo := Lib.hid (show w.heap.size ≤ B by omega)
  have start : Hid (y = pw x (e / 2 ^ 256)) := by
    rw [Hid, HY.out, Nat.div_eq_of_lt (show e < 2 ^ 256 from he), pw_zero]
  clear hV hB k0 k1 k2 g0 g1 g2
  go_loopw [6] (fun iv wr => ∃ (j : Nat) (z : Fp), j ≤ 256 ∧ iv = .int .i64 ((j : Int) - 1) ∧ Hid (Fr [B] V wr) ∧ wr.blk B = some (.cells (ints .i64 (digs z.val)) 32) ∧ Hid (z = pw x (e / 2 ^ j))) (fun iv _ => (intOf iv + 1).toNat)
  case atStart => exact ⟨256, y, by omega, rfl, Fr.refl _ _, g3, start⟩
  case round =>
    obtain ⟨j, z, hj, rfl, FR, hc, hz⟩ := hrel
    clear g3 start
    have lz := length_digs z.val
    have hcl := World.at_lt hc
    by_cases hj0 : 1 ≤ j
    · obtain ⟨i, rfl⟩ : ∃ i, j = i + 1 := ⟨j - 1, by omega⟩
      rw [show ((i + 1 : Nat) : Int) - 1 = (i : Int) from by omega]
      go_wp2_with fail
      refine (rmul_f z z).mono ?_
      rintro r w2 ⟨rfl, F2⟩
      obtain ⟨u, hu⟩ : ∃ u, u = z * z := ⟨_, rfl⟩
      rw [← hu]
      have lu := length_digs u.val
      have c2 := F2.get hc (by simp)
      have c2l := World.at_lt c2
      have FR2 := Lib.hid (FR.out.trans (F2.mono (fun _ h => by cases h)))
      have q1 := FR2.out.get G1.out (by simpa using m1.symm)
      have q0 := FR2.out.get G0.out (by simpa using m0.symm)
      have HU := Lib.hid hu
      have hE : e / 2 ^ i = 2 * (e / 2 ^ (i + 1)) + e / 2 ^ i % 2 := by
        rw [Nat.pow_succ, ← Nat.div_div_eq_div_mul]; omega
      have HE := Lib.hid hE
      have hbd := bit_digit e i
      have hi16 : i / 16 < 16 := by omega
      have hdig := el_digs e (i / 16) hi16
      have hand := i64_and1 (el (digs e) (i / 16) / 2 ^ (i % 16))
      have hpar : el (digs e) (i / 16) / 2 ^ (i % 16) % 2 = ((e / 2 ^ i % 2 : Nat) : Int) := by
        rw [hdig, ← hbd]
        generalize e / 65536 ^ (i / 16) % 65536 = d
        rw [Int.natCast_emod, Int.natCast_ediv, Int.natCast_pow]; rfl
      rw [hpar] at hand
      have dlt := el_digs_lt e (i / 16) hi16
      have hi64 : i % 16 < 64 := by omega
      clear F2 hu hE hbd hdig hpar hc hcl
      simp only []
      rcases Nat.mod_two_eq_zero_or_one (e / 2 ^ i) with hb | hb
      · rw [hb] at hand
        have HB := Lib.hid hb
        clear hb
        go_wp2
        go_roundw
        case rel =>
          refine ⟨i, u, by omega, by simp, FR2.out.put _ _ (by simp), World.at_put_same _ _ _ c2l, ?_⟩
          show u = _
          rw [HE.out, HB.out, Nat.add_zero, Nat.two_mul, pw_add, HU.out, hz.out]
        case measure => simp [intOf]
      · rw [hb] at hand
        have HB := Lib.hid hb
        clear hb
        go_wp2_with fail
        refine (rmul_f u x).mono ?_
        rintro r w3 ⟨rfl, F3⟩
        obtain ⟨v, hv⟩ : ∃ v, v = u * x := ⟨_, rfl⟩
        rw [← hv]
        have lv := length_digs v.val
        have c3 := F3.get (b := B) (o := .cells (ints .i64 (digs u.val)) 32) (by go_simp) (by simp)
        have c3l := World.at_lt c3
        have FR3 := Lib.hid ((FR2.out.put B (.cells (ints .i64 (digs u.val)) 32) (by simp)).trans (F3.mono (fun _ h => by cases h)))
        have HV := Lib.hid hv
        clear F3 hv c2 c2l q0 q1
        simp only []
        go_wp2
        go_roundw
        case rel =>
          refine ⟨i, v, by omega, by simp, FR3.out.put _ _ (by simp), World.at_put_same _ _ _ c3l, ?_⟩
          show v = _
          rw [HE.out, HB.out, pw_succ, Nat.two_mul, pw_add, HV.out, HU.out, hz.out]
        case measure => simp [intOf]
    · obtain rfl : j = 0 := by omega
      have q2 := FR.out.get G2.out (by simpa using m2.symm)
      have q2l := World.at_lt q2
      have HFX := Lib.hid (HFV.out.seq FR.out (fun k hk hlt => by rw [List.mem_singleton.1 hk] at hlt; have := HBo.out; omega))
      have hzx : z = pw x e := by have := hz.out; rwa [Nat.pow_zero, Nat.div_one] at this
      have HZ := Lib.hid hzx
      clear hzx
      go_wp2
      refine ret_cell rfl rfl rfl ?_
      go_simp
      rw [← HZ.out]
      exact ⟨rfl, HFX.out.put _ _ (by omega)⟩
end
end Go.Proofs.Ytakhmmnklkckpaa
namespace Go.Proofs.Ytakhmmnklkckpaa
open Go.RowKit Go.Dr

def lit1 (n : Int) : List Int := [n, 0, 0, 0, 0, 0, 0, 0, 0, 0, 0, 0, 0, 0, 0, 0]
section
variable {w : World}
theorem minus_lit2 : Calls Try.prog 69 #[nm pN, .agg (ints .i64 (lit1 2))] w fun e w' => e = .returned (nm pm2) ∧ Fr [] w w' := by
  have h := minus_any (w := w) pN 2 (by decide)
  rw [show nm 2 = .agg (ints .i64 (lit1 2)) from congrArg (fun l => Value.agg (ints .i64 l)) (show digs 2 = lit1 2 from by kernel_rfl), show pN - 2 = pm2 from by unfold pN pm2; omega] at h
  exact h
theorem minus_lit1 : Calls Try.prog 69 #[nm pN, .agg (ints .i64 (lit1 1))] w fun e w' => e = .returned (nm pm1) ∧ Fr [] w w' := by
  have h := minus_any (w := w) pN 1 (by decide)
  rw [show nm 1 = .agg (ints .i64 (lit1 1)) from congrArg (fun l => Value.agg (ints .i64 l)) (show digs 1 = lit1 1 from by kernel_rfl), show pN - 1 = pm1 from by unfold pN pm1; omega] at h
  exact h
set_option maxRecDepth 100000 in
theorem rinv_f (x : Fp) : Calls Try.prog 41 #[dF x] w fun e w' => e = .returned (dF (inv x)) ∧ Fr [] w w' := by
  have lx := length_digs x.val
  unfold dF
  go_enter Try.func41, Try.ntmps41
  go_wp2
  obtain ⟨V, hV⟩ : ∃ V, V = (w.alloc (.cells (ints .i64 (digs x.val)) 32)).alloc (.cells (ints .i64 (zs 16)) 32) := ⟨_, rfl⟩
  refine Eq.mp (congrArg (fun X => Code.wp _ _ _ _ X) hV) ?_
  have g0 : V.blk w.heap.size = some (.cells (ints .i64 (digs x.val)) 32) := by rw [hV]; go_simp
  have g1 : V.blk (w.heap.size + 1) = some (.cells (ints .i64 (zs 16)) 32) := by rw [hV]; go_simp
  have HF := Lib.hid (show Fr [] w V by rw [hV]; exact ((Fr.refl _ _).alloc _).alloc _)
  clear hV
  have hs : Has [(w.heap.size, .cells (ints .i64 (digs x.val)) 32), (w.heap.size + 1, .cells (ints .i64 (zs 16)) 32)] V := .cons g0 (.cons g1 (.nil _))
  obtain ⟨L, hL⟩ : ∃ L : List (Nat × Obj), L = [(w.heap.size, .cells (ints .i64 (digs x.val)) 32), (w.heap.size + 1, .cells (ints .i64 (zs 16)) 32)] := ⟨_, rfl⟩
  rw [← hL] at hs
  have HL := Lib.hid hL
  clear hL
  refine drawn_begin 5 (Has L) (by kernel_rfl) ?_
  refine drawn_reads (fuel := 4) [0, 2] rfl (by kernel_rfl) hs.drew ?_
  repeat (refine rowK_step2 rfl rfl (fun K hK => ?_); go_wp2)
  refine rowK_nil ⟨fun w' hw' => ?_, ?_⟩
  · rw [HL.out] at hw'
    have e1 := hw'.nth 0 rfl
    repeat (refine rowWp_step2 rfl rfl (fun K hK => ?_); go_wp2)
    exact rowWp_nil rfl
  refine drawn_next 1 (fuel := 3) rfl (by kernel_rfl) ?_
  intro K hK
  go_wp2_with fail
  refine prime_any.mono ?_
  rintro e wa ⟨rfl, FA⟩
  have sA := hs.drew.fr0 FA
  simp only []
  go_wp2
  refine ⟨sA, ?_⟩
  refine drawn_next 3 (fuel := 2) rfl (by kernel_rfl) ?_
  intro K hK
  go_wp2_with fail
  refine minus_lit2.mono ?_
  rintro e wb ⟨rfl, FB⟩
  have sB := sA.fr0 FB
  simp only []
  go_wp2
  refine ⟨sB, ?_⟩
  refine drawn_next 4 (fuel := 1) rfl (by kernel_rfl) ?_
  intro K hK
  go_wp2_with fail
  refine (rpower_f x pm2 (by decide)).mono ?_
  rintro e wc ⟨rfl, FC⟩
  have sC := sB.fr0 FC
  have HFC := Lib.hid ((((HF.out.drew).trans FA).trans FB).trans FC)
  have sC' := sC
  rw [HL.out] at sC'
  have d1 := sC'.nth 1 rfl
  have d1l := World.at_lt d1
  have hi := length_digs (pw x pm2).val
  clear FA FB FC sC' g0 g1 sA sB
  simp only []
  go_wp2
  refine ⟨sC, ?_⟩
  refine drawn_end rfl (by kernel_rfl) ?_
  intro K hK
  clear sC hs
  go_wp2
  refine ret_cell rfl rfl rfl ?_
  go_simp
  exact ⟨rfl, HFC.out.put _ _ (by omega)⟩
end
/-- May there be a root? -/
def eul (x : Fp) : Bool := decide (x ≠ 0) && decide (pw x pHalf ≠ 1)
theorem digs_eq (x y : Fp) : digs x.val = digs y.val ↔ x = y := by
  rw [digs_inj (lt16 (dF_lt x)) (lt16 (dF_lt y))]
  exact ⟨fun h => Fin.ext h, fun h => by rw [h]⟩
section
variable {w : World}
set_option maxRecDepth 100000 in
set_option maxHeartbeats 4000000 in
theorem rroot_walk (x : Fp) : Calls Try.prog 39 #[dF x] w fun e w' => e = .returned (.tuple #[dF (rootF x), .bool (rootOk x)]) ∧ Fr [] w w' := by
  have lx := length_digs x.val
  unfold dF
  go_enter Try.func39, Try.ntmps39
  go_wp2_with fail
  refine prime_any.mono ?_
  rintro e w1 ⟨rfl, F1⟩
  simp only []
  go_wp2_with fail
  refine minus_lit1.mono ?_
  rintro e w2 ⟨rfl, F2⟩
  have k0 := (F1.trans F2).get (b := w.heap.size) (o := .cells (ints .i64 (digs x.val)) 32) (by go_simp) (by simp)
  have k1 := (F1.trans F2).get (b := w.heap.size + 1) (o := .cells (ints .i64 (zs 16)) 32) (by go_simp; rfl) (by simp)
  have HF := Lib.hid (((((Fr.refl [] w).alloc _).alloc _).trans F1).trans F2)
  have n0 := World.at_lt k0
  have n1 := World.at_lt k1
  have lp := length_digs pm1
  clear F1 F2
  simp only []
  go_wp2
  obtain ⟨V, hV⟩ : ∃ V, V = w2.alloc (.cells (ints .i64 (digs pm1)) 32) := ⟨_, rfl⟩
  refine Eq.mp (congrArg (fun X => Code.wp _ _ _ _ X) hV) ?_
  have g0 : V.blk w.heap.size = some (.cells (ints .i64 (digs x.val)) 32) := by rw [hV, World.at_alloc_lt _ _ _ n0]; exact k0
  have g1 : V.blk (w.heap.size + 1) = some (.cells (ints .i64 (zs 16)) 32) := by rw [hV, World.at_alloc_lt _ _ _ n1]; exact k1
  have g2 : V.blk w2.heap.size = some (.cells (ints .i64 (digs pm1)) 32) := by rw [hV]; exact World.at_alloc_new _ _ _ rfl
  have HFV := Lib.hid (show Fr [] w V by rw [hV]; exact HF.out.alloc _)
  have hs : Has [(w.heap.size, .cells (ints .i64 (digs x.val)) 32), (w.heap.size + 1, .cells (ints .i64 (zs 16)) 32), (w2.heap.size, .cells (ints .i64 (digs pm1)) 32)] V := .cons g0 (.cons g1 (.cons g2 (.nil _)))
  obtain ⟨L, hL⟩ : ∃ L : List (Nat × Obj), L = [(w.heap.size, .cells (ints .i64 (digs x.val)) 32), (w.heap.size + 1, .cells (ints .i64 (zs 16)) 32), (w2.heap.size, .cells (ints .i64 (digs pm1)) 32)] := ⟨_, rfl⟩
  rw [← hL] at hs
  have HL := Lib.hid hL
  clear hL hV k0 k1
  go_cut [20] (fun v wc => v = .bool (eul x) ∧ Has L wc ∧ Hid (Fr [] w wc))
  case first =>
    by_cases hx : x = 0
    · have heq : (digs x.val == [0, 0, 0, 0, 0, 0, 0, 0, 0, 0, 0, 0, 0, 0, 0, 0]) = true := by
        rw [hx]; kernel_rfl
      have heul : eul x = false := by unfold eul; rw [decide_eq_false (fun h => h hx), Bool.false_and]
      have HEU := Lib.hid heul
      clear hx heul
      refine drawn_begin 11 (Has L) (by kernel_rfl) ?_
      refine drawn_reads (fuel := 0) [0, 1, 2, 3, 4, 5, 6, 7, 8, 9, 10] rfl (by kernel_rfl) hs.drew ?_
      iterate 4 (refine rowK_step2 rfl rfl (fun K hK => ?_); go_wp2)
      repeat (refine rowK_step rfl (fun K hK => ?_); go_simp; refine hK _ ?_; clear hK K)
      refine rowK_nil ⟨fun w' hw' => ?_, ?_⟩
      · rw [HL.out] at hw'
        have e1 := hw'.nth 0 rfl
        iterate 4 (refine rowWp_step2 rfl rfl (fun K hK => ?_); go_wp2)
        repeat (refine rowWp_step rfl (fun K hK => ?_); go_simp; refine hK _ ?_; clear hK K)
        exact rowWp_nil rfl
      refine drawn_end (ol := []) rfl (by kernel_rfl) ?_
      intro K hK
      go_wp2
      go_meet
      case rel => exact ⟨by rw [HEU.out], hs, HFV.out.drew⟩
    · have hne : (digs x.val == [0, 0, 0, 0, 0, 0, 0, 0, 0, 0, 0, 0, 0, 0, 0, 0]) = false := by
        rw [beq_dec, show ([0, 0, 0, 0, 0, 0, 0, 0, 0, 0, 0, 0, 0, 0, 0, 0] : List Int) = digs (0 : Fp).val from by kernel_rfl]
        exact decide_eq_false (fun h => hx ((digs_eq x 0).1 h))
      refine drawn_begin 11 (Has L) (by kernel_rfl) ?_
      refine drawn_reads (fuel := 7) [0, 1, 2, 3] rfl (by kernel_rfl) hs.drew ?_
      repeat (refine rowK_step2 rfl rfl (fun K hK => ?_); go_wp2)
      refine rowK_nil ⟨fun w' hw' => ?_, ?_⟩
      · rw [HL.out] at hw'
        have e1 := hw'.nth 0 rfl
        repeat (refine rowWp_step2 rfl rfl (fun K hK => ?_); go_wp2)
        exact rowWp_nil rfl
      refine drawn_reads (fuel := 5) [4, 5] rfl (by kernel_rfl) hs.drew ?_
      repeat (refine rowK_step rfl (fun K hK => ?_); go_simp; refine hK _ ?_; clear hK K)
      refine rowK_nil ⟨fun w' hw' => ?_, ?_⟩
      · rw [HL.out] at hw'
        have e1 := hw'.nth 0 rfl
        have e2 := hw'.nth 2 rfl
        repeat (refine rowWp_step rfl (fun K hK => ?_); go_simp; refine hK _ ?_; clear hK K)
        exact rowWp_nil rfl
      refine drawn_next 6 (fuel := 4) rfl (by kernel_rfl) ?_
      intro K hK
      go_wp2_with fail
      refine (half_any pm1 (by decide)).mono ?_
      rw [show pm1 / 2 = pHalf from by unfold pm1 pHalf; omega]
      rintro e wa ⟨rfl, FA⟩
      have sA := hs.drew.fr0 FA
      simp only []
      go_wp2
      refine ⟨sA, ?_⟩
      refine drawn_next 7 (fuel := 3) rfl (by kernel_rfl) ?_
      intro K hK
      obtain ⟨y, hy⟩ : ∃ y, y = pw x pHalf := ⟨_, rfl⟩
      obtain ⟨o, ho⟩ : ∃ o : Fp, o = 1 := ⟨_, rfl⟩
      go_wp2_with fail
      refine (rpower_f x pHalf (by decide)).mono ?_
      rw [← hy]
      rintro e wb ⟨rfl, FB⟩
      have sB := sA.fr0 FB
      have l1 := length_digs y.val
      have l2 := length_digs o.val
      have heul : (!decide (digs y.val = digs o.val)) = eul x := by
        unfold eul
        rw [decide_eq_true (show x ≠ 0 from hx), Bool.true_and, ← hy, ← ho, ← decide_not, Bool.eq_iff_iff, decide_eq_true_eq, decide_eq_true_eq, ne_eq, digs_eq]
      have HEU := Lib.hid heul
      have HO := Lib.hid ho
      clear hy ho heul
      simp only []
      go_wp2
      refine ⟨sB, ?_⟩
      refine drawn_next 8 (fuel := 2) rfl (by kernel_rfl) ?_
      intro K hK
      go_wp2_with fail
      refine (small_f 1 (by decide)).mono ?_
      rw [show toFp ((1 : Nat) : Int) = o from toFp_one.trans HO.out.symm]
      rintro e wc ⟨rfl, FC⟩
      have sC := sB.fr0 FC
      have HFC := Lib.hid ((((HFV.out.drew).trans FA).trans FB).trans FC)
      clear FA FB FC hne
      simp only []
      go_wp2
      refine ⟨sC, ?_⟩
      refine drawn_reads (fuel := 0) [9, 10] rfl (by kernel_rfl) sC ?_
      repeat (refine rowK_step rfl (fun K hK => ?_); go_simp; refine hK _ ?_; clear hK K)
      refine rowK_nil ⟨fun w' hw' => ?_, ?_⟩
      · repeat (refine rowWp_step rfl (fun K hK => ?_); go_simp; refine hK _ ?_; clear hK K)
        exact rowWp_nil rfl
      refine drawn_end (ol := []) rfl (by kernel_rfl) ?_
      intro K hK
      go_wp2
      go_meet
      case rel => exact ⟨by rw [← HEU.out], sC, HFC.out⟩
  case rest =>
    obtain ⟨rfl, sC, hFC⟩ := hcut
    rename_i wc
    have sC' := sC
    rw [HL.out] at sC'
    have c0 := sC'.nth 0 rfl
    have c1 := sC'.nth 1 rfl
    have c2 := sC'.nth 2 rfl
    have c1l := World.at_lt c1
    have n2 : w2.heap.size < wc.heap.size := World.at_lt c2
    clear sC sC' g0 g1 g2 hs HFV HL HF
    rcases root_cases x with ⟨h1, h2⟩ | ⟨⟨h1, h1'⟩, h2, h3, h4⟩
    · have heul : eul x = false := by
        unfold eul
        rcases h1 with h | h
        · rw [decide_eq_false (show ¬ (pw x pHalf ≠ 1) from fun hn => hn h), Bool.and_false]
        · rw [decide_eq_false (show ¬ (x ≠ 0) from fun hn => hn h), Bool.false_and]
      have hcand : rCand x = if pw x pEight * pw x pEight = x then pw x pEight else pw x pEight * im := by
        unfold rCand
        rcases h2 with h | h
        · rw [if_pos h]
          by_cases hx : pw x pEight * pw x pEight = -x
          · rw [if_pos hx]
            have hx0 : x = 0 := by
              have : x + x = 0 := by rw [h] at hx; grobner
              have h2 : (2 : Fp) * x = 0 := by grobner
              rcases mul_zero_or h2 with h3 | h3
              · exact absurd h3 (by decide)
              · exact h3
            have : pw x pEight = 0 := by
              rcases mul_zero_or (h.trans hx0) with h3 | h3 <;> exact h3
            rw [this]; grobner
          · rw [if_neg hx]
        · rw [if_pos h]
          by_cases hx : pw x pEight * pw x pEight = x
          · rw [if_pos hx]
            have hx0 : x = 0 := by
              have h2 : (2 : Fp) * x = 0 := by rw [hx] at h; grobner
              rcases mul_zero_or h2 with h3 | h3
              · exact absurd h3 (by decide)
              · exact h3
            have : pw x pEight = 0 := by
              rcases mul_zero_or (hx.trans hx0) with h3 | h3 <;> exact h3
            rw [this]; grobner
          · rw [if_neg hx]
      have hok : rootOk x = true := by
        unfold rootOk
        apply decide_eq_true
        unfold rCand
        have him := im_im
        rcases h2 with h | h
        · by_cases hx : pw x pEight * pw x pEight = -x
          · rw [if_pos hx]; grobner
          · rw [if_neg hx]; exact h
        · rw [if_pos h]; grobner
      have HCA := Lib.hid hcand
      have HOK := Lib.hid hok
      rw [heul]
      clear h1 h2 hcand hok heul
      go_wp2_with fail
      refine prime_any.mono ?_
      rintro e wa ⟨rfl, FA⟩
      simp only []
      go_wp2_with fail
      refine (half_any pN (by decide)).mono ?_
      rintro e wb ⟨rfl, FB⟩
      simp only []
      go_wp2_with fail
      refine (half_any (pN / 2) (by decide)).mono ?_
      rintro e wd ⟨rfl, FD⟩
      simp only []
      go_wp2_with fail
      refine (half_any (pN / 2 / 2) (by decide)).mono ?_
      rintro e we ⟨rfl, FE⟩
      have FX := ((FA.trans FB).trans FD).trans FE
      have c0' := FX.get c0 (by simp)
      have c1' := FX.get c1 (by simp)
      have c2' := FX.get c2 (by simp)
      have HFE := Lib.hid (hFC.out.trans FX)
      obtain ⟨q, hq⟩ : ∃ q, q = pN / 2 / 2 / 2 := ⟨_, rfl⟩
      rw [← hq]
      have lq := length_digs q
      have hq0 : el (digs q) 0 + 1 = 65534 := by rw [hq]; kernel_rfl
      have hset : (digs q).set 0 65534 = digs pEight := by rw [hq]; kernel_rfl
      have lpe := length_digs pEight
      clear FA FB FD FE FX hq c0 c1 c2 c1l
      have c0l := World.at_lt c0'
      have c1l := World.at_lt c1'
      have c2l := World.at_lt c2'
      simp only []
      go_wp2_with fail
      refine (rpower_f x pEight (by decide)).mono ?_
      rintro e wf ⟨rfl, FF⟩
      obtain ⟨r, hr⟩ : ∃ r, r = pw x pEight := ⟨_, rfl⟩
      rw [← hr]
      have lr := length_digs r.val
      have d0 := FF.get (b := w.heap.size) (o := .cells (ints .i64 (digs x.val)) 32) (by go_simp) (by simp)
      have d1 := FF.get (b := w.heap.size + 1) (o := .cells (ints .i64 (zs 16)) 32) (by go_simp) (by simp)
      have d2 := FF.get (b := w2.heap.size) (o := .cells (ints .i64 (digs pm1)) 32) (by go_simp) (by simp)
      have HFF := Lib.hid ((HFE.out.alloc _).trans FF)
      have HR := Lib.hid hr
      have e0 := World.at_lt d0
      have e1 := World.at_lt d1
      have e2 := World.at_lt d2
      clear FF hr c0' c1' c2' c0l c1l c2l hset hq0
      simp only []
      go_wp2
      obtain ⟨U, hU⟩ : ∃ U, U = wf.alloc (.cells (ints .i64 (digs r.val)) 32) := ⟨_, rfl⟩
      refine Eq.mp (congrArg (fun X => Code.wp _ _ _ _ X) hU) ?_
      obtain ⟨B, hB⟩ : ∃ B, B = wf.heap.size := ⟨_, rfl⟩
      rw [← hB] at e0 e1 e2 ⊢
      have g0 : U.blk w.heap.size = some (.cells (ints .i64 (digs x.val)) 32) := by rw [hU, World.at_alloc_lt _ _ _ (by omega)]; exact d0
      have g1 : U.blk (w.heap.size + 1) = some (.cells (ints .i64 (zs 16)) 32) := by rw [hU, World.at_alloc_lt _ _ _ (by omega)]; exact d1
      have g2 : U.blk w2.heap.size = some (.cells (ints .i64 (digs pm1)) 32) := by rw [hU, World.at_alloc_lt _ _ _ (by omega)]; exact d2
      have g3 : U.blk B = some (.cells (ints .i64 (digs r.val)) 32) := by rw [hU, hB]; exact World.at_alloc_new _ _ _ rfl
      have HFU := Lib.hid (show Fr [] w U by rw [hU]; exact HFF.out.alloc _)
      have m0 : B ≠ w.heap.size := by omega
      have m1 : B ≠ w.heap.size + 1 := by omega
      have m2 : B ≠ w2.heap.size := by omega
      have HBo := Lib.hid (show w.heap.size ≤ B by omega)
      have hs : Has [(w.heap.size, .cells (ints .i64 (digs x.val)) 32), (w.heap.size + 1, .cells (ints .i64 (zs 16)) 32), (w2.heap.size, .cells (ints .i64 (digs pm1)) 32), (B, .cells (ints .i64 (digs r.val)) 32)] U := .cons g0 (.cons g1 (.cons g2 (.cons g3 (.nil _))))
      clear hU hB d0 d1 d2
      obtain ⟨L, hL⟩ : ∃ L : List (Nat × Obj), L = [(w.heap.size, .cells (ints .i64 (digs x.val)) 32), (w.heap.size + 1, .cells (ints .i64 (zs 16)) 32), (w2.heap.size, .cells (ints .i64 (digs pm1)) 32), (B, .cells (ints .i64 (digs r.val)) 32)] := ⟨_, rfl⟩
      rw [← hL] at hs
      have HL := Lib.hid hL
      clear hL
      go_cut [37] (fun v wc => v = .bool (!decide (r * r = x)) ∧ Has L wc ∧ Hid (Fr [] w wc))
      case first =>
        refine drawn_begin 5 (Has L) (by kernel_rfl) ?_
        refine drawn_reads (fuel := 2) [0, 1, 3] rfl (by kernel_rfl) hs.drew ?_
        repeat (refine rowK_step2 rfl rfl (fun K hK => ?_); go_wp2)
        refine rowK_nil ⟨fun w' hw' => ?_, ?_⟩
        · rw [HL.out] at hw'
          have e1 := hw'.nth 0 rfl
          have e2 := hw'.nth 3 rfl
          repeat (refine rowWp_step2 rfl rfl (fun K hK => ?_); go_wp2)
          exact rowWp_nil rfl
        refine drawn_next 2 (fuel := 1) rfl (by kernel_rfl) ?_
        intro K hK
        obtain ⟨rr, hrr⟩ : ∃ rr, rr = r * r := ⟨_, rfl⟩
        go_wp2_with fail
        refine (rmul_f r r).mono ?_
        rw [← hrr]
        rintro e wa ⟨rfl, FA⟩
        have sA := hs.drew.fr0 FA
        have HFA := Lib.hid (HFU.out.drew.trans FA)
        have lrr := length_digs rr.val
        have HRR := Lib.hid hrr
        clear FA hrr
        simp only []
        go_wp2
        refine ⟨sA, ?_⟩
        refine drawn_reads (fuel := 0) [4] rfl (by kernel_rfl) sA ?_
        repeat (refine rowK_step2 rfl rfl (fun K hK => ?_); go_wp2)
        refine rowK_nil ⟨fun w' hw' => ?_, ?_⟩
        · repeat (refine rowWp_step2 rfl rfl (fun K hK => ?_); go_wp2)
          exact rowWp_nil rfl
        refine drawn_end (ol := []) rfl (by kernel_rfl) ?_
        intro K hK
        go_wp2
        go_meet
        case rel =>
          refine ⟨?_, sA, HFA.out⟩
          rw [← HRR.out]
          simp only [digs_eq]
      case rest =>
        obtain ⟨rfl, sD, hFD⟩ := hcut
        rename_i wd
        have sD' := sD
        rw [HL.out] at sD'
        have c0 := sD'.nth 0 rfl
        have c1 := sD'.nth 1 rfl
        have c2 := sD'.nth 2 rfl
        have c3 := sD'.nth 3 rfl
        clear g0 g1 g2 g3 hs sD'
        go_upto_if 37 with (fail)
        go_cut [] (fun wc => wc.blk w.heap.size = some (.cells (ints .i64 (digs x.val)) 32) ∧ wc.blk (w.heap.size + 1) = some (.cells (ints .i64 (zs 16)) 32) ∧ wc.blk B = some (.cells (ints .i64 (digs (rCand x).val)) 32) ∧ Hid (Fr [] w wc))
        case first =>
          by_cases hrx : r * r = x
          · rw [decide_eq_true hrx]
            have hca : rCand x = r := by rw [HCA.out, ← HR.out, if_pos hrx]
            have HC2 := Lib.hid hca
            clear hrx hca
            go_wp2
            go_meet
            case rel => exact ⟨c0, c1, by rw [HC2.out]; exact c3, hFD⟩
          · rw [decide_eq_false hrx]
            have hca : rCand x = r * im := by rw [HCA.out, ← HR.out, if_neg hrx]
            have HC2 := Lib.hid hca
            clear hrx hca
            go_wp2
            refine drawn_begin 7 (Has L) (by kernel_rfl) ?_
            refine drawn_reads (fuel := 6) [0, 2] rfl (by kernel_rfl) sD.drew ?_
            repeat (refine rowK_step2 rfl rfl (fun K hK => ?_); go_wp2)
            refine rowK_nil ⟨fun w' hw' => ?_, ?_⟩
            · rw [HL.out] at hw'
              have e1 := hw'.nth 2 rfl
              have e2 := hw'.nth 3 rfl
              repeat (refine rowWp_step2 rfl rfl (fun K hK => ?_); go_wp2)
              exact rowWp_nil rfl
            refine drawn_next 1 (fuel := 5) rfl (by kernel_rfl) ?_
            intro K hK
            go_wp2_with fail
            refine (small_f 2 (by decide)).mono ?_
            rw [show toFp ((2 : Nat) : Int) = 2 from by kernel_rfl]
            rintro e wa ⟨rfl, FA⟩
            have sA := sD.drew.fr0 FA
            obtain ⟨two, htwo⟩ : ∃ two : Fp, two = 2 := ⟨_, rfl⟩
            rw [← htwo]
            have HTW := Lib.hid htwo
            clear htwo
            simp only []
            go_wp2
            refine ⟨sA, ?_⟩
            refine drawn_next 3 (fuel := 4) rfl (by kernel_rfl) ?_
            intro K hK
            go_wp2_with fail
            refine (half_any pm1 (by decide)).mono ?_
            rw [show pm1 / 2 = pHalf from by unfold pm1 pHalf; omega]
            rintro e wb ⟨rfl, FB⟩
            have sB := sA.fr0 FB
            simp only []
            go_wp2
            refine ⟨sB, ?_⟩
            refine drawn_next 4 (fuel := 3) rfl (by kernel_rfl) ?_
            intro K hK
            go_wp2_with fail
            refine (half_any pHalf (by decide)).mono ?_
            rw [show pHalf / 2 = pQuart from by unfold pQuart pHalf; omega]
            rintro e wg ⟨rfl, FG⟩
            have sG := sB.fr0 FG
            simp only []
            go_wp2
            refine ⟨sG, ?_⟩
            refine drawn_next 5 (fuel := 2) rfl (by kernel_rfl) ?_
            intro K hK
            go_wp2_with fail
            refine (rpower_f two pQuart (by decide)).mono ?_
            rw [show pw two pQuart = im from by rw [HTW.out]; rfl]
            rintro e wh ⟨rfl, FH⟩
            have sH := sG.fr0 FH
            simp only []
            go_wp2
            refine ⟨sH, ?_⟩
            refine drawn_next 6 (fuel := 1) rfl (by kernel_rfl) ?_
            intro K hK
            obtain ⟨v, hv⟩ : ∃ v, v = r * im := ⟨_, rfl⟩
            go_wp2_with fail
            refine (rmul_f r im).mono ?_
            rw [← hv]
            rintro e wi ⟨rfl, FI⟩
            have sI := sH.fr0 FI
            have HFI := Lib.hid (((((hFD.out.drew.trans FA).trans FB).trans FG).trans FH).trans FI)
            have sI' := sI
            rw [HL.out] at sI'
            have f0 := sI'.nth 0 rfl
            have f1 := sI'.nth 1 rfl
            have f3 := sI'.nth 3 rfl
            have f3l := World.at_lt f3
            have lv := length_digs v.val
            have HV := Lib.hid hv
            clear FA FB FG FH FI sA sB sG sH sI' c0 c1 c2 c3 hv
            simp only []
            go_wp2
            refine ⟨sI, ?_⟩
            refine drawn_end rfl (by kernel_rfl) ?_
            intro K hK
            clear sI sD
            go_wp2
            go_meet
            case rel =>
              rw [HC2.out, ← HV.out]
              refine ⟨?_, ?_, World.at_put_same _ _ _ f3l, HFI.out.put _ _ (fun h => by have := HBo.out; omega)⟩
              · rw [World.at_put_other _ _ _ _ m0]; exact f0
              · rw [World.at_put_other _ _ _ _ m1]; exact f1
        case rest =>
          obtain ⟨p0, p1, p3, hFP⟩ := hcut
          rename_i wp
          have p1l := World.at_lt p1
          have p3l := World.at_lt p3
          clear c0 c1 c2 c3 sD HL
          obtain ⟨v, hv⟩ : ∃ v, v = rCand x := ⟨_, rfl⟩
          rw [← hv] at p3
          have lv := length_digs v.val
          have hodd : el (digs v.val) 0 % 2 = if oddF v then 1 else 0 := by
            rw [el_digs _ _ (by omega), Nat.pow_zero, Nat.div_one]
            unfold oddF
            split <;> simp_all <;> omega
          have hlt := el_digs_lt v.val 0 (by omega)
          have HV := Lib.hid hv
          clear hv
          cases ho : oddF v with
          | true =>
            rw [ho] at hodd
            simp only [↓reduceIte] at hodd
            have hrf : rootF x = -v := by rw [HV.out] at ho ⊢; exact rootF_odd HOK.out ho
            have HRF := Lib.hid hrf
            obtain ⟨nv, hnv⟩ : ∃ nv, nv = -v := ⟨_, rfl⟩
            have HNV := Lib.hid hnv
            clear hrf ho
            go_wp2_with fail
            refine (rneg_f v).mono ?_
            rw [← HNV.out]
            rintro e wq ⟨rfl, FQ⟩
            have q1 := FQ.get p1 (by simp)
            have q3 := FQ.get p3 (by simp)
            have q1l := World.at_lt q1
            have q3l := World.at_lt q3
            have lnv := length_digs nv.val
            have HFQ := Lib.hid (hFP.out.trans FQ)
            clear FQ p0 p1 p3 p1l p3l hnv
            simp only []
            go_wp2
            refine ret_cell_tmp rfl rfl rfl ?_
            go_simp
            rw [HRF.out, HOK.out, HNV.out]
            exact ⟨⟨rfl, rfl⟩, (HFQ.out.put _ _ (fun h => by have := HBo.out; omega)).put _ _ (by omega)⟩
          | false =>
            rw [ho] at hodd
            simp only [Bool.false_eq_true, ↓reduceIte] at hodd
            have hrf : rootF x = v := by rw [HV.out] at ho ⊢; exact rootF_even HOK.out ho
            have HRF := Lib.hid hrf
            clear hrf ho
            go_wp2
            refine ret_cell_tmp rfl rfl rfl ?_
            go_simp
            rw [HRF.out, HOK.out]
            exact ⟨⟨rfl, rfl⟩, hFP.out.put _ _ (by omega)⟩
    · have heul : eul x = true := by unfold eul; rw [decide_eq_true h1', decide_eq_true h1]; rfl
      have hok : rootOk x = false := by
        unfold rootOk
        apply decide_eq_false
        unfold rCand
        rw [if_neg h3]; exact h2
      have HOK := Lib.hid hok
      have HRF := Lib.hid (rootF_none hok)
      rw [heul]
      clear h1 h1' h2 h3 h4 heul hok
      go_wp2
      refine ret_cell_tmp rfl rfl rfl ?_
      go_simp
      rw [HRF.out, HOK.out]
      refine ⟨⟨by kernel_rfl, rfl⟩, hFC.out.put _ _ (by omega)⟩
end
end Go.Proofs.Ytakhmmnklkckpaa
namespace Go.Proofs.Ytakhmmnklkckpaa
open Go.RowKit Go.Dr

theorem val_neg_ne {x : Fp} (h : x ≠ 0) : (-x).val + x.val = pN := by
  have h1 : x.val ≠ 0 := fun h0 => h (Fin.ext h0)
  have h2 := x.isLt
  have h3 := val_negF x
  unfold prI at h3
  unfold pN
  omega
theorem evenOf_neg (x : Fp) : evenOf (-x) = evenOf x := by
  by_cases h : x = 0
  · subst h
    have : (-(0 : Fp)) = 0 := by grobner
    rw [this]
  · have h1 := val_neg_ne h
    unfold evenOf oddF
    by_cases h2 : x.val % 2 = 1
    · have h3 : ¬ (-x).val % 2 = 1 := by unfold pN at h1; omega
      rw [decide_eq_true h2, decide_eq_false h3, if_neg Bool.false_ne_true, if_pos rfl]
    · have h3 : (-x).val % 2 = 1 := by unfold pN at h1; omega
      rw [decide_eq_false h2, decide_eq_true h3, if_pos rfl, if_neg Bool.false_ne_true]
      grobner
theorem rCand_ok {x : Fp} (h : pw x pEight * pw x pEight = x ∨ pw x pEight * pw x pEight = -x) : rCand x * rCand x = x := by
  have him := im_im
  unfold rCand
  rcases h with h | h
  · by_cases hx : pw x pEight * pw x pEight = -x
    · rw [if_pos hx]; grobner
    · rw [if_neg hx]; exact h
  · rw [if_pos h]; grobner
/-- Of a square the root is the number or its contrary: the even one. -/
theorem root_sq (x : Fp) : rootOk (x * x) = true ∧ rootF (x * x) = evenOf x := by
  have h : rCand (x * x) * rCand (x * x) = x * x := by
    rcases root_cases (x * x) with ⟨_, h⟩ | ⟨_, _, _, h⟩
    · exact rCand_ok h
    · exact (h ⟨x, rfl⟩).elim
  have hok : rootOk (x * x) = true := decide_eq_true h
  refine ⟨hok, ?_⟩
  rw [rootF, if_pos hok]
  have h2 : (rCand (x * x) - x) * (rCand (x * x) + x) = 0 := by grobner
  rcases mul_zero_or h2 with h3 | h3
  · rw [show rCand (x * x) = x from by grobner]
  · rw [show rCand (x * x) = -x from by grobner, evenOf_neg]
/-- A small number's bytes. -/
def b1 (n : Int) : List Int := [n, 0, 0, 0, 0, 0, 0, 0, 0, 0, 0, 0, 0, 0, 0, 0, 0, 0, 0, 0, 0, 0, 0, 0, 0, 0, 0, 0, 0, 0, 0, 0]
theorem byt_b1 {n : Int} (h : 0 ≤ n ∧ n < 256) : Byt (b1 n) := by
  intro x hx
  simp only [b1, List.mem_cons, List.not_mem_nil, or_false] at hx
  rcases hx with rfl | hx
  · exact h
  · have : x = 0 := by rcases hx with h | h | h | h | h | h | h | h | h | h | h | h | h | h | h | h | h | h | h | h | h | h | h | h | h | h | h | h | h | h | h <;> exact h
    omega
theorem le_b1 (n : Int) : le (b1 n) = n := by simp [b1, le]
theorem byt_bytesF (x : Fp) : Byt (bytesF x) := fun y hy => by
  rw [bytesF, bytesL, List.mem_map] at hy
  obtain ⟨i, _, rfl⟩ := hy
  omega
/-- The number that bytes say. -/
def fromB (b : List Int) : Fp := toFp (le b % 57896044618658097711785492504343953926634992332820282019728792003956564819968)
theorem fromB_b1 {n : Int} (h : 0 ≤ n ∧ n < 256) : fromB (b1 n) = toFp n := by
  rw [fromB, le_b1, Int.emod_eq_of_lt h.1 (by omega)]
theorem fromB_bytesF (x : Fp) : fromB (bytesF x) = x := by
  have := x.isLt
  rw [fromB, le_bytesF, Int.emod_eq_of_lt (by omega) (by omega), toFp_val]
theorem bytesF_4 : bytesF (toFp 4) = b1 4 := by kernel_rfl
theorem bytesF_2 : bytesF (toFp 2) = b1 2 := by kernel_rfl
theorem bytesF_0 : bytesF 0 = b1 0 := by kernel_rfl
theorem root_4 : rootOk (toFp 4) = true ∧ rootF (toFp 4) = toFp 2 := by
  have h := root_sq (toFp 2)
  rw [show toFp 2 * toFp 2 = toFp 4 from by kernel_rfl] at h
  refine ⟨h.1, h.2.trans ?_⟩
  rw [evenOf, if_neg (show ¬ oddF (toFp 2) = true from by rw [show oddF (toFp 2) = false from by kernel_rfl]; exact Bool.false_ne_true)]
section
variable {w : World}
theorem of_b {b : List Int} (hlb : b.length = 32) (hb : Byt b) : Calls Try.prog 27 #[.agg (ints .u8 b)] w fun e w' => ∃ c, e = .returned (fe c) ∧ Is c (fromB b) ∧ Fr [] w w' := of_f hlb hb
theorem of_1 {n : Int} (h : 0 ≤ n ∧ n < 256) : Calls Try.prog 27 #[.agg (ints .u8 (b1 n))] w fun e w' => ∃ c, e = .returned (fe c) ∧ Is c (toFp n) ∧ Fr [] w w' := by
  have := of_b (w := w) (b := b1 n) rfl (byt_b1 h)
  rwa [fromB_b1 h] at this
set_option maxRecDepth 100000 in
set_option maxHeartbeats 1000000 in
theorem alive_any : Calls Try.prog 25 #[] w fun e w' => e = .returned (.bool true) ∧ Fr [] w w' := by
  go_enter Try.func25, Try.ntmps25
  go_wp2_with fail
  refine (of_1 (n := 2) (by decide)).mono ?_
  rintro e w1 ⟨t, rfl, ht, F1⟩
  have HT := Lib.hid ht
  have lt := ht.len
  have HF1 := Lib.hid F1
  clear ht F1
  go_wp2_with fail
  refine (of_1 (n := 4) (by decide)).mono ?_
  rintro e w2 ⟨f, rfl, hf, F2⟩
  have HFo := Lib.hid hf
  have lf := hf.len
  have k1 := F2.get (b := w1.heap.size) (o := .cells (ints .u64 t) 28) (by go_simp) (by simp)
  have HF2 := Lib.hid ((HF1.out.alloc _).trans F2)
  have k1l := World.at_lt k1
  clear hf F2
  go_wp2_with fail
  refine (root_walk f (toFp 4) HFo.out).mono ?_
  rw [root_4.1, root_4.2]
  rintro e w3 ⟨r, rfl, hr, F3⟩
  have HR := Lib.hid hr
  have lr := hr.len
  have m1 := F3.get (b := w1.heap.size) (o := .cells (ints .u64 t) 28) (by go_simp) (by simp)
  have m2 := F3.get (b := w2.heap.size) (o := .cells (ints .u64 f) 28) (by go_simp) (by simp)
  have HF3 := Lib.hid ((HF2.out.alloc _).trans F3)
  have m1l := World.at_lt m1
  have m2l := World.at_lt m2
  clear hr F3 k1 k1l
  go_wp2_with fail
  refine (add_f HT.out HT.out).mono ?_
  rw [show toFp 2 + toFp 2 = toFp 4 from by kernel_rfl]
  rintro e w4 ⟨s, rfl, hs, F4⟩
  have HS := Lib.hid hs
  have q1 := F4.get (b := w1.heap.size) (o := .cells (ints .u64 t) 28) (by go_simp) (by simp)
  have q2 := F4.get (b := w2.heap.size) (o := .cells (ints .u64 f) 28) (by go_simp) (by simp)
  have q3 := F4.get (b := w3.heap.size) (o := .cells (ints .u64 r) 28) (by go_simp) (by simp)
  have HF4 := Lib.hid ((HF3.out.alloc _).trans F4)
  clear hs F4 m1 m2 m1l m2l
  go_wp2_with fail
  refine (bytes_f HS.out).mono ?_
  rw [bytesF_4]
  rintro e w5 ⟨rfl, F5⟩
  have r1 := F5.get q1 (by simp)
  have r2 := F5.get q2 (by simp)
  have r3 := F5.get q3 (by simp)
  have HF5 := Lib.hid (HF4.out.trans F5)
  have e4 : (b1 4 == [4, 0, 0, 0, 0, 0, 0, 0, 0, 0, 0, 0, 0, 0, 0, 0, 0, 0, 0, 0, 0, 0, 0, 0, 0, 0, 0, 0, 0, 0, 0, 0]) = true := by kernel_rfl
  have e2 : (b1 2 == [2, 0, 0, 0, 0, 0, 0, 0, 0, 0, 0, 0, 0, 0, 0, 0, 0, 0, 0, 0, 0, 0, 0, 0, 0, 0, 0, 0, 0, 0, 0, 0]) = true := by kernel_rfl
  have e0 : (b1 0 == [0, 0, 0, 0, 0, 0, 0, 0, 0, 0, 0, 0, 0, 0, 0, 0, 0, 0, 0, 0, 0, 0, 0, 0, 0, 0, 0, 0, 0, 0, 0, 0]) = true := by kernel_rfl
  have l4 : (b1 4).length = 32 := rfl
  have l2 : (b1 2).length = 32 := rfl
  have l0 : (b1 0).length = 32 := rfl
  clear F5 q1 q2 q3
  simp only []
  go_wp2_with fail
  refine (mul_f HT.out HT.out).mono ?_
  rw [show toFp 2 * toFp 2 = toFp 4 from by kernel_rfl]
  rintro e w6 ⟨m, rfl, hm, F6⟩
  have HM := Lib.hid hm
  have s1 := F6.get r1 (by simp)
  have s2 := F6.get r2 (by simp)
  have s3 := F6.get r3 (by simp)
  have HF6 := Lib.hid (HF5.out.trans F6)
  clear hm F6 r1 r2 r3
  simp only []
  go_wp2_with fail
  refine (bytes_f HM.out).mono ?_
  rw [bytesF_4]
  rintro e w7 ⟨rfl, F7⟩
  have t1 := F7.get s1 (by simp)
  have t2 := F7.get s2 (by simp)
  have t3 := F7.get s3 (by simp)
  have HF7 := Lib.hid (HF6.out.trans F7)
  clear F7 s1 s2 s3
  simp only []
  go_wp2_with fail
  refine (sub_f HFo.out HFo.out).mono ?_
  rw [show toFp 4 - toFp 4 = 0 from by kernel_rfl]
  rintro e w8 ⟨d, rfl, hd, F8⟩
  have HD := Lib.hid hd
  have u1 := F8.get t1 (by simp)
  have u2 := F8.get t2 (by simp)
  have u3 := F8.get t3 (by simp)
  have HF8 := Lib.hid (HF7.out.trans F8)
  clear hd F8 t1 t2 t3
  simp only []
  go_wp2_with fail
  refine (bytes_f HD.out).mono ?_
  rw [bytesF_0]
  rintro e w9 ⟨rfl, F9⟩
  have v3 := F9.get u3 (by simp)
  have HF9 := Lib.hid (HF8.out.trans F9)
  clear F9 u1 u2 u3
  simp only []
  go_wp2_with fail
  refine (bytes_f HR.out).mono ?_
  rw [bytesF_2]
  rintro e w10 ⟨rfl, F10⟩
  have HF10 := Lib.hid (HF9.out.trans F10)
  clear F10 v3
  simp only []
  go_wp2
  go_ret
  exact ⟨rfl, HF10.out⟩
end
end Go.Proofs.Ytakhmmnklkckpaa
namespace Go.Proofs.Ytakhmmnklkckpaa
open Go.RowKit Go.Dr

section
variable {w : World}
theorem rof_b {b : List Int} (hlb : b.length = 32) (hb : Byt b) : Calls Try.prog 29 #[.agg (ints .u8 b)] w fun e w' => e = .returned (dF (fromB b)) ∧ Fr [] w w' := rof_f b hlb hb
set_option maxRecDepth 100000 in
set_option maxHeartbeats 1000000 in
theorem fieldBytes_walk (b : List Int) (hlb : b.length = 32) (hb : Byt b) : Calls Try.prog 3 #[.agg (ints .u8 b)] w fun e w' => e = .returned (.bool true) ∧ Fr [] w w' := by
  have HB := Lib.hid hb
  clear hb
  go_enter Try.func3, Try.ntmps3
  go_wp2_with fail
  refine alive_any.mono ?_
  rintro e w1 ⟨rfl, F1⟩
  have k0 := F1.get (b := w.heap.size) (o := .cells (ints .u8 b) 22) (by go_simp) (by simp)
  have HF1 := Lib.hid (((Fr.refl [] w).alloc _).trans F1)
  have k0l := World.at_lt k0
  clear F1
  simp only []
  go_wp2_with fail
  refine (of_b hlb HB.out).mono ?_
  rintro e w2 ⟨c, rfl, hc, F2⟩
  have HC := Lib.hid hc
  have m0 := F2.get k0 (by simp)
  have HF2 := Lib.hid (HF1.out.trans F2)
  clear hc F2 k0 k0l
  simp only []
  go_wp2_with fail
  refine (bytes_f HC.out).mono ?_
  rintro e w3 ⟨rfl, F3⟩
  obtain ⟨a, ha⟩ : ∃ a, a = bytesF (fromB b) := ⟨_, rfl⟩
  rw [← ha]
  have la : a.length = 32 := by rw [ha]; exact length_bytesF _
  have q0 := F3.get m0 (by simp)
  have HF3 := Lib.hid (HF2.out.trans F3)
  have HA := Lib.hid ha
  have q0l := World.at_lt q0
  clear F3 m0 ha
  simp only []
  go_wp2
  obtain ⟨V, hV⟩ : ∃ V, V = w3.alloc (.cells (ints .u8 a) 22) := ⟨_, rfl⟩
  refine Eq.mp (congrArg (fun X => Code.wp _ _ _ _ X) hV) ?_
  have g0 : V.blk w.heap.size = some (.cells (ints .u8 b) 22) := by rw [hV, World.at_alloc_lt _ _ _ q0l]; exact q0
  have g1 : V.blk w3.heap.size = some (.cells (ints .u8 a) 22) := by rw [hV]; exact World.at_alloc_new _ _ _ rfl
  have HFV := Lib.hid (show Fr [] w V by rw [hV]; exact HF3.out.alloc _)
  have hs : Has [(w.heap.size, .cells (ints .u8 b) 22), (w3.heap.size, .cells (ints .u8 a) 22)] V := .cons g0 (.cons g1 (.nil _))
  obtain ⟨L, hL⟩ : ∃ L : List (Nat × Obj), L = [(w.heap.size, .cells (ints .u8 b) 22), (w3.heap.size, .cells (ints .u8 a) 22)] := ⟨_, rfl⟩
  rw [← hL] at hs
  have HL := Lib.hid hL
  clear hL hV q0 q0l
  refine drawn_begin 13 (Has L) (by kernel_rfl) ?_
  refine drawn_reads (fuel := 11) [0, 1] rfl (by kernel_rfl) hs.drew ?_
  repeat (refine rowK_step2 rfl rfl (fun K hK => ?_); go_wp2)
  refine rowK_nil ⟨fun w' hw' => ?_, ?_⟩
  · rw [HL.out] at hw'
    have e1 := hw'.nth 0 rfl
    have e2 := hw'.nth 1 rfl
    repeat (refine rowWp_step2 rfl rfl (fun K hK => ?_); go_wp2)
    exact rowWp_nil rfl
  refine drawn_next 2 (fuel := 10) rfl (by kernel_rfl) ?_
  intro K hK
  go_wp2_with fail
  refine (rof_b hlb HB.out).mono ?_
  rintro e wa ⟨rfl, FA⟩
  have sA := hs.drew.fr0 FA
  simp only []
  go_wp2
  refine ⟨sA, ?_⟩
  refine drawn_next 3 (fuel := 9) rfl (by kernel_rfl) ?_
  intro K hK
  go_wp2_with fail
  refine (rbytes_f (fromB b)).mono ?_
  rw [← HA.out]
  rintro e wb ⟨rfl, FB⟩
  have sB := sA.fr0 FB
  have sB' := sB
  rw [HL.out] at sB'
  have d1 := sB'.nth 1 rfl
  simp only []
  go_wp2
  refine ⟨sB, ?_⟩
  refine drawn_reads (fuel := 5) [4, 5, 6, 9] rfl (by kernel_rfl) sB ?_
  repeat (first | (refine rowK_step2 rfl rfl (fun K hK => ?_); go_wp2) | (refine rowK_step rfl (fun K hK => ?_); go_simp; refine hK _ ?_; clear hK K))
  refine rowK_nil ⟨fun w' hw' => ?_, ?_⟩
  · rw [HL.out] at hw'
    have e2 := hw'.nth 1 rfl
    repeat (first | (refine rowWp_step2 rfl rfl (fun K hK => ?_); go_wp2) | (refine rowWp_step rfl (fun K hK => ?_); go_simp; refine hK _ ?_; clear hK K))
    exact rowWp_nil rfl
  refine drawn_next 7 (fuel := 4) rfl (by kernel_rfl) ?_
  intro K hK
  go_wp2_with fail
  refine (of_b (b := a) la (by rw [HA.out]; exact byt_bytesF _)).mono ?_
  rw [show fromB a = fromB b from by rw [HA.out, fromB_bytesF]]
  rintro e wd ⟨c2, rfl, hc2, FD⟩
  have sD := sB.fr0 FD
  have HC2 := Lib.hid hc2
  clear hc2 d1 sB'
  simp only []
  go_wp2
  refine ⟨sD, ?_⟩
  refine drawn_next 8 (fuel := 3) rfl (by kernel_rfl) ?_
  intro K hK
  go_wp2_with fail
  refine (bytes_f HC2.out).mono ?_
  rw [← HA.out]
  rintro e we ⟨rfl, FE⟩
  have sE := sD.fr0 FE
  have HFE := Lib.hid (((((HFV.out.drew).trans FA).trans FB).trans FD).trans FE)
  clear FA FB FD FE sA sB sD
  simp only []
  go_wp2
  refine ⟨sE, ?_⟩
  refine drawn_reads (fuel := 0) [10, 11, 12] rfl (by kernel_rfl) sE ?_
  repeat (first | (refine rowK_step2 rfl rfl (fun K hK => ?_); go_wp2) | (refine rowK_step rfl (fun K hK => ?_); go_simp; refine hK _ ?_; clear hK K))
  refine rowK_nil ⟨fun w' hw' => ?_, ?_⟩
  · repeat (first | (refine rowWp_step2 rfl rfl (fun K hK => ?_); go_wp2) | (refine rowWp_step rfl (fun K hK => ?_); go_simp; refine hK _ ?_; clear hK K))
    exact rowWp_nil rfl
  refine drawn_end (ol := []) rfl (by kernel_rfl) ?_
  intro K hK
  go_wp2
  go_ret
  exact ⟨rfl, HFE.out⟩
end
end Go.Proofs.Ytakhmmnklkckpaa
