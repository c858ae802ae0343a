/- The document's numbers (missiveref07): prime, less, minus, half. -/
import Derived.Test.YtakhmmnklkckpaaEqs
namespace Go.Proofs.Ytakhmmnklkckpaa
open Go.RowKit Go.Dr

@[go_sem] theorem agg32 : aggB Try.prog 32 16 = true := by kernel_rfl
@[go_sem] theorem ix31 (w : World) (l : List Int) (ki : IntKind) (i : Int) (h0 : 0 ≤ i) (hi : i < 16) (hl : l.length = 16) :
    (Instr.index 32 (.agg (ints .i64 l)) (.int ki i)).run Try.prog w = .ok (.int .i64 (el l i.toNat)) w :=
  run_index_ints Try.underlying32 (fun w => by kernel_rfl) (fun w => by kernel_rfl) w _ l ki i h0 hi hl
/-- The sixteen digits of a natural number. -/
def digs (n : Nat) : List Int := (List.range 16).map fun i => ((n / 65536 ^ i % 65536 : Nat) : Int)
theorem length_digs (n : Nat) : (digs n).length = 16 := by simp [digs]
theorem el_digs (n i : Nat) (h : i < 16) : el (digs n) i = ((n / 65536 ^ i % 65536 : Nat) : Int) := by rw [digs, el_map_range _ _ _ h]
theorem el_digs_lt (n i : Nat) (h : i < 16) : 0 ≤ el (digs n) i ∧ el (digs n) i < 65536 := by rw [el_digs _ _ h]; omega
/-- A Num. -/
@[go_sem] def nm (n : Nat) : Value := .agg (ints .i64 (digs n))
/-- p. -/
def pN : Nat := 57896044618658097711785492504343953926634992332820282019728792003956564819949
section
variable {w : World}
theorem prime_any : Calls Try.prog 70 #[] w fun e w' => e = .returned (nm pN) ∧ Fr [] w w' := by
  have hd : digs pN = [65517, 65535, 65535, 65535, 65535, 65535, 65535, 65535, 65535, 65535, 65535, 65535, 65535, 65535, 65535, 32767] := by kernel_rfl
  unfold nm
  rw [hd]
  go_enter Try.func70, Try.ntmps70
  go_wp2
  refine ret_cell rfl rfl rfl ?_
  go_simp
  exact ⟨rfl, (Fr.refl _ _).alloc _⟩
theorem top_eq {m n i : Nat} (h : m / 65536 ^ (i + 1) = n / 65536 ^ (i + 1)) (hd : m / 65536 ^ i % 65536 = n / 65536 ^ i % 65536) : m / 65536 ^ i = n / 65536 ^ i := by
  rw [Nat.pow_succ, ← Nat.div_div_eq_div_mul, ← Nat.div_div_eq_div_mul] at h
  omega
theorem top_lt {m n i : Nat} (h : m / 65536 ^ (i + 1) = n / 65536 ^ (i + 1)) (hd : m / 65536 ^ i % 65536 < n / 65536 ^ i % 65536) : m < n := by
  rw [Nat.pow_succ, ← Nat.div_div_eq_div_mul, ← Nat.div_div_eq_div_mul] at h
  have h1 : m / 65536 ^ i < n / 65536 ^ i := by omega
  apply Classical.byContradiction
  intro hc
  have := Nat.div_le_div_right (c := 65536 ^ i) (Nat.le_of_not_lt hc)
  omega
set_option maxRecDepth 100000 in
theorem less_any (m n : Nat) (hm : m < 65536 ^ 16) (hn : n < 65536 ^ 16) : Calls Try.prog 97 #[nm m, nm n] w fun e w' => e = .returned (.bool (decide (m < n))) ∧ Fr [] w w' := by
  have lm := length_digs m
  have ln := length_digs n
  go_enter Try.func97, Try.ntmps97
  unfold nm
  go_wp2
  obtain ⟨V, hV⟩ : ∃ V, V = (w.alloc (.cells (ints .i64 (digs m)) 32)).alloc (.cells (ints .i64 (digs n)) 32) := ⟨_, rfl⟩
  refine Eq.mp (congrArg (fun X => Code.wp _ _ _ _ X) hV) ?_
  have h0 : V.blk w.heap.size = some (.cells (ints .i64 (digs m)) 32) := by rw [hV]; go_simp
  have h1 : V.blk (w.heap.size + 1) = some (.cells (ints .i64 (digs n)) 32) := by rw [hV]; go_simp
  have FV : Fr [] w V := by rw [hV]; exact ((Fr.refl _ _).alloc _).alloc _
  have HFV := Lib.hid FV
  clear hV FV
  go_loopw [5] (fun iv wr => ∃ j : Nat, j ≤ 16 ∧ iv = .int .i64 ((j : Int) - 1) ∧ wr.blk w.heap.size = some (.cells (ints .i64 (digs m)) 32) ∧ wr.blk (w.heap.size + 1) = some (.cells (ints .i64 (digs n)) 32) ∧ Fr [] w wr ∧ m / 65536 ^ j = n / 65536 ^ j) (fun iv _ => (intOf iv + 1).toNat)
  case atStart => exact ⟨16, by omega, rfl, h0, h1, HFV.out, by rw [Nat.div_eq_of_lt hm, Nat.div_eq_of_lt hn]⟩
  case round =>
    obtain ⟨j, hj, rfl, g0, g1, FR, htop⟩ := hrel
    have HFR := Lib.hid FR
    have HT := Lib.hid htop
    clear FR htop h0 h1
    by_cases hj0 : 1 ≤ j
    · obtain ⟨i, rfl⟩ : ∃ i, j = i + 1 := ⟨j - 1, by omega⟩
      rw [show ((i + 1 : Nat) : Int) - 1 = (i : Int) from by omega]
      have hi : i < 16 := by omega
      have dm := el_digs_lt m i hi
      have dn := el_digs_lt n i hi
      by_cases hne : el (digs m) i = el (digs n) i
      · have hq : (el (digs m) i != el (digs n) i) = false := by simp [hne]
        have htop := top_eq HT.out (by rw [el_digs _ _ hi, el_digs _ _ hi] at hne; omega)
        have HT2 := Lib.hid htop
        clear hne htop
        go_wp2
        refine drawn_head 6 (by kernel_rfl) rfl rfl (by kernel_rfl) ?_
        change rowK _ _ _ [0,1,2,3,4,5] _ _
        repeat (refine rowK_step2 rfl rfl (fun K hK => ?_); go_wp2)
        refine rowK_nil ?_
        intro K hK
        go_wp2
        go_roundw
        case rel => exact ⟨i, by omega, rfl, g0, g1, HFR.out.drew, HT2.out⟩
        case measure => simp [intOf]
      · have hq : (el (digs m) i != el (digs n) i) = true := by simp [hne]
        have hdec : decide (m < n) = decide (el (digs m) i < el (digs n) i) := by
          rw [el_digs _ _ hi, el_digs _ _ hi] at hne ⊢
          by_cases h : m / 65536 ^ i % 65536 < n / 65536 ^ i % 65536
          · have := top_lt HT.out h
            rw [decide_eq_true this, decide_eq_true (by omega)]
          · have := top_lt HT.out.symm (show n / 65536 ^ i % 65536 < m / 65536 ^ i % 65536 by omega)
            rw [decide_eq_false (by omega), decide_eq_false (by omega)]
        have HD := Lib.hid hdec
        clear hne hdec
        go_wp2
        refine drawn_head 6 (by kernel_rfl) rfl rfl (by kernel_rfl) ?_
        change rowK _ _ _ [0,1,2,3,4,5] _ _
        repeat (refine rowK_step2 rfl rfl (fun K hK => ?_); go_wp2)
        refine rowK_nil ?_
        intro K hK
        go_wp2
        refine drawn_head 6 (by kernel_rfl) rfl rfl (by kernel_rfl) ?_
        change rowK _ _ _ [0,1,2,3,4,5] _ _
        repeat (refine rowK_step2 rfl rfl (fun K hK => ?_); go_wp2)
        refine rowK_nil ?_
        intro K hK
        go_wp2
        go_ret
        rw [HD.out]
        exact ⟨rfl, HFR.out.drew.drew⟩
    · obtain rfl : j = 0 := by omega
      have hmn : m = n := by have := HT.out; rwa [Nat.pow_zero, Nat.div_one, Nat.div_one] at this
      have HMN := Lib.hid hmn
      clear hmn
      go_wp2
      go_ret
      rw [HMN.out]
      exact ⟨by simp, HFR.out⟩
end
/-! ### minus -/
def bor (m n k : Nat) : Int := if m % 65536 ^ k < n % 65536 ^ k then 1 else 0
theorem bor_zero (m n : Nat) : bor m n 0 = 0 := by simp [bor, Nat.mod_one]
theorem minus_step (m n k : Nat) (h : n ≤ m) :
    (((m - n) / 65536 ^ k % 65536 : Nat) : Int) = (if ((m / 65536 ^ k % 65536 : Nat) : Int) - ((n / 65536 ^ k % 65536 : Nat) : Int) - bor m n k < 0 then ((m / 65536 ^ k % 65536 : Nat) : Int) - ((n / 65536 ^ k % 65536 : Nat) : Int) - bor m n k + 65536 else ((m / 65536 ^ k % 65536 : Nat) : Int) - ((n / 65536 ^ k % 65536 : Nat) : Int) - bor m n k) ∧
    bor m n (k + 1) = (if ((m / 65536 ^ k % 65536 : Nat) : Int) - ((n / 65536 ^ k % 65536 : Nat) : Int) - bor m n k < 0 then 1 else 0) := by
  have hQ : 0 < 65536 ^ k := Nat.pow_pos (by omega)
  have em := Nat.mod_mul (x := m) (a := 65536 ^ k) (b := 65536)
  have en := Nat.mod_mul (x := n) (a := 65536 ^ k) (b := 65536)
  have dm := Nat.div_add_mod m (65536 ^ k)
  have dn := Nat.div_add_mod n (65536 ^ k)
  have hr := Nat.mod_lt m hQ
  have hs := Nat.mod_lt n hQ
  have hk1 : 65536 ^ (k + 1) = 65536 ^ k * 65536 := Nat.pow_succ ..
  have hle := Nat.div_le_div_right (c := 65536 ^ k) h
  have hdiv : (m - n) / 65536 ^ k = m / 65536 ^ k - n / 65536 ^ k - (if m % 65536 ^ k < n % 65536 ^ k then 1 else 0) := by
    generalize m / 65536 ^ k = a at dm hle ⊢
    generalize n / 65536 ^ k = b at dn hle ⊢
    generalize 65536 ^ k = Q at hQ dm dn hr hs hle ⊢
    generalize m % Q = r at dm hr ⊢
    generalize n % Q = t at dn hs ⊢
    have hab : Q * a = Q * b + Q * (a - b) := by rw [← Nat.mul_add, show b + (a - b) = a from by omega]
    split
    · rename_i hlt
      have hne : b < a := by
        rcases Nat.lt_or_ge b a with h' | h'
        · exact h'
        · have : a = b := by omega
          subst this; omega
      have hab2 : Q * (a - b) = Q * (a - b - 1) + Q := by rw [← Nat.mul_succ, show (a - b - 1).succ = a - b from by omega]
      rw [show m - n = Q * (a - b - 1) + (Q + r - t) from by omega, Nat.mul_add_div hQ, Nat.div_eq_of_lt (by omega)]
      omega
    · rw [show m - n = Q * (a - b) + (r - t) from by omega, Nat.mul_add_div hQ, Nat.div_eq_of_lt (by omega)]
      omega
  rw [hdiv]
  have hb1 : bor m n (k + 1) = if m % 65536 ^ k + 65536 ^ k * (m / 65536 ^ k % 65536) < n % 65536 ^ k + 65536 ^ k * (n / 65536 ^ k % 65536) then 1 else 0 := by
    unfold bor; rw [hk1, em, en]
  rw [hb1]
  unfold bor
  clear hb1 em en hk1 hdiv
  have hne : m % 65536 ^ k < n % 65536 ^ k → n / 65536 ^ k < m / 65536 ^ k := fun hlt => by
    rcases Nat.lt_or_ge (n / 65536 ^ k) (m / 65536 ^ k) with h' | h'
    · exact h'
    · have e : m / 65536 ^ k = n / 65536 ^ k := by omega
      rw [e] at dm; omega
  generalize m / 65536 ^ k = a at dm hle hne ⊢
  generalize n / 65536 ^ k = b at dn hle hne ⊢
  generalize m % 65536 ^ k = r at dm hr hne ⊢
  generalize n % 65536 ^ k = t at dn hs hne ⊢
  generalize 65536 ^ k = Q at hQ dm dn hr hs hle hne ⊢
  have hcmp : (r + Q * (a % 65536) < t + Q * (b % 65536)) ↔ (a % 65536 < b % 65536 ∨ (a % 65536 = b % 65536 ∧ r < t)) := by
    constructor
    · intro hlt
      rcases Nat.lt_or_ge (a % 65536) (b % 65536) with h' | h'
      · exact .inl h'
      · right
        rcases Nat.eq_or_lt_of_le h' with e | e
        · rw [e] at hlt; exact ⟨e.symm, by omega⟩
        · have := Nat.mul_le_mul_left Q (show b % 65536 + 1 ≤ a % 65536 from e)
          rw [Nat.mul_add, Nat.mul_one] at this
          omega
    · rintro (h' | ⟨e, h'⟩)
      · have := Nat.mul_le_mul_left Q (show a % 65536 + 1 ≤ b % 65536 from h')
        rw [Nat.mul_add, Nat.mul_one] at this
        omega
      · rw [e]; omega
  by_cases hrt : r < t
  · have := hne hrt
    simp only [hrt, ↓reduceIte, and_true] at hcmp ⊢
    constructor
    · split <;> omega
    · by_cases hc : r + Q * (a % 65536) < t + Q * (b % 65536)
      · rw [if_pos hc, if_pos (by have := hcmp.1 hc; omega)]
      · rw [if_neg hc, if_neg (by have := fun h => hc (hcmp.2 h); omega)]
  · simp only [hrt, ↓reduceIte, and_false, or_false] at hcmp ⊢
    constructor
    · split <;> omega
    · by_cases hc : r + Q * (a % 65536) < t + Q * (b % 65536)
      · rw [if_pos hc, if_pos (by have := hcmp.1 hc; omega)]
      · rw [if_neg hc, if_neg (by have := fun h => hc (hcmp.2 h); omega)]
theorem bor_01 (m n k : Nat) : 0 ≤ bor m n k ∧ bor m n k ≤ 1 := by unfold bor; split <;> omega
/-- The first digits of a difference, and what waits. -/
abbrev minD (m n k : Nat) : List Int := upd (fun i => (((m - n) / 65536 ^ i % 65536 : Nat) : Int)) (digs m) k
section
variable {w : World}
set_option maxRecDepth 100000 in
theorem minus_any (m n : Nat) (hn : n ≤ m) : Calls Try.prog 69 #[nm m, nm n] w fun e w' => e = .returned (nm (m - n)) ∧ Fr [] w w' := by
  have lm := length_digs m
  have ln := length_digs n
  unfold nm
  go_enter Try.func69, Try.ntmps69
  go_wp2
  obtain ⟨V, hV⟩ : ∃ V, V = ((w.alloc (.cells (ints .i64 (digs m)) 32)).alloc (.cells (ints .i64 (digs n)) 32)).alloc (.cells (ints .i64 (zs 16)) 32) := ⟨_, rfl⟩
  refine Eq.mp (congrArg (fun X => Code.wp _ _ _ _ X) hV) ?_
  have h0 : V.blk w.heap.size = some (.cells (ints .i64 (digs m)) 32) := by rw [hV]; go_simp
  have h1 : V.blk (w.heap.size + 1) = some (.cells (ints .i64 (digs n)) 32) := by rw [hV]; go_simp
  have h2 : V.blk (w.heap.size + 2) = some (.cells (ints .i64 (zs 16)) 32) := by rw [hV]; go_simp
  have HFV := Lib.hid (show Fr [] w V by rw [hV]; exact (((Fr.refl _ _).alloc _).alloc _).alloc _)
  clear hV
  go_loopw [5, 6] (fun bv iv wr => ∃ k : Nat, k ≤ 16 ∧ iv = .int .i64 k ∧ bv = .int .i64 (bor m n k) ∧ Fr [w.heap.size] V wr ∧ wr.blk w.heap.size = some (.cells (ints .i64 (minD m n k)) 32)) (fun _ iv _ => 16 - (intOf iv).toNat)
  case atStart => exact ⟨0, by omega, rfl, by rw [bor_zero], Fr.refl _ _, by unfold minD; rw [upd_zero]; exact h0⟩
  case round =>
    obtain ⟨k, hk, rfl, rfl, FR, hc⟩ := hrel
    have k1 := FR.get h1 (by simp)
    have k2 := FR.get h2 (by simp)
    have hcl := World.at_lt hc
    have k1l := World.at_lt k1
    have k2l := World.at_lt k2
    have HFR := Lib.hid FR
    clear FR h0 h1 h2
    have hlu : (minD m n k).length = 16 := by unfold minD; rw [length_upd _ _ _ (by omega)]; exact lm
    by_cases hlt : k < 16
    · have hset : ∀ x, (((m - n) / 65536 ^ k % 65536 : Nat) : Int) = x → (minD m n k).set k x = minD m n (k + 1) := fun x hx => by
        unfold minD; rw [← hx]; exact set_upd (fun i => (((m - n) / 65536 ^ i % 65536 : Nat) : Int)) (digs m) k (by omega)
      have hel : el (minD m n k) k = el (digs m) k := by unfold minD; rw [el_upd, if_neg (by omega)]
      obtain ⟨s1, s2⟩ := minus_step m n k hn
      rw [← el_digs m k hlt, ← el_digs n k hlt] at s1 s2
      have dm := el_digs_lt m k hlt
      have dn := el_digs_lt n k hlt
      have hb := bor_01 m n k
      by_cases hneg : el (digs m) k - el (digs n) k - bor m n k < 0
      · rw [if_pos hneg] at s1 s2
        have hset' := hset _ s1
        have hd1 : decide (el (digs m) k - el (digs n) k - bor m n k < 0) = true := decide_eq_true hneg
        have S2 := Lib.hid s2
        clear s1 s2 hset
        go_wp2
        refine drawn_head 9 (by kernel_rfl) rfl rfl (by kernel_rfl) ?_
        change rowK _ _ _ [0,1,2,3,4,5,6,7,8] _ _
        repeat (refine rowK_step2 rfl rfl (fun K hK => ?_); go_wp2)
        refine rowK_nil ?_
        intro K hK
        go_wp2
        go_roundw
        case rel => exact ⟨k + 1, by omega, by go_num, by rw [S2.out], HFR.out.drew.put _ _ (by simp), World.at_put_same _ _ _ hcl⟩
        case measure => simp [intOf]; omega
      · rw [if_neg hneg] at s1 s2
        have hset' := hset _ s1
        have hd1 : decide (el (digs m) k - el (digs n) k - bor m n k < 0) = false := decide_eq_false hneg
        have S2 := Lib.hid s2
        clear s1 s2 hset
        go_wp2
        refine drawn_head 9 (by kernel_rfl) rfl rfl (by kernel_rfl) ?_
        change rowK _ _ _ [0,1,2,3,4,5,6,7,8] _ _
        repeat (refine rowK_step2 rfl rfl (fun K hK => ?_); go_wp2)
        refine rowK_nil ?_
        intro K hK
        go_wp2
        go_roundw
        case rel => exact ⟨k + 1, by omega, by go_num, by rw [S2.out], HFR.out.drew.put _ _ (by simp), World.at_put_same _ _ _ hcl⟩
        case measure => simp [intOf]; omega
    · obtain rfl : k = 16 := by omega
      have hfull : minD m n 16 = digs (m - n) := upd_full _ _ _ lm
      rw [hfull] at hc hlu
      have HFX := Lib.hid (HFV.out.seq HFR.out (by simp))
      clear hfull
      go_wp2
      refine ret_cell rfl rfl rfl ?_
      go_simp
      exact HFX.out.put _ _ (by omega)
end
end Go.Proofs.Ytakhmmnklkckpaa
