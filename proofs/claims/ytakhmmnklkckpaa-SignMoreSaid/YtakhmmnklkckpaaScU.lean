/- The document's numbers modulo the base's order: below. -/
import Derived.Test.YtakhmmnklkckpaaScT
namespace Go.Proofs.Ytakhmmnklkckpaa
open Go.RowKit Go.Dr
section
variable {w : World}
set_option maxRecDepth 100000 in
set_option maxHeartbeats 2000000 in
theorem below_d (m n : Nat) (hm : m < 65536 ^ 17) (hn : n < 65536 ^ 17) {ba bb : Nat} (ha : w.blk ba = some (.cells (ints .i64 (digN m 17)) 3)) (hb : w.blk bb = some (.cells (ints .i64 (digN n 17)) 3)) :
    Calls Try.prog 116 #[.slice (some ⟨ba, 0, none⟩) 17 17, .slice (some ⟨bb, 0, none⟩) 17 17] w fun e w' => e = .returned (.bool (decide (m < n))) ∧ Fr [] w w' := by
  have lm := length_digN m 17
  have ln := length_digN n 17
  have HA := Lib.hid ha
  have HB := Lib.hid hb
  clear ha hb
  go_enter Try.func116, Try.ntmps116
  go_wp2_with fail
  go_loopw [5] (fun iv wr => ∃ j : Nat, j ≤ 17 ∧ iv = .int .i64 ((j : Int) - 1) ∧ Hid (Fr [] w wr) ∧ Hid (m / 65536 ^ j = n / 65536 ^ j)) (fun iv _ => (intOf iv + 1).toNat)
  case atStart => exact ⟨17, by omega, rfl, Lib.hid (Fr.refl _ _), Lib.hid (by rw [Nat.div_eq_of_lt hm, Nat.div_eq_of_lt hn])⟩
  case round =>
    obtain ⟨j, hj, rfl, HFR, HT⟩ := hrel
    have g0 := HFR.out.get HA.out (by simp)
    have g1 := HFR.out.get HB.out (by simp)
    have t0 := World.at_lt g0
    have t1 := World.at_lt g1
    by_cases hj0 : 1 ≤ j
    · obtain ⟨i, rfl⟩ : ∃ i, j = i + 1 := ⟨j - 1, by omega⟩
      rw [show ((i + 1 : Nat) : Int) - 1 = (i : Int) from by omega]
      have hi : i < 17 := by omega
      have dm := el_digN_lt m 17 i
      have dn := el_digN_lt n 17 i
      have em := el_digN m 17 i
      have en := el_digN n 17 i
      rw [if_pos hi] at em en
      obtain ⟨x, hx⟩ : ∃ x, x = el (digN m 17) i := ⟨_, rfl⟩
      obtain ⟨y, hy⟩ : ∃ y, y = el (digN n 17) i := ⟨_, rfl⟩
      have hd0 : decide ((0 : Int) ≤ (i : Int)) = true := by rw [decide_eq_true_eq]; omega
      by_cases hne : el (digN m 17) i = el (digN n 17) i
      · have hq : (el (digN m 17) i != el (digN n 17) i) = false := by simp [hne]
        have htop := top_eq HT.out (by rw [em, en] at hne; omega)
        have HT2 := Lib.hid htop
        clear hne htop em en hx hy
        go_wp2
        refine drawn_head 8 (by kernel_rfl) rfl rfl (by kernel_rfl) ?_
        change rowK _ _ _ [0,1,2,3,4,5,6,7] _ _
        repeat (refine rowK_step2 rfl rfl (fun K hK => ?_); go_wp2)
        refine rowK_nil ?_
        intro K hK
        go_wp2
        go_roundw
        case rel => exact ⟨i, by omega, rfl, Lib.hid HFR.out.drew, HT2⟩
        case measure => simp [intOf]
      · have hq : (el (digN m 17) i != el (digN n 17) i) = true := by simp [hne]
        have hdec : decide (m < n) = decide (el (digN m 17) i < el (digN n 17) i) := by
          rw [em, en] at hne ⊢
          by_cases h : m / 65536 ^ i % 65536 < n / 65536 ^ i % 65536
          · have := top_lt HT.out h
            rw [decide_eq_true this, decide_eq_true (by omega)]
          · have := top_lt HT.out.symm (show n / 65536 ^ i % 65536 < m / 65536 ^ i % 65536 by omega)
            rw [decide_eq_false (by omega), decide_eq_false (by omega)]
        have HD := Lib.hid hdec
        clear hne hdec em en hx hy
        go_wp2
        refine drawn_head 8 (by kernel_rfl) rfl rfl (by kernel_rfl) ?_
        change rowK _ _ _ [0,1,2,3,4,5,6,7] _ _
        repeat (refine rowK_step2 rfl rfl (fun K hK => ?_); go_wp2)
        refine rowK_nil ?_
        intro K hK
        go_wp2
        refine drawn_head 8 (by kernel_rfl) rfl rfl (by kernel_rfl) ?_
        change rowK _ _ _ [0,1,2,3,4,5,6,7] _ _
        repeat (refine rowK_step2 rfl rfl (fun K hK => ?_); go_wp2)
        refine rowK_nil ?_
        intro K hK
        go_wp2
        go_ret
        rw [HD.out]
        exact ⟨rfl, HFR.out.drew.drew⟩
    · obtain rfl : j = 0 := by omega
      have hmn : m = n := by have := HT.out; rwa [Nat.pow_zero, Nat.div_one, Nat.div_one] at this
      have HMN := Lib.hid hmn
      clear hmn
      go_wp2
      go_ret
      rw [HMN.out]
      exact ⟨by simp, HFR.out⟩
end
end Go.Proofs.Ytakhmmnklkckpaa
