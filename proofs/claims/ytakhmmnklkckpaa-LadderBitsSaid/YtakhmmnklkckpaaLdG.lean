/- The code's Mul of the ladder. -/
import Derived.Test.YtakhmmnklkckpaaLdF
namespace Go.Proofs.Ytakhmmnklkckpaa
open Go.RowKit Go.Dr

section
variable {w : World}
set_option maxRecDepth 100000 in
set_option maxHeartbeats 8000000 in
theorem cmul_core (S U C : List Int) (X : Fp) (hS : S.length = 32) (hU : U.length = 32) (bU : Byt U) (hC : clC S = C) (lC : C.length = 32) (bC : Byt C) (hX : fromB U = X) :
    Calls Try.prog 43 #[.agg (ints .u8 S), .agg (ints .u8 U)] w fun e w' => e = .returned (.agg (ints .u8 (bytesF (ladF X (kbit C))))) ∧ Fr [] w w' := by
  have HU := Lib.hid bU
  have HC := Lib.hid hC
  have HX := Lib.hid hX
  have HB := Lib.hid bC
  clear bU hC hX bC
  go_enter Try.func43, Try.ntmps43
  go_wp2_with fail
  refine wp_scope_label 0 (LadJ w C X) (fun a _ => (intOf (a.tmps.getD 10 undef)).toNat) rfl (fun j a W h => ?_) (fun j a W hJ => ?_) (fun next => ?_)
  · obtain ⟨_, _, _, _, _, _, _, _, _, _, _, _, _, _, _, ⟨_, _, _, _, _, _, _, _, h10⟩, _⟩ := h
    rw [h10]; simp [intOf]
  · obtain ⟨p2, p4, p6, p7, p8, cx, ax, az, bx, bz, A, Z, B, V, last, ⟨hs, hdf, h2, h4, h6, h7, h8, h9, h10⟩, hj, hI, ⟨iX, iA, iZ, iB, iV⟩, hP⟩ := hJ
    have ncx := iX.len
    have Hcx := Lib.hid iX
    clear iX
    have nax := iA.len
    have Hax := Lib.hid iA
    clear iA
    have naz := iZ.len
    have Haz := Lib.hid iZ
    clear iZ
    have nbx := iB.len
    have Hbx := Lib.hid iB
    clear iB
    have nbz := iV.len
    have Hbz := Lib.hid iV
    clear iV
    have HP := Lib.hid hP
    clear hP
    obtain ⟨tm, df⟩ := a
    simp only [] at hs hdf h2 h4 h6 h7 h8 h9 h10
    obtain ⟨u, rfl⟩ : ∃ u : Nat → Value, tm = #[u 0, u 1, u 2, u 3, u 4, u 5, u 6, u 7, u 8, u 9, u 10, u 11, u 12, u 13, u 14, u 15, u 16, u 17, u 18, u 19, u 20, u 21, u 22, u 23, u 24, u 25, u 26, u 27, u 28, u 29, u 30, u 31, u 32, u 33, u 34, u 35, u 36, u 37, u 38, u 39, u 40, u 41, u 42, u 43, u 44, u 45, u 46, u 47, u 48, u 49, u 50, u 51, u 52, u 53, u 54, u 55, u 56, u 57, u 58, u 59, u 60, u 61, u 62, u 63, u 64, u 65] := ⟨fun i => tm.getD i undef, arr_of hs⟩
    have e2 : u 2 = _ := h2
    have e4 : u 4 = _ := h4
    have e6 : u 6 = _ := h6
    have e7 : u 7 = _ := h7
    have e8 : u 8 = _ := h8
    have e9 : u 9 = _ := h9
    have e10 : u 10 = _ := h10
    rw [e2, e4, e6, e7, e8, e9, e10, hdf]
    unfold ptr
    clear e2 e4 e6 e7 e8 e9 e10 h2 h4 h6 h7 h8 h9 h10 hs hdf
    have hr := byt_el HB.out (j / 8)
    have hr2 := div_pow_range hr (j % 8)
    have hand := u8_and1 (el C (j / 8) / 2 ^ (j % 8)) hr2.1 hr2.2
    have hi8 : j / 8 < 32 := by omega
    have hi64 : j % 8 < 64 := by omega
    have hrun := Lib.hid (lrun_next X C j hj)
    have hc2 : el C (j / 8) / 2 ^ (j % 8) % 2 = 0 ∨ el C (j / 8) / 2 ^ (j % 8) % 2 = 1 := by omega
    obtain ⟨L1, hL1⟩ : ∃ L : List (Nat × Obj), L = [(p8, .cells (ints .u64 (bx ++ bz)) 88), (p7, .cells (ints .u64 (ax ++ az)) 88), (p6, .cells (ints .u64 cx) 28), (p4, .cells (ints .u8 (List.replicate 32 0)) 22), (p2, .cells (ints .u8 (C)) 22)] := ⟨_, rfl⟩
    rw [← hL1] at hI
    have HL1 := Lib.hid hL1
    clear hL1
    rcases hc2 with hb | hb
    · rw [hb] at hand
      have hk : kbit C j = false := by unfold kbit; rw [hb]; rfl
      have HK := Lib.hid hk
      clear hk hb hr hr2
      cases last
      · simp only [Bool.false_eq_true, if_false]
        rcases Nat.eq_zero_or_pos j with hj0 | hj0
        · have hj1 : decide ((0 : Int) < (j : Int)) = false := by simp [hj0]
          have hj2 : ¬ (0 : Int) < (j : Int) := by omega
          have HJ0 := Lib.hid hj0
          clear hj0 hj
          have s2 := hI
          rw [HL1.out] at s2
          have f3 := s2.nth 4 rfl
          have f4 := s2.nth 1 rfl
          have f5 := s2.nth 0 rfl
          have f6 := s2.nth 2 rfl
          clear s2
          go_wp2_with fail
          clear f3 f4 f5 f6
          refine (step_f Hax.out Haz.out Hbx.out Hbz.out Hcx.out).mono ?_
          rintro e w7 ⟨c9, c11, c13, c15, rfl, k10, k12, k14, k16, F8⟩
          have nc9 := k10.len
          have Hc9 := Lib.hid k10
          clear k10
          have nc11 := k12.len
          have Hc11 := Lib.hid k12
          clear k12
          have nc13 := k14.len
          have Hc13 := Lib.hid k14
          clear k14
          have nc15 := k16.len
          have Hc15 := Lib.hid k16
          clear k16
          have s18 := hI
          rw [HL1.out] at s18
          have h17 : Own w [(p8, .cells (ints .u64 (bx ++ bz)) 88), (p7, .cells (ints .u64 (ax ++ az)) 88), (p6, .cells (ints .u64 cx) 28), (p4, .cells (ints .u8 (List.replicate 32 0)) 22), (p2, .cells (ints .u8 (C)) 22)] w7 := (s18).call F8
          clear F8
          simp only []
          clear s18 hI
          obtain ⟨L19, hL19⟩ : ∃ L : List (Nat × Obj), L = [(p8, .cells (ints .u64 (bx ++ bz)) 88), (p7, .cells (ints .u64 (ax ++ az)) 88), (p6, .cells (ints .u64 cx) 28), (p4, .cells (ints .u8 (List.replicate 32 0)) 22), (p2, .cells (ints .u8 (C)) 22)] := ⟨_, rfl⟩
          rw [← hL19] at h17
          have HL19 := Lib.hid hL19
          clear hL19
          have hq := HP.out.step X
          have HQ := Lib.hid hq
          clear hq
          have s20 := h17
          rw [HL19.out] at s20
          have f21 := s20.nth 1 rfl
          have t22 := s20.lt 1 rfl
          have f23 := s20.nth 0 rfl
          have t24 := s20.lt 0 rfl
          have e25 := s20.ne 1 0 rfl rfl (by decide)
          have e26 := s20.ne 0 1 rfl rfl (by decide)
          clear s20
          go_wp2_with fail
          clear f21 t22 f23 t24 e25 e26
          have s27 := h17
          rw [HL19.out] at s27
          refine Own.named (Q := fun X => Code.wp _ _ _ _ X) (show Own w [(p8, .cells (ints .u64 (c13 ++ c15)) 88), (p7, .cells (ints .u64 (c9 ++ c11)) 88), (p6, .cells (ints .u64 cx) 28), (p4, .cells (ints .u8 (List.replicate 32 0)) 22), (p2, .cells (ints .u8 (C)) 22)] _ from ((s27.set 1 (.cells (ints .u64 (c9 ++ c11)) 88) rfl).set 0 (.cells (ints .u64 (c13 ++ c15)) 88) rfl)) ?_
          intro V29 h28
          clear s27 h17
          obtain ⟨L30, hL30⟩ : ∃ L : List (Nat × Obj), L = [(p8, .cells (ints .u64 (c13 ++ c15)) 88), (p7, .cells (ints .u64 (c9 ++ c11)) 88), (p6, .cells (ints .u64 cx) 28), (p4, .cells (ints .u8 (List.replicate 32 0)) 22), (p2, .cells (ints .u8 (C)) 22)] := ⟨_, rfl⟩
          rw [← hL30] at h28
          have HL30 := Lib.hid hL30
          clear hL30
          refine drawn_begin 7 (Own w L30) (by kernel_rfl) ?_
          refine Own.named (Q := fun X => Go.Dr.wpAnyS Try.prog .any _ _ _ _ _ _ _ X) (h28.drew) ?_
          intro V31 h32
          clear h28
          have s33 := h32
          rw [HL30.out] at s33
          have f34 := s33.nth 1 rfl
          clear s33
          refine drawn_reads (fuel := 4) [0, 1, 2, 3] rfl (by kernel_rfl) (h32) ?_
          repeat (first | (refine rowK_step2 rfl rfl (fun K hK => ?_); go_wp2) | (refine rowK_step rfl (fun K hK => ?_); go_simp; refine hK _ ?_; clear hK K))
          refine rowK_nil ⟨fun w' hw' => ?_, ?_⟩
          · rw [HL30.out] at hw'
            have g35 := hw'.nth 1 rfl
            clear f34
            repeat (first | (refine rowWp_step2 rfl rfl (fun K hK => ?_); go_wp2) | (refine rowWp_step rfl (fun K hK => ?_); go_simp; refine hK _ ?_; clear hK K))
            exact rowWp_nil rfl
          clear f34
          refine drawn_next 4 (fuel := 3) rfl (by kernel_rfl) ?_
          intro K hK
          go_wp2_with fail
          refine (inv_f Hc11.out).mono ?_
          rintro e w36 ⟨c38, rfl, k39, F37⟩
          have nc38 := k39.len
          have Hc38 := Lib.hid k39
          clear k39
          have h40 := (h32).call F37
          clear F37 h32
          simp only []
          go_wp2
          refine ⟨h40, ?_⟩
          refine drawn_next 5 (fuel := 2) rfl (by kernel_rfl) ?_
          intro K hK
          go_wp2_with fail
          refine (mul_f Hc9.out Hc38.out).mono ?_
          rintro e w41 ⟨c43, rfl, k44, F42⟩
          have nc43 := k44.len
          have Hc43 := Lib.hid k44
          clear k44
          have h45 := (h40).call F42
          clear F42 h40
          simp only []
          go_wp2
          refine ⟨h45, ?_⟩
          refine drawn_next 6 (fuel := 1) rfl (by kernel_rfl) ?_
          intro K hK
          go_wp2_with fail
          refine (bytes_f Hc43.out).mono ?_
          rintro e w46 ⟨rfl, F47⟩
          have h48 := (h45).call F47
          clear F47 h45
          simp only []
          go_wp2
          refine ⟨h48, ?_⟩
          refine drawn_end (ol := [_]) rfl (by kernel_rfl) ?_
          intro K hK
          have s49 := h48
          rw [HL30.out] at s49
          have f50 := s49.nth 3 rfl
          have t51 := s49.lt 3 rfl
          clear s49
          have s52 := h48
          rw [HL30.out] at s52
          go_wp2_with fail
          clear f50 t51
          simp only [Exit.jump]
          refine Own.named (Q := fun X => bodyPost _ _ _ _ _ X) (show Own w [(p8, .cells (ints .u64 (c13 ++ c15)) 88), (p7, .cells (ints .u64 (c9 ++ c11)) 88), (p6, .cells (ints .u64 cx) 28), (p4, .cells (ints .u8 (bytesF (((A + Z) * (A + Z) * ((A - Z) * (A - Z))) * (inv (((A + Z) * (A + Z) - (A - Z) * (A - Z)) * ((A + Z) * (A + Z) + toFp 121665 * ((A + Z) * (A + Z) - (A - Z) * (A - Z)))))))) 22), (p2, .cells (ints .u8 (C)) 22)] _ from (s52.set 3 (.cells (ints .u8 (bytesF (((A + Z) * (A + Z) * ((A - Z) * (A - Z))) * (inv (((A + Z) * (A + Z) - (A - Z) * (A - Z)) * ((A + Z) * (A + Z) + toFp 121665 * ((A + Z) * (A + Z) - (A - Z) * (A - Z)))))))) 22) rfl)) ?_
          intro V54 h53
          clear s52 h48
          obtain ⟨L55, hL55⟩ : ∃ L : List (Nat × Obj), L = [(p8, .cells (ints .u64 (c13 ++ c15)) 88), (p7, .cells (ints .u64 (c9 ++ c11)) 88), (p6, .cells (ints .u64 cx) 28), (p4, .cells (ints .u8 (bytesF (((A + Z) * (A + Z) * ((A - Z) * (A - Z))) * (inv (((A + Z) * (A + Z) - (A - Z) * (A - Z)) * ((A + Z) * (A + Z) + toFp 121665 * ((A + Z) * (A + Z) - (A - Z) * (A - Z)))))))) 22), (p2, .cells (ints .u8 (C)) 22)] := ⟨_, rfl⟩
          rw [← hL55] at h53
          have HL55 := Lib.hid hL55
          clear hL55
          have s56 := h53
          rw [HL55.out] at s56
          refine ret_cell rfl rfl rfl ?_
          refine cellRet_of (s56.nth 3 rfl) (aggB_ints (len_bytesF _) (by kernel_rfl)) ?_
          exact ⟨by rw [ladF_f (pairs_zero HJ0.out HK.out HQ.out)], s56.fr⟩
        · obtain ⟨i, rfl⟩ : ∃ i, j = i + 1 := ⟨j - 1, by omega⟩
          have hj1 : decide ((0 : Int) < ((i + 1 : Nat) : Int)) = true := by rw [decide_eq_true_eq]; omega
          have hi1 : Value.int .i64 (((i + 1 : Nat) : Int) - 1) = .int .i64 (i : Int) := by congr 1; omega
          have s57 := hI
          rw [HL1.out] at s57
          have f58 := s57.nth 4 rfl
          have f59 := s57.nth 1 rfl
          have f60 := s57.nth 0 rfl
          have f61 := s57.nth 2 rfl
          clear s57
          go_wp2_with fail
          clear f58 f59 f60 f61
          refine (step_f Hax.out Haz.out Hbx.out Hbz.out Hcx.out).mono ?_
          rintro e w62 ⟨c64, c66, c68, c70, rfl, k65, k67, k69, k71, F63⟩
          have nc64 := k65.len
          have Hc64 := Lib.hid k65
          clear k65
          have nc66 := k67.len
          have Hc66 := Lib.hid k67
          clear k67
          have nc68 := k69.len
          have Hc68 := Lib.hid k69
          clear k69
          have nc70 := k71.len
          have Hc70 := Lib.hid k71
          clear k71
          have s73 := hI
          rw [HL1.out] at s73
          have h72 : Own w [(p8, .cells (ints .u64 (bx ++ bz)) 88), (p7, .cells (ints .u64 (ax ++ az)) 88), (p6, .cells (ints .u64 cx) 28), (p4, .cells (ints .u8 (List.replicate 32 0)) 22), (p2, .cells (ints .u8 (C)) 22)] w62 := (s73).call F63
          clear F63
          simp only []
          clear s73 hI
          obtain ⟨L74, hL74⟩ : ∃ L : List (Nat × Obj), L = [(p8, .cells (ints .u64 (bx ++ bz)) 88), (p7, .cells (ints .u64 (ax ++ az)) 88), (p6, .cells (ints .u64 cx) 28), (p4, .cells (ints .u8 (List.replicate 32 0)) 22), (p2, .cells (ints .u8 (C)) 22)] := ⟨_, rfl⟩
          rw [← hL74] at h72
          have HL74 := Lib.hid hL74
          clear hL74
          have hq := HP.out.step X
          have HQ := Lib.hid hq
          clear hq
          have s75 := h72
          rw [HL74.out] at s75
          have f76 := s75.nth 1 rfl
          have t77 := s75.lt 1 rfl
          have f78 := s75.nth 0 rfl
          have t79 := s75.lt 0 rfl
          have e80 := s75.ne 1 0 rfl rfl (by decide)
          have e81 := s75.ne 0 1 rfl rfl (by decide)
          clear s75
          go_wp2_with fail
          clear f76 t77 f78 t79 e80 e81
          have s82 := h72
          rw [HL74.out] at s82
          go_step3
          refine ⟨rfl, i, by omega, p2, p4, p6, p7, p8, cx, c64, c66, c68, c70, _, _, _, _, false, ⟨rfl, rfl, rfl, rfl, rfl, rfl, rfl, rfl, rfl⟩, by omega, ((s82.set 1 (.cells (ints .u64 (c64 ++ c66)) 88) rfl).set 0 (.cells (ints .u64 (c68 ++ c70)) 88) rfl), ⟨Hcx.out, Hc64.out, Hc66.out, Hc68.out, Hc70.out⟩, ?_⟩
          exact pairs_next hj HK.out HQ.out
      · simp only [if_true]
        rcases Nat.eq_zero_or_pos j with hj0 | hj0
        · have hj1 : decide ((0 : Int) < (j : Int)) = false := by simp [hj0]
          have hj2 : ¬ (0 : Int) < (j : Int) := by omega
          have HJ0 := Lib.hid hj0
          clear hj0 hj
          have s83 := hI
          rw [HL1.out] at s83
          have f84 := s83.nth 4 rfl
          have t85 := s83.lt 4 rfl
          have f86 := s83.nth 0 rfl
          have t87 := s83.lt 0 rfl
          have f88 := s83.nth 1 rfl
          have t89 := s83.lt 1 rfl
          have f90 := s83.nth 2 rfl
          have t91 := s83.lt 2 rfl
          have e92 := s83.ne 4 0 rfl rfl (by decide)
          have e93 := s83.ne 4 1 rfl rfl (by decide)
          have e94 := s83.ne 0 4 rfl rfl (by decide)
          have e95 := s83.ne 0 1 rfl rfl (by decide)
          have e96 := s83.ne 0 2 rfl rfl (by decide)
          have e97 := s83.ne 1 4 rfl rfl (by decide)
          have e98 := s83.ne 1 0 rfl rfl (by decide)
          have e99 := s83.ne 1 2 rfl rfl (by decide)
          have e100 := s83.ne 2 0 rfl rfl (by decide)
          have e101 := s83.ne 2 1 rfl rfl (by decide)
          clear s83
          go_wp2_with fail
          clear f84 t85 f86 t87 f88 t89 f90 t91 e92 e93 e94 e95 e96 e97 e98 e99 e100 e101
          have s102 := hI
          rw [HL1.out] at s102
          refine (step_f Hbx.out Hbz.out Hax.out Haz.out Hcx.out).mono ?_
          rintro e w103 ⟨c105, c107, c109, c111, rfl, k106, k108, k110, k112, F104⟩
          have nc105 := k106.len
          have Hc105 := Lib.hid k106
          clear k106
          have nc107 := k108.len
          have Hc107 := Lib.hid k108
          clear k108
          have nc109 := k110.len
          have Hc109 := Lib.hid k110
          clear k110
          have nc111 := k112.len
          have Hc111 := Lib.hid k112
          clear k112
          have h113 : Own w [(p8, .cells (ints .u64 (ax ++ az)) 88), (p7, .cells (ints .u64 (bx ++ bz)) 88), (p6, .cells (ints .u64 cx) 28), (p4, .cells (ints .u8 (List.replicate 32 0)) 22), (p2, .cells (ints .u8 (C)) 22)] w103 := (((s102.set 1 (.cells (ints .u64 (bx ++ bz)) 88) rfl).set 0 (.cells (ints .u64 (ax ++ az)) 88) rfl)).call F104
          clear F104
          simp only []
          clear s102 hI
          obtain ⟨L114, hL114⟩ : ∃ L : List (Nat × Obj), L = [(p8, .cells (ints .u64 (ax ++ az)) 88), (p7, .cells (ints .u64 (bx ++ bz)) 88), (p6, .cells (ints .u64 cx) 28), (p4, .cells (ints .u8 (List.replicate 32 0)) 22), (p2, .cells (ints .u8 (C)) 22)] := ⟨_, rfl⟩
          rw [← hL114] at h113
          have HL114 := Lib.hid hL114
          clear hL114
          have hq := HP.out.swap.step X
          simp only [Bool.not_true] at hq
          have HQ := Lib.hid hq
          clear hq
          have s115 := h113
          rw [HL114.out] at s115
          have f116 := s115.nth 1 rfl
          have t117 := s115.lt 1 rfl
          have f118 := s115.nth 0 rfl
          have t119 := s115.lt 0 rfl
          have e120 := s115.ne 1 0 rfl rfl (by decide)
          have e121 := s115.ne 0 1 rfl rfl (by decide)
          clear s115
          go_wp2_with fail
          clear f116 t117 f118 t119 e120 e121
          have s122 := h113
          rw [HL114.out] at s122
          refine Own.named (Q := fun X => Code.wp _ _ _ _ X) (show Own w [(p8, .cells (ints .u64 (c109 ++ c111)) 88), (p7, .cells (ints .u64 (c105 ++ c107)) 88), (p6, .cells (ints .u64 cx) 28), (p4, .cells (ints .u8 (List.replicate 32 0)) 22), (p2, .cells (ints .u8 (C)) 22)] _ from ((s122.set 1 (.cells (ints .u64 (c105 ++ c107)) 88) rfl).set 0 (.cells (ints .u64 (c109 ++ c111)) 88) rfl)) ?_
          intro V124 h123
          clear s122 h113
          obtain ⟨L125, hL125⟩ : ∃ L : List (Nat × Obj), L = [(p8, .cells (ints .u64 (c109 ++ c111)) 88), (p7, .cells (ints .u64 (c105 ++ c107)) 88), (p6, .cells (ints .u64 cx) 28), (p4, .cells (ints .u8 (List.replicate 32 0)) 22), (p2, .cells (ints .u8 (C)) 22)] := ⟨_, rfl⟩
          rw [← hL125] at h123
          have HL125 := Lib.hid hL125
          clear hL125
          refine drawn_begin 7 (Own w L125) (by kernel_rfl) ?_
          refine Own.named (Q := fun X => Go.Dr.wpAnyS Try.prog .any _ _ _ _ _ _ _ X) (h123.drew) ?_
          intro V126 h127
          clear h123
          have s128 := h127
          rw [HL125.out] at s128
          have f129 := s128.nth 1 rfl
          clear s128
          refine drawn_reads (fuel := 4) [0, 1, 2, 3] rfl (by kernel_rfl) (h127) ?_
          repeat (first | (refine rowK_step2 rfl rfl (fun K hK => ?_); go_wp2) | (refine rowK_step rfl (fun K hK => ?_); go_simp; refine hK _ ?_; clear hK K))
          refine rowK_nil ⟨fun w' hw' => ?_, ?_⟩
          · rw [HL125.out] at hw'
            have g130 := hw'.nth 1 rfl
            clear f129
            repeat (first | (refine rowWp_step2 rfl rfl (fun K hK => ?_); go_wp2) | (refine rowWp_step rfl (fun K hK => ?_); go_simp; refine hK _ ?_; clear hK K))
            exact rowWp_nil rfl
          clear f129
          refine drawn_next 4 (fuel := 3) rfl (by kernel_rfl) ?_
          intro K hK
          go_wp2_with fail
          refine (inv_f Hc107.out).mono ?_
          rintro e w131 ⟨c133, rfl, k134, F132⟩
          have nc133 := k134.len
          have Hc133 := Lib.hid k134
          clear k134
          have h135 := (h127).call F132
          clear F132 h127
          simp only []
          go_wp2
          refine ⟨h135, ?_⟩
          refine drawn_next 5 (fuel := 2) rfl (by kernel_rfl) ?_
          intro K hK
          go_wp2_with fail
          refine (mul_f Hc105.out Hc133.out).mono ?_
          rintro e w136 ⟨c138, rfl, k139, F137⟩
          have nc138 := k139.len
          have Hc138 := Lib.hid k139
          clear k139
          have h140 := (h135).call F137
          clear F137 h135
          simp only []
          go_wp2
          refine ⟨h140, ?_⟩
          refine drawn_next 6 (fuel := 1) rfl (by kernel_rfl) ?_
          intro K hK
          go_wp2_with fail
          refine (bytes_f Hc138.out).mono ?_
          rintro e w141 ⟨rfl, F142⟩
          have h143 := (h140).call F142
          clear F142 h140
          simp only []
          go_wp2
          refine ⟨h143, ?_⟩
          refine drawn_end (ol := [_]) rfl (by kernel_rfl) ?_
          intro K hK
          have s144 := h143
          rw [HL125.out] at s144
          have f145 := s144.nth 3 rfl
          have t146 := s144.lt 3 rfl
          clear s144
          have s147 := h143
          rw [HL125.out] at s147
          go_wp2_with fail
          clear f145 t146
          simp only [Exit.jump]
          refine Own.named (Q := fun X => bodyPost _ _ _ _ _ X) (show Own w [(p8, .cells (ints .u64 (c109 ++ c111)) 88), (p7, .cells (ints .u64 (c105 ++ c107)) 88), (p6, .cells (ints .u64 cx) 28), (p4, .cells (ints .u8 (bytesF (((B + V) * (B + V) * ((B - V) * (B - V))) * (inv (((B + V) * (B + V) - (B - V) * (B - V)) * ((B + V) * (B + V) + toFp 121665 * ((B + V) * (B + V) - (B - V) * (B - V)))))))) 22), (p2, .cells (ints .u8 (C)) 22)] _ from (s147.set 3 (.cells (ints .u8 (bytesF (((B + V) * (B + V) * ((B - V) * (B - V))) * (inv (((B + V) * (B + V) - (B - V) * (B - V)) * ((B + V) * (B + V) + toFp 121665 * ((B + V) * (B + V) - (B - V) * (B - V)))))))) 22) rfl)) ?_
          intro V149 h148
          clear s147 h143
          obtain ⟨L150, hL150⟩ : ∃ L : List (Nat × Obj), L = [(p8, .cells (ints .u64 (c109 ++ c111)) 88), (p7, .cells (ints .u64 (c105 ++ c107)) 88), (p6, .cells (ints .u64 cx) 28), (p4, .cells (ints .u8 (bytesF (((B + V) * (B + V) * ((B - V) * (B - V))) * (inv (((B + V) * (B + V) - (B - V) * (B - V)) * ((B + V) * (B + V) + toFp 121665 * ((B + V) * (B + V) - (B - V) * (B - V)))))))) 22), (p2, .cells (ints .u8 (C)) 22)] := ⟨_, rfl⟩
          rw [← hL150] at h148
          have HL150 := Lib.hid hL150
          clear hL150
          have s151 := h148
          rw [HL150.out] at s151
          refine ret_cell rfl rfl rfl ?_
          refine cellRet_of (s151.nth 3 rfl) (aggB_ints (len_bytesF _) (by kernel_rfl)) ?_
          exact ⟨by rw [ladF_f (pairs_zero HJ0.out HK.out HQ.out)], s151.fr⟩
        · obtain ⟨i, rfl⟩ : ∃ i, j = i + 1 := ⟨j - 1, by omega⟩
          have hj1 : decide ((0 : Int) < ((i + 1 : Nat) : Int)) = true := by rw [decide_eq_true_eq]; omega
          have hi1 : Value.int .i64 (((i + 1 : Nat) : Int) - 1) = .int .i64 (i : Int) := by congr 1; omega
          have s152 := hI
          rw [HL1.out] at s152
          have f153 := s152.nth 4 rfl
          have t154 := s152.lt 4 rfl
          have f155 := s152.nth 0 rfl
          have t156 := s152.lt 0 rfl
          have f157 := s152.nth 1 rfl
          have t158 := s152.lt 1 rfl
          have f159 := s152.nth 2 rfl
          have t160 := s152.lt 2 rfl
          have e161 := s152.ne 4 0 rfl rfl (by decide)
          have e162 := s152.ne 4 1 rfl rfl (by decide)
          have e163 := s152.ne 0 4 rfl rfl (by decide)
          have e164 := s152.ne 0 1 rfl rfl (by decide)
          have e165 := s152.ne 0 2 rfl rfl (by decide)
          have e166 := s152.ne 1 4 rfl rfl (by decide)
          have e167 := s152.ne 1 0 rfl rfl (by decide)
          have e168 := s152.ne 1 2 rfl rfl (by decide)
          have e169 := s152.ne 2 0 rfl rfl (by decide)
          have e170 := s152.ne 2 1 rfl rfl (by decide)
          clear s152
          go_wp2_with fail
          clear f153 t154 f155 t156 f157 t158 f159 t160 e161 e162 e163 e164 e165 e166 e167 e168 e169 e170
          have s171 := hI
          rw [HL1.out] at s171
          refine (step_f Hbx.out Hbz.out Hax.out Haz.out Hcx.out).mono ?_
          rintro e w172 ⟨c174, c176, c178, c180, rfl, k175, k177, k179, k181, F173⟩
          have nc174 := k175.len
          have Hc174 := Lib.hid k175
          clear k175
          have nc176 := k177.len
          have Hc176 := Lib.hid k177
          clear k177
          have nc178 := k179.len
          have Hc178 := Lib.hid k179
          clear k179
          have nc180 := k181.len
          have Hc180 := Lib.hid k181
          clear k181
          have h182 : Own w [(p8, .cells (ints .u64 (ax ++ az)) 88), (p7, .cells (ints .u64 (bx ++ bz)) 88), (p6, .cells (ints .u64 cx) 28), (p4, .cells (ints .u8 (List.replicate 32 0)) 22), (p2, .cells (ints .u8 (C)) 22)] w172 := (((s171.set 1 (.cells (ints .u64 (bx ++ bz)) 88) rfl).set 0 (.cells (ints .u64 (ax ++ az)) 88) rfl)).call F173
          clear F173
          simp only []
          clear s171 hI
          obtain ⟨L183, hL183⟩ : ∃ L : List (Nat × Obj), L = [(p8, .cells (ints .u64 (ax ++ az)) 88), (p7, .cells (ints .u64 (bx ++ bz)) 88), (p6, .cells (ints .u64 cx) 28), (p4, .cells (ints .u8 (List.replicate 32 0)) 22), (p2, .cells (ints .u8 (C)) 22)] := ⟨_, rfl⟩
          rw [← hL183] at h182
          have HL183 := Lib.hid hL183
          clear hL183
          have hq := HP.out.swap.step X
          simp only [Bool.not_true] at hq
          have HQ := Lib.hid hq
          clear hq
          have s184 := h182
          rw [HL183.out] at s184
          have f185 := s184.nth 1 rfl
          have t186 := s184.lt 1 rfl
          have f187 := s184.nth 0 rfl
          have t188 := s184.lt 0 rfl
          have e189 := s184.ne 1 0 rfl rfl (by decide)
          have e190 := s184.ne 0 1 rfl rfl (by decide)
          clear s184
          go_wp2_with fail
          clear f185 t186 f187 t188 e189 e190
          have s191 := h182
          rw [HL183.out] at s191
          go_step3
          refine ⟨rfl, i, by omega, p2, p4, p6, p7, p8, cx, c174, c176, c178, c180, _, _, _, _, false, ⟨rfl, rfl, rfl, rfl, rfl, rfl, rfl, rfl, rfl⟩, by omega, ((s191.set 1 (.cells (ints .u64 (c174 ++ c176)) 88) rfl).set 0 (.cells (ints .u64 (c178 ++ c180)) 88) rfl), ⟨Hcx.out, Hc174.out, Hc176.out, Hc178.out, Hc180.out⟩, ?_⟩
          exact pairs_next hj HK.out HQ.out
    · rw [hb] at hand
      have hk : kbit C j = true := by unfold kbit; rw [hb]; rfl
      have HK := Lib.hid hk
      clear hk hb hr hr2
      cases last
      · simp only [Bool.false_eq_true, if_false]
        rcases Nat.eq_zero_or_pos j with hj0 | hj0
        · have hj1 : decide ((0 : Int) < (j : Int)) = false := by simp [hj0]
          have hj2 : ¬ (0 : Int) < (j : Int) := by omega
          have HJ0 := Lib.hid hj0
          clear hj0 hj
          have s192 := hI
          rw [HL1.out] at s192
          have f193 := s192.nth 4 rfl
          have t194 := s192.lt 4 rfl
          have f195 := s192.nth 0 rfl
          have t196 := s192.lt 0 rfl
          have f197 := s192.nth 1 rfl
          have t198 := s192.lt 1 rfl
          have f199 := s192.nth 2 rfl
          have t200 := s192.lt 2 rfl
          have e201 := s192.ne 4 0 rfl rfl (by decide)
          have e202 := s192.ne 4 1 rfl rfl (by decide)
          have e203 := s192.ne 0 4 rfl rfl (by decide)
          have e204 := s192.ne 0 1 rfl rfl (by decide)
          have e205 := s192.ne 0 2 rfl rfl (by decide)
          have e206 := s192.ne 1 4 rfl rfl (by decide)
          have e207 := s192.ne 1 0 rfl rfl (by decide)
          have e208 := s192.ne 1 2 rfl rfl (by decide)
          have e209 := s192.ne 2 0 rfl rfl (by decide)
          have e210 := s192.ne 2 1 rfl rfl (by decide)
          clear s192
          go_wp2_with fail
          clear f193 t194 f195 t196 f197 t198 f199 t200 e201 e202 e203 e204 e205 e206 e207 e208 e209 e210
          have s211 := hI
          rw [HL1.out] at s211
          refine (step_f Hbx.out Hbz.out Hax.out Haz.out Hcx.out).mono ?_
          rintro e w212 ⟨c214, c216, c218, c220, rfl, k215, k217, k219, k221, F213⟩
          have nc214 := k215.len
          have Hc214 := Lib.hid k215
          clear k215
          have nc216 := k217.len
          have Hc216 := Lib.hid k217
          clear k217
          have nc218 := k219.len
          have Hc218 := Lib.hid k219
          clear k219
          have nc220 := k221.len
          have Hc220 := Lib.hid k221
          clear k221
          have h222 : Own w [(p8, .cells (ints .u64 (ax ++ az)) 88), (p7, .cells (ints .u64 (bx ++ bz)) 88), (p6, .cells (ints .u64 cx) 28), (p4, .cells (ints .u8 (List.replicate 32 0)) 22), (p2, .cells (ints .u8 (C)) 22)] w212 := (((s211.set 1 (.cells (ints .u64 (bx ++ bz)) 88) rfl).set 0 (.cells (ints .u64 (ax ++ az)) 88) rfl)).call F213
          clear F213
          simp only []
          clear s211 hI
          obtain ⟨L223, hL223⟩ : ∃ L : List (Nat × Obj), L = [(p8, .cells (ints .u64 (ax ++ az)) 88), (p7, .cells (ints .u64 (bx ++ bz)) 88), (p6, .cells (ints .u64 cx) 28), (p4, .cells (ints .u8 (List.replicate 32 0)) 22), (p2, .cells (ints .u8 (C)) 22)] := ⟨_, rfl⟩
          rw [← hL223] at h222
          have HL223 := Lib.hid hL223
          clear hL223
          have hq := HP.out.swap.step X
          simp only [Bool.not_false] at hq
          have HQ := Lib.hid hq
          clear hq
          have s224 := h222
          rw [HL223.out] at s224
          have f225 := s224.nth 0 rfl
          have t226 := s224.lt 0 rfl
          have f227 := s224.nth 1 rfl
          have t228 := s224.lt 1 rfl
          have e229 := s224.ne 0 1 rfl rfl (by decide)
          have e230 := s224.ne 1 0 rfl rfl (by decide)
          clear s224
          go_wp2_with fail
          clear f225 t226 f227 t228 e229 e230
          have s231 := h222
          rw [HL223.out] at s231
          refine Own.named (Q := fun X => Code.wp _ _ _ _ X) (show Own w [(p8, .cells (ints .u64 (c218 ++ c220)) 88), (p7, .cells (ints .u64 (c218 ++ c220)) 88), (p6, .cells (ints .u64 cx) 28), (p4, .cells (ints .u8 (List.replicate 32 0)) 22), (p2, .cells (ints .u8 (C)) 22)] _ from (((s231.set 1 (.cells (ints .u64 (c214 ++ c216)) 88) rfl).set 0 (.cells (ints .u64 (c218 ++ c220)) 88) rfl).set 1 (.cells (ints .u64 (c218 ++ c220)) 88) rfl)) ?_
          intro V233 h232
          clear s231 h222
          obtain ⟨L234, hL234⟩ : ∃ L : List (Nat × Obj), L = [(p8, .cells (ints .u64 (c218 ++ c220)) 88), (p7, .cells (ints .u64 (c218 ++ c220)) 88), (p6, .cells (ints .u64 cx) 28), (p4, .cells (ints .u8 (List.replicate 32 0)) 22), (p2, .cells (ints .u8 (C)) 22)] := ⟨_, rfl⟩
          rw [← hL234] at h232
          have HL234 := Lib.hid hL234
          clear hL234
          refine drawn_begin 7 (Own w L234) (by kernel_rfl) ?_
          refine Own.named (Q := fun X => Go.Dr.wpAnyS Try.prog .any _ _ _ _ _ _ _ X) (h232.drew) ?_
          intro V235 h236
          clear h232
          have s237 := h236
          rw [HL234.out] at s237
          have f238 := s237.nth 1 rfl
          clear s237
          refine drawn_reads (fuel := 4) [0, 1, 2, 3] rfl (by kernel_rfl) (h236) ?_
          repeat (first | (refine rowK_step2 rfl rfl (fun K hK => ?_); go_wp2) | (refine rowK_step rfl (fun K hK => ?_); go_simp; refine hK _ ?_; clear hK K))
          refine rowK_nil ⟨fun w' hw' => ?_, ?_⟩
          · rw [HL234.out] at hw'
            have g239 := hw'.nth 1 rfl
            clear f238
            repeat (first | (refine rowWp_step2 rfl rfl (fun K hK => ?_); go_wp2) | (refine rowWp_step rfl (fun K hK => ?_); go_simp; refine hK _ ?_; clear hK K))
            exact rowWp_nil rfl
          clear f238
          refine drawn_next 4 (fuel := 3) rfl (by kernel_rfl) ?_
          intro K hK
          go_wp2_with fail
          refine (inv_f Hc220.out).mono ?_
          rintro e w240 ⟨c242, rfl, k243, F241⟩
          have nc242 := k243.len
          have Hc242 := Lib.hid k243
          clear k243
          have h244 := (h236).call F241
          clear F241 h236
          simp only []
          go_wp2
          refine ⟨h244, ?_⟩
          refine drawn_next 5 (fuel := 2) rfl (by kernel_rfl) ?_
          intro K hK
          go_wp2_with fail
          refine (mul_f Hc218.out Hc242.out).mono ?_
          rintro e w245 ⟨c247, rfl, k248, F246⟩
          have nc247 := k248.len
          have Hc247 := Lib.hid k248
          clear k248
          have h249 := (h244).call F246
          clear F246 h244
          simp only []
          go_wp2
          refine ⟨h249, ?_⟩
          refine drawn_next 6 (fuel := 1) rfl (by kernel_rfl) ?_
          intro K hK
          go_wp2_with fail
          refine (bytes_f Hc247.out).mono ?_
          rintro e w250 ⟨rfl, F251⟩
          have h252 := (h249).call F251
          clear F251 h249
          simp only []
          go_wp2
          refine ⟨h252, ?_⟩
          refine drawn_end (ol := [_]) rfl (by kernel_rfl) ?_
          intro K hK
          have s253 := h252
          rw [HL234.out] at s253
          have f254 := s253.nth 3 rfl
          have t255 := s253.lt 3 rfl
          clear s253
          have s256 := h252
          rw [HL234.out] at s256
          go_wp2_with fail
          clear f254 t255
          simp only [Exit.jump]
          refine Own.named (Q := fun X => bodyPost _ _ _ _ _ X) (show Own w [(p8, .cells (ints .u64 (c218 ++ c220)) 88), (p7, .cells (ints .u64 (c218 ++ c220)) 88), (p6, .cells (ints .u64 cx) 28), (p4, .cells (ints .u8 (bytesF ((((A - Z) * (B + V) + (A + Z) * (B - V)) * ((A - Z) * (B + V) + (A + Z) * (B - V))) * (inv (X * (((A - Z) * (B + V) - (A + Z) * (B - V)) * ((A - Z) * (B + V) - (A + Z) * (B - V)))))))) 22), (p2, .cells (ints .u8 (C)) 22)] _ from (s256.set 3 (.cells (ints .u8 (bytesF ((((A - Z) * (B + V) + (A + Z) * (B - V)) * ((A - Z) * (B + V) + (A + Z) * (B - V))) * (inv (X * (((A - Z) * (B + V) - (A + Z) * (B - V)) * ((A - Z) * (B + V) - (A + Z) * (B - V)))))))) 22) rfl)) ?_
          intro V258 h257
          clear s256 h252
          obtain ⟨L259, hL259⟩ : ∃ L : List (Nat × Obj), L = [(p8, .cells (ints .u64 (c218 ++ c220)) 88), (p7, .cells (ints .u64 (c218 ++ c220)) 88), (p6, .cells (ints .u64 cx) 28), (p4, .cells (ints .u8 (bytesF ((((A - Z) * (B + V) + (A + Z) * (B - V)) * ((A - Z) * (B + V) + (A + Z) * (B - V))) * (inv (X * (((A - Z) * (B + V) - (A + Z) * (B - V)) * ((A - Z) * (B + V) - (A + Z) * (B - V)))))))) 22), (p2, .cells (ints .u8 (C)) 22)] := ⟨_, rfl⟩
          rw [← hL259] at h257
          have HL259 := Lib.hid hL259
          clear hL259
          have s260 := h257
          rw [HL259.out] at s260
          refine ret_cell rfl rfl rfl ?_
          refine cellRet_of (s260.nth 3 rfl) (aggB_ints (len_bytesF _) (by kernel_rfl)) ?_
          exact ⟨by rw [ladF_t (pairs_zero HJ0.out HK.out HQ.out)], s260.fr⟩
        · obtain ⟨i, rfl⟩ : ∃ i, j = i + 1 := ⟨j - 1, by omega⟩
          have hj1 : decide ((0 : Int) < ((i + 1 : Nat) : Int)) = true := by rw [decide_eq_true_eq]; omega
          have hi1 : Value.int .i64 (((i + 1 : Nat) : Int) - 1) = .int .i64 (i : Int) := by congr 1; omega
          have s261 := hI
          rw [HL1.out] at s261
          have f262 := s261.nth 4 rfl
          have t263 := s261.lt 4 rfl
          have f264 := s261.nth 0 rfl
          have t265 := s261.lt 0 rfl
          have f266 := s261.nth 1 rfl
          have t267 := s261.lt 1 rfl
          have f268 := s261.nth 2 rfl
          have t269 := s261.lt 2 rfl
          have e270 := s261.ne 4 0 rfl rfl (by decide)
          have e271 := s261.ne 4 1 rfl rfl (by decide)
          have e272 := s261.ne 0 4 rfl rfl (by decide)
          have e273 := s261.ne 0 1 rfl rfl (by decide)
          have e274 := s261.ne 0 2 rfl rfl (by decide)
          have e275 := s261.ne 1 4 rfl rfl (by decide)
          have e276 := s261.ne 1 0 rfl rfl (by decide)
          have e277 := s261.ne 1 2 rfl rfl (by decide)
          have e278 := s261.ne 2 0 rfl rfl (by decide)
          have e279 := s261.ne 2 1 rfl rfl (by decide)
          clear s261
          go_wp2_with fail
          clear f262 t263 f264 t265 f266 t267 f268 t269 e270 e271 e272 e273 e274 e275 e276 e277 e278 e279
          have s280 := hI
          rw [HL1.out] at s280
          refine (step_f Hbx.out Hbz.out Hax.out Haz.out Hcx.out).mono ?_
          rintro e w281 ⟨c283, c285, c287, c289, rfl, k284, k286, k288, k290, F282⟩
          have nc283 := k284.len
          have Hc283 := Lib.hid k284
          clear k284
          have nc285 := k286.len
          have Hc285 := Lib.hid k286
          clear k286
          have nc287 := k288.len
          have Hc287 := Lib.hid k288
          clear k288
          have nc289 := k290.len
          have Hc289 := Lib.hid k290
          clear k290
          have h291 : Own w [(p8, .cells (ints .u64 (ax ++ az)) 88), (p7, .cells (ints .u64 (bx ++ bz)) 88), (p6, .cells (ints .u64 cx) 28), (p4, .cells (ints .u8 (List.replicate 32 0)) 22), (p2, .cells (ints .u8 (C)) 22)] w281 := (((s280.set 1 (.cells (ints .u64 (bx ++ bz)) 88) rfl).set 0 (.cells (ints .u64 (ax ++ az)) 88) rfl)).call F282
          clear F282
          simp only []
          clear s280 hI
          obtain ⟨L292, hL292⟩ : ∃ L : List (Nat × Obj), L = [(p8, .cells (ints .u64 (ax ++ az)) 88), (p7, .cells (ints .u64 (bx ++ bz)) 88), (p6, .cells (ints .u64 cx) 28), (p4, .cells (ints .u8 (List.replicate 32 0)) 22), (p2, .cells (ints .u8 (C)) 22)] := ⟨_, rfl⟩
          rw [← hL292] at h291
          have HL292 := Lib.hid hL292
          clear hL292
          have hq := HP.out.swap.step X
          simp only [Bool.not_false] at hq
          have HQ := Lib.hid hq
          clear hq
          have s293 := h291
          rw [HL292.out] at s293
          have f294 := s293.nth 1 rfl
          have t295 := s293.lt 1 rfl
          have f296 := s293.nth 0 rfl
          have t297 := s293.lt 0 rfl
          have e298 := s293.ne 1 0 rfl rfl (by decide)
          have e299 := s293.ne 0 1 rfl rfl (by decide)
          clear s293
          go_wp2_with fail
          clear f294 t295 f296 t297 e298 e299
          have s300 := h291
          rw [HL292.out] at s300
          go_step3
          refine ⟨rfl, i, by omega, p2, p4, p6, p7, p8, cx, c283, c285, c287, c289, _, _, _, _, true, ⟨rfl, rfl, rfl, rfl, rfl, rfl, rfl, rfl, rfl⟩, by omega, ((s300.set 1 (.cells (ints .u64 (c283 ++ c285)) 88) rfl).set 0 (.cells (ints .u64 (c287 ++ c289)) 88) rfl), ⟨Hcx.out, Hc283.out, Hc285.out, Hc287.out, Hc289.out⟩, ?_⟩
          exact pairs_next hj HK.out HQ.out
      · simp only [if_true]
        rcases Nat.eq_zero_or_pos j with hj0 | hj0
        · have hj1 : decide ((0 : Int) < (j : Int)) = false := by simp [hj0]
          have hj2 : ¬ (0 : Int) < (j : Int) := by omega
          have HJ0 := Lib.hid hj0
          clear hj0 hj
          have s301 := hI
          rw [HL1.out] at s301
          have f302 := s301.nth 4 rfl
          have f303 := s301.nth 1 rfl
          have f304 := s301.nth 0 rfl
          have f305 := s301.nth 2 rfl
          clear s301
          go_wp2_with fail
          clear f302 f303 f304 f305
          refine (step_f Hax.out Haz.out Hbx.out Hbz.out Hcx.out).mono ?_
          rintro e w306 ⟨c308, c310, c312, c314, rfl, k309, k311, k313, k315, F307⟩
          have nc308 := k309.len
          have Hc308 := Lib.hid k309
          clear k309
          have nc310 := k311.len
          have Hc310 := Lib.hid k311
          clear k311
          have nc312 := k313.len
          have Hc312 := Lib.hid k313
          clear k313
          have nc314 := k315.len
          have Hc314 := Lib.hid k315
          clear k315
          have s317 := hI
          rw [HL1.out] at s317
          have h316 : Own w [(p8, .cells (ints .u64 (bx ++ bz)) 88), (p7, .cells (ints .u64 (ax ++ az)) 88), (p6, .cells (ints .u64 cx) 28), (p4, .cells (ints .u8 (List.replicate 32 0)) 22), (p2, .cells (ints .u8 (C)) 22)] w306 := (s317).call F307
          clear F307
          simp only []
          clear s317 hI
          obtain ⟨L318, hL318⟩ : ∃ L : List (Nat × Obj), L = [(p8, .cells (ints .u64 (bx ++ bz)) 88), (p7, .cells (ints .u64 (ax ++ az)) 88), (p6, .cells (ints .u64 cx) 28), (p4, .cells (ints .u8 (List.replicate 32 0)) 22), (p2, .cells (ints .u8 (C)) 22)] := ⟨_, rfl⟩
          rw [← hL318] at h316
          have HL318 := Lib.hid hL318
          clear hL318
          have hq := HP.out.step X
          have HQ := Lib.hid hq
          clear hq
          have s319 := h316
          rw [HL318.out] at s319
          have f320 := s319.nth 0 rfl
          have t321 := s319.lt 0 rfl
          have f322 := s319.nth 1 rfl
          have t323 := s319.lt 1 rfl
          have e324 := s319.ne 0 1 rfl rfl (by decide)
          have e325 := s319.ne 1 0 rfl rfl (by decide)
          clear s319
          go_wp2_with fail
          clear f320 t321 f322 t323 e324 e325
          have s326 := h316
          rw [HL318.out] at s326
          refine Own.named (Q := fun X => Code.wp _ _ _ _ X) (show Own w [(p8, .cells (ints .u64 (c312 ++ c314)) 88), (p7, .cells (ints .u64 (c312 ++ c314)) 88), (p6, .cells (ints .u64 cx) 28), (p4, .cells (ints .u8 (List.replicate 32 0)) 22), (p2, .cells (ints .u8 (C)) 22)] _ from (((s326.set 1 (.cells (ints .u64 (c308 ++ c310)) 88) rfl).set 0 (.cells (ints .u64 (c312 ++ c314)) 88) rfl).set 1 (.cells (ints .u64 (c312 ++ c314)) 88) rfl)) ?_
          intro V328 h327
          clear s326 h316
          obtain ⟨L329, hL329⟩ : ∃ L : List (Nat × Obj), L = [(p8, .cells (ints .u64 (c312 ++ c314)) 88), (p7, .cells (ints .u64 (c312 ++ c314)) 88), (p6, .cells (ints .u64 cx) 28), (p4, .cells (ints .u8 (List.replicate 32 0)) 22), (p2, .cells (ints .u8 (C)) 22)] := ⟨_, rfl⟩
          rw [← hL329] at h327
          have HL329 := Lib.hid hL329
          clear hL329
          refine drawn_begin 7 (Own w L329) (by kernel_rfl) ?_
          refine Own.named (Q := fun X => Go.Dr.wpAnyS Try.prog .any _ _ _ _ _ _ _ X) (h327.drew) ?_
          intro V330 h331
          clear h327
          have s332 := h331
          rw [HL329.out] at s332
          have f333 := s332.nth 1 rfl
          clear s332
          refine drawn_reads (fuel := 4) [0, 1, 2, 3] rfl (by kernel_rfl) (h331) ?_
          repeat (first | (refine rowK_step2 rfl rfl (fun K hK => ?_); go_wp2) | (refine rowK_step rfl (fun K hK => ?_); go_simp; refine hK _ ?_; clear hK K))
          refine rowK_nil ⟨fun w' hw' => ?_, ?_⟩
          · rw [HL329.out] at hw'
            have g334 := hw'.nth 1 rfl
            clear f333
            repeat (first | (refine rowWp_step2 rfl rfl (fun K hK => ?_); go_wp2) | (refine rowWp_step rfl (fun K hK => ?_); go_simp; refine hK _ ?_; clear hK K))
            exact rowWp_nil rfl
          clear f333
          refine drawn_next 4 (fuel := 3) rfl (by kernel_rfl) ?_
          intro K hK
          go_wp2_with fail
          refine (inv_f Hc314.out).mono ?_
          rintro e w335 ⟨c337, rfl, k338, F336⟩
          have nc337 := k338.len
          have Hc337 := Lib.hid k338
          clear k338
          have h339 := (h331).call F336
          clear F336 h331
          simp only []
          go_wp2
          refine ⟨h339, ?_⟩
          refine drawn_next 5 (fuel := 2) rfl (by kernel_rfl) ?_
          intro K hK
          go_wp2_with fail
          refine (mul_f Hc312.out Hc337.out).mono ?_
          rintro e w340 ⟨c342, rfl, k343, F341⟩
          have nc342 := k343.len
          have Hc342 := Lib.hid k343
          clear k343
          have h344 := (h339).call F341
          clear F341 h339
          simp only []
          go_wp2
          refine ⟨h344, ?_⟩
          refine drawn_next 6 (fuel := 1) rfl (by kernel_rfl) ?_
          intro K hK
          go_wp2_with fail
          refine (bytes_f Hc342.out).mono ?_
          rintro e w345 ⟨rfl, F346⟩
          have h347 := (h344).call F346
          clear F346 h344
          simp only []
          go_wp2
          refine ⟨h347, ?_⟩
          refine drawn_end (ol := [_]) rfl (by kernel_rfl) ?_
          intro K hK
          have s348 := h347
          rw [HL329.out] at s348
          have f349 := s348.nth 3 rfl
          have t350 := s348.lt 3 rfl
          clear s348
          have s351 := h347
          rw [HL329.out] at s351
          go_wp2_with fail
          clear f349 t350
          simp only [Exit.jump]
          refine Own.named (Q := fun X => bodyPost _ _ _ _ _ X) (show Own w [(p8, .cells (ints .u64 (c312 ++ c314)) 88), (p7, .cells (ints .u64 (c312 ++ c314)) 88), (p6, .cells (ints .u64 cx) 28), (p4, .cells (ints .u8 (bytesF ((((B - V) * (A + Z) + (B + V) * (A - Z)) * ((B - V) * (A + Z) + (B + V) * (A - Z))) * (inv (X * (((B - V) * (A + Z) - (B + V) * (A - Z)) * ((B - V) * (A + Z) - (B + V) * (A - Z)))))))) 22), (p2, .cells (ints .u8 (C)) 22)] _ from (s351.set 3 (.cells (ints .u8 (bytesF ((((B - V) * (A + Z) + (B + V) * (A - Z)) * ((B - V) * (A + Z) + (B + V) * (A - Z))) * (inv (X * (((B - V) * (A + Z) - (B + V) * (A - Z)) * ((B - V) * (A + Z) - (B + V) * (A - Z)))))))) 22) rfl)) ?_
          intro V353 h352
          clear s351 h347
          obtain ⟨L354, hL354⟩ : ∃ L : List (Nat × Obj), L = [(p8, .cells (ints .u64 (c312 ++ c314)) 88), (p7, .cells (ints .u64 (c312 ++ c314)) 88), (p6, .cells (ints .u64 cx) 28), (p4, .cells (ints .u8 (bytesF ((((B - V) * (A + Z) + (B + V) * (A - Z)) * ((B - V) * (A + Z) + (B + V) * (A - Z))) * (inv (X * (((B - V) * (A + Z) - (B + V) * (A - Z)) * ((B - V) * (A + Z) - (B + V) * (A - Z)))))))) 22), (p2, .cells (ints .u8 (C)) 22)] := ⟨_, rfl⟩
          rw [← hL354] at h352
          have HL354 := Lib.hid hL354
          clear hL354
          have s355 := h352
          rw [HL354.out] at s355
          refine ret_cell rfl rfl rfl ?_
          refine cellRet_of (s355.nth 3 rfl) (aggB_ints (len_bytesF _) (by kernel_rfl)) ?_
          exact ⟨by rw [ladF_t (pairs_zero HJ0.out HK.out HQ.out)], s355.fr⟩
        · obtain ⟨i, rfl⟩ : ∃ i, j = i + 1 := ⟨j - 1, by omega⟩
          have hj1 : decide ((0 : Int) < ((i + 1 : Nat) : Int)) = true := by rw [decide_eq_true_eq]; omega
          have hi1 : Value.int .i64 (((i + 1 : Nat) : Int) - 1) = .int .i64 (i : Int) := by congr 1; omega
          have s356 := hI
          rw [HL1.out] at s356
          have f357 := s356.nth 4 rfl
          have f358 := s356.nth 1 rfl
          have f359 := s356.nth 0 rfl
          have f360 := s356.nth 2 rfl
          clear s356
          go_wp2_with fail
          clear f357 f358 f359 f360
          refine (step_f Hax.out Haz.out Hbx.out Hbz.out Hcx.out).mono ?_
          rintro e w361 ⟨c363, c365, c367, c369, rfl, k364, k366, k368, k370, F362⟩
          have nc363 := k364.len
          have Hc363 := Lib.hid k364
          clear k364
          have nc365 := k366.len
          have Hc365 := Lib.hid k366
          clear k366
          have nc367 := k368.len
          have Hc367 := Lib.hid k368
          clear k368
          have nc369 := k370.len
          have Hc369 := Lib.hid k370
          clear k370
          have s372 := hI
          rw [HL1.out] at s372
          have h371 : Own w [(p8, .cells (ints .u64 (bx ++ bz)) 88), (p7, .cells (ints .u64 (ax ++ az)) 88), (p6, .cells (ints .u64 cx) 28), (p4, .cells (ints .u8 (List.replicate 32 0)) 22), (p2, .cells (ints .u8 (C)) 22)] w361 := (s372).call F362
          clear F362
          simp only []
          clear s372 hI
          obtain ⟨L373, hL373⟩ : ∃ L : List (Nat × Obj), L = [(p8, .cells (ints .u64 (bx ++ bz)) 88), (p7, .cells (ints .u64 (ax ++ az)) 88), (p6, .cells (ints .u64 cx) 28), (p4, .cells (ints .u8 (List.replicate 32 0)) 22), (p2, .cells (ints .u8 (C)) 22)] := ⟨_, rfl⟩
          rw [← hL373] at h371
          have HL373 := Lib.hid hL373
          clear hL373
          have hq := HP.out.step X
          have HQ := Lib.hid hq
          clear hq
          have s374 := h371
          rw [HL373.out] at s374
          have f375 := s374.nth 1 rfl
          have t376 := s374.lt 1 rfl
          have f377 := s374.nth 0 rfl
          have t378 := s374.lt 0 rfl
          have e379 := s374.ne 1 0 rfl rfl (by decide)
          have e380 := s374.ne 0 1 rfl rfl (by decide)
          clear s374
          go_wp2_with fail
          clear f375 t376 f377 t378 e379 e380
          have s381 := h371
          rw [HL373.out] at s381
          go_step3
          refine ⟨rfl, i, by omega, p2, p4, p6, p7, p8, cx, c363, c365, c367, c369, _, _, _, _, true, ⟨rfl, rfl, rfl, rfl, rfl, rfl, rfl, rfl, rfl⟩, by omega, ((s381.set 1 (.cells (ints .u64 (c363 ++ c365)) 88) rfl).set 0 (.cells (ints .u64 (c367 ++ c369)) 88) rfl), ⟨Hcx.out, Hc363.out, Hc365.out, Hc367.out, Hc369.out⟩, ?_⟩
          exact pairs_next hj HK.out HQ.out
  · have nz5 : (zs 5).length = 5 := rfl
    have HZ5 := Lib.hid is_zs5
    go_wp2_with fail
    simp only [Nat.add_assoc, Nat.reduceAdd]
    refine (of_one).mono ?_
    rintro e w385 ⟨c387, rfl, k388, F386⟩
    have nc387 := k388.len
    have Hc387 := Lib.hid k388
    clear k388
    have h389 : Own w [(w.heap.size + 2, .cells (ints .u8 (List.replicate 32 0)) 22), (w.heap.size + 1, .cells (ints .u8 (U)) 22), (w.heap.size, .cells (ints .u8 (clC S)) 22)] w385 := (((((Own.start w).allocN (.cells (ints .u8 (clC S)) 22) w.heap.size rfl).allocN (.cells (ints .u8 (U)) 22) (w.heap.size + 1) (by simp)).allocN (.cells (ints .u8 (List.replicate 32 0)) 22) (w.heap.size + 2) (by simp))).call F386
    clear F386
    simp only []
    generalize w.heap.size + 2 = bk384 at h389 ⊢
    generalize w.heap.size + 1 = bk383 at h389 ⊢
    generalize w.heap.size = bk382 at h389 ⊢
    rw [← HC.out.symm] at h389
    obtain ⟨L390, hL390⟩ : ∃ L : List (Nat × Obj), L = [(bk384, .cells (ints .u8 (List.replicate 32 0)) 22), (bk383, .cells (ints .u8 (U)) 22), (bk382, .cells (ints .u8 (C)) 22)] := ⟨_, rfl⟩
    rw [← hL390] at h389
    have HL390 := Lib.hid hL390
    clear hL390
    have s391 := h389
    rw [HL390.out] at s391
    have f392 := s391.nth 1 rfl
    have t393 := s391.lt 1 rfl
    clear s391
    go_wp2_with fail
    clear f392 t393
    have s394 := h389
    rw [HL390.out] at s394
    refine (of_n HX.out hU HU.out).mono ?_
    rintro e w396 ⟨c398, rfl, k399, F397⟩
    have nc398 := k399.len
    have Hc398 := Lib.hid k399
    clear k399
    have h400 : Own w [(w385.heap.size, .cells (ints .u64 c387) 28), (bk384, .cells (ints .u8 (List.replicate 32 0)) 22), (bk383, .cells (ints .u8 (U)) 22), (bk382, .cells (ints .u8 (C)) 22)] w396 := ((s394.allocN (.cells (ints .u64 c387) 28) (w385.heap.size) (by simp))).call F397
    clear F397
    simp only []
    generalize w385.heap.size = bk395 at h400 ⊢
    clear s394 h389
    obtain ⟨L401, hL401⟩ : ∃ L : List (Nat × Obj), L = [(bk395, .cells (ints .u64 c387) 28), (bk384, .cells (ints .u8 (List.replicate 32 0)) 22), (bk383, .cells (ints .u8 (U)) 22), (bk382, .cells (ints .u8 (C)) 22)] := ⟨_, rfl⟩
    rw [← hL401] at h400
    have HL401 := Lib.hid hL401
    clear hL401
    go_wp2_with fail
    have s402 := h400
    rw [HL401.out] at s402
    refine Own.named (Q := fun X => Code.wp _ _ _ _ X) (show Own w [(w396.heap.size, .cells (ints .u64 c398) 28), (bk395, .cells (ints .u64 c387) 28), (bk384, .cells (ints .u8 (List.replicate 32 0)) 22), (bk383, .cells (ints .u8 (U)) 22), (bk382, .cells (ints .u8 (C)) 22)] _ from (s402.allocN (.cells (ints .u64 c398) 28) (w396.heap.size) (by simp))) ?_
    intro V405 h404
    generalize w396.heap.size = bk403 at h404 ⊢
    clear s402 h400
    obtain ⟨L406, hL406⟩ : ∃ L : List (Nat × Obj), L = [(bk403, .cells (ints .u64 c398) 28), (bk395, .cells (ints .u64 c387) 28), (bk384, .cells (ints .u8 (List.replicate 32 0)) 22), (bk383, .cells (ints .u8 (U)) 22), (bk382, .cells (ints .u8 (C)) 22)] := ⟨_, rfl⟩
    rw [← hL406] at h404
    have HL406 := Lib.hid hL406
    clear hL406
    refine drawn_begin 9 (Own w L406) (by kernel_rfl) ?_
    refine Own.named (Q := fun X => Go.Dr.wpAnyS Try.prog .any _ _ _ _ _ _ _ X) (h404.drew) ?_
    intro V407 h408
    clear h404
    have s409 := h408
    rw [HL406.out] at s409
    have f410 := s409.nth 1 rfl
    have f411 := s409.nth 0 rfl
    clear s409
    refine drawn_reads (fuel := 4) [0, 1, 2, 3, 4, 5] rfl (by kernel_rfl) (h408) ?_
    repeat (first | (refine rowK_step2 rfl rfl (fun K hK => ?_); go_wp2) | (refine rowK_step rfl (fun K hK => ?_); go_simp; refine hK _ ?_; clear hK K))
    refine rowK_nil ⟨fun w' hw' => ?_, ?_⟩
    · rw [HL406.out] at hw'
      have g412 := hw'.nth 1 rfl
      have g413 := hw'.nth 0 rfl
      clear f410 f411
      repeat (first | (refine rowWp_step2 rfl rfl (fun K hK => ?_); go_wp2) | (refine rowWp_step rfl (fun K hK => ?_); go_simp; refine hK _ ?_; clear hK K))
      exact rowWp_nil rfl
    clear f410 f411
    obtain ⟨p, hp⟩ : ∃ p : Par, p = ⟨[], [(6, 7, .cells (ints .u64 (List.replicate 10 0)) 88), (7, 8, .cells (ints .u64 (List.replicate 10 0)) 88)], [0, 1, 2, 3, 4, 5]⟩ := ⟨_, rfl⟩
    have ok : p.ok := by rw [hp]; exact ⟨(by decide : [6, 7].Nodup), (by decide : [7, 8].Nodup)⟩
    refine drawn_inv2 8 (N := 9) (rest := 2) [7, 8] (fun L s w => p.Inv V407 L s w) (fun _ => undef) 2 (by kernel_rfl) (fun L s w h => ?_) rfl ?_ ?_ ?_
    · exact h408.call h.fr
    · refine Par.Inv.start ?_ ?_ ?_ <;> rw [hp] <;> intro i hi <;> simp at hi
      · rcases hi with rfl | rfl | rfl | rfl | rfl | rfl <;> rfl
      · rcases hi with rfl | rfl <;> rfl
    · intro i o L s w ho hi hL hd h K hK
      rcases (show i = 0 ∨ i = 1 ∨ i = 2 ∨ i = 3 ∨ i = 4 ∨ i = 5 ∨ i = 6 ∨ i = 7 by omega) with rfl | rfl | rfl | rfl | rfl | rfl | rfl | rfl
      · rw [h.row 0 (by rw [hp]; simp)] at hL; cases hL
      · rw [h.row 1 (by rw [hp]; simp)] at hL; cases hL
      · rw [h.row 2 (by rw [hp]; simp)] at hL; cases hL
      · rw [h.row 3 (by rw [hp]; simp)] at hL; cases hL
      · rw [h.row 4 (by rw [hp]; simp)] at hL; cases hL
      · rw [h.row 5 (by rw [hp]; simp)] at hL; cases hL
      · injection (show some _ = some o from ho) with ho; subst ho
        simp only [fill]
        go_wp2
        exact ⟨_, by kernel_rfl, h.made ok (6, 7, .cells (ints .u64 (List.replicate 10 0)) 88) (by rw [hp]; simp)⟩
      · injection (show some _ = some o from ho) with ho; subst ho
        simp only [fill]
        go_wp2
        exact ⟨_, by kernel_rfl, h.made ok (7, 8, .cells (ints .u64 (List.replicate 10 0)) 88) (by rw [hp]; simp)⟩
    intro s w414 h
    obtain ⟨bk415, e416, l417, m418⟩ := h.room (6, 7, .cells (ints .u64 (List.replicate 10 0)) 88) (by rw [hp]; simp) rfl
    obtain ⟨bk419, e420, l421, m422⟩ := h.room (7, 8, .cells (ints .u64 (List.replicate 10 0)) 88) (by rw [hp]; simp) rfl
    simp only [] at e416 e420
    have q423 := h.apart (7, 8, .cells (ints .u64 (List.replicate 10 0)) 88) (by rw [hp]; simp) (6, 7, .cells (ints .u64 (List.replicate 10 0)) 88) (by rw [hp]; simp) (by simp) rfl rfl
    simp only [e420, e416] at q423
    have h424 := h408.call h.fr
    simp only [fill, e416, e420]
    have h425 := ((h424.room m418 (h408.fresh l417) (Nat.le_trans h408.fr.size l417)).room m422 (by simp only [List.map_cons, List.mem_cons, not_or]; exact ⟨(fun e => q423 (by rw [e])), (h408.fresh l421)⟩) (Nat.le_trans h408.fr.size l421))
    rw [HL406.out] at h425
    clear e416 e420 q423 l417 m418 l421 m422  h ok hp h408 p
    refine drawn_next 8 (fuel := 1) rfl (by kernel_rfl) ?_
    intro K hK
    have f426 := h425.nth 1 rfl
    have t427 := h425.lt 1 rfl
    go_wp2
    clear f426 t427
    have h428 : Own w [(bk419, .cells (ints .u64 (List.replicate 10 0)) 88), (bk415, .cells (ints .u64 (c387 ++ (zs 5))) 88), (bk403, .cells (ints .u64 c398) 28), (bk395, .cells (ints .u64 c387) 28), (bk384, .cells (ints .u8 (List.replicate 32 0)) 22), (bk383, .cells (ints .u8 (U)) 22), (bk382, .cells (ints .u8 (C)) 22)] _ := h425.set 1 (.cells (ints .u64 (c387 ++ (zs 5))) 88) rfl
    clear h425
    have h429 : Own w L406 _ := Own.cast HL406.out (((h428.drop 1).drop 0))
    clear h424
    refine ⟨h429, ?_⟩
    clear h429
    obtain ⟨L430, hL430⟩ : ∃ L : List (Nat × Obj), L = [(bk419, .cells (ints .u64 (List.replicate 10 0)) 88), (bk415, .cells (ints .u64 (c387 ++ (zs 5))) 88), (bk403, .cells (ints .u64 c398) 28), (bk395, .cells (ints .u64 c387) 28), (bk384, .cells (ints .u8 (List.replicate 32 0)) 22), (bk383, .cells (ints .u8 (U)) 22), (bk382, .cells (ints .u8 (C)) 22)] := ⟨_, rfl⟩
    rw [← hL430] at h428
    have HL430 := Lib.hid hL430
    clear hL430
    refine drawn_end (ol := [_]) rfl (by kernel_rfl) ?_
    intro K hK
    have s431 := h428
    rw [HL430.out] at s431
    have f432 := s431.nth 0 rfl
    have t433 := s431.lt 0 rfl
    clear s431
    have s434 := h428
    rw [HL430.out] at s434
    go_wp2_with fail
    clear f432 t433
    refine Own.named (Q := fun X => Code.wp _ _ _ _ X) (show Own w [(bk419, .cells (ints .u64 (c398 ++ c387)) 88), (bk415, .cells (ints .u64 (c387 ++ (zs 5))) 88), (bk403, .cells (ints .u64 c398) 28), (bk395, .cells (ints .u64 c387) 28), (bk384, .cells (ints .u8 (List.replicate 32 0)) 22), (bk383, .cells (ints .u8 (U)) 22), (bk382, .cells (ints .u8 (C)) 22)] _ from (s434.set 0 (.cells (ints .u64 (c398 ++ c387)) 88) rfl)) ?_
    intro V436 h435
    clear s434 h428
    obtain ⟨L437, hL437⟩ : ∃ L : List (Nat × Obj), L = [(bk419, .cells (ints .u64 (c398 ++ c387)) 88), (bk415, .cells (ints .u64 (c387 ++ (zs 5))) 88), (bk403, .cells (ints .u64 c398) 28), (bk395, .cells (ints .u64 c387) 28), (bk384, .cells (ints .u8 (List.replicate 32 0)) 22), (bk383, .cells (ints .u8 (U)) 22), (bk382, .cells (ints .u8 (C)) 22)] := ⟨_, rfl⟩
    rw [← hL437] at h435
    have HL437 := Lib.hid hL437
    clear hL437
    go_step3
    rename_i K0 hK0
    have hfin := h435
    rw [HL437.out] at hfin
    refine hK0 _ _ (next 254 _ _ ⟨bk382, bk384, bk403, bk415, bk419, c398, c387, zs 5, c398, c387, 1, 0, X, 1, false, ⟨rfl, rfl, rfl, rfl, rfl, rfl, rfl, rfl, rfl⟩, by omega, ((hfin.drop 3).drop 4), ⟨Hc398.out, Hc387.out, HZ5.out, Hc398.out, Hc387.out⟩, start_pairs X C (by omega)⟩)
end
end Go.Proofs.Ytakhmmnklkckpaa
