/- CurveSums: the walk. -/
import Derived.Test.YtakhmmnklkckpaaCwD
namespace Go.Proofs.Ytakhmmnklkckpaa
open Go.RowKit Go.Dr

section
variable {w : World}
/-- The order's bytes, as the statement writes them. -/
def ordB0 : List Int := [237, 211, 245, 92, 26, 99, 18, 88, 214, 156, 247, 162, 222, 249, 222, 20, 0, 0, 0, 0, 0, 0, 0, 0, 0, 0, 0, 0, 0, 0, 0, 0]
theorem byt_ordB : Byt (ordB0.set 31 16) := fun y hy => by
  have h : (ordB0.set 31 16).all (fun y => decide (0 ≤ y) && decide (y < 256)) = true := by decide
  have := List.all_eq_true.1 h y hy
  simpa using this
theorem num_ordB : numB (ordB0.set 31 16) = ordL := by decide +kernel
theorem byt_numL (x : Int) : Byt (numL x) := fun y hy => by
  obtain ⟨i, hi, rfl⟩ := List.getElem_of_mem hy
  have h : (numL x)[i] = el (numL x) i := by simp [el, hi]
  rw [h, numL, el_upd]
  split
  · omega
  · rw [el_zs]; omega
theorem length_numL (x : Int) : (numL x).length = 32 := length_upd _ _ _ (by rw [length_zs]; omega)
theorem num_numL (x : Int) (h : 0 ≤ x ∧ x < 18446744073709551616) : numB (numL x) = x.toNat := by
  have e : numL x = [x / 2 ^ 0 % 256, x / 2 ^ 8 % 256, x / 2 ^ 16 % 256, x / 2 ^ 24 % 256, x / 2 ^ 32 % 256, x / 2 ^ 40 % 256, x / 2 ^ 48 % 256, x / 2 ^ 56 % 256] ++ zs 24 := rfl
  have hz : ∀ n, le (zs n) = 0 := fun n => by
    induction n with
    | zero => rfl
    | succ n ih => rw [show zs (n + 1) = 0 :: zs n from rfl, le, ih]; rfl
  unfold numB
  rw [e]
  simp only [List.cons_append, List.nil_append, le, hz]
  omega

set_option maxRecDepth 100000 in
set_option maxHeartbeats 8000000 in
theorem curveSums_core (R O : List Int) (bs A B C L : Pt) (a b : Int) (OB : List Int) (lR : R.length = 32) (yR : Byt R) (lO : O.length = 32) (yO : Byt O) (hR0 : encP (pad dC A B) = R) (hR1 : encP C = R) (hR2 : encP L = O)  (hbs : bsP = bs) (hMA : mulP dC (numB (numL a)) bs = A) (hMB : mulP dC (numB (numL b)) bs = B) (hMC : mulP dC (numB (numL (a + b))) bs = C) (hML : mulP dC (numB OB) bs = L) (lOB : OB.length = 32) (yOB : Byt OB) (hOB : OB = ordB0.set 31 16) (ha : 0 ≤ a ∧ a < 18446744073709551616) (hb : 0 ≤ b ∧ b < 18446744073709551616) (hs : 0 ≤ a + b ∧ a + b < 18446744073709551616) (ea : a % 18446744073709551616 = a) (eb : b % 18446744073709551616 = b) (es : (a + b) % 18446744073709551616 = a + b) (hz : (O == [1, 0, 0, 0, 0, 0, 0, 0, 0, 0, 0, 0, 0, 0, 0, 0, 0, 0, 0, 0, 0, 0, 0, 0, 0, 0, 0, 0, 0, 0, 0, 0]) = true) : Calls Try.prog 18 #[.int .u32 a, .int .u32 b] w fun e w' => e = .returned (.bool true) ∧ Fr [] w w' := by
  have YR := Lib.hid yR
  clear yR
  have YO := Lib.hid yO
  clear yO
  have HR0 := Lib.hid hR0
  clear hR0
  have HR1 := Lib.hid hR1
  clear hR1
  have HR2 := Lib.hid hR2
  clear hR2
  have HBS := Lib.hid hbs
  clear hbs
  have HMA := Lib.hid hMA
  clear hMA
  have HMB := Lib.hid hMB
  clear hMB
  have HMC := Lib.hid hMC
  clear hMC
  have HML := Lib.hid hML
  clear hML
  have YOB := Lib.hid yOB
  have HOB := Lib.hid hOB
  clear yOB hOB
  have Ha := Lib.hid ha
  have Hb := Lib.hid hb
  have Hs := Lib.hid hs
  clear ha hb hs
  go_enter Try.func18, Try.ntmps18
  go_wp2_with fail
  refine (calive_f).mono ?_
  rintro e w1 ⟨rfl, F2⟩
  have h3 : Own w [] w1 := ((Own.start w)).call F2
  clear F2
  simp only []
  obtain ⟨L4, hL4⟩ : ∃ L : List (Nat × Obj), L = [] := ⟨_, rfl⟩
  rw [← hL4] at h3
  have HL4 := Lib.hid hL4
  clear hL4
  go_wp2_with fail
  refine (number_f _ Ha.out).mono ?_
  rintro e w5 ⟨rfl, F6⟩
  have s8 := h3
  rw [HL4.out] at s8
  have h7 : Own w [] w5 := (s8).call F6
  clear F6
  simp only []
  clear s8 h3
  obtain ⟨L9, hL9⟩ : ∃ L : List (Nat × Obj), L = [] := ⟨_, rfl⟩
  rw [← hL9] at h7
  have HL9 := Lib.hid hL9
  clear hL9
  go_wp2_with fail
  refine (cbase_n HBS.out).mono ?_
  rintro e w10 ⟨x12, y13, z14, t15, s16, rfl, k17, F11⟩
  have nx12 := k17.nx
  have ny13 := k17.ny
  have nz14 := k17.nz
  have nt15 := k17.nt
  have Hk17 := Lib.hid k17
  clear k17
  have s19 := h7
  rw [HL9.out] at s19
  have h18 : Own w [] w10 := (s19).call F11
  clear F11
  simp only []
  clear s19 h7
  obtain ⟨L20, hL20⟩ : ∃ L : List (Nat × Obj), L = [] := ⟨_, rfl⟩
  rw [← hL20] at h18
  have HL20 := Lib.hid hL20
  clear hL20
  go_wp2_with fail
  refine (cmulP_n HMA.out (length_numL _) (byt_numL _) Hk17.out).mono ?_
  rintro e w21 ⟨x23, y24, z25, t26, s27, rfl, k28, F22⟩
  have nx23 := k28.nx
  have ny24 := k28.ny
  have nz25 := k28.nz
  have nt26 := k28.nt
  have Hk28 := Lib.hid k28
  clear k28
  have s30 := h18
  rw [HL20.out] at s30
  have h29 : Own w [] w21 := (s30).call F22
  clear F22
  simp only []
  clear s30 h18
  obtain ⟨L31, hL31⟩ : ∃ L : List (Nat × Obj), L = [] := ⟨_, rfl⟩
  rw [← hL31] at h29
  have HL31 := Lib.hid hL31
  clear hL31
  go_wp2_with fail
  refine (number_f _ Hb.out).mono ?_
  rintro e w32 ⟨rfl, F33⟩
  have s35 := h29
  rw [HL31.out] at s35
  have h34 : Own w [] w32 := (s35).call F33
  clear F33
  simp only []
  clear s35 h29
  obtain ⟨L36, hL36⟩ : ∃ L : List (Nat × Obj), L = [] := ⟨_, rfl⟩
  rw [← hL36] at h34
  have HL36 := Lib.hid hL36
  clear hL36
  go_wp2_with fail
  refine (cbase_n HBS.out).mono ?_
  rintro e w37 ⟨x39, y40, z41, t42, s43, rfl, k44, F38⟩
  have nx39 := k44.nx
  have ny40 := k44.ny
  have nz41 := k44.nz
  have nt42 := k44.nt
  have Hk44 := Lib.hid k44
  clear k44
  have s46 := h34
  rw [HL36.out] at s46
  have h45 : Own w [] w37 := (s46).call F38
  clear F38
  simp only []
  clear s46 h34
  obtain ⟨L47, hL47⟩ : ∃ L : List (Nat × Obj), L = [] := ⟨_, rfl⟩
  rw [← hL47] at h45
  have HL47 := Lib.hid hL47
  clear hL47
  go_wp2_with fail
  refine (cmulP_n HMB.out (length_numL _) (byt_numL _) Hk44.out).mono ?_
  rintro e w48 ⟨x50, y51, z52, t53, s54, rfl, k55, F49⟩
  have nx50 := k55.nx
  have ny51 := k55.ny
  have nz52 := k55.nz
  have nt53 := k55.nt
  have Hk55 := Lib.hid k55
  clear k55
  have s57 := h45
  rw [HL47.out] at s57
  have h56 : Own w [] w48 := (s57).call F49
  clear F49
  simp only []
  clear s57 h45
  obtain ⟨L58, hL58⟩ : ∃ L : List (Nat × Obj), L = [] := ⟨_, rfl⟩
  rw [← hL58] at h56
  have HL58 := Lib.hid hL58
  clear hL58
  go_wp2_with fail
  refine (cadd_p Hk28.out Hk55.out).mono ?_
  rintro e w59 ⟨x61, y62, z63, t64, s65, rfl, k66, F60⟩
  have nx61 := k66.nx
  have ny62 := k66.ny
  have nz63 := k66.nz
  have nt64 := k66.nt
  have Hk66 := Lib.hid k66
  clear k66
  have s68 := h56
  rw [HL58.out] at s68
  have h67 : Own w [] w59 := (s68).call F60
  clear F60
  simp only []
  clear s68 h56
  obtain ⟨L69, hL69⟩ : ∃ L : List (Nat × Obj), L = [] := ⟨_, rfl⟩
  rw [← hL69] at h67
  have HL69 := Lib.hid hL69
  clear hL69
  go_wp2_with fail
  have s70 := h67
  rw [HL69.out] at s70
  refine Own.named (Q := fun X => Code.wp _ _ _ _ X) (show Own w [(w59.heap.size + 1, .cells (ints .u8 (ordB0.set 31 16)) 22), (w59.heap.size, .cells (ptC x61 y62 z63 t64 s65) 49)] _ from ((s70.allocN (.cells (ptC x61 y62 z63 t64 s65) 49) (w59.heap.size) (by simp)).allocN (.cells (ints .u8 (ordB0.set 31 16)) 22) (w59.heap.size + 1) (by simp))) ?_
  intro V74 h73
  generalize w59.heap.size + 1 = bk72 at h73 ⊢
  generalize w59.heap.size = bk71 at h73 ⊢
  clear s70 h67
  rw [← HOB.out] at h73
  obtain ⟨L75, hL75⟩ : ∃ L : List (Nat × Obj), L = [(bk72, .cells (ints .u8 (OB)) 22), (bk71, .cells (ptC x61 y62 z63 t64 s65) 49)] := ⟨_, rfl⟩
  rw [← hL75] at h73
  have HL75 := Lib.hid hL75
  clear hL75
  refine drawn_begin 20 (Own w L75) (by kernel_rfl) ?_
  refine Own.named (Q := fun X => Go.Dr.wpAnyS Try.prog .any _ _ _ _ _ _ _ X) (h73.drew) ?_
  intro V76 h77
  clear h73
  have s78 := h77
  rw [HL75.out] at s78
  have f79 := s78.nth 1 rfl
  clear s78
  refine drawn_reads (fuel := 15) [0, 2, 3, 4, 5, 6] rfl (by kernel_rfl) (h77) ?_
  repeat (first | (refine rowK_step2 rfl rfl (fun K hK => ?_); go_wp2) | (refine rowK_step rfl (fun K hK => ?_); go_simp; refine hK _ ?_; clear hK K) | (refine rowK_step rfl (fun K hK => ?_); go_simp; refine ⟨by decide, hK _ ?_⟩; clear hK K))
  refine rowK_nil ⟨fun w' hw' => ?_, ?_⟩
  · rw [HL75.out] at hw'
    have g80 := hw'.nth 1 rfl
    clear f79
    repeat (first | (refine rowWp_step2 rfl rfl (fun K hK => ?_); go_wp2) | (refine rowWp_step rfl (fun K hK => ?_); go_simp; refine hK _ ?_; clear hK K) | (refine rowWp_step rfl (fun K hK => ?_); go_simp; refine ⟨by decide, hK _ ?_⟩; clear hK K))
    exact rowWp_nil rfl
  clear f79
  refine drawn_next 1 (fuel := 14) rfl (by kernel_rfl) ?_
  intro K hK
  go_wp2_with fail
  refine (cenc_p HR0.out Hk66.out).mono ?_
  rintro e w81 ⟨rfl, F82⟩
  have h83 := (h77).call F82
  clear F82 h77
  simp only []
  go_wp2
  refine ⟨h83, ?_⟩
  refine drawn_next 7 (fuel := 13) rfl (by kernel_rfl) ?_
  intro K hK
  go_wp2_with fail
  refine (number_f _ Hs.out).mono ?_
  rintro e w84 ⟨rfl, F85⟩
  have h86 := (h83).call F85
  clear F85 h83
  simp only []
  go_wp2
  refine ⟨h86, ?_⟩
  refine drawn_next 8 (fuel := 12) rfl (by kernel_rfl) ?_
  intro K hK
  go_wp2_with fail
  refine (cbase_n HBS.out).mono ?_
  rintro e w87 ⟨x89, y90, z91, t92, s93, rfl, k94, F88⟩
  have nx89 := k94.nx
  have ny90 := k94.ny
  have nz91 := k94.nz
  have nt92 := k94.nt
  have Hk94 := Lib.hid k94
  clear k94
  have h95 := (h86).call F88
  clear F88 h86
  simp only []
  go_wp2
  refine ⟨h95, ?_⟩
  refine drawn_next 9 (fuel := 11) rfl (by kernel_rfl) ?_
  intro K hK
  go_wp2_with fail
  refine (cmulP_n HMC.out (length_numL _) (byt_numL _) Hk94.out).mono ?_
  rintro e w96 ⟨x98, y99, z100, t101, s102, rfl, k103, F97⟩
  have nx98 := k103.nx
  have ny99 := k103.ny
  have nz100 := k103.nz
  have nt101 := k103.nt
  have Hk103 := Lib.hid k103
  clear k103
  have h104 := (h95).call F97
  clear F97 h95
  simp only []
  go_wp2
  refine ⟨h104, ?_⟩
  refine drawn_next 10 (fuel := 10) rfl (by kernel_rfl) ?_
  intro K hK
  go_wp2_with fail
  refine (cenc_p HR1.out Hk103.out).mono ?_
  rintro e w105 ⟨rfl, F106⟩
  have h107 := (h104).call F106
  clear F106 h104
  simp only []
  go_wp2
  refine ⟨h107, ?_⟩
  have s108 := h107
  rw [HL75.out] at s108
  have f109 := s108.nth 0 rfl
  clear s108
  refine drawn_reads (fuel := 6) [11, 12, 13, 17] rfl (by kernel_rfl) (h107) ?_
  repeat (first | (refine rowK_step2 rfl rfl (fun K hK => ?_); go_wp2) | (refine rowK_step rfl (fun K hK => ?_); go_simp; refine hK _ ?_; clear hK K) | (refine rowK_step rfl (fun K hK => ?_); go_simp; refine ⟨by decide, hK _ ?_⟩; clear hK K))
  refine rowK_nil ⟨fun w' hw' => ?_, ?_⟩
  · rw [HL75.out] at hw'
    have g110 := hw'.nth 0 rfl
    clear f109
    repeat (first | (refine rowWp_step2 rfl rfl (fun K hK => ?_); go_wp2) | (refine rowWp_step rfl (fun K hK => ?_); go_simp; refine hK _ ?_; clear hK K) | (refine rowWp_step rfl (fun K hK => ?_); go_simp; refine ⟨by decide, hK _ ?_⟩; clear hK K))
    exact rowWp_nil rfl
  clear f109
  refine drawn_next 14 (fuel := 5) rfl (by kernel_rfl) ?_
  intro K hK
  go_wp2_with fail
  refine (cbase_n HBS.out).mono ?_
  rintro e w111 ⟨x113, y114, z115, t116, s117, rfl, k118, F112⟩
  have nx113 := k118.nx
  have ny114 := k118.ny
  have nz115 := k118.nz
  have nt116 := k118.nt
  have Hk118 := Lib.hid k118
  clear k118
  have h119 := (h107).call F112
  clear F112 h107
  simp only []
  go_wp2
  refine ⟨h119, ?_⟩
  refine drawn_next 15 (fuel := 4) rfl (by kernel_rfl) ?_
  intro K hK
  go_wp2_with fail
  refine (cmulP_n HML.out lOB YOB.out Hk118.out).mono ?_
  rintro e w120 ⟨x122, y123, z124, t125, s126, rfl, k127, F121⟩
  have nx122 := k127.nx
  have ny123 := k127.ny
  have nz124 := k127.nz
  have nt125 := k127.nt
  have Hk127 := Lib.hid k127
  clear k127
  have h128 := (h119).call F121
  clear F121 h119
  simp only []
  go_wp2
  refine ⟨h128, ?_⟩
  refine drawn_next 16 (fuel := 3) rfl (by kernel_rfl) ?_
  intro K hK
  go_wp2_with fail
  refine (cenc_p HR2.out Hk127.out).mono ?_
  rintro e w129 ⟨rfl, F130⟩
  have h131 := (h128).call F130
  clear F130 h128
  simp only []
  go_wp2
  refine ⟨h131, ?_⟩
  refine drawn_reads (fuel := 1) [18, 19] rfl (by kernel_rfl) (h131) ?_
  repeat (first | (refine rowK_step2 rfl rfl (fun K hK => ?_); go_wp2) | (refine rowK_step rfl (fun K hK => ?_); go_simp; refine hK _ ?_; clear hK K) | (refine rowK_step rfl (fun K hK => ?_); go_simp; refine ⟨by decide, hK _ ?_⟩; clear hK K))
  refine rowK_nil ⟨fun w' hw' => ?_, ?_⟩
  · skip
    repeat (first | (refine rowWp_step2 rfl rfl (fun K hK => ?_); go_wp2) | (refine rowWp_step rfl (fun K hK => ?_); go_simp; refine hK _ ?_; clear hK K) | (refine rowWp_step rfl (fun K hK => ?_); go_simp; refine ⟨by decide, hK _ ?_⟩; clear hK K))
    exact rowWp_nil rfl
  refine drawn_end (ol := [_]) rfl (by kernel_rfl) ?_
  intro K hK
  go_wp2_with fail
  go_ret
  exact ⟨rfl, (h131).fr⟩

theorem curveSums_walk (a b : Int) (ha : 0 ≤ a ∧ a < 4294967296) (hb : 0 ≤ b ∧ b < 4294967296) : Calls Try.prog 18 #[.int .u32 a, .int .u32 b] w fun e w' => e = .returned (.bool true) ∧ Fr [] w w' :=
  curveSums_core _ (b1 1) _ _ _ _ _ a b (ordB0.set 31 16) (length_encP _) (byt_encP _) rfl (byt_b1 (by decide)) rfl
    (by rw [num_numL _ (by omega), num_numL _ (by omega), num_numL _ (by omega), ← mulP_add not_sq_dC on_bsP, show (a + b).toNat = a.toNat + b.toNat from by omega]) (by rw [num_ordB, ord_bs]; exact enc_pz) rfl rfl rfl rfl rfl
    rfl byt_ordB rfl (by omega) (by omega) (by omega) (by omega) (by omega) (by omega) rfl

end
end Go.Proofs.Ytakhmmnklkckpaa
