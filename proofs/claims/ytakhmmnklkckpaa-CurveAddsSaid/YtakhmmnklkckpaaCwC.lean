/- CurveDecodes, CurveAdds: the walks. -/
import Derived.Test.YtakhmmnklkckpaaZw
namespace Go.Proofs.Ytakhmmnklkckpaa
open Go.RowKit Go.Dr

section
variable {w : World}
set_option maxRecDepth 100000 in
set_option maxHeartbeats 8000000 in
theorem curveDecodes_yes (b : List Int) (P : Pt)  (lb : b.length = 32) (yb : Byt b) (hR0 : encP P = b) (hPP : decPt b = P) (hOP : decOk b = true)  : Calls Try.prog 15 #[.agg (ints .u8 b)] w fun e w' => e = .returned (.bool true) ∧ Fr [] w w' := by
  have Yb := Lib.hid yb
  clear yb
  have HR0 := Lib.hid hR0
  clear hR0
  have HPP := Lib.hid hPP
  have HOP := Lib.hid hOP
  clear hPP hOP
  go_enter Try.func15, Try.ntmps15
  go_wp2_with fail
  refine (calive_f).mono ?_
  rintro e w2 ⟨rfl, F3⟩
  have h4 : Own w [(w.heap.size, .cells (ints .u8 (b)) 22)] w2 := (((Own.start w).allocN (.cells (ints .u8 (b)) 22) w.heap.size rfl)).call F3
  clear F3
  simp only []
  generalize w.heap.size = bk1 at h4 ⊢
  obtain ⟨L5, hL5⟩ : ∃ L : List (Nat × Obj), L = [(bk1, .cells (ints .u8 (b)) 22)] := ⟨_, rfl⟩
  rw [← hL5] at h4
  have HL5 := Lib.hid hL5
  clear hL5
  have s6 := h4
  rw [HL5.out] at s6
  have f7 := s6.nth 0 rfl
  clear s6
  go_wp2_with fail
  clear f7
  refine (two_core _ _ _ lb Yb.out HPP.out HOP.out).mono ?_
  rintro e w8 ⟨x10, y11, z12, t13, s14, X15, Y16, Z17, rfl, k18, k19, F9⟩
  have nx10 := k18.nx
  have ny11 := k18.ny
  have nz12 := k18.nz
  have nt13 := k18.nt
  have Hk18 := Lib.hid k18
  clear k18
  have Hk19 := Lib.hid k19
  clear k19
  have s21 := h4
  rw [HL5.out] at s21
  have h20 : Own w [(bk1, .cells (ints .u8 (b)) 22)] w8 := (s21).call F9
  clear F9
  simp only []
  clear s21 h4
  obtain ⟨L22, hL22⟩ : ∃ L : List (Nat × Obj), L = [(bk1, .cells (ints .u8 (b)) 22)] := ⟨_, rfl⟩
  rw [← hL22] at h20
  have HL22 := Lib.hid hL22
  clear hL22
  go_wp2_with fail
  have s23 := h20
  rw [HL22.out] at s23
  refine Own.named (Q := fun X => Code.wp _ _ _ _ X) (show Own w [(w8.heap.size + 1, .cells (dpC X15 Y16 Z17) 51), (w8.heap.size, .cells (ptC x10 y11 z12 t13 s14) 49), (bk1, .cells (ints .u8 (b)) 22)] _ from ((s23.allocN (.cells (ptC x10 y11 z12 t13 s14) 49) (w8.heap.size) (by simp)).allocN (.cells (dpC X15 Y16 Z17) 51) (w8.heap.size + 1) (by simp))) ?_
  intro V27 h26
  generalize w8.heap.size + 1 = bk25 at h26 ⊢
  generalize w8.heap.size = bk24 at h26 ⊢
  clear s23 h20
  obtain ⟨L28, hL28⟩ : ∃ L : List (Nat × Obj), L = [(bk25, .cells (dpC X15 Y16 Z17) 51), (bk24, .cells (ptC x10 y11 z12 t13 s14) 49), (bk1, .cells (ints .u8 (b)) 22)] := ⟨_, rfl⟩
  rw [← hL28] at h26
  have HL28 := Lib.hid hL28
  clear hL28
  refine drawn_begin 4 (Own w L28) (by kernel_rfl) ?_
  refine Own.named (Q := fun X => Go.Dr.wpAnyS Try.prog .any _ _ _ _ _ _ _ X) (h26.drew) ?_
  intro V29 h30
  clear h26
  have s31 := h30
  rw [HL28.out] at s31
  have f32 := s31.nth 1 rfl
  have f33 := s31.nth 2 rfl
  clear s31
  refine drawn_reads (fuel := 3) [0, 2] rfl (by kernel_rfl) (h30) ?_
  repeat (first | (refine rowK_step2 rfl rfl (fun K hK => ?_); go_wp2) | (refine rowK_step rfl (fun K hK => ?_); go_simp; refine hK _ ?_; clear hK K) | (refine rowK_step rfl (fun K hK => ?_); go_simp; refine ⟨by decide, hK _ ?_⟩; clear hK K))
  refine rowK_nil ⟨fun w' hw' => ?_, ?_⟩
  · rw [HL28.out] at hw'
    have g34 := hw'.nth 1 rfl
    have g35 := hw'.nth 2 rfl
    clear f32 f33
    repeat (first | (refine rowWp_step2 rfl rfl (fun K hK => ?_); go_wp2) | (refine rowWp_step rfl (fun K hK => ?_); go_simp; refine hK _ ?_; clear hK K) | (refine rowWp_step rfl (fun K hK => ?_); go_simp; refine ⟨by decide, hK _ ?_⟩; clear hK K))
    exact rowWp_nil rfl
  clear f32 f33
  refine drawn_next 1 (fuel := 2) rfl (by kernel_rfl) ?_
  intro K hK
  go_wp2_with fail
  refine (cenc_p HR0.out Hk18.out).mono ?_
  rintro e w36 ⟨rfl, F37⟩
  have h38 := (h30).call F37
  clear F37 h30
  simp only []
  go_wp2
  refine ⟨h38, ?_⟩
  refine drawn_reads (fuel := 1) [3] rfl (by kernel_rfl) (h38) ?_
  repeat (first | (refine rowK_step2 rfl rfl (fun K hK => ?_); go_wp2) | (refine rowK_step rfl (fun K hK => ?_); go_simp; refine hK _ ?_; clear hK K) | (refine rowK_step rfl (fun K hK => ?_); go_simp; refine ⟨by decide, hK _ ?_⟩; clear hK K))
  refine rowK_nil ⟨fun w' hw' => ?_, ?_⟩
  · skip
    repeat (first | (refine rowWp_step2 rfl rfl (fun K hK => ?_); go_wp2) | (refine rowWp_step rfl (fun K hK => ?_); go_simp; refine hK _ ?_; clear hK K) | (refine rowWp_step rfl (fun K hK => ?_); go_simp; refine ⟨by decide, hK _ ?_⟩; clear hK K))
    exact rowWp_nil rfl
  refine drawn_end (ol := [_]) rfl (by kernel_rfl) ?_
  intro K hK
  go_wp2_with fail
  go_ret
  exact ⟨rfl, (h38).fr⟩

set_option maxRecDepth 100000 in
set_option maxHeartbeats 8000000 in
theorem curveDecodes_no (b O : List Int) (P : Pt)  (lb : b.length = 32) (yb : Byt b) (lO : O.length = 32) (yO : Byt O) (hR0 : encP P = O) (hPP : decPt b = P) (hOP : decOk b = false) (hz : (O == [1, 0, 0, 0, 0, 0, 0, 0, 0, 0, 0, 0, 0, 0, 0, 0, 0, 0, 0, 0, 0, 0, 0, 0, 0, 0, 0, 0, 0, 0, 0, 0]) = true) : Calls Try.prog 15 #[.agg (ints .u8 b)] w fun e w' => e = .returned (.bool true) ∧ Fr [] w w' := by
  have Yb := Lib.hid yb
  clear yb
  have YO := Lib.hid yO
  clear yO
  have HR0 := Lib.hid hR0
  clear hR0
  have HPP := Lib.hid hPP
  have HOP := Lib.hid hOP
  clear hPP hOP
  go_enter Try.func15, Try.ntmps15
  go_wp2_with fail
  refine (calive_f).mono ?_
  rintro e w2 ⟨rfl, F3⟩
  have h4 : Own w [(w.heap.size, .cells (ints .u8 (b)) 22)] w2 := (((Own.start w).allocN (.cells (ints .u8 (b)) 22) w.heap.size rfl)).call F3
  clear F3
  simp only []
  generalize w.heap.size = bk1 at h4 ⊢
  obtain ⟨L5, hL5⟩ : ∃ L : List (Nat × Obj), L = [(bk1, .cells (ints .u8 (b)) 22)] := ⟨_, rfl⟩
  rw [← hL5] at h4
  have HL5 := Lib.hid hL5
  clear hL5
  have s6 := h4
  rw [HL5.out] at s6
  have f7 := s6.nth 0 rfl
  clear s6
  go_wp2_with fail
  clear f7
  refine (two_core _ _ _ lb Yb.out HPP.out HOP.out).mono ?_
  rintro e w8 ⟨x10, y11, z12, t13, s14, X15, Y16, Z17, rfl, k18, k19, F9⟩
  have nx10 := k18.nx
  have ny11 := k18.ny
  have nz12 := k18.nz
  have nt13 := k18.nt
  have Hk18 := Lib.hid k18
  clear k18
  have Hk19 := Lib.hid k19
  clear k19
  have s21 := h4
  rw [HL5.out] at s21
  have h20 : Own w [(bk1, .cells (ints .u8 (b)) 22)] w8 := (s21).call F9
  clear F9
  simp only []
  clear s21 h4
  obtain ⟨L22, hL22⟩ : ∃ L : List (Nat × Obj), L = [(bk1, .cells (ints .u8 (b)) 22)] := ⟨_, rfl⟩
  rw [← hL22] at h20
  have HL22 := Lib.hid hL22
  clear hL22
  go_wp2_with fail
  have s23 := h20
  rw [HL22.out] at s23
  refine (cenc_p HR0.out Hk18.out).mono ?_
  rintro e w26 ⟨rfl, F27⟩
  have h28 : Own w [(w8.heap.size + 1, .cells (dpC X15 Y16 Z17) 51), (w8.heap.size, .cells (ptC x10 y11 z12 t13 s14) 49), (bk1, .cells (ints .u8 (b)) 22)] w26 := (((s23.allocN (.cells (ptC x10 y11 z12 t13 s14) 49) (w8.heap.size) (by simp)).allocN (.cells (dpC X15 Y16 Z17) 51) (w8.heap.size + 1) (by simp))).call F27
  clear F27
  simp only []
  generalize w8.heap.size + 1 = bk25 at h28 ⊢
  generalize w8.heap.size = bk24 at h28 ⊢
  clear s23 h20
  obtain ⟨L29, hL29⟩ : ∃ L : List (Nat × Obj), L = [(bk25, .cells (dpC X15 Y16 Z17) 51), (bk24, .cells (ptC x10 y11 z12 t13 s14) 49), (bk1, .cells (ints .u8 (b)) 22)] := ⟨_, rfl⟩
  rw [← hL29] at h28
  have HL29 := Lib.hid hL29
  clear hL29
  go_wp2_with fail
  go_ret
  exact ⟨rfl, (h28).fr⟩

theorem curveDecodes_walk (b : List Int) (hl : b.length = 32) (hb : Byt b) : Calls Try.prog 15 #[.agg (ints .u8 b)] w fun e w' => e = .returned (.bool true) ∧ Fr [] w w' := by
  cases ho : decOk b with
  | true => exact curveDecodes_yes b _ hl hb (by rw [decPt_good ho]; exact enc_dec hl hb ho) rfl ho
  | false => exact curveDecodes_no b (b1 1) _ hl hb rfl (byt_b1 (by decide)) (by rw [decPt_bad ho]; exact enc_pz) rfl ho rfl

set_option maxRecDepth 100000 in
set_option maxHeartbeats 8000000 in
theorem curveAdds_both (a b R T : List Int) (P Q : Pt)  (la : a.length = 32) (ya : Byt a) (lb : b.length = 32) (yb : Byt b) (lR : R.length = 32) (yR : Byt R) (lT : T.length = 32) (yT : Byt T) (hR0 : encP (pad dC P Q) = R) (hR1 : encP (pn P) = T) (hR2 : encP (pad dC Q P) = R) (hPP : decPt a = P) (hOP : decOk a = true) (hPQ : decPt b = Q) (hOQ : decOk b = true)  : Calls Try.prog 16 #[.agg (ints .u8 a), .agg (ints .u8 b)] w fun e w' => e = .returned (.bool true) ∧ Fr [] w w' := by
  have Ya := Lib.hid ya
  clear ya
  have Yb := Lib.hid yb
  clear yb
  have YR := Lib.hid yR
  clear yR
  have YT := Lib.hid yT
  clear yT
  have HR0 := Lib.hid hR0
  clear hR0
  have HR1 := Lib.hid hR1
  clear hR1
  have HR2 := Lib.hid hR2
  clear hR2
  have HPP := Lib.hid hPP
  have HOP := Lib.hid hOP
  clear hPP hOP
  have HPQ := Lib.hid hPQ
  have HOQ := Lib.hid hOQ
  clear hPQ hOQ
  go_enter Try.func16, Try.ntmps16
  go_wp2_with fail
  refine (calive_f).mono ?_
  rintro e w3 ⟨rfl, F4⟩
  have h5 : Own w [(w.heap.size + 1, .cells (ints .u8 (b)) 22), (w.heap.size, .cells (ints .u8 (a)) 22)] w3 := ((((Own.start w).allocN (.cells (ints .u8 (a)) 22) w.heap.size rfl).allocN (.cells (ints .u8 (b)) 22) (w.heap.size + 1) (by simp))).call F4
  clear F4
  simp only []
  generalize w.heap.size + 1 = bk2 at h5 ⊢
  generalize w.heap.size = bk1 at h5 ⊢
  obtain ⟨L6, hL6⟩ : ∃ L : List (Nat × Obj), L = [(bk2, .cells (ints .u8 (b)) 22), (bk1, .cells (ints .u8 (a)) 22)] := ⟨_, rfl⟩
  rw [← hL6] at h5
  have HL6 := Lib.hid hL6
  clear hL6
  have s7 := h5
  rw [HL6.out] at s7
  have f8 := s7.nth 1 rfl
  clear s7
  go_wp2_with fail
  clear f8
  refine (two_core _ _ _ la Ya.out HPP.out HOP.out).mono ?_
  rintro e w9 ⟨x11, y12, z13, t14, s15, X16, Y17, Z18, rfl, k19, k20, F10⟩
  have nx11 := k19.nx
  have ny12 := k19.ny
  have nz13 := k19.nz
  have nt14 := k19.nt
  have Hk19 := Lib.hid k19
  clear k19
  have Hk20 := Lib.hid k20
  clear k20
  have s22 := h5
  rw [HL6.out] at s22
  have h21 : Own w [(bk2, .cells (ints .u8 (b)) 22), (bk1, .cells (ints .u8 (a)) 22)] w9 := (s22).call F10
  clear F10
  simp only []
  clear s22 h5
  obtain ⟨L23, hL23⟩ : ∃ L : List (Nat × Obj), L = [(bk2, .cells (ints .u8 (b)) 22), (bk1, .cells (ints .u8 (a)) 22)] := ⟨_, rfl⟩
  rw [← hL23] at h21
  have HL23 := Lib.hid hL23
  clear hL23
  have s24 := h21
  rw [HL23.out] at s24
  have f25 := s24.nth 0 rfl
  have t26 := s24.lt 0 rfl
  clear s24
  go_wp2_with fail
  clear f25 t26
  have s27 := h21
  rw [HL23.out] at s27
  refine (two_core _ _ _ lb Yb.out HPQ.out HOQ.out).mono ?_
  rintro e w30 ⟨x32, y33, z34, t35, s36, X37, Y38, Z39, rfl, k40, k41, F31⟩
  have nx32 := k40.nx
  have ny33 := k40.ny
  have nz34 := k40.nz
  have nt35 := k40.nt
  have Hk40 := Lib.hid k40
  clear k40
  have Hk41 := Lib.hid k41
  clear k41
  have h42 : Own w [(w9.heap.size + 1, .cells (dpC X16 Y17 Z18) 51), (w9.heap.size, .cells (ptC x11 y12 z13 t14 s15) 49), (bk2, .cells (ints .u8 (b)) 22), (bk1, .cells (ints .u8 (a)) 22)] w30 := (((s27.allocN (.cells (ptC x11 y12 z13 t14 s15) 49) (w9.heap.size) (by simp)).allocN (.cells (dpC X16 Y17 Z18) 51) (w9.heap.size + 1) (by simp))).call F31
  clear F31
  simp only []
  generalize w9.heap.size + 1 = bk29 at h42 ⊢
  generalize w9.heap.size = bk28 at h42 ⊢
  clear s27 h21
  obtain ⟨L43, hL43⟩ : ∃ L : List (Nat × Obj), L = [(bk29, .cells (dpC X16 Y17 Z18) 51), (bk28, .cells (ptC x11 y12 z13 t14 s15) 49), (bk2, .cells (ints .u8 (b)) 22), (bk1, .cells (ints .u8 (a)) 22)] := ⟨_, rfl⟩
  rw [← hL43] at h42
  have HL43 := Lib.hid hL43
  clear hL43
  go_wp2_with fail
  have s44 := h42
  rw [HL43.out] at s44
  refine Own.named (Q := fun X => Code.wp _ _ _ _ X) (show Own w [(w30.heap.size + 1, .cells (dpC X37 Y38 Z39) 51), (w30.heap.size, .cells (ptC x32 y33 z34 t35 s36) 49), (bk29, .cells (dpC X16 Y17 Z18) 51), (bk28, .cells (ptC x11 y12 z13 t14 s15) 49), (bk2, .cells (ints .u8 (b)) 22), (bk1, .cells (ints .u8 (a)) 22)] _ from ((s44.allocN (.cells (ptC x32 y33 z34 t35 s36) 49) (w30.heap.size) (by simp)).allocN (.cells (dpC X37 Y38 Z39) 51) (w30.heap.size + 1) (by simp))) ?_
  intro V48 h47
  generalize w30.heap.size + 1 = bk46 at h47 ⊢
  generalize w30.heap.size = bk45 at h47 ⊢
  clear s44 h42
  obtain ⟨L49, hL49⟩ : ∃ L : List (Nat × Obj), L = [(bk46, .cells (dpC X37 Y38 Z39) 51), (bk45, .cells (ptC x32 y33 z34 t35 s36) 49), (bk29, .cells (dpC X16 Y17 Z18) 51), (bk28, .cells (ptC x11 y12 z13 t14 s15) 49), (bk2, .cells (ints .u8 (b)) 22), (bk1, .cells (ints .u8 (a)) 22)] := ⟨_, rfl⟩
  rw [← hL49] at h47
  have HL49 := Lib.hid hL49
  clear hL49
  refine drawn_begin 29 (Own w L49) (by kernel_rfl) ?_
  refine Own.named (Q := fun X => Go.Dr.wpAnyS Try.prog .any _ _ _ _ _ _ _ X) (h47.drew) ?_
  intro V50 h51
  clear h47
  have s52 := h51
  rw [HL49.out] at s52
  have f53 := s52.nth 3 rfl
  have f54 := s52.nth 1 rfl
  have f55 := s52.nth 2 rfl
  have f56 := s52.nth 0 rfl
  clear s52
  refine drawn_reads (fuel := 26) [0, 1, 4, 5] rfl (by kernel_rfl) (h51) ?_
  repeat (first | (refine rowK_step2 rfl rfl (fun K hK => ?_); go_wp2) | (refine rowK_step rfl (fun K hK => ?_); go_simp; refine hK _ ?_; clear hK K) | (refine rowK_step rfl (fun K hK => ?_); go_simp; refine ⟨by decide, hK _ ?_⟩; clear hK K))
  refine rowK_nil ⟨fun w' hw' => ?_, ?_⟩
  · rw [HL49.out] at hw'
    have g57 := hw'.nth 3 rfl
    have g58 := hw'.nth 1 rfl
    have g59 := hw'.nth 2 rfl
    have g60 := hw'.nth 0 rfl
    clear f53 f54 f55 f56
    repeat (first | (refine rowWp_step2 rfl rfl (fun K hK => ?_); go_wp2) | (refine rowWp_step rfl (fun K hK => ?_); go_simp; refine hK _ ?_; clear hK K) | (refine rowWp_step rfl (fun K hK => ?_); go_simp; refine ⟨by decide, hK _ ?_⟩; clear hK K))
    exact rowWp_nil rfl
  clear f53 f54 f55 f56
  refine drawn_next 2 (fuel := 25) rfl (by kernel_rfl) ?_
  intro K hK
  go_wp2_with fail
  refine (cadd_p Hk19.out Hk40.out).mono ?_
  rintro e w61 ⟨x63, y64, z65, t66, s67, rfl, k68, F62⟩
  have nx63 := k68.nx
  have ny64 := k68.ny
  have nz65 := k68.nz
  have nt66 := k68.nt
  have Hk68 := Lib.hid k68
  clear k68
  have h69 := (h51).call F62
  clear F62 h51
  simp only []
  go_wp2
  refine ⟨h69, ?_⟩
  refine drawn_next 3 (fuel := 24) rfl (by kernel_rfl) ?_
  intro K hK
  go_wp2_with fail
  refine (cenc_p HR0.out Hk68.out).mono ?_
  rintro e w70 ⟨rfl, F71⟩
  have h72 := (h69).call F71
  clear F71 h69
  simp only []
  go_wp2
  refine ⟨h72, ?_⟩
  refine drawn_next 6 (fuel := 23) rfl (by kernel_rfl) ?_
  intro K hK
  go_wp2_with fail
  refine (dadd_p Hk20.out Hk41.out).mono ?_
  rintro e w73 ⟨X75, Y76, Z77, rfl, k78, F74⟩
  have Hk78 := Lib.hid k78
  clear k78
  have h79 := (h72).call F74
  clear F74 h72
  simp only []
  go_wp2
  refine ⟨h79, ?_⟩
  refine drawn_next 7 (fuel := 22) rfl (by kernel_rfl) ?_
  intro K hK
  go_wp2_with fail
  refine (denc_p HR0.out Hk78.out).mono ?_
  rintro e w80 ⟨rfl, F81⟩
  have h82 := (h79).call F81
  clear F81 h79
  simp only []
  go_wp2
  refine ⟨h82, ?_⟩
  have s83 := h82
  rw [HL49.out] at s83
  have f84 := s83.nth 3 rfl
  have f85 := s83.nth 2 rfl
  clear s83
  refine drawn_reads (fuel := 18) [8, 9, 10, 13] rfl (by kernel_rfl) (h82) ?_
  repeat (first | (refine rowK_step2 rfl rfl (fun K hK => ?_); go_wp2) | (refine rowK_step rfl (fun K hK => ?_); go_simp; refine hK _ ?_; clear hK K) | (refine rowK_step rfl (fun K hK => ?_); go_simp; refine ⟨by decide, hK _ ?_⟩; clear hK K))
  refine rowK_nil ⟨fun w' hw' => ?_, ?_⟩
  · rw [HL49.out] at hw'
    have g86 := hw'.nth 3 rfl
    have g87 := hw'.nth 2 rfl
    clear f84 f85
    repeat (first | (refine rowWp_step2 rfl rfl (fun K hK => ?_); go_wp2) | (refine rowWp_step rfl (fun K hK => ?_); go_simp; refine hK _ ?_; clear hK K) | (refine rowWp_step rfl (fun K hK => ?_); go_simp; refine ⟨by decide, hK _ ?_⟩; clear hK K))
    exact rowWp_nil rfl
  clear f84 f85
  refine drawn_next 11 (fuel := 17) rfl (by kernel_rfl) ?_
  intro K hK
  go_wp2_with fail
  refine (cneg_p Hk19.out).mono ?_
  rintro e w88 ⟨x90, y91, z92, t93, s94, rfl, k95, F89⟩
  have nx90 := k95.nx
  have ny91 := k95.ny
  have nz92 := k95.nz
  have nt93 := k95.nt
  have Hk95 := Lib.hid k95
  clear k95
  have h96 := (h82).call F89
  clear F89 h82
  simp only []
  go_wp2
  refine ⟨h96, ?_⟩
  refine drawn_next 12 (fuel := 16) rfl (by kernel_rfl) ?_
  intro K hK
  go_wp2_with fail
  refine (cenc_p HR1.out Hk95.out).mono ?_
  rintro e w97 ⟨rfl, F98⟩
  have h99 := (h96).call F98
  clear F98 h96
  simp only []
  go_wp2
  refine ⟨h99, ?_⟩
  refine drawn_next 14 (fuel := 15) rfl (by kernel_rfl) ?_
  intro K hK
  go_wp2_with fail
  refine (dneg_p Hk20.out).mono ?_
  rintro e w100 ⟨X102, Y103, Z104, rfl, k105, F101⟩
  have Hk105 := Lib.hid k105
  clear k105
  have h106 := (h99).call F101
  clear F101 h99
  simp only []
  go_wp2
  refine ⟨h106, ?_⟩
  refine drawn_next 15 (fuel := 14) rfl (by kernel_rfl) ?_
  intro K hK
  go_wp2_with fail
  refine (denc_p HR1.out Hk105.out).mono ?_
  rintro e w107 ⟨rfl, F108⟩
  have h109 := (h106).call F108
  clear F108 h106
  simp only []
  go_wp2
  refine ⟨h109, ?_⟩
  have s110 := h109
  rw [HL49.out] at s110
  have f111 := s110.nth 1 rfl
  have f112 := s110.nth 3 rfl
  clear s110
  refine drawn_reads (fuel := 7) [16, 17, 18, 19, 20, 23, 24] rfl (by kernel_rfl) (h109) ?_
  repeat (first | (refine rowK_step2 rfl rfl (fun K hK => ?_); go_wp2) | (refine rowK_step rfl (fun K hK => ?_); go_simp; refine hK _ ?_; clear hK K) | (refine rowK_step rfl (fun K hK => ?_); go_simp; refine ⟨by decide, hK _ ?_⟩; clear hK K))
  refine rowK_nil ⟨fun w' hw' => ?_, ?_⟩
  · rw [HL49.out] at hw'
    have g113 := hw'.nth 1 rfl
    have g114 := hw'.nth 3 rfl
    clear f111 f112
    repeat (first | (refine rowWp_step2 rfl rfl (fun K hK => ?_); go_wp2) | (refine rowWp_step rfl (fun K hK => ?_); go_simp; refine hK _ ?_; clear hK K) | (refine rowWp_step rfl (fun K hK => ?_); go_simp; refine ⟨by decide, hK _ ?_⟩; clear hK K))
    exact rowWp_nil rfl
  clear f111 f112
  refine drawn_next 21 (fuel := 6) rfl (by kernel_rfl) ?_
  intro K hK
  go_wp2_with fail
  refine (cadd_p Hk40.out Hk19.out).mono ?_
  rintro e w115 ⟨x117, y118, z119, t120, s121, rfl, k122, F116⟩
  have nx117 := k122.nx
  have ny118 := k122.ny
  have nz119 := k122.nz
  have nt120 := k122.nt
  have Hk122 := Lib.hid k122
  clear k122
  have h123 := (h109).call F116
  clear F116 h109
  simp only []
  go_wp2
  refine ⟨h123, ?_⟩
  refine drawn_next 22 (fuel := 5) rfl (by kernel_rfl) ?_
  intro K hK
  go_wp2_with fail
  refine (cenc_p HR2.out Hk122.out).mono ?_
  rintro e w124 ⟨rfl, F125⟩
  have h126 := (h123).call F125
  clear F125 h123
  simp only []
  go_wp2
  refine ⟨h126, ?_⟩
  refine drawn_next 25 (fuel := 4) rfl (by kernel_rfl) ?_
  intro K hK
  go_wp2_with fail
  refine (cadd_p Hk19.out Hk40.out).mono ?_
  rintro e w127 ⟨x129, y130, z131, t132, s133, rfl, k134, F128⟩
  have nx129 := k134.nx
  have ny130 := k134.ny
  have nz131 := k134.nz
  have nt132 := k134.nt
  have Hk134 := Lib.hid k134
  clear k134
  have h135 := (h126).call F128
  clear F128 h126
  simp only []
  go_wp2
  refine ⟨h135, ?_⟩
  refine drawn_next 26 (fuel := 3) rfl (by kernel_rfl) ?_
  intro K hK
  go_wp2_with fail
  refine (cenc_p HR0.out Hk134.out).mono ?_
  rintro e w136 ⟨rfl, F137⟩
  have h138 := (h135).call F137
  clear F137 h135
  simp only []
  go_wp2
  refine ⟨h138, ?_⟩
  refine drawn_reads (fuel := 1) [27, 28] rfl (by kernel_rfl) (h138) ?_
  repeat (first | (refine rowK_step2 rfl rfl (fun K hK => ?_); go_wp2) | (refine rowK_step rfl (fun K hK => ?_); go_simp; refine hK _ ?_; clear hK K) | (refine rowK_step rfl (fun K hK => ?_); go_simp; refine ⟨by decide, hK _ ?_⟩; clear hK K))
  refine rowK_nil ⟨fun w' hw' => ?_, ?_⟩
  · skip
    repeat (first | (refine rowWp_step2 rfl rfl (fun K hK => ?_); go_wp2) | (refine rowWp_step rfl (fun K hK => ?_); go_simp; refine hK _ ?_; clear hK K) | (refine rowWp_step rfl (fun K hK => ?_); go_simp; refine ⟨by decide, hK _ ?_⟩; clear hK K))
    exact rowWp_nil rfl
  refine drawn_end (ol := [_]) rfl (by kernel_rfl) ?_
  intro K hK
  go_wp2_with fail
  go_ret
  exact ⟨rfl, (h138).fr⟩

set_option maxRecDepth 100000 in
set_option maxHeartbeats 8000000 in
theorem curveAdds_0 (a b : List Int) (P Q : Pt)  (la : a.length = 32) (ya : Byt a) (lb : b.length = 32) (yb : Byt b)  (hPP : decPt a = P) (hOP : decOk a = false) (hPQ : decPt b = Q) (hOQ : decOk b = true)  : Calls Try.prog 16 #[.agg (ints .u8 a), .agg (ints .u8 b)] w fun e w' => e = .returned (.bool true) ∧ Fr [] w w' := by
  have Ya := Lib.hid ya
  clear ya
  have Yb := Lib.hid yb
  clear yb
  have HPP := Lib.hid hPP
  have HOP := Lib.hid hOP
  clear hPP hOP
  have HPQ := Lib.hid hPQ
  have HOQ := Lib.hid hOQ
  clear hPQ hOQ
  go_enter Try.func16, Try.ntmps16
  go_wp2_with fail
  refine (calive_f).mono ?_
  rintro e w3 ⟨rfl, F4⟩
  have h5 : Own w [(w.heap.size + 1, .cells (ints .u8 (b)) 22), (w.heap.size, .cells (ints .u8 (a)) 22)] w3 := ((((Own.start w).allocN (.cells (ints .u8 (a)) 22) w.heap.size rfl).allocN (.cells (ints .u8 (b)) 22) (w.heap.size + 1) (by simp))).call F4
  clear F4
  simp only []
  generalize w.heap.size + 1 = bk2 at h5 ⊢
  generalize w.heap.size = bk1 at h5 ⊢
  obtain ⟨L6, hL6⟩ : ∃ L : List (Nat × Obj), L = [(bk2, .cells (ints .u8 (b)) 22), (bk1, .cells (ints .u8 (a)) 22)] := ⟨_, rfl⟩
  rw [← hL6] at h5
  have HL6 := Lib.hid hL6
  clear hL6
  have s7 := h5
  rw [HL6.out] at s7
  have f8 := s7.nth 1 rfl
  clear s7
  go_wp2_with fail
  clear f8
  refine (two_core _ _ _ la Ya.out HPP.out HOP.out).mono ?_
  rintro e w9 ⟨x11, y12, z13, t14, s15, X16, Y17, Z18, rfl, k19, k20, F10⟩
  have nx11 := k19.nx
  have ny12 := k19.ny
  have nz13 := k19.nz
  have nt14 := k19.nt
  have Hk19 := Lib.hid k19
  clear k19
  have Hk20 := Lib.hid k20
  clear k20
  have s22 := h5
  rw [HL6.out] at s22
  have h21 : Own w [(bk2, .cells (ints .u8 (b)) 22), (bk1, .cells (ints .u8 (a)) 22)] w9 := (s22).call F10
  clear F10
  simp only []
  clear s22 h5
  obtain ⟨L23, hL23⟩ : ∃ L : List (Nat × Obj), L = [(bk2, .cells (ints .u8 (b)) 22), (bk1, .cells (ints .u8 (a)) 22)] := ⟨_, rfl⟩
  rw [← hL23] at h21
  have HL23 := Lib.hid hL23
  clear hL23
  have s24 := h21
  rw [HL23.out] at s24
  have f25 := s24.nth 0 rfl
  have t26 := s24.lt 0 rfl
  clear s24
  go_wp2_with fail
  clear f25 t26
  have s27 := h21
  rw [HL23.out] at s27
  refine (two_core _ _ _ lb Yb.out HPQ.out HOQ.out).mono ?_
  rintro e w30 ⟨x32, y33, z34, t35, s36, X37, Y38, Z39, rfl, k40, k41, F31⟩
  have nx32 := k40.nx
  have ny33 := k40.ny
  have nz34 := k40.nz
  have nt35 := k40.nt
  have Hk40 := Lib.hid k40
  clear k40
  have Hk41 := Lib.hid k41
  clear k41
  have h42 : Own w [(w9.heap.size + 1, .cells (dpC X16 Y17 Z18) 51), (w9.heap.size, .cells (ptC x11 y12 z13 t14 s15) 49), (bk2, .cells (ints .u8 (b)) 22), (bk1, .cells (ints .u8 (a)) 22)] w30 := (((s27.allocN (.cells (ptC x11 y12 z13 t14 s15) 49) (w9.heap.size) (by simp)).allocN (.cells (dpC X16 Y17 Z18) 51) (w9.heap.size + 1) (by simp))).call F31
  clear F31
  simp only []
  generalize w9.heap.size + 1 = bk29 at h42 ⊢
  generalize w9.heap.size = bk28 at h42 ⊢
  clear s27 h21
  obtain ⟨L43, hL43⟩ : ∃ L : List (Nat × Obj), L = [(bk29, .cells (dpC X16 Y17 Z18) 51), (bk28, .cells (ptC x11 y12 z13 t14 s15) 49), (bk2, .cells (ints .u8 (b)) 22), (bk1, .cells (ints .u8 (a)) 22)] := ⟨_, rfl⟩
  rw [← hL43] at h42
  have HL43 := Lib.hid hL43
  clear hL43
  go_wp2_with fail
  have s44 := h42
  rw [HL43.out] at s44
  go_ret
  exact ⟨rfl, (((s44.allocN (.cells (ptC x32 y33 z34 t35 s36) 49) (w30.heap.size) (by simp)).allocN (.cells (dpC X37 Y38 Z39) 51) (w30.heap.size + 1) (by simp))).fr⟩

set_option maxRecDepth 100000 in
set_option maxHeartbeats 8000000 in
theorem curveAdds_1 (a b : List Int) (P Q : Pt)  (la : a.length = 32) (ya : Byt a) (lb : b.length = 32) (yb : Byt b)  (hPP : decPt a = P) (hOP : decOk a = true) (hPQ : decPt b = Q) (hOQ : decOk b = false)  : Calls Try.prog 16 #[.agg (ints .u8 a), .agg (ints .u8 b)] w fun e w' => e = .returned (.bool true) ∧ Fr [] w w' := by
  have Ya := Lib.hid ya
  clear ya
  have Yb := Lib.hid yb
  clear yb
  have HPP := Lib.hid hPP
  have HOP := Lib.hid hOP
  clear hPP hOP
  have HPQ := Lib.hid hPQ
  have HOQ := Lib.hid hOQ
  clear hPQ hOQ
  go_enter Try.func16, Try.ntmps16
  go_wp2_with fail
  refine (calive_f).mono ?_
  rintro e w3 ⟨rfl, F4⟩
  have h5 : Own w [(w.heap.size + 1, .cells (ints .u8 (b)) 22), (w.heap.size, .cells (ints .u8 (a)) 22)] w3 := ((((Own.start w).allocN (.cells (ints .u8 (a)) 22) w.heap.size rfl).allocN (.cells (ints .u8 (b)) 22) (w.heap.size + 1) (by simp))).call F4
  clear F4
  simp only []
  generalize w.heap.size + 1 = bk2 at h5 ⊢
  generalize w.heap.size = bk1 at h5 ⊢
  obtain ⟨L6, hL6⟩ : ∃ L : List (Nat × Obj), L = [(bk2, .cells (ints .u8 (b)) 22), (bk1, .cells (ints .u8 (a)) 22)] := ⟨_, rfl⟩
  rw [← hL6] at h5
  have HL6 := Lib.hid hL6
  clear hL6
  have s7 := h5
  rw [HL6.out] at s7
  have f8 := s7.nth 1 rfl
  clear s7
  go_wp2_with fail
  clear f8
  refine (two_core _ _ _ la Ya.out HPP.out HOP.out).mono ?_
  rintro e w9 ⟨x11, y12, z13, t14, s15, X16, Y17, Z18, rfl, k19, k20, F10⟩
  have nx11 := k19.nx
  have ny12 := k19.ny
  have nz13 := k19.nz
  have nt14 := k19.nt
  have Hk19 := Lib.hid k19
  clear k19
  have Hk20 := Lib.hid k20
  clear k20
  have s22 := h5
  rw [HL6.out] at s22
  have h21 : Own w [(bk2, .cells (ints .u8 (b)) 22), (bk1, .cells (ints .u8 (a)) 22)] w9 := (s22).call F10
  clear F10
  simp only []
  clear s22 h5
  obtain ⟨L23, hL23⟩ : ∃ L : List (Nat × Obj), L = [(bk2, .cells (ints .u8 (b)) 22), (bk1, .cells (ints .u8 (a)) 22)] := ⟨_, rfl⟩
  rw [← hL23] at h21
  have HL23 := Lib.hid hL23
  clear hL23
  have s24 := h21
  rw [HL23.out] at s24
  have f25 := s24.nth 0 rfl
  have t26 := s24.lt 0 rfl
  clear s24
  go_wp2_with fail
  clear f25 t26
  have s27 := h21
  rw [HL23.out] at s27
  refine (two_core _ _ _ lb Yb.out HPQ.out HOQ.out).mono ?_
  rintro e w30 ⟨x32, y33, z34, t35, s36, X37, Y38, Z39, rfl, k40, k41, F31⟩
  have nx32 := k40.nx
  have ny33 := k40.ny
  have nz34 := k40.nz
  have nt35 := k40.nt
  have Hk40 := Lib.hid k40
  clear k40
  have Hk41 := Lib.hid k41
  clear k41
  have h42 : Own w [(w9.heap.size + 1, .cells (dpC X16 Y17 Z18) 51), (w9.heap.size, .cells (ptC x11 y12 z13 t14 s15) 49), (bk2, .cells (ints .u8 (b)) 22), (bk1, .cells (ints .u8 (a)) 22)] w30 := (((s27.allocN (.cells (ptC x11 y12 z13 t14 s15) 49) (w9.heap.size) (by simp)).allocN (.cells (dpC X16 Y17 Z18) 51) (w9.heap.size + 1) (by simp))).call F31
  clear F31
  simp only []
  generalize w9.heap.size + 1 = bk29 at h42 ⊢
  generalize w9.heap.size = bk28 at h42 ⊢
  clear s27 h21
  obtain ⟨L43, hL43⟩ : ∃ L : List (Nat × Obj), L = [(bk29, .cells (dpC X16 Y17 Z18) 51), (bk28, .cells (ptC x11 y12 z13 t14 s15) 49), (bk2, .cells (ints .u8 (b)) 22), (bk1, .cells (ints .u8 (a)) 22)] := ⟨_, rfl⟩
  rw [← hL43] at h42
  have HL43 := Lib.hid hL43
  clear hL43
  go_wp2_with fail
  have s44 := h42
  rw [HL43.out] at s44
  go_ret
  exact ⟨rfl, (((s44.allocN (.cells (ptC x32 y33 z34 t35 s36) 49) (w30.heap.size) (by simp)).allocN (.cells (dpC X37 Y38 Z39) 51) (w30.heap.size + 1) (by simp))).fr⟩

set_option maxRecDepth 100000 in
set_option maxHeartbeats 8000000 in
theorem curveAdds_2 (a b : List Int) (P Q : Pt)  (la : a.length = 32) (ya : Byt a) (lb : b.length = 32) (yb : Byt b)  (hPP : decPt a = P) (hOP : decOk a = false) (hPQ : decPt b = Q) (hOQ : decOk b = false)  : Calls Try.prog 16 #[.agg (ints .u8 a), .agg (ints .u8 b)] w fun e w' => e = .returned (.bool true) ∧ Fr [] w w' := by
  have Ya := Lib.hid ya
  clear ya
  have Yb := Lib.hid yb
  clear yb
  have HPP := Lib.hid hPP
  have HOP := Lib.hid hOP
  clear hPP hOP
  have HPQ := Lib.hid hPQ
  have HOQ := Lib.hid hOQ
  clear hPQ hOQ
  go_enter Try.func16, Try.ntmps16
  go_wp2_with fail
  refine (calive_f).mono ?_
  rintro e w3 ⟨rfl, F4⟩
  have h5 : Own w [(w.heap.size + 1, .cells (ints .u8 (b)) 22), (w.heap.size, .cells (ints .u8 (a)) 22)] w3 := ((((Own.start w).allocN (.cells (ints .u8 (a)) 22) w.heap.size rfl).allocN (.cells (ints .u8 (b)) 22) (w.heap.size + 1) (by simp))).call F4
  clear F4
  simp only []
  generalize w.heap.size + 1 = bk2 at h5 ⊢
  generalize w.heap.size = bk1 at h5 ⊢
  obtain ⟨L6, hL6⟩ : ∃ L : List (Nat × Obj), L = [(bk2, .cells (ints .u8 (b)) 22), (bk1, .cells (ints .u8 (a)) 22)] := ⟨_, rfl⟩
  rw [← hL6] at h5
  have HL6 := Lib.hid hL6
  clear hL6
  have s7 := h5
  rw [HL6.out] at s7
  have f8 := s7.nth 1 rfl
  clear s7
  go_wp2_with fail
  clear f8
  refine (two_core _ _ _ la Ya.out HPP.out HOP.out).mono ?_
  rintro e w9 ⟨x11, y12, z13, t14, s15, X16, Y17, Z18, rfl, k19, k20, F10⟩
  have nx11 := k19.nx
  have ny12 := k19.ny
  have nz13 := k19.nz
  have nt14 := k19.nt
  have Hk19 := Lib.hid k19
  clear k19
  have Hk20 := Lib.hid k20
  clear k20
  have s22 := h5
  rw [HL6.out] at s22
  have h21 : Own w [(bk2, .cells (ints .u8 (b)) 22), (bk1, .cells (ints .u8 (a)) 22)] w9 := (s22).call F10
  clear F10
  simp only []
  clear s22 h5
  obtain ⟨L23, hL23⟩ : ∃ L : List (Nat × Obj), L = [(bk2, .cells (ints .u8 (b)) 22), (bk1, .cells (ints .u8 (a)) 22)] := ⟨_, rfl⟩
  rw [← hL23] at h21
  have HL23 := Lib.hid hL23
  clear hL23
  have s24 := h21
  rw [HL23.out] at s24
  have f25 := s24.nth 0 rfl
  have t26 := s24.lt 0 rfl
  clear s24
  go_wp2_with fail
  clear f25 t26
  have s27 := h21
  rw [HL23.out] at s27
  refine (two_core _ _ _ lb Yb.out HPQ.out HOQ.out).mono ?_
  rintro e w30 ⟨x32, y33, z34, t35, s36, X37, Y38, Z39, rfl, k40, k41, F31⟩
  have nx32 := k40.nx
  have ny33 := k40.ny
  have nz34 := k40.nz
  have nt35 := k40.nt
  have Hk40 := Lib.hid k40
  clear k40
  have Hk41 := Lib.hid k41
  clear k41
  have h42 : Own w [(w9.heap.size + 1, .cells (dpC X16 Y17 Z18) 51), (w9.heap.size, .cells (ptC x11 y12 z13 t14 s15) 49), (bk2, .cells (ints .u8 (b)) 22), (bk1, .cells (ints .u8 (a)) 22)] w30 := (((s27.allocN (.cells (ptC x11 y12 z13 t14 s15) 49) (w9.heap.size) (by simp)).allocN (.cells (dpC X16 Y17 Z18) 51) (w9.heap.size + 1) (by simp))).call F31
  clear F31
  simp only []
  generalize w9.heap.size + 1 = bk29 at h42 ⊢
  generalize w9.heap.size = bk28 at h42 ⊢
  clear s27 h21
  obtain ⟨L43, hL43⟩ : ∃ L : List (Nat × Obj), L = [(bk29, .cells (dpC X16 Y17 Z18) 51), (bk28, .cells (ptC x11 y12 z13 t14 s15) 49), (bk2, .cells (ints .u8 (b)) 22), (bk1, .cells (ints .u8 (a)) 22)] := ⟨_, rfl⟩
  rw [← hL43] at h42
  have HL43 := Lib.hid hL43
  clear hL43
  go_wp2_with fail
  have s44 := h42
  rw [HL43.out] at s44
  go_ret
  exact ⟨rfl, (((s44.allocN (.cells (ptC x32 y33 z34 t35 s36) 49) (w30.heap.size) (by simp)).allocN (.cells (dpC X37 Y38 Z39) 51) (w30.heap.size + 1) (by simp))).fr⟩

theorem curveAdds_walk (a b : List Int) (la : a.length = 32) (ya : Byt a) (lb : b.length = 32) (yb : Byt b) : Calls Try.prog 16 #[.agg (ints .u8 a), .agg (ints .u8 b)] w fun e w' => e = .returned (.bool true) ∧ Fr [] w w' := by
  cases ha : decOk a with
  | true => cases hb : decOk b with
    | true => exact curveAdds_both a b _ _ _ _ la ya lb yb (length_encP _) (byt_encP _) (length_encP _) (byt_encP _) rfl rfl (by rw [pad_comm]) rfl ha rfl hb
    | false => exact curveAdds_1 a b _ _ la ya lb yb rfl ha rfl hb
  | false => cases hb : decOk b with
    | true => exact curveAdds_0 a b _ _ la ya lb yb rfl ha rfl hb
    | false => exact curveAdds_2 a b _ _ la ya lb yb rfl ha rfl hb

end
end Go.Proofs.Ytakhmmnklkckpaa
