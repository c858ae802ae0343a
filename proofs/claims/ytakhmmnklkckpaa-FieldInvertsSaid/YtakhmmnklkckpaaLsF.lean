/- FieldInverts: the walk (printed by gen_field.py). -/
import Derived.Test.YtakhmmnklkckpaaOwn
namespace Go.Proofs.Ytakhmmnklkckpaa
open Go.RowKit Go.Dr

section
variable {w : World}
theorem bytesF_1 : bytesF 1 = b1 1 := by kernel_rfl
theorem inv_bytes {x : Fp} (h : x ≠ 0) : bytesF (x * inv x) = b1 1 := by rw [mul_inv h, bytesF_1]
theorem inv_bytes0 {x : Fp} (h : x = 0) : bytesF (x * inv x) = b1 0 := by rw [h, show (0 : Fp) * inv 0 = 0 from by grobner, bytesF_0]
theorem of_named {b : List Int} {X : Fp} (hX : fromB b = X) (hlb : b.length = 32) (hb : Byt b) : Calls Try.prog 27 #[.agg (ints .u8 b)] w fun e w' => ∃ c, e = .returned (fe c) ∧ Is c X ∧ Fr [] w w' := hX ▸ of_b hlb hb
theorem rof_named {b : List Int} {X : Fp} (hX : fromB b = X) (hlb : b.length = 32) (hb : Byt b) : Calls Try.prog 29 #[.agg (ints .u8 b)] w fun e w' => e = .returned (dF X) ∧ Fr [] w w' := hX ▸ rof_b hlb hb
theorem inv_named {c : List Int} {X Y : Fp} (hY : inv X = Y) (hc : Is c X) : Calls Try.prog 40 #[fe c] w fun e w' => ∃ c, e = .returned (fe c) ∧ Is c Y ∧ Fr [] w w' := hY ▸ inv_f hc
theorem rinv_named {X Y : Fp} (hY : inv X = Y) : Calls Try.prog 41 #[dF X] w fun e w' => e = .returned (dF Y) ∧ Fr [] w w' := hY ▸ rinv_f X
set_option maxRecDepth 100000 in
set_option maxHeartbeats 4000000 in
theorem inverts_ne (a : List Int) (hla : a.length = 32) (ha : Byt a) (X Y : Fp) (O : List Int) (hX : fromB a = X) (hY : inv X = Y) (hO : O = b1 1) (lO : O.length = 32) (hz : (bytesF X == [0, 0, 0, 0, 0, 0, 0, 0, 0, 0, 0, 0, 0, 0, 0, 0, 0, 0, 0, 0, 0, 0, 0, 0, 0, 0, 0, 0, 0, 0, 0, 0]) = false) (ho : bytesF (X * Y) = O) : Calls Try.prog 9 #[.agg (ints .u8 a)] w fun e w' => e = .returned (.bool true) ∧ Fr [] w w' := by
  have Ba := Lib.hid ha
  clear ha
  have HX := Lib.hid hX
  have HY := Lib.hid hY
  clear hX hY
  have HO := Lib.hid hO
  clear hO
  go_enter Try.func9, Try.ntmps9
  go_wp2_with fail
  refine alive_any.mono ?_
  rintro e w1 ⟨rfl, F1⟩
  have h0 : Own w [(w.heap.size, .cells (ints .u8 (a)) 22)] w1 := (((Own.start w).allocN (.cells (ints .u8 (a)) 22) w.heap.size rfl)).call F1
  clear F1
  simp only []
  generalize w.heap.size = bk1 at h0 ⊢
  obtain ⟨L2, hL2⟩ : ∃ L : List (Nat × Obj), L = [(bk1, .cells (ints .u8 (a)) 22)] := ⟨_, rfl⟩
  rw [← hL2] at h0
  have HL2 := Lib.hid hL2
  clear hL2
  have s3 := h0
  rw [HL2.out] at s3
  have f4 := s3.nth 0 rfl
  clear s3
  go_wp2_with fail
  clear f4
  refine (of_named HX.out hla Ba.out).mono ?_
  rintro e w5 ⟨c7, rfl, k8, F6⟩
  have nc7 := k8.len
  have Hc7 := Lib.hid k8
  clear k8
  have s10 := h0
  rw [HL2.out] at s10
  have h9 : Own w [(bk1, .cells (ints .u8 (a)) 22)] w5 := (s10).call F6
  clear F6
  simp only []
  clear s10 h0
  obtain ⟨L11, hL11⟩ : ∃ L : List (Nat × Obj), L = [(bk1, .cells (ints .u8 (a)) 22)] := ⟨_, rfl⟩
  rw [← hL11] at h9
  have HL11 := Lib.hid hL11
  clear hL11
  go_wp2_with fail
  have s12 := h9
  rw [HL11.out] at s12
  refine (inv_named HY.out Hc7.out).mono ?_
  rintro e w14 ⟨c16, rfl, k17, F15⟩
  have nc16 := k17.len
  have Hc16 := Lib.hid k17
  clear k17
  have h18 : Own w [(w5.heap.size, .cells (ints .u64 c7) 28), (bk1, .cells (ints .u8 (a)) 22)] w14 := ((s12.allocN (.cells (ints .u64 c7) 28) (w5.heap.size) (by simp))).call F15
  clear F15
  simp only []
  generalize w5.heap.size = bk13 at h18 ⊢
  clear s12 h9
  obtain ⟨L19, hL19⟩ : ∃ L : List (Nat × Obj), L = [(bk13, .cells (ints .u64 c7) 28), (bk1, .cells (ints .u8 (a)) 22)] := ⟨_, rfl⟩
  rw [← hL19] at h18
  have HL19 := Lib.hid hL19
  clear hL19
  have s20 := h18
  rw [HL19.out] at s20
  have f21 := s20.nth 0 rfl
  have t22 := s20.lt 0 rfl
  clear s20
  go_wp2_with fail
  clear f21 t22
  have s23 := h18
  rw [HL19.out] at s23
  refine (bytes_f Hc7.out).mono ?_
  rintro e w26 ⟨rfl, F27⟩
  have h28 : Own w [(w14.heap.size + 1, .cells (ints .u8 (b1 1)) 22), (w14.heap.size, .cells (ints .u64 c16) 28), (bk13, .cells (ints .u64 c7) 28), (bk1, .cells (ints .u8 (a)) 22)] w26 := (((s23.allocN (.cells (ints .u64 c16) 28) (w14.heap.size) (by simp)).allocN (.cells (ints .u8 (b1 1)) 22) (w14.heap.size + 1) (by simp))).call F27
  clear F27
  simp only []
  generalize w14.heap.size + 1 = bk25 at h28 ⊢
  generalize w14.heap.size = bk24 at h28 ⊢
  clear s23 h18
  rw [← HO.out] at h28
  obtain ⟨L29, hL29⟩ : ∃ L : List (Nat × Obj), L = [(bk25, .cells (ints .u8 (O)) 22), (bk24, .cells (ints .u64 c16) 28), (bk13, .cells (ints .u64 c7) 28), (bk1, .cells (ints .u8 (a)) 22)] := ⟨_, rfl⟩
  rw [← hL29] at h28
  have HL29 := Lib.hid hL29
  clear hL29
  go_wp2_with fail
  refine drawn_begin 16 (Own w L29) (by kernel_rfl) ?_
  have s30 := h28.drew
  rw [HL29.out] at s30
  have f31 := s30.nth 1 rfl
  have f32 := s30.nth 3 rfl
  clear s30
  refine drawn_reads (fuel := 14) [0, 2] rfl (by kernel_rfl) (h28.drew) ?_
  repeat (first | (refine rowK_step2 rfl rfl (fun K hK => ?_); go_wp2) | (refine rowK_step rfl (fun K hK => ?_); go_simp; refine hK _ ?_; clear hK K))
  refine rowK_nil ⟨fun w' hw' => ?_, ?_⟩
  · rw [HL29.out] at hw'
    have g33 := hw'.nth 1 rfl
    have g34 := hw'.nth 3 rfl
    clear f31 f32
    repeat (first | (refine rowWp_step2 rfl rfl (fun K hK => ?_); go_wp2) | (refine rowWp_step rfl (fun K hK => ?_); go_simp; refine hK _ ?_; clear hK K))
    exact rowWp_nil rfl
  clear f31 f32
  refine drawn_next 1 (fuel := 13) rfl (by kernel_rfl) ?_
  intro K hK
  go_wp2_with fail
  refine (bytes_f Hc16.out).mono ?_
  rintro e w35 ⟨rfl, F36⟩
  have h37 := (h28.drew).call F36
  clear F36 h28
  simp only []
  go_wp2
  refine ⟨h37, ?_⟩
  refine drawn_next 3 (fuel := 12) rfl (by kernel_rfl) ?_
  intro K hK
  go_wp2_with fail
  refine (rof_named HX.out hla Ba.out).mono ?_
  rintro e w38 ⟨rfl, F39⟩
  have h40 := (h37).call F39
  clear F39 h37
  simp only []
  go_wp2
  refine ⟨h40, ?_⟩
  refine drawn_next 4 (fuel := 11) rfl (by kernel_rfl) ?_
  intro K hK
  go_wp2_with fail
  refine (rinv_named HY.out).mono ?_
  rintro e w41 ⟨rfl, F42⟩
  have h43 := (h40).call F42
  clear F42 h40
  simp only []
  go_wp2
  refine ⟨h43, ?_⟩
  refine drawn_next 5 (fuel := 10) rfl (by kernel_rfl) ?_
  intro K hK
  go_wp2_with fail
  refine (rbytes_f Y).mono ?_
  rintro e w44 ⟨rfl, F45⟩
  have h46 := (h43).call F45
  clear F45 h43
  simp only []
  go_wp2
  refine ⟨h46, ?_⟩
  have s47 := h46
  rw [HL29.out] at s47
  have f48 := s47.nth 2 rfl
  have f49 := s47.nth 1 rfl
  have f50 := s47.nth 0 rfl
  clear s47
  refine drawn_reads (fuel := 5) [6, 7, 8, 9, 12] rfl (by kernel_rfl) (h46) ?_
  repeat (first | (refine rowK_step2 rfl rfl (fun K hK => ?_); go_wp2) | (refine rowK_step rfl (fun K hK => ?_); go_simp; refine hK _ ?_; clear hK K))
  refine rowK_nil ⟨fun w' hw' => ?_, ?_⟩
  · rw [HL29.out] at hw'
    have g51 := hw'.nth 2 rfl
    have g52 := hw'.nth 1 rfl
    have g53 := hw'.nth 0 rfl
    clear f48 f49 f50
    repeat (first | (refine rowWp_step2 rfl rfl (fun K hK => ?_); go_wp2) | (refine rowWp_step rfl (fun K hK => ?_); go_simp; refine hK _ ?_; clear hK K))
    exact rowWp_nil rfl
  clear f48 f49 f50
  refine drawn_next 10 (fuel := 4) rfl (by kernel_rfl) ?_
  intro K hK
  go_wp2_with fail
  refine (mul_f Hc7.out Hc16.out).mono ?_
  rintro e w54 ⟨c56, rfl, k57, F55⟩
  have nc56 := k57.len
  have Hc56 := Lib.hid k57
  clear k57
  have h58 := (h46).call F55
  clear F55 h46
  simp only []
  go_wp2
  refine ⟨h58, ?_⟩
  refine drawn_next 11 (fuel := 3) rfl (by kernel_rfl) ?_
  intro K hK
  go_wp2_with fail
  refine (bytes_f Hc56.out).mono ?_
  rw [ho]
  rintro e w59 ⟨rfl, F60⟩
  have h61 := (h58).call F60
  clear F60 h58
  simp only []
  go_wp2
  refine ⟨h61, ?_⟩
  refine drawn_reads (fuel := 0) [13, 14, 15] rfl (by kernel_rfl) (h61) ?_
  repeat (first | (refine rowK_step2 rfl rfl (fun K hK => ?_); go_wp2) | (refine rowK_step rfl (fun K hK => ?_); go_simp; refine hK _ ?_; clear hK K))
  refine rowK_nil ⟨fun w' hw' => ?_, ?_⟩
  · skip
    repeat (first | (refine rowWp_step2 rfl rfl (fun K hK => ?_); go_wp2) | (refine rowWp_step rfl (fun K hK => ?_); go_simp; refine hK _ ?_; clear hK K))
    exact rowWp_nil rfl
  refine drawn_end (ol := []) rfl (by kernel_rfl) ?_
  intro K hK
  go_wp2_with fail
  go_ret
  exact ⟨rfl, (h61).fr⟩
set_option maxRecDepth 100000 in
set_option maxHeartbeats 4000000 in
theorem inverts_zero (a : List Int) (hla : a.length = 32) (ha : Byt a) (X Y : Fp) (O : List Int) (hX : fromB a = X) (hY : inv X = Y) (hO : O = b1 0) (lO : O.length = 32) (hz : (bytesF X == [0, 0, 0, 0, 0, 0, 0, 0, 0, 0, 0, 0, 0, 0, 0, 0, 0, 0, 0, 0, 0, 0, 0, 0, 0, 0, 0, 0, 0, 0, 0, 0]) = true) (ho : bytesF (X * Y) = O) : Calls Try.prog 9 #[.agg (ints .u8 a)] w fun e w' => e = .returned (.bool true) ∧ Fr [] w w' := by
  have Ba := Lib.hid ha
  clear ha
  have HX := Lib.hid hX
  have HY := Lib.hid hY
  clear hX hY
  have HO := Lib.hid hO
  clear hO
  go_enter Try.func9, Try.ntmps9
  go_wp2_with fail
  refine alive_any.mono ?_
  rintro e w1 ⟨rfl, F1⟩
  have h0 : Own w [(w.heap.size, .cells (ints .u8 (a)) 22)] w1 := (((Own.start w).allocN (.cells (ints .u8 (a)) 22) w.heap.size rfl)).call F1
  clear F1
  simp only []
  generalize w.heap.size = bk1 at h0 ⊢
  obtain ⟨L2, hL2⟩ : ∃ L : List (Nat × Obj), L = [(bk1, .cells (ints .u8 (a)) 22)] := ⟨_, rfl⟩
  rw [← hL2] at h0
  have HL2 := Lib.hid hL2
  clear hL2
  have s3 := h0
  rw [HL2.out] at s3
  have f4 := s3.nth 0 rfl
  clear s3
  go_wp2_with fail
  clear f4
  refine (of_named HX.out hla Ba.out).mono ?_
  rintro e w5 ⟨c7, rfl, k8, F6⟩
  have nc7 := k8.len
  have Hc7 := Lib.hid k8
  clear k8
  have s10 := h0
  rw [HL2.out] at s10
  have h9 : Own w [(bk1, .cells (ints .u8 (a)) 22)] w5 := (s10).call F6
  clear F6
  simp only []
  clear s10 h0
  obtain ⟨L11, hL11⟩ : ∃ L : List (Nat × Obj), L = [(bk1, .cells (ints .u8 (a)) 22)] := ⟨_, rfl⟩
  rw [← hL11] at h9
  have HL11 := Lib.hid hL11
  clear hL11
  go_wp2_with fail
  have s12 := h9
  rw [HL11.out] at s12
  refine (inv_named HY.out Hc7.out).mono ?_
  rintro e w14 ⟨c16, rfl, k17, F15⟩
  have nc16 := k17.len
  have Hc16 := Lib.hid k17
  clear k17
  have h18 : Own w [(w5.heap.size, .cells (ints .u64 c7) 28), (bk1, .cells (ints .u8 (a)) 22)] w14 := ((s12.allocN (.cells (ints .u64 c7) 28) (w5.heap.size) (by simp))).call F15
  clear F15
  simp only []
  generalize w5.heap.size = bk13 at h18 ⊢
  clear s12 h9
  obtain ⟨L19, hL19⟩ : ∃ L : List (Nat × Obj), L = [(bk13, .cells (ints .u64 c7) 28), (bk1, .cells (ints .u8 (a)) 22)] := ⟨_, rfl⟩
  rw [← hL19] at h18
  have HL19 := Lib.hid hL19
  clear hL19
  have s20 := h18
  rw [HL19.out] at s20
  have f21 := s20.nth 0 rfl
  have t22 := s20.lt 0 rfl
  clear s20
  go_wp2_with fail
  clear f21 t22
  have s23 := h18
  rw [HL19.out] at s23
  refine (bytes_f Hc7.out).mono ?_
  rintro e w26 ⟨rfl, F27⟩
  have h28 : Own w [(w14.heap.size + 1, .cells (ints .u8 (b1 1)) 22), (w14.heap.size, .cells (ints .u64 c16) 28), (bk13, .cells (ints .u64 c7) 28), (bk1, .cells (ints .u8 (a)) 22)] w26 := (((s23.allocN (.cells (ints .u64 c16) 28) (w14.heap.size) (by simp)).allocN (.cells (ints .u8 (b1 1)) 22) (w14.heap.size + 1) (by simp))).call F27
  clear F27
  simp only []
  generalize w14.heap.size + 1 = bk25 at h28 ⊢
  generalize w14.heap.size = bk24 at h28 ⊢
  clear s23 h18
  obtain ⟨L29, hL29⟩ : ∃ L : List (Nat × Obj), L = [(bk25, .cells (ints .u8 (b1 1)) 22), (bk24, .cells (ints .u64 c16) 28), (bk13, .cells (ints .u64 c7) 28), (bk1, .cells (ints .u8 (a)) 22)] := ⟨_, rfl⟩
  rw [← hL29] at h28
  have HL29 := Lib.hid hL29
  clear hL29
  have s30 := h28
  rw [HL29.out] at s30
  have f31 := s30.nth 0 rfl
  have t32 := s30.lt 0 rfl
  clear s30
  go_wp2_with fail
  clear f31 t32
  have s33 := h28
  rw [HL29.out] at s33
  refine Own.named (Q := fun X => Code.wp _ _ _ _ X) (show Own w [(bk25, .cells (ints .u8 (b1 0)) 22), (bk24, .cells (ints .u64 c16) 28), (bk13, .cells (ints .u64 c7) 28), (bk1, .cells (ints .u8 (a)) 22)] _ from (s33.set 0 (.cells (ints .u8 (b1 0)) 22) rfl)) ?_
  intro V35 h34
  clear s33 h28
  rw [← HO.out] at h34
  obtain ⟨L36, hL36⟩ : ∃ L : List (Nat × Obj), L = [(bk25, .cells (ints .u8 (O)) 22), (bk24, .cells (ints .u64 c16) 28), (bk13, .cells (ints .u64 c7) 28), (bk1, .cells (ints .u8 (a)) 22)] := ⟨_, rfl⟩
  rw [← hL36] at h34
  have HL36 := Lib.hid hL36
  clear hL36
  refine drawn_begin 16 (Own w L36) (by kernel_rfl) ?_
  have s37 := h34.drew
  rw [HL36.out] at s37
  have f38 := s37.nth 1 rfl
  have f39 := s37.nth 3 rfl
  clear s37
  refine drawn_reads (fuel := 14) [0, 2] rfl (by kernel_rfl) (h34.drew) ?_
  repeat (first | (refine rowK_step2 rfl rfl (fun K hK => ?_); go_wp2) | (refine rowK_step rfl (fun K hK => ?_); go_simp; refine hK _ ?_; clear hK K))
  refine rowK_nil ⟨fun w' hw' => ?_, ?_⟩
  · rw [HL36.out] at hw'
    have g40 := hw'.nth 1 rfl
    have g41 := hw'.nth 3 rfl
    clear f38 f39
    repeat (first | (refine rowWp_step2 rfl rfl (fun K hK => ?_); go_wp2) | (refine rowWp_step rfl (fun K hK => ?_); go_simp; refine hK _ ?_; clear hK K))
    exact rowWp_nil rfl
  clear f38 f39
  refine drawn_next 1 (fuel := 13) rfl (by kernel_rfl) ?_
  intro K hK
  go_wp2_with fail
  refine (bytes_f Hc16.out).mono ?_
  rintro e w42 ⟨rfl, F43⟩
  have h44 := (h34.drew).call F43
  clear F43 h34
  simp only []
  go_wp2
  refine ⟨h44, ?_⟩
  refine drawn_next 3 (fuel := 12) rfl (by kernel_rfl) ?_
  intro K hK
  go_wp2_with fail
  refine (rof_named HX.out hla Ba.out).mono ?_
  rintro e w45 ⟨rfl, F46⟩
  have h47 := (h44).call F46
  clear F46 h44
  simp only []
  go_wp2
  refine ⟨h47, ?_⟩
  refine drawn_next 4 (fuel := 11) rfl (by kernel_rfl) ?_
  intro K hK
  go_wp2_with fail
  refine (rinv_named HY.out).mono ?_
  rintro e w48 ⟨rfl, F49⟩
  have h50 := (h47).call F49
  clear F49 h47
  simp only []
  go_wp2
  refine ⟨h50, ?_⟩
  refine drawn_next 5 (fuel := 10) rfl (by kernel_rfl) ?_
  intro K hK
  go_wp2_with fail
  refine (rbytes_f Y).mono ?_
  rintro e w51 ⟨rfl, F52⟩
  have h53 := (h50).call F52
  clear F52 h50
  simp only []
  go_wp2
  refine ⟨h53, ?_⟩
  have s54 := h53
  rw [HL36.out] at s54
  have f55 := s54.nth 2 rfl
  have f56 := s54.nth 1 rfl
  have f57 := s54.nth 0 rfl
  clear s54
  refine drawn_reads (fuel := 5) [6, 7, 8, 9, 12] rfl (by kernel_rfl) (h53) ?_
  repeat (first | (refine rowK_step2 rfl rfl (fun K hK => ?_); go_wp2) | (refine rowK_step rfl (fun K hK => ?_); go_simp; refine hK _ ?_; clear hK K))
  refine rowK_nil ⟨fun w' hw' => ?_, ?_⟩
  · rw [HL36.out] at hw'
    have g58 := hw'.nth 2 rfl
    have g59 := hw'.nth 1 rfl
    have g60 := hw'.nth 0 rfl
    clear f55 f56 f57
    repeat (first | (refine rowWp_step2 rfl rfl (fun K hK => ?_); go_wp2) | (refine rowWp_step rfl (fun K hK => ?_); go_simp; refine hK _ ?_; clear hK K))
    exact rowWp_nil rfl
  clear f55 f56 f57
  refine drawn_next 10 (fuel := 4) rfl (by kernel_rfl) ?_
  intro K hK
  go_wp2_with fail
  refine (mul_f Hc7.out Hc16.out).mono ?_
  rintro e w61 ⟨c63, rfl, k64, F62⟩
  have nc63 := k64.len
  have Hc63 := Lib.hid k64
  clear k64
  have h65 := (h53).call F62
  clear F62 h53
  simp only []
  go_wp2
  refine ⟨h65, ?_⟩
  refine drawn_next 11 (fuel := 3) rfl (by kernel_rfl) ?_
  intro K hK
  go_wp2_with fail
  refine (bytes_f Hc63.out).mono ?_
  rw [ho]
  rintro e w66 ⟨rfl, F67⟩
  have h68 := (h65).call F67
  clear F67 h65
  simp only []
  go_wp2
  refine ⟨h68, ?_⟩
  refine drawn_reads (fuel := 0) [13, 14, 15] rfl (by kernel_rfl) (h68) ?_
  repeat (first | (refine rowK_step2 rfl rfl (fun K hK => ?_); go_wp2) | (refine rowK_step rfl (fun K hK => ?_); go_simp; refine hK _ ?_; clear hK K))
  refine rowK_nil ⟨fun w' hw' => ?_, ?_⟩
  · skip
    repeat (first | (refine rowWp_step2 rfl rfl (fun K hK => ?_); go_wp2) | (refine rowWp_step rfl (fun K hK => ?_); go_simp; refine hK _ ?_; clear hK K))
    exact rowWp_nil rfl
  refine drawn_end (ol := []) rfl (by kernel_rfl) ?_
  intro K hK
  go_wp2_with fail
  go_ret
  exact ⟨rfl, (h68).fr⟩
theorem fieldInverts_walk (a : List Int) (hla : a.length = 32) (ha : Byt a) : Calls Try.prog 9 #[.agg (ints .u8 a)] w fun e w' => e = .returned (.bool true) ∧ Fr [] w w' := by
  by_cases h : fromB a = 0
  · exact inverts_zero a hla ha (fromB a) _ _ rfl rfl rfl rfl (by rw [h, bytesF_0]; rfl) (inv_bytes0 h)
  · refine inverts_ne a hla ha (fromB a) _ _ rfl rfl rfl rfl ?_ (inv_bytes h)
    rw [beq_eq_false_iff_ne]
    intro e
    exact h (bytesF_inj.1 (e.trans bytesF_0.symm))

end
end Go.Proofs.Ytakhmmnklkckpaa
