/- FieldSquares: the walk (printed by gen_field.py). -/
import Derived.Test.YtakhmmnklkckpaaOwn
namespace Go.Proofs.Ytakhmmnklkckpaa
open Go.RowKit Go.Dr

section
variable {w : World}
theorem sq_named {c : List Int} {x y : Fp} (hy : evenOf x = y) (hc : Is c (x * x)) : Calls Try.prog 38 #[fe c] w fun e w' => ∃ c, e = .returned (.tuple #[fe c, .bool true]) ∧ Is c y ∧ Fr [] w w' := by
  have h := root_walk (w := w) _ _ hc
  rw [(root_sq x).1, (root_sq x).2, hy] at h; exact h
theorem even_byte {x : Fp} (h : x.val % 2 = 0) : ((el (bytesF x) 0).tmod 2 == 0) = true := by
  rw [el_bytesF0, Int.tmod_eq_emod_of_nonneg (by omega), beq_iff_eq]; omega
theorem odd_neg {x : Fp} (h : x.val % 2 = 1) : (-x).val % 2 = 0 ∧ bytesF (-x) ≠ bytesF x := by
  have h1 := val_neg_ne (x := x) (fun h0 => by rw [h0] at h; exact absurd h (by decide))
  unfold pN at h1
  exact ⟨by omega, fun h2 => by have h3 := congrArg Fin.val (bytesF_inj.1 h2); omega⟩
set_option maxRecDepth 100000 in
set_option maxHeartbeats 4000000 in
theorem squares_even (a : List Int) (hla : a.length = 32) (ha : Byt a) (hev : (fromB a).val % 2 = 0) (hy : evenOf (fromB a) = fromB a) : Calls Try.prog 7 #[.agg (ints .u8 a)] w fun e w' => e = .returned (.bool true) ∧ Fr [] w w' := by
  have Ba := Lib.hid ha
  clear ha
  have hb0 := even_byte hev
  go_enter Try.func7, Try.ntmps7
  go_wp2_with fail
  refine alive_any.mono ?_
  rintro e w1 ⟨rfl, F1⟩
  have h0 : Own w [(w.heap.size, .cells (ints .u8 (a)) 22)] w1 := (((Own.start w).allocN (.cells (ints .u8 (a)) 22) w.heap.size rfl)).call F1
  clear F1
  simp only []
  generalize w.heap.size = b1 at h0 ⊢
  obtain ⟨L2, hL2⟩ : ∃ L : List (Nat × Obj), L = [(b1, .cells (ints .u8 (a)) 22)] := ⟨_, rfl⟩
  rw [← hL2] at h0
  have HL2 := Lib.hid hL2
  clear hL2
  have s3 := h0
  rw [HL2.out] at s3
  have f4 := s3.nth 0 rfl
  clear s3
  go_wp2_with fail
  clear f4
  refine (of_b hla Ba.out).mono ?_
  rintro e w5 ⟨c7, rfl, k8, F6⟩
  have nc7 := k8.len
  have Hc7 := Lib.hid k8
  clear k8
  have s10 := h0
  rw [HL2.out] at s10
  have h9 : Own w [(b1, .cells (ints .u8 (a)) 22)] w5 := (s10).call F6
  clear F6
  simp only []
  clear s10 h0
  obtain ⟨L11, hL11⟩ : ∃ L : List (Nat × Obj), L = [(b1, .cells (ints .u8 (a)) 22)] := ⟨_, rfl⟩
  rw [← hL11] at h9
  have HL11 := Lib.hid hL11
  clear hL11
  go_wp2_with fail
  have s12 := h9
  rw [HL11.out] at s12
  refine (mul_f Hc7.out Hc7.out).mono ?_
  rintro e w14 ⟨c16, rfl, k17, F15⟩
  have nc16 := k17.len
  have Hc16 := Lib.hid k17
  clear k17
  have h18 : Own w [(w5.heap.size, .cells (ints .u64 c7) 28), (b1, .cells (ints .u8 (a)) 22)] w14 := ((s12.allocN (.cells (ints .u64 c7) 28) (w5.heap.size) (by simp))).call F15
  clear F15
  simp only []
  generalize w5.heap.size = b13 at h18 ⊢
  clear s12 h9
  obtain ⟨L19, hL19⟩ : ∃ L : List (Nat × Obj), L = [(b13, .cells (ints .u64 c7) 28), (b1, .cells (ints .u8 (a)) 22)] := ⟨_, rfl⟩
  rw [← hL19] at h18
  have HL19 := Lib.hid hL19
  clear hL19
  go_wp2_with fail
  refine (sq_named hy Hc16.out).mono ?_
  rintro e w20 ⟨c22, rfl, k23, F21⟩
  have nc22 := k23.len
  have Hc22 := Lib.hid k23
  clear k23
  have s25 := h18
  rw [HL19.out] at s25
  have h24 : Own w [(b13, .cells (ints .u64 c7) 28), (b1, .cells (ints .u8 (a)) 22)] w20 := (s25).call F21
  clear F21
  simp only []
  clear s25 h18
  obtain ⟨L26, hL26⟩ : ∃ L : List (Nat × Obj), L = [(b13, .cells (ints .u64 c7) 28), (b1, .cells (ints .u8 (a)) 22)] := ⟨_, rfl⟩
  rw [← hL26] at h24
  have HL26 := Lib.hid hL26
  clear hL26
  go_wp2_with fail
  have s27 := h24
  rw [HL26.out] at s27
  refine (bytes_f Hc22.out).mono ?_
  rintro e w29 ⟨rfl, F30⟩
  have h31 : Own w [(w20.heap.size, .cells (ints .u64 c22) 28), (b13, .cells (ints .u64 c7) 28), (b1, .cells (ints .u8 (a)) 22)] w29 := ((s27.allocN (.cells (ints .u64 c22) 28) (w20.heap.size) (by simp))).call F30
  clear F30
  simp only []
  generalize w20.heap.size = b28 at h31 ⊢
  clear s27 h24
  obtain ⟨L32, hL32⟩ : ∃ L : List (Nat × Obj), L = [(b28, .cells (ints .u64 c22) 28), (b13, .cells (ints .u64 c7) 28), (b1, .cells (ints .u8 (a)) 22)] := ⟨_, rfl⟩
  rw [← hL32] at h31
  have HL32 := Lib.hid hL32
  clear hL32
  go_wp2_with fail
  have s33 := h31
  rw [HL32.out] at s33
  refine Own.named (Q := fun X => Code.wp _ _ _ _ X) (show Own w [(w29.heap.size, .cells (ints .u8 (bytesF (fromB a))) 22), (b28, .cells (ints .u64 c22) 28), (b13, .cells (ints .u64 c7) 28), (b1, .cells (ints .u8 (a)) 22)] _ from (s33.allocN (.cells (ints .u8 (bytesF (fromB a))) 22) (w29.heap.size) (by simp))) ?_
  intro V36 h35
  generalize w29.heap.size = b34 at h35 ⊢
  clear s33 h31
  obtain ⟨L37, hL37⟩ : ∃ L : List (Nat × Obj), L = [(b34, .cells (ints .u8 (bytesF (fromB a))) 22), (b28, .cells (ints .u64 c22) 28), (b13, .cells (ints .u64 c7) 28), (b1, .cells (ints .u8 (a)) 22)] := ⟨_, rfl⟩
  rw [← hL37] at h35
  have HL37 := Lib.hid hL37
  clear hL37
  refine drawn_begin 21 (Own w L37) (by kernel_rfl) ?_
  refine drawn_reads (fuel := 19) [0, 1] rfl (by kernel_rfl) (h35.drew) ?_
  repeat (first | (refine rowK_step2 rfl rfl (fun K hK => ?_); go_wp2) | (refine rowK_step rfl (fun K hK => ?_); go_simp; refine hK _ ?_; clear hK K))
  refine rowK_nil ⟨fun w' hw' => ?_, ?_⟩
  · skip
    repeat (first | (refine rowWp_step2 rfl rfl (fun K hK => ?_); go_wp2) | (refine rowWp_step rfl (fun K hK => ?_); go_simp; refine hK _ ?_; clear hK K))
    exact rowWp_nil rfl
  have s38 := h35.drew
  rw [HL37.out] at s38
  have f39 := s38.nth 0 rfl
  have f40 := s38.nth 2 rfl
  clear s38
  refine drawn_reads (fuel := 11) [2, 3, 4, 5, 6, 7, 8, 9] rfl (by kernel_rfl) (h35.drew) ?_
  repeat (first | (refine rowK_step2 rfl rfl (fun K hK => ?_); go_wp2) | (refine rowK_step rfl (fun K hK => ?_); go_simp; refine hK _ ?_; clear hK K))
  refine rowK_nil ⟨fun w' hw' => ?_, ?_⟩
  · rw [HL37.out] at hw'
    have g41 := hw'.nth 0 rfl
    have g42 := hw'.nth 2 rfl
    clear f39 f40
    repeat (first | (refine rowWp_step2 rfl rfl (fun K hK => ?_); go_wp2) | (refine rowWp_step rfl (fun K hK => ?_); go_simp; refine hK _ ?_; clear hK K))
    exact rowWp_nil rfl
  clear f39 f40
  refine drawn_next 10 (fuel := 10) rfl (by kernel_rfl) ?_
  intro K hK
  go_wp2_with fail
  refine (bytes_f Hc7.out).mono ?_
  rintro e w43 ⟨rfl, F44⟩
  have h45 := (h35.drew).call F44
  clear F44 h35
  simp only []
  go_wp2
  refine ⟨h45, ?_⟩
  have s46 := h45
  rw [HL37.out] at s46
  have f47 := s46.nth 0 rfl
  have f48 := s46.nth 2 rfl
  clear s46
  refine drawn_reads (fuel := 0) [11, 12, 13, 14, 15, 16, 17, 18, 19, 20] rfl (by kernel_rfl) (h45) ?_
  repeat (first | (refine rowK_step2 rfl rfl (fun K hK => ?_); go_wp2) | (refine rowK_step rfl (fun K hK => ?_); go_simp; refine hK _ ?_; clear hK K))
  refine rowK_nil ⟨fun w' hw' => ?_, ?_⟩
  · rw [HL37.out] at hw'
    have g49 := hw'.nth 0 rfl
    have g50 := hw'.nth 2 rfl
    clear f47 f48
    repeat (first | (refine rowWp_step2 rfl rfl (fun K hK => ?_); go_wp2) | (refine rowWp_step rfl (fun K hK => ?_); go_simp; refine hK _ ?_; clear hK K))
    exact rowWp_nil rfl
  clear f47 f48
  refine drawn_end (ol := []) rfl (by kernel_rfl) ?_
  intro K hK
  go_wp2_with fail
  go_ret
  exact ⟨rfl, (h45).fr⟩
set_option maxRecDepth 100000 in
set_option maxHeartbeats 4000000 in
theorem squares_odd (a : List Int) (hla : a.length = 32) (ha : Byt a) (hev : (-fromB a).val % 2 = 0) (hne : ¬ bytesF (-fromB a) = bytesF (fromB a)) (hy : evenOf (fromB a) = -fromB a) : Calls Try.prog 7 #[.agg (ints .u8 a)] w fun e w' => e = .returned (.bool true) ∧ Fr [] w w' := by
  have Ba := Lib.hid ha
  clear ha
  have hb0 := even_byte hev
  go_enter Try.func7, Try.ntmps7
  go_wp2_with fail
  refine alive_any.mono ?_
  rintro e w1 ⟨rfl, F1⟩
  have h0 : Own w [(w.heap.size, .cells (ints .u8 (a)) 22)] w1 := (((Own.start w).allocN (.cells (ints .u8 (a)) 22) w.heap.size rfl)).call F1
  clear F1
  simp only []
  generalize w.heap.size = b1 at h0 ⊢
  obtain ⟨L2, hL2⟩ : ∃ L : List (Nat × Obj), L = [(b1, .cells (ints .u8 (a)) 22)] := ⟨_, rfl⟩
  rw [← hL2] at h0
  have HL2 := Lib.hid hL2
  clear hL2
  have s3 := h0
  rw [HL2.out] at s3
  have f4 := s3.nth 0 rfl
  clear s3
  go_wp2_with fail
  clear f4
  refine (of_b hla Ba.out).mono ?_
  rintro e w5 ⟨c7, rfl, k8, F6⟩
  have nc7 := k8.len
  have Hc7 := Lib.hid k8
  clear k8
  have s10 := h0
  rw [HL2.out] at s10
  have h9 : Own w [(b1, .cells (ints .u8 (a)) 22)] w5 := (s10).call F6
  clear F6
  simp only []
  clear s10 h0
  obtain ⟨L11, hL11⟩ : ∃ L : List (Nat × Obj), L = [(b1, .cells (ints .u8 (a)) 22)] := ⟨_, rfl⟩
  rw [← hL11] at h9
  have HL11 := Lib.hid hL11
  clear hL11
  go_wp2_with fail
  have s12 := h9
  rw [HL11.out] at s12
  refine (mul_f Hc7.out Hc7.out).mono ?_
  rintro e w14 ⟨c16, rfl, k17, F15⟩
  have nc16 := k17.len
  have Hc16 := Lib.hid k17
  clear k17
  have h18 : Own w [(w5.heap.size, .cells (ints .u64 c7) 28), (b1, .cells (ints .u8 (a)) 22)] w14 := ((s12.allocN (.cells (ints .u64 c7) 28) (w5.heap.size) (by simp))).call F15
  clear F15
  simp only []
  generalize w5.heap.size = b13 at h18 ⊢
  clear s12 h9
  obtain ⟨L19, hL19⟩ : ∃ L : List (Nat × Obj), L = [(b13, .cells (ints .u64 c7) 28), (b1, .cells (ints .u8 (a)) 22)] := ⟨_, rfl⟩
  rw [← hL19] at h18
  have HL19 := Lib.hid hL19
  clear hL19
  go_wp2_with fail
  refine (sq_named hy Hc16.out).mono ?_
  rintro e w20 ⟨c22, rfl, k23, F21⟩
  have nc22 := k23.len
  have Hc22 := Lib.hid k23
  clear k23
  have s25 := h18
  rw [HL19.out] at s25
  have h24 : Own w [(b13, .cells (ints .u64 c7) 28), (b1, .cells (ints .u8 (a)) 22)] w20 := (s25).call F21
  clear F21
  simp only []
  clear s25 h18
  obtain ⟨L26, hL26⟩ : ∃ L : List (Nat × Obj), L = [(b13, .cells (ints .u64 c7) 28), (b1, .cells (ints .u8 (a)) 22)] := ⟨_, rfl⟩
  rw [← hL26] at h24
  have HL26 := Lib.hid hL26
  clear hL26
  go_wp2_with fail
  have s27 := h24
  rw [HL26.out] at s27
  refine (bytes_f Hc22.out).mono ?_
  rintro e w29 ⟨rfl, F30⟩
  have h31 : Own w [(w20.heap.size, .cells (ints .u64 c22) 28), (b13, .cells (ints .u64 c7) 28), (b1, .cells (ints .u8 (a)) 22)] w29 := ((s27.allocN (.cells (ints .u64 c22) 28) (w20.heap.size) (by simp))).call F30
  clear F30
  simp only []
  generalize w20.heap.size = b28 at h31 ⊢
  clear s27 h24
  obtain ⟨L32, hL32⟩ : ∃ L : List (Nat × Obj), L = [(b28, .cells (ints .u64 c22) 28), (b13, .cells (ints .u64 c7) 28), (b1, .cells (ints .u8 (a)) 22)] := ⟨_, rfl⟩
  rw [← hL32] at h31
  have HL32 := Lib.hid hL32
  clear hL32
  go_wp2_with fail
  have s33 := h31
  rw [HL32.out] at s33
  refine Own.named (Q := fun X => Code.wp _ _ _ _ X) (show Own w [(w29.heap.size, .cells (ints .u8 (bytesF (-fromB a))) 22), (b28, .cells (ints .u64 c22) 28), (b13, .cells (ints .u64 c7) 28), (b1, .cells (ints .u8 (a)) 22)] _ from (s33.allocN (.cells (ints .u8 (bytesF (-fromB a))) 22) (w29.heap.size) (by simp))) ?_
  intro V36 h35
  generalize w29.heap.size = b34 at h35 ⊢
  clear s33 h31
  obtain ⟨L37, hL37⟩ : ∃ L : List (Nat × Obj), L = [(b34, .cells (ints .u8 (bytesF (-fromB a))) 22), (b28, .cells (ints .u64 c22) 28), (b13, .cells (ints .u64 c7) 28), (b1, .cells (ints .u8 (a)) 22)] := ⟨_, rfl⟩
  rw [← hL37] at h35
  have HL37 := Lib.hid hL37
  clear hL37
  refine drawn_begin 21 (Own w L37) (by kernel_rfl) ?_
  refine drawn_reads (fuel := 19) [0, 1] rfl (by kernel_rfl) (h35.drew) ?_
  repeat (first | (refine rowK_step2 rfl rfl (fun K hK => ?_); go_wp2) | (refine rowK_step rfl (fun K hK => ?_); go_simp; refine hK _ ?_; clear hK K))
  refine rowK_nil ⟨fun w' hw' => ?_, ?_⟩
  · skip
    repeat (first | (refine rowWp_step2 rfl rfl (fun K hK => ?_); go_wp2) | (refine rowWp_step rfl (fun K hK => ?_); go_simp; refine hK _ ?_; clear hK K))
    exact rowWp_nil rfl
  have s38 := h35.drew
  rw [HL37.out] at s38
  have f39 := s38.nth 0 rfl
  have f40 := s38.nth 2 rfl
  clear s38
  refine drawn_reads (fuel := 11) [2, 3, 4, 5, 6, 7, 8, 9] rfl (by kernel_rfl) (h35.drew) ?_
  repeat (first | (refine rowK_step2 rfl rfl (fun K hK => ?_); go_wp2) | (refine rowK_step rfl (fun K hK => ?_); go_simp; refine hK _ ?_; clear hK K))
  refine rowK_nil ⟨fun w' hw' => ?_, ?_⟩
  · rw [HL37.out] at hw'
    have g41 := hw'.nth 0 rfl
    have g42 := hw'.nth 2 rfl
    clear f39 f40
    repeat (first | (refine rowWp_step2 rfl rfl (fun K hK => ?_); go_wp2) | (refine rowWp_step rfl (fun K hK => ?_); go_simp; refine hK _ ?_; clear hK K))
    exact rowWp_nil rfl
  clear f39 f40
  refine drawn_next 10 (fuel := 10) rfl (by kernel_rfl) ?_
  intro K hK
  go_wp2_with fail
  refine (bytes_f Hc7.out).mono ?_
  rintro e w43 ⟨rfl, F44⟩
  have h45 := (h35.drew).call F44
  clear F44 h35
  simp only []
  go_wp2
  refine ⟨h45, ?_⟩
  have s46 := h45
  rw [HL37.out] at s46
  have f47 := s46.nth 0 rfl
  have f48 := s46.nth 2 rfl
  clear s46
  refine drawn_reads (fuel := 6) [11, 12, 13, 14] rfl (by kernel_rfl) (h45) ?_
  repeat (first | (refine rowK_step2 rfl rfl (fun K hK => ?_); go_wp2) | (refine rowK_step rfl (fun K hK => ?_); go_simp; refine hK _ ?_; clear hK K))
  refine rowK_nil ⟨fun w' hw' => ?_, ?_⟩
  · rw [HL37.out] at hw'
    have g49 := hw'.nth 0 rfl
    have g50 := hw'.nth 2 rfl
    clear f47 f48
    repeat (first | (refine rowWp_step2 rfl rfl (fun K hK => ?_); go_wp2) | (refine rowWp_step rfl (fun K hK => ?_); go_simp; refine hK _ ?_; clear hK K))
    exact rowWp_nil rfl
  clear f47 f48
  refine drawn_next 15 (fuel := 5) rfl (by kernel_rfl) ?_
  intro K hK
  go_wp2_with fail
  refine (neg_f Hc7.out).mono ?_
  rintro e w51 ⟨c53, rfl, k54, F52⟩
  have nc53 := k54.len
  have Hc53 := Lib.hid k54
  clear k54
  have h55 := (h45).call F52
  clear F52 h45
  simp only []
  go_wp2
  refine ⟨h55, ?_⟩
  refine drawn_next 16 (fuel := 4) rfl (by kernel_rfl) ?_
  intro K hK
  go_wp2_with fail
  refine (bytes_f Hc53.out).mono ?_
  rintro e w56 ⟨rfl, F57⟩
  have h58 := (h55).call F57
  clear F57 h55
  simp only []
  go_wp2
  refine ⟨h58, ?_⟩
  refine drawn_reads (fuel := 0) [17, 18, 19, 20] rfl (by kernel_rfl) (h58) ?_
  repeat (first | (refine rowK_step2 rfl rfl (fun K hK => ?_); go_wp2) | (refine rowK_step rfl (fun K hK => ?_); go_simp; refine hK _ ?_; clear hK K))
  refine rowK_nil ⟨fun w' hw' => ?_, ?_⟩
  · skip
    repeat (first | (refine rowWp_step2 rfl rfl (fun K hK => ?_); go_wp2) | (refine rowWp_step rfl (fun K hK => ?_); go_simp; refine hK _ ?_; clear hK K))
    exact rowWp_nil rfl
  refine drawn_end (ol := []) rfl (by kernel_rfl) ?_
  intro K hK
  go_wp2_with fail
  go_ret
  exact ⟨rfl, (h58).fr⟩
theorem fieldSquares_walk (a : List Int) (hla : a.length = 32) (ha : Byt a) : Calls Try.prog 7 #[.agg (ints .u8 a)] w fun e w' => e = .returned (.bool true) ∧ Fr [] w w' := by
  by_cases h : (fromB a).val % 2 = 1
  · have h1 := odd_neg h
    exact squares_odd a hla ha h1.1 h1.2 (by rw [evenOf, oddF, decide_eq_true h, if_pos rfl])
  · exact squares_even a hla ha (by omega) (by rw [evenOf, oddF, decide_eq_false h, if_neg Bool.false_ne_true])

end
end Go.Proofs.Ytakhmmnklkckpaa
