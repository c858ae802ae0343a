/- Which bytes are a point: the code's Decode, where there is none. Which bytes are a point: the code's Decode, where x is even. Which bytes are a point: the code's Decode, where x is odd. -/
import Derived.Test.YtakhmmnklkckpaaZq
import Derived.Test.YtakhmmnklkckpaaZd
namespace Go.Proofs.Ytakhmmnklkckpaa
open Go.RowKit Go.Dr

section
variable {w : World}
set_option maxRecDepth 100000 in
set_option maxHeartbeats 8000000 in
theorem cdec_no (b C : List Int) (y r : Fp) (hl : b.length = 32) (hC : C = lowC b) (lC : C.length = 32) (bC : Byt C) (hy : fromB C = y) (hr : r = rootF (((y * y) - 1) * (inv ((dE * (y * y)) + 1)))) (ro : Bool) (hb : ¬ bytesF y = C) : Calls Try.prog 80 #[.agg (ints .u8 b)] w fun e w' => ∃ v ok, e = .returned (.tuple #[v, .bool ok]) ∧ DecV b C y r ro v ok ∧ Fr [] w w' := by
  have Hy2 : Hid (fromB (lowC b) = y) := Lib.hid (by rw [← hC]; exact hy)
  have lC2 : (lowC b).length = 32 := by rw [← hC]; exact lC
  have HB2 : Hid (Byt (lowC b)) := Lib.hid (by rw [← hC]; exact bC)
  have HC := Lib.hid hC
  have HB := Lib.hid bC
  have Hy := Lib.hid hy
  have Hr := Lib.hid hr
  clear hC bC hy hr
  have HZ5 := Lib.hid is_zs5
  go_enter Try.func80, Try.ntmps80
  go_wp2_with fail
  refine (of_n Hy2.out lC2 HB2.out).mono ?_
  rintro e w3 ⟨c5, rfl, k6, F4⟩
  have nc5 := k6.len
  have Hc5 := Lib.hid k6
  clear k6
  have h7 : OwB w [(w.heap.size + 1, .cells (ptC (zs 5) (zs 5) (zs 5) (zs 5) false) 49), (w.heap.size, .cells (ints .u8 (lowC b)) 22)] w3 := ((((OwB.start w).allocN (.cells (ints .u8 (lowC b)) 22) w.heap.size rfl).allocN (.cells (ptC (zs 5) (zs 5) (zs 5) (zs 5) false) 49) (w.heap.size + 1) (by simp))).call F4
  clear F4
  simp only []
  generalize w.heap.size + 1 = bk2 at h7 ⊢
  generalize w.heap.size = bk1 at h7 ⊢
  rw [← HC.out] at h7
  obtain ⟨L8, hL8⟩ : ∃ L : List (Nat × Obj), L = [(bk2, .cells (ptC (zs 5) (zs 5) (zs 5) (zs 5) false) 49), (bk1, .cells (ints .u8 (C)) 22)] := ⟨_, rfl⟩
  rw [← hL8] at h7
  have HL8 := Lib.hid hL8
  clear hL8
  go_wp2_with fail
  have s9 := h7
  rw [HL8.out] at s9
  refine OwB.named (Q := fun X => Code.wp _ _ _ _ X) (show OwB w [(w3.heap.size, .cells (ints .u64 c5) 28), (bk2, .cells (ptC (zs 5) (zs 5) (zs 5) (zs 5) false) 49), (bk1, .cells (ints .u8 (C)) 22)] _ from (s9.allocN (.cells (ints .u64 c5) 28) (w3.heap.size) (by simp))) ?_
  intro V12 h11
  generalize w3.heap.size = bk10 at h11 ⊢
  clear s9 h7
  obtain ⟨L13, hL13⟩ : ∃ L : List (Nat × Obj), L = [(bk10, .cells (ints .u64 c5) 28), (bk2, .cells (ptC (zs 5) (zs 5) (zs 5) (zs 5) false) 49), (bk1, .cells (ints .u8 (C)) 22)] := ⟨_, rfl⟩
  rw [← hL13] at h11
  have HL13 := Lib.hid hL13
  clear hL13
  refine drawn_begin 4 (OwB w L13) (by kernel_rfl) ?_
  refine OwB.named (Q := fun X => Go.Dr.wpAnyS Try.prog .any _ _ _ _ _ _ _ X) (h11.drew) ?_
  intro V14 h15
  clear h11
  have s16 := h15
  rw [HL13.out] at s16
  have f17 := s16.nth 0 rfl
  have f18 := s16.nth 2 rfl
  clear s16
  refine drawn_reads (fuel := 2) [0, 2] rfl (by kernel_rfl) (h15) ?_
  repeat (first | (refine rowK_step2 rfl rfl (fun K hK => ?_); go_wp2) | (refine rowK_step rfl (fun K hK => ?_); go_simp; refine hK _ ?_; clear hK K))
  refine rowK_nil ⟨fun w' hw' => ?_, ?_⟩
  · rw [HL13.out] at hw'
    have g19 := hw'.nth 0 rfl
    have g20 := hw'.nth 2 rfl
    clear f17 f18
    repeat (first | (refine rowWp_step2 rfl rfl (fun K hK => ?_); go_wp2) | (refine rowWp_step rfl (fun K hK => ?_); go_simp; refine hK _ ?_; clear hK K))
    exact rowWp_nil rfl
  clear f17 f18
  refine drawn_next 1 (fuel := 1) rfl (by kernel_rfl) ?_
  intro K hK
  go_wp2_with fail
  refine (bytes_f Hc5.out).mono ?_
  rintro e w21 ⟨rfl, F22⟩
  have h23 := (h15).call F22
  clear F22 h15
  simp only []
  go_wp2
  refine ⟨h23, ?_⟩
  refine drawn_reads (fuel := 0) [3] rfl (by kernel_rfl) (h23) ?_
  repeat (first | (refine rowK_step2 rfl rfl (fun K hK => ?_); go_wp2) | (refine rowK_step rfl (fun K hK => ?_); go_simp; refine hK _ ?_; clear hK K))
  refine rowK_nil ⟨fun w' hw' => ?_, ?_⟩
  · skip
    repeat (first | (refine rowWp_step2 rfl rfl (fun K hK => ?_); go_wp2) | (refine rowWp_step rfl (fun K hK => ?_); go_simp; refine hK _ ?_; clear hK K))
    exact rowWp_nil rfl
  refine drawn_end (ol := []) rfl (by kernel_rfl) ?_
  intro K hK
  have s24 := h23
  rw [HL13.out] at s24
  have f25 := s24.nth 1 rfl
  have t26 := s24.lt 1 rfl
  clear s24
  have s27 := h23
  rw [HL13.out] at s27
  go_wp2_with fail
  clear f25 t26
  refine OwB.named (Q := fun X => bodyPost _ _ _ _ _ X) (show OwB w [(bk10, .cells (ints .u64 c5) 28), (bk2, .cells (ptC (zs 5) (zs 5) (zs 5) (zs 5) false) 49), (bk1, .cells (ints .u8 (C)) 22)] _ from (s27.set 1 (.cells (ptC (zs 5) (zs 5) (zs 5) (zs 5) false) 49) rfl)) ?_
  intro V29 h28
  clear s27 h23
  obtain ⟨L30, hL30⟩ : ∃ L : List (Nat × Obj), L = [(bk10, .cells (ints .u64 c5) 28), (bk2, .cells (ptC (zs 5) (zs 5) (zs 5) (zs 5) false) 49), (bk1, .cells (ints .u8 (C)) 22)] := ⟨_, rfl⟩
  rw [← hL30] at h28
  have HL30 := Lib.hid hL30
  clear hL30
  have s31 := h28
  rw [HL30.out] at s31
  refine ret_cell_tmp rfl rfl rfl ?_
  refine cellRet_of (s31.nth 1 rfl) (by rw [size_ptC len_zs5 len_zs5 len_zs5 len_zs5]; kernel_rfl) ?_
  exact ⟨_, _, rfl, .inl ⟨Or.inl hb, rfl, rfl⟩, s31.fr⟩

set_option maxRecDepth 100000 in
set_option maxHeartbeats 8000000 in
theorem cdec_none (b C : List Int) (y r : Fp) (hl : b.length = 32) (hC : C = lowC b) (lC : C.length = 32) (bC : Byt C) (hy : fromB C = y) (hr : r = rootF (((y * y) - 1) * (inv ((dE * (y * y)) + 1)))) (ho : false = rootOk (((y * y) - 1) * (inv ((dE * (y * y)) + 1)))) (hb : bytesF y = C) : Calls Try.prog 80 #[.agg (ints .u8 b)] w fun e w' => ∃ v ok, e = .returned (.tuple #[v, .bool ok]) ∧ DecV b C y r false v ok ∧ Fr [] w w' := by
  have Hy2 : Hid (fromB (lowC b) = y) := Lib.hid (by rw [← hC]; exact hy)
  have lC2 : (lowC b).length = 32 := by rw [← hC]; exact lC
  have HB2 : Hid (Byt (lowC b)) := Lib.hid (by rw [← hC]; exact bC)
  have HC := Lib.hid hC
  have HB := Lib.hid bC
  have Hy := Lib.hid hy
  have Hr := Lib.hid hr
  clear hC bC hy hr
  have HZ5 := Lib.hid is_zs5
  have Ho := Lib.hid ho
  clear ho
  go_enter Try.func80, Try.ntmps80
  go_wp2_with fail
  refine (of_n Hy2.out lC2 HB2.out).mono ?_
  rintro e w3 ⟨c5, rfl, k6, F4⟩
  have nc5 := k6.len
  have Hc5 := Lib.hid k6
  clear k6
  have h7 : OwB w [(w.heap.size + 1, .cells (ptC (zs 5) (zs 5) (zs 5) (zs 5) false) 49), (w.heap.size, .cells (ints .u8 (lowC b)) 22)] w3 := ((((OwB.start w).allocN (.cells (ints .u8 (lowC b)) 22) w.heap.size rfl).allocN (.cells (ptC (zs 5) (zs 5) (zs 5) (zs 5) false) 49) (w.heap.size + 1) (by simp))).call F4
  clear F4
  simp only []
  generalize w.heap.size + 1 = bk2 at h7 ⊢
  generalize w.heap.size = bk1 at h7 ⊢
  rw [← HC.out] at h7
  obtain ⟨L8, hL8⟩ : ∃ L : List (Nat × Obj), L = [(bk2, .cells (ptC (zs 5) (zs 5) (zs 5) (zs 5) false) 49), (bk1, .cells (ints .u8 (C)) 22)] := ⟨_, rfl⟩
  rw [← hL8] at h7
  have HL8 := Lib.hid hL8
  clear hL8
  go_wp2_with fail
  have s9 := h7
  rw [HL8.out] at s9
  refine OwB.named (Q := fun X => Code.wp _ _ _ _ X) (show OwB w [(w3.heap.size, .cells (ints .u64 c5) 28), (bk2, .cells (ptC (zs 5) (zs 5) (zs 5) (zs 5) false) 49), (bk1, .cells (ints .u8 (C)) 22)] _ from (s9.allocN (.cells (ints .u64 c5) 28) (w3.heap.size) (by simp))) ?_
  intro V12 h11
  generalize w3.heap.size = bk10 at h11 ⊢
  clear s9 h7
  obtain ⟨L13, hL13⟩ : ∃ L : List (Nat × Obj), L = [(bk10, .cells (ints .u64 c5) 28), (bk2, .cells (ptC (zs 5) (zs 5) (zs 5) (zs 5) false) 49), (bk1, .cells (ints .u8 (C)) 22)] := ⟨_, rfl⟩
  rw [← hL13] at h11
  have HL13 := Lib.hid hL13
  clear hL13
  refine drawn_begin 4 (OwB w L13) (by kernel_rfl) ?_
  refine OwB.named (Q := fun X => Go.Dr.wpAnyS Try.prog .any _ _ _ _ _ _ _ X) (h11.drew) ?_
  intro V14 h15
  clear h11
  have s16 := h15
  rw [HL13.out] at s16
  have f17 := s16.nth 0 rfl
  have f18 := s16.nth 2 rfl
  clear s16
  refine drawn_reads (fuel := 2) [0, 2] rfl (by kernel_rfl) (h15) ?_
  repeat (first | (refine rowK_step2 rfl rfl (fun K hK => ?_); go_wp2) | (refine rowK_step rfl (fun K hK => ?_); go_simp; refine hK _ ?_; clear hK K))
  refine rowK_nil ⟨fun w' hw' => ?_, ?_⟩
  · rw [HL13.out] at hw'
    have g19 := hw'.nth 0 rfl
    have g20 := hw'.nth 2 rfl
    clear f17 f18
    repeat (first | (refine rowWp_step2 rfl rfl (fun K hK => ?_); go_wp2) | (refine rowWp_step rfl (fun K hK => ?_); go_simp; refine hK _ ?_; clear hK K))
    exact rowWp_nil rfl
  clear f17 f18
  refine drawn_next 1 (fuel := 1) rfl (by kernel_rfl) ?_
  intro K hK
  go_wp2_with fail
  refine (bytes_f Hc5.out).mono ?_
  rintro e w21 ⟨rfl, F22⟩
  have h23 := (h15).call F22
  clear F22 h15
  simp only []
  go_wp2
  refine ⟨h23, ?_⟩
  refine drawn_reads (fuel := 0) [3] rfl (by kernel_rfl) (h23) ?_
  repeat (first | (refine rowK_step2 rfl rfl (fun K hK => ?_); go_wp2) | (refine rowK_step rfl (fun K hK => ?_); go_simp; refine hK _ ?_; clear hK K))
  refine rowK_nil ⟨fun w' hw' => ?_, ?_⟩
  · skip
    repeat (first | (refine rowWp_step2 rfl rfl (fun K hK => ?_); go_wp2) | (refine rowWp_step rfl (fun K hK => ?_); go_simp; refine hK _ ?_; clear hK K))
    exact rowWp_nil rfl
  refine drawn_end (ol := []) rfl (by kernel_rfl) ?_
  intro K hK
  have s24 := h23
  rw [HL13.out] at s24
  have f25 := s24.nth 0 rfl
  have t26 := s24.lt 0 rfl
  clear s24
  go_wp2_with fail
  clear f25 t26
  refine (mul_f Hc5.out Hc5.out).mono ?_
  rintro e w27 ⟨c29, rfl, k30, F28⟩
  have nc29 := k30.len
  have Hc29 := Lib.hid k30
  clear k30
  have s32 := h23
  rw [HL13.out] at s32
  have h31 : OwB w [(bk10, .cells (ints .u64 c5) 28), (bk2, .cells (ptC (zs 5) (zs 5) (zs 5) (zs 5) false) 49), (bk1, .cells (ints .u8 (C)) 22)] w27 := (s32).call F28
  clear F28
  simp only []
  clear s32 h23
  obtain ⟨L33, hL33⟩ : ∃ L : List (Nat × Obj), L = [(bk10, .cells (ints .u64 c5) 28), (bk2, .cells (ptC (zs 5) (zs 5) (zs 5) (zs 5) false) 49), (bk1, .cells (ints .u8 (C)) 22)] := ⟨_, rfl⟩
  rw [← hL33] at h31
  have HL33 := Lib.hid hL33
  clear hL33
  go_wp2_with fail
  have s34 := h31
  rw [HL33.out] at s34
  refine OwB.named (Q := fun X => Code.wp _ _ _ _ X) (show OwB w [(w27.heap.size, .cells (ints .u64 c29) 28), (bk10, .cells (ints .u64 c5) 28), (bk2, .cells (ptC (zs 5) (zs 5) (zs 5) (zs 5) false) 49), (bk1, .cells (ints .u8 (C)) 22)] _ from (s34.allocN (.cells (ints .u64 c29) 28) (w27.heap.size) (by simp))) ?_
  intro V37 h36
  generalize w27.heap.size = bk35 at h36 ⊢
  clear s34 h31
  obtain ⟨L38, hL38⟩ : ∃ L : List (Nat × Obj), L = [(bk35, .cells (ints .u64 c29) 28), (bk10, .cells (ints .u64 c5) 28), (bk2, .cells (ptC (zs 5) (zs 5) (zs 5) (zs 5) false) 49), (bk1, .cells (ints .u8 (C)) 22)] := ⟨_, rfl⟩
  rw [← hL38] at h36
  have HL38 := Lib.hid hL38
  clear hL38
  refine drawn_begin 11 (OwB w L38) (by kernel_rfl) ?_
  refine OwB.named (Q := fun X => Go.Dr.wpAnyS Try.prog .any _ _ _ _ _ _ _ X) (h36.drew) ?_
  intro V39 h40
  clear h36
  have s41 := h40
  rw [HL38.out] at s41
  have f42 := s41.nth 0 rfl
  clear s41
  refine drawn_reads (fuel := 10) [0, 4] rfl (by kernel_rfl) (h40) ?_
  repeat (first | (refine rowK_step2 rfl rfl (fun K hK => ?_); go_wp2) | (refine rowK_step rfl (fun K hK => ?_); go_simp; refine hK _ ?_; clear hK K))
  refine rowK_nil ⟨fun w' hw' => ?_, ?_⟩
  · rw [HL38.out] at hw'
    have g43 := hw'.nth 0 rfl
    clear f42
    repeat (first | (refine rowWp_step2 rfl rfl (fun K hK => ?_); go_wp2) | (refine rowWp_step rfl (fun K hK => ?_); go_simp; refine hK _ ?_; clear hK K))
    exact rowWp_nil rfl
  clear f42
  obtain ⟨p, hp⟩ : ∃ p : Par, p = ⟨[(1, 28, fun v => ∃ lq, v = fe lq ∧ Is lq (1)), (2, 29, fun v => ∃ lq, v = fe lq ∧ Is lq (((y * y) - 1))), (3, 30, fun v => ∃ lq, v = fe lq ∧ Is lq (dE)), (5, 32, fun v => ∃ lq, v = fe lq ∧ Is lq ((dE * (y * y)))), (6, 33, fun v => ∃ lq, v = fe lq ∧ Is lq (1)), (7, 34, fun v => ∃ lq, v = fe lq ∧ Is lq (((dE * (y * y)) + 1))), (8, 35, fun v => ∃ lq, v = fe lq ∧ Is lq ((inv ((dE * (y * y)) + 1)))), (9, 36, fun v => ∃ lq, v = fe lq ∧ Is lq ((((y * y) - 1) * (inv ((dE * (y * y)) + 1)))))], [(10, 7, .cells (ints .u64 (List.replicate 5 0)) 28)], [0, 4]⟩ := ⟨_, rfl⟩
  have ok : p.ok := by rw [hp]; exact ⟨(by decide : [1, 2, 3, 5, 6, 7, 8, 9, 10].Nodup), (by decide : [28, 29, 30, 32, 33, 34, 35, 36, 7].Nodup)⟩
  refine drawn_inv (rest := 1) [28, 29, 30, 32, 33, 34, 35, 36, 7] (fun L s w => p.Inv V39 L s w) (fun _ => undef) 9 (by kernel_rfl) (fun L s w h => ?_) (by kernel_rfl) ?_ ?_ ?_
  · exact h40.call h.fr
  · refine Par.Inv.start ?_ ?_ ?_ <;> rw [hp] <;> intro i hi <;> simp at hi
    · rcases hi with rfl | rfl <;> rfl
    · rcases hi with rfl | rfl | rfl | rfl | rfl | rfl | rfl | rfl <;> rfl
    · subst hi; rfl
  · intro i o L s w ho hi hL hd h K hK
    rcases (show i = 0 ∨ i = 1 ∨ i = 2 ∨ i = 3 ∨ i = 4 ∨ i = 5 ∨ i = 6 ∨ i = 7 ∨ i = 8 ∨ i = 9 ∨ i = 10 by omega) with rfl | rfl | rfl | rfl | rfl | rfl | rfl | rfl | rfl | rfl | rfl
    · rw [h.row 0 (by rw [hp]; simp)] at hL; cases hL
    · injection (show some _ = some o from ho) with ho; subst ho
      simp only [fill]
      go_wp2_with fail
      refine (one_f).mono ?_
      rintro e w2 ⟨lq, rfl, hc, F⟩
      simp only []
      go_wp2
      exact ⟨_, by kernel_rfl, h.called ok (1, 28, fun v => ∃ lq, v = fe lq ∧ Is lq (1)) (by rw [hp]; simp) F ⟨lq, rfl, hc⟩⟩
    · injection (show some _ = some o from ho) with ho; subst ho
      have l28 : L 1 = true := after_on hd (by kernel_rfl)
      obtain ⟨d28, e28, k28⟩ := h.call (1, 28, fun v => ∃ lq, v = fe lq ∧ Is lq (1)) (by rw [hp]; simp) l28
      have K28 := Lib.hid k28
      have ct : Calls Try.prog 32 #[fe c29, s 28] w (fun e w' => ∃ lq, e = .returned (fe lq) ∧ Is lq (((y * y) - 1)) ∧ Fr [] w w') := by
        simp only [] at e28
        rw [e28]
        exact sub_f Hc29.out K28.out
      clear e28 l28 k28
      simp only [fill]
      go_wp2_with fail
      refine (ct).mono ?_
      rintro e w2 ⟨lq, rfl, hc, F⟩
      simp only []
      go_wp2
      exact ⟨_, by kernel_rfl, h.called ok (2, 29, fun v => ∃ lq, v = fe lq ∧ Is lq (((y * y) - 1))) (by rw [hp]; simp) F ⟨lq, rfl, hc⟩⟩
    · injection (show some _ = some o from ho) with ho; subst ho
      simp only [fill]
      go_wp2_with fail
      refine (factor_f).mono ?_
      rintro e w2 ⟨lq, rfl, hc, F⟩
      simp only []
      go_wp2
      exact ⟨_, by kernel_rfl, h.called ok (3, 30, fun v => ∃ lq, v = fe lq ∧ Is lq (dE)) (by rw [hp]; simp) F ⟨lq, rfl, hc⟩⟩
    · rw [h.row 4 (by rw [hp]; simp)] at hL; cases hL
    · injection (show some _ = some o from ho) with ho; subst ho
      have l30 : L 3 = true := after_on hd (by kernel_rfl)
      obtain ⟨d30, e30, k30⟩ := h.call (3, 30, fun v => ∃ lq, v = fe lq ∧ Is lq (dE)) (by rw [hp]; simp) l30
      have K30 := Lib.hid k30
      have ct : Calls Try.prog 36 #[s 30, fe c29] w (fun e w' => ∃ lq, e = .returned (fe lq) ∧ Is lq ((dE * (y * y))) ∧ Fr [] w w') := by
        simp only [] at e30
        rw [e30]
        exact mul_f K30.out Hc29.out
      clear e30 l30 k30
      simp only [fill]
      go_wp2_with fail
      refine (ct).mono ?_
      rintro e w2 ⟨lq, rfl, hc, F⟩
      simp only []
      go_wp2
      exact ⟨_, by kernel_rfl, h.called ok (5, 32, fun v => ∃ lq, v = fe lq ∧ Is lq ((dE * (y * y)))) (by rw [hp]; simp) F ⟨lq, rfl, hc⟩⟩
    · injection (show some _ = some o from ho) with ho; subst ho
      simp only [fill]
      go_wp2_with fail
      refine (one_f).mono ?_
      rintro e w2 ⟨lq, rfl, hc, F⟩
      simp only []
      go_wp2
      exact ⟨_, by kernel_rfl, h.called ok (6, 33, fun v => ∃ lq, v = fe lq ∧ Is lq (1)) (by rw [hp]; simp) F ⟨lq, rfl, hc⟩⟩
    · injection (show some _ = some o from ho) with ho; subst ho
      have l32 : L 5 = true := after_on hd (by kernel_rfl)
      obtain ⟨d32, e32, k32⟩ := h.call (5, 32, fun v => ∃ lq, v = fe lq ∧ Is lq ((dE * (y * y)))) (by rw [hp]; simp) l32
      have K32 := Lib.hid k32
      have l33 : L 6 = true := after_on hd (by kernel_rfl)
      obtain ⟨d33, e33, k33⟩ := h.call (6, 33, fun v => ∃ lq, v = fe lq ∧ Is lq (1)) (by rw [hp]; simp) l33
      have K33 := Lib.hid k33
      have ct : Calls Try.prog 30 #[s 32, s 33] w (fun e w' => ∃ lq, e = .returned (fe lq) ∧ Is lq (((dE * (y * y)) + 1)) ∧ Fr [] w w') := by
        simp only [] at e32 e33
        rw [e32, e33]
        exact add_f K32.out K33.out
      clear e32 l32 k32 e33 l33 k33
      simp only [fill]
      go_wp2_with fail
      refine (ct).mono ?_
      rintro e w2 ⟨lq, rfl, hc, F⟩
      simp only []
      go_wp2
      exact ⟨_, by kernel_rfl, h.called ok (7, 34, fun v => ∃ lq, v = fe lq ∧ Is lq (((dE * (y * y)) + 1))) (by rw [hp]; simp) F ⟨lq, rfl, hc⟩⟩
    · injection (show some _ = some o from ho) with ho; subst ho
      have l34 : L 7 = true := after_on hd (by kernel_rfl)
      obtain ⟨d34, e34, k34⟩ := h.call (7, 34, fun v => ∃ lq, v = fe lq ∧ Is lq (((dE * (y * y)) + 1))) (by rw [hp]; simp) l34
      have K34 := Lib.hid k34
      have ct : Calls Try.prog 40 #[s 34] w (fun e w' => ∃ lq, e = .returned (fe lq) ∧ Is lq ((inv ((dE * (y * y)) + 1))) ∧ Fr [] w w') := by
        simp only [] at e34
        rw [e34]
        exact inv_f K34.out
      clear e34 l34 k34
      simp only [fill]
      go_wp2_with fail
      refine (ct).mono ?_
      rintro e w2 ⟨lq, rfl, hc, F⟩
      simp only []
      go_wp2
      exact ⟨_, by kernel_rfl, h.called ok (8, 35, fun v => ∃ lq, v = fe lq ∧ Is lq ((inv ((dE * (y * y)) + 1)))) (by rw [hp]; simp) F ⟨lq, rfl, hc⟩⟩
    · injection (show some _ = some o from ho) with ho; subst ho
      have l29 : L 2 = true := after_on hd (by kernel_rfl)
      obtain ⟨d29, e29, k29⟩ := h.call (2, 29, fun v => ∃ lq, v = fe lq ∧ Is lq (((y * y) - 1))) (by rw [hp]; simp) l29
      have K29 := Lib.hid k29
      have l35 : L 8 = true := after_on hd (by kernel_rfl)
      obtain ⟨d35, e35, k35⟩ := h.call (8, 35, fun v => ∃ lq, v = fe lq ∧ Is lq ((inv ((dE * (y * y)) + 1)))) (by rw [hp]; simp) l35
      have K35 := Lib.hid k35
      have ct : Calls Try.prog 36 #[s 29, s 35] w (fun e w' => ∃ lq, e = .returned (fe lq) ∧ Is lq ((((y * y) - 1) * (inv ((dE * (y * y)) + 1)))) ∧ Fr [] w w') := by
        simp only [] at e29 e35
        rw [e29, e35]
        exact mul_f K29.out K35.out
      clear e29 l29 k29 e35 l35 k35
      simp only [fill]
      go_wp2_with fail
      refine (ct).mono ?_
      rintro e w2 ⟨lq, rfl, hc, F⟩
      simp only []
      go_wp2
      exact ⟨_, by kernel_rfl, h.called ok (9, 36, fun v => ∃ lq, v = fe lq ∧ Is lq ((((y * y) - 1) * (inv ((dE * (y * y)) + 1))))) (by rw [hp]; simp) F ⟨lq, rfl, hc⟩⟩
    · injection (show some _ = some o from ho) with ho; subst ho
      simp only [fill]
      go_wp2
      exact ⟨_, by kernel_rfl, h.made ok (10, 7, .cells (ints .u64 (List.replicate 5 0)) 28) (by rw [hp]; simp)⟩
  intro s w44 h
  obtain ⟨c45, e47, k46⟩ := h.call (1, 28, fun v => ∃ lq, v = fe lq ∧ Is lq (1)) (by rw [hp]; simp) rfl
  obtain ⟨c48, e50, k49⟩ := h.call (2, 29, fun v => ∃ lq, v = fe lq ∧ Is lq (((y * y) - 1))) (by rw [hp]; simp) rfl
  obtain ⟨c51, e53, k52⟩ := h.call (3, 30, fun v => ∃ lq, v = fe lq ∧ Is lq (dE)) (by rw [hp]; simp) rfl
  obtain ⟨c54, e56, k55⟩ := h.call (5, 32, fun v => ∃ lq, v = fe lq ∧ Is lq ((dE * (y * y)))) (by rw [hp]; simp) rfl
  obtain ⟨c57, e59, k58⟩ := h.call (6, 33, fun v => ∃ lq, v = fe lq ∧ Is lq (1)) (by rw [hp]; simp) rfl
  obtain ⟨c60, e62, k61⟩ := h.call (7, 34, fun v => ∃ lq, v = fe lq ∧ Is lq (((dE * (y * y)) + 1))) (by rw [hp]; simp) rfl
  obtain ⟨c63, e65, k64⟩ := h.call (8, 35, fun v => ∃ lq, v = fe lq ∧ Is lq ((inv ((dE * (y * y)) + 1)))) (by rw [hp]; simp) rfl
  obtain ⟨c66, e68, k67⟩ := h.call (9, 36, fun v => ∃ lq, v = fe lq ∧ Is lq ((((y * y) - 1) * (inv ((dE * (y * y)) + 1))))) (by rw [hp]; simp) rfl
  obtain ⟨bk69, e70, l71, m72⟩ := h.room (10, 7, .cells (ints .u64 (List.replicate 5 0)) 28) (by rw [hp]; simp) rfl
  simp only [] at e47 e50 e53 e56 e59 e62 e65 e68 e70
  have h73 := h40.call h.fr
  simp only [fill, e47, e50, e53, e56, e59, e62, e65, e68, e70]
  have h74 := (h73.room m72 (h40.fresh l71) (Nat.le_trans h40.fr.size l71))
  rw [HL38.out] at h74
  clear e47 e50 e53 e56 e59 e62 e65 e68 e70  l71 m72 h73 h ok hp h40 p
  have nc45 := k46.len
  have Hc45 := Lib.hid k46
  clear k46
  have nc48 := k49.len
  have Hc48 := Lib.hid k49
  clear k49
  have nc51 := k52.len
  have Hc51 := Lib.hid k52
  clear k52
  have nc54 := k55.len
  have Hc54 := Lib.hid k55
  clear k55
  have nc57 := k58.len
  have Hc57 := Lib.hid k58
  clear k58
  have nc60 := k61.len
  have Hc60 := Lib.hid k61
  clear k61
  have nc63 := k64.len
  have Hc63 := Lib.hid k64
  clear k64
  have nc66 := k67.len
  have Hc66 := Lib.hid k67
  clear k67
  obtain ⟨L75, hL75⟩ : ∃ L : List (Nat × Obj), L = [(bk69, .cells (ints .u64 (List.replicate 5 0)) 28), (bk35, .cells (ints .u64 c29) 28), (bk10, .cells (ints .u64 c5) 28), (bk2, .cells (ptC (zs 5) (zs 5) (zs 5) (zs 5) false) 49), (bk1, .cells (ints .u8 (C)) 22)] := ⟨_, rfl⟩
  rw [← hL75] at h74
  have HL75 := Lib.hid hL75
  clear hL75
  refine drawn_end (ol := [_]) rfl (by kernel_rfl) ?_
  intro K hK
  have s76 := h74
  rw [HL75.out] at s76
  have f77 := s76.nth 0 rfl
  have t78 := s76.lt 0 rfl
  clear s76
  have s79 := h74
  rw [HL75.out] at s79
  go_wp2_with fail
  clear f77 t78
  refine (root_nm Ho.out Hr.out Hc66.out).mono ?_
  rintro e w80 ⟨c82, rfl, k83, F81⟩
  have nc82 := k83.len
  have Hc82 := Lib.hid k83
  clear k83
  have h84 : OwB w [(bk69, .cells (ints .u64 c66) 28), (bk35, .cells (ints .u64 c29) 28), (bk10, .cells (ints .u64 c5) 28), (bk2, .cells (ptC (zs 5) (zs 5) (zs 5) (zs 5) false) 49), (bk1, .cells (ints .u8 (C)) 22)] w80 := ((s79.set 0 (.cells (ints .u64 c66) 28) rfl)).call F81
  clear F81
  simp only []
  clear s79 h74
  obtain ⟨L85, hL85⟩ : ∃ L : List (Nat × Obj), L = [(bk69, .cells (ints .u64 c66) 28), (bk35, .cells (ints .u64 c29) 28), (bk10, .cells (ints .u64 c5) 28), (bk2, .cells (ptC (zs 5) (zs 5) (zs 5) (zs 5) false) 49), (bk1, .cells (ints .u8 (C)) 22)] := ⟨_, rfl⟩
  rw [← hL85] at h84
  have HL85 := Lib.hid hL85
  clear hL85
  have s86 := h84
  rw [HL85.out] at s86
  have f87 := s86.nth 3 rfl
  have t88 := s86.lt 3 rfl
  clear s86
  go_wp2_with fail
  clear f87 t88
  have s89 := h84
  rw [HL85.out] at s89
  refine OwB.named (Q := fun X => bodyPost _ _ _ _ _ X) (show OwB w [(w80.heap.size, .cells (ints .u64 c82) 28), (bk69, .cells (ints .u64 c66) 28), (bk35, .cells (ints .u64 c29) 28), (bk10, .cells (ints .u64 c5) 28), (bk2, .cells (ptC (zs 5) (zs 5) (zs 5) (zs 5) false) 49), (bk1, .cells (ints .u8 (C)) 22)] _ from ((s89.set 3 (.cells (ptC (zs 5) (zs 5) (zs 5) (zs 5) false) 49) rfl).allocN (.cells (ints .u64 c82) 28) (w80.heap.size) (by simp))) ?_
  intro V92 h91
  generalize w80.heap.size = bk90 at h91 ⊢
  clear s89 h84
  obtain ⟨L93, hL93⟩ : ∃ L : List (Nat × Obj), L = [(bk90, .cells (ints .u64 c82) 28), (bk69, .cells (ints .u64 c66) 28), (bk35, .cells (ints .u64 c29) 28), (bk10, .cells (ints .u64 c5) 28), (bk2, .cells (ptC (zs 5) (zs 5) (zs 5) (zs 5) false) 49), (bk1, .cells (ints .u8 (C)) 22)] := ⟨_, rfl⟩
  rw [← hL93] at h91
  have HL93 := Lib.hid hL93
  clear hL93
  have s94 := h91
  rw [HL93.out] at s94
  refine ret_cell_tmp rfl rfl rfl ?_
  refine cellRet_of (s94.nth 4 rfl) (by rw [size_ptC len_zs5 len_zs5 len_zs5 len_zs5]; kernel_rfl) ?_
  exact ⟨_, _, rfl, .inl ⟨Or.inr (Or.inl ⟨hb, rfl⟩), rfl, rfl⟩, s94.fr⟩

end
end Go.Proofs.Ytakhmmnklkckpaa
namespace Go.Proofs.Ytakhmmnklkckpaa
open Go.RowKit Go.Dr

section
variable {w : World}
set_option maxRecDepth 100000 in
set_option maxHeartbeats 8000000 in
theorem cdec_even (b C : List Int) (y r : Fp) (hl : b.length = 32) (hC : C = lowC b) (lC : C.length = 32) (bC : Byt C) (hy : fromB C = y) (hr : r = rootF (((y * y) - 1) * (inv ((dE * (y * y)) + 1)))) (ho : true = rootOk (((y * y) - 1) * (inv ((dE * (y * y)) + 1)))) (hb : bytesF y = C) (h31 : el b 31 / 128 = 0) : Calls Try.prog 80 #[.agg (ints .u8 b)] w fun e w' => ∃ v ok, e = .returned (.tuple #[v, .bool ok]) ∧ DecV b C y r true v ok ∧ Fr [] w w' := by
  have Hy2 : Hid (fromB (lowC b) = y) := Lib.hid (by rw [← hC]; exact hy)
  have lC2 : (lowC b).length = 32 := by rw [← hC]; exact lC
  have HB2 : Hid (Byt (lowC b)) := Lib.hid (by rw [← hC]; exact bC)
  have HC := Lib.hid hC
  have HB := Lib.hid bC
  have Hy := Lib.hid hy
  have Hr := Lib.hid hr
  clear hC bC hy hr
  have HZ5 := Lib.hid is_zs5
  have Ho := Lib.hid ho
  clear ho
  go_enter Try.func80, Try.ntmps80
  go_wp2_with fail
  refine (of_n Hy2.out lC2 HB2.out).mono ?_
  rintro e w3 ⟨c5, rfl, k6, F4⟩
  have nc5 := k6.len
  have Hc5 := Lib.hid k6
  clear k6
  have h7 : OwB w [(w.heap.size + 1, .cells (ptC (zs 5) (zs 5) (zs 5) (zs 5) false) 49), (w.heap.size, .cells (ints .u8 (lowC b)) 22)] w3 := ((((OwB.start w).allocN (.cells (ints .u8 (lowC b)) 22) w.heap.size rfl).allocN (.cells (ptC (zs 5) (zs 5) (zs 5) (zs 5) false) 49) (w.heap.size + 1) (by simp))).call F4
  clear F4
  simp only []
  generalize w.heap.size + 1 = bk2 at h7 ⊢
  generalize w.heap.size = bk1 at h7 ⊢
  rw [← HC.out] at h7
  obtain ⟨L8, hL8⟩ : ∃ L : List (Nat × Obj), L = [(bk2, .cells (ptC (zs 5) (zs 5) (zs 5) (zs 5) false) 49), (bk1, .cells (ints .u8 (C)) 22)] := ⟨_, rfl⟩
  rw [← hL8] at h7
  have HL8 := Lib.hid hL8
  clear hL8
  go_wp2_with fail
  have s9 := h7
  rw [HL8.out] at s9
  refine OwB.named (Q := fun X => Code.wp _ _ _ _ X) (show OwB w [(w3.heap.size, .cells (ints .u64 c5) 28), (bk2, .cells (ptC (zs 5) (zs 5) (zs 5) (zs 5) false) 49), (bk1, .cells (ints .u8 (C)) 22)] _ from (s9.allocN (.cells (ints .u64 c5) 28) (w3.heap.size) (by simp))) ?_
  intro V12 h11
  generalize w3.heap.size = bk10 at h11 ⊢
  clear s9 h7
  obtain ⟨L13, hL13⟩ : ∃ L : List (Nat × Obj), L = [(bk10, .cells (ints .u64 c5) 28), (bk2, .cells (ptC (zs 5) (zs 5) (zs 5) (zs 5) false) 49), (bk1, .cells (ints .u8 (C)) 22)] := ⟨_, rfl⟩
  rw [← hL13] at h11
  have HL13 := Lib.hid hL13
  clear hL13
  refine drawn_begin 4 (OwB w L13) (by kernel_rfl) ?_
  refine OwB.named (Q := fun X => Go.Dr.wpAnyS Try.prog .any _ _ _ _ _ _ _ X) (h11.drew) ?_
  intro V14 h15
  clear h11
  have s16 := h15
  rw [HL13.out] at s16
  have f17 := s16.nth 0 rfl
  have f18 := s16.nth 2 rfl
  clear s16
  refine drawn_reads (fuel := 2) [0, 2] rfl (by kernel_rfl) (h15) ?_
  repeat (first | (refine rowK_step2 rfl rfl (fun K hK => ?_); go_wp2) | (refine rowK_step rfl (fun K hK => ?_); go_simp; refine hK _ ?_; clear hK K))
  refine rowK_nil ⟨fun w' hw' => ?_, ?_⟩
  · rw [HL13.out] at hw'
    have g19 := hw'.nth 0 rfl
    have g20 := hw'.nth 2 rfl
    clear f17 f18
    repeat (first | (refine rowWp_step2 rfl rfl (fun K hK => ?_); go_wp2) | (refine rowWp_step rfl (fun K hK => ?_); go_simp; refine hK _ ?_; clear hK K))
    exact rowWp_nil rfl
  clear f17 f18
  refine drawn_next 1 (fuel := 1) rfl (by kernel_rfl) ?_
  intro K hK
  go_wp2_with fail
  refine (bytes_f Hc5.out).mono ?_
  rintro e w21 ⟨rfl, F22⟩
  have h23 := (h15).call F22
  clear F22 h15
  simp only []
  go_wp2
  refine ⟨h23, ?_⟩
  refine drawn_reads (fuel := 0) [3] rfl (by kernel_rfl) (h23) ?_
  repeat (first | (refine rowK_step2 rfl rfl (fun K hK => ?_); go_wp2) | (refine rowK_step rfl (fun K hK => ?_); go_simp; refine hK _ ?_; clear hK K))
  refine rowK_nil ⟨fun w' hw' => ?_, ?_⟩
  · skip
    repeat (first | (refine rowWp_step2 rfl rfl (fun K hK => ?_); go_wp2) | (refine rowWp_step rfl (fun K hK => ?_); go_simp; refine hK _ ?_; clear hK K))
    exact rowWp_nil rfl
  refine drawn_end (ol := []) rfl (by kernel_rfl) ?_
  intro K hK
  have s24 := h23
  rw [HL13.out] at s24
  have f25 := s24.nth 0 rfl
  have t26 := s24.lt 0 rfl
  clear s24
  go_wp2_with fail
  clear f25 t26
  refine (mul_f Hc5.out Hc5.out).mono ?_
  rintro e w27 ⟨c29, rfl, k30, F28⟩
  have nc29 := k30.len
  have Hc29 := Lib.hid k30
  clear k30
  have s32 := h23
  rw [HL13.out] at s32
  have h31 : OwB w [(bk10, .cells (ints .u64 c5) 28), (bk2, .cells (ptC (zs 5) (zs 5) (zs 5) (zs 5) false) 49), (bk1, .cells (ints .u8 (C)) 22)] w27 := (s32).call F28
  clear F28
  simp only []
  clear s32 h23
  obtain ⟨L33, hL33⟩ : ∃ L : List (Nat × Obj), L = [(bk10, .cells (ints .u64 c5) 28), (bk2, .cells (ptC (zs 5) (zs 5) (zs 5) (zs 5) false) 49), (bk1, .cells (ints .u8 (C)) 22)] := ⟨_, rfl⟩
  rw [← hL33] at h31
  have HL33 := Lib.hid hL33
  clear hL33
  go_wp2_with fail
  have s34 := h31
  rw [HL33.out] at s34
  refine OwB.named (Q := fun X => Code.wp _ _ _ _ X) (show OwB w [(w27.heap.size, .cells (ints .u64 c29) 28), (bk10, .cells (ints .u64 c5) 28), (bk2, .cells (ptC (zs 5) (zs 5) (zs 5) (zs 5) false) 49), (bk1, .cells (ints .u8 (C)) 22)] _ from (s34.allocN (.cells (ints .u64 c29) 28) (w27.heap.size) (by simp))) ?_
  intro V37 h36
  generalize w27.heap.size = bk35 at h36 ⊢
  clear s34 h31
  obtain ⟨L38, hL38⟩ : ∃ L : List (Nat × Obj), L = [(bk35, .cells (ints .u64 c29) 28), (bk10, .cells (ints .u64 c5) 28), (bk2, .cells (ptC (zs 5) (zs 5) (zs 5) (zs 5) false) 49), (bk1, .cells (ints .u8 (C)) 22)] := ⟨_, rfl⟩
  rw [← hL38] at h36
  have HL38 := Lib.hid hL38
  clear hL38
  refine drawn_begin 11 (OwB w L38) (by kernel_rfl) ?_
  refine OwB.named (Q := fun X => Go.Dr.wpAnyS Try.prog .any _ _ _ _ _ _ _ X) (h36.drew) ?_
  intro V39 h40
  clear h36
  have s41 := h40
  rw [HL38.out] at s41
  have f42 := s41.nth 0 rfl
  clear s41
  refine drawn_reads (fuel := 10) [0, 4] rfl (by kernel_rfl) (h40) ?_
  repeat (first | (refine rowK_step2 rfl rfl (fun K hK => ?_); go_wp2) | (refine rowK_step rfl (fun K hK => ?_); go_simp; refine hK _ ?_; clear hK K))
  refine rowK_nil ⟨fun w' hw' => ?_, ?_⟩
  · rw [HL38.out] at hw'
    have g43 := hw'.nth 0 rfl
    clear f42
    repeat (first | (refine rowWp_step2 rfl rfl (fun K hK => ?_); go_wp2) | (refine rowWp_step rfl (fun K hK => ?_); go_simp; refine hK _ ?_; clear hK K))
    exact rowWp_nil rfl
  clear f42
  obtain ⟨p, hp⟩ : ∃ p : Par, p = ⟨[(1, 28, fun v => ∃ lq, v = fe lq ∧ Is lq (1)), (2, 29, fun v => ∃ lq, v = fe lq ∧ Is lq (((y * y) - 1))), (3, 30, fun v => ∃ lq, v = fe lq ∧ Is lq (dE)), (5, 32, fun v => ∃ lq, v = fe lq ∧ Is lq ((dE * (y * y)))), (6, 33, fun v => ∃ lq, v = fe lq ∧ Is lq (1)), (7, 34, fun v => ∃ lq, v = fe lq ∧ Is lq (((dE * (y * y)) + 1))), (8, 35, fun v => ∃ lq, v = fe lq ∧ Is lq ((inv ((dE * (y * y)) + 1)))), (9, 36, fun v => ∃ lq, v = fe lq ∧ Is lq ((((y * y) - 1) * (inv ((dE * (y * y)) + 1)))))], [(10, 7, .cells (ints .u64 (List.replicate 5 0)) 28)], [0, 4]⟩ := ⟨_, rfl⟩
  have ok : p.ok := by rw [hp]; exact ⟨(by decide : [1, 2, 3, 5, 6, 7, 8, 9, 10].Nodup), (by decide : [28, 29, 30, 32, 33, 34, 35, 36, 7].Nodup)⟩
  refine drawn_inv (rest := 1) [28, 29, 30, 32, 33, 34, 35, 36, 7] (fun L s w => p.Inv V39 L s w) (fun _ => undef) 9 (by kernel_rfl) (fun L s w h => ?_) (by kernel_rfl) ?_ ?_ ?_
  · exact h40.call h.fr
  · refine Par.Inv.start ?_ ?_ ?_ <;> rw [hp] <;> intro i hi <;> simp at hi
    · rcases hi with rfl | rfl <;> rfl
    · rcases hi with rfl | rfl | rfl | rfl | rfl | rfl | rfl | rfl <;> rfl
    · subst hi; rfl
  · intro i o L s w ho hi hL hd h K hK
    rcases (show i = 0 ∨ i = 1 ∨ i = 2 ∨ i = 3 ∨ i = 4 ∨ i = 5 ∨ i = 6 ∨ i = 7 ∨ i = 8 ∨ i = 9 ∨ i = 10 by omega) with rfl | rfl | rfl | rfl | rfl | rfl | rfl | rfl | rfl | rfl | rfl
    · rw [h.row 0 (by rw [hp]; simp)] at hL; cases hL
    · injection (show some _ = some o from ho) with ho; subst ho
      simp only [fill]
      go_wp2_with fail
      refine (one_f).mono ?_
      rintro e w2 ⟨lq, rfl, hc, F⟩
      simp only []
      go_wp2
      exact ⟨_, by kernel_rfl, h.called ok (1, 28, fun v => ∃ lq, v = fe lq ∧ Is lq (1)) (by rw [hp]; simp) F ⟨lq, rfl, hc⟩⟩
    · injection (show some _ = some o from ho) with ho; subst ho
      have l28 : L 1 = true := after_on hd (by kernel_rfl)
      obtain ⟨d28, e28, k28⟩ := h.call (1, 28, fun v => ∃ lq, v = fe lq ∧ Is lq (1)) (by rw [hp]; simp) l28
      have K28 := Lib.hid k28
      have ct : Calls Try.prog 32 #[fe c29, s 28] w (fun e w' => ∃ lq, e = .returned (fe lq) ∧ Is lq (((y * y) - 1)) ∧ Fr [] w w') := by
        simp only [] at e28
        rw [e28]
        exact sub_f Hc29.out K28.out
      clear e28 l28 k28
      simp only [fill]
      go_wp2_with fail
      refine (ct).mono ?_
      rintro e w2 ⟨lq, rfl, hc, F⟩
      simp only []
      go_wp2
      exact ⟨_, by kernel_rfl, h.called ok (2, 29, fun v => ∃ lq, v = fe lq ∧ Is lq (((y * y) - 1))) (by rw [hp]; simp) F ⟨lq, rfl, hc⟩⟩
    · injection (show some _ = some o from ho) with ho; subst ho
      simp only [fill]
      go_wp2_with fail
      refine (factor_f).mono ?_
      rintro e w2 ⟨lq, rfl, hc, F⟩
      simp only []
      go_wp2
      exact ⟨_, by kernel_rfl, h.called ok (3, 30, fun v => ∃ lq, v = fe lq ∧ Is lq (dE)) (by rw [hp]; simp) F ⟨lq, rfl, hc⟩⟩
    · rw [h.row 4 (by rw [hp]; simp)] at hL; cases hL
    · injection (show some _ = some o from ho) with ho; subst ho
      have l30 : L 3 = true := after_on hd (by kernel_rfl)
      obtain ⟨d30, e30, k30⟩ := h.call (3, 30, fun v => ∃ lq, v = fe lq ∧ Is lq (dE)) (by rw [hp]; simp) l30
      have K30 := Lib.hid k30
      have ct : Calls Try.prog 36 #[s 30, fe c29] w (fun e w' => ∃ lq, e = .returned (fe lq) ∧ Is lq ((dE * (y * y))) ∧ Fr [] w w') := by
        simp only [] at e30
        rw [e30]
        exact mul_f K30.out Hc29.out
      clear e30 l30 k30
      simp only [fill]
      go_wp2_with fail
      refine (ct).mono ?_
      rintro e w2 ⟨lq, rfl, hc, F⟩
      simp only []
      go_wp2
      exact ⟨_, by kernel_rfl, h.called ok (5, 32, fun v => ∃ lq, v = fe lq ∧ Is lq ((dE * (y * y)))) (by rw [hp]; simp) F ⟨lq, rfl, hc⟩⟩
    · injection (show some _ = some o from ho) with ho; subst ho
      simp only [fill]
      go_wp2_with fail
      refine (one_f).mono ?_
      rintro e w2 ⟨lq, rfl, hc, F⟩
      simp only []
      go_wp2
      exact ⟨_, by kernel_rfl, h.called ok (6, 33, fun v => ∃ lq, v = fe lq ∧ Is lq (1)) (by rw [hp]; simp) F ⟨lq, rfl, hc⟩⟩
    · injection (show some _ = some o from ho) with ho; subst ho
      have l32 : L 5 = true := after_on hd (by kernel_rfl)
      obtain ⟨d32, e32, k32⟩ := h.call (5, 32, fun v => ∃ lq, v = fe lq ∧ Is lq ((dE * (y * y)))) (by rw [hp]; simp) l32
      have K32 := Lib.hid k32
      have l33 : L 6 = true := after_on hd (by kernel_rfl)
      obtain ⟨d33, e33, k33⟩ := h.call (6, 33, fun v => ∃ lq, v = fe lq ∧ Is lq (1)) (by rw [hp]; simp) l33
      have K33 := Lib.hid k33
      have ct : Calls Try.prog 30 #[s 32, s 33] w (fun e w' => ∃ lq, e = .returned (fe lq) ∧ Is lq (((dE * (y * y)) + 1)) ∧ Fr [] w w') := by
        simp only [] at e32 e33
        rw [e32, e33]
        exact add_f K32.out K33.out
      clear e32 l32 k32 e33 l33 k33
      simp only [fill]
      go_wp2_with fail
      refine (ct).mono ?_
      rintro e w2 ⟨lq, rfl, hc, F⟩
      simp only []
      go_wp2
      exact ⟨_, by kernel_rfl, h.called ok (7, 34, fun v => ∃ lq, v = fe lq ∧ Is lq (((dE * (y * y)) + 1))) (by rw [hp]; simp) F ⟨lq, rfl, hc⟩⟩
    · injection (show some _ = some o from ho) with ho; subst ho
      have l34 : L 7 = true := after_on hd (by kernel_rfl)
      obtain ⟨d34, e34, k34⟩ := h.call (7, 34, fun v => ∃ lq, v = fe lq ∧ Is lq (((dE * (y * y)) + 1))) (by rw [hp]; simp) l34
      have K34 := Lib.hid k34
      have ct : Calls Try.prog 40 #[s 34] w (fun e w' => ∃ lq, e = .returned (fe lq) ∧ Is lq ((inv ((dE * (y * y)) + 1))) ∧ Fr [] w w') := by
        simp only [] at e34
        rw [e34]
        exact inv_f K34.out
      clear e34 l34 k34
      simp only [fill]
      go_wp2_with fail
      refine (ct).mono ?_
      rintro e w2 ⟨lq, rfl, hc, F⟩
      simp only []
      go_wp2
      exact ⟨_, by kernel_rfl, h.called ok (8, 35, fun v => ∃ lq, v = fe lq ∧ Is lq ((inv ((dE * (y * y)) + 1)))) (by rw [hp]; simp) F ⟨lq, rfl, hc⟩⟩
    · injection (show some _ = some o from ho) with ho; subst ho
      have l29 : L 2 = true := after_on hd (by kernel_rfl)
      obtain ⟨d29, e29, k29⟩ := h.call (2, 29, fun v => ∃ lq, v = fe lq ∧ Is lq (((y * y) - 1))) (by rw [hp]; simp) l29
      have K29 := Lib.hid k29
      have l35 : L 8 = true := after_on hd (by kernel_rfl)
      obtain ⟨d35, e35, k35⟩ := h.call (8, 35, fun v => ∃ lq, v = fe lq ∧ Is lq ((inv ((dE * (y * y)) + 1)))) (by rw [hp]; simp) l35
      have K35 := Lib.hid k35
      have ct : Calls Try.prog 36 #[s 29, s 35] w (fun e w' => ∃ lq, e = .returned (fe lq) ∧ Is lq ((((y * y) - 1) * (inv ((dE * (y * y)) + 1)))) ∧ Fr [] w w') := by
        simp only [] at e29 e35
        rw [e29, e35]
        exact mul_f K29.out K35.out
      clear e29 l29 k29 e35 l35 k35
      simp only [fill]
      go_wp2_with fail
      refine (ct).mono ?_
      rintro e w2 ⟨lq, rfl, hc, F⟩
      simp only []
      go_wp2
      exact ⟨_, by kernel_rfl, h.called ok (9, 36, fun v => ∃ lq, v = fe lq ∧ Is lq ((((y * y) - 1) * (inv ((dE * (y * y)) + 1))))) (by rw [hp]; simp) F ⟨lq, rfl, hc⟩⟩
    · injection (show some _ = some o from ho) with ho; subst ho
      simp only [fill]
      go_wp2
      exact ⟨_, by kernel_rfl, h.made ok (10, 7, .cells (ints .u64 (List.replicate 5 0)) 28) (by rw [hp]; simp)⟩
  intro s w44 h
  obtain ⟨c45, e47, k46⟩ := h.call (1, 28, fun v => ∃ lq, v = fe lq ∧ Is lq (1)) (by rw [hp]; simp) rfl
  obtain ⟨c48, e50, k49⟩ := h.call (2, 29, fun v => ∃ lq, v = fe lq ∧ Is lq (((y * y) - 1))) (by rw [hp]; simp) rfl
  obtain ⟨c51, e53, k52⟩ := h.call (3, 30, fun v => ∃ lq, v = fe lq ∧ Is lq (dE)) (by rw [hp]; simp) rfl
  obtain ⟨c54, e56, k55⟩ := h.call (5, 32, fun v => ∃ lq, v = fe lq ∧ Is lq ((dE * (y * y)))) (by rw [hp]; simp) rfl
  obtain ⟨c57, e59, k58⟩ := h.call (6, 33, fun v => ∃ lq, v = fe lq ∧ Is lq (1)) (by rw [hp]; simp) rfl
  obtain ⟨c60, e62, k61⟩ := h.call (7, 34, fun v => ∃ lq, v = fe lq ∧ Is lq (((dE * (y * y)) + 1))) (by rw [hp]; simp) rfl
  obtain ⟨c63, e65, k64⟩ := h.call (8, 35, fun v => ∃ lq, v = fe lq ∧ Is lq ((inv ((dE * (y * y)) + 1)))) (by rw [hp]; simp) rfl
  obtain ⟨c66, e68, k67⟩ := h.call (9, 36, fun v => ∃ lq, v = fe lq ∧ Is lq ((((y * y) - 1) * (inv ((dE * (y * y)) + 1))))) (by rw [hp]; simp) rfl
  obtain ⟨bk69, e70, l71, m72⟩ := h.room (10, 7, .cells (ints .u64 (List.replicate 5 0)) 28) (by rw [hp]; simp) rfl
  simp only [] at e47 e50 e53 e56 e59 e62 e65 e68 e70
  have h73 := h40.call h.fr
  simp only [fill, e47, e50, e53, e56, e59, e62, e65, e68, e70]
  have h74 := (h73.room m72 (h40.fresh l71) (Nat.le_trans h40.fr.size l71))
  rw [HL38.out] at h74
  clear e47 e50 e53 e56 e59 e62 e65 e68 e70  l71 m72 h73 h ok hp h40 p
  have nc45 := k46.len
  have Hc45 := Lib.hid k46
  clear k46
  have nc48 := k49.len
  have Hc48 := Lib.hid k49
  clear k49
  have nc51 := k52.len
  have Hc51 := Lib.hid k52
  clear k52
  have nc54 := k55.len
  have Hc54 := Lib.hid k55
  clear k55
  have nc57 := k58.len
  have Hc57 := Lib.hid k58
  clear k58
  have nc60 := k61.len
  have Hc60 := Lib.hid k61
  clear k61
  have nc63 := k64.len
  have Hc63 := Lib.hid k64
  clear k64
  have nc66 := k67.len
  have Hc66 := Lib.hid k67
  clear k67
  obtain ⟨L75, hL75⟩ : ∃ L : List (Nat × Obj), L = [(bk69, .cells (ints .u64 (List.replicate 5 0)) 28), (bk35, .cells (ints .u64 c29) 28), (bk10, .cells (ints .u64 c5) 28), (bk2, .cells (ptC (zs 5) (zs 5) (zs 5) (zs 5) false) 49), (bk1, .cells (ints .u8 (C)) 22)] := ⟨_, rfl⟩
  rw [← hL75] at h74
  have HL75 := Lib.hid hL75
  clear hL75
  refine drawn_end (ol := [_]) rfl (by kernel_rfl) ?_
  intro K hK
  have s76 := h74
  rw [HL75.out] at s76
  have f77 := s76.nth 0 rfl
  have t78 := s76.lt 0 rfl
  clear s76
  have s79 := h74
  rw [HL75.out] at s79
  go_wp2_with fail
  clear f77 t78
  refine (root_nm Ho.out Hr.out Hc66.out).mono ?_
  rintro e w80 ⟨c82, rfl, k83, F81⟩
  have nc82 := k83.len
  have Hc82 := Lib.hid k83
  clear k83
  have h84 : OwB w [(bk69, .cells (ints .u64 c66) 28), (bk35, .cells (ints .u64 c29) 28), (bk10, .cells (ints .u64 c5) 28), (bk2, .cells (ptC (zs 5) (zs 5) (zs 5) (zs 5) false) 49), (bk1, .cells (ints .u8 (C)) 22)] w80 := ((s79.set 0 (.cells (ints .u64 c66) 28) rfl)).call F81
  clear F81
  simp only []
  clear s79 h74
  obtain ⟨L85, hL85⟩ : ∃ L : List (Nat × Obj), L = [(bk69, .cells (ints .u64 c66) 28), (bk35, .cells (ints .u64 c29) 28), (bk10, .cells (ints .u64 c5) 28), (bk2, .cells (ptC (zs 5) (zs 5) (zs 5) (zs 5) false) 49), (bk1, .cells (ints .u8 (C)) 22)] := ⟨_, rfl⟩
  rw [← hL85] at h84
  have HL85 := Lib.hid hL85
  clear hL85
  go_wp2_with fail
  have s86 := h84
  rw [HL85.out] at s86
  refine OwB.named (Q := fun X => Code.wp _ _ _ _ X) (show OwB w [(w80.heap.size, .cells (ints .u64 c82) 28), (bk69, .cells (ints .u64 c66) 28), (bk35, .cells (ints .u64 c29) 28), (bk10, .cells (ints .u64 c5) 28), (bk2, .cells (ptC (zs 5) (zs 5) (zs 5) (zs 5) false) 49), (bk1, .cells (ints .u8 (C)) 22)] _ from (s86.allocN (.cells (ints .u64 c82) 28) (w80.heap.size) (by simp))) ?_
  intro V89 h88
  generalize w80.heap.size = bk87 at h88 ⊢
  clear s86 h84
  obtain ⟨L90, hL90⟩ : ∃ L : List (Nat × Obj), L = [(bk87, .cells (ints .u64 c82) 28), (bk69, .cells (ints .u64 c66) 28), (bk35, .cells (ints .u64 c29) 28), (bk10, .cells (ints .u64 c5) 28), (bk2, .cells (ptC (zs 5) (zs 5) (zs 5) (zs 5) false) 49), (bk1, .cells (ints .u8 (C)) 22)] := ⟨_, rfl⟩
  rw [← hL90] at h88
  have HL90 := Lib.hid hL90
  clear hL90
  refine drawn_begin 7 (OwB w L90) (by kernel_rfl) ?_
  refine OwB.named (Q := fun X => Go.Dr.wpAnyS Try.prog .any _ _ _ _ _ _ _ X) (h88.drew) ?_
  intro V91 h92
  clear h88
  have s93 := h92
  rw [HL90.out] at s93
  have f94 := s93.nth 0 rfl
  have f95 := s93.nth 3 rfl
  clear s93
  refine drawn_reads (fuel := 5) [0, 1, 3, 4] rfl (by kernel_rfl) (h92) ?_
  repeat (first | (refine rowK_step2 rfl rfl (fun K hK => ?_); go_wp2) | (refine rowK_step rfl (fun K hK => ?_); go_simp; refine hK _ ?_; clear hK K))
  refine rowK_nil ⟨fun w' hw' => ?_, ?_⟩
  · rw [HL90.out] at hw'
    have g96 := hw'.nth 0 rfl
    have g97 := hw'.nth 3 rfl
    clear f94 f95
    repeat (first | (refine rowWp_step2 rfl rfl (fun K hK => ?_); go_wp2) | (refine rowWp_step rfl (fun K hK => ?_); go_simp; refine hK _ ?_; clear hK K))
    exact rowWp_nil rfl
  clear f94 f95
  refine drawn_next 2 (fuel := 4) rfl (by kernel_rfl) ?_
  intro K hK
  go_wp2_with fail
  refine (one_f).mono ?_
  rintro e w98 ⟨c100, rfl, k101, F99⟩
  have nc100 := k101.len
  have Hc100 := Lib.hid k101
  clear k101
  have h102 := (h92).call F99
  clear F99 h92
  simp only []
  go_wp2
  refine ⟨h102, ?_⟩
  refine drawn_next 5 (fuel := 3) rfl (by kernel_rfl) ?_
  intro K hK
  go_wp2_with fail
  refine (mul_f Hc82.out Hc5.out).mono ?_
  rintro e w103 ⟨c105, rfl, k106, F104⟩
  have nc105 := k106.len
  have Hc105 := Lib.hid k106
  clear k106
  have h107 := (h102).call F104
  clear F104 h102
  simp only []
  go_wp2
  refine ⟨h107, ?_⟩
  refine drawn_reads (fuel := 2) [6] rfl (by kernel_rfl) (h107) ?_
  repeat (first | (refine rowK_step2 rfl rfl (fun K hK => ?_); go_wp2) | (refine rowK_step rfl (fun K hK => ?_); go_simp; refine hK _ ?_; clear hK K))
  refine rowK_nil ⟨fun w' hw' => ?_, ?_⟩
  · skip
    repeat (first | (refine rowWp_step2 rfl rfl (fun K hK => ?_); go_wp2) | (refine rowWp_step rfl (fun K hK => ?_); go_simp; refine hK _ ?_; clear hK K))
    exact rowWp_nil rfl
  refine drawn_end (ol := [_, _]) rfl (by kernel_rfl) ?_
  intro K hK
  have s108 := h107
  rw [HL90.out] at s108
  have f109 := s108.nth 4 rfl
  have t110 := s108.lt 4 rfl
  clear s108
  have s111 := h107
  rw [HL90.out] at s111
  go_wp2_with fail
  clear f109 t110
  refine OwB.named (Q := fun X => bodyPost _ _ _ _ _ X) (show OwB w [(bk87, .cells (ints .u64 c82) 28), (bk69, .cells (ints .u64 c66) 28), (bk35, .cells (ints .u64 c29) 28), (bk10, .cells (ints .u64 c5) 28), (bk2, .cells (ptC c82 c5 c100 c105 true) 49), (bk1, .cells (ints .u8 (C)) 22)] _ from (s111.set 4 (.cells (ptC c82 c5 c100 c105 true) 49) rfl)) ?_
  intro V113 h112
  clear s111 h107
  obtain ⟨L114, hL114⟩ : ∃ L : List (Nat × Obj), L = [(bk87, .cells (ints .u64 c82) 28), (bk69, .cells (ints .u64 c66) 28), (bk35, .cells (ints .u64 c29) 28), (bk10, .cells (ints .u64 c5) 28), (bk2, .cells (ptC c82 c5 c100 c105 true) 49), (bk1, .cells (ints .u8 (C)) 22)] := ⟨_, rfl⟩
  rw [← hL114] at h112
  have HL114 := Lib.hid hL114
  clear hL114
  have s115 := h112
  rw [HL114.out] at s115
  refine ret_cell_tmp rfl rfl rfl ?_
  refine cellRet_of (s115.nth 4 rfl) (by rw [size_ptC nc82 nc5 nc100 nc105]; kernel_rfl) ?_
  exact ⟨_, _, rfl, .inr ⟨_, ⟨hb, rfl, Or.inl ⟨h31, rfl⟩⟩, rfl, c82, c5, c100, c105, rfl, Hc82.out, Hc5.out, Hc100.out, Hc105.out⟩, s115.fr⟩

set_option maxRecDepth 100000 in
set_option maxHeartbeats 8000000 in
theorem cdec_zero (b C : List Int) (y r : Fp) (hl : b.length = 32) (hC : C = lowC b) (lC : C.length = 32) (bC : Byt C) (hy : fromB C = y) (hr : r = rootF (((y * y) - 1) * (inv ((dE * (y * y)) + 1)))) (ho : true = rootOk (((y * y) - 1) * (inv ((dE * (y * y)) + 1)))) (hb : bytesF y = C) (h31 : el b 31 / 128 = 1) (hz : (bytesF r == [0, 0, 0, 0, 0, 0, 0, 0, 0, 0, 0, 0, 0, 0, 0, 0, 0, 0, 0, 0, 0, 0, 0, 0, 0, 0, 0, 0, 0, 0, 0, 0]) = true) : Calls Try.prog 80 #[.agg (ints .u8 b)] w fun e w' => ∃ v ok, e = .returned (.tuple #[v, .bool ok]) ∧ DecV b C y r true v ok ∧ Fr [] w w' := by
  have Hy2 : Hid (fromB (lowC b) = y) := Lib.hid (by rw [← hC]; exact hy)
  have lC2 : (lowC b).length = 32 := by rw [← hC]; exact lC
  have HB2 : Hid (Byt (lowC b)) := Lib.hid (by rw [← hC]; exact bC)
  have HC := Lib.hid hC
  have HB := Lib.hid bC
  have Hy := Lib.hid hy
  have Hr := Lib.hid hr
  clear hC bC hy hr
  have HZ5 := Lib.hid is_zs5
  have Ho := Lib.hid ho
  clear ho
  go_enter Try.func80, Try.ntmps80
  go_wp2_with fail
  refine (of_n Hy2.out lC2 HB2.out).mono ?_
  rintro e w3 ⟨c5, rfl, k6, F4⟩
  have nc5 := k6.len
  have Hc5 := Lib.hid k6
  clear k6
  have h7 : OwB w [(w.heap.size + 1, .cells (ptC (zs 5) (zs 5) (zs 5) (zs 5) false) 49), (w.heap.size, .cells (ints .u8 (lowC b)) 22)] w3 := ((((OwB.start w).allocN (.cells (ints .u8 (lowC b)) 22) w.heap.size rfl).allocN (.cells (ptC (zs 5) (zs 5) (zs 5) (zs 5) false) 49) (w.heap.size + 1) (by simp))).call F4
  clear F4
  simp only []
  generalize w.heap.size + 1 = bk2 at h7 ⊢
  generalize w.heap.size = bk1 at h7 ⊢
  rw [← HC.out] at h7
  obtain ⟨L8, hL8⟩ : ∃ L : List (Nat × Obj), L = [(bk2, .cells (ptC (zs 5) (zs 5) (zs 5) (zs 5) false) 49), (bk1, .cells (ints .u8 (C)) 22)] := ⟨_, rfl⟩
  rw [← hL8] at h7
  have HL8 := Lib.hid hL8
  clear hL8
  go_wp2_with fail
  have s9 := h7
  rw [HL8.out] at s9
  refine OwB.named (Q := fun X => Code.wp _ _ _ _ X) (show OwB w [(w3.heap.size, .cells (ints .u64 c5) 28), (bk2, .cells (ptC (zs 5) (zs 5) (zs 5) (zs 5) false) 49), (bk1, .cells (ints .u8 (C)) 22)] _ from (s9.allocN (.cells (ints .u64 c5) 28) (w3.heap.size) (by simp))) ?_
  intro V12 h11
  generalize w3.heap.size = bk10 at h11 ⊢
  clear s9 h7
  obtain ⟨L13, hL13⟩ : ∃ L : List (Nat × Obj), L = [(bk10, .cells (ints .u64 c5) 28), (bk2, .cells (ptC (zs 5) (zs 5) (zs 5) (zs 5) false) 49), (bk1, .cells (ints .u8 (C)) 22)] := ⟨_, rfl⟩
  rw [← hL13] at h11
  have HL13 := Lib.hid hL13
  clear hL13
  refine drawn_begin 4 (OwB w L13) (by kernel_rfl) ?_
  refine OwB.named (Q := fun X => Go.Dr.wpAnyS Try.prog .any _ _ _ _ _ _ _ X) (h11.drew) ?_
  intro V14 h15
  clear h11
  have s16 := h15
  rw [HL13.out] at s16
  have f17 := s16.nth 0 rfl
  have f18 := s16.nth 2 rfl
  clear s16
  refine drawn_reads (fuel := 2) [0, 2] rfl (by kernel_rfl) (h15) ?_
  repeat (first | (refine rowK_step2 rfl rfl (fun K hK => ?_); go_wp2) | (refine rowK_step rfl (fun K hK => ?_); go_simp; refine hK _ ?_; clear hK K))
  refine rowK_nil ⟨fun w' hw' => ?_, ?_⟩
  · rw [HL13.out] at hw'
    have g19 := hw'.nth 0 rfl
    have g20 := hw'.nth 2 rfl
    clear f17 f18
    repeat (first | (refine rowWp_step2 rfl rfl (fun K hK => ?_); go_wp2) | (refine rowWp_step rfl (fun K hK => ?_); go_simp; refine hK _ ?_; clear hK K))
    exact rowWp_nil rfl
  clear f17 f18
  refine drawn_next 1 (fuel := 1) rfl (by kernel_rfl) ?_
  intro K hK
  go_wp2_with fail
  refine (bytes_f Hc5.out).mono ?_
  rintro e w21 ⟨rfl, F22⟩
  have h23 := (h15).call F22
  clear F22 h15
  simp only []
  go_wp2
  refine ⟨h23, ?_⟩
  refine drawn_reads (fuel := 0) [3] rfl (by kernel_rfl) (h23) ?_
  repeat (first | (refine rowK_step2 rfl rfl (fun K hK => ?_); go_wp2) | (refine rowK_step rfl (fun K hK => ?_); go_simp; refine hK _ ?_; clear hK K))
  refine rowK_nil ⟨fun w' hw' => ?_, ?_⟩
  · skip
    repeat (first | (refine rowWp_step2 rfl rfl (fun K hK => ?_); go_wp2) | (refine rowWp_step rfl (fun K hK => ?_); go_simp; refine hK _ ?_; clear hK K))
    exact rowWp_nil rfl
  refine drawn_end (ol := []) rfl (by kernel_rfl) ?_
  intro K hK
  have s24 := h23
  rw [HL13.out] at s24
  have f25 := s24.nth 0 rfl
  have t26 := s24.lt 0 rfl
  clear s24
  go_wp2_with fail
  clear f25 t26
  refine (mul_f Hc5.out Hc5.out).mono ?_
  rintro e w27 ⟨c29, rfl, k30, F28⟩
  have nc29 := k30.len
  have Hc29 := Lib.hid k30
  clear k30
  have s32 := h23
  rw [HL13.out] at s32
  have h31 : OwB w [(bk10, .cells (ints .u64 c5) 28), (bk2, .cells (ptC (zs 5) (zs 5) (zs 5) (zs 5) false) 49), (bk1, .cells (ints .u8 (C)) 22)] w27 := (s32).call F28
  clear F28
  simp only []
  clear s32 h23
  obtain ⟨L33, hL33⟩ : ∃ L : List (Nat × Obj), L = [(bk10, .cells (ints .u64 c5) 28), (bk2, .cells (ptC (zs 5) (zs 5) (zs 5) (zs 5) false) 49), (bk1, .cells (ints .u8 (C)) 22)] := ⟨_, rfl⟩
  rw [← hL33] at h31
  have HL33 := Lib.hid hL33
  clear hL33
  go_wp2_with fail
  have s34 := h31
  rw [HL33.out] at s34
  refine OwB.named (Q := fun X => Code.wp _ _ _ _ X) (show OwB w [(w27.heap.size, .cells (ints .u64 c29) 28), (bk10, .cells (ints .u64 c5) 28), (bk2, .cells (ptC (zs 5) (zs 5) (zs 5) (zs 5) false) 49), (bk1, .cells (ints .u8 (C)) 22)] _ from (s34.allocN (.cells (ints .u64 c29) 28) (w27.heap.size) (by simp))) ?_
  intro V37 h36
  generalize w27.heap.size = bk35 at h36 ⊢
  clear s34 h31
  obtain ⟨L38, hL38⟩ : ∃ L : List (Nat × Obj), L = [(bk35, .cells (ints .u64 c29) 28), (bk10, .cells (ints .u64 c5) 28), (bk2, .cells (ptC (zs 5) (zs 5) (zs 5) (zs 5) false) 49), (bk1, .cells (ints .u8 (C)) 22)] := ⟨_, rfl⟩
  rw [← hL38] at h36
  have HL38 := Lib.hid hL38
  clear hL38
  refine drawn_begin 11 (OwB w L38) (by kernel_rfl) ?_
  refine OwB.named (Q := fun X => Go.Dr.wpAnyS Try.prog .any _ _ _ _ _ _ _ X) (h36.drew) ?_
  intro V39 h40
  clear h36
  have s41 := h40
  rw [HL38.out] at s41
  have f42 := s41.nth 0 rfl
  clear s41
  refine drawn_reads (fuel := 10) [0, 4] rfl (by kernel_rfl) (h40) ?_
  repeat (first | (refine rowK_step2 rfl rfl (fun K hK => ?_); go_wp2) | (refine rowK_step rfl (fun K hK => ?_); go_simp; refine hK _ ?_; clear hK K))
  refine rowK_nil ⟨fun w' hw' => ?_, ?_⟩
  · rw [HL38.out] at hw'
    have g43 := hw'.nth 0 rfl
    clear f42
    repeat (first | (refine rowWp_step2 rfl rfl (fun K hK => ?_); go_wp2) | (refine rowWp_step rfl (fun K hK => ?_); go_simp; refine hK _ ?_; clear hK K))
    exact rowWp_nil rfl
  clear f42
  obtain ⟨p, hp⟩ : ∃ p : Par, p = ⟨[(1, 28, fun v => ∃ lq, v = fe lq ∧ Is lq (1)), (2, 29, fun v => ∃ lq, v = fe lq ∧ Is lq (((y * y) - 1))), (3, 30, fun v => ∃ lq, v = fe lq ∧ Is lq (dE)), (5, 32, fun v => ∃ lq, v = fe lq ∧ Is lq ((dE * (y * y)))), (6, 33, fun v => ∃ lq, v = fe lq ∧ Is lq (1)), (7, 34, fun v => ∃ lq, v = fe lq ∧ Is lq (((dE * (y * y)) + 1))), (8, 35, fun v => ∃ lq, v = fe lq ∧ Is lq ((inv ((dE * (y * y)) + 1)))), (9, 36, fun v => ∃ lq, v = fe lq ∧ Is lq ((((y * y) - 1) * (inv ((dE * (y * y)) + 1)))))], [(10, 7, .cells (ints .u64 (List.replicate 5 0)) 28)], [0, 4]⟩ := ⟨_, rfl⟩
  have ok : p.ok := by rw [hp]; exact ⟨(by decide : [1, 2, 3, 5, 6, 7, 8, 9, 10].Nodup), (by decide : [28, 29, 30, 32, 33, 34, 35, 36, 7].Nodup)⟩
  refine drawn_inv (rest := 1) [28, 29, 30, 32, 33, 34, 35, 36, 7] (fun L s w => p.Inv V39 L s w) (fun _ => undef) 9 (by kernel_rfl) (fun L s w h => ?_) (by kernel_rfl) ?_ ?_ ?_
  · exact h40.call h.fr
  · refine Par.Inv.start ?_ ?_ ?_ <;> rw [hp] <;> intro i hi <;> simp at hi
    · rcases hi with rfl | rfl <;> rfl
    · rcases hi with rfl | rfl | rfl | rfl | rfl | rfl | rfl | rfl <;> rfl
    · subst hi; rfl
  · intro i o L s w ho hi hL hd h K hK
    rcases (show i = 0 ∨ i = 1 ∨ i = 2 ∨ i = 3 ∨ i = 4 ∨ i = 5 ∨ i = 6 ∨ i = 7 ∨ i = 8 ∨ i = 9 ∨ i = 10 by omega) with rfl | rfl | rfl | rfl | rfl | rfl | rfl | rfl | rfl | rfl | rfl
    · rw [h.row 0 (by rw [hp]; simp)] at hL; cases hL
    · injection (show some _ = some o from ho) with ho; subst ho
      simp only [fill]
      go_wp2_with fail
      refine (one_f).mono ?_
      rintro e w2 ⟨lq, rfl, hc, F⟩
      simp only []
      go_wp2
      exact ⟨_, by kernel_rfl, h.called ok (1, 28, fun v => ∃ lq, v = fe lq ∧ Is lq (1)) (by rw [hp]; simp) F ⟨lq, rfl, hc⟩⟩
    · injection (show some _ = some o from ho) with ho; subst ho
      have l28 : L 1 = true := after_on hd (by kernel_rfl)
      obtain ⟨d28, e28, k28⟩ := h.call (1, 28, fun v => ∃ lq, v = fe lq ∧ Is lq (1)) (by rw [hp]; simp) l28
      have K28 := Lib.hid k28
      have ct : Calls Try.prog 32 #[fe c29, s 28] w (fun e w' => ∃ lq, e = .returned (fe lq) ∧ Is lq (((y * y) - 1)) ∧ Fr [] w w') := by
        simp only [] at e28
        rw [e28]
        exact sub_f Hc29.out K28.out
      clear e28 l28 k28
      simp only [fill]
      go_wp2_with fail
      refine (ct).mono ?_
      rintro e w2 ⟨lq, rfl, hc, F⟩
      simp only []
      go_wp2
      exact ⟨_, by kernel_rfl, h.called ok (2, 29, fun v => ∃ lq, v = fe lq ∧ Is lq (((y * y) - 1))) (by rw [hp]; simp) F ⟨lq, rfl, hc⟩⟩
    · injection (show some _ = some o from ho) with ho; subst ho
      simp only [fill]
      go_wp2_with fail
      refine (factor_f).mono ?_
      rintro e w2 ⟨lq, rfl, hc, F⟩
      simp only []
      go_wp2
      exact ⟨_, by kernel_rfl, h.called ok (3, 30, fun v => ∃ lq, v = fe lq ∧ Is lq (dE)) (by rw [hp]; simp) F ⟨lq, rfl, hc⟩⟩
    · rw [h.row 4 (by rw [hp]; simp)] at hL; cases hL
    · injection (show some _ = some o from ho) with ho; subst ho
      have l30 : L 3 = true := after_on hd (by kernel_rfl)
      obtain ⟨d30, e30, k30⟩ := h.call (3, 30, fun v => ∃ lq, v = fe lq ∧ Is lq (dE)) (by rw [hp]; simp) l30
      have K30 := Lib.hid k30
      have ct : Calls Try.prog 36 #[s 30, fe c29] w (fun e w' => ∃ lq, e = .returned (fe lq) ∧ Is lq ((dE * (y * y))) ∧ Fr [] w w') := by
        simp only [] at e30
        rw [e30]
        exact mul_f K30.out Hc29.out
      clear e30 l30 k30
      simp only [fill]
      go_wp2_with fail
      refine (ct).mono ?_
      rintro e w2 ⟨lq, rfl, hc, F⟩
      simp only []
      go_wp2
      exact ⟨_, by kernel_rfl, h.called ok (5, 32, fun v => ∃ lq, v = fe lq ∧ Is lq ((dE * (y * y)))) (by rw [hp]; simp) F ⟨lq, rfl, hc⟩⟩
    · injection (show some _ = some o from ho) with ho; subst ho
      simp only [fill]
      go_wp2_with fail
      refine (one_f).mono ?_
      rintro e w2 ⟨lq, rfl, hc, F⟩
      simp only []
      go_wp2
      exact ⟨_, by kernel_rfl, h.called ok (6, 33, fun v => ∃ lq, v = fe lq ∧ Is lq (1)) (by rw [hp]; simp) F ⟨lq, rfl, hc⟩⟩
    · injection (show some _ = some o from ho) with ho; subst ho
      have l32 : L 5 = true := after_on hd (by kernel_rfl)
      obtain ⟨d32, e32, k32⟩ := h.call (5, 32, fun v => ∃ lq, v = fe lq ∧ Is lq ((dE * (y * y)))) (by rw [hp]; simp) l32
      have K32 := Lib.hid k32
      have l33 : L 6 = true := after_on hd (by kernel_rfl)
      obtain ⟨d33, e33, k33⟩ := h.call (6, 33, fun v => ∃ lq, v = fe lq ∧ Is lq (1)) (by rw [hp]; simp) l33
      have K33 := Lib.hid k33
      have ct : Calls Try.prog 30 #[s 32, s 33] w (fun e w' => ∃ lq, e = .returned (fe lq) ∧ Is lq (((dE * (y * y)) + 1)) ∧ Fr [] w w') := by
        simp only [] at e32 e33
        rw [e32, e33]
        exact add_f K32.out K33.out
      clear e32 l32 k32 e33 l33 k33
      simp only [fill]
      go_wp2_with fail
      refine (ct).mono ?_
      rintro e w2 ⟨lq, rfl, hc, F⟩
      simp only []
      go_wp2
      exact ⟨_, by kernel_rfl, h.called ok (7, 34, fun v => ∃ lq, v = fe lq ∧ Is lq (((dE * (y * y)) + 1))) (by rw [hp]; simp) F ⟨lq, rfl, hc⟩⟩
    · injection (show some _ = some o from ho) with ho; subst ho
      have l34 : L 7 = true := after_on hd (by kernel_rfl)
      obtain ⟨d34, e34, k34⟩ := h.call (7, 34, fun v => ∃ lq, v = fe lq ∧ Is lq (((dE * (y * y)) + 1))) (by rw [hp]; simp) l34
      have K34 := Lib.hid k34
      have ct : Calls Try.prog 40 #[s 34] w (fun e w' => ∃ lq, e = .returned (fe lq) ∧ Is lq ((inv ((dE * (y * y)) + 1))) ∧ Fr [] w w') := by
        simp only [] at e34
        rw [e34]
        exact inv_f K34.out
      clear e34 l34 k34
      simp only [fill]
      go_wp2_with fail
      refine (ct).mono ?_
      rintro e w2 ⟨lq, rfl, hc, F⟩
      simp only []
      go_wp2
      exact ⟨_, by kernel_rfl, h.called ok (8, 35, fun v => ∃ lq, v = fe lq ∧ Is lq ((inv ((dE * (y * y)) + 1)))) (by rw [hp]; simp) F ⟨lq, rfl, hc⟩⟩
    · injection (show some _ = some o from ho) with ho; subst ho
      have l29 : L 2 = true := after_on hd (by kernel_rfl)
      obtain ⟨d29, e29, k29⟩ := h.call (2, 29, fun v => ∃ lq, v = fe lq ∧ Is lq (((y * y) - 1))) (by rw [hp]; simp) l29
      have K29 := Lib.hid k29
      have l35 : L 8 = true := after_on hd (by kernel_rfl)
      obtain ⟨d35, e35, k35⟩ := h.call (8, 35, fun v => ∃ lq, v = fe lq ∧ Is lq ((inv ((dE * (y * y)) + 1)))) (by rw [hp]; simp) l35
      have K35 := Lib.hid k35
      have ct : Calls Try.prog 36 #[s 29, s 35] w (fun e w' => ∃ lq, e = .returned (fe lq) ∧ Is lq ((((y * y) - 1) * (inv ((dE * (y * y)) + 1)))) ∧ Fr [] w w') := by
        simp only [] at e29 e35
        rw [e29, e35]
        exact mul_f K29.out K35.out
      clear e29 l29 k29 e35 l35 k35
      simp only [fill]
      go_wp2_with fail
      refine (ct).mono ?_
      rintro e w2 ⟨lq, rfl, hc, F⟩
      simp only []
      go_wp2
      exact ⟨_, by kernel_rfl, h.called ok (9, 36, fun v => ∃ lq, v = fe lq ∧ Is lq ((((y * y) - 1) * (inv ((dE * (y * y)) + 1))))) (by rw [hp]; simp) F ⟨lq, rfl, hc⟩⟩
    · injection (show some _ = some o from ho) with ho; subst ho
      simp only [fill]
      go_wp2
      exact ⟨_, by kernel_rfl, h.made ok (10, 7, .cells (ints .u64 (List.replicate 5 0)) 28) (by rw [hp]; simp)⟩
  intro s w44 h
  obtain ⟨c45, e47, k46⟩ := h.call (1, 28, fun v => ∃ lq, v = fe lq ∧ Is lq (1)) (by rw [hp]; simp) rfl
  obtain ⟨c48, e50, k49⟩ := h.call (2, 29, fun v => ∃ lq, v = fe lq ∧ Is lq (((y * y) - 1))) (by rw [hp]; simp) rfl
  obtain ⟨c51, e53, k52⟩ := h.call (3, 30, fun v => ∃ lq, v = fe lq ∧ Is lq (dE)) (by rw [hp]; simp) rfl
  obtain ⟨c54, e56, k55⟩ := h.call (5, 32, fun v => ∃ lq, v = fe lq ∧ Is lq ((dE * (y * y)))) (by rw [hp]; simp) rfl
  obtain ⟨c57, e59, k58⟩ := h.call (6, 33, fun v => ∃ lq, v = fe lq ∧ Is lq (1)) (by rw [hp]; simp) rfl
  obtain ⟨c60, e62, k61⟩ := h.call (7, 34, fun v => ∃ lq, v = fe lq ∧ Is lq (((dE * (y * y)) + 1))) (by rw [hp]; simp) rfl
  obtain ⟨c63, e65, k64⟩ := h.call (8, 35, fun v => ∃ lq, v = fe lq ∧ Is lq ((inv ((dE * (y * y)) + 1)))) (by rw [hp]; simp) rfl
  obtain ⟨c66, e68, k67⟩ := h.call (9, 36, fun v => ∃ lq, v = fe lq ∧ Is lq ((((y * y) - 1) * (inv ((dE * (y * y)) + 1))))) (by rw [hp]; simp) rfl
  obtain ⟨bk69, e70, l71, m72⟩ := h.room (10, 7, .cells (ints .u64 (List.replicate 5 0)) 28) (by rw [hp]; simp) rfl
  simp only [] at e47 e50 e53 e56 e59 e62 e65 e68 e70
  have h73 := h40.call h.fr
  simp only [fill, e47, e50, e53, e56, e59, e62, e65, e68, e70]
  have h74 := (h73.room m72 (h40.fresh l71) (Nat.le_trans h40.fr.size l71))
  rw [HL38.out] at h74
  clear e47 e50 e53 e56 e59 e62 e65 e68 e70  l71 m72 h73 h ok hp h40 p
  have nc45 := k46.len
  have Hc45 := Lib.hid k46
  clear k46
  have nc48 := k49.len
  have Hc48 := Lib.hid k49
  clear k49
  have nc51 := k52.len
  have Hc51 := Lib.hid k52
  clear k52
  have nc54 := k55.len
  have Hc54 := Lib.hid k55
  clear k55
  have nc57 := k58.len
  have Hc57 := Lib.hid k58
  clear k58
  have nc60 := k61.len
  have Hc60 := Lib.hid k61
  clear k61
  have nc63 := k64.len
  have Hc63 := Lib.hid k64
  clear k64
  have nc66 := k67.len
  have Hc66 := Lib.hid k67
  clear k67
  obtain ⟨L75, hL75⟩ : ∃ L : List (Nat × Obj), L = [(bk69, .cells (ints .u64 (List.replicate 5 0)) 28), (bk35, .cells (ints .u64 c29) 28), (bk10, .cells (ints .u64 c5) 28), (bk2, .cells (ptC (zs 5) (zs 5) (zs 5) (zs 5) false) 49), (bk1, .cells (ints .u8 (C)) 22)] := ⟨_, rfl⟩
  rw [← hL75] at h74
  have HL75 := Lib.hid hL75
  clear hL75
  refine drawn_end (ol := [_]) rfl (by kernel_rfl) ?_
  intro K hK
  have s76 := h74
  rw [HL75.out] at s76
  have f77 := s76.nth 0 rfl
  have t78 := s76.lt 0 rfl
  clear s76
  have s79 := h74
  rw [HL75.out] at s79
  go_wp2_with fail
  clear f77 t78
  refine (root_nm Ho.out Hr.out Hc66.out).mono ?_
  rintro e w80 ⟨c82, rfl, k83, F81⟩
  have nc82 := k83.len
  have Hc82 := Lib.hid k83
  clear k83
  have h84 : OwB w [(bk69, .cells (ints .u64 c66) 28), (bk35, .cells (ints .u64 c29) 28), (bk10, .cells (ints .u64 c5) 28), (bk2, .cells (ptC (zs 5) (zs 5) (zs 5) (zs 5) false) 49), (bk1, .cells (ints .u8 (C)) 22)] w80 := ((s79.set 0 (.cells (ints .u64 c66) 28) rfl)).call F81
  clear F81
  simp only []
  clear s79 h74
  obtain ⟨L85, hL85⟩ : ∃ L : List (Nat × Obj), L = [(bk69, .cells (ints .u64 c66) 28), (bk35, .cells (ints .u64 c29) 28), (bk10, .cells (ints .u64 c5) 28), (bk2, .cells (ptC (zs 5) (zs 5) (zs 5) (zs 5) false) 49), (bk1, .cells (ints .u8 (C)) 22)] := ⟨_, rfl⟩
  rw [← hL85] at h84
  have HL85 := Lib.hid hL85
  clear hL85
  go_wp2_with fail
  have s86 := h84
  rw [HL85.out] at s86
  refine (bytes_f Hc82.out).mono ?_
  rintro e w88 ⟨rfl, F89⟩
  have h90 : OwB w [(w80.heap.size, .cells (ints .u64 c82) 28), (bk69, .cells (ints .u64 c66) 28), (bk35, .cells (ints .u64 c29) 28), (bk10, .cells (ints .u64 c5) 28), (bk2, .cells (ptC (zs 5) (zs 5) (zs 5) (zs 5) false) 49), (bk1, .cells (ints .u8 (C)) 22)] w88 := ((s86.allocN (.cells (ints .u64 c82) 28) (w80.heap.size) (by simp))).call F89
  clear F89
  simp only []
  generalize w80.heap.size = bk87 at h90 ⊢
  clear s86 h84
  obtain ⟨L91, hL91⟩ : ∃ L : List (Nat × Obj), L = [(bk87, .cells (ints .u64 c82) 28), (bk69, .cells (ints .u64 c66) 28), (bk35, .cells (ints .u64 c29) 28), (bk10, .cells (ints .u64 c5) 28), (bk2, .cells (ptC (zs 5) (zs 5) (zs 5) (zs 5) false) 49), (bk1, .cells (ints .u8 (C)) 22)] := ⟨_, rfl⟩
  rw [← hL91] at h90
  have HL91 := Lib.hid hL91
  clear hL91
  have s92 := h90
  rw [HL91.out] at s92
  have f93 := s92.nth 4 rfl
  have t94 := s92.lt 4 rfl
  clear s92
  go_wp2_with fail
  clear f93 t94
  have s95 := h90
  rw [HL91.out] at s95
  refine OwB.named (Q := fun X => bodyPost _ _ _ _ _ X) (show OwB w [(bk87, .cells (ints .u64 c82) 28), (bk69, .cells (ints .u64 c66) 28), (bk35, .cells (ints .u64 c29) 28), (bk10, .cells (ints .u64 c5) 28), (bk2, .cells (ptC (zs 5) (zs 5) (zs 5) (zs 5) false) 49), (bk1, .cells (ints .u8 (C)) 22)] _ from (s95.set 4 (.cells (ptC (zs 5) (zs 5) (zs 5) (zs 5) false) 49) rfl)) ?_
  intro V97 h96
  clear s95 h90
  obtain ⟨L98, hL98⟩ : ∃ L : List (Nat × Obj), L = [(bk87, .cells (ints .u64 c82) 28), (bk69, .cells (ints .u64 c66) 28), (bk35, .cells (ints .u64 c29) 28), (bk10, .cells (ints .u64 c5) 28), (bk2, .cells (ptC (zs 5) (zs 5) (zs 5) (zs 5) false) 49), (bk1, .cells (ints .u8 (C)) 22)] := ⟨_, rfl⟩
  rw [← hL98] at h96
  have HL98 := Lib.hid hL98
  clear hL98
  have s99 := h96
  rw [HL98.out] at s99
  refine ret_cell_tmp rfl rfl rfl ?_
  refine cellRet_of (s99.nth 4 rfl) (by rw [size_ptC len_zs5 len_zs5 len_zs5 len_zs5]; kernel_rfl) ?_
  exact ⟨_, _, rfl, .inl ⟨Or.inr (Or.inr ⟨hb, rfl, h31, eq_of_beq hz⟩), rfl, rfl⟩, s99.fr⟩

end
end Go.Proofs.Ytakhmmnklkckpaa
namespace Go.Proofs.Ytakhmmnklkckpaa
open Go.RowKit Go.Dr

section
variable {w : World}
set_option maxRecDepth 100000 in
set_option maxHeartbeats 8000000 in
theorem cdec_odd (b C : List Int) (y r : Fp) (hl : b.length = 32) (hC : C = lowC b) (lC : C.length = 32) (bC : Byt C) (hy : fromB C = y) (hr : r = rootF (((y * y) - 1) * (inv ((dE * (y * y)) + 1)))) (ho : true = rootOk (((y * y) - 1) * (inv ((dE * (y * y)) + 1)))) (hb : bytesF y = C) (h31 : el b 31 / 128 = 1) (hz : (bytesF r == [0, 0, 0, 0, 0, 0, 0, 0, 0, 0, 0, 0, 0, 0, 0, 0, 0, 0, 0, 0, 0, 0, 0, 0, 0, 0, 0, 0, 0, 0, 0, 0]) = false) : Calls Try.prog 80 #[.agg (ints .u8 b)] w fun e w' => ∃ v ok, e = .returned (.tuple #[v, .bool ok]) ∧ DecV b C y r true v ok ∧ Fr [] w w' := by
  have Hy2 : Hid (fromB (lowC b) = y) := Lib.hid (by rw [← hC]; exact hy)
  have lC2 : (lowC b).length = 32 := by rw [← hC]; exact lC
  have HB2 : Hid (Byt (lowC b)) := Lib.hid (by rw [← hC]; exact bC)
  have HC := Lib.hid hC
  have HB := Lib.hid bC
  have Hy := Lib.hid hy
  have Hr := Lib.hid hr
  clear hC bC hy hr
  have HZ5 := Lib.hid is_zs5
  have Ho := Lib.hid ho
  clear ho
  go_enter Try.func80, Try.ntmps80
  go_wp2_with fail
  refine (of_n Hy2.out lC2 HB2.out).mono ?_
  rintro e w3 ⟨c5, rfl, k6, F4⟩
  have nc5 := k6.len
  have Hc5 := Lib.hid k6
  clear k6
  have h7 : OwB w [(w.heap.size + 1, .cells (ptC (zs 5) (zs 5) (zs 5) (zs 5) false) 49), (w.heap.size, .cells (ints .u8 (lowC b)) 22)] w3 := ((((OwB.start w).allocN (.cells (ints .u8 (lowC b)) 22) w.heap.size rfl).allocN (.cells (ptC (zs 5) (zs 5) (zs 5) (zs 5) false) 49) (w.heap.size + 1) (by simp))).call F4
  clear F4
  simp only []
  generalize w.heap.size + 1 = bk2 at h7 ⊢
  generalize w.heap.size = bk1 at h7 ⊢
  rw [← HC.out] at h7
  obtain ⟨L8, hL8⟩ : ∃ L : List (Nat × Obj), L = [(bk2, .cells (ptC (zs 5) (zs 5) (zs 5) (zs 5) false) 49), (bk1, .cells (ints .u8 (C)) 22)] := ⟨_, rfl⟩
  rw [← hL8] at h7
  have HL8 := Lib.hid hL8
  clear hL8
  go_wp2_with fail
  have s9 := h7
  rw [HL8.out] at s9
  refine OwB.named (Q := fun X => Code.wp _ _ _ _ X) (show OwB w [(w3.heap.size, .cells (ints .u64 c5) 28), (bk2, .cells (ptC (zs 5) (zs 5) (zs 5) (zs 5) false) 49), (bk1, .cells (ints .u8 (C)) 22)] _ from (s9.allocN (.cells (ints .u64 c5) 28) (w3.heap.size) (by simp))) ?_
  intro V12 h11
  generalize w3.heap.size = bk10 at h11 ⊢
  clear s9 h7
  obtain ⟨L13, hL13⟩ : ∃ L : List (Nat × Obj), L = [(bk10, .cells (ints .u64 c5) 28), (bk2, .cells (ptC (zs 5) (zs 5) (zs 5) (zs 5) false) 49), (bk1, .cells (ints .u8 (C)) 22)] := ⟨_, rfl⟩
  rw [← hL13] at h11
  have HL13 := Lib.hid hL13
  clear hL13
  refine drawn_begin 4 (OwB w L13) (by kernel_rfl) ?_
  refine OwB.named (Q := fun X => Go.Dr.wpAnyS Try.prog .any _ _ _ _ _ _ _ X) (h11.drew) ?_
  intro V14 h15
  clear h11
  have s16 := h15
  rw [HL13.out] at s16
  have f17 := s16.nth 0 rfl
  have f18 := s16.nth 2 rfl
  clear s16
  refine drawn_reads (fuel := 2) [0, 2] rfl (by kernel_rfl) (h15) ?_
  repeat (first | (refine rowK_step2 rfl rfl (fun K hK => ?_); go_wp2) | (refine rowK_step rfl (fun K hK => ?_); go_simp; refine hK _ ?_; clear hK K))
  refine rowK_nil ⟨fun w' hw' => ?_, ?_⟩
  · rw [HL13.out] at hw'
    have g19 := hw'.nth 0 rfl
    have g20 := hw'.nth 2 rfl
    clear f17 f18
    repeat (first | (refine rowWp_step2 rfl rfl (fun K hK => ?_); go_wp2) | (refine rowWp_step rfl (fun K hK => ?_); go_simp; refine hK _ ?_; clear hK K))
    exact rowWp_nil rfl
  clear f17 f18
  refine drawn_next 1 (fuel := 1) rfl (by kernel_rfl) ?_
  intro K hK
  go_wp2_with fail
  refine (bytes_f Hc5.out).mono ?_
  rintro e w21 ⟨rfl, F22⟩
  have h23 := (h15).call F22
  clear F22 h15
  simp only []
  go_wp2
  refine ⟨h23, ?_⟩
  refine drawn_reads (fuel := 0) [3] rfl (by kernel_rfl) (h23) ?_
  repeat (first | (refine rowK_step2 rfl rfl (fun K hK => ?_); go_wp2) | (refine rowK_step rfl (fun K hK => ?_); go_simp; refine hK _ ?_; clear hK K))
  refine rowK_nil ⟨fun w' hw' => ?_, ?_⟩
  · skip
    repeat (first | (refine rowWp_step2 rfl rfl (fun K hK => ?_); go_wp2) | (refine rowWp_step rfl (fun K hK => ?_); go_simp; refine hK _ ?_; clear hK K))
    exact rowWp_nil rfl
  refine drawn_end (ol := []) rfl (by kernel_rfl) ?_
  intro K hK
  have s24 := h23
  rw [HL13.out] at s24
  have f25 := s24.nth 0 rfl
  have t26 := s24.lt 0 rfl
  clear s24
  go_wp2_with fail
  clear f25 t26
  refine (mul_f Hc5.out Hc5.out).mono ?_
  rintro e w27 ⟨c29, rfl, k30, F28⟩
  have nc29 := k30.len
  have Hc29 := Lib.hid k30
  clear k30
  have s32 := h23
  rw [HL13.out] at s32
  have h31 : OwB w [(bk10, .cells (ints .u64 c5) 28), (bk2, .cells (ptC (zs 5) (zs 5) (zs 5) (zs 5) false) 49), (bk1, .cells (ints .u8 (C)) 22)] w27 := (s32).call F28
  clear F28
  simp only []
  clear s32 h23
  obtain ⟨L33, hL33⟩ : ∃ L : List (Nat × Obj), L = [(bk10, .cells (ints .u64 c5) 28), (bk2, .cells (ptC (zs 5) (zs 5) (zs 5) (zs 5) false) 49), (bk1, .cells (ints .u8 (C)) 22)] := ⟨_, rfl⟩
  rw [← hL33] at h31
  have HL33 := Lib.hid hL33
  clear hL33
  go_wp2_with fail
  have s34 := h31
  rw [HL33.out] at s34
  refine OwB.named (Q := fun X => Code.wp _ _ _ _ X) (show OwB w [(w27.heap.size, .cells (ints .u64 c29) 28), (bk10, .cells (ints .u64 c5) 28), (bk2, .cells (ptC (zs 5) (zs 5) (zs 5) (zs 5) false) 49), (bk1, .cells (ints .u8 (C)) 22)] _ from (s34.allocN (.cells (ints .u64 c29) 28) (w27.heap.size) (by simp))) ?_
  intro V37 h36
  generalize w27.heap.size = bk35 at h36 ⊢
  clear s34 h31
  obtain ⟨L38, hL38⟩ : ∃ L : List (Nat × Obj), L = [(bk35, .cells (ints .u64 c29) 28), (bk10, .cells (ints .u64 c5) 28), (bk2, .cells (ptC (zs 5) (zs 5) (zs 5) (zs 5) false) 49), (bk1, .cells (ints .u8 (C)) 22)] := ⟨_, rfl⟩
  rw [← hL38] at h36
  have HL38 := Lib.hid hL38
  clear hL38
  refine drawn_begin 11 (OwB w L38) (by kernel_rfl) ?_
  refine OwB.named (Q := fun X => Go.Dr.wpAnyS Try.prog .any _ _ _ _ _ _ _ X) (h36.drew) ?_
  intro V39 h40
  clear h36
  have s41 := h40
  rw [HL38.out] at s41
  have f42 := s41.nth 0 rfl
  clear s41
  refine drawn_reads (fuel := 10) [0, 4] rfl (by kernel_rfl) (h40) ?_
  repeat (first | (refine rowK_step2 rfl rfl (fun K hK => ?_); go_wp2) | (refine rowK_step rfl (fun K hK => ?_); go_simp; refine hK _ ?_; clear hK K))
  refine rowK_nil ⟨fun w' hw' => ?_, ?_⟩
  · rw [HL38.out] at hw'
    have g43 := hw'.nth 0 rfl
    clear f42
    repeat (first | (refine rowWp_step2 rfl rfl (fun K hK => ?_); go_wp2) | (refine rowWp_step rfl (fun K hK => ?_); go_simp; refine hK _ ?_; clear hK K))
    exact rowWp_nil rfl
  clear f42
  obtain ⟨p, hp⟩ : ∃ p : Par, p = ⟨[(1, 28, fun v => ∃ lq, v = fe lq ∧ Is lq (1)), (2, 29, fun v => ∃ lq, v = fe lq ∧ Is lq (((y * y) - 1))), (3, 30, fun v => ∃ lq, v = fe lq ∧ Is lq (dE)), (5, 32, fun v => ∃ lq, v = fe lq ∧ Is lq ((dE * (y * y)))), (6, 33, fun v => ∃ lq, v = fe lq ∧ Is lq (1)), (7, 34, fun v => ∃ lq, v = fe lq ∧ Is lq (((dE * (y * y)) + 1))), (8, 35, fun v => ∃ lq, v = fe lq ∧ Is lq ((inv ((dE * (y * y)) + 1)))), (9, 36, fun v => ∃ lq, v = fe lq ∧ Is lq ((((y * y) - 1) * (inv ((dE * (y * y)) + 1)))))], [(10, 7, .cells (ints .u64 (List.replicate 5 0)) 28)], [0, 4]⟩ := ⟨_, rfl⟩
  have ok : p.ok := by rw [hp]; exact ⟨(by decide : [1, 2, 3, 5, 6, 7, 8, 9, 10].Nodup), (by decide : [28, 29, 30, 32, 33, 34, 35, 36, 7].Nodup)⟩
  refine drawn_inv (rest := 1) [28, 29, 30, 32, 33, 34, 35, 36, 7] (fun L s w => p.Inv V39 L s w) (fun _ => undef) 9 (by kernel_rfl) (fun L s w h => ?_) (by kernel_rfl) ?_ ?_ ?_
  · exact h40.call h.fr
  · refine Par.Inv.start ?_ ?_ ?_ <;> rw [hp] <;> intro i hi <;> simp at hi
    · rcases hi with rfl | rfl <;> rfl
    · rcases hi with rfl | rfl | rfl | rfl | rfl | rfl | rfl | rfl <;> rfl
    · subst hi; rfl
  · intro i o L s w ho hi hL hd h K hK
    rcases (show i = 0 ∨ i = 1 ∨ i = 2 ∨ i = 3 ∨ i = 4 ∨ i = 5 ∨ i = 6 ∨ i = 7 ∨ i = 8 ∨ i = 9 ∨ i = 10 by omega) with rfl | rfl | rfl | rfl | rfl | rfl | rfl | rfl | rfl | rfl | rfl
    · rw [h.row 0 (by rw [hp]; simp)] at hL; cases hL
    · injection (show some _ = some o from ho) with ho; subst ho
      simp only [fill]
      go_wp2_with fail
      refine (one_f).mono ?_
      rintro e w2 ⟨lq, rfl, hc, F⟩
      simp only []
      go_wp2
      exact ⟨_, by kernel_rfl, h.called ok (1, 28, fun v => ∃ lq, v = fe lq ∧ Is lq (1)) (by rw [hp]; simp) F ⟨lq, rfl, hc⟩⟩
    · injection (show some _ = some o from ho) with ho; subst ho
      have l28 : L 1 = true := after_on hd (by kernel_rfl)
      obtain ⟨d28, e28, k28⟩ := h.call (1, 28, fun v => ∃ lq, v = fe lq ∧ Is lq (1)) (by rw [hp]; simp) l28
      have K28 := Lib.hid k28
      have ct : Calls Try.prog 32 #[fe c29, s 28] w (fun e w' => ∃ lq, e = .returned (fe lq) ∧ Is lq (((y * y) - 1)) ∧ Fr [] w w') := by
        simp only [] at e28
        rw [e28]
        exact sub_f Hc29.out K28.out
      clear e28 l28 k28
      simp only [fill]
      go_wp2_with fail
      refine (ct).mono ?_
      rintro e w2 ⟨lq, rfl, hc, F⟩
      simp only []
      go_wp2
      exact ⟨_, by kernel_rfl, h.called ok (2, 29, fun v => ∃ lq, v = fe lq ∧ Is lq (((y * y) - 1))) (by rw [hp]; simp) F ⟨lq, rfl, hc⟩⟩
    · injection (show some _ = some o from ho) with ho; subst ho
      simp only [fill]
      go_wp2_with fail
      refine (factor_f).mono ?_
      rintro e w2 ⟨lq, rfl, hc, F⟩
      simp only []
      go_wp2
      exact ⟨_, by kernel_rfl, h.called ok (3, 30, fun v => ∃ lq, v = fe lq ∧ Is lq (dE)) (by rw [hp]; simp) F ⟨lq, rfl, hc⟩⟩
    · rw [h.row 4 (by rw [hp]; simp)] at hL; cases hL
    · injection (show some _ = some o from ho) with ho; subst ho
      have l30 : L 3 = true := after_on hd (by kernel_rfl)
      obtain ⟨d30, e30, k30⟩ := h.call (3, 30, fun v => ∃ lq, v = fe lq ∧ Is lq (dE)) (by rw [hp]; simp) l30
      have K30 := Lib.hid k30
      have ct : Calls Try.prog 36 #[s 30, fe c29] w (fun e w' => ∃ lq, e = .returned (fe lq) ∧ Is lq ((dE * (y * y))) ∧ Fr [] w w') := by
        simp only [] at e30
        rw [e30]
        exact mul_f K30.out Hc29.out
      clear e30 l30 k30
      simp only [fill]
      go_wp2_with fail
      refine (ct).mono ?_
      rintro e w2 ⟨lq, rfl, hc, F⟩
      simp only []
      go_wp2
      exact ⟨_, by kernel_rfl, h.called ok (5, 32, fun v => ∃ lq, v = fe lq ∧ Is lq ((dE * (y * y)))) (by rw [hp]; simp) F ⟨lq, rfl, hc⟩⟩
    · injection (show some _ = some o from ho) with ho; subst ho
      simp only [fill]
      go_wp2_with fail
      refine (one_f).mono ?_
      rintro e w2 ⟨lq, rfl, hc, F⟩
      simp only []
      go_wp2
      exact ⟨_, by kernel_rfl, h.called ok (6, 33, fun v => ∃ lq, v = fe lq ∧ Is lq (1)) (by rw [hp]; simp) F ⟨lq, rfl, hc⟩⟩
    · injection (show some _ = some o from ho) with ho; subst ho
      have l32 : L 5 = true := after_on hd (by kernel_rfl)
      obtain ⟨d32, e32, k32⟩ := h.call (5, 32, fun v => ∃ lq, v = fe lq ∧ Is lq ((dE * (y * y)))) (by rw [hp]; simp) l32
      have K32 := Lib.hid k32
      have l33 : L 6 = true := after_on hd (by kernel_rfl)
      obtain ⟨d33, e33, k33⟩ := h.call (6, 33, fun v => ∃ lq, v = fe lq ∧ Is lq (1)) (by rw [hp]; simp) l33
      have K33 := Lib.hid k33
      have ct : Calls Try.prog 30 #[s 32, s 33] w (fun e w' => ∃ lq, e = .returned (fe lq) ∧ Is lq (((dE * (y * y)) + 1)) ∧ Fr [] w w') := by
        simp only [] at e32 e33
        rw [e32, e33]
        exact add_f K32.out K33.out
      clear e32 l32 k32 e33 l33 k33
      simp only [fill]
      go_wp2_with fail
      refine (ct).mono ?_
      rintro e w2 ⟨lq, rfl, hc, F⟩
      simp only []
      go_wp2
      exact ⟨_, by kernel_rfl, h.called ok (7, 34, fun v => ∃ lq, v = fe lq ∧ Is lq (((dE * (y * y)) + 1))) (by rw [hp]; simp) F ⟨lq, rfl, hc⟩⟩
    · injection (show some _ = some o from ho) with ho; subst ho
      have l34 : L 7 = true := after_on hd (by kernel_rfl)
      obtain ⟨d34, e34, k34⟩ := h.call (7, 34, fun v => ∃ lq, v = fe lq ∧ Is lq (((dE * (y * y)) + 1))) (by rw [hp]; simp) l34
      have K34 := Lib.hid k34
      have ct : Calls Try.prog 40 #[s 34] w (fun e w' => ∃ lq, e = .returned (fe lq) ∧ Is lq ((inv ((dE * (y * y)) + 1))) ∧ Fr [] w w') := by
        simp only [] at e34
        rw [e34]
        exact inv_f K34.out
      clear e34 l34 k34
      simp only [fill]
      go_wp2_with fail
      refine (ct).mono ?_
      rintro e w2 ⟨lq, rfl, hc, F⟩
      simp only []
      go_wp2
      exact ⟨_, by kernel_rfl, h.called ok (8, 35, fun v => ∃ lq, v = fe lq ∧ Is lq ((inv ((dE * (y * y)) + 1)))) (by rw [hp]; simp) F ⟨lq, rfl, hc⟩⟩
    · injection (show some _ = some o from ho) with ho; subst ho
      have l29 : L 2 = true := after_on hd (by kernel_rfl)
      obtain ⟨d29, e29, k29⟩ := h.call (2, 29, fun v => ∃ lq, v = fe lq ∧ Is lq (((y * y) - 1))) (by rw [hp]; simp) l29
      have K29 := Lib.hid k29
      have l35 : L 8 = true := after_on hd (by kernel_rfl)
      obtain ⟨d35, e35, k35⟩ := h.call (8, 35, fun v => ∃ lq, v = fe lq ∧ Is lq ((inv ((dE * (y * y)) + 1)))) (by rw [hp]; simp) l35
      have K35 := Lib.hid k35
      have ct : Calls Try.prog 36 #[s 29, s 35] w (fun e w' => ∃ lq, e = .returned (fe lq) ∧ Is lq ((((y * y) - 1) * (inv ((dE * (y * y)) + 1)))) ∧ Fr [] w w') := by
        simp only [] at e29 e35
        rw [e29, e35]
        exact mul_f K29.out K35.out
      clear e29 l29 k29 e35 l35 k35
      simp only [fill]
      go_wp2_with fail
      refine (ct).mono ?_
      rintro e w2 ⟨lq, rfl, hc, F⟩
      simp only []
      go_wp2
      exact ⟨_, by kernel_rfl, h.called ok (9, 36, fun v => ∃ lq, v = fe lq ∧ Is lq ((((y * y) - 1) * (inv ((dE * (y * y)) + 1))))) (by rw [hp]; simp) F ⟨lq, rfl, hc⟩⟩
    · injection (show some _ = some o from ho) with ho; subst ho
      simp only [fill]
      go_wp2
      exact ⟨_, by kernel_rfl, h.made ok (10, 7, .cells (ints .u64 (List.replicate 5 0)) 28) (by rw [hp]; simp)⟩
  intro s w44 h
  obtain ⟨c45, e47, k46⟩ := h.call (1, 28, fun v => ∃ lq, v = fe lq ∧ Is lq (1)) (by rw [hp]; simp) rfl
  obtain ⟨c48, e50, k49⟩ := h.call (2, 29, fun v => ∃ lq, v = fe lq ∧ Is lq (((y * y) - 1))) (by rw [hp]; simp) rfl
  obtain ⟨c51, e53, k52⟩ := h.call (3, 30, fun v => ∃ lq, v = fe lq ∧ Is lq (dE)) (by rw [hp]; simp) rfl
  obtain ⟨c54, e56, k55⟩ := h.call (5, 32, fun v => ∃ lq, v = fe lq ∧ Is lq ((dE * (y * y)))) (by rw [hp]; simp) rfl
  obtain ⟨c57, e59, k58⟩ := h.call (6, 33, fun v => ∃ lq, v = fe lq ∧ Is lq (1)) (by rw [hp]; simp) rfl
  obtain ⟨c60, e62, k61⟩ := h.call (7, 34, fun v => ∃ lq, v = fe lq ∧ Is lq (((dE * (y * y)) + 1))) (by rw [hp]; simp) rfl
  obtain ⟨c63, e65, k64⟩ := h.call (8, 35, fun v => ∃ lq, v = fe lq ∧ Is lq ((inv ((dE * (y * y)) + 1)))) (by rw [hp]; simp) rfl
  obtain ⟨c66, e68, k67⟩ := h.call (9, 36, fun v => ∃ lq, v = fe lq ∧ Is lq ((((y * y) - 1) * (inv ((dE * (y * y)) + 1))))) (by rw [hp]; simp) rfl
  obtain ⟨bk69, e70, l71, m72⟩ := h.room (10, 7, .cells (ints .u64 (List.replicate 5 0)) 28) (by rw [hp]; simp) rfl
  simp only [] at e47 e50 e53 e56 e59 e62 e65 e68 e70
  have h73 := h40.call h.fr
  simp only [fill, e47, e50, e53, e56, e59, e62, e65, e68, e70]
  have h74 := (h73.room m72 (h40.fresh l71) (Nat.le_trans h40.fr.size l71))
  rw [HL38.out] at h74
  clear e47 e50 e53 e56 e59 e62 e65 e68 e70  l71 m72 h73 h ok hp h40 p
  have nc45 := k46.len
  have Hc45 := Lib.hid k46
  clear k46
  have nc48 := k49.len
  have Hc48 := Lib.hid k49
  clear k49
  have nc51 := k52.len
  have Hc51 := Lib.hid k52
  clear k52
  have nc54 := k55.len
  have Hc54 := Lib.hid k55
  clear k55
  have nc57 := k58.len
  have Hc57 := Lib.hid k58
  clear k58
  have nc60 := k61.len
  have Hc60 := Lib.hid k61
  clear k61
  have nc63 := k64.len
  have Hc63 := Lib.hid k64
  clear k64
  have nc66 := k67.len
  have Hc66 := Lib.hid k67
  clear k67
  obtain ⟨L75, hL75⟩ : ∃ L : List (Nat × Obj), L = [(bk69, .cells (ints .u64 (List.replicate 5 0)) 28), (bk35, .cells (ints .u64 c29) 28), (bk10, .cells (ints .u64 c5) 28), (bk2, .cells (ptC (zs 5) (zs 5) (zs 5) (zs 5) false) 49), (bk1, .cells (ints .u8 (C)) 22)] := ⟨_, rfl⟩
  rw [← hL75] at h74
  have HL75 := Lib.hid hL75
  clear hL75
  refine drawn_end (ol := [_]) rfl (by kernel_rfl) ?_
  intro K hK
  have s76 := h74
  rw [HL75.out] at s76
  have f77 := s76.nth 0 rfl
  have t78 := s76.lt 0 rfl
  clear s76
  have s79 := h74
  rw [HL75.out] at s79
  go_wp2_with fail
  clear f77 t78
  refine (root_nm Ho.out Hr.out Hc66.out).mono ?_
  rintro e w80 ⟨c82, rfl, k83, F81⟩
  have nc82 := k83.len
  have Hc82 := Lib.hid k83
  clear k83
  have h84 : OwB w [(bk69, .cells (ints .u64 c66) 28), (bk35, .cells (ints .u64 c29) 28), (bk10, .cells (ints .u64 c5) 28), (bk2, .cells (ptC (zs 5) (zs 5) (zs 5) (zs 5) false) 49), (bk1, .cells (ints .u8 (C)) 22)] w80 := ((s79.set 0 (.cells (ints .u64 c66) 28) rfl)).call F81
  clear F81
  simp only []
  clear s79 h74
  obtain ⟨L85, hL85⟩ : ∃ L : List (Nat × Obj), L = [(bk69, .cells (ints .u64 c66) 28), (bk35, .cells (ints .u64 c29) 28), (bk10, .cells (ints .u64 c5) 28), (bk2, .cells (ptC (zs 5) (zs 5) (zs 5) (zs 5) false) 49), (bk1, .cells (ints .u8 (C)) 22)] := ⟨_, rfl⟩
  rw [← hL85] at h84
  have HL85 := Lib.hid hL85
  clear hL85
  go_wp2_with fail
  have s86 := h84
  rw [HL85.out] at s86
  refine (bytes_f Hc82.out).mono ?_
  rintro e w88 ⟨rfl, F89⟩
  have h90 : OwB w [(w80.heap.size, .cells (ints .u64 c82) 28), (bk69, .cells (ints .u64 c66) 28), (bk35, .cells (ints .u64 c29) 28), (bk10, .cells (ints .u64 c5) 28), (bk2, .cells (ptC (zs 5) (zs 5) (zs 5) (zs 5) false) 49), (bk1, .cells (ints .u8 (C)) 22)] w88 := ((s86.allocN (.cells (ints .u64 c82) 28) (w80.heap.size) (by simp))).call F89
  clear F89
  simp only []
  generalize w80.heap.size = bk87 at h90 ⊢
  clear s86 h84
  obtain ⟨L91, hL91⟩ : ∃ L : List (Nat × Obj), L = [(bk87, .cells (ints .u64 c82) 28), (bk69, .cells (ints .u64 c66) 28), (bk35, .cells (ints .u64 c29) 28), (bk10, .cells (ints .u64 c5) 28), (bk2, .cells (ptC (zs 5) (zs 5) (zs 5) (zs 5) false) 49), (bk1, .cells (ints .u8 (C)) 22)] := ⟨_, rfl⟩
  rw [← hL91] at h90
  have HL91 := Lib.hid hL91
  clear hL91
  have s92 := h90
  rw [HL91.out] at s92
  have f93 := s92.nth 0 rfl
  clear s92
  go_wp2_with fail
  clear f93
  refine (neg_f Hc82.out).mono ?_
  rintro e w94 ⟨c96, rfl, k97, F95⟩
  have nc96 := k97.len
  have Hc96 := Lib.hid k97
  clear k97
  have s99 := h90
  rw [HL91.out] at s99
  have h98 : OwB w [(bk87, .cells (ints .u64 c82) 28), (bk69, .cells (ints .u64 c66) 28), (bk35, .cells (ints .u64 c29) 28), (bk10, .cells (ints .u64 c5) 28), (bk2, .cells (ptC (zs 5) (zs 5) (zs 5) (zs 5) false) 49), (bk1, .cells (ints .u8 (C)) 22)] w94 := (s99).call F95
  clear F95
  simp only []
  clear s99 h90
  obtain ⟨L100, hL100⟩ : ∃ L : List (Nat × Obj), L = [(bk87, .cells (ints .u64 c82) 28), (bk69, .cells (ints .u64 c66) 28), (bk35, .cells (ints .u64 c29) 28), (bk10, .cells (ints .u64 c5) 28), (bk2, .cells (ptC (zs 5) (zs 5) (zs 5) (zs 5) false) 49), (bk1, .cells (ints .u8 (C)) 22)] := ⟨_, rfl⟩
  rw [← hL100] at h98
  have HL100 := Lib.hid hL100
  clear hL100
  have s101 := h98
  rw [HL100.out] at s101
  have f102 := s101.nth 0 rfl
  have t103 := s101.lt 0 rfl
  clear s101
  go_wp2_with fail
  clear f102 t103
  have s104 := h98
  rw [HL100.out] at s104
  refine OwB.named (Q := fun X => Code.wp _ _ _ _ X) (show OwB w [(bk87, .cells (ints .u64 c96) 28), (bk69, .cells (ints .u64 c66) 28), (bk35, .cells (ints .u64 c29) 28), (bk10, .cells (ints .u64 c5) 28), (bk2, .cells (ptC (zs 5) (zs 5) (zs 5) (zs 5) false) 49), (bk1, .cells (ints .u8 (C)) 22)] _ from (s104.set 0 (.cells (ints .u64 c96) 28) rfl)) ?_
  intro V106 h105
  clear s104 h98
  obtain ⟨L107, hL107⟩ : ∃ L : List (Nat × Obj), L = [(bk87, .cells (ints .u64 c96) 28), (bk69, .cells (ints .u64 c66) 28), (bk35, .cells (ints .u64 c29) 28), (bk10, .cells (ints .u64 c5) 28), (bk2, .cells (ptC (zs 5) (zs 5) (zs 5) (zs 5) false) 49), (bk1, .cells (ints .u8 (C)) 22)] := ⟨_, rfl⟩
  rw [← hL107] at h105
  have HL107 := Lib.hid hL107
  clear hL107
  refine drawn_begin 7 (OwB w L107) (by kernel_rfl) ?_
  refine OwB.named (Q := fun X => Go.Dr.wpAnyS Try.prog .any _ _ _ _ _ _ _ X) (h105.drew) ?_
  intro V108 h109
  clear h105
  have s110 := h109
  rw [HL107.out] at s110
  have f111 := s110.nth 0 rfl
  have f112 := s110.nth 3 rfl
  clear s110
  refine drawn_reads (fuel := 5) [0, 1, 3, 4] rfl (by kernel_rfl) (h109) ?_
  repeat (first | (refine rowK_step2 rfl rfl (fun K hK => ?_); go_wp2) | (refine rowK_step rfl (fun K hK => ?_); go_simp; refine hK _ ?_; clear hK K))
  refine rowK_nil ⟨fun w' hw' => ?_, ?_⟩
  · rw [HL107.out] at hw'
    have g113 := hw'.nth 0 rfl
    have g114 := hw'.nth 3 rfl
    clear f111 f112
    repeat (first | (refine rowWp_step2 rfl rfl (fun K hK => ?_); go_wp2) | (refine rowWp_step rfl (fun K hK => ?_); go_simp; refine hK _ ?_; clear hK K))
    exact rowWp_nil rfl
  clear f111 f112
  refine drawn_next 2 (fuel := 4) rfl (by kernel_rfl) ?_
  intro K hK
  go_wp2_with fail
  refine (one_f).mono ?_
  rintro e w115 ⟨c117, rfl, k118, F116⟩
  have nc117 := k118.len
  have Hc117 := Lib.hid k118
  clear k118
  have h119 := (h109).call F116
  clear F116 h109
  simp only []
  go_wp2
  refine ⟨h119, ?_⟩
  refine drawn_next 5 (fuel := 3) rfl (by kernel_rfl) ?_
  intro K hK
  go_wp2_with fail
  refine (mul_f Hc96.out Hc5.out).mono ?_
  rintro e w120 ⟨c122, rfl, k123, F121⟩
  have nc122 := k123.len
  have Hc122 := Lib.hid k123
  clear k123
  have h124 := (h119).call F121
  clear F121 h119
  simp only []
  go_wp2
  refine ⟨h124, ?_⟩
  refine drawn_reads (fuel := 2) [6] rfl (by kernel_rfl) (h124) ?_
  repeat (first | (refine rowK_step2 rfl rfl (fun K hK => ?_); go_wp2) | (refine rowK_step rfl (fun K hK => ?_); go_simp; refine hK _ ?_; clear hK K))
  refine rowK_nil ⟨fun w' hw' => ?_, ?_⟩
  · skip
    repeat (first | (refine rowWp_step2 rfl rfl (fun K hK => ?_); go_wp2) | (refine rowWp_step rfl (fun K hK => ?_); go_simp; refine hK _ ?_; clear hK K))
    exact rowWp_nil rfl
  refine drawn_end (ol := [_, _]) rfl (by kernel_rfl) ?_
  intro K hK
  have s125 := h124
  rw [HL107.out] at s125
  have f126 := s125.nth 4 rfl
  have t127 := s125.lt 4 rfl
  clear s125
  have s128 := h124
  rw [HL107.out] at s128
  go_wp2_with fail
  clear f126 t127
  refine OwB.named (Q := fun X => bodyPost _ _ _ _ _ X) (show OwB w [(bk87, .cells (ints .u64 c96) 28), (bk69, .cells (ints .u64 c66) 28), (bk35, .cells (ints .u64 c29) 28), (bk10, .cells (ints .u64 c5) 28), (bk2, .cells (ptC c96 c5 c117 c122 true) 49), (bk1, .cells (ints .u8 (C)) 22)] _ from (s128.set 4 (.cells (ptC c96 c5 c117 c122 true) 49) rfl)) ?_
  intro V130 h129
  clear s128 h124
  obtain ⟨L131, hL131⟩ : ∃ L : List (Nat × Obj), L = [(bk87, .cells (ints .u64 c96) 28), (bk69, .cells (ints .u64 c66) 28), (bk35, .cells (ints .u64 c29) 28), (bk10, .cells (ints .u64 c5) 28), (bk2, .cells (ptC c96 c5 c117 c122 true) 49), (bk1, .cells (ints .u8 (C)) 22)] := ⟨_, rfl⟩
  rw [← hL131] at h129
  have HL131 := Lib.hid hL131
  clear hL131
  have s132 := h129
  rw [HL131.out] at s132
  refine ret_cell_tmp rfl rfl rfl ?_
  refine cellRet_of (s132.nth 4 rfl) (by rw [size_ptC nc96 nc5 nc117 nc122]; kernel_rfl) ?_
  exact ⟨_, _, rfl, .inr ⟨_, ⟨hb, rfl, Or.inr ⟨h31, (fun e => by rw [beq_eq_false_iff_ne] at hz; exact hz e), rfl⟩⟩, rfl, c96, c5, c117, c122, rfl, Hc96.out, Hc5.out, Hc117.out, Hc122.out⟩, s132.fr⟩

end
end Go.Proofs.Ytakhmmnklkckpaa
