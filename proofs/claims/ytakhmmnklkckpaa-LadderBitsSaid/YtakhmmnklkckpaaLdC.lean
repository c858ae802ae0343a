/- The document's sum and double. -/
import Derived.Test.YtakhmmnklkckpaaLdA
namespace Go.Proofs.Ytakhmmnklkckpaa
open Go.RowKit Go.Dr

section
variable {w : World}
set_option maxRecDepth 100000 in
set_option maxHeartbeats 4000000 in
theorem dsum_f (A B C D X : Fp) : Calls Try.prog 78 #[dF A, dF B, dF C, dF D, dF X] w fun e w' => e = .returned (.tuple #[dF (((A * C) - (B * D)) * ((A * C) - (B * D))), dF (X * (((A * D) - (B * C)) * ((A * D) - (B * C))))]) ∧ Fr [] w w' := by
  unfold dF
  go_enter Try.func78, Try.ntmps78
  go_wp2_with fail
  refine Own.named (Q := fun X => Code.wp _ _ _ _ X) (show Own w [(w.heap.size + 6, .cells (ints .i64 (List.replicate 16 0)) 32), (w.heap.size + 5, .cells (ints .i64 (List.replicate 16 0)) 32), (w.heap.size + 4, .cells (ints .i64 (digs (X).val)) 32), (w.heap.size + 3, .cells (ints .i64 (digs (D).val)) 32), (w.heap.size + 2, .cells (ints .i64 (digs (C).val)) 32), (w.heap.size + 1, .cells (ints .i64 (digs (B).val)) 32), (w.heap.size, .cells (ints .i64 (digs (A).val)) 32)] _ from ((((((((Own.start w).allocN (.cells (ints .i64 (digs (A).val)) 32) w.heap.size rfl).allocN (.cells (ints .i64 (digs (B).val)) 32) (w.heap.size + 1) (by simp)).allocN (.cells (ints .i64 (digs (C).val)) 32) (w.heap.size + 2) (by simp)).allocN (.cells (ints .i64 (digs (D).val)) 32) (w.heap.size + 3) (by simp)).allocN (.cells (ints .i64 (digs (X).val)) 32) (w.heap.size + 4) (by simp)).allocN (.cells (ints .i64 (List.replicate 16 0)) 32) (w.heap.size + 5) (by simp)).allocN (.cells (ints .i64 (List.replicate 16 0)) 32) (w.heap.size + 6) (by simp))) ?_
  intro V9 h8
  generalize w.heap.size + 6 = bk7 at h8 ⊢
  generalize w.heap.size + 5 = bk6 at h8 ⊢
  generalize w.heap.size + 4 = bk5 at h8 ⊢
  generalize w.heap.size + 3 = bk4 at h8 ⊢
  generalize w.heap.size + 2 = bk3 at h8 ⊢
  generalize w.heap.size + 1 = bk2 at h8 ⊢
  generalize w.heap.size = bk1 at h8 ⊢
  obtain ⟨L10, hL10⟩ : ∃ L : List (Nat × Obj), L = [(bk7, .cells (ints .i64 (List.replicate 16 0)) 32), (bk6, .cells (ints .i64 (List.replicate 16 0)) 32), (bk5, .cells (ints .i64 (digs (X).val)) 32), (bk4, .cells (ints .i64 (digs (D).val)) 32), (bk3, .cells (ints .i64 (digs (C).val)) 32), (bk2, .cells (ints .i64 (digs (B).val)) 32), (bk1, .cells (ints .i64 (digs (A).val)) 32)] := ⟨_, rfl⟩
  rw [← hL10] at h8
  have HL10 := Lib.hid hL10
  clear hL10
  refine drawn_begin 8 (Own w L10) (by kernel_rfl) ?_
  have s11 := h8.drew
  rw [HL10.out] at s11
  have f12 := s11.nth 6 rfl
  have f13 := s11.nth 4 rfl
  have f14 := s11.nth 5 rfl
  have f15 := s11.nth 3 rfl
  clear s11
  refine drawn_reads (fuel := 5) [0, 1, 3, 4] rfl (by kernel_rfl) (h8.drew) ?_
  repeat (first | (refine rowK_step2 rfl rfl (fun K hK => ?_); go_wp2) | (refine rowK_step rfl (fun K hK => ?_); go_simp; refine hK _ ?_; clear hK K))
  refine rowK_nil ⟨fun w' hw' => ?_, ?_⟩
  · rw [HL10.out] at hw'
    have g16 := hw'.nth 6 rfl
    have g17 := hw'.nth 4 rfl
    have g18 := hw'.nth 5 rfl
    have g19 := hw'.nth 3 rfl
    clear f12 f13 f14 f15
    repeat (first | (refine rowWp_step2 rfl rfl (fun K hK => ?_); go_wp2) | (refine rowWp_step rfl (fun K hK => ?_); go_simp; refine hK _ ?_; clear hK K))
    exact rowWp_nil rfl
  clear f12 f13 f14 f15
  obtain ⟨p, hp⟩ : ∃ p : Par, p = ⟨[(2, 16, fun v => v = dF ((A * C))), (5, 19, fun v => v = dF ((B * D))), (6, 20, fun v => v = dF (((A * C) - (B * D))))], [(7, 12, .cells (ints .i64 (List.replicate 16 0)) 32)], [0, 1, 3, 4]⟩ := ⟨_, rfl⟩
  have ok : p.ok := by rw [hp]; exact ⟨(by decide : [2, 5, 6, 7].Nodup), (by decide : [16, 19, 20, 12].Nodup)⟩
  refine drawn_inv (rest := 1) [16, 19, 20, 12] (fun L s w => p.Inv V9.drew L s w) (fun _ => undef) 4 (by kernel_rfl) (fun L s w h => ?_) rfl ?_ ?_ ?_
  · exact (h8.drew).call h.fr
  · refine Par.Inv.start ?_ ?_ ?_ <;> rw [hp] <;> intro i hi <;> simp at hi
    · rcases hi with rfl | rfl | rfl | rfl <;> rfl
    · rcases hi with rfl | rfl | rfl <;> rfl
    · subst hi; rfl
  · intro i o L s w ho hi hL hd h K hK
    rcases (show i = 0 ∨ i = 1 ∨ i = 2 ∨ i = 3 ∨ i = 4 ∨ i = 5 ∨ i = 6 ∨ i = 7 by omega) with rfl | rfl | rfl | rfl | rfl | rfl | rfl | rfl
    · rw [h.row 0 (by rw [hp]; simp)] at hL; cases hL
    · rw [h.row 1 (by rw [hp]; simp)] at hL; cases hL
    · injection (show some _ = some o from ho) with ho; subst ho
      simp only [fill]
      go_wp2_with fail
      refine (rmul_f A C).mono ?_
      rintro e w2 ⟨rfl, F⟩
      simp only []
      go_wp2
      exact ⟨_, by kernel_rfl, h.called ok (2, 16, fun v => v = dF ((A * C))) (by rw [hp]; simp) F rfl⟩
    · rw [h.row 3 (by rw [hp]; simp)] at hL; cases hL
    · rw [h.row 4 (by rw [hp]; simp)] at hL; cases hL
    · injection (show some _ = some o from ho) with ho; subst ho
      simp only [fill]
      go_wp2_with fail
      refine (rmul_f B D).mono ?_
      rintro e w2 ⟨rfl, F⟩
      simp only []
      go_wp2
      exact ⟨_, by kernel_rfl, h.called ok (5, 19, fun v => v = dF ((B * D))) (by rw [hp]; simp) F rfl⟩
    · injection (show some _ = some o from ho) with ho; subst ho
      have l16 : L 2 = true := after_on hd (by kernel_rfl)
      have e16 := h.call (2, 16, fun v => v = dF ((A * C))) (by rw [hp]; simp) l16
      have l19 : L 5 = true := after_on hd (by kernel_rfl)
      have e19 := h.call (5, 19, fun v => v = dF ((B * D))) (by rw [hp]; simp) l19
      have ct : Calls Try.prog 33 #[s 16, s 19] w (fun e w' => e = .returned (dF (((A * C) - (B * D)))) ∧ Fr [] w w') := by
        simp only [] at e16 e19
        rw [e16, e19]
        exact rsub_f (A * C) (B * D)
      clear e16 l16 e19 l19
      simp only [fill]
      go_wp2_with fail
      refine (ct).mono ?_
      rintro e w2 ⟨rfl, F⟩
      simp only []
      go_wp2
      exact ⟨_, by kernel_rfl, h.called ok (6, 20, fun v => v = dF (((A * C) - (B * D)))) (by rw [hp]; simp) F rfl⟩
    · injection (show some _ = some o from ho) with ho; subst ho
      simp only [fill]
      go_wp2
      exact ⟨_, by kernel_rfl, h.made ok (7, 12, .cells (ints .i64 (List.replicate 16 0)) 32) (by rw [hp]; simp)⟩
  intro s w20 h
  have e21 := h.call (2, 16, fun v => v = dF ((A * C))) (by rw [hp]; simp) rfl
  have e22 := h.call (5, 19, fun v => v = dF ((B * D))) (by rw [hp]; simp) rfl
  have e23 := h.call (6, 20, fun v => v = dF (((A * C) - (B * D)))) (by rw [hp]; simp) rfl
  obtain ⟨bk24, e25, l26, m27⟩ := h.room (7, 12, .cells (ints .i64 (List.replicate 16 0)) 32) (by rw [hp]; simp) rfl
  simp only [] at e21 e22 e23 e25
  have h28 := (h8.drew).call h.fr
  simp only [fill, e21, e22, e23, e25]
  have h29 := (h28.room m27 (h8.fresh l26) (Nat.le_trans h8.fr.size l26))
  rw [HL10.out] at h29
  clear e21 e22 e23 e25  l26 m27 h28 h ok hp h8 p
  obtain ⟨L30, hL30⟩ : ∃ L : List (Nat × Obj), L = [(bk24, .cells (ints .i64 (List.replicate 16 0)) 32), (bk7, .cells (ints .i64 (List.replicate 16 0)) 32), (bk6, .cells (ints .i64 (List.replicate 16 0)) 32), (bk5, .cells (ints .i64 (digs (X).val)) 32), (bk4, .cells (ints .i64 (digs (D).val)) 32), (bk3, .cells (ints .i64 (digs (C).val)) 32), (bk2, .cells (ints .i64 (digs (B).val)) 32), (bk1, .cells (ints .i64 (digs (A).val)) 32)] := ⟨_, rfl⟩
  rw [← hL30] at h29
  have HL30 := Lib.hid hL30
  clear hL30
  refine drawn_end (ol := [_]) rfl (by kernel_rfl) ?_
  intro K hK
  have s31 := h29
  rw [HL30.out] at s31
  have f32 := s31.nth 0 rfl
  have t33 := s31.lt 0 rfl
  clear s31
  have s34 := h29
  rw [HL30.out] at s34
  go_wp2_with fail
  clear f32 t33
  refine Own.named (Q := fun X => Code.wp _ _ _ _ X) (show Own w [(bk24, .cells (ints .i64 (digs (((A * C) - (B * D))).val)) 32), (bk7, .cells (ints .i64 (List.replicate 16 0)) 32), (bk6, .cells (ints .i64 (List.replicate 16 0)) 32), (bk5, .cells (ints .i64 (digs (X).val)) 32), (bk4, .cells (ints .i64 (digs (D).val)) 32), (bk3, .cells (ints .i64 (digs (C).val)) 32), (bk2, .cells (ints .i64 (digs (B).val)) 32), (bk1, .cells (ints .i64 (digs (A).val)) 32)] _ from (s34.set 0 (.cells (ints .i64 (digs (((A * C) - (B * D))).val)) 32) rfl)) ?_
  intro V36 h35
  clear s34 h29
  obtain ⟨L37, hL37⟩ : ∃ L : List (Nat × Obj), L = [(bk24, .cells (ints .i64 (digs (((A * C) - (B * D))).val)) 32), (bk7, .cells (ints .i64 (List.replicate 16 0)) 32), (bk6, .cells (ints .i64 (List.replicate 16 0)) 32), (bk5, .cells (ints .i64 (digs (X).val)) 32), (bk4, .cells (ints .i64 (digs (D).val)) 32), (bk3, .cells (ints .i64 (digs (C).val)) 32), (bk2, .cells (ints .i64 (digs (B).val)) 32), (bk1, .cells (ints .i64 (digs (A).val)) 32)] := ⟨_, rfl⟩
  rw [← hL37] at h35
  have HL37 := Lib.hid hL37
  clear hL37
  refine drawn_begin 8 (Own w L37) (by kernel_rfl) ?_
  have s38 := h35.drew
  rw [HL37.out] at s38
  have f39 := s38.nth 7 rfl
  have f40 := s38.nth 4 rfl
  have f41 := s38.nth 6 rfl
  have f42 := s38.nth 5 rfl
  clear s38
  refine drawn_reads (fuel := 5) [0, 1, 3, 4] rfl (by kernel_rfl) (h35.drew) ?_
  repeat (first | (refine rowK_step2 rfl rfl (fun K hK => ?_); go_wp2) | (refine rowK_step rfl (fun K hK => ?_); go_simp; refine hK _ ?_; clear hK K))
  refine rowK_nil ⟨fun w' hw' => ?_, ?_⟩
  · rw [HL37.out] at hw'
    have g43 := hw'.nth 7 rfl
    have g44 := hw'.nth 4 rfl
    have g45 := hw'.nth 6 rfl
    have g46 := hw'.nth 5 rfl
    clear f39 f40 f41 f42
    repeat (first | (refine rowWp_step2 rfl rfl (fun K hK => ?_); go_wp2) | (refine rowWp_step rfl (fun K hK => ?_); go_simp; refine hK _ ?_; clear hK K))
    exact rowWp_nil rfl
  clear f39 f40 f41 f42
  obtain ⟨p, hp⟩ : ∃ p : Par, p = ⟨[(2, 23, fun v => v = dF ((A * D))), (5, 26, fun v => v = dF ((B * C))), (6, 27, fun v => v = dF (((A * D) - (B * C))))], [(7, 13, .cells (ints .i64 (List.replicate 16 0)) 32)], [0, 1, 3, 4]⟩ := ⟨_, rfl⟩
  have ok : p.ok := by rw [hp]; exact ⟨(by decide : [2, 5, 6, 7].Nodup), (by decide : [23, 26, 27, 13].Nodup)⟩
  refine drawn_inv (rest := 1) [23, 26, 27, 13] (fun L s w => p.Inv V36.drew L s w) (fun _ => undef) 4 (by kernel_rfl) (fun L s w h => ?_) rfl ?_ ?_ ?_
  · exact (h35.drew).call h.fr
  · refine Par.Inv.start ?_ ?_ ?_ <;> rw [hp] <;> intro i hi <;> simp at hi
    · rcases hi with rfl | rfl | rfl | rfl <;> rfl
    · rcases hi with rfl | rfl | rfl <;> rfl
    · subst hi; rfl
  · intro i o L s w ho hi hL hd h K hK
    rcases (show i = 0 ∨ i = 1 ∨ i = 2 ∨ i = 3 ∨ i = 4 ∨ i = 5 ∨ i = 6 ∨ i = 7 by omega) with rfl | rfl | rfl | rfl | rfl | rfl | rfl | rfl
    · rw [h.row 0 (by rw [hp]; simp)] at hL; cases hL
    · rw [h.row 1 (by rw [hp]; simp)] at hL; cases hL
    · injection (show some _ = some o from ho) with ho; subst ho
      simp only [fill]
      go_wp2_with fail
      refine (rmul_f A D).mono ?_
      rintro e w2 ⟨rfl, F⟩
      simp only []
      go_wp2
      exact ⟨_, by kernel_rfl, h.called ok (2, 23, fun v => v = dF ((A * D))) (by rw [hp]; simp) F rfl⟩
    · rw [h.row 3 (by rw [hp]; simp)] at hL; cases hL
    · rw [h.row 4 (by rw [hp]; simp)] at hL; cases hL
    · injection (show some _ = some o from ho) with ho; subst ho
      simp only [fill]
      go_wp2_with fail
      refine (rmul_f B C).mono ?_
      rintro e w2 ⟨rfl, F⟩
      simp only []
      go_wp2
      exact ⟨_, by kernel_rfl, h.called ok (5, 26, fun v => v = dF ((B * C))) (by rw [hp]; simp) F rfl⟩
    · injection (show some _ = some o from ho) with ho; subst ho
      have l23 : L 2 = true := after_on hd (by kernel_rfl)
      have e23 := h.call (2, 23, fun v => v = dF ((A * D))) (by rw [hp]; simp) l23
      have l26 : L 5 = true := after_on hd (by kernel_rfl)
      have e26 := h.call (5, 26, fun v => v = dF ((B * C))) (by rw [hp]; simp) l26
      have ct : Calls Try.prog 33 #[s 23, s 26] w (fun e w' => e = .returned (dF (((A * D) - (B * C)))) ∧ Fr [] w w') := by
        simp only [] at e23 e26
        rw [e23, e26]
        exact rsub_f (A * D) (B * C)
      clear e23 l23 e26 l26
      simp only [fill]
      go_wp2_with fail
      refine (ct).mono ?_
      rintro e w2 ⟨rfl, F⟩
      simp only []
      go_wp2
      exact ⟨_, by kernel_rfl, h.called ok (6, 27, fun v => v = dF (((A * D) - (B * C)))) (by rw [hp]; simp) F rfl⟩
    · injection (show some _ = some o from ho) with ho; subst ho
      simp only [fill]
      go_wp2
      exact ⟨_, by kernel_rfl, h.made ok (7, 13, .cells (ints .i64 (List.replicate 16 0)) 32) (by rw [hp]; simp)⟩
  intro s w47 h
  have e48 := h.call (2, 23, fun v => v = dF ((A * D))) (by rw [hp]; simp) rfl
  have e49 := h.call (5, 26, fun v => v = dF ((B * C))) (by rw [hp]; simp) rfl
  have e50 := h.call (6, 27, fun v => v = dF (((A * D) - (B * C)))) (by rw [hp]; simp) rfl
  obtain ⟨bk51, e52, l53, m54⟩ := h.room (7, 13, .cells (ints .i64 (List.replicate 16 0)) 32) (by rw [hp]; simp) rfl
  simp only [] at e48 e49 e50 e52
  have h55 := (h35.drew).call h.fr
  simp only [fill, e48, e49, e50, e52]
  have h56 := (h55.room m54 (h35.fresh l53) (Nat.le_trans h35.fr.size l53))
  rw [HL37.out] at h56
  clear e48 e49 e50 e52  l53 m54 h55 h ok hp h35 p
  obtain ⟨L57, hL57⟩ : ∃ L : List (Nat × Obj), L = [(bk51, .cells (ints .i64 (List.replicate 16 0)) 32), (bk24, .cells (ints .i64 (digs (((A * C) - (B * D))).val)) 32), (bk7, .cells (ints .i64 (List.replicate 16 0)) 32), (bk6, .cells (ints .i64 (List.replicate 16 0)) 32), (bk5, .cells (ints .i64 (digs (X).val)) 32), (bk4, .cells (ints .i64 (digs (D).val)) 32), (bk3, .cells (ints .i64 (digs (C).val)) 32), (bk2, .cells (ints .i64 (digs (B).val)) 32), (bk1, .cells (ints .i64 (digs (A).val)) 32)] := ⟨_, rfl⟩
  rw [← hL57] at h56
  have HL57 := Lib.hid hL57
  clear hL57
  refine drawn_end (ol := [_]) rfl (by kernel_rfl) ?_
  intro K hK
  have s58 := h56
  rw [HL57.out] at s58
  have f59 := s58.nth 0 rfl
  have t60 := s58.lt 0 rfl
  clear s58
  have s61 := h56
  rw [HL57.out] at s61
  go_wp2_with fail
  clear f59 t60
  refine Own.named (Q := fun X => Code.wp _ _ _ _ X) (show Own w [(bk51, .cells (ints .i64 (digs (((A * D) - (B * C))).val)) 32), (bk24, .cells (ints .i64 (digs (((A * C) - (B * D))).val)) 32), (bk7, .cells (ints .i64 (List.replicate 16 0)) 32), (bk6, .cells (ints .i64 (List.replicate 16 0)) 32), (bk5, .cells (ints .i64 (digs (X).val)) 32), (bk4, .cells (ints .i64 (digs (D).val)) 32), (bk3, .cells (ints .i64 (digs (C).val)) 32), (bk2, .cells (ints .i64 (digs (B).val)) 32), (bk1, .cells (ints .i64 (digs (A).val)) 32)] _ from (s61.set 0 (.cells (ints .i64 (digs (((A * D) - (B * C))).val)) 32) rfl)) ?_
  intro V63 h62
  clear s61 h56
  obtain ⟨L64, hL64⟩ : ∃ L : List (Nat × Obj), L = [(bk51, .cells (ints .i64 (digs (((A * D) - (B * C))).val)) 32), (bk24, .cells (ints .i64 (digs (((A * C) - (B * D))).val)) 32), (bk7, .cells (ints .i64 (List.replicate 16 0)) 32), (bk6, .cells (ints .i64 (List.replicate 16 0)) 32), (bk5, .cells (ints .i64 (digs (X).val)) 32), (bk4, .cells (ints .i64 (digs (D).val)) 32), (bk3, .cells (ints .i64 (digs (C).val)) 32), (bk2, .cells (ints .i64 (digs (B).val)) 32), (bk1, .cells (ints .i64 (digs (A).val)) 32)] := ⟨_, rfl⟩
  rw [← hL64] at h62
  have HL64 := Lib.hid hL64
  clear hL64
  refine drawn_begin 8 (Own w L64) (by kernel_rfl) ?_
  have s65 := h62.drew
  rw [HL64.out] at s65
  have f66 := s65.nth 1 rfl
  have f67 := s65.nth 4 rfl
  have f68 := s65.nth 0 rfl
  clear s65
  refine drawn_reads (fuel := 5) [0, 1, 3, 4, 5] rfl (by kernel_rfl) (h62.drew) ?_
  repeat (first | (refine rowK_step2 rfl rfl (fun K hK => ?_); go_wp2) | (refine rowK_step rfl (fun K hK => ?_); go_simp; refine hK _ ?_; clear hK K))
  refine rowK_nil ⟨fun w' hw' => ?_, ?_⟩
  · rw [HL64.out] at hw'
    have g69 := hw'.nth 1 rfl
    have g70 := hw'.nth 4 rfl
    have g71 := hw'.nth 0 rfl
    clear f66 f67 f68
    repeat (first | (refine rowWp_step2 rfl rfl (fun K hK => ?_); go_wp2) | (refine rowWp_step rfl (fun K hK => ?_); go_simp; refine hK _ ?_; clear hK K))
    exact rowWp_nil rfl
  clear f66 f67 f68
  refine drawn_next 2 (fuel := 4) rfl (by kernel_rfl) ?_
  intro K hK
  go_wp2_with fail
  refine (rmul_f ((A * C) - (B * D)) ((A * C) - (B * D))).mono ?_
  rintro e w72 ⟨rfl, F73⟩
  have h74 := (h62.drew).call F73
  clear F73 h62
  simp only []
  go_wp2
  refine ⟨h74, ?_⟩
  refine drawn_next 6 (fuel := 3) rfl (by kernel_rfl) ?_
  intro K hK
  go_wp2_with fail
  refine (rmul_f ((A * D) - (B * C)) ((A * D) - (B * C))).mono ?_
  rintro e w75 ⟨rfl, F76⟩
  have h77 := (h74).call F76
  clear F76 h74
  simp only []
  go_wp2
  refine ⟨h77, ?_⟩
  refine drawn_next 7 (fuel := 2) rfl (by kernel_rfl) ?_
  intro K hK
  go_wp2_with fail
  refine (rmul_f X (((A * D) - (B * C)) * ((A * D) - (B * C)))).mono ?_
  rintro e w78 ⟨rfl, F79⟩
  have h80 := (h77).call F79
  clear F79 h77
  simp only []
  go_wp2
  refine ⟨h80, ?_⟩
  refine drawn_end (ol := [_, _]) rfl (by kernel_rfl) ?_
  intro K hK
  have s81 := h80
  rw [HL64.out] at s81
  have f82 := s81.nth 3 rfl
  have t83 := s81.lt 3 rfl
  have f84 := s81.nth 2 rfl
  have t85 := s81.lt 2 rfl
  have e86 := s81.ne 3 2 rfl rfl (by decide)
  have e87 := s81.ne 2 3 rfl rfl (by decide)
  clear s81
  have s88 := h80
  rw [HL64.out] at s88
  go_wp2_with fail
  clear f82 t83 f84 t85 e86 e87
  refine Own.named (Q := fun X => bodyPost _ _ _ _ _ X) (show Own w [(bk51, .cells (ints .i64 (digs (((A * D) - (B * C))).val)) 32), (bk24, .cells (ints .i64 (digs (((A * C) - (B * D))).val)) 32), (bk7, .cells (ints .i64 (digs ((X * (((A * D) - (B * C)) * ((A * D) - (B * C))))).val)) 32), (bk6, .cells (ints .i64 (digs ((((A * C) - (B * D)) * ((A * C) - (B * D)))).val)) 32), (bk5, .cells (ints .i64 (digs (X).val)) 32), (bk4, .cells (ints .i64 (digs (D).val)) 32), (bk3, .cells (ints .i64 (digs (C).val)) 32), (bk2, .cells (ints .i64 (digs (B).val)) 32), (bk1, .cells (ints .i64 (digs (A).val)) 32)] _ from ((s88.set 3 (.cells (ints .i64 (digs ((((A * C) - (B * D)) * ((A * C) - (B * D)))).val)) 32) rfl).set 2 (.cells (ints .i64 (digs ((X * (((A * D) - (B * C)) * ((A * D) - (B * C))))).val)) 32) rfl)) ?_
  intro V90 h89
  clear s88 h80
  obtain ⟨L91, hL91⟩ : ∃ L : List (Nat × Obj), L = [(bk51, .cells (ints .i64 (digs (((A * D) - (B * C))).val)) 32), (bk24, .cells (ints .i64 (digs (((A * C) - (B * D))).val)) 32), (bk7, .cells (ints .i64 (digs ((X * (((A * D) - (B * C)) * ((A * D) - (B * C))))).val)) 32), (bk6, .cells (ints .i64 (digs ((((A * C) - (B * D)) * ((A * C) - (B * D)))).val)) 32), (bk5, .cells (ints .i64 (digs (X).val)) 32), (bk4, .cells (ints .i64 (digs (D).val)) 32), (bk3, .cells (ints .i64 (digs (C).val)) 32), (bk2, .cells (ints .i64 (digs (B).val)) 32), (bk1, .cells (ints .i64 (digs (A).val)) 32)] := ⟨_, rfl⟩
  rw [← hL91] at h89
  have HL91 := Lib.hid hL91
  clear hL91
  have s92 := h89
  rw [HL91.out] at s92
  refine ret_cell2 rfl rfl rfl rfl ?_
  refine cellRet_of (s92.nth 3 rfl) (aggB_ints (length_digs _) (by kernel_rfl)) ?_
  refine cellRet_of (s92.nth 2 rfl) (aggB_ints (length_digs _) (by kernel_rfl)) ?_
  exact ⟨rfl, s92.fr⟩

set_option maxRecDepth 100000 in
set_option maxHeartbeats 4000000 in
theorem ddouble_f (A B M : Fp) : Calls Try.prog 79 #[dF A, dF B, dF M] w fun e w' => e = .returned (.tuple #[dF (((A * A) - (B * B)) * ((A * A) - (B * B))), dF (((toFp 4) * (A * B)) * (((A * A) + (B * B)) + (M * (A * B))))]) ∧ Fr [] w w' := by
  unfold dF
  go_enter Try.func79, Try.ntmps79
  go_wp2_with fail
  refine (rmul_f A A).mono ?_
  rintro e w6 ⟨rfl, F7⟩
  have h8 : Own w [(w.heap.size + 4, .cells (ints .i64 (List.replicate 16 0)) 32), (w.heap.size + 3, .cells (ints .i64 (List.replicate 16 0)) 32), (w.heap.size + 2, .cells (ints .i64 (digs (M).val)) 32), (w.heap.size + 1, .cells (ints .i64 (digs (B).val)) 32), (w.heap.size, .cells (ints .i64 (digs (A).val)) 32)] w6 := (((((((Own.start w).allocN (.cells (ints .i64 (digs (A).val)) 32) w.heap.size rfl).allocN (.cells (ints .i64 (digs (B).val)) 32) (w.heap.size + 1) (by simp)).allocN (.cells (ints .i64 (digs (M).val)) 32) (w.heap.size + 2) (by simp)).allocN (.cells (ints .i64 (List.replicate 16 0)) 32) (w.heap.size + 3) (by simp)).allocN (.cells (ints .i64 (List.replicate 16 0)) 32) (w.heap.size + 4) (by simp))).call F7
  clear F7
  simp only []
  generalize w.heap.size + 4 = bk5 at h8 ⊢
  generalize w.heap.size + 3 = bk4 at h8 ⊢
  generalize w.heap.size + 2 = bk3 at h8 ⊢
  generalize w.heap.size + 1 = bk2 at h8 ⊢
  generalize w.heap.size = bk1 at h8 ⊢
  obtain ⟨L9, hL9⟩ : ∃ L : List (Nat × Obj), L = [(bk5, .cells (ints .i64 (List.replicate 16 0)) 32), (bk4, .cells (ints .i64 (List.replicate 16 0)) 32), (bk3, .cells (ints .i64 (digs (M).val)) 32), (bk2, .cells (ints .i64 (digs (B).val)) 32), (bk1, .cells (ints .i64 (digs (A).val)) 32)] := ⟨_, rfl⟩
  rw [← hL9] at h8
  have HL9 := Lib.hid hL9
  clear hL9
  have s10 := h8
  rw [HL9.out] at s10
  have f11 := s10.nth 3 rfl
  have t12 := s10.lt 3 rfl
  clear s10
  go_wp2_with fail
  clear f11 t12
  have s13 := h8
  rw [HL9.out] at s13
  refine (rmul_f B B).mono ?_
  rintro e w15 ⟨rfl, F16⟩
  have h17 : Own w [(w6.heap.size, .cells (ints .i64 (digs ((A * A)).val)) 32), (bk5, .cells (ints .i64 (List.replicate 16 0)) 32), (bk4, .cells (ints .i64 (List.replicate 16 0)) 32), (bk3, .cells (ints .i64 (digs (M).val)) 32), (bk2, .cells (ints .i64 (digs (B).val)) 32), (bk1, .cells (ints .i64 (digs (A).val)) 32)] w15 := ((s13.allocN (.cells (ints .i64 (digs ((A * A)).val)) 32) (w6.heap.size) (by simp))).call F16
  clear F16
  simp only []
  generalize w6.heap.size = bk14 at h17 ⊢
  clear s13 h8
  obtain ⟨L18, hL18⟩ : ∃ L : List (Nat × Obj), L = [(bk14, .cells (ints .i64 (digs ((A * A)).val)) 32), (bk5, .cells (ints .i64 (List.replicate 16 0)) 32), (bk4, .cells (ints .i64 (List.replicate 16 0)) 32), (bk3, .cells (ints .i64 (digs (M).val)) 32), (bk2, .cells (ints .i64 (digs (B).val)) 32), (bk1, .cells (ints .i64 (digs (A).val)) 32)] := ⟨_, rfl⟩
  rw [← hL18] at h17
  have HL18 := Lib.hid hL18
  clear hL18
  have s19 := h17
  rw [HL18.out] at s19
  have f20 := s19.nth 5 rfl
  have t21 := s19.lt 5 rfl
  have f22 := s19.nth 4 rfl
  have t23 := s19.lt 4 rfl
  clear s19
  go_wp2_with fail
  clear f20 t21 f22 t23
  have s24 := h17
  rw [HL18.out] at s24
  refine (rmul_f A B).mono ?_
  rintro e w26 ⟨rfl, F27⟩
  have h28 : Own w [(w15.heap.size, .cells (ints .i64 (digs ((B * B)).val)) 32), (bk14, .cells (ints .i64 (digs ((A * A)).val)) 32), (bk5, .cells (ints .i64 (List.replicate 16 0)) 32), (bk4, .cells (ints .i64 (List.replicate 16 0)) 32), (bk3, .cells (ints .i64 (digs (M).val)) 32), (bk2, .cells (ints .i64 (digs (B).val)) 32), (bk1, .cells (ints .i64 (digs (A).val)) 32)] w26 := ((s24.allocN (.cells (ints .i64 (digs ((B * B)).val)) 32) (w15.heap.size) (by simp))).call F27
  clear F27
  simp only []
  generalize w15.heap.size = bk25 at h28 ⊢
  clear s24 h17
  obtain ⟨L29, hL29⟩ : ∃ L : List (Nat × Obj), L = [(bk25, .cells (ints .i64 (digs ((B * B)).val)) 32), (bk14, .cells (ints .i64 (digs ((A * A)).val)) 32), (bk5, .cells (ints .i64 (List.replicate 16 0)) 32), (bk4, .cells (ints .i64 (List.replicate 16 0)) 32), (bk3, .cells (ints .i64 (digs (M).val)) 32), (bk2, .cells (ints .i64 (digs (B).val)) 32), (bk1, .cells (ints .i64 (digs (A).val)) 32)] := ⟨_, rfl⟩
  rw [← hL29] at h28
  have HL29 := Lib.hid hL29
  clear hL29
  have s30 := h28
  rw [HL29.out] at s30
  have f31 := s30.nth 1 rfl
  have t32 := s30.lt 1 rfl
  have f33 := s30.nth 0 rfl
  have t34 := s30.lt 0 rfl
  clear s30
  go_wp2_with fail
  clear f31 t32 f33 t34
  have s35 := h28
  rw [HL29.out] at s35
  refine (rsub_f (A * A) (B * B)).mono ?_
  rintro e w37 ⟨rfl, F38⟩
  have h39 : Own w [(w26.heap.size, .cells (ints .i64 (digs ((A * B)).val)) 32), (bk25, .cells (ints .i64 (digs ((B * B)).val)) 32), (bk14, .cells (ints .i64 (digs ((A * A)).val)) 32), (bk5, .cells (ints .i64 (List.replicate 16 0)) 32), (bk4, .cells (ints .i64 (List.replicate 16 0)) 32), (bk3, .cells (ints .i64 (digs (M).val)) 32), (bk2, .cells (ints .i64 (digs (B).val)) 32), (bk1, .cells (ints .i64 (digs (A).val)) 32)] w37 := ((s35.allocN (.cells (ints .i64 (digs ((A * B)).val)) 32) (w26.heap.size) (by simp))).call F38
  clear F38
  simp only []
  generalize w26.heap.size = bk36 at h39 ⊢
  clear s35 h28
  obtain ⟨L40, hL40⟩ : ∃ L : List (Nat × Obj), L = [(bk36, .cells (ints .i64 (digs ((A * B)).val)) 32), (bk25, .cells (ints .i64 (digs ((B * B)).val)) 32), (bk14, .cells (ints .i64 (digs ((A * A)).val)) 32), (bk5, .cells (ints .i64 (List.replicate 16 0)) 32), (bk4, .cells (ints .i64 (List.replicate 16 0)) 32), (bk3, .cells (ints .i64 (digs (M).val)) 32), (bk2, .cells (ints .i64 (digs (B).val)) 32), (bk1, .cells (ints .i64 (digs (A).val)) 32)] := ⟨_, rfl⟩
  rw [← hL40] at h39
  have HL40 := Lib.hid hL40
  clear hL40
  go_wp2_with fail
  have s41 := h39
  rw [HL40.out] at s41
  refine Own.named (Q := fun X => Code.wp _ _ _ _ X) (show Own w [(w37.heap.size, .cells (ints .i64 (digs (((A * A) - (B * B))).val)) 32), (bk36, .cells (ints .i64 (digs ((A * B)).val)) 32), (bk25, .cells (ints .i64 (digs ((B * B)).val)) 32), (bk14, .cells (ints .i64 (digs ((A * A)).val)) 32), (bk5, .cells (ints .i64 (List.replicate 16 0)) 32), (bk4, .cells (ints .i64 (List.replicate 16 0)) 32), (bk3, .cells (ints .i64 (digs (M).val)) 32), (bk2, .cells (ints .i64 (digs (B).val)) 32), (bk1, .cells (ints .i64 (digs (A).val)) 32)] _ from (s41.allocN (.cells (ints .i64 (digs (((A * A) - (B * B))).val)) 32) (w37.heap.size) (by simp))) ?_
  intro V44 h43
  generalize w37.heap.size = bk42 at h43 ⊢
  clear s41 h39
  obtain ⟨L45, hL45⟩ : ∃ L : List (Nat × Obj), L = [(bk42, .cells (ints .i64 (digs (((A * A) - (B * B))).val)) 32), (bk36, .cells (ints .i64 (digs ((A * B)).val)) 32), (bk25, .cells (ints .i64 (digs ((B * B)).val)) 32), (bk14, .cells (ints .i64 (digs ((A * A)).val)) 32), (bk5, .cells (ints .i64 (List.replicate 16 0)) 32), (bk4, .cells (ints .i64 (List.replicate 16 0)) 32), (bk3, .cells (ints .i64 (digs (M).val)) 32), (bk2, .cells (ints .i64 (digs (B).val)) 32), (bk1, .cells (ints .i64 (digs (A).val)) 32)] := ⟨_, rfl⟩
  rw [← hL45] at h43
  have HL45 := Lib.hid hL45
  clear hL45
  refine drawn_begin 8 (Own w L45) (by kernel_rfl) ?_
  have s46 := h43.drew
  rw [HL45.out] at s46
  have f47 := s46.nth 3 rfl
  have f48 := s46.nth 2 rfl
  have f49 := s46.nth 6 rfl
  have f50 := s46.nth 1 rfl
  clear s46
  refine drawn_reads (fuel := 5) [0, 1, 3, 4] rfl (by kernel_rfl) (h43.drew) ?_
  repeat (first | (refine rowK_step2 rfl rfl (fun K hK => ?_); go_wp2) | (refine rowK_step rfl (fun K hK => ?_); go_simp; refine hK _ ?_; clear hK K))
  refine rowK_nil ⟨fun w' hw' => ?_, ?_⟩
  · rw [HL45.out] at hw'
    have g51 := hw'.nth 3 rfl
    have g52 := hw'.nth 2 rfl
    have g53 := hw'.nth 6 rfl
    have g54 := hw'.nth 1 rfl
    clear f47 f48 f49 f50
    repeat (first | (refine rowWp_step2 rfl rfl (fun K hK => ?_); go_wp2) | (refine rowWp_step rfl (fun K hK => ?_); go_simp; refine hK _ ?_; clear hK K))
    exact rowWp_nil rfl
  clear f47 f48 f49 f50
  obtain ⟨p, hp⟩ : ∃ p : Par, p = ⟨[(2, 27, fun v => v = dF (((A * A) + (B * B)))), (5, 30, fun v => v = dF ((M * (A * B)))), (6, 31, fun v => v = dF ((((A * A) + (B * B)) + (M * (A * B)))))], [(7, 12, .cells (ints .i64 (List.replicate 16 0)) 32)], [0, 1, 3, 4]⟩ := ⟨_, rfl⟩
  have ok : p.ok := by rw [hp]; exact ⟨(by decide : [2, 5, 6, 7].Nodup), (by decide : [27, 30, 31, 12].Nodup)⟩
  refine drawn_inv (rest := 1) [27, 30, 31, 12] (fun L s w => p.Inv V44.drew L s w) (fun _ => undef) 4 (by kernel_rfl) (fun L s w h => ?_) rfl ?_ ?_ ?_
  · exact (h43.drew).call h.fr
  · refine Par.Inv.start ?_ ?_ ?_ <;> rw [hp] <;> intro i hi <;> simp at hi
    · rcases hi with rfl | rfl | rfl | rfl <;> rfl
    · rcases hi with rfl | rfl | rfl <;> rfl
    · subst hi; rfl
  · intro i o L s w ho hi hL hd h K hK
    rcases (show i = 0 ∨ i = 1 ∨ i = 2 ∨ i = 3 ∨ i = 4 ∨ i = 5 ∨ i = 6 ∨ i = 7 by omega) with rfl | rfl | rfl | rfl | rfl | rfl | rfl | rfl
    · rw [h.row 0 (by rw [hp]; simp)] at hL; cases hL
    · rw [h.row 1 (by rw [hp]; simp)] at hL; cases hL
    · injection (show some _ = some o from ho) with ho; subst ho
      simp only [fill]
      go_wp2_with fail
      refine (radd_f (A * A) (B * B)).mono ?_
      rintro e w2 ⟨rfl, F⟩
      simp only []
      go_wp2
      exact ⟨_, by kernel_rfl, h.called ok (2, 27, fun v => v = dF (((A * A) + (B * B)))) (by rw [hp]; simp) F rfl⟩
    · rw [h.row 3 (by rw [hp]; simp)] at hL; cases hL
    · rw [h.row 4 (by rw [hp]; simp)] at hL; cases hL
    · injection (show some _ = some o from ho) with ho; subst ho
      simp only [fill]
      go_wp2_with fail
      refine (rmul_f M (A * B)).mono ?_
      rintro e w2 ⟨rfl, F⟩
      simp only []
      go_wp2
      exact ⟨_, by kernel_rfl, h.called ok (5, 30, fun v => v = dF ((M * (A * B)))) (by rw [hp]; simp) F rfl⟩
    · injection (show some _ = some o from ho) with ho; subst ho
      have l27 : L 2 = true := after_on hd (by kernel_rfl)
      have e27 := h.call (2, 27, fun v => v = dF (((A * A) + (B * B)))) (by rw [hp]; simp) l27
      have l30 : L 5 = true := after_on hd (by kernel_rfl)
      have e30 := h.call (5, 30, fun v => v = dF ((M * (A * B)))) (by rw [hp]; simp) l30
      have ct : Calls Try.prog 31 #[s 27, s 30] w (fun e w' => e = .returned (dF ((((A * A) + (B * B)) + (M * (A * B))))) ∧ Fr [] w w') := by
        simp only [] at e27 e30
        rw [e27, e30]
        exact radd_f ((A * A) + (B * B)) (M * (A * B))
      clear e27 l27 e30 l30
      simp only [fill]
      go_wp2_with fail
      refine (ct).mono ?_
      rintro e w2 ⟨rfl, F⟩
      simp only []
      go_wp2
      exact ⟨_, by kernel_rfl, h.called ok (6, 31, fun v => v = dF ((((A * A) + (B * B)) + (M * (A * B))))) (by rw [hp]; simp) F rfl⟩
    · injection (show some _ = some o from ho) with ho; subst ho
      simp only [fill]
      go_wp2
      exact ⟨_, by kernel_rfl, h.made ok (7, 12, .cells (ints .i64 (List.replicate 16 0)) 32) (by rw [hp]; simp)⟩
  intro s w55 h
  have e56 := h.call (2, 27, fun v => v = dF (((A * A) + (B * B)))) (by rw [hp]; simp) rfl
  have e57 := h.call (5, 30, fun v => v = dF ((M * (A * B)))) (by rw [hp]; simp) rfl
  have e58 := h.call (6, 31, fun v => v = dF ((((A * A) + (B * B)) + (M * (A * B))))) (by rw [hp]; simp) rfl
  obtain ⟨bk59, e60, l61, m62⟩ := h.room (7, 12, .cells (ints .i64 (List.replicate 16 0)) 32) (by rw [hp]; simp) rfl
  simp only [] at e56 e57 e58 e60
  have h63 := (h43.drew).call h.fr
  simp only [fill, e56, e57, e58, e60]
  have h64 := (h63.room m62 (h43.fresh l61) (Nat.le_trans h43.fr.size l61))
  rw [HL45.out] at h64
  clear e56 e57 e58 e60  l61 m62 h63 h ok hp h43 p
  obtain ⟨L65, hL65⟩ : ∃ L : List (Nat × Obj), L = [(bk59, .cells (ints .i64 (List.replicate 16 0)) 32), (bk42, .cells (ints .i64 (digs (((A * A) - (B * B))).val)) 32), (bk36, .cells (ints .i64 (digs ((A * B)).val)) 32), (bk25, .cells (ints .i64 (digs ((B * B)).val)) 32), (bk14, .cells (ints .i64 (digs ((A * A)).val)) 32), (bk5, .cells (ints .i64 (List.replicate 16 0)) 32), (bk4, .cells (ints .i64 (List.replicate 16 0)) 32), (bk3, .cells (ints .i64 (digs (M).val)) 32), (bk2, .cells (ints .i64 (digs (B).val)) 32), (bk1, .cells (ints .i64 (digs (A).val)) 32)] := ⟨_, rfl⟩
  rw [← hL65] at h64
  have HL65 := Lib.hid hL65
  clear hL65
  refine drawn_end (ol := [_]) rfl (by kernel_rfl) ?_
  intro K hK
  have s66 := h64
  rw [HL65.out] at s66
  have f67 := s66.nth 0 rfl
  have t68 := s66.lt 0 rfl
  clear s66
  have s69 := h64
  rw [HL65.out] at s69
  go_wp2_with fail
  clear f67 t68
  refine Own.named (Q := fun X => Code.wp _ _ _ _ X) (show Own w [(bk59, .cells (ints .i64 (digs ((((A * A) + (B * B)) + (M * (A * B)))).val)) 32), (bk42, .cells (ints .i64 (digs (((A * A) - (B * B))).val)) 32), (bk36, .cells (ints .i64 (digs ((A * B)).val)) 32), (bk25, .cells (ints .i64 (digs ((B * B)).val)) 32), (bk14, .cells (ints .i64 (digs ((A * A)).val)) 32), (bk5, .cells (ints .i64 (List.replicate 16 0)) 32), (bk4, .cells (ints .i64 (List.replicate 16 0)) 32), (bk3, .cells (ints .i64 (digs (M).val)) 32), (bk2, .cells (ints .i64 (digs (B).val)) 32), (bk1, .cells (ints .i64 (digs (A).val)) 32)] _ from (s69.set 0 (.cells (ints .i64 (digs ((((A * A) + (B * B)) + (M * (A * B)))).val)) 32) rfl)) ?_
  intro V71 h70
  clear s69 h64
  obtain ⟨L72, hL72⟩ : ∃ L : List (Nat × Obj), L = [(bk59, .cells (ints .i64 (digs ((((A * A) + (B * B)) + (M * (A * B)))).val)) 32), (bk42, .cells (ints .i64 (digs (((A * A) - (B * B))).val)) 32), (bk36, .cells (ints .i64 (digs ((A * B)).val)) 32), (bk25, .cells (ints .i64 (digs ((B * B)).val)) 32), (bk14, .cells (ints .i64 (digs ((A * A)).val)) 32), (bk5, .cells (ints .i64 (List.replicate 16 0)) 32), (bk4, .cells (ints .i64 (List.replicate 16 0)) 32), (bk3, .cells (ints .i64 (digs (M).val)) 32), (bk2, .cells (ints .i64 (digs (B).val)) 32), (bk1, .cells (ints .i64 (digs (A).val)) 32)] := ⟨_, rfl⟩
  rw [← hL72] at h70
  have HL72 := Lib.hid hL72
  clear hL72
  refine drawn_begin 8 (Own w L72) (by kernel_rfl) ?_
  have s73 := h70.drew
  rw [HL72.out] at s73
  have f74 := s73.nth 1 rfl
  have f75 := s73.nth 2 rfl
  have f76 := s73.nth 0 rfl
  clear s73
  refine drawn_reads (fuel := 6) [0, 1, 4, 6] rfl (by kernel_rfl) (h70.drew) ?_
  repeat (first | (refine rowK_step2 rfl rfl (fun K hK => ?_); go_wp2) | (refine rowK_step rfl (fun K hK => ?_); go_simp; refine hK _ ?_; clear hK K))
  refine rowK_nil ⟨fun w' hw' => ?_, ?_⟩
  · rw [HL72.out] at hw'
    have g77 := hw'.nth 1 rfl
    have g78 := hw'.nth 2 rfl
    have g79 := hw'.nth 0 rfl
    clear f74 f75 f76
    repeat (first | (refine rowWp_step2 rfl rfl (fun K hK => ?_); go_wp2) | (refine rowWp_step rfl (fun K hK => ?_); go_simp; refine hK _ ?_; clear hK K))
    exact rowWp_nil rfl
  clear f74 f75 f76
  refine drawn_next 2 (fuel := 5) rfl (by kernel_rfl) ?_
  intro K hK
  go_wp2_with fail
  refine (rmul_f ((A * A) - (B * B)) ((A * A) - (B * B))).mono ?_
  rintro e w80 ⟨rfl, F81⟩
  have h82 := (h70.drew).call F81
  clear F81 h70
  simp only []
  go_wp2
  refine ⟨h82, ?_⟩
  refine drawn_next 3 (fuel := 4) rfl (by kernel_rfl) ?_
  intro K hK
  go_wp2_with fail
  refine (small_f 4 (by decide)).mono ?_
  rintro e w83 ⟨rfl, F84⟩
  have h85 := (h82).call F84
  clear F84 h82
  simp only []
  go_wp2
  refine ⟨h85, ?_⟩
  refine drawn_next 5 (fuel := 3) rfl (by kernel_rfl) ?_
  intro K hK
  go_wp2_with fail
  refine (rmul_f (toFp 4) (A * B)).mono ?_
  rintro e w86 ⟨rfl, F87⟩
  have h88 := (h85).call F87
  clear F87 h85
  simp only []
  go_wp2
  refine ⟨h88, ?_⟩
  refine drawn_next 7 (fuel := 2) rfl (by kernel_rfl) ?_
  intro K hK
  go_wp2_with fail
  refine (rmul_f ((toFp 4) * (A * B)) (((A * A) + (B * B)) + (M * (A * B)))).mono ?_
  rintro e w89 ⟨rfl, F90⟩
  have h91 := (h88).call F90
  clear F90 h88
  simp only []
  go_wp2
  refine ⟨h91, ?_⟩
  refine drawn_end (ol := [_, _]) rfl (by kernel_rfl) ?_
  intro K hK
  have s92 := h91
  rw [HL72.out] at s92
  have f93 := s92.nth 6 rfl
  have t94 := s92.lt 6 rfl
  have f95 := s92.nth 5 rfl
  have t96 := s92.lt 5 rfl
  have e97 := s92.ne 6 5 rfl rfl (by decide)
  have e98 := s92.ne 5 6 rfl rfl (by decide)
  clear s92
  have s99 := h91
  rw [HL72.out] at s99
  go_wp2_with fail
  clear f93 t94 f95 t96 e97 e98
  refine Own.named (Q := fun X => bodyPost _ _ _ _ _ X) (show Own w [(bk59, .cells (ints .i64 (digs ((((A * A) + (B * B)) + (M * (A * B)))).val)) 32), (bk42, .cells (ints .i64 (digs (((A * A) - (B * B))).val)) 32), (bk36, .cells (ints .i64 (digs ((A * B)).val)) 32), (bk25, .cells (ints .i64 (digs ((B * B)).val)) 32), (bk14, .cells (ints .i64 (digs ((A * A)).val)) 32), (bk5, .cells (ints .i64 (digs ((((toFp 4) * (A * B)) * (((A * A) + (B * B)) + (M * (A * B))))).val)) 32), (bk4, .cells (ints .i64 (digs ((((A * A) - (B * B)) * ((A * A) - (B * B)))).val)) 32), (bk3, .cells (ints .i64 (digs (M).val)) 32), (bk2, .cells (ints .i64 (digs (B).val)) 32), (bk1, .cells (ints .i64 (digs (A).val)) 32)] _ from ((s99.set 6 (.cells (ints .i64 (digs ((((A * A) - (B * B)) * ((A * A) - (B * B)))).val)) 32) rfl).set 5 (.cells (ints .i64 (digs ((((toFp 4) * (A * B)) * (((A * A) + (B * B)) + (M * (A * B))))).val)) 32) rfl)) ?_
  intro V101 h100
  clear s99 h91
  obtain ⟨L102, hL102⟩ : ∃ L : List (Nat × Obj), L = [(bk59, .cells (ints .i64 (digs ((((A * A) + (B * B)) + (M * (A * B)))).val)) 32), (bk42, .cells (ints .i64 (digs (((A * A) - (B * B))).val)) 32), (bk36, .cells (ints .i64 (digs ((A * B)).val)) 32), (bk25, .cells (ints .i64 (digs ((B * B)).val)) 32), (bk14, .cells (ints .i64 (digs ((A * A)).val)) 32), (bk5, .cells (ints .i64 (digs ((((toFp 4) * (A * B)) * (((A * A) + (B * B)) + (M * (A * B))))).val)) 32), (bk4, .cells (ints .i64 (digs ((((A * A) - (B * B)) * ((A * A) - (B * B)))).val)) 32), (bk3, .cells (ints .i64 (digs (M).val)) 32), (bk2, .cells (ints .i64 (digs (B).val)) 32), (bk1, .cells (ints .i64 (digs (A).val)) 32)] := ⟨_, rfl⟩
  rw [← hL102] at h100
  have HL102 := Lib.hid hL102
  clear hL102
  have s103 := h100
  rw [HL102.out] at s103
  refine ret_cell2 rfl rfl rfl rfl ?_
  refine cellRet_of (s103.nth 6 rfl) (aggB_ints (length_digs _) (by kernel_rfl)) ?_
  refine cellRet_of (s103.nth 5 rfl) (aggB_ints (length_digs _) (by kernel_rfl)) ?_
  exact ⟨rfl, s103.fr⟩
end
end Go.Proofs.Ytakhmmnklkckpaa
