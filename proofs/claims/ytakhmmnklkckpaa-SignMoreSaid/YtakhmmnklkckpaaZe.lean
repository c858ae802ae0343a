/- The code's sum of two points. -/
import Derived.Test.YtakhmmnklkckpaaZd
namespace Go.Proofs.Ytakhmmnklkckpaa
open Go.RowKit Go.Dr

section
variable {w : World}
set_option maxRecDepth 100000 in
set_option maxHeartbeats 8000000 in
theorem cadd_f {x1 y1 z1 t1 : List Int} {s1 : Bool} {X1 Y1 Z1 T1 : Fp} (h1 : CpOk x1 y1 z1 t1 s1 X1 Y1 Z1 T1) {x2 y2 z2 t2 : List Int} {s2 : Bool} {X2 Y2 Z2 T2 : Fp} (h2 : CpOk x2 y2 z2 t2 s2 X2 Y2 Z2 T2) : Calls Try.prog 50 #[.agg (ptC x1 y1 z1 t1 s1), .agg (ptC x2 y2 z2 t2 s2)] w fun e w' => ∃ a b c d, e = .returned (.agg (ptC a b c d true)) ∧ Is a ((((Y1 + X1) * (Y2 + X2)) - ((Y1 - X1) * (Y2 - X2))) * (((Z1 * (toFp 2)) * Z2) - ((T1 * (toFp 2)) * (dE * T2)))) ∧ Is b ((((Z1 * (toFp 2)) * Z2) + ((T1 * (toFp 2)) * (dE * T2))) * (((Y1 + X1) * (Y2 + X2)) + ((Y1 - X1) * (Y2 - X2)))) ∧ Is c ((((Z1 * (toFp 2)) * Z2) - ((T1 * (toFp 2)) * (dE * T2))) * (((Z1 * (toFp 2)) * Z2) + ((T1 * (toFp 2)) * (dE * T2)))) ∧ Is d ((((Y1 + X1) * (Y2 + X2)) - ((Y1 - X1) * (Y2 - X2))) * (((Y1 + X1) * (Y2 + X2)) + ((Y1 - X1) * (Y2 - X2)))) ∧ Fr [] w w' := by
  have nx1 := h1.nx
  have ny1 := h1.ny
  have nz1 := h1.nz
  have nt1 := h1.nt
  have H1 := Lib.hid h1
  clear h1
  have nx2 := h2.nx
  have ny2 := h2.ny
  have nz2 := h2.nz
  have nt2 := h2.nt
  have H2 := Lib.hid h2
  clear h2
  go_enter Try.func50, Try.ntmps50
  go_wp2_with fail
  refine OwB.named (Q := fun X => Code.wp _ _ _ _ X) (show OwB w [(w.heap.size + 2, .cells (ptC (zs 5) (zs 5) (zs 5) (zs 5) false) 49), (w.heap.size + 1, .cells (ptC x2 y2 z2 t2 s2) 49), (w.heap.size, .cells (ptC x1 y1 z1 t1 s1) 49)] _ from ((((OwB.start w).allocN (.cells (ptC x1 y1 z1 t1 s1) 49) w.heap.size rfl).allocN (.cells (ptC x2 y2 z2 t2 s2) 49) (w.heap.size + 1) (by simp)).allocN (.cells (ptC (zs 5) (zs 5) (zs 5) (zs 5) false) 49) (w.heap.size + 2) (by simp))) ?_
  intro V5 h4
  generalize w.heap.size + 2 = bk3 at h4 ⊢
  generalize w.heap.size + 1 = bk2 at h4 ⊢
  generalize w.heap.size = bk1 at h4 ⊢
  obtain ⟨L6, hL6⟩ : ∃ L : List (Nat × Obj), L = [(bk3, .cells (ptC (zs 5) (zs 5) (zs 5) (zs 5) false) 49), (bk2, .cells (ptC x2 y2 z2 t2 s2) 49), (bk1, .cells (ptC x1 y1 z1 t1 s1) 49)] := ⟨_, rfl⟩
  rw [← hL6] at h4
  have HL6 := Lib.hid hL6
  clear hL6
  refine drawn_begin 4 (OwB w L6) (by kernel_rfl) ?_
  refine OwB.named (Q := fun X => Go.Dr.wpAnyS Try.prog .any _ _ _ _ _ _ _ X) (h4.drew) ?_
  intro V7 h8
  clear h4
  have s9 := h8
  rw [HL6.out] at s9
  have f10 := s9.nth 2 rfl
  have f11 := s9.nth 1 rfl
  clear s9
  refine drawn_reads (fuel := 4) [0, 2] rfl (by kernel_rfl) (h8) ?_
  repeat (first | (refine rowK_step2 rfl rfl (fun K hK => ?_); go_wp2) | (refine rowK_step rfl (fun K hK => ?_); go_simp; refine hK _ ?_; clear hK K))
  refine rowK_nil ⟨fun w' hw' => ?_, ?_⟩
  · rw [HL6.out] at hw'
    have g12 := hw'.nth 2 rfl
    have g13 := hw'.nth 1 rfl
    clear f10 f11
    repeat (first | (refine rowWp_step2 rfl rfl (fun K hK => ?_); go_wp2) | (refine rowWp_step rfl (fun K hK => ?_); go_simp; refine hK _ ?_; clear hK K))
    exact rowWp_nil rfl
  clear f10 f11
  refine drawn_next 1 (fuel := 3) rfl (by kernel_rfl) ?_
  intro K hK
  go_wp2_with fail
  refine (whole_f H1.out).mono ?_
  rintro e w14 ⟨c16, c18, c20, c22, rfl, k17, k19, k21, k23, F15⟩
  have nc16 := k17.len
  have Hc16 := Lib.hid k17
  clear k17
  have nc18 := k19.len
  have Hc18 := Lib.hid k19
  clear k19
  have nc20 := k21.len
  have Hc20 := Lib.hid k21
  clear k21
  have nc22 := k23.len
  have Hc22 := Lib.hid k23
  clear k23
  have h24 := (h8).call F15
  clear F15 h8
  simp only []
  go_wp2
  refine ⟨h24, ?_⟩
  refine drawn_next 3 (fuel := 2) rfl (by kernel_rfl) ?_
  intro K hK
  go_wp2_with fail
  refine (whole_f H2.out).mono ?_
  rintro e w25 ⟨c27, c29, c31, c33, rfl, k28, k30, k32, k34, F26⟩
  have nc27 := k28.len
  have Hc27 := Lib.hid k28
  clear k28
  have nc29 := k30.len
  have Hc29 := Lib.hid k30
  clear k30
  have nc31 := k32.len
  have Hc31 := Lib.hid k32
  clear k32
  have nc33 := k34.len
  have Hc33 := Lib.hid k34
  clear k34
  have h35 := (h24).call F26
  clear F26 h24
  simp only []
  go_wp2
  refine ⟨h35, ?_⟩
  refine drawn_end (ol := [_, _]) rfl (by kernel_rfl) ?_
  intro K hK
  have s36 := h35
  rw [HL6.out] at s36
  have f37 := s36.nth 2 rfl
  have t38 := s36.lt 2 rfl
  have f39 := s36.nth 1 rfl
  have t40 := s36.lt 1 rfl
  have e41 := s36.ne 2 1 rfl rfl (by decide)
  have e42 := s36.ne 1 2 rfl rfl (by decide)
  clear s36
  have s43 := h35
  rw [HL6.out] at s43
  go_wp2_with fail
  clear f37 t38 f39 t40 e41 e42
  refine OwB.named (Q := fun X => Code.wp _ _ _ _ X) (show OwB w [(bk3, .cells (ptC (zs 5) (zs 5) (zs 5) (zs 5) false) 49), (bk2, .cells (ptC c27 c29 c31 c33 true) 49), (bk1, .cells (ptC c16 c18 c20 c22 true) 49)] _ from ((s43.set 2 (.cells (ptC c16 c18 c20 c22 true) 49) rfl).set 1 (.cells (ptC c27 c29 c31 c33 true) 49) rfl)) ?_
  intro V45 h44
  clear s43 h35
  obtain ⟨L46, hL46⟩ : ∃ L : List (Nat × Obj), L = [(bk3, .cells (ptC (zs 5) (zs 5) (zs 5) (zs 5) false) 49), (bk2, .cells (ptC c27 c29 c31 c33 true) 49), (bk1, .cells (ptC c16 c18 c20 c22 true) 49)] := ⟨_, rfl⟩
  rw [← hL46] at h44
  have HL46 := Lib.hid hL46
  clear hL46
  refine drawn_begin 12 (OwB w L46) (by kernel_rfl) ?_
  refine OwB.named (Q := fun X => Go.Dr.wpAnyS Try.prog .any _ _ _ _ _ _ _ X) (h44.drew) ?_
  intro V47 h48
  clear h44
  have s49 := h48
  rw [HL46.out] at s49
  have f50 := s49.nth 2 rfl
  have f51 := s49.nth 1 rfl
  clear s49
  refine drawn_reads (fuel := 5) [0, 1, 2, 3, 5, 6, 7, 8] rfl (by kernel_rfl) (h48) ?_
  repeat (first | (refine rowK_step2 rfl rfl (fun K hK => ?_); go_wp2) | (refine rowK_step rfl (fun K hK => ?_); go_simp; refine hK _ ?_; clear hK K))
  refine rowK_nil ⟨fun w' hw' => ?_, ?_⟩
  · rw [HL46.out] at hw'
    have g52 := hw'.nth 2 rfl
    have g53 := hw'.nth 1 rfl
    clear f50 f51
    repeat (first | (refine rowWp_step2 rfl rfl (fun K hK => ?_); go_wp2) | (refine rowWp_step rfl (fun K hK => ?_); go_simp; refine hK _ ?_; clear hK K))
    exact rowWp_nil rfl
  clear f50 f51
  obtain ⟨p, hp⟩ : ∃ p : Par, p = ⟨[(4, 21, fun v => ∃ lq, v = fe lq ∧ Is lq ((Y1 - X1))), (9, 26, fun v => ∃ lq, v = fe lq ∧ Is lq ((Y2 - X2))), (10, 27, fun v => ∃ lq, v = fe lq ∧ Is lq (((Y1 - X1) * (Y2 - X2))))], [(11, 5, .cells (ints .u64 (List.replicate 5 0)) 28)], [0, 1, 2, 3, 5, 6, 7, 8]⟩ := ⟨_, rfl⟩
  have ok : p.ok := by rw [hp]; exact ⟨(by decide : [4, 9, 10, 11].Nodup), (by decide : [21, 26, 27, 5].Nodup)⟩
  refine drawn_inv (rest := 1) [21, 26, 27, 5] (fun L s w => p.Inv V47 L s w) (fun _ => undef) 4 (by kernel_rfl) (fun L s w h => ?_) (by kernel_rfl) ?_ ?_ ?_
  · exact h48.call h.fr
  · refine Par.Inv.start ?_ ?_ ?_ <;> rw [hp] <;> intro i hi <;> simp at hi
    · rcases hi with rfl | rfl | rfl | rfl | rfl | rfl | rfl | rfl <;> rfl
    · rcases hi with rfl | rfl | rfl <;> rfl
    · subst hi; rfl
  · intro i o L s w ho hi hL hd h K hK
    rcases (show i = 0 ∨ i = 1 ∨ i = 2 ∨ i = 3 ∨ i = 4 ∨ i = 5 ∨ i = 6 ∨ i = 7 ∨ i = 8 ∨ i = 9 ∨ i = 10 ∨ i = 11 by omega) with rfl | rfl | rfl | rfl | rfl | rfl | rfl | rfl | rfl | rfl | rfl | rfl
    · rw [h.row 0 (by rw [hp]; simp)] at hL; cases hL
    · rw [h.row 1 (by rw [hp]; simp)] at hL; cases hL
    · rw [h.row 2 (by rw [hp]; simp)] at hL; cases hL
    · rw [h.row 3 (by rw [hp]; simp)] at hL; cases hL
    · injection (show some _ = some o from ho) with ho; subst ho
      simp only [fill]
      go_wp2_with fail
      refine (sub_f Hc18.out Hc16.out).mono ?_
      rintro e w2 ⟨lq, rfl, hc, F⟩
      simp only []
      go_wp2
      exact ⟨_, by kernel_rfl, h.called ok (4, 21, fun v => ∃ lq, v = fe lq ∧ Is lq ((Y1 - X1))) (by rw [hp]; simp) F ⟨lq, rfl, hc⟩⟩
    · rw [h.row 5 (by rw [hp]; simp)] at hL; cases hL
    · rw [h.row 6 (by rw [hp]; simp)] at hL; cases hL
    · rw [h.row 7 (by rw [hp]; simp)] at hL; cases hL
    · rw [h.row 8 (by rw [hp]; simp)] at hL; cases hL
    · injection (show some _ = some o from ho) with ho; subst ho
      simp only [fill]
      go_wp2_with fail
      refine (sub_f Hc29.out Hc27.out).mono ?_
      rintro e w2 ⟨lq, rfl, hc, F⟩
      simp only []
      go_wp2
      exact ⟨_, by kernel_rfl, h.called ok (9, 26, fun v => ∃ lq, v = fe lq ∧ Is lq ((Y2 - X2))) (by rw [hp]; simp) F ⟨lq, rfl, hc⟩⟩
    · injection (show some _ = some o from ho) with ho; subst ho
      have l21 : L 4 = true := after_on hd (by kernel_rfl)
      obtain ⟨d21, e21, k21⟩ := h.call (4, 21, fun v => ∃ lq, v = fe lq ∧ Is lq ((Y1 - X1))) (by rw [hp]; simp) l21
      have K21 := Lib.hid k21
      have l26 : L 9 = true := after_on hd (by kernel_rfl)
      obtain ⟨d26, e26, k26⟩ := h.call (9, 26, fun v => ∃ lq, v = fe lq ∧ Is lq ((Y2 - X2))) (by rw [hp]; simp) l26
      have K26 := Lib.hid k26
      have ct : Calls Try.prog 36 #[s 21, s 26] w (fun e w' => ∃ lq, e = .returned (fe lq) ∧ Is lq (((Y1 - X1) * (Y2 - X2))) ∧ Fr [] w w') := by
        simp only [] at e21 e26
        rw [e21, e26]
        exact mul_f K21.out K26.out
      clear e21 l21 k21 e26 l26 k26
      simp only [fill]
      go_wp2_with fail
      refine (ct).mono ?_
      rintro e w2 ⟨lq, rfl, hc, F⟩
      simp only []
      go_wp2
      exact ⟨_, by kernel_rfl, h.called ok (10, 27, fun v => ∃ lq, v = fe lq ∧ Is lq (((Y1 - X1) * (Y2 - X2)))) (by rw [hp]; simp) F ⟨lq, rfl, hc⟩⟩
    · injection (show some _ = some o from ho) with ho; subst ho
      simp only [fill]
      go_wp2
      exact ⟨_, by kernel_rfl, h.made ok (11, 5, .cells (ints .u64 (List.replicate 5 0)) 28) (by rw [hp]; simp)⟩
  intro s w54 h
  obtain ⟨c55, e57, k56⟩ := h.call (4, 21, fun v => ∃ lq, v = fe lq ∧ Is lq ((Y1 - X1))) (by rw [hp]; simp) rfl
  obtain ⟨c58, e60, k59⟩ := h.call (9, 26, fun v => ∃ lq, v = fe lq ∧ Is lq ((Y2 - X2))) (by rw [hp]; simp) rfl
  obtain ⟨c61, e63, k62⟩ := h.call (10, 27, fun v => ∃ lq, v = fe lq ∧ Is lq (((Y1 - X1) * (Y2 - X2)))) (by rw [hp]; simp) rfl
  obtain ⟨bk64, e65, l66, m67⟩ := h.room (11, 5, .cells (ints .u64 (List.replicate 5 0)) 28) (by rw [hp]; simp) rfl
  simp only [] at e57 e60 e63 e65
  have h68 := h48.call h.fr
  simp only [fill, e57, e60, e63, e65]
  have h69 := (h68.room m67 (h48.fresh l66) (Nat.le_trans h48.fr.size l66))
  rw [HL46.out] at h69
  clear e57 e60 e63 e65  l66 m67 h68 h ok hp h48 p
  have nc55 := k56.len
  have Hc55 := Lib.hid k56
  clear k56
  have nc58 := k59.len
  have Hc58 := Lib.hid k59
  clear k59
  have nc61 := k62.len
  have Hc61 := Lib.hid k62
  clear k62
  obtain ⟨L70, hL70⟩ : ∃ L : List (Nat × Obj), L = [(bk64, .cells (ints .u64 (List.replicate 5 0)) 28), (bk3, .cells (ptC (zs 5) (zs 5) (zs 5) (zs 5) false) 49), (bk2, .cells (ptC c27 c29 c31 c33 true) 49), (bk1, .cells (ptC c16 c18 c20 c22 true) 49)] := ⟨_, rfl⟩
  rw [← hL70] at h69
  have HL70 := Lib.hid hL70
  clear hL70
  refine drawn_end (ol := [_]) rfl (by kernel_rfl) ?_
  intro K hK
  have s71 := h69
  rw [HL70.out] at s71
  have f72 := s71.nth 0 rfl
  have t73 := s71.lt 0 rfl
  clear s71
  have s74 := h69
  rw [HL70.out] at s74
  go_wp2_with fail
  clear f72 t73
  refine OwB.named (Q := fun X => Code.wp _ _ _ _ X) (show OwB w [(bk64, .cells (ints .u64 c61) 28), (bk3, .cells (ptC (zs 5) (zs 5) (zs 5) (zs 5) false) 49), (bk2, .cells (ptC c27 c29 c31 c33 true) 49), (bk1, .cells (ptC c16 c18 c20 c22 true) 49)] _ from (s74.set 0 (.cells (ints .u64 c61) 28) rfl)) ?_
  intro V76 h75
  clear s74 h69
  obtain ⟨L77, hL77⟩ : ∃ L : List (Nat × Obj), L = [(bk64, .cells (ints .u64 c61) 28), (bk3, .cells (ptC (zs 5) (zs 5) (zs 5) (zs 5) false) 49), (bk2, .cells (ptC c27 c29 c31 c33 true) 49), (bk1, .cells (ptC c16 c18 c20 c22 true) 49)] := ⟨_, rfl⟩
  rw [← hL77] at h75
  have HL77 := Lib.hid hL77
  clear hL77
  refine drawn_begin 12 (OwB w L77) (by kernel_rfl) ?_
  refine OwB.named (Q := fun X => Go.Dr.wpAnyS Try.prog .any _ _ _ _ _ _ _ X) (h75.drew) ?_
  intro V78 h79
  clear h75
  have s80 := h79
  rw [HL77.out] at s80
  have f81 := s80.nth 3 rfl
  have f82 := s80.nth 2 rfl
  clear s80
  refine drawn_reads (fuel := 5) [0, 1, 2, 3, 5, 6, 7, 8] rfl (by kernel_rfl) (h79) ?_
  repeat (first | (refine rowK_step2 rfl rfl (fun K hK => ?_); go_wp2) | (refine rowK_step rfl (fun K hK => ?_); go_simp; refine hK _ ?_; clear hK K))
  refine rowK_nil ⟨fun w' hw' => ?_, ?_⟩
  · rw [HL77.out] at hw'
    have g83 := hw'.nth 3 rfl
    have g84 := hw'.nth 2 rfl
    clear f81 f82
    repeat (first | (refine rowWp_step2 rfl rfl (fun K hK => ?_); go_wp2) | (refine rowWp_step rfl (fun K hK => ?_); go_simp; refine hK _ ?_; clear hK K))
    exact rowWp_nil rfl
  clear f81 f82
  obtain ⟨p, hp⟩ : ∃ p : Par, p = ⟨[(4, 32, fun v => ∃ lq, v = fe lq ∧ Is lq ((Y1 + X1))), (9, 37, fun v => ∃ lq, v = fe lq ∧ Is lq ((Y2 + X2))), (10, 38, fun v => ∃ lq, v = fe lq ∧ Is lq (((Y1 + X1) * (Y2 + X2))))], [(11, 6, .cells (ints .u64 (List.replicate 5 0)) 28)], [0, 1, 2, 3, 5, 6, 7, 8]⟩ := ⟨_, rfl⟩
  have ok : p.ok := by rw [hp]; exact ⟨(by decide : [4, 9, 10, 11].Nodup), (by decide : [32, 37, 38, 6].Nodup)⟩
  refine drawn_inv (rest := 1) [32, 37, 38, 6] (fun L s w => p.Inv V78 L s w) (fun _ => undef) 4 (by kernel_rfl) (fun L s w h => ?_) (by kernel_rfl) ?_ ?_ ?_
  · exact h79.call h.fr
  · refine Par.Inv.start ?_ ?_ ?_ <;> rw [hp] <;> intro i hi <;> simp at hi
    · rcases hi with rfl | rfl | rfl | rfl | rfl | rfl | rfl | rfl <;> rfl
    · rcases hi with rfl | rfl | rfl <;> rfl
    · subst hi; rfl
  · intro i o L s w ho hi hL hd h K hK
    rcases (show i = 0 ∨ i = 1 ∨ i = 2 ∨ i = 3 ∨ i = 4 ∨ i = 5 ∨ i = 6 ∨ i = 7 ∨ i = 8 ∨ i = 9 ∨ i = 10 ∨ i = 11 by omega) with rfl | rfl | rfl | rfl | rfl | rfl | rfl | rfl | rfl | rfl | rfl | rfl
    · rw [h.row 0 (by rw [hp]; simp)] at hL; cases hL
    · rw [h.row 1 (by rw [hp]; simp)] at hL; cases hL
    · rw [h.row 2 (by rw [hp]; simp)] at hL; cases hL
    · rw [h.row 3 (by rw [hp]; simp)] at hL; cases hL
    · injection (show some _ = some o from ho) with ho; subst ho
      simp only [fill]
      go_wp2_with fail
      refine (add_f Hc18.out Hc16.out).mono ?_
      rintro e w2 ⟨lq, rfl, hc, F⟩
      simp only []
      go_wp2
      exact ⟨_, by kernel_rfl, h.called ok (4, 32, fun v => ∃ lq, v = fe lq ∧ Is lq ((Y1 + X1))) (by rw [hp]; simp) F ⟨lq, rfl, hc⟩⟩
    · rw [h.row 5 (by rw [hp]; simp)] at hL; cases hL
    · rw [h.row 6 (by rw [hp]; simp)] at hL; cases hL
    · rw [h.row 7 (by rw [hp]; simp)] at hL; cases hL
    · rw [h.row 8 (by rw [hp]; simp)] at hL; cases hL
    · injection (show some _ = some o from ho) with ho; subst ho
      simp only [fill]
      go_wp2_with fail
      refine (add_f Hc29.out Hc27.out).mono ?_
      rintro e w2 ⟨lq, rfl, hc, F⟩
      simp only []
      go_wp2
      exact ⟨_, by kernel_rfl, h.called ok (9, 37, fun v => ∃ lq, v = fe lq ∧ Is lq ((Y2 + X2))) (by rw [hp]; simp) F ⟨lq, rfl, hc⟩⟩
    · injection (show some _ = some o from ho) with ho; subst ho
      have l32 : L 4 = true := after_on hd (by kernel_rfl)
      obtain ⟨d32, e32, k32⟩ := h.call (4, 32, fun v => ∃ lq, v = fe lq ∧ Is lq ((Y1 + X1))) (by rw [hp]; simp) l32
      have K32 := Lib.hid k32
      have l37 : L 9 = true := after_on hd (by kernel_rfl)
      obtain ⟨d37, e37, k37⟩ := h.call (9, 37, fun v => ∃ lq, v = fe lq ∧ Is lq ((Y2 + X2))) (by rw [hp]; simp) l37
      have K37 := Lib.hid k37
      have ct : Calls Try.prog 36 #[s 32, s 37] w (fun e w' => ∃ lq, e = .returned (fe lq) ∧ Is lq (((Y1 + X1) * (Y2 + X2))) ∧ Fr [] w w') := by
        simp only [] at e32 e37
        rw [e32, e37]
        exact mul_f K32.out K37.out
      clear e32 l32 k32 e37 l37 k37
      simp only [fill]
      go_wp2_with fail
      refine (ct).mono ?_
      rintro e w2 ⟨lq, rfl, hc, F⟩
      simp only []
      go_wp2
      exact ⟨_, by kernel_rfl, h.called ok (10, 38, fun v => ∃ lq, v = fe lq ∧ Is lq (((Y1 + X1) * (Y2 + X2)))) (by rw [hp]; simp) F ⟨lq, rfl, hc⟩⟩
    · injection (show some _ = some o from ho) with ho; subst ho
      simp only [fill]
      go_wp2
      exact ⟨_, by kernel_rfl, h.made ok (11, 6, .cells (ints .u64 (List.replicate 5 0)) 28) (by rw [hp]; simp)⟩
  intro s w85 h
  obtain ⟨c86, e88, k87⟩ := h.call (4, 32, fun v => ∃ lq, v = fe lq ∧ Is lq ((Y1 + X1))) (by rw [hp]; simp) rfl
  obtain ⟨c89, e91, k90⟩ := h.call (9, 37, fun v => ∃ lq, v = fe lq ∧ Is lq ((Y2 + X2))) (by rw [hp]; simp) rfl
  obtain ⟨c92, e94, k93⟩ := h.call (10, 38, fun v => ∃ lq, v = fe lq ∧ Is lq (((Y1 + X1) * (Y2 + X2)))) (by rw [hp]; simp) rfl
  obtain ⟨bk95, e96, l97, m98⟩ := h.room (11, 6, .cells (ints .u64 (List.replicate 5 0)) 28) (by rw [hp]; simp) rfl
  simp only [] at e88 e91 e94 e96
  have h99 := h79.call h.fr
  simp only [fill, e88, e91, e94, e96]
  have h100 := (h99.room m98 (h79.fresh l97) (Nat.le_trans h79.fr.size l97))
  rw [HL77.out] at h100
  clear e88 e91 e94 e96  l97 m98 h99 h ok hp h79 p
  have nc86 := k87.len
  have Hc86 := Lib.hid k87
  clear k87
  have nc89 := k90.len
  have Hc89 := Lib.hid k90
  clear k90
  have nc92 := k93.len
  have Hc92 := Lib.hid k93
  clear k93
  obtain ⟨L101, hL101⟩ : ∃ L : List (Nat × Obj), L = [(bk95, .cells (ints .u64 (List.replicate 5 0)) 28), (bk64, .cells (ints .u64 c61) 28), (bk3, .cells (ptC (zs 5) (zs 5) (zs 5) (zs 5) false) 49), (bk2, .cells (ptC c27 c29 c31 c33 true) 49), (bk1, .cells (ptC c16 c18 c20 c22 true) 49)] := ⟨_, rfl⟩
  rw [← hL101] at h100
  have HL101 := Lib.hid hL101
  clear hL101
  refine drawn_end (ol := [_]) rfl (by kernel_rfl) ?_
  intro K hK
  have s102 := h100
  rw [HL101.out] at s102
  have f103 := s102.nth 0 rfl
  have t104 := s102.lt 0 rfl
  clear s102
  have s105 := h100
  rw [HL101.out] at s105
  go_wp2_with fail
  clear f103 t104
  refine OwB.named (Q := fun X => Code.wp _ _ _ _ X) (show OwB w [(bk95, .cells (ints .u64 c92) 28), (bk64, .cells (ints .u64 c61) 28), (bk3, .cells (ptC (zs 5) (zs 5) (zs 5) (zs 5) false) 49), (bk2, .cells (ptC c27 c29 c31 c33 true) 49), (bk1, .cells (ptC c16 c18 c20 c22 true) 49)] _ from (s105.set 0 (.cells (ints .u64 c92) 28) rfl)) ?_
  intro V107 h106
  clear s105 h100
  obtain ⟨L108, hL108⟩ : ∃ L : List (Nat × Obj), L = [(bk95, .cells (ints .u64 c92) 28), (bk64, .cells (ints .u64 c61) 28), (bk3, .cells (ptC (zs 5) (zs 5) (zs 5) (zs 5) false) 49), (bk2, .cells (ptC c27 c29 c31 c33 true) 49), (bk1, .cells (ptC c16 c18 c20 c22 true) 49)] := ⟨_, rfl⟩
  rw [← hL108] at h106
  have HL108 := Lib.hid hL108
  clear hL108
  refine drawn_begin 10 (OwB w L108) (by kernel_rfl) ?_
  refine OwB.named (Q := fun X => Go.Dr.wpAnyS Try.prog .any _ _ _ _ _ _ _ X) (h106.drew) ?_
  intro V109 h110
  clear h106
  have s111 := h110
  rw [HL108.out] at s111
  have f112 := s111.nth 4 rfl
  have f113 := s111.nth 3 rfl
  clear s111
  refine drawn_reads (fuel := 7) [0, 1, 5, 6] rfl (by kernel_rfl) (h110) ?_
  repeat (first | (refine rowK_step2 rfl rfl (fun K hK => ?_); go_wp2) | (refine rowK_step rfl (fun K hK => ?_); go_simp; refine hK _ ?_; clear hK K))
  refine rowK_nil ⟨fun w' hw' => ?_, ?_⟩
  · rw [HL108.out] at hw'
    have g114 := hw'.nth 4 rfl
    have g115 := hw'.nth 3 rfl
    clear f112 f113
    repeat (first | (refine rowWp_step2 rfl rfl (fun K hK => ?_); go_wp2) | (refine rowWp_step rfl (fun K hK => ?_); go_simp; refine hK _ ?_; clear hK K))
    exact rowWp_nil rfl
  clear f112 f113
  obtain ⟨p, hp⟩ : ∃ p : Par, p = ⟨[(2, 41, fun v => ∃ lq, v = fe lq ∧ Is lq ((toFp 2))), (3, 42, fun v => ∃ lq, v = fe lq ∧ Is lq ((T1 * (toFp 2)))), (4, 43, fun v => ∃ lq, v = fe lq ∧ Is lq (dE)), (7, 46, fun v => ∃ lq, v = fe lq ∧ Is lq ((dE * T2))), (8, 47, fun v => ∃ lq, v = fe lq ∧ Is lq (((T1 * (toFp 2)) * (dE * T2))))], [(9, 7, .cells (ints .u64 (List.replicate 5 0)) 28)], [0, 1, 5, 6]⟩ := ⟨_, rfl⟩
  have ok : p.ok := by rw [hp]; exact ⟨(by decide : [2, 3, 4, 7, 8, 9].Nodup), (by decide : [41, 42, 43, 46, 47, 7].Nodup)⟩
  refine drawn_inv (rest := 1) [41, 42, 43, 46, 47, 7] (fun L s w => p.Inv V109 L s w) (fun _ => undef) 6 (by kernel_rfl) (fun L s w h => ?_) (by kernel_rfl) ?_ ?_ ?_
  · exact h110.call h.fr
  · refine Par.Inv.start ?_ ?_ ?_ <;> rw [hp] <;> intro i hi <;> simp at hi
    · rcases hi with rfl | rfl | rfl | rfl <;> rfl
    · rcases hi with rfl | rfl | rfl | rfl | rfl <;> rfl
    · subst hi; rfl
  · intro i o L s w ho hi hL hd h K hK
    rcases (show i = 0 ∨ i = 1 ∨ i = 2 ∨ i = 3 ∨ i = 4 ∨ i = 5 ∨ i = 6 ∨ i = 7 ∨ i = 8 ∨ i = 9 by omega) with rfl | rfl | rfl | rfl | rfl | rfl | rfl | rfl | rfl | rfl
    · rw [h.row 0 (by rw [hp]; simp)] at hL; cases hL
    · rw [h.row 1 (by rw [hp]; simp)] at hL; cases hL
    · injection (show some _ = some o from ho) with ho; subst ho
      simp only [fill]
      go_wp2_with fail
      refine (small2_f).mono ?_
      rintro e w2 ⟨lq, rfl, hc, F⟩
      simp only []
      go_wp2
      exact ⟨_, by kernel_rfl, h.called ok (2, 41, fun v => ∃ lq, v = fe lq ∧ Is lq ((toFp 2))) (by rw [hp]; simp) F ⟨lq, rfl, hc⟩⟩
    · injection (show some _ = some o from ho) with ho; subst ho
      have l41 : L 2 = true := after_on hd (by kernel_rfl)
      obtain ⟨d41, e41, k41⟩ := h.call (2, 41, fun v => ∃ lq, v = fe lq ∧ Is lq ((toFp 2))) (by rw [hp]; simp) l41
      have K41 := Lib.hid k41
      have ct : Calls Try.prog 36 #[fe c22, s 41] w (fun e w' => ∃ lq, e = .returned (fe lq) ∧ Is lq ((T1 * (toFp 2))) ∧ Fr [] w w') := by
        simp only [] at e41
        rw [e41]
        exact mul_f Hc22.out K41.out
      clear e41 l41 k41
      simp only [fill]
      go_wp2_with fail
      refine (ct).mono ?_
      rintro e w2 ⟨lq, rfl, hc, F⟩
      simp only []
      go_wp2
      exact ⟨_, by kernel_rfl, h.called ok (3, 42, fun v => ∃ lq, v = fe lq ∧ Is lq ((T1 * (toFp 2)))) (by rw [hp]; simp) F ⟨lq, rfl, hc⟩⟩
    · injection (show some _ = some o from ho) with ho; subst ho
      simp only [fill]
      go_wp2_with fail
      refine (factor_f).mono ?_
      rintro e w2 ⟨lq, rfl, hc, F⟩
      simp only []
      go_wp2
      exact ⟨_, by kernel_rfl, h.called ok (4, 43, fun v => ∃ lq, v = fe lq ∧ Is lq (dE)) (by rw [hp]; simp) F ⟨lq, rfl, hc⟩⟩
    · rw [h.row 5 (by rw [hp]; simp)] at hL; cases hL
    · rw [h.row 6 (by rw [hp]; simp)] at hL; cases hL
    · injection (show some _ = some o from ho) with ho; subst ho
      have l43 : L 4 = true := after_on hd (by kernel_rfl)
      obtain ⟨d43, e43, k43⟩ := h.call (4, 43, fun v => ∃ lq, v = fe lq ∧ Is lq (dE)) (by rw [hp]; simp) l43
      have K43 := Lib.hid k43
      have ct : Calls Try.prog 36 #[s 43, fe c33] w (fun e w' => ∃ lq, e = .returned (fe lq) ∧ Is lq ((dE * T2)) ∧ Fr [] w w') := by
        simp only [] at e43
        rw [e43]
        exact mul_f K43.out Hc33.out
      clear e43 l43 k43
      simp only [fill]
      go_wp2_with fail
      refine (ct).mono ?_
      rintro e w2 ⟨lq, rfl, hc, F⟩
      simp only []
      go_wp2
      exact ⟨_, by kernel_rfl, h.called ok (7, 46, fun v => ∃ lq, v = fe lq ∧ Is lq ((dE * T2))) (by rw [hp]; simp) F ⟨lq, rfl, hc⟩⟩
    · injection (show some _ = some o from ho) with ho; subst ho
      have l42 : L 3 = true := after_on hd (by kernel_rfl)
      obtain ⟨d42, e42, k42⟩ := h.call (3, 42, fun v => ∃ lq, v = fe lq ∧ Is lq ((T1 * (toFp 2)))) (by rw [hp]; simp) l42
      have K42 := Lib.hid k42
      have l46 : L 7 = true := after_on hd (by kernel_rfl)
      obtain ⟨d46, e46, k46⟩ := h.call (7, 46, fun v => ∃ lq, v = fe lq ∧ Is lq ((dE * T2))) (by rw [hp]; simp) l46
      have K46 := Lib.hid k46
      have ct : Calls Try.prog 36 #[s 42, s 46] w (fun e w' => ∃ lq, e = .returned (fe lq) ∧ Is lq (((T1 * (toFp 2)) * (dE * T2))) ∧ Fr [] w w') := by
        simp only [] at e42 e46
        rw [e42, e46]
        exact mul_f K42.out K46.out
      clear e42 l42 k42 e46 l46 k46
      simp only [fill]
      go_wp2_with fail
      refine (ct).mono ?_
      rintro e w2 ⟨lq, rfl, hc, F⟩
      simp only []
      go_wp2
      exact ⟨_, by kernel_rfl, h.called ok (8, 47, fun v => ∃ lq, v = fe lq ∧ Is lq (((T1 * (toFp 2)) * (dE * T2)))) (by rw [hp]; simp) F ⟨lq, rfl, hc⟩⟩
    · injection (show some _ = some o from ho) with ho; subst ho
      simp only [fill]
      go_wp2
      exact ⟨_, by kernel_rfl, h.made ok (9, 7, .cells (ints .u64 (List.replicate 5 0)) 28) (by rw [hp]; simp)⟩
  intro s w116 h
  obtain ⟨c117, e119, k118⟩ := h.call (2, 41, fun v => ∃ lq, v = fe lq ∧ Is lq ((toFp 2))) (by rw [hp]; simp) rfl
  obtain ⟨c120, e122, k121⟩ := h.call (3, 42, fun v => ∃ lq, v = fe lq ∧ Is lq ((T1 * (toFp 2)))) (by rw [hp]; simp) rfl
  obtain ⟨c123, e125, k124⟩ := h.call (4, 43, fun v => ∃ lq, v = fe lq ∧ Is lq (dE)) (by rw [hp]; simp) rfl
  obtain ⟨c126, e128, k127⟩ := h.call (7, 46, fun v => ∃ lq, v = fe lq ∧ Is lq ((dE * T2))) (by rw [hp]; simp) rfl
  obtain ⟨c129, e131, k130⟩ := h.call (8, 47, fun v => ∃ lq, v = fe lq ∧ Is lq (((T1 * (toFp 2)) * (dE * T2)))) (by rw [hp]; simp) rfl
  obtain ⟨bk132, e133, l134, m135⟩ := h.room (9, 7, .cells (ints .u64 (List.replicate 5 0)) 28) (by rw [hp]; simp) rfl
  simp only [] at e119 e122 e125 e128 e131 e133
  have h136 := h110.call h.fr
  simp only [fill, e119, e122, e125, e128, e131, e133]
  have h137 := (h136.room m135 (h110.fresh l134) (Nat.le_trans h110.fr.size l134))
  rw [HL108.out] at h137
  clear e119 e122 e125 e128 e131 e133  l134 m135 h136 h ok hp h110 p
  have nc117 := k118.len
  have Hc117 := Lib.hid k118
  clear k118
  have nc120 := k121.len
  have Hc120 := Lib.hid k121
  clear k121
  have nc123 := k124.len
  have Hc123 := Lib.hid k124
  clear k124
  have nc126 := k127.len
  have Hc126 := Lib.hid k127
  clear k127
  have nc129 := k130.len
  have Hc129 := Lib.hid k130
  clear k130
  obtain ⟨L138, hL138⟩ : ∃ L : List (Nat × Obj), L = [(bk132, .cells (ints .u64 (List.replicate 5 0)) 28), (bk95, .cells (ints .u64 c92) 28), (bk64, .cells (ints .u64 c61) 28), (bk3, .cells (ptC (zs 5) (zs 5) (zs 5) (zs 5) false) 49), (bk2, .cells (ptC c27 c29 c31 c33 true) 49), (bk1, .cells (ptC c16 c18 c20 c22 true) 49)] := ⟨_, rfl⟩
  rw [← hL138] at h137
  have HL138 := Lib.hid hL138
  clear hL138
  refine drawn_end (ol := [_]) rfl (by kernel_rfl) ?_
  intro K hK
  have s139 := h137
  rw [HL138.out] at s139
  have f140 := s139.nth 0 rfl
  have t141 := s139.lt 0 rfl
  clear s139
  have s142 := h137
  rw [HL138.out] at s142
  go_wp2_with fail
  clear f140 t141
  refine OwB.named (Q := fun X => Code.wp _ _ _ _ X) (show OwB w [(bk132, .cells (ints .u64 c129) 28), (bk95, .cells (ints .u64 c92) 28), (bk64, .cells (ints .u64 c61) 28), (bk3, .cells (ptC (zs 5) (zs 5) (zs 5) (zs 5) false) 49), (bk2, .cells (ptC c27 c29 c31 c33 true) 49), (bk1, .cells (ptC c16 c18 c20 c22 true) 49)] _ from (s142.set 0 (.cells (ints .u64 c129) 28) rfl)) ?_
  intro V144 h143
  clear s142 h137
  obtain ⟨L145, hL145⟩ : ∃ L : List (Nat × Obj), L = [(bk132, .cells (ints .u64 c129) 28), (bk95, .cells (ints .u64 c92) 28), (bk64, .cells (ints .u64 c61) 28), (bk3, .cells (ptC (zs 5) (zs 5) (zs 5) (zs 5) false) 49), (bk2, .cells (ptC c27 c29 c31 c33 true) 49), (bk1, .cells (ptC c16 c18 c20 c22 true) 49)] := ⟨_, rfl⟩
  rw [← hL145] at h143
  have HL145 := Lib.hid hL145
  clear hL145
  refine drawn_begin 8 (OwB w L145) (by kernel_rfl) ?_
  refine OwB.named (Q := fun X => Go.Dr.wpAnyS Try.prog .any _ _ _ _ _ _ _ X) (h143.drew) ?_
  intro V146 h147
  clear h143
  have s148 := h147
  rw [HL145.out] at s148
  have f149 := s148.nth 5 rfl
  have f150 := s148.nth 4 rfl
  clear s148
  refine drawn_reads (fuel := 5) [0, 1, 4, 5] rfl (by kernel_rfl) (h147) ?_
  repeat (first | (refine rowK_step2 rfl rfl (fun K hK => ?_); go_wp2) | (refine rowK_step rfl (fun K hK => ?_); go_simp; refine hK _ ?_; clear hK K))
  refine rowK_nil ⟨fun w' hw' => ?_, ?_⟩
  · rw [HL145.out] at hw'
    have g151 := hw'.nth 5 rfl
    have g152 := hw'.nth 4 rfl
    clear f149 f150
    repeat (first | (refine rowWp_step2 rfl rfl (fun K hK => ?_); go_wp2) | (refine rowWp_step rfl (fun K hK => ?_); go_simp; refine hK _ ?_; clear hK K))
    exact rowWp_nil rfl
  clear f149 f150
  obtain ⟨p, hp⟩ : ∃ p : Par, p = ⟨[(2, 50, fun v => ∃ lq, v = fe lq ∧ Is lq ((toFp 2))), (3, 51, fun v => ∃ lq, v = fe lq ∧ Is lq ((Z1 * (toFp 2)))), (6, 54, fun v => ∃ lq, v = fe lq ∧ Is lq (((Z1 * (toFp 2)) * Z2)))], [(7, 8, .cells (ints .u64 (List.replicate 5 0)) 28)], [0, 1, 4, 5]⟩ := ⟨_, rfl⟩
  have ok : p.ok := by rw [hp]; exact ⟨(by decide : [2, 3, 6, 7].Nodup), (by decide : [50, 51, 54, 8].Nodup)⟩
  refine drawn_inv (rest := 1) [50, 51, 54, 8] (fun L s w => p.Inv V146 L s w) (fun _ => undef) 4 (by kernel_rfl) (fun L s w h => ?_) (by kernel_rfl) ?_ ?_ ?_
  · exact h147.call h.fr
  · refine Par.Inv.start ?_ ?_ ?_ <;> rw [hp] <;> intro i hi <;> simp at hi
    · rcases hi with rfl | rfl | rfl | rfl <;> rfl
    · rcases hi with rfl | rfl | rfl <;> rfl
    · subst hi; rfl
  · intro i o L s w ho hi hL hd h K hK
    rcases (show i = 0 ∨ i = 1 ∨ i = 2 ∨ i = 3 ∨ i = 4 ∨ i = 5 ∨ i = 6 ∨ i = 7 by omega) with rfl | rfl | rfl | rfl | rfl | rfl | rfl | rfl
    · rw [h.row 0 (by rw [hp]; simp)] at hL; cases hL
    · rw [h.row 1 (by rw [hp]; simp)] at hL; cases hL
    · injection (show some _ = some o from ho) with ho; subst ho
      simp only [fill]
      go_wp2_with fail
      refine (small2_f).mono ?_
      rintro e w2 ⟨lq, rfl, hc, F⟩
      simp only []
      go_wp2
      exact ⟨_, by kernel_rfl, h.called ok (2, 50, fun v => ∃ lq, v = fe lq ∧ Is lq ((toFp 2))) (by rw [hp]; simp) F ⟨lq, rfl, hc⟩⟩
    · injection (show some _ = some o from ho) with ho; subst ho
      have l50 : L 2 = true := after_on hd (by kernel_rfl)
      obtain ⟨d50, e50, k50⟩ := h.call (2, 50, fun v => ∃ lq, v = fe lq ∧ Is lq ((toFp 2))) (by rw [hp]; simp) l50
      have K50 := Lib.hid k50
      have ct : Calls Try.prog 36 #[fe c20, s 50] w (fun e w' => ∃ lq, e = .returned (fe lq) ∧ Is lq ((Z1 * (toFp 2))) ∧ Fr [] w w') := by
        simp only [] at e50
        rw [e50]
        exact mul_f Hc20.out K50.out
      clear e50 l50 k50
      simp only [fill]
      go_wp2_with fail
      refine (ct).mono ?_
      rintro e w2 ⟨lq, rfl, hc, F⟩
      simp only []
      go_wp2
      exact ⟨_, by kernel_rfl, h.called ok (3, 51, fun v => ∃ lq, v = fe lq ∧ Is lq ((Z1 * (toFp 2)))) (by rw [hp]; simp) F ⟨lq, rfl, hc⟩⟩
    · rw [h.row 4 (by rw [hp]; simp)] at hL; cases hL
    · rw [h.row 5 (by rw [hp]; simp)] at hL; cases hL
    · injection (show some _ = some o from ho) with ho; subst ho
      have l51 : L 3 = true := after_on hd (by kernel_rfl)
      obtain ⟨d51, e51, k51⟩ := h.call (3, 51, fun v => ∃ lq, v = fe lq ∧ Is lq ((Z1 * (toFp 2)))) (by rw [hp]; simp) l51
      have K51 := Lib.hid k51
      have ct : Calls Try.prog 36 #[s 51, fe c31] w (fun e w' => ∃ lq, e = .returned (fe lq) ∧ Is lq (((Z1 * (toFp 2)) * Z2)) ∧ Fr [] w w') := by
        simp only [] at e51
        rw [e51]
        exact mul_f K51.out Hc31.out
      clear e51 l51 k51
      simp only [fill]
      go_wp2_with fail
      refine (ct).mono ?_
      rintro e w2 ⟨lq, rfl, hc, F⟩
      simp only []
      go_wp2
      exact ⟨_, by kernel_rfl, h.called ok (6, 54, fun v => ∃ lq, v = fe lq ∧ Is lq (((Z1 * (toFp 2)) * Z2))) (by rw [hp]; simp) F ⟨lq, rfl, hc⟩⟩
    · injection (show some _ = some o from ho) with ho; subst ho
      simp only [fill]
      go_wp2
      exact ⟨_, by kernel_rfl, h.made ok (7, 8, .cells (ints .u64 (List.replicate 5 0)) 28) (by rw [hp]; simp)⟩
  intro s w153 h
  obtain ⟨c154, e156, k155⟩ := h.call (2, 50, fun v => ∃ lq, v = fe lq ∧ Is lq ((toFp 2))) (by rw [hp]; simp) rfl
  obtain ⟨c157, e159, k158⟩ := h.call (3, 51, fun v => ∃ lq, v = fe lq ∧ Is lq ((Z1 * (toFp 2)))) (by rw [hp]; simp) rfl
  obtain ⟨c160, e162, k161⟩ := h.call (6, 54, fun v => ∃ lq, v = fe lq ∧ Is lq (((Z1 * (toFp 2)) * Z2))) (by rw [hp]; simp) rfl
  obtain ⟨bk163, e164, l165, m166⟩ := h.room (7, 8, .cells (ints .u64 (List.replicate 5 0)) 28) (by rw [hp]; simp) rfl
  simp only [] at e156 e159 e162 e164
  have h167 := h147.call h.fr
  simp only [fill, e156, e159, e162, e164]
  have h168 := (h167.room m166 (h147.fresh l165) (Nat.le_trans h147.fr.size l165))
  rw [HL145.out] at h168
  clear e156 e159 e162 e164  l165 m166 h167 h ok hp h147 p
  have nc154 := k155.len
  have Hc154 := Lib.hid k155
  clear k155
  have nc157 := k158.len
  have Hc157 := Lib.hid k158
  clear k158
  have nc160 := k161.len
  have Hc160 := Lib.hid k161
  clear k161
  obtain ⟨L169, hL169⟩ : ∃ L : List (Nat × Obj), L = [(bk163, .cells (ints .u64 (List.replicate 5 0)) 28), (bk132, .cells (ints .u64 c129) 28), (bk95, .cells (ints .u64 c92) 28), (bk64, .cells (ints .u64 c61) 28), (bk3, .cells (ptC (zs 5) (zs 5) (zs 5) (zs 5) false) 49), (bk2, .cells (ptC c27 c29 c31 c33 true) 49), (bk1, .cells (ptC c16 c18 c20 c22 true) 49)] := ⟨_, rfl⟩
  rw [← hL169] at h168
  have HL169 := Lib.hid hL169
  clear hL169
  refine drawn_end (ol := [_]) rfl (by kernel_rfl) ?_
  intro K hK
  have s170 := h168
  rw [HL169.out] at s170
  have f171 := s170.nth 0 rfl
  have t172 := s170.lt 0 rfl
  clear s170
  have s173 := h168
  rw [HL169.out] at s173
  go_wp2_with fail
  clear f171 t172
  refine OwB.named (Q := fun X => Code.wp _ _ _ _ X) (show OwB w [(bk163, .cells (ints .u64 c160) 28), (bk132, .cells (ints .u64 c129) 28), (bk95, .cells (ints .u64 c92) 28), (bk64, .cells (ints .u64 c61) 28), (bk3, .cells (ptC (zs 5) (zs 5) (zs 5) (zs 5) false) 49), (bk2, .cells (ptC c27 c29 c31 c33 true) 49), (bk1, .cells (ptC c16 c18 c20 c22 true) 49)] _ from (s173.set 0 (.cells (ints .u64 c160) 28) rfl)) ?_
  intro V175 h174
  clear s173 h168
  obtain ⟨L176, hL176⟩ : ∃ L : List (Nat × Obj), L = [(bk163, .cells (ints .u64 c160) 28), (bk132, .cells (ints .u64 c129) 28), (bk95, .cells (ints .u64 c92) 28), (bk64, .cells (ints .u64 c61) 28), (bk3, .cells (ptC (zs 5) (zs 5) (zs 5) (zs 5) false) 49), (bk2, .cells (ptC c27 c29 c31 c33 true) 49), (bk1, .cells (ptC c16 c18 c20 c22 true) 49)] := ⟨_, rfl⟩
  rw [← hL176] at h174
  have HL176 := Lib.hid hL176
  clear hL176
  refine drawn_begin 16 (OwB w L176) (by kernel_rfl) ?_
  refine OwB.named (Q := fun X => Go.Dr.wpAnyS Try.prog .any _ _ _ _ _ _ _ X) (h174.drew) ?_
  intro V177 h178
  clear h174
  have s179 := h178
  rw [HL176.out] at s179
  have f180 := s179.nth 2 rfl
  have f181 := s179.nth 3 rfl
  have f182 := s179.nth 0 rfl
  have f183 := s179.nth 1 rfl
  clear s179
  refine drawn_reads (fuel := 12) [0, 1, 3, 4, 6, 7, 9, 10] rfl (by kernel_rfl) (h178) ?_
  repeat (first | (refine rowK_step2 rfl rfl (fun K hK => ?_); go_wp2) | (refine rowK_step rfl (fun K hK => ?_); go_simp; refine hK _ ?_; clear hK K))
  refine rowK_nil ⟨fun w' hw' => ?_, ?_⟩
  · rw [HL176.out] at hw'
    have g184 := hw'.nth 2 rfl
    have g185 := hw'.nth 3 rfl
    have g186 := hw'.nth 0 rfl
    have g187 := hw'.nth 1 rfl
    clear f180 f181 f182 f183
    repeat (first | (refine rowWp_step2 rfl rfl (fun K hK => ?_); go_wp2) | (refine rowWp_step rfl (fun K hK => ?_); go_simp; refine hK _ ?_; clear hK K))
    exact rowWp_nil rfl
  clear f180 f181 f182 f183
  obtain ⟨p, hp⟩ : ∃ p : Par, p = ⟨[(2, 57, fun v => ∃ lq, v = fe lq ∧ Is lq ((((Y1 + X1) * (Y2 + X2)) - ((Y1 - X1) * (Y2 - X2))))), (5, 60, fun v => ∃ lq, v = fe lq ∧ Is lq ((((Z1 * (toFp 2)) * Z2) - ((T1 * (toFp 2)) * (dE * T2))))), (8, 63, fun v => ∃ lq, v = fe lq ∧ Is lq ((((Z1 * (toFp 2)) * Z2) + ((T1 * (toFp 2)) * (dE * T2))))), (11, 66, fun v => ∃ lq, v = fe lq ∧ Is lq ((((Y1 + X1) * (Y2 + X2)) + ((Y1 - X1) * (Y2 - X2)))))], [(12, 9, .cells (ints .u64 (List.replicate 5 0)) 28), (13, 10, .cells (ints .u64 (List.replicate 5 0)) 28), (14, 11, .cells (ints .u64 (List.replicate 5 0)) 28), (15, 12, .cells (ints .u64 (List.replicate 5 0)) 28)], [0, 1, 3, 4, 6, 7, 9, 10]⟩ := ⟨_, rfl⟩
  have ok : p.ok := by rw [hp]; exact ⟨(by decide : [2, 5, 8, 11, 12, 13, 14, 15].Nodup), (by decide : [57, 60, 63, 66, 9, 10, 11, 12].Nodup)⟩
  refine drawn_inv (rest := 4) [57, 60, 63, 66, 9, 10, 11, 12] (fun L s w => p.Inv V177 L s w) (fun _ => undef) 8 (by kernel_rfl) (fun L s w h => ?_) (by kernel_rfl) ?_ ?_ ?_
  · exact h178.call h.fr
  · refine Par.Inv.start ?_ ?_ ?_ <;> rw [hp] <;> intro i hi <;> simp at hi
    · rcases hi with rfl | rfl | rfl | rfl | rfl | rfl | rfl | rfl <;> rfl
    · rcases hi with rfl | rfl | rfl | rfl <;> rfl
    · rcases hi with rfl | rfl | rfl | rfl <;> rfl
  · intro i o L s w ho hi hL hd h K hK
    rcases (show i = 0 ∨ i = 1 ∨ i = 2 ∨ i = 3 ∨ i = 4 ∨ i = 5 ∨ i = 6 ∨ i = 7 ∨ i = 8 ∨ i = 9 ∨ i = 10 ∨ i = 11 ∨ i = 12 ∨ i = 13 ∨ i = 14 ∨ i = 15 by omega) with rfl | rfl | rfl | rfl | rfl | rfl | rfl | rfl | rfl | rfl | rfl | rfl | rfl | rfl | rfl | rfl
    · rw [h.row 0 (by rw [hp]; simp)] at hL; cases hL
    · rw [h.row 1 (by rw [hp]; simp)] at hL; cases hL
    · injection (show some _ = some o from ho) with ho; subst ho
      simp only [fill]
      go_wp2_with fail
      refine (sub_f Hc92.out Hc61.out).mono ?_
      rintro e w2 ⟨lq, rfl, hc, F⟩
      simp only []
      go_wp2
      exact ⟨_, by kernel_rfl, h.called ok (2, 57, fun v => ∃ lq, v = fe lq ∧ Is lq ((((Y1 + X1) * (Y2 + X2)) - ((Y1 - X1) * (Y2 - X2))))) (by rw [hp]; simp) F ⟨lq, rfl, hc⟩⟩
    · rw [h.row 3 (by rw [hp]; simp)] at hL; cases hL
    · rw [h.row 4 (by rw [hp]; simp)] at hL; cases hL
    · injection (show some _ = some o from ho) with ho; subst ho
      simp only [fill]
      go_wp2_with fail
      refine (sub_f Hc160.out Hc129.out).mono ?_
      rintro e w2 ⟨lq, rfl, hc, F⟩
      simp only []
      go_wp2
      exact ⟨_, by kernel_rfl, h.called ok (5, 60, fun v => ∃ lq, v = fe lq ∧ Is lq ((((Z1 * (toFp 2)) * Z2) - ((T1 * (toFp 2)) * (dE * T2))))) (by rw [hp]; simp) F ⟨lq, rfl, hc⟩⟩
    · rw [h.row 6 (by rw [hp]; simp)] at hL; cases hL
    · rw [h.row 7 (by rw [hp]; simp)] at hL; cases hL
    · injection (show some _ = some o from ho) with ho; subst ho
      simp only [fill]
      go_wp2_with fail
      refine (add_f Hc160.out Hc129.out).mono ?_
      rintro e w2 ⟨lq, rfl, hc, F⟩
      simp only []
      go_wp2
      exact ⟨_, by kernel_rfl, h.called ok (8, 63, fun v => ∃ lq, v = fe lq ∧ Is lq ((((Z1 * (toFp 2)) * Z2) + ((T1 * (toFp 2)) * (dE * T2))))) (by rw [hp]; simp) F ⟨lq, rfl, hc⟩⟩
    · rw [h.row 9 (by rw [hp]; simp)] at hL; cases hL
    · rw [h.row 10 (by rw [hp]; simp)] at hL; cases hL
    · injection (show some _ = some o from ho) with ho; subst ho
      simp only [fill]
      go_wp2_with fail
      refine (add_f Hc92.out Hc61.out).mono ?_
      rintro e w2 ⟨lq, rfl, hc, F⟩
      simp only []
      go_wp2
      exact ⟨_, by kernel_rfl, h.called ok (11, 66, fun v => ∃ lq, v = fe lq ∧ Is lq ((((Y1 + X1) * (Y2 + X2)) + ((Y1 - X1) * (Y2 - X2))))) (by rw [hp]; simp) F ⟨lq, rfl, hc⟩⟩
    · injection (show some _ = some o from ho) with ho; subst ho
      simp only [fill]
      go_wp2
      exact ⟨_, by kernel_rfl, h.made ok (12, 9, .cells (ints .u64 (List.replicate 5 0)) 28) (by rw [hp]; simp)⟩
    · injection (show some _ = some o from ho) with ho; subst ho
      simp only [fill]
      go_wp2
      exact ⟨_, by kernel_rfl, h.made ok (13, 10, .cells (ints .u64 (List.replicate 5 0)) 28) (by rw [hp]; simp)⟩
    · injection (show some _ = some o from ho) with ho; subst ho
      simp only [fill]
      go_wp2
      exact ⟨_, by kernel_rfl, h.made ok (14, 11, .cells (ints .u64 (List.replicate 5 0)) 28) (by rw [hp]; simp)⟩
    · injection (show some _ = some o from ho) with ho; subst ho
      simp only [fill]
      go_wp2
      exact ⟨_, by kernel_rfl, h.made ok (15, 12, .cells (ints .u64 (List.replicate 5 0)) 28) (by rw [hp]; simp)⟩
  intro s w188 h
  obtain ⟨c189, e191, k190⟩ := h.call (2, 57, fun v => ∃ lq, v = fe lq ∧ Is lq ((((Y1 + X1) * (Y2 + X2)) - ((Y1 - X1) * (Y2 - X2))))) (by rw [hp]; simp) rfl
  obtain ⟨c192, e194, k193⟩ := h.call (5, 60, fun v => ∃ lq, v = fe lq ∧ Is lq ((((Z1 * (toFp 2)) * Z2) - ((T1 * (toFp 2)) * (dE * T2))))) (by rw [hp]; simp) rfl
  obtain ⟨c195, e197, k196⟩ := h.call (8, 63, fun v => ∃ lq, v = fe lq ∧ Is lq ((((Z1 * (toFp 2)) * Z2) + ((T1 * (toFp 2)) * (dE * T2))))) (by rw [hp]; simp) rfl
  obtain ⟨c198, e200, k199⟩ := h.call (11, 66, fun v => ∃ lq, v = fe lq ∧ Is lq ((((Y1 + X1) * (Y2 + X2)) + ((Y1 - X1) * (Y2 - X2))))) (by rw [hp]; simp) rfl
  obtain ⟨bk201, e202, l203, m204⟩ := h.room (12, 9, .cells (ints .u64 (List.replicate 5 0)) 28) (by rw [hp]; simp) rfl
  obtain ⟨bk205, e206, l207, m208⟩ := h.room (13, 10, .cells (ints .u64 (List.replicate 5 0)) 28) (by rw [hp]; simp) rfl
  obtain ⟨bk209, e210, l211, m212⟩ := h.room (14, 11, .cells (ints .u64 (List.replicate 5 0)) 28) (by rw [hp]; simp) rfl
  obtain ⟨bk213, e214, l215, m216⟩ := h.room (15, 12, .cells (ints .u64 (List.replicate 5 0)) 28) (by rw [hp]; simp) rfl
  simp only [] at e191 e194 e197 e200 e202 e206 e210 e214
  have q217 := h.apart (13, 10, .cells (ints .u64 (List.replicate 5 0)) 28) (by rw [hp]; simp) (12, 9, .cells (ints .u64 (List.replicate 5 0)) 28) (by rw [hp]; simp) (by simp) rfl rfl
  simp only [e206, e202] at q217
  have q218 := h.apart (14, 11, .cells (ints .u64 (List.replicate 5 0)) 28) (by rw [hp]; simp) (12, 9, .cells (ints .u64 (List.replicate 5 0)) 28) (by rw [hp]; simp) (by simp) rfl rfl
  simp only [e210, e202] at q218
  have q219 := h.apart (14, 11, .cells (ints .u64 (List.replicate 5 0)) 28) (by rw [hp]; simp) (13, 10, .cells (ints .u64 (List.replicate 5 0)) 28) (by rw [hp]; simp) (by simp) rfl rfl
  simp only [e210, e206] at q219
  have q220 := h.apart (15, 12, .cells (ints .u64 (List.replicate 5 0)) 28) (by rw [hp]; simp) (12, 9, .cells (ints .u64 (List.replicate 5 0)) 28) (by rw [hp]; simp) (by simp) rfl rfl
  simp only [e214, e202] at q220
  have q221 := h.apart (15, 12, .cells (ints .u64 (List.replicate 5 0)) 28) (by rw [hp]; simp) (13, 10, .cells (ints .u64 (List.replicate 5 0)) 28) (by rw [hp]; simp) (by simp) rfl rfl
  simp only [e214, e206] at q221
  have q222 := h.apart (15, 12, .cells (ints .u64 (List.replicate 5 0)) 28) (by rw [hp]; simp) (14, 11, .cells (ints .u64 (List.replicate 5 0)) 28) (by rw [hp]; simp) (by simp) rfl rfl
  simp only [e214, e210] at q222
  have h223 := h178.call h.fr
  simp only [fill, e191, e194, e197, e200, e202, e206, e210, e214]
  have h224 := ((((h223.room m204 (h178.fresh l203) (Nat.le_trans h178.fr.size l203)).room m208 (by simp only [List.map_cons, List.mem_cons, not_or]; exact ⟨(fun e => q217 (by rw [e])), (h178.fresh l207)⟩) (Nat.le_trans h178.fr.size l207)).room m212 (by simp only [List.map_cons, List.mem_cons, not_or]; exact ⟨(fun e => q219 (by rw [e])), (fun e => q218 (by rw [e])), (h178.fresh l211)⟩) (Nat.le_trans h178.fr.size l211)).room m216 (by simp only [List.map_cons, List.mem_cons, not_or]; exact ⟨(fun e => q222 (by rw [e])), (fun e => q221 (by rw [e])), (fun e => q220 (by rw [e])), (h178.fresh l215)⟩) (Nat.le_trans h178.fr.size l215))
  rw [HL176.out] at h224
  clear e191 e194 e197 e200 e202 e206 e210 e214 q217 q218 q219 q220 q221 q222 l203 m204 l207 m208 l211 m212 l215 m216 h223 h ok hp h178 p
  have nc189 := k190.len
  have Hc189 := Lib.hid k190
  clear k190
  have nc192 := k193.len
  have Hc192 := Lib.hid k193
  clear k193
  have nc195 := k196.len
  have Hc195 := Lib.hid k196
  clear k196
  have nc198 := k199.len
  have Hc198 := Lib.hid k199
  clear k199
  obtain ⟨L225, hL225⟩ : ∃ L : List (Nat × Obj), L = [(bk213, .cells (ints .u64 (List.replicate 5 0)) 28), (bk209, .cells (ints .u64 (List.replicate 5 0)) 28), (bk205, .cells (ints .u64 (List.replicate 5 0)) 28), (bk201, .cells (ints .u64 (List.replicate 5 0)) 28), (bk163, .cells (ints .u64 c160) 28), (bk132, .cells (ints .u64 c129) 28), (bk95, .cells (ints .u64 c92) 28), (bk64, .cells (ints .u64 c61) 28), (bk3, .cells (ptC (zs 5) (zs 5) (zs 5) (zs 5) false) 49), (bk2, .cells (ptC c27 c29 c31 c33 true) 49), (bk1, .cells (ptC c16 c18 c20 c22 true) 49)] := ⟨_, rfl⟩
  rw [← hL225] at h224
  have HL225 := Lib.hid hL225
  clear hL225
  refine drawn_end (ol := [_, _, _, _]) rfl (by kernel_rfl) ?_
  intro K hK
  have s226 := h224
  rw [HL225.out] at s226
  have f227 := s226.nth 3 rfl
  have t228 := s226.lt 3 rfl
  have f229 := s226.nth 2 rfl
  have t230 := s226.lt 2 rfl
  have f231 := s226.nth 1 rfl
  have t232 := s226.lt 1 rfl
  have f233 := s226.nth 0 rfl
  have t234 := s226.lt 0 rfl
  have e235 := s226.ne 3 2 rfl rfl (by decide)
  have e236 := s226.ne 3 1 rfl rfl (by decide)
  have e237 := s226.ne 3 0 rfl rfl (by decide)
  have e238 := s226.ne 2 3 rfl rfl (by decide)
  have e239 := s226.ne 2 1 rfl rfl (by decide)
  have e240 := s226.ne 2 0 rfl rfl (by decide)
  have e241 := s226.ne 1 3 rfl rfl (by decide)
  have e242 := s226.ne 1 2 rfl rfl (by decide)
  have e243 := s226.ne 1 0 rfl rfl (by decide)
  have e244 := s226.ne 0 3 rfl rfl (by decide)
  have e245 := s226.ne 0 2 rfl rfl (by decide)
  have e246 := s226.ne 0 1 rfl rfl (by decide)
  clear s226
  have s247 := h224
  rw [HL225.out] at s247
  go_wp2_with fail
  clear f227 t228 f229 t230 f231 t232 f233 t234 e235 e236 e237 e238 e239 e240 e241 e242 e243 e244 e245 e246
  refine OwB.named (Q := fun X => Code.wp _ _ _ _ X) (show OwB w [(bk213, .cells (ints .u64 c198) 28), (bk209, .cells (ints .u64 c195) 28), (bk205, .cells (ints .u64 c192) 28), (bk201, .cells (ints .u64 c189) 28), (bk163, .cells (ints .u64 c160) 28), (bk132, .cells (ints .u64 c129) 28), (bk95, .cells (ints .u64 c92) 28), (bk64, .cells (ints .u64 c61) 28), (bk3, .cells (ptC (zs 5) (zs 5) (zs 5) (zs 5) false) 49), (bk2, .cells (ptC c27 c29 c31 c33 true) 49), (bk1, .cells (ptC c16 c18 c20 c22 true) 49)] _ from ((((s247.set 3 (.cells (ints .u64 c189) 28) rfl).set 2 (.cells (ints .u64 c192) 28) rfl).set 1 (.cells (ints .u64 c195) 28) rfl).set 0 (.cells (ints .u64 c198) 28) rfl)) ?_
  intro V249 h248
  clear s247 h224
  obtain ⟨L250, hL250⟩ : ∃ L : List (Nat × Obj), L = [(bk213, .cells (ints .u64 c198) 28), (bk209, .cells (ints .u64 c195) 28), (bk205, .cells (ints .u64 c192) 28), (bk201, .cells (ints .u64 c189) 28), (bk163, .cells (ints .u64 c160) 28), (bk132, .cells (ints .u64 c129) 28), (bk95, .cells (ints .u64 c92) 28), (bk64, .cells (ints .u64 c61) 28), (bk3, .cells (ptC (zs 5) (zs 5) (zs 5) (zs 5) false) 49), (bk2, .cells (ptC c27 c29 c31 c33 true) 49), (bk1, .cells (ptC c16 c18 c20 c22 true) 49)] := ⟨_, rfl⟩
  rw [← hL250] at h248
  have HL250 := Lib.hid hL250
  clear hL250
  refine drawn_begin 13 (OwB w L250) (by kernel_rfl) ?_
  refine OwB.named (Q := fun X => Go.Dr.wpAnyS Try.prog .any _ _ _ _ _ _ _ X) (h248.drew) ?_
  intro V251 h252
  clear h248
  have s253 := h252
  rw [HL250.out] at s253
  have f254 := s253.nth 3 rfl
  have f255 := s253.nth 2 rfl
  have f256 := s253.nth 1 rfl
  have f257 := s253.nth 0 rfl
  clear s253
  refine drawn_reads (fuel := 6) [0, 1, 3, 4, 6, 7, 9, 10] rfl (by kernel_rfl) (h252) ?_
  repeat (first | (refine rowK_step2 rfl rfl (fun K hK => ?_); go_wp2) | (refine rowK_step rfl (fun K hK => ?_); go_simp; refine hK _ ?_; clear hK K))
  refine rowK_nil ⟨fun w' hw' => ?_, ?_⟩
  · rw [HL250.out] at hw'
    have g258 := hw'.nth 3 rfl
    have g259 := hw'.nth 2 rfl
    have g260 := hw'.nth 1 rfl
    have g261 := hw'.nth 0 rfl
    clear f254 f255 f256 f257
    repeat (first | (refine rowWp_step2 rfl rfl (fun K hK => ?_); go_wp2) | (refine rowWp_step rfl (fun K hK => ?_); go_simp; refine hK _ ?_; clear hK K))
    exact rowWp_nil rfl
  clear f254 f255 f256 f257
  refine drawn_next 2 (fuel := 5) rfl (by kernel_rfl) ?_
  intro K hK
  go_wp2_with fail
  refine (mul_f Hc189.out Hc192.out).mono ?_
  rintro e w262 ⟨c264, rfl, k265, F263⟩
  have nc264 := k265.len
  have Hc264 := Lib.hid k265
  clear k265
  have h266 := (h252).call F263
  clear F263 h252
  simp only []
  go_wp2
  refine ⟨h266, ?_⟩
  refine drawn_next 5 (fuel := 4) rfl (by kernel_rfl) ?_
  intro K hK
  go_wp2_with fail
  refine (mul_f Hc195.out Hc198.out).mono ?_
  rintro e w267 ⟨c269, rfl, k270, F268⟩
  have nc269 := k270.len
  have Hc269 := Lib.hid k270
  clear k270
  have h271 := (h266).call F268
  clear F268 h266
  simp only []
  go_wp2
  refine ⟨h271, ?_⟩
  refine drawn_next 8 (fuel := 3) rfl (by kernel_rfl) ?_
  intro K hK
  go_wp2_with fail
  refine (mul_f Hc192.out Hc195.out).mono ?_
  rintro e w272 ⟨c274, rfl, k275, F273⟩
  have nc274 := k275.len
  have Hc274 := Lib.hid k275
  clear k275
  have h276 := (h271).call F273
  clear F273 h271
  simp only []
  go_wp2
  refine ⟨h276, ?_⟩
  refine drawn_next 11 (fuel := 2) rfl (by kernel_rfl) ?_
  intro K hK
  go_wp2_with fail
  refine (mul_f Hc189.out Hc198.out).mono ?_
  rintro e w277 ⟨c279, rfl, k280, F278⟩
  have nc279 := k280.len
  have Hc279 := Lib.hid k280
  clear k280
  have h281 := (h276).call F278
  clear F278 h276
  simp only []
  go_wp2
  refine ⟨h281, ?_⟩
  refine drawn_reads (fuel := 1) [12] rfl (by kernel_rfl) (h281) ?_
  repeat (first | (refine rowK_step2 rfl rfl (fun K hK => ?_); go_wp2) | (refine rowK_step rfl (fun K hK => ?_); go_simp; refine hK _ ?_; clear hK K))
  refine rowK_nil ⟨fun w' hw' => ?_, ?_⟩
  · skip
    repeat (first | (refine rowWp_step2 rfl rfl (fun K hK => ?_); go_wp2) | (refine rowWp_step rfl (fun K hK => ?_); go_simp; refine hK _ ?_; clear hK K))
    exact rowWp_nil rfl
  refine drawn_end (ol := [_]) rfl (by kernel_rfl) ?_
  intro K hK
  have s282 := h281
  rw [HL250.out] at s282
  have f283 := s282.nth 8 rfl
  have t284 := s282.lt 8 rfl
  clear s282
  have s285 := h281
  rw [HL250.out] at s285
  go_wp2_with fail
  clear f283 t284
  refine OwB.named (Q := fun X => bodyPost _ _ _ _ _ X) (show OwB w [(bk213, .cells (ints .u64 c198) 28), (bk209, .cells (ints .u64 c195) 28), (bk205, .cells (ints .u64 c192) 28), (bk201, .cells (ints .u64 c189) 28), (bk163, .cells (ints .u64 c160) 28), (bk132, .cells (ints .u64 c129) 28), (bk95, .cells (ints .u64 c92) 28), (bk64, .cells (ints .u64 c61) 28), (bk3, .cells (ptC c264 c269 c274 c279 true) 49), (bk2, .cells (ptC c27 c29 c31 c33 true) 49), (bk1, .cells (ptC c16 c18 c20 c22 true) 49)] _ from (s285.set 8 (.cells (ptC c264 c269 c274 c279 true) 49) rfl)) ?_
  intro V287 h286
  clear s285 h281
  obtain ⟨L288, hL288⟩ : ∃ L : List (Nat × Obj), L = [(bk213, .cells (ints .u64 c198) 28), (bk209, .cells (ints .u64 c195) 28), (bk205, .cells (ints .u64 c192) 28), (bk201, .cells (ints .u64 c189) 28), (bk163, .cells (ints .u64 c160) 28), (bk132, .cells (ints .u64 c129) 28), (bk95, .cells (ints .u64 c92) 28), (bk64, .cells (ints .u64 c61) 28), (bk3, .cells (ptC c264 c269 c274 c279 true) 49), (bk2, .cells (ptC c27 c29 c31 c33 true) 49), (bk1, .cells (ptC c16 c18 c20 c22 true) 49)] := ⟨_, rfl⟩
  rw [← hL288] at h286
  have HL288 := Lib.hid hL288
  clear hL288
  have s289 := h286
  rw [HL288.out] at s289
  refine ret_cell rfl rfl rfl ?_
  refine cellRet_of (s289.nth 8 rfl) (by rw [size_ptC nc264 nc269 nc274 nc279]; kernel_rfl) ?_
  exact ⟨c264, c269, c274, c279, rfl, Hc264.out, Hc269.out, Hc274.out, Hc279.out, s289.fr⟩
end
end Go.Proofs.Ytakhmmnklkckpaa
