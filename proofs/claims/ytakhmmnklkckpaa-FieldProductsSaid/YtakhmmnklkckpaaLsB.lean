/- FieldProducts: the walk (printed by gen_field.py). -/
import Derived.Test.YtakhmmnklkckpaaOwn
namespace Go.Proofs.Ytakhmmnklkckpaa
open Go.RowKit Go.Dr

section
variable {w : World}
set_option maxRecDepth 100000 in
set_option maxHeartbeats 4000000 in
theorem fieldProducts_walk (a b c : List Int) (hla : a.length = 32) (ha : Byt a) (hlb : b.length = 32) (hb : Byt b) (hlc : c.length = 32) (hc : Byt c) : Calls Try.prog 5 #[.agg (ints .u8 a), .agg (ints .u8 b), .agg (ints .u8 c)] w fun e w' => e = .returned (.bool true) ∧ Fr [] w w' := by
  have Ba := Lib.hid ha
  clear ha
  have Bb := Lib.hid hb
  clear hb
  have Bc := Lib.hid hc
  clear hc
  go_enter Try.func5, Try.ntmps5
  go_wp2_with fail
  refine alive_any.mono ?_
  rintro e w1 ⟨rfl, F1⟩
  have h0 : Own w [(w.heap.size + 2, .cells (ints .u8 (c)) 22), (w.heap.size + 1, .cells (ints .u8 (b)) 22), (w.heap.size, .cells (ints .u8 (a)) 22)] w1 := (((((Own.start w).allocN (.cells (ints .u8 (a)) 22) w.heap.size rfl).allocN (.cells (ints .u8 (b)) 22) (w.heap.size + 1) (by simp)).allocN (.cells (ints .u8 (c)) 22) (w.heap.size + 2) (by simp))).call F1
  clear F1
  simp only []
  generalize w.heap.size + 2 = b3 at h0 ⊢
  generalize w.heap.size + 1 = b2 at h0 ⊢
  generalize w.heap.size = b1 at h0 ⊢
  obtain ⟨L4, hL4⟩ : ∃ L : List (Nat × Obj), L = [(b3, .cells (ints .u8 (c)) 22), (b2, .cells (ints .u8 (b)) 22), (b1, .cells (ints .u8 (a)) 22)] := ⟨_, rfl⟩
  rw [← hL4] at h0
  have HL4 := Lib.hid hL4
  clear hL4
  go_wp2_with fail
  refine drawn_begin 9 (Own w L4) (by kernel_rfl) ?_
  have s5 := h0.drew
  rw [HL4.out] at s5
  have f6 := s5.nth 2 rfl
  have f7 := s5.nth 1 rfl
  have f8 := s5.nth 0 rfl
  clear s5
  refine drawn_reads (fuel := 9) [0, 2, 4] rfl (by kernel_rfl) (h0.drew) ?_
  repeat (first | (refine rowK_step2 rfl rfl (fun K hK => ?_); go_wp2) | (refine rowK_step rfl (fun K hK => ?_); go_simp; refine hK _ ?_; clear hK K))
  refine rowK_nil ⟨fun w' hw' => ?_, ?_⟩
  · rw [HL4.out] at hw'
    have g9 := hw'.nth 2 rfl
    have g10 := hw'.nth 1 rfl
    have g11 := hw'.nth 0 rfl
    clear f6 f7 f8
    repeat (first | (refine rowWp_step2 rfl rfl (fun K hK => ?_); go_wp2) | (refine rowWp_step rfl (fun K hK => ?_); go_simp; refine hK _ ?_; clear hK K))
    exact rowWp_nil rfl
  clear f6 f7 f8
  obtain ⟨p, hp⟩ : ∃ p : Par, p = ⟨[(1, 18, fun v => ∃ lq, v = fe lq ∧ Is lq ((fromB a))), (3, 20, fun v => ∃ lq, v = fe lq ∧ Is lq ((fromB b))), (5, 22, fun v => ∃ lq, v = fe lq ∧ Is lq ((fromB c)))], [(6, 7, .cells (ints .u64 (List.replicate 5 0)) 28), (7, 8, .cells (ints .u64 (List.replicate 5 0)) 28), (8, 9, .cells (ints .u64 (List.replicate 5 0)) 28)], [0, 2, 4]⟩ := ⟨_, rfl⟩
  have ok : p.ok := by rw [hp]; exact ⟨(by decide : [1, 3, 5, 6, 7, 8].Nodup), (by decide : [18, 20, 22, 7, 8, 9].Nodup)⟩
  refine drawn_inv (rest := 3) [18, 20, 22, 7, 8, 9] (fun L s w => p.Inv w1.drew L s w) (fun _ => undef) 6 (by kernel_rfl) (fun L s w h => ?_) rfl ?_ ?_ ?_
  · exact (h0.drew).call h.fr
  · refine Par.Inv.start ?_ ?_ ?_ <;> rw [hp] <;> intro i hi <;> simp at hi
    · rcases hi with rfl | rfl | rfl <;> rfl
    · rcases hi with rfl | rfl | rfl <;> rfl
    · rcases hi with rfl | rfl | rfl <;> rfl
  · intro i o L s w ho hi hL hd h K hK
    rcases (show i = 0 ∨ i = 1 ∨ i = 2 ∨ i = 3 ∨ i = 4 ∨ i = 5 ∨ i = 6 ∨ i = 7 ∨ i = 8 by omega) with rfl | rfl | rfl | rfl | rfl | rfl | rfl | rfl | rfl
    · rw [h.row 0 (by rw [hp]; simp)] at hL; cases hL
    · injection (show some _ = some o from ho) with ho; subst ho
      simp only [fill]
      go_wp2_with fail
      refine (of_b hla Ba.out).mono ?_
      rintro e w2 ⟨lq, rfl, hc, F⟩
      simp only []
      go_wp2
      exact ⟨_, by kernel_rfl, h.called ok (1, 18, fun v => ∃ lq, v = fe lq ∧ Is lq ((fromB a))) (by rw [hp]; simp) F ⟨lq, rfl, hc⟩⟩
    · rw [h.row 2 (by rw [hp]; simp)] at hL; cases hL
    · injection (show some _ = some o from ho) with ho; subst ho
      simp only [fill]
      go_wp2_with fail
      refine (of_b hlb Bb.out).mono ?_
      rintro e w2 ⟨lq, rfl, hc, F⟩
      simp only []
      go_wp2
      exact ⟨_, by kernel_rfl, h.called ok (3, 20, fun v => ∃ lq, v = fe lq ∧ Is lq ((fromB b))) (by rw [hp]; simp) F ⟨lq, rfl, hc⟩⟩
    · rw [h.row 4 (by rw [hp]; simp)] at hL; cases hL
    · injection (show some _ = some o from ho) with ho; subst ho
      simp only [fill]
      go_wp2_with fail
      refine (of_b hlc Bc.out).mono ?_
      rintro e w2 ⟨lq, rfl, hc, F⟩
      simp only []
      go_wp2
      exact ⟨_, by kernel_rfl, h.called ok (5, 22, fun v => ∃ lq, v = fe lq ∧ Is lq ((fromB c))) (by rw [hp]; simp) F ⟨lq, rfl, hc⟩⟩
    · injection (show some _ = some o from ho) with ho; subst ho
      simp only [fill]
      go_wp2
      exact ⟨_, by kernel_rfl, h.made ok (6, 7, .cells (ints .u64 (List.replicate 5 0)) 28) (by rw [hp]; simp)⟩
    · injection (show some _ = some o from ho) with ho; subst ho
      simp only [fill]
      go_wp2
      exact ⟨_, by kernel_rfl, h.made ok (7, 8, .cells (ints .u64 (List.replicate 5 0)) 28) (by rw [hp]; simp)⟩
    · injection (show some _ = some o from ho) with ho; subst ho
      simp only [fill]
      go_wp2
      exact ⟨_, by kernel_rfl, h.made ok (8, 9, .cells (ints .u64 (List.replicate 5 0)) 28) (by rw [hp]; simp)⟩
  intro s w12 h
  obtain ⟨c13, e15, k14⟩ := h.call (1, 18, fun v => ∃ lq, v = fe lq ∧ Is lq ((fromB a))) (by rw [hp]; simp) rfl
  obtain ⟨c16, e18, k17⟩ := h.call (3, 20, fun v => ∃ lq, v = fe lq ∧ Is lq ((fromB b))) (by rw [hp]; simp) rfl
  obtain ⟨c19, e21, k20⟩ := h.call (5, 22, fun v => ∃ lq, v = fe lq ∧ Is lq ((fromB c))) (by rw [hp]; simp) rfl
  obtain ⟨b22, e23, l24, m25⟩ := h.room (6, 7, .cells (ints .u64 (List.replicate 5 0)) 28) (by rw [hp]; simp) rfl
  obtain ⟨b26, e27, l28, m29⟩ := h.room (7, 8, .cells (ints .u64 (List.replicate 5 0)) 28) (by rw [hp]; simp) rfl
  obtain ⟨b30, e31, l32, m33⟩ := h.room (8, 9, .cells (ints .u64 (List.replicate 5 0)) 28) (by rw [hp]; simp) rfl
  simp only [] at e15 e18 e21 e23 e27 e31
  have q34 := h.apart (7, 8, .cells (ints .u64 (List.replicate 5 0)) 28) (by rw [hp]; simp) (6, 7, .cells (ints .u64 (List.replicate 5 0)) 28) (by rw [hp]; simp) (by simp) rfl rfl
  simp only [e27, e23] at q34
  have q35 := h.apart (8, 9, .cells (ints .u64 (List.replicate 5 0)) 28) (by rw [hp]; simp) (6, 7, .cells (ints .u64 (List.replicate 5 0)) 28) (by rw [hp]; simp) (by simp) rfl rfl
  simp only [e31, e23] at q35
  have q36 := h.apart (8, 9, .cells (ints .u64 (List.replicate 5 0)) 28) (by rw [hp]; simp) (7, 8, .cells (ints .u64 (List.replicate 5 0)) 28) (by rw [hp]; simp) (by simp) rfl rfl
  simp only [e31, e27] at q36
  have h37 := (h0.drew).call h.fr
  simp only [fill, e15, e18, e21, e23, e27, e31]
  have h38 := (((h37.room m25 (h0.fresh l24) (Nat.le_trans h0.fr.size l24)).room m29 (by simp only [List.map_cons, List.mem_cons, not_or]; exact ⟨(fun e => q34 (by rw [e])), (h0.fresh l28)⟩) (Nat.le_trans h0.fr.size l28)).room m33 (by simp only [List.map_cons, List.mem_cons, not_or]; exact ⟨(fun e => q36 (by rw [e])), (fun e => q35 (by rw [e])), (h0.fresh l32)⟩) (Nat.le_trans h0.fr.size l32))
  rw [HL4.out] at h38
  clear e15 e18 e21 e23 e27 e31 q34 q35 q36 l24 m25 l28 m29 l32 m33 h37 h ok hp h0 p
  have nc13 := k14.len
  have Hc13 := Lib.hid k14
  clear k14
  have nc16 := k17.len
  have Hc16 := Lib.hid k17
  clear k17
  have nc19 := k20.len
  have Hc19 := Lib.hid k20
  clear k20
  obtain ⟨L39, hL39⟩ : ∃ L : List (Nat × Obj), L = [(b30, .cells (ints .u64 (List.replicate 5 0)) 28), (b26, .cells (ints .u64 (List.replicate 5 0)) 28), (b22, .cells (ints .u64 (List.replicate 5 0)) 28), (b3, .cells (ints .u8 (c)) 22), (b2, .cells (ints .u8 (b)) 22), (b1, .cells (ints .u8 (a)) 22)] := ⟨_, rfl⟩
  rw [← hL39] at h38
  have HL39 := Lib.hid hL39
  clear hL39
  refine drawn_end (ol := [_, _, _]) rfl (by kernel_rfl) ?_
  intro K hK
  have s40 := h38
  rw [HL39.out] at s40
  have f41 := s40.nth 2 rfl
  have t42 := s40.lt 2 rfl
  have f43 := s40.nth 1 rfl
  have t44 := s40.lt 1 rfl
  have f45 := s40.nth 0 rfl
  have t46 := s40.lt 0 rfl
  have e47 := s40.ne 2 1 rfl rfl (by decide)
  have e48 := s40.ne 2 0 rfl rfl (by decide)
  have e49 := s40.ne 1 2 rfl rfl (by decide)
  have e50 := s40.ne 1 0 rfl rfl (by decide)
  have e51 := s40.ne 0 2 rfl rfl (by decide)
  have e52 := s40.ne 0 1 rfl rfl (by decide)
  clear s40
  have s53 := h38
  rw [HL39.out] at s53
  go_wp2_with fail
  clear f41 t42 f43 t44 f45 t46 e47 e48 e49 e50 e51 e52
  refine Own.named (Q := fun X => Code.wp _ _ _ _ X) (show Own w [(b30, .cells (ints .u64 c19) 28), (b26, .cells (ints .u64 c16) 28), (b22, .cells (ints .u64 c13) 28), (b3, .cells (ints .u8 (c)) 22), (b2, .cells (ints .u8 (b)) 22), (b1, .cells (ints .u8 (a)) 22)] _ from (((s53.set 2 (.cells (ints .u64 c13) 28) rfl).set 1 (.cells (ints .u64 c16) 28) rfl).set 0 (.cells (ints .u64 c19) 28) rfl)) ?_
  intro V55 h54
  clear s53 h38
  obtain ⟨L56, hL56⟩ : ∃ L : List (Nat × Obj), L = [(b30, .cells (ints .u64 c19) 28), (b26, .cells (ints .u64 c16) 28), (b22, .cells (ints .u64 c13) 28), (b3, .cells (ints .u8 (c)) 22), (b2, .cells (ints .u8 (b)) 22), (b1, .cells (ints .u8 (a)) 22)] := ⟨_, rfl⟩
  rw [← hL56] at h54
  have HL56 := Lib.hid hL56
  clear hL56
  refine drawn_begin 9 (Own w L56) (by kernel_rfl) ?_
  have s57 := h54.drew
  rw [HL56.out] at s57
  have f58 := s57.nth 5 rfl
  have f59 := s57.nth 4 rfl
  have f60 := s57.nth 3 rfl
  clear s57
  refine drawn_reads (fuel := 9) [0, 2, 4] rfl (by kernel_rfl) (h54.drew) ?_
  repeat (first | (refine rowK_step2 rfl rfl (fun K hK => ?_); go_wp2) | (refine rowK_step rfl (fun K hK => ?_); go_simp; refine hK _ ?_; clear hK K))
  refine rowK_nil ⟨fun w' hw' => ?_, ?_⟩
  · rw [HL56.out] at hw'
    have g61 := hw'.nth 5 rfl
    have g62 := hw'.nth 4 rfl
    have g63 := hw'.nth 3 rfl
    clear f58 f59 f60
    repeat (first | (refine rowWp_step2 rfl rfl (fun K hK => ?_); go_wp2) | (refine rowWp_step rfl (fun K hK => ?_); go_simp; refine hK _ ?_; clear hK K))
    exact rowWp_nil rfl
  clear f58 f59 f60
  obtain ⟨p, hp⟩ : ∃ p : Par, p = ⟨[(1, 24, fun v => v = dF ((fromB a))), (3, 26, fun v => v = dF ((fromB b))), (5, 28, fun v => v = dF ((fromB c)))], [(6, 10, .cells (ints .i64 (List.replicate 16 0)) 32), (7, 11, .cells (ints .i64 (List.replicate 16 0)) 32), (8, 12, .cells (ints .i64 (List.replicate 16 0)) 32)], [0, 2, 4]⟩ := ⟨_, rfl⟩
  have ok : p.ok := by rw [hp]; exact ⟨(by decide : [1, 3, 5, 6, 7, 8].Nodup), (by decide : [24, 26, 28, 10, 11, 12].Nodup)⟩
  refine drawn_inv (rest := 3) [24, 26, 28, 10, 11, 12] (fun L s w => p.Inv V55.drew L s w) (fun _ => undef) 6 (by kernel_rfl) (fun L s w h => ?_) rfl ?_ ?_ ?_
  · exact (h54.drew).call h.fr
  · refine Par.Inv.start ?_ ?_ ?_ <;> rw [hp] <;> intro i hi <;> simp at hi
    · rcases hi with rfl | rfl | rfl <;> rfl
    · rcases hi with rfl | rfl | rfl <;> rfl
    · rcases hi with rfl | rfl | rfl <;> rfl
  · intro i o L s w ho hi hL hd h K hK
    rcases (show i = 0 ∨ i = 1 ∨ i = 2 ∨ i = 3 ∨ i = 4 ∨ i = 5 ∨ i = 6 ∨ i = 7 ∨ i = 8 by omega) with rfl | rfl | rfl | rfl | rfl | rfl | rfl | rfl | rfl
    · rw [h.row 0 (by rw [hp]; simp)] at hL; cases hL
    · injection (show some _ = some o from ho) with ho; subst ho
      simp only [fill]
      go_wp2_with fail
      refine (rof_b hla Ba.out).mono ?_
      rintro e w2 ⟨rfl, F⟩
      simp only []
      go_wp2
      exact ⟨_, by kernel_rfl, h.called ok (1, 24, fun v => v = dF ((fromB a))) (by rw [hp]; simp) F rfl⟩
    · rw [h.row 2 (by rw [hp]; simp)] at hL; cases hL
    · injection (show some _ = some o from ho) with ho; subst ho
      simp only [fill]
      go_wp2_with fail
      refine (rof_b hlb Bb.out).mono ?_
      rintro e w2 ⟨rfl, F⟩
      simp only []
      go_wp2
      exact ⟨_, by kernel_rfl, h.called ok (3, 26, fun v => v = dF ((fromB b))) (by rw [hp]; simp) F rfl⟩
    · rw [h.row 4 (by rw [hp]; simp)] at hL; cases hL
    · injection (show some _ = some o from ho) with ho; subst ho
      simp only [fill]
      go_wp2_with fail
      refine (rof_b hlc Bc.out).mono ?_
      rintro e w2 ⟨rfl, F⟩
      simp only []
      go_wp2
      exact ⟨_, by kernel_rfl, h.called ok (5, 28, fun v => v = dF ((fromB c))) (by rw [hp]; simp) F rfl⟩
    · injection (show some _ = some o from ho) with ho; subst ho
      simp only [fill]
      go_wp2
      exact ⟨_, by kernel_rfl, h.made ok (6, 10, .cells (ints .i64 (List.replicate 16 0)) 32) (by rw [hp]; simp)⟩
    · injection (show some _ = some o from ho) with ho; subst ho
      simp only [fill]
      go_wp2
      exact ⟨_, by kernel_rfl, h.made ok (7, 11, .cells (ints .i64 (List.replicate 16 0)) 32) (by rw [hp]; simp)⟩
    · injection (show some _ = some o from ho) with ho; subst ho
      simp only [fill]
      go_wp2
      exact ⟨_, by kernel_rfl, h.made ok (8, 12, .cells (ints .i64 (List.replicate 16 0)) 32) (by rw [hp]; simp)⟩
  intro s w64 h
  have e65 := h.call (1, 24, fun v => v = dF ((fromB a))) (by rw [hp]; simp) rfl
  have e66 := h.call (3, 26, fun v => v = dF ((fromB b))) (by rw [hp]; simp) rfl
  have e67 := h.call (5, 28, fun v => v = dF ((fromB c))) (by rw [hp]; simp) rfl
  obtain ⟨b68, e69, l70, m71⟩ := h.room (6, 10, .cells (ints .i64 (List.replicate 16 0)) 32) (by rw [hp]; simp) rfl
  obtain ⟨b72, e73, l74, m75⟩ := h.room (7, 11, .cells (ints .i64 (List.replicate 16 0)) 32) (by rw [hp]; simp) rfl
  obtain ⟨b76, e77, l78, m79⟩ := h.room (8, 12, .cells (ints .i64 (List.replicate 16 0)) 32) (by rw [hp]; simp) rfl
  simp only [] at e65 e66 e67 e69 e73 e77
  have q80 := h.apart (7, 11, .cells (ints .i64 (List.replicate 16 0)) 32) (by rw [hp]; simp) (6, 10, .cells (ints .i64 (List.replicate 16 0)) 32) (by rw [hp]; simp) (by simp) rfl rfl
  simp only [e73, e69] at q80
  have q81 := h.apart (8, 12, .cells (ints .i64 (List.replicate 16 0)) 32) (by rw [hp]; simp) (6, 10, .cells (ints .i64 (List.replicate 16 0)) 32) (by rw [hp]; simp) (by simp) rfl rfl
  simp only [e77, e69] at q81
  have q82 := h.apart (8, 12, .cells (ints .i64 (List.replicate 16 0)) 32) (by rw [hp]; simp) (7, 11, .cells (ints .i64 (List.replicate 16 0)) 32) (by rw [hp]; simp) (by simp) rfl rfl
  simp only [e77, e73] at q82
  have h83 := (h54.drew).call h.fr
  simp only [fill, e65, e66, e67, e69, e73, e77]
  have h84 := (((h83.room m71 (h54.fresh l70) (Nat.le_trans h54.fr.size l70)).room m75 (by simp only [List.map_cons, List.mem_cons, not_or]; exact ⟨(fun e => q80 (by rw [e])), (h54.fresh l74)⟩) (Nat.le_trans h54.fr.size l74)).room m79 (by simp only [List.map_cons, List.mem_cons, not_or]; exact ⟨(fun e => q82 (by rw [e])), (fun e => q81 (by rw [e])), (h54.fresh l78)⟩) (Nat.le_trans h54.fr.size l78))
  rw [HL56.out] at h84
  clear e65 e66 e67 e69 e73 e77 q80 q81 q82 l70 m71 l74 m75 l78 m79 h83 h ok hp h54 p
  obtain ⟨L85, hL85⟩ : ∃ L : List (Nat × Obj), L = [(b76, .cells (ints .i64 (List.replicate 16 0)) 32), (b72, .cells (ints .i64 (List.replicate 16 0)) 32), (b68, .cells (ints .i64 (List.replicate 16 0)) 32), (b30, .cells (ints .u64 c19) 28), (b26, .cells (ints .u64 c16) 28), (b22, .cells (ints .u64 c13) 28), (b3, .cells (ints .u8 (c)) 22), (b2, .cells (ints .u8 (b)) 22), (b1, .cells (ints .u8 (a)) 22)] := ⟨_, rfl⟩
  rw [← hL85] at h84
  have HL85 := Lib.hid hL85
  clear hL85
  refine drawn_end (ol := [_, _, _]) rfl (by kernel_rfl) ?_
  intro K hK
  have s86 := h84
  rw [HL85.out] at s86
  have f87 := s86.nth 2 rfl
  have t88 := s86.lt 2 rfl
  have f89 := s86.nth 1 rfl
  have t90 := s86.lt 1 rfl
  have f91 := s86.nth 0 rfl
  have t92 := s86.lt 0 rfl
  have e93 := s86.ne 2 1 rfl rfl (by decide)
  have e94 := s86.ne 2 0 rfl rfl (by decide)
  have e95 := s86.ne 1 2 rfl rfl (by decide)
  have e96 := s86.ne 1 0 rfl rfl (by decide)
  have e97 := s86.ne 0 2 rfl rfl (by decide)
  have e98 := s86.ne 0 1 rfl rfl (by decide)
  clear s86
  have s99 := h84
  rw [HL85.out] at s99
  go_wp2_with fail
  clear f87 t88 f89 t90 f91 t92 e93 e94 e95 e96 e97 e98
  refine Own.named (Q := fun X => Code.wp _ _ _ _ X) (show Own w [(b76, .cells (ints .i64 (digs ((fromB c)).val)) 32), (b72, .cells (ints .i64 (digs ((fromB b)).val)) 32), (b68, .cells (ints .i64 (digs ((fromB a)).val)) 32), (b30, .cells (ints .u64 c19) 28), (b26, .cells (ints .u64 c16) 28), (b22, .cells (ints .u64 c13) 28), (b3, .cells (ints .u8 (c)) 22), (b2, .cells (ints .u8 (b)) 22), (b1, .cells (ints .u8 (a)) 22)] _ from (((s99.set 2 (.cells (ints .i64 (digs ((fromB a)).val)) 32) rfl).set 1 (.cells (ints .i64 (digs ((fromB b)).val)) 32) rfl).set 0 (.cells (ints .i64 (digs ((fromB c)).val)) 32) rfl)) ?_
  intro V101 h100
  clear s99 h84
  obtain ⟨L102, hL102⟩ : ∃ L : List (Nat × Obj), L = [(b76, .cells (ints .i64 (digs ((fromB c)).val)) 32), (b72, .cells (ints .i64 (digs ((fromB b)).val)) 32), (b68, .cells (ints .i64 (digs ((fromB a)).val)) 32), (b30, .cells (ints .u64 c19) 28), (b26, .cells (ints .u64 c16) 28), (b22, .cells (ints .u64 c13) 28), (b3, .cells (ints .u8 (c)) 22), (b2, .cells (ints .u8 (b)) 22), (b1, .cells (ints .u8 (a)) 22)] := ⟨_, rfl⟩
  rw [← hL102] at h100
  have HL102 := Lib.hid hL102
  clear hL102
  refine drawn_begin 9 (Own w L102) (by kernel_rfl) ?_
  have s103 := h100.drew
  rw [HL102.out] at s103
  have f104 := s103.nth 5 rfl
  have f105 := s103.nth 4 rfl
  have f106 := s103.nth 3 rfl
  clear s103
  refine drawn_reads (fuel := 6) [0, 1, 3, 4] rfl (by kernel_rfl) (h100.drew) ?_
  repeat (first | (refine rowK_step2 rfl rfl (fun K hK => ?_); go_wp2) | (refine rowK_step rfl (fun K hK => ?_); go_simp; refine hK _ ?_; clear hK K))
  refine rowK_nil ⟨fun w' hw' => ?_, ?_⟩
  · rw [HL102.out] at hw'
    have g107 := hw'.nth 5 rfl
    have g108 := hw'.nth 4 rfl
    have g109 := hw'.nth 3 rfl
    clear f104 f105 f106
    repeat (first | (refine rowWp_step2 rfl rfl (fun K hK => ?_); go_wp2) | (refine rowWp_step rfl (fun K hK => ?_); go_simp; refine hK _ ?_; clear hK K))
    exact rowWp_nil rfl
  clear f104 f105 f106
  obtain ⟨p, hp⟩ : ∃ p : Par, p = ⟨[(2, 31, fun v => ∃ lq, v = fe lq ∧ Is lq (((fromB a) - (fromB b)))), (5, 34, fun v => ∃ lq, v = fe lq ∧ Is lq ((-(fromB a)))), (6, 35, fun v => ∃ lq, v = fe lq ∧ Is lq (((fromB c) + (-(fromB a))))), (7, 36, fun v => ∃ lq, v = fe lq ∧ Is lq ((((fromB a) - (fromB b)) * ((fromB c) + (-(fromB a))))))], [(8, 13, .cells (ints .u64 (List.replicate 5 0)) 28)], [0, 1, 3, 4]⟩ := ⟨_, rfl⟩
  have ok : p.ok := by rw [hp]; exact ⟨(by decide : [2, 5, 6, 7, 8].Nodup), (by decide : [31, 34, 35, 36, 13].Nodup)⟩
  refine drawn_inv (rest := 1) [31, 34, 35, 36, 13] (fun L s w => p.Inv V101.drew L s w) (fun _ => undef) 5 (by kernel_rfl) (fun L s w h => ?_) rfl ?_ ?_ ?_
  · exact (h100.drew).call h.fr
  · refine Par.Inv.start ?_ ?_ ?_ <;> rw [hp] <;> intro i hi <;> simp at hi
    · rcases hi with rfl | rfl | rfl | rfl <;> rfl
    · rcases hi with rfl | rfl | rfl | rfl <;> rfl
    · subst hi; rfl
  · intro i o L s w ho hi hL hd h K hK
    rcases (show i = 0 ∨ i = 1 ∨ i = 2 ∨ i = 3 ∨ i = 4 ∨ i = 5 ∨ i = 6 ∨ i = 7 ∨ i = 8 by omega) with rfl | rfl | rfl | rfl | rfl | rfl | rfl | rfl | rfl
    · rw [h.row 0 (by rw [hp]; simp)] at hL; cases hL
    · rw [h.row 1 (by rw [hp]; simp)] at hL; cases hL
    · injection (show some _ = some o from ho) with ho; subst ho
      simp only [fill]
      go_wp2_with fail
      refine (sub_f Hc13.out Hc16.out).mono ?_
      rintro e w2 ⟨lq, rfl, hc, F⟩
      simp only []
      go_wp2
      exact ⟨_, by kernel_rfl, h.called ok (2, 31, fun v => ∃ lq, v = fe lq ∧ Is lq (((fromB a) - (fromB b)))) (by rw [hp]; simp) F ⟨lq, rfl, hc⟩⟩
    · rw [h.row 3 (by rw [hp]; simp)] at hL; cases hL
    · rw [h.row 4 (by rw [hp]; simp)] at hL; cases hL
    · injection (show some _ = some o from ho) with ho; subst ho
      simp only [fill]
      go_wp2_with fail
      refine (neg_f Hc13.out).mono ?_
      rintro e w2 ⟨lq, rfl, hc, F⟩
      simp only []
      go_wp2
      exact ⟨_, by kernel_rfl, h.called ok (5, 34, fun v => ∃ lq, v = fe lq ∧ Is lq ((-(fromB a)))) (by rw [hp]; simp) F ⟨lq, rfl, hc⟩⟩
    · injection (show some _ = some o from ho) with ho; subst ho
      have l34 : L 5 = true := after_on hd (by kernel_rfl)
      obtain ⟨d34, e34, k34⟩ := h.call (5, 34, fun v => ∃ lq, v = fe lq ∧ Is lq ((-(fromB a)))) (by rw [hp]; simp) l34
      have K34 := Lib.hid k34
      have ct : Calls Try.prog 30 #[fe c19, s 34] w (fun e w' => ∃ lq, e = .returned (fe lq) ∧ Is lq (((fromB c) + (-(fromB a)))) ∧ Fr [] w w') := by
        simp only [] at e34
        rw [e34]
        exact add_f Hc19.out K34.out
      clear e34 l34 k34
      simp only [fill]
      go_wp2_with fail
      refine (ct).mono ?_
      rintro e w2 ⟨lq, rfl, hc, F⟩
      simp only []
      go_wp2
      exact ⟨_, by kernel_rfl, h.called ok (6, 35, fun v => ∃ lq, v = fe lq ∧ Is lq (((fromB c) + (-(fromB a))))) (by rw [hp]; simp) F ⟨lq, rfl, hc⟩⟩
    · injection (show some _ = some o from ho) with ho; subst ho
      have l31 : L 2 = true := after_on hd (by kernel_rfl)
      obtain ⟨d31, e31, k31⟩ := h.call (2, 31, fun v => ∃ lq, v = fe lq ∧ Is lq (((fromB a) - (fromB b)))) (by rw [hp]; simp) l31
      have K31 := Lib.hid k31
      have l35 : L 6 = true := after_on hd (by kernel_rfl)
      obtain ⟨d35, e35, k35⟩ := h.call (6, 35, fun v => ∃ lq, v = fe lq ∧ Is lq (((fromB c) + (-(fromB a))))) (by rw [hp]; simp) l35
      have K35 := Lib.hid k35
      have ct : Calls Try.prog 36 #[s 31, s 35] w (fun e w' => ∃ lq, e = .returned (fe lq) ∧ Is lq ((((fromB a) - (fromB b)) * ((fromB c) + (-(fromB a))))) ∧ Fr [] w w') := by
        simp only [] at e31 e35
        rw [e31, e35]
        exact mul_f K31.out K35.out
      clear e31 l31 k31 e35 l35 k35
      simp only [fill]
      go_wp2_with fail
      refine (ct).mono ?_
      rintro e w2 ⟨lq, rfl, hc, F⟩
      simp only []
      go_wp2
      exact ⟨_, by kernel_rfl, h.called ok (7, 36, fun v => ∃ lq, v = fe lq ∧ Is lq ((((fromB a) - (fromB b)) * ((fromB c) + (-(fromB a)))))) (by rw [hp]; simp) F ⟨lq, rfl, hc⟩⟩
    · injection (show some _ = some o from ho) with ho; subst ho
      simp only [fill]
      go_wp2
      exact ⟨_, by kernel_rfl, h.made ok (8, 13, .cells (ints .u64 (List.replicate 5 0)) 28) (by rw [hp]; simp)⟩
  intro s w110 h
  obtain ⟨c111, e113, k112⟩ := h.call (2, 31, fun v => ∃ lq, v = fe lq ∧ Is lq (((fromB a) - (fromB b)))) (by rw [hp]; simp) rfl
  obtain ⟨c114, e116, k115⟩ := h.call (5, 34, fun v => ∃ lq, v = fe lq ∧ Is lq ((-(fromB a)))) (by rw [hp]; simp) rfl
  obtain ⟨c117, e119, k118⟩ := h.call (6, 35, fun v => ∃ lq, v = fe lq ∧ Is lq (((fromB c) + (-(fromB a))))) (by rw [hp]; simp) rfl
  obtain ⟨c120, e122, k121⟩ := h.call (7, 36, fun v => ∃ lq, v = fe lq ∧ Is lq ((((fromB a) - (fromB b)) * ((fromB c) + (-(fromB a)))))) (by rw [hp]; simp) rfl
  obtain ⟨b123, e124, l125, m126⟩ := h.room (8, 13, .cells (ints .u64 (List.replicate 5 0)) 28) (by rw [hp]; simp) rfl
  simp only [] at e113 e116 e119 e122 e124
  have h127 := (h100.drew).call h.fr
  simp only [fill, e113, e116, e119, e122, e124]
  have h128 := (h127.room m126 (h100.fresh l125) (Nat.le_trans h100.fr.size l125))
  rw [HL102.out] at h128
  clear e113 e116 e119 e122 e124  l125 m126 h127 h ok hp h100 p
  have nc111 := k112.len
  have Hc111 := Lib.hid k112
  clear k112
  have nc114 := k115.len
  have Hc114 := Lib.hid k115
  clear k115
  have nc117 := k118.len
  have Hc117 := Lib.hid k118
  clear k118
  have nc120 := k121.len
  have Hc120 := Lib.hid k121
  clear k121
  obtain ⟨L129, hL129⟩ : ∃ L : List (Nat × Obj), L = [(b123, .cells (ints .u64 (List.replicate 5 0)) 28), (b76, .cells (ints .i64 (digs ((fromB c)).val)) 32), (b72, .cells (ints .i64 (digs ((fromB b)).val)) 32), (b68, .cells (ints .i64 (digs ((fromB a)).val)) 32), (b30, .cells (ints .u64 c19) 28), (b26, .cells (ints .u64 c16) 28), (b22, .cells (ints .u64 c13) 28), (b3, .cells (ints .u8 (c)) 22), (b2, .cells (ints .u8 (b)) 22), (b1, .cells (ints .u8 (a)) 22)] := ⟨_, rfl⟩
  rw [← hL129] at h128
  have HL129 := Lib.hid hL129
  clear hL129
  refine drawn_end (ol := [_]) rfl (by kernel_rfl) ?_
  intro K hK
  have s130 := h128
  rw [HL129.out] at s130
  have f131 := s130.nth 0 rfl
  have t132 := s130.lt 0 rfl
  clear s130
  have s133 := h128
  rw [HL129.out] at s133
  go_wp2_with fail
  clear f131 t132
  refine Own.named (Q := fun X => Code.wp _ _ _ _ X) (show Own w [(b123, .cells (ints .u64 c120) 28), (b76, .cells (ints .i64 (digs ((fromB c)).val)) 32), (b72, .cells (ints .i64 (digs ((fromB b)).val)) 32), (b68, .cells (ints .i64 (digs ((fromB a)).val)) 32), (b30, .cells (ints .u64 c19) 28), (b26, .cells (ints .u64 c16) 28), (b22, .cells (ints .u64 c13) 28), (b3, .cells (ints .u8 (c)) 22), (b2, .cells (ints .u8 (b)) 22), (b1, .cells (ints .u8 (a)) 22)] _ from (s133.set 0 (.cells (ints .u64 c120) 28) rfl)) ?_
  intro V135 h134
  clear s133 h128
  obtain ⟨L136, hL136⟩ : ∃ L : List (Nat × Obj), L = [(b123, .cells (ints .u64 c120) 28), (b76, .cells (ints .i64 (digs ((fromB c)).val)) 32), (b72, .cells (ints .i64 (digs ((fromB b)).val)) 32), (b68, .cells (ints .i64 (digs ((fromB a)).val)) 32), (b30, .cells (ints .u64 c19) 28), (b26, .cells (ints .u64 c16) 28), (b22, .cells (ints .u64 c13) 28), (b3, .cells (ints .u8 (c)) 22), (b2, .cells (ints .u8 (b)) 22), (b1, .cells (ints .u8 (a)) 22)] := ⟨_, rfl⟩
  rw [← hL136] at h134
  have HL136 := Lib.hid hL136
  clear hL136
  refine drawn_begin 9 (Own w L136) (by kernel_rfl) ?_
  have s137 := h134.drew
  rw [HL136.out] at s137
  have f138 := s137.nth 3 rfl
  have f139 := s137.nth 2 rfl
  have f140 := s137.nth 1 rfl
  clear s137
  refine drawn_reads (fuel := 6) [0, 1, 3, 4] rfl (by kernel_rfl) (h134.drew) ?_
  repeat (first | (refine rowK_step2 rfl rfl (fun K hK => ?_); go_wp2) | (refine rowK_step rfl (fun K hK => ?_); go_simp; refine hK _ ?_; clear hK K))
  refine rowK_nil ⟨fun w' hw' => ?_, ?_⟩
  · rw [HL136.out] at hw'
    have g141 := hw'.nth 3 rfl
    have g142 := hw'.nth 2 rfl
    have g143 := hw'.nth 1 rfl
    clear f138 f139 f140
    repeat (first | (refine rowWp_step2 rfl rfl (fun K hK => ?_); go_wp2) | (refine rowWp_step rfl (fun K hK => ?_); go_simp; refine hK _ ?_; clear hK K))
    exact rowWp_nil rfl
  clear f138 f139 f140
  obtain ⟨p, hp⟩ : ∃ p : Par, p = ⟨[(2, 39, fun v => v = dF (((fromB a) - (fromB b)))), (5, 42, fun v => v = dF ((-(fromB a)))), (6, 43, fun v => v = dF (((fromB c) + (-(fromB a))))), (7, 44, fun v => v = dF ((((fromB a) - (fromB b)) * ((fromB c) + (-(fromB a))))))], [(8, 14, .cells (ints .i64 (List.replicate 16 0)) 32)], [0, 1, 3, 4]⟩ := ⟨_, rfl⟩
  have ok : p.ok := by rw [hp]; exact ⟨(by decide : [2, 5, 6, 7, 8].Nodup), (by decide : [39, 42, 43, 44, 14].Nodup)⟩
  refine drawn_inv (rest := 1) [39, 42, 43, 44, 14] (fun L s w => p.Inv V135.drew L s w) (fun _ => undef) 5 (by kernel_rfl) (fun L s w h => ?_) rfl ?_ ?_ ?_
  · exact (h134.drew).call h.fr
  · refine Par.Inv.start ?_ ?_ ?_ <;> rw [hp] <;> intro i hi <;> simp at hi
    · rcases hi with rfl | rfl | rfl | rfl <;> rfl
    · rcases hi with rfl | rfl | rfl | rfl <;> rfl
    · subst hi; rfl
  · intro i o L s w ho hi hL hd h K hK
    rcases (show i = 0 ∨ i = 1 ∨ i = 2 ∨ i = 3 ∨ i = 4 ∨ i = 5 ∨ i = 6 ∨ i = 7 ∨ i = 8 by omega) with rfl | rfl | rfl | rfl | rfl | rfl | rfl | rfl | rfl
    · rw [h.row 0 (by rw [hp]; simp)] at hL; cases hL
    · rw [h.row 1 (by rw [hp]; simp)] at hL; cases hL
    · injection (show some _ = some o from ho) with ho; subst ho
      simp only [fill]
      go_wp2_with fail
      refine (rsub_f (fromB a) (fromB b)).mono ?_
      rintro e w2 ⟨rfl, F⟩
      simp only []
      go_wp2
      exact ⟨_, by kernel_rfl, h.called ok (2, 39, fun v => v = dF (((fromB a) - (fromB b)))) (by rw [hp]; simp) F rfl⟩
    · rw [h.row 3 (by rw [hp]; simp)] at hL; cases hL
    · rw [h.row 4 (by rw [hp]; simp)] at hL; cases hL
    · injection (show some _ = some o from ho) with ho; subst ho
      simp only [fill]
      go_wp2_with fail
      refine (rneg_f (fromB a)).mono ?_
      rintro e w2 ⟨rfl, F⟩
      simp only []
      go_wp2
      exact ⟨_, by kernel_rfl, h.called ok (5, 42, fun v => v = dF ((-(fromB a)))) (by rw [hp]; simp) F rfl⟩
    · injection (show some _ = some o from ho) with ho; subst ho
      have l42 : L 5 = true := after_on hd (by kernel_rfl)
      have e42 := h.call (5, 42, fun v => v = dF ((-(fromB a)))) (by rw [hp]; simp) l42
      have ct : Calls Try.prog 31 #[dF ((fromB c)), s 42] w (fun e w' => e = .returned (dF (((fromB c) + (-(fromB a))))) ∧ Fr [] w w') := by
        simp only [] at e42
        rw [e42]
        exact radd_f (fromB c) (-(fromB a))
      clear e42 l42
      simp only [fill]
      go_wp2_with fail
      refine (ct).mono ?_
      rintro e w2 ⟨rfl, F⟩
      simp only []
      go_wp2
      exact ⟨_, by kernel_rfl, h.called ok (6, 43, fun v => v = dF (((fromB c) + (-(fromB a))))) (by rw [hp]; simp) F rfl⟩
    · injection (show some _ = some o from ho) with ho; subst ho
      have l39 : L 2 = true := after_on hd (by kernel_rfl)
      have e39 := h.call (2, 39, fun v => v = dF (((fromB a) - (fromB b)))) (by rw [hp]; simp) l39
      have l43 : L 6 = true := after_on hd (by kernel_rfl)
      have e43 := h.call (6, 43, fun v => v = dF (((fromB c) + (-(fromB a))))) (by rw [hp]; simp) l43
      have ct : Calls Try.prog 37 #[s 39, s 43] w (fun e w' => e = .returned (dF ((((fromB a) - (fromB b)) * ((fromB c) + (-(fromB a)))))) ∧ Fr [] w w') := by
        simp only [] at e39 e43
        rw [e39, e43]
        exact rmul_f ((fromB a) - (fromB b)) ((fromB c) + (-(fromB a)))
      clear e39 l39 e43 l43
      simp only [fill]
      go_wp2_with fail
      refine (ct).mono ?_
      rintro e w2 ⟨rfl, F⟩
      simp only []
      go_wp2
      exact ⟨_, by kernel_rfl, h.called ok (7, 44, fun v => v = dF ((((fromB a) - (fromB b)) * ((fromB c) + (-(fromB a)))))) (by rw [hp]; simp) F rfl⟩
    · injection (show some _ = some o from ho) with ho; subst ho
      simp only [fill]
      go_wp2
      exact ⟨_, by kernel_rfl, h.made ok (8, 14, .cells (ints .i64 (List.replicate 16 0)) 32) (by rw [hp]; simp)⟩
  intro s w144 h
  have e145 := h.call (2, 39, fun v => v = dF (((fromB a) - (fromB b)))) (by rw [hp]; simp) rfl
  have e146 := h.call (5, 42, fun v => v = dF ((-(fromB a)))) (by rw [hp]; simp) rfl
  have e147 := h.call (6, 43, fun v => v = dF (((fromB c) + (-(fromB a))))) (by rw [hp]; simp) rfl
  have e148 := h.call (7, 44, fun v => v = dF ((((fromB a) - (fromB b)) * ((fromB c) + (-(fromB a)))))) (by rw [hp]; simp) rfl
  obtain ⟨b149, e150, l151, m152⟩ := h.room (8, 14, .cells (ints .i64 (List.replicate 16 0)) 32) (by rw [hp]; simp) rfl
  simp only [] at e145 e146 e147 e148 e150
  have h153 := (h134.drew).call h.fr
  simp only [fill, e145, e146, e147, e148, e150]
  have h154 := (h153.room m152 (h134.fresh l151) (Nat.le_trans h134.fr.size l151))
  rw [HL136.out] at h154
  clear e145 e146 e147 e148 e150  l151 m152 h153 h ok hp h134 p
  obtain ⟨L155, hL155⟩ : ∃ L : List (Nat × Obj), L = [(b149, .cells (ints .i64 (List.replicate 16 0)) 32), (b123, .cells (ints .u64 c120) 28), (b76, .cells (ints .i64 (digs ((fromB c)).val)) 32), (b72, .cells (ints .i64 (digs ((fromB b)).val)) 32), (b68, .cells (ints .i64 (digs ((fromB a)).val)) 32), (b30, .cells (ints .u64 c19) 28), (b26, .cells (ints .u64 c16) 28), (b22, .cells (ints .u64 c13) 28), (b3, .cells (ints .u8 (c)) 22), (b2, .cells (ints .u8 (b)) 22), (b1, .cells (ints .u8 (a)) 22)] := ⟨_, rfl⟩
  rw [← hL155] at h154
  have HL155 := Lib.hid hL155
  clear hL155
  refine drawn_end (ol := [_]) rfl (by kernel_rfl) ?_
  intro K hK
  have s156 := h154
  rw [HL155.out] at s156
  have f157 := s156.nth 0 rfl
  have t158 := s156.lt 0 rfl
  clear s156
  have s159 := h154
  rw [HL155.out] at s159
  go_wp2_with fail
  clear f157 t158
  refine Own.named (Q := fun X => Code.wp _ _ _ _ X) (show Own w [(b149, .cells (ints .i64 (digs ((((fromB a) - (fromB b)) * ((fromB c) + (-(fromB a))))).val)) 32), (b123, .cells (ints .u64 c120) 28), (b76, .cells (ints .i64 (digs ((fromB c)).val)) 32), (b72, .cells (ints .i64 (digs ((fromB b)).val)) 32), (b68, .cells (ints .i64 (digs ((fromB a)).val)) 32), (b30, .cells (ints .u64 c19) 28), (b26, .cells (ints .u64 c16) 28), (b22, .cells (ints .u64 c13) 28), (b3, .cells (ints .u8 (c)) 22), (b2, .cells (ints .u8 (b)) 22), (b1, .cells (ints .u8 (a)) 22)] _ from (s159.set 0 (.cells (ints .i64 (digs ((((fromB a) - (fromB b)) * ((fromB c) + (-(fromB a))))).val)) 32) rfl)) ?_
  intro V161 h160
  clear s159 h154
  obtain ⟨L162, hL162⟩ : ∃ L : List (Nat × Obj), L = [(b149, .cells (ints .i64 (digs ((((fromB a) - (fromB b)) * ((fromB c) + (-(fromB a))))).val)) 32), (b123, .cells (ints .u64 c120) 28), (b76, .cells (ints .i64 (digs ((fromB c)).val)) 32), (b72, .cells (ints .i64 (digs ((fromB b)).val)) 32), (b68, .cells (ints .i64 (digs ((fromB a)).val)) 32), (b30, .cells (ints .u64 c19) 28), (b26, .cells (ints .u64 c16) 28), (b22, .cells (ints .u64 c13) 28), (b3, .cells (ints .u8 (c)) 22), (b2, .cells (ints .u8 (b)) 22), (b1, .cells (ints .u8 (a)) 22)] := ⟨_, rfl⟩
  rw [← hL162] at h160
  have HL162 := Lib.hid hL162
  clear hL162
  refine drawn_begin 28 (Own w L162) (by kernel_rfl) ?_
  have s163 := h160.drew
  rw [HL162.out] at s163
  have f164 := s163.nth 7 rfl
  have f165 := s163.nth 6 rfl
  have f166 := s163.nth 4 rfl
  have f167 := s163.nth 3 rfl
  clear s163
  refine drawn_reads (fuel := 24) [0, 1, 4, 5] rfl (by kernel_rfl) (h160.drew) ?_
  repeat (first | (refine rowK_step2 rfl rfl (fun K hK => ?_); go_wp2) | (refine rowK_step rfl (fun K hK => ?_); go_simp; refine hK _ ?_; clear hK K))
  refine rowK_nil ⟨fun w' hw' => ?_, ?_⟩
  · rw [HL162.out] at hw'
    have g168 := hw'.nth 7 rfl
    have g169 := hw'.nth 6 rfl
    have g170 := hw'.nth 4 rfl
    have g171 := hw'.nth 3 rfl
    clear f164 f165 f166 f167
    repeat (first | (refine rowWp_step2 rfl rfl (fun K hK => ?_); go_wp2) | (refine rowWp_step rfl (fun K hK => ?_); go_simp; refine hK _ ?_; clear hK K))
    exact rowWp_nil rfl
  clear f164 f165 f166 f167
  refine drawn_next 2 (fuel := 23) rfl (by kernel_rfl) ?_
  intro K hK
  go_wp2_with fail
  refine (mul_f Hc13.out Hc16.out).mono ?_
  rintro e w172 ⟨c174, rfl, k175, F173⟩
  have nc174 := k175.len
  have Hc174 := Lib.hid k175
  clear k175
  have h176 := (h160.drew).call F173
  clear F173 h160
  simp only []
  go_wp2
  refine ⟨h176, ?_⟩
  refine drawn_next 3 (fuel := 22) rfl (by kernel_rfl) ?_
  intro K hK
  go_wp2_with fail
  refine (bytes_f Hc174.out).mono ?_
  rintro e w177 ⟨rfl, F178⟩
  have h179 := (h176).call F178
  clear F178 h176
  simp only []
  go_wp2
  refine ⟨h179, ?_⟩
  refine drawn_next 6 (fuel := 21) rfl (by kernel_rfl) ?_
  intro K hK
  go_wp2_with fail
  refine (rmul_f (fromB a) (fromB b)).mono ?_
  rintro e w180 ⟨rfl, F181⟩
  have h182 := (h179).call F181
  clear F181 h179
  simp only []
  go_wp2
  refine ⟨h182, ?_⟩
  refine drawn_next 7 (fuel := 20) rfl (by kernel_rfl) ?_
  intro K hK
  go_wp2_with fail
  refine (rbytes_f ((fromB a) * (fromB b))).mono ?_
  rintro e w183 ⟨rfl, F184⟩
  have h185 := (h182).call F184
  clear F184 h182
  simp only []
  go_wp2
  refine ⟨h185, ?_⟩
  have s186 := h185
  rw [HL162.out] at s186
  have f187 := s186.nth 1 rfl
  have f188 := s186.nth 0 rfl
  clear s186
  refine drawn_reads (fuel := 16) [8, 9, 10, 12] rfl (by kernel_rfl) (h185) ?_
  repeat (first | (refine rowK_step2 rfl rfl (fun K hK => ?_); go_wp2) | (refine rowK_step rfl (fun K hK => ?_); go_simp; refine hK _ ?_; clear hK K))
  refine rowK_nil ⟨fun w' hw' => ?_, ?_⟩
  · rw [HL162.out] at hw'
    have g189 := hw'.nth 1 rfl
    have g190 := hw'.nth 0 rfl
    clear f187 f188
    repeat (first | (refine rowWp_step2 rfl rfl (fun K hK => ?_); go_wp2) | (refine rowWp_step rfl (fun K hK => ?_); go_simp; refine hK _ ?_; clear hK K))
    exact rowWp_nil rfl
  clear f187 f188
  refine drawn_next 11 (fuel := 15) rfl (by kernel_rfl) ?_
  intro K hK
  go_wp2_with fail
  refine (bytes_f Hc120.out).mono ?_
  rintro e w191 ⟨rfl, F192⟩
  have h193 := (h185).call F192
  clear F192 h185
  simp only []
  go_wp2
  refine ⟨h193, ?_⟩
  refine drawn_next 13 (fuel := 14) rfl (by kernel_rfl) ?_
  intro K hK
  go_wp2_with fail
  refine (rbytes_f (((fromB a) - (fromB b)) * ((fromB c) + (-(fromB a))))).mono ?_
  rintro e w194 ⟨rfl, F195⟩
  have h196 := (h193).call F195
  clear F195 h193
  simp only []
  go_wp2
  refine ⟨h196, ?_⟩
  have s197 := h196
  rw [HL162.out] at s197
  have f198 := s197.nth 1 rfl
  have f199 := s197.nth 0 rfl
  clear s197
  refine drawn_reads (fuel := 7) [14, 15, 16, 17, 18, 21, 22] rfl (by kernel_rfl) (h196) ?_
  repeat (first | (refine rowK_step2 rfl rfl (fun K hK => ?_); go_wp2) | (refine rowK_step rfl (fun K hK => ?_); go_simp; refine hK _ ?_; clear hK K))
  refine rowK_nil ⟨fun w' hw' => ?_, ?_⟩
  · rw [HL162.out] at hw'
    have g200 := hw'.nth 1 rfl
    have g201 := hw'.nth 0 rfl
    clear f198 f199
    repeat (first | (refine rowWp_step2 rfl rfl (fun K hK => ?_); go_wp2) | (refine rowWp_step rfl (fun K hK => ?_); go_simp; refine hK _ ?_; clear hK K))
    exact rowWp_nil rfl
  clear f198 f199
  refine drawn_next 19 (fuel := 6) rfl (by kernel_rfl) ?_
  intro K hK
  go_wp2_with fail
  refine (mul_f Hc120.out Hc120.out).mono ?_
  rintro e w202 ⟨c204, rfl, k205, F203⟩
  have nc204 := k205.len
  have Hc204 := Lib.hid k205
  clear k205
  have h206 := (h196).call F203
  clear F203 h196
  simp only []
  go_wp2
  refine ⟨h206, ?_⟩
  refine drawn_next 20 (fuel := 5) rfl (by kernel_rfl) ?_
  intro K hK
  go_wp2_with fail
  refine (bytes_f Hc204.out).mono ?_
  rintro e w207 ⟨rfl, F208⟩
  have h209 := (h206).call F208
  clear F208 h206
  simp only []
  go_wp2
  refine ⟨h209, ?_⟩
  refine drawn_next 23 (fuel := 4) rfl (by kernel_rfl) ?_
  intro K hK
  go_wp2_with fail
  refine (rmul_f (((fromB a) - (fromB b)) * ((fromB c) + (-(fromB a)))) (((fromB a) - (fromB b)) * ((fromB c) + (-(fromB a))))).mono ?_
  rintro e w210 ⟨rfl, F211⟩
  have h212 := (h209).call F211
  clear F211 h209
  simp only []
  go_wp2
  refine ⟨h212, ?_⟩
  refine drawn_next 24 (fuel := 3) rfl (by kernel_rfl) ?_
  intro K hK
  go_wp2_with fail
  refine (rbytes_f ((((fromB a) - (fromB b)) * ((fromB c) + (-(fromB a)))) * (((fromB a) - (fromB b)) * ((fromB c) + (-(fromB a)))))).mono ?_
  rintro e w213 ⟨rfl, F214⟩
  have h215 := (h212).call F214
  clear F214 h212
  simp only []
  go_wp2
  refine ⟨h215, ?_⟩
  refine drawn_reads (fuel := 0) [25, 26, 27] rfl (by kernel_rfl) (h215) ?_
  repeat (first | (refine rowK_step2 rfl rfl (fun K hK => ?_); go_wp2) | (refine rowK_step rfl (fun K hK => ?_); go_simp; refine hK _ ?_; clear hK K))
  refine rowK_nil ⟨fun w' hw' => ?_, ?_⟩
  · skip
    repeat (first | (refine rowWp_step2 rfl rfl (fun K hK => ?_); go_wp2) | (refine rowWp_step rfl (fun K hK => ?_); go_simp; refine hK _ ?_; clear hK K))
    exact rowWp_nil rfl
  refine drawn_end (ol := []) rfl (by kernel_rfl) ?_
  intro K hK
  go_wp2_with fail
  go_ret
  exact ⟨rfl, (h215).fr⟩
end
end Go.Proofs.Ytakhmmnklkckpaa
