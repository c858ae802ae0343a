/- FieldRing: the walk (printed by gen_field.py). -/
import Derived.Test.YtakhmmnklkckpaaOwn
namespace Go.Proofs.Ytakhmmnklkckpaa
open Go.RowKit Go.Dr

section
variable {w : World}
set_option maxRecDepth 100000 in
set_option maxHeartbeats 4000000 in
theorem fieldRing_walk (a b c : List Int) (hla : a.length = 32) (ha : Byt a) (hlb : b.length = 32) (hb : Byt b) (hlc : c.length = 32) (hc : Byt c) : Calls Try.prog 8 #[.agg (ints .u8 a), .agg (ints .u8 b), .agg (ints .u8 c)] w fun e w' => e = .returned (.bool true) ∧ Fr [] w w' := by
  have Ba := Lib.hid ha
  clear ha
  have Bb := Lib.hid hb
  clear hb
  have Bc := Lib.hid hc
  clear hc
  go_enter Try.func8, Try.ntmps8
  go_wp2_with fail
  refine alive_any.mono ?_
  rintro e w1 ⟨rfl, F1⟩
  have h0 : Own w [(w.heap.size + 2, .cells (ints .u8 (c)) 22), (w.heap.size + 1, .cells (ints .u8 (b)) 22), (w.heap.size, .cells (ints .u8 (a)) 22)] w1 := (((((Own.start w).allocN (.cells (ints .u8 (a)) 22) w.heap.size rfl).allocN (.cells (ints .u8 (b)) 22) (w.heap.size + 1) (by simp)).allocN (.cells (ints .u8 (c)) 22) (w.heap.size + 2) (by simp))).call F1
  clear F1
  simp only []
  generalize w.heap.size + 2 = b3 at h0 ⊢
  generalize w.heap.size + 1 = b2 at h0 ⊢
  generalize w.heap.size = b1 at h0 ⊢
  obtain ⟨L4, hL4⟩ : ∃ L : List (Nat × Obj), L = [(b3, .cells (ints .u8 (c)) 22), (b2, .cells (ints .u8 (b)) 22), (b1, .cells (ints .u8 (a)) 22)] := ⟨_, rfl⟩
  rw [← hL4] at h0
  have HL4 := Lib.hid hL4
  clear hL4
  go_wp2_with fail
  refine drawn_begin 9 (Own w L4) (by kernel_rfl) ?_
  have s5 := h0.drew
  rw [HL4.out] at s5
  have f6 := s5.nth 2 rfl
  have f7 := s5.nth 1 rfl
  have f8 := s5.nth 0 rfl
  clear s5
  refine drawn_reads (fuel := 9) [0, 2, 4] rfl (by kernel_rfl) (h0.drew) ?_
  repeat (first | (refine rowK_step2 rfl rfl (fun K hK => ?_); go_wp2) | (refine rowK_step rfl (fun K hK => ?_); go_simp; refine hK _ ?_; clear hK K))
  refine rowK_nil ⟨fun w' hw' => ?_, ?_⟩
  · rw [HL4.out] at hw'
    have g9 := hw'.nth 2 rfl
    have g10 := hw'.nth 1 rfl
    have g11 := hw'.nth 0 rfl
    clear f6 f7 f8
    repeat (first | (refine rowWp_step2 rfl rfl (fun K hK => ?_); go_wp2) | (refine rowWp_step rfl (fun K hK => ?_); go_simp; refine hK _ ?_; clear hK K))
    exact rowWp_nil rfl
  clear f6 f7 f8
  obtain ⟨p, hp⟩ : ∃ p : Par, p = ⟨[(1, 16, fun v => ∃ lq, v = fe lq ∧ Is lq ((fromB a))), (3, 18, fun v => ∃ lq, v = fe lq ∧ Is lq ((fromB b))), (5, 20, fun v => ∃ lq, v = fe lq ∧ Is lq ((fromB c)))], [(6, 7, .cells (ints .u64 (List.replicate 5 0)) 28), (7, 8, .cells (ints .u64 (List.replicate 5 0)) 28), (8, 9, .cells (ints .u64 (List.replicate 5 0)) 28)], [0, 2, 4]⟩ := ⟨_, rfl⟩
  have ok : p.ok := by rw [hp]; exact ⟨(by decide : [1, 3, 5, 6, 7, 8].Nodup), (by decide : [16, 18, 20, 7, 8, 9].Nodup)⟩
  refine drawn_inv (rest := 3) [16, 18, 20, 7, 8, 9] (fun L s w => p.Inv w1.drew L s w) (fun _ => undef) 6 (by kernel_rfl) (fun L s w h => ?_) rfl ?_ ?_ ?_
  · exact (h0.drew).call h.fr
  · refine Par.Inv.start ?_ ?_ ?_ <;> rw [hp] <;> intro i hi <;> simp at hi
    · rcases hi with rfl | rfl | rfl <;> rfl
    · rcases hi with rfl | rfl | rfl <;> rfl
    · rcases hi with rfl | rfl | rfl <;> rfl
  · intro i o L s w ho hi hL hd h K hK
    rcases (show i = 0 ∨ i = 1 ∨ i = 2 ∨ i = 3 ∨ i = 4 ∨ i = 5 ∨ i = 6 ∨ i = 7 ∨ i = 8 by omega) with rfl | rfl | rfl | rfl | rfl | rfl | rfl | rfl | rfl
    · rw [h.row 0 (by rw [hp]; simp)] at hL; cases hL
    · injection (show some _ = some o from ho) with ho; subst ho
      simp only [fill]
      go_wp2_with fail
      refine (of_b hla Ba.out).mono ?_
      rintro e w2 ⟨lq, rfl, hc, F⟩
      simp only []
      go_wp2
      exact ⟨_, by kernel_rfl, h.called ok (1, 16, fun v => ∃ lq, v = fe lq ∧ Is lq ((fromB a))) (by rw [hp]; simp) F ⟨lq, rfl, hc⟩⟩
    · rw [h.row 2 (by rw [hp]; simp)] at hL; cases hL
    · injection (show some _ = some o from ho) with ho; subst ho
      simp only [fill]
      go_wp2_with fail
      refine (of_b hlb Bb.out).mono ?_
      rintro e w2 ⟨lq, rfl, hc, F⟩
      simp only []
      go_wp2
      exact ⟨_, by kernel_rfl, h.called ok (3, 18, fun v => ∃ lq, v = fe lq ∧ Is lq ((fromB b))) (by rw [hp]; simp) F ⟨lq, rfl, hc⟩⟩
    · rw [h.row 4 (by rw [hp]; simp)] at hL; cases hL
    · injection (show some _ = some o from ho) with ho; subst ho
      simp only [fill]
      go_wp2_with fail
      refine (of_b hlc Bc.out).mono ?_
      rintro e w2 ⟨lq, rfl, hc, F⟩
      simp only []
      go_wp2
      exact ⟨_, by kernel_rfl, h.called ok (5, 20, fun v => ∃ lq, v = fe lq ∧ Is lq ((fromB c))) (by rw [hp]; simp) F ⟨lq, rfl, hc⟩⟩
    · injection (show some _ = some o from ho) with ho; subst ho
      simp only [fill]
      go_wp2
      exact ⟨_, by kernel_rfl, h.made ok (6, 7, .cells (ints .u64 (List.replicate 5 0)) 28) (by rw [hp]; simp)⟩
    · injection (show some _ = some o from ho) with ho; subst ho
      simp only [fill]
      go_wp2
      exact ⟨_, by kernel_rfl, h.made ok (7, 8, .cells (ints .u64 (List.replicate 5 0)) 28) (by rw [hp]; simp)⟩
    · injection (show some _ = some o from ho) with ho; subst ho
      simp only [fill]
      go_wp2
      exact ⟨_, by kernel_rfl, h.made ok (8, 9, .cells (ints .u64 (List.replicate 5 0)) 28) (by rw [hp]; simp)⟩
  intro s w12 h
  obtain ⟨c13, e15, k14⟩ := h.call (1, 16, fun v => ∃ lq, v = fe lq ∧ Is lq ((fromB a))) (by rw [hp]; simp) rfl
  obtain ⟨c16, e18, k17⟩ := h.call (3, 18, fun v => ∃ lq, v = fe lq ∧ Is lq ((fromB b))) (by rw [hp]; simp) rfl
  obtain ⟨c19, e21, k20⟩ := h.call (5, 20, fun v => ∃ lq, v = fe lq ∧ Is lq ((fromB c))) (by rw [hp]; simp) rfl
  obtain ⟨b22, e23, l24, m25⟩ := h.room (6, 7, .cells (ints .u64 (List.replicate 5 0)) 28) (by rw [hp]; simp) rfl
  obtain ⟨b26, e27, l28, m29⟩ := h.room (7, 8, .cells (ints .u64 (List.replicate 5 0)) 28) (by rw [hp]; simp) rfl
  obtain ⟨b30, e31, l32, m33⟩ := h.room (8, 9, .cells (ints .u64 (List.replicate 5 0)) 28) (by rw [hp]; simp) rfl
  simp only [] at e15 e18 e21 e23 e27 e31
  have q34 := h.apart (7, 8, .cells (ints .u64 (List.replicate 5 0)) 28) (by rw [hp]; simp) (6, 7, .cells (ints .u64 (List.replicate 5 0)) 28) (by rw [hp]; simp) (by simp) rfl rfl
  simp only [e27, e23] at q34
  have q35 := h.apart (8, 9, .cells (ints .u64 (List.replicate 5 0)) 28) (by rw [hp]; simp) (6, 7, .cells (ints .u64 (List.replicate 5 0)) 28) (by rw [hp]; simp) (by simp) rfl rfl
  simp only [e31, e23] at q35
  have q36 := h.apart (8, 9, .cells (ints .u64 (List.replicate 5 0)) 28) (by rw [hp]; simp) (7, 8, .cells (ints .u64 (List.replicate 5 0)) 28) (by rw [hp]; simp) (by simp) rfl rfl
  simp only [e31, e27] at q36
  have h37 := (h0.drew).call h.fr
  simp only [fill, e15, e18, e21, e23, e27, e31]
  have h38 := (((h37.room m25 (h0.fresh l24) (Nat.le_trans h0.fr.size l24)).room m29 (by simp only [List.map_cons, List.mem_cons, not_or]; exact ⟨(fun e => q34 (by rw [e])), (h0.fresh l28)⟩) (Nat.le_trans h0.fr.size l28)).room m33 (by simp only [List.map_cons, List.mem_cons, not_or]; exact ⟨(fun e => q36 (by rw [e])), (fun e => q35 (by rw [e])), (h0.fresh l32)⟩) (Nat.le_trans h0.fr.size l32))
  rw [HL4.out] at h38
  clear e15 e18 e21 e23 e27 e31 q34 q35 q36 l24 m25 l28 m29 l32 m33 h37 h ok hp h0 p
  have nc13 := k14.len
  have Hc13 := Lib.hid k14
  clear k14
  have nc16 := k17.len
  have Hc16 := Lib.hid k17
  clear k17
  have nc19 := k20.len
  have Hc19 := Lib.hid k20
  clear k20
  obtain ⟨L39, hL39⟩ : ∃ L : List (Nat × Obj), L = [(b30, .cells (ints .u64 (List.replicate 5 0)) 28), (b26, .cells (ints .u64 (List.replicate 5 0)) 28), (b22, .cells (ints .u64 (List.replicate 5 0)) 28), (b3, .cells (ints .u8 (c)) 22), (b2, .cells (ints .u8 (b)) 22), (b1, .cells (ints .u8 (a)) 22)] := ⟨_, rfl⟩
  rw [← hL39] at h38
  have HL39 := Lib.hid hL39
  clear hL39
  refine drawn_end (ol := [_, _, _]) rfl (by kernel_rfl) ?_
  intro K hK
  have s40 := h38
  rw [HL39.out] at s40
  have f41 := s40.nth 2 rfl
  have t42 := s40.lt 2 rfl
  have f43 := s40.nth 1 rfl
  have t44 := s40.lt 1 rfl
  have f45 := s40.nth 0 rfl
  have t46 := s40.lt 0 rfl
  have e47 := s40.ne 2 1 rfl rfl (by decide)
  have e48 := s40.ne 2 0 rfl rfl (by decide)
  have e49 := s40.ne 1 2 rfl rfl (by decide)
  have e50 := s40.ne 1 0 rfl rfl (by decide)
  have e51 := s40.ne 0 2 rfl rfl (by decide)
  have e52 := s40.ne 0 1 rfl rfl (by decide)
  clear s40
  have s53 := h38
  rw [HL39.out] at s53
  go_wp2_with fail
  clear f41 t42 f43 t44 f45 t46 e47 e48 e49 e50 e51 e52
  refine Own.named (Q := fun X => Code.wp _ _ _ _ X) (show Own w [(b30, .cells (ints .u64 c19) 28), (b26, .cells (ints .u64 c16) 28), (b22, .cells (ints .u64 c13) 28), (b3, .cells (ints .u8 (c)) 22), (b2, .cells (ints .u8 (b)) 22), (b1, .cells (ints .u8 (a)) 22)] _ from (((s53.set 2 (.cells (ints .u64 c13) 28) rfl).set 1 (.cells (ints .u64 c16) 28) rfl).set 0 (.cells (ints .u64 c19) 28) rfl)) ?_
  intro V55 h54
  clear s53 h38
  obtain ⟨L56, hL56⟩ : ∃ L : List (Nat × Obj), L = [(b30, .cells (ints .u64 c19) 28), (b26, .cells (ints .u64 c16) 28), (b22, .cells (ints .u64 c13) 28), (b3, .cells (ints .u8 (c)) 22), (b2, .cells (ints .u8 (b)) 22), (b1, .cells (ints .u8 (a)) 22)] := ⟨_, rfl⟩
  rw [← hL56] at h54
  have HL56 := Lib.hid hL56
  clear hL56
  refine drawn_begin 16 (Own w L56) (by kernel_rfl) ?_
  have s57 := h54.drew
  rw [HL56.out] at s57
  have f58 := s57.nth 2 rfl
  have f59 := s57.nth 1 rfl
  have f60 := s57.nth 0 rfl
  clear s57
  refine drawn_reads (fuel := 9) [0, 1, 2, 6, 7, 9, 10] rfl (by kernel_rfl) (h54.drew) ?_
  repeat (first | (refine rowK_step2 rfl rfl (fun K hK => ?_); go_wp2) | (refine rowK_step rfl (fun K hK => ?_); go_simp; refine hK _ ?_; clear hK K))
  refine rowK_nil ⟨fun w' hw' => ?_, ?_⟩
  · rw [HL56.out] at hw'
    have g61 := hw'.nth 2 rfl
    have g62 := hw'.nth 1 rfl
    have g63 := hw'.nth 0 rfl
    clear f58 f59 f60
    repeat (first | (refine rowWp_step2 rfl rfl (fun K hK => ?_); go_wp2) | (refine rowWp_step rfl (fun K hK => ?_); go_simp; refine hK _ ?_; clear hK K))
    exact rowWp_nil rfl
  clear f58 f59 f60
  refine drawn_next 3 (fuel := 8) rfl (by kernel_rfl) ?_
  intro K hK
  go_wp2_with fail
  refine (add_f Hc16.out Hc19.out).mono ?_
  rintro e w64 ⟨c66, rfl, k67, F65⟩
  have nc66 := k67.len
  have Hc66 := Lib.hid k67
  clear k67
  have h68 := (h54.drew).call F65
  clear F65 h54
  simp only []
  go_wp2
  refine ⟨h68, ?_⟩
  refine drawn_next 4 (fuel := 7) rfl (by kernel_rfl) ?_
  intro K hK
  go_wp2_with fail
  refine (mul_f Hc13.out Hc66.out).mono ?_
  rintro e w69 ⟨c71, rfl, k72, F70⟩
  have nc71 := k72.len
  have Hc71 := Lib.hid k72
  clear k72
  have h73 := (h68).call F70
  clear F70 h68
  simp only []
  go_wp2
  refine ⟨h73, ?_⟩
  refine drawn_next 5 (fuel := 6) rfl (by kernel_rfl) ?_
  intro K hK
  go_wp2_with fail
  refine (bytes_f Hc71.out).mono ?_
  rintro e w74 ⟨rfl, F75⟩
  have h76 := (h73).call F75
  clear F75 h73
  simp only []
  go_wp2
  refine ⟨h76, ?_⟩
  refine drawn_next 8 (fuel := 5) rfl (by kernel_rfl) ?_
  intro K hK
  go_wp2_with fail
  refine (mul_f Hc13.out Hc16.out).mono ?_
  rintro e w77 ⟨c79, rfl, k80, F78⟩
  have nc79 := k80.len
  have Hc79 := Lib.hid k80
  clear k80
  have h81 := (h76).call F78
  clear F78 h76
  simp only []
  go_wp2
  refine ⟨h81, ?_⟩
  refine drawn_next 11 (fuel := 4) rfl (by kernel_rfl) ?_
  intro K hK
  go_wp2_with fail
  refine (mul_f Hc13.out Hc19.out).mono ?_
  rintro e w82 ⟨c84, rfl, k85, F83⟩
  have nc84 := k85.len
  have Hc84 := Lib.hid k85
  clear k85
  have h86 := (h81).call F83
  clear F83 h81
  simp only []
  go_wp2
  refine ⟨h86, ?_⟩
  refine drawn_next 12 (fuel := 3) rfl (by kernel_rfl) ?_
  intro K hK
  go_wp2_with fail
  refine (add_f Hc79.out Hc84.out).mono ?_
  rintro e w87 ⟨c89, rfl, k90, F88⟩
  have nc89 := k90.len
  have Hc89 := Lib.hid k90
  clear k90
  have h91 := (h86).call F88
  clear F88 h86
  simp only []
  go_wp2
  refine ⟨h91, ?_⟩
  refine drawn_next 13 (fuel := 2) rfl (by kernel_rfl) ?_
  intro K hK
  go_wp2_with fail
  refine (bytes_f Hc89.out).mono ?_
  rw [show (fromB a) * (fromB b) + (fromB a) * (fromB c) = (fromB a) * ((fromB b) + (fromB c)) from by grobner]
  rintro e w92 ⟨rfl, F93⟩
  have h94 := (h91).call F93
  clear F93 h91
  simp only []
  go_wp2
  refine ⟨h94, ?_⟩
  refine drawn_reads (fuel := 0) [14, 15] rfl (by kernel_rfl) (h94) ?_
  repeat (first | (refine rowK_step2 rfl rfl (fun K hK => ?_); go_wp2) | (refine rowK_step rfl (fun K hK => ?_); go_simp; refine hK _ ?_; clear hK K))
  refine rowK_nil ⟨fun w' hw' => ?_, ?_⟩
  · skip
    repeat (first | (refine rowWp_step2 rfl rfl (fun K hK => ?_); go_wp2) | (refine rowWp_step rfl (fun K hK => ?_); go_simp; refine hK _ ?_; clear hK K))
    exact rowWp_nil rfl
  refine drawn_end (ol := []) rfl (by kernel_rfl) ?_
  intro K hK
  go_wp2_with fail
  refine drawn_begin 21 (Own w L56) (by kernel_rfl) ?_
  have s95 := h94.drew
  rw [HL56.out] at s95
  have f96 := s95.nth 2 rfl
  have f97 := s95.nth 1 rfl
  clear s95
  refine drawn_reads (fuel := 17) [0, 1, 4, 5] rfl (by kernel_rfl) (h94.drew) ?_
  repeat (first | (refine rowK_step2 rfl rfl (fun K hK => ?_); go_wp2) | (refine rowK_step rfl (fun K hK => ?_); go_simp; refine hK _ ?_; clear hK K))
  refine rowK_nil ⟨fun w' hw' => ?_, ?_⟩
  · rw [HL56.out] at hw'
    have g98 := hw'.nth 2 rfl
    have g99 := hw'.nth 1 rfl
    clear f96 f97
    repeat (first | (refine rowWp_step2 rfl rfl (fun K hK => ?_); go_wp2) | (refine rowWp_step rfl (fun K hK => ?_); go_simp; refine hK _ ?_; clear hK K))
    exact rowWp_nil rfl
  clear f96 f97
  refine drawn_next 2 (fuel := 16) rfl (by kernel_rfl) ?_
  intro K hK
  go_wp2_with fail
  refine (mul_f Hc13.out Hc16.out).mono ?_
  rintro e w100 ⟨c102, rfl, k103, F101⟩
  have nc102 := k103.len
  have Hc102 := Lib.hid k103
  clear k103
  have h104 := (h94.drew).call F101
  clear F101 h94
  simp only []
  go_wp2
  refine ⟨h104, ?_⟩
  refine drawn_next 3 (fuel := 15) rfl (by kernel_rfl) ?_
  intro K hK
  go_wp2_with fail
  refine (bytes_f Hc102.out).mono ?_
  rintro e w105 ⟨rfl, F106⟩
  have h107 := (h104).call F106
  clear F106 h104
  simp only []
  go_wp2
  refine ⟨h107, ?_⟩
  refine drawn_next 6 (fuel := 14) rfl (by kernel_rfl) ?_
  intro K hK
  go_wp2_with fail
  refine (mul_f Hc16.out Hc13.out).mono ?_
  rintro e w108 ⟨c110, rfl, k111, F109⟩
  have nc110 := k111.len
  have Hc110 := Lib.hid k111
  clear k111
  have h112 := (h107).call F109
  clear F109 h107
  simp only []
  go_wp2
  refine ⟨h112, ?_⟩
  refine drawn_next 7 (fuel := 13) rfl (by kernel_rfl) ?_
  intro K hK
  go_wp2_with fail
  refine (bytes_f Hc110.out).mono ?_
  rw [show (fromB b) * (fromB a) = (fromB a) * (fromB b) from by grobner]
  rintro e w113 ⟨rfl, F114⟩
  have h115 := (h112).call F114
  clear F114 h112
  simp only []
  go_wp2
  refine ⟨h115, ?_⟩
  have s116 := h115
  rw [HL56.out] at s116
  have f117 := s116.nth 2 rfl
  have f118 := s116.nth 1 rfl
  clear s116
  refine drawn_reads (fuel := 7) [8, 9, 10, 11, 14, 15] rfl (by kernel_rfl) (h115) ?_
  repeat (first | (refine rowK_step2 rfl rfl (fun K hK => ?_); go_wp2) | (refine rowK_step rfl (fun K hK => ?_); go_simp; refine hK _ ?_; clear hK K))
  refine rowK_nil ⟨fun w' hw' => ?_, ?_⟩
  · rw [HL56.out] at hw'
    have g119 := hw'.nth 2 rfl
    have g120 := hw'.nth 1 rfl
    clear f117 f118
    repeat (first | (refine rowWp_step2 rfl rfl (fun K hK => ?_); go_wp2) | (refine rowWp_step rfl (fun K hK => ?_); go_simp; refine hK _ ?_; clear hK K))
    exact rowWp_nil rfl
  clear f117 f118
  refine drawn_next 12 (fuel := 6) rfl (by kernel_rfl) ?_
  intro K hK
  go_wp2_with fail
  refine (add_f Hc13.out Hc16.out).mono ?_
  rintro e w121 ⟨c123, rfl, k124, F122⟩
  have nc123 := k124.len
  have Hc123 := Lib.hid k124
  clear k124
  have h125 := (h115).call F122
  clear F122 h115
  simp only []
  go_wp2
  refine ⟨h125, ?_⟩
  refine drawn_next 13 (fuel := 5) rfl (by kernel_rfl) ?_
  intro K hK
  go_wp2_with fail
  refine (bytes_f Hc123.out).mono ?_
  rintro e w126 ⟨rfl, F127⟩
  have h128 := (h125).call F127
  clear F127 h125
  simp only []
  go_wp2
  refine ⟨h128, ?_⟩
  refine drawn_next 16 (fuel := 4) rfl (by kernel_rfl) ?_
  intro K hK
  go_wp2_with fail
  refine (add_f Hc16.out Hc13.out).mono ?_
  rintro e w129 ⟨c131, rfl, k132, F130⟩
  have nc131 := k132.len
  have Hc131 := Lib.hid k132
  clear k132
  have h133 := (h128).call F130
  clear F130 h128
  simp only []
  go_wp2
  refine ⟨h133, ?_⟩
  refine drawn_next 17 (fuel := 3) rfl (by kernel_rfl) ?_
  intro K hK
  go_wp2_with fail
  refine (bytes_f Hc131.out).mono ?_
  rw [show (fromB b) + (fromB a) = (fromB a) + (fromB b) from by grobner]
  rintro e w134 ⟨rfl, F135⟩
  have h136 := (h133).call F135
  clear F135 h133
  simp only []
  go_wp2
  refine ⟨h136, ?_⟩
  refine drawn_reads (fuel := 0) [18, 19, 20] rfl (by kernel_rfl) (h136) ?_
  repeat (first | (refine rowK_step2 rfl rfl (fun K hK => ?_); go_wp2) | (refine rowK_step rfl (fun K hK => ?_); go_simp; refine hK _ ?_; clear hK K))
  refine rowK_nil ⟨fun w' hw' => ?_, ?_⟩
  · skip
    repeat (first | (refine rowWp_step2 rfl rfl (fun K hK => ?_); go_wp2) | (refine rowWp_step rfl (fun K hK => ?_); go_simp; refine hK _ ?_; clear hK K))
    exact rowWp_nil rfl
  refine drawn_end (ol := []) rfl (by kernel_rfl) ?_
  intro K hK
  go_wp2_with fail
  refine drawn_begin 14 (Own w L56) (by kernel_rfl) ?_
  have s137 := h136.drew
  rw [HL56.out] at s137
  have f138 := s137.nth 2 rfl
  have f139 := s137.nth 1 rfl
  have f140 := s137.nth 0 rfl
  clear s137
  refine drawn_reads (fuel := 8) [0, 1, 3, 6, 7, 8] rfl (by kernel_rfl) (h136.drew) ?_
  repeat (first | (refine rowK_step2 rfl rfl (fun K hK => ?_); go_wp2) | (refine rowK_step rfl (fun K hK => ?_); go_simp; refine hK _ ?_; clear hK K))
  refine rowK_nil ⟨fun w' hw' => ?_, ?_⟩
  · rw [HL56.out] at hw'
    have g141 := hw'.nth 2 rfl
    have g142 := hw'.nth 1 rfl
    have g143 := hw'.nth 0 rfl
    clear f138 f139 f140
    repeat (first | (refine rowWp_step2 rfl rfl (fun K hK => ?_); go_wp2) | (refine rowWp_step rfl (fun K hK => ?_); go_simp; refine hK _ ?_; clear hK K))
    exact rowWp_nil rfl
  clear f138 f139 f140
  refine drawn_next 2 (fuel := 7) rfl (by kernel_rfl) ?_
  intro K hK
  go_wp2_with fail
  refine (mul_f Hc13.out Hc16.out).mono ?_
  rintro e w144 ⟨c146, rfl, k147, F145⟩
  have nc146 := k147.len
  have Hc146 := Lib.hid k147
  clear k147
  have h148 := (h136.drew).call F145
  clear F145 h136
  simp only []
  go_wp2
  refine ⟨h148, ?_⟩
  refine drawn_next 4 (fuel := 6) rfl (by kernel_rfl) ?_
  intro K hK
  go_wp2_with fail
  refine (mul_f Hc146.out Hc19.out).mono ?_
  rintro e w149 ⟨c151, rfl, k152, F150⟩
  have nc151 := k152.len
  have Hc151 := Lib.hid k152
  clear k152
  have h153 := (h148).call F150
  clear F150 h148
  simp only []
  go_wp2
  refine ⟨h153, ?_⟩
  refine drawn_next 5 (fuel := 5) rfl (by kernel_rfl) ?_
  intro K hK
  go_wp2_with fail
  refine (bytes_f Hc151.out).mono ?_
  rintro e w154 ⟨rfl, F155⟩
  have h156 := (h153).call F155
  clear F155 h153
  simp only []
  go_wp2
  refine ⟨h156, ?_⟩
  refine drawn_next 9 (fuel := 4) rfl (by kernel_rfl) ?_
  intro K hK
  go_wp2_with fail
  refine (mul_f Hc16.out Hc19.out).mono ?_
  rintro e w157 ⟨c159, rfl, k160, F158⟩
  have nc159 := k160.len
  have Hc159 := Lib.hid k160
  clear k160
  have h161 := (h156).call F158
  clear F158 h156
  simp only []
  go_wp2
  refine ⟨h161, ?_⟩
  refine drawn_next 10 (fuel := 3) rfl (by kernel_rfl) ?_
  intro K hK
  go_wp2_with fail
  refine (mul_f Hc13.out Hc159.out).mono ?_
  rintro e w162 ⟨c164, rfl, k165, F163⟩
  have nc164 := k165.len
  have Hc164 := Lib.hid k165
  clear k165
  have h166 := (h161).call F163
  clear F163 h161
  simp only []
  go_wp2
  refine ⟨h166, ?_⟩
  refine drawn_next 11 (fuel := 2) rfl (by kernel_rfl) ?_
  intro K hK
  go_wp2_with fail
  refine (bytes_f Hc164.out).mono ?_
  rw [show (fromB a) * ((fromB b) * (fromB c)) = (fromB a) * (fromB b) * (fromB c) from by grobner]
  rintro e w167 ⟨rfl, F168⟩
  have h169 := (h166).call F168
  clear F168 h166
  simp only []
  go_wp2
  refine ⟨h169, ?_⟩
  refine drawn_reads (fuel := 0) [12, 13] rfl (by kernel_rfl) (h169) ?_
  repeat (first | (refine rowK_step2 rfl rfl (fun K hK => ?_); go_wp2) | (refine rowK_step rfl (fun K hK => ?_); go_simp; refine hK _ ?_; clear hK K))
  refine rowK_nil ⟨fun w' hw' => ?_, ?_⟩
  · skip
    repeat (first | (refine rowWp_step2 rfl rfl (fun K hK => ?_); go_wp2) | (refine rowWp_step rfl (fun K hK => ?_); go_simp; refine hK _ ?_; clear hK K))
    exact rowWp_nil rfl
  refine drawn_end (ol := []) rfl (by kernel_rfl) ?_
  intro K hK
  go_wp2_with fail
  refine drawn_begin 20 (Own w L56) (by kernel_rfl) ?_
  refine drawn_reads (fuel := 18) [0, 1] rfl (by kernel_rfl) (h169.drew) ?_
  repeat (first | (refine rowK_step2 rfl rfl (fun K hK => ?_); go_wp2) | (refine rowK_step rfl (fun K hK => ?_); go_simp; refine hK _ ?_; clear hK K))
  refine rowK_nil ⟨fun w' hw' => ?_, ?_⟩
  · skip
    repeat (first | (refine rowWp_step2 rfl rfl (fun K hK => ?_); go_wp2) | (refine rowWp_step rfl (fun K hK => ?_); go_simp; refine hK _ ?_; clear hK K))
    exact rowWp_nil rfl
  have s170 := h169.drew
  rw [HL56.out] at s170
  have f171 := s170.nth 2 rfl
  have f172 := s170.nth 1 rfl
  clear s170
  refine drawn_reads (fuel := 8) [2, 3, 4, 5, 6, 7, 8, 9, 12, 13] rfl (by kernel_rfl) (h169.drew) ?_
  repeat (first | (refine rowK_step2 rfl rfl (fun K hK => ?_); go_wp2) | (refine rowK_step rfl (fun K hK => ?_); go_simp; refine hK _ ?_; clear hK K))
  refine rowK_nil ⟨fun w' hw' => ?_, ?_⟩
  · rw [HL56.out] at hw'
    have g173 := hw'.nth 2 rfl
    have g174 := hw'.nth 1 rfl
    clear f171 f172
    repeat (first | (refine rowWp_step2 rfl rfl (fun K hK => ?_); go_wp2) | (refine rowWp_step rfl (fun K hK => ?_); go_simp; refine hK _ ?_; clear hK K))
    exact rowWp_nil rfl
  clear f171 f172
  refine drawn_next 10 (fuel := 7) rfl (by kernel_rfl) ?_
  intro K hK
  go_wp2_with fail
  refine (sub_f Hc13.out Hc16.out).mono ?_
  rintro e w175 ⟨c177, rfl, k178, F176⟩
  have nc177 := k178.len
  have Hc177 := Lib.hid k178
  clear k178
  have h179 := (h169.drew).call F176
  clear F176 h169
  simp only []
  go_wp2
  refine ⟨h179, ?_⟩
  refine drawn_next 11 (fuel := 6) rfl (by kernel_rfl) ?_
  intro K hK
  go_wp2_with fail
  refine (bytes_f Hc177.out).mono ?_
  rintro e w180 ⟨rfl, F181⟩
  have h182 := (h179).call F181
  clear F181 h179
  simp only []
  go_wp2
  refine ⟨h182, ?_⟩
  refine drawn_next 14 (fuel := 5) rfl (by kernel_rfl) ?_
  intro K hK
  go_wp2_with fail
  refine (neg_f Hc16.out).mono ?_
  rintro e w183 ⟨c185, rfl, k186, F184⟩
  have nc185 := k186.len
  have Hc185 := Lib.hid k186
  clear k186
  have h187 := (h182).call F184
  clear F184 h182
  simp only []
  go_wp2
  refine ⟨h187, ?_⟩
  refine drawn_next 15 (fuel := 4) rfl (by kernel_rfl) ?_
  intro K hK
  go_wp2_with fail
  refine (add_f Hc13.out Hc185.out).mono ?_
  rintro e w188 ⟨c190, rfl, k191, F189⟩
  have nc190 := k191.len
  have Hc190 := Lib.hid k191
  clear k191
  have h192 := (h187).call F189
  clear F189 h187
  simp only []
  go_wp2
  refine ⟨h192, ?_⟩
  refine drawn_next 16 (fuel := 3) rfl (by kernel_rfl) ?_
  intro K hK
  go_wp2_with fail
  refine (bytes_f Hc190.out).mono ?_
  rw [show (fromB a) + -(fromB b) = (fromB a) - (fromB b) from by grobner]
  rintro e w193 ⟨rfl, F194⟩
  have h195 := (h192).call F194
  clear F194 h192
  simp only []
  go_wp2
  refine ⟨h195, ?_⟩
  refine drawn_reads (fuel := 0) [17, 18, 19] rfl (by kernel_rfl) (h195) ?_
  repeat (first | (refine rowK_step2 rfl rfl (fun K hK => ?_); go_wp2) | (refine rowK_step rfl (fun K hK => ?_); go_simp; refine hK _ ?_; clear hK K))
  refine rowK_nil ⟨fun w' hw' => ?_, ?_⟩
  · skip
    repeat (first | (refine rowWp_step2 rfl rfl (fun K hK => ?_); go_wp2) | (refine rowWp_step rfl (fun K hK => ?_); go_simp; refine hK _ ?_; clear hK K))
    exact rowWp_nil rfl
  refine drawn_end (ol := []) rfl (by kernel_rfl) ?_
  intro K hK
  go_wp2_with fail
  go_ret
  exact ⟨rfl, (h195).fr⟩
end
end Go.Proofs.Ytakhmmnklkckpaa
