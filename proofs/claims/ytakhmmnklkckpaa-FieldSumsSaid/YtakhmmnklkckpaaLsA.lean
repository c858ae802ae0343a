/- FieldSums: the walk (printed by gen_field.py). -/
import Derived.Test.YtakhmmnklkckpaaOwn
namespace Go.Proofs.Ytakhmmnklkckpaa
open Go.RowKit Go.Dr

section
variable {w : World}
set_option maxRecDepth 100000 in
set_option maxHeartbeats 4000000 in
theorem fieldSums_walk (a b : List Int) (hla : a.length = 32) (ha : Byt a) (hlb : b.length = 32) (hb : Byt b) : Calls Try.prog 4 #[.agg (ints .u8 a), .agg (ints .u8 b)] w fun e w' => e = .returned (.bool true) ∧ Fr [] w w' := by
  have Ba := Lib.hid ha
  clear ha
  have Bb := Lib.hid hb
  clear hb
  go_enter Try.func4, Try.ntmps4
  go_wp2_with fail
  refine alive_any.mono ?_
  rintro e w1 ⟨rfl, F1⟩
  have h0 : Own w [(w.heap.size + 1, .cells (ints .u8 (b)) 22), (w.heap.size, .cells (ints .u8 (a)) 22)] w1 := ((((Own.start w).allocN (.cells (ints .u8 (a)) 22) w.heap.size rfl).allocN (.cells (ints .u8 (b)) 22) (w.heap.size + 1) (by simp))).call F1
  clear F1
  simp only []
  generalize w.heap.size + 1 = b2 at h0 ⊢
  generalize w.heap.size = b1 at h0 ⊢
  obtain ⟨L3, hL3⟩ : ∃ L : List (Nat × Obj), L = [(b2, .cells (ints .u8 (b)) 22), (b1, .cells (ints .u8 (a)) 22)] := ⟨_, rfl⟩
  rw [← hL3] at h0
  have HL3 := Lib.hid hL3
  clear hL3
  go_wp2_with fail
  refine drawn_begin 6 (Own w L3) (by kernel_rfl) ?_
  have s4 := h0.drew
  rw [HL3.out] at s4
  have f5 := s4.nth 1 rfl
  have f6 := s4.nth 0 rfl
  clear s4
  refine drawn_reads (fuel := 6) [0, 2] rfl (by kernel_rfl) (h0.drew) ?_
  repeat (first | (refine rowK_step2 rfl rfl (fun K hK => ?_); go_wp2) | (refine rowK_step rfl (fun K hK => ?_); go_simp; refine hK _ ?_; clear hK K))
  refine rowK_nil ⟨fun w' hw' => ?_, ?_⟩
  · rw [HL3.out] at hw'
    have g7 := hw'.nth 1 rfl
    have g8 := hw'.nth 0 rfl
    clear f5 f6
    repeat (first | (refine rowWp_step2 rfl rfl (fun K hK => ?_); go_wp2) | (refine rowWp_step rfl (fun K hK => ?_); go_simp; refine hK _ ?_; clear hK K))
    exact rowWp_nil rfl
  clear f5 f6
  obtain ⟨p, hp⟩ : ∃ p : Par, p = ⟨[(1, 12, fun v => ∃ c, v = fe c ∧ Is c ((fromB a))), (3, 14, fun v => ∃ c, v = fe c ∧ Is c ((fromB b)))], [(4, 5, .cells (ints .u64 (List.replicate 5 0)) 28), (5, 6, .cells (ints .u64 (List.replicate 5 0)) 28)], [0, 2]⟩ := ⟨_, rfl⟩
  have ok : p.ok := by rw [hp]; exact ⟨(by decide : [1, 3, 4, 5].Nodup), (by decide : [12, 14, 5, 6].Nodup)⟩
  refine drawn_inv (rest := 2) [12, 14, 5, 6] (fun L s w => p.Inv w1.drew L s w) (fun _ => undef) 4 (by kernel_rfl) (fun L s w h => ?_) rfl ?_ ?_ ?_
  · exact (h0.drew).call h.fr
  · refine Par.Inv.start ?_ ?_ ?_ <;> rw [hp] <;> intro i hi <;> simp at hi
    · rcases hi with rfl | rfl <;> rfl
    · rcases hi with rfl | rfl <;> rfl
    · rcases hi with rfl | rfl <;> rfl
  · intro i o L s w ho hi hL hd h K hK
    rcases (show i = 0 ∨ i = 1 ∨ i = 2 ∨ i = 3 ∨ i = 4 ∨ i = 5 by omega) with rfl | rfl | rfl | rfl | rfl | rfl
    · rw [h.row 0 (by rw [hp]; simp)] at hL; cases hL
    · injection (show some _ = some o from ho) with ho; subst ho
      simp only [fill]
      go_wp2_with fail
      refine (of_b hla Ba.out).mono ?_
      rintro e w2 ⟨c, rfl, hc, F⟩
      simp only []
      go_wp2
      exact ⟨_, by kernel_rfl, h.called ok (1, 12, fun v => ∃ c, v = fe c ∧ Is c ((fromB a))) (by rw [hp]; simp) F ⟨c, rfl, hc⟩⟩
    · rw [h.row 2 (by rw [hp]; simp)] at hL; cases hL
    · injection (show some _ = some o from ho) with ho; subst ho
      simp only [fill]
      go_wp2_with fail
      refine (of_b hlb Bb.out).mono ?_
      rintro e w2 ⟨c, rfl, hc, F⟩
      simp only []
      go_wp2
      exact ⟨_, by kernel_rfl, h.called ok (3, 14, fun v => ∃ c, v = fe c ∧ Is c ((fromB b))) (by rw [hp]; simp) F ⟨c, rfl, hc⟩⟩
    · injection (show some _ = some o from ho) with ho; subst ho
      simp only [fill]
      go_wp2
      exact ⟨_, by kernel_rfl, h.made ok (4, 5, .cells (ints .u64 (List.replicate 5 0)) 28) (by rw [hp]; simp)⟩
    · injection (show some _ = some o from ho) with ho; subst ho
      simp only [fill]
      go_wp2
      exact ⟨_, by kernel_rfl, h.made ok (5, 6, .cells (ints .u64 (List.replicate 5 0)) 28) (by rw [hp]; simp)⟩
  intro s w9 h
  obtain ⟨c10, e12, k11⟩ := h.call (1, 12, fun v => ∃ c, v = fe c ∧ Is c ((fromB a))) (by rw [hp]; simp) rfl
  obtain ⟨c13, e15, k14⟩ := h.call (3, 14, fun v => ∃ c, v = fe c ∧ Is c ((fromB b))) (by rw [hp]; simp) rfl
  obtain ⟨b16, e17, l18, m19⟩ := h.room (4, 5, .cells (ints .u64 (List.replicate 5 0)) 28) (by rw [hp]; simp) rfl
  obtain ⟨b20, e21, l22, m23⟩ := h.room (5, 6, .cells (ints .u64 (List.replicate 5 0)) 28) (by rw [hp]; simp) rfl
  simp only [] at e12 e15 e17 e21
  have q24 := h.apart (5, 6, .cells (ints .u64 (List.replicate 5 0)) 28) (by rw [hp]; simp) (4, 5, .cells (ints .u64 (List.replicate 5 0)) 28) (by rw [hp]; simp) (by simp) rfl rfl
  simp only [e21, e17] at q24
  have h25 := (h0.drew).call h.fr
  simp only [fill, e12, e15, e17, e21]
  have h26 := ((h25.room m19 (h0.fresh l18) (Nat.le_trans h0.fr.size l18)).room m23 (by simp only [List.map_cons, List.mem_cons, not_or]; exact ⟨(fun e => q24 (by rw [e])), (h0.fresh l22)⟩) (Nat.le_trans h0.fr.size l22))
  rw [HL3.out] at h26
  clear e12 e15 e17 e21 q24 l18 m19 l22 m23 h25 h ok hp h0 p
  have nc10 := k11.len
  have Hc10 := Lib.hid k11
  clear k11
  have nc13 := k14.len
  have Hc13 := Lib.hid k14
  clear k14
  obtain ⟨L27, hL27⟩ : ∃ L : List (Nat × Obj), L = [(b20, .cells (ints .u64 (List.replicate 5 0)) 28), (b16, .cells (ints .u64 (List.replicate 5 0)) 28), (b2, .cells (ints .u8 (b)) 22), (b1, .cells (ints .u8 (a)) 22)] := ⟨_, rfl⟩
  rw [← hL27] at h26
  have HL27 := Lib.hid hL27
  clear hL27
  refine drawn_end (ol := [_, _]) rfl (by kernel_rfl) ?_
  intro K hK
  have s28 := h26
  rw [HL27.out] at s28
  have f29 := s28.nth 1 rfl
  have t30 := s28.lt 1 rfl
  have f31 := s28.nth 0 rfl
  have t32 := s28.lt 0 rfl
  have e33 := s28.ne 1 0 rfl rfl (by decide)
  have e34 := s28.ne 0 1 rfl rfl (by decide)
  clear s28
  have s35 := h26
  rw [HL27.out] at s35
  go_wp2_with fail
  clear f29 t30 f31 t32 e33 e34
  refine Own.named (Q := fun X => Code.wp _ _ _ _ X) (show Own w [(b20, .cells (ints .u64 c13) 28), (b16, .cells (ints .u64 c10) 28), (b2, .cells (ints .u8 (b)) 22), (b1, .cells (ints .u8 (a)) 22)] _ from ((s35.set 1 (.cells (ints .u64 c10) 28) rfl).set 0 (.cells (ints .u64 c13) 28) rfl)) ?_
  intro V37 h36
  clear s35 h26
  obtain ⟨L38, hL38⟩ : ∃ L : List (Nat × Obj), L = [(b20, .cells (ints .u64 c13) 28), (b16, .cells (ints .u64 c10) 28), (b2, .cells (ints .u8 (b)) 22), (b1, .cells (ints .u8 (a)) 22)] := ⟨_, rfl⟩
  rw [← hL38] at h36
  have HL38 := Lib.hid hL38
  clear hL38
  refine drawn_begin 6 (Own w L38) (by kernel_rfl) ?_
  have s39 := h36.drew
  rw [HL38.out] at s39
  have f40 := s39.nth 3 rfl
  have f41 := s39.nth 2 rfl
  clear s39
  refine drawn_reads (fuel := 6) [0, 2] rfl (by kernel_rfl) (h36.drew) ?_
  repeat (first | (refine rowK_step2 rfl rfl (fun K hK => ?_); go_wp2) | (refine rowK_step rfl (fun K hK => ?_); go_simp; refine hK _ ?_; clear hK K))
  refine rowK_nil ⟨fun w' hw' => ?_, ?_⟩
  · rw [HL38.out] at hw'
    have g42 := hw'.nth 3 rfl
    have g43 := hw'.nth 2 rfl
    clear f40 f41
    repeat (first | (refine rowWp_step2 rfl rfl (fun K hK => ?_); go_wp2) | (refine rowWp_step rfl (fun K hK => ?_); go_simp; refine hK _ ?_; clear hK K))
    exact rowWp_nil rfl
  clear f40 f41
  obtain ⟨p, hp⟩ : ∃ p : Par, p = ⟨[(1, 16, fun v => v = dF ((fromB a))), (3, 18, fun v => v = dF ((fromB b)))], [(4, 7, .cells (ints .i64 (List.replicate 16 0)) 32), (5, 8, .cells (ints .i64 (List.replicate 16 0)) 32)], [0, 2]⟩ := ⟨_, rfl⟩
  have ok : p.ok := by rw [hp]; exact ⟨(by decide : [1, 3, 4, 5].Nodup), (by decide : [16, 18, 7, 8].Nodup)⟩
  refine drawn_inv (rest := 2) [16, 18, 7, 8] (fun L s w => p.Inv V37.drew L s w) (fun _ => undef) 4 (by kernel_rfl) (fun L s w h => ?_) rfl ?_ ?_ ?_
  · exact (h36.drew).call h.fr
  · refine Par.Inv.start ?_ ?_ ?_ <;> rw [hp] <;> intro i hi <;> simp at hi
    · rcases hi with rfl | rfl <;> rfl
    · rcases hi with rfl | rfl <;> rfl
    · rcases hi with rfl | rfl <;> rfl
  · intro i o L s w ho hi hL hd h K hK
    rcases (show i = 0 ∨ i = 1 ∨ i = 2 ∨ i = 3 ∨ i = 4 ∨ i = 5 by omega) with rfl | rfl | rfl | rfl | rfl | rfl
    · rw [h.row 0 (by rw [hp]; simp)] at hL; cases hL
    · injection (show some _ = some o from ho) with ho; subst ho
      simp only [fill]
      go_wp2_with fail
      refine (rof_b hla Ba.out).mono ?_
      rintro e w2 ⟨rfl, F⟩
      simp only []
      go_wp2
      exact ⟨_, by kernel_rfl, h.called ok (1, 16, fun v => v = dF ((fromB a))) (by rw [hp]; simp) F rfl⟩
    · rw [h.row 2 (by rw [hp]; simp)] at hL; cases hL
    · injection (show some _ = some o from ho) with ho; subst ho
      simp only [fill]
      go_wp2_with fail
      refine (rof_b hlb Bb.out).mono ?_
      rintro e w2 ⟨rfl, F⟩
      simp only []
      go_wp2
      exact ⟨_, by kernel_rfl, h.called ok (3, 18, fun v => v = dF ((fromB b))) (by rw [hp]; simp) F rfl⟩
    · injection (show some _ = some o from ho) with ho; subst ho
      simp only [fill]
      go_wp2
      exact ⟨_, by kernel_rfl, h.made ok (4, 7, .cells (ints .i64 (List.replicate 16 0)) 32) (by rw [hp]; simp)⟩
    · injection (show some _ = some o from ho) with ho; subst ho
      simp only [fill]
      go_wp2
      exact ⟨_, by kernel_rfl, h.made ok (5, 8, .cells (ints .i64 (List.replicate 16 0)) 32) (by rw [hp]; simp)⟩
  intro s w44 h
  have e45 := h.call (1, 16, fun v => v = dF ((fromB a))) (by rw [hp]; simp) rfl
  have e46 := h.call (3, 18, fun v => v = dF ((fromB b))) (by rw [hp]; simp) rfl
  obtain ⟨b47, e48, l49, m50⟩ := h.room (4, 7, .cells (ints .i64 (List.replicate 16 0)) 32) (by rw [hp]; simp) rfl
  obtain ⟨b51, e52, l53, m54⟩ := h.room (5, 8, .cells (ints .i64 (List.replicate 16 0)) 32) (by rw [hp]; simp) rfl
  simp only [] at e45 e46 e48 e52
  have q55 := h.apart (5, 8, .cells (ints .i64 (List.replicate 16 0)) 32) (by rw [hp]; simp) (4, 7, .cells (ints .i64 (List.replicate 16 0)) 32) (by rw [hp]; simp) (by simp) rfl rfl
  simp only [e52, e48] at q55
  have h56 := (h36.drew).call h.fr
  simp only [fill, e45, e46, e48, e52]
  have h57 := ((h56.room m50 (h36.fresh l49) (Nat.le_trans h36.fr.size l49)).room m54 (by simp only [List.map_cons, List.mem_cons, not_or]; exact ⟨(fun e => q55 (by rw [e])), (h36.fresh l53)⟩) (Nat.le_trans h36.fr.size l53))
  rw [HL38.out] at h57
  clear e45 e46 e48 e52 q55 l49 m50 l53 m54 h56 h ok hp h36 p
  obtain ⟨L58, hL58⟩ : ∃ L : List (Nat × Obj), L = [(b51, .cells (ints .i64 (List.replicate 16 0)) 32), (b47, .cells (ints .i64 (List.replicate 16 0)) 32), (b20, .cells (ints .u64 c13) 28), (b16, .cells (ints .u64 c10) 28), (b2, .cells (ints .u8 (b)) 22), (b1, .cells (ints .u8 (a)) 22)] := ⟨_, rfl⟩
  rw [← hL58] at h57
  have HL58 := Lib.hid hL58
  clear hL58
  refine drawn_end (ol := [_, _]) rfl (by kernel_rfl) ?_
  intro K hK
  have s59 := h57
  rw [HL58.out] at s59
  have f60 := s59.nth 1 rfl
  have t61 := s59.lt 1 rfl
  have f62 := s59.nth 0 rfl
  have t63 := s59.lt 0 rfl
  have e64 := s59.ne 1 0 rfl rfl (by decide)
  have e65 := s59.ne 0 1 rfl rfl (by decide)
  clear s59
  have s66 := h57
  rw [HL58.out] at s66
  go_wp2_with fail
  clear f60 t61 f62 t63 e64 e65
  refine Own.named (Q := fun X => Code.wp _ _ _ _ X) (show Own w [(b51, .cells (ints .i64 (digs ((fromB b)).val)) 32), (b47, .cells (ints .i64 (digs ((fromB a)).val)) 32), (b20, .cells (ints .u64 c13) 28), (b16, .cells (ints .u64 c10) 28), (b2, .cells (ints .u8 (b)) 22), (b1, .cells (ints .u8 (a)) 22)] _ from ((s66.set 1 (.cells (ints .i64 (digs ((fromB a)).val)) 32) rfl).set 0 (.cells (ints .i64 (digs ((fromB b)).val)) 32) rfl)) ?_
  intro V68 h67
  clear s66 h57
  obtain ⟨L69, hL69⟩ : ∃ L : List (Nat × Obj), L = [(b51, .cells (ints .i64 (digs ((fromB b)).val)) 32), (b47, .cells (ints .i64 (digs ((fromB a)).val)) 32), (b20, .cells (ints .u64 c13) 28), (b16, .cells (ints .u64 c10) 28), (b2, .cells (ints .u8 (b)) 22), (b1, .cells (ints .u8 (a)) 22)] := ⟨_, rfl⟩
  rw [← hL69] at h67
  have HL69 := Lib.hid hL69
  clear hL69
  refine drawn_begin 30 (Own w L69) (by kernel_rfl) ?_
  have s70 := h67.drew
  rw [HL69.out] at s70
  have f71 := s70.nth 3 rfl
  have f72 := s70.nth 2 rfl
  have f73 := s70.nth 1 rfl
  have f74 := s70.nth 0 rfl
  clear s70
  refine drawn_reads (fuel := 26) [0, 1, 4, 5] rfl (by kernel_rfl) (h67.drew) ?_
  repeat (first | (refine rowK_step2 rfl rfl (fun K hK => ?_); go_wp2) | (refine rowK_step rfl (fun K hK => ?_); go_simp; refine hK _ ?_; clear hK K))
  refine rowK_nil ⟨fun w' hw' => ?_, ?_⟩
  · rw [HL69.out] at hw'
    have g75 := hw'.nth 3 rfl
    have g76 := hw'.nth 2 rfl
    have g77 := hw'.nth 1 rfl
    have g78 := hw'.nth 0 rfl
    clear f71 f72 f73 f74
    repeat (first | (refine rowWp_step2 rfl rfl (fun K hK => ?_); go_wp2) | (refine rowWp_step rfl (fun K hK => ?_); go_simp; refine hK _ ?_; clear hK K))
    exact rowWp_nil rfl
  clear f71 f72 f73 f74
  refine drawn_next 2 (fuel := 25) rfl (by kernel_rfl) ?_
  intro K hK
  go_wp2_with fail
  refine (add_f Hc10.out Hc13.out).mono ?_
  rintro e w79 ⟨c81, rfl, k82, F80⟩
  have nc81 := k82.len
  have Hc81 := Lib.hid k82
  clear k82
  have h83 := (h67.drew).call F80
  clear F80 h67
  simp only []
  go_wp2
  refine ⟨h83, ?_⟩
  refine drawn_next 3 (fuel := 24) rfl (by kernel_rfl) ?_
  intro K hK
  go_wp2_with fail
  refine (bytes_f Hc81.out).mono ?_
  rintro e w84 ⟨rfl, F85⟩
  have h86 := (h83).call F85
  clear F85 h83
  simp only []
  go_wp2
  refine ⟨h86, ?_⟩
  refine drawn_next 6 (fuel := 23) rfl (by kernel_rfl) ?_
  intro K hK
  go_wp2_with fail
  refine (radd_f (fromB a) (fromB b)).mono ?_
  rintro e w87 ⟨rfl, F88⟩
  have h89 := (h86).call F88
  clear F88 h86
  simp only []
  go_wp2
  refine ⟨h89, ?_⟩
  refine drawn_next 7 (fuel := 22) rfl (by kernel_rfl) ?_
  intro K hK
  go_wp2_with fail
  refine (rbytes_f ((fromB a) + (fromB b))).mono ?_
  rintro e w90 ⟨rfl, F91⟩
  have h92 := (h89).call F91
  clear F91 h89
  simp only []
  go_wp2
  refine ⟨h92, ?_⟩
  have s93 := h92
  rw [HL69.out] at s93
  have f94 := s93.nth 3 rfl
  have f95 := s93.nth 2 rfl
  have f96 := s93.nth 1 rfl
  have f97 := s93.nth 0 rfl
  clear s93
  refine drawn_reads (fuel := 16) [8, 9, 10, 11, 14, 15] rfl (by kernel_rfl) (h92) ?_
  repeat (first | (refine rowK_step2 rfl rfl (fun K hK => ?_); go_wp2) | (refine rowK_step rfl (fun K hK => ?_); go_simp; refine hK _ ?_; clear hK K))
  refine rowK_nil ⟨fun w' hw' => ?_, ?_⟩
  · rw [HL69.out] at hw'
    have g98 := hw'.nth 3 rfl
    have g99 := hw'.nth 2 rfl
    have g100 := hw'.nth 1 rfl
    have g101 := hw'.nth 0 rfl
    clear f94 f95 f96 f97
    repeat (first | (refine rowWp_step2 rfl rfl (fun K hK => ?_); go_wp2) | (refine rowWp_step rfl (fun K hK => ?_); go_simp; refine hK _ ?_; clear hK K))
    exact rowWp_nil rfl
  clear f94 f95 f96 f97
  refine drawn_next 12 (fuel := 15) rfl (by kernel_rfl) ?_
  intro K hK
  go_wp2_with fail
  refine (sub_f Hc10.out Hc13.out).mono ?_
  rintro e w102 ⟨c104, rfl, k105, F103⟩
  have nc104 := k105.len
  have Hc104 := Lib.hid k105
  clear k105
  have h106 := (h92).call F103
  clear F103 h92
  simp only []
  go_wp2
  refine ⟨h106, ?_⟩
  refine drawn_next 13 (fuel := 14) rfl (by kernel_rfl) ?_
  intro K hK
  go_wp2_with fail
  refine (bytes_f Hc104.out).mono ?_
  rintro e w107 ⟨rfl, F108⟩
  have h109 := (h106).call F108
  clear F108 h106
  simp only []
  go_wp2
  refine ⟨h109, ?_⟩
  refine drawn_next 16 (fuel := 13) rfl (by kernel_rfl) ?_
  intro K hK
  go_wp2_with fail
  refine (rsub_f (fromB a) (fromB b)).mono ?_
  rintro e w110 ⟨rfl, F111⟩
  have h112 := (h109).call F111
  clear F111 h109
  simp only []
  go_wp2
  refine ⟨h112, ?_⟩
  refine drawn_next 17 (fuel := 12) rfl (by kernel_rfl) ?_
  intro K hK
  go_wp2_with fail
  refine (rbytes_f ((fromB a) - (fromB b))).mono ?_
  rintro e w113 ⟨rfl, F114⟩
  have h115 := (h112).call F114
  clear F114 h112
  simp only []
  go_wp2
  refine ⟨h115, ?_⟩
  have s116 := h115
  rw [HL69.out] at s116
  have f117 := s116.nth 3 rfl
  have f118 := s116.nth 1 rfl
  clear s116
  refine drawn_reads (fuel := 7) [18, 19, 20, 21, 24] rfl (by kernel_rfl) (h115) ?_
  repeat (first | (refine rowK_step2 rfl rfl (fun K hK => ?_); go_wp2) | (refine rowK_step rfl (fun K hK => ?_); go_simp; refine hK _ ?_; clear hK K))
  refine rowK_nil ⟨fun w' hw' => ?_, ?_⟩
  · rw [HL69.out] at hw'
    have g119 := hw'.nth 3 rfl
    have g120 := hw'.nth 1 rfl
    clear f117 f118
    repeat (first | (refine rowWp_step2 rfl rfl (fun K hK => ?_); go_wp2) | (refine rowWp_step rfl (fun K hK => ?_); go_simp; refine hK _ ?_; clear hK K))
    exact rowWp_nil rfl
  clear f117 f118
  refine drawn_next 22 (fuel := 6) rfl (by kernel_rfl) ?_
  intro K hK
  go_wp2_with fail
  refine (neg_f Hc10.out).mono ?_
  rintro e w121 ⟨c123, rfl, k124, F122⟩
  have nc123 := k124.len
  have Hc123 := Lib.hid k124
  clear k124
  have h125 := (h115).call F122
  clear F122 h115
  simp only []
  go_wp2
  refine ⟨h125, ?_⟩
  refine drawn_next 23 (fuel := 5) rfl (by kernel_rfl) ?_
  intro K hK
  go_wp2_with fail
  refine (bytes_f Hc123.out).mono ?_
  rintro e w126 ⟨rfl, F127⟩
  have h128 := (h125).call F127
  clear F127 h125
  simp only []
  go_wp2
  refine ⟨h128, ?_⟩
  refine drawn_next 25 (fuel := 4) rfl (by kernel_rfl) ?_
  intro K hK
  go_wp2_with fail
  refine (rneg_f (fromB a)).mono ?_
  rintro e w129 ⟨rfl, F130⟩
  have h131 := (h128).call F130
  clear F130 h128
  simp only []
  go_wp2
  refine ⟨h131, ?_⟩
  refine drawn_next 26 (fuel := 3) rfl (by kernel_rfl) ?_
  intro K hK
  go_wp2_with fail
  refine (rbytes_f (-(fromB a))).mono ?_
  rintro e w132 ⟨rfl, F133⟩
  have h134 := (h131).call F133
  clear F133 h131
  simp only []
  go_wp2
  refine ⟨h134, ?_⟩
  refine drawn_reads (fuel := 0) [27, 28, 29] rfl (by kernel_rfl) (h134) ?_
  repeat (first | (refine rowK_step2 rfl rfl (fun K hK => ?_); go_wp2) | (refine rowK_step rfl (fun K hK => ?_); go_simp; refine hK _ ?_; clear hK K))
  refine rowK_nil ⟨fun w' hw' => ?_, ?_⟩
  · skip
    repeat (first | (refine rowWp_step2 rfl rfl (fun K hK => ?_); go_wp2) | (refine rowWp_step rfl (fun K hK => ?_); go_simp; refine hK _ ?_; clear hK K))
    exact rowWp_nil rfl
  refine drawn_end (ol := []) rfl (by kernel_rfl) ?_
  intro K hK
  go_wp2_with fail
  go_ret
  exact ⟨rfl, (h134).fr⟩
end
end Go.Proofs.Ytakhmmnklkckpaa
