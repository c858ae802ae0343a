/- The document's curve: small functions, its sum of two points. -/
import Derived.Test.YtakhmmnklkckpaaZd
namespace Go.Proofs.Ytakhmmnklkckpaa
open Go.RowKit Go.Dr

section
variable {w : World}
theorem small_n' : True := trivial
set_option maxRecDepth 100000 in
set_option maxHeartbeats 8000000 in
theorem dfactor_core (a b i m : Fp) (ha : toFp 121665 = a) (hb : toFp 121666 = b) (hi : inv b = i) (hm : a * i = m) (hn : -m = dE) : Calls Try.prog 86 #[] w fun e w' => e = .returned (dF dE) ∧ Fr [] w w' := by
  have Ha := Lib.hid ha
  have Hb := Lib.hid hb
  have Hi := Lib.hid hi
  have Hm := Lib.hid hm
  have Hn := Lib.hid hn
  clear ha hb hi hm hn
  obtain ⟨r, hr⟩ : ∃ r, r = dE := ⟨_, rfl⟩
  rw [← hr] at Hn ⊢
  clear hr
  unfold dF
  go_enter Try.func86, Try.ntmps86
  go_wp2_with fail
  refine (small_n 121665 (by decide) Ha.out).mono ?_
  rintro e w2 ⟨rfl, F3⟩
  have h4 : OwB w [(w.heap.size, .cells (ints .i64 (List.replicate 16 0)) 32)] w2 := (((OwB.start w).allocN (.cells (ints .i64 (List.replicate 16 0)) 32) w.heap.size rfl)).call F3
  clear F3
  simp only []
  generalize w.heap.size = bk1 at h4 ⊢
  obtain ⟨L5, hL5⟩ : ∃ L : List (Nat × Obj), L = [(bk1, .cells (ints .i64 (List.replicate 16 0)) 32)] := ⟨_, rfl⟩
  rw [← hL5] at h4
  have HL5 := Lib.hid hL5
  clear hL5
  go_wp2_with fail
  refine (small_n 121666 (by decide) Hb.out).mono ?_
  rintro e w6 ⟨rfl, F7⟩
  have s9 := h4
  rw [HL5.out] at s9
  have h8 : OwB w [(bk1, .cells (ints .i64 (List.replicate 16 0)) 32)] w6 := (s9).call F7
  clear F7
  simp only []
  clear s9 h4
  obtain ⟨L10, hL10⟩ : ∃ L : List (Nat × Obj), L = [(bk1, .cells (ints .i64 (List.replicate 16 0)) 32)] := ⟨_, rfl⟩
  rw [← hL10] at h8
  have HL10 := Lib.hid hL10
  clear hL10
  go_wp2_with fail
  refine (rinv_n Hi.out).mono ?_
  rintro e w11 ⟨rfl, F12⟩
  have s14 := h8
  rw [HL10.out] at s14
  have h13 : OwB w [(bk1, .cells (ints .i64 (List.replicate 16 0)) 32)] w11 := (s14).call F12
  clear F12
  simp only []
  clear s14 h8
  obtain ⟨L15, hL15⟩ : ∃ L : List (Nat × Obj), L = [(bk1, .cells (ints .i64 (List.replicate 16 0)) 32)] := ⟨_, rfl⟩
  rw [← hL15] at h13
  have HL15 := Lib.hid hL15
  clear hL15
  go_wp2_with fail
  refine (rmul_n Hm.out).mono ?_
  rintro e w16 ⟨rfl, F17⟩
  have s19 := h13
  rw [HL15.out] at s19
  have h18 : OwB w [(bk1, .cells (ints .i64 (List.replicate 16 0)) 32)] w16 := (s19).call F17
  clear F17
  simp only []
  clear s19 h13
  obtain ⟨L20, hL20⟩ : ∃ L : List (Nat × Obj), L = [(bk1, .cells (ints .i64 (List.replicate 16 0)) 32)] := ⟨_, rfl⟩
  rw [← hL20] at h18
  have HL20 := Lib.hid hL20
  clear hL20
  go_wp2_with fail
  refine (rneg_n Hn.out).mono ?_
  rintro e w21 ⟨rfl, F22⟩
  have s24 := h18
  rw [HL20.out] at s24
  have h23 : OwB w [(bk1, .cells (ints .i64 (List.replicate 16 0)) 32)] w21 := (s24).call F22
  clear F22
  simp only []
  clear s24 h18
  obtain ⟨L25, hL25⟩ : ∃ L : List (Nat × Obj), L = [(bk1, .cells (ints .i64 (List.replicate 16 0)) 32)] := ⟨_, rfl⟩
  rw [← hL25] at h23
  have HL25 := Lib.hid hL25
  clear hL25
  have s26 := h23
  rw [HL25.out] at s26
  have f27 := s26.nth 0 rfl
  have t28 := s26.lt 0 rfl
  clear s26
  go_wp2_with fail
  clear f27 t28
  have s29 := h23
  rw [HL25.out] at s29
  refine OwB.named (Q := fun X => bodyPost _ _ _ _ _ X) (show OwB w [(bk1, .cells (ints .i64 (digs (r).val)) 32)] _ from (s29.set 0 (.cells (ints .i64 (digs (r).val)) 32) rfl)) ?_
  intro V31 h30
  clear s29 h23
  obtain ⟨L32, hL32⟩ : ∃ L : List (Nat × Obj), L = [(bk1, .cells (ints .i64 (digs (r).val)) 32)] := ⟨_, rfl⟩
  rw [← hL32] at h30
  have HL32 := Lib.hid hL32
  clear hL32
  have s33 := h30
  rw [HL32.out] at s33
  refine ret_cell rfl rfl rfl ?_
  refine cellRet_of (s33.nth 0 rfl) (aggB_ints (length_digs _) (by kernel_rfl)) ?_
  exact ⟨rfl, s33.fr⟩

set_option maxRecDepth 100000 in
set_option maxHeartbeats 8000000 in
theorem dzero_core (z o : Fp) (hz : toFp 0 = z) (ho : toFp 1 = o) : Calls Try.prog 87 #[] w fun e w' => e = .returned (.agg (dpC z o o)) ∧ Fr [] w w' := by
  have H0 := Lib.hid hz
  have H1 := Lib.hid ho
  clear hz ho
  go_enter Try.func87, Try.ntmps87
  go_wp2_with fail
  refine (small_n 0 (by decide) H0.out).mono ?_
  rintro e w2 ⟨rfl, F3⟩
  have h4 : OwB w [(w.heap.size, .cells (dpC 0 0 0) 51)] w2 := (((OwB.start w).allocN (.cells (dpC 0 0 0) 51) w.heap.size rfl)).call F3
  clear F3
  simp only []
  generalize w.heap.size = bk1 at h4 ⊢
  obtain ⟨L5, hL5⟩ : ∃ L : List (Nat × Obj), L = [(bk1, .cells (dpC 0 0 0) 51)] := ⟨_, rfl⟩
  rw [← hL5] at h4
  have HL5 := Lib.hid hL5
  clear hL5
  go_wp2_with fail
  refine (small_n 1 (by decide) H1.out).mono ?_
  rintro e w6 ⟨rfl, F7⟩
  have s9 := h4
  rw [HL5.out] at s9
  have h8 : OwB w [(bk1, .cells (dpC 0 0 0) 51)] w6 := (s9).call F7
  clear F7
  simp only []
  clear s9 h4
  obtain ⟨L10, hL10⟩ : ∃ L : List (Nat × Obj), L = [(bk1, .cells (dpC 0 0 0) 51)] := ⟨_, rfl⟩
  rw [← hL10] at h8
  have HL10 := Lib.hid hL10
  clear hL10
  go_wp2_with fail
  refine (small_n 1 (by decide) H1.out).mono ?_
  rintro e w11 ⟨rfl, F12⟩
  have s14 := h8
  rw [HL10.out] at s14
  have h13 : OwB w [(bk1, .cells (dpC 0 0 0) 51)] w11 := (s14).call F12
  clear F12
  simp only []
  clear s14 h8
  obtain ⟨L15, hL15⟩ : ∃ L : List (Nat × Obj), L = [(bk1, .cells (dpC 0 0 0) 51)] := ⟨_, rfl⟩
  rw [← hL15] at h13
  have HL15 := Lib.hid hL15
  clear hL15
  have s16 := h13
  rw [HL15.out] at s16
  have f17 := s16.nth 0 rfl
  have t18 := s16.lt 0 rfl
  clear s16
  go_wp2_with fail
  clear f17 t18
  have s19 := h13
  rw [HL15.out] at s19
  refine OwB.named (Q := fun X => bodyPost _ _ _ _ _ X) (show OwB w [(bk1, .cells (dpC z o o) 51)] _ from (s19.set 0 (.cells (dpC z o o) 51) rfl)) ?_
  intro V21 h20
  clear s19 h13
  obtain ⟨L22, hL22⟩ : ∃ L : List (Nat × Obj), L = [(bk1, .cells (dpC z o o) 51)] := ⟨_, rfl⟩
  rw [← hL22] at h20
  have HL22 := Lib.hid hL22
  clear hL22
  have s23 := h20
  rw [HL22.out] at s23
  refine ret_cell rfl rfl rfl ?_
  refine cellRet_of (s23.nth 0 rfl) (by rw [size_dpC]; kernel_rfl) ?_
  exact ⟨rfl, s23.fr⟩

set_option maxRecDepth 100000 in
set_option maxHeartbeats 8000000 in
theorem dsum_c (X1 Y1 Z1 X2 Y2 Z2 d : Fp) : Calls Try.prog 85 #[.agg (dpC X1 Y1 Z1), .agg (dpC X2 Y2 Z2), dF d] w fun e w' => e = .returned (.agg (dpC (((Z1 * Z2) * (((Z1 * Z2) * (Z1 * Z2)) - (d * ((X1 * X2) * (Y1 * Y2))))) * ((X1 * Y2) + (Y1 * X2))) (((Z1 * Z2) * (((Z1 * Z2) * (Z1 * Z2)) + (d * ((X1 * X2) * (Y1 * Y2))))) * ((Y1 * Y2) + (X1 * X2))) ((((Z1 * Z2) * (Z1 * Z2)) + (d * ((X1 * X2) * (Y1 * Y2)))) * (((Z1 * Z2) * (Z1 * Z2)) - (d * ((X1 * X2) * (Y1 * Y2))))))) ∧ Fr [] w w' := by
  unfold dF
  go_enter Try.func85, Try.ntmps85
  go_wp2_with fail
  refine (rmul_f Z1 Z2).mono ?_
  rintro e w5 ⟨rfl, F6⟩
  have h7 : OwB w [(w.heap.size + 3, .cells (dpC 0 0 0) 51), (w.heap.size + 2, .cells (ints .i64 (digs (d).val)) 32), (w.heap.size + 1, .cells (dpC X2 Y2 Z2) 51), (w.heap.size, .cells (dpC X1 Y1 Z1) 51)] w5 := ((((((OwB.start w).allocN (.cells (dpC X1 Y1 Z1) 51) w.heap.size rfl).allocN (.cells (dpC X2 Y2 Z2) 51) (w.heap.size + 1) (by simp)).allocN (.cells (ints .i64 (digs (d).val)) 32) (w.heap.size + 2) (by simp)).allocN (.cells (dpC 0 0 0) 51) (w.heap.size + 3) (by simp))).call F6
  clear F6
  simp only []
  generalize w.heap.size + 3 = bk4 at h7 ⊢
  generalize w.heap.size + 2 = bk3 at h7 ⊢
  generalize w.heap.size + 1 = bk2 at h7 ⊢
  generalize w.heap.size = bk1 at h7 ⊢
  obtain ⟨L8, hL8⟩ : ∃ L : List (Nat × Obj), L = [(bk4, .cells (dpC 0 0 0) 51), (bk3, .cells (ints .i64 (digs (d).val)) 32), (bk2, .cells (dpC X2 Y2 Z2) 51), (bk1, .cells (dpC X1 Y1 Z1) 51)] := ⟨_, rfl⟩
  rw [← hL8] at h7
  have HL8 := Lib.hid hL8
  clear hL8
  go_wp2_with fail
  have s9 := h7
  rw [HL8.out] at s9
  refine (rmul_f (Z1 * Z2) (Z1 * Z2)).mono ?_
  rintro e w11 ⟨rfl, F12⟩
  have h13 : OwB w [(w5.heap.size, .cells (ints .i64 (digs ((Z1 * Z2)).val)) 32), (bk4, .cells (dpC 0 0 0) 51), (bk3, .cells (ints .i64 (digs (d).val)) 32), (bk2, .cells (dpC X2 Y2 Z2) 51), (bk1, .cells (dpC X1 Y1 Z1) 51)] w11 := ((s9.allocN (.cells (ints .i64 (digs ((Z1 * Z2)).val)) 32) (w5.heap.size) (by simp))).call F12
  clear F12
  simp only []
  generalize w5.heap.size = bk10 at h13 ⊢
  clear s9 h7
  obtain ⟨L14, hL14⟩ : ∃ L : List (Nat × Obj), L = [(bk10, .cells (ints .i64 (digs ((Z1 * Z2)).val)) 32), (bk4, .cells (dpC 0 0 0) 51), (bk3, .cells (ints .i64 (digs (d).val)) 32), (bk2, .cells (dpC X2 Y2 Z2) 51), (bk1, .cells (dpC X1 Y1 Z1) 51)] := ⟨_, rfl⟩
  rw [← hL14] at h13
  have HL14 := Lib.hid hL14
  clear hL14
  have s15 := h13
  rw [HL14.out] at s15
  have f16 := s15.nth 4 rfl
  have t17 := s15.lt 4 rfl
  have f18 := s15.nth 3 rfl
  have t19 := s15.lt 3 rfl
  clear s15
  go_wp2_with fail
  clear f16 t17 f18 t19
  have s20 := h13
  rw [HL14.out] at s20
  refine (rmul_f X1 X2).mono ?_
  rintro e w22 ⟨rfl, F23⟩
  have h24 : OwB w [(w11.heap.size, .cells (ints .i64 (digs (((Z1 * Z2) * (Z1 * Z2))).val)) 32), (bk10, .cells (ints .i64 (digs ((Z1 * Z2)).val)) 32), (bk4, .cells (dpC 0 0 0) 51), (bk3, .cells (ints .i64 (digs (d).val)) 32), (bk2, .cells (dpC X2 Y2 Z2) 51), (bk1, .cells (dpC X1 Y1 Z1) 51)] w22 := ((s20.allocN (.cells (ints .i64 (digs (((Z1 * Z2) * (Z1 * Z2))).val)) 32) (w11.heap.size) (by simp))).call F23
  clear F23
  simp only []
  generalize w11.heap.size = bk21 at h24 ⊢
  clear s20 h13
  obtain ⟨L25, hL25⟩ : ∃ L : List (Nat × Obj), L = [(bk21, .cells (ints .i64 (digs (((Z1 * Z2) * (Z1 * Z2))).val)) 32), (bk10, .cells (ints .i64 (digs ((Z1 * Z2)).val)) 32), (bk4, .cells (dpC 0 0 0) 51), (bk3, .cells (ints .i64 (digs (d).val)) 32), (bk2, .cells (dpC X2 Y2 Z2) 51), (bk1, .cells (dpC X1 Y1 Z1) 51)] := ⟨_, rfl⟩
  rw [← hL25] at h24
  have HL25 := Lib.hid hL25
  clear hL25
  have s26 := h24
  rw [HL25.out] at s26
  have f27 := s26.nth 5 rfl
  have t28 := s26.lt 5 rfl
  have f29 := s26.nth 4 rfl
  have t30 := s26.lt 4 rfl
  clear s26
  go_wp2_with fail
  clear f27 t28 f29 t30
  have s31 := h24
  rw [HL25.out] at s31
  refine (rmul_f Y1 Y2).mono ?_
  rintro e w33 ⟨rfl, F34⟩
  have h35 : OwB w [(w22.heap.size, .cells (ints .i64 (digs ((X1 * X2)).val)) 32), (bk21, .cells (ints .i64 (digs (((Z1 * Z2) * (Z1 * Z2))).val)) 32), (bk10, .cells (ints .i64 (digs ((Z1 * Z2)).val)) 32), (bk4, .cells (dpC 0 0 0) 51), (bk3, .cells (ints .i64 (digs (d).val)) 32), (bk2, .cells (dpC X2 Y2 Z2) 51), (bk1, .cells (dpC X1 Y1 Z1) 51)] w33 := ((s31.allocN (.cells (ints .i64 (digs ((X1 * X2)).val)) 32) (w22.heap.size) (by simp))).call F34
  clear F34
  simp only []
  generalize w22.heap.size = bk32 at h35 ⊢
  clear s31 h24
  obtain ⟨L36, hL36⟩ : ∃ L : List (Nat × Obj), L = [(bk32, .cells (ints .i64 (digs ((X1 * X2)).val)) 32), (bk21, .cells (ints .i64 (digs (((Z1 * Z2) * (Z1 * Z2))).val)) 32), (bk10, .cells (ints .i64 (digs ((Z1 * Z2)).val)) 32), (bk4, .cells (dpC 0 0 0) 51), (bk3, .cells (ints .i64 (digs (d).val)) 32), (bk2, .cells (dpC X2 Y2 Z2) 51), (bk1, .cells (dpC X1 Y1 Z1) 51)] := ⟨_, rfl⟩
  rw [← hL36] at h35
  have HL36 := Lib.hid hL36
  clear hL36
  go_wp2_with fail
  have s37 := h35
  rw [HL36.out] at s37
  refine OwB.named (Q := fun X => Code.wp _ _ _ _ X) (show OwB w [(w33.heap.size, .cells (ints .i64 (digs ((Y1 * Y2)).val)) 32), (bk32, .cells (ints .i64 (digs ((X1 * X2)).val)) 32), (bk21, .cells (ints .i64 (digs (((Z1 * Z2) * (Z1 * Z2))).val)) 32), (bk10, .cells (ints .i64 (digs ((Z1 * Z2)).val)) 32), (bk4, .cells (dpC 0 0 0) 51), (bk3, .cells (ints .i64 (digs (d).val)) 32), (bk2, .cells (dpC X2 Y2 Z2) 51), (bk1, .cells (dpC X1 Y1 Z1) 51)] _ from (s37.allocN (.cells (ints .i64 (digs ((Y1 * Y2)).val)) 32) (w33.heap.size) (by simp))) ?_
  intro V40 h39
  generalize w33.heap.size = bk38 at h39 ⊢
  clear s37 h35
  obtain ⟨L41, hL41⟩ : ∃ L : List (Nat × Obj), L = [(bk38, .cells (ints .i64 (digs ((Y1 * Y2)).val)) 32), (bk32, .cells (ints .i64 (digs ((X1 * X2)).val)) 32), (bk21, .cells (ints .i64 (digs (((Z1 * Z2) * (Z1 * Z2))).val)) 32), (bk10, .cells (ints .i64 (digs ((Z1 * Z2)).val)) 32), (bk4, .cells (dpC 0 0 0) 51), (bk3, .cells (ints .i64 (digs (d).val)) 32), (bk2, .cells (dpC X2 Y2 Z2) 51), (bk1, .cells (dpC X1 Y1 Z1) 51)] := ⟨_, rfl⟩
  rw [← hL41] at h39
  have HL41 := Lib.hid hL41
  clear hL41
  refine drawn_begin 12 (OwB w L41) (by kernel_rfl) ?_
  refine OwB.named (Q := fun X => Go.Dr.wpAnyS Try.prog .any _ _ _ _ _ _ _ X) (h39.drew) ?_
  intro V42 h43
  clear h39
  have s44 := h43
  rw [HL41.out] at s44
  have f45 := s44.nth 7 rfl
  have f46 := s44.nth 6 rfl
  clear s44
  refine drawn_reads (fuel := 5) [0, 1, 2, 3, 5, 6, 7, 8] rfl (by kernel_rfl) (h43) ?_
  repeat (first | (refine rowK_step2 rfl rfl (fun K hK => ?_); go_wp2) | (refine rowK_step rfl (fun K hK => ?_); go_simp; refine hK _ ?_; clear hK K))
  refine rowK_nil ⟨fun w' hw' => ?_, ?_⟩
  · rw [HL41.out] at hw'
    have g47 := hw'.nth 7 rfl
    have g48 := hw'.nth 6 rfl
    clear f45 f46
    repeat (first | (refine rowWp_step2 rfl rfl (fun K hK => ?_); go_wp2) | (refine rowWp_step rfl (fun K hK => ?_); go_simp; refine hK _ ?_; clear hK K))
    exact rowWp_nil rfl
  clear f45 f46
  obtain ⟨p, hp⟩ : ∃ p : Par, p = ⟨[(4, 37, fun v => v = dF ((X1 * Y2))), (9, 42, fun v => v = dF ((Y1 * X2))), (10, 43, fun v => v = dF (((X1 * Y2) + (Y1 * X2))))], [(11, 11, .cells (ints .i64 (List.replicate 16 0)) 32)], [0, 1, 2, 3, 5, 6, 7, 8]⟩ := ⟨_, rfl⟩
  have ok : p.ok := by rw [hp]; exact ⟨(by decide : [4, 9, 10, 11].Nodup), (by decide : [37, 42, 43, 11].Nodup)⟩
  refine drawn_inv (rest := 1) [37, 42, 43, 11] (fun L s w => p.Inv V42 L s w) (fun _ => undef) 4 (by kernel_rfl) (fun L s w h => ?_) (by kernel_rfl) ?_ ?_ ?_
  · exact h43.call h.fr
  · refine Par.Inv.start ?_ ?_ ?_ <;> rw [hp] <;> intro i hi <;> simp at hi
    · rcases hi with rfl | rfl | rfl | rfl | rfl | rfl | rfl | rfl <;> rfl
    · rcases hi with rfl | rfl | rfl <;> rfl
    · subst hi; rfl
  · intro i o L s w ho hi hL hd h K hK
    rcases (show i = 0 ∨ i = 1 ∨ i = 2 ∨ i = 3 ∨ i = 4 ∨ i = 5 ∨ i = 6 ∨ i = 7 ∨ i = 8 ∨ i = 9 ∨ i = 10 ∨ i = 11 by omega) with rfl | rfl | rfl | rfl | rfl | rfl | rfl | rfl | rfl | rfl | rfl | rfl
    · rw [h.row 0 (by rw [hp]; simp)] at hL; cases hL
    · rw [h.row 1 (by rw [hp]; simp)] at hL; cases hL
    · rw [h.row 2 (by rw [hp]; simp)] at hL; cases hL
    · rw [h.row 3 (by rw [hp]; simp)] at hL; cases hL
    · injection (show some _ = some o from ho) with ho; subst ho
      simp only [fill]
      go_wp2_with fail
      refine (rmul_f X1 Y2).mono ?_
      rintro e w2 ⟨rfl, F⟩
      simp only []
      go_wp2
      exact ⟨_, by kernel_rfl, h.called ok (4, 37, fun v => v = dF ((X1 * Y2))) (by rw [hp]; simp) F rfl⟩
    · rw [h.row 5 (by rw [hp]; simp)] at hL; cases hL
    · rw [h.row 6 (by rw [hp]; simp)] at hL; cases hL
    · rw [h.row 7 (by rw [hp]; simp)] at hL; cases hL
    · rw [h.row 8 (by rw [hp]; simp)] at hL; cases hL
    · injection (show some _ = some o from ho) with ho; subst ho
      simp only [fill]
      go_wp2_with fail
      refine (rmul_f Y1 X2).mono ?_
      rintro e w2 ⟨rfl, F⟩
      simp only []
      go_wp2
      exact ⟨_, by kernel_rfl, h.called ok (9, 42, fun v => v = dF ((Y1 * X2))) (by rw [hp]; simp) F rfl⟩
    · injection (show some _ = some o from ho) with ho; subst ho
      have l37 : L 4 = true := after_on hd (by kernel_rfl)
      have e37 := h.call (4, 37, fun v => v = dF ((X1 * Y2))) (by rw [hp]; simp) l37
      have l42 : L 9 = true := after_on hd (by kernel_rfl)
      have e42 := h.call (9, 42, fun v => v = dF ((Y1 * X2))) (by rw [hp]; simp) l42
      have ct : Calls Try.prog 31 #[s 37, s 42] w (fun e w' => e = .returned (dF (((X1 * Y2) + (Y1 * X2)))) ∧ Fr [] w w') := by
        simp only [] at e37 e42
        rw [e37, e42]
        exact radd_f (X1 * Y2) (Y1 * X2)
      clear e37 l37 e42 l42
      simp only [fill]
      go_wp2_with fail
      refine (ct).mono ?_
      rintro e w2 ⟨rfl, F⟩
      simp only []
      go_wp2
      exact ⟨_, by kernel_rfl, h.called ok (10, 43, fun v => v = dF (((X1 * Y2) + (Y1 * X2)))) (by rw [hp]; simp) F rfl⟩
    · injection (show some _ = some o from ho) with ho; subst ho
      simp only [fill]
      go_wp2
      exact ⟨_, by kernel_rfl, h.made ok (11, 11, .cells (ints .i64 (List.replicate 16 0)) 32) (by rw [hp]; simp)⟩
  intro s w49 h
  have e50 := h.call (4, 37, fun v => v = dF ((X1 * Y2))) (by rw [hp]; simp) rfl
  have e51 := h.call (9, 42, fun v => v = dF ((Y1 * X2))) (by rw [hp]; simp) rfl
  have e52 := h.call (10, 43, fun v => v = dF (((X1 * Y2) + (Y1 * X2)))) (by rw [hp]; simp) rfl
  obtain ⟨bk53, e54, l55, m56⟩ := h.room (11, 11, .cells (ints .i64 (List.replicate 16 0)) 32) (by rw [hp]; simp) rfl
  simp only [] at e50 e51 e52 e54
  have h57 := h43.call h.fr
  simp only [fill, e50, e51, e52, e54]
  have h58 := (h57.room m56 (h43.fresh l55) (Nat.le_trans h43.fr.size l55))
  rw [HL41.out] at h58
  clear e50 e51 e52 e54  l55 m56 h57 h ok hp h43 p
  obtain ⟨L59, hL59⟩ : ∃ L : List (Nat × Obj), L = [(bk53, .cells (ints .i64 (List.replicate 16 0)) 32), (bk38, .cells (ints .i64 (digs ((Y1 * Y2)).val)) 32), (bk32, .cells (ints .i64 (digs ((X1 * X2)).val)) 32), (bk21, .cells (ints .i64 (digs (((Z1 * Z2) * (Z1 * Z2))).val)) 32), (bk10, .cells (ints .i64 (digs ((Z1 * Z2)).val)) 32), (bk4, .cells (dpC 0 0 0) 51), (bk3, .cells (ints .i64 (digs (d).val)) 32), (bk2, .cells (dpC X2 Y2 Z2) 51), (bk1, .cells (dpC X1 Y1 Z1) 51)] := ⟨_, rfl⟩
  rw [← hL59] at h58
  have HL59 := Lib.hid hL59
  clear hL59
  refine drawn_end (ol := [_]) rfl (by kernel_rfl) ?_
  intro K hK
  have s60 := h58
  rw [HL59.out] at s60
  have f61 := s60.nth 0 rfl
  have t62 := s60.lt 0 rfl
  clear s60
  have s63 := h58
  rw [HL59.out] at s63
  go_wp2_with fail
  clear f61 t62
  refine OwB.named (Q := fun X => Code.wp _ _ _ _ X) (show OwB w [(bk53, .cells (ints .i64 (digs (((X1 * Y2) + (Y1 * X2))).val)) 32), (bk38, .cells (ints .i64 (digs ((Y1 * Y2)).val)) 32), (bk32, .cells (ints .i64 (digs ((X1 * X2)).val)) 32), (bk21, .cells (ints .i64 (digs (((Z1 * Z2) * (Z1 * Z2))).val)) 32), (bk10, .cells (ints .i64 (digs ((Z1 * Z2)).val)) 32), (bk4, .cells (dpC 0 0 0) 51), (bk3, .cells (ints .i64 (digs (d).val)) 32), (bk2, .cells (dpC X2 Y2 Z2) 51), (bk1, .cells (dpC X1 Y1 Z1) 51)] _ from (s63.set 0 (.cells (ints .i64 (digs (((X1 * Y2) + (Y1 * X2))).val)) 32) rfl)) ?_
  intro V65 h64
  clear s63 h58
  obtain ⟨L66, hL66⟩ : ∃ L : List (Nat × Obj), L = [(bk53, .cells (ints .i64 (digs (((X1 * Y2) + (Y1 * X2))).val)) 32), (bk38, .cells (ints .i64 (digs ((Y1 * Y2)).val)) 32), (bk32, .cells (ints .i64 (digs ((X1 * X2)).val)) 32), (bk21, .cells (ints .i64 (digs (((Z1 * Z2) * (Z1 * Z2))).val)) 32), (bk10, .cells (ints .i64 (digs ((Z1 * Z2)).val)) 32), (bk4, .cells (dpC 0 0 0) 51), (bk3, .cells (ints .i64 (digs (d).val)) 32), (bk2, .cells (dpC X2 Y2 Z2) 51), (bk1, .cells (dpC X1 Y1 Z1) 51)] := ⟨_, rfl⟩
  rw [← hL66] at h64
  have HL66 := Lib.hid hL66
  clear hL66
  refine drawn_begin 6 (OwB w L66) (by kernel_rfl) ?_
  refine OwB.named (Q := fun X => Go.Dr.wpAnyS Try.prog .any _ _ _ _ _ _ _ X) (h64.drew) ?_
  intro V67 h68
  clear h64
  have s69 := h68
  rw [HL66.out] at s69
  have f70 := s69.nth 6 rfl
  have f71 := s69.nth 2 rfl
  have f72 := s69.nth 1 rfl
  clear s69
  refine drawn_reads (fuel := 4) [0, 1, 2] rfl (by kernel_rfl) (h68) ?_
  repeat (first | (refine rowK_step2 rfl rfl (fun K hK => ?_); go_wp2) | (refine rowK_step rfl (fun K hK => ?_); go_simp; refine hK _ ?_; clear hK K))
  refine rowK_nil ⟨fun w' hw' => ?_, ?_⟩
  · rw [HL66.out] at hw'
    have g73 := hw'.nth 6 rfl
    have g74 := hw'.nth 2 rfl
    have g75 := hw'.nth 1 rfl
    clear f70 f71 f72
    repeat (first | (refine rowWp_step2 rfl rfl (fun K hK => ?_); go_wp2) | (refine rowWp_step rfl (fun K hK => ?_); go_simp; refine hK _ ?_; clear hK K))
    exact rowWp_nil rfl
  clear f70 f71 f72
  obtain ⟨p, hp⟩ : ∃ p : Par, p = ⟨[(3, 47, fun v => v = dF (((X1 * X2) * (Y1 * Y2)))), (4, 48, fun v => v = dF ((d * ((X1 * X2) * (Y1 * Y2)))))], [(5, 12, .cells (ints .i64 (List.replicate 16 0)) 32)], [0, 1, 2]⟩ := ⟨_, rfl⟩
  have ok : p.ok := by rw [hp]; exact ⟨(by decide : [3, 4, 5].Nodup), (by decide : [47, 48, 12].Nodup)⟩
  refine drawn_inv (rest := 1) [47, 48, 12] (fun L s w => p.Inv V67 L s w) (fun _ => undef) 3 (by kernel_rfl) (fun L s w h => ?_) (by kernel_rfl) ?_ ?_ ?_
  · exact h68.call h.fr
  · refine Par.Inv.start ?_ ?_ ?_ <;> rw [hp] <;> intro i hi <;> simp at hi
    · rcases hi with rfl | rfl | rfl <;> rfl
    · rcases hi with rfl | rfl <;> rfl
    · subst hi; rfl
  · intro i o L s w ho hi hL hd h K hK
    rcases (show i = 0 ∨ i = 1 ∨ i = 2 ∨ i = 3 ∨ i = 4 ∨ i = 5 by omega) with rfl | rfl | rfl | rfl | rfl | rfl
    · rw [h.row 0 (by rw [hp]; simp)] at hL; cases hL
    · rw [h.row 1 (by rw [hp]; simp)] at hL; cases hL
    · rw [h.row 2 (by rw [hp]; simp)] at hL; cases hL
    · injection (show some _ = some o from ho) with ho; subst ho
      simp only [fill]
      go_wp2_with fail
      refine (rmul_f (X1 * X2) (Y1 * Y2)).mono ?_
      rintro e w2 ⟨rfl, F⟩
      simp only []
      go_wp2
      exact ⟨_, by kernel_rfl, h.called ok (3, 47, fun v => v = dF (((X1 * X2) * (Y1 * Y2)))) (by rw [hp]; simp) F rfl⟩
    · injection (show some _ = some o from ho) with ho; subst ho
      have l47 : L 3 = true := after_on hd (by kernel_rfl)
      have e47 := h.call (3, 47, fun v => v = dF (((X1 * X2) * (Y1 * Y2)))) (by rw [hp]; simp) l47
      have ct : Calls Try.prog 37 #[dF (d), s 47] w (fun e w' => e = .returned (dF ((d * ((X1 * X2) * (Y1 * Y2))))) ∧ Fr [] w w') := by
        simp only [] at e47
        rw [e47]
        exact rmul_f d ((X1 * X2) * (Y1 * Y2))
      clear e47 l47
      simp only [fill]
      go_wp2_with fail
      refine (ct).mono ?_
      rintro e w2 ⟨rfl, F⟩
      simp only []
      go_wp2
      exact ⟨_, by kernel_rfl, h.called ok (4, 48, fun v => v = dF ((d * ((X1 * X2) * (Y1 * Y2))))) (by rw [hp]; simp) F rfl⟩
    · injection (show some _ = some o from ho) with ho; subst ho
      simp only [fill]
      go_wp2
      exact ⟨_, by kernel_rfl, h.made ok (5, 12, .cells (ints .i64 (List.replicate 16 0)) 32) (by rw [hp]; simp)⟩
  intro s w76 h
  have e77 := h.call (3, 47, fun v => v = dF (((X1 * X2) * (Y1 * Y2)))) (by rw [hp]; simp) rfl
  have e78 := h.call (4, 48, fun v => v = dF ((d * ((X1 * X2) * (Y1 * Y2))))) (by rw [hp]; simp) rfl
  obtain ⟨bk79, e80, l81, m82⟩ := h.room (5, 12, .cells (ints .i64 (List.replicate 16 0)) 32) (by rw [hp]; simp) rfl
  simp only [] at e77 e78 e80
  have h83 := h68.call h.fr
  simp only [fill, e77, e78, e80]
  have h84 := (h83.room m82 (h68.fresh l81) (Nat.le_trans h68.fr.size l81))
  rw [HL66.out] at h84
  clear e77 e78 e80  l81 m82 h83 h ok hp h68 p
  obtain ⟨L85, hL85⟩ : ∃ L : List (Nat × Obj), L = [(bk79, .cells (ints .i64 (List.replicate 16 0)) 32), (bk53, .cells (ints .i64 (digs (((X1 * Y2) + (Y1 * X2))).val)) 32), (bk38, .cells (ints .i64 (digs ((Y1 * Y2)).val)) 32), (bk32, .cells (ints .i64 (digs ((X1 * X2)).val)) 32), (bk21, .cells (ints .i64 (digs (((Z1 * Z2) * (Z1 * Z2))).val)) 32), (bk10, .cells (ints .i64 (digs ((Z1 * Z2)).val)) 32), (bk4, .cells (dpC 0 0 0) 51), (bk3, .cells (ints .i64 (digs (d).val)) 32), (bk2, .cells (dpC X2 Y2 Z2) 51), (bk1, .cells (dpC X1 Y1 Z1) 51)] := ⟨_, rfl⟩
  rw [← hL85] at h84
  have HL85 := Lib.hid hL85
  clear hL85
  refine drawn_end (ol := [_]) rfl (by kernel_rfl) ?_
  intro K hK
  have s86 := h84
  rw [HL85.out] at s86
  have f87 := s86.nth 0 rfl
  have t88 := s86.lt 0 rfl
  clear s86
  have s89 := h84
  rw [HL85.out] at s89
  go_wp2_with fail
  clear f87 t88
  refine OwB.named (Q := fun X => Code.wp _ _ _ _ X) (show OwB w [(bk79, .cells (ints .i64 (digs ((d * ((X1 * X2) * (Y1 * Y2)))).val)) 32), (bk53, .cells (ints .i64 (digs (((X1 * Y2) + (Y1 * X2))).val)) 32), (bk38, .cells (ints .i64 (digs ((Y1 * Y2)).val)) 32), (bk32, .cells (ints .i64 (digs ((X1 * X2)).val)) 32), (bk21, .cells (ints .i64 (digs (((Z1 * Z2) * (Z1 * Z2))).val)) 32), (bk10, .cells (ints .i64 (digs ((Z1 * Z2)).val)) 32), (bk4, .cells (dpC 0 0 0) 51), (bk3, .cells (ints .i64 (digs (d).val)) 32), (bk2, .cells (dpC X2 Y2 Z2) 51), (bk1, .cells (dpC X1 Y1 Z1) 51)] _ from (s89.set 0 (.cells (ints .i64 (digs ((d * ((X1 * X2) * (Y1 * Y2)))).val)) 32) rfl)) ?_
  intro V91 h90
  clear s89 h84
  obtain ⟨L92, hL92⟩ : ∃ L : List (Nat × Obj), L = [(bk79, .cells (ints .i64 (digs ((d * ((X1 * X2) * (Y1 * Y2)))).val)) 32), (bk53, .cells (ints .i64 (digs (((X1 * Y2) + (Y1 * X2))).val)) 32), (bk38, .cells (ints .i64 (digs ((Y1 * Y2)).val)) 32), (bk32, .cells (ints .i64 (digs ((X1 * X2)).val)) 32), (bk21, .cells (ints .i64 (digs (((Z1 * Z2) * (Z1 * Z2))).val)) 32), (bk10, .cells (ints .i64 (digs ((Z1 * Z2)).val)) 32), (bk4, .cells (dpC 0 0 0) 51), (bk3, .cells (ints .i64 (digs (d).val)) 32), (bk2, .cells (dpC X2 Y2 Z2) 51), (bk1, .cells (dpC X1 Y1 Z1) 51)] := ⟨_, rfl⟩
  rw [← hL92] at h90
  have HL92 := Lib.hid hL92
  clear hL92
  refine drawn_begin 8 (OwB w L92) (by kernel_rfl) ?_
  refine OwB.named (Q := fun X => Go.Dr.wpAnyS Try.prog .any _ _ _ _ _ _ _ X) (h90.drew) ?_
  intro V93 h94
  clear h90
  have s95 := h94
  rw [HL92.out] at s95
  have f96 := s95.nth 4 rfl
  have f97 := s95.nth 0 rfl
  clear s95
  refine drawn_reads (fuel := 6) [0, 1, 3, 4] rfl (by kernel_rfl) (h94) ?_
  repeat (first | (refine rowK_step2 rfl rfl (fun K hK => ?_); go_wp2) | (refine rowK_step rfl (fun K hK => ?_); go_simp; refine hK _ ?_; clear hK K))
  refine rowK_nil ⟨fun w' hw' => ?_, ?_⟩
  · rw [HL92.out] at hw'
    have g98 := hw'.nth 4 rfl
    have g99 := hw'.nth 0 rfl
    clear f96 f97
    repeat (first | (refine rowWp_step2 rfl rfl (fun K hK => ?_); go_wp2) | (refine rowWp_step rfl (fun K hK => ?_); go_simp; refine hK _ ?_; clear hK K))
    exact rowWp_nil rfl
  clear f96 f97
  obtain ⟨p, hp⟩ : ∃ p : Par, p = ⟨[(2, 51, fun v => v = dF ((((Z1 * Z2) * (Z1 * Z2)) + (d * ((X1 * X2) * (Y1 * Y2)))))), (5, 54, fun v => v = dF ((((Z1 * Z2) * (Z1 * Z2)) - (d * ((X1 * X2) * (Y1 * Y2))))))], [(6, 13, .cells (ints .i64 (List.replicate 16 0)) 32), (7, 14, .cells (ints .i64 (List.replicate 16 0)) 32)], [0, 1, 3, 4]⟩ := ⟨_, rfl⟩
  have ok : p.ok := by rw [hp]; exact ⟨(by decide : [2, 5, 6, 7].Nodup), (by decide : [51, 54, 13, 14].Nodup)⟩
  refine drawn_inv (rest := 2) [51, 54, 13, 14] (fun L s w => p.Inv V93 L s w) (fun _ => undef) 4 (by kernel_rfl) (fun L s w h => ?_) (by kernel_rfl) ?_ ?_ ?_
  · exact h94.call h.fr
  · refine Par.Inv.start ?_ ?_ ?_ <;> rw [hp] <;> intro i hi <;> simp at hi
    · rcases hi with rfl | rfl | rfl | rfl <;> rfl
    · rcases hi with rfl | rfl <;> rfl
    · rcases hi with rfl | rfl <;> rfl
  · intro i o L s w ho hi hL hd h K hK
    rcases (show i = 0 ∨ i = 1 ∨ i = 2 ∨ i = 3 ∨ i = 4 ∨ i = 5 ∨ i = 6 ∨ i = 7 by omega) with rfl | rfl | rfl | rfl | rfl | rfl | rfl | rfl
    · rw [h.row 0 (by rw [hp]; simp)] at hL; cases hL
    · rw [h.row 1 (by rw [hp]; simp)] at hL; cases hL
    · injection (show some _ = some o from ho) with ho; subst ho
      simp only [fill]
      go_wp2_with fail
      refine (radd_f ((Z1 * Z2) * (Z1 * Z2)) (d * ((X1 * X2) * (Y1 * Y2)))).mono ?_
      rintro e w2 ⟨rfl, F⟩
      simp only []
      go_wp2
      exact ⟨_, by kernel_rfl, h.called ok (2, 51, fun v => v = dF ((((Z1 * Z2) * (Z1 * Z2)) + (d * ((X1 * X2) * (Y1 * Y2)))))) (by rw [hp]; simp) F rfl⟩
    · rw [h.row 3 (by rw [hp]; simp)] at hL; cases hL
    · rw [h.row 4 (by rw [hp]; simp)] at hL; cases hL
    · injection (show some _ = some o from ho) with ho; subst ho
      simp only [fill]
      go_wp2_with fail
      refine (rsub_f ((Z1 * Z2) * (Z1 * Z2)) (d * ((X1 * X2) * (Y1 * Y2)))).mono ?_
      rintro e w2 ⟨rfl, F⟩
      simp only []
      go_wp2
      exact ⟨_, by kernel_rfl, h.called ok (5, 54, fun v => v = dF ((((Z1 * Z2) * (Z1 * Z2)) - (d * ((X1 * X2) * (Y1 * Y2)))))) (by rw [hp]; simp) F rfl⟩
    · injection (show some _ = some o from ho) with ho; subst ho
      simp only [fill]
      go_wp2
      exact ⟨_, by kernel_rfl, h.made ok (6, 13, .cells (ints .i64 (List.replicate 16 0)) 32) (by rw [hp]; simp)⟩
    · injection (show some _ = some o from ho) with ho; subst ho
      simp only [fill]
      go_wp2
      exact ⟨_, by kernel_rfl, h.made ok (7, 14, .cells (ints .i64 (List.replicate 16 0)) 32) (by rw [hp]; simp)⟩
  intro s w100 h
  have e101 := h.call (2, 51, fun v => v = dF ((((Z1 * Z2) * (Z1 * Z2)) + (d * ((X1 * X2) * (Y1 * Y2)))))) (by rw [hp]; simp) rfl
  have e102 := h.call (5, 54, fun v => v = dF ((((Z1 * Z2) * (Z1 * Z2)) - (d * ((X1 * X2) * (Y1 * Y2)))))) (by rw [hp]; simp) rfl
  obtain ⟨bk103, e104, l105, m106⟩ := h.room (6, 13, .cells (ints .i64 (List.replicate 16 0)) 32) (by rw [hp]; simp) rfl
  obtain ⟨bk107, e108, l109, m110⟩ := h.room (7, 14, .cells (ints .i64 (List.replicate 16 0)) 32) (by rw [hp]; simp) rfl
  simp only [] at e101 e102 e104 e108
  have q111 := h.apart (7, 14, .cells (ints .i64 (List.replicate 16 0)) 32) (by rw [hp]; simp) (6, 13, .cells (ints .i64 (List.replicate 16 0)) 32) (by rw [hp]; simp) (by simp) rfl rfl
  simp only [e108, e104] at q111
  have h112 := h94.call h.fr
  simp only [fill, e101, e102, e104, e108]
  have h113 := ((h112.room m106 (h94.fresh l105) (Nat.le_trans h94.fr.size l105)).room m110 (by simp only [List.map_cons, List.mem_cons, not_or]; exact ⟨(fun e => q111 (by rw [e])), (h94.fresh l109)⟩) (Nat.le_trans h94.fr.size l109))
  rw [HL92.out] at h113
  clear e101 e102 e104 e108 q111 l105 m106 l109 m110 h112 h ok hp h94 p
  obtain ⟨L114, hL114⟩ : ∃ L : List (Nat × Obj), L = [(bk107, .cells (ints .i64 (List.replicate 16 0)) 32), (bk103, .cells (ints .i64 (List.replicate 16 0)) 32), (bk79, .cells (ints .i64 (digs ((d * ((X1 * X2) * (Y1 * Y2)))).val)) 32), (bk53, .cells (ints .i64 (digs (((X1 * Y2) + (Y1 * X2))).val)) 32), (bk38, .cells (ints .i64 (digs ((Y1 * Y2)).val)) 32), (bk32, .cells (ints .i64 (digs ((X1 * X2)).val)) 32), (bk21, .cells (ints .i64 (digs (((Z1 * Z2) * (Z1 * Z2))).val)) 32), (bk10, .cells (ints .i64 (digs ((Z1 * Z2)).val)) 32), (bk4, .cells (dpC 0 0 0) 51), (bk3, .cells (ints .i64 (digs (d).val)) 32), (bk2, .cells (dpC X2 Y2 Z2) 51), (bk1, .cells (dpC X1 Y1 Z1) 51)] := ⟨_, rfl⟩
  rw [← hL114] at h113
  have HL114 := Lib.hid hL114
  clear hL114
  refine drawn_end (ol := [_, _]) rfl (by kernel_rfl) ?_
  intro K hK
  have s115 := h113
  rw [HL114.out] at s115
  have f116 := s115.nth 1 rfl
  have t117 := s115.lt 1 rfl
  have f118 := s115.nth 0 rfl
  have t119 := s115.lt 0 rfl
  have e120 := s115.ne 1 0 rfl rfl (by decide)
  have e121 := s115.ne 0 1 rfl rfl (by decide)
  clear s115
  have s122 := h113
  rw [HL114.out] at s122
  go_wp2_with fail
  clear f116 t117 f118 t119 e120 e121
  refine OwB.named (Q := fun X => Code.wp _ _ _ _ X) (show OwB w [(bk107, .cells (ints .i64 (digs ((((Z1 * Z2) * (Z1 * Z2)) - (d * ((X1 * X2) * (Y1 * Y2))))).val)) 32), (bk103, .cells (ints .i64 (digs ((((Z1 * Z2) * (Z1 * Z2)) + (d * ((X1 * X2) * (Y1 * Y2))))).val)) 32), (bk79, .cells (ints .i64 (digs ((d * ((X1 * X2) * (Y1 * Y2)))).val)) 32), (bk53, .cells (ints .i64 (digs (((X1 * Y2) + (Y1 * X2))).val)) 32), (bk38, .cells (ints .i64 (digs ((Y1 * Y2)).val)) 32), (bk32, .cells (ints .i64 (digs ((X1 * X2)).val)) 32), (bk21, .cells (ints .i64 (digs (((Z1 * Z2) * (Z1 * Z2))).val)) 32), (bk10, .cells (ints .i64 (digs ((Z1 * Z2)).val)) 32), (bk4, .cells (dpC 0 0 0) 51), (bk3, .cells (ints .i64 (digs (d).val)) 32), (bk2, .cells (dpC X2 Y2 Z2) 51), (bk1, .cells (dpC X1 Y1 Z1) 51)] _ from ((s122.set 1 (.cells (ints .i64 (digs ((((Z1 * Z2) * (Z1 * Z2)) + (d * ((X1 * X2) * (Y1 * Y2))))).val)) 32) rfl).set 0 (.cells (ints .i64 (digs ((((Z1 * Z2) * (Z1 * Z2)) - (d * ((X1 * X2) * (Y1 * Y2))))).val)) 32) rfl)) ?_
  intro V124 h123
  clear s122 h113
  obtain ⟨L125, hL125⟩ : ∃ L : List (Nat × Obj), L = [(bk107, .cells (ints .i64 (digs ((((Z1 * Z2) * (Z1 * Z2)) - (d * ((X1 * X2) * (Y1 * Y2))))).val)) 32), (bk103, .cells (ints .i64 (digs ((((Z1 * Z2) * (Z1 * Z2)) + (d * ((X1 * X2) * (Y1 * Y2))))).val)) 32), (bk79, .cells (ints .i64 (digs ((d * ((X1 * X2) * (Y1 * Y2)))).val)) 32), (bk53, .cells (ints .i64 (digs (((X1 * Y2) + (Y1 * X2))).val)) 32), (bk38, .cells (ints .i64 (digs ((Y1 * Y2)).val)) 32), (bk32, .cells (ints .i64 (digs ((X1 * X2)).val)) 32), (bk21, .cells (ints .i64 (digs (((Z1 * Z2) * (Z1 * Z2))).val)) 32), (bk10, .cells (ints .i64 (digs ((Z1 * Z2)).val)) 32), (bk4, .cells (dpC 0 0 0) 51), (bk3, .cells (ints .i64 (digs (d).val)) 32), (bk2, .cells (dpC X2 Y2 Z2) 51), (bk1, .cells (dpC X1 Y1 Z1) 51)] := ⟨_, rfl⟩
  rw [← hL125] at h123
  have HL125 := Lib.hid hL125
  clear hL125
  refine drawn_begin 16 (OwB w L125) (by kernel_rfl) ?_
  refine OwB.named (Q := fun X => Go.Dr.wpAnyS Try.prog .any _ _ _ _ _ _ _ X) (h123.drew) ?_
  intro V126 h127
  clear h123
  have s128 := h127
  rw [HL125.out] at s128
  have f129 := s128.nth 7 rfl
  have f130 := s128.nth 0 rfl
  have f131 := s128.nth 3 rfl
  have f132 := s128.nth 1 rfl
  have f133 := s128.nth 4 rfl
  have f134 := s128.nth 5 rfl
  clear s128
  refine drawn_reads (fuel := 8) [0, 1, 3, 5, 6, 8, 9, 12, 13] rfl (by kernel_rfl) (h127) ?_
  repeat (first | (refine rowK_step2 rfl rfl (fun K hK => ?_); go_wp2) | (refine rowK_step rfl (fun K hK => ?_); go_simp; refine hK _ ?_; clear hK K))
  refine rowK_nil ⟨fun w' hw' => ?_, ?_⟩
  · rw [HL125.out] at hw'
    have g135 := hw'.nth 7 rfl
    have g136 := hw'.nth 0 rfl
    have g137 := hw'.nth 3 rfl
    have g138 := hw'.nth 1 rfl
    have g139 := hw'.nth 4 rfl
    have g140 := hw'.nth 5 rfl
    clear f129 f130 f131 f132 f133 f134
    repeat (first | (refine rowWp_step2 rfl rfl (fun K hK => ?_); go_wp2) | (refine rowWp_step rfl (fun K hK => ?_); go_simp; refine hK _ ?_; clear hK K))
    exact rowWp_nil rfl
  clear f129 f130 f131 f132 f133 f134
  refine drawn_next 2 (fuel := 7) rfl (by kernel_rfl) ?_
  intro K hK
  go_wp2_with fail
  refine (rmul_f (Z1 * Z2) (((Z1 * Z2) * (Z1 * Z2)) - (d * ((X1 * X2) * (Y1 * Y2))))).mono ?_
  rintro e w141 ⟨rfl, F142⟩
  have h143 := (h127).call F142
  clear F142 h127
  simp only []
  go_wp2
  refine ⟨h143, ?_⟩
  refine drawn_next 4 (fuel := 6) rfl (by kernel_rfl) ?_
  intro K hK
  go_wp2_with fail
  refine (rmul_f ((Z1 * Z2) * (((Z1 * Z2) * (Z1 * Z2)) - (d * ((X1 * X2) * (Y1 * Y2))))) ((X1 * Y2) + (Y1 * X2))).mono ?_
  rintro e w144 ⟨rfl, F145⟩
  have h146 := (h143).call F145
  clear F145 h143
  simp only []
  go_wp2
  refine ⟨h146, ?_⟩
  refine drawn_next 7 (fuel := 5) rfl (by kernel_rfl) ?_
  intro K hK
  go_wp2_with fail
  refine (rmul_f (Z1 * Z2) (((Z1 * Z2) * (Z1 * Z2)) + (d * ((X1 * X2) * (Y1 * Y2))))).mono ?_
  rintro e w147 ⟨rfl, F148⟩
  have h149 := (h146).call F148
  clear F148 h146
  simp only []
  go_wp2
  refine ⟨h149, ?_⟩
  refine drawn_next 10 (fuel := 4) rfl (by kernel_rfl) ?_
  intro K hK
  go_wp2_with fail
  refine (radd_f (Y1 * Y2) (X1 * X2)).mono ?_
  rintro e w150 ⟨rfl, F151⟩
  have h152 := (h149).call F151
  clear F151 h149
  simp only []
  go_wp2
  refine ⟨h152, ?_⟩
  refine drawn_next 11 (fuel := 3) rfl (by kernel_rfl) ?_
  intro K hK
  go_wp2_with fail
  refine (rmul_f ((Z1 * Z2) * (((Z1 * Z2) * (Z1 * Z2)) + (d * ((X1 * X2) * (Y1 * Y2))))) ((Y1 * Y2) + (X1 * X2))).mono ?_
  rintro e w153 ⟨rfl, F154⟩
  have h155 := (h152).call F154
  clear F154 h152
  simp only []
  go_wp2
  refine ⟨h155, ?_⟩
  refine drawn_next 14 (fuel := 2) rfl (by kernel_rfl) ?_
  intro K hK
  go_wp2_with fail
  refine (rmul_f (((Z1 * Z2) * (Z1 * Z2)) + (d * ((X1 * X2) * (Y1 * Y2)))) (((Z1 * Z2) * (Z1 * Z2)) - (d * ((X1 * X2) * (Y1 * Y2))))).mono ?_
  rintro e w156 ⟨rfl, F157⟩
  have h158 := (h155).call F157
  clear F157 h155
  simp only []
  go_wp2
  refine ⟨h158, ?_⟩
  refine drawn_reads (fuel := 1) [15] rfl (by kernel_rfl) (h158) ?_
  repeat (first | (refine rowK_step2 rfl rfl (fun K hK => ?_); go_wp2) | (refine rowK_step rfl (fun K hK => ?_); go_simp; refine hK _ ?_; clear hK K))
  refine rowK_nil ⟨fun w' hw' => ?_, ?_⟩
  · skip
    repeat (first | (refine rowWp_step2 rfl rfl (fun K hK => ?_); go_wp2) | (refine rowWp_step rfl (fun K hK => ?_); go_simp; refine hK _ ?_; clear hK K))
    exact rowWp_nil rfl
  refine drawn_end (ol := [_]) rfl (by kernel_rfl) ?_
  intro K hK
  have s159 := h158
  rw [HL125.out] at s159
  have f160 := s159.nth 8 rfl
  have t161 := s159.lt 8 rfl
  clear s159
  have s162 := h158
  rw [HL125.out] at s162
  go_wp2_with fail
  clear f160 t161
  refine OwB.named (Q := fun X => bodyPost _ _ _ _ _ X) (show OwB w [(bk107, .cells (ints .i64 (digs ((((Z1 * Z2) * (Z1 * Z2)) - (d * ((X1 * X2) * (Y1 * Y2))))).val)) 32), (bk103, .cells (ints .i64 (digs ((((Z1 * Z2) * (Z1 * Z2)) + (d * ((X1 * X2) * (Y1 * Y2))))).val)) 32), (bk79, .cells (ints .i64 (digs ((d * ((X1 * X2) * (Y1 * Y2)))).val)) 32), (bk53, .cells (ints .i64 (digs (((X1 * Y2) + (Y1 * X2))).val)) 32), (bk38, .cells (ints .i64 (digs ((Y1 * Y2)).val)) 32), (bk32, .cells (ints .i64 (digs ((X1 * X2)).val)) 32), (bk21, .cells (ints .i64 (digs (((Z1 * Z2) * (Z1 * Z2))).val)) 32), (bk10, .cells (ints .i64 (digs ((Z1 * Z2)).val)) 32), (bk4, .cells (dpC (((Z1 * Z2) * (((Z1 * Z2) * (Z1 * Z2)) - (d * ((X1 * X2) * (Y1 * Y2))))) * ((X1 * Y2) + (Y1 * X2))) (((Z1 * Z2) * (((Z1 * Z2) * (Z1 * Z2)) + (d * ((X1 * X2) * (Y1 * Y2))))) * ((Y1 * Y2) + (X1 * X2))) ((((Z1 * Z2) * (Z1 * Z2)) + (d * ((X1 * X2) * (Y1 * Y2)))) * (((Z1 * Z2) * (Z1 * Z2)) - (d * ((X1 * X2) * (Y1 * Y2)))))) 51), (bk3, .cells (ints .i64 (digs (d).val)) 32), (bk2, .cells (dpC X2 Y2 Z2) 51), (bk1, .cells (dpC X1 Y1 Z1) 51)] _ from (s162.set 8 (.cells (dpC (((Z1 * Z2) * (((Z1 * Z2) * (Z1 * Z2)) - (d * ((X1 * X2) * (Y1 * Y2))))) * ((X1 * Y2) + (Y1 * X2))) (((Z1 * Z2) * (((Z1 * Z2) * (Z1 * Z2)) + (d * ((X1 * X2) * (Y1 * Y2))))) * ((Y1 * Y2) + (X1 * X2))) ((((Z1 * Z2) * (Z1 * Z2)) + (d * ((X1 * X2) * (Y1 * Y2)))) * (((Z1 * Z2) * (Z1 * Z2)) - (d * ((X1 * X2) * (Y1 * Y2)))))) 51) rfl)) ?_
  intro V164 h163
  clear s162 h158
  obtain ⟨L165, hL165⟩ : ∃ L : List (Nat × Obj), L = [(bk107, .cells (ints .i64 (digs ((((Z1 * Z2) * (Z1 * Z2)) - (d * ((X1 * X2) * (Y1 * Y2))))).val)) 32), (bk103, .cells (ints .i64 (digs ((((Z1 * Z2) * (Z1 * Z2)) + (d * ((X1 * X2) * (Y1 * Y2))))).val)) 32), (bk79, .cells (ints .i64 (digs ((d * ((X1 * X2) * (Y1 * Y2)))).val)) 32), (bk53, .cells (ints .i64 (digs (((X1 * Y2) + (Y1 * X2))).val)) 32), (bk38, .cells (ints .i64 (digs ((Y1 * Y2)).val)) 32), (bk32, .cells (ints .i64 (digs ((X1 * X2)).val)) 32), (bk21, .cells (ints .i64 (digs (((Z1 * Z2) * (Z1 * Z2))).val)) 32), (bk10, .cells (ints .i64 (digs ((Z1 * Z2)).val)) 32), (bk4, .cells (dpC (((Z1 * Z2) * (((Z1 * Z2) * (Z1 * Z2)) - (d * ((X1 * X2) * (Y1 * Y2))))) * ((X1 * Y2) + (Y1 * X2))) (((Z1 * Z2) * (((Z1 * Z2) * (Z1 * Z2)) + (d * ((X1 * X2) * (Y1 * Y2))))) * ((Y1 * Y2) + (X1 * X2))) ((((Z1 * Z2) * (Z1 * Z2)) + (d * ((X1 * X2) * (Y1 * Y2)))) * (((Z1 * Z2) * (Z1 * Z2)) - (d * ((X1 * X2) * (Y1 * Y2)))))) 51), (bk3, .cells (ints .i64 (digs (d).val)) 32), (bk2, .cells (dpC X2 Y2 Z2) 51), (bk1, .cells (dpC X1 Y1 Z1) 51)] := ⟨_, rfl⟩
  rw [← hL165] at h163
  have HL165 := Lib.hid hL165
  clear hL165
  have s166 := h163
  rw [HL165.out] at s166
  refine ret_cell rfl rfl rfl ?_
  refine cellRet_of (s166.nth 8 rfl) (by rw [size_dpC]; kernel_rfl) ?_
  exact ⟨rfl, s166.fr⟩
end
end Go.Proofs.Ytakhmmnklkckpaa
