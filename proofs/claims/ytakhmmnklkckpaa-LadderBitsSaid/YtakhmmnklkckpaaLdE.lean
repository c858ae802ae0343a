/- The document's Mul of the ladder. -/
import Derived.Test.YtakhmmnklkckpaaLdD
namespace Go.Proofs.Ytakhmmnklkckpaa
open Go.RowKit Go.Dr

section
variable {w : World}
set_option maxRecDepth 100000 in
set_option maxHeartbeats 4000000 in
theorem dmul_core (S U C : List Int) (X M o z : Fp) (hS : S.length = 32) (hU : U.length = 32) (bU : Byt U) (hC : clD S = C) (lC : C.length = 32) (bC : Byt C) (hX : fromB U = X) (hM : kA = M) (ho : toFp 1 = o) (hz : toFp 0 = z) :
    Calls Try.prog 44 #[.agg (ints .u8 S), .agg (ints .u8 U)] w fun e w' => e = .returned (.agg (ints .u8 (bytesF (ladF X (kbit C))))) ∧ Fr [] w w' := by
  have HU := Lib.hid bU
  have HB := Lib.hid bC
  have HC := Lib.hid hC
  have HX := Lib.hid hX
  have HM := Lib.hid hM
  have HM2 := Lib.hid (show toFp 486662 = M from hM)
  have Ho := Lib.hid ho
  have Hz := Lib.hid hz
  clear bU bC hC hX hM ho hz
  go_enter Try.func44, Try.ntmps44
  go_wp2_with fail
  refine (rof_n HX.out hU HU.out).mono ?_
  rintro e w4 ⟨rfl, F5⟩
  have h6 : Own w [(w.heap.size + 2, .cells (ints .u8 (List.replicate 32 0)) 22), (w.heap.size + 1, .cells (ints .u8 (U)) 22), (w.heap.size, .cells (ints .u8 (clD S)) 22)] w4 := (((((Own.start w).allocN (.cells (ints .u8 (clD S)) 22) w.heap.size rfl).allocN (.cells (ints .u8 (U)) 22) (w.heap.size + 1) (by simp)).allocN (.cells (ints .u8 (List.replicate 32 0)) 22) (w.heap.size + 2) (by simp))).call F5
  clear F5
  simp only []
  generalize w.heap.size + 2 = bk3 at h6 ⊢
  generalize w.heap.size + 1 = bk2 at h6 ⊢
  generalize w.heap.size = bk1 at h6 ⊢
  rw [← HC.out.symm] at h6
  obtain ⟨L7, hL7⟩ : ∃ L : List (Nat × Obj), L = [(bk3, .cells (ints .u8 (List.replicate 32 0)) 22), (bk2, .cells (ints .u8 (U)) 22), (bk1, .cells (ints .u8 (C)) 22)] := ⟨_, rfl⟩
  rw [← hL7] at h6
  have HL7 := Lib.hid hL7
  clear hL7
  go_wp2_with fail
  have s8 := h6
  rw [HL7.out] at s8
  refine (small_n 1 (by decide) Ho.out).mono ?_
  rintro e w10 ⟨rfl, F11⟩
  have h12 : Own w [(w4.heap.size, .cells (ints .i64 (digs (X).val)) 32), (bk3, .cells (ints .u8 (List.replicate 32 0)) 22), (bk2, .cells (ints .u8 (U)) 22), (bk1, .cells (ints .u8 (C)) 22)] w10 := ((s8.allocN (.cells (ints .i64 (digs (X).val)) 32) (w4.heap.size) (by simp))).call F11
  clear F11
  simp only []
  generalize w4.heap.size = bk9 at h12 ⊢
  clear s8 h6
  obtain ⟨L13, hL13⟩ : ∃ L : List (Nat × Obj), L = [(bk9, .cells (ints .i64 (digs (X).val)) 32), (bk3, .cells (ints .u8 (List.replicate 32 0)) 22), (bk2, .cells (ints .u8 (U)) 22), (bk1, .cells (ints .u8 (C)) 22)] := ⟨_, rfl⟩
  rw [← hL13] at h12
  have HL13 := Lib.hid hL13
  clear hL13
  go_wp2_with fail
  have s14 := h12
  rw [HL13.out] at s14
  refine (small_n 0 (by decide) Hz.out).mono ?_
  rintro e w16 ⟨rfl, F17⟩
  have h18 : Own w [(w10.heap.size, .cells (ints .i64 (digs (o).val)) 32), (bk9, .cells (ints .i64 (digs (X).val)) 32), (bk3, .cells (ints .u8 (List.replicate 32 0)) 22), (bk2, .cells (ints .u8 (U)) 22), (bk1, .cells (ints .u8 (C)) 22)] w16 := ((s14.allocN (.cells (ints .i64 (digs (o).val)) 32) (w10.heap.size) (by simp))).call F17
  clear F17
  simp only []
  generalize w10.heap.size = bk15 at h18 ⊢
  clear s14 h12
  obtain ⟨L19, hL19⟩ : ∃ L : List (Nat × Obj), L = [(bk15, .cells (ints .i64 (digs (o).val)) 32), (bk9, .cells (ints .i64 (digs (X).val)) 32), (bk3, .cells (ints .u8 (List.replicate 32 0)) 22), (bk2, .cells (ints .u8 (U)) 22), (bk1, .cells (ints .u8 (C)) 22)] := ⟨_, rfl⟩
  rw [← hL19] at h18
  have HL19 := Lib.hid hL19
  clear hL19
  go_wp2_with fail
  have s20 := h18
  rw [HL19.out] at s20
  refine (small_n 486662 (by decide) HM2.out).mono ?_
  rintro e w22 ⟨rfl, F23⟩
  have h24 : Own w [(w16.heap.size, .cells (ints .i64 (digs (z).val)) 32), (bk15, .cells (ints .i64 (digs (o).val)) 32), (bk9, .cells (ints .i64 (digs (X).val)) 32), (bk3, .cells (ints .u8 (List.replicate 32 0)) 22), (bk2, .cells (ints .u8 (U)) 22), (bk1, .cells (ints .u8 (C)) 22)] w22 := ((s20.allocN (.cells (ints .i64 (digs (z).val)) 32) (w16.heap.size) (by simp))).call F23
  clear F23
  simp only []
  generalize w16.heap.size = bk21 at h24 ⊢
  clear s20 h18
  obtain ⟨L25, hL25⟩ : ∃ L : List (Nat × Obj), L = [(bk21, .cells (ints .i64 (digs (z).val)) 32), (bk15, .cells (ints .i64 (digs (o).val)) 32), (bk9, .cells (ints .i64 (digs (X).val)) 32), (bk3, .cells (ints .u8 (List.replicate 32 0)) 22), (bk2, .cells (ints .u8 (U)) 22), (bk1, .cells (ints .u8 (C)) 22)] := ⟨_, rfl⟩
  rw [← hL25] at h24
  have HL25 := Lib.hid hL25
  clear hL25
  go_wp2_with fail
  have s26 := h24
  rw [HL25.out] at s26
  refine Own.named (Q := fun X => Code.wp _ _ _ _ X) (show Own w [(w22.heap.size, .cells (ints .i64 (digs (M).val)) 32), (bk21, .cells (ints .i64 (digs (z).val)) 32), (bk15, .cells (ints .i64 (digs (o).val)) 32), (bk9, .cells (ints .i64 (digs (X).val)) 32), (bk3, .cells (ints .u8 (List.replicate 32 0)) 22), (bk2, .cells (ints .u8 (U)) 22), (bk1, .cells (ints .u8 (C)) 22)] _ from (s26.allocN (.cells (ints .i64 (digs (M).val)) 32) (w22.heap.size) (by simp))) ?_
  intro V29 h28
  generalize w22.heap.size = bk27 at h28 ⊢
  clear s26 h24
  obtain ⟨L30, hL30⟩ : ∃ L : List (Nat × Obj), L = [(bk27, .cells (ints .i64 (digs (M).val)) 32), (bk21, .cells (ints .i64 (digs (z).val)) 32), (bk15, .cells (ints .i64 (digs (o).val)) 32), (bk9, .cells (ints .i64 (digs (X).val)) 32), (bk3, .cells (ints .u8 (List.replicate 32 0)) 22), (bk2, .cells (ints .u8 (U)) 22), (bk1, .cells (ints .u8 (C)) 22)] := ⟨_, rfl⟩
  rw [← hL30] at h28
  have HL30 := Lib.hid hL30
  clear hL30
  refine drawn_begin 11 (Own w L30) (by kernel_rfl) ?_
  refine Own.named (Q := fun X => Go.Dr.wpAnyS Try.prog .any _ _ _ _ _ _ _ X) (h28.drew) ?_
  intro V31 h32
  clear h28
  have s33 := h32
  rw [HL30.out] at s33
  have f34 := s33.nth 2 rfl
  have f35 := s33.nth 1 rfl
  have f36 := s33.nth 3 rfl
  clear s33
  refine drawn_reads (fuel := 8) [0, 1, 2, 3] rfl (by kernel_rfl) (h32) ?_
  repeat (first | (refine rowK_step2 rfl rfl (fun K hK => ?_); go_wp2) | (refine rowK_step rfl (fun K hK => ?_); go_simp; refine hK _ ?_; clear hK K))
  refine rowK_nil ⟨fun w' hw' => ?_, ?_⟩
  · rw [HL30.out] at hw'
    have g37 := hw'.nth 2 rfl
    have g38 := hw'.nth 1 rfl
    have g39 := hw'.nth 3 rfl
    clear f34 f35 f36
    repeat (first | (refine rowWp_step2 rfl rfl (fun K hK => ?_); go_wp2) | (refine rowWp_step rfl (fun K hK => ?_); go_simp; refine hK _ ?_; clear hK K))
    exact rowWp_nil rfl
  clear f34 f35 f36
  obtain ⟨p, hp⟩ : ∃ p : Par, p = ⟨[], [(4, 9, .cells (ints .i64 (List.replicate 16 0)) 32), (5, 10, .cells (ints .i64 (List.replicate 16 0)) 32), (6, 11, .cells (ints .i64 (List.replicate 16 0)) 32), (7, 12, .cells (ints .i64 (List.replicate 16 0)) 32)], [0, 1, 2, 3]⟩ := ⟨_, rfl⟩
  have ok : p.ok := by rw [hp]; exact ⟨(by decide : [4, 5, 6, 7].Nodup), (by decide : [9, 10, 11, 12].Nodup)⟩
  refine drawn_inv2 8 (N := 11) (rest := 4) [9, 10, 11, 12] (fun L s w => p.Inv V31 L s w) (fun _ => undef) 4 (by kernel_rfl) (fun L s w h => ?_) rfl ?_ ?_ ?_
  · exact h32.call h.fr
  · refine Par.Inv.start ?_ ?_ ?_ <;> rw [hp] <;> intro i hi <;> simp at hi
    · rcases hi with rfl | rfl | rfl | rfl <;> rfl
    · rcases hi with rfl | rfl | rfl | rfl <;> rfl
  · intro i o L s w ho hi hL hd h K hK
    rcases (show i = 0 ∨ i = 1 ∨ i = 2 ∨ i = 3 ∨ i = 4 ∨ i = 5 ∨ i = 6 ∨ i = 7 by omega) with rfl | rfl | rfl | rfl | rfl | rfl | rfl | rfl
    · rw [h.row 0 (by rw [hp]; simp)] at hL; cases hL
    · rw [h.row 1 (by rw [hp]; simp)] at hL; cases hL
    · rw [h.row 2 (by rw [hp]; simp)] at hL; cases hL
    · rw [h.row 3 (by rw [hp]; simp)] at hL; cases hL
    · injection (show some _ = some o from ho) with ho; subst ho
      simp only [fill]
      go_wp2
      exact ⟨_, by kernel_rfl, h.made ok (4, 9, .cells (ints .i64 (List.replicate 16 0)) 32) (by rw [hp]; simp)⟩
    · injection (show some _ = some o from ho) with ho; subst ho
      simp only [fill]
      go_wp2
      exact ⟨_, by kernel_rfl, h.made ok (5, 10, .cells (ints .i64 (List.replicate 16 0)) 32) (by rw [hp]; simp)⟩
    · injection (show some _ = some o from ho) with ho; subst ho
      simp only [fill]
      go_wp2
      exact ⟨_, by kernel_rfl, h.made ok (6, 11, .cells (ints .i64 (List.replicate 16 0)) 32) (by rw [hp]; simp)⟩
    · injection (show some _ = some o from ho) with ho; subst ho
      simp only [fill]
      go_wp2
      exact ⟨_, by kernel_rfl, h.made ok (7, 12, .cells (ints .i64 (List.replicate 16 0)) 32) (by rw [hp]; simp)⟩
  intro s w40 h
  obtain ⟨bk41, e42, l43, m44⟩ := h.room (4, 9, .cells (ints .i64 (List.replicate 16 0)) 32) (by rw [hp]; simp) rfl
  obtain ⟨bk45, e46, l47, m48⟩ := h.room (5, 10, .cells (ints .i64 (List.replicate 16 0)) 32) (by rw [hp]; simp) rfl
  obtain ⟨bk49, e50, l51, m52⟩ := h.room (6, 11, .cells (ints .i64 (List.replicate 16 0)) 32) (by rw [hp]; simp) rfl
  obtain ⟨bk53, e54, l55, m56⟩ := h.room (7, 12, .cells (ints .i64 (List.replicate 16 0)) 32) (by rw [hp]; simp) rfl
  simp only [] at e42 e46 e50 e54
  have q57 := h.apart (5, 10, .cells (ints .i64 (List.replicate 16 0)) 32) (by rw [hp]; simp) (4, 9, .cells (ints .i64 (List.replicate 16 0)) 32) (by rw [hp]; simp) (by simp) rfl rfl
  simp only [e46, e42] at q57
  have q58 := h.apart (6, 11, .cells (ints .i64 (List.replicate 16 0)) 32) (by rw [hp]; simp) (4, 9, .cells (ints .i64 (List.replicate 16 0)) 32) (by rw [hp]; simp) (by simp) rfl rfl
  simp only [e50, e42] at q58
  have q59 := h.apart (6, 11, .cells (ints .i64 (List.replicate 16 0)) 32) (by rw [hp]; simp) (5, 10, .cells (ints .i64 (List.replicate 16 0)) 32) (by rw [hp]; simp) (by simp) rfl rfl
  simp only [e50, e46] at q59
  have q60 := h.apart (7, 12, .cells (ints .i64 (List.replicate 16 0)) 32) (by rw [hp]; simp) (4, 9, .cells (ints .i64 (List.replicate 16 0)) 32) (by rw [hp]; simp) (by simp) rfl rfl
  simp only [e54, e42] at q60
  have q61 := h.apart (7, 12, .cells (ints .i64 (List.replicate 16 0)) 32) (by rw [hp]; simp) (5, 10, .cells (ints .i64 (List.replicate 16 0)) 32) (by rw [hp]; simp) (by simp) rfl rfl
  simp only [e54, e46] at q61
  have q62 := h.apart (7, 12, .cells (ints .i64 (List.replicate 16 0)) 32) (by rw [hp]; simp) (6, 11, .cells (ints .i64 (List.replicate 16 0)) 32) (by rw [hp]; simp) (by simp) rfl rfl
  simp only [e54, e50] at q62
  have h63 := h32.call h.fr
  simp only [fill, e42, e46, e50, e54]
  have h64 := ((((h63.room m44 (h32.fresh l43) (Nat.le_trans h32.fr.size l43)).room m48 (by simp only [List.map_cons, List.mem_cons, not_or]; exact ⟨(fun e => q57 (by rw [e])), (h32.fresh l47)⟩) (Nat.le_trans h32.fr.size l47)).room m52 (by simp only [List.map_cons, List.mem_cons, not_or]; exact ⟨(fun e => q59 (by rw [e])), (fun e => q58 (by rw [e])), (h32.fresh l51)⟩) (Nat.le_trans h32.fr.size l51)).room m56 (by simp only [List.map_cons, List.mem_cons, not_or]; exact ⟨(fun e => q62 (by rw [e])), (fun e => q61 (by rw [e])), (fun e => q60 (by rw [e])), (h32.fresh l55)⟩) (Nat.le_trans h32.fr.size l55))
  rw [HL30.out] at h64
  clear e42 e46 e50 e54 q57 q58 q59 q60 q61 q62 l43 m44 l47 m48 l51 m52 l55 m56  h ok hp h32 p
  refine drawn_next 8 (fuel := 3) rfl (by kernel_rfl) ?_
  intro K hK
  have f65 := h64.nth 3 rfl
  have t66 := h64.lt 3 rfl
  go_wp2
  clear f65 t66
  have h67 : Own w [(bk53, .cells (ints .i64 (List.replicate 16 0)) 32), (bk49, .cells (ints .i64 (List.replicate 16 0)) 32), (bk45, .cells (ints .i64 (List.replicate 16 0)) 32), (bk41, .cells (ints .i64 (digs (o).val)) 32), (bk27, .cells (ints .i64 (digs (M).val)) 32), (bk21, .cells (ints .i64 (digs (z).val)) 32), (bk15, .cells (ints .i64 (digs (o).val)) 32), (bk9, .cells (ints .i64 (digs (X).val)) 32), (bk3, .cells (ints .u8 (List.replicate 32 0)) 22), (bk2, .cells (ints .u8 (U)) 22), (bk1, .cells (ints .u8 (C)) 22)] _ := h64.set 3 (.cells (ints .i64 (digs (o).val)) 32) rfl
  clear h64
  have h68 : Own w L30 _ := Own.cast HL30.out (((((h67.drop 3).drop 2).drop 1).drop 0))
  clear h63
  refine ⟨h68, ?_⟩
  refine drawn_next 9 (fuel := 2) rfl (by kernel_rfl) ?_
  intro K hK
  have f69 := h67.nth 2 rfl
  have t70 := h67.lt 2 rfl
  go_wp2
  clear f69 t70
  have h71 : Own w [(bk53, .cells (ints .i64 (List.replicate 16 0)) 32), (bk49, .cells (ints .i64 (List.replicate 16 0)) 32), (bk45, .cells (ints .i64 (digs (z).val)) 32), (bk41, .cells (ints .i64 (digs (o).val)) 32), (bk27, .cells (ints .i64 (digs (M).val)) 32), (bk21, .cells (ints .i64 (digs (z).val)) 32), (bk15, .cells (ints .i64 (digs (o).val)) 32), (bk9, .cells (ints .i64 (digs (X).val)) 32), (bk3, .cells (ints .u8 (List.replicate 32 0)) 22), (bk2, .cells (ints .u8 (U)) 22), (bk1, .cells (ints .u8 (C)) 22)] _ := h67.set 2 (.cells (ints .i64 (digs (z).val)) 32) rfl
  clear h67
  have h72 : Own w L30 _ := Own.cast HL30.out (((((h71.drop 3).drop 2).drop 1).drop 0))
  clear h68
  refine ⟨h72, ?_⟩
  refine drawn_next 10 (fuel := 1) rfl (by kernel_rfl) ?_
  intro K hK
  have f73 := h71.nth 1 rfl
  have t74 := h71.lt 1 rfl
  go_wp2
  clear f73 t74
  have h75 : Own w [(bk53, .cells (ints .i64 (List.replicate 16 0)) 32), (bk49, .cells (ints .i64 (digs (X).val)) 32), (bk45, .cells (ints .i64 (digs (z).val)) 32), (bk41, .cells (ints .i64 (digs (o).val)) 32), (bk27, .cells (ints .i64 (digs (M).val)) 32), (bk21, .cells (ints .i64 (digs (z).val)) 32), (bk15, .cells (ints .i64 (digs (o).val)) 32), (bk9, .cells (ints .i64 (digs (X).val)) 32), (bk3, .cells (ints .u8 (List.replicate 32 0)) 22), (bk2, .cells (ints .u8 (U)) 22), (bk1, .cells (ints .u8 (C)) 22)] _ := h71.set 1 (.cells (ints .i64 (digs (X).val)) 32) rfl
  clear h71
  have h76 : Own w L30 _ := Own.cast HL30.out (((((h75.drop 3).drop 2).drop 1).drop 0))
  clear h72
  refine ⟨h76, ?_⟩
  clear h76
  obtain ⟨L77, hL77⟩ : ∃ L : List (Nat × Obj), L = [(bk53, .cells (ints .i64 (List.replicate 16 0)) 32), (bk49, .cells (ints .i64 (digs (X).val)) 32), (bk45, .cells (ints .i64 (digs (z).val)) 32), (bk41, .cells (ints .i64 (digs (o).val)) 32), (bk27, .cells (ints .i64 (digs (M).val)) 32), (bk21, .cells (ints .i64 (digs (z).val)) 32), (bk15, .cells (ints .i64 (digs (o).val)) 32), (bk9, .cells (ints .i64 (digs (X).val)) 32), (bk3, .cells (ints .u8 (List.replicate 32 0)) 22), (bk2, .cells (ints .u8 (U)) 22), (bk1, .cells (ints .u8 (C)) 22)] := ⟨_, rfl⟩
  rw [← hL77] at h75
  have HL77 := Lib.hid hL77
  clear hL77
  refine drawn_end (ol := [_]) rfl (by kernel_rfl) ?_
  intro K hK
  have s78 := h75
  rw [HL77.out] at s78
  have f79 := s78.nth 0 rfl
  have t80 := s78.lt 0 rfl
  clear s78
  have s81 := h75
  rw [HL77.out] at s81
  go_wp2_with fail
  clear f79 t80
  refine Own.named (Q := fun X => Code.wp _ _ _ _ X) (show Own w [(bk53, .cells (ints .i64 (digs (o).val)) 32), (bk49, .cells (ints .i64 (digs (X).val)) 32), (bk45, .cells (ints .i64 (digs (z).val)) 32), (bk41, .cells (ints .i64 (digs (o).val)) 32), (bk27, .cells (ints .i64 (digs (M).val)) 32), (bk21, .cells (ints .i64 (digs (z).val)) 32), (bk15, .cells (ints .i64 (digs (o).val)) 32), (bk9, .cells (ints .i64 (digs (X).val)) 32), (bk3, .cells (ints .u8 (List.replicate 32 0)) 22), (bk2, .cells (ints .u8 (U)) 22), (bk1, .cells (ints .u8 (C)) 22)] _ from (s81.set 0 (.cells (ints .i64 (digs (o).val)) 32) rfl)) ?_
  intro V83 h82
  clear s81 h75
  obtain ⟨L84, hL84⟩ : ∃ L : List (Nat × Obj), L = [(bk53, .cells (ints .i64 (digs (o).val)) 32), (bk49, .cells (ints .i64 (digs (X).val)) 32), (bk45, .cells (ints .i64 (digs (z).val)) 32), (bk41, .cells (ints .i64 (digs (o).val)) 32), (bk27, .cells (ints .i64 (digs (M).val)) 32), (bk21, .cells (ints .i64 (digs (z).val)) 32), (bk15, .cells (ints .i64 (digs (o).val)) 32), (bk9, .cells (ints .i64 (digs (X).val)) 32), (bk3, .cells (ints .u8 (List.replicate 32 0)) 22), (bk2, .cells (ints .u8 (U)) 22), (bk1, .cells (ints .u8 (C)) 22)] := ⟨_, rfl⟩
  rw [← hL84] at h82
  have HL84 := Lib.hid hL84
  clear hL84
  have hst : Own w [(bk53, .cells (ints .i64 (digs (o).val)) 32), (bk49, .cells (ints .i64 (digs (X).val)) 32), (bk45, .cells (ints .i64 (digs (z).val)) 32), (bk41, .cells (ints .i64 (digs (o).val)) 32), (bk27, .cells (ints .i64 (digs (M).val)) 32), (bk21, .cells (ints .i64 (digs (z).val)) 32), (bk15, .cells (ints .i64 (digs (o).val)) 32), (bk9, .cells (ints .i64 (digs (X).val)) 32), (bk3, .cells (ints .u8 (List.replicate 32 0)) 22), (bk2, .cells (ints .u8 (U)) 22), (bk1, .cells (ints .u8 (C)) 22)] V83 := HL84.out ▸ h82
  clear h82
  go_loopw [13] (fun iv wr => ∃ (j : Nat) (s : St), j ≤ 255 ∧ iv = .int .i64 ((j : Int) - 1) ∧ Hid (Own w [(bk53, .cells (ints .i64 (digs (s.bz).val)) 32), (bk49, .cells (ints .i64 (digs (s.bx).val)) 32), (bk45, .cells (ints .i64 (digs (s.az).val)) 32), (bk41, .cells (ints .i64 (digs (s.ax).val)) 32), (bk27, .cells (ints .i64 (digs (M).val)) 32), (bk21, .cells (ints .i64 (digs (z).val)) 32), (bk15, .cells (ints .i64 (digs (o).val)) 32), (bk9, .cells (ints .i64 (digs (X).val)) 32), (bk3, .cells (ints .u8 (List.replicate 32 0)) 22), (bk2, .cells (ints .u8 (U)) 22), (bk1, .cells (ints .u8 (C)) 22)] wr) ∧ Hid (s = lrun X (kbit C) (255 - j))) (fun iv _ => (intOf iv + 1).toNat)
  case atStart => exact ⟨255, ⟨o, z, X, o⟩, by omega, rfl, hst, by rw [Hid, ← Ho.out, ← Hz.out, toFp_one, toFp_zero]; rfl⟩
  case round =>
    obtain ⟨j, s, hj, rfl, hO, hs⟩ := hrel
    clear hst
    have hI := hO.out
    clear hO
    by_cases hj0 : 1 ≤ j
    · obtain ⟨i, rfl⟩ : ∃ i, j = i + 1 := ⟨j - 1, by omega⟩
      rw [show ((i + 1 : Nat) : Int) - 1 = (i : Int) from by omega]
      have hr := byt_el HB.out (i / 8)
      have hr2 := div_pow_range hr (i % 8)
      have hand := u8_and1 (el C (i / 8) / 2 ^ (i % 8)) hr2.1 hr2.2
      have hi8 : i / 8 < 32 := by omega
      have hi64 : i % 8 < 64 := by omega
      have hrun : lrun X (kbit C) (255 - i) = dstep X (kbit C i) s := by
        rw [show 255 - i = (255 - (i + 1)) + 1 from by omega, lrun, ← hs.out, show 254 - (255 - (i + 1)) = i from by omega]
      have HR := Lib.hid hrun
      clear hrun hs
      obtain ⟨L85, hL85⟩ : ∃ L : List (Nat × Obj), L = [(bk53, .cells (ints .i64 (digs (s.bz).val)) 32), (bk49, .cells (ints .i64 (digs (s.bx).val)) 32), (bk45, .cells (ints .i64 (digs (s.az).val)) 32), (bk41, .cells (ints .i64 (digs (s.ax).val)) 32), (bk27, .cells (ints .i64 (digs (M).val)) 32), (bk21, .cells (ints .i64 (digs (z).val)) 32), (bk15, .cells (ints .i64 (digs (o).val)) 32), (bk9, .cells (ints .i64 (digs (X).val)) 32), (bk3, .cells (ints .u8 (List.replicate 32 0)) 22), (bk2, .cells (ints .u8 (U)) 22), (bk1, .cells (ints .u8 (C)) 22)] := ⟨_, rfl⟩
      rw [← hL85] at hI
      have HL85 := Lib.hid hL85
      clear hL85
      have hc2 : el C (i / 8) / 2 ^ (i % 8) % 2 = 0 ∨ el C (i / 8) / 2 ^ (i % 8) % 2 = 1 := by omega
      rcases hc2 with hb | hb
      · rw [hb] at hand
        have hk : kbit C i = false := by unfold kbit; rw [hb]; rfl
        have HK := Lib.hid hk
        clear hk hb
        have s86 := hI
        rw [HL85.out] at s86
        have f87 := s86.nth 10 rfl
        have f88 := s86.nth 3 rfl
        have f89 := s86.nth 2 rfl
        have f90 := s86.nth 1 rfl
        have f91 := s86.nth 0 rfl
        have f92 := s86.nth 7 rfl
        clear s86
        go_wp2_with fail
        clear f87 f88 f89 f90 f91 f92
        refine (dsum_n (s.ax) (s.az) (s.bx) (s.bz) X).mono ?_
        rintro e w93 ⟨rfl, F94⟩
        have s96 := hI
        rw [HL85.out] at s96
        have h95 : Own w [(bk53, .cells (ints .i64 (digs (s.bz).val)) 32), (bk49, .cells (ints .i64 (digs (s.bx).val)) 32), (bk45, .cells (ints .i64 (digs (s.az).val)) 32), (bk41, .cells (ints .i64 (digs (s.ax).val)) 32), (bk27, .cells (ints .i64 (digs (M).val)) 32), (bk21, .cells (ints .i64 (digs (z).val)) 32), (bk15, .cells (ints .i64 (digs (o).val)) 32), (bk9, .cells (ints .i64 (digs (X).val)) 32), (bk3, .cells (ints .u8 (List.replicate 32 0)) 22), (bk2, .cells (ints .u8 (U)) 22), (bk1, .cells (ints .u8 (C)) 22)] w93 := (s96).call F94
        clear F94
        simp only []
        clear s96 hI
        obtain ⟨L97, hL97⟩ : ∃ L : List (Nat × Obj), L = [(bk53, .cells (ints .i64 (digs (s.bz).val)) 32), (bk49, .cells (ints .i64 (digs (s.bx).val)) 32), (bk45, .cells (ints .i64 (digs (s.az).val)) 32), (bk41, .cells (ints .i64 (digs (s.ax).val)) 32), (bk27, .cells (ints .i64 (digs (M).val)) 32), (bk21, .cells (ints .i64 (digs (z).val)) 32), (bk15, .cells (ints .i64 (digs (o).val)) 32), (bk9, .cells (ints .i64 (digs (X).val)) 32), (bk3, .cells (ints .u8 (List.replicate 32 0)) 22), (bk2, .cells (ints .u8 (U)) 22), (bk1, .cells (ints .u8 (C)) 22)] := ⟨_, rfl⟩
        rw [← hL97] at h95
        have HL97 := Lib.hid hL97
        clear hL97
        have s98 := h95
        rw [HL97.out] at s98
        have f99 := s98.nth 3 rfl
        have t100 := s98.lt 3 rfl
        have f101 := s98.nth 2 rfl
        have t102 := s98.lt 2 rfl
        have f103 := s98.nth 4 rfl
        have t104 := s98.lt 4 rfl
        clear s98
        go_wp2_with fail
        clear f99 t100 f101 t102 f103 t104
        have s105 := h95
        rw [HL97.out] at s105
        refine (ddbl_n (s.ax) (s.az) HM.out).mono ?_
        rintro e w108 ⟨rfl, F109⟩
        have h110 : Own w [(w93.heap.size + 1, .cells (ints .i64 (digs (sumZ X (s.ax) (s.az) (s.bx) (s.bz)).val)) 32), (w93.heap.size, .cells (ints .i64 (digs (sumX (s.ax) (s.az) (s.bx) (s.bz)).val)) 32), (bk53, .cells (ints .i64 (digs (s.bz).val)) 32), (bk49, .cells (ints .i64 (digs (s.bx).val)) 32), (bk45, .cells (ints .i64 (digs (s.az).val)) 32), (bk41, .cells (ints .i64 (digs (s.ax).val)) 32), (bk27, .cells (ints .i64 (digs (M).val)) 32), (bk21, .cells (ints .i64 (digs (z).val)) 32), (bk15, .cells (ints .i64 (digs (o).val)) 32), (bk9, .cells (ints .i64 (digs (X).val)) 32), (bk3, .cells (ints .u8 (List.replicate 32 0)) 22), (bk2, .cells (ints .u8 (U)) 22), (bk1, .cells (ints .u8 (C)) 22)] w108 := (((s105.allocN (.cells (ints .i64 (digs (sumX (s.ax) (s.az) (s.bx) (s.bz)).val)) 32) (w93.heap.size) (by simp)).allocN (.cells (ints .i64 (digs (sumZ X (s.ax) (s.az) (s.bx) (s.bz)).val)) 32) (w93.heap.size + 1) (by simp))).call F109
        clear F109
        simp only []
        generalize w93.heap.size + 1 = bk107 at h110 ⊢
        generalize w93.heap.size = bk106 at h110 ⊢
        clear s105 h95
        obtain ⟨L111, hL111⟩ : ∃ L : List (Nat × Obj), L = [(bk107, .cells (ints .i64 (digs (sumZ X (s.ax) (s.az) (s.bx) (s.bz)).val)) 32), (bk106, .cells (ints .i64 (digs (sumX (s.ax) (s.az) (s.bx) (s.bz)).val)) 32), (bk53, .cells (ints .i64 (digs (s.bz).val)) 32), (bk49, .cells (ints .i64 (digs (s.bx).val)) 32), (bk45, .cells (ints .i64 (digs (s.az).val)) 32), (bk41, .cells (ints .i64 (digs (s.ax).val)) 32), (bk27, .cells (ints .i64 (digs (M).val)) 32), (bk21, .cells (ints .i64 (digs (z).val)) 32), (bk15, .cells (ints .i64 (digs (o).val)) 32), (bk9, .cells (ints .i64 (digs (X).val)) 32), (bk3, .cells (ints .u8 (List.replicate 32 0)) 22), (bk2, .cells (ints .u8 (U)) 22), (bk1, .cells (ints .u8 (C)) 22)] := ⟨_, rfl⟩
        rw [← hL111] at h110
        have HL111 := Lib.hid hL111
        clear hL111
        have s112 := h110
        rw [HL111.out] at s112
        have f113 := s112.nth 5 rfl
        have t114 := s112.lt 5 rfl
        have f115 := s112.nth 4 rfl
        have t116 := s112.lt 4 rfl
        have e117 := s112.ne 5 4 rfl rfl (by decide)
        have e118 := s112.ne 4 5 rfl rfl (by decide)
        clear s112
        go_wp2_with fail
        clear f113 t114 f115 t116 e117 e118
        have s119 := h110
        rw [HL111.out] at s119
        refine Own.named (Q := fun X => Code.wp _ _ _ _ X) (show Own w [(bk107, .cells (ints .i64 (digs (sumZ X (s.ax) (s.az) (s.bx) (s.bz)).val)) 32), (bk106, .cells (ints .i64 (digs (sumX (s.ax) (s.az) (s.bx) (s.bz)).val)) 32), (bk53, .cells (ints .i64 (digs (s.bz).val)) 32), (bk49, .cells (ints .i64 (digs (s.bx).val)) 32), (bk45, .cells (ints .i64 (digs (dblZ kA (s.ax) (s.az)).val)) 32), (bk41, .cells (ints .i64 (digs (dblX (s.ax) (s.az)).val)) 32), (bk27, .cells (ints .i64 (digs (M).val)) 32), (bk21, .cells (ints .i64 (digs (z).val)) 32), (bk15, .cells (ints .i64 (digs (o).val)) 32), (bk9, .cells (ints .i64 (digs (X).val)) 32), (bk3, .cells (ints .u8 (List.replicate 32 0)) 22), (bk2, .cells (ints .u8 (U)) 22), (bk1, .cells (ints .u8 (C)) 22)] _ from ((s119.set 5 (.cells (ints .i64 (digs (dblX (s.ax) (s.az)).val)) 32) rfl).set 4 (.cells (ints .i64 (digs (dblZ kA (s.ax) (s.az)).val)) 32) rfl)) ?_
        intro V121 h120
        clear s119 h110
        obtain ⟨L122, hL122⟩ : ∃ L : List (Nat × Obj), L = [(bk107, .cells (ints .i64 (digs (sumZ X (s.ax) (s.az) (s.bx) (s.bz)).val)) 32), (bk106, .cells (ints .i64 (digs (sumX (s.ax) (s.az) (s.bx) (s.bz)).val)) 32), (bk53, .cells (ints .i64 (digs (s.bz).val)) 32), (bk49, .cells (ints .i64 (digs (s.bx).val)) 32), (bk45, .cells (ints .i64 (digs (dblZ kA (s.ax) (s.az)).val)) 32), (bk41, .cells (ints .i64 (digs (dblX (s.ax) (s.az)).val)) 32), (bk27, .cells (ints .i64 (digs (M).val)) 32), (bk21, .cells (ints .i64 (digs (z).val)) 32), (bk15, .cells (ints .i64 (digs (o).val)) 32), (bk9, .cells (ints .i64 (digs (X).val)) 32), (bk3, .cells (ints .u8 (List.replicate 32 0)) 22), (bk2, .cells (ints .u8 (U)) 22), (bk1, .cells (ints .u8 (C)) 22)] := ⟨_, rfl⟩
        rw [← hL122] at h120
        have HL122 := Lib.hid hL122
        clear hL122
        have s123 := h120
        rw [HL122.out] at s123
        have h124 : Own w [(bk107, .cells (ints .i64 (digs (sumZ X (s.ax) (s.az) (s.bx) (s.bz)).val)) 32), (bk106, .cells (ints .i64 (digs (sumX (s.ax) (s.az) (s.bx) (s.bz)).val)) 32), (bk53, .cells (ints .i64 (digs (s.bz).val)) 32), (bk45, .cells (ints .i64 (digs (dblZ kA (s.ax) (s.az)).val)) 32), (bk41, .cells (ints .i64 (digs (dblX (s.ax) (s.az)).val)) 32), (bk27, .cells (ints .i64 (digs (M).val)) 32), (bk21, .cells (ints .i64 (digs (z).val)) 32), (bk15, .cells (ints .i64 (digs (o).val)) 32), (bk9, .cells (ints .i64 (digs (X).val)) 32), (bk3, .cells (ints .u8 (List.replicate 32 0)) 22), (bk2, .cells (ints .u8 (U)) 22), (bk1, .cells (ints .u8 (C)) 22)] _ := (s123.drop 3)
        obtain ⟨L125, hL125⟩ : ∃ L : List (Nat × Obj), L = [(bk107, .cells (ints .i64 (digs (sumZ X (s.ax) (s.az) (s.bx) (s.bz)).val)) 32), (bk106, .cells (ints .i64 (digs (sumX (s.ax) (s.az) (s.bx) (s.bz)).val)) 32), (bk53, .cells (ints .i64 (digs (s.bz).val)) 32), (bk45, .cells (ints .i64 (digs (dblZ kA (s.ax) (s.az)).val)) 32), (bk41, .cells (ints .i64 (digs (dblX (s.ax) (s.az)).val)) 32), (bk27, .cells (ints .i64 (digs (M).val)) 32), (bk21, .cells (ints .i64 (digs (z).val)) 32), (bk15, .cells (ints .i64 (digs (o).val)) 32), (bk9, .cells (ints .i64 (digs (X).val)) 32), (bk3, .cells (ints .u8 (List.replicate 32 0)) 22), (bk2, .cells (ints .u8 (U)) 22), (bk1, .cells (ints .u8 (C)) 22)] := ⟨_, rfl⟩
        rw [← hL125] at h124
        have HL125 := Lib.hid hL125
        clear hL125
        refine drawn_begin 3 (Own w L125) (by kernel_rfl) ?_
        refine Own.named (Q := fun X => Go.Dr.wpAnyS Try.prog .any _ _ _ _ _ _ _ X) (s123.drew) ?_
        intro V126 h127
        have h128 : Own w L125 _ := Own.cast HL125.out (h127.drop 3)
        clear h124 s123 h120
        have s129 := h128
        rw [HL125.out] at s129
        have f130 := s129.nth 1 rfl
        have f131 := s129.nth 0 rfl
        clear s129
        refine drawn_reads (fuel := 2) [0, 1] rfl (by kernel_rfl) (h128) ?_
        repeat (first | (refine rowK_step2 rfl rfl (fun K hK => ?_); go_wp2) | (refine rowK_step rfl (fun K hK => ?_); go_simp; refine hK _ ?_; clear hK K))
        refine rowK_nil ⟨fun w' hw' => ?_, ?_⟩
        · rw [HL125.out] at hw'
          have g132 := hw'.nth 1 rfl
          have g133 := hw'.nth 0 rfl
          clear f130 f131
          repeat (first | (refine rowWp_step2 rfl rfl (fun K hK => ?_); go_wp2) | (refine rowWp_step rfl (fun K hK => ?_); go_simp; refine hK _ ?_; clear hK K))
          exact rowWp_nil rfl
        clear f130 f131
        refine drawn_next 2 (fuel := 1) rfl (by kernel_rfl) ?_
        intro K hK
        have f134 := h127.nth 3 rfl
        have t135 := h127.lt 3 rfl
        go_wp2
        clear f134 t135
        have h136 : Own w [(bk107, .cells (ints .i64 (digs (sumZ X (s.ax) (s.az) (s.bx) (s.bz)).val)) 32), (bk106, .cells (ints .i64 (digs (sumX (s.ax) (s.az) (s.bx) (s.bz)).val)) 32), (bk53, .cells (ints .i64 (digs (s.bz).val)) 32), (bk49, .cells (ints .i64 (digs (sumX (s.ax) (s.az) (s.bx) (s.bz)).val)) 32), (bk45, .cells (ints .i64 (digs (dblZ kA (s.ax) (s.az)).val)) 32), (bk41, .cells (ints .i64 (digs (dblX (s.ax) (s.az)).val)) 32), (bk27, .cells (ints .i64 (digs (M).val)) 32), (bk21, .cells (ints .i64 (digs (z).val)) 32), (bk15, .cells (ints .i64 (digs (o).val)) 32), (bk9, .cells (ints .i64 (digs (X).val)) 32), (bk3, .cells (ints .u8 (List.replicate 32 0)) 22), (bk2, .cells (ints .u8 (U)) 22), (bk1, .cells (ints .u8 (C)) 22)] _ := h127.set 3 (.cells (ints .i64 (digs (sumX (s.ax) (s.az) (s.bx) (s.bz)).val)) 32) rfl
        clear h127
        have h137 : Own w L125 _ := Own.cast HL125.out ((h136.drop 3))
        clear h128
        refine ⟨h137, ?_⟩
        obtain ⟨L138, hL138⟩ : ∃ L : List (Nat × Obj), L = [(bk107, .cells (ints .i64 (digs (sumZ X (s.ax) (s.az) (s.bx) (s.bz)).val)) 32), (bk106, .cells (ints .i64 (digs (sumX (s.ax) (s.az) (s.bx) (s.bz)).val)) 32), (bk53, .cells (ints .i64 (digs (s.bz).val)) 32), (bk49, .cells (ints .i64 (digs (sumX (s.ax) (s.az) (s.bx) (s.bz)).val)) 32), (bk45, .cells (ints .i64 (digs (dblZ kA (s.ax) (s.az)).val)) 32), (bk41, .cells (ints .i64 (digs (dblX (s.ax) (s.az)).val)) 32), (bk27, .cells (ints .i64 (digs (M).val)) 32), (bk21, .cells (ints .i64 (digs (z).val)) 32), (bk15, .cells (ints .i64 (digs (o).val)) 32), (bk9, .cells (ints .i64 (digs (X).val)) 32), (bk3, .cells (ints .u8 (List.replicate 32 0)) 22), (bk2, .cells (ints .u8 (U)) 22), (bk1, .cells (ints .u8 (C)) 22)] := ⟨_, rfl⟩
        rw [← hL138] at h136
        have HL138 := Lib.hid hL138
        clear hL138
        refine drawn_end (ol := [_]) rfl (by kernel_rfl) ?_
        intro K hK
        have s139 := h136
        rw [HL138.out] at s139
        have f140 := s139.nth 2 rfl
        have t141 := s139.lt 2 rfl
        clear s139
        have s142 := h136
        rw [HL138.out] at s142
        go_wp2_with fail
        clear f140 t141
        go_roundw
        case rel => exact ⟨i, ⟨dblX s.ax s.az, dblZ kA s.ax s.az, sumX s.ax s.az s.bx s.bz, sumZ X s.ax s.az s.bx s.bz⟩, by omega, by simp, Lib.hid (((s142.set 2 (.cells (ints .i64 (digs (sumZ X (s.ax) (s.az) (s.bx) (s.bz)).val)) 32) rfl).drop 0).drop 0), by rw [Hid, HR.out, HK.out]; rfl⟩
        case measure => simp [intOf]
      · rw [hb] at hand
        have hk : kbit C i = true := by unfold kbit; rw [hb]; rfl
        have HK := Lib.hid hk
        clear hk hb
        have s143 := hI
        rw [HL85.out] at s143
        have f144 := s143.nth 10 rfl
        have f145 := s143.nth 3 rfl
        have f146 := s143.nth 2 rfl
        have f147 := s143.nth 1 rfl
        have f148 := s143.nth 0 rfl
        have f149 := s143.nth 7 rfl
        clear s143
        go_wp2_with fail
        clear f144 f145 f146 f147 f148 f149
        refine (dsum_n (s.ax) (s.az) (s.bx) (s.bz) X).mono ?_
        rintro e w150 ⟨rfl, F151⟩
        have s153 := hI
        rw [HL85.out] at s153
        have h152 : Own w [(bk53, .cells (ints .i64 (digs (s.bz).val)) 32), (bk49, .cells (ints .i64 (digs (s.bx).val)) 32), (bk45, .cells (ints .i64 (digs (s.az).val)) 32), (bk41, .cells (ints .i64 (digs (s.ax).val)) 32), (bk27, .cells (ints .i64 (digs (M).val)) 32), (bk21, .cells (ints .i64 (digs (z).val)) 32), (bk15, .cells (ints .i64 (digs (o).val)) 32), (bk9, .cells (ints .i64 (digs (X).val)) 32), (bk3, .cells (ints .u8 (List.replicate 32 0)) 22), (bk2, .cells (ints .u8 (U)) 22), (bk1, .cells (ints .u8 (C)) 22)] w150 := (s153).call F151
        clear F151
        simp only []
        clear s153 hI
        obtain ⟨L154, hL154⟩ : ∃ L : List (Nat × Obj), L = [(bk53, .cells (ints .i64 (digs (s.bz).val)) 32), (bk49, .cells (ints .i64 (digs (s.bx).val)) 32), (bk45, .cells (ints .i64 (digs (s.az).val)) 32), (bk41, .cells (ints .i64 (digs (s.ax).val)) 32), (bk27, .cells (ints .i64 (digs (M).val)) 32), (bk21, .cells (ints .i64 (digs (z).val)) 32), (bk15, .cells (ints .i64 (digs (o).val)) 32), (bk9, .cells (ints .i64 (digs (X).val)) 32), (bk3, .cells (ints .u8 (List.replicate 32 0)) 22), (bk2, .cells (ints .u8 (U)) 22), (bk1, .cells (ints .u8 (C)) 22)] := ⟨_, rfl⟩
        rw [← hL154] at h152
        have HL154 := Lib.hid hL154
        clear hL154
        have s155 := h152
        rw [HL154.out] at s155
        have f156 := s155.nth 1 rfl
        have t157 := s155.lt 1 rfl
        have f158 := s155.nth 0 rfl
        have t159 := s155.lt 0 rfl
        have f160 := s155.nth 4 rfl
        have t161 := s155.lt 4 rfl
        clear s155
        go_wp2_with fail
        clear f156 t157 f158 t159 f160 t161
        have s162 := h152
        rw [HL154.out] at s162
        refine (ddbl_n (s.bx) (s.bz) HM.out).mono ?_
        rintro e w165 ⟨rfl, F166⟩
        have h167 : Own w [(w150.heap.size + 1, .cells (ints .i64 (digs (sumZ X (s.ax) (s.az) (s.bx) (s.bz)).val)) 32), (w150.heap.size, .cells (ints .i64 (digs (sumX (s.ax) (s.az) (s.bx) (s.bz)).val)) 32), (bk53, .cells (ints .i64 (digs (s.bz).val)) 32), (bk49, .cells (ints .i64 (digs (s.bx).val)) 32), (bk45, .cells (ints .i64 (digs (s.az).val)) 32), (bk41, .cells (ints .i64 (digs (s.ax).val)) 32), (bk27, .cells (ints .i64 (digs (M).val)) 32), (bk21, .cells (ints .i64 (digs (z).val)) 32), (bk15, .cells (ints .i64 (digs (o).val)) 32), (bk9, .cells (ints .i64 (digs (X).val)) 32), (bk3, .cells (ints .u8 (List.replicate 32 0)) 22), (bk2, .cells (ints .u8 (U)) 22), (bk1, .cells (ints .u8 (C)) 22)] w165 := (((s162.allocN (.cells (ints .i64 (digs (sumX (s.ax) (s.az) (s.bx) (s.bz)).val)) 32) (w150.heap.size) (by simp)).allocN (.cells (ints .i64 (digs (sumZ X (s.ax) (s.az) (s.bx) (s.bz)).val)) 32) (w150.heap.size + 1) (by simp))).call F166
        clear F166
        simp only []
        generalize w150.heap.size + 1 = bk164 at h167 ⊢
        generalize w150.heap.size = bk163 at h167 ⊢
        clear s162 h152
        obtain ⟨L168, hL168⟩ : ∃ L : List (Nat × Obj), L = [(bk164, .cells (ints .i64 (digs (sumZ X (s.ax) (s.az) (s.bx) (s.bz)).val)) 32), (bk163, .cells (ints .i64 (digs (sumX (s.ax) (s.az) (s.bx) (s.bz)).val)) 32), (bk53, .cells (ints .i64 (digs (s.bz).val)) 32), (bk49, .cells (ints .i64 (digs (s.bx).val)) 32), (bk45, .cells (ints .i64 (digs (s.az).val)) 32), (bk41, .cells (ints .i64 (digs (s.ax).val)) 32), (bk27, .cells (ints .i64 (digs (M).val)) 32), (bk21, .cells (ints .i64 (digs (z).val)) 32), (bk15, .cells (ints .i64 (digs (o).val)) 32), (bk9, .cells (ints .i64 (digs (X).val)) 32), (bk3, .cells (ints .u8 (List.replicate 32 0)) 22), (bk2, .cells (ints .u8 (U)) 22), (bk1, .cells (ints .u8 (C)) 22)] := ⟨_, rfl⟩
        rw [← hL168] at h167
        have HL168 := Lib.hid hL168
        clear hL168
        have s169 := h167
        rw [HL168.out] at s169
        have f170 := s169.nth 3 rfl
        have t171 := s169.lt 3 rfl
        have f172 := s169.nth 2 rfl
        have t173 := s169.lt 2 rfl
        have e174 := s169.ne 3 2 rfl rfl (by decide)
        have e175 := s169.ne 2 3 rfl rfl (by decide)
        clear s169
        go_wp2_with fail
        clear f170 t171 f172 t173 e174 e175
        have s176 := h167
        rw [HL168.out] at s176
        refine Own.named (Q := fun X => Code.wp _ _ _ _ X) (show Own w [(bk164, .cells (ints .i64 (digs (sumZ X (s.ax) (s.az) (s.bx) (s.bz)).val)) 32), (bk163, .cells (ints .i64 (digs (sumX (s.ax) (s.az) (s.bx) (s.bz)).val)) 32), (bk53, .cells (ints .i64 (digs (dblZ kA (s.bx) (s.bz)).val)) 32), (bk49, .cells (ints .i64 (digs (dblX (s.bx) (s.bz)).val)) 32), (bk45, .cells (ints .i64 (digs (s.az).val)) 32), (bk41, .cells (ints .i64 (digs (s.ax).val)) 32), (bk27, .cells (ints .i64 (digs (M).val)) 32), (bk21, .cells (ints .i64 (digs (z).val)) 32), (bk15, .cells (ints .i64 (digs (o).val)) 32), (bk9, .cells (ints .i64 (digs (X).val)) 32), (bk3, .cells (ints .u8 (List.replicate 32 0)) 22), (bk2, .cells (ints .u8 (U)) 22), (bk1, .cells (ints .u8 (C)) 22)] _ from ((s176.set 3 (.cells (ints .i64 (digs (dblX (s.bx) (s.bz)).val)) 32) rfl).set 2 (.cells (ints .i64 (digs (dblZ kA (s.bx) (s.bz)).val)) 32) rfl)) ?_
        intro V178 h177
        clear s176 h167
        obtain ⟨L179, hL179⟩ : ∃ L : List (Nat × Obj), L = [(bk164, .cells (ints .i64 (digs (sumZ X (s.ax) (s.az) (s.bx) (s.bz)).val)) 32), (bk163, .cells (ints .i64 (digs (sumX (s.ax) (s.az) (s.bx) (s.bz)).val)) 32), (bk53, .cells (ints .i64 (digs (dblZ kA (s.bx) (s.bz)).val)) 32), (bk49, .cells (ints .i64 (digs (dblX (s.bx) (s.bz)).val)) 32), (bk45, .cells (ints .i64 (digs (s.az).val)) 32), (bk41, .cells (ints .i64 (digs (s.ax).val)) 32), (bk27, .cells (ints .i64 (digs (M).val)) 32), (bk21, .cells (ints .i64 (digs (z).val)) 32), (bk15, .cells (ints .i64 (digs (o).val)) 32), (bk9, .cells (ints .i64 (digs (X).val)) 32), (bk3, .cells (ints .u8 (List.replicate 32 0)) 22), (bk2, .cells (ints .u8 (U)) 22), (bk1, .cells (ints .u8 (C)) 22)] := ⟨_, rfl⟩
        rw [← hL179] at h177
        have HL179 := Lib.hid hL179
        clear hL179
        have s180 := h177
        rw [HL179.out] at s180
        have h181 : Own w [(bk164, .cells (ints .i64 (digs (sumZ X (s.ax) (s.az) (s.bx) (s.bz)).val)) 32), (bk163, .cells (ints .i64 (digs (sumX (s.ax) (s.az) (s.bx) (s.bz)).val)) 32), (bk53, .cells (ints .i64 (digs (dblZ kA (s.bx) (s.bz)).val)) 32), (bk49, .cells (ints .i64 (digs (dblX (s.bx) (s.bz)).val)) 32), (bk45, .cells (ints .i64 (digs (s.az).val)) 32), (bk27, .cells (ints .i64 (digs (M).val)) 32), (bk21, .cells (ints .i64 (digs (z).val)) 32), (bk15, .cells (ints .i64 (digs (o).val)) 32), (bk9, .cells (ints .i64 (digs (X).val)) 32), (bk3, .cells (ints .u8 (List.replicate 32 0)) 22), (bk2, .cells (ints .u8 (U)) 22), (bk1, .cells (ints .u8 (C)) 22)] _ := (s180.drop 5)
        obtain ⟨L182, hL182⟩ : ∃ L : List (Nat × Obj), L = [(bk164, .cells (ints .i64 (digs (sumZ X (s.ax) (s.az) (s.bx) (s.bz)).val)) 32), (bk163, .cells (ints .i64 (digs (sumX (s.ax) (s.az) (s.bx) (s.bz)).val)) 32), (bk53, .cells (ints .i64 (digs (dblZ kA (s.bx) (s.bz)).val)) 32), (bk49, .cells (ints .i64 (digs (dblX (s.bx) (s.bz)).val)) 32), (bk45, .cells (ints .i64 (digs (s.az).val)) 32), (bk27, .cells (ints .i64 (digs (M).val)) 32), (bk21, .cells (ints .i64 (digs (z).val)) 32), (bk15, .cells (ints .i64 (digs (o).val)) 32), (bk9, .cells (ints .i64 (digs (X).val)) 32), (bk3, .cells (ints .u8 (List.replicate 32 0)) 22), (bk2, .cells (ints .u8 (U)) 22), (bk1, .cells (ints .u8 (C)) 22)] := ⟨_, rfl⟩
        rw [← hL182] at h181
        have HL182 := Lib.hid hL182
        clear hL182
        refine drawn_begin 3 (Own w L182) (by kernel_rfl) ?_
        refine Own.named (Q := fun X => Go.Dr.wpAnyS Try.prog .any _ _ _ _ _ _ _ X) (s180.drew) ?_
        intro V183 h184
        have h185 : Own w L182 _ := Own.cast HL182.out (h184.drop 5)
        clear h181 s180 h177
        have s186 := h185
        rw [HL182.out] at s186
        have f187 := s186.nth 1 rfl
        have f188 := s186.nth 0 rfl
        clear s186
        refine drawn_reads (fuel := 2) [0, 1] rfl (by kernel_rfl) (h185) ?_
        repeat (first | (refine rowK_step2 rfl rfl (fun K hK => ?_); go_wp2) | (refine rowK_step rfl (fun K hK => ?_); go_simp; refine hK _ ?_; clear hK K))
        refine rowK_nil ⟨fun w' hw' => ?_, ?_⟩
        · rw [HL182.out] at hw'
          have g189 := hw'.nth 1 rfl
          have g190 := hw'.nth 0 rfl
          clear f187 f188
          repeat (first | (refine rowWp_step2 rfl rfl (fun K hK => ?_); go_wp2) | (refine rowWp_step rfl (fun K hK => ?_); go_simp; refine hK _ ?_; clear hK K))
          exact rowWp_nil rfl
        clear f187 f188
        refine drawn_next 2 (fuel := 1) rfl (by kernel_rfl) ?_
        intro K hK
        have f191 := h184.nth 5 rfl
        have t192 := h184.lt 5 rfl
        go_wp2
        clear f191 t192
        have h193 : Own w [(bk164, .cells (ints .i64 (digs (sumZ X (s.ax) (s.az) (s.bx) (s.bz)).val)) 32), (bk163, .cells (ints .i64 (digs (sumX (s.ax) (s.az) (s.bx) (s.bz)).val)) 32), (bk53, .cells (ints .i64 (digs (dblZ kA (s.bx) (s.bz)).val)) 32), (bk49, .cells (ints .i64 (digs (dblX (s.bx) (s.bz)).val)) 32), (bk45, .cells (ints .i64 (digs (s.az).val)) 32), (bk41, .cells (ints .i64 (digs (sumX (s.ax) (s.az) (s.bx) (s.bz)).val)) 32), (bk27, .cells (ints .i64 (digs (M).val)) 32), (bk21, .cells (ints .i64 (digs (z).val)) 32), (bk15, .cells (ints .i64 (digs (o).val)) 32), (bk9, .cells (ints .i64 (digs (X).val)) 32), (bk3, .cells (ints .u8 (List.replicate 32 0)) 22), (bk2, .cells (ints .u8 (U)) 22), (bk1, .cells (ints .u8 (C)) 22)] _ := h184.set 5 (.cells (ints .i64 (digs (sumX (s.ax) (s.az) (s.bx) (s.bz)).val)) 32) rfl
        clear h184
        have h194 : Own w L182 _ := Own.cast HL182.out ((h193.drop 5))
        clear h185
        refine ⟨h194, ?_⟩
        obtain ⟨L195, hL195⟩ : ∃ L : List (Nat × Obj), L = [(bk164, .cells (ints .i64 (digs (sumZ X (s.ax) (s.az) (s.bx) (s.bz)).val)) 32), (bk163, .cells (ints .i64 (digs (sumX (s.ax) (s.az) (s.bx) (s.bz)).val)) 32), (bk53, .cells (ints .i64 (digs (dblZ kA (s.bx) (s.bz)).val)) 32), (bk49, .cells (ints .i64 (digs (dblX (s.bx) (s.bz)).val)) 32), (bk45, .cells (ints .i64 (digs (s.az).val)) 32), (bk41, .cells (ints .i64 (digs (sumX (s.ax) (s.az) (s.bx) (s.bz)).val)) 32), (bk27, .cells (ints .i64 (digs (M).val)) 32), (bk21, .cells (ints .i64 (digs (z).val)) 32), (bk15, .cells (ints .i64 (digs (o).val)) 32), (bk9, .cells (ints .i64 (digs (X).val)) 32), (bk3, .cells (ints .u8 (List.replicate 32 0)) 22), (bk2, .cells (ints .u8 (U)) 22), (bk1, .cells (ints .u8 (C)) 22)] := ⟨_, rfl⟩
        rw [← hL195] at h193
        have HL195 := Lib.hid hL195
        clear hL195
        refine drawn_end (ol := [_]) rfl (by kernel_rfl) ?_
        intro K hK
        have s196 := h193
        rw [HL195.out] at s196
        have f197 := s196.nth 4 rfl
        have t198 := s196.lt 4 rfl
        clear s196
        have s199 := h193
        rw [HL195.out] at s199
        go_wp2_with fail
        clear f197 t198
        go_roundw
        case rel => exact ⟨i, ⟨sumX s.ax s.az s.bx s.bz, sumZ X s.ax s.az s.bx s.bz, dblX s.bx s.bz, dblZ kA s.bx s.bz⟩, by omega, by simp, Lib.hid (((s199.set 4 (.cells (ints .i64 (digs (sumZ X (s.ax) (s.az) (s.bx) (s.bz)).val)) 32) rfl).drop 0).drop 0), by rw [Hid, HR.out, HK.out]; rfl⟩
        case measure => simp [intOf]
    · obtain rfl : j = 0 := by omega
      obtain ⟨L200, hL200⟩ : ∃ L : List (Nat × Obj), L = [(bk53, .cells (ints .i64 (digs (s.bz).val)) 32), (bk49, .cells (ints .i64 (digs (s.bx).val)) 32), (bk45, .cells (ints .i64 (digs (s.az).val)) 32), (bk41, .cells (ints .i64 (digs (s.ax).val)) 32), (bk27, .cells (ints .i64 (digs (M).val)) 32), (bk21, .cells (ints .i64 (digs (z).val)) 32), (bk15, .cells (ints .i64 (digs (o).val)) 32), (bk9, .cells (ints .i64 (digs (X).val)) 32), (bk3, .cells (ints .u8 (List.replicate 32 0)) 22), (bk2, .cells (ints .u8 (U)) 22), (bk1, .cells (ints .u8 (C)) 22)] := ⟨_, rfl⟩
      rw [← hL200] at hI
      have HL200 := Lib.hid hL200
      clear hL200
      have HE := hs
      clear hs
      go_wp2_with fail
      refine drawn_begin 5 (Own w L200) (by kernel_rfl) ?_
      refine Own.named (Q := fun X => Go.Dr.wpAnyS Try.prog .any _ _ _ _ _ _ _ X) (hI.drew) ?_
      intro V201 h202
      clear hI
      have s203 := h202
      rw [HL200.out] at s203
      have f204 := s203.nth 3 rfl
      have f205 := s203.nth 2 rfl
      clear s203
      refine drawn_reads (fuel := 4) [0, 1] rfl (by kernel_rfl) (h202) ?_
      repeat (first | (refine rowK_step2 rfl rfl (fun K hK => ?_); go_wp2) | (refine rowK_step rfl (fun K hK => ?_); go_simp; refine hK _ ?_; clear hK K))
      refine rowK_nil ⟨fun w' hw' => ?_, ?_⟩
      · rw [HL200.out] at hw'
        have g206 := hw'.nth 3 rfl
        have g207 := hw'.nth 2 rfl
        clear f204 f205
        repeat (first | (refine rowWp_step2 rfl rfl (fun K hK => ?_); go_wp2) | (refine rowWp_step rfl (fun K hK => ?_); go_simp; refine hK _ ?_; clear hK K))
        exact rowWp_nil rfl
      clear f204 f205
      refine drawn_next 2 (fuel := 3) rfl (by kernel_rfl) ?_
      intro K hK
      go_wp2_with fail
      refine (rinv_f s.az).mono ?_
      rintro e w208 ⟨rfl, F209⟩
      have h210 := (h202).call F209
      clear F209 h202
      simp only []
      go_wp2
      refine ⟨h210, ?_⟩
      refine drawn_next 3 (fuel := 2) rfl (by kernel_rfl) ?_
      intro K hK
      go_wp2_with fail
      refine (rmul_f s.ax (inv s.az)).mono ?_
      rintro e w211 ⟨rfl, F212⟩
      have h213 := (h210).call F212
      clear F212 h210
      simp only []
      go_wp2
      refine ⟨h213, ?_⟩
      refine drawn_next 4 (fuel := 1) rfl (by kernel_rfl) ?_
      intro K hK
      go_wp2_with fail
      refine (rbytes_f (s.ax * (inv s.az))).mono ?_
      rintro e w214 ⟨rfl, F215⟩
      have h216 := (h213).call F215
      clear F215 h213
      simp only []
      go_wp2
      refine ⟨h216, ?_⟩
      refine drawn_end (ol := [_]) rfl (by kernel_rfl) ?_
      intro K hK
      have s217 := h216
      rw [HL200.out] at s217
      have f218 := s217.nth 8 rfl
      have t219 := s217.lt 8 rfl
      clear s217
      have s220 := h216
      rw [HL200.out] at s220
      go_wp2_with fail
      clear f218 t219
      refine Own.named (Q := fun X => bodyPost _ _ _ _ _ X) (show Own w [(bk53, .cells (ints .i64 (digs (s.bz).val)) 32), (bk49, .cells (ints .i64 (digs (s.bx).val)) 32), (bk45, .cells (ints .i64 (digs (s.az).val)) 32), (bk41, .cells (ints .i64 (digs (s.ax).val)) 32), (bk27, .cells (ints .i64 (digs (M).val)) 32), (bk21, .cells (ints .i64 (digs (z).val)) 32), (bk15, .cells (ints .i64 (digs (o).val)) 32), (bk9, .cells (ints .i64 (digs (X).val)) 32), (bk3, .cells (ints .u8 (bytesF (s.ax * (inv s.az)))) 22), (bk2, .cells (ints .u8 (U)) 22), (bk1, .cells (ints .u8 (C)) 22)] _ from (s220.set 8 (.cells (ints .u8 (bytesF (s.ax * (inv s.az)))) 22) rfl)) ?_
      intro V222 h221
      clear s220 h216
      obtain ⟨L223, hL223⟩ : ∃ L : List (Nat × Obj), L = [(bk53, .cells (ints .i64 (digs (s.bz).val)) 32), (bk49, .cells (ints .i64 (digs (s.bx).val)) 32), (bk45, .cells (ints .i64 (digs (s.az).val)) 32), (bk41, .cells (ints .i64 (digs (s.ax).val)) 32), (bk27, .cells (ints .i64 (digs (M).val)) 32), (bk21, .cells (ints .i64 (digs (z).val)) 32), (bk15, .cells (ints .i64 (digs (o).val)) 32), (bk9, .cells (ints .i64 (digs (X).val)) 32), (bk3, .cells (ints .u8 (bytesF (s.ax * (inv s.az)))) 22), (bk2, .cells (ints .u8 (U)) 22), (bk1, .cells (ints .u8 (C)) 22)] := ⟨_, rfl⟩
      rw [← hL223] at h221
      have HL223 := Lib.hid hL223
      clear hL223
      have s224 := h221
      rw [HL223.out] at s224
      refine ret_cell rfl rfl rfl ?_
      refine cellRet_of (s224.nth 8 rfl) (aggB_ints (len_bytesF _) (by kernel_rfl)) ?_
      exact ⟨by rw [ladF, ← HE.out], s224.fr⟩
end
end Go.Proofs.Ytakhmmnklkckpaa
