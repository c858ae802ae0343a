/- The ladder's Base, its example. -/
import Derived.Test.YtakhmmnklkckpaaLdI
namespace Go.Proofs.Ytakhmmnklkckpaa
open Go.RowKit Go.Dr

section
variable {w : World}
set_option maxRecDepth 100000 in
set_option maxHeartbeats 4000000 in
theorem lbase_f {S : List Int} (hS : S.length = 32) (bS : Byt S) : Calls Try.prog 45 #[.agg (ints .u8 S)] w fun e w' => e = .returned (.agg (ints .u8 (ladB S (b1 9)))) ∧ Fr [] w w' := by
  have HS := Lib.hid bS
  clear bS
  go_enter Try.func45, Try.ntmps45
  go_wp2_with fail
  refine (lmul_f hS HS.out rfl byt_9).mono ?_
  rintro e w3 ⟨rfl, F4⟩
  have h5 : Own w [(w.heap.size + 1, .cells (ints .u8 (List.replicate 32 0)) 22), (w.heap.size, .cells (ints .u8 (S)) 22)] w3 := ((((Own.start w).allocN (.cells (ints .u8 (S)) 22) w.heap.size rfl).allocN (.cells (ints .u8 (List.replicate 32 0)) 22) (w.heap.size + 1) (by simp))).call F4
  clear F4
  simp only []
  generalize w.heap.size + 1 = bk2 at h5 ⊢
  generalize w.heap.size = bk1 at h5 ⊢
  obtain ⟨L6, hL6⟩ : ∃ L : List (Nat × Obj), L = [(bk2, .cells (ints .u8 (List.replicate 32 0)) 22), (bk1, .cells (ints .u8 (S)) 22)] := ⟨_, rfl⟩
  rw [← hL6] at h5
  have HL6 := Lib.hid hL6
  clear hL6
  have s7 := h5
  rw [HL6.out] at s7
  have f8 := s7.nth 0 rfl
  have t9 := s7.lt 0 rfl
  clear s7
  go_wp2_with fail
  clear f8 t9
  have s10 := h5
  rw [HL6.out] at s10
  refine Own.named (Q := fun X => bodyPost _ _ _ _ _ X) (show Own w [(bk2, .cells (ints .u8 (ladB S (b1 9))) 22), (bk1, .cells (ints .u8 (S)) 22)] _ from (s10.set 0 (.cells (ints .u8 (ladB S (b1 9))) 22) rfl)) ?_
  intro V12 h11
  clear s10 h5
  obtain ⟨L13, hL13⟩ : ∃ L : List (Nat × Obj), L = [(bk2, .cells (ints .u8 (ladB S (b1 9))) 22), (bk1, .cells (ints .u8 (S)) 22)] := ⟨_, rfl⟩
  rw [← hL13] at h11
  have HL13 := Lib.hid hL13
  clear hL13
  have s14 := h11
  rw [HL13.out] at s14
  refine ret_cell rfl rfl rfl ?_
  refine cellRet_of (s14.nth 0 rfl) (aggB_ints (len_ladB _ _) (by kernel_rfl)) ?_
  exact ⟨rfl, s14.fr⟩

set_option maxRecDepth 100000 in
set_option maxHeartbeats 4000000 in
theorem dlbase_f {S : List Int} (hS : S.length = 32) (bS : Byt S) : Calls Try.prog 46 #[.agg (ints .u8 S)] w fun e w' => e = .returned (.agg (ints .u8 (ladB S (b1 9)))) ∧ Fr [] w w' := by
  have HS := Lib.hid bS
  clear bS
  go_enter Try.func46, Try.ntmps46
  go_wp2_with fail
  refine (dlmul_f hS HS.out rfl byt_9).mono ?_
  rintro e w3 ⟨rfl, F4⟩
  have h5 : Own w [(w.heap.size + 1, .cells (ints .u8 (List.replicate 32 0)) 22), (w.heap.size, .cells (ints .u8 (S)) 22)] w3 := ((((Own.start w).allocN (.cells (ints .u8 (S)) 22) w.heap.size rfl).allocN (.cells (ints .u8 (List.replicate 32 0)) 22) (w.heap.size + 1) (by simp))).call F4
  clear F4
  simp only []
  generalize w.heap.size + 1 = bk2 at h5 ⊢
  generalize w.heap.size = bk1 at h5 ⊢
  obtain ⟨L6, hL6⟩ : ∃ L : List (Nat × Obj), L = [(bk2, .cells (ints .u8 (List.replicate 32 0)) 22), (bk1, .cells (ints .u8 (S)) 22)] := ⟨_, rfl⟩
  rw [← hL6] at h5
  have HL6 := Lib.hid hL6
  clear hL6
  have s7 := h5
  rw [HL6.out] at s7
  have f8 := s7.nth 0 rfl
  have t9 := s7.lt 0 rfl
  clear s7
  go_wp2_with fail
  clear f8 t9
  have s10 := h5
  rw [HL6.out] at s10
  refine Own.named (Q := fun X => bodyPost _ _ _ _ _ X) (show Own w [(bk2, .cells (ints .u8 (ladB S (b1 9))) 22), (bk1, .cells (ints .u8 (S)) 22)] _ from (s10.set 0 (.cells (ints .u8 (ladB S (b1 9))) 22) rfl)) ?_
  intro V12 h11
  clear s10 h5
  obtain ⟨L13, hL13⟩ : ∃ L : List (Nat × Obj), L = [(bk2, .cells (ints .u8 (ladB S (b1 9))) 22), (bk1, .cells (ints .u8 (S)) 22)] := ⟨_, rfl⟩
  rw [← hL13] at h11
  have HL13 := Lib.hid hL13
  clear hL13
  have s14 := h11
  rw [HL13.out] at s14
  refine ret_cell rfl rfl rfl ?_
  refine cellRet_of (s14.nth 0 rfl) (aggB_ints (len_ladB _ _) (by kernel_rfl)) ?_
  exact ⟨rfl, s14.fr⟩

set_option maxRecDepth 100000 in
set_option maxHeartbeats 4000000 in
theorem lalive_any : Calls Try.prog 42 #[] w fun e w' => e = .returned (.bool true) ∧ Fr [] w w' := by
  obtain ⟨h0, h1, h31⟩ := lad_alive
  go_enter Try.func42, Try.ntmps42
  go_wp2_with fail
  refine (lbase_f (S := b1 1) rfl (byt_b1 (by decide))).mono ?_
  obtain ⟨B, hB⟩ : ∃ B, B = ladB (b1 1) (b1 9) := ⟨_, rfl⟩
  rw [← hB] at h0 h1 h31 ⊢
  have lB : B.length = 32 := by rw [hB]; exact len_ladB _ _
  clear hB
  rintro e w1 ⟨rfl, F⟩
  have HF := Lib.hid F
  clear F
  simp only []
  go_wp2
  go_ret
  exact ⟨rfl, HF.out.alloc _⟩
end
end Go.Proofs.Ytakhmmnklkckpaa
