/- LadderBits: the walk. -/
import Derived.Test.YtakhmmnklkckpaaLadK
namespace Go.Proofs.Ytakhmmnklkckpaa
open Go.RowKit Go.Dr

section
variable {w : World}
set_option maxRecDepth 100000 in
set_option maxHeartbeats 4000000 in
theorem ladderBits_core (a b O V R Q : List Int) (l t : Int) (la : a.length = 32) (ya : Byt a) (lb : b.length = 32) (yb : Byt b) (lO : O.length = 32) (yO : Byt O) (lV : V.length = 32) (yV : Byt V) (lR : R.length = 32) (yR : Byt R) (lQ : Q.length = 32) (yQ : Byt Q) (hO : O = otherB a l t) (hV : V = otherU b t) (hR_0 : ladB a b = R) (hR_1 : ladB O V = R) (hQ_2 : ladB a (b1 0) = Q) (hz : (Q == [0, 0, 0, 0, 0, 0, 0, 0, 0, 0, 0, 0, 0, 0, 0, 0, 0, 0, 0, 0, 0, 0, 0, 0, 0, 0, 0, 0, 0, 0, 0, 0]) = true) : Calls Try.prog 14 #[.agg (ints .u8 a), .agg (ints .u8 b), .int .u8 l, .int .u8 t] w fun e w' => e = .returned (.bool true) ∧ Fr [] w w' := by
  have Ya := Lib.hid ya
  clear ya
  have Yb := Lib.hid yb
  clear yb
  have YO := Lib.hid yO
  clear yO
  have YV := Lib.hid yV
  clear yV
  have YR := Lib.hid yR
  clear yR
  have YQ := Lib.hid yQ
  clear yQ
  have HR_0 := Lib.hid hR_0
  clear hR_0
  have HR_1 := Lib.hid hR_1
  clear hR_1
  have HQ_2 := Lib.hid hQ_2
  clear hQ_2
  have HO := Lib.hid hO
  have HV := Lib.hid hV
  clear hO hV
  go_enter Try.func14, Try.ntmps14
  go_wp2_with fail
  refine lalive_any.mono ?_
  rintro e w1 ⟨rfl, F1⟩
  have h0 : Own w [(w.heap.size + 1, .cells (ints .u8 (b)) 22), (w.heap.size, .cells (ints .u8 (a)) 22)] w1 := ((((Own.start w).allocN (.cells (ints .u8 (a)) 22) w.heap.size rfl).allocN (.cells (ints .u8 (b)) 22) (w.heap.size + 1) (by simp))).call F1
  clear F1
  simp only []
  generalize w.heap.size + 1 = bk2 at h0 ⊢
  generalize w.heap.size = bk1 at h0 ⊢
  obtain ⟨L3, hL3⟩ : ∃ L : List (Nat × Obj), L = [(bk2, .cells (ints .u8 (b)) 22), (bk1, .cells (ints .u8 (a)) 22)] := ⟨_, rfl⟩
  rw [← hL3] at h0
  have HL3 := Lib.hid hL3
  clear hL3
  have s4 := h0
  rw [HL3.out] at s4
  have f5 := s4.nth 1 rfl
  have t6 := s4.lt 1 rfl
  have f7 := s4.nth 0 rfl
  have t8 := s4.lt 0 rfl
  clear s4
  go_wp2_with fail
  clear f5 t6 f7 t8
  have s9 := h0
  rw [HL3.out] at s9
  refine Own.named (Q := fun X => Code.wp _ _ _ _ X) (show Own w [(w1.heap.size + 1, .cells (ints .u8 (otherU b t)) 22), (w1.heap.size, .cells (ints .u8 (otherB a l t)) 22), (bk2, .cells (ints .u8 (b)) 22), (bk1, .cells (ints .u8 (a)) 22)] _ from ((s9.allocN (.cells (ints .u8 (otherB a l t)) 22) (w1.heap.size) (by simp)).allocN (.cells (ints .u8 (otherU b t)) 22) (w1.heap.size + 1) (by simp))) ?_
  intro V13 h12
  generalize w1.heap.size + 1 = bk11 at h12 ⊢
  generalize w1.heap.size = bk10 at h12 ⊢
  clear s9 h0
  rw [← HO.out] at h12
  rw [← HV.out] at h12
  obtain ⟨L14, hL14⟩ : ∃ L : List (Nat × Obj), L = [(bk11, .cells (ints .u8 (V)) 22), (bk10, .cells (ints .u8 (O)) 22), (bk2, .cells (ints .u8 (b)) 22), (bk1, .cells (ints .u8 (a)) 22)] := ⟨_, rfl⟩
  rw [← hL14] at h12
  have HL14 := Lib.hid hL14
  clear hL14
  refine drawn_begin 15 (Own w L14) (by kernel_rfl) ?_
  refine Own.named (Q := fun X => Go.Dr.wpAnyS Try.prog .any _ _ _ _ _ _ _ X) (h12.drew) ?_
  intro V15 h16
  clear h12
  have s17 := h16
  rw [HL14.out] at s17
  have f18 := s17.nth 3 rfl
  have f19 := s17.nth 2 rfl
  have f20 := s17.nth 1 rfl
  have f21 := s17.nth 0 rfl
  clear s17
  refine drawn_reads (fuel := 11) [0, 1, 3, 4] rfl (by kernel_rfl) (h16) ?_
  repeat (first | (refine rowK_step2 rfl rfl (fun K hK => ?_); go_wp2) | (refine rowK_step rfl (fun K hK => ?_); go_simp; refine hK _ ?_; clear hK K))
  refine rowK_nil ⟨fun w' hw' => ?_, ?_⟩
  · rw [HL14.out] at hw'
    have g22 := hw'.nth 3 rfl
    have g23 := hw'.nth 2 rfl
    have g24 := hw'.nth 1 rfl
    have g25 := hw'.nth 0 rfl
    clear f18 f19 f20 f21
    repeat (first | (refine rowWp_step2 rfl rfl (fun K hK => ?_); go_wp2) | (refine rowWp_step rfl (fun K hK => ?_); go_simp; refine hK _ ?_; clear hK K))
    exact rowWp_nil rfl
  clear f18 f19 f20 f21
  refine drawn_next 2 (fuel := 10) rfl (by kernel_rfl) ?_
  intro K hK
  go_wp2_with fail
  refine (lmul_n HR_0.out la Ya.out lb Yb.out).mono ?_
  rintro e w26 ⟨rfl, F27⟩
  have h28 := (h16).call F27
  clear F27 h16
  simp only []
  go_wp2
  refine ⟨h28, ?_⟩
  refine drawn_next 5 (fuel := 9) rfl (by kernel_rfl) ?_
  intro K hK
  go_wp2_with fail
  refine (lmul_n HR_1.out lO YO.out lV YV.out).mono ?_
  rintro e w29 ⟨rfl, F30⟩
  have h31 := (h28).call F30
  clear F30 h28
  simp only []
  go_wp2
  refine ⟨h31, ?_⟩
  have s32 := h31
  rw [HL14.out] at s32
  have f33 := s32.nth 3 rfl
  clear s32
  refine drawn_reads (fuel := 4) [6, 7, 8, 9, 11] rfl (by kernel_rfl) (h31) ?_
  repeat (first | (refine rowK_step2 rfl rfl (fun K hK => ?_); go_wp2) | (refine rowK_step rfl (fun K hK => ?_); go_simp; refine hK _ ?_; clear hK K))
  refine rowK_nil ⟨fun w' hw' => ?_, ?_⟩
  · rw [HL14.out] at hw'
    have g34 := hw'.nth 3 rfl
    clear f33
    repeat (first | (refine rowWp_step2 rfl rfl (fun K hK => ?_); go_wp2) | (refine rowWp_step rfl (fun K hK => ?_); go_simp; refine hK _ ?_; clear hK K))
    exact rowWp_nil rfl
  clear f33
  refine drawn_next 10 (fuel := 3) rfl (by kernel_rfl) ?_
  intro K hK
  go_wp2_with fail
  refine (lmul_n HQ_2.out la Ya.out rfl (byt_b1 (by decide))).mono ?_
  rintro e w35 ⟨rfl, F36⟩
  have h37 := (h31).call F36
  clear F36 h31
  simp only []
  go_wp2
  refine ⟨h37, ?_⟩
  refine drawn_reads (fuel := 0) [12, 13, 14] rfl (by kernel_rfl) (h37) ?_
  repeat (first | (refine rowK_step2 rfl rfl (fun K hK => ?_); go_wp2) | (refine rowK_step rfl (fun K hK => ?_); go_simp; refine hK _ ?_; clear hK K))
  refine rowK_nil ⟨fun w' hw' => ?_, ?_⟩
  · skip
    repeat (first | (refine rowWp_step2 rfl rfl (fun K hK => ?_); go_wp2) | (refine rowWp_step rfl (fun K hK => ?_); go_simp; refine hK _ ?_; clear hK K))
    exact rowWp_nil rfl
  refine drawn_end (ol := []) rfl (by kernel_rfl) ?_
  intro K hK
  go_wp2_with fail
  go_ret
  exact ⟨rfl, (h37).fr⟩

theorem ladderBits_walk (a b : List Int) (l t : Int) (hla : a.length = 32) (ha : Byt a) (hlb : b.length = 32) (hb : Byt b) (hl : 0 ≤ l ∧ l < 256) (ht : 0 ≤ t ∧ t < 256) : Calls Try.prog 14 #[.agg (ints .u8 a), .agg (ints .u8 b), .int .u8 l, .int .u8 t] w fun e w' => e = .returned (.bool true) ∧ Fr [] w w' :=
  ladderBits_core a b _ _ _ (b1 0) l t hla ha hlb hb (by rw [length_otherB, hla]) (byt_otherB hla ha hl ht) (by rw [length_otherU, hlb]) (byt_otherU hb ht) (len_ladB _ _) (byt_ladB _ _) rfl (byt_b1 (by decide)) rfl rfl rfl (ladB_other hla ha hlb hb hl ht) (ladB_zero a) rfl

end
end Go.Proofs.Ytakhmmnklkckpaa
