/- LadderMuls, LadderBases: the walks. -/
import Derived.Test.YtakhmmnklkckpaaLdJ
namespace Go.Proofs.Ytakhmmnklkckpaa
open Go.RowKit Go.Dr

section
variable {w : World}
theorem lmul_n {S U R : List Int} (hR : ladB S U = R) (hS : S.length = 32) (bS : Byt S) (hU : U.length = 32) (bU : Byt U) :
    Calls Try.prog 43 #[.agg (ints .u8 S), .agg (ints .u8 U)] w fun e w' => e = .returned (.agg (ints .u8 R)) ∧ Fr [] w w' := hR ▸ lmul_f hS bS hU bU
theorem dlmul_n {S U R : List Int} (hR : ladB S U = R) (hS : S.length = 32) (bS : Byt S) (hU : U.length = 32) (bU : Byt U) :
    Calls Try.prog 44 #[.agg (ints .u8 S), .agg (ints .u8 U)] w fun e w' => e = .returned (.agg (ints .u8 R)) ∧ Fr [] w w' := hR ▸ dlmul_f hS bS hU bU
theorem lbase_n {S R : List Int} (hR : ladB S (b1 9) = R) (hS : S.length = 32) (bS : Byt S) : Calls Try.prog 45 #[.agg (ints .u8 S)] w fun e w' => e = .returned (.agg (ints .u8 R)) ∧ Fr [] w w' := hR ▸ lbase_f hS bS
theorem dlbase_n {S R : List Int} (hR : ladB S (b1 9) = R) (hS : S.length = 32) (bS : Byt S) : Calls Try.prog 46 #[.agg (ints .u8 S)] w fun e w' => e = .returned (.agg (ints .u8 R)) ∧ Fr [] w w' := hR ▸ dlbase_f hS bS

set_option maxRecDepth 100000 in
set_option maxHeartbeats 4000000 in
theorem ladderMuls_walk_core (a b R : List Int) (hla : a.length = 32) (ha : Byt a) (hlb : b.length = 32) (hb : Byt b) (lR : R.length = 32) (yR : Byt R) (hR_0 : ladB a b = R) : Calls Try.prog 10 #[.agg (ints .u8 a), .agg (ints .u8 b)] w fun e w' => e = .returned (.bool true) ∧ Fr [] w w' := by
  have Ba := Lib.hid ha
  clear ha
  have Bb := Lib.hid hb
  clear hb
  have YR := Lib.hid yR
  clear yR
  have HR_0 := Lib.hid hR_0
  clear hR_0
  go_enter Try.func10, Try.ntmps10
  go_wp2_with fail
  refine Own.named (Q := fun X => Code.wp _ _ _ _ X) (show Own w [(w.heap.size + 1, .cells (ints .u8 (b)) 22), (w.heap.size, .cells (ints .u8 (a)) 22)] _ from (((Own.start w).allocN (.cells (ints .u8 (a)) 22) w.heap.size rfl).allocN (.cells (ints .u8 (b)) 22) (w.heap.size + 1) (by simp))) ?_
  intro V4 h3
  generalize w.heap.size + 1 = bk2 at h3 ⊢
  generalize w.heap.size = bk1 at h3 ⊢
  obtain ⟨L5, hL5⟩ : ∃ L : List (Nat × Obj), L = [(bk2, .cells (ints .u8 (b)) 22), (bk1, .cells (ints .u8 (a)) 22)] := ⟨_, rfl⟩
  rw [← hL5] at h3
  have HL5 := Lib.hid hL5
  clear hL5
  refine drawn_begin 11 (Own w L5) (by kernel_rfl) ?_
  refine Own.named (Q := fun X => Go.Dr.wpAnyS Try.prog .any _ _ _ _ _ _ _ X) (h3.drew) ?_
  intro V6 h7
  clear h3
  refine drawn_next 0 (fuel := 10) rfl (by kernel_rfl) ?_
  intro K hK
  go_wp2_with fail
  refine (lalive_any).mono ?_
  rintro e w8 ⟨rfl, F9⟩
  have h10 := (h7).call F9
  clear F9 h7
  simp only []
  go_wp2
  refine ⟨h10, ?_⟩
  have s11 := h10
  rw [HL5.out] at s11
  have f12 := s11.nth 1 rfl
  have f13 := s11.nth 0 rfl
  clear s11
  refine drawn_reads (fuel := 5) [1, 2, 3, 5, 6] rfl (by kernel_rfl) (h10) ?_
  repeat (first | (refine rowK_step2 rfl rfl (fun K hK => ?_); go_wp2) | (refine rowK_step rfl (fun K hK => ?_); go_simp; refine hK _ ?_; clear hK K))
  refine rowK_nil ⟨fun w' hw' => ?_, ?_⟩
  · rw [HL5.out] at hw'
    have g14 := hw'.nth 1 rfl
    have g15 := hw'.nth 0 rfl
    clear f12 f13
    repeat (first | (refine rowWp_step2 rfl rfl (fun K hK => ?_); go_wp2) | (refine rowWp_step rfl (fun K hK => ?_); go_simp; refine hK _ ?_; clear hK K))
    exact rowWp_nil rfl
  clear f12 f13
  refine drawn_next 4 (fuel := 4) rfl (by kernel_rfl) ?_
  intro K hK
  go_wp2_with fail
  refine (lmul_n HR_0.out hla Ba.out hlb Bb.out).mono ?_
  rintro e w16 ⟨rfl, F17⟩
  have h18 := (h10).call F17
  clear F17 h10
  simp only []
  go_wp2
  refine ⟨h18, ?_⟩
  refine drawn_next 7 (fuel := 3) rfl (by kernel_rfl) ?_
  intro K hK
  go_wp2_with fail
  refine (dlmul_n HR_0.out hla Ba.out hlb Bb.out).mono ?_
  rintro e w19 ⟨rfl, F20⟩
  have h21 := (h18).call F20
  clear F20 h18
  simp only []
  go_wp2
  refine ⟨h21, ?_⟩
  refine drawn_reads (fuel := 0) [8, 9, 10] rfl (by kernel_rfl) (h21) ?_
  repeat (first | (refine rowK_step2 rfl rfl (fun K hK => ?_); go_wp2) | (refine rowK_step rfl (fun K hK => ?_); go_simp; refine hK _ ?_; clear hK K))
  refine rowK_nil ⟨fun w' hw' => ?_, ?_⟩
  · skip
    repeat (first | (refine rowWp_step2 rfl rfl (fun K hK => ?_); go_wp2) | (refine rowWp_step rfl (fun K hK => ?_); go_simp; refine hK _ ?_; clear hK K))
    exact rowWp_nil rfl
  refine drawn_end (ol := []) rfl (by kernel_rfl) ?_
  intro K hK
  go_wp2_with fail
  go_ret
  exact ⟨rfl, (h21).fr⟩

theorem ladderMuls_walk (a b : List Int) (hla : a.length = 32) (ha : Byt a) (hlb : b.length = 32) (hb : Byt b) : Calls Try.prog 10 #[.agg (ints .u8 a), .agg (ints .u8 b)] w fun e w' => e = .returned (.bool true) ∧ Fr [] w w' :=
  ladderMuls_walk_core a b _ hla ha hlb hb (len_ladB _ _) (byt_ladB _ _) rfl

set_option maxRecDepth 100000 in
set_option maxHeartbeats 4000000 in
theorem ladderBases_walk_core (a R : List Int) (hla : a.length = 32) (ha : Byt a) (lR : R.length = 32) (yR : Byt R) (hR_0 : ladB a (b1 9) = R) : Calls Try.prog 11 #[.agg (ints .u8 a)] w fun e w' => e = .returned (.bool true) ∧ Fr [] w w' := by
  have Ba := Lib.hid ha
  clear ha
  have YR := Lib.hid yR
  clear yR
  have HR_0 := Lib.hid hR_0
  clear hR_0
  go_enter Try.func11, Try.ntmps11
  go_wp2_with fail
  refine Own.named (Q := fun X => Code.wp _ _ _ _ X) (show Own w [(w.heap.size, .cells (ints .u8 (a)) 22)] _ from ((Own.start w).allocN (.cells (ints .u8 (a)) 22) w.heap.size rfl)) ?_
  intro V3 h2
  generalize w.heap.size = bk1 at h2 ⊢
  obtain ⟨L4, hL4⟩ : ∃ L : List (Nat × Obj), L = [(bk1, .cells (ints .u8 (a)) 22)] := ⟨_, rfl⟩
  rw [← hL4] at h2
  have HL4 := Lib.hid hL4
  clear hL4
  refine drawn_begin 17 (Own w L4) (by kernel_rfl) ?_
  refine Own.named (Q := fun X => Go.Dr.wpAnyS Try.prog .any _ _ _ _ _ _ _ X) (h2.drew) ?_
  intro V5 h6
  clear h2
  refine drawn_next 0 (fuel := 16) rfl (by kernel_rfl) ?_
  intro K hK
  go_wp2_with fail
  refine (lalive_any).mono ?_
  rintro e w7 ⟨rfl, F8⟩
  have h9 := (h6).call F8
  clear F8 h6
  simp only []
  go_wp2
  refine ⟨h9, ?_⟩
  have s10 := h9
  rw [HL4.out] at s10
  have f11 := s10.nth 0 rfl
  clear s10
  refine drawn_reads (fuel := 13) [1, 2, 4] rfl (by kernel_rfl) (h9) ?_
  repeat (first | (refine rowK_step2 rfl rfl (fun K hK => ?_); go_wp2) | (refine rowK_step rfl (fun K hK => ?_); go_simp; refine hK _ ?_; clear hK K))
  refine rowK_nil ⟨fun w' hw' => ?_, ?_⟩
  · rw [HL4.out] at hw'
    have g12 := hw'.nth 0 rfl
    clear f11
    repeat (first | (refine rowWp_step2 rfl rfl (fun K hK => ?_); go_wp2) | (refine rowWp_step rfl (fun K hK => ?_); go_simp; refine hK _ ?_; clear hK K))
    exact rowWp_nil rfl
  clear f11
  refine drawn_next 3 (fuel := 12) rfl (by kernel_rfl) ?_
  intro K hK
  go_wp2_with fail
  refine (lbase_n HR_0.out hla Ba.out).mono ?_
  rintro e w13 ⟨rfl, F14⟩
  have h15 := (h9).call F14
  clear F14 h9
  simp only []
  go_wp2
  refine ⟨h15, ?_⟩
  refine drawn_next 5 (fuel := 11) rfl (by kernel_rfl) ?_
  intro K hK
  go_wp2_with fail
  refine (dlbase_n HR_0.out hla Ba.out).mono ?_
  rintro e w16 ⟨rfl, F17⟩
  have h18 := (h15).call F17
  clear F17 h15
  simp only []
  go_wp2
  refine ⟨h18, ?_⟩
  have s19 := h18
  rw [HL4.out] at s19
  have f20 := s19.nth 0 rfl
  clear s19
  refine drawn_reads (fuel := 5) [6, 7, 8, 9, 11, 12] rfl (by kernel_rfl) (h18) ?_
  repeat (first | (refine rowK_step2 rfl rfl (fun K hK => ?_); go_wp2) | (refine rowK_step rfl (fun K hK => ?_); go_simp; refine hK _ ?_; clear hK K))
  refine rowK_nil ⟨fun w' hw' => ?_, ?_⟩
  · rw [HL4.out] at hw'
    have g21 := hw'.nth 0 rfl
    clear f20
    repeat (first | (refine rowWp_step2 rfl rfl (fun K hK => ?_); go_wp2) | (refine rowWp_step rfl (fun K hK => ?_); go_simp; refine hK _ ?_; clear hK K))
    exact rowWp_nil rfl
  clear f20
  refine drawn_next 10 (fuel := 4) rfl (by kernel_rfl) ?_
  intro K hK
  go_wp2_with fail
  refine (lbase_n HR_0.out hla Ba.out).mono ?_
  rintro e w22 ⟨rfl, F23⟩
  have h24 := (h18).call F23
  clear F23 h18
  simp only []
  go_wp2
  refine ⟨h24, ?_⟩
  refine drawn_next 13 (fuel := 3) rfl (by kernel_rfl) ?_
  intro K hK
  go_wp2_with fail
  refine (lmul_n HR_0.out hla Ba.out rfl byt_9).mono ?_
  rintro e w25 ⟨rfl, F26⟩
  have h27 := (h24).call F26
  clear F26 h24
  simp only []
  go_wp2
  refine ⟨h27, ?_⟩
  refine drawn_reads (fuel := 0) [14, 15, 16] rfl (by kernel_rfl) (h27) ?_
  repeat (first | (refine rowK_step2 rfl rfl (fun K hK => ?_); go_wp2) | (refine rowK_step rfl (fun K hK => ?_); go_simp; refine hK _ ?_; clear hK K))
  refine rowK_nil ⟨fun w' hw' => ?_, ?_⟩
  · skip
    repeat (first | (refine rowWp_step2 rfl rfl (fun K hK => ?_); go_wp2) | (refine rowWp_step rfl (fun K hK => ?_); go_simp; refine hK _ ?_; clear hK K))
    exact rowWp_nil rfl
  refine drawn_end (ol := []) rfl (by kernel_rfl) ?_
  intro K hK
  go_wp2_with fail
  go_ret
  exact ⟨rfl, (h27).fr⟩

theorem ladderBases_walk (a : List Int) (hla : a.length = 32) (ha : Byt a) : Calls Try.prog 11 #[.agg (ints .u8 a)] w fun e w' => e = .returned (.bool true) ∧ Fr [] w w' :=
  ladderBases_walk_core a _ hla ha (len_ladB _ _) (byt_ladB _ _) rfl

end
end Go.Proofs.Ytakhmmnklkckpaa
