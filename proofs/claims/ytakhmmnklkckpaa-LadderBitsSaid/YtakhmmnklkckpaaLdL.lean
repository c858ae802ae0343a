/- LadderShared, LadderTurns: the walks. -/
import Derived.Test.YtakhmmnklkckpaaLdK
import Derived.Test.YtakhmmnklkckpaaLadJ
namespace Go.Proofs.Ytakhmmnklkckpaa
open Go.RowKit Go.Dr

section
variable {w : World}
theorem ladB_turn (a b c : List Int) : ladB a (ladB b c) = ladB b (ladB a c) := by
  unfold ladB
  rw [fromB_bytesF, fromB_bytesF, ladF_turn]

set_option maxRecDepth 100000 in
set_option maxHeartbeats 4000000 in
theorem ladderShared_walk_core (a b R T Q : List Int) (hla : a.length = 32) (ha : Byt a) (hlb : b.length = 32) (hb : Byt b) (lR : R.length = 32) (yR : Byt R) (lT : T.length = 32) (yT : Byt T) (lQ : Q.length = 32) (yQ : Byt Q) (hR_0 : ladB b (b1 9) = R) (hT_1 : ladB a R = T) (hQ_2 : ladB a (b1 9) = Q) (hT_3 : ladB b Q = T) : Calls Try.prog 12 #[.agg (ints .u8 a), .agg (ints .u8 b)] w fun e w' => e = .returned (.bool true) ∧ Fr [] w w' := by
  have Ba := Lib.hid ha
  clear ha
  have Bb := Lib.hid hb
  clear hb
  have YR := Lib.hid yR
  clear yR
  have YT := Lib.hid yT
  clear yT
  have YQ := Lib.hid yQ
  clear yQ
  have HR_0 := Lib.hid hR_0
  clear hR_0
  have HT_1 := Lib.hid hT_1
  clear hT_1
  have HQ_2 := Lib.hid hQ_2
  clear hQ_2
  have HT_3 := Lib.hid hT_3
  clear hT_3
  go_enter Try.func12, Try.ntmps12
  go_wp2_with fail
  refine Own.named (Q := fun X => Code.wp _ _ _ _ X) (show Own w [(w.heap.size + 1, .cells (ints .u8 (b)) 22), (w.heap.size, .cells (ints .u8 (a)) 22)] _ from (((Own.start w).allocN (.cells (ints .u8 (a)) 22) w.heap.size rfl).allocN (.cells (ints .u8 (b)) 22) (w.heap.size + 1) (by simp))) ?_
  intro V4 h3
  generalize w.heap.size + 1 = bk2 at h3 ⊢
  generalize w.heap.size = bk1 at h3 ⊢
  obtain ⟨L5, hL5⟩ : ∃ L : List (Nat × Obj), L = [(bk2, .cells (ints .u8 (b)) 22), (bk1, .cells (ints .u8 (a)) 22)] := ⟨_, rfl⟩
  rw [← hL5] at h3
  have HL5 := Lib.hid hL5
  clear hL5
  refine drawn_begin 13 (Own w L5) (by kernel_rfl) ?_
  refine Own.named (Q := fun X => Go.Dr.wpAnyS Try.prog .any _ _ _ _ _ _ _ X) (h3.drew) ?_
  intro V6 h7
  clear h3
  refine drawn_next 0 (fuel := 12) rfl (by kernel_rfl) ?_
  intro K hK
  go_wp2_with fail
  refine (lalive_any).mono ?_
  rintro e w8 ⟨rfl, F9⟩
  have h10 := (h7).call F9
  clear F9 h7
  simp only []
  go_wp2
  refine ⟨h10, ?_⟩
  have s11 := h10
  rw [HL5.out] at s11
  have f12 := s11.nth 1 rfl
  have f13 := s11.nth 0 rfl
  clear s11
  refine drawn_reads (fuel := 7) [1, 2, 3, 6, 7] rfl (by kernel_rfl) (h10) ?_
  repeat (first | (refine rowK_step2 rfl rfl (fun K hK => ?_); go_wp2) | (refine rowK_step rfl (fun K hK => ?_); go_simp; refine hK _ ?_; clear hK K))
  refine rowK_nil ⟨fun w' hw' => ?_, ?_⟩
  · rw [HL5.out] at hw'
    have g14 := hw'.nth 1 rfl
    have g15 := hw'.nth 0 rfl
    clear f12 f13
    repeat (first | (refine rowWp_step2 rfl rfl (fun K hK => ?_); go_wp2) | (refine rowWp_step rfl (fun K hK => ?_); go_simp; refine hK _ ?_; clear hK K))
    exact rowWp_nil rfl
  clear f12 f13
  refine drawn_next 4 (fuel := 6) rfl (by kernel_rfl) ?_
  intro K hK
  go_wp2_with fail
  refine (lbase_n HR_0.out hlb Bb.out).mono ?_
  rintro e w16 ⟨rfl, F17⟩
  have h18 := (h10).call F17
  clear F17 h10
  simp only []
  go_wp2
  refine ⟨h18, ?_⟩
  refine drawn_next 5 (fuel := 5) rfl (by kernel_rfl) ?_
  intro K hK
  go_wp2_with fail
  refine (lmul_n HT_1.out hla Ba.out lR YR.out).mono ?_
  rintro e w19 ⟨rfl, F20⟩
  have h21 := (h18).call F20
  clear F20 h18
  simp only []
  go_wp2
  refine ⟨h21, ?_⟩
  refine drawn_next 8 (fuel := 4) rfl (by kernel_rfl) ?_
  intro K hK
  go_wp2_with fail
  refine (lbase_n HQ_2.out hla Ba.out).mono ?_
  rintro e w22 ⟨rfl, F23⟩
  have h24 := (h21).call F23
  clear F23 h21
  simp only []
  go_wp2
  refine ⟨h24, ?_⟩
  refine drawn_next 9 (fuel := 3) rfl (by kernel_rfl) ?_
  intro K hK
  go_wp2_with fail
  refine (lmul_n HT_3.out hlb Bb.out lQ YQ.out).mono ?_
  rintro e w25 ⟨rfl, F26⟩
  have h27 := (h24).call F26
  clear F26 h24
  simp only []
  go_wp2
  refine ⟨h27, ?_⟩
  refine drawn_reads (fuel := 0) [10, 11, 12] rfl (by kernel_rfl) (h27) ?_
  repeat (first | (refine rowK_step2 rfl rfl (fun K hK => ?_); go_wp2) | (refine rowK_step rfl (fun K hK => ?_); go_simp; refine hK _ ?_; clear hK K))
  refine rowK_nil ⟨fun w' hw' => ?_, ?_⟩
  · skip
    repeat (first | (refine rowWp_step2 rfl rfl (fun K hK => ?_); go_wp2) | (refine rowWp_step rfl (fun K hK => ?_); go_simp; refine hK _ ?_; clear hK K))
    exact rowWp_nil rfl
  refine drawn_end (ol := []) rfl (by kernel_rfl) ?_
  intro K hK
  go_wp2_with fail
  go_ret
  exact ⟨rfl, (h27).fr⟩

theorem ladderShared_walk (a b : List Int) (hla : a.length = 32) (ha : Byt a) (hlb : b.length = 32) (hb : Byt b) : Calls Try.prog 12 #[.agg (ints .u8 a), .agg (ints .u8 b)] w fun e w' => e = .returned (.bool true) ∧ Fr [] w w' :=
  ladderShared_walk_core a b _ _ _ hla ha hlb hb (len_ladB _ _) (byt_ladB _ _) (len_ladB _ _) (byt_ladB _ _) (len_ladB _ _) (byt_ladB _ _) rfl rfl rfl (ladB_turn b a _)

set_option maxRecDepth 100000 in
set_option maxHeartbeats 4000000 in
theorem ladderTurns_walk_core (a b c R T Q : List Int) (hla : a.length = 32) (ha : Byt a) (hlb : b.length = 32) (hb : Byt b) (hlc : c.length = 32) (hc : Byt c) (lR : R.length = 32) (yR : Byt R) (lT : T.length = 32) (yT : Byt T) (lQ : Q.length = 32) (yQ : Byt Q) (hR_0 : ladB b c = R) (hT_1 : ladB a R = T) (hQ_2 : ladB a c = Q) (hT_3 : ladB b Q = T) : Calls Try.prog 13 #[.agg (ints .u8 a), .agg (ints .u8 b), .agg (ints .u8 c)] w fun e w' => e = .returned (.bool true) ∧ Fr [] w w' := by
  have Ba := Lib.hid ha
  clear ha
  have Bb := Lib.hid hb
  clear hb
  have Bc := Lib.hid hc
  clear hc
  have YR := Lib.hid yR
  clear yR
  have YT := Lib.hid yT
  clear yT
  have YQ := Lib.hid yQ
  clear yQ
  have HR_0 := Lib.hid hR_0
  clear hR_0
  have HT_1 := Lib.hid hT_1
  clear hT_1
  have HQ_2 := Lib.hid hQ_2
  clear hQ_2
  have HT_3 := Lib.hid hT_3
  clear hT_3
  go_enter Try.func13, Try.ntmps13
  go_wp2_with fail
  refine Own.named (Q := fun X => Code.wp _ _ _ _ X) (show Own w [(w.heap.size + 2, .cells (ints .u8 (c)) 22), (w.heap.size + 1, .cells (ints .u8 (b)) 22), (w.heap.size, .cells (ints .u8 (a)) 22)] _ from ((((Own.start w).allocN (.cells (ints .u8 (a)) 22) w.heap.size rfl).allocN (.cells (ints .u8 (b)) 22) (w.heap.size + 1) (by simp)).allocN (.cells (ints .u8 (c)) 22) (w.heap.size + 2) (by simp))) ?_
  intro V5 h4
  generalize w.heap.size + 2 = bk3 at h4 ⊢
  generalize w.heap.size + 1 = bk2 at h4 ⊢
  generalize w.heap.size = bk1 at h4 ⊢
  obtain ⟨L6, hL6⟩ : ∃ L : List (Nat × Obj), L = [(bk3, .cells (ints .u8 (c)) 22), (bk2, .cells (ints .u8 (b)) 22), (bk1, .cells (ints .u8 (a)) 22)] := ⟨_, rfl⟩
  rw [← hL6] at h4
  have HL6 := Lib.hid hL6
  clear hL6
  refine drawn_begin 15 (Own w L6) (by kernel_rfl) ?_
  refine Own.named (Q := fun X => Go.Dr.wpAnyS Try.prog .any _ _ _ _ _ _ _ X) (h4.drew) ?_
  intro V7 h8
  clear h4
  refine drawn_next 0 (fuel := 14) rfl (by kernel_rfl) ?_
  intro K hK
  go_wp2_with fail
  refine (lalive_any).mono ?_
  rintro e w9 ⟨rfl, F10⟩
  have h11 := (h8).call F10
  clear F10 h8
  simp only []
  go_wp2
  refine ⟨h11, ?_⟩
  have s12 := h11
  rw [HL6.out] at s12
  have f13 := s12.nth 2 rfl
  have f14 := s12.nth 1 rfl
  have f15 := s12.nth 0 rfl
  clear s12
  refine drawn_reads (fuel := 7) [1, 2, 3, 4, 7, 8, 9] rfl (by kernel_rfl) (h11) ?_
  repeat (first | (refine rowK_step2 rfl rfl (fun K hK => ?_); go_wp2) | (refine rowK_step rfl (fun K hK => ?_); go_simp; refine hK _ ?_; clear hK K))
  refine rowK_nil ⟨fun w' hw' => ?_, ?_⟩
  · rw [HL6.out] at hw'
    have g16 := hw'.nth 2 rfl
    have g17 := hw'.nth 1 rfl
    have g18 := hw'.nth 0 rfl
    clear f13 f14 f15
    repeat (first | (refine rowWp_step2 rfl rfl (fun K hK => ?_); go_wp2) | (refine rowWp_step rfl (fun K hK => ?_); go_simp; refine hK _ ?_; clear hK K))
    exact rowWp_nil rfl
  clear f13 f14 f15
  refine drawn_next 5 (fuel := 6) rfl (by kernel_rfl) ?_
  intro K hK
  go_wp2_with fail
  refine (lmul_n HR_0.out hlb Bb.out hlc Bc.out).mono ?_
  rintro e w19 ⟨rfl, F20⟩
  have h21 := (h11).call F20
  clear F20 h11
  simp only []
  go_wp2
  refine ⟨h21, ?_⟩
  refine drawn_next 6 (fuel := 5) rfl (by kernel_rfl) ?_
  intro K hK
  go_wp2_with fail
  refine (lmul_n HT_1.out hla Ba.out lR YR.out).mono ?_
  rintro e w22 ⟨rfl, F23⟩
  have h24 := (h21).call F23
  clear F23 h21
  simp only []
  go_wp2
  refine ⟨h24, ?_⟩
  refine drawn_next 10 (fuel := 4) rfl (by kernel_rfl) ?_
  intro K hK
  go_wp2_with fail
  refine (lmul_n HQ_2.out hla Ba.out hlc Bc.out).mono ?_
  rintro e w25 ⟨rfl, F26⟩
  have h27 := (h24).call F26
  clear F26 h24
  simp only []
  go_wp2
  refine ⟨h27, ?_⟩
  refine drawn_next 11 (fuel := 3) rfl (by kernel_rfl) ?_
  intro K hK
  go_wp2_with fail
  refine (lmul_n HT_3.out hlb Bb.out lQ YQ.out).mono ?_
  rintro e w28 ⟨rfl, F29⟩
  have h30 := (h27).call F29
  clear F29 h27
  simp only []
  go_wp2
  refine ⟨h30, ?_⟩
  refine drawn_reads (fuel := 0) [12, 13, 14] rfl (by kernel_rfl) (h30) ?_
  repeat (first | (refine rowK_step2 rfl rfl (fun K hK => ?_); go_wp2) | (refine rowK_step rfl (fun K hK => ?_); go_simp; refine hK _ ?_; clear hK K))
  refine rowK_nil ⟨fun w' hw' => ?_, ?_⟩
  · skip
    repeat (first | (refine rowWp_step2 rfl rfl (fun K hK => ?_); go_wp2) | (refine rowWp_step rfl (fun K hK => ?_); go_simp; refine hK _ ?_; clear hK K))
    exact rowWp_nil rfl
  refine drawn_end (ol := []) rfl (by kernel_rfl) ?_
  intro K hK
  go_wp2_with fail
  go_ret
  exact ⟨rfl, (h30).fr⟩

theorem ladderTurns_walk (a b c : List Int) (hla : a.length = 32) (ha : Byt a) (hlb : b.length = 32) (hb : Byt b) (hlc : c.length = 32) (hc : Byt c) : Calls Try.prog 13 #[.agg (ints .u8 a), .agg (ints .u8 b), .agg (ints .u8 c)] w fun e w' => e = .returned (.bool true) ∧ Fr [] w w' :=
  ladderTurns_walk_core a b c _ _ _ hla ha hlb hb hlc hc (len_ladB _ _) (byt_ladB _ _) (len_ladB _ _) (byt_ladB _ _) (len_ladB _ _) (byt_ladB _ _) rfl rfl rfl (ladB_turn b a _)

end
end Go.Proofs.Ytakhmmnklkckpaa
