/- Which bytes are a point: the document's Decode. Which bytes are a point: the document's Decode, where x is odd. -/
import Derived.Test.YtakhmmnklkckpaaZl
import Derived.Test.YtakhmmnklkckpaaZq
import Derived.Test.YtakhmmnklkckpaaZd
namespace Go.Proofs.Ytakhmmnklkckpaa
open Go.RowKit Go.Dr

section
variable {w : World}
/-- What the document's Decode gives, told by its steps. -/
def lowD (b : List Int) : List Int := b.set 31 ((el b 31).tmod 128)
def BadD (b C : List Int) (y r : Fp) (ro : Bool) (z : Fp) : Prop := ¬ bytesF y = C ∨ bytesF y = C ∧ ro = false ∨ bytesF y = C ∧ ro = true ∧ 128 ≤ el b 31 ∧ digs r.val = digs z.val
def GoodD (b C : List Int) (y r : Fp) (ro : Bool) (z X : Fp) : Prop := bytesF y = C ∧ ro = true ∧ (¬ 128 ≤ el b 31 ∧ X = r ∨ 128 ≤ el b 31 ∧ ¬ digs r.val = digs z.val ∧ X = -r)
def DecD (b C : List Int) (y r : Fp) (ro : Bool) (z o : Fp) (v : Value) (ok : Bool) : Prop :=
  (BadD b C y r ro z ∧ ok = false ∧ v = .agg (dpC z o o)) ∨ ∃ X, GoodD b C y r ro z X ∧ ok = true ∧ v = .agg (dpC X y o)

set_option maxRecDepth 100000 in
set_option maxHeartbeats 8000000 in
theorem ddec_no (b C : List Int) (y r d o z : Fp) (hl : b.length = 32) (hC : C = lowD b) (lC : C.length = 32) (bC : Byt C) (hy : fromB C = y) (hd : dE = d) (ho1 : toFp 1 = o) (hz0 : toFp 0 = z) (hr : r = rootF (((y * y) - o) * (inv ((d * (y * y)) + o)))) (ro : Bool) (hb : ¬ bytesF y = C) : Calls Try.prog 81 #[.agg (ints .u8 b)] w fun e w' => ∃ v ok, e = .returned (.tuple #[v, .bool ok]) ∧ DecD b C y r ro z o v ok ∧ Fr [] w w' := by
  have Hy2 : Hid (fromB (lowD b) = y) := Lib.hid (by rw [← hC]; exact hy)
  have lC2 : (lowD b).length = 32 := by rw [← hC]; exact lC
  have HB2 : Hid (Byt (lowD b)) := Lib.hid (by rw [← hC]; exact bC)
  have HC := Lib.hid hC
  have HB := Lib.hid bC
  have Hy := Lib.hid hy
  have Hr := Lib.hid hr
  have HD := Lib.hid hd
  have Ho1 := Lib.hid ho1
  have Hz0 := Lib.hid hz0
  clear hC bC hy hr hd ho1 hz0
  go_enter Try.func81, Try.ntmps81
  go_wp2_with fail
  refine (rof_n Hy2.out lC2 HB2.out).mono ?_
  rintro e w3 ⟨rfl, F4⟩
  have h5 : OwB w [(w.heap.size + 1, .cells (ints .i64 (List.replicate 48 0)) 51), (w.heap.size, .cells (ints .u8 (lowD b)) 22)] w3 := ((((OwB.start w).allocN (.cells (ints .u8 (lowD b)) 22) w.heap.size rfl).allocN (.cells (ints .i64 (List.replicate 48 0)) 51) (w.heap.size + 1) (by simp))).call F4
  clear F4
  simp only []
  generalize w.heap.size + 1 = bk2 at h5 ⊢
  generalize w.heap.size = bk1 at h5 ⊢
  rw [← HC.out] at h5
  obtain ⟨L6, hL6⟩ : ∃ L : List (Nat × Obj), L = [(bk2, .cells (ints .i64 (List.replicate 48 0)) 51), (bk1, .cells (ints .u8 (C)) 22)] := ⟨_, rfl⟩
  rw [← hL6] at h5
  have HL6 := Lib.hid hL6
  clear hL6
  go_wp2_with fail
  have s7 := h5
  rw [HL6.out] at s7
  refine OwB.named (Q := fun X => Code.wp _ _ _ _ X) (show OwB w [(w3.heap.size, .cells (ints .i64 (digs (y).val)) 32), (bk2, .cells (ints .i64 (List.replicate 48 0)) 51), (bk1, .cells (ints .u8 (C)) 22)] _ from (s7.allocN (.cells (ints .i64 (digs (y).val)) 32) (w3.heap.size) (by simp))) ?_
  intro V10 h9
  generalize w3.heap.size = bk8 at h9 ⊢
  clear s7 h5
  obtain ⟨L11, hL11⟩ : ∃ L : List (Nat × Obj), L = [(bk8, .cells (ints .i64 (digs (y).val)) 32), (bk2, .cells (ints .i64 (List.replicate 48 0)) 51), (bk1, .cells (ints .u8 (C)) 22)] := ⟨_, rfl⟩
  rw [← hL11] at h9
  have HL11 := Lib.hid hL11
  clear hL11
  refine drawn_begin 4 (OwB w L11) (by kernel_rfl) ?_
  refine OwB.named (Q := fun X => Go.Dr.wpAnyS Try.prog .any _ _ _ _ _ _ _ X) (h9.drew) ?_
  intro V12 h13
  clear h9
  have s14 := h13
  rw [HL11.out] at s14
  have f15 := s14.nth 0 rfl
  have f16 := s14.nth 2 rfl
  clear s14
  refine drawn_reads (fuel := 2) [0, 2] rfl (by kernel_rfl) (h13) ?_
  repeat (first | (refine rowK_step2 rfl rfl (fun K hK => ?_); go_wp2) | (refine rowK_step rfl (fun K hK => ?_); go_simp; refine hK _ ?_; clear hK K) | (refine rowK_step rfl (fun K hK => ?_); go_simp; refine ⟨by decide, hK _ ?_⟩; clear hK K))
  refine rowK_nil ⟨fun w' hw' => ?_, ?_⟩
  · rw [HL11.out] at hw'
    have g17 := hw'.nth 0 rfl
    have g18 := hw'.nth 2 rfl
    clear f15 f16
    repeat (first | (refine rowWp_step2 rfl rfl (fun K hK => ?_); go_wp2) | (refine rowWp_step rfl (fun K hK => ?_); go_simp; refine hK _ ?_; clear hK K) | (refine rowWp_step rfl (fun K hK => ?_); go_simp; refine ⟨by decide, hK _ ?_⟩; clear hK K))
    exact rowWp_nil rfl
  clear f15 f16
  refine drawn_next 1 (fuel := 1) rfl (by kernel_rfl) ?_
  intro K hK
  go_wp2_with fail
  refine (rbytes_f y).mono ?_
  rintro e w19 ⟨rfl, F20⟩
  have h21 := (h13).call F20
  clear F20 h13
  simp only []
  go_wp2
  refine ⟨h21, ?_⟩
  refine drawn_reads (fuel := 0) [3] rfl (by kernel_rfl) (h21) ?_
  repeat (first | (refine rowK_step2 rfl rfl (fun K hK => ?_); go_wp2) | (refine rowK_step rfl (fun K hK => ?_); go_simp; refine hK _ ?_; clear hK K) | (refine rowK_step rfl (fun K hK => ?_); go_simp; refine ⟨by decide, hK _ ?_⟩; clear hK K))
  refine rowK_nil ⟨fun w' hw' => ?_, ?_⟩
  · skip
    repeat (first | (refine rowWp_step2 rfl rfl (fun K hK => ?_); go_wp2) | (refine rowWp_step rfl (fun K hK => ?_); go_simp; refine hK _ ?_; clear hK K) | (refine rowWp_step rfl (fun K hK => ?_); go_simp; refine ⟨by decide, hK _ ?_⟩; clear hK K))
    exact rowWp_nil rfl
  refine drawn_end (ol := []) rfl (by kernel_rfl) ?_
  intro K hK
  go_wp2_with fail
  refine (dzero_core _ _ Hz0.out Ho1.out).mono ?_
  rintro e w22 ⟨rfl, F23⟩
  have s25 := h21
  rw [HL11.out] at s25
  have h24 : OwB w [(bk8, .cells (ints .i64 (digs (y).val)) 32), (bk2, .cells (ints .i64 (List.replicate 48 0)) 51), (bk1, .cells (ints .u8 (C)) 22)] w22 := (s25).call F23
  clear F23
  simp only []
  clear s25 h21
  obtain ⟨L26, hL26⟩ : ∃ L : List (Nat × Obj), L = [(bk8, .cells (ints .i64 (digs (y).val)) 32), (bk2, .cells (ints .i64 (List.replicate 48 0)) 51), (bk1, .cells (ints .u8 (C)) 22)] := ⟨_, rfl⟩
  rw [← hL26] at h24
  have HL26 := Lib.hid hL26
  clear hL26
  have s27 := h24
  rw [HL26.out] at s27
  have f28 := s27.nth 1 rfl
  have t29 := s27.lt 1 rfl
  clear s27
  go_wp2_with fail
  clear f28 t29
  have s30 := h24
  rw [HL26.out] at s30
  refine OwB.named (Q := fun X => bodyPost _ _ _ _ _ X) (show OwB w [(bk8, .cells (ints .i64 (digs (y).val)) 32), (bk2, .cells (dpC z o o) 51), (bk1, .cells (ints .u8 (C)) 22)] _ from (s30.set 1 (.cells (dpC z o o) 51) rfl)) ?_
  intro V32 h31
  clear s30 h24
  obtain ⟨L33, hL33⟩ : ∃ L : List (Nat × Obj), L = [(bk8, .cells (ints .i64 (digs (y).val)) 32), (bk2, .cells (dpC z o o) 51), (bk1, .cells (ints .u8 (C)) 22)] := ⟨_, rfl⟩
  rw [← hL33] at h31
  have HL33 := Lib.hid hL33
  clear hL33
  have s34 := h31
  rw [HL33.out] at s34
  refine ret_cell_tmp rfl rfl rfl ?_
  refine cellRet_of (s34.nth 1 rfl) (by rw [size_dpC]; kernel_rfl) ?_
  exact ⟨_, _, rfl, .inl ⟨Or.inl hb, rfl, rfl⟩, s34.fr⟩

set_option maxRecDepth 100000 in
set_option maxHeartbeats 8000000 in
theorem ddec_none (b C : List Int) (y r d o z : Fp) (hl : b.length = 32) (hC : C = lowD b) (lC : C.length = 32) (bC : Byt C) (hy : fromB C = y) (hd : dE = d) (ho1 : toFp 1 = o) (hz0 : toFp 0 = z) (hr : r = rootF (((y * y) - o) * (inv ((d * (y * y)) + o)))) (ho : false = rootOk (((y * y) - o) * (inv ((d * (y * y)) + o)))) (hb : bytesF y = C) : Calls Try.prog 81 #[.agg (ints .u8 b)] w fun e w' => ∃ v ok, e = .returned (.tuple #[v, .bool ok]) ∧ DecD b C y r false z o v ok ∧ Fr [] w w' := by
  have Hy2 : Hid (fromB (lowD b) = y) := Lib.hid (by rw [← hC]; exact hy)
  have lC2 : (lowD b).length = 32 := by rw [← hC]; exact lC
  have HB2 : Hid (Byt (lowD b)) := Lib.hid (by rw [← hC]; exact bC)
  have HC := Lib.hid hC
  have HB := Lib.hid bC
  have Hy := Lib.hid hy
  have Hr := Lib.hid hr
  have HD := Lib.hid hd
  have Ho1 := Lib.hid ho1
  have Hz0 := Lib.hid hz0
  clear hC bC hy hr hd ho1 hz0
  have Ho := Lib.hid ho
  clear ho
  go_enter Try.func81, Try.ntmps81
  go_wp2_with fail
  refine (rof_n Hy2.out lC2 HB2.out).mono ?_
  rintro e w3 ⟨rfl, F4⟩
  have h5 : OwB w [(w.heap.size + 1, .cells (ints .i64 (List.replicate 48 0)) 51), (w.heap.size, .cells (ints .u8 (lowD b)) 22)] w3 := ((((OwB.start w).allocN (.cells (ints .u8 (lowD b)) 22) w.heap.size rfl).allocN (.cells (ints .i64 (List.replicate 48 0)) 51) (w.heap.size + 1) (by simp))).call F4
  clear F4
  simp only []
  generalize w.heap.size + 1 = bk2 at h5 ⊢
  generalize w.heap.size = bk1 at h5 ⊢
  rw [← HC.out] at h5
  obtain ⟨L6, hL6⟩ : ∃ L : List (Nat × Obj), L = [(bk2, .cells (ints .i64 (List.replicate 48 0)) 51), (bk1, .cells (ints .u8 (C)) 22)] := ⟨_, rfl⟩
  rw [← hL6] at h5
  have HL6 := Lib.hid hL6
  clear hL6
  go_wp2_with fail
  have s7 := h5
  rw [HL6.out] at s7
  refine OwB.named (Q := fun X => Code.wp _ _ _ _ X) (show OwB w [(w3.heap.size, .cells (ints .i64 (digs (y).val)) 32), (bk2, .cells (ints .i64 (List.replicate 48 0)) 51), (bk1, .cells (ints .u8 (C)) 22)] _ from (s7.allocN (.cells (ints .i64 (digs (y).val)) 32) (w3.heap.size) (by simp))) ?_
  intro V10 h9
  generalize w3.heap.size = bk8 at h9 ⊢
  clear s7 h5
  obtain ⟨L11, hL11⟩ : ∃ L : List (Nat × Obj), L = [(bk8, .cells (ints .i64 (digs (y).val)) 32), (bk2, .cells (ints .i64 (List.replicate 48 0)) 51), (bk1, .cells (ints .u8 (C)) 22)] := ⟨_, rfl⟩
  rw [← hL11] at h9
  have HL11 := Lib.hid hL11
  clear hL11
  refine drawn_begin 4 (OwB w L11) (by kernel_rfl) ?_
  refine OwB.named (Q := fun X => Go.Dr.wpAnyS Try.prog .any _ _ _ _ _ _ _ X) (h9.drew) ?_
  intro V12 h13
  clear h9
  have s14 := h13
  rw [HL11.out] at s14
  have f15 := s14.nth 0 rfl
  have f16 := s14.nth 2 rfl
  clear s14
  refine drawn_reads (fuel := 2) [0, 2] rfl (by kernel_rfl) (h13) ?_
  repeat (first | (refine rowK_step2 rfl rfl (fun K hK => ?_); go_wp2) | (refine rowK_step rfl (fun K hK => ?_); go_simp; refine hK _ ?_; clear hK K) | (refine rowK_step rfl (fun K hK => ?_); go_simp; refine ⟨by decide, hK _ ?_⟩; clear hK K))
  refine rowK_nil ⟨fun w' hw' => ?_, ?_⟩
  · rw [HL11.out] at hw'
    have g17 := hw'.nth 0 rfl
    have g18 := hw'.nth 2 rfl
    clear f15 f16
    repeat (first | (refine rowWp_step2 rfl rfl (fun K hK => ?_); go_wp2) | (refine rowWp_step rfl (fun K hK => ?_); go_simp; refine hK _ ?_; clear hK K) | (refine rowWp_step rfl (fun K hK => ?_); go_simp; refine ⟨by decide, hK _ ?_⟩; clear hK K))
    exact rowWp_nil rfl
  clear f15 f16
  refine drawn_next 1 (fuel := 1) rfl (by kernel_rfl) ?_
  intro K hK
  go_wp2_with fail
  refine (rbytes_f y).mono ?_
  rintro e w19 ⟨rfl, F20⟩
  have h21 := (h13).call F20
  clear F20 h13
  simp only []
  go_wp2
  refine ⟨h21, ?_⟩
  refine drawn_reads (fuel := 0) [3] rfl (by kernel_rfl) (h21) ?_
  repeat (first | (refine rowK_step2 rfl rfl (fun K hK => ?_); go_wp2) | (refine rowK_step rfl (fun K hK => ?_); go_simp; refine hK _ ?_; clear hK K) | (refine rowK_step rfl (fun K hK => ?_); go_simp; refine ⟨by decide, hK _ ?_⟩; clear hK K))
  refine rowK_nil ⟨fun w' hw' => ?_, ?_⟩
  · skip
    repeat (first | (refine rowWp_step2 rfl rfl (fun K hK => ?_); go_wp2) | (refine rowWp_step rfl (fun K hK => ?_); go_simp; refine hK _ ?_; clear hK K) | (refine rowWp_step rfl (fun K hK => ?_); go_simp; refine ⟨by decide, hK _ ?_⟩; clear hK K))
    exact rowWp_nil rfl
  refine drawn_end (ol := []) rfl (by kernel_rfl) ?_
  intro K hK
  have s22 := h21
  rw [HL11.out] at s22
  have f23 := s22.nth 0 rfl
  have t24 := s22.lt 0 rfl
  clear s22
  go_wp2_with fail
  clear f23 t24
  refine (rmul_f y y).mono ?_
  rintro e w25 ⟨rfl, F26⟩
  have s28 := h21
  rw [HL11.out] at s28
  have h27 : OwB w [(bk8, .cells (ints .i64 (digs (y).val)) 32), (bk2, .cells (ints .i64 (List.replicate 48 0)) 51), (bk1, .cells (ints .u8 (C)) 22)] w25 := (s28).call F26
  clear F26
  simp only []
  clear s28 h21
  obtain ⟨L29, hL29⟩ : ∃ L : List (Nat × Obj), L = [(bk8, .cells (ints .i64 (digs (y).val)) 32), (bk2, .cells (ints .i64 (List.replicate 48 0)) 51), (bk1, .cells (ints .u8 (C)) 22)] := ⟨_, rfl⟩
  rw [← hL29] at h27
  have HL29 := Lib.hid hL29
  clear hL29
  go_wp2_with fail
  have s30 := h27
  rw [HL29.out] at s30
  refine (small_n 1 (by decide) Ho1.out).mono ?_
  rintro e w32 ⟨rfl, F33⟩
  have h34 : OwB w [(w25.heap.size, .cells (ints .i64 (digs ((y * y)).val)) 32), (bk8, .cells (ints .i64 (digs (y).val)) 32), (bk2, .cells (ints .i64 (List.replicate 48 0)) 51), (bk1, .cells (ints .u8 (C)) 22)] w32 := ((s30.allocN (.cells (ints .i64 (digs ((y * y)).val)) 32) (w25.heap.size) (by simp))).call F33
  clear F33
  simp only []
  generalize w25.heap.size = bk31 at h34 ⊢
  clear s30 h27
  obtain ⟨L35, hL35⟩ : ∃ L : List (Nat × Obj), L = [(bk31, .cells (ints .i64 (digs ((y * y)).val)) 32), (bk8, .cells (ints .i64 (digs (y).val)) 32), (bk2, .cells (ints .i64 (List.replicate 48 0)) 51), (bk1, .cells (ints .u8 (C)) 22)] := ⟨_, rfl⟩
  rw [← hL35] at h34
  have HL35 := Lib.hid hL35
  clear hL35
  go_wp2_with fail
  have s36 := h34
  rw [HL35.out] at s36
  refine OwB.named (Q := fun X => Code.wp _ _ _ _ X) (show OwB w [(w32.heap.size, .cells (ints .i64 (digs (o).val)) 32), (bk31, .cells (ints .i64 (digs ((y * y)).val)) 32), (bk8, .cells (ints .i64 (digs (y).val)) 32), (bk2, .cells (ints .i64 (List.replicate 48 0)) 51), (bk1, .cells (ints .u8 (C)) 22)] _ from (s36.allocN (.cells (ints .i64 (digs (o).val)) 32) (w32.heap.size) (by simp))) ?_
  intro V39 h38
  generalize w32.heap.size = bk37 at h38 ⊢
  clear s36 h34
  obtain ⟨L40, hL40⟩ : ∃ L : List (Nat × Obj), L = [(bk37, .cells (ints .i64 (digs (o).val)) 32), (bk31, .cells (ints .i64 (digs ((y * y)).val)) 32), (bk8, .cells (ints .i64 (digs (y).val)) 32), (bk2, .cells (ints .i64 (List.replicate 48 0)) 51), (bk1, .cells (ints .u8 (C)) 22)] := ⟨_, rfl⟩
  rw [← hL40] at h38
  have HL40 := Lib.hid hL40
  clear hL40
  refine drawn_begin 16 (OwB w L40) (by kernel_rfl) ?_
  refine OwB.named (Q := fun X => Go.Dr.wpAnyS Try.prog .any _ _ _ _ _ _ _ X) (h38.drew) ?_
  intro V41 h42
  clear h38
  have s43 := h42
  rw [HL40.out] at s43
  have f44 := s43.nth 1 rfl
  have f45 := s43.nth 0 rfl
  clear s43
  refine drawn_reads (fuel := 13) [0, 1, 4, 6] rfl (by kernel_rfl) (h42) ?_
  repeat (first | (refine rowK_step2 rfl rfl (fun K hK => ?_); go_wp2) | (refine rowK_step rfl (fun K hK => ?_); go_simp; refine hK _ ?_; clear hK K) | (refine rowK_step rfl (fun K hK => ?_); go_simp; refine ⟨by decide, hK _ ?_⟩; clear hK K))
  refine rowK_nil ⟨fun w' hw' => ?_, ?_⟩
  · rw [HL40.out] at hw'
    have g46 := hw'.nth 1 rfl
    have g47 := hw'.nth 0 rfl
    clear f44 f45
    repeat (first | (refine rowWp_step2 rfl rfl (fun K hK => ?_); go_wp2) | (refine rowWp_step rfl (fun K hK => ?_); go_simp; refine hK _ ?_; clear hK K) | (refine rowWp_step rfl (fun K hK => ?_); go_simp; refine ⟨by decide, hK _ ?_⟩; clear hK K))
    exact rowWp_nil rfl
  clear f44 f45
  obtain ⟨p, hp⟩ : ∃ p : Par3, p = ⟨[(2, 31, fun v => v = dF (((y * y) - o))), (3, 32, fun v => v = dF (d)), (5, 34, fun v => v = dF ((d * (y * y)))), (7, 36, fun v => v = dF (((d * (y * y)) + o))), (8, 37, fun v => v = dF ((inv ((d * (y * y)) + o)))), (9, 38, fun v => v = dF ((((y * y) - o) * (inv ((d * (y * y)) + o))))), (10, 39, fun v => v = .tuple #[dF (r), .bool false]), (11, 28, fun v => v = .tuple #[dF (r), .bool false]), (12, 40, fun v => v = dF (r)), (13, 41, fun v => v = .bool false)], [(14, 8, .cells (ints .i64 (List.replicate 16 0)) 32, 15, .cells (ints .i64 (digs (r).val)) 32)], [0, 1, 4, 6]⟩ := ⟨_, rfl⟩
  have ok : p.ok := Par3.ok_of (by rw [hp]; rfl)
  refine drawn_inv2 16 (N := 16) (rest := 1) [31, 32, 34, 36, 37, 38, 39, 28, 40, 41, 8] (fun L s w => p.Inv V41 L s w) (fun _ => undef) 12 (by kernel_rfl) (fun L s w h => ?_) (by kernel_rfl) ?_ ?_ ?_
  · exact h42.call h.fr
  · refine Par3.Inv.start ?_ ?_ ?_ ?_ <;> rw [hp] <;> intro i hi <;> simp at hi
    · rcases hi with rfl | rfl | rfl | rfl <;> rfl
    · rcases hi with rfl | rfl | rfl | rfl | rfl | rfl | rfl | rfl | rfl | rfl <;> rfl
    · subst hi; rfl
    · subst hi; rfl
  · intro i o L s w ho hi hL hd h K hK
    rcases (show i = 0 ∨ i = 1 ∨ i = 2 ∨ i = 3 ∨ i = 4 ∨ i = 5 ∨ i = 6 ∨ i = 7 ∨ i = 8 ∨ i = 9 ∨ i = 10 ∨ i = 11 ∨ i = 12 ∨ i = 13 ∨ i = 14 ∨ i = 15 by omega) with rfl | rfl | rfl | rfl | rfl | rfl | rfl | rfl | rfl | rfl | rfl | rfl | rfl | rfl | rfl | rfl
    · rw [h.row 0 (by rw [hp]; simp)] at hL; cases hL
    · rw [h.row 1 (by rw [hp]; simp)] at hL; cases hL
    · injection (show some _ = some o from ho) with ho; subst ho
      simp only [fill]
      go_wp2_with fail
      refine (rsub_f (y * y) o).mono ?_
      rintro e w2 ⟨rfl, F⟩
      simp only []
      go_wp2
      exact ⟨_, by kernel_rfl, h.called ok (2, 31, fun v => v = dF (((y * y) - o))) (by rw [hp]; simp) F rfl⟩
    · injection (show some _ = some o from ho) with ho; subst ho
      simp only [fill]
      go_wp2_with fail
      refine (dfactor_n HD.out).mono ?_
      rintro e w2 ⟨rfl, F⟩
      simp only []
      go_wp2
      exact ⟨_, by kernel_rfl, h.called ok (3, 32, fun v => v = dF (d)) (by rw [hp]; simp) F rfl⟩
    · rw [h.row 4 (by rw [hp]; simp)] at hL; cases hL
    · injection (show some _ = some o from ho) with ho; subst ho
      have l32 : L 3 = true := after_on hd (by kernel_rfl)
      have e32 := h.call (3, 32, fun v => v = dF (d)) (by rw [hp]; simp) l32
      have ct : Calls Try.prog 37 #[s 32, dF ((y * y))] w (fun e w' => e = .returned (dF ((d * (y * y)))) ∧ Fr [] w w') := by
        simp only [] at e32
        rw [e32]
        exact rmul_f d (y * y)
      clear e32 l32
      simp only [fill]
      go_wp2_with fail
      refine (ct).mono ?_
      rintro e w2 ⟨rfl, F⟩
      simp only []
      go_wp2
      exact ⟨_, by kernel_rfl, h.called ok (5, 34, fun v => v = dF ((d * (y * y)))) (by rw [hp]; simp) F rfl⟩
    · rw [h.row 6 (by rw [hp]; simp)] at hL; cases hL
    · injection (show some _ = some o from ho) with ho; subst ho
      have l34 : L 5 = true := after_on hd (by kernel_rfl)
      have e34 := h.call (5, 34, fun v => v = dF ((d * (y * y)))) (by rw [hp]; simp) l34
      have ct : Calls Try.prog 31 #[s 34, dF (o)] w (fun e w' => e = .returned (dF (((d * (y * y)) + o))) ∧ Fr [] w w') := by
        simp only [] at e34
        rw [e34]
        exact radd_f (d * (y * y)) o
      clear e34 l34
      simp only [fill]
      go_wp2_with fail
      refine (ct).mono ?_
      rintro e w2 ⟨rfl, F⟩
      simp only []
      go_wp2
      exact ⟨_, by kernel_rfl, h.called ok (7, 36, fun v => v = dF (((d * (y * y)) + o))) (by rw [hp]; simp) F rfl⟩
    · injection (show some _ = some o from ho) with ho; subst ho
      have l36 : L 7 = true := after_on hd (by kernel_rfl)
      have e36 := h.call (7, 36, fun v => v = dF (((d * (y * y)) + o))) (by rw [hp]; simp) l36
      have ct : Calls Try.prog 41 #[s 36] w (fun e w' => e = .returned (dF ((inv ((d * (y * y)) + o)))) ∧ Fr [] w w') := by
        simp only [] at e36
        rw [e36]
        exact rinv_f ((d * (y * y)) + o)
      clear e36 l36
      simp only [fill]
      go_wp2_with fail
      refine (ct).mono ?_
      rintro e w2 ⟨rfl, F⟩
      simp only []
      go_wp2
      exact ⟨_, by kernel_rfl, h.called ok (8, 37, fun v => v = dF ((inv ((d * (y * y)) + o)))) (by rw [hp]; simp) F rfl⟩
    · injection (show some _ = some o from ho) with ho; subst ho
      have l31 : L 2 = true := after_on hd (by kernel_rfl)
      have e31 := h.call (2, 31, fun v => v = dF (((y * y) - o))) (by rw [hp]; simp) l31
      have l37 : L 8 = true := after_on hd (by kernel_rfl)
      have e37 := h.call (8, 37, fun v => v = dF ((inv ((d * (y * y)) + o)))) (by rw [hp]; simp) l37
      have ct : Calls Try.prog 37 #[s 31, s 37] w (fun e w' => e = .returned (dF ((((y * y) - o) * (inv ((d * (y * y)) + o))))) ∧ Fr [] w w') := by
        simp only [] at e31 e37
        rw [e31, e37]
        exact rmul_f ((y * y) - o) (inv ((d * (y * y)) + o))
      clear e31 l31 e37 l37
      simp only [fill]
      go_wp2_with fail
      refine (ct).mono ?_
      rintro e w2 ⟨rfl, F⟩
      simp only []
      go_wp2
      exact ⟨_, by kernel_rfl, h.called ok (9, 38, fun v => v = dF ((((y * y) - o) * (inv ((d * (y * y)) + o))))) (by rw [hp]; simp) F rfl⟩
    · injection (show some _ = some o from ho) with ho; subst ho
      have l38 : L 9 = true := after_on hd (by kernel_rfl)
      have e38 := h.call (9, 38, fun v => v = dF ((((y * y) - o) * (inv ((d * (y * y)) + o))))) (by rw [hp]; simp) l38
      have ct : Calls Try.prog 39 #[s 38] w (fun e w' => e = .returned (.tuple #[dF (r), .bool false]) ∧ Fr [] w w') := by
        simp only [] at e38
        rw [e38]
        exact rroot_nm Ho.out Hr.out
      clear e38 l38
      simp only [fill]
      go_wp2_with fail
      refine (ct).mono ?_
      rintro e w2 ⟨rfl, F⟩
      simp only []
      go_wp2
      exact ⟨_, by kernel_rfl, h.called ok (10, 39, fun v => v = .tuple #[dF (r), .bool false]) (by rw [hp]; simp) F rfl⟩
    · injection (show some _ = some o from ho) with ho; subst ho
      have l39 : L 10 = true := after_on hd (by kernel_rfl)
      have e39 := h.call (10, 39, fun v => v = .tuple #[dF (r), .bool false]) (by rw [hp]; simp) l39
      simp only [] at e39
      simp only [fill, e39]
      go_wp2
      exact ⟨_, by simp only [fill, set1, Nat.reduceEqDiff, reduceIte, e39]; kernel_rfl, h.called ok (11, 28, fun v => v = .tuple #[dF (r), .bool false]) (by rw [hp]; simp) (Fr.refl _ _) rfl⟩
    · injection (show some _ = some o from ho) with ho; subst ho
      have l28 : L 11 = true := after_on hd (by kernel_rfl)
      have e28 := h.call (11, 28, fun v => v = .tuple #[dF (r), .bool false]) (by rw [hp]; simp) l28
      simp only [] at e28
      simp only [fill, e28]
      go_wp2
      exact ⟨_, by simp only [fill, set1, Nat.reduceEqDiff, reduceIte, e28]; kernel_rfl, h.called ok (12, 40, fun v => v = dF (r)) (by rw [hp]; simp) (Fr.refl _ _) rfl⟩
    · injection (show some _ = some o from ho) with ho; subst ho
      have l28 : L 11 = true := after_on hd (by kernel_rfl)
      have e28 := h.call (11, 28, fun v => v = .tuple #[dF (r), .bool false]) (by rw [hp]; simp) l28
      simp only [] at e28
      simp only [fill, e28]
      go_wp2
      exact ⟨_, by simp only [fill, set1, Nat.reduceEqDiff, reduceIte, e28]; kernel_rfl, h.called ok (13, 41, fun v => v = .bool false) (by rw [hp]; simp) (Fr.refl _ _) rfl⟩
    · injection (show some _ = some o from ho) with ho; subst ho
      simp only [fill]
      go_wp2
      exact ⟨_, by kernel_rfl, h.made ok (14, 8, .cells (ints .i64 (List.replicate 16 0)) 32, 15, .cells (ints .i64 (digs (r).val)) 32) (by rw [hp]; simp) hL⟩
    · injection (show some _ = some o from ho) with ho; subst ho
      have lr : L 14 = true := after_on hd (by kernel_rfl)
      obtain ⟨b, er, _, mr⟩ := h.room (14, 8, .cells (ints .i64 (List.replicate 16 0)) 32, 15, .cells (ints .i64 (digs (r).val)) 32) (by rw [hp]; simp) lr
      have hst := h.stored ok (14, 8, .cells (ints .i64 (List.replicate 16 0)) 32, 15, .cells (ints .i64 (digs (r).val)) 32) (by rw [hp]; simp) lr er
      simp only [] at er mr hst
      rw [hL, if_neg Bool.false_ne_true] at mr
      have br := World.at_lt mr
      have lv : L 12 = true := after_on hd (by kernel_rfl)
      have ev := h.call (12, 40, fun v => v = dF (r)) (by rw [hp]; simp) lv
      simp only [] at ev
      simp only [fill, er, ev]
      go_wp2
      exact ⟨_, by simp only [fill, er, ev]; kernel_rfl, hst⟩
  intro s w48 h
  have e49 := h.call (2, 31, fun v => v = dF (((y * y) - o))) (by rw [hp]; simp) rfl
  have e50 := h.call (3, 32, fun v => v = dF (d)) (by rw [hp]; simp) rfl
  have e51 := h.call (5, 34, fun v => v = dF ((d * (y * y)))) (by rw [hp]; simp) rfl
  have e52 := h.call (7, 36, fun v => v = dF (((d * (y * y)) + o))) (by rw [hp]; simp) rfl
  have e53 := h.call (8, 37, fun v => v = dF ((inv ((d * (y * y)) + o)))) (by rw [hp]; simp) rfl
  have e54 := h.call (9, 38, fun v => v = dF ((((y * y) - o) * (inv ((d * (y * y)) + o))))) (by rw [hp]; simp) rfl
  have e55 := h.call (10, 39, fun v => v = .tuple #[dF (r), .bool false]) (by rw [hp]; simp) rfl
  have e56 := h.call (11, 28, fun v => v = .tuple #[dF (r), .bool false]) (by rw [hp]; simp) rfl
  have e57 := h.call (12, 40, fun v => v = dF (r)) (by rw [hp]; simp) rfl
  have e58 := h.call (13, 41, fun v => v = .bool false) (by rw [hp]; simp) rfl
  obtain ⟨bk59, e60, l61, m62⟩ := h.room (14, 8, .cells (ints .i64 (List.replicate 16 0)) 32, 15, .cells (ints .i64 (digs (r).val)) 32) (by rw [hp]; simp) rfl
  simp only [] at e49 e50 e51 e52 e53 e54 e55 e56 e57 e58 e60 m62
  rw [decide_eq_true (by decide : 15 < 16), if_pos rfl] at m62
  have h63 := h42.call h.fr
  simp only [fill, e49, e50, e51, e52, e53, e54, e55, e56, e57, e58, e60]
  have h64 := (h63.room m62 (h42.fresh l61) (Nat.le_trans h42.fr.size l61))
  rw [HL40.out] at h64
  clear e49 e50 e51 e52 e53 e54 e55 e56 e57 e58 e60  l61 m62 h63 h ok hp h42 p
  obtain ⟨L65, hL65⟩ : ∃ L : List (Nat × Obj), L = [(bk59, .cells (ints .i64 (digs (r).val)) 32), (bk37, .cells (ints .i64 (digs (o).val)) 32), (bk31, .cells (ints .i64 (digs ((y * y)).val)) 32), (bk8, .cells (ints .i64 (digs (y).val)) 32), (bk2, .cells (ints .i64 (List.replicate 48 0)) 51), (bk1, .cells (ints .u8 (C)) 22)] := ⟨_, rfl⟩
  rw [← hL65] at h64
  have HL65 := Lib.hid hL65
  clear hL65
  refine drawn_end (ol := [_]) rfl (by kernel_rfl) ?_
  intro K hK
  go_wp2_with fail
  refine drawn_begin 10 (OwB w L65) (by kernel_rfl) ?_
  refine OwB.named (Q := fun X => Go.Dr.wpAnyS Try.prog .any _ _ _ _ _ _ _ X) (h64.drew) ?_
  intro V66 h67
  clear h64
  refine drawn_reads (fuel := 7) [0, 1, 2] rfl (by kernel_rfl) (h67) ?_
  repeat (first | (refine rowK_step2 rfl rfl (fun K hK => ?_); go_wp2) | (refine rowK_step rfl (fun K hK => ?_); go_simp; refine hK _ ?_; clear hK K) | (refine rowK_step rfl (fun K hK => ?_); go_simp; refine ⟨by decide, hK _ ?_⟩; clear hK K))
  refine rowK_nil ⟨fun w' hw' => ?_, ?_⟩
  · skip
    repeat (first | (refine rowWp_step2 rfl rfl (fun K hK => ?_); go_wp2) | (refine rowWp_step rfl (fun K hK => ?_); go_simp; refine hK _ ?_; clear hK K) | (refine rowWp_step rfl (fun K hK => ?_); go_simp; refine ⟨by decide, hK _ ?_⟩; clear hK K))
    exact rowWp_nil rfl
  refine drawn_reads (fuel := 0) [3, 4, 5, 6, 7, 8, 9] rfl (by kernel_rfl) (h67) ?_
  repeat (first | (refine rowK_step2 rfl rfl (fun K hK => ?_); go_wp2) | (refine rowK_step rfl (fun K hK => ?_); go_simp; refine hK _ ?_; clear hK K) | (refine rowK_step rfl (fun K hK => ?_); go_simp; refine ⟨by decide, hK _ ?_⟩; clear hK K))
  refine rowK_nil ⟨fun w' hw' => ?_, ?_⟩
  · skip
    repeat (first | (refine rowWp_step2 rfl rfl (fun K hK => ?_); go_wp2) | (refine rowWp_step rfl (fun K hK => ?_); go_simp; refine hK _ ?_; clear hK K) | (refine rowWp_step rfl (fun K hK => ?_); go_simp; refine ⟨by decide, hK _ ?_⟩; clear hK K))
    exact rowWp_nil rfl
  refine drawn_end (ol := []) rfl (by kernel_rfl) ?_
  intro K hK
  go_wp2_with fail
  refine (dzero_core _ _ Hz0.out Ho1.out).mono ?_
  rintro e w68 ⟨rfl, F69⟩
  have s71 := h67
  rw [HL65.out] at s71
  have h70 : OwB w [(bk59, .cells (ints .i64 (digs (r).val)) 32), (bk37, .cells (ints .i64 (digs (o).val)) 32), (bk31, .cells (ints .i64 (digs ((y * y)).val)) 32), (bk8, .cells (ints .i64 (digs (y).val)) 32), (bk2, .cells (ints .i64 (List.replicate 48 0)) 51), (bk1, .cells (ints .u8 (C)) 22)] w68 := (s71).call F69
  clear F69
  simp only []
  clear s71 h67
  obtain ⟨L72, hL72⟩ : ∃ L : List (Nat × Obj), L = [(bk59, .cells (ints .i64 (digs (r).val)) 32), (bk37, .cells (ints .i64 (digs (o).val)) 32), (bk31, .cells (ints .i64 (digs ((y * y)).val)) 32), (bk8, .cells (ints .i64 (digs (y).val)) 32), (bk2, .cells (ints .i64 (List.replicate 48 0)) 51), (bk1, .cells (ints .u8 (C)) 22)] := ⟨_, rfl⟩
  rw [← hL72] at h70
  have HL72 := Lib.hid hL72
  clear hL72
  have s73 := h70
  rw [HL72.out] at s73
  have f74 := s73.nth 4 rfl
  have t75 := s73.lt 4 rfl
  clear s73
  go_wp2_with fail
  clear f74 t75
  have s76 := h70
  rw [HL72.out] at s76
  refine OwB.named (Q := fun X => bodyPost _ _ _ _ _ X) (show OwB w [(bk59, .cells (ints .i64 (digs (r).val)) 32), (bk37, .cells (ints .i64 (digs (o).val)) 32), (bk31, .cells (ints .i64 (digs ((y * y)).val)) 32), (bk8, .cells (ints .i64 (digs (y).val)) 32), (bk2, .cells (dpC z o o) 51), (bk1, .cells (ints .u8 (C)) 22)] _ from (s76.set 4 (.cells (dpC z o o) 51) rfl)) ?_
  intro V78 h77
  clear s76 h70
  obtain ⟨L79, hL79⟩ : ∃ L : List (Nat × Obj), L = [(bk59, .cells (ints .i64 (digs (r).val)) 32), (bk37, .cells (ints .i64 (digs (o).val)) 32), (bk31, .cells (ints .i64 (digs ((y * y)).val)) 32), (bk8, .cells (ints .i64 (digs (y).val)) 32), (bk2, .cells (dpC z o o) 51), (bk1, .cells (ints .u8 (C)) 22)] := ⟨_, rfl⟩
  rw [← hL79] at h77
  have HL79 := Lib.hid hL79
  clear hL79
  have s80 := h77
  rw [HL79.out] at s80
  refine ret_cell_tmp rfl rfl rfl ?_
  refine cellRet_of (s80.nth 4 rfl) (by rw [size_dpC]; kernel_rfl) ?_
  exact ⟨_, _, rfl, .inl ⟨Or.inr (Or.inl ⟨hb, rfl⟩), rfl, rfl⟩, s80.fr⟩

set_option maxRecDepth 100000 in
set_option maxHeartbeats 8000000 in
theorem ddec_even (b C : List Int) (y r d o z : Fp) (hl : b.length = 32) (hC : C = lowD b) (lC : C.length = 32) (bC : Byt C) (hy : fromB C = y) (hd : dE = d) (ho1 : toFp 1 = o) (hz0 : toFp 0 = z) (hr : r = rootF (((y * y) - o) * (inv ((d * (y * y)) + o)))) (ho : true = rootOk (((y * y) - o) * (inv ((d * (y * y)) + o)))) (hb : bytesF y = C) (h31 : ¬ 128 ≤ el b 31) : Calls Try.prog 81 #[.agg (ints .u8 b)] w fun e w' => ∃ v ok, e = .returned (.tuple #[v, .bool ok]) ∧ DecD b C y r true z o v ok ∧ Fr [] w w' := by
  have Hy2 : Hid (fromB (lowD b) = y) := Lib.hid (by rw [← hC]; exact hy)
  have lC2 : (lowD b).length = 32 := by rw [← hC]; exact lC
  have HB2 : Hid (Byt (lowD b)) := Lib.hid (by rw [← hC]; exact bC)
  have HC := Lib.hid hC
  have HB := Lib.hid bC
  have Hy := Lib.hid hy
  have Hr := Lib.hid hr
  have HD := Lib.hid hd
  have Ho1 := Lib.hid ho1
  have Hz0 := Lib.hid hz0
  clear hC bC hy hr hd ho1 hz0
  have Ho := Lib.hid ho
  clear ho
  have hdd : decide (128 ≤ el b 31) = false := decide_eq_false h31
  have H31 := Lib.hid h31
  clear h31
  go_enter Try.func81, Try.ntmps81
  go_wp2_with fail
  refine (rof_n Hy2.out lC2 HB2.out).mono ?_
  rintro e w3 ⟨rfl, F4⟩
  have h5 : OwB w [(w.heap.size + 1, .cells (ints .i64 (List.replicate 48 0)) 51), (w.heap.size, .cells (ints .u8 (lowD b)) 22)] w3 := ((((OwB.start w).allocN (.cells (ints .u8 (lowD b)) 22) w.heap.size rfl).allocN (.cells (ints .i64 (List.replicate 48 0)) 51) (w.heap.size + 1) (by simp))).call F4
  clear F4
  simp only []
  generalize w.heap.size + 1 = bk2 at h5 ⊢
  generalize w.heap.size = bk1 at h5 ⊢
  rw [← HC.out] at h5
  obtain ⟨L6, hL6⟩ : ∃ L : List (Nat × Obj), L = [(bk2, .cells (ints .i64 (List.replicate 48 0)) 51), (bk1, .cells (ints .u8 (C)) 22)] := ⟨_, rfl⟩
  rw [← hL6] at h5
  have HL6 := Lib.hid hL6
  clear hL6
  go_wp2_with fail
  have s7 := h5
  rw [HL6.out] at s7
  refine OwB.named (Q := fun X => Code.wp _ _ _ _ X) (show OwB w [(w3.heap.size, .cells (ints .i64 (digs (y).val)) 32), (bk2, .cells (ints .i64 (List.replicate 48 0)) 51), (bk1, .cells (ints .u8 (C)) 22)] _ from (s7.allocN (.cells (ints .i64 (digs (y).val)) 32) (w3.heap.size) (by simp))) ?_
  intro V10 h9
  generalize w3.heap.size = bk8 at h9 ⊢
  clear s7 h5
  obtain ⟨L11, hL11⟩ : ∃ L : List (Nat × Obj), L = [(bk8, .cells (ints .i64 (digs (y).val)) 32), (bk2, .cells (ints .i64 (List.replicate 48 0)) 51), (bk1, .cells (ints .u8 (C)) 22)] := ⟨_, rfl⟩
  rw [← hL11] at h9
  have HL11 := Lib.hid hL11
  clear hL11
  refine drawn_begin 4 (OwB w L11) (by kernel_rfl) ?_
  refine OwB.named (Q := fun X => Go.Dr.wpAnyS Try.prog .any _ _ _ _ _ _ _ X) (h9.drew) ?_
  intro V12 h13
  clear h9
  have s14 := h13
  rw [HL11.out] at s14
  have f15 := s14.nth 0 rfl
  have f16 := s14.nth 2 rfl
  clear s14
  refine drawn_reads (fuel := 2) [0, 2] rfl (by kernel_rfl) (h13) ?_
  repeat (first | (refine rowK_step2 rfl rfl (fun K hK => ?_); go_wp2) | (refine rowK_step rfl (fun K hK => ?_); go_simp; refine hK _ ?_; clear hK K) | (refine rowK_step rfl (fun K hK => ?_); go_simp; refine ⟨by decide, hK _ ?_⟩; clear hK K))
  refine rowK_nil ⟨fun w' hw' => ?_, ?_⟩
  · rw [HL11.out] at hw'
    have g17 := hw'.nth 0 rfl
    have g18 := hw'.nth 2 rfl
    clear f15 f16
    repeat (first | (refine rowWp_step2 rfl rfl (fun K hK => ?_); go_wp2) | (refine rowWp_step rfl (fun K hK => ?_); go_simp; refine hK _ ?_; clear hK K) | (refine rowWp_step rfl (fun K hK => ?_); go_simp; refine ⟨by decide, hK _ ?_⟩; clear hK K))
    exact rowWp_nil rfl
  clear f15 f16
  refine drawn_next 1 (fuel := 1) rfl (by kernel_rfl) ?_
  intro K hK
  go_wp2_with fail
  refine (rbytes_f y).mono ?_
  rintro e w19 ⟨rfl, F20⟩
  have h21 := (h13).call F20
  clear F20 h13
  simp only []
  go_wp2
  refine ⟨h21, ?_⟩
  refine drawn_reads (fuel := 0) [3] rfl (by kernel_rfl) (h21) ?_
  repeat (first | (refine rowK_step2 rfl rfl (fun K hK => ?_); go_wp2) | (refine rowK_step rfl (fun K hK => ?_); go_simp; refine hK _ ?_; clear hK K) | (refine rowK_step rfl (fun K hK => ?_); go_simp; refine ⟨by decide, hK _ ?_⟩; clear hK K))
  refine rowK_nil ⟨fun w' hw' => ?_, ?_⟩
  · skip
    repeat (first | (refine rowWp_step2 rfl rfl (fun K hK => ?_); go_wp2) | (refine rowWp_step rfl (fun K hK => ?_); go_simp; refine hK _ ?_; clear hK K) | (refine rowWp_step rfl (fun K hK => ?_); go_simp; refine ⟨by decide, hK _ ?_⟩; clear hK K))
    exact rowWp_nil rfl
  refine drawn_end (ol := []) rfl (by kernel_rfl) ?_
  intro K hK
  have s22 := h21
  rw [HL11.out] at s22
  have f23 := s22.nth 0 rfl
  have t24 := s22.lt 0 rfl
  clear s22
  go_wp2_with fail
  clear f23 t24
  refine (rmul_f y y).mono ?_
  rintro e w25 ⟨rfl, F26⟩
  have s28 := h21
  rw [HL11.out] at s28
  have h27 : OwB w [(bk8, .cells (ints .i64 (digs (y).val)) 32), (bk2, .cells (ints .i64 (List.replicate 48 0)) 51), (bk1, .cells (ints .u8 (C)) 22)] w25 := (s28).call F26
  clear F26
  simp only []
  clear s28 h21
  obtain ⟨L29, hL29⟩ : ∃ L : List (Nat × Obj), L = [(bk8, .cells (ints .i64 (digs (y).val)) 32), (bk2, .cells (ints .i64 (List.replicate 48 0)) 51), (bk1, .cells (ints .u8 (C)) 22)] := ⟨_, rfl⟩
  rw [← hL29] at h27
  have HL29 := Lib.hid hL29
  clear hL29
  go_wp2_with fail
  have s30 := h27
  rw [HL29.out] at s30
  refine (small_n 1 (by decide) Ho1.out).mono ?_
  rintro e w32 ⟨rfl, F33⟩
  have h34 : OwB w [(w25.heap.size, .cells (ints .i64 (digs ((y * y)).val)) 32), (bk8, .cells (ints .i64 (digs (y).val)) 32), (bk2, .cells (ints .i64 (List.replicate 48 0)) 51), (bk1, .cells (ints .u8 (C)) 22)] w32 := ((s30.allocN (.cells (ints .i64 (digs ((y * y)).val)) 32) (w25.heap.size) (by simp))).call F33
  clear F33
  simp only []
  generalize w25.heap.size = bk31 at h34 ⊢
  clear s30 h27
  obtain ⟨L35, hL35⟩ : ∃ L : List (Nat × Obj), L = [(bk31, .cells (ints .i64 (digs ((y * y)).val)) 32), (bk8, .cells (ints .i64 (digs (y).val)) 32), (bk2, .cells (ints .i64 (List.replicate 48 0)) 51), (bk1, .cells (ints .u8 (C)) 22)] := ⟨_, rfl⟩
  rw [← hL35] at h34
  have HL35 := Lib.hid hL35
  clear hL35
  go_wp2_with fail
  have s36 := h34
  rw [HL35.out] at s36
  refine OwB.named (Q := fun X => Code.wp _ _ _ _ X) (show OwB w [(w32.heap.size, .cells (ints .i64 (digs (o).val)) 32), (bk31, .cells (ints .i64 (digs ((y * y)).val)) 32), (bk8, .cells (ints .i64 (digs (y).val)) 32), (bk2, .cells (ints .i64 (List.replicate 48 0)) 51), (bk1, .cells (ints .u8 (C)) 22)] _ from (s36.allocN (.cells (ints .i64 (digs (o).val)) 32) (w32.heap.size) (by simp))) ?_
  intro V39 h38
  generalize w32.heap.size = bk37 at h38 ⊢
  clear s36 h34
  obtain ⟨L40, hL40⟩ : ∃ L : List (Nat × Obj), L = [(bk37, .cells (ints .i64 (digs (o).val)) 32), (bk31, .cells (ints .i64 (digs ((y * y)).val)) 32), (bk8, .cells (ints .i64 (digs (y).val)) 32), (bk2, .cells (ints .i64 (List.replicate 48 0)) 51), (bk1, .cells (ints .u8 (C)) 22)] := ⟨_, rfl⟩
  rw [← hL40] at h38
  have HL40 := Lib.hid hL40
  clear hL40
  refine drawn_begin 16 (OwB w L40) (by kernel_rfl) ?_
  refine OwB.named (Q := fun X => Go.Dr.wpAnyS Try.prog .any _ _ _ _ _ _ _ X) (h38.drew) ?_
  intro V41 h42
  clear h38
  have s43 := h42
  rw [HL40.out] at s43
  have f44 := s43.nth 1 rfl
  have f45 := s43.nth 0 rfl
  clear s43
  refine drawn_reads (fuel := 13) [0, 1, 4, 6] rfl (by kernel_rfl) (h42) ?_
  repeat (first | (refine rowK_step2 rfl rfl (fun K hK => ?_); go_wp2) | (refine rowK_step rfl (fun K hK => ?_); go_simp; refine hK _ ?_; clear hK K) | (refine rowK_step rfl (fun K hK => ?_); go_simp; refine ⟨by decide, hK _ ?_⟩; clear hK K))
  refine rowK_nil ⟨fun w' hw' => ?_, ?_⟩
  · rw [HL40.out] at hw'
    have g46 := hw'.nth 1 rfl
    have g47 := hw'.nth 0 rfl
    clear f44 f45
    repeat (first | (refine rowWp_step2 rfl rfl (fun K hK => ?_); go_wp2) | (refine rowWp_step rfl (fun K hK => ?_); go_simp; refine hK _ ?_; clear hK K) | (refine rowWp_step rfl (fun K hK => ?_); go_simp; refine ⟨by decide, hK _ ?_⟩; clear hK K))
    exact rowWp_nil rfl
  clear f44 f45
  obtain ⟨p, hp⟩ : ∃ p : Par3, p = ⟨[(2, 31, fun v => v = dF (((y * y) - o))), (3, 32, fun v => v = dF (d)), (5, 34, fun v => v = dF ((d * (y * y)))), (7, 36, fun v => v = dF (((d * (y * y)) + o))), (8, 37, fun v => v = dF ((inv ((d * (y * y)) + o)))), (9, 38, fun v => v = dF ((((y * y) - o) * (inv ((d * (y * y)) + o))))), (10, 39, fun v => v = .tuple #[dF (r), .bool true]), (11, 28, fun v => v = .tuple #[dF (r), .bool true]), (12, 40, fun v => v = dF (r)), (13, 41, fun v => v = .bool true)], [(14, 8, .cells (ints .i64 (List.replicate 16 0)) 32, 15, .cells (ints .i64 (digs (r).val)) 32)], [0, 1, 4, 6]⟩ := ⟨_, rfl⟩
  have ok : p.ok := Par3.ok_of (by rw [hp]; rfl)
  refine drawn_inv2 16 (N := 16) (rest := 1) [31, 32, 34, 36, 37, 38, 39, 28, 40, 41, 8] (fun L s w => p.Inv V41 L s w) (fun _ => undef) 12 (by kernel_rfl) (fun L s w h => ?_) (by kernel_rfl) ?_ ?_ ?_
  · exact h42.call h.fr
  · refine Par3.Inv.start ?_ ?_ ?_ ?_ <;> rw [hp] <;> intro i hi <;> simp at hi
    · rcases hi with rfl | rfl | rfl | rfl <;> rfl
    · rcases hi with rfl | rfl | rfl | rfl | rfl | rfl | rfl | rfl | rfl | rfl <;> rfl
    · subst hi; rfl
    · subst hi; rfl
  · intro i o L s w ho hi hL hd h K hK
    rcases (show i = 0 ∨ i = 1 ∨ i = 2 ∨ i = 3 ∨ i = 4 ∨ i = 5 ∨ i = 6 ∨ i = 7 ∨ i = 8 ∨ i = 9 ∨ i = 10 ∨ i = 11 ∨ i = 12 ∨ i = 13 ∨ i = 14 ∨ i = 15 by omega) with rfl | rfl | rfl | rfl | rfl | rfl | rfl | rfl | rfl | rfl | rfl | rfl | rfl | rfl | rfl | rfl
    · rw [h.row 0 (by rw [hp]; simp)] at hL; cases hL
    · rw [h.row 1 (by rw [hp]; simp)] at hL; cases hL
    · injection (show some _ = some o from ho) with ho; subst ho
      simp only [fill]
      go_wp2_with fail
      refine (rsub_f (y * y) o).mono ?_
      rintro e w2 ⟨rfl, F⟩
      simp only []
      go_wp2
      exact ⟨_, by kernel_rfl, h.called ok (2, 31, fun v => v = dF (((y * y) - o))) (by rw [hp]; simp) F rfl⟩
    · injection (show some _ = some o from ho) with ho; subst ho
      simp only [fill]
      go_wp2_with fail
      refine (dfactor_n HD.out).mono ?_
      rintro e w2 ⟨rfl, F⟩
      simp only []
      go_wp2
      exact ⟨_, by kernel_rfl, h.called ok (3, 32, fun v => v = dF (d)) (by rw [hp]; simp) F rfl⟩
    · rw [h.row 4 (by rw [hp]; simp)] at hL; cases hL
    · injection (show some _ = some o from ho) with ho; subst ho
      have l32 : L 3 = true := after_on hd (by kernel_rfl)
      have e32 := h.call (3, 32, fun v => v = dF (d)) (by rw [hp]; simp) l32
      have ct : Calls Try.prog 37 #[s 32, dF ((y * y))] w (fun e w' => e = .returned (dF ((d * (y * y)))) ∧ Fr [] w w') := by
        simp only [] at e32
        rw [e32]
        exact rmul_f d (y * y)
      clear e32 l32
      simp only [fill]
      go_wp2_with fail
      refine (ct).mono ?_
      rintro e w2 ⟨rfl, F⟩
      simp only []
      go_wp2
      exact ⟨_, by kernel_rfl, h.called ok (5, 34, fun v => v = dF ((d * (y * y)))) (by rw [hp]; simp) F rfl⟩
    · rw [h.row 6 (by rw [hp]; simp)] at hL; cases hL
    · injection (show some _ = some o from ho) with ho; subst ho
      have l34 : L 5 = true := after_on hd (by kernel_rfl)
      have e34 := h.call (5, 34, fun v => v = dF ((d * (y * y)))) (by rw [hp]; simp) l34
      have ct : Calls Try.prog 31 #[s 34, dF (o)] w (fun e w' => e = .returned (dF (((d * (y * y)) + o))) ∧ Fr [] w w') := by
        simp only [] at e34
        rw [e34]
        exact radd_f (d * (y * y)) o
      clear e34 l34
      simp only [fill]
      go_wp2_with fail
      refine (ct).mono ?_
      rintro e w2 ⟨rfl, F⟩
      simp only []
      go_wp2
      exact ⟨_, by kernel_rfl, h.called ok (7, 36, fun v => v = dF (((d * (y * y)) + o))) (by rw [hp]; simp) F rfl⟩
    · injection (show some _ = some o from ho) with ho; subst ho
      have l36 : L 7 = true := after_on hd (by kernel_rfl)
      have e36 := h.call (7, 36, fun v => v = dF (((d * (y * y)) + o))) (by rw [hp]; simp) l36
      have ct : Calls Try.prog 41 #[s 36] w (fun e w' => e = .returned (dF ((inv ((d * (y * y)) + o)))) ∧ Fr [] w w') := by
        simp only [] at e36
        rw [e36]
        exact rinv_f ((d * (y * y)) + o)
      clear e36 l36
      simp only [fill]
      go_wp2_with fail
      refine (ct).mono ?_
      rintro e w2 ⟨rfl, F⟩
      simp only []
      go_wp2
      exact ⟨_, by kernel_rfl, h.called ok (8, 37, fun v => v = dF ((inv ((d * (y * y)) + o)))) (by rw [hp]; simp) F rfl⟩
    · injection (show some _ = some o from ho) with ho; subst ho
      have l31 : L 2 = true := after_on hd (by kernel_rfl)
      have e31 := h.call (2, 31, fun v => v = dF (((y * y) - o))) (by rw [hp]; simp) l31
      have l37 : L 8 = true := after_on hd (by kernel_rfl)
      have e37 := h.call (8, 37, fun v => v = dF ((inv ((d * (y * y)) + o)))) (by rw [hp]; simp) l37
      have ct : Calls Try.prog 37 #[s 31, s 37] w (fun e w' => e = .returned (dF ((((y * y) - o) * (inv ((d * (y * y)) + o))))) ∧ Fr [] w w') := by
        simp only [] at e31 e37
        rw [e31, e37]
        exact rmul_f ((y * y) - o) (inv ((d * (y * y)) + o))
      clear e31 l31 e37 l37
      simp only [fill]
      go_wp2_with fail
      refine (ct).mono ?_
      rintro e w2 ⟨rfl, F⟩
      simp only []
      go_wp2
      exact ⟨_, by kernel_rfl, h.called ok (9, 38, fun v => v = dF ((((y * y) - o) * (inv ((d * (y * y)) + o))))) (by rw [hp]; simp) F rfl⟩
    · injection (show some _ = some o from ho) with ho; subst ho
      have l38 : L 9 = true := after_on hd (by kernel_rfl)
      have e38 := h.call (9, 38, fun v => v = dF ((((y * y) - o) * (inv ((d * (y * y)) + o))))) (by rw [hp]; simp) l38
      have ct : Calls Try.prog 39 #[s 38] w (fun e w' => e = .returned (.tuple #[dF (r), .bool true]) ∧ Fr [] w w') := by
        simp only [] at e38
        rw [e38]
        exact rroot_nm Ho.out Hr.out
      clear e38 l38
      simp only [fill]
      go_wp2_with fail
      refine (ct).mono ?_
      rintro e w2 ⟨rfl, F⟩
      simp only []
      go_wp2
      exact ⟨_, by kernel_rfl, h.called ok (10, 39, fun v => v = .tuple #[dF (r), .bool true]) (by rw [hp]; simp) F rfl⟩
    · injection (show some _ = some o from ho) with ho; subst ho
      have l39 : L 10 = true := after_on hd (by kernel_rfl)
      have e39 := h.call (10, 39, fun v => v = .tuple #[dF (r), .bool true]) (by rw [hp]; simp) l39
      simp only [] at e39
      simp only [fill, e39]
      go_wp2
      exact ⟨_, by simp only [fill, set1, Nat.reduceEqDiff, reduceIte, e39]; kernel_rfl, h.called ok (11, 28, fun v => v = .tuple #[dF (r), .bool true]) (by rw [hp]; simp) (Fr.refl _ _) rfl⟩
    · injection (show some _ = some o from ho) with ho; subst ho
      have l28 : L 11 = true := after_on hd (by kernel_rfl)
      have e28 := h.call (11, 28, fun v => v = .tuple #[dF (r), .bool true]) (by rw [hp]; simp) l28
      simp only [] at e28
      simp only [fill, e28]
      go_wp2
      exact ⟨_, by simp only [fill, set1, Nat.reduceEqDiff, reduceIte, e28]; kernel_rfl, h.called ok (12, 40, fun v => v = dF (r)) (by rw [hp]; simp) (Fr.refl _ _) rfl⟩
    · injection (show some _ = some o from ho) with ho; subst ho
      have l28 : L 11 = true := after_on hd (by kernel_rfl)
      have e28 := h.call (11, 28, fun v => v = .tuple #[dF (r), .bool true]) (by rw [hp]; simp) l28
      simp only [] at e28
      simp only [fill, e28]
      go_wp2
      exact ⟨_, by simp only [fill, set1, Nat.reduceEqDiff, reduceIte, e28]; kernel_rfl, h.called ok (13, 41, fun v => v = .bool true) (by rw [hp]; simp) (Fr.refl _ _) rfl⟩
    · injection (show some _ = some o from ho) with ho; subst ho
      simp only [fill]
      go_wp2
      exact ⟨_, by kernel_rfl, h.made ok (14, 8, .cells (ints .i64 (List.replicate 16 0)) 32, 15, .cells (ints .i64 (digs (r).val)) 32) (by rw [hp]; simp) hL⟩
    · injection (show some _ = some o from ho) with ho; subst ho
      have lr : L 14 = true := after_on hd (by kernel_rfl)
      obtain ⟨b, er, _, mr⟩ := h.room (14, 8, .cells (ints .i64 (List.replicate 16 0)) 32, 15, .cells (ints .i64 (digs (r).val)) 32) (by rw [hp]; simp) lr
      have hst := h.stored ok (14, 8, .cells (ints .i64 (List.replicate 16 0)) 32, 15, .cells (ints .i64 (digs (r).val)) 32) (by rw [hp]; simp) lr er
      simp only [] at er mr hst
      rw [hL, if_neg Bool.false_ne_true] at mr
      have br := World.at_lt mr
      have lv : L 12 = true := after_on hd (by kernel_rfl)
      have ev := h.call (12, 40, fun v => v = dF (r)) (by rw [hp]; simp) lv
      simp only [] at ev
      simp only [fill, er, ev]
      go_wp2
      exact ⟨_, by simp only [fill, er, ev]; kernel_rfl, hst⟩
  intro s w48 h
  have e49 := h.call (2, 31, fun v => v = dF (((y * y) - o))) (by rw [hp]; simp) rfl
  have e50 := h.call (3, 32, fun v => v = dF (d)) (by rw [hp]; simp) rfl
  have e51 := h.call (5, 34, fun v => v = dF ((d * (y * y)))) (by rw [hp]; simp) rfl
  have e52 := h.call (7, 36, fun v => v = dF (((d * (y * y)) + o))) (by rw [hp]; simp) rfl
  have e53 := h.call (8, 37, fun v => v = dF ((inv ((d * (y * y)) + o)))) (by rw [hp]; simp) rfl
  have e54 := h.call (9, 38, fun v => v = dF ((((y * y) - o) * (inv ((d * (y * y)) + o))))) (by rw [hp]; simp) rfl
  have e55 := h.call (10, 39, fun v => v = .tuple #[dF (r), .bool true]) (by rw [hp]; simp) rfl
  have e56 := h.call (11, 28, fun v => v = .tuple #[dF (r), .bool true]) (by rw [hp]; simp) rfl
  have e57 := h.call (12, 40, fun v => v = dF (r)) (by rw [hp]; simp) rfl
  have e58 := h.call (13, 41, fun v => v = .bool true) (by rw [hp]; simp) rfl
  obtain ⟨bk59, e60, l61, m62⟩ := h.room (14, 8, .cells (ints .i64 (List.replicate 16 0)) 32, 15, .cells (ints .i64 (digs (r).val)) 32) (by rw [hp]; simp) rfl
  simp only [] at e49 e50 e51 e52 e53 e54 e55 e56 e57 e58 e60 m62
  rw [decide_eq_true (by decide : 15 < 16), if_pos rfl] at m62
  have h63 := h42.call h.fr
  simp only [fill, e49, e50, e51, e52, e53, e54, e55, e56, e57, e58, e60]
  have h64 := (h63.room m62 (h42.fresh l61) (Nat.le_trans h42.fr.size l61))
  rw [HL40.out] at h64
  clear e49 e50 e51 e52 e53 e54 e55 e56 e57 e58 e60  l61 m62 h63 h ok hp h42 p
  obtain ⟨L65, hL65⟩ : ∃ L : List (Nat × Obj), L = [(bk59, .cells (ints .i64 (digs (r).val)) 32), (bk37, .cells (ints .i64 (digs (o).val)) 32), (bk31, .cells (ints .i64 (digs ((y * y)).val)) 32), (bk8, .cells (ints .i64 (digs (y).val)) 32), (bk2, .cells (ints .i64 (List.replicate 48 0)) 51), (bk1, .cells (ints .u8 (C)) 22)] := ⟨_, rfl⟩
  rw [← hL65] at h64
  have HL65 := Lib.hid hL65
  clear hL65
  refine drawn_end (ol := [_]) rfl (by kernel_rfl) ?_
  intro K hK
  go_wp2_with fail
  refine drawn_begin 10 (OwB w L65) (by kernel_rfl) ?_
  refine OwB.named (Q := fun X => Go.Dr.wpAnyS Try.prog .any _ _ _ _ _ _ _ X) (h64.drew) ?_
  intro V66 h67
  clear h64
  refine drawn_reads (fuel := 7) [0, 1, 2] rfl (by kernel_rfl) (h67) ?_
  repeat (first | (refine rowK_step2 rfl rfl (fun K hK => ?_); go_wp2) | (refine rowK_step rfl (fun K hK => ?_); go_simp; refine hK _ ?_; clear hK K) | (refine rowK_step rfl (fun K hK => ?_); go_simp; refine ⟨by decide, hK _ ?_⟩; clear hK K))
  refine rowK_nil ⟨fun w' hw' => ?_, ?_⟩
  · skip
    repeat (first | (refine rowWp_step2 rfl rfl (fun K hK => ?_); go_wp2) | (refine rowWp_step rfl (fun K hK => ?_); go_simp; refine hK _ ?_; clear hK K) | (refine rowWp_step rfl (fun K hK => ?_); go_simp; refine ⟨by decide, hK _ ?_⟩; clear hK K))
    exact rowWp_nil rfl
  refine drawn_reads (fuel := 0) [3, 4, 5, 6, 7, 8, 9] rfl (by kernel_rfl) (h67) ?_
  repeat (first | (refine rowK_step2 rfl rfl (fun K hK => ?_); go_wp2) | (refine rowK_step rfl (fun K hK => ?_); go_simp; refine hK _ ?_; clear hK K) | (refine rowK_step rfl (fun K hK => ?_); go_simp; refine ⟨by decide, hK _ ?_⟩; clear hK K))
  refine rowK_nil ⟨fun w' hw' => ?_, ?_⟩
  · skip
    repeat (first | (refine rowWp_step2 rfl rfl (fun K hK => ?_); go_wp2) | (refine rowWp_step rfl (fun K hK => ?_); go_simp; refine hK _ ?_; clear hK K) | (refine rowWp_step rfl (fun K hK => ?_); go_simp; refine ⟨by decide, hK _ ?_⟩; clear hK K))
    exact rowWp_nil rfl
  refine drawn_end (ol := []) rfl (by kernel_rfl) ?_
  intro K hK
  have s68 := h67
  rw [HL65.out] at s68
  have f69 := s68.nth 0 rfl
  have t70 := s68.lt 0 rfl
  have f71 := s68.nth 3 rfl
  have t72 := s68.lt 3 rfl
  have f73 := s68.nth 1 rfl
  have t74 := s68.lt 1 rfl
  have f75 := s68.nth 4 rfl
  have t76 := s68.lt 4 rfl
  have e77 := s68.ne 0 4 rfl rfl (by decide)
  have e78 := s68.ne 3 4 rfl rfl (by decide)
  have e79 := s68.ne 1 4 rfl rfl (by decide)
  have e80 := s68.ne 4 0 rfl rfl (by decide)
  have e81 := s68.ne 4 3 rfl rfl (by decide)
  have e82 := s68.ne 4 1 rfl rfl (by decide)
  clear s68
  have s83 := h67
  rw [HL65.out] at s83
  go_wp2_with fail
  clear f69 t70 f71 t72 f73 t74 f75 t76 e77 e78 e79 e80 e81 e82
  refine OwB.named (Q := fun X => bodyPost _ _ _ _ _ X) (show OwB w [(bk59, .cells (ints .i64 (digs (r).val)) 32), (bk37, .cells (ints .i64 (digs (o).val)) 32), (bk31, .cells (ints .i64 (digs ((y * y)).val)) 32), (bk8, .cells (ints .i64 (digs (y).val)) 32), (bk2, .cells (dpC r y o) 51), (bk1, .cells (ints .u8 (C)) 22)] _ from (s83.set 4 (.cells (dpC r y o) 51) rfl)) ?_
  intro V85 h84
  clear s83 h67
  obtain ⟨L86, hL86⟩ : ∃ L : List (Nat × Obj), L = [(bk59, .cells (ints .i64 (digs (r).val)) 32), (bk37, .cells (ints .i64 (digs (o).val)) 32), (bk31, .cells (ints .i64 (digs ((y * y)).val)) 32), (bk8, .cells (ints .i64 (digs (y).val)) 32), (bk2, .cells (dpC r y o) 51), (bk1, .cells (ints .u8 (C)) 22)] := ⟨_, rfl⟩
  rw [← hL86] at h84
  have HL86 := Lib.hid hL86
  clear hL86
  have s87 := h84
  rw [HL86.out] at s87
  refine ret_cell_tmp rfl rfl rfl ?_
  refine cellRet_of (s87.nth 4 rfl) (by rw [size_dpC]; kernel_rfl) ?_
  exact ⟨_, _, rfl, .inr ⟨_, ⟨hb, rfl, Or.inl ⟨(by have := H31.out; omega), rfl⟩⟩, rfl, rfl⟩, s87.fr⟩

end
end Go.Proofs.Ytakhmmnklkckpaa
namespace Go.Proofs.Ytakhmmnklkckpaa
open Go.RowKit Go.Dr

section
variable {w : World}
set_option maxRecDepth 100000 in
set_option maxHeartbeats 8000000 in
theorem ddec_zero (b C : List Int) (y r d o z : Fp) (hl : b.length = 32) (hC : C = lowD b) (lC : C.length = 32) (bC : Byt C) (hy : fromB C = y) (hd : dE = d) (ho1 : toFp 1 = o) (hz0 : toFp 0 = z) (hr : r = rootF (((y * y) - o) * (inv ((d * (y * y)) + o)))) (ho : true = rootOk (((y * y) - o) * (inv ((d * (y * y)) + o)))) (hb : bytesF y = C) (h31 : 128 ≤ el b 31) (hz : digs r.val = digs z.val) : Calls Try.prog 81 #[.agg (ints .u8 b)] w fun e w' => ∃ v ok, e = .returned (.tuple #[v, .bool ok]) ∧ DecD b C y r true z o v ok ∧ Fr [] w w' := by
  have Hy2 : Hid (fromB (lowD b) = y) := Lib.hid (by rw [← hC]; exact hy)
  have lC2 : (lowD b).length = 32 := by rw [← hC]; exact lC
  have HB2 : Hid (Byt (lowD b)) := Lib.hid (by rw [← hC]; exact bC)
  have HC := Lib.hid hC
  have HB := Lib.hid bC
  have Hy := Lib.hid hy
  have Hr := Lib.hid hr
  have HD := Lib.hid hd
  have Ho1 := Lib.hid ho1
  have Hz0 := Lib.hid hz0
  clear hC bC hy hr hd ho1 hz0
  have Ho := Lib.hid ho
  clear ho
  have hdd : decide (128 ≤ el b 31) = true := decide_eq_true h31
  have H31 := Lib.hid h31
  clear h31
  have HZ0 := Lib.hid hz
  clear hz
  go_enter Try.func81, Try.ntmps81
  go_wp2_with fail
  refine (rof_n Hy2.out lC2 HB2.out).mono ?_
  rintro e w3 ⟨rfl, F4⟩
  have h5 : OwB w [(w.heap.size + 1, .cells (ints .i64 (List.replicate 48 0)) 51), (w.heap.size, .cells (ints .u8 (lowD b)) 22)] w3 := ((((OwB.start w).allocN (.cells (ints .u8 (lowD b)) 22) w.heap.size rfl).allocN (.cells (ints .i64 (List.replicate 48 0)) 51) (w.heap.size + 1) (by simp))).call F4
  clear F4
  simp only []
  generalize w.heap.size + 1 = bk2 at h5 ⊢
  generalize w.heap.size = bk1 at h5 ⊢
  rw [← HC.out] at h5
  obtain ⟨L6, hL6⟩ : ∃ L : List (Nat × Obj), L = [(bk2, .cells (ints .i64 (List.replicate 48 0)) 51), (bk1, .cells (ints .u8 (C)) 22)] := ⟨_, rfl⟩
  rw [← hL6] at h5
  have HL6 := Lib.hid hL6
  clear hL6
  go_wp2_with fail
  have s7 := h5
  rw [HL6.out] at s7
  refine OwB.named (Q := fun X => Code.wp _ _ _ _ X) (show OwB w [(w3.heap.size, .cells (ints .i64 (digs (y).val)) 32), (bk2, .cells (ints .i64 (List.replicate 48 0)) 51), (bk1, .cells (ints .u8 (C)) 22)] _ from (s7.allocN (.cells (ints .i64 (digs (y).val)) 32) (w3.heap.size) (by simp))) ?_
  intro V10 h9
  generalize w3.heap.size = bk8 at h9 ⊢
  clear s7 h5
  obtain ⟨L11, hL11⟩ : ∃ L : List (Nat × Obj), L = [(bk8, .cells (ints .i64 (digs (y).val)) 32), (bk2, .cells (ints .i64 (List.replicate 48 0)) 51), (bk1, .cells (ints .u8 (C)) 22)] := ⟨_, rfl⟩
  rw [← hL11] at h9
  have HL11 := Lib.hid hL11
  clear hL11
  refine drawn_begin 4 (OwB w L11) (by kernel_rfl) ?_
  refine OwB.named (Q := fun X => Go.Dr.wpAnyS Try.prog .any _ _ _ _ _ _ _ X) (h9.drew) ?_
  intro V12 h13
  clear h9
  have s14 := h13
  rw [HL11.out] at s14
  have f15 := s14.nth 0 rfl
  have f16 := s14.nth 2 rfl
  clear s14
  refine drawn_reads (fuel := 2) [0, 2] rfl (by kernel_rfl) (h13) ?_
  repeat (first | (refine rowK_step2 rfl rfl (fun K hK => ?_); go_wp2) | (refine rowK_step rfl (fun K hK => ?_); go_simp; refine hK _ ?_; clear hK K) | (refine rowK_step rfl (fun K hK => ?_); go_simp; refine ⟨by decide, hK _ ?_⟩; clear hK K))
  refine rowK_nil ⟨fun w' hw' => ?_, ?_⟩
  · rw [HL11.out] at hw'
    have g17 := hw'.nth 0 rfl
    have g18 := hw'.nth 2 rfl
    clear f15 f16
    repeat (first | (refine rowWp_step2 rfl rfl (fun K hK => ?_); go_wp2) | (refine rowWp_step rfl (fun K hK => ?_); go_simp; refine hK _ ?_; clear hK K) | (refine rowWp_step rfl (fun K hK => ?_); go_simp; refine ⟨by decide, hK _ ?_⟩; clear hK K))
    exact rowWp_nil rfl
  clear f15 f16
  refine drawn_next 1 (fuel := 1) rfl (by kernel_rfl) ?_
  intro K hK
  go_wp2_with fail
  refine (rbytes_f y).mono ?_
  rintro e w19 ⟨rfl, F20⟩
  have h21 := (h13).call F20
  clear F20 h13
  simp only []
  go_wp2
  refine ⟨h21, ?_⟩
  refine drawn_reads (fuel := 0) [3] rfl (by kernel_rfl) (h21) ?_
  repeat (first | (refine rowK_step2 rfl rfl (fun K hK => ?_); go_wp2) | (refine rowK_step rfl (fun K hK => ?_); go_simp; refine hK _ ?_; clear hK K) | (refine rowK_step rfl (fun K hK => ?_); go_simp; refine ⟨by decide, hK _ ?_⟩; clear hK K))
  refine rowK_nil ⟨fun w' hw' => ?_, ?_⟩
  · skip
    repeat (first | (refine rowWp_step2 rfl rfl (fun K hK => ?_); go_wp2) | (refine rowWp_step rfl (fun K hK => ?_); go_simp; refine hK _ ?_; clear hK K) | (refine rowWp_step rfl (fun K hK => ?_); go_simp; refine ⟨by decide, hK _ ?_⟩; clear hK K))
    exact rowWp_nil rfl
  refine drawn_end (ol := []) rfl (by kernel_rfl) ?_
  intro K hK
  have s22 := h21
  rw [HL11.out] at s22
  have f23 := s22.nth 0 rfl
  have t24 := s22.lt 0 rfl
  clear s22
  go_wp2_with fail
  clear f23 t24
  refine (rmul_f y y).mono ?_
  rintro e w25 ⟨rfl, F26⟩
  have s28 := h21
  rw [HL11.out] at s28
  have h27 : OwB w [(bk8, .cells (ints .i64 (digs (y).val)) 32), (bk2, .cells (ints .i64 (List.replicate 48 0)) 51), (bk1, .cells (ints .u8 (C)) 22)] w25 := (s28).call F26
  clear F26
  simp only []
  clear s28 h21
  obtain ⟨L29, hL29⟩ : ∃ L : List (Nat × Obj), L = [(bk8, .cells (ints .i64 (digs (y).val)) 32), (bk2, .cells (ints .i64 (List.replicate 48 0)) 51), (bk1, .cells (ints .u8 (C)) 22)] := ⟨_, rfl⟩
  rw [← hL29] at h27
  have HL29 := Lib.hid hL29
  clear hL29
  go_wp2_with fail
  have s30 := h27
  rw [HL29.out] at s30
  refine (small_n 1 (by decide) Ho1.out).mono ?_
  rintro e w32 ⟨rfl, F33⟩
  have h34 : OwB w [(w25.heap.size, .cells (ints .i64 (digs ((y * y)).val)) 32), (bk8, .cells (ints .i64 (digs (y).val)) 32), (bk2, .cells (ints .i64 (List.replicate 48 0)) 51), (bk1, .cells (ints .u8 (C)) 22)] w32 := ((s30.allocN (.cells (ints .i64 (digs ((y * y)).val)) 32) (w25.heap.size) (by simp))).call F33
  clear F33
  simp only []
  generalize w25.heap.size = bk31 at h34 ⊢
  clear s30 h27
  obtain ⟨L35, hL35⟩ : ∃ L : List (Nat × Obj), L = [(bk31, .cells (ints .i64 (digs ((y * y)).val)) 32), (bk8, .cells (ints .i64 (digs (y).val)) 32), (bk2, .cells (ints .i64 (List.replicate 48 0)) 51), (bk1, .cells (ints .u8 (C)) 22)] := ⟨_, rfl⟩
  rw [← hL35] at h34
  have HL35 := Lib.hid hL35
  clear hL35
  go_wp2_with fail
  have s36 := h34
  rw [HL35.out] at s36
  refine OwB.named (Q := fun X => Code.wp _ _ _ _ X) (show OwB w [(w32.heap.size, .cells (ints .i64 (digs (o).val)) 32), (bk31, .cells (ints .i64 (digs ((y * y)).val)) 32), (bk8, .cells (ints .i64 (digs (y).val)) 32), (bk2, .cells (ints .i64 (List.replicate 48 0)) 51), (bk1, .cells (ints .u8 (C)) 22)] _ from (s36.allocN (.cells (ints .i64 (digs (o).val)) 32) (w32.heap.size) (by simp))) ?_
  intro V39 h38
  generalize w32.heap.size = bk37 at h38 ⊢
  clear s36 h34
  obtain ⟨L40, hL40⟩ : ∃ L : List (Nat × Obj), L = [(bk37, .cells (ints .i64 (digs (o).val)) 32), (bk31, .cells (ints .i64 (digs ((y * y)).val)) 32), (bk8, .cells (ints .i64 (digs (y).val)) 32), (bk2, .cells (ints .i64 (List.replicate 48 0)) 51), (bk1, .cells (ints .u8 (C)) 22)] := ⟨_, rfl⟩
  rw [← hL40] at h38
  have HL40 := Lib.hid hL40
  clear hL40
  refine drawn_begin 16 (OwB w L40) (by kernel_rfl) ?_
  refine OwB.named (Q := fun X => Go.Dr.wpAnyS Try.prog .any _ _ _ _ _ _ _ X) (h38.drew) ?_
  intro V41 h42
  clear h38
  have s43 := h42
  rw [HL40.out] at s43
  have f44 := s43.nth 1 rfl
  have f45 := s43.nth 0 rfl
  clear s43
  refine drawn_reads (fuel := 13) [0, 1, 4, 6] rfl (by kernel_rfl) (h42) ?_
  repeat (first | (refine rowK_step2 rfl rfl (fun K hK => ?_); go_wp2) | (refine rowK_step rfl (fun K hK => ?_); go_simp; refine hK _ ?_; clear hK K) | (refine rowK_step rfl (fun K hK => ?_); go_simp; refine ⟨by decide, hK _ ?_⟩; clear hK K))
  refine rowK_nil ⟨fun w' hw' => ?_, ?_⟩
  · rw [HL40.out] at hw'
    have g46 := hw'.nth 1 rfl
    have g47 := hw'.nth 0 rfl
    clear f44 f45
    repeat (first | (refine rowWp_step2 rfl rfl (fun K hK => ?_); go_wp2) | (refine rowWp_step rfl (fun K hK => ?_); go_simp; refine hK _ ?_; clear hK K) | (refine rowWp_step rfl (fun K hK => ?_); go_simp; refine ⟨by decide, hK _ ?_⟩; clear hK K))
    exact rowWp_nil rfl
  clear f44 f45
  obtain ⟨p, hp⟩ : ∃ p : Par3, p = ⟨[(2, 31, fun v => v = dF (((y * y) - o))), (3, 32, fun v => v = dF (d)), (5, 34, fun v => v = dF ((d * (y * y)))), (7, 36, fun v => v = dF (((d * (y * y)) + o))), (8, 37, fun v => v = dF ((inv ((d * (y * y)) + o)))), (9, 38, fun v => v = dF ((((y * y) - o) * (inv ((d * (y * y)) + o))))), (10, 39, fun v => v = .tuple #[dF (r), .bool true]), (11, 28, fun v => v = .tuple #[dF (r), .bool true]), (12, 40, fun v => v = dF (r)), (13, 41, fun v => v = .bool true)], [(14, 8, .cells (ints .i64 (List.replicate 16 0)) 32, 15, .cells (ints .i64 (digs (r).val)) 32)], [0, 1, 4, 6]⟩ := ⟨_, rfl⟩
  have ok : p.ok := Par3.ok_of (by rw [hp]; rfl)
  refine drawn_inv2 16 (N := 16) (rest := 1) [31, 32, 34, 36, 37, 38, 39, 28, 40, 41, 8] (fun L s w => p.Inv V41 L s w) (fun _ => undef) 12 (by kernel_rfl) (fun L s w h => ?_) (by kernel_rfl) ?_ ?_ ?_
  · exact h42.call h.fr
  · refine Par3.Inv.start ?_ ?_ ?_ ?_ <;> rw [hp] <;> intro i hi <;> simp at hi
    · rcases hi with rfl | rfl | rfl | rfl <;> rfl
    · rcases hi with rfl | rfl | rfl | rfl | rfl | rfl | rfl | rfl | rfl | rfl <;> rfl
    · subst hi; rfl
    · subst hi; rfl
  · intro i o L s w ho hi hL hd h K hK
    rcases (show i = 0 ∨ i = 1 ∨ i = 2 ∨ i = 3 ∨ i = 4 ∨ i = 5 ∨ i = 6 ∨ i = 7 ∨ i = 8 ∨ i = 9 ∨ i = 10 ∨ i = 11 ∨ i = 12 ∨ i = 13 ∨ i = 14 ∨ i = 15 by omega) with rfl | rfl | rfl | rfl | rfl | rfl | rfl | rfl | rfl | rfl | rfl | rfl | rfl | rfl | rfl | rfl
    · rw [h.row 0 (by rw [hp]; simp)] at hL; cases hL
    · rw [h.row 1 (by rw [hp]; simp)] at hL; cases hL
    · injection (show some _ = some o from ho) with ho; subst ho
      simp only [fill]
      go_wp2_with fail
      refine (rsub_f (y * y) o).mono ?_
      rintro e w2 ⟨rfl, F⟩
      simp only []
      go_wp2
      exact ⟨_, by kernel_rfl, h.called ok (2, 31, fun v => v = dF (((y * y) - o))) (by rw [hp]; simp) F rfl⟩
    · injection (show some _ = some o from ho) with ho; subst ho
      simp only [fill]
      go_wp2_with fail
      refine (dfactor_n HD.out).mono ?_
      rintro e w2 ⟨rfl, F⟩
      simp only []
      go_wp2
      exact ⟨_, by kernel_rfl, h.called ok (3, 32, fun v => v = dF (d)) (by rw [hp]; simp) F rfl⟩
    · rw [h.row 4 (by rw [hp]; simp)] at hL; cases hL
    · injection (show some _ = some o from ho) with ho; subst ho
      have l32 : L 3 = true := after_on hd (by kernel_rfl)
      have e32 := h.call (3, 32, fun v => v = dF (d)) (by rw [hp]; simp) l32
      have ct : Calls Try.prog 37 #[s 32, dF ((y * y))] w (fun e w' => e = .returned (dF ((d * (y * y)))) ∧ Fr [] w w') := by
        simp only [] at e32
        rw [e32]
        exact rmul_f d (y * y)
      clear e32 l32
      simp only [fill]
      go_wp2_with fail
      refine (ct).mono ?_
      rintro e w2 ⟨rfl, F⟩
      simp only []
      go_wp2
      exact ⟨_, by kernel_rfl, h.called ok (5, 34, fun v => v = dF ((d * (y * y)))) (by rw [hp]; simp) F rfl⟩
    · rw [h.row 6 (by rw [hp]; simp)] at hL; cases hL
    · injection (show some _ = some o from ho) with ho; subst ho
      have l34 : L 5 = true := after_on hd (by kernel_rfl)
      have e34 := h.call (5, 34, fun v => v = dF ((d * (y * y)))) (by rw [hp]; simp) l34
      have ct : Calls Try.prog 31 #[s 34, dF (o)] w (fun e w' => e = .returned (dF (((d * (y * y)) + o))) ∧ Fr [] w w') := by
        simp only [] at e34
        rw [e34]
        exact radd_f (d * (y * y)) o
      clear e34 l34
      simp only [fill]
      go_wp2_with fail
      refine (ct).mono ?_
      rintro e w2 ⟨rfl, F⟩
      simp only []
      go_wp2
      exact ⟨_, by kernel_rfl, h.called ok (7, 36, fun v => v = dF (((d * (y * y)) + o))) (by rw [hp]; simp) F rfl⟩
    · injection (show some _ = some o from ho) with ho; subst ho
      have l36 : L 7 = true := after_on hd (by kernel_rfl)
      have e36 := h.call (7, 36, fun v => v = dF (((d * (y * y)) + o))) (by rw [hp]; simp) l36
      have ct : Calls Try.prog 41 #[s 36] w (fun e w' => e = .returned (dF ((inv ((d * (y * y)) + o)))) ∧ Fr [] w w') := by
        simp only [] at e36
        rw [e36]
        exact rinv_f ((d * (y * y)) + o)
      clear e36 l36
      simp only [fill]
      go_wp2_with fail
      refine (ct).mono ?_
      rintro e w2 ⟨rfl, F⟩
      simp only []
      go_wp2
      exact ⟨_, by kernel_rfl, h.called ok (8, 37, fun v => v = dF ((inv ((d * (y * y)) + o)))) (by rw [hp]; simp) F rfl⟩
    · injection (show some _ = some o from ho) with ho; subst ho
      have l31 : L 2 = true := after_on hd (by kernel_rfl)
      have e31 := h.call (2, 31, fun v => v = dF (((y * y) - o))) (by rw [hp]; simp) l31
      have l37 : L 8 = true := after_on hd (by kernel_rfl)
      have e37 := h.call (8, 37, fun v => v = dF ((inv ((d * (y * y)) + o)))) (by rw [hp]; simp) l37
      have ct : Calls Try.prog 37 #[s 31, s 37] w (fun e w' => e = .returned (dF ((((y * y) - o) * (inv ((d * (y * y)) + o))))) ∧ Fr [] w w') := by
        simp only [] at e31 e37
        rw [e31, e37]
        exact rmul_f ((y * y) - o) (inv ((d * (y * y)) + o))
      clear e31 l31 e37 l37
      simp only [fill]
      go_wp2_with fail
      refine (ct).mono ?_
      rintro e w2 ⟨rfl, F⟩
      simp only []
      go_wp2
      exact ⟨_, by kernel_rfl, h.called ok (9, 38, fun v => v = dF ((((y * y) - o) * (inv ((d * (y * y)) + o))))) (by rw [hp]; simp) F rfl⟩
    · injection (show some _ = some o from ho) with ho; subst ho
      have l38 : L 9 = true := after_on hd (by kernel_rfl)
      have e38 := h.call (9, 38, fun v => v = dF ((((y * y) - o) * (inv ((d * (y * y)) + o))))) (by rw [hp]; simp) l38
      have ct : Calls Try.prog 39 #[s 38] w (fun e w' => e = .returned (.tuple #[dF (r), .bool true]) ∧ Fr [] w w') := by
        simp only [] at e38
        rw [e38]
        exact rroot_nm Ho.out Hr.out
      clear e38 l38
      simp only [fill]
      go_wp2_with fail
      refine (ct).mono ?_
      rintro e w2 ⟨rfl, F⟩
      simp only []
      go_wp2
      exact ⟨_, by kernel_rfl, h.called ok (10, 39, fun v => v = .tuple #[dF (r), .bool true]) (by rw [hp]; simp) F rfl⟩
    · injection (show some _ = some o from ho) with ho; subst ho
      have l39 : L 10 = true := after_on hd (by kernel_rfl)
      have e39 := h.call (10, 39, fun v => v = .tuple #[dF (r), .bool true]) (by rw [hp]; simp) l39
      simp only [] at e39
      simp only [fill, e39]
      go_wp2
      exact ⟨_, by simp only [fill, set1, Nat.reduceEqDiff, reduceIte, e39]; kernel_rfl, h.called ok (11, 28, fun v => v = .tuple #[dF (r), .bool true]) (by rw [hp]; simp) (Fr.refl _ _) rfl⟩
    · injection (show some _ = some o from ho) with ho; subst ho
      have l28 : L 11 = true := after_on hd (by kernel_rfl)
      have e28 := h.call (11, 28, fun v => v = .tuple #[dF (r), .bool true]) (by rw [hp]; simp) l28
      simp only [] at e28
      simp only [fill, e28]
      go_wp2
      exact ⟨_, by simp only [fill, set1, Nat.reduceEqDiff, reduceIte, e28]; kernel_rfl, h.called ok (12, 40, fun v => v = dF (r)) (by rw [hp]; simp) (Fr.refl _ _) rfl⟩
    · injection (show some _ = some o from ho) with ho; subst ho
      have l28 : L 11 = true := after_on hd (by kernel_rfl)
      have e28 := h.call (11, 28, fun v => v = .tuple #[dF (r), .bool true]) (by rw [hp]; simp) l28
      simp only [] at e28
      simp only [fill, e28]
      go_wp2
      exact ⟨_, by simp only [fill, set1, Nat.reduceEqDiff, reduceIte, e28]; kernel_rfl, h.called ok (13, 41, fun v => v = .bool true) (by rw [hp]; simp) (Fr.refl _ _) rfl⟩
    · injection (show some _ = some o from ho) with ho; subst ho
      simp only [fill]
      go_wp2
      exact ⟨_, by kernel_rfl, h.made ok (14, 8, .cells (ints .i64 (List.replicate 16 0)) 32, 15, .cells (ints .i64 (digs (r).val)) 32) (by rw [hp]; simp) hL⟩
    · injection (show some _ = some o from ho) with ho; subst ho
      have lr : L 14 = true := after_on hd (by kernel_rfl)
      obtain ⟨b, er, _, mr⟩ := h.room (14, 8, .cells (ints .i64 (List.replicate 16 0)) 32, 15, .cells (ints .i64 (digs (r).val)) 32) (by rw [hp]; simp) lr
      have hst := h.stored ok (14, 8, .cells (ints .i64 (List.replicate 16 0)) 32, 15, .cells (ints .i64 (digs (r).val)) 32) (by rw [hp]; simp) lr er
      simp only [] at er mr hst
      rw [hL, if_neg Bool.false_ne_true] at mr
      have br := World.at_lt mr
      have lv : L 12 = true := after_on hd (by kernel_rfl)
      have ev := h.call (12, 40, fun v => v = dF (r)) (by rw [hp]; simp) lv
      simp only [] at ev
      simp only [fill, er, ev]
      go_wp2
      exact ⟨_, by simp only [fill, er, ev]; kernel_rfl, hst⟩
  intro s w48 h
  have e49 := h.call (2, 31, fun v => v = dF (((y * y) - o))) (by rw [hp]; simp) rfl
  have e50 := h.call (3, 32, fun v => v = dF (d)) (by rw [hp]; simp) rfl
  have e51 := h.call (5, 34, fun v => v = dF ((d * (y * y)))) (by rw [hp]; simp) rfl
  have e52 := h.call (7, 36, fun v => v = dF (((d * (y * y)) + o))) (by rw [hp]; simp) rfl
  have e53 := h.call (8, 37, fun v => v = dF ((inv ((d * (y * y)) + o)))) (by rw [hp]; simp) rfl
  have e54 := h.call (9, 38, fun v => v = dF ((((y * y) - o) * (inv ((d * (y * y)) + o))))) (by rw [hp]; simp) rfl
  have e55 := h.call (10, 39, fun v => v = .tuple #[dF (r), .bool true]) (by rw [hp]; simp) rfl
  have e56 := h.call (11, 28, fun v => v = .tuple #[dF (r), .bool true]) (by rw [hp]; simp) rfl
  have e57 := h.call (12, 40, fun v => v = dF (r)) (by rw [hp]; simp) rfl
  have e58 := h.call (13, 41, fun v => v = .bool true) (by rw [hp]; simp) rfl
  obtain ⟨bk59, e60, l61, m62⟩ := h.room (14, 8, .cells (ints .i64 (List.replicate 16 0)) 32, 15, .cells (ints .i64 (digs (r).val)) 32) (by rw [hp]; simp) rfl
  simp only [] at e49 e50 e51 e52 e53 e54 e55 e56 e57 e58 e60 m62
  rw [decide_eq_true (by decide : 15 < 16), if_pos rfl] at m62
  have h63 := h42.call h.fr
  simp only [fill, e49, e50, e51, e52, e53, e54, e55, e56, e57, e58, e60]
  have h64 := (h63.room m62 (h42.fresh l61) (Nat.le_trans h42.fr.size l61))
  rw [HL40.out] at h64
  clear e49 e50 e51 e52 e53 e54 e55 e56 e57 e58 e60  l61 m62 h63 h ok hp h42 p
  obtain ⟨L65, hL65⟩ : ∃ L : List (Nat × Obj), L = [(bk59, .cells (ints .i64 (digs (r).val)) 32), (bk37, .cells (ints .i64 (digs (o).val)) 32), (bk31, .cells (ints .i64 (digs ((y * y)).val)) 32), (bk8, .cells (ints .i64 (digs (y).val)) 32), (bk2, .cells (ints .i64 (List.replicate 48 0)) 51), (bk1, .cells (ints .u8 (C)) 22)] := ⟨_, rfl⟩
  rw [← hL65] at h64
  have HL65 := Lib.hid hL65
  clear hL65
  refine drawn_end (ol := [_]) rfl (by kernel_rfl) ?_
  intro K hK
  go_wp2_with fail
  have hz := HZ0.out
  refine drawn_begin 10 (OwB w L65) (by kernel_rfl) ?_
  refine OwB.named (Q := fun X => Go.Dr.wpAnyS Try.prog .any _ _ _ _ _ _ _ X) (h64.drew) ?_
  intro V66 h67
  clear h64
  refine drawn_reads (fuel := 7) [0, 1, 2] rfl (by kernel_rfl) (h67) ?_
  repeat (first | (refine rowK_step2 rfl rfl (fun K hK => ?_); go_wp2) | (refine rowK_step rfl (fun K hK => ?_); go_simp; refine hK _ ?_; clear hK K) | (refine rowK_step rfl (fun K hK => ?_); go_simp; refine ⟨by decide, hK _ ?_⟩; clear hK K))
  refine rowK_nil ⟨fun w' hw' => ?_, ?_⟩
  · skip
    repeat (first | (refine rowWp_step2 rfl rfl (fun K hK => ?_); go_wp2) | (refine rowWp_step rfl (fun K hK => ?_); go_simp; refine hK _ ?_; clear hK K) | (refine rowWp_step rfl (fun K hK => ?_); go_simp; refine ⟨by decide, hK _ ?_⟩; clear hK K))
    exact rowWp_nil rfl
  have s68 := h67
  rw [HL65.out] at s68
  have f69 := s68.nth 0 rfl
  clear s68
  refine drawn_reads (fuel := 4) [3, 4, 5] rfl (by kernel_rfl) (h67) ?_
  repeat (first | (refine rowK_step2 rfl rfl (fun K hK => ?_); go_wp2) | (refine rowK_step rfl (fun K hK => ?_); go_simp; refine hK _ ?_; clear hK K) | (refine rowK_step rfl (fun K hK => ?_); go_simp; refine ⟨by decide, hK _ ?_⟩; clear hK K))
  refine rowK_nil ⟨fun w' hw' => ?_, ?_⟩
  · rw [HL65.out] at hw'
    have g70 := hw'.nth 0 rfl
    clear f69
    repeat (first | (refine rowWp_step2 rfl rfl (fun K hK => ?_); go_wp2) | (refine rowWp_step rfl (fun K hK => ?_); go_simp; refine hK _ ?_; clear hK K) | (refine rowWp_step rfl (fun K hK => ?_); go_simp; refine ⟨by decide, hK _ ?_⟩; clear hK K))
    exact rowWp_nil rfl
  clear f69
  refine drawn_next 6 (fuel := 3) rfl (by kernel_rfl) ?_
  intro K hK
  go_wp2_with fail
  refine (small_n 0 (by decide) Hz0.out).mono ?_
  rintro e w71 ⟨rfl, F72⟩
  have h73 := (h67).call F72
  clear F72 h67
  simp only []
  go_wp2
  refine ⟨h73, ?_⟩
  refine drawn_reads (fuel := 0) [7, 8, 9] rfl (by kernel_rfl) (h73) ?_
  repeat (first | (refine rowK_step2 rfl rfl (fun K hK => ?_); go_wp2) | (refine rowK_step rfl (fun K hK => ?_); go_simp; refine hK _ ?_; clear hK K) | (refine rowK_step rfl (fun K hK => ?_); go_simp; refine ⟨by decide, hK _ ?_⟩; clear hK K))
  refine rowK_nil ⟨fun w' hw' => ?_, ?_⟩
  · skip
    repeat (first | (refine rowWp_step2 rfl rfl (fun K hK => ?_); go_wp2) | (refine rowWp_step rfl (fun K hK => ?_); go_simp; refine hK _ ?_; clear hK K) | (refine rowWp_step rfl (fun K hK => ?_); go_simp; refine ⟨by decide, hK _ ?_⟩; clear hK K))
    exact rowWp_nil rfl
  refine drawn_end (ol := []) rfl (by kernel_rfl) ?_
  intro K hK
  go_wp2_with fail
  refine (dzero_core _ _ Hz0.out Ho1.out).mono ?_
  rintro e w74 ⟨rfl, F75⟩
  have s77 := h73
  rw [HL65.out] at s77
  have h76 : OwB w [(bk59, .cells (ints .i64 (digs (r).val)) 32), (bk37, .cells (ints .i64 (digs (o).val)) 32), (bk31, .cells (ints .i64 (digs ((y * y)).val)) 32), (bk8, .cells (ints .i64 (digs (y).val)) 32), (bk2, .cells (ints .i64 (List.replicate 48 0)) 51), (bk1, .cells (ints .u8 (C)) 22)] w74 := (s77).call F75
  clear F75
  simp only []
  clear s77 h73
  obtain ⟨L78, hL78⟩ : ∃ L : List (Nat × Obj), L = [(bk59, .cells (ints .i64 (digs (r).val)) 32), (bk37, .cells (ints .i64 (digs (o).val)) 32), (bk31, .cells (ints .i64 (digs ((y * y)).val)) 32), (bk8, .cells (ints .i64 (digs (y).val)) 32), (bk2, .cells (ints .i64 (List.replicate 48 0)) 51), (bk1, .cells (ints .u8 (C)) 22)] := ⟨_, rfl⟩
  rw [← hL78] at h76
  have HL78 := Lib.hid hL78
  clear hL78
  have s79 := h76
  rw [HL78.out] at s79
  have f80 := s79.nth 4 rfl
  have t81 := s79.lt 4 rfl
  clear s79
  go_wp2_with fail
  clear f80 t81
  have s82 := h76
  rw [HL78.out] at s82
  refine OwB.named (Q := fun X => bodyPost _ _ _ _ _ X) (show OwB w [(bk59, .cells (ints .i64 (digs (r).val)) 32), (bk37, .cells (ints .i64 (digs (o).val)) 32), (bk31, .cells (ints .i64 (digs ((y * y)).val)) 32), (bk8, .cells (ints .i64 (digs (y).val)) 32), (bk2, .cells (dpC z o o) 51), (bk1, .cells (ints .u8 (C)) 22)] _ from (s82.set 4 (.cells (dpC z o o) 51) rfl)) ?_
  intro V84 h83
  clear s82 h76
  obtain ⟨L85, hL85⟩ : ∃ L : List (Nat × Obj), L = [(bk59, .cells (ints .i64 (digs (r).val)) 32), (bk37, .cells (ints .i64 (digs (o).val)) 32), (bk31, .cells (ints .i64 (digs ((y * y)).val)) 32), (bk8, .cells (ints .i64 (digs (y).val)) 32), (bk2, .cells (dpC z o o) 51), (bk1, .cells (ints .u8 (C)) 22)] := ⟨_, rfl⟩
  rw [← hL85] at h83
  have HL85 := Lib.hid hL85
  clear hL85
  have s86 := h83
  rw [HL85.out] at s86
  refine ret_cell_tmp rfl rfl rfl ?_
  refine cellRet_of (s86.nth 4 rfl) (by rw [size_dpC]; kernel_rfl) ?_
  exact ⟨_, _, rfl, .inl ⟨Or.inr (Or.inr ⟨hb, rfl, (by have := H31.out; omega), HZ0.out⟩), rfl, rfl⟩, s86.fr⟩

set_option maxRecDepth 100000 in
set_option maxHeartbeats 8000000 in
theorem ddec_odd (b C : List Int) (y r d o z : Fp) (hl : b.length = 32) (hC : C = lowD b) (lC : C.length = 32) (bC : Byt C) (hy : fromB C = y) (hd : dE = d) (ho1 : toFp 1 = o) (hz0 : toFp 0 = z) (hr : r = rootF (((y * y) - o) * (inv ((d * (y * y)) + o)))) (ho : true = rootOk (((y * y) - o) * (inv ((d * (y * y)) + o)))) (hb : bytesF y = C) (h31 : 128 ≤ el b 31) (hz : ¬ digs r.val = digs z.val) : Calls Try.prog 81 #[.agg (ints .u8 b)] w fun e w' => ∃ v ok, e = .returned (.tuple #[v, .bool ok]) ∧ DecD b C y r true z o v ok ∧ Fr [] w w' := by
  have Hy2 : Hid (fromB (lowD b) = y) := Lib.hid (by rw [← hC]; exact hy)
  have lC2 : (lowD b).length = 32 := by rw [← hC]; exact lC
  have HB2 : Hid (Byt (lowD b)) := Lib.hid (by rw [← hC]; exact bC)
  have HC := Lib.hid hC
  have HB := Lib.hid bC
  have Hy := Lib.hid hy
  have Hr := Lib.hid hr
  have HD := Lib.hid hd
  have Ho1 := Lib.hid ho1
  have Hz0 := Lib.hid hz0
  clear hC bC hy hr hd ho1 hz0
  have Ho := Lib.hid ho
  clear ho
  have hdd : decide (128 ≤ el b 31) = true := decide_eq_true h31
  have H31 := Lib.hid h31
  clear h31
  go_enter Try.func81, Try.ntmps81
  go_wp2_with fail
  refine (rof_n Hy2.out lC2 HB2.out).mono ?_
  rintro e w3 ⟨rfl, F4⟩
  have h5 : OwB w [(w.heap.size + 1, .cells (ints .i64 (List.replicate 48 0)) 51), (w.heap.size, .cells (ints .u8 (lowD b)) 22)] w3 := ((((OwB.start w).allocN (.cells (ints .u8 (lowD b)) 22) w.heap.size rfl).allocN (.cells (ints .i64 (List.replicate 48 0)) 51) (w.heap.size + 1) (by simp))).call F4
  clear F4
  simp only []
  generalize w.heap.size + 1 = bk2 at h5 ⊢
  generalize w.heap.size = bk1 at h5 ⊢
  rw [← HC.out] at h5
  obtain ⟨L6, hL6⟩ : ∃ L : List (Nat × Obj), L = [(bk2, .cells (ints .i64 (List.replicate 48 0)) 51), (bk1, .cells (ints .u8 (C)) 22)] := ⟨_, rfl⟩
  rw [← hL6] at h5
  have HL6 := Lib.hid hL6
  clear hL6
  go_wp2_with fail
  have s7 := h5
  rw [HL6.out] at s7
  refine OwB.named (Q := fun X => Code.wp _ _ _ _ X) (show OwB w [(w3.heap.size, .cells (ints .i64 (digs (y).val)) 32), (bk2, .cells (ints .i64 (List.replicate 48 0)) 51), (bk1, .cells (ints .u8 (C)) 22)] _ from (s7.allocN (.cells (ints .i64 (digs (y).val)) 32) (w3.heap.size) (by simp))) ?_
  intro V10 h9
  generalize w3.heap.size = bk8 at h9 ⊢
  clear s7 h5
  obtain ⟨L11, hL11⟩ : ∃ L : List (Nat × Obj), L = [(bk8, .cells (ints .i64 (digs (y).val)) 32), (bk2, .cells (ints .i64 (List.replicate 48 0)) 51), (bk1, .cells (ints .u8 (C)) 22)] := ⟨_, rfl⟩
  rw [← hL11] at h9
  have HL11 := Lib.hid hL11
  clear hL11
  refine drawn_begin 4 (OwB w L11) (by kernel_rfl) ?_
  refine OwB.named (Q := fun X => Go.Dr.wpAnyS Try.prog .any _ _ _ _ _ _ _ X) (h9.drew) ?_
  intro V12 h13
  clear h9
  have s14 := h13
  rw [HL11.out] at s14
  have f15 := s14.nth 0 rfl
  have f16 := s14.nth 2 rfl
  clear s14
  refine drawn_reads (fuel := 2) [0, 2] rfl (by kernel_rfl) (h13) ?_
  repeat (first | (refine rowK_step2 rfl rfl (fun K hK => ?_); go_wp2) | (refine rowK_step rfl (fun K hK => ?_); go_simp; refine hK _ ?_; clear hK K) | (refine rowK_step rfl (fun K hK => ?_); go_simp; refine ⟨by decide, hK _ ?_⟩; clear hK K))
  refine rowK_nil ⟨fun w' hw' => ?_, ?_⟩
  · rw [HL11.out] at hw'
    have g17 := hw'.nth 0 rfl
    have g18 := hw'.nth 2 rfl
    clear f15 f16
    repeat (first | (refine rowWp_step2 rfl rfl (fun K hK => ?_); go_wp2) | (refine rowWp_step rfl (fun K hK => ?_); go_simp; refine hK _ ?_; clear hK K) | (refine rowWp_step rfl (fun K hK => ?_); go_simp; refine ⟨by decide, hK _ ?_⟩; clear hK K))
    exact rowWp_nil rfl
  clear f15 f16
  refine drawn_next 1 (fuel := 1) rfl (by kernel_rfl) ?_
  intro K hK
  go_wp2_with fail
  refine (rbytes_f y).mono ?_
  rintro e w19 ⟨rfl, F20⟩
  have h21 := (h13).call F20
  clear F20 h13
  simp only []
  go_wp2
  refine ⟨h21, ?_⟩
  refine drawn_reads (fuel := 0) [3] rfl (by kernel_rfl) (h21) ?_
  repeat (first | (refine rowK_step2 rfl rfl (fun K hK => ?_); go_wp2) | (refine rowK_step rfl (fun K hK => ?_); go_simp; refine hK _ ?_; clear hK K) | (refine rowK_step rfl (fun K hK => ?_); go_simp; refine ⟨by decide, hK _ ?_⟩; clear hK K))
  refine rowK_nil ⟨fun w' hw' => ?_, ?_⟩
  · skip
    repeat (first | (refine rowWp_step2 rfl rfl (fun K hK => ?_); go_wp2) | (refine rowWp_step rfl (fun K hK => ?_); go_simp; refine hK _ ?_; clear hK K) | (refine rowWp_step rfl (fun K hK => ?_); go_simp; refine ⟨by decide, hK _ ?_⟩; clear hK K))
    exact rowWp_nil rfl
  refine drawn_end (ol := []) rfl (by kernel_rfl) ?_
  intro K hK
  have s22 := h21
  rw [HL11.out] at s22
  have f23 := s22.nth 0 rfl
  have t24 := s22.lt 0 rfl
  clear s22
  go_wp2_with fail
  clear f23 t24
  refine (rmul_f y y).mono ?_
  rintro e w25 ⟨rfl, F26⟩
  have s28 := h21
  rw [HL11.out] at s28
  have h27 : OwB w [(bk8, .cells (ints .i64 (digs (y).val)) 32), (bk2, .cells (ints .i64 (List.replicate 48 0)) 51), (bk1, .cells (ints .u8 (C)) 22)] w25 := (s28).call F26
  clear F26
  simp only []
  clear s28 h21
  obtain ⟨L29, hL29⟩ : ∃ L : List (Nat × Obj), L = [(bk8, .cells (ints .i64 (digs (y).val)) 32), (bk2, .cells (ints .i64 (List.replicate 48 0)) 51), (bk1, .cells (ints .u8 (C)) 22)] := ⟨_, rfl⟩
  rw [← hL29] at h27
  have HL29 := Lib.hid hL29
  clear hL29
  go_wp2_with fail
  have s30 := h27
  rw [HL29.out] at s30
  refine (small_n 1 (by decide) Ho1.out).mono ?_
  rintro e w32 ⟨rfl, F33⟩
  have h34 : OwB w [(w25.heap.size, .cells (ints .i64 (digs ((y * y)).val)) 32), (bk8, .cells (ints .i64 (digs (y).val)) 32), (bk2, .cells (ints .i64 (List.replicate 48 0)) 51), (bk1, .cells (ints .u8 (C)) 22)] w32 := ((s30.allocN (.cells (ints .i64 (digs ((y * y)).val)) 32) (w25.heap.size) (by simp))).call F33
  clear F33
  simp only []
  generalize w25.heap.size = bk31 at h34 ⊢
  clear s30 h27
  obtain ⟨L35, hL35⟩ : ∃ L : List (Nat × Obj), L = [(bk31, .cells (ints .i64 (digs ((y * y)).val)) 32), (bk8, .cells (ints .i64 (digs (y).val)) 32), (bk2, .cells (ints .i64 (List.replicate 48 0)) 51), (bk1, .cells (ints .u8 (C)) 22)] := ⟨_, rfl⟩
  rw [← hL35] at h34
  have HL35 := Lib.hid hL35
  clear hL35
  go_wp2_with fail
  have s36 := h34
  rw [HL35.out] at s36
  refine OwB.named (Q := fun X => Code.wp _ _ _ _ X) (show OwB w [(w32.heap.size, .cells (ints .i64 (digs (o).val)) 32), (bk31, .cells (ints .i64 (digs ((y * y)).val)) 32), (bk8, .cells (ints .i64 (digs (y).val)) 32), (bk2, .cells (ints .i64 (List.replicate 48 0)) 51), (bk1, .cells (ints .u8 (C)) 22)] _ from (s36.allocN (.cells (ints .i64 (digs (o).val)) 32) (w32.heap.size) (by simp))) ?_
  intro V39 h38
  generalize w32.heap.size = bk37 at h38 ⊢
  clear s36 h34
  obtain ⟨L40, hL40⟩ : ∃ L : List (Nat × Obj), L = [(bk37, .cells (ints .i64 (digs (o).val)) 32), (bk31, .cells (ints .i64 (digs ((y * y)).val)) 32), (bk8, .cells (ints .i64 (digs (y).val)) 32), (bk2, .cells (ints .i64 (List.replicate 48 0)) 51), (bk1, .cells (ints .u8 (C)) 22)] := ⟨_, rfl⟩
  rw [← hL40] at h38
  have HL40 := Lib.hid hL40
  clear hL40
  refine drawn_begin 16 (OwB w L40) (by kernel_rfl) ?_
  refine OwB.named (Q := fun X => Go.Dr.wpAnyS Try.prog .any _ _ _ _ _ _ _ X) (h38.drew) ?_
  intro V41 h42
  clear h38
  have s43 := h42
  rw [HL40.out] at s43
  have f44 := s43.nth 1 rfl
  have f45 := s43.nth 0 rfl
  clear s43
  refine drawn_reads (fuel := 13) [0, 1, 4, 6] rfl (by kernel_rfl) (h42) ?_
  repeat (first | (refine rowK_step2 rfl rfl (fun K hK => ?_); go_wp2) | (refine rowK_step rfl (fun K hK => ?_); go_simp; refine hK _ ?_; clear hK K) | (refine rowK_step rfl (fun K hK => ?_); go_simp; refine ⟨by decide, hK _ ?_⟩; clear hK K))
  refine rowK_nil ⟨fun w' hw' => ?_, ?_⟩
  · rw [HL40.out] at hw'
    have g46 := hw'.nth 1 rfl
    have g47 := hw'.nth 0 rfl
    clear f44 f45
    repeat (first | (refine rowWp_step2 rfl rfl (fun K hK => ?_); go_wp2) | (refine rowWp_step rfl (fun K hK => ?_); go_simp; refine hK _ ?_; clear hK K) | (refine rowWp_step rfl (fun K hK => ?_); go_simp; refine ⟨by decide, hK _ ?_⟩; clear hK K))
    exact rowWp_nil rfl
  clear f44 f45
  obtain ⟨p, hp⟩ : ∃ p : Par3, p = ⟨[(2, 31, fun v => v = dF (((y * y) - o))), (3, 32, fun v => v = dF (d)), (5, 34, fun v => v = dF ((d * (y * y)))), (7, 36, fun v => v = dF (((d * (y * y)) + o))), (8, 37, fun v => v = dF ((inv ((d * (y * y)) + o)))), (9, 38, fun v => v = dF ((((y * y) - o) * (inv ((d * (y * y)) + o))))), (10, 39, fun v => v = .tuple #[dF (r), .bool true]), (11, 28, fun v => v = .tuple #[dF (r), .bool true]), (12, 40, fun v => v = dF (r)), (13, 41, fun v => v = .bool true)], [(14, 8, .cells (ints .i64 (List.replicate 16 0)) 32, 15, .cells (ints .i64 (digs (r).val)) 32)], [0, 1, 4, 6]⟩ := ⟨_, rfl⟩
  have ok : p.ok := Par3.ok_of (by rw [hp]; rfl)
  refine drawn_inv2 16 (N := 16) (rest := 1) [31, 32, 34, 36, 37, 38, 39, 28, 40, 41, 8] (fun L s w => p.Inv V41 L s w) (fun _ => undef) 12 (by kernel_rfl) (fun L s w h => ?_) (by kernel_rfl) ?_ ?_ ?_
  · exact h42.call h.fr
  · refine Par3.Inv.start ?_ ?_ ?_ ?_ <;> rw [hp] <;> intro i hi <;> simp at hi
    · rcases hi with rfl | rfl | rfl | rfl <;> rfl
    · rcases hi with rfl | rfl | rfl | rfl | rfl | rfl | rfl | rfl | rfl | rfl <;> rfl
    · subst hi; rfl
    · subst hi; rfl
  · intro i o L s w ho hi hL hd h K hK
    rcases (show i = 0 ∨ i = 1 ∨ i = 2 ∨ i = 3 ∨ i = 4 ∨ i = 5 ∨ i = 6 ∨ i = 7 ∨ i = 8 ∨ i = 9 ∨ i = 10 ∨ i = 11 ∨ i = 12 ∨ i = 13 ∨ i = 14 ∨ i = 15 by omega) with rfl | rfl | rfl | rfl | rfl | rfl | rfl | rfl | rfl | rfl | rfl | rfl | rfl | rfl | rfl | rfl
    · rw [h.row 0 (by rw [hp]; simp)] at hL; cases hL
    · rw [h.row 1 (by rw [hp]; simp)] at hL; cases hL
    · injection (show some _ = some o from ho) with ho; subst ho
      simp only [fill]
      go_wp2_with fail
      refine (rsub_f (y * y) o).mono ?_
      rintro e w2 ⟨rfl, F⟩
      simp only []
      go_wp2
      exact ⟨_, by kernel_rfl, h.called ok (2, 31, fun v => v = dF (((y * y) - o))) (by rw [hp]; simp) F rfl⟩
    · injection (show some _ = some o from ho) with ho; subst ho
      simp only [fill]
      go_wp2_with fail
      refine (dfactor_n HD.out).mono ?_
      rintro e w2 ⟨rfl, F⟩
      simp only []
      go_wp2
      exact ⟨_, by kernel_rfl, h.called ok (3, 32, fun v => v = dF (d)) (by rw [hp]; simp) F rfl⟩
    · rw [h.row 4 (by rw [hp]; simp)] at hL; cases hL
    · injection (show some _ = some o from ho) with ho; subst ho
      have l32 : L 3 = true := after_on hd (by kernel_rfl)
      have e32 := h.call (3, 32, fun v => v = dF (d)) (by rw [hp]; simp) l32
      have ct : Calls Try.prog 37 #[s 32, dF ((y * y))] w (fun e w' => e = .returned (dF ((d * (y * y)))) ∧ Fr [] w w') := by
        simp only [] at e32
        rw [e32]
        exact rmul_f d (y * y)
      clear e32 l32
      simp only [fill]
      go_wp2_with fail
      refine (ct).mono ?_
      rintro e w2 ⟨rfl, F⟩
      simp only []
      go_wp2
      exact ⟨_, by kernel_rfl, h.called ok (5, 34, fun v => v = dF ((d * (y * y)))) (by rw [hp]; simp) F rfl⟩
    · rw [h.row 6 (by rw [hp]; simp)] at hL; cases hL
    · injection (show some _ = some o from ho) with ho; subst ho
      have l34 : L 5 = true := after_on hd (by kernel_rfl)
      have e34 := h.call (5, 34, fun v => v = dF ((d * (y * y)))) (by rw [hp]; simp) l34
      have ct : Calls Try.prog 31 #[s 34, dF (o)] w (fun e w' => e = .returned (dF (((d * (y * y)) + o))) ∧ Fr [] w w') := by
        simp only [] at e34
        rw [e34]
        exact radd_f (d * (y * y)) o
      clear e34 l34
      simp only [fill]
      go_wp2_with fail
      refine (ct).mono ?_
      rintro e w2 ⟨rfl, F⟩
      simp only []
      go_wp2
      exact ⟨_, by kernel_rfl, h.called ok (7, 36, fun v => v = dF (((d * (y * y)) + o))) (by rw [hp]; simp) F rfl⟩
    · injection (show some _ = some o from ho) with ho; subst ho
      have l36 : L 7 = true := after_on hd (by kernel_rfl)
      have e36 := h.call (7, 36, fun v => v = dF (((d * (y * y)) + o))) (by rw [hp]; simp) l36
      have ct : Calls Try.prog 41 #[s 36] w (fun e w' => e = .returned (dF ((inv ((d * (y * y)) + o)))) ∧ Fr [] w w') := by
        simp only [] at e36
        rw [e36]
        exact rinv_f ((d * (y * y)) + o)
      clear e36 l36
      simp only [fill]
      go_wp2_with fail
      refine (ct).mono ?_
      rintro e w2 ⟨rfl, F⟩
      simp only []
      go_wp2
      exact ⟨_, by kernel_rfl, h.called ok (8, 37, fun v => v = dF ((inv ((d * (y * y)) + o)))) (by rw [hp]; simp) F rfl⟩
    · injection (show some _ = some o from ho) with ho; subst ho
      have l31 : L 2 = true := after_on hd (by kernel_rfl)
      have e31 := h.call (2, 31, fun v => v = dF (((y * y) - o))) (by rw [hp]; simp) l31
      have l37 : L 8 = true := after_on hd (by kernel_rfl)
      have e37 := h.call (8, 37, fun v => v = dF ((inv ((d * (y * y)) + o)))) (by rw [hp]; simp) l37
      have ct : Calls Try.prog 37 #[s 31, s 37] w (fun e w' => e = .returned (dF ((((y * y) - o) * (inv ((d * (y * y)) + o))))) ∧ Fr [] w w') := by
        simp only [] at e31 e37
        rw [e31, e37]
        exact rmul_f ((y * y) - o) (inv ((d * (y * y)) + o))
      clear e31 l31 e37 l37
      simp only [fill]
      go_wp2_with fail
      refine (ct).mono ?_
      rintro e w2 ⟨rfl, F⟩
      simp only []
      go_wp2
      exact ⟨_, by kernel_rfl, h.called ok (9, 38, fun v => v = dF ((((y * y) - o) * (inv ((d * (y * y)) + o))))) (by rw [hp]; simp) F rfl⟩
    · injection (show some _ = some o from ho) with ho; subst ho
      have l38 : L 9 = true := after_on hd (by kernel_rfl)
      have e38 := h.call (9, 38, fun v => v = dF ((((y * y) - o) * (inv ((d * (y * y)) + o))))) (by rw [hp]; simp) l38
      have ct : Calls Try.prog 39 #[s 38] w (fun e w' => e = .returned (.tuple #[dF (r), .bool true]) ∧ Fr [] w w') := by
        simp only [] at e38
        rw [e38]
        exact rroot_nm Ho.out Hr.out
      clear e38 l38
      simp only [fill]
      go_wp2_with fail
      refine (ct).mono ?_
      rintro e w2 ⟨rfl, F⟩
      simp only []
      go_wp2
      exact ⟨_, by kernel_rfl, h.called ok (10, 39, fun v => v = .tuple #[dF (r), .bool true]) (by rw [hp]; simp) F rfl⟩
    · injection (show some _ = some o from ho) with ho; subst ho
      have l39 : L 10 = true := after_on hd (by kernel_rfl)
      have e39 := h.call (10, 39, fun v => v = .tuple #[dF (r), .bool true]) (by rw [hp]; simp) l39
      simp only [] at e39
      simp only [fill, e39]
      go_wp2
      exact ⟨_, by simp only [fill, set1, Nat.reduceEqDiff, reduceIte, e39]; kernel_rfl, h.called ok (11, 28, fun v => v = .tuple #[dF (r), .bool true]) (by rw [hp]; simp) (Fr.refl _ _) rfl⟩
    · injection (show some _ = some o from ho) with ho; subst ho
      have l28 : L 11 = true := after_on hd (by kernel_rfl)
      have e28 := h.call (11, 28, fun v => v = .tuple #[dF (r), .bool true]) (by rw [hp]; simp) l28
      simp only [] at e28
      simp only [fill, e28]
      go_wp2
      exact ⟨_, by simp only [fill, set1, Nat.reduceEqDiff, reduceIte, e28]; kernel_rfl, h.called ok (12, 40, fun v => v = dF (r)) (by rw [hp]; simp) (Fr.refl _ _) rfl⟩
    · injection (show some _ = some o from ho) with ho; subst ho
      have l28 : L 11 = true := after_on hd (by kernel_rfl)
      have e28 := h.call (11, 28, fun v => v = .tuple #[dF (r), .bool true]) (by rw [hp]; simp) l28
      simp only [] at e28
      simp only [fill, e28]
      go_wp2
      exact ⟨_, by simp only [fill, set1, Nat.reduceEqDiff, reduceIte, e28]; kernel_rfl, h.called ok (13, 41, fun v => v = .bool true) (by rw [hp]; simp) (Fr.refl _ _) rfl⟩
    · injection (show some _ = some o from ho) with ho; subst ho
      simp only [fill]
      go_wp2
      exact ⟨_, by kernel_rfl, h.made ok (14, 8, .cells (ints .i64 (List.replicate 16 0)) 32, 15, .cells (ints .i64 (digs (r).val)) 32) (by rw [hp]; simp) hL⟩
    · injection (show some _ = some o from ho) with ho; subst ho
      have lr : L 14 = true := after_on hd (by kernel_rfl)
      obtain ⟨b, er, _, mr⟩ := h.room (14, 8, .cells (ints .i64 (List.replicate 16 0)) 32, 15, .cells (ints .i64 (digs (r).val)) 32) (by rw [hp]; simp) lr
      have hst := h.stored ok (14, 8, .cells (ints .i64 (List.replicate 16 0)) 32, 15, .cells (ints .i64 (digs (r).val)) 32) (by rw [hp]; simp) lr er
      simp only [] at er mr hst
      rw [hL, if_neg Bool.false_ne_true] at mr
      have br := World.at_lt mr
      have lv : L 12 = true := after_on hd (by kernel_rfl)
      have ev := h.call (12, 40, fun v => v = dF (r)) (by rw [hp]; simp) lv
      simp only [] at ev
      simp only [fill, er, ev]
      go_wp2
      exact ⟨_, by simp only [fill, er, ev]; kernel_rfl, hst⟩
  intro s w48 h
  have e49 := h.call (2, 31, fun v => v = dF (((y * y) - o))) (by rw [hp]; simp) rfl
  have e50 := h.call (3, 32, fun v => v = dF (d)) (by rw [hp]; simp) rfl
  have e51 := h.call (5, 34, fun v => v = dF ((d * (y * y)))) (by rw [hp]; simp) rfl
  have e52 := h.call (7, 36, fun v => v = dF (((d * (y * y)) + o))) (by rw [hp]; simp) rfl
  have e53 := h.call (8, 37, fun v => v = dF ((inv ((d * (y * y)) + o)))) (by rw [hp]; simp) rfl
  have e54 := h.call (9, 38, fun v => v = dF ((((y * y) - o) * (inv ((d * (y * y)) + o))))) (by rw [hp]; simp) rfl
  have e55 := h.call (10, 39, fun v => v = .tuple #[dF (r), .bool true]) (by rw [hp]; simp) rfl
  have e56 := h.call (11, 28, fun v => v = .tuple #[dF (r), .bool true]) (by rw [hp]; simp) rfl
  have e57 := h.call (12, 40, fun v => v = dF (r)) (by rw [hp]; simp) rfl
  have e58 := h.call (13, 41, fun v => v = .bool true) (by rw [hp]; simp) rfl
  obtain ⟨bk59, e60, l61, m62⟩ := h.room (14, 8, .cells (ints .i64 (List.replicate 16 0)) 32, 15, .cells (ints .i64 (digs (r).val)) 32) (by rw [hp]; simp) rfl
  simp only [] at e49 e50 e51 e52 e53 e54 e55 e56 e57 e58 e60 m62
  rw [decide_eq_true (by decide : 15 < 16), if_pos rfl] at m62
  have h63 := h42.call h.fr
  simp only [fill, e49, e50, e51, e52, e53, e54, e55, e56, e57, e58, e60]
  have h64 := (h63.room m62 (h42.fresh l61) (Nat.le_trans h42.fr.size l61))
  rw [HL40.out] at h64
  clear e49 e50 e51 e52 e53 e54 e55 e56 e57 e58 e60  l61 m62 h63 h ok hp h42 p
  obtain ⟨L65, hL65⟩ : ∃ L : List (Nat × Obj), L = [(bk59, .cells (ints .i64 (digs (r).val)) 32), (bk37, .cells (ints .i64 (digs (o).val)) 32), (bk31, .cells (ints .i64 (digs ((y * y)).val)) 32), (bk8, .cells (ints .i64 (digs (y).val)) 32), (bk2, .cells (ints .i64 (List.replicate 48 0)) 51), (bk1, .cells (ints .u8 (C)) 22)] := ⟨_, rfl⟩
  rw [← hL65] at h64
  have HL65 := Lib.hid hL65
  clear hL65
  refine drawn_end (ol := [_]) rfl (by kernel_rfl) ?_
  intro K hK
  go_wp2_with fail
  refine drawn_begin 10 (OwB w L65) (by kernel_rfl) ?_
  refine OwB.named (Q := fun X => Go.Dr.wpAnyS Try.prog .any _ _ _ _ _ _ _ X) (h64.drew) ?_
  intro V66 h67
  clear h64
  refine drawn_reads (fuel := 7) [0, 1, 2] rfl (by kernel_rfl) (h67) ?_
  repeat (first | (refine rowK_step2 rfl rfl (fun K hK => ?_); go_wp2) | (refine rowK_step rfl (fun K hK => ?_); go_simp; refine hK _ ?_; clear hK K) | (refine rowK_step rfl (fun K hK => ?_); go_simp; refine ⟨by decide, hK _ ?_⟩; clear hK K))
  refine rowK_nil ⟨fun w' hw' => ?_, ?_⟩
  · skip
    repeat (first | (refine rowWp_step2 rfl rfl (fun K hK => ?_); go_wp2) | (refine rowWp_step rfl (fun K hK => ?_); go_simp; refine hK _ ?_; clear hK K) | (refine rowWp_step rfl (fun K hK => ?_); go_simp; refine ⟨by decide, hK _ ?_⟩; clear hK K))
    exact rowWp_nil rfl
  have s68 := h67
  rw [HL65.out] at s68
  have f69 := s68.nth 0 rfl
  clear s68
  refine drawn_reads (fuel := 4) [3, 4, 5] rfl (by kernel_rfl) (h67) ?_
  repeat (first | (refine rowK_step2 rfl rfl (fun K hK => ?_); go_wp2) | (refine rowK_step rfl (fun K hK => ?_); go_simp; refine hK _ ?_; clear hK K) | (refine rowK_step rfl (fun K hK => ?_); go_simp; refine ⟨by decide, hK _ ?_⟩; clear hK K))
  refine rowK_nil ⟨fun w' hw' => ?_, ?_⟩
  · rw [HL65.out] at hw'
    have g70 := hw'.nth 0 rfl
    clear f69
    repeat (first | (refine rowWp_step2 rfl rfl (fun K hK => ?_); go_wp2) | (refine rowWp_step rfl (fun K hK => ?_); go_simp; refine hK _ ?_; clear hK K) | (refine rowWp_step rfl (fun K hK => ?_); go_simp; refine ⟨by decide, hK _ ?_⟩; clear hK K))
    exact rowWp_nil rfl
  clear f69
  refine drawn_next 6 (fuel := 3) rfl (by kernel_rfl) ?_
  intro K hK
  go_wp2_with fail
  refine (small_n 0 (by decide) Hz0.out).mono ?_
  rintro e w71 ⟨rfl, F72⟩
  have h73 := (h67).call F72
  clear F72 h67
  simp only []
  go_wp2
  refine ⟨h73, ?_⟩
  refine drawn_reads (fuel := 0) [7, 8, 9] rfl (by kernel_rfl) (h73) ?_
  repeat (first | (refine rowK_step2 rfl rfl (fun K hK => ?_); go_wp2) | (refine rowK_step rfl (fun K hK => ?_); go_simp; refine hK _ ?_; clear hK K) | (refine rowK_step rfl (fun K hK => ?_); go_simp; refine ⟨by decide, hK _ ?_⟩; clear hK K))
  refine rowK_nil ⟨fun w' hw' => ?_, ?_⟩
  · skip
    repeat (first | (refine rowWp_step2 rfl rfl (fun K hK => ?_); go_wp2) | (refine rowWp_step rfl (fun K hK => ?_); go_simp; refine hK _ ?_; clear hK K) | (refine rowWp_step rfl (fun K hK => ?_); go_simp; refine ⟨by decide, hK _ ?_⟩; clear hK K))
    exact rowWp_nil rfl
  refine drawn_end (ol := []) rfl (by kernel_rfl) ?_
  intro K hK
  have s74 := h73
  rw [HL65.out] at s74
  have f75 := s74.nth 0 rfl
  have t76 := s74.lt 0 rfl
  clear s74
  go_wp2_with fail
  clear f75 t76
  refine (rneg_f r).mono ?_
  rintro e w77 ⟨rfl, F78⟩
  have s80 := h73
  rw [HL65.out] at s80
  have h79 : OwB w [(bk59, .cells (ints .i64 (digs (r).val)) 32), (bk37, .cells (ints .i64 (digs (o).val)) 32), (bk31, .cells (ints .i64 (digs ((y * y)).val)) 32), (bk8, .cells (ints .i64 (digs (y).val)) 32), (bk2, .cells (ints .i64 (List.replicate 48 0)) 51), (bk1, .cells (ints .u8 (C)) 22)] w77 := (s80).call F78
  clear F78
  simp only []
  clear s80 h73
  obtain ⟨L81, hL81⟩ : ∃ L : List (Nat × Obj), L = [(bk59, .cells (ints .i64 (digs (r).val)) 32), (bk37, .cells (ints .i64 (digs (o).val)) 32), (bk31, .cells (ints .i64 (digs ((y * y)).val)) 32), (bk8, .cells (ints .i64 (digs (y).val)) 32), (bk2, .cells (ints .i64 (List.replicate 48 0)) 51), (bk1, .cells (ints .u8 (C)) 22)] := ⟨_, rfl⟩
  rw [← hL81] at h79
  have HL81 := Lib.hid hL81
  clear hL81
  have s82 := h79
  rw [HL81.out] at s82
  have f83 := s82.nth 0 rfl
  have t84 := s82.lt 0 rfl
  have f85 := s82.nth 3 rfl
  have t86 := s82.lt 3 rfl
  have f87 := s82.nth 1 rfl
  have t88 := s82.lt 1 rfl
  have f89 := s82.nth 4 rfl
  have t90 := s82.lt 4 rfl
  have e91 := s82.ne 0 3 rfl rfl (by decide)
  have e92 := s82.ne 0 1 rfl rfl (by decide)
  have e93 := s82.ne 0 4 rfl rfl (by decide)
  have e94 := s82.ne 3 0 rfl rfl (by decide)
  have e95 := s82.ne 3 4 rfl rfl (by decide)
  have e96 := s82.ne 1 0 rfl rfl (by decide)
  have e97 := s82.ne 1 4 rfl rfl (by decide)
  have e98 := s82.ne 4 0 rfl rfl (by decide)
  have e99 := s82.ne 4 3 rfl rfl (by decide)
  have e100 := s82.ne 4 1 rfl rfl (by decide)
  clear s82
  go_wp2_with fail
  clear f83 t84 f85 t86 f87 t88 f89 t90 e91 e92 e93 e94 e95 e96 e97 e98 e99 e100
  have s101 := h79
  rw [HL81.out] at s101
  refine OwB.named (Q := fun X => bodyPost _ _ _ _ _ X) (show OwB w [(bk59, .cells (ints .i64 (digs ((-r)).val)) 32), (bk37, .cells (ints .i64 (digs (o).val)) 32), (bk31, .cells (ints .i64 (digs ((y * y)).val)) 32), (bk8, .cells (ints .i64 (digs (y).val)) 32), (bk2, .cells (dpC (-r) y o) 51), (bk1, .cells (ints .u8 (C)) 22)] _ from ((s101.set 0 (.cells (ints .i64 (digs ((-r)).val)) 32) rfl).set 4 (.cells (dpC (-r) y o) 51) rfl)) ?_
  intro V103 h102
  clear s101 h79
  obtain ⟨L104, hL104⟩ : ∃ L : List (Nat × Obj), L = [(bk59, .cells (ints .i64 (digs ((-r)).val)) 32), (bk37, .cells (ints .i64 (digs (o).val)) 32), (bk31, .cells (ints .i64 (digs ((y * y)).val)) 32), (bk8, .cells (ints .i64 (digs (y).val)) 32), (bk2, .cells (dpC (-r) y o) 51), (bk1, .cells (ints .u8 (C)) 22)] := ⟨_, rfl⟩
  rw [← hL104] at h102
  have HL104 := Lib.hid hL104
  clear hL104
  have s105 := h102
  rw [HL104.out] at s105
  refine ret_cell_tmp rfl rfl rfl ?_
  refine cellRet_of (s105.nth 4 rfl) (by rw [size_dpC]; kernel_rfl) ?_
  exact ⟨_, _, rfl, .inr ⟨_, ⟨hb, rfl, Or.inr ⟨(by have := H31.out; omega), hz, rfl⟩⟩, rfl, rfl⟩, s105.fr⟩

end
end Go.Proofs.Ytakhmmnklkckpaa
