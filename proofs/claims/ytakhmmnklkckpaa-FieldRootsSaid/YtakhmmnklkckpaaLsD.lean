/- FieldRoots: the walk (printed by gen_field.py). -/
import Derived.Test.YtakhmmnklkckpaaOwn
namespace Go.Proofs.Ytakhmmnklkckpaa
open Go.RowKit Go.Dr

section
variable {w : World}
theorem root_named {c : List Int} {x rf : Fp} {ro : Bool} (ho : ro = rootOk x) (hf : rf = rootF x) (hc : Is c x) : Calls Try.prog 38 #[fe c] w fun e w' => ∃ c, e = .returned (.tuple #[fe c, .bool ro]) ∧ Is c rf ∧ Fr [] w w' := by
  rw [ho, hf]; exact root_walk _ _ hc
theorem rroot_named {x rf : Fp} {ro : Bool} (ho : ro = rootOk x) (hf : rf = rootF x) : Calls Try.prog 39 #[dF x] w fun e w' => e = .returned (.tuple #[dF rf, .bool ro]) ∧ Fr [] w w' := by
  rw [ho, hf]; exact rroot_walk _
set_option maxRecDepth 100000 in
set_option maxHeartbeats 4000000 in
theorem fieldRoots_walk (a : List Int) (hla : a.length = 32) (ha : Byt a) : Calls Try.prog 6 #[.agg (ints .u8 a)] w fun e w' => e = .returned (.bool true) ∧ Fr [] w w' := by
  have Ba := Lib.hid ha
  clear ha
  obtain ⟨ro, ho⟩ : ∃ r, r = rootOk (fromB a) := ⟨_, rfl⟩
  obtain ⟨rf, hf⟩ : ∃ r, r = rootF (fromB a) := ⟨_, rfl⟩
  have Ho := Lib.hid ho
  have Hf := Lib.hid hf
  clear ho hf
  go_enter Try.func6, Try.ntmps6
  go_wp2_with fail
  refine alive_any.mono ?_
  rintro e w1 ⟨rfl, F1⟩
  have h0 : Own w [(w.heap.size, .cells (ints .u8 (a)) 22)] w1 := (((Own.start w).allocN (.cells (ints .u8 (a)) 22) w.heap.size rfl)).call F1
  clear F1
  simp only []
  generalize w.heap.size = b1 at h0 ⊢
  obtain ⟨L2, hL2⟩ : ∃ L : List (Nat × Obj), L = [(b1, .cells (ints .u8 (a)) 22)] := ⟨_, rfl⟩
  rw [← hL2] at h0
  have HL2 := Lib.hid hL2
  clear hL2
  have s3 := h0
  rw [HL2.out] at s3
  have f4 := s3.nth 0 rfl
  clear s3
  go_wp2_with fail
  clear f4
  refine (of_b hla Ba.out).mono ?_
  rintro e w5 ⟨c7, rfl, k8, F6⟩
  have nc7 := k8.len
  have Hc7 := Lib.hid k8
  clear k8
  have s10 := h0
  rw [HL2.out] at s10
  have h9 : Own w [(b1, .cells (ints .u8 (a)) 22)] w5 := (s10).call F6
  clear F6
  simp only []
  clear s10 h0
  obtain ⟨L11, hL11⟩ : ∃ L : List (Nat × Obj), L = [(b1, .cells (ints .u8 (a)) 22)] := ⟨_, rfl⟩
  rw [← hL11] at h9
  have HL11 := Lib.hid hL11
  clear hL11
  go_wp2_with fail
  refine (root_named Ho.out Hf.out Hc7.out).mono ?_
  rintro e w12 ⟨c14, rfl, k15, F13⟩
  have nc14 := k15.len
  have Hc14 := Lib.hid k15
  clear k15
  have s17 := h9
  rw [HL11.out] at s17
  have h16 : Own w [(b1, .cells (ints .u8 (a)) 22)] w12 := (s17).call F13
  clear F13
  simp only []
  clear s17 h9
  obtain ⟨L18, hL18⟩ : ∃ L : List (Nat × Obj), L = [(b1, .cells (ints .u8 (a)) 22)] := ⟨_, rfl⟩
  rw [← hL18] at h16
  have HL18 := Lib.hid hL18
  clear hL18
  have s19 := h16
  rw [HL18.out] at s19
  have f20 := s19.nth 0 rfl
  have t21 := s19.lt 0 rfl
  clear s19
  go_wp2_with fail
  clear f20 t21
  have s22 := h16
  rw [HL18.out] at s22
  refine (rof_b hla Ba.out).mono ?_
  rintro e w24 ⟨rfl, F25⟩
  have h26 : Own w [(w12.heap.size, .cells (ints .u64 c14) 28), (b1, .cells (ints .u8 (a)) 22)] w24 := ((s22.allocN (.cells (ints .u64 c14) 28) w12.heap.size (by simp))).call F25
  clear F25
  simp only []
  generalize w12.heap.size = b23 at h26 ⊢
  clear s22 h16
  obtain ⟨L27, hL27⟩ : ∃ L : List (Nat × Obj), L = [(b23, .cells (ints .u64 c14) 28), (b1, .cells (ints .u8 (a)) 22)] := ⟨_, rfl⟩
  rw [← hL27] at h26
  have HL27 := Lib.hid hL27
  clear hL27
  go_wp2_with fail
  refine (rroot_named Ho.out Hf.out).mono ?_
  rintro e w28 ⟨rfl, F29⟩
  have s31 := h26
  rw [HL27.out] at s31
  have h30 : Own w [(b23, .cells (ints .u64 c14) 28), (b1, .cells (ints .u8 (a)) 22)] w28 := (s31).call F29
  clear F29
  simp only []
  clear s31 h26
  obtain ⟨L32, hL32⟩ : ∃ L : List (Nat × Obj), L = [(b23, .cells (ints .u64 c14) 28), (b1, .cells (ints .u8 (a)) 22)] := ⟨_, rfl⟩
  rw [← hL32] at h30
  have HL32 := Lib.hid hL32
  clear hL32
  go_wp2_with fail
  have s33 := h30
  rw [HL32.out] at s33
  refine Own.named (Q := fun X => Code.wp _ _ _ _ X) (show Own w [(w28.heap.size, .cells (ints .i64 (digs (rf).val)) 32), (b23, .cells (ints .u64 c14) 28), (b1, .cells (ints .u8 (a)) 22)] _ from (s33.allocN (.cells (ints .i64 (digs (rf).val)) 32) w28.heap.size (by simp))) ?_
  intro V36 h35
  generalize w28.heap.size = b34 at h35 ⊢
  clear s33 h30
  obtain ⟨L37, hL37⟩ : ∃ L : List (Nat × Obj), L = [(b34, .cells (ints .i64 (digs (rf).val)) 32), (b23, .cells (ints .u64 c14) 28), (b1, .cells (ints .u8 (a)) 22)] := ⟨_, rfl⟩
  rw [← hL37] at h35
  have HL37 := Lib.hid hL37
  clear hL37
  refine drawn_begin 11 (Own w L37) (by kernel_rfl) ?_
  refine drawn_reads (fuel := 7) [0, 1, 2, 3] rfl (by kernel_rfl) (h35.drew) ?_
  repeat (first | (refine rowK_step2 rfl rfl (fun K hK => ?_); go_wp2) | (refine rowK_step rfl (fun K hK => ?_); go_simp; refine hK _ ?_; clear hK K))
  refine rowK_nil ⟨fun w' hw' => ?_, ?_⟩
  · skip
    repeat (first | (refine rowWp_step2 rfl rfl (fun K hK => ?_); go_wp2) | (refine rowWp_step rfl (fun K hK => ?_); go_simp; refine hK _ ?_; clear hK K))
    exact rowWp_nil rfl
  have s38 := h35.drew
  rw [HL37.out] at s38
  have f39 := s38.nth 1 rfl
  have f40 := s38.nth 0 rfl
  clear s38
  refine drawn_reads (fuel := 5) [4, 6] rfl (by kernel_rfl) (h35.drew) ?_
  repeat (first | (refine rowK_step2 rfl rfl (fun K hK => ?_); go_wp2) | (refine rowK_step rfl (fun K hK => ?_); go_simp; refine hK _ ?_; clear hK K))
  refine rowK_nil ⟨fun w' hw' => ?_, ?_⟩
  · rw [HL37.out] at hw'
    have g41 := hw'.nth 1 rfl
    have g42 := hw'.nth 0 rfl
    clear f39 f40
    repeat (first | (refine rowWp_step2 rfl rfl (fun K hK => ?_); go_wp2) | (refine rowWp_step rfl (fun K hK => ?_); go_simp; refine hK _ ?_; clear hK K))
    exact rowWp_nil rfl
  clear f39 f40
  refine drawn_next 5 (fuel := 4) rfl (by kernel_rfl) ?_
  intro K hK
  go_wp2_with fail
  refine (bytes_f Hc14.out).mono ?_
  rintro e w43 ⟨rfl, F44⟩
  have h45 := (h35.drew).call F44
  clear F44 h35
  simp only []
  go_wp2
  refine ⟨h45, ?_⟩
  refine drawn_next 7 (fuel := 3) rfl (by kernel_rfl) ?_
  intro K hK
  go_wp2_with fail
  refine (rbytes_f rf).mono ?_
  rintro e w46 ⟨rfl, F47⟩
  have h48 := (h45).call F47
  clear F47 h45
  simp only []
  go_wp2
  refine ⟨h48, ?_⟩
  refine drawn_reads (fuel := 0) [8, 9, 10] rfl (by kernel_rfl) (h48) ?_
  repeat (first | (refine rowK_step2 rfl rfl (fun K hK => ?_); go_wp2) | (refine rowK_step rfl (fun K hK => ?_); go_simp; refine hK _ ?_; clear hK K))
  refine rowK_nil ⟨fun w' hw' => ?_, ?_⟩
  · skip
    repeat (first | (refine rowWp_step2 rfl rfl (fun K hK => ?_); go_wp2) | (refine rowWp_step rfl (fun K hK => ?_); go_simp; refine hK _ ?_; clear hK K))
    exact rowWp_nil rfl
  refine drawn_end (ol := []) rfl (by kernel_rfl) ?_
  intro K hK
  go_wp2_with fail
  go_ret
  exact ⟨rfl, (h48).fr⟩
end
end Go.Proofs.Ytakhmmnklkckpaa
