/- FieldBytes: the walk. -/
import Derived.Test.YtakhmmnklkckpaaLwA
namespace Go.Proofs.Ytakhmmnklkckpaa
open Go.RowKit Go.Dr

section
variable {w : World}
theorem rof_b {b : List Int} (hlb : b.length = 32) (hb : Byt b) : Calls Try.prog 29 #[.agg (ints .u8 b)] w fun e w' => e = .returned (dF (fromB b)) ∧ Fr [] w w' := rof_f b hlb hb
set_option maxRecDepth 100000 in
set_option maxHeartbeats 1000000 in
theorem fieldBytes_walk (b : List Int) (hlb : b.length = 32) (hb : Byt b) : Calls Try.prog 3 #[.agg (ints .u8 b)] w fun e w' => e = .returned (.bool true) ∧ Fr [] w w' := by
  have HB := Lib.hid hb
  clear hb
  go_enter Try.func3, Try.ntmps3
  go_wp2_with fail
  refine alive_any.mono ?_
  rintro e w1 ⟨rfl, F1⟩
  have k0 := F1.get (b := w.heap.size) (o := .cells (ints .u8 b) 22) (by go_simp) (by simp)
  have HF1 := Lib.hid (((Fr.refl [] w).alloc _).trans F1)
  have k0l := World.at_lt k0
  clear F1
  simp only []
  go_wp2_with fail
  refine (of_b hlb HB.out).mono ?_
  rintro e w2 ⟨c, rfl, hc, F2⟩
  have HC := Lib.hid hc
  have m0 := F2.get k0 (by simp)
  have HF2 := Lib.hid (HF1.out.trans F2)
  clear hc F2 k0 k0l
  simp only []
  go_wp2_with fail
  refine (bytes_f HC.out).mono ?_
  rintro e w3 ⟨rfl, F3⟩
  obtain ⟨a, ha⟩ : ∃ a, a = bytesF (fromB b) := ⟨_, rfl⟩
  rw [← ha]
  have la : a.length = 32 := by rw [ha]; exact length_bytesF _
  have q0 := F3.get m0 (by simp)
  have HF3 := Lib.hid (HF2.out.trans F3)
  have HA := Lib.hid ha
  have q0l := World.at_lt q0
  clear F3 m0 ha
  simp only []
  go_wp2
  obtain ⟨V, hV⟩ : ∃ V, V = w3.alloc (.cells (ints .u8 a) 22) := ⟨_, rfl⟩
  refine Eq.mp (congrArg (fun X => Code.wp _ _ _ _ X) hV) ?_
  have g0 : V.blk w.heap.size = some (.cells (ints .u8 b) 22) := by rw [hV, World.at_alloc_lt _ _ _ q0l]; exact q0
  have g1 : V.blk w3.heap.size = some (.cells (ints .u8 a) 22) := by rw [hV]; exact World.at_alloc_new _ _ _ rfl
  have HFV := Lib.hid (show Fr [] w V by rw [hV]; exact HF3.out.alloc _)
  have hs : Has [(w.heap.size, .cells (ints .u8 b) 22), (w3.heap.size, .cells (ints .u8 a) 22)] V := .cons g0 (.cons g1 (.nil _))
  obtain ⟨L, hL⟩ : ∃ L : List (Nat × Obj), L = [(w.heap.size, .cells (ints .u8 b) 22), (w3.heap.size, .cells (ints .u8 a) 22)] := ⟨_, rfl⟩
  rw [← hL] at hs
  have HL := Lib.hid hL
  clear hL hV q0 q0l
  refine drawn_begin 13 (Has L) (by kernel_rfl) ?_
  refine drawn_reads (fuel := 11) [0, 1] rfl (by kernel_rfl) hs.drew ?_
  repeat (refine rowK_step2 rfl rfl (fun K hK => ?_); go_wp2)
  refine rowK_nil ⟨fun w' hw' => ?_, ?_⟩
  · rw [HL.out] at hw'
    have e1 := hw'.nth 0 rfl
    have e2 := hw'.nth 1 rfl
    repeat (refine rowWp_step2 rfl rfl (fun K hK => ?_); go_wp2)
    exact rowWp_nil rfl
  refine drawn_next 2 (fuel := 10) rfl (by kernel_rfl) ?_
  intro K hK
  go_wp2_with fail
  refine (rof_b hlb HB.out).mono ?_
  rintro e wa ⟨rfl, FA⟩
  have sA := hs.drew.fr0 FA
  simp only []
  go_wp2
  refine ⟨sA, ?_⟩
  refine drawn_next 3 (fuel := 9) rfl (by kernel_rfl) ?_
  intro K hK
  go_wp2_with fail
  refine (rbytes_f (fromB b)).mono ?_
  rw [← HA.out]
  rintro e wb ⟨rfl, FB⟩
  have sB := sA.fr0 FB
  have sB' := sB
  rw [HL.out] at sB'
  have d1 := sB'.nth 1 rfl
  simp only []
  go_wp2
  refine ⟨sB, ?_⟩
  refine drawn_reads (fuel := 5) [4, 5, 6, 9] rfl (by kernel_rfl) sB ?_
  repeat (first | (refine rowK_step2 rfl rfl (fun K hK => ?_); go_wp2) | (refine rowK_step rfl (fun K hK => ?_); go_simp; refine hK _ ?_; clear hK K))
  refine rowK_nil ⟨fun w' hw' => ?_, ?_⟩
  · rw [HL.out] at hw'
    have e2 := hw'.nth 1 rfl
    repeat (first | (refine rowWp_step2 rfl rfl (fun K hK => ?_); go_wp2) | (refine rowWp_step rfl (fun K hK => ?_); go_simp; refine hK _ ?_; clear hK K))
    exact rowWp_nil rfl
  refine drawn_next 7 (fuel := 4) rfl (by kernel_rfl) ?_
  intro K hK
  go_wp2_with fail
  refine (of_b (b := a) la (by rw [HA.out]; exact byt_bytesF _)).mono ?_
  rw [show fromB a = fromB b from by rw [HA.out, fromB_bytesF]]
  rintro e wd ⟨c2, rfl, hc2, FD⟩
  have sD := sB.fr0 FD
  have HC2 := Lib.hid hc2
  clear hc2 d1 sB'
  simp only []
  go_wp2
  refine ⟨sD, ?_⟩
  refine drawn_next 8 (fuel := 3) rfl (by kernel_rfl) ?_
  intro K hK
  go_wp2_with fail
  refine (bytes_f HC2.out).mono ?_
  rw [← HA.out]
  rintro e we ⟨rfl, FE⟩
  have sE := sD.fr0 FE
  have HFE := Lib.hid (((((HFV.out.drew).trans FA).trans FB).trans FD).trans FE)
  clear FA FB FD FE sA sB sD
  simp only []
  go_wp2
  refine ⟨sE, ?_⟩
  refine drawn_reads (fuel := 0) [10, 11, 12] rfl (by kernel_rfl) sE ?_
  repeat (first | (refine rowK_step2 rfl rfl (fun K hK => ?_); go_wp2) | (refine rowK_step rfl (fun K hK => ?_); go_simp; refine hK _ ?_; clear hK K))
  refine rowK_nil ⟨fun w' hw' => ?_, ?_⟩
  · repeat (first | (refine rowWp_step2 rfl rfl (fun K hK => ?_); go_wp2) | (refine rowWp_step rfl (fun K hK => ?_); go_simp; refine hK _ ?_; clear hK K))
    exact rowWp_nil rfl
  refine drawn_end (ol := []) rfl (by kernel_rfl) ?_
  intro K hK
  go_wp2
  go_ret
  exact ⟨rfl, HFE.out⟩
end
end Go.Proofs.Ytakhmmnklkckpaa
