/- The code's contrary of a point. The code's bytes of a point. Points by what they say: the contracts of sums, contraries, bytes. The document's contrary of a point, its bytes. The document's bytes of a point. The code's multiples of a point. A number as 32 bytes. The document's multiples of a point. -/
import Derived.Test.YtakhmmnklkckpaaZd
import Derived.Test.YtakhmmnklkckpaaZj
import Derived.Test.YtakhmmnklkckpaaZq
import Derived.Test.YtakhmmnklkckpaaZe
namespace Go.Proofs.Ytakhmmnklkckpaa
open Go.RowKit Go.Dr

section
variable {w : World}
set_option maxRecDepth 100000 in
set_option maxHeartbeats 8000000 in
theorem cneg_f {x y z t : List Int} {s : Bool} {X Y Z T : Fp} (h : CpOk x y z t s X Y Z T) : Calls Try.prog 53 #[.agg (ptC x y z t s)] w fun e w' => ∃ a b c d, e = .returned (.agg (ptC a b c d true)) ∧ Is a (-X) ∧ Is b (Y) ∧ Is c (Z) ∧ Is d (-T) ∧ Fr [] w w' := by
  have nx := h.nx
  have ny := h.ny
  have nz := h.nz
  have nt := h.nt
  have H := Lib.hid h
  clear h
  go_enter Try.func53, Try.ntmps53
  go_wp2_with fail
  refine (whole_f H.out).mono ?_
  rintro e w3 ⟨c5, c7, c9, c11, rfl, k6, k8, k10, k12, F4⟩
  have nc5 := k6.len
  have Hc5 := Lib.hid k6
  clear k6
  have nc7 := k8.len
  have Hc7 := Lib.hid k8
  clear k8
  have nc9 := k10.len
  have Hc9 := Lib.hid k10
  clear k10
  have nc11 := k12.len
  have Hc11 := Lib.hid k12
  clear k12
  have h13 : OwB w [(w.heap.size + 1, .cells (ptC (zs 5) (zs 5) (zs 5) (zs 5) false) 49), (w.heap.size, .cells (ptC x y z t s) 49)] w3 := ((((OwB.start w).allocN (.cells (ptC x y z t s) 49) w.heap.size rfl).allocN (.cells (ptC (zs 5) (zs 5) (zs 5) (zs 5) false) 49) (w.heap.size + 1) (by simp))).call F4
  clear F4
  simp only []
  generalize w.heap.size + 1 = bk2 at h13 ⊢
  generalize w.heap.size = bk1 at h13 ⊢
  obtain ⟨L14, hL14⟩ : ∃ L : List (Nat × Obj), L = [(bk2, .cells (ptC (zs 5) (zs 5) (zs 5) (zs 5) false) 49), (bk1, .cells (ptC x y z t s) 49)] := ⟨_, rfl⟩
  rw [← hL14] at h13
  have HL14 := Lib.hid hL14
  clear hL14
  have s15 := h13
  rw [HL14.out] at s15
  have f16 := s15.nth 1 rfl
  have t17 := s15.lt 1 rfl
  clear s15
  go_wp2_with fail
  clear f16 t17
  have s18 := h13
  rw [HL14.out] at s18
  refine OwB.named (Q := fun X => Code.wp _ _ _ _ X) (show OwB w [(bk2, .cells (ptC (zs 5) (zs 5) (zs 5) (zs 5) false) 49), (bk1, .cells (ptC c5 c7 c9 c11 true) 49)] _ from (s18.set 1 (.cells (ptC c5 c7 c9 c11 true) 49) rfl)) ?_
  intro V20 h19
  clear s18 h13
  obtain ⟨L21, hL21⟩ : ∃ L : List (Nat × Obj), L = [(bk2, .cells (ptC (zs 5) (zs 5) (zs 5) (zs 5) false) 49), (bk1, .cells (ptC c5 c7 c9 c11 true) 49)] := ⟨_, rfl⟩
  rw [← hL21] at h19
  have HL21 := Lib.hid hL21
  clear hL21
  refine drawn_begin 11 (OwB w L21) (by kernel_rfl) ?_
  refine OwB.named (Q := fun X => Go.Dr.wpAnyS Try.prog .any _ _ _ _ _ _ _ X) (h19.drew) ?_
  intro V22 h23
  clear h19
  have s24 := h23
  rw [HL21.out] at s24
  have f25 := s24.nth 1 rfl
  clear s24
  refine drawn_reads (fuel := 4) [0, 1, 3, 4, 5, 6, 7, 8] rfl (by kernel_rfl) (h23) ?_
  repeat (first | (refine rowK_step2 rfl rfl (fun K hK => ?_); go_wp2) | (refine rowK_step rfl (fun K hK => ?_); go_simp; refine hK _ ?_; clear hK K))
  refine rowK_nil ⟨fun w' hw' => ?_, ?_⟩
  · rw [HL21.out] at hw'
    have g26 := hw'.nth 1 rfl
    clear f25
    repeat (first | (refine rowWp_step2 rfl rfl (fun K hK => ?_); go_wp2) | (refine rowWp_step rfl (fun K hK => ?_); go_simp; refine hK _ ?_; clear hK K))
    exact rowWp_nil rfl
  clear f25
  refine drawn_next 2 (fuel := 3) rfl (by kernel_rfl) ?_
  intro K hK
  go_wp2_with fail
  refine (neg_f Hc5.out).mono ?_
  rintro e w27 ⟨c29, rfl, k30, F28⟩
  have nc29 := k30.len
  have Hc29 := Lib.hid k30
  clear k30
  have h31 := (h23).call F28
  clear F28 h23
  simp only []
  go_wp2
  refine ⟨h31, ?_⟩
  refine drawn_next 9 (fuel := 2) rfl (by kernel_rfl) ?_
  intro K hK
  go_wp2_with fail
  refine (neg_f Hc11.out).mono ?_
  rintro e w32 ⟨c34, rfl, k35, F33⟩
  have nc34 := k35.len
  have Hc34 := Lib.hid k35
  clear k35
  have h36 := (h31).call F33
  clear F33 h31
  simp only []
  go_wp2
  refine ⟨h36, ?_⟩
  refine drawn_reads (fuel := 1) [10] rfl (by kernel_rfl) (h36) ?_
  repeat (first | (refine rowK_step2 rfl rfl (fun K hK => ?_); go_wp2) | (refine rowK_step rfl (fun K hK => ?_); go_simp; refine hK _ ?_; clear hK K))
  refine rowK_nil ⟨fun w' hw' => ?_, ?_⟩
  · skip
    repeat (first | (refine rowWp_step2 rfl rfl (fun K hK => ?_); go_wp2) | (refine rowWp_step rfl (fun K hK => ?_); go_simp; refine hK _ ?_; clear hK K))
    exact rowWp_nil rfl
  refine drawn_end (ol := [_]) rfl (by kernel_rfl) ?_
  intro K hK
  have s37 := h36
  rw [HL21.out] at s37
  have f38 := s37.nth 0 rfl
  have t39 := s37.lt 0 rfl
  clear s37
  have s40 := h36
  rw [HL21.out] at s40
  go_wp2_with fail
  clear f38 t39
  refine OwB.named (Q := fun X => bodyPost _ _ _ _ _ X) (show OwB w [(bk2, .cells (ptC c29 c7 c9 c34 true) 49), (bk1, .cells (ptC c5 c7 c9 c11 true) 49)] _ from (s40.set 0 (.cells (ptC c29 c7 c9 c34 true) 49) rfl)) ?_
  intro V42 h41
  clear s40 h36
  obtain ⟨L43, hL43⟩ : ∃ L : List (Nat × Obj), L = [(bk2, .cells (ptC c29 c7 c9 c34 true) 49), (bk1, .cells (ptC c5 c7 c9 c11 true) 49)] := ⟨_, rfl⟩
  rw [← hL43] at h41
  have HL43 := Lib.hid hL43
  clear hL43
  have s44 := h41
  rw [HL43.out] at s44
  refine ret_cell rfl rfl rfl ?_
  refine cellRet_of (s44.nth 0 rfl) (by rw [size_ptC nc29 nc7 nc9 nc34]; kernel_rfl) ?_
  exact ⟨c29, c7, c9, c34, rfl, Hc29.out, Hc7.out, Hc9.out, Hc34.out, s44.fr⟩
end
end Go.Proofs.Ytakhmmnklkckpaa
namespace Go.Proofs.Ytakhmmnklkckpaa
open Go.RowKit Go.Dr

section
variable {w : World}
set_option maxRecDepth 100000 in
set_option maxHeartbeats 8000000 in
theorem cenc_core {x y z t : List Int} {s : Bool} {X Y Z T : Fp} (h : CpOk x y z t s X Y Z T) (U V : Fp) (B : List Int) (hU : X * inv Z = U) (hV : Y * inv Z = V) (hB : B = encC U V) (lB : B.length = 32) : Calls Try.prog 49 #[.agg (ptC x y z t s)] w fun e w' => e = .returned (.agg (ints .u8 B)) ∧ Fr [] w w' := by
  have nx := h.nx
  have ny := h.ny
  have nz := h.nz
  have nt := h.nt
  have H := Lib.hid h
  clear h
  have HU := Lib.hid hU
  have HV := Lib.hid hV
  have HB := Lib.hid hB
  clear hU hV hB
  go_enter Try.func49, Try.ntmps49
  go_wp2_with fail
  refine (whole_f H.out).mono ?_
  rintro e w3 ⟨c5, c7, c9, c11, rfl, k6, k8, k10, k12, F4⟩
  have nc5 := k6.len
  have Hc5 := Lib.hid k6
  clear k6
  have nc7 := k8.len
  have Hc7 := Lib.hid k8
  clear k8
  have nc9 := k10.len
  have Hc9 := Lib.hid k10
  clear k10
  have nc11 := k12.len
  have Hc11 := Lib.hid k12
  clear k12
  have h13 : OwB w [(w.heap.size + 1, .cells (ints .u8 (List.replicate 32 0)) 22), (w.heap.size, .cells (ptC x y z t s) 49)] w3 := ((((OwB.start w).allocN (.cells (ptC x y z t s) 49) w.heap.size rfl).allocN (.cells (ints .u8 (List.replicate 32 0)) 22) (w.heap.size + 1) (by simp))).call F4
  clear F4
  simp only []
  generalize w.heap.size + 1 = bk2 at h13 ⊢
  generalize w.heap.size = bk1 at h13 ⊢
  obtain ⟨L14, hL14⟩ : ∃ L : List (Nat × Obj), L = [(bk2, .cells (ints .u8 (List.replicate 32 0)) 22), (bk1, .cells (ptC x y z t s) 49)] := ⟨_, rfl⟩
  rw [← hL14] at h13
  have HL14 := Lib.hid hL14
  clear hL14
  have s15 := h13
  rw [HL14.out] at s15
  have f16 := s15.nth 1 rfl
  have t17 := s15.lt 1 rfl
  clear s15
  go_wp2_with fail
  clear f16 t17
  have s18 := h13
  rw [HL14.out] at s18
  refine (inv_f Hc9.out).mono ?_
  rintro e w19 ⟨c21, rfl, k22, F20⟩
  have nc21 := k22.len
  have Hc21 := Lib.hid k22
  clear k22
  have h23 : OwB w [(bk2, .cells (ints .u8 (List.replicate 32 0)) 22), (bk1, .cells (ptC c5 c7 c9 c11 true) 49)] w19 := ((s18.set 1 (.cells (ptC c5 c7 c9 c11 true) 49) rfl)).call F20
  clear F20
  simp only []
  clear s18 h13
  obtain ⟨L24, hL24⟩ : ∃ L : List (Nat × Obj), L = [(bk2, .cells (ints .u8 (List.replicate 32 0)) 22), (bk1, .cells (ptC c5 c7 c9 c11 true) 49)] := ⟨_, rfl⟩
  rw [← hL24] at h23
  have HL24 := Lib.hid hL24
  clear hL24
  go_wp2_with fail
  have s25 := h23
  rw [HL24.out] at s25
  refine OwB.named (Q := fun X => Code.wp _ _ _ _ X) (show OwB w [(w19.heap.size, .cells (ints .u64 c21) 28), (bk2, .cells (ints .u8 (List.replicate 32 0)) 22), (bk1, .cells (ptC c5 c7 c9 c11 true) 49)] _ from (s25.allocN (.cells (ints .u64 c21) 28) (w19.heap.size) (by simp))) ?_
  intro V28 h27
  generalize w19.heap.size = bk26 at h27 ⊢
  clear s25 h23
  obtain ⟨L29, hL29⟩ : ∃ L : List (Nat × Obj), L = [(bk26, .cells (ints .u64 c21) 28), (bk2, .cells (ints .u8 (List.replicate 32 0)) 22), (bk1, .cells (ptC c5 c7 c9 c11 true) 49)] := ⟨_, rfl⟩
  rw [← hL29] at h27
  have HL29 := Lib.hid hL29
  clear hL29
  refine drawn_begin 12 (OwB w L29) (by kernel_rfl) ?_
  refine OwB.named (Q := fun X => Go.Dr.wpAnyS Try.prog .any _ _ _ _ _ _ _ X) (h27.drew) ?_
  intro V30 h31
  clear h27
  have s32 := h31
  rw [HL29.out] at s32
  have f33 := s32.nth 2 rfl
  have f34 := s32.nth 0 rfl
  clear s32
  refine drawn_reads (fuel := 8) [0, 1, 2, 5, 6, 7] rfl (by kernel_rfl) (h31) ?_
  repeat (first | (refine rowK_step2 rfl rfl (fun K hK => ?_); go_wp2) | (refine rowK_step rfl (fun K hK => ?_); go_simp; refine hK _ ?_; clear hK K))
  refine rowK_nil ⟨fun w' hw' => ?_, ?_⟩
  · rw [HL29.out] at hw'
    have g35 := hw'.nth 2 rfl
    have g36 := hw'.nth 0 rfl
    clear f33 f34
    repeat (first | (refine rowWp_step2 rfl rfl (fun K hK => ?_); go_wp2) | (refine rowWp_step rfl (fun K hK => ?_); go_simp; refine hK _ ?_; clear hK K))
    exact rowWp_nil rfl
  clear f33 f34
  obtain ⟨p, hp⟩ : ∃ p : Par, p = ⟨[(3, 14, fun v => ∃ lq, v = fe lq ∧ Is lq (U)), (4, 15, fun v => v = .agg (ints .u8 (bytesF U))), (8, 19, fun v => ∃ lq, v = fe lq ∧ Is lq (V)), (9, 20, fun v => v = .agg (ints .u8 (bytesF V)))], [(10, 4, .cells (ints .u8 (List.replicate 32 0)) 22), (11, 5, .cells (ints .u8 (List.replicate 32 0)) 22)], [0, 1, 2, 5, 6, 7]⟩ := ⟨_, rfl⟩
  have ok : p.ok := by rw [hp]; exact ⟨(by decide : [3, 4, 8, 9, 10, 11].Nodup), (by decide : [14, 15, 19, 20, 4, 5].Nodup)⟩
  refine drawn_inv (rest := 2) [14, 15, 19, 20, 4, 5] (fun L s w => p.Inv V30 L s w) (fun _ => undef) 6 (by kernel_rfl) (fun L s w h => ?_) (by kernel_rfl) ?_ ?_ ?_
  · exact h31.call h.fr
  · refine Par.Inv.start ?_ ?_ ?_ <;> rw [hp] <;> intro i hi <;> simp at hi
    · rcases hi with rfl | rfl | rfl | rfl | rfl | rfl <;> rfl
    · rcases hi with rfl | rfl | rfl | rfl <;> rfl
    · rcases hi with rfl | rfl <;> rfl
  · intro i o L s w ho hi hL hd h K hK
    rcases (show i = 0 ∨ i = 1 ∨ i = 2 ∨ i = 3 ∨ i = 4 ∨ i = 5 ∨ i = 6 ∨ i = 7 ∨ i = 8 ∨ i = 9 ∨ i = 10 ∨ i = 11 by omega) with rfl | rfl | rfl | rfl | rfl | rfl | rfl | rfl | rfl | rfl | rfl | rfl
    · rw [h.row 0 (by rw [hp]; simp)] at hL; cases hL
    · rw [h.row 1 (by rw [hp]; simp)] at hL; cases hL
    · rw [h.row 2 (by rw [hp]; simp)] at hL; cases hL
    · injection (show some _ = some o from ho) with ho; subst ho
      simp only [fill]
      go_wp2_with fail
      refine (mul_n Hc5.out Hc21.out HU.out).mono ?_
      rintro e w2 ⟨lq, rfl, hc, F⟩
      simp only []
      go_wp2
      exact ⟨_, by kernel_rfl, h.called ok (3, 14, fun v => ∃ lq, v = fe lq ∧ Is lq (U)) (by rw [hp]; simp) F ⟨lq, rfl, hc⟩⟩
    · injection (show some _ = some o from ho) with ho; subst ho
      have l14 : L 3 = true := after_on hd (by kernel_rfl)
      obtain ⟨d14, e14, k14⟩ := h.call (3, 14, fun v => ∃ lq, v = fe lq ∧ Is lq (U)) (by rw [hp]; simp) l14
      have K14 := Lib.hid k14
      have ct : Calls Try.prog 26 #[s 14] w (fun e w' => e = .returned (.agg (ints .u8 (bytesF U))) ∧ Fr [] w w') := by
        simp only [] at e14
        rw [e14]
        exact bytes_f K14.out
      clear e14 l14 k14
      simp only [fill]
      go_wp2_with fail
      refine (ct).mono ?_
      rintro e w2 ⟨rfl, F⟩
      simp only []
      go_wp2
      exact ⟨_, by kernel_rfl, h.called ok (4, 15, fun v => v = .agg (ints .u8 (bytesF U))) (by rw [hp]; simp) F rfl⟩
    · rw [h.row 5 (by rw [hp]; simp)] at hL; cases hL
    · rw [h.row 6 (by rw [hp]; simp)] at hL; cases hL
    · rw [h.row 7 (by rw [hp]; simp)] at hL; cases hL
    · injection (show some _ = some o from ho) with ho; subst ho
      simp only [fill]
      go_wp2_with fail
      refine (mul_n Hc7.out Hc21.out HV.out).mono ?_
      rintro e w2 ⟨lq, rfl, hc, F⟩
      simp only []
      go_wp2
      exact ⟨_, by kernel_rfl, h.called ok (8, 19, fun v => ∃ lq, v = fe lq ∧ Is lq (V)) (by rw [hp]; simp) F ⟨lq, rfl, hc⟩⟩
    · injection (show some _ = some o from ho) with ho; subst ho
      have l19 : L 8 = true := after_on hd (by kernel_rfl)
      obtain ⟨d19, e19, k19⟩ := h.call (8, 19, fun v => ∃ lq, v = fe lq ∧ Is lq (V)) (by rw [hp]; simp) l19
      have K19 := Lib.hid k19
      have ct : Calls Try.prog 26 #[s 19] w (fun e w' => e = .returned (.agg (ints .u8 (bytesF V))) ∧ Fr [] w w') := by
        simp only [] at e19
        rw [e19]
        exact bytes_f K19.out
      clear e19 l19 k19
      simp only [fill]
      go_wp2_with fail
      refine (ct).mono ?_
      rintro e w2 ⟨rfl, F⟩
      simp only []
      go_wp2
      exact ⟨_, by kernel_rfl, h.called ok (9, 20, fun v => v = .agg (ints .u8 (bytesF V))) (by rw [hp]; simp) F rfl⟩
    · injection (show some _ = some o from ho) with ho; subst ho
      simp only [fill]
      go_wp2
      exact ⟨_, by kernel_rfl, h.made ok (10, 4, .cells (ints .u8 (List.replicate 32 0)) 22) (by rw [hp]; simp)⟩
    · injection (show some _ = some o from ho) with ho; subst ho
      simp only [fill]
      go_wp2
      exact ⟨_, by kernel_rfl, h.made ok (11, 5, .cells (ints .u8 (List.replicate 32 0)) 22) (by rw [hp]; simp)⟩
  intro s w37 h
  obtain ⟨c38, e40, k39⟩ := h.call (3, 14, fun v => ∃ lq, v = fe lq ∧ Is lq (U)) (by rw [hp]; simp) rfl
  have e41 := h.call (4, 15, fun v => v = .agg (ints .u8 (bytesF U))) (by rw [hp]; simp) rfl
  obtain ⟨c42, e44, k43⟩ := h.call (8, 19, fun v => ∃ lq, v = fe lq ∧ Is lq (V)) (by rw [hp]; simp) rfl
  have e45 := h.call (9, 20, fun v => v = .agg (ints .u8 (bytesF V))) (by rw [hp]; simp) rfl
  obtain ⟨bk46, e47, l48, m49⟩ := h.room (10, 4, .cells (ints .u8 (List.replicate 32 0)) 22) (by rw [hp]; simp) rfl
  obtain ⟨bk50, e51, l52, m53⟩ := h.room (11, 5, .cells (ints .u8 (List.replicate 32 0)) 22) (by rw [hp]; simp) rfl
  simp only [] at e40 e41 e44 e45 e47 e51
  have q54 := h.apart (11, 5, .cells (ints .u8 (List.replicate 32 0)) 22) (by rw [hp]; simp) (10, 4, .cells (ints .u8 (List.replicate 32 0)) 22) (by rw [hp]; simp) (by simp) rfl rfl
  simp only [e51, e47] at q54
  have h55 := h31.call h.fr
  simp only [fill, e40, e41, e44, e45, e47, e51]
  have h56 := ((h55.room m49 (h31.fresh l48) (Nat.le_trans h31.fr.size l48)).room m53 (by simp only [List.map_cons, List.mem_cons, not_or]; exact ⟨(fun e => q54 (by rw [e])), (h31.fresh l52)⟩) (Nat.le_trans h31.fr.size l52))
  rw [HL29.out] at h56
  clear e40 e41 e44 e45 e47 e51 q54 l48 m49 l52 m53 h55 h ok hp h31 p
  have nc38 := k39.len
  have Hc38 := Lib.hid k39
  clear k39
  have nc42 := k43.len
  have Hc42 := Lib.hid k43
  clear k43
  obtain ⟨L57, hL57⟩ : ∃ L : List (Nat × Obj), L = [(bk50, .cells (ints .u8 (List.replicate 32 0)) 22), (bk46, .cells (ints .u8 (List.replicate 32 0)) 22), (bk26, .cells (ints .u64 c21) 28), (bk2, .cells (ints .u8 (List.replicate 32 0)) 22), (bk1, .cells (ptC c5 c7 c9 c11 true) 49)] := ⟨_, rfl⟩
  rw [← hL57] at h56
  have HL57 := Lib.hid hL57
  clear hL57
  refine drawn_end (ol := [_, _]) rfl (by kernel_rfl) ?_
  intro K hK
  have s58 := h56
  rw [HL57.out] at s58
  have f59 := s58.nth 0 rfl
  have t60 := s58.lt 0 rfl
  have f61 := s58.nth 1 rfl
  have t62 := s58.lt 1 rfl
  have f63 := s58.nth 3 rfl
  have t64 := s58.lt 3 rfl
  have e65 := s58.ne 0 1 rfl rfl (by decide)
  have e66 := s58.ne 0 3 rfl rfl (by decide)
  have e67 := s58.ne 1 0 rfl rfl (by decide)
  have e68 := s58.ne 1 3 rfl rfl (by decide)
  have e69 := s58.ne 3 0 rfl rfl (by decide)
  have e70 := s58.ne 3 1 rfl rfl (by decide)
  clear s58
  have s71 := h56
  rw [HL57.out] at s71
  go_wp2_with fail
  clear f59 t60 f61 t62 f63 t64 e65 e66 e67 e68 e69 e70
  refine OwB.named (Q := fun X => bodyPost _ _ _ _ _ X) (show OwB w [(bk50, .cells (ints .u8 (encC U V)) 22), (bk46, .cells (ints .u8 (bytesF U)) 22), (bk26, .cells (ints .u64 c21) 28), (bk2, .cells (ints .u8 (encC U V)) 22), (bk1, .cells (ptC c5 c7 c9 c11 true) 49)] _ from (((s71.set 1 (.cells (ints .u8 (bytesF U)) 22) rfl).set 0 (.cells (ints .u8 (encC U V)) 22) rfl).set 3 (.cells (ints .u8 (encC U V)) 22) rfl)) ?_
  intro V73 h72
  clear s71 h56
  rw [← HB.out] at h72
  obtain ⟨L74, hL74⟩ : ∃ L : List (Nat × Obj), L = [(bk50, .cells (ints .u8 (B)) 22), (bk46, .cells (ints .u8 (bytesF U)) 22), (bk26, .cells (ints .u64 c21) 28), (bk2, .cells (ints .u8 (B)) 22), (bk1, .cells (ptC c5 c7 c9 c11 true) 49)] := ⟨_, rfl⟩
  rw [← hL74] at h72
  have HL74 := Lib.hid hL74
  clear hL74
  have s75 := h72
  rw [HL74.out] at s75
  refine ret_cell rfl rfl rfl ?_
  refine cellRet_of (s75.nth 3 rfl) (aggB_ints lB (by kernel_rfl)) ?_
  exact ⟨rfl, s75.fr⟩
end
end Go.Proofs.Ytakhmmnklkckpaa
namespace Go.Proofs.Ytakhmmnklkckpaa
open Go.RowKit Go.Dr
theorem dfactor_num : -(toFp 121665 * toFp 37095705934669439343138083508754565189542113879843219016388785533085940283556) = dE := by kernel_rfl
theorem dfactor_eq : -(toFp 121665 * inv (toFp 121666)) = dE := by
  have h : toFp 121666 * toFp 37095705934669439343138083508754565189542113879843219016388785533085940283556 = 1 := by kernel_rfl
  rw [inv_of h, dfactor_num]
/-- The code's point says P. -/
def CP (x y z t : List Int) (s : Bool) (P : Pt) : Prop := ∃ X Y Z T, CpOk x y z t s X Y Z T ∧ CSays X Y Z T P
section
variable {w : World} {x y z t x1 y1 z1 t1 x2 y2 z2 t2 : List Int} {s s1 s2 : Bool} {P Q : Pt} {X Y Z X1 Y1 Z1 X2 Y2 Z2 : Fp}
theorem CP.nx (h : CP x y z t s P) : x.length = 5 := by obtain ⟨_, _, _, _, h, _⟩ := h; exact h.nx
theorem CP.ny (h : CP x y z t s P) : y.length = 5 := by obtain ⟨_, _, _, _, h, _⟩ := h; exact h.ny
theorem CP.nz (h : CP x y z t s P) : z.length = 5 := by obtain ⟨_, _, _, _, h, _⟩ := h; exact h.nz
theorem CP.nt (h : CP x y z t s P) : t.length = 5 := by obtain ⟨_, _, _, _, h, _⟩ := h; exact h.nt
theorem CP.on (h : CP x y z t s P) : On dC P := by obtain ⟨_, _, _, _, _, h⟩ := h; exact h.on
theorem CP.zero : CP (zs 5) (zs 5) (zs 5) (zs 5) false pz := ⟨_, _, _, _, CpOk.zero, csays_zero⟩
theorem cadd_p (h1 : CP x1 y1 z1 t1 s1 P) (h2 : CP x2 y2 z2 t2 s2 Q) : Calls Try.prog 50 #[.agg (ptC x1 y1 z1 t1 s1), .agg (ptC x2 y2 z2 t2 s2)] w fun e w' => ∃ x y z t s, e = .returned (.agg (ptC x y z t s)) ∧ CP x y z t s (pad dC P Q) ∧ Fr [] w w' := by
  obtain ⟨X1, Y1, Z1, T1, h1, k1⟩ := h1
  obtain ⟨X2, Y2, Z2, T2, h2, k2⟩ := h2
  refine (cadd_f h1 h2).mono ?_
  rintro e w' ⟨a, b, c, d, he, ha, hb, hc, hd, hF⟩
  exact ⟨a, b, c, d, true, he, ⟨_, _, _, _, CpOk.mk' ha hb hc hd, csays_add k1 k2⟩, hF⟩
theorem cneg_p (h : CP x y z t s P) : Calls Try.prog 53 #[.agg (ptC x y z t s)] w fun e w' => ∃ x y z t s, e = .returned (.agg (ptC x y z t s)) ∧ CP x y z t s (pn P) ∧ Fr [] w w' := by
  obtain ⟨X, Y, Z, T, h, k⟩ := h
  refine (cneg_f h).mono ?_
  rintro e w' ⟨a, b, c, d, he, ha, hb, hc, hd, hF⟩
  exact ⟨a, b, c, d, true, he, ⟨_, _, _, _, CpOk.mk' ha hb hc hd, csays_neg k⟩, hF⟩
theorem or128c_fin : ∀ (p : Fin 128) (q : Fin 2), (p.val ||| q.val * 128) = p.val + 128 * q.val := by decide +kernel
theorem el31_lt (y : Fp) : 0 ≤ el (bytesF y) 31 ∧ el (bytesF y) 31 < 128 := by
  have h := y.isLt
  rw [bytesF, bytesL, el_map_range _ _ _ (by omega)]
  obtain ⟨n, hn⟩ : ∃ n, n = y.val := ⟨_, rfl⟩
  rw [← hn] at h ⊢
  have e : (256 : Int) ^ 31 = 452312848583266388373324160190187140051835877600158453279131187530910662656 := by decide
  rw [e]
  omega
theorem encC_eq (x y : Fp) : encC x y = encB x y := by
  have h := el31_lt y
  have h0 := byt_el (byt_bytesF x) 0
  unfold encC encB
  rw [u8_and1 _ h0.1 h0.2, el_bytesF0]
  obtain ⟨p, hp⟩ : ∃ p : Nat, el (bytesF y) 31 = p := ⟨(el (bytesF y) 31).toNat, by omega⟩
  have hx : ((x.val : Int) % 256 % 2 * 128 % 256) = ((x.val % 2 * 128 : Nat) : Int) := by omega
  rw [hp, hx, u8_or _ _ (by omega) (by omega) (by omega) (by omega), Int.toNat_natCast, Int.toNat_natCast, or128c_fin ⟨p, by omega⟩ ⟨x.val % 2, by omega⟩]
  congr 1
theorem length_encB (x y : Fp) : (encB x y).length = 32 := by rw [encB, List.length_set, length_bytesF]
theorem byt_encB (x y : Fp) : Byt (encB x y) := byt_set (byt_bytesF y) 31 (by have := el31_lt y; omega)
theorem length_encP (P : Pt) : (encP P).length = 32 := length_encB _ _
theorem byt_encP (P : Pt) : Byt (encP P) := byt_encB _ _
theorem cenc_p {B : List Int} (hB : encP P = B) (h : CP x y z t s P) : Calls Try.prog 49 #[.agg (ptC x y z t s)] w fun e w' => e = .returned (.agg (ints .u8 B)) ∧ Fr [] w w' := by
  obtain ⟨X, Y, Z, T, h, k⟩ := h
  exact cenc_core h _ _ B rfl rfl (by rw [encC_eq, k.enc, hB]) (by rw [← hB]; exact length_encP P)
theorem dfactor_f : Calls Try.prog 86 #[] w fun e w' => e = .returned (dF dE) ∧ Fr [] w w' := dfactor_core _ _ _ _ rfl rfl rfl rfl dfactor_eq
theorem dzero_f : Calls Try.prog 87 #[] w fun e w' => e = .returned (.agg (dpC 0 1 1)) ∧ Fr [] w w' := dzero_core 0 1 toFp_zero toFp_one
theorem dsumP_n {X Y Z : Fp} (hX : sumPX X1 Y1 Z1 X2 Y2 Z2 dE = X) (hY : sumPY X1 Y1 Z1 X2 Y2 Z2 dE = Y) (hZ : sumPZ X1 Y1 Z1 X2 Y2 Z2 dE = Z) : Calls Try.prog 85 #[.agg (dpC X1 Y1 Z1), .agg (dpC X2 Y2 Z2), dF dE] w fun e w' => e = .returned (.agg (dpC X Y Z)) ∧ Fr [] w w' := by
  subst hX hY hZ
  exact dsum_c X1 Y1 Z1 X2 Y2 Z2 dE
theorem dsumP_f (h1 : DSays X1 Y1 Z1 P) (h2 : DSays X2 Y2 Z2 Q) : Calls Try.prog 85 #[.agg (dpC X1 Y1 Z1), .agg (dpC X2 Y2 Z2), dF dE] w fun e w' => ∃ X Y Z, e = .returned (.agg (dpC X Y Z)) ∧ DSays X Y Z (pad dC P Q) ∧ Fr [] w w' :=
  (dsumP_n rfl rfl rfl).mono fun _e _w' ⟨he, hF⟩ => ⟨_, _, _, he, dsays_add h1 h2, hF⟩
/-- The document's bytes of a point, where x is odd. -/
def encD (y : Fp) : List Int := (bytesF y).set 31 ((el (bytesF y) 31 + 128) % 256)
theorem encD_eq {x y : Fp} (h : x.val % 2 = 1) : encB x y = encD y := by
  have h1 := el31_lt y
  unfold encB encD
  congr 1
  omega
theorem encD_even {x y : Fp} (h : x.val % 2 = 0) : encB x y = bytesF y := by
  unfold encB
  rw [show ((x.val : Int) % 2) = 0 from by omega, Int.mul_zero, Int.add_zero]
  exact el_ext (by simp) fun k hk => by
    rw [el_set _ _ _ _ (by rw [length_bytesF]; omega)]
    split
    · rename_i hh; rw [hh]
    · rfl
end
end Go.Proofs.Ytakhmmnklkckpaa
namespace Go.Proofs.Ytakhmmnklkckpaa
open Go.RowKit Go.Dr

section
variable {w : World}
set_option maxRecDepth 100000 in
set_option maxHeartbeats 8000000 in
theorem dneg_c (X Y Z : Fp) : Calls Try.prog 54 #[.agg (dpC X Y Z)] w fun e w' => e = .returned (.agg (dpC (-X) Y Z)) ∧ Fr [] w w' := by
  go_enter Try.func54, Try.ntmps54
  go_wp2_with fail
  refine OwB.named (Q := fun X => Code.wp _ _ _ _ X) (show OwB w [(w.heap.size + 1, .cells (ints .i64 (List.replicate 48 0)) 51), (w.heap.size, .cells (dpC X Y Z) 51)] _ from (((OwB.start w).allocN (.cells (dpC X Y Z) 51) w.heap.size rfl).allocN (.cells (ints .i64 (List.replicate 48 0)) 51) (w.heap.size + 1) (by simp))) ?_
  intro V4 h3
  generalize w.heap.size + 1 = bk2 at h3 ⊢
  generalize w.heap.size = bk1 at h3 ⊢
  obtain ⟨L5, hL5⟩ : ∃ L : List (Nat × Obj), L = [(bk2, .cells (ints .i64 (List.replicate 48 0)) 51), (bk1, .cells (dpC X Y Z) 51)] := ⟨_, rfl⟩
  rw [← hL5] at h3
  have HL5 := Lib.hid hL5
  clear hL5
  refine drawn_begin 8 (OwB w L5) (by kernel_rfl) ?_
  refine OwB.named (Q := fun X => Go.Dr.wpAnyS Try.prog .any _ _ _ _ _ _ _ X) (h3.drew) ?_
  intro V6 h7
  clear h3
  have s8 := h7
  rw [HL5.out] at s8
  have f9 := s8.nth 1 rfl
  clear s8
  refine drawn_reads (fuel := 3) [0, 1, 3, 4, 5, 6] rfl (by kernel_rfl) (h7) ?_
  repeat (first | (refine rowK_step2 rfl rfl (fun K hK => ?_); go_wp2) | (refine rowK_step rfl (fun K hK => ?_); go_simp; refine hK _ ?_; clear hK K))
  refine rowK_nil ⟨fun w' hw' => ?_, ?_⟩
  · rw [HL5.out] at hw'
    have g10 := hw'.nth 1 rfl
    clear f9
    repeat (first | (refine rowWp_step2 rfl rfl (fun K hK => ?_); go_wp2) | (refine rowWp_step rfl (fun K hK => ?_); go_simp; refine hK _ ?_; clear hK K))
    exact rowWp_nil rfl
  clear f9
  refine drawn_next 2 (fuel := 2) rfl (by kernel_rfl) ?_
  intro K hK
  go_wp2_with fail
  refine (rneg_f X).mono ?_
  rintro e w11 ⟨rfl, F12⟩
  have h13 := (h7).call F12
  clear F12 h7
  simp only []
  go_wp2
  refine ⟨h13, ?_⟩
  refine drawn_reads (fuel := 1) [7] rfl (by kernel_rfl) (h13) ?_
  repeat (first | (refine rowK_step2 rfl rfl (fun K hK => ?_); go_wp2) | (refine rowK_step rfl (fun K hK => ?_); go_simp; refine hK _ ?_; clear hK K))
  refine rowK_nil ⟨fun w' hw' => ?_, ?_⟩
  · skip
    repeat (first | (refine rowWp_step2 rfl rfl (fun K hK => ?_); go_wp2) | (refine rowWp_step rfl (fun K hK => ?_); go_simp; refine hK _ ?_; clear hK K))
    exact rowWp_nil rfl
  refine drawn_end (ol := [_]) rfl (by kernel_rfl) ?_
  intro K hK
  have s14 := h13
  rw [HL5.out] at s14
  have f15 := s14.nth 0 rfl
  have t16 := s14.lt 0 rfl
  clear s14
  have s17 := h13
  rw [HL5.out] at s17
  go_wp2_with fail
  clear f15 t16
  refine OwB.named (Q := fun X => bodyPost _ _ _ _ _ X) (show OwB w [(bk2, .cells (dpC (-X) Y Z) 51), (bk1, .cells (dpC X Y Z) 51)] _ from (s17.set 0 (.cells (dpC (-X) Y Z) 51) rfl)) ?_
  intro V19 h18
  clear s17 h13
  obtain ⟨L20, hL20⟩ : ∃ L : List (Nat × Obj), L = [(bk2, .cells (dpC (-X) Y Z) 51), (bk1, .cells (dpC X Y Z) 51)] := ⟨_, rfl⟩
  rw [← hL20] at h18
  have HL20 := Lib.hid hL20
  clear hL20
  have s21 := h18
  rw [HL20.out] at s21
  refine ret_cell rfl rfl rfl ?_
  refine cellRet_of (s21.nth 0 rfl) (by rw [size_dpC]; kernel_rfl) ?_
  exact ⟨rfl, s21.fr⟩

set_option maxRecDepth 100000 in
set_option maxHeartbeats 8000000 in
theorem dadd_c {X1 Y1 Z1 X2 Y2 Z2 X Y Z : Fp} (hX : sumPX X1 Y1 Z1 X2 Y2 Z2 dE = X) (hY : sumPY X1 Y1 Z1 X2 Y2 Z2 dE = Y) (hZ : sumPZ X1 Y1 Z1 X2 Y2 Z2 dE = Z) : Calls Try.prog 52 #[.agg (dpC X1 Y1 Z1), .agg (dpC X2 Y2 Z2)] w fun e w' => e = .returned (.agg (dpC X Y Z)) ∧ Fr [] w w' := by
  have HX := Lib.hid hX
  have HY := Lib.hid hY
  have HZ := Lib.hid hZ
  clear hX hY hZ
  go_enter Try.func52, Try.ntmps52
  go_wp2_with fail
  refine OwB.named (Q := fun X => Code.wp _ _ _ _ X) (show OwB w [(w.heap.size + 2, .cells (ints .i64 (List.replicate 48 0)) 51), (w.heap.size + 1, .cells (dpC X2 Y2 Z2) 51), (w.heap.size, .cells (dpC X1 Y1 Z1) 51)] _ from ((((OwB.start w).allocN (.cells (dpC X1 Y1 Z1) 51) w.heap.size rfl).allocN (.cells (dpC X2 Y2 Z2) 51) (w.heap.size + 1) (by simp)).allocN (.cells (ints .i64 (List.replicate 48 0)) 51) (w.heap.size + 2) (by simp))) ?_
  intro V5 h4
  generalize w.heap.size + 2 = bk3 at h4 ⊢
  generalize w.heap.size + 1 = bk2 at h4 ⊢
  generalize w.heap.size = bk1 at h4 ⊢
  obtain ⟨L6, hL6⟩ : ∃ L : List (Nat × Obj), L = [(bk3, .cells (ints .i64 (List.replicate 48 0)) 51), (bk2, .cells (dpC X2 Y2 Z2) 51), (bk1, .cells (dpC X1 Y1 Z1) 51)] := ⟨_, rfl⟩
  rw [← hL6] at h4
  have HL6 := Lib.hid hL6
  clear hL6
  refine drawn_begin 4 (OwB w L6) (by kernel_rfl) ?_
  refine OwB.named (Q := fun X => Go.Dr.wpAnyS Try.prog .any _ _ _ _ _ _ _ X) (h4.drew) ?_
  intro V7 h8
  clear h4
  have s9 := h8
  rw [HL6.out] at s9
  have f10 := s9.nth 2 rfl
  have f11 := s9.nth 1 rfl
  clear s9
  refine drawn_reads (fuel := 3) [0, 1] rfl (by kernel_rfl) (h8) ?_
  repeat (first | (refine rowK_step2 rfl rfl (fun K hK => ?_); go_wp2) | (refine rowK_step rfl (fun K hK => ?_); go_simp; refine hK _ ?_; clear hK K))
  refine rowK_nil ⟨fun w' hw' => ?_, ?_⟩
  · rw [HL6.out] at hw'
    have g12 := hw'.nth 2 rfl
    have g13 := hw'.nth 1 rfl
    clear f10 f11
    repeat (first | (refine rowWp_step2 rfl rfl (fun K hK => ?_); go_wp2) | (refine rowWp_step rfl (fun K hK => ?_); go_simp; refine hK _ ?_; clear hK K))
    exact rowWp_nil rfl
  clear f10 f11
  refine drawn_next 2 (fuel := 2) rfl (by kernel_rfl) ?_
  intro K hK
  go_wp2_with fail
  refine (dfactor_f).mono ?_
  rintro e w14 ⟨rfl, F15⟩
  have h16 := (h8).call F15
  clear F15 h8
  simp only []
  go_wp2
  refine ⟨h16, ?_⟩
  refine drawn_next 3 (fuel := 1) rfl (by kernel_rfl) ?_
  intro K hK
  go_wp2_with fail
  refine (dsumP_n HX.out HY.out HZ.out).mono ?_
  rintro e w17 ⟨rfl, F18⟩
  have h19 := (h16).call F18
  clear F18 h16
  simp only []
  go_wp2
  refine ⟨h19, ?_⟩
  refine drawn_end (ol := [_]) rfl (by kernel_rfl) ?_
  intro K hK
  have s20 := h19
  rw [HL6.out] at s20
  have f21 := s20.nth 0 rfl
  have t22 := s20.lt 0 rfl
  clear s20
  have s23 := h19
  rw [HL6.out] at s23
  go_wp2_with fail
  clear f21 t22
  refine OwB.named (Q := fun X => bodyPost _ _ _ _ _ X) (show OwB w [(bk3, .cells (dpC X Y Z) 51), (bk2, .cells (dpC X2 Y2 Z2) 51), (bk1, .cells (dpC X1 Y1 Z1) 51)] _ from (s23.set 0 (.cells (dpC X Y Z) 51) rfl)) ?_
  intro V25 h24
  clear s23 h19
  obtain ⟨L26, hL26⟩ : ∃ L : List (Nat × Obj), L = [(bk3, .cells (dpC X Y Z) 51), (bk2, .cells (dpC X2 Y2 Z2) 51), (bk1, .cells (dpC X1 Y1 Z1) 51)] := ⟨_, rfl⟩
  rw [← hL26] at h24
  have HL26 := Lib.hid hL26
  clear hL26
  have s27 := h24
  rw [HL26.out] at s27
  refine ret_cell rfl rfl rfl ?_
  refine cellRet_of (s27.nth 0 rfl) (by rw [size_dpC]; kernel_rfl) ?_
  exact ⟨rfl, s27.fr⟩
end
end Go.Proofs.Ytakhmmnklkckpaa
namespace Go.Proofs.Ytakhmmnklkckpaa
open Go.RowKit Go.Dr

section
variable {w : World}
set_option maxRecDepth 100000 in
set_option maxHeartbeats 8000000 in
theorem denc_odd {X Y Z i U V : Fp} (B : List Int) (hi : inv Z = i) (hU : X * i = U) (hV : Y * i = V) (hB : B = encD V) (lB : B.length = 32) (hp : (el (digs U.val) 0).tmod 2 = 1) : Calls Try.prog 51 #[.agg (dpC X Y Z)] w fun e w' => e = .returned (.agg (ints .u8 B)) ∧ Fr [] w w' := by
  have Hi := Lib.hid hi
  have HU := Lib.hid hU
  have HV := Lib.hid hV
  have HB := Lib.hid hB
  clear hi hU hV hB
  go_enter Try.func51, Try.ntmps51
  go_wp2_with fail
  refine (rinv_n Hi.out).mono ?_
  rintro e w3 ⟨rfl, F4⟩
  have h5 : OwB w [(w.heap.size + 1, .cells (ints .u8 (List.replicate 32 0)) 22), (w.heap.size, .cells (dpC X Y Z) 51)] w3 := ((((OwB.start w).allocN (.cells (dpC X Y Z) 51) w.heap.size rfl).allocN (.cells (ints .u8 (List.replicate 32 0)) 22) (w.heap.size + 1) (by simp))).call F4
  clear F4
  simp only []
  generalize w.heap.size + 1 = bk2 at h5 ⊢
  generalize w.heap.size = bk1 at h5 ⊢
  obtain ⟨L6, hL6⟩ : ∃ L : List (Nat × Obj), L = [(bk2, .cells (ints .u8 (List.replicate 32 0)) 22), (bk1, .cells (dpC X Y Z) 51)] := ⟨_, rfl⟩
  rw [← hL6] at h5
  have HL6 := Lib.hid hL6
  clear hL6
  have s7 := h5
  rw [HL6.out] at s7
  have f8 := s7.nth 1 rfl
  have t9 := s7.lt 1 rfl
  clear s7
  go_wp2_with fail
  clear f8 t9
  have s10 := h5
  rw [HL6.out] at s10
  refine (rmul_n HU.out).mono ?_
  rintro e w12 ⟨rfl, F13⟩
  have h14 : OwB w [(w3.heap.size, .cells (ints .i64 (digs (i).val)) 32), (bk2, .cells (ints .u8 (List.replicate 32 0)) 22), (bk1, .cells (dpC X Y Z) 51)] w12 := ((s10.allocN (.cells (ints .i64 (digs (i).val)) 32) (w3.heap.size) (by simp))).call F13
  clear F13
  simp only []
  generalize w3.heap.size = bk11 at h14 ⊢
  clear s10 h5
  obtain ⟨L15, hL15⟩ : ∃ L : List (Nat × Obj), L = [(bk11, .cells (ints .i64 (digs (i).val)) 32), (bk2, .cells (ints .u8 (List.replicate 32 0)) 22), (bk1, .cells (dpC X Y Z) 51)] := ⟨_, rfl⟩
  rw [← hL15] at h14
  have HL15 := Lib.hid hL15
  clear hL15
  have s16 := h14
  rw [HL15.out] at s16
  have f17 := s16.nth 2 rfl
  have t18 := s16.lt 2 rfl
  have f19 := s16.nth 0 rfl
  have t20 := s16.lt 0 rfl
  clear s16
  go_wp2_with fail
  clear f17 t18 f19 t20
  have s21 := h14
  rw [HL15.out] at s21
  refine (rmul_n HV.out).mono ?_
  rintro e w23 ⟨rfl, F24⟩
  have h25 : OwB w [(w12.heap.size, .cells (ints .i64 (digs (U).val)) 32), (bk11, .cells (ints .i64 (digs (i).val)) 32), (bk2, .cells (ints .u8 (List.replicate 32 0)) 22), (bk1, .cells (dpC X Y Z) 51)] w23 := ((s21.allocN (.cells (ints .i64 (digs (U).val)) 32) (w12.heap.size) (by simp))).call F24
  clear F24
  simp only []
  generalize w12.heap.size = bk22 at h25 ⊢
  clear s21 h14
  obtain ⟨L26, hL26⟩ : ∃ L : List (Nat × Obj), L = [(bk22, .cells (ints .i64 (digs (U).val)) 32), (bk11, .cells (ints .i64 (digs (i).val)) 32), (bk2, .cells (ints .u8 (List.replicate 32 0)) 22), (bk1, .cells (dpC X Y Z) 51)] := ⟨_, rfl⟩
  rw [← hL26] at h25
  have HL26 := Lib.hid hL26
  clear hL26
  go_wp2_with fail
  refine (rbytes_f V).mono ?_
  rintro e w27 ⟨rfl, F28⟩
  have s30 := h25
  rw [HL26.out] at s30
  have h29 : OwB w [(bk22, .cells (ints .i64 (digs (U).val)) 32), (bk11, .cells (ints .i64 (digs (i).val)) 32), (bk2, .cells (ints .u8 (List.replicate 32 0)) 22), (bk1, .cells (dpC X Y Z) 51)] w27 := (s30).call F28
  clear F28
  simp only []
  clear s30 h25
  obtain ⟨L31, hL31⟩ : ∃ L : List (Nat × Obj), L = [(bk22, .cells (ints .i64 (digs (U).val)) 32), (bk11, .cells (ints .i64 (digs (i).val)) 32), (bk2, .cells (ints .u8 (List.replicate 32 0)) 22), (bk1, .cells (dpC X Y Z) 51)] := ⟨_, rfl⟩
  rw [← hL31] at h29
  have HL31 := Lib.hid hL31
  clear hL31
  have s32 := h29
  rw [HL31.out] at s32
  have f33 := s32.nth 0 rfl
  have t34 := s32.lt 0 rfl
  have f35 := s32.nth 2 rfl
  have t36 := s32.lt 2 rfl
  have e37 := s32.ne 0 2 rfl rfl (by decide)
  have e38 := s32.ne 2 0 rfl rfl (by decide)
  clear s32
  go_wp2_with fail
  clear f33 t34 f35 t36 e37 e38
  have s39 := h29
  rw [HL31.out] at s39
  refine OwB.named (Q := fun X => bodyPost _ _ _ _ _ X) (show OwB w [(w27.heap.size, .cells (ints .u8 (encD V)) 22), (bk22, .cells (ints .i64 (digs (U).val)) 32), (bk11, .cells (ints .i64 (digs (i).val)) 32), (bk2, .cells (ints .u8 (encD V)) 22), (bk1, .cells (dpC X Y Z) 51)] _ from ((s39.set 2 (.cells (ints .u8 (encD V)) 22) rfl).allocN (.cells (ints .u8 (encD V)) 22) (w27.heap.size) (by simp))) ?_
  intro V42 h41
  generalize w27.heap.size = bk40 at h41 ⊢
  clear s39 h29
  rw [← HB.out] at h41
  obtain ⟨L43, hL43⟩ : ∃ L : List (Nat × Obj), L = [(bk40, .cells (ints .u8 (B)) 22), (bk22, .cells (ints .i64 (digs (U).val)) 32), (bk11, .cells (ints .i64 (digs (i).val)) 32), (bk2, .cells (ints .u8 (B)) 22), (bk1, .cells (dpC X Y Z) 51)] := ⟨_, rfl⟩
  rw [← hL43] at h41
  have HL43 := Lib.hid hL43
  clear hL43
  have s44 := h41
  rw [HL43.out] at s44
  refine ret_cell rfl rfl rfl ?_
  refine cellRet_of (s44.nth 3 rfl) (aggB_ints lB (by kernel_rfl)) ?_
  exact ⟨rfl, s44.fr⟩

set_option maxRecDepth 100000 in
set_option maxHeartbeats 8000000 in
theorem denc_even {X Y Z i U V : Fp} (B : List Int) (hi : inv Z = i) (hU : X * i = U) (hV : Y * i = V) (hB : B = bytesF V) (_lB : B.length = 32) (hp : (el (digs U.val) 0).tmod 2 = 0) : Calls Try.prog 51 #[.agg (dpC X Y Z)] w fun e w' => e = .returned (.agg (ints .u8 B)) ∧ Fr [] w w' := by
  have Hi := Lib.hid hi
  have HU := Lib.hid hU
  have HV := Lib.hid hV
  have HB := Lib.hid hB
  clear hi hU hV hB
  go_enter Try.func51, Try.ntmps51
  go_wp2_with fail
  refine (rinv_n Hi.out).mono ?_
  rintro e w3 ⟨rfl, F4⟩
  have h5 : OwB w [(w.heap.size + 1, .cells (ints .u8 (List.replicate 32 0)) 22), (w.heap.size, .cells (dpC X Y Z) 51)] w3 := ((((OwB.start w).allocN (.cells (dpC X Y Z) 51) w.heap.size rfl).allocN (.cells (ints .u8 (List.replicate 32 0)) 22) (w.heap.size + 1) (by simp))).call F4
  clear F4
  simp only []
  generalize w.heap.size + 1 = bk2 at h5 ⊢
  generalize w.heap.size = bk1 at h5 ⊢
  obtain ⟨L6, hL6⟩ : ∃ L : List (Nat × Obj), L = [(bk2, .cells (ints .u8 (List.replicate 32 0)) 22), (bk1, .cells (dpC X Y Z) 51)] := ⟨_, rfl⟩
  rw [← hL6] at h5
  have HL6 := Lib.hid hL6
  clear hL6
  have s7 := h5
  rw [HL6.out] at s7
  have f8 := s7.nth 1 rfl
  have t9 := s7.lt 1 rfl
  clear s7
  go_wp2_with fail
  clear f8 t9
  have s10 := h5
  rw [HL6.out] at s10
  refine (rmul_n HU.out).mono ?_
  rintro e w12 ⟨rfl, F13⟩
  have h14 : OwB w [(w3.heap.size, .cells (ints .i64 (digs (i).val)) 32), (bk2, .cells (ints .u8 (List.replicate 32 0)) 22), (bk1, .cells (dpC X Y Z) 51)] w12 := ((s10.allocN (.cells (ints .i64 (digs (i).val)) 32) (w3.heap.size) (by simp))).call F13
  clear F13
  simp only []
  generalize w3.heap.size = bk11 at h14 ⊢
  clear s10 h5
  obtain ⟨L15, hL15⟩ : ∃ L : List (Nat × Obj), L = [(bk11, .cells (ints .i64 (digs (i).val)) 32), (bk2, .cells (ints .u8 (List.replicate 32 0)) 22), (bk1, .cells (dpC X Y Z) 51)] := ⟨_, rfl⟩
  rw [← hL15] at h14
  have HL15 := Lib.hid hL15
  clear hL15
  have s16 := h14
  rw [HL15.out] at s16
  have f17 := s16.nth 2 rfl
  have t18 := s16.lt 2 rfl
  have f19 := s16.nth 0 rfl
  have t20 := s16.lt 0 rfl
  clear s16
  go_wp2_with fail
  clear f17 t18 f19 t20
  have s21 := h14
  rw [HL15.out] at s21
  refine (rmul_n HV.out).mono ?_
  rintro e w23 ⟨rfl, F24⟩
  have h25 : OwB w [(w12.heap.size, .cells (ints .i64 (digs (U).val)) 32), (bk11, .cells (ints .i64 (digs (i).val)) 32), (bk2, .cells (ints .u8 (List.replicate 32 0)) 22), (bk1, .cells (dpC X Y Z) 51)] w23 := ((s21.allocN (.cells (ints .i64 (digs (U).val)) 32) (w12.heap.size) (by simp))).call F24
  clear F24
  simp only []
  generalize w12.heap.size = bk22 at h25 ⊢
  clear s21 h14
  obtain ⟨L26, hL26⟩ : ∃ L : List (Nat × Obj), L = [(bk22, .cells (ints .i64 (digs (U).val)) 32), (bk11, .cells (ints .i64 (digs (i).val)) 32), (bk2, .cells (ints .u8 (List.replicate 32 0)) 22), (bk1, .cells (dpC X Y Z) 51)] := ⟨_, rfl⟩
  rw [← hL26] at h25
  have HL26 := Lib.hid hL26
  clear hL26
  go_wp2_with fail
  refine (rbytes_f V).mono ?_
  rintro e w27 ⟨rfl, F28⟩
  have s30 := h25
  rw [HL26.out] at s30
  have h29 : OwB w [(bk22, .cells (ints .i64 (digs (U).val)) 32), (bk11, .cells (ints .i64 (digs (i).val)) 32), (bk2, .cells (ints .u8 (List.replicate 32 0)) 22), (bk1, .cells (dpC X Y Z) 51)] w27 := (s30).call F28
  clear F28
  simp only []
  clear s30 h25
  obtain ⟨L31, hL31⟩ : ∃ L : List (Nat × Obj), L = [(bk22, .cells (ints .i64 (digs (U).val)) 32), (bk11, .cells (ints .i64 (digs (i).val)) 32), (bk2, .cells (ints .u8 (List.replicate 32 0)) 22), (bk1, .cells (dpC X Y Z) 51)] := ⟨_, rfl⟩
  rw [← hL31] at h29
  have HL31 := Lib.hid hL31
  clear hL31
  have s32 := h29
  rw [HL31.out] at s32
  have f33 := s32.nth 0 rfl
  have t34 := s32.lt 0 rfl
  have f35 := s32.nth 2 rfl
  have t36 := s32.lt 2 rfl
  have e37 := s32.ne 0 2 rfl rfl (by decide)
  have e38 := s32.ne 2 0 rfl rfl (by decide)
  clear s32
  go_wp2_with fail
  clear f33 t34 f35 t36 e37 e38
  have s39 := h29
  rw [HL31.out] at s39
  skip
  refine OwB.named (Q := fun X => bodyPost _ _ _ _ _ X) (show OwB w [(w27.heap.size, .cells (ints .u8 (bytesF V)) 22), (bk22, .cells (ints .i64 (digs (U).val)) 32), (bk11, .cells (ints .i64 (digs (i).val)) 32), (bk2, .cells (ints .u8 (bytesF V)) 22), (bk1, .cells (dpC X Y Z) 51)] _ from ((s39.set 2 (.cells (ints .u8 (bytesF V)) 22) rfl).allocN (.cells (ints .u8 (bytesF V)) 22) (w27.heap.size) (by simp))) ?_
  intro V42 h41
  generalize w27.heap.size = bk40 at h41 ⊢
  clear s39 h29
  obtain ⟨L43, hL43⟩ : ∃ L : List (Nat × Obj), L = [(bk40, .cells (ints .u8 (bytesF V)) 22), (bk22, .cells (ints .i64 (digs (U).val)) 32), (bk11, .cells (ints .i64 (digs (i).val)) 32), (bk2, .cells (ints .u8 (bytesF V)) 22), (bk1, .cells (dpC X Y Z) 51)] := ⟨_, rfl⟩
  rw [← hL43] at h41
  have HL43 := Lib.hid hL43
  clear hL43
  have s44 := h41
  rw [HL43.out] at s44
  refine ret_cell rfl rfl rfl ?_
  refine cellRet_of (s44.nth 3 rfl) (aggB_ints (len_bytesF _) (by kernel_rfl)) ?_
  exact ⟨by rw [HB.out], s44.fr⟩

end
end Go.Proofs.Ytakhmmnklkckpaa
namespace Go.Proofs.Ytakhmmnklkckpaa
open Go.RowKit Go.Dr

section
variable {w : World}
theorem num_top {n : Nat} (h : n < 2 ^ 256) (P : Pt) : mulP dC (n / 2 ^ 256) P = pz := by rw [Nat.div_eq_of_lt h, mulP]
theorem num_all (n : Nat) (P : Pt) : mulP dC (n / 2 ^ 0) P = mulP dC n P := by rw [Nat.pow_zero, Nat.div_one]
theorem mul_top1 {P : Pt} {S : List Int} (bS : Byt S) (hP : On dC P) (i : Nat) (h : kbit S i = true) : pad dC (pad dC (mulP dC (numB S / 2 ^ (i + 1)) P) (mulP dC (numB S / 2 ^ (i + 1)) P)) P = mulP dC (numB S / 2 ^ i) P := by
  rw [kbit_num bS, decide_eq_true_eq] at h
  rw [mul_top hP (numB S) i, if_pos h]
theorem mul_top0 {P : Pt} {S : List Int} (bS : Byt S) (hP : On dC P) (i : Nat) (h : kbit S i = false) : pad dC (mulP dC (numB S / 2 ^ (i + 1)) P) (mulP dC (numB S / 2 ^ (i + 1)) P) = mulP dC (numB S / 2 ^ i) P := by
  rw [kbit_num bS, decide_eq_false_iff_not] at h
  rw [mul_top hP (numB S) i, if_neg h]
/-- What holds at the label. -/
def CMulJ (w : World) (S x y z t : List Int) (s : Bool) (P : Pt) (j : Nat) (a : Act) (W : World) : Prop :=
  ∃ (p2 p3 p4 p5 : Nat) (xa ya za ta : List Int) (sa : Bool),
    (a.tmps.size = 27 ∧ a.defers = [] ∧ a.tmps.getD 2 undef = ptr p2 ∧ a.tmps.getD 3 undef = ptr p3 ∧ a.tmps.getD 4 undef = ptr p4 ∧ a.tmps.getD 5 undef = ptr p5 ∧ a.tmps.getD 6 undef = .int .i64 ((j : Int) - 1)) ∧ j ≤ 256 ∧
    OwB w [(p5, .cells (ptC xa ya za ta sa) 49), (p4, .cells (ptC (zs 5) (zs 5) (zs 5) (zs 5) false) 49), (p3, .cells (ptC x y z t s) 49), (p2, .cells (ints .u8 (S)) 22)] W ∧
    CP xa ya za ta sa (mulP dC (numB S / 2 ^ j) P)
set_option maxRecDepth 100000 in
set_option maxHeartbeats 8000000 in
theorem cmulP_f {S x y z t : List Int} {s : Bool} {P : Pt} (hS : S.length = 32) (bS : Byt S) (hP : CP x y z t s P) :
    Calls Try.prog 55 #[.agg (ints .u8 S), .agg (ptC x y z t s)] w fun e w' => ∃ x y z t s, e = .returned (.agg (ptC x y z t s)) ∧ CP x y z t s (mulP dC (numB S) P) ∧ Fr [] w w' := by
  have nx := hP.nx
  have ny := hP.ny
  have nz := hP.nz
  have nt := hP.nt
  have HB := Lib.hid bS
  have HP := Lib.hid hP
  clear bS hP
  go_enter Try.func55, Try.ntmps55
  go_wp2_with fail
  refine wp_scope_label 0 (CMulJ w S x y z t s P) (fun a _ => (intOf (a.tmps.getD 6 undef) + 1).toNat) rfl (fun j a W h => ?_) (fun j a W hJ => ?_) (fun next => ?_)
  · obtain ⟨_, _, _, _, _, _, _, _, _, ⟨_, _, _, _, _, _, h6⟩, _⟩ := h
    rw [h6]
    simp [intOf]
  · obtain ⟨p2, p3, p4, p5, xa, ya, za, ta, sa, ⟨hs, hdf, h2, h3, h4, h5, h6⟩, hj, hI, hC⟩ := hJ
    have nxa := hC.nx
    have nya := hC.ny
    have nza := hC.nz
    have nta := hC.nt
    have HC := Lib.hid hC
    clear hC
    obtain ⟨tm, df⟩ := a
    simp only [] at hs hdf h2 h3 h4 h5 h6
    obtain ⟨u, rfl⟩ : ∃ u : Nat → Value, tm = #[u 0, u 1, u 2, u 3, u 4, u 5, u 6, u 7, u 8, u 9, u 10, u 11, u 12, u 13, u 14, u 15, u 16, u 17, u 18, u 19, u 20, u 21, u 22, u 23, u 24, u 25, u 26] := ⟨fun i => tm.getD i undef, arr_of hs⟩
    have e2 : u 2 = _ := h2
    have e3 : u 3 = _ := h3
    have e4 : u 4 = _ := h4
    have e5 : u 5 = _ := h5
    have e6 : u 6 = _ := h6
    rw [e2, e3, e4, e5, e6, hdf]
    unfold ptr
    clear e2 e3 e4 e5 e6 h2 h3 h4 h5 h6 hs hdf
    obtain ⟨L1, hL1⟩ : ∃ L : List (Nat × Obj), L = [(p5, .cells (ptC xa ya za ta sa) 49), (p4, .cells (ptC (zs 5) (zs 5) (zs 5) (zs 5) false) 49), (p3, .cells (ptC x y z t s) 49), (p2, .cells (ints .u8 (S)) 22)] := ⟨_, rfl⟩
    rw [← hL1] at hI
    have HL1 := Lib.hid hL1
    clear hL1
    rcases Nat.eq_zero_or_pos j with hj0 | hj0
    · subst hj0
      have hm1 : decide (((0 : Nat) : Int) - 1 < 0) = true := by decide
      have s2 := hI
      rw [HL1.out] at s2
      have f3 := s2.nth 0 rfl
      have t4 := s2.lt 0 rfl
      have f5 := s2.nth 1 rfl
      have t6 := s2.lt 1 rfl
      have e7 := s2.ne 0 1 rfl rfl (by decide)
      have e8 := s2.ne 1 0 rfl rfl (by decide)
      clear s2
      go_wp2_with fail
      clear f3 t4 f5 t6 e7 e8
      have s9 := hI
      rw [HL1.out] at s9
      simp only [Exit.jump]
      refine OwB.named (Q := fun X => bodyPost _ _ _ _ _ X) (show OwB w [(p5, .cells (ptC xa ya za ta sa) 49), (p4, .cells (ptC xa ya za ta sa) 49), (p3, .cells (ptC x y z t s) 49), (p2, .cells (ints .u8 (S)) 22)] _ from (s9.set 1 (.cells (ptC xa ya za ta sa) 49) rfl)) ?_
      intro V11 h10
      clear s9 hI
      obtain ⟨L12, hL12⟩ : ∃ L : List (Nat × Obj), L = [(p5, .cells (ptC xa ya za ta sa) 49), (p4, .cells (ptC xa ya za ta sa) 49), (p3, .cells (ptC x y z t s) 49), (p2, .cells (ints .u8 (S)) 22)] := ⟨_, rfl⟩
      rw [← hL12] at h10
      have HL12 := Lib.hid hL12
      clear hL12
      have s13 := h10
      rw [HL12.out] at s13
      refine ret_cell rfl rfl rfl ?_
      refine cellRet_of (s13.nth 1 rfl) (by rw [size_ptC nxa nya nza nta]; kernel_rfl) ?_
      exact ⟨xa, ya, za, ta, sa, rfl, by rw [← num_all (numB S) P]; exact HC.out, s13.fr⟩
    · obtain ⟨i, rfl⟩ : ∃ i, j = i + 1 := ⟨j - 1, by omega⟩
      rw [show ((i + 1 : Nat) : Int) - 1 = (i : Int) from by omega]
      have hr := byt_el HB.out (i / 8)
      have hr2 := div_pow_range hr (i % 8)
      have hand := u8_and1 (el S (i / 8) / 2 ^ (i % 8)) hr2.1 hr2.2
      have hi8 : i / 8 < 32 := by omega
      have hi64 : i % 8 < 64 := by omega
      have hneg : decide ((i : Int) < 0) = false := by rw [decide_eq_false_iff_not]; omega
      have hc2 : el S (i / 8) / 2 ^ (i % 8) % 2 = 0 ∨ el S (i / 8) / 2 ^ (i % 8) % 2 = 1 := by omega
      clear hj0
      have s14 := hI
      rw [HL1.out] at s14
      have f15 := s14.nth 0 rfl
      clear s14
      go_wp2_with fail
      clear f15
      refine (cadd_p HC.out HC.out).mono ?_
      rintro e w16 ⟨x18, y19, z20, t21, s22, rfl, k23, F17⟩
      have nx18 := k23.nx
      have ny19 := k23.ny
      have nz20 := k23.nz
      have nt21 := k23.nt
      have Hk23 := Lib.hid k23
      clear k23
      have s25 := hI
      rw [HL1.out] at s25
      have h24 : OwB w [(p5, .cells (ptC xa ya za ta sa) 49), (p4, .cells (ptC (zs 5) (zs 5) (zs 5) (zs 5) false) 49), (p3, .cells (ptC x y z t s) 49), (p2, .cells (ints .u8 (S)) 22)] w16 := (s25).call F17
      clear F17
      simp only []
      clear s25 hI
      obtain ⟨L26, hL26⟩ : ∃ L : List (Nat × Obj), L = [(p5, .cells (ptC xa ya za ta sa) 49), (p4, .cells (ptC (zs 5) (zs 5) (zs 5) (zs 5) false) 49), (p3, .cells (ptC x y z t s) 49), (p2, .cells (ints .u8 (S)) 22)] := ⟨_, rfl⟩
      rw [← hL26] at h24
      have HL26 := Lib.hid hL26
      clear hL26
      rcases hc2 with hb | hb
      · rw [hb] at hand
        have hk : kbit S i = false := by unfold kbit; rw [hb]; rfl
        have HK := Lib.hid hk
        clear hk hb hr hr2
        have s27 := h24
        rw [HL26.out] at s27
        have f28 := s27.nth 3 rfl
        have t29 := s27.lt 3 rfl
        have f30 := s27.nth 0 rfl
        have t31 := s27.lt 0 rfl
        have e32 := s27.ne 3 0 rfl rfl (by decide)
        have e33 := s27.ne 0 3 rfl rfl (by decide)
        clear s27
        go_wp2_with fail
        clear f28 t29 f30 t31 e32 e33
        have s34 := h24
        rw [HL26.out] at s34
        go_step3
        refine ⟨rfl, i, by omega, p2, p3, p4, p5, x18, y19, z20, t21, s22, ⟨rfl, rfl, rfl, rfl, rfl, rfl, rfl⟩, by omega, (s34.set 0 (.cells (ptC x18 y19 z20 t21 s22) 49) rfl), ?_⟩
        rw [← mul_top0 HB.out HP.out.on i HK.out]
        exact Hk23.out
      · rw [hb] at hand
        have hk : kbit S i = true := by unfold kbit; rw [hb]; rfl
        have HK := Lib.hid hk
        clear hk hb hr hr2
        have s35 := h24
        rw [HL26.out] at s35
        have f36 := s35.nth 3 rfl
        have t37 := s35.lt 3 rfl
        have f38 := s35.nth 0 rfl
        have t39 := s35.lt 0 rfl
        have f40 := s35.nth 2 rfl
        have t41 := s35.lt 2 rfl
        have e42 := s35.ne 3 0 rfl rfl (by decide)
        have e43 := s35.ne 0 3 rfl rfl (by decide)
        have e44 := s35.ne 0 2 rfl rfl (by decide)
        have e45 := s35.ne 2 0 rfl rfl (by decide)
        clear s35
        go_wp2_with fail
        clear f36 t37 f38 t39 f40 t41 e42 e43 e44 e45
        have s46 := h24
        rw [HL26.out] at s46
        refine (cadd_p Hk23.out HP.out).mono ?_
        rintro e w47 ⟨x49, y50, z51, t52, s53, rfl, k54, F48⟩
        have nx49 := k54.nx
        have ny50 := k54.ny
        have nz51 := k54.nz
        have nt52 := k54.nt
        have Hk54 := Lib.hid k54
        clear k54
        have h55 : OwB w [(p5, .cells (ptC x18 y19 z20 t21 s22) 49), (p4, .cells (ptC (zs 5) (zs 5) (zs 5) (zs 5) false) 49), (p3, .cells (ptC x y z t s) 49), (p2, .cells (ints .u8 (S)) 22)] w47 := ((s46.set 0 (.cells (ptC x18 y19 z20 t21 s22) 49) rfl)).call F48
        clear F48
        simp only []
        clear s46 h24
        obtain ⟨L56, hL56⟩ : ∃ L : List (Nat × Obj), L = [(p5, .cells (ptC x18 y19 z20 t21 s22) 49), (p4, .cells (ptC (zs 5) (zs 5) (zs 5) (zs 5) false) 49), (p3, .cells (ptC x y z t s) 49), (p2, .cells (ints .u8 (S)) 22)] := ⟨_, rfl⟩
        rw [← hL56] at h55
        have HL56 := Lib.hid hL56
        clear hL56
        have s57 := h55
        rw [HL56.out] at s57
        have f58 := s57.nth 0 rfl
        have t59 := s57.lt 0 rfl
        clear s57
        go_wp2_with fail
        clear f58 t59
        have s60 := h55
        rw [HL56.out] at s60
        go_step3
        refine ⟨rfl, i, by omega, p2, p3, p4, p5, x49, y50, z51, t52, s53, ⟨rfl, rfl, rfl, rfl, rfl, rfl, rfl⟩, by omega, (s60.set 0 (.cells (ptC x49 y50 z51 t52 s53) 49) rfl), ?_⟩
        rw [← mul_top1 HB.out HP.out.on i HK.out]
        exact Hk54.out
  · have hlt := numB_lt hS HB.out
    go_wp2_with fail
    simp only [Nat.add_assoc, Nat.reduceAdd]
    go_step3
    rename_i K0 hK0
    refine hK0 _ _ (next 256 _ _ ?_)
    refine ⟨_, _, _, _, zs 5, zs 5, zs 5, zs 5, false, ⟨rfl, rfl, rfl, rfl, rfl, rfl, rfl⟩, by omega, (((((OwB.start w).allocN (.cells (ints .u8 (S)) 22) w.heap.size rfl).allocN (.cells (ptC x y z t s) 49) (w.heap.size + 1) (by simp)).allocN (.cells (ptC (zs 5) (zs 5) (zs 5) (zs 5) false) 49) (w.heap.size + 2) (by simp)).allocN (.cells (ptC (zs 5) (zs 5) (zs 5) (zs 5) false) 49) (w.heap.size + 3) (by simp)), ?_⟩
    rw [num_top hlt]
    exact CP.zero
end
end Go.Proofs.Ytakhmmnklkckpaa
namespace Go.Proofs.Ytakhmmnklkckpaa
open Go.RowKit Go.Dr

section
variable {w : World}
/-- The bytes of a number below 2^64. -/
def numL (x : Int) : List Int := upd (fun i => x / 2 ^ (8 * i) % 256) (zs 32) 8
set_option maxRecDepth 100000 in
set_option maxHeartbeats 8000000 in
theorem number_f (x : Int) (_hx : 0 ≤ x ∧ x < 18446744073709551616) : Calls Try.prog 59 #[.int .u64 x] w fun e w' => e = .returned (.agg (ints .u8 (numL x))) ∧ Fr [] w w' := by
  go_enter Try.func59, Try.ntmps59
  go_wp2_with fail
  refine OwB.named (Q := fun X => Code.wp _ _ _ _ X) (show OwB w [(w.heap.size + 1, .cells (ints .u8 (List.replicate 32 0)) 22), (w.heap.size, .cells (ints .u8 (List.replicate 32 0)) 22)] _ from (((OwB.start w).allocN (.cells (ints .u8 (List.replicate 32 0)) 22) w.heap.size rfl).allocN (.cells (ints .u8 (List.replicate 32 0)) 22) (w.heap.size + 1) (by simp))) ?_
  intro V4 h3
  generalize w.heap.size + 1 = bk2 at h3 ⊢
  generalize w.heap.size = bk1 at h3 ⊢
  obtain ⟨L5, hL5⟩ : ∃ L : List (Nat × Obj), L = [(bk2, .cells (ints .u8 (List.replicate 32 0)) 22), (bk1, .cells (ints .u8 (List.replicate 32 0)) 22)] := ⟨_, rfl⟩
  rw [← hL5] at h3
  have HL5 := Lib.hid hL5
  clear hL5
  have hst : OwB w [(bk2, .cells (ints .u8 (zs 32)) 22), (bk1, .cells (ints .u8 (List.replicate 32 0)) 22)] V4 := HL5.out ▸ h3
  clear h3
  go_loopw [4] (fun iv wr => ∃ k : Nat, k ≤ 8 ∧ iv = .int .i64 (k : Int) ∧ Hid (OwB w [(bk2, .cells (ints .u8 (upd (fun i => x / 2 ^ (8 * i) % 256) (zs 32) k)) 22), (bk1, .cells (ints .u8 (List.replicate 32 0)) 22)] wr)) (fun iv _ => (8 - intOf iv).toNat)
  case atStart => exact ⟨0, by omega, rfl, Lib.hid (by rw [upd_zero]; exact hst)⟩
  case round =>
    obtain ⟨k, hk, rfl, hO⟩ := hrel
    clear hst
    have hI := hO.out
    clear hO
    have lU : (upd (fun i => x / 2 ^ (8 * i) % 256) (zs 32) k).length = 32 := length_upd _ _ _ (by rw [length_zs]; omega)
    obtain ⟨U, hU⟩ : ∃ U, U = upd (fun i => x / 2 ^ (8 * i) % 256) (zs 32) k := ⟨_, rfl⟩
    rw [← hU] at hI lU
    have HU := Lib.hid hU
    clear hU
    obtain ⟨L6, hL6⟩ : ∃ L : List (Nat × Obj), L = [(bk2, .cells (ints .u8 (U)) 22), (bk1, .cells (ints .u8 (List.replicate 32 0)) 22)] := ⟨_, rfl⟩
    rw [← hL6] at hI
    have HL6 := Lib.hid hL6
    clear hL6
    by_cases hlt : k < 8
    · have hl1 : decide ((k : Int) < 8) = true := by rw [decide_eq_true_eq]; omega
      have hk32 : k < 32 := by omega
      have e8 : (8 * (k : Int)).toNat = 8 * k := by omega
      have s7 := hI
      rw [HL6.out] at s7
      have f8 := s7.nth 0 rfl
      have t9 := s7.lt 0 rfl
      clear s7
      go_wp2_with fail
      clear f8 t9
      have s10 := hI
      rw [HL6.out] at s10
      go_roundw
      case rel =>
        refine ⟨k + 1, by omega, by simp, Lib.hid ?_⟩
        have hn := (s10.set 0 (.cells (ints .u8 (U.set k (x / 2 ^ (8 * k) % 256))) 22) rfl)
        rw [← set_upd (fun i => x / 2 ^ (8 * i) % 256) (zs 32) k (by rw [length_zs]; omega), ← HU.out]
        exact hn
      case measure => simp [intOf]; omega
    · obtain rfl : k = 8 := by omega
      have hl1 : decide (((8 : Nat) : Int) < 8) = false := by decide
      have s11 := hI
      rw [HL6.out] at s11
      have f12 := s11.nth 0 rfl
      have t13 := s11.lt 0 rfl
      have f14 := s11.nth 1 rfl
      have t15 := s11.lt 1 rfl
      have e16 := s11.ne 0 1 rfl rfl (by decide)
      have e17 := s11.ne 1 0 rfl rfl (by decide)
      clear s11
      go_wp2_with fail
      clear f12 t13 f14 t15 e16 e17
      have s18 := hI
      rw [HL6.out] at s18
      refine OwB.named (Q := fun X => bodyPost _ _ _ _ _ X) (show OwB w [(bk2, .cells (ints .u8 (U)) 22), (bk1, .cells (ints .u8 (U)) 22)] _ from (s18.set 1 (.cells (ints .u8 (U)) 22) rfl)) ?_
      intro V20 h19
      clear s18 hI
      obtain ⟨L21, hL21⟩ : ∃ L : List (Nat × Obj), L = [(bk2, .cells (ints .u8 (U)) 22), (bk1, .cells (ints .u8 (U)) 22)] := ⟨_, rfl⟩
      rw [← hL21] at h19
      have HL21 := Lib.hid hL21
      clear hL21
      have s22 := h19
      rw [HL21.out] at s22
      refine ret_cell rfl rfl rfl ?_
      refine cellRet_of (s22.nth 1 rfl) (aggB_ints lU (by kernel_rfl)) ?_
      exact ⟨by rw [HU.out]; rfl, s22.fr⟩
end
end Go.Proofs.Ytakhmmnklkckpaa
namespace Go.Proofs.Ytakhmmnklkckpaa
open Go.RowKit Go.Dr

section
variable {w : World}
theorem dfactor_n {d : Fp} (h : dE = d) : Calls Try.prog 86 #[] w fun e w' => e = .returned (dF d) ∧ Fr [] w w' := h ▸ dfactor_f
theorem dsumP_v {X1 Y1 Z1 X2 Y2 Z2 d : Fp} {P Q : Pt} (h : dE = d) (h1 : DSays X1 Y1 Z1 P) (h2 : DSays X2 Y2 Z2 Q) : Calls Try.prog 85 #[.agg (dpC X1 Y1 Z1), .agg (dpC X2 Y2 Z2), dF d] w fun e w' => ∃ X Y Z, e = .returned (.agg (dpC X Y Z)) ∧ DSays X Y Z (pad dC P Q) ∧ Fr [] w w' := h ▸ dsumP_f h1 h2
theorem dzero_p : Calls Try.prog 87 #[] w fun e w' => ∃ X Y Z, e = .returned (.agg (dpC X Y Z)) ∧ DSays X Y Z pz ∧ Fr [] w w' := dzero_f.mono fun _e _w' ⟨he, hF⟩ => ⟨_, _, _, he, dsays_zero, hF⟩
theorem low_all {n : Nat} (h : n < 2 ^ 256) (P : Pt) : mulP dC (n % 2 ^ 256) P = mulP dC n P := by rw [Nat.mod_eq_of_lt h]
theorem low_none (n : Nat) (P : Pt) : mulP dC (n % 2 ^ 0) P = pz := by rw [Nat.pow_zero, Nat.mod_one, mulP]
theorem mul_low1 {P : Pt} {S : List Int} (bS : Byt S) (hP : On dC P) (i : Nat) (h : kbit S i = true) : pad dC (mulP dC (numB S % 2 ^ i) P) (mulP dC (2 ^ i) P) = mulP dC (numB S % 2 ^ (i + 1)) P := by
  rw [kbit_num bS, decide_eq_true_eq] at h
  rw [mul_low hP (numB S) i, if_pos h]
theorem mul_low0 {P : Pt} {S : List Int} (bS : Byt S) (hP : On dC P) (i : Nat) (h : kbit S i = false) : mulP dC (numB S % 2 ^ i) P = mulP dC (numB S % 2 ^ (i + 1)) P := by
  rw [kbit_num bS, decide_eq_false_iff_not] at h
  rw [mul_low hP (numB S) i, if_neg h]
set_option maxRecDepth 100000 in
set_option maxHeartbeats 8000000 in
theorem dmulP_core {S : List Int} {X Y Z d : Fp} {P : Pt} (hS : S.length = 32) (bS : Byt S) (hP : DSays X Y Z P) (hd : dE = d) :
    Calls Try.prog 57 #[.agg (ints .u8 S), .agg (dpC X Y Z)] w fun e w' => ∃ X Y Z, e = .returned (.agg (dpC X Y Z)) ∧ DSays X Y Z (mulP dC (numB S) P) ∧ Fr [] w w' := by
  have HB := Lib.hid bS
  have HP := Lib.hid hP
  have HD := Lib.hid hd
  clear bS hP hd
  go_enter Try.func57, Try.ntmps57
  go_wp2_with fail
  refine (dfactor_n HD.out).mono ?_
  rintro e w4 ⟨rfl, F5⟩
  have h6 : OwB w [(w.heap.size + 2, .cells (ints .i64 (List.replicate 48 0)) 51), (w.heap.size + 1, .cells (dpC X Y Z) 51), (w.heap.size, .cells (ints .u8 (S)) 22)] w4 := (((((OwB.start w).allocN (.cells (ints .u8 (S)) 22) w.heap.size rfl).allocN (.cells (dpC X Y Z) 51) (w.heap.size + 1) (by simp)).allocN (.cells (ints .i64 (List.replicate 48 0)) 51) (w.heap.size + 2) (by simp))).call F5
  clear F5
  simp only []
  generalize w.heap.size + 2 = bk3 at h6 ⊢
  generalize w.heap.size + 1 = bk2 at h6 ⊢
  generalize w.heap.size = bk1 at h6 ⊢
  obtain ⟨L7, hL7⟩ : ∃ L : List (Nat × Obj), L = [(bk3, .cells (ints .i64 (List.replicate 48 0)) 51), (bk2, .cells (dpC X Y Z) 51), (bk1, .cells (ints .u8 (S)) 22)] := ⟨_, rfl⟩
  rw [← hL7] at h6
  have HL7 := Lib.hid hL7
  clear hL7
  go_wp2_with fail
  have s8 := h6
  rw [HL7.out] at s8
  refine (dzero_p).mono ?_
  rintro e w10 ⟨X12, Y13, Z14, rfl, k15, F11⟩
  have Hk15 := Lib.hid k15
  clear k15
  have h16 : OwB w [(w4.heap.size, .cells (ints .i64 (digs (d).val)) 32), (bk3, .cells (ints .i64 (List.replicate 48 0)) 51), (bk2, .cells (dpC X Y Z) 51), (bk1, .cells (ints .u8 (S)) 22)] w10 := ((s8.allocN (.cells (ints .i64 (digs (d).val)) 32) (w4.heap.size) (by simp))).call F11
  clear F11
  simp only []
  generalize w4.heap.size = bk9 at h16 ⊢
  clear s8 h6
  obtain ⟨L17, hL17⟩ : ∃ L : List (Nat × Obj), L = [(bk9, .cells (ints .i64 (digs (d).val)) 32), (bk3, .cells (ints .i64 (List.replicate 48 0)) 51), (bk2, .cells (dpC X Y Z) 51), (bk1, .cells (ints .u8 (S)) 22)] := ⟨_, rfl⟩
  rw [← hL17] at h16
  have HL17 := Lib.hid hL17
  clear hL17
  go_wp2_with fail
  have s18 := h16
  rw [HL17.out] at s18
  refine OwB.named (Q := fun X => Code.wp _ _ _ _ X) (show OwB w [(w10.heap.size, .cells (dpC X12 Y13 Z14) 51), (bk9, .cells (ints .i64 (digs (d).val)) 32), (bk3, .cells (ints .i64 (List.replicate 48 0)) 51), (bk2, .cells (dpC X Y Z) 51), (bk1, .cells (ints .u8 (S)) 22)] _ from (s18.allocN (.cells (dpC X12 Y13 Z14) 51) (w10.heap.size) (by simp))) ?_
  intro V21 h20
  generalize w10.heap.size = bk19 at h20 ⊢
  clear s18 h16
  obtain ⟨L22, hL22⟩ : ∃ L : List (Nat × Obj), L = [(bk19, .cells (dpC X12 Y13 Z14) 51), (bk9, .cells (ints .i64 (digs (d).val)) 32), (bk3, .cells (ints .i64 (List.replicate 48 0)) 51), (bk2, .cells (dpC X Y Z) 51), (bk1, .cells (ints .u8 (S)) 22)] := ⟨_, rfl⟩
  rw [← hL22] at h20
  have HL22 := Lib.hid hL22
  clear hL22
  have hst : OwB w [(bk19, .cells (dpC X12 Y13 Z14) 51), (bk9, .cells (ints .i64 (digs (d).val)) 32), (bk3, .cells (ints .i64 (List.replicate 48 0)) 51), (bk2, .cells (dpC X Y Z) 51), (bk1, .cells (ints .u8 (S)) 22)] V21 := HL22.out ▸ h20
  clear h20
  go_loopw [7] (fun iv wr => ∃ (i : Nat) (xo yo zo xp yp zp : Fp), i ≤ 256 ∧ iv = .int .i64 (i : Int) ∧ Hid (OwB w [(bk19, .cells (dpC xo yo zo) 51), (bk9, .cells (ints .i64 (digs (d).val)) 32), (bk3, .cells (ints .i64 (List.replicate 48 0)) 51), (bk2, .cells (dpC xp yp zp) 51), (bk1, .cells (ints .u8 (S)) 22)] wr) ∧ Hid (DSays xo yo zo (mulP dC (numB S % 2 ^ i) P)) ∧ Hid (DSays xp yp zp (mulP dC (2 ^ i) P))) (fun iv _ => (256 - intOf iv).toNat)
  case atStart => exact ⟨0, _, _, _, _, _, _, by omega, rfl, hst, Lib.hid (by rw [low_none]; exact Hk15.out), Lib.hid (by rw [Nat.pow_zero, mulP_one not_sq_dC]; exact HP.out)⟩
  case round =>
    obtain ⟨i, xo, yo, zo, xp, yp, zp, hi, rfl, hO, HO2, HQ⟩ := hrel
    clear hst
    have hI := hO.out
    clear hO
    obtain ⟨L23, hL23⟩ : ∃ L : List (Nat × Obj), L = [(bk19, .cells (dpC xo yo zo) 51), (bk9, .cells (ints .i64 (digs (d).val)) 32), (bk3, .cells (ints .i64 (List.replicate 48 0)) 51), (bk2, .cells (dpC xp yp zp) 51), (bk1, .cells (ints .u8 (S)) 22)] := ⟨_, rfl⟩
    rw [← hL23] at hI
    have HL23 := Lib.hid hL23
    clear hL23
    by_cases hlt : i < 256
    · have hl1 : decide ((i : Int) < 256) = true := by rw [decide_eq_true_eq]; omega
      have hr := byt_el HB.out (i / 8)
      have hr2 := div_pow_range hr (i % 8)
      have hand := u8_and1 (el S (i / 8) / 2 ^ (i % 8)) hr2.1 hr2.2
      have hi8 : i / 8 < 32 := by omega
      have hi64 : i % 8 < 64 := by omega
      have hc2 : el S (i / 8) / 2 ^ (i % 8) % 2 = 0 ∨ el S (i / 8) / 2 ^ (i % 8) % 2 = 1 := by omega
      rcases hc2 with hb | hb
      · rw [hb] at hand
        have hk : kbit S i = false := by unfold kbit; rw [hb]; rfl
        have HK := Lib.hid hk
        clear hk hb hr hr2
        have s24 := hI
        rw [HL23.out] at s24
        have f25 := s24.nth 4 rfl
        have f26 := s24.nth 3 rfl
        have f27 := s24.nth 1 rfl
        clear s24
        go_wp2_with fail
        clear f25 f26 f27
        refine (dsumP_v HD.out HQ.out HQ.out).mono ?_
        rintro e w28 ⟨X30, Y31, Z32, rfl, k33, F29⟩
        have Hk33 := Lib.hid k33
        clear k33
        have s35 := hI
        rw [HL23.out] at s35
        have h34 : OwB w [(bk19, .cells (dpC xo yo zo) 51), (bk9, .cells (ints .i64 (digs (d).val)) 32), (bk3, .cells (ints .i64 (List.replicate 48 0)) 51), (bk2, .cells (dpC xp yp zp) 51), (bk1, .cells (ints .u8 (S)) 22)] w28 := (s35).call F29
        clear F29
        simp only []
        clear s35 hI
        obtain ⟨L36, hL36⟩ : ∃ L : List (Nat × Obj), L = [(bk19, .cells (dpC xo yo zo) 51), (bk9, .cells (ints .i64 (digs (d).val)) 32), (bk3, .cells (ints .i64 (List.replicate 48 0)) 51), (bk2, .cells (dpC xp yp zp) 51), (bk1, .cells (ints .u8 (S)) 22)] := ⟨_, rfl⟩
        rw [← hL36] at h34
        have HL36 := Lib.hid hL36
        clear hL36
        have s37 := h34
        rw [HL36.out] at s37
        have f38 := s37.nth 3 rfl
        have t39 := s37.lt 3 rfl
        clear s37
        go_wp2_with fail
        clear f38 t39
        have s40 := h34
        rw [HL36.out] at s40
        go_roundw
        case rel => exact ⟨i + 1, xo, yo, zo, X30, Y31, Z32, by omega, by simp, Lib.hid (s40.set 3 (.cells (dpC X30 Y31 Z32) 51) rfl), Lib.hid (by rw [← mul_low0 HB.out HP.out.on i HK.out]; exact HO2.out), Lib.hid (by rw [mul_twice HP.out.on]; exact Hk33.out)⟩
        case measure => simp [intOf]; omega
      · rw [hb] at hand
        have hk : kbit S i = true := by unfold kbit; rw [hb]; rfl
        have HK := Lib.hid hk
        clear hk hb hr hr2
        have s41 := hI
        rw [HL23.out] at s41
        have f42 := s41.nth 4 rfl
        have f43 := s41.nth 0 rfl
        have f44 := s41.nth 3 rfl
        have f45 := s41.nth 1 rfl
        clear s41
        go_wp2_with fail
        clear f42 f43 f44 f45
        refine (dsumP_v HD.out HO2.out HQ.out).mono ?_
        rintro e w46 ⟨X48, Y49, Z50, rfl, k51, F47⟩
        have Hk51 := Lib.hid k51
        clear k51
        have s53 := hI
        rw [HL23.out] at s53
        have h52 : OwB w [(bk19, .cells (dpC xo yo zo) 51), (bk9, .cells (ints .i64 (digs (d).val)) 32), (bk3, .cells (ints .i64 (List.replicate 48 0)) 51), (bk2, .cells (dpC xp yp zp) 51), (bk1, .cells (ints .u8 (S)) 22)] w46 := (s53).call F47
        clear F47
        simp only []
        clear s53 hI
        obtain ⟨L54, hL54⟩ : ∃ L : List (Nat × Obj), L = [(bk19, .cells (dpC xo yo zo) 51), (bk9, .cells (ints .i64 (digs (d).val)) 32), (bk3, .cells (ints .i64 (List.replicate 48 0)) 51), (bk2, .cells (dpC xp yp zp) 51), (bk1, .cells (ints .u8 (S)) 22)] := ⟨_, rfl⟩
        rw [← hL54] at h52
        have HL54 := Lib.hid hL54
        clear hL54
        have s55 := h52
        rw [HL54.out] at s55
        have f56 := s55.nth 3 rfl
        have t57 := s55.lt 3 rfl
        have f58 := s55.nth 1 rfl
        have t59 := s55.lt 1 rfl
        have f60 := s55.nth 0 rfl
        have t61 := s55.lt 0 rfl
        have e62 := s55.ne 3 0 rfl rfl (by decide)
        have e63 := s55.ne 1 0 rfl rfl (by decide)
        have e64 := s55.ne 0 3 rfl rfl (by decide)
        have e65 := s55.ne 0 1 rfl rfl (by decide)
        clear s55
        go_wp2_with fail
        clear f56 t57 f58 t59 f60 t61 e62 e63 e64 e65
        have s66 := h52
        rw [HL54.out] at s66
        refine (dsumP_v HD.out HQ.out HQ.out).mono ?_
        rintro e w67 ⟨X69, Y70, Z71, rfl, k72, F68⟩
        have Hk72 := Lib.hid k72
        clear k72
        have h73 : OwB w [(bk19, .cells (dpC X48 Y49 Z50) 51), (bk9, .cells (ints .i64 (digs (d).val)) 32), (bk3, .cells (ints .i64 (List.replicate 48 0)) 51), (bk2, .cells (dpC xp yp zp) 51), (bk1, .cells (ints .u8 (S)) 22)] w67 := ((s66.set 0 (.cells (dpC X48 Y49 Z50) 51) rfl)).call F68
        clear F68
        simp only []
        clear s66 h52
        obtain ⟨L74, hL74⟩ : ∃ L : List (Nat × Obj), L = [(bk19, .cells (dpC X48 Y49 Z50) 51), (bk9, .cells (ints .i64 (digs (d).val)) 32), (bk3, .cells (ints .i64 (List.replicate 48 0)) 51), (bk2, .cells (dpC xp yp zp) 51), (bk1, .cells (ints .u8 (S)) 22)] := ⟨_, rfl⟩
        rw [← hL74] at h73
        have HL74 := Lib.hid hL74
        clear hL74
        have s75 := h73
        rw [HL74.out] at s75
        have f76 := s75.nth 3 rfl
        have t77 := s75.lt 3 rfl
        clear s75
        go_wp2_with fail
        clear f76 t77
        have s78 := h73
        rw [HL74.out] at s78
        go_roundw
        case rel => exact ⟨i + 1, X48, Y49, Z50, X69, Y70, Z71, by omega, by simp, Lib.hid (s78.set 3 (.cells (dpC X69 Y70 Z71) 51) rfl), Lib.hid (by rw [← mul_low1 HB.out HP.out.on i HK.out]; exact Hk51.out), Lib.hid (by rw [mul_twice HP.out.on]; exact Hk72.out)⟩
        case measure => simp [intOf]; omega
    · obtain rfl : i = 256 := by omega
      have hl1 : decide (((256 : Nat) : Int) < 256) = false := by decide
      have s79 := hI
      rw [HL23.out] at s79
      have f80 := s79.nth 0 rfl
      have t81 := s79.lt 0 rfl
      have f82 := s79.nth 2 rfl
      have t83 := s79.lt 2 rfl
      have e84 := s79.ne 0 2 rfl rfl (by decide)
      have e85 := s79.ne 2 0 rfl rfl (by decide)
      clear s79
      go_wp2_with fail
      clear f80 t81 f82 t83 e84 e85
      have s86 := hI
      rw [HL23.out] at s86
      refine OwB.named (Q := fun X => bodyPost _ _ _ _ _ X) (show OwB w [(bk19, .cells (dpC xo yo zo) 51), (bk9, .cells (ints .i64 (digs (d).val)) 32), (bk3, .cells (dpC xo yo zo) 51), (bk2, .cells (dpC xp yp zp) 51), (bk1, .cells (ints .u8 (S)) 22)] _ from (s86.set 2 (.cells (dpC xo yo zo) 51) rfl)) ?_
      intro V88 h87
      clear s86 hI
      obtain ⟨L89, hL89⟩ : ∃ L : List (Nat × Obj), L = [(bk19, .cells (dpC xo yo zo) 51), (bk9, .cells (ints .i64 (digs (d).val)) 32), (bk3, .cells (dpC xo yo zo) 51), (bk2, .cells (dpC xp yp zp) 51), (bk1, .cells (ints .u8 (S)) 22)] := ⟨_, rfl⟩
      rw [← hL89] at h87
      have HL89 := Lib.hid hL89
      clear hL89
      have s90 := h87
      rw [HL89.out] at s90
      refine ret_cell rfl rfl rfl ?_
      refine cellRet_of (s90.nth 2 rfl) (by rw [size_dpC]; kernel_rfl) ?_
      exact ⟨_, _, _, rfl, by rw [← low_all (numB_lt hS HB.out) P]; exact HO2.out, s90.fr⟩

theorem dmulP_f {S : List Int} {X Y Z : Fp} {P : Pt} (hS : S.length = 32) (bS : Byt S) (hP : DSays X Y Z P) :
    Calls Try.prog 57 #[.agg (ints .u8 S), .agg (dpC X Y Z)] w fun e w' => ∃ X Y Z, e = .returned (.agg (dpC X Y Z)) ∧ DSays X Y Z (mulP dC (numB S) P) ∧ Fr [] w w' := dmulP_core hS bS hP rfl
end
end Go.Proofs.Ytakhmmnklkckpaa
