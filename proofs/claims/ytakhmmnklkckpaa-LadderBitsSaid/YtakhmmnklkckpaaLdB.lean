/- The ladder's step: the double of the first one, the sum of both. -/
import Derived.Test.YtakhmmnklkckpaaLdA
namespace Go.Proofs.Ytakhmmnklkckpaa
open Go.RowKit Go.Dr

section
variable {w : World}
set_option maxRecDepth 100000 in
set_option maxHeartbeats 4000000 in
theorem step_f {ax az bx bz t : List Int} {X Z U V T : Fp} (hax : Is ax X) (haz : Is az Z) (hbx : Is bx U) (hbz : Is bz V) (ht : Is t T) :
    Calls Try.prog 77 #[pr ax az, pr bx bz, fe t] w fun e w' => ∃ c1 c2 c3 c4, e = .returned (.tuple #[pr c1 c2, pr c3 c4]) ∧ Is c1 (((X + Z) * (X + Z)) * ((X - Z) * (X - Z))) ∧ Is c2 ((((X + Z) * (X + Z)) - ((X - Z) * (X - Z))) * (((X + Z) * (X + Z)) + ((toFp 121665) * (((X + Z) * (X + Z)) - ((X - Z) * (X - Z)))))) ∧ Is c3 ((((U - V) * (X + Z)) + ((U + V) * (X - Z))) * (((U - V) * (X + Z)) + ((U + V) * (X - Z)))) ∧ Is c4 (T * ((((U - V) * (X + Z)) - ((U + V) * (X - Z))) * (((U - V) * (X + Z)) - ((U + V) * (X - Z))))) ∧ Fr [] w w' := by
  have nax := hax.len
  have Hax := Lib.hid hax
  clear hax
  have naz := haz.len
  have Haz := Lib.hid haz
  clear haz
  have nbx := hbx.len
  have Hbx := Lib.hid hbx
  clear hbx
  have nbz := hbz.len
  have Hbz := Lib.hid hbz
  clear hbz
  have nt := ht.len
  have Ht := Lib.hid ht
  clear ht
  unfold fe pr
  go_enter Try.func77, Try.ntmps77
  go_wp2_with fail
  refine Own.named (Q := fun X => Code.wp _ _ _ _ X) (show Own w [(w.heap.size + 4, .cells (ints .u64 (List.replicate 10 0)) 88), (w.heap.size + 3, .cells (ints .u64 (List.replicate 10 0)) 88), (w.heap.size + 2, .cells (ints .u64 t) 28), (w.heap.size + 1, .cells (ints .u64 (bx ++ bz)) 88), (w.heap.size, .cells (ints .u64 (ax ++ az)) 88)] _ from ((((((Own.start w).allocN (.cells (ints .u64 (ax ++ az)) 88) w.heap.size rfl).allocN (.cells (ints .u64 (bx ++ bz)) 88) (w.heap.size + 1) (by simp)).allocN (.cells (ints .u64 t) 28) (w.heap.size + 2) (by simp)).allocN (.cells (ints .u64 (List.replicate 10 0)) 88) (w.heap.size + 3) (by simp)).allocN (.cells (ints .u64 (List.replicate 10 0)) 88) (w.heap.size + 4) (by simp))) ?_
  intro V7 h6
  generalize w.heap.size + 4 = bk5 at h6 ⊢
  generalize w.heap.size + 3 = bk4 at h6 ⊢
  generalize w.heap.size + 2 = bk3 at h6 ⊢
  generalize w.heap.size + 1 = bk2 at h6 ⊢
  generalize w.heap.size = bk1 at h6 ⊢
  obtain ⟨L8, hL8⟩ : ∃ L : List (Nat × Obj), L = [(bk5, .cells (ints .u64 (List.replicate 10 0)) 88), (bk4, .cells (ints .u64 (List.replicate 10 0)) 88), (bk3, .cells (ints .u64 t) 28), (bk2, .cells (ints .u64 (bx ++ bz)) 88), (bk1, .cells (ints .u64 (ax ++ az)) 88)] := ⟨_, rfl⟩
  rw [← hL8] at h6
  have HL8 := Lib.hid hL8
  clear hL8
  refine drawn_begin 12 (Own w L8) (by kernel_rfl) ?_
  have s9 := h6.drew
  rw [HL8.out] at s9
  have f10 := s9.nth 4 rfl
  clear s9
  refine drawn_reads (fuel := 6) [0, 1, 2, 3, 5, 6, 7, 8] rfl (by kernel_rfl) (h6.drew) ?_
  repeat (first | (refine rowK_step2 rfl rfl (fun K hK => ?_); go_wp2) | (refine rowK_step rfl (fun K hK => ?_); go_simp; refine hK _ ?_; clear hK K))
  refine rowK_nil ⟨fun w' hw' => ?_, ?_⟩
  · rw [HL8.out] at hw'
    have g11 := hw'.nth 4 rfl
    clear f10
    repeat (first | (refine rowWp_step2 rfl rfl (fun K hK => ?_); go_wp2) | (refine rowWp_step rfl (fun K hK => ?_); go_simp; refine hK _ ?_; clear hK K))
    exact rowWp_nil rfl
  clear f10
  obtain ⟨p, hp⟩ : ∃ p : Par, p = ⟨[(4, 22, fun v => ∃ lq, v = fe lq ∧ Is lq ((X + Z))), (9, 27, fun v => ∃ lq, v = fe lq ∧ Is lq ((X - Z)))], [(10, 8, .cells (ints .u64 (List.replicate 5 0)) 28), (11, 9, .cells (ints .u64 (List.replicate 5 0)) 28)], [0, 1, 2, 3, 5, 6, 7, 8]⟩ := ⟨_, rfl⟩
  have ok : p.ok := by rw [hp]; exact ⟨(by decide : [4, 9, 10, 11].Nodup), (by decide : [22, 27, 8, 9].Nodup)⟩
  refine drawn_inv (rest := 2) [22, 27, 8, 9] (fun L s w => p.Inv V7.drew L s w) (fun _ => undef) 4 (by kernel_rfl) (fun L s w h => ?_) rfl ?_ ?_ ?_
  · exact (h6.drew).call h.fr
  · refine Par.Inv.start ?_ ?_ ?_ <;> rw [hp] <;> intro i hi <;> simp at hi
    · rcases hi with rfl | rfl | rfl | rfl | rfl | rfl | rfl | rfl <;> rfl
    · rcases hi with rfl | rfl <;> rfl
    · rcases hi with rfl | rfl <;> rfl
  · intro i o L s w ho hi hL hd h K hK
    rcases (show i = 0 ∨ i = 1 ∨ i = 2 ∨ i = 3 ∨ i = 4 ∨ i = 5 ∨ i = 6 ∨ i = 7 ∨ i = 8 ∨ i = 9 ∨ i = 10 ∨ i = 11 by omega) with rfl | rfl | rfl | rfl | rfl | rfl | rfl | rfl | rfl | rfl | rfl | rfl
    · rw [h.row 0 (by rw [hp]; simp)] at hL; cases hL
    · rw [h.row 1 (by rw [hp]; simp)] at hL; cases hL
    · rw [h.row 2 (by rw [hp]; simp)] at hL; cases hL
    · rw [h.row 3 (by rw [hp]; simp)] at hL; cases hL
    · injection (show some _ = some o from ho) with ho; subst ho
      simp only [fill]
      go_wp2_with fail
      refine (add_f Hax.out Haz.out).mono ?_
      rintro e w2 ⟨lq, rfl, hc, F⟩
      simp only []
      go_wp2
      exact ⟨_, by kernel_rfl, h.called ok (4, 22, fun v => ∃ lq, v = fe lq ∧ Is lq ((X + Z))) (by rw [hp]; simp) F ⟨lq, rfl, hc⟩⟩
    · rw [h.row 5 (by rw [hp]; simp)] at hL; cases hL
    · rw [h.row 6 (by rw [hp]; simp)] at hL; cases hL
    · rw [h.row 7 (by rw [hp]; simp)] at hL; cases hL
    · rw [h.row 8 (by rw [hp]; simp)] at hL; cases hL
    · injection (show some _ = some o from ho) with ho; subst ho
      simp only [fill]
      go_wp2_with fail
      refine (sub_f Hax.out Haz.out).mono ?_
      rintro e w2 ⟨lq, rfl, hc, F⟩
      simp only []
      go_wp2
      exact ⟨_, by kernel_rfl, h.called ok (9, 27, fun v => ∃ lq, v = fe lq ∧ Is lq ((X - Z))) (by rw [hp]; simp) F ⟨lq, rfl, hc⟩⟩
    · injection (show some _ = some o from ho) with ho; subst ho
      simp only [fill]
      go_wp2
      exact ⟨_, by kernel_rfl, h.made ok (10, 8, .cells (ints .u64 (List.replicate 5 0)) 28) (by rw [hp]; simp)⟩
    · injection (show some _ = some o from ho) with ho; subst ho
      simp only [fill]
      go_wp2
      exact ⟨_, by kernel_rfl, h.made ok (11, 9, .cells (ints .u64 (List.replicate 5 0)) 28) (by rw [hp]; simp)⟩
  intro s w12 h
  obtain ⟨c13, e15, k14⟩ := h.call (4, 22, fun v => ∃ lq, v = fe lq ∧ Is lq ((X + Z))) (by rw [hp]; simp) rfl
  obtain ⟨c16, e18, k17⟩ := h.call (9, 27, fun v => ∃ lq, v = fe lq ∧ Is lq ((X - Z))) (by rw [hp]; simp) rfl
  obtain ⟨bk19, e20, l21, m22⟩ := h.room (10, 8, .cells (ints .u64 (List.replicate 5 0)) 28) (by rw [hp]; simp) rfl
  obtain ⟨bk23, e24, l25, m26⟩ := h.room (11, 9, .cells (ints .u64 (List.replicate 5 0)) 28) (by rw [hp]; simp) rfl
  simp only [] at e15 e18 e20 e24
  have q27 := h.apart (11, 9, .cells (ints .u64 (List.replicate 5 0)) 28) (by rw [hp]; simp) (10, 8, .cells (ints .u64 (List.replicate 5 0)) 28) (by rw [hp]; simp) (by simp) rfl rfl
  simp only [e24, e20] at q27
  have h28 := (h6.drew).call h.fr
  simp only [fill, e15, e18, e20, e24]
  have h29 := ((h28.room m22 (h6.fresh l21) (Nat.le_trans h6.fr.size l21)).room m26 (by simp only [List.map_cons, List.mem_cons, not_or]; exact ⟨(fun e => q27 (by rw [e])), (h6.fresh l25)⟩) (Nat.le_trans h6.fr.size l25))
  rw [HL8.out] at h29
  clear e15 e18 e20 e24 q27 l21 m22 l25 m26 h28 h ok hp h6 p
  have nc13 := k14.len
  have Hc13 := Lib.hid k14
  clear k14
  have nc16 := k17.len
  have Hc16 := Lib.hid k17
  clear k17
  obtain ⟨L30, hL30⟩ : ∃ L : List (Nat × Obj), L = [(bk23, .cells (ints .u64 (List.replicate 5 0)) 28), (bk19, .cells (ints .u64 (List.replicate 5 0)) 28), (bk5, .cells (ints .u64 (List.replicate 10 0)) 88), (bk4, .cells (ints .u64 (List.replicate 10 0)) 88), (bk3, .cells (ints .u64 t) 28), (bk2, .cells (ints .u64 (bx ++ bz)) 88), (bk1, .cells (ints .u64 (ax ++ az)) 88)] := ⟨_, rfl⟩
  rw [← hL30] at h29
  have HL30 := Lib.hid hL30
  clear hL30
  refine drawn_end (ol := [_, _]) rfl (by kernel_rfl) ?_
  intro K hK
  have s31 := h29
  rw [HL30.out] at s31
  have f32 := s31.nth 1 rfl
  have t33 := s31.lt 1 rfl
  have f34 := s31.nth 0 rfl
  have t35 := s31.lt 0 rfl
  have e36 := s31.ne 1 0 rfl rfl (by decide)
  have e37 := s31.ne 0 1 rfl rfl (by decide)
  clear s31
  have s38 := h29
  rw [HL30.out] at s38
  go_wp2_with fail
  clear f32 t33 f34 t35 e36 e37
  refine Own.named (Q := fun X => Code.wp _ _ _ _ X) (show Own w [(bk23, .cells (ints .u64 c16) 28), (bk19, .cells (ints .u64 c13) 28), (bk5, .cells (ints .u64 (List.replicate 10 0)) 88), (bk4, .cells (ints .u64 (List.replicate 10 0)) 88), (bk3, .cells (ints .u64 t) 28), (bk2, .cells (ints .u64 (bx ++ bz)) 88), (bk1, .cells (ints .u64 (ax ++ az)) 88)] _ from ((s38.set 1 (.cells (ints .u64 c13) 28) rfl).set 0 (.cells (ints .u64 c16) 28) rfl)) ?_
  intro V40 h39
  clear s38 h29
  obtain ⟨L41, hL41⟩ : ∃ L : List (Nat × Obj), L = [(bk23, .cells (ints .u64 c16) 28), (bk19, .cells (ints .u64 c13) 28), (bk5, .cells (ints .u64 (List.replicate 10 0)) 88), (bk4, .cells (ints .u64 (List.replicate 10 0)) 88), (bk3, .cells (ints .u64 t) 28), (bk2, .cells (ints .u64 (bx ++ bz)) 88), (bk1, .cells (ints .u64 (ax ++ az)) 88)] := ⟨_, rfl⟩
  rw [← hL41] at h39
  have HL41 := Lib.hid hL41
  clear hL41
  refine drawn_begin 8 (Own w L41) (by kernel_rfl) ?_
  have s42 := h39.drew
  rw [HL41.out] at s42
  have f43 := s42.nth 1 rfl
  have f44 := s42.nth 0 rfl
  clear s42
  refine drawn_reads (fuel := 6) [0, 1, 3, 4] rfl (by kernel_rfl) (h39.drew) ?_
  repeat (first | (refine rowK_step2 rfl rfl (fun K hK => ?_); go_wp2) | (refine rowK_step rfl (fun K hK => ?_); go_simp; refine hK _ ?_; clear hK K))
  refine rowK_nil ⟨fun w' hw' => ?_, ?_⟩
  · rw [HL41.out] at hw'
    have g45 := hw'.nth 1 rfl
    have g46 := hw'.nth 0 rfl
    clear f43 f44
    repeat (first | (refine rowWp_step2 rfl rfl (fun K hK => ?_); go_wp2) | (refine rowWp_step rfl (fun K hK => ?_); go_simp; refine hK _ ?_; clear hK K))
    exact rowWp_nil rfl
  clear f43 f44
  obtain ⟨p, hp⟩ : ∃ p : Par, p = ⟨[(2, 30, fun v => ∃ lq, v = fe lq ∧ Is lq (((X + Z) * (X + Z)))), (5, 33, fun v => ∃ lq, v = fe lq ∧ Is lq (((X - Z) * (X - Z))))], [(6, 10, .cells (ints .u64 (List.replicate 5 0)) 28), (7, 11, .cells (ints .u64 (List.replicate 5 0)) 28)], [0, 1, 3, 4]⟩ := ⟨_, rfl⟩
  have ok : p.ok := by rw [hp]; exact ⟨(by decide : [2, 5, 6, 7].Nodup), (by decide : [30, 33, 10, 11].Nodup)⟩
  refine drawn_inv (rest := 2) [30, 33, 10, 11] (fun L s w => p.Inv V40.drew L s w) (fun _ => undef) 4 (by kernel_rfl) (fun L s w h => ?_) rfl ?_ ?_ ?_
  · exact (h39.drew).call h.fr
  · refine Par.Inv.start ?_ ?_ ?_ <;> rw [hp] <;> intro i hi <;> simp at hi
    · rcases hi with rfl | rfl | rfl | rfl <;> rfl
    · rcases hi with rfl | rfl <;> rfl
    · rcases hi with rfl | rfl <;> rfl
  · intro i o L s w ho hi hL hd h K hK
    rcases (show i = 0 ∨ i = 1 ∨ i = 2 ∨ i = 3 ∨ i = 4 ∨ i = 5 ∨ i = 6 ∨ i = 7 by omega) with rfl | rfl | rfl | rfl | rfl | rfl | rfl | rfl
    · rw [h.row 0 (by rw [hp]; simp)] at hL; cases hL
    · rw [h.row 1 (by rw [hp]; simp)] at hL; cases hL
    · injection (show some _ = some o from ho) with ho; subst ho
      simp only [fill]
      go_wp2_with fail
      refine (mul_f Hc13.out Hc13.out).mono ?_
      rintro e w2 ⟨lq, rfl, hc, F⟩
      simp only []
      go_wp2
      exact ⟨_, by kernel_rfl, h.called ok (2, 30, fun v => ∃ lq, v = fe lq ∧ Is lq (((X + Z) * (X + Z)))) (by rw [hp]; simp) F ⟨lq, rfl, hc⟩⟩
    · rw [h.row 3 (by rw [hp]; simp)] at hL; cases hL
    · rw [h.row 4 (by rw [hp]; simp)] at hL; cases hL
    · injection (show some _ = some o from ho) with ho; subst ho
      simp only [fill]
      go_wp2_with fail
      refine (mul_f Hc16.out Hc16.out).mono ?_
      rintro e w2 ⟨lq, rfl, hc, F⟩
      simp only []
      go_wp2
      exact ⟨_, by kernel_rfl, h.called ok (5, 33, fun v => ∃ lq, v = fe lq ∧ Is lq (((X - Z) * (X - Z)))) (by rw [hp]; simp) F ⟨lq, rfl, hc⟩⟩
    · injection (show some _ = some o from ho) with ho; subst ho
      simp only [fill]
      go_wp2
      exact ⟨_, by kernel_rfl, h.made ok (6, 10, .cells (ints .u64 (List.replicate 5 0)) 28) (by rw [hp]; simp)⟩
    · injection (show some _ = some o from ho) with ho; subst ho
      simp only [fill]
      go_wp2
      exact ⟨_, by kernel_rfl, h.made ok (7, 11, .cells (ints .u64 (List.replicate 5 0)) 28) (by rw [hp]; simp)⟩
  intro s w47 h
  obtain ⟨c48, e50, k49⟩ := h.call (2, 30, fun v => ∃ lq, v = fe lq ∧ Is lq (((X + Z) * (X + Z)))) (by rw [hp]; simp) rfl
  obtain ⟨c51, e53, k52⟩ := h.call (5, 33, fun v => ∃ lq, v = fe lq ∧ Is lq (((X - Z) * (X - Z)))) (by rw [hp]; simp) rfl
  obtain ⟨bk54, e55, l56, m57⟩ := h.room (6, 10, .cells (ints .u64 (List.replicate 5 0)) 28) (by rw [hp]; simp) rfl
  obtain ⟨bk58, e59, l60, m61⟩ := h.room (7, 11, .cells (ints .u64 (List.replicate 5 0)) 28) (by rw [hp]; simp) rfl
  simp only [] at e50 e53 e55 e59
  have q62 := h.apart (7, 11, .cells (ints .u64 (List.replicate 5 0)) 28) (by rw [hp]; simp) (6, 10, .cells (ints .u64 (List.replicate 5 0)) 28) (by rw [hp]; simp) (by simp) rfl rfl
  simp only [e59, e55] at q62
  have h63 := (h39.drew).call h.fr
  simp only [fill, e50, e53, e55, e59]
  have h64 := ((h63.room m57 (h39.fresh l56) (Nat.le_trans h39.fr.size l56)).room m61 (by simp only [List.map_cons, List.mem_cons, not_or]; exact ⟨(fun e => q62 (by rw [e])), (h39.fresh l60)⟩) (Nat.le_trans h39.fr.size l60))
  rw [HL41.out] at h64
  clear e50 e53 e55 e59 q62 l56 m57 l60 m61 h63 h ok hp h39 p
  have nc48 := k49.len
  have Hc48 := Lib.hid k49
  clear k49
  have nc51 := k52.len
  have Hc51 := Lib.hid k52
  clear k52
  obtain ⟨L65, hL65⟩ : ∃ L : List (Nat × Obj), L = [(bk58, .cells (ints .u64 (List.replicate 5 0)) 28), (bk54, .cells (ints .u64 (List.replicate 5 0)) 28), (bk23, .cells (ints .u64 c16) 28), (bk19, .cells (ints .u64 c13) 28), (bk5, .cells (ints .u64 (List.replicate 10 0)) 88), (bk4, .cells (ints .u64 (List.replicate 10 0)) 88), (bk3, .cells (ints .u64 t) 28), (bk2, .cells (ints .u64 (bx ++ bz)) 88), (bk1, .cells (ints .u64 (ax ++ az)) 88)] := ⟨_, rfl⟩
  rw [← hL65] at h64
  have HL65 := Lib.hid hL65
  clear hL65
  refine drawn_end (ol := [_, _]) rfl (by kernel_rfl) ?_
  intro K hK
  have s66 := h64
  rw [HL65.out] at s66
  have f67 := s66.nth 1 rfl
  have t68 := s66.lt 1 rfl
  have f69 := s66.nth 0 rfl
  have t70 := s66.lt 0 rfl
  have e71 := s66.ne 1 0 rfl rfl (by decide)
  have e72 := s66.ne 0 1 rfl rfl (by decide)
  clear s66
  have s73 := h64
  rw [HL65.out] at s73
  go_wp2_with fail
  clear f67 t68 f69 t70 e71 e72
  have s74 := h64
  rw [HL65.out] at s74
  have f75 := s74.nth 1 rfl
  have f76 := s74.nth 0 rfl
  clear s74
  go_wp2_with fail
  clear f75 f76
  refine (sub_f Hc48.out Hc51.out).mono ?_
  rintro e w77 ⟨c79, rfl, k80, F78⟩
  have nc79 := k80.len
  have Hc79 := Lib.hid k80
  clear k80
  have h81 : Own w [(bk58, .cells (ints .u64 c51) 28), (bk54, .cells (ints .u64 c48) 28), (bk23, .cells (ints .u64 c16) 28), (bk19, .cells (ints .u64 c13) 28), (bk5, .cells (ints .u64 (List.replicate 10 0)) 88), (bk4, .cells (ints .u64 (List.replicate 10 0)) 88), (bk3, .cells (ints .u64 t) 28), (bk2, .cells (ints .u64 (bx ++ bz)) 88), (bk1, .cells (ints .u64 (ax ++ az)) 88)] w77 := (((s73.set 1 (.cells (ints .u64 c48) 28) rfl).set 0 (.cells (ints .u64 c51) 28) rfl)).call F78
  clear F78
  simp only []
  clear s73 h64
  obtain ⟨L82, hL82⟩ : ∃ L : List (Nat × Obj), L = [(bk58, .cells (ints .u64 c51) 28), (bk54, .cells (ints .u64 c48) 28), (bk23, .cells (ints .u64 c16) 28), (bk19, .cells (ints .u64 c13) 28), (bk5, .cells (ints .u64 (List.replicate 10 0)) 88), (bk4, .cells (ints .u64 (List.replicate 10 0)) 88), (bk3, .cells (ints .u64 t) 28), (bk2, .cells (ints .u64 (bx ++ bz)) 88), (bk1, .cells (ints .u64 (ax ++ az)) 88)] := ⟨_, rfl⟩
  rw [← hL82] at h81
  have HL82 := Lib.hid hL82
  clear hL82
  go_wp2_with fail
  have s83 := h81
  rw [HL82.out] at s83
  refine Own.named (Q := fun X => Code.wp _ _ _ _ X) (show Own w [(w77.heap.size, .cells (ints .u64 c79) 28), (bk58, .cells (ints .u64 c51) 28), (bk54, .cells (ints .u64 c48) 28), (bk23, .cells (ints .u64 c16) 28), (bk19, .cells (ints .u64 c13) 28), (bk5, .cells (ints .u64 (List.replicate 10 0)) 88), (bk4, .cells (ints .u64 (List.replicate 10 0)) 88), (bk3, .cells (ints .u64 t) 28), (bk2, .cells (ints .u64 (bx ++ bz)) 88), (bk1, .cells (ints .u64 (ax ++ az)) 88)] _ from (s83.allocN (.cells (ints .u64 c79) 28) (w77.heap.size) (by simp))) ?_
  intro V86 h85
  generalize w77.heap.size = bk84 at h85 ⊢
  clear s83 h81
  obtain ⟨L87, hL87⟩ : ∃ L : List (Nat × Obj), L = [(bk84, .cells (ints .u64 c79) 28), (bk58, .cells (ints .u64 c51) 28), (bk54, .cells (ints .u64 c48) 28), (bk23, .cells (ints .u64 c16) 28), (bk19, .cells (ints .u64 c13) 28), (bk5, .cells (ints .u64 (List.replicate 10 0)) 88), (bk4, .cells (ints .u64 (List.replicate 10 0)) 88), (bk3, .cells (ints .u64 t) 28), (bk2, .cells (ints .u64 (bx ++ bz)) 88), (bk1, .cells (ints .u64 (ax ++ az)) 88)] := ⟨_, rfl⟩
  rw [← hL87] at h85
  have HL87 := Lib.hid hL87
  clear hL87
  refine drawn_begin 16 (Own w L87) (by kernel_rfl) ?_
  have s88 := h85.drew
  rw [HL87.out] at s88
  have f89 := s88.nth 8 rfl
  have f90 := s88.nth 4 rfl
  have f91 := s88.nth 3 rfl
  clear s88
  refine drawn_reads (fuel := 8) [0, 1, 2, 3, 5, 7, 8, 9, 10, 12] rfl (by kernel_rfl) (h85.drew) ?_
  repeat (first | (refine rowK_step2 rfl rfl (fun K hK => ?_); go_wp2) | (refine rowK_step rfl (fun K hK => ?_); go_simp; refine hK _ ?_; clear hK K))
  refine rowK_nil ⟨fun w' hw' => ?_, ?_⟩
  · rw [HL87.out] at hw'
    have g92 := hw'.nth 8 rfl
    have g93 := hw'.nth 4 rfl
    have g94 := hw'.nth 3 rfl
    clear f89 f90 f91
    repeat (first | (refine rowWp_step2 rfl rfl (fun K hK => ?_); go_wp2) | (refine rowWp_step rfl (fun K hK => ?_); go_simp; refine hK _ ?_; clear hK K))
    exact rowWp_nil rfl
  clear f89 f90 f91
  obtain ⟨p, hp⟩ : ∃ p : Par, p = ⟨[(4, 41, fun v => ∃ lq, v = fe lq ∧ Is lq ((U - V))), (6, 43, fun v => ∃ lq, v = fe lq ∧ Is lq (((U - V) * (X + Z)))), (11, 48, fun v => ∃ lq, v = fe lq ∧ Is lq ((U + V))), (13, 50, fun v => ∃ lq, v = fe lq ∧ Is lq (((U + V) * (X - Z))))], [(14, 13, .cells (ints .u64 (List.replicate 5 0)) 28), (15, 14, .cells (ints .u64 (List.replicate 5 0)) 28)], [0, 1, 2, 3, 5, 7, 8, 9, 10, 12]⟩ := ⟨_, rfl⟩
  have ok : p.ok := by rw [hp]; exact ⟨(by decide : [4, 6, 11, 13, 14, 15].Nodup), (by decide : [41, 43, 48, 50, 13, 14].Nodup)⟩
  refine drawn_inv (rest := 2) [41, 43, 48, 50, 13, 14] (fun L s w => p.Inv V86.drew L s w) (fun _ => undef) 6 (by kernel_rfl) (fun L s w h => ?_) rfl ?_ ?_ ?_
  · exact (h85.drew).call h.fr
  · refine Par.Inv.start ?_ ?_ ?_ <;> rw [hp] <;> intro i hi <;> simp at hi
    · rcases hi with rfl | rfl | rfl | rfl | rfl | rfl | rfl | rfl | rfl | rfl <;> rfl
    · rcases hi with rfl | rfl | rfl | rfl <;> rfl
    · rcases hi with rfl | rfl <;> rfl
  · intro i o L s w ho hi hL hd h K hK
    rcases (show i = 0 ∨ i = 1 ∨ i = 2 ∨ i = 3 ∨ i = 4 ∨ i = 5 ∨ i = 6 ∨ i = 7 ∨ i = 8 ∨ i = 9 ∨ i = 10 ∨ i = 11 ∨ i = 12 ∨ i = 13 ∨ i = 14 ∨ i = 15 by omega) with rfl | rfl | rfl | rfl | rfl | rfl | rfl | rfl | rfl | rfl | rfl | rfl | rfl | rfl | rfl | rfl
    · rw [h.row 0 (by rw [hp]; simp)] at hL; cases hL
    · rw [h.row 1 (by rw [hp]; simp)] at hL; cases hL
    · rw [h.row 2 (by rw [hp]; simp)] at hL; cases hL
    · rw [h.row 3 (by rw [hp]; simp)] at hL; cases hL
    · injection (show some _ = some o from ho) with ho; subst ho
      simp only [fill]
      go_wp2_with fail
      refine (sub_f Hbx.out Hbz.out).mono ?_
      rintro e w2 ⟨lq, rfl, hc, F⟩
      simp only []
      go_wp2
      exact ⟨_, by kernel_rfl, h.called ok (4, 41, fun v => ∃ lq, v = fe lq ∧ Is lq ((U - V))) (by rw [hp]; simp) F ⟨lq, rfl, hc⟩⟩
    · rw [h.row 5 (by rw [hp]; simp)] at hL; cases hL
    · injection (show some _ = some o from ho) with ho; subst ho
      have l41 : L 4 = true := after_on hd (by kernel_rfl)
      obtain ⟨d41, e41, k41⟩ := h.call (4, 41, fun v => ∃ lq, v = fe lq ∧ Is lq ((U - V))) (by rw [hp]; simp) l41
      have K41 := Lib.hid k41
      have ct : Calls Try.prog 36 #[s 41, fe c13] w (fun e w' => ∃ lq, e = .returned (fe lq) ∧ Is lq (((U - V) * (X + Z))) ∧ Fr [] w w') := by
        simp only [] at e41
        rw [e41]
        exact mul_f K41.out Hc13.out
      clear e41 l41 k41
      simp only [fill]
      go_wp2_with fail
      refine (ct).mono ?_
      rintro e w2 ⟨lq, rfl, hc, F⟩
      simp only []
      go_wp2
      exact ⟨_, by kernel_rfl, h.called ok (6, 43, fun v => ∃ lq, v = fe lq ∧ Is lq (((U - V) * (X + Z)))) (by rw [hp]; simp) F ⟨lq, rfl, hc⟩⟩
    · rw [h.row 7 (by rw [hp]; simp)] at hL; cases hL
    · rw [h.row 8 (by rw [hp]; simp)] at hL; cases hL
    · rw [h.row 9 (by rw [hp]; simp)] at hL; cases hL
    · rw [h.row 10 (by rw [hp]; simp)] at hL; cases hL
    · injection (show some _ = some o from ho) with ho; subst ho
      simp only [fill]
      go_wp2_with fail
      refine (add_f Hbx.out Hbz.out).mono ?_
      rintro e w2 ⟨lq, rfl, hc, F⟩
      simp only []
      go_wp2
      exact ⟨_, by kernel_rfl, h.called ok (11, 48, fun v => ∃ lq, v = fe lq ∧ Is lq ((U + V))) (by rw [hp]; simp) F ⟨lq, rfl, hc⟩⟩
    · rw [h.row 12 (by rw [hp]; simp)] at hL; cases hL
    · injection (show some _ = some o from ho) with ho; subst ho
      have l48 : L 11 = true := after_on hd (by kernel_rfl)
      obtain ⟨d48, e48, k48⟩ := h.call (11, 48, fun v => ∃ lq, v = fe lq ∧ Is lq ((U + V))) (by rw [hp]; simp) l48
      have K48 := Lib.hid k48
      have ct : Calls Try.prog 36 #[s 48, fe c16] w (fun e w' => ∃ lq, e = .returned (fe lq) ∧ Is lq (((U + V) * (X - Z))) ∧ Fr [] w w') := by
        simp only [] at e48
        rw [e48]
        exact mul_f K48.out Hc16.out
      clear e48 l48 k48
      simp only [fill]
      go_wp2_with fail
      refine (ct).mono ?_
      rintro e w2 ⟨lq, rfl, hc, F⟩
      simp only []
      go_wp2
      exact ⟨_, by kernel_rfl, h.called ok (13, 50, fun v => ∃ lq, v = fe lq ∧ Is lq (((U + V) * (X - Z)))) (by rw [hp]; simp) F ⟨lq, rfl, hc⟩⟩
    · injection (show some _ = some o from ho) with ho; subst ho
      simp only [fill]
      go_wp2
      exact ⟨_, by kernel_rfl, h.made ok (14, 13, .cells (ints .u64 (List.replicate 5 0)) 28) (by rw [hp]; simp)⟩
    · injection (show some _ = some o from ho) with ho; subst ho
      simp only [fill]
      go_wp2
      exact ⟨_, by kernel_rfl, h.made ok (15, 14, .cells (ints .u64 (List.replicate 5 0)) 28) (by rw [hp]; simp)⟩
  intro s w95 h
  obtain ⟨c96, e98, k97⟩ := h.call (4, 41, fun v => ∃ lq, v = fe lq ∧ Is lq ((U - V))) (by rw [hp]; simp) rfl
  obtain ⟨c99, e101, k100⟩ := h.call (6, 43, fun v => ∃ lq, v = fe lq ∧ Is lq (((U - V) * (X + Z)))) (by rw [hp]; simp) rfl
  obtain ⟨c102, e104, k103⟩ := h.call (11, 48, fun v => ∃ lq, v = fe lq ∧ Is lq ((U + V))) (by rw [hp]; simp) rfl
  obtain ⟨c105, e107, k106⟩ := h.call (13, 50, fun v => ∃ lq, v = fe lq ∧ Is lq (((U + V) * (X - Z)))) (by rw [hp]; simp) rfl
  obtain ⟨bk108, e109, l110, m111⟩ := h.room (14, 13, .cells (ints .u64 (List.replicate 5 0)) 28) (by rw [hp]; simp) rfl
  obtain ⟨bk112, e113, l114, m115⟩ := h.room (15, 14, .cells (ints .u64 (List.replicate 5 0)) 28) (by rw [hp]; simp) rfl
  simp only [] at e98 e101 e104 e107 e109 e113
  have q116 := h.apart (15, 14, .cells (ints .u64 (List.replicate 5 0)) 28) (by rw [hp]; simp) (14, 13, .cells (ints .u64 (List.replicate 5 0)) 28) (by rw [hp]; simp) (by simp) rfl rfl
  simp only [e113, e109] at q116
  have h117 := (h85.drew).call h.fr
  simp only [fill, e98, e101, e104, e107, e109, e113]
  have h118 := ((h117.room m111 (h85.fresh l110) (Nat.le_trans h85.fr.size l110)).room m115 (by simp only [List.map_cons, List.mem_cons, not_or]; exact ⟨(fun e => q116 (by rw [e])), (h85.fresh l114)⟩) (Nat.le_trans h85.fr.size l114))
  rw [HL87.out] at h118
  clear e98 e101 e104 e107 e109 e113 q116 l110 m111 l114 m115 h117 h ok hp h85 p
  have nc96 := k97.len
  have Hc96 := Lib.hid k97
  clear k97
  have nc99 := k100.len
  have Hc99 := Lib.hid k100
  clear k100
  have nc102 := k103.len
  have Hc102 := Lib.hid k103
  clear k103
  have nc105 := k106.len
  have Hc105 := Lib.hid k106
  clear k106
  obtain ⟨L119, hL119⟩ : ∃ L : List (Nat × Obj), L = [(bk112, .cells (ints .u64 (List.replicate 5 0)) 28), (bk108, .cells (ints .u64 (List.replicate 5 0)) 28), (bk84, .cells (ints .u64 c79) 28), (bk58, .cells (ints .u64 c51) 28), (bk54, .cells (ints .u64 c48) 28), (bk23, .cells (ints .u64 c16) 28), (bk19, .cells (ints .u64 c13) 28), (bk5, .cells (ints .u64 (List.replicate 10 0)) 88), (bk4, .cells (ints .u64 (List.replicate 10 0)) 88), (bk3, .cells (ints .u64 t) 28), (bk2, .cells (ints .u64 (bx ++ bz)) 88), (bk1, .cells (ints .u64 (ax ++ az)) 88)] := ⟨_, rfl⟩
  rw [← hL119] at h118
  have HL119 := Lib.hid hL119
  clear hL119
  refine drawn_end (ol := [_, _]) rfl (by kernel_rfl) ?_
  intro K hK
  have s120 := h118
  rw [HL119.out] at s120
  have f121 := s120.nth 1 rfl
  have t122 := s120.lt 1 rfl
  have f123 := s120.nth 0 rfl
  have t124 := s120.lt 0 rfl
  have e125 := s120.ne 1 0 rfl rfl (by decide)
  have e126 := s120.ne 0 1 rfl rfl (by decide)
  clear s120
  have s127 := h118
  rw [HL119.out] at s127
  go_wp2_with fail
  clear f121 t122 f123 t124 e125 e126
  refine Own.named (Q := fun X => Code.wp _ _ _ _ X) (show Own w [(bk112, .cells (ints .u64 c105) 28), (bk108, .cells (ints .u64 c99) 28), (bk84, .cells (ints .u64 c79) 28), (bk58, .cells (ints .u64 c51) 28), (bk54, .cells (ints .u64 c48) 28), (bk23, .cells (ints .u64 c16) 28), (bk19, .cells (ints .u64 c13) 28), (bk5, .cells (ints .u64 (List.replicate 10 0)) 88), (bk4, .cells (ints .u64 (List.replicate 10 0)) 88), (bk3, .cells (ints .u64 t) 28), (bk2, .cells (ints .u64 (bx ++ bz)) 88), (bk1, .cells (ints .u64 (ax ++ az)) 88)] _ from ((s127.set 1 (.cells (ints .u64 c99) 28) rfl).set 0 (.cells (ints .u64 c105) 28) rfl)) ?_
  intro V129 h128
  clear s127 h118
  obtain ⟨L130, hL130⟩ : ∃ L : List (Nat × Obj), L = [(bk112, .cells (ints .u64 c105) 28), (bk108, .cells (ints .u64 c99) 28), (bk84, .cells (ints .u64 c79) 28), (bk58, .cells (ints .u64 c51) 28), (bk54, .cells (ints .u64 c48) 28), (bk23, .cells (ints .u64 c16) 28), (bk19, .cells (ints .u64 c13) 28), (bk5, .cells (ints .u64 (List.replicate 10 0)) 88), (bk4, .cells (ints .u64 (List.replicate 10 0)) 88), (bk3, .cells (ints .u64 t) 28), (bk2, .cells (ints .u64 (bx ++ bz)) 88), (bk1, .cells (ints .u64 (ax ++ az)) 88)] := ⟨_, rfl⟩
  rw [← hL130] at h128
  have HL130 := Lib.hid hL130
  clear hL130
  refine drawn_begin 8 (Own w L130) (by kernel_rfl) ?_
  have s131 := h128.drew
  rw [HL130.out] at s131
  have f132 := s131.nth 1 rfl
  have f133 := s131.nth 0 rfl
  clear s131
  refine drawn_reads (fuel := 6) [0, 1, 3, 4] rfl (by kernel_rfl) (h128.drew) ?_
  repeat (first | (refine rowK_step2 rfl rfl (fun K hK => ?_); go_wp2) | (refine rowK_step rfl (fun K hK => ?_); go_simp; refine hK _ ?_; clear hK K))
  refine rowK_nil ⟨fun w' hw' => ?_, ?_⟩
  · rw [HL130.out] at hw'
    have g134 := hw'.nth 1 rfl
    have g135 := hw'.nth 0 rfl
    clear f132 f133
    repeat (first | (refine rowWp_step2 rfl rfl (fun K hK => ?_); go_wp2) | (refine rowWp_step rfl (fun K hK => ?_); go_simp; refine hK _ ?_; clear hK K))
    exact rowWp_nil rfl
  clear f132 f133
  obtain ⟨p, hp⟩ : ∃ p : Par, p = ⟨[(2, 53, fun v => ∃ lq, v = fe lq ∧ Is lq ((((U - V) * (X + Z)) + ((U + V) * (X - Z))))), (5, 56, fun v => ∃ lq, v = fe lq ∧ Is lq ((((U - V) * (X + Z)) - ((U + V) * (X - Z)))))], [(6, 15, .cells (ints .u64 (List.replicate 5 0)) 28), (7, 16, .cells (ints .u64 (List.replicate 5 0)) 28)], [0, 1, 3, 4]⟩ := ⟨_, rfl⟩
  have ok : p.ok := by rw [hp]; exact ⟨(by decide : [2, 5, 6, 7].Nodup), (by decide : [53, 56, 15, 16].Nodup)⟩
  refine drawn_inv (rest := 2) [53, 56, 15, 16] (fun L s w => p.Inv V129.drew L s w) (fun _ => undef) 4 (by kernel_rfl) (fun L s w h => ?_) rfl ?_ ?_ ?_
  · exact (h128.drew).call h.fr
  · refine Par.Inv.start ?_ ?_ ?_ <;> rw [hp] <;> intro i hi <;> simp at hi
    · rcases hi with rfl | rfl | rfl | rfl <;> rfl
    · rcases hi with rfl | rfl <;> rfl
    · rcases hi with rfl | rfl <;> rfl
  · intro i o L s w ho hi hL hd h K hK
    rcases (show i = 0 ∨ i = 1 ∨ i = 2 ∨ i = 3 ∨ i = 4 ∨ i = 5 ∨ i = 6 ∨ i = 7 by omega) with rfl | rfl | rfl | rfl | rfl | rfl | rfl | rfl
    · rw [h.row 0 (by rw [hp]; simp)] at hL; cases hL
    · rw [h.row 1 (by rw [hp]; simp)] at hL; cases hL
    · injection (show some _ = some o from ho) with ho; subst ho
      simp only [fill]
      go_wp2_with fail
      refine (add_f Hc99.out Hc105.out).mono ?_
      rintro e w2 ⟨lq, rfl, hc, F⟩
      simp only []
      go_wp2
      exact ⟨_, by kernel_rfl, h.called ok (2, 53, fun v => ∃ lq, v = fe lq ∧ Is lq ((((U - V) * (X + Z)) + ((U + V) * (X - Z))))) (by rw [hp]; simp) F ⟨lq, rfl, hc⟩⟩
    · rw [h.row 3 (by rw [hp]; simp)] at hL; cases hL
    · rw [h.row 4 (by rw [hp]; simp)] at hL; cases hL
    · injection (show some _ = some o from ho) with ho; subst ho
      simp only [fill]
      go_wp2_with fail
      refine (sub_f Hc99.out Hc105.out).mono ?_
      rintro e w2 ⟨lq, rfl, hc, F⟩
      simp only []
      go_wp2
      exact ⟨_, by kernel_rfl, h.called ok (5, 56, fun v => ∃ lq, v = fe lq ∧ Is lq ((((U - V) * (X + Z)) - ((U + V) * (X - Z))))) (by rw [hp]; simp) F ⟨lq, rfl, hc⟩⟩
    · injection (show some _ = some o from ho) with ho; subst ho
      simp only [fill]
      go_wp2
      exact ⟨_, by kernel_rfl, h.made ok (6, 15, .cells (ints .u64 (List.replicate 5 0)) 28) (by rw [hp]; simp)⟩
    · injection (show some _ = some o from ho) with ho; subst ho
      simp only [fill]
      go_wp2
      exact ⟨_, by kernel_rfl, h.made ok (7, 16, .cells (ints .u64 (List.replicate 5 0)) 28) (by rw [hp]; simp)⟩
  intro s w136 h
  obtain ⟨c137, e139, k138⟩ := h.call (2, 53, fun v => ∃ lq, v = fe lq ∧ Is lq ((((U - V) * (X + Z)) + ((U + V) * (X - Z))))) (by rw [hp]; simp) rfl
  obtain ⟨c140, e142, k141⟩ := h.call (5, 56, fun v => ∃ lq, v = fe lq ∧ Is lq ((((U - V) * (X + Z)) - ((U + V) * (X - Z))))) (by rw [hp]; simp) rfl
  obtain ⟨bk143, e144, l145, m146⟩ := h.room (6, 15, .cells (ints .u64 (List.replicate 5 0)) 28) (by rw [hp]; simp) rfl
  obtain ⟨bk147, e148, l149, m150⟩ := h.room (7, 16, .cells (ints .u64 (List.replicate 5 0)) 28) (by rw [hp]; simp) rfl
  simp only [] at e139 e142 e144 e148
  have q151 := h.apart (7, 16, .cells (ints .u64 (List.replicate 5 0)) 28) (by rw [hp]; simp) (6, 15, .cells (ints .u64 (List.replicate 5 0)) 28) (by rw [hp]; simp) (by simp) rfl rfl
  simp only [e148, e144] at q151
  have h152 := (h128.drew).call h.fr
  simp only [fill, e139, e142, e144, e148]
  have h153 := ((h152.room m146 (h128.fresh l145) (Nat.le_trans h128.fr.size l145)).room m150 (by simp only [List.map_cons, List.mem_cons, not_or]; exact ⟨(fun e => q151 (by rw [e])), (h128.fresh l149)⟩) (Nat.le_trans h128.fr.size l149))
  rw [HL130.out] at h153
  clear e139 e142 e144 e148 q151 l145 m146 l149 m150 h152 h ok hp h128 p
  have nc137 := k138.len
  have Hc137 := Lib.hid k138
  clear k138
  have nc140 := k141.len
  have Hc140 := Lib.hid k141
  clear k141
  obtain ⟨L154, hL154⟩ : ∃ L : List (Nat × Obj), L = [(bk147, .cells (ints .u64 (List.replicate 5 0)) 28), (bk143, .cells (ints .u64 (List.replicate 5 0)) 28), (bk112, .cells (ints .u64 c105) 28), (bk108, .cells (ints .u64 c99) 28), (bk84, .cells (ints .u64 c79) 28), (bk58, .cells (ints .u64 c51) 28), (bk54, .cells (ints .u64 c48) 28), (bk23, .cells (ints .u64 c16) 28), (bk19, .cells (ints .u64 c13) 28), (bk5, .cells (ints .u64 (List.replicate 10 0)) 88), (bk4, .cells (ints .u64 (List.replicate 10 0)) 88), (bk3, .cells (ints .u64 t) 28), (bk2, .cells (ints .u64 (bx ++ bz)) 88), (bk1, .cells (ints .u64 (ax ++ az)) 88)] := ⟨_, rfl⟩
  rw [← hL154] at h153
  have HL154 := Lib.hid hL154
  clear hL154
  refine drawn_end (ol := [_, _]) rfl (by kernel_rfl) ?_
  intro K hK
  have s155 := h153
  rw [HL154.out] at s155
  have f156 := s155.nth 1 rfl
  have t157 := s155.lt 1 rfl
  have f158 := s155.nth 0 rfl
  have t159 := s155.lt 0 rfl
  have e160 := s155.ne 1 0 rfl rfl (by decide)
  have e161 := s155.ne 0 1 rfl rfl (by decide)
  clear s155
  have s162 := h153
  rw [HL154.out] at s162
  go_wp2_with fail
  clear f156 t157 f158 t159 e160 e161
  go_wp2_with fail
  refine (of_k24).mono ?_
  rintro e w163 ⟨c165, rfl, k166, F164⟩
  have nc165 := k166.len
  have Hc165 := Lib.hid k166
  clear k166
  have h167 : Own w [(bk147, .cells (ints .u64 c140) 28), (bk143, .cells (ints .u64 c137) 28), (bk112, .cells (ints .u64 c105) 28), (bk108, .cells (ints .u64 c99) 28), (bk84, .cells (ints .u64 c79) 28), (bk58, .cells (ints .u64 c51) 28), (bk54, .cells (ints .u64 c48) 28), (bk23, .cells (ints .u64 c16) 28), (bk19, .cells (ints .u64 c13) 28), (bk5, .cells (ints .u64 (List.replicate 10 0)) 88), (bk4, .cells (ints .u64 (List.replicate 10 0)) 88), (bk3, .cells (ints .u64 t) 28), (bk2, .cells (ints .u64 (bx ++ bz)) 88), (bk1, .cells (ints .u64 (ax ++ az)) 88)] w163 := (((s162.set 1 (.cells (ints .u64 c137) 28) rfl).set 0 (.cells (ints .u64 c140) 28) rfl)).call F164
  clear F164
  simp only []
  clear s162 h153
  obtain ⟨L168, hL168⟩ : ∃ L : List (Nat × Obj), L = [(bk147, .cells (ints .u64 c140) 28), (bk143, .cells (ints .u64 c137) 28), (bk112, .cells (ints .u64 c105) 28), (bk108, .cells (ints .u64 c99) 28), (bk84, .cells (ints .u64 c79) 28), (bk58, .cells (ints .u64 c51) 28), (bk54, .cells (ints .u64 c48) 28), (bk23, .cells (ints .u64 c16) 28), (bk19, .cells (ints .u64 c13) 28), (bk5, .cells (ints .u64 (List.replicate 10 0)) 88), (bk4, .cells (ints .u64 (List.replicate 10 0)) 88), (bk3, .cells (ints .u64 t) 28), (bk2, .cells (ints .u64 (bx ++ bz)) 88), (bk1, .cells (ints .u64 (ax ++ az)) 88)] := ⟨_, rfl⟩
  rw [← hL168] at h167
  have HL168 := Lib.hid hL168
  clear hL168
  go_wp2_with fail
  have s169 := h167
  rw [HL168.out] at s169
  refine Own.named (Q := fun X => Code.wp _ _ _ _ X) (show Own w [(w163.heap.size, .cells (ints .u64 c165) 28), (bk147, .cells (ints .u64 c140) 28), (bk143, .cells (ints .u64 c137) 28), (bk112, .cells (ints .u64 c105) 28), (bk108, .cells (ints .u64 c99) 28), (bk84, .cells (ints .u64 c79) 28), (bk58, .cells (ints .u64 c51) 28), (bk54, .cells (ints .u64 c48) 28), (bk23, .cells (ints .u64 c16) 28), (bk19, .cells (ints .u64 c13) 28), (bk5, .cells (ints .u64 (List.replicate 10 0)) 88), (bk4, .cells (ints .u64 (List.replicate 10 0)) 88), (bk3, .cells (ints .u64 t) 28), (bk2, .cells (ints .u64 (bx ++ bz)) 88), (bk1, .cells (ints .u64 (ax ++ az)) 88)] _ from (s169.allocN (.cells (ints .u64 c165) 28) (w163.heap.size) (by simp))) ?_
  intro V172 h171
  generalize w163.heap.size = bk170 at h171 ⊢
  clear s169 h167
  obtain ⟨L173, hL173⟩ : ∃ L : List (Nat × Obj), L = [(bk170, .cells (ints .u64 c165) 28), (bk147, .cells (ints .u64 c140) 28), (bk143, .cells (ints .u64 c137) 28), (bk112, .cells (ints .u64 c105) 28), (bk108, .cells (ints .u64 c99) 28), (bk84, .cells (ints .u64 c79) 28), (bk58, .cells (ints .u64 c51) 28), (bk54, .cells (ints .u64 c48) 28), (bk23, .cells (ints .u64 c16) 28), (bk19, .cells (ints .u64 c13) 28), (bk5, .cells (ints .u64 (List.replicate 10 0)) 88), (bk4, .cells (ints .u64 (List.replicate 10 0)) 88), (bk3, .cells (ints .u64 t) 28), (bk2, .cells (ints .u64 (bx ++ bz)) 88), (bk1, .cells (ints .u64 (ax ++ az)) 88)] := ⟨_, rfl⟩
  rw [← hL173] at h171
  have HL173 := Lib.hid hL173
  clear hL173
  have h174 := h171.drew
  rw [HL173.out] at h174
  have h175 : Own w [(bk170, .cells (ints .u64 c165) 28), (bk147, .cells (ints .u64 c140) 28), (bk143, .cells (ints .u64 c137) 28), (bk112, .cells (ints .u64 c105) 28), (bk108, .cells (ints .u64 c99) 28), (bk84, .cells (ints .u64 c79) 28), (bk58, .cells (ints .u64 c51) 28), (bk54, .cells (ints .u64 c48) 28), (bk23, .cells (ints .u64 c16) 28), (bk19, .cells (ints .u64 c13) 28), (bk5, .cells (ints .u64 (List.replicate 10 0)) 88), (bk3, .cells (ints .u64 t) 28), (bk2, .cells (ints .u64 (bx ++ bz)) 88), (bk1, .cells (ints .u64 (ax ++ az)) 88)] _ := (h174.drop 11)
  clear h171
  obtain ⟨L176, hL176⟩ : ∃ L : List (Nat × Obj), L = [(bk170, .cells (ints .u64 c165) 28), (bk147, .cells (ints .u64 c140) 28), (bk143, .cells (ints .u64 c137) 28), (bk112, .cells (ints .u64 c105) 28), (bk108, .cells (ints .u64 c99) 28), (bk84, .cells (ints .u64 c79) 28), (bk58, .cells (ints .u64 c51) 28), (bk54, .cells (ints .u64 c48) 28), (bk23, .cells (ints .u64 c16) 28), (bk19, .cells (ints .u64 c13) 28), (bk5, .cells (ints .u64 (List.replicate 10 0)) 88), (bk3, .cells (ints .u64 t) 28), (bk2, .cells (ints .u64 (bx ++ bz)) 88), (bk1, .cells (ints .u64 (ax ++ az)) 88)] := ⟨_, rfl⟩
  rw [← hL176] at h175
  have HL176 := Lib.hid hL176
  clear hL176
  refine drawn_begin 21 (Own w L176) (by kernel_rfl) ?_
  have s177 := h175
  rw [HL176.out] at s177
  have f178 := s177.nth 7 rfl
  have f179 := s177.nth 6 rfl
  have f180 := s177.nth 5 rfl
  have f181 := s177.nth 0 rfl
  have f182 := s177.nth 2 rfl
  have f183 := s177.nth 11 rfl
  have f184 := s177.nth 1 rfl
  clear s177
  refine drawn_reads (fuel := 11) [0, 1, 3, 4, 5, 6, 11, 12, 14, 15, 16] rfl (by kernel_rfl) (h175) ?_
  repeat (first | (refine rowK_step2 rfl rfl (fun K hK => ?_); go_wp2) | (refine rowK_step rfl (fun K hK => ?_); go_simp; refine hK _ ?_; clear hK K))
  refine rowK_nil ⟨fun w' hw' => ?_, ?_⟩
  · rw [HL176.out] at hw'
    have g185 := hw'.nth 7 rfl
    have g186 := hw'.nth 6 rfl
    have g187 := hw'.nth 5 rfl
    have g188 := hw'.nth 0 rfl
    have g189 := hw'.nth 2 rfl
    have g190 := hw'.nth 11 rfl
    have g191 := hw'.nth 1 rfl
    clear f178 f179 f180 f181 f182 f183 f184
    repeat (first | (refine rowWp_step2 rfl rfl (fun K hK => ?_); go_wp2) | (refine rowWp_step rfl (fun K hK => ?_); go_simp; refine hK _ ?_; clear hK K))
    exact rowWp_nil rfl
  clear f178 f179 f180 f181 f182 f183 f184
  refine drawn_next 2 (fuel := 10) rfl (by kernel_rfl) ?_
  intro K hK
  go_wp2_with fail
  refine (mul_f Hc48.out Hc51.out).mono ?_
  rintro e w192 ⟨c194, rfl, k195, F193⟩
  have nc194 := k195.len
  have Hc194 := Lib.hid k195
  clear k195
  have h197 := (h174).call F193
  clear h174
  have h196 := (h175).call F193
  clear F193 h175
  simp only []
  go_wp2
  refine ⟨h196, ?_⟩
  refine drawn_next 7 (fuel := 9) rfl (by kernel_rfl) ?_
  intro K hK
  go_wp2_with fail
  refine (mul_f Hc165.out Hc79.out).mono ?_
  rintro e w198 ⟨c200, rfl, k201, F199⟩
  have nc200 := k201.len
  have Hc200 := Lib.hid k201
  clear k201
  have h203 := (h197).call F199
  clear h197
  have h202 := (h196).call F199
  clear F199 h196
  simp only []
  go_wp2
  refine ⟨h202, ?_⟩
  refine drawn_next 8 (fuel := 8) rfl (by kernel_rfl) ?_
  intro K hK
  go_wp2_with fail
  refine (add_f Hc48.out Hc200.out).mono ?_
  rintro e w204 ⟨c206, rfl, k207, F205⟩
  have nc206 := k207.len
  have Hc206 := Lib.hid k207
  clear k207
  have h209 := (h203).call F205
  clear h203
  have h208 := (h202).call F205
  clear F205 h202
  simp only []
  go_wp2
  refine ⟨h208, ?_⟩
  refine drawn_next 9 (fuel := 7) rfl (by kernel_rfl) ?_
  intro K hK
  go_wp2_with fail
  refine (mul_f Hc79.out Hc206.out).mono ?_
  rintro e w210 ⟨c212, rfl, k213, F211⟩
  have nc212 := k213.len
  have Hc212 := Lib.hid k213
  clear k213
  have h215 := (h209).call F211
  clear h209
  have h214 := (h208).call F211
  clear F211 h208
  simp only []
  go_wp2
  refine ⟨h214, ?_⟩
  refine drawn_reads (fuel := 6) [10] rfl (by kernel_rfl) (h214) ?_
  repeat (first | (refine rowK_step2 rfl rfl (fun K hK => ?_); go_wp2) | (refine rowK_step rfl (fun K hK => ?_); go_simp; refine hK _ ?_; clear hK K))
  refine rowK_nil ⟨fun w' hw' => ?_, ?_⟩
  · skip
    repeat (first | (refine rowWp_step2 rfl rfl (fun K hK => ?_); go_wp2) | (refine rowWp_step rfl (fun K hK => ?_); go_simp; refine hK _ ?_; clear hK K))
    exact rowWp_nil rfl
  refine drawn_next 13 (fuel := 5) rfl (by kernel_rfl) ?_
  intro K hK
  go_wp2_with fail
  refine (mul_f Hc137.out Hc137.out).mono ?_
  rintro e w216 ⟨c218, rfl, k219, F217⟩
  have nc218 := k219.len
  have Hc218 := Lib.hid k219
  clear k219
  have h221 := (h215).call F217
  clear h215
  have h220 := (h214).call F217
  clear F217 h214
  simp only []
  go_wp2
  refine ⟨h220, ?_⟩
  refine drawn_next 17 (fuel := 4) rfl (by kernel_rfl) ?_
  intro K hK
  go_wp2_with fail
  refine (mul_f Hc140.out Hc140.out).mono ?_
  rintro e w222 ⟨c224, rfl, k225, F223⟩
  have nc224 := k225.len
  have Hc224 := Lib.hid k225
  clear k225
  have h227 := (h221).call F223
  clear h221
  have h226 := (h220).call F223
  clear F223 h220
  simp only []
  go_wp2
  refine ⟨h226, ?_⟩
  refine drawn_next 18 (fuel := 3) rfl (by kernel_rfl) ?_
  intro K hK
  go_wp2_with fail
  refine (mul_f Ht.out Hc224.out).mono ?_
  rintro e w228 ⟨c230, rfl, k231, F229⟩
  have nc230 := k231.len
  have Hc230 := Lib.hid k231
  clear k231
  have h233 := (h227).call F229
  clear h227
  have h232 := (h226).call F229
  clear F229 h226
  simp only []
  go_wp2
  refine ⟨h232, ?_⟩
  refine drawn_reads (fuel := 2) [19] rfl (by kernel_rfl) (h232) ?_
  repeat (first | (refine rowK_step2 rfl rfl (fun K hK => ?_); go_wp2) | (refine rowK_step rfl (fun K hK => ?_); go_simp; refine hK _ ?_; clear hK K))
  refine rowK_nil ⟨fun w' hw' => ?_, ?_⟩
  · skip
    repeat (first | (refine rowWp_step2 rfl rfl (fun K hK => ?_); go_wp2) | (refine rowWp_step rfl (fun K hK => ?_); go_simp; refine hK _ ?_; clear hK K))
    exact rowWp_nil rfl
  refine drawn_next 20 (fuel := 1) rfl (by kernel_rfl) ?_
  intro K hK
  have f234 := h233.nth 11 rfl
  have t235 := h233.lt 11 rfl
  go_wp2
  clear f234 t235
  have h236 : Own w [(bk170, .cells (ints .u64 c165) 28), (bk147, .cells (ints .u64 c140) 28), (bk143, .cells (ints .u64 c137) 28), (bk112, .cells (ints .u64 c105) 28), (bk108, .cells (ints .u64 c99) 28), (bk84, .cells (ints .u64 c79) 28), (bk58, .cells (ints .u64 c51) 28), (bk54, .cells (ints .u64 c48) 28), (bk23, .cells (ints .u64 c16) 28), (bk19, .cells (ints .u64 c13) 28), (bk5, .cells (ints .u64 (List.replicate 10 0)) 88), (bk4, .cells (ints .u64 (c194 ++ c212)) 88), (bk3, .cells (ints .u64 t) 28), (bk2, .cells (ints .u64 (bx ++ bz)) 88), (bk1, .cells (ints .u64 (ax ++ az)) 88)] _ := h233.set 11 (.cells (ints .u64 (c194 ++ c212)) 88) rfl
  clear h233
  have h237 : Own w L176 _ := Own.cast HL176.out ((h236.drop 11))
  clear h232
  refine ⟨h237, ?_⟩
  obtain ⟨L238, hL238⟩ : ∃ L : List (Nat × Obj), L = [(bk170, .cells (ints .u64 c165) 28), (bk147, .cells (ints .u64 c140) 28), (bk143, .cells (ints .u64 c137) 28), (bk112, .cells (ints .u64 c105) 28), (bk108, .cells (ints .u64 c99) 28), (bk84, .cells (ints .u64 c79) 28), (bk58, .cells (ints .u64 c51) 28), (bk54, .cells (ints .u64 c48) 28), (bk23, .cells (ints .u64 c16) 28), (bk19, .cells (ints .u64 c13) 28), (bk5, .cells (ints .u64 (List.replicate 10 0)) 88), (bk4, .cells (ints .u64 (c194 ++ c212)) 88), (bk3, .cells (ints .u64 t) 28), (bk2, .cells (ints .u64 (bx ++ bz)) 88), (bk1, .cells (ints .u64 (ax ++ az)) 88)] := ⟨_, rfl⟩
  rw [← hL238] at h236
  have HL238 := Lib.hid hL238
  clear hL238
  refine drawn_end (ol := [_]) rfl (by kernel_rfl) ?_
  intro K hK
  have s239 := h236
  rw [HL238.out] at s239
  have f240 := s239.nth 10 rfl
  have t241 := s239.lt 10 rfl
  clear s239
  have s242 := h236
  rw [HL238.out] at s242
  go_wp2_with fail
  clear f240 t241
  refine Own.named (Q := fun X => bodyPost _ _ _ _ _ X) (show Own w [(bk170, .cells (ints .u64 c165) 28), (bk147, .cells (ints .u64 c140) 28), (bk143, .cells (ints .u64 c137) 28), (bk112, .cells (ints .u64 c105) 28), (bk108, .cells (ints .u64 c99) 28), (bk84, .cells (ints .u64 c79) 28), (bk58, .cells (ints .u64 c51) 28), (bk54, .cells (ints .u64 c48) 28), (bk23, .cells (ints .u64 c16) 28), (bk19, .cells (ints .u64 c13) 28), (bk5, .cells (ints .u64 (c218 ++ c230)) 88), (bk4, .cells (ints .u64 (c194 ++ c212)) 88), (bk3, .cells (ints .u64 t) 28), (bk2, .cells (ints .u64 (bx ++ bz)) 88), (bk1, .cells (ints .u64 (ax ++ az)) 88)] _ from (s242.set 10 (.cells (ints .u64 (c218 ++ c230)) 88) rfl)) ?_
  intro V244 h243
  clear s242 h236
  obtain ⟨L245, hL245⟩ : ∃ L : List (Nat × Obj), L = [(bk170, .cells (ints .u64 c165) 28), (bk147, .cells (ints .u64 c140) 28), (bk143, .cells (ints .u64 c137) 28), (bk112, .cells (ints .u64 c105) 28), (bk108, .cells (ints .u64 c99) 28), (bk84, .cells (ints .u64 c79) 28), (bk58, .cells (ints .u64 c51) 28), (bk54, .cells (ints .u64 c48) 28), (bk23, .cells (ints .u64 c16) 28), (bk19, .cells (ints .u64 c13) 28), (bk5, .cells (ints .u64 (c218 ++ c230)) 88), (bk4, .cells (ints .u64 (c194 ++ c212)) 88), (bk3, .cells (ints .u64 t) 28), (bk2, .cells (ints .u64 (bx ++ bz)) 88), (bk1, .cells (ints .u64 (ax ++ az)) 88)] := ⟨_, rfl⟩
  rw [← hL245] at h243
  have HL245 := Lib.hid hL245
  clear hL245
  have s246 := h243
  rw [HL245.out] at s246
  refine ret_cell2 rfl rfl rfl rfl ?_
  refine cellRet_of (s246.nth 11 rfl) (aggB_ints (by rw [List.length_append, nc194, nc212]) (by kernel_rfl)) ?_
  refine cellRet_of (s246.nth 10 rfl) (aggB_ints (by rw [List.length_append, nc218, nc230]) (by kernel_rfl)) ?_
  exact ⟨c194, c212, c218, c230, rfl, Hc194.out, Hc212.out, Hc218.out, Hc230.out, s246.fr⟩
end
end Go.Proofs.Ytakhmmnklkckpaa
