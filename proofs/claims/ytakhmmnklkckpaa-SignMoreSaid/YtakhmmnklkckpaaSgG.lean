/- Signatures: the document's Sign. -/
import Derived.Test.YtakhmmnklkckpaaSgF
namespace Go.Proofs.Ytakhmmnklkckpaa
open Go.RowKit Go.Dr
theorem Sl_nil (w : World) : Sl .u8 w none 0 0 [] := ⟨rfl, Nat.le_refl 0, .inl rfl, fun _ => rfl, by simp⟩
section
variable {w : World}
set_option maxRecDepth 100000 in
set_option maxHeartbeats 8000000 in
theorem dsign_core {S U C t r R A k s : List Int} {p : Option Addr} {n cap : Nat} (lS : S.length = 32) (hS : Byt S) (St : Sl .u8 w p n cap t) (ht : Byt t) (hn : n ≤ 5000)
    (hU : sumF S = U) (hC : clampB U = C) (hr : hashB (U.drop 32 ++ t) = r) (hR : baseB r = R) (hA : baseB C = A) (hk : hashB (R ++ A ++ t) = k) (hs : outF (w4 ((vB k * vB C + vB r) % oL)) = s) :
    Calls Try.prog 66 #[.agg (ints .u8 S), .slice p n cap] w fun e w' => e = .returned (.agg (ints .u8 (R ++ s))) ∧ Fr [] w w' := by
  have lU : U.length = 64 := by rw [← hU]; exact length_sumF _
  have lC : C.length = 32 := by rw [← hC]; exact length_clampB lU
  have lR : R.length = 32 := by rw [← hR]; exact length_baseB _
  have lA : A.length = 32 := by rw [← hA]; exact length_baseB _
  have lr : r.length = 32 := by rw [← hr]; exact length_hashB _
  have lk : k.length = 32 := by rw [← hk]; exact length_hashB _
  have ls : s.length = 32 := by rw [← hs]; exact length_outF _
  have HSt := Lib.hid St
  have HS := Lib.hid hS
  have HT := Lib.hid ht
  have HU := Lib.hid hU
  have HC := Lib.hid hC
  have Hr := Lib.hid hr
  have HR := Lib.hid hR
  have HA := Lib.hid hA
  have Hk := Lib.hid hk
  have Hs := Lib.hid hs
  clear St hS ht hU hC hr hR hA hk hs
  go_enter Try.func66, Try.ntmps66
  go_wp2_with fail
  have hO : OwB w [(w.heap.size + 1, .cells (ints .u8 (zs 64)) 69), (w.heap.size, .cells (ints .u8 S) 22)] _ := ((OwB.start w).allocN (.cells (ints .u8 S) 22) w.heap.size rfl).allocN (.cells (ints .u8 (zs 64)) 69) (w.heap.size + 1) (by simp)
  refine (parts_f lS HS.out).mono ?_
  rintro e w1 ⟨q, c, rfl, hq, F⟩
  rw [HU.out] at hq ⊢
  rw [HC.out]
  have h1 := hO.call F
  have HQ := Lib.hid hq
  clear hq F hO
  simp only []
  generalize w.heap.size + 1 = b4 at h1 ⊢
  generalize w.heap.size = b2 at h1 ⊢
  have h2 := Lib.hid (h1.allocN (.cells (ints .u8 C) 22) w1.heap.size rfl)
  have Fa : Fr [] w1 (w1.alloc (.cells (ints .u8 C) 22)) := (Fr.refl [] w1).alloc _
  have HQ2 := Lib.hid (HQ.out.fr0 Fa)
  clear h1 Fa HQ
  go_wp2_with fail
  refine (hash_d (C := []) (H := r) HQ2.out (HSt.out.fr0 h2.out.fr) (Sl_nil _) (by rw [List.append_nil]; exact byt_app (byt_drop (HU.out ▸ byt_sumF S) 32) HT.out) (by rw [List.append_nil, List.length_append, List.length_drop]; have := HSt.out.len; omega) (by rw [List.append_nil]; exact Hr.out)).mono ?_
  rintro e w2 ⟨rfl, F⟩
  have h3 := h2.out.call F
  clear F h2 HQ2
  simp only []
  generalize w1.heap.size = r5 at h3 ⊢
  have h4 := Lib.hid (h3.allocN (.cells (ints .u8 r) 22) w2.heap.size rfl)
  clear h3
  go_wp2_with fail
  refine (dbaseB_f lr (Hr.out ▸ byt_hashB _)).mono ?_
  rintro e w3 ⟨rfl, F⟩
  rw [HR.out]
  have h5 := h4.out.call F
  clear F h4
  simp only []
  generalize w2.heap.size = r7 at h5 ⊢
  have h6 := Lib.hid (h5.allocN (.cells (ints .u8 R) 22) w3.heap.size rfl)
  have f5 := h6.out.nth 2 rfl
  have t5 := h6.out.lt 2 rfl
  have t5' := h5.lt 1 rfl
  have f5' := h5.nth 1 rfl
  clear h5
  go_wp2_with fail
  clear f5 t5 f5' t5'
  refine (dbaseB_f lC (HC.out ▸ byt_clampB (HU.out ▸ byt_sumF _))).mono ?_
  rintro e w4 ⟨rfl, F⟩
  rw [HA.out]
  have h7 := h6.out.call F
  clear F h6
  simp only []
  generalize w3.heap.size = r8 at h7 ⊢
  have h8 := h7.allocN (.cells (ints .u8 A) 22) w4.heap.size rfl
  go_upto_region 5 with (fail)
  refine OwB.named (Q := fun X => Code.wp _ _ _ _ X) h8 ?_
  intro V5 h5
  generalize w4.heap.size = r9 at h5 ⊢
  clear h7 h8
  obtain ⟨L5, hL5⟩ : ∃ L : List (Nat × Obj), L = [(r9, .cells (ints .u8 A) 22), (r8, .cells (ints .u8 R) 22), (r7, .cells (ints .u8 r) 22), (r5, .cells (ints .u8 C) 22), (b4, .cells (ints .u8 (zs 64)) 69), (b2, .cells (ints .u8 S) 22)] := ⟨_, rfl⟩
  rw [← hL5] at h5
  have HL5 := Lib.hid hL5
  clear hL5
  refine drawn_begin 5 (OwB w L5) (by kernel_rfl) ?_
  refine OwB.named (Q := fun X => Go.Dr.wpAnyS Try.prog .any _ _ _ _ _ _ _ X) h5.drew ?_
  intro V6 h6
  clear h5
  refine drawn_reads (fuel := 3) [0, 1, 2] rfl (by kernel_rfl) h6 ?_
  repeat (first | (refine rowK_step2 rfl rfl (fun K hK => ?_); go_wp2) | (refine rowK_step rfl (fun K hK => ?_); go_simp; refine hK _ ?_; clear hK K))
  refine rowK_nil ⟨fun w' hw' => ?_, ?_⟩
  · repeat (first | (refine rowWp_step2 rfl rfl (fun K hK => ?_); go_wp2) | (refine rowWp_step rfl (fun K hK => ?_); go_simp; refine hK _ ?_; clear hK K))
    exact rowWp_nil rfl
  have s1 := HL5.out ▸ h6
  have hSR := Lib.hid (Sl.ofInts (k := .u8) (off := 0) (n := 32) (cap := 32) (l := R) (s1.nth 1 rfl) (by omega) (by rw [List.drop_zero, List.take_of_length_le (by omega)]) (Nat.le_refl 32))
  have hSA := Lib.hid (Sl.ofInts (k := .u8) (off := 0) (n := 32) (cap := 32) (l := A) (s1.nth 0 rfl) (by omega) (by rw [List.drop_zero, List.take_of_length_le (by omega)]) (Nat.le_refl 32))
  have hST := Lib.hid (HSt.out.fr0 h6.fr)
  clear s1
  obtain ⟨evs, hevs⟩ : ∃ evs : List Ev, evs = [evVal 3 28 (.agg (ints .u8 k)), evRoom 4 10 (ints .u8 (zs 32)) 22] := ⟨_, rfl⟩
  have ok : Ev.ok evs := by
    rw [hevs]
    refine Ev.ok.of (by simp [evVal, evRoom]) (by simp [evVal, evRoom]) fun e he => ?_
    simp only [List.mem_cons, List.not_mem_nil, or_false] at he
    rcases he with rfl | rfl
    · exact evVal_still _ _ _
    · exact evRoom_still _ _ _ _
  refine drawn_inv2 5 (N := 5) (rest := 1) [28, 10] (fun L s w => Ev.Inv evs [0, 1, 2] V6 L s w) (fun _ => undef) 2 (by kernel_rfl) (fun L s w h => ?_) (by kernel_rfl) ?_ ?_ ?_
  · exact h6.call h.fr
  · refine Ev.Inv.start ?_ ?_
    · intro i hi; simp at hi; rcases hi with rfl | rfl | rfl <;> rfl
    · rw [hevs]; intro i hi; simp [evVal, evRoom] at hi; rcases hi with rfl | rfl <;> rfl
  · intro i o L s3 w3 ho hi hL hd h K hK
    rcases (show i = 0 ∨ i = 1 ∨ i = 2 ∨ i = 3 ∨ i = 4 by omega) with rfl | rfl | rfl | rfl | rfl
    · rw [h.row 0 (by simp)] at hL; cases hL
    · rw [h.row 1 (by simp)] at hL; cases hL
    · rw [h.row 2 (by simp)] at hL; cases hL
    · injection (show some _ = some o from ho) with ho; subst ho
      simp only [fill]
      go_wp2_with fail
      refine (hash_d (H := k) (hSR.out.fr0 h.fr) (hSA.out.fr0 h.fr) (hST.out.fr0 h.fr) (byt_app (byt_app (HR.out ▸ byt_baseB _) (HA.out ▸ byt_baseB _)) HT.out) (by rw [List.length_append, List.length_append]; have := HSt.out.len; omega) Hk.out).mono ?_
      rintro e w4 ⟨rfl, F⟩
      have hh := h.val ok 3 28 (.agg (ints .u8 k)) (by rw [hevs]; simp) F
      clear F
      simp only []
      go_wp2
      exact ⟨_, by kernel_rfl, hh⟩
    · injection (show some _ = some o from ho) with ho; subst ho
      have hh := h.room ok 4 10 (ints .u8 (zs 32)) 22 (by rw [hevs]; simp)
      simp only [fill]
      go_wp2
      exact ⟨_, by kernel_rfl, hh⟩
  intro s3 w3 h
  obtain ⟨v28, _⟩ := h.ev (evVal 3 28 (.agg (ints .u8 k))) (by rw [hevs]; simp) rfl
  obtain ⟨⟨r10, v10, g10⟩, n10⟩ := h.ev (evRoom 4 10 (ints .u8 (zs 32)) 22) (by rw [hevs]; simp) rfl
  rw [v10] at n10
  simp only [evRoom, ptrOwn, List.mem_singleton, forall_eq] at n10
  have h7 := (h6.call h.fr).room g10 (h6.fresh n10.1) (Nat.le_trans h6.fr.size n10.1)
  rw [HL5.out] at h7
  have H7 := Lib.hid h7
  have V28 := Lib.hid (show s3 28 = .agg (ints .u8 k) from v28)
  have V10 := Lib.hid (show s3 10 = _ from v10)
  clear h ok hevs v28 v10 n10 g10 h6 h7 hSR hSA hST
  refine drawn_end (ol := [_]) rfl (by kernel_rfl) ?_
  intro K hK
  simp only [fill]
  rw [V28.out, V10.out]
  have f0 := H7.out.nth 0 rfl
  have t0 := H7.out.lt 0 rfl
  go_upto_region 6 with (fail)
  refine OwB.named (Q := fun X => Code.wp _ _ _ _ X) (show OwB w [(r10, .cells (ints .u8 k) 22), (r9, .cells (ints .u8 A) 22), (r8, .cells (ints .u8 R) 22), (r7, .cells (ints .u8 r) 22), (r5, .cells (ints .u8 C) 22), (b4, .cells (ints .u8 (zs 64)) 69), (b2, .cells (ints .u8 S) 22)] _ from H7.out.set 0 (.cells (ints .u8 k) 22) rfl) ?_
  intro V7 h7
  clear f0 t0 H7 V28 V10
  have f0 := h7.nth 0 rfl
  have t0 := h7.lt 0 rfl
  have f3 := h7.nth 3 rfl
  have t3 := h7.lt 3 rfl
  have f4 := h7.nth 4 rfl
  have t4 := h7.lt 4 rfl
  go_wp2_with fail
  clear f0 t0 f3 t3 f4 t4
  refine (muladd_d lk lC lr (Hk.out ▸ byt_hashB _) (HC.out ▸ byt_clampB (HU.out ▸ byt_sumF _)) (Hr.out ▸ byt_hashB _)).mono ?_
  rintro e w4 ⟨rfl, F⟩
  rw [Hs.out]
  have h8 := h7.call F
  clear F h7
  simp only []
  have h9 := h8.allocN (.cells (ints .u8 s) 22) w4.heap.size rfl
  have h10 := h9.allocN (.cells (ints .u8 (zs 64)) 69) (w4.heap.size + 1) (by simp)
  go_upto_region 8 with (fail)
  refine OwB.named (Q := fun X => Code.wp _ _ _ _ X) h10 ?_
  intro V8 h9
  generalize w4.heap.size + 1 = b12 at h9 ⊢
  generalize w4.heap.size = r11 at h9 ⊢
  clear h8 h10
  have f0 := h9.nth 0 rfl
  have f1 := h9.nth 1 rfl
  have f2 := h9.nth 4 rfl
  have f6 := h9.nth 7 rfl
  have t0 := h9.lt 0 rfl
  have t1 := h9.lt 1 rfl
  have t2 := h9.lt 4 rfl
  have t6 := h9.lt 7 rfl
  have e01 := h9.ne 0 1 rfl rfl (by decide)
  have e02 := h9.ne 0 4 rfl rfl (by decide)
  have e06 := h9.ne 0 7 rfl rfl (by decide)
  have e10 := e01.symm
  have e20 := e02.symm
  have e60 := e06.symm
  have H9 := Lib.hid h9
  clear h9
  refine drawn_head 2 (by kernel_rfl) rfl rfl (by kernel_rfl) ?_
  change rowK _ _ _ [0, 1] _ _
  repeat (refine rowK_step2 rfl rfl (fun K hK => ?_); go_wp2)
  refine rowK_nil ?_
  intro K hK
  go_wp2
  refine drawn_head 2 (by kernel_rfl) rfl rfl (by kernel_rfl) ?_
  change rowK _ _ _ [0, 1] _ _
  repeat (refine rowK_step2 rfl rfl (fun K hK => ?_); go_wp2)
  refine rowK_nil ?_
  intro K hK
  go_wp2
  have el : lay (lay (zs 64) 0 R) 32 s = R ++ s := by
    have e1 : lay (zs 64) 0 R = R ++ zs 32 := by rw [lay, lR]; rfl
    rw [e1, lay, ls, List.take_append_of_le_length (by omega), List.take_of_length_le (by omega), List.drop_of_length_le (by rw [List.length_append, lR, length_zs]; omega), List.append_nil]
  rw [el]
  have lRs : (R ++ s).length = 64 := by rw [List.length_append, lR, ls]
  have hn2 := ((H9.out.set 0 (.cells (ints .u8 (R ++ s)) 69) rfl).set 7 (.cells (ints .u8 (R ++ s)) 69) rfl).drew.drew
  refine ret_cell rfl rfl rfl ?_
  refine cellRet_of (hn2.nth 7 rfl) (aggB_ints lRs (by kernel_rfl)) ?_
  exact ⟨rfl, hn2.fr⟩
end
end Go.Proofs.Ytakhmmnklkckpaa
