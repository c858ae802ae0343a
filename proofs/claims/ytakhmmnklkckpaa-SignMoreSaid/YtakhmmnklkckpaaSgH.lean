/- Signatures: the code's Verify. -/
import Derived.Test.YtakhmmnklkckpaaSgG
namespace Go.Proofs.Ytakhmmnklkckpaa
open Go.RowKit Go.Dr
section
variable {w : World}
set_option maxRecDepth 100000 in
set_option maxHeartbeats 8000000 in
theorem verify_core {B t sig r s k E : List Int} {p : Option Addr} {n cap : Nat} {A bs M Ka : Pt} {ok rt : Bool} (lB : B.length = 32) (yB : Byt B) (lsig : sig.length = 64) (ysig : Byt sig) (St : Sl .u8 w p n cap t) (ht : Byt t) (hn : n ≤ 5000)
    (hA : decPt B = A) (hok : decOk B = ok) (hr : sig.take 32 = r) (hs : sig.drop 32 = s) (hrt : decide (scB s = s) = rt) (hk : hashB (r ++ B ++ t) = k) (hbs : bsP = bs) (hM : mulP dC (numB s) bs = M) (hKa : mulP dC (numB k) A = Ka) (hE : encP (pad dC M (pn Ka)) = E) :
    Calls Try.prog 63 #[.agg (ints .u8 B), .slice p n cap, .agg (ints .u8 sig)] w fun e w' => e = .returned (.bool (ok && (rt && decide (E = r)))) ∧ Fr [] w w' := by
  have lr : r.length = 32 := by rw [← hr, List.length_take, lsig]; rfl
  have ls : s.length = 32 := by rw [← hs, List.length_drop, lsig]
  have lk : k.length = 32 := by rw [← hk]; exact length_hashB _
  have lE : E.length = 32 := by rw [← hE]; exact length_encP _
  have yr : Byt r := by rw [← hr]; exact byt_take ysig 32
  have ys : Byt s := by rw [← hs]; exact byt_drop ysig 32
  have yk : Byt k := by rw [← hk]; exact byt_hashB _
  have x1 : (ints .u8 sig).extract 0 32 = ints .u8 r := by rw [← hr]; simp [ints]
  have x2 : (ints .u8 sig).extract 32 64 = ints .u8 s := by rw [← hs]; apply Array.ext'; rw [Array.toList_extract, toList_ints, toList_ints, List.extract_eq_take_drop, List.map_drop, List.take_of_length_le (by rw [List.length_drop, List.length_map, lsig]; omega)]
  have HSt := Lib.hid St
  have HT := Lib.hid ht
  have YB := Lib.hid yB
  have Yr := Lib.hid yr
  have Ys := Lib.hid ys
  have Yk := Lib.hid yk
  have HA := Lib.hid hA
  have HOK := Lib.hid hok
  have HRT := Lib.hid hrt
  have Hk := Lib.hid hk
  have HBS := Lib.hid hbs
  have HM := Lib.hid hM
  have HKa := Lib.hid hKa
  have HE := Lib.hid hE
  clear yB ysig St ht hA hok hr hs hrt hk hbs hM hKa hE yr ys yk
  go_enter Try.func63, Try.ntmps63
  go_wp2_with fail
  have hO : OwB w [(w.heap.size + 1, .cells (ints .u8 sig) 69), (w.heap.size, .cells (ints .u8 B) 22)] _ := ((OwB.start w).allocN (.cells (ints .u8 B) 22) w.heap.size rfl).allocN (.cells (ints .u8 sig) 69) (w.heap.size + 1) (by simp)
  refine (cdec_n HA.out HOK.out lB YB.out).mono ?_
  rintro e w1 ⟨x, y, z, t', s', rfl, kk, F⟩
  have h1 := hO.call F
  have nx := kk.nx
  have ny := kk.ny
  have nz := kk.nz
  have nt := kk.nt
  have HKK := Lib.hid kk
  clear kk F hO
  simp only []
  generalize w.heap.size + 1 = b5 at h1 ⊢
  generalize w.heap.size = b3 at h1 ⊢
  have h2 := h1.allocN (.cells (ptC x y z t' s') 49) w1.heap.size rfl
  have h3 := h2.allocN (.cells (ints .u8 (zs 32)) 22) (w1.heap.size + 1) (by simp)
  have h4 := h3.allocN (.cells (ints .u8 (zs 32)) 22) (w1.heap.size + 2) (by simp)
  go_upto_region 3 with (fail)
  refine OwB.named (Q := fun X => Code.wp _ _ _ _ X) h4 ?_
  intro V3 h5
  generalize w1.heap.size + 2 = b10 at h5 ⊢
  generalize w1.heap.size + 1 = b9 at h5 ⊢
  generalize w1.heap.size = b7 at h5 ⊢
  clear h1 h2 h3 h4
  have f0 := h5.nth 0 rfl
  have f1 := h5.nth 1 rfl
  have f3 := h5.nth 3 rfl
  have t0 := h5.lt 0 rfl
  have t1 := h5.lt 1 rfl
  have t3 := h5.lt 3 rfl
  have e01 := h5.ne 0 1 rfl rfl (by decide)
  have e03 := h5.ne 0 3 rfl rfl (by decide)
  have e13 := h5.ne 1 3 rfl rfl (by decide)
  have e10 := e01.symm
  have e30 := e03.symm
  have e31 := e13.symm
  have H5 := Lib.hid h5
  clear h5
  refine drawn_head 2 (by kernel_rfl) rfl rfl (by kernel_rfl) ?_
  change rowK _ _ _ [0, 1] _ _
  repeat (refine rowK_step2 rfl rfl (fun K hK => ?_); go_wp2)
  refine rowK_nil ?_
  intro K hK
  go_upto_region 4 with (fail)
  refine drawn_head 2 (by kernel_rfl) rfl rfl (by kernel_rfl) ?_
  change rowK _ _ _ [0, 1] _ _
  repeat (refine rowK_step2 rfl rfl (fun K hK => ?_); go_wp2)
  refine rowK_nil ?_
  intro K hK
  go_upto_region 5 with (fail)
  refine OwB.named (Q := fun X => Code.wp _ _ _ _ X) (show OwB w [(b10, .cells (ints .u8 r) 22), (b9, .cells (ints .u8 s) 22), (b7, .cells (ptC x y z t' s') 49), (b5, .cells (ints .u8 sig) 69), (b3, .cells (ints .u8 B) 22)] _ from ((H5.out.set 0 (.cells (ints .u8 r) 22) rfl).set 1 (.cells (ints .u8 s) 22) rfl).drew.drew) ?_
  intro V5 h6
  clear f0 f1 f3 t0 t1 t3 e01 e03 e13 e10 e30 e31 H5 x1 x2
  cases ok with
  | false =>
    have H6 := Lib.hid h6
    clear h6
    go_wp2_with fail
    go_ret
    exact ⟨rfl, H6.out.fr⟩
  | true =>
    have f1 := h6.nth 1 rfl
    have t1 := h6.lt 1 rfl
    go_wp2_with fail
    refine (right_f ls Ys.out).mono ?_
    rintro e w6 ⟨rfl, F⟩
    rw [HRT.out]
    have h7 := h6.call F
    clear F h6 f1 t1
    simp only []
    cases rt with
    | false =>
      have H7 := Lib.hid h7
      clear h7
      go_wp2_with fail
      go_ret
      exact ⟨rfl, H7.out.fr⟩
    | true =>
      go_upto_region 7 with (fail)
      obtain ⟨L5, hL5⟩ : ∃ L : List (Nat × Obj), L = [(b10, .cells (ints .u8 r) 22), (b9, .cells (ints .u8 s) 22), (b7, .cells (ptC x y z t' s') 49), (b5, .cells (ints .u8 sig) 69), (b3, .cells (ints .u8 B) 22)] := ⟨_, rfl⟩
      rw [← hL5] at h7
      have HL5 := Lib.hid hL5
      clear hL5
      refine drawn_begin 6 (OwB w L5) (by kernel_rfl) ?_
      refine OwB.named (Q := fun X => Go.Dr.wpAnyS Try.prog .any _ _ _ _ _ _ _ X) h7.drew ?_
      intro V6 h6
      clear h7
      refine drawn_reads (fuel := 4) [0, 1, 2] rfl (by kernel_rfl) h6 ?_
      repeat (first | (refine rowK_step2 rfl rfl (fun K hK => ?_); go_wp2) | (refine rowK_step rfl (fun K hK => ?_); go_simp; refine hK _ ?_; clear hK K))
      refine rowK_nil ⟨fun w' hw' => ?_, ?_⟩
      · repeat (first | (refine rowWp_step2 rfl rfl (fun K hK => ?_); go_wp2) | (refine rowWp_step rfl (fun K hK => ?_); go_simp; refine hK _ ?_; clear hK K))
        exact rowWp_nil rfl
      have s1 := HL5.out ▸ h6
      have hSR := Lib.hid (Sl.ofInts (k := .u8) (off := 0) (n := 32) (cap := 32) (l := r) (s1.nth 0 rfl) (by omega) (by rw [List.drop_zero, List.take_of_length_le (by omega)]) (Nat.le_refl 32))
      have hSB := Lib.hid (Sl.ofInts (k := .u8) (off := 0) (n := 32) (cap := 32) (l := B) (s1.nth 4 rfl) (by omega) (by rw [List.drop_zero, List.take_of_length_le (by omega)]) (Nat.le_refl 32))
      have hST := Lib.hid (HSt.out.fr0 h6.fr)
      clear s1
      obtain ⟨evs, hevs⟩ : ∃ evs : List Ev, evs = [evRow 3 33 3 (slc [(some ⟨b10, 0, none⟩, 32, 32), (some ⟨b3, 0, none⟩, 32, 32), (p, n, cap)]) 68, evVal 4 34 (.agg (ints .u8 k)), evRoom 5 11 (ints .u8 (zs 32)) 22] := ⟨_, rfl⟩
      have ok : Ev.ok evs := by
        rw [hevs]
        refine Ev.ok.of (by simp [evRow, evVal, evRoom]) (by simp [evRow, evVal, evRoom]) fun e he => ?_
        simp only [List.mem_cons, List.not_mem_nil, or_false] at he
        rcases he with rfl | rfl | rfl
        · exact evRow_still _ _ _ _ _
        · exact evVal_still _ _ _
        · exact evRoom_still _ _ _ _
      refine drawn_inv2 6 (N := 6) (rest := 1) [33, 34, 11] (fun L s w => Ev.Inv evs [0, 1, 2] V6 L s w) (fun _ => undef) 3 (by kernel_rfl) (fun L s w h => ?_) (by kernel_rfl) ?_ ?_ ?_
      · exact h6.call h.fr
      · refine Ev.Inv.start ?_ ?_
        · intro i hi; simp at hi; rcases hi with rfl | rfl | rfl <;> rfl
        · rw [hevs]; intro i hi; simp [evRow, evVal, evRoom] at hi; rcases hi with rfl | rfl | rfl <;> rfl
      · intro i o L s3 w3 ho hi hL hd h K hK
        rcases (show i = 0 ∨ i = 1 ∨ i = 2 ∨ i = 3 ∨ i = 4 ∨ i = 5 by omega) with rfl | rfl | rfl | rfl | rfl | rfl
        · rw [h.row 0 (by simp)] at hL; cases hL
        · rw [h.row 1 (by simp)] at hL; cases hL
        · rw [h.row 2 (by simp)] at hL; cases hL
        · injection (show some _ = some o from ho) with ho; subst ho
          have hh := h.rowMade ok 3 33 3 (slc [(some ⟨b10, 0, none⟩, 32, 32), (some ⟨b3, 0, none⟩, 32, 32), (p, n, cap)]) 68 (by rw [hevs]; simp)
          simp only [fill]
          refine wpList_bs (t := 115) (m := 3) (v := .slice (some ⟨w3.heap.size, 0, none⟩) 3 3) (w' := w3.alloc (.cells (slc [(some ⟨b10, 0, none⟩, 32, 32), (some ⟨b3, 0, none⟩, 32, 32), (p, n, cap)]) 68)) rfl rfl (by kernel_rfl) ?_
          go_wp2
          exact ⟨_, by kernel_rfl, hh⟩
        · injection (show some _ = some o from ho) with ho; subst ho
          have l3 : L 3 = true := after_on hd (by kernel_rfl)
          obtain ⟨⟨bb, hv, g⟩, _⟩ := h.ev (evRow 3 33 3 (slc [(some ⟨b10, 0, none⟩, 32, 32), (some ⟨b3, 0, none⟩, 32, 32), (p, n, cap)]) 68) (by rw [hevs]; simp) l3
          have hv2 : s3 33 = .slice (some ⟨bb, 0, none⟩) 3 3 := hv
          have ct : Calls Try.prog 92 #[s3 33] w3 (fun e w' => e = .returned (.agg (ints .u8 k)) ∧ Fr [] w3 w') := by
            rw [hv2]
            exact hash3_f g (hSR.out.fr0 h.fr) (hSB.out.fr0 h.fr) (hST.out.fr0 h.fr) Yr.out YB.out HT.out (by have := HSt.out.len; omega) Hk.out
          clear hv hv2 g
          simp only [fill]
          go_wp2_with fail
          refine ct.mono ?_
          rintro e w4 ⟨rfl, F⟩
          have hh := h.val ok 4 34 (.agg (ints .u8 k)) (by rw [hevs]; simp) F
          clear F
          simp only []
          go_wp2
          exact ⟨_, by kernel_rfl, hh⟩
        · injection (show some _ = some o from ho) with ho; subst ho
          have hh := h.room ok 5 11 (ints .u8 (zs 32)) 22 (by rw [hevs]; simp)
          simp only [fill]
          go_wp2
          exact ⟨_, by kernel_rfl, hh⟩
      · intro s3 w3 h
        obtain ⟨v34, _⟩ := h.ev (evVal 4 34 (.agg (ints .u8 k))) (by rw [hevs]; simp) rfl
        obtain ⟨⟨r11, v11, g11⟩, n11⟩ := h.ev (evRoom 5 11 (ints .u8 (zs 32)) 22) (by rw [hevs]; simp) rfl
        rw [v11] at n11
        simp only [evRoom, ptrOwn, List.mem_singleton, forall_eq] at n11
        have h7 := (h6.call h.fr).room g11 (h6.fresh n11.1) (Nat.le_trans h6.fr.size n11.1)
        rw [HL5.out] at h7
        have H7 := Lib.hid h7
        have V34 := Lib.hid (show s3 34 = .agg (ints .u8 k) from v34)
        have V11 := Lib.hid (show s3 11 = _ from v11)
        clear h ok hevs v34 v11 n11 g11 h6 h7 hSR hSB hST
        refine drawn_end (ol := [_]) rfl (by kernel_rfl) ?_
        intro K hK
        simp only [fill]
        rw [V34.out, V11.out]
        have f0 := H7.out.nth 0 rfl
        have t0 := H7.out.lt 0 rfl
        generalize s3 33 = z33
        go_upto_region 8 with (fail)
        refine OwB.named (Q := fun X => Code.wp _ _ _ _ X) (show OwB w [(r11, .cells (ints .u8 k) 22), (b10, .cells (ints .u8 r) 22), (b9, .cells (ints .u8 s) 22), (b7, .cells (ptC x y z t' s') 49), (b5, .cells (ints .u8 sig) 69), (b3, .cells (ints .u8 B) 22)] _ from H7.out.set 0 (.cells (ints .u8 k) 22) rfl) ?_
        intro V7 h7
        clear f0 t0 H7 V34 V11
        obtain ⟨L7, hL7⟩ : ∃ L : List (Nat × Obj), L = [(r11, .cells (ints .u8 k) 22), (b10, .cells (ints .u8 r) 22), (b9, .cells (ints .u8 s) 22), (b7, .cells (ptC x y z t' s') 49), (b5, .cells (ints .u8 sig) 69), (b3, .cells (ints .u8 B) 22)] := ⟨_, rfl⟩
        rw [← hL7] at h7
        have HL7 := Lib.hid hL7
        clear hL7
        refine drawn_begin 11 (OwB w L7) (by kernel_rfl) ?_
        refine OwB.named (Q := fun X => Go.Dr.wpAnyS Try.prog .any _ _ _ _ _ _ _ X) h7.drew ?_
        intro V8 h8
        clear h7
        have s1 := HL7.out ▸ h8
        have f0 := s1.nth 0 rfl
        have f1 := s1.nth 1 rfl
        have f2 := s1.nth 2 rfl
        have f3 := s1.nth 3 rfl
        refine drawn_reads (fuel := 8) [0, 3, 4, 9] rfl (by kernel_rfl) h8 ?_
        repeat (first | (refine rowK_step2 rfl rfl (fun K hK => ?_); go_wp2) | (refine rowK_step rfl (fun K hK => ?_); go_simp; refine hK _ ?_; clear hK K))
        refine rowK_nil ⟨fun w' hw' => ?_, ?_⟩
        · have s2 := HL7.out ▸ hw'
          have g0 := s2.nth 0 rfl
          have g1 := s2.nth 1 rfl
          have g2 := s2.nth 2 rfl
          have g3 := s2.nth 3 rfl
          clear f0 f1 f2 f3 s1
          repeat (first | (refine rowWp_step2 rfl rfl (fun K hK => ?_); go_wp2) | (refine rowWp_step rfl (fun K hK => ?_); go_simp; refine hK _ ?_; clear hK K))
          exact rowWp_nil rfl
        clear f0 f1 f2 f3 s1
        refine drawn_next 1 (fuel := 7) rfl (by kernel_rfl) ?_
        intro K hK
        go_wp2_with fail
        refine (cbase_n HBS.out).mono ?_
        rintro e w9 ⟨x1, y1, z1, t1, s1, rfl, kk, F⟩
        have h9 := h8.call F
        have nx1 := kk.nx
        have ny1 := kk.ny
        have nz1 := kk.nz
        have nt1 := kk.nt
        have P1 := Lib.hid kk
        clear kk
        clear F h8
        simp only []
        go_wp2
        refine ⟨h9, ?_⟩
        refine drawn_next 2 (fuel := 6) rfl (by kernel_rfl) ?_
        intro K hK
        go_wp2_with fail
        refine (cmulP_n HM.out ls Ys.out P1.out).mono ?_
        rintro e w10 ⟨x2, y2, z2, t2, s2, rfl, kk, F⟩
        have h10 := h9.call F
        have nx2 := kk.nx
        have ny2 := kk.ny
        have nz2 := kk.nz
        have nt2 := kk.nt
        have P2 := Lib.hid kk
        clear kk
        clear F h9
        simp only []
        go_wp2
        refine ⟨h10, ?_⟩
        refine drawn_next 5 (fuel := 5) rfl (by kernel_rfl) ?_
        intro K hK
        go_wp2_with fail
        refine (cmulP_n HKa.out lk Yk.out HKK.out).mono ?_
        rintro e w11 ⟨x3, y3, z3, t3, s3, rfl, kk, F⟩
        have h11 := h10.call F
        have nx3 := kk.nx
        have ny3 := kk.ny
        have nz3 := kk.nz
        have nt3 := kk.nt
        have P3 := Lib.hid kk
        clear kk
        clear F h10
        simp only []
        go_wp2
        refine ⟨h11, ?_⟩
        refine drawn_next 6 (fuel := 4) rfl (by kernel_rfl) ?_
        intro K hK
        go_wp2_with fail
        refine (cneg_p P3.out).mono ?_
        rintro e w12 ⟨x4, y4, z4, t4, s4, rfl, kk, F⟩
        have h12 := h11.call F
        have nx4 := kk.nx
        have ny4 := kk.ny
        have nz4 := kk.nz
        have nt4 := kk.nt
        have P4 := Lib.hid kk
        clear kk
        clear F h11
        simp only []
        go_wp2
        refine ⟨h12, ?_⟩
        refine drawn_next 7 (fuel := 3) rfl (by kernel_rfl) ?_
        intro K hK
        go_wp2_with fail
        refine (cadd_p P2.out P4.out).mono ?_
        rintro e w13 ⟨x5, y5, z5, t5, s5, rfl, kk, F⟩
        have h13 := h12.call F
        have nx5 := kk.nx
        have ny5 := kk.ny
        have nz5 := kk.nz
        have nt5 := kk.nt
        have P5 := Lib.hid kk
        clear kk
        clear F h12
        simp only []
        go_wp2
        refine ⟨h13, ?_⟩
        refine drawn_next 8 (fuel := 2) rfl (by kernel_rfl) ?_
        intro K hK
        go_wp2_with fail
        refine (cenc_p HE.out P5.out).mono ?_
        rintro e w14 ⟨rfl, F⟩
        have h14 := h13.call F
        clear F h13
        simp only []
        go_wp2
        refine ⟨h14, ?_⟩
        have heq := eq22 E r lE lr
        refine drawn_reads (fuel := 1) [10] rfl (by kernel_rfl) h14 ?_
        repeat (first | (refine rowK_step2 rfl rfl (fun K hK => ?_); go_wp2) | (refine rowK_step rfl (fun K hK => ?_); go_simp; refine hK _ ?_; clear hK K))
        refine rowK_nil ⟨fun w' hw' => ?_, ?_⟩
        · repeat (first | (refine rowWp_step2 rfl rfl (fun K hK => ?_); go_wp2) | (refine rowWp_step rfl (fun K hK => ?_); go_simp; refine hK _ ?_; clear hK K))
          exact rowWp_nil rfl
        refine drawn_end (ol := [_]) rfl (by kernel_rfl) ?_
        intro K hK
        go_wp2_with fail
        go_ret
        exact ⟨by simp, h14.fr⟩
end
end Go.Proofs.Ytakhmmnklkckpaa
