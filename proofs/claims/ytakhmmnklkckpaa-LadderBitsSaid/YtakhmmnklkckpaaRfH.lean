/- The document's numbers: Inv, Root. -/
import Derived.Test.YtakhmmnklkckpaaRfG
import Derived.Test.YtakhmmnklkckpaaFdG
namespace Go.Proofs.Ytakhmmnklkckpaa
open Go.RowKit Go.Dr

def lit1 (n : Int) : List Int := [n, 0, 0, 0, 0, 0, 0, 0, 0, 0, 0, 0, 0, 0, 0, 0]
section
variable {w : World}
theorem minus_lit2 : Calls Try.prog 69 #[nm pN, .agg (ints .i64 (lit1 2))] w fun e w' => e = .returned (nm pm2) ∧ Fr [] w w' := by
  have h := minus_any (w := w) pN 2 (by decide)
  rw [show nm 2 = .agg (ints .i64 (lit1 2)) from congrArg (fun l => Value.agg (ints .i64 l)) (show digs 2 = lit1 2 from by kernel_rfl), show pN - 2 = pm2 from by unfold pN pm2; omega] at h
  exact h
theorem minus_lit1 : Calls Try.prog 69 #[nm pN, .agg (ints .i64 (lit1 1))] w fun e w' => e = .returned (nm pm1) ∧ Fr [] w w' := by
  have h := minus_any (w := w) pN 1 (by decide)
  rw [show nm 1 = .agg (ints .i64 (lit1 1)) from congrArg (fun l => Value.agg (ints .i64 l)) (show digs 1 = lit1 1 from by kernel_rfl), show pN - 1 = pm1 from by unfold pN pm1; omega] at h
  exact h
set_option maxRecDepth 100000 in
theorem rinv_f (x : Fp) : Calls Try.prog 41 #[dF x] w fun e w' => e = .returned (dF (inv x)) ∧ Fr [] w w' := by
  have lx := length_digs x.val
  unfold dF
  go_enter Try.func41, Try.ntmps41
  go_wp2
  obtain ⟨V, hV⟩ : ∃ V, V = (w.alloc (.cells (ints .i64 (digs x.val)) 32)).alloc (.cells (ints .i64 (zs 16)) 32) := ⟨_, rfl⟩
  refine Eq.mp (congrArg (fun X => Code.wp _ _ _ _ X) hV) ?_
  have g0 : V.blk w.heap.size = some (.cells (ints .i64 (digs x.val)) 32) := by rw [hV]; go_simp
  have g1 : V.blk (w.heap.size + 1) = some (.cells (ints .i64 (zs 16)) 32) := by rw [hV]; go_simp
  have HF := Lib.hid (show Fr [] w V by rw [hV]; exact ((Fr.refl _ _).alloc _).alloc _)
  clear hV
  have hs : Has [(w.heap.size, .cells (ints .i64 (digs x.val)) 32), (w.heap.size + 1, .cells (ints .i64 (zs 16)) 32)] V := .cons g0 (.cons g1 (.nil _))
  obtain ⟨L, hL⟩ : ∃ L : List (Nat × Obj), L = [(w.heap.size, .cells (ints .i64 (digs x.val)) 32), (w.heap.size + 1, .cells (ints .i64 (zs 16)) 32)] := ⟨_, rfl⟩
  rw [← hL] at hs
  have HL := Lib.hid hL
  clear hL
  refine drawn_begin 5 (Has L) (by kernel_rfl) ?_
  refine drawn_reads (fuel := 4) [0, 2] rfl (by kernel_rfl) hs.drew ?_
  repeat (refine rowK_step2 rfl rfl (fun K hK => ?_); go_wp2)
  refine rowK_nil ⟨fun w' hw' => ?_, ?_⟩
  · rw [HL.out] at hw'
    have e1 := hw'.nth 0 rfl
    repeat (refine rowWp_step2 rfl rfl (fun K hK => ?_); go_wp2)
    exact rowWp_nil rfl
  refine drawn_next 1 (fuel := 3) rfl (by kernel_rfl) ?_
  intro K hK
  go_wp2_with fail
  refine prime_any.mono ?_
  rintro e wa ⟨rfl, FA⟩
  have sA := hs.drew.fr0 FA
  simp only []
  go_wp2
  refine ⟨sA, ?_⟩
  refine drawn_next 3 (fuel := 2) rfl (by kernel_rfl) ?_
  intro K hK
  go_wp2_with fail
  refine minus_lit2.mono ?_
  rintro e wb ⟨rfl, FB⟩
  have sB := sA.fr0 FB
  simp only []
  go_wp2
  refine ⟨sB, ?_⟩
  refine drawn_next 4 (fuel := 1) rfl (by kernel_rfl) ?_
  intro K hK
  go_wp2_with fail
  refine (rpower_f x pm2 (by decide)).mono ?_
  rintro e wc ⟨rfl, FC⟩
  have sC := sB.fr0 FC
  have HFC := Lib.hid ((((HF.out.drew).trans FA).trans FB).trans FC)
  have sC' := sC
  rw [HL.out] at sC'
  have d1 := sC'.nth 1 rfl
  have d1l := World.at_lt d1
  have hi := length_digs (pw x pm2).val
  clear FA FB FC sC' g0 g1 sA sB
  simp only []
  go_wp2
  refine ⟨sC, ?_⟩
  refine drawn_end rfl (by kernel_rfl) ?_
  intro K hK
  clear sC hs
  go_wp2
  refine ret_cell rfl rfl rfl ?_
  go_simp
  exact ⟨rfl, HFC.out.put _ _ (by omega)⟩
end
/-- May there be a root? -/
def eul (x : Fp) : Bool := decide (x ≠ 0) && decide (pw x pHalf ≠ 1)
theorem digs_eq (x y : Fp) : digs x.val = digs y.val ↔ x = y := by
  rw [digs_inj (lt16 (dF_lt x)) (lt16 (dF_lt y))]
  exact ⟨fun h => Fin.ext h, fun h => by rw [h]⟩
section
variable {w : World}
set_option maxRecDepth 100000 in
set_option maxHeartbeats 4000000 in
theorem rroot_walk (x : Fp) : Calls Try.prog 39 #[dF x] w fun e w' => e = .returned (.tuple #[dF (rootF x), .bool (rootOk x)]) ∧ Fr [] w w' := by
  have lx := length_digs x.val
  unfold dF
  go_enter Try.func39, Try.ntmps39
  go_wp2_with fail
  refine prime_any.mono ?_
  rintro e w1 ⟨rfl, F1⟩
  simp only []
  go_wp2_with fail
  refine minus_lit1.mono ?_
  rintro e w2 ⟨rfl, F2⟩
  have k0 := (F1.trans F2).get (b := w.heap.size) (o := .cells (ints .i64 (digs x.val)) 32) (by go_simp) (by simp)
  have k1 := (F1.trans F2).get (b := w.heap.size + 1) (o := .cells (ints .i64 (zs 16)) 32) (by go_simp; rfl) (by simp)
  have HF := Lib.hid (((((Fr.refl [] w).alloc _).alloc _).trans F1).trans F2)
  have n0 := World.at_lt k0
  have n1 := World.at_lt k1
  have lp := length_digs pm1
  clear F1 F2
  simp only []
  go_wp2
  obtain ⟨V, hV⟩ : ∃ V, V = w2.alloc (.cells (ints .i64 (digs pm1)) 32) := ⟨_, rfl⟩
  refine Eq.mp (congrArg (fun X => Code.wp _ _ _ _ X) hV) ?_
  have g0 : V.blk w.heap.size = some (.cells (ints .i64 (digs x.val)) 32) := by rw [hV, World.at_alloc_lt _ _ _ n0]; exact k0
  have g1 : V.blk (w.heap.size + 1) = some (.cells (ints .i64 (zs 16)) 32) := by rw [hV, World.at_alloc_lt _ _ _ n1]; exact k1
  have g2 : V.blk w2.heap.size = some (.cells (ints .i64 (digs pm1)) 32) := by rw [hV]; exact World.at_alloc_new _ _ _ rfl
  have HFV := Lib.hid (show Fr [] w V by rw [hV]; exact HF.out.alloc _)
  have hs : Has [(w.heap.size, .cells (ints .i64 (digs x.val)) 32), (w.heap.size + 1, .cells (ints .i64 (zs 16)) 32), (w2.heap.size, .cells (ints .i64 (digs pm1)) 32)] V := .cons g0 (.cons g1 (.cons g2 (.nil _)))
  obtain ⟨L, hL⟩ : ∃ L : List (Nat × Obj), L = [(w.heap.size, .cells (ints .i64 (digs x.val)) 32), (w.heap.size + 1, .cells (ints .i64 (zs 16)) 32), (w2.heap.size, .cells (ints .i64 (digs pm1)) 32)] := ⟨_, rfl⟩
  rw [← hL] at hs
  have HL := Lib.hid hL
  clear hL hV k0 k1
  go_cut [20] (fun v wc => v = .bool (eul x) ∧ Has L wc ∧ Hid (Fr [] w wc))
  case first =>
    by_cases hx : x = 0
    · have heq : (digs x.val == [0, 0, 0, 0, 0, 0, 0, 0, 0, 0, 0, 0, 0, 0, 0, 0]) = true := by
        rw [hx]; kernel_rfl
      have heul : eul x = false := by unfold eul; rw [decide_eq_false (fun h => h hx), Bool.false_and]
      have HEU := Lib.hid heul
      clear hx heul
      refine drawn_begin 11 (Has L) (by kernel_rfl) ?_
      refine drawn_reads (fuel := 0) [0, 1, 2, 3, 4, 5, 6, 7, 8, 9, 10] rfl (by kernel_rfl) hs.drew ?_
      iterate 4 (refine rowK_step2 rfl rfl (fun K hK => ?_); go_wp2)
      repeat (refine rowK_step rfl (fun K hK => ?_); go_simp; refine hK _ ?_; clear hK K)
      refine rowK_nil ⟨fun w' hw' => ?_, ?_⟩
      · rw [HL.out] at hw'
        have e1 := hw'.nth 0 rfl
        iterate 4 (refine rowWp_step2 rfl rfl (fun K hK => ?_); go_wp2)
        repeat (refine rowWp_step rfl (fun K hK => ?_); go_simp; refine hK _ ?_; clear hK K)
        exact rowWp_nil rfl
      refine drawn_end (ol := []) rfl (by kernel_rfl) ?_
      intro K hK
      go_wp2
      go_meet
      case rel => exact ⟨by rw [HEU.out], hs, HFV.out.drew⟩
    · have hne : (digs x.val == [0, 0, 0, 0, 0, 0, 0, 0, 0, 0, 0, 0, 0, 0, 0, 0]) = false := by
        rw [beq_dec, show ([0, 0, 0, 0, 0, 0, 0, 0, 0, 0, 0, 0, 0, 0, 0, 0] : List Int) = digs (0 : Fp).val from by kernel_rfl]
        exact decide_eq_false (fun h => hx ((digs_eq x 0).1 h))
      refine drawn_begin 11 (Has L) (by kernel_rfl) ?_
      refine drawn_reads (fuel := 7) [0, 1, 2, 3] rfl (by kernel_rfl) hs.drew ?_
      repeat (refine rowK_step2 rfl rfl (fun K hK => ?_); go_wp2)
      refine rowK_nil ⟨fun w' hw' => ?_, ?_⟩
      · rw [HL.out] at hw'
        have e1 := hw'.nth 0 rfl
        repeat (refine rowWp_step2 rfl rfl (fun K hK => ?_); go_wp2)
        exact rowWp_nil rfl
      refine drawn_reads (fuel := 5) [4, 5] rfl (by kernel_rfl) hs.drew ?_
      repeat (refine rowK_step rfl (fun K hK => ?_); go_simp; refine hK _ ?_; clear hK K)
      refine rowK_nil ⟨fun w' hw' => ?_, ?_⟩
      · rw [HL.out] at hw'
        have e1 := hw'.nth 0 rfl
        have e2 := hw'.nth 2 rfl
        repeat (refine rowWp_step rfl (fun K hK => ?_); go_simp; refine hK _ ?_; clear hK K)
        exact rowWp_nil rfl
      refine drawn_next 6 (fuel := 4) rfl (by kernel_rfl) ?_
      intro K hK
      go_wp2_with fail
      refine (half_any pm1 (by decide)).mono ?_
      rw [show pm1 / 2 = pHalf from by unfold pm1 pHalf; omega]
      rintro e wa ⟨rfl, FA⟩
      have sA := hs.drew.fr0 FA
      simp only []
      go_wp2
      refine ⟨sA, ?_⟩
      refine drawn_next 7 (fuel := 3) rfl (by kernel_rfl) ?_
      intro K hK
      obtain ⟨y, hy⟩ : ∃ y, y = pw x pHalf := ⟨_, rfl⟩
      obtain ⟨o, ho⟩ : ∃ o : Fp, o = 1 := ⟨_, rfl⟩
      go_wp2_with fail
      refine (rpower_f x pHalf (by decide)).mono ?_
      rw [← hy]
      rintro e wb ⟨rfl, FB⟩
      have sB := sA.fr0 FB
      have l1 := length_digs y.val
      have l2 := length_digs o.val
      have heul : (!decide (digs y.val = digs o.val)) = eul x := by
        unfold eul
        rw [decide_eq_true (show x ≠ 0 from hx), Bool.true_and, ← hy, ← ho, ← decide_not, Bool.eq_iff_iff, decide_eq_true_eq, decide_eq_true_eq, ne_eq, digs_eq]
      have HEU := Lib.hid heul
      have HO := Lib.hid ho
      clear hy ho heul
      simp only []
      go_wp2
      refine ⟨sB, ?_⟩
      refine drawn_next 8 (fuel := 2) rfl (by kernel_rfl) ?_
      intro K hK
      go_wp2_with fail
      refine (small_f 1 (by decide)).mono ?_
      rw [show toFp ((1 : Nat) : Int) = o from toFp_one.trans HO.out.symm]
      rintro e wc ⟨rfl, FC⟩
      have sC := sB.fr0 FC
      have HFC := Lib.hid ((((HFV.out.drew).trans FA).trans FB).trans FC)
      clear FA FB FC hne
      simp only []
      go_wp2
      refine ⟨sC, ?_⟩
      refine drawn_reads (fuel := 0) [9, 10] rfl (by kernel_rfl) sC ?_
      repeat (refine rowK_step rfl (fun K hK => ?_); go_simp; refine hK _ ?_; clear hK K)
      refine rowK_nil ⟨fun w' hw' => ?_, ?_⟩
      · repeat (refine rowWp_step rfl (fun K hK => ?_); go_simp; refine hK _ ?_; clear hK K)
        exact rowWp_nil rfl
      refine drawn_end (ol := []) rfl (by kernel_rfl) ?_
      intro K hK
      go_wp2
      go_meet
      case rel => exact ⟨by rw [← HEU.out], sC, HFC.out⟩
  case rest =>
    obtain ⟨rfl, sC, hFC⟩ := hcut
    rename_i wc
    have sC' := sC
    rw [HL.out] at sC'
    have c0 := sC'.nth 0 rfl
    have c1 := sC'.nth 1 rfl
    have c2 := sC'.nth 2 rfl
    have c1l := World.at_lt c1
    have n2 : w2.heap.size < wc.heap.size := World.at_lt c2
    clear sC sC' g0 g1 g2 hs HFV HL HF
    rcases root_cases x with ⟨h1, h2⟩ | ⟨⟨h1, h1'⟩, h2, h3, h4⟩
    · have heul : eul x = false := by
        unfold eul
        rcases h1 with h | h
        · rw [decide_eq_false (show ¬ (pw x pHalf ≠ 1) from fun hn => hn h), Bool.and_false]
        · rw [decide_eq_false (show ¬ (x ≠ 0) from fun hn => hn h), Bool.false_and]
      have hcand : rCand x = if pw x pEight * pw x pEight = x then pw x pEight else pw x pEight * im := by
        unfold rCand
        rcases h2 with h | h
        · rw [if_pos h]
          by_cases hx : pw x pEight * pw x pEight = -x
          · rw [if_pos hx]
            have hx0 : x = 0 := by
              have : x + x = 0 := by rw [h] at hx; grobner
              have h2 : (2 : Fp) * x = 0 := by grobner
              rcases mul_zero_or h2 with h3 | h3
              · exact absurd h3 (by decide)
              · exact h3
            have : pw x pEight = 0 := by
              rcases mul_zero_or (h.trans hx0) with h3 | h3 <;> exact h3
            rw [this]; grobner
          · rw [if_neg hx]
        · rw [if_pos h]
          by_cases hx : pw x pEight * pw x pEight = x
          · rw [if_pos hx]
            have hx0 : x = 0 := by
              have h2 : (2 : Fp) * x = 0 := by rw [hx] at h; grobner
              rcases mul_zero_or h2 with h3 | h3
              · exact absurd h3 (by decide)
              · exact h3
            have : pw x pEight = 0 := by
              rcases mul_zero_or (hx.trans hx0) with h3 | h3 <;> exact h3
            rw [this]; grobner
          · rw [if_neg hx]
      have hok : rootOk x = true := by
        unfold rootOk
        apply decide_eq_true
        unfold rCand
        have him := im_im
        rcases h2 with h | h
        · by_cases hx : pw x pEight * pw x pEight = -x
          · rw [if_pos hx]; grobner
          · rw [if_neg hx]; exact h
        · rw [if_pos h]; grobner
      have HCA := Lib.hid hcand
      have HOK := Lib.hid hok
      rw [heul]
      clear h1 h2 hcand hok heul
      go_wp2_with fail
      refine prime_any.mono ?_
      rintro e wa ⟨rfl, FA⟩
      simp only []
      go_wp2_with fail
      refine (half_any pN (by decide)).mono ?_
      rintro e wb ⟨rfl, FB⟩
      simp only []
      go_wp2_with fail
      refine (half_any (pN / 2) (by decide)).mono ?_
      rintro e wd ⟨rfl, FD⟩
      simp only []
      go_wp2_with fail
      refine (half_any (pN / 2 / 2) (by decide)).mono ?_
      rintro e we ⟨rfl, FE⟩
      have FX := ((FA.trans FB).trans FD).trans FE
      have c0' := FX.get c0 (by simp)
      have c1' := FX.get c1 (by simp)
      have c2' := FX.get c2 (by simp)
      have HFE := Lib.hid (hFC.out.trans FX)
      obtain ⟨q, hq⟩ : ∃ q, q = pN / 2 / 2 / 2 := ⟨_, rfl⟩
      rw [← hq]
      have lq := length_digs q
      have hq0 : el (digs q) 0 + 1 = 65534 := by rw [hq]; kernel_rfl
      have hset : (digs q).set 0 65534 = digs pEight := by rw [hq]; kernel_rfl
      have lpe := length_digs pEight
      clear FA FB FD FE FX hq c0 c1 c2 c1l
      have c0l := World.at_lt c0'
      have c1l := World.at_lt c1'
      have c2l := World.at_lt c2'
      simp only []
      go_wp2_with fail
      refine (rpower_f x pEight (by decide)).mono ?_
      rintro e wf ⟨rfl, FF⟩
      obtain ⟨r, hr⟩ : ∃ r, r = pw x pEight := ⟨_, rfl⟩
      rw [← hr]
      have lr := length_digs r.val
      have d0 := FF.get (b := w.heap.size) (o := .cells (ints .i64 (digs x.val)) 32) (by go_simp) (by simp)
      have d1 := FF.get (b := w.heap.size + 1) (o := .cells (ints .i64 (zs 16)) 32) (by go_simp) (by simp)
      have d2 := FF.get (b := w2.heap.size) (o := .cells (ints .i64 (digs pm1)) 32) (by go_simp) (by simp)
      have HFF := Lib.hid ((HFE.out.alloc _).trans FF)
      have HR := Lib.hid hr
      have e0 := World.at_lt d0
      have e1 := World.at_lt d1
      have e2 := World.at_lt d2
      clear FF hr c0' c1' c2' c0l c1l c2l hset hq0
      simp only []
      go_wp2
      obtain ⟨U, hU⟩ : ∃ U, U = wf.alloc (.cells (ints .i64 (digs r.val)) 32) := ⟨_, rfl⟩
      refine Eq.mp (congrArg (fun X => Code.wp _ _ _ _ X) hU) ?_
      obtain ⟨B, hB⟩ : ∃ B, B = wf.heap.size := ⟨_, rfl⟩
      rw [← hB] at e0 e1 e2 ⊢
      have g0 : U.blk w.heap.size = some (.cells (ints .i64 (digs x.val)) 32) := by rw [hU, World.at_alloc_lt _ _ _ (by omega)]; exact d0
      have g1 : U.blk (w.heap.size + 1) = some (.cells (ints .i64 (zs 16)) 32) := by rw [hU, World.at_alloc_lt _ _ _ (by omega)]; exact d1
      have g2 : U.blk w2.heap.size = some (.cells (ints .i64 (digs pm1)) 32) := by rw [hU, World.at_alloc_lt _ _ _ (by omega)]; exact d2
      have g3 : U.blk B = some (.cells (ints .i64 (digs r.val)) 32) := by rw [hU, hB]; exact World.at_alloc_new _ _ _ rfl
      have HFU := Lib.hid (show Fr [] w U by rw [hU]; exact HFF.out.alloc _)
      have m0 : B ≠ w.heap.size := by omega
      have m1 : B ≠ w.heap.size + 1 := by omega
      have m2 : B ≠ w2.heap.size := by omega
      have HBo := Lib.hid (show w.heap.size ≤ B by omega)
      have hs : Has [(w.heap.size, .cells (ints .i64 (digs x.val)) 32), (w.heap.size + 1, .cells (ints .i64 (zs 16)) 32), (w2.heap.size, .cells (ints .i64 (digs pm1)) 32), (B, .cells (ints .i64 (digs r.val)) 32)] U := .cons g0 (.cons g1 (.cons g2 (.cons g3 (.nil _))))
      clear hU hB d0 d1 d2
      obtain ⟨L, hL⟩ : ∃ L : List (Nat × Obj), L = [(w.heap.size, .cells (ints .i64 (digs x.val)) 32), (w.heap.size + 1, .cells (ints .i64 (zs 16)) 32), (w2.heap.size, .cells (ints .i64 (digs pm1)) 32), (B, .cells (ints .i64 (digs r.val)) 32)] := ⟨_, rfl⟩
      rw [← hL] at hs
      have HL := Lib.hid hL
      clear hL
      go_cut [37] (fun v wc => v = .bool (!decide (r * r = x)) ∧ Has L wc ∧ Hid (Fr [] w wc))
      case first =>
        refine drawn_begin 5 (Has L) (by kernel_rfl) ?_
        refine drawn_reads (fuel := 2) [0, 1, 3] rfl (by kernel_rfl) hs.drew ?_
        repeat (refine rowK_step2 rfl rfl (fun K hK => ?_); go_wp2)
        refine rowK_nil ⟨fun w' hw' => ?_, ?_⟩
        · rw [HL.out] at hw'
          have e1 := hw'.nth 0 rfl
          have e2 := hw'.nth 3 rfl
          repeat (refine rowWp_step2 rfl rfl (fun K hK => ?_); go_wp2)
          exact rowWp_nil rfl
        refine drawn_next 2 (fuel := 1) rfl (by kernel_rfl) ?_
        intro K hK
        obtain ⟨rr, hrr⟩ : ∃ rr, rr = r * r := ⟨_, rfl⟩
        go_wp2_with fail
        refine (rmul_f r r).mono ?_
        rw [← hrr]
        rintro e wa ⟨rfl, FA⟩
        have sA := hs.drew.fr0 FA
        have HFA := Lib.hid (HFU.out.drew.trans FA)
        have lrr := length_digs rr.val
        have HRR := Lib.hid hrr
        clear FA hrr
        simp only []
        go_wp2
        refine ⟨sA, ?_⟩
        refine drawn_reads (fuel := 0) [4] rfl (by kernel_rfl) sA ?_
        repeat (refine rowK_step2 rfl rfl (fun K hK => ?_); go_wp2)
        refine rowK_nil ⟨fun w' hw' => ?_, ?_⟩
        · repeat (refine rowWp_step2 rfl rfl (fun K hK => ?_); go_wp2)
          exact rowWp_nil rfl
        refine drawn_end (ol := []) rfl (by kernel_rfl) ?_
        intro K hK
        go_wp2
        go_meet
        case rel =>
          refine ⟨?_, sA, HFA.out⟩
          rw [← HRR.out]
          simp only [digs_eq]
      case rest =>
        obtain ⟨rfl, sD, hFD⟩ := hcut
        rename_i wd
        have sD' := sD
        rw [HL.out] at sD'
        have c0 := sD'.nth 0 rfl
        have c1 := sD'.nth 1 rfl
        have c2 := sD'.nth 2 rfl
        have c3 := sD'.nth 3 rfl
        clear g0 g1 g2 g3 hs sD'
        go_upto_if 37 with (fail)
        go_cut [] (fun wc => wc.blk w.heap.size = some (.cells (ints .i64 (digs x.val)) 32) ∧ wc.blk (w.heap.size + 1) = some (.cells (ints .i64 (zs 16)) 32) ∧ wc.blk B = some (.cells (ints .i64 (digs (rCand x).val)) 32) ∧ Hid (Fr [] w wc))
        case first =>
          by_cases hrx : r * r = x
          · rw [decide_eq_true hrx]
            have hca : rCand x = r := by rw [HCA.out, ← HR.out, if_pos hrx]
            have HC2 := Lib.hid hca
            clear hrx hca
            go_wp2
            go_meet
            case rel => exact ⟨c0, c1, by rw [HC2.out]; exact c3, hFD⟩
          · rw [decide_eq_false hrx]
            have hca : rCand x = r * im := by rw [HCA.out, ← HR.out, if_neg hrx]
            have HC2 := Lib.hid hca
            clear hrx hca
            go_wp2
            refine drawn_begin 7 (Has L) (by kernel_rfl) ?_
            refine drawn_reads (fuel := 6) [0, 2] rfl (by kernel_rfl) sD.drew ?_
            repeat (refine rowK_step2 rfl rfl (fun K hK => ?_); go_wp2)
            refine rowK_nil ⟨fun w' hw' => ?_, ?_⟩
            · rw [HL.out] at hw'
              have e1 := hw'.nth 2 rfl
              have e2 := hw'.nth 3 rfl
              repeat (refine rowWp_step2 rfl rfl (fun K hK => ?_); go_wp2)
              exact rowWp_nil rfl
            refine drawn_next 1 (fuel := 5) rfl (by kernel_rfl) ?_
            intro K hK
            go_wp2_with fail
            refine (small_f 2 (by decide)).mono ?_
            rw [show toFp ((2 : Nat) : Int) = 2 from by kernel_rfl]
            rintro e wa ⟨rfl, FA⟩
            have sA := sD.drew.fr0 FA
            obtain ⟨two, htwo⟩ : ∃ two : Fp, two = 2 := ⟨_, rfl⟩
            rw [← htwo]
            have HTW := Lib.hid htwo
            clear htwo
            simp only []
            go_wp2
            refine ⟨sA, ?_⟩
            refine drawn_next 3 (fuel := 4) rfl (by kernel_rfl) ?_
            intro K hK
            go_wp2_with fail
            refine (half_any pm1 (by decide)).mono ?_
            rw [show pm1 / 2 = pHalf from by unfold pm1 pHalf; omega]
            rintro e wb ⟨rfl, FB⟩
            have sB := sA.fr0 FB
            simp only []
            go_wp2
            refine ⟨sB, ?_⟩
            refine drawn_next 4 (fuel := 3) rfl (by kernel_rfl) ?_
            intro K hK
            go_wp2_with fail
            refine (half_any pHalf (by decide)).mono ?_
            rw [show pHalf / 2 = pQuart from by unfold pQuart pHalf; omega]
            rintro e wg ⟨rfl, FG⟩
            have sG := sB.fr0 FG
            simp only []
            go_wp2
            refine ⟨sG, ?_⟩
            refine drawn_next 5 (fuel := 2) rfl (by kernel_rfl) ?_
            intro K hK
            go_wp2_with fail
            refine (rpower_f two pQuart (by decide)).mono ?_
            rw [show pw two pQuart = im from by rw [HTW.out]; rfl]
            rintro e wh ⟨rfl, FH⟩
            have sH := sG.fr0 FH
            simp only []
            go_wp2
            refine ⟨sH, ?_⟩
            refine drawn_next 6 (fuel := 1) rfl (by kernel_rfl) ?_
            intro K hK
            obtain ⟨v, hv⟩ : ∃ v, v = r * im := ⟨_, rfl⟩
            go_wp2_with fail
            refine (rmul_f r im).mono ?_
            rw [← hv]
            rintro e wi ⟨rfl, FI⟩
            have sI := sH.fr0 FI
            have HFI := Lib.hid (((((hFD.out.drew.trans FA).trans FB).trans FG).trans FH).trans FI)
            have sI' := sI
            rw [HL.out] at sI'
            have f0 := sI'.nth 0 rfl
            have f1 := sI'.nth 1 rfl
            have f3 := sI'.nth 3 rfl
            have f3l := World.at_lt f3
            have lv := length_digs v.val
            have HV := Lib.hid hv
            clear FA FB FG FH FI sA sB sG sH sI' c0 c1 c2 c3 hv
            simp only []
            go_wp2
            refine ⟨sI, ?_⟩
            refine drawn_end rfl (by kernel_rfl) ?_
            intro K hK
            clear sI sD
            go_wp2
            go_meet
            case rel =>
              rw [HC2.out, ← HV.out]
              refine ⟨?_, ?_, World.at_put_same _ _ _ f3l, HFI.out.put _ _ (fun h => by have := HBo.out; omega)⟩
              · rw [World.at_put_other _ _ _ _ m0]; exact f0
              · rw [World.at_put_other _ _ _ _ m1]; exact f1
        case rest =>
          obtain ⟨p0, p1, p3, hFP⟩ := hcut
          rename_i wp
          have p1l := World.at_lt p1
          have p3l := World.at_lt p3
          clear c0 c1 c2 c3 sD HL
          obtain ⟨v, hv⟩ : ∃ v, v = rCand x := ⟨_, rfl⟩
          rw [← hv] at p3
          have lv := length_digs v.val
          have hodd : el (digs v.val) 0 % 2 = if oddF v then 1 else 0 := by
            rw [el_digs _ _ (by omega), Nat.pow_zero, Nat.div_one]
            unfold oddF
            split <;> simp_all <;> omega
          have hlt := el_digs_lt v.val 0 (by omega)
          have HV := Lib.hid hv
          clear hv
          cases ho : oddF v with
          | true =>
            rw [ho] at hodd
            simp only [↓reduceIte] at hodd
            have hrf : rootF x = -v := by rw [HV.out] at ho ⊢; exact rootF_odd HOK.out ho
            have HRF := Lib.hid hrf
            obtain ⟨nv, hnv⟩ : ∃ nv, nv = -v := ⟨_, rfl⟩
            have HNV := Lib.hid hnv
            clear hrf ho
            go_wp2_with fail
            refine (rneg_f v).mono ?_
            rw [← HNV.out]
            rintro e wq ⟨rfl, FQ⟩
            have q1 := FQ.get p1 (by simp)
            have q3 := FQ.get p3 (by simp)
            have q1l := World.at_lt q1
            have q3l := World.at_lt q3
            have lnv := length_digs nv.val
            have HFQ := Lib.hid (hFP.out.trans FQ)
            clear FQ p0 p1 p3 p1l p3l hnv
            simp only []
            go_wp2
            refine ret_cell_tmp rfl rfl rfl ?_
            go_simp
            rw [HRF.out, HOK.out, HNV.out]
            exact ⟨⟨rfl, rfl⟩, (HFQ.out.put _ _ (fun h => by have := HBo.out; omega)).put _ _ (by omega)⟩
          | false =>
            rw [ho] at hodd
            simp only [Bool.false_eq_true, ↓reduceIte] at hodd
            have hrf : rootF x = v := by rw [HV.out] at ho ⊢; exact rootF_even HOK.out ho
            have HRF := Lib.hid hrf
            clear hrf ho
            go_wp2
            refine ret_cell_tmp rfl rfl rfl ?_
            go_simp
            rw [HRF.out, HOK.out]
            exact ⟨⟨rfl, rfl⟩, hFP.out.put _ _ (by omega)⟩
    · have heul : eul x = true := by unfold eul; rw [decide_eq_true h1', decide_eq_true h1]; rfl
      have hok : rootOk x = false := by
        unfold rootOk
        apply decide_eq_false
        unfold rCand
        rw [if_neg h3]; exact h2
      have HOK := Lib.hid hok
      have HRF := Lib.hid (rootF_none hok)
      rw [heul]
      clear h1 h1' h2 h3 h4 heul hok
      go_wp2
      refine ret_cell_tmp rfl rfl rfl ?_
      go_simp
      rw [HRF.out, HOK.out]
      refine ⟨⟨by kernel_rfl, rfl⟩, hFC.out.put _ _ (by omega)⟩
end
end Go.Proofs.Ytakhmmnklkckpaa
