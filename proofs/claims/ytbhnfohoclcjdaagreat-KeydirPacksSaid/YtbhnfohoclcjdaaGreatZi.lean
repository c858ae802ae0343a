/- Joined: KdQ, KdR, KdS, GnH, KdT. -/
import Derived.Test.YtbhnfohoclcjdaaGreatZh
import Derived.Test.YtbhnfohoclcjdaaGreatZg
set_option linter.unusedVariables false
set_option linter.unusedSimpArgs false
namespace Go.Proofs.YtbhnfohoclcjdaaGreat
open Go.RowKit Go.Dr Go.Kd
theorem exInfo5 : ∃ i, Tryz.prog.info? 5 = some i := info_of_underlying Tryz.underlying5
@[go_sem] theorem eq23 (a b : List Int) (ha : a.length = 32) (hb : b.length = 32) (w : World) : (Op.equalIn 10000 34 (.agg (ints .u8 a)) (.agg (ints .u8 b))).run Tryz.prog w = .ok (decide (a = b)) w :=
  let ⟨_, hi⟩ := exInfo5
  run_eq_ints 9998 .u8 .u8 Tryz.underlying34 hi (by kernel_rfl) Tryz.underlying5 (fun w => by kernel_rfl) a b ha hb w
theorem beq_dec (a b : List Int) : (a == b) = decide (a = b) := by rw [Bool.eq_iff_iff, beq_iff_eq, decide_eq_true_eq]
/-- The numbers of a written-out row. -/
def litsOf : List Value → List Int
  | [] => []
  | .int _ x :: r => x :: litsOf r
  | _ :: r => 0 :: litsOf r
@[go_sem] theorem litsOf_nil : litsOf [] = [] := rfl
@[go_sem] theorem litsOf_cons (k : IntKind) (x : Int) (r : List Value) : litsOf (.int k x :: r) = x :: litsOf r := rfl
@[go_sem] theorem eq23_lit (a : List Int) (L : List Value) (hL : L = (litsOf L).map (Value.int .u8)) (ha : a.length = 32) (hl : L.length = 32) (w : World) :
    (Op.equalIn 10000 34 (.agg (ints .u8 a)) (.agg L.toArray)).run Tryz.prog w = .ok (a == litsOf L) w := by
  have h : L.toArray = ints .u8 (litsOf L) := by
    conv => lhs; rw [hL]
    rfl
  rw [h, eq23 a _ ha (by rw [hL] at hl; simpa using hl), beq_dec]
theorem ofT_mem {T : List Tm} {k : List Int} {u : Tm} (h : ofT T k = some u) : u ∈ T := by
  unfold ofT at h
  split at h
  · cases h
  · exact List.mem_of_getElem? h
/-- Whether a signature is right, its halves told apart. -/
def verR (T : List Tm) (k t s1 s2 : List Int) : Bool :=
  match ofT T s1 with
  | none => false
  | some u => decide (s2 = Kd.zeros 32) && decide (u.1 = 6) && decide (u.2.length = 2) && decide (u.2.getD 1 [] = t) &&
    match ofT T k with
    | none => false
    | some v => decide (v.1 = 5) && decide (v.2.length = 1) && decide (v.2.getD 0 [] = u.2.getD 0 [])
theorem verR_none {T : List Tm} {k t s1 s2 : List Int} (h : ofT T s1 = none) : verR T k t s1 s2 = false := by unfold verR; rw [h]
theorem verR_some {T : List Tm} {k t s1 s2 : List Int} {u : Tm} (h : ofT T s1 = some u) : verR T k t s1 s2 = (decide (s2 = Kd.zeros 32) && decide (u.1 = 6) && decide (u.2.length = 2) && decide (u.2.getD 1 [] = t) &&
    match ofT T k with
    | none => false
    | some v => decide (v.1 = 5) && decide (v.2.length = 1) && decide (v.2.getD 0 [] = u.2.getD 0 [])) := by unfold verR; rw [h]
theorem verR_z {T : List Tm} {k t s1 s2 : List Int} (h : decide (s2 = Kd.zeros 32) = false) : verR T k t s1 s2 = false := by
  cases hu : ofT T s1 with
  | none => exact verR_none hu
  | some u => rw [verR_some hu, h]; rfl
theorem verifyF_eq {T : List Tm} {k t s1 s2 : List Int} (h1 : s1.length = 32) : verifyF T k t (s1 ++ s2) = if 4096 < t.length then false else verR T k t s1 s2 := by
  have e1 : (s1 ++ s2).take 32 = s1 := by rw [List.take_append_of_le_length (by omega), List.take_of_length_le (by omega)]
  have e2 : (s1 ++ s2).drop 32 = s2 := by rw [List.drop_append_of_le_length (by omega), List.drop_eq_nil_of_le (by omega), List.nil_append]
  unfold verifyF verR
  rw [e1, e2]
  split
  · rfl
  · cases ofT T s1 with
    | none => rfl
    | some u =>
      obtain ⟨ku, pu⟩ := u
      by_cases h6 : ku = 6
      · subst h6
        rcases pu with _ | ⟨a, _ | ⟨b, _ | ⟨c, pu⟩⟩⟩
        · simp
        · simp
        · cases ofT T k with
          | none => simp
          | some v =>
            obtain ⟨kv, pv⟩ := v
            by_cases h5 : kv = 5
            · subst h5
              rcases pv with _ | ⟨c, _ | ⟨d, pv⟩⟩
              · simp
              · simp
              · simp
            · simp [h5]
        · simp
      · simp [h6]
section
variable {w : World}
set_option maxRecDepth 100000 in
set_option maxHeartbeats 2000000 in
theorem verify_f {lo tb : Nat} {T : List Tm} {k t s1 s2 : List Int} {p : Option Addr} {n cap : Nat} (h : TabP lo tb w T) (hk : k.length = 32) (hb : isBytes k) (S : Sl .u8 w p n cap t) (ht : isBytes t) (h1 : s1.length = 32) (h2 : s2.length = 32) (hb1 : isBytes s1) :
    Calls Tryz.prog 48 #[SU tb, .agg (ints .u8 k), .slice p n cap, .agg (ints .u8 (s1 ++ s2))] w fun e w' => e = .returned (.bool (verifyF T k t (s1 ++ s2))) ∧ Fr [] w w' := by
  have H := Lib.hid h
  have HB := Lib.hid hb
  have HS := Lib.hid S
  have HT := Lib.hid ht
  have HN := Lib.hid S.len
  have HB1 := Lib.hid hb1
  have hs : (s1 ++ s2).length = 64 := by rw [List.length_append]; omega
  have e1 : (s1 ++ s2).take 32 = s1 := by rw [List.take_append_of_le_length (by omega), List.take_of_length_le (by omega)]
  have e2 : (s1 ++ s2).drop 32 = s2 := by rw [List.drop_append_of_le_length (by omega), List.drop_eq_nil_of_le (by omega), List.nil_append]
  obtain ⟨v, hv⟩ : ∃ v, v = verR T k t s1 s2 := ⟨_, rfl⟩
  obtain ⟨r, hr⟩ : ∃ r, r = verifyF T k t (s1 ++ s2) := ⟨_, rfl⟩
  rw [← hr]
  have hr2 : r = if 4096 < n then false else v := by rw [hr, verifyF_eq h1, HN.out, hv]
  have HV0 := Lib.hid hv
  clear hv
  obtain ⟨s, hse⟩ : ∃ s, s = s1 ++ s2 := ⟨_, rfl⟩
  rw [← hse] at hs e1 e2 ⊢
  have HR := Lib.hid hr2
  have E1 := Lib.hid e1
  have E2 := Lib.hid e2
  clear h hb S ht hr hr2 hse hb1 e1 e2
  go_enter Tryz.func48, Tryz.ntmps48
  go_upto_if 19 with (fail)
  refine named_world (A := fun X => OwB w [(w.heap.size + 1 + 1, .cells (ints .u8 s) 45), (w.heap.size + 1, .cells (ints .u8 k) 34), (w.heap.size, .cells #[.pointer (some ⟨tb, 0, none⟩)] 27)] X) (Q := fun X => Code.wp _ _ _ _ X) ((((OwB.start w).allocN _ w.heap.size rfl).allocN _ (w.heap.size + 1) (by simp)).allocN _ (w.heap.size + 1 + 1) (by simp)) ?_
  intro V hV
  generalize w.heap.size + 1 + 1 = b7 at hV ⊢
  generalize w.heap.size + 1 = b5 at hV ⊢
  generalize w.heap.size = b4 at hV ⊢
  have HV := Lib.hid hV
  by_cases hn : 4096 < n
  · have d : decide (4096 < (n : Int)) = true := by rw [decide_eq_true_eq]; omega
    have hr0 : r = false := by rw [HR.out, if_pos hn]
    subst hr0
    clear hV
    go_wp2_with fail
    exact bodyPost_ret (results_tmp rfl _ _ _) rfl ⟨rfl, HV.out.fr⟩
  · have d : decide (4096 < (n : Int)) = false := by rw [decide_eq_false_iff_not]; omega
    have hr0 : r = v := by rw [HR.out, if_neg hn]
    subst hr0
    have f4 := hV.nth 2 rfl
    have t4 := World.at_lt f4
    clear hV
    go_upto_region 6 with (fail)
    refine named_world (A := fun X => OwB w [(V.heap.size + 1, .cells (ints .u8 (zs 32)) 34), (V.heap.size, .cells (ints .u8 (zs 32)) 34), (b7, .cells (ints .u8 s) 45), (b5, .cells (ints .u8 k) 34), (b4, .cells #[.pointer (some ⟨tb, 0, none⟩)] 27)] X) (Q := fun X => Code.wp _ _ _ _ X) ((HV.out.allocN _ V.heap.size rfl).allocN _ (V.heap.size + 1) (by simp)) ?_
    intro U hU
    clear f4 t4
    generalize V.heap.size + 1 = b10 at hU ⊢
    generalize V.heap.size = b9 at hU ⊢
    have f10 := hU.nth 0 rfl
    have f9 := hU.nth 1 rfl
    have f7 := hU.nth 2 rfl
    have t10 := World.at_lt f10
    have t9 := World.at_lt f9
    have t7 := World.at_lt f7
    have n97 := hU.ne 1 2 rfl rfl (by decide)
    have n109 := hU.ne 0 1 rfl rfl (by decide)
    have n107 := hU.ne 0 2 rfl rfl (by decide)
    have HU := Lib.hid hU
    clear hU
    refine drawn_head 2 (by kernel_rfl) rfl rfl (by kernel_rfl) ?_
    change rowK _ _ _ [0, 1] _ _
    repeat (first | (refine rowK_step2 rfl rfl (fun K hK => ?_); go_wp2) | (refine rowK_step rfl (fun K hK => ?_); go_simp; refine hK _ ?_; clear hK K))
    refine rowK_nil ?_
    intro K hK
    go_wp2_with fail
    have e9 : (List.take 32 (List.map (Value.int .u8) s)).toArray = ints .u8 s1 := by rw [← List.map_take, E1.out]; rfl
    rw [e9]
    refine named_world (A := fun X => OwB w [(b10, .cells (ints .u8 (zs 32)) 34), (b9, .cells (ints .u8 s1) 34), (b7, .cells (ints .u8 s) 45), (b5, .cells (ints .u8 k) 34), (b4, .cells #[.pointer (some ⟨tb, 0, none⟩)] 27)] X) (Q := fun X => Code.wp _ _ _ _ X) (HU.out.set 1 _ rfl).drew ?_
    clear f10 f9 f7 t10 t9 t7 e9
    intro U1 hU
    have f10 := hU.nth 0 rfl
    have f7 := hU.nth 2 rfl
    have t10 := World.at_lt f10
    have t7 := World.at_lt f7
    have HU1 := Lib.hid hU
    clear hU
    refine drawn_head 2 (by kernel_rfl) rfl rfl (by kernel_rfl) ?_
    change rowK _ _ _ [0, 1] _ _
    repeat (first | (refine rowK_step2 rfl rfl (fun K hK => ?_); go_wp2) | (refine rowK_step rfl (fun K hK => ?_); go_simp; refine hK _ ?_; clear hK K))
    refine rowK_nil ?_
    intro K hK
    go_upto_region 8 with (fail)
    have e9 : (List.drop 32 (List.map (Value.int .u8) s)).toArray = ints .u8 s2 := by rw [← List.map_drop, E2.out]; rfl
    rw [e9]
    refine named_world (A := fun X => OwB w [(b10, .cells (ints .u8 s2) 34), (b9, .cells (ints .u8 s1) 34), (b7, .cells (ints .u8 s) 45), (b5, .cells (ints .u8 k) 34), (b4, .cells #[.pointer (some ⟨tb, 0, none⟩)] 27)] X) (Q := fun X => Code.wp _ _ _ _ X) (HU1.out.set 0 _ rfl).drew ?_
    clear f10 f7 t10 t7 e9 n97 n109 n107 HU HU1
    intro U2 hU
    have f9 := hU.nth 1 rfl
    have f4 := hU.nth 4 rfl
    have t9 := World.at_lt f9
    have t4 := World.at_lt f4
    have HU2 := Lib.hid hU
    clear hU
    go_wp2_with fail
    refine (of_f (H.out.fr0 HU2.out.fr) h1 HB1.out).mono ?_
    rintro e W1 ⟨kind, q, m, c, ok, rfl, F1, R1⟩
    have hO1 := HU2.out.call F1
    clear f9 f4 t9 t4
    have f10 := hO1.nth 0 rfl
    have f5 := hO1.nth 3 rfl
    have f4 := hO1.nth 4 rfl
    have t10 := World.at_lt f10
    have t5 := World.at_lt f5
    have t4 := World.at_lt f4
    have HO1 := Lib.hid hO1
    have HR1 := Lib.hid R1
    clear hO1 F1 R1
    go_upto_region 9 with (fail)
    have hne : Nonempty Unit := ⟨()⟩
    obtain ⟨z, hz⟩ : ∃ z, decide (s2 = Kd.zeros 32) = z := ⟨_, rfl⟩
    have hz2 : (s2 == [0, 0, 0, 0, 0, 0, 0, 0, 0, 0, 0, 0, 0, 0, 0, 0, 0, 0, 0, 0, 0, 0, 0, 0, 0, 0, 0, 0, 0, 0, 0, 0]) = z := by rw [beq_dec]; exact hz
    have HZ := Lib.hid hz
    clear hz
    by_cases hz0 : z = false
    · subst hz0
      refine wp_region_quiet_all (C := fun w' => ∃ _ : Unit, w' = W1.drew) (by kernel_rfl) (by kernel_rfl) ⟨(), rfl⟩ ?_
      repeat (go_big_quiet_step (fail))
      refine wpQuiet_nil ?_
      intro _ hw'
      obtain ⟨_, rfl⟩ := hw'
      have hr0 : r = false := by rw [HV0.out, verR_z HZ.out]
      subst hr0
      clear hz2 f10 f5 f4 t10 t5 t4
      go_wp2_with fail
      exact bodyPost_ret (results_tmp rfl _ _ _) rfl ⟨rfl, HO1.out.fr.drew⟩
    · have hz1 : z = true := by simpa using hz0
      subst hz1
      clear hz0
      by_cases h6 : kind = 6
      · subst h6
        obtain ⟨u, hu, hu6, S1⟩ : ∃ u, ofT T s1 = some u ∧ u.1 = 6 ∧ SllA W1 q m c u.2 := by
          have h := HR1.out
          unfold OfRes at h
          split at h
          · omega
          · rename_i u hu
            exact ⟨u, hu, h.1.symm, h.2.2⟩
        have HUU := Lib.hid hu
        have HU6 := Lib.hid hu6
        have HS1 := Lib.hid S1
        have hml := S1.now.len
        have HML := Lib.hid hml
        clear hu hu6 S1 hml
        by_cases hm : m = 2
        · subst hm
          have HGU := Lib.hid (H.out.good u (ofT_mem HUU.out)).2.1
          obtain ⟨pb, off, cs, TT, fr, qa, ma, ca, la, rfl, fp, hs1, hc, hl, Sa⟩ := HS1.out.now.at (j := 1) (by omega)
          have hc2 := (Array.getElem?_eq_some_iff.1 hc).2
          have hconv := conv47 (Sa.fr0 (Fr.refl [] W1).drew)
          have hconv2 := conv47 (HS.out.fr0 HO1.out.fr.drew)
          have hla : isBytes la := HGU.out la (List.mem_of_getElem? hl)
          have hgd : u.2.getD 1 [] = la := by rw [List.getD_eq_getElem?_getD, hl]; rfl
          obtain ⟨y, hy⟩ : ∃ y, ((strB la).toList == (strB t).toList) = y := ⟨_, rfl⟩
          have hy2 : decide (u.2.getD 1 [] = t) = y := by rw [hgd, ← beq_str hla HT.out]; exact hy
          have HY := Lib.hid hy2
          clear hgd hla hl Sa hy2
          refine wp_region_quiet_all (C := fun w' => ∃ _ : Unit, w' = W1.drew) (by kernel_rfl) (by kernel_rfl) ⟨(), rfl⟩ ?_
          repeat (go_big_quiet_step (fail))
          refine wpQuiet_nil ?_
          intro _ hw'
          obtain ⟨_, rfl⟩ := hw'
          clear hz2 f10 fp hs1 hc2 hc hconv hconv2 hy
          cases y with
          | false =>
            have hr0 : r = false := by rw [HV0.out, verR_some HUU.out, HY.out]; simp
            subst hr0
            clear f5 f4 t10 t5 t4
            go_wp2_with fail
            exact bodyPost_ret (results_tmp rfl _ _ _) rfl ⟨rfl, HO1.out.fr.drew⟩
          | true =>
            go_wp2_with fail
            refine (of_f (H.out.fr0 HO1.out.fr.drew) hk HB.out).mono ?_
            rintro e W2 ⟨kind2, q2, m2, c2, ok2, rfl, F2, R2⟩
            have hO2 := Lib.hid (HO1.out.drew.call F2)
            have HR2 := Lib.hid R2
            have HS2 := Lib.hid (HS1.out.step (.of ((Fr.refl [] W1).drew.trans F2)))
            have hr3 : r = (match ofT T k with | none => false | some v => decide (v.1 = 5) && decide (v.2.length = 1) && decide (v.2.getD 0 [] = u.2.getD 0 [])) := by
              rw [HV0.out, verR_some HUU.out, HY.out, HZ.out, HU6.out, HML.out]; rfl
            have HR3 := Lib.hid hr3
            clear f5 f4 t10 t5 t4 F2 R2 hr3
            go_upto_region 12 with (fail)
            by_cases h5 : kind2 = 5
            · subst h5
              obtain ⟨v, hv, hv5, S2⟩ : ∃ v, ofT T k = some v ∧ v.1 = 5 ∧ SllA W2 q2 m2 c2 v.2 := by
                have h := HR2.out
                unfold OfRes at h
                split at h
                · omega
                · rename_i v hv
                  exact ⟨v, hv, h.1.symm, h.2.2⟩
              have hr3 : r = (decide (v.1 = 5) && decide (v.2.length = 1) && decide (v.2.getD 0 [] = u.2.getD 0 [])) := by rw [HR3.out, hv]
              have HR4 := Lib.hid hr3
              have HV5 := Lib.hid hv5
              have HGV := Lib.hid (H.out.good v (ofT_mem hv)).2.1
              have hml := S2.now.len
              have HML2 := Lib.hid hml
              have HS3 := Lib.hid S2
              clear hr3 hv5 hv hml S2
              by_cases hm : m2 = 1
              · subst hm
                obtain ⟨pa, offa, csa, TTa, fra, qa, ma, ca, la, hpa, fa, hsa, hca, hla, Sa⟩ := HS2.out.now.at (j := 0) (by omega)
                simp only [Option.some.injEq, Addr.mk.injEq, and_true] at hpa
                obtain ⟨rfl, rfl⟩ := hpa
                obtain ⟨pc, offc, csc, TTc, frc, qc, mc, cc, lc, rfl, fc, hsc, hcc, hlc, Sc⟩ := HS3.out.now.at (j := 0) (by omega)
                have hca2 := (Array.getElem?_eq_some_iff.1 hca).2
                have hcc2 := (Array.getElem?_eq_some_iff.1 hcc).2
                rw [Nat.add_zero] at hsa hca hsc hcc
                simp only [Nat.add_zero] at hca2 hcc2
                have hconv := conv47 (Sa.fr0 (Fr.refl [] W2).drew)
                have hconv2 := conv47 (Sc.fr0 (Fr.refl [] W2).drew)
                have g1 : u.2.getD 0 [] = la := by rw [List.getD_eq_getElem?_getD, hla]; rfl
                have g2 : v.2.getD 0 [] = lc := by rw [List.getD_eq_getElem?_getD, hlc]; rfl
                have b1 : isBytes la := HGU.out la (List.mem_of_getElem? hla)
                have b2 : isBytes lc := HGV.out lc (List.mem_of_getElem? hlc)
                obtain ⟨y, hy⟩ : ∃ y, ((strB lc).toList == (strB la).toList) = y := ⟨_, rfl⟩
                have hr0 : r = y := by rw [HR4.out, HV5.out, HML2.out, g1, g2, ← beq_str b2 b1, hy]; rfl
                have HR0 := Lib.hid hr0
                clear g1 g2 b1 b2 hla hlc Sa Sc hr0
                refine wp_region_quiet_all (C := fun w' => ∃ _ : Unit, w' = W2.drew) (by kernel_rfl) (by kernel_rfl) ⟨(), rfl⟩ ?_
                repeat (go_big_quiet_step (fail))
                refine wpQuiet_nil ?_
                intro _ hw'
                obtain ⟨_, rfl⟩ := hw'
                clear fa fc hsa hsc hca2 hcc2 hca hcc hconv hconv2 hy
                go_wp2_with fail
                rw [HR0.out]
                exact bodyPost_ret (results_tmp rfl _ _ _) rfl ⟨rfl, hO2.out.fr.drew⟩
              · have d2 : ((m2 : Int) == 1) = false := by simp; omega
                have hr0 : r = false := by rw [HR4.out, decide_eq_false (show ¬ v.2.length = 1 by rw [HML2.out]; exact hm)]; simp
                refine wp_region_quiet_all (C := fun w' => ∃ _ : Unit, w' = W2.drew) (by kernel_rfl) (by kernel_rfl) ⟨(), rfl⟩ ?_
                repeat (go_big_quiet_step (fail))
                refine wpQuiet_nil ?_
                intro _ hw'
                obtain ⟨_, rfl⟩ := hw'
                subst hr0
                clear d2
                go_wp2_with fail
                exact bodyPost_ret (results_tmp rfl _ _ _) rfl ⟨rfl, hO2.out.fr.drew⟩
            · have d2 : (kind2 == 5) = false := by simpa using h5
              have hr0 : r = false := by
                rw [HR3.out]
                have h := HR2.out
                unfold OfRes at h
                split at h
                · rename_i hu; rw [hu]
                · rename_i v hv
                  rw [hv]
                  simp only [decide_eq_false (show ¬ v.1 = 5 by rw [← h.1]; exact h5), Bool.false_and]
              refine wp_region_quiet_all (C := fun w' => ∃ _ : Unit, w' = W2.drew) (by kernel_rfl) (by kernel_rfl) ⟨(), rfl⟩ ?_
              repeat (go_big_quiet_step (fail))
              refine wpQuiet_nil ?_
              intro _ hw'
              obtain ⟨_, rfl⟩ := hw'
              subst hr0
              clear d2
              go_wp2_with fail
              exact bodyPost_ret (results_tmp rfl _ _ _) rfl ⟨rfl, hO2.out.fr.drew⟩
        · have d2 : ((m : Int) != 2) = true := by simp; omega
          refine wp_region_quiet_all (C := fun w' => ∃ _ : Unit, w' = W1.drew) (by kernel_rfl) (by kernel_rfl) ⟨(), rfl⟩ ?_
          repeat (go_big_quiet_step (fail))
          refine wpQuiet_nil ?_
          intro _ hw'
          obtain ⟨_, rfl⟩ := hw'
          have hr0 : r = false := by rw [HV0.out, verR_some HUU.out, decide_eq_false (show ¬ u.2.length = 2 by rw [HML.out]; exact hm)]; simp
          subst hr0
          clear hz2 f10 f5 f4 t10 t5 t4 d2
          go_wp2_with fail
          exact bodyPost_ret (results_tmp rfl _ _ _) rfl ⟨rfl, HO1.out.fr.drew⟩
      · have d2 : (kind != 6) = true := by simpa using h6
        refine wp_region_quiet_all (C := fun w' => ∃ _ : Unit, w' = W1.drew) (by kernel_rfl) (by kernel_rfl) ⟨(), rfl⟩ ?_
        repeat (go_big_quiet_step (fail))
        refine wpQuiet_nil ?_
        intro _ hw'
        obtain ⟨_, rfl⟩ := hw'
        have hr0 : r = false := by
          rw [HV0.out]
          have h := HR1.out
          unfold OfRes at h
          split at h
          · rename_i hu; exact verR_none hu
          · rename_i u hu
            rw [verR_some hu, decide_eq_false (show ¬ u.1 = 6 by rw [← h.1]; exact h6)]; simp
        subst hr0
        clear hz2 f10 f5 f4 t10 t5 t4 d2
        go_wp2_with fail
        exact bodyPost_ret (results_tmp rfl _ _ _) rfl ⟨rfl, HO1.out.fr.drew⟩
end
end Go.Proofs.YtbhnfohoclcjdaaGreat
namespace Go.Proofs.YtbhnfohoclcjdaaGreat
open Go.RowKit Go.Dr Go.Kd
section
variable {w : World}
set_option maxRecDepth 100000 in
set_option maxHeartbeats 2000000 in
theorem eq27_nil (w : World) : (binOp .eql 46 (.slice none 0 0) (.slice none 0 0)).run Tryz.prog w = .ok (.bool true) w := by
  kernel_rfl
set_option maxRecDepth 100000 in
set_option maxHeartbeats 2000000 in
theorem clone0_f : Calls Tryz.prog 43 #[.slice none 0 0] w fun e w' => e = .returned (.slice none 0 0) ∧ Fr [] w w' := by
  have HF := Lib.hid (Fr.refl [] w)
  have hq := eq27_nil w
  go_enter Tryz.func43, Tryz.ntmps43
  go_wp2_with fail
  exact bodyPost_ret (results_tmp rfl _ _ _) rfl ⟨rfl, HF.out⟩
theorem signF_len (T : List Tm) (k t : List Int) : (signF T k t).2.length = 64 := by
  unfold signF
  split
  · rfl
  · show ((makeT T (6, [k, t])).2.1 ++ Kd.zeros 32).length = 64
    rw [List.length_append, makeT_len]
    rfl
/-- An object without vouches, as cells. -/
abbrev obC (x : Ob) : Array Value := (cObject (.int .u8 x.server) (.int .u8 x.n) x.key (.int .u32 x.frm) (.int .u32 x.til) x.sig (.slice none 0 0)).toArray
structure ObOk (x : Ob) : Prop where
  s0 : 0 ≤ x.server
  s1 : x.server < 256
  n0 : 0 ≤ x.n
  n1 : x.n < 256
  f0 : 0 ≤ x.frm
  f1 : x.frm < 4294967296
  t0 : 0 ≤ x.til
  t1 : x.til < 4294967296
  kl : x.key.length = 32
  sl : x.sig.length = 64
  kb : isBytes x.key
  sb : isBytes x.sig
  vs : x.vs = []
theorem otext_o {x : Ob} (h : ObOk x) : Calls Tryz.prog 44 #[.agg (obC x)] w fun e w' => ∃ q m c, e = .returned (.slice q m c) ∧ Bld w [] .u8 5 w' q m c (objText x) := by
  obtain ⟨server, n, key, frm, til, sig, vs⟩ := x
  obtain ⟨s0, s1, n0, n1, f0, f1, t0, t1, kl, sl, kb, sb, hv⟩ := h
  simp only at *
  subst hv
  obtain ⟨s, rfl⟩ := Int.eq_ofNat_of_zero_le s0
  obtain ⟨m, rfl⟩ := Int.eq_ofNat_of_zero_le n0
  obtain ⟨f, rfl⟩ := Int.eq_ofNat_of_zero_le f0
  obtain ⟨t, rfl⟩ := Int.eq_ofNat_of_zero_le t0
  exact otext_f (by omega) (by omega) (by omega) (by omega) kl sl rfl
theorem isBytes_obj {x : Ob} (h : ObOk x) : isBytes (objText x) := by
  have hp : ∀ k s, isBytes (putB k s) := fun k s y hy => by
    simp only [putB, List.mem_map] at hy
    obtain ⟨i, _, rfl⟩ := hy
    omega
  refine isBytes_join (by simp [fits, putB_len, h.kl]) ?_
  intro l hl
  simp only [List.mem_cons, List.not_mem_nil, or_false] at hl
  rcases hl with rfl | rfl | rfl | rfl | rfl | rfl
  · intro y hy; simp only [List.mem_cons, List.not_mem_nil, or_false] at hy; omega
  · exact hp _ _
  · exact hp _ _
  · exact h.kb
  · exact hp _ _
  · exact hp _ _
set_option maxRecDepth 100000 in
set_option maxHeartbeats 2000000 in
theorem ksign_f {lo tb : Nat} {T : List Tm} {k : List Int} {x : Ob} (h : TabP lo tb w T) (hk : k.length = 32) (hb : isBytes k) (hx : ObOk x) :
    Calls Tryz.prog 14 #[SU tb, .agg (ints .u8 k), .agg (obC x)] w fun e w' => e = .returned (.agg (obC { x with sig := (signF T k (objText x)).2 })) ∧ TabP lo tb w' (signF T k (objText x)).1 ∧ FrP lo w w' := by
  have H := Lib.hid h
  have HB := Lib.hid hb
  obtain ⟨xs, hxs⟩ : ∃ xs, xs = obC x := ⟨_, rfl⟩
  have hsz : xs.size = 101 := by rw [hxs, List.size_toArray, cObject_length _ _ _ _ _ _ _ hx.kl hx.sl]
  have x6 : xs[100]? = some (.slice none 0 0) := by rw [hxs]; exact cObject_get_vs _ _ _ _ _ _ _ hx.kl hx.sl
  replace x6 := (Array.getElem?_eq_some_iff.1 x6).2
  have xset : xs.setIfInBounds 100 (.slice none 0 0) = xs := by rw [hxs]; exact cObject_set_vs _ _ _ _ _ _ _ _ hx.kl hx.sl
  have xall : xs.extract 0 101 = xs := by rw [← hsz]; exact Array.extract_size
  rw [← hxs]
  have c1 : ∀ W : World, Calls Tryz.prog 44 #[.agg xs] W fun e w' => ∃ q m c, e = .returned (.slice q m c) ∧ Bld W [] .u8 5 w' q m c (objText x) := fun W => by rw [hxs]; exact otext_o hx
  have C1 := Lib.hid c1
  clear c1
  have HX := Lib.hid hxs
  have HO := Lib.hid hx
  clear h hb hxs hx
  go_enter Tryz.func14, Tryz.ntmps14
  go_wp2_with fail
  have hz : Tryz.zeroCells48.size = 101 := by kernel_rfl
  refine named_world (A := fun X => OwB w [(w.heap.size + 1 + 1 + 1, .cells Tryz.zeroCells48 48), (w.heap.size + 1 + 1, .cells xs 48), (w.heap.size + 1, .cells (ints .u8 k) 34), (w.heap.size, .cells #[.pointer (some ⟨tb, 0, none⟩)] 27)] X) (Q := fun X => Calls Tryz.prog 43 _ X _) (((((OwB.start w).allocN _ w.heap.size rfl).allocN _ (w.heap.size + 1) (by simp)).allocN _ (w.heap.size + 1 + 1) (by simp)).allocN _ (w.heap.size + 1 + 1 + 1) (by simp)) ?_
  intro V hV
  generalize w.heap.size + 1 + 1 + 1 = b6 at hV ⊢
  generalize w.heap.size + 1 + 1 = b5 at hV ⊢
  generalize w.heap.size + 1 = b4 at hV ⊢
  generalize w.heap.size = b3 at hV ⊢
  refine clone0_f.mono ?_
  rintro e V1 ⟨rfl, F1⟩
  have hV1 := hV.call F1
  clear hV F1
  have f5 := hV1.nth 1 rfl
  have t5 := World.at_lt f5
  have HV1 := Lib.hid hV1
  clear hV1
  go_upto_region 2 with (fail)
  refine named_world (A := fun X => OwB w [(b6, .cells Tryz.zeroCells48 48), (b5, .cells xs 48), (b4, .cells (ints .u8 k) 34), (b3, .cells #[.pointer (some ⟨tb, 0, none⟩)] 27)] X) (Q := fun X => Code.wp _ _ _ _ X) (HV1.out.set 1 _ rfl) ?_
  clear f5 t5 HV1
  intro U hU
  have f5 := hU.nth 1 rfl
  have f4 := hU.nth 2 rfl
  have f3 := hU.nth 3 rfl
  have t5 := World.at_lt f5
  have t4 := World.at_lt f4
  have t3 := World.at_lt f3
  have HU := Lib.hid hU
  clear hU
  refine drawn_begin 5 (fun w' => w'.blk b3 = some (.cells #[.pointer (some ⟨tb, 0, none⟩)] 27) ∧ w'.blk b4 = some (.cells (ints .u8 k) 34) ∧ w'.blk b5 = some (.cells xs 48)) (by kernel_rfl) ?_
  refine drawn_reads (fuel := 4) [0, 1, 2] rfl (by kernel_rfl) ⟨f3, f4, f5⟩ ?_
  repeat (first | (refine rowK_step2 rfl rfl (fun K hK => ?_); go_wp2) | (refine rowK_step rfl (fun K hK => ?_); go_simp; refine hK _ ?_; clear hK K))
  refine rowK_nil ⟨fun w' e1 => ?_, ?_⟩
  · obtain ⟨e1, e2, e3⟩ := e1
    clear f3 f4 f5
    repeat (first | (refine rowWp_step2 rfl rfl (fun K hK => ?_); go_wp2) | (refine rowWp_step rfl (fun K hK => ?_); go_simp; refine hK _ ?_; clear hK K))
    exact rowWp_nil rfl
  refine drawn_next 3 (fuel := 3) rfl (by kernel_rfl) ?_
  intro K hK
  go_wp2_with fail
  refine (C1.out _).mono ?_
  rintro e U1 ⟨q, m, c, rfl, hB⟩
  have hU1 := HU.out.drew.call hB.own.fr
  clear f3 f4 f5 t3 t4 t5
  have f5 := hU1.nth 1 rfl
  have f4 := hU1.nth 2 rfl
  have f3 := hU1.nth 3 rfl
  have t5 := World.at_lt f5
  have t4 := World.at_lt f4
  have t3 := World.at_lt f3
  have HU1 := Lib.hid hU1
  have HBt := Lib.hid hB
  clear hU1 hB
  go_wp2_with fail
  refine ⟨⟨f3, f4, f5⟩, ?_⟩
  refine drawn_next 4 (fuel := 2) rfl (by kernel_rfl) ?_
  intro K hK
  go_wp2_with fail
  refine (sign_f (H.out.fr0 HU1.out.fr) hk HB.out HBt.out.sl (isBytes_obj HO.out)).mono ?_
  rintro e U2 ⟨rfl, hT, F⟩
  have l6 := HU1.out.low 0 rfl
  have l5 := HU1.out.low 1 rfl
  have n65 := HU1.out.ne 0 1 rfl rfl (by decide)
  have n56 := n65.symm
  have FF := (FrT.of (t := TT) (lo := lo) HU1.out.fr).trans F
  have f6 := F.get (HU1.out.nth 0 rfl) (.inr ⟨by decide, by decide⟩)
  replace f5 := F.get f5 (.inr ⟨by decide, by decide⟩)
  replace f4 := F.get f4 (.inr ⟨by decide, by decide⟩)
  replace f3 := F.get f3 (.inr ⟨by decide, by decide⟩)
  clear t3 t4 t5
  have t6 := World.at_lt f6
  have t5 := World.at_lt f5
  have HT := Lib.hid hT
  have HF := Lib.hid FF
  have hsl := signF_len T k (objText x)
  obtain ⟨s2, hs2⟩ : ∃ s2, s2 = (signF T k (objText x)).2 := ⟨_, rfl⟩
  rw [← hs2] at hsl ⊢
  have HS2 := Lib.hid hs2
  obtain ⟨ys, hys⟩ : ∃ ys, ys = obC { x with sig := s2 } := ⟨_, rfl⟩
  have xspl : spl xs 36 (s2.map (Value.int .u8)) = ys := by rw [HX.out, hys]; exact cObject_spl_sig _ _ _ _ _ _ _ _ HO.out.kl HO.out.sl hsl
  have hszy : ys.size = 101 := by rw [hys, List.size_toArray, cObject_length _ _ _ _ _ _ _ HO.out.kl hsl]
  have yall : ys.extract 0 101 = ys := by rw [← hszy]; exact Array.extract_size
  have yones : ones ys.toList = true := by rw [hys]; exact List.all_eq_true.2 (cObject_one _ _ _ _ _ _ _ rfl rfl rfl rfl rfl)
  have HY := Lib.hid hys
  clear hT F FF hs2 hys
  go_wp2_with fail
  refine ⟨⟨f3, f4, f5⟩, ?_⟩
  refine drawn_end rfl (by kernel_rfl) ?_
  intro K hK
  go_wp2_with fail
  refine ret_cell rfl rfl rfl ?_
  go_simp
  exact ⟨by kernel_rfl, by rw [HY.out, HS2.out], (HT.out.put f5 (by decide) _).put (by rw [World.at_put_other _ _ _ _ n56]; exact f6) (by decide) _, (HF.out.put _ l5).put _ l6⟩
end
end Go.Proofs.YtbhnfohoclcjdaaGreat
namespace Go
section
variable {P : Program} {fn : Func} {R : Ending → World → Prop} {a : Act} {w : World}
theorem ret_cell_tmp2 {p ty b u v : Nat} (h : fn.results = #[.cell p ty, .tmp u, .tmp v]) (hp : a.tmps.getD p undef = .pointer (some ⟨b, 0, none⟩)) (hd : a.defers = [])
    (hR : cellRet P ty (w.blk b) (fun x => R (.returned (.tuple #[x, a.tmps.getD u undef, a.tmps.getD v undef])) w)) : bodyPost P fn R .ret a w := by
  unfold cellRet at hR
  split at hR
  · rename_i cs T fr hb
    refine bodyPost_ret (v := .tuple #[.agg cs, a.tmps.getD u undef, a.tmps.getD v undef]) ?_ hd hR.2
    have hp' : a.tmps[p]?.getD undef = .pointer (some ⟨b, 0, none⟩) := by simpa using hp
    simp [results, h, hp', asAddr, run_loadVar_agg hb hR.1]
  · exact hR.elim
end
end Go
namespace Go.Proofs.YtbhnfohoclcjdaaGreat
open Go.RowKit Go.Dr Go.Kd
section
variable {w : World}
set_option maxRecDepth 100000 in
set_option maxHeartbeats 2000000 in
theorem vouched0_f {sv : Array Value} {C : List Int} {xs : Array Value} (hC : C.length = 133) (hsv : sv.size = 1) (hsz : xs.size = 101) (hv : xs[100]? = some (.slice none 0 0)) :
    Calls Tryz.prog 49 #[.agg sv, .agg (ints .u8 C), .agg xs] w fun e w' => e = .returned (.int .i64 0) ∧ Fr [] w w' := by
  replace hv := (Array.getElem?_eq_some_iff.1 hv).2
  have hmk : ∀ W : World, (Instr.makeMap 166 none).run Tryz.prog W = .ok (.map (some W.heap.size)) (W.alloc (.map #[] 0)) := fun _ => rfl
  go_enter Tryz.func49, Tryz.ntmps49
  go_wp2_with fail
  refine named_world (A := fun X => OwB w [(w.heap.size + 1 + 1 + 1, .map #[] 0)] X) (Q := fun X => Code.wp _ _ _ _ X) (((((OwB.start w).alloc _).take.alloc _).take.alloc _).take.allocN _ (w.heap.size + 1 + 1 + 1) (by simp)) ?_
  intro V hV
  generalize w.heap.size + 1 + 1 + 1 = mb at hV ⊢
  have fm := hV.nth 0 rfl
  have HV := Lib.hid hV
  clear hV
  go_loopw [14] (fun iv wy => iv = .int .i64 0 ∧ wy = V) (fun _ _ => 0)
  case atStart => exact ⟨rfl, rfl⟩
  case round =>
    obtain ⟨rfl, rfl⟩ := hrel
    have hl : (Builtin.len_ #[166] 3 #[.map (some mb)]).run Tryz.prog wr = .ok (.int .i64 0) wr := run_len_map _ 166 3 mb #[] 0 (by kernel_rfl) fm
    go_wp2_with fail
    exact bodyPost_ret (results_tmp rfl _ _ _) rfl ⟨rfl, HV.out.fr⟩
end
end Go.Proofs.YtbhnfohoclcjdaaGreat
namespace Go
open Go.Dr
theorem flatMap_part {α β : Type} (f : α → List β) (m : Nat) : ∀ (xs : List α) (j : Nat) (x : α), (∀ x ∈ xs, (f x).length = m) → xs[j]? = some x → ((xs.flatMap f).drop (j * m)).take m = f x := by
  intro xs
  induction xs with
  | nil => intro j x _ h; simp at h
  | cons y xs ih =>
    intro j x hm h
    have hy := hm y (by simp)
    cases j with
    | zero =>
      simp only [List.getElem?_cons_zero, Option.some.injEq] at h
      subst h
      rw [Nat.zero_mul, List.drop_zero, List.flatMap_cons, List.take_append_of_le_length (by omega), List.take_of_length_le (by omega)]
    | succ j =>
      rw [List.flatMap_cons, List.drop_append, List.drop_eq_nil_of_le (by rw [hy, Nat.add_mul]; omega), List.nil_append, hy, show (j + 1) * m - m = j * m by rw [Nat.add_mul]; omega]
      exact ih j x (fun z hz => hm z (by simp [hz])) (by simpa using h)
theorem Sv.elem {sz : Nat} {w : World} {p : Option Addr} {n cap : Nat} {vs : List Value} (h : Sv sz w p n cap vs) {j : Nat} (hj : j < n) :
    ∃ b off cs T fr, p = some ⟨b, off, none⟩ ∧ w.blk b = some (.cells cs T fr) ∧ off + n * sz ≤ cs.size ∧ off + j * sz + sz ≤ cs.size ∧ cs.extract (off + j * sz) (off + j * sz + sz) = ((vs.drop (j * sz)).take sz).toArray := by
  obtain ⟨b, off, cs, T, fr, hp, hb, hs, hat⟩ := h.at hj
  have h1 : (j + 1) * sz ≤ n * sz := Nat.mul_le_mul_right _ hj
  rw [Nat.add_mul, Nat.one_mul] at h1
  have hl := h.len
  refine ⟨b, off, cs, T, fr, hp, hb, hs, by omega, ?_⟩
  apply Array.ext_getElem?
  intro i
  rcases Nat.lt_or_ge i sz with hi | hi
  · rw [Array.getElem?_extract_of_lt (by omega), ← Array.getElem?_eq_getElem, hat i hi]
    simp [List.getElem?_take, List.getElem?_drop, hi]
  · rw [Array.getElem?_eq_none (by simp only [Array.size_extract]; omega), Array.getElem?_eq_none (by simp; omega)]
end Go
namespace Go.Proofs.YtbhnfohoclcjdaaGreat
open Go.RowKit Go.Dr Go.Kd
/-- The first keys that a cache knows, out of its cells. -/
def firstC (C : List Int) : List Bs := [0, 1, 2, 3].map fun i => (C.drop (32 * i)).take 32
def highC (C : List Int) : List Int := (C.drop 128).take 4
def needC (C : List Int) : Nat := (el C 132).toNat
theorem verify_o {w : World} {lo tb : Nat} {T : List Tm} {k t : List Int} {p : Option Addr} {n cap : Nat} {x : Ob} (h : TabP lo tb w T) (hk : k.length = 32) (hb : isBytes k) (S : Sl .u8 w p n cap t) (ht : isBytes t) (hx : ObOk x) :
    Calls Tryz.prog 48 #[SU tb, .agg (ints .u8 k), .slice p n cap, .agg (ints .u8 x.sig)] w fun e w' => e = .returned (.bool (verifyF T k t x.sig)) ∧ Fr [] w w' := by
  have e : x.sig = x.sig.take 32 ++ x.sig.drop 32 := (List.take_append_drop 32 x.sig).symm
  rw [e]
  have hs := hx.sl
  exact verify_f h hk hb S ht (by rw [List.length_take]; omega) (by rw [List.length_drop]; omega) (fun y hy => hx.sb y (List.mem_of_mem_take hy))
theorem chainF_cons {T : List Tm} {first : List Bs} {need : Nat} {server : Int} {x : Ob} {l : List Ob} {i : Nat} {key : Bs} (hv : x.vs = []) :
    chainF T first need server (x :: l) i key = if (decide (x.server ≠ server) || decide (x.n ≠ (i : Int) + 1) || !verifyF T key (objText x) x.sig || decide (0 < need)) = true then none else chainF T first need server l (i + 1) x.key := by
  have hl : (vouchers T first x).length = 0 := by unfold vouchers; rw [hv]; rfl
  rw [chainF, hl]
  congr 1
  simp only [Bool.or_eq_true, decide_eq_true_eq, Bool.not_eq_true', or_assoc]
/-- What a chain's end says. -/
def endF (C : List Int) (server now : Nat) (xs : List Ob) : Option Bs → Bs × Int × Int
  | none => (Kd.zeros 32, 0, 200)
  | some key => if (xs.length : Int) < el C (128 + server) then (Kd.zeros 32, 0, 210) else match xs.getLast? with
    | some x => if (now : Int) < x.frm ∨ x.til ≤ (now : Int) then (Kd.zeros 32, 0, 201) else (key, xs.length, 0)
    | none => (key, xs.length, 0)
theorem endF_low {C : List Int} {server now : Nat} {xs : List Ob} {k : Bs} (h : (xs.length : Int) < el C (128 + server)) : endF C server now xs (some k) = (Kd.zeros 32, 0, 210) := by
  simp only [endF, if_pos h]
theorem endF_none {C : List Int} {server now : Nat} {xs : List Ob} {k : Bs} (h : ¬ (xs.length : Int) < el C (128 + server)) (hl : xs.getLast? = none) : endF C server now xs (some k) = (k, (xs.length : Int), 0) := by
  simp only [endF, if_neg h, hl]
theorem endF_some {C : List Int} {server now : Nat} {xs : List Ob} {k : Bs} {x : Ob} (h : ¬ (xs.length : Int) < el C (128 + server)) (hl : xs.getLast? = some x) : endF C server now xs (some k) = if (now : Int) < x.frm ∨ x.til ≤ (now : Int) then (Kd.zeros 32, 0, 201) else (k, (xs.length : Int), 0) := by
  simp only [endF, if_neg h, hl]
theorem checkF_end {T : List Tm} {C : List Int} {server now : Nat} {xs : List Ob} (h4 : server < 4) (hn : xs.length ≤ 4) (hC : C.length = 133) :
    checkF T (firstC C) (highC C) (needC C) server xs now = endF C server now xs (chainF T (firstC C) (needC C) server xs 0 (List.drop (server * 32) (List.take (server * 32 + 32) C))) := by
  have e1 : (firstC C).getD (server : Int).toNat [] = List.drop (server * 32) (List.take (server * 32 + 32) C) := by
    rw [List.drop_take, Nat.add_sub_cancel_left]
    rcases (show server = 0 ∨ server = 1 ∨ server = 2 ∨ server = 3 by omega) with rfl | rfl | rfl | rfl <;> rfl
  have e2 : (highC C).getD (server : Int).toNat 0 = el C (128 + server) := by
    simp only [highC, el, Int.toNat_natCast, List.getD_eq_getElem?_getD, List.getElem?_take, List.getElem?_drop]
    rw [if_pos h4]
  unfold checkF
  rw [if_neg (by omega), e1, e2]
  cases chainF T (firstC C) (needC C) server xs 0 (List.drop (server * 32) (List.take (server * 32 + 32) C)) with
  | none => rfl
  | some key => rfl
section
variable {w : World}
set_option maxRecDepth 100000 in
set_option maxHeartbeats 2000000 in
theorem check_f {lo tb : Nat} {T : List Tm} {C : List Int} {server : Nat} {now : Nat} {p : Option Addr} {n cap : Nat} {xs : List Ob} (h : TabP lo tb w T) (hC : C.length = 133) (hCb : isBytes C) (hs : server < 256) (hw : now < 4294967296)
    (S : Sv 101 w p n cap (xs.flatMap fun x => (obC x).toList)) (hn : xs.length = n) (hx : ∀ x ∈ xs, ObOk x) (hnb : n ≤ 1000000) :
    Calls Tryz.prog 19 #[SU tb, .agg (ints .u8 C), .int .u8 server, .slice p n cap, .int .u32 now] w fun e w' => e = .returned (.tuple #[.agg (ints .u8 (checkF T (firstC C) (highC C) (needC C) server xs now).1), .int .u8 (checkF T (firstC C) (highC C) (needC C) server xs now).2.1, .int .i64 (checkF T (firstC C) (highC C) (needC C) server xs now).2.2]) ∧ Fr [] w w' := by
  have H := Lib.hid h
  have HCB := Lib.hid hCb
  have HS := Lib.hid S
  have HX := Lib.hid hx
  obtain ⟨R, hR⟩ : ∃ R, R = checkF T (firstC C) (highC C) (needC C) server xs now := ⟨_, rfl⟩
  rw [← hR]
  have HR := Lib.hid hR
  have HN := Lib.hid hn
  clear h hCb S hx hR hn
  go_enter Tryz.func19, Tryz.ntmps19
  by_cases h4 : 4 ≤ server
  · have d : decide (4 ≤ (server : Int)) = true := by rw [decide_eq_true_eq]; omega
    have hr0 : R = (Kd.zeros 32, 0, 200) := by rw [HR.out]; unfold checkF; rw [if_pos (by omega)]
    have HR0 := Lib.hid hr0
    clear hr0
    go_upto_if 23 with (fail)
    refine named_world (A := fun X => OwB w [(w.heap.size + 1 + 1, .cells (ints .u8 (zs 32)) 34), (w.heap.size + 1, .cells (ints .u8 C) 38), (w.heap.size, .cells #[.pointer (some ⟨tb, 0, none⟩)] 27)] X) (Q := fun X => Code.wp _ _ _ _ X) ((((OwB.start w).allocN _ w.heap.size rfl).allocN _ (w.heap.size + 1) (by simp)).allocN _ (w.heap.size + 1 + 1) (by simp)) ?_
    intro V hV
    generalize w.heap.size + 1 + 1 = b10 at hV ⊢
    generalize w.heap.size + 1 = b6 at hV ⊢
    generalize w.heap.size = b5 at hV ⊢
    have f10 := hV.nth 0 rfl
    have t10 := World.at_lt f10
    have l10 := hV.low 0 rfl
    have F := Lib.hid (hV.fr.put b10 (.cells (ints .u8 (Kd.zeros 32)) 34) (fun h => by omega))
    clear hV
    go_wp2_with fail
    refine ret_cell_tmp2 rfl rfl rfl ?_
    go_simp
    rw [HR0.out]
    exact ⟨by kernel_rfl, ⟨rfl, rfl, rfl⟩, F.out⟩
  have d0 : decide (4 ≤ (server : Int)) = false := by rw [decide_eq_false_iff_not]; omega
  go_upto_if 23 with (fail)
  refine named_world (A := fun X => OwB w [(w.heap.size + 1 + 1, .cells (ints .u8 (zs 32)) 34), (w.heap.size + 1, .cells (ints .u8 C) 38), (w.heap.size, .cells #[.pointer (some ⟨tb, 0, none⟩)] 27)] X) (Q := fun X => Code.wp _ _ _ _ X) ((((OwB.start w).allocN _ w.heap.size rfl).allocN _ (w.heap.size + 1) (by simp)).allocN _ (w.heap.size + 1 + 1) (by simp)) ?_
  intro V hV
  generalize w.heap.size + 1 + 1 = b10 at hV ⊢
  generalize w.heap.size + 1 = b6 at hV ⊢
  generalize w.heap.size = b5 at hV ⊢
  have f10 := hV.nth 0 rfl
  have t10 := World.at_lt f10
  have l10 := hV.low 0 rfl
  have HV := Lib.hid hV
  by_cases hg : 4 < n
  · have d : decide (4 < (n : Int)) = true := by rw [decide_eq_true_eq]; omega
    have hr0 : R = (Kd.zeros 32, 0, 200) := by rw [HR.out]; unfold checkF; rw [if_pos (by rw [HN.out]; omega)]
    clear hV
    have F := Lib.hid (HV.out.fr.put b10 (.cells (ints .u8 (Kd.zeros 32)) 34) (fun h => by omega))
    have HR0 := Lib.hid hr0
    clear hr0
    go_wp2_with fail
    refine ret_cell_tmp2 rfl rfl rfl ?_
    go_simp
    rw [HR0.out]
    exact ⟨by kernel_rfl, ⟨rfl, rfl, rfl⟩, F.out⟩
  · have d : decide (4 < (n : Int)) = false := by rw [decide_eq_false_iff_not]; omega
    have d4 : decide ((server : Int) < 4) = true := by rw [decide_eq_true_eq]; omega
    have f6 := hV.nth 1 rfl
    have t6 := World.at_lt f6
    clear hV
    go_wp2_with fail
    obtain ⟨k0, hk0⟩ : ∃ k0, k0 = List.drop (server * 32) (List.take (server * 32 + 32) C) := ⟨_, rfl⟩
    have e13 : (List.drop (server * 32) (List.take (server * 32 + 32) (List.map (Value.int .u8) C))).toArray = ints .u8 k0 := by rw [hk0, ints, List.map_drop, List.map_take]
    have lk0 : k0.length = 32 := by rw [hk0, List.length_drop, List.length_take]; omega
    have bk0 : isBytes k0 := fun x hx => HCB.out x (by rw [hk0] at hx; exact List.mem_of_mem_take (List.mem_of_mem_drop hx))
    rw [e13, ← hk0]
    obtain ⟨K0, hK0⟩ : ∃ K0, K0 = chainF T (firstC C) (needC C) server xs 0 k0 := ⟨_, rfl⟩
    have hR1 : R = endF C server now xs K0 := by rw [HR.out, checkF_end (by omega) (by rw [HN.out]; omega) hC, hK0, hk0]
    have HR1 := Lib.hid hR1
    have HK0 := Lib.hid hK0
    have HBK := Lib.hid bk0
    refine named_world (A := fun X => OwB w [(V.heap.size, .cells (ints .u8 k0) 34), (b10, .cells (ints .u8 (zs 32)) 34), (b6, .cells (ints .u8 C) 38), (b5, .cells #[.pointer (some ⟨tb, 0, none⟩)] 27)] X) (Q := fun X => Code.wp _ _ _ _ X) (HV.out.allocN _ V.heap.size rfl) ?_
    intro U hU
    clear f10 t10 f6 t6 hR1 hK0 bk0 hk0 e13
    generalize V.heap.size = b13 at hU ⊢
    have HU := Lib.hid hU
    clear hU
    go_loopw [31] (fun iv wy => ∃ (i : Nat) (k : List Int), i ≤ n ∧ iv = .int .i64 (i : Int) ∧ k.length = 32 ∧ Hid (isBytes k) ∧ Hid (OwB w [(b13, .cells (ints .u8 k) 34), (b10, .cells (ints .u8 (zs 32)) 34), (b6, .cells (ints .u8 C) 38), (b5, .cells #[.pointer (some ⟨tb, 0, none⟩)] 27)] wy) ∧ Hid (K0 = chainF T (firstC C) (needC C) server (xs.drop i) i k)) (fun iv _ => (n - intOf iv).toNat)
    case atStart => exact ⟨0, k0, by omega, rfl, lk0, HBK, HU, HK0⟩
    case round =>
      obtain ⟨i, k, hi9, rfl, hk, hbk, hO, hKi⟩ := hrel
      by_cases hlt : i < n
      · have hd : decide ((i : Int) < (n : Int)) = true := by rw [decide_eq_true_eq]; omega
        obtain ⟨b, off, cs, TT, fr, rfl, fc0, hs1, hs2, hext⟩ := HS.out.elem hlt
        obtain ⟨x, hxi⟩ : ∃ x, xs[i]? = some x := ⟨xs[i]'(by rw [HN.out]; exact hlt), List.getElem?_eq_getElem _⟩
        have hox := HX.out x (List.mem_of_getElem? hxi)
        rw [flatMap_part (fun x => (obC x).toList) 101 xs i x (fun y hy => by rw [Array.length_toList, List.size_toArray, cObject_length _ _ _ _ _ _ _ (HX.out y hy).kl (HX.out y hy).sl]) hxi] at hext
        have fc := hO.out.fr.get fc0 (by simp)
        obtain ⟨X, hX⟩ : ∃ X, X = obC x := ⟨_, rfl⟩
        have hext2 : cs.extract (off + i * 101) (off + i * 101 + 101) = X := by rw [hext, hX]
        have HXE := Lib.hid hX
        have hszX : X.size = 101 := by rw [hX, List.size_toArray, cObject_length _ _ _ _ _ _ _ hox.kl hox.sl]
        have xones : ones X.toList = true := by rw [hX]; exact List.all_eq_true.2 (cObject_one _ _ _ _ _ _ _ rfl rfl rfl rfl rfl)
        have HOX := Lib.hid hox
        have HXI := Lib.hid hxi
        clear hext hX hox hxi fc0
        go_upto_region 7 with (fail)
        refine named_world (A := fun Y => OwB w [(wr.heap.size, .cells X 48), (b13, .cells (ints .u8 k) 34), (b10, .cells (ints .u8 (zs 32)) 34), (b6, .cells (ints .u8 C) 38), (b5, .cells #[.pointer (some ⟨tb, 0, none⟩)] 27)] Y) (Q := fun Y => Code.wp _ _ _ _ Y) (hO.out.allocN _ wr.heap.size rfl) ?_
        intro U1 hU1
        clear fc hext2 hs1 hs2
        generalize wr.heap.size = bx at hU1 ⊢
        have HU1 := Lib.hid hU1
        obtain ⟨bad, hbad⟩ : ∃ bad, bad = (decide (x.server ≠ (server : Int)) || decide (x.n ≠ (i : Int) + 1) || !verifyF T k (objText x) x.sig || decide (0 < needC C)) := ⟨_, rfl⟩
        have hKi2 : K0 = if bad = true then none else chainF T (firstC C) (needC C) server (xs.drop (i + 1)) (i + 1) x.key := by
          have hil : i < xs.length := by rw [HN.out]; exact hlt
          rw [hKi.out, List.drop_eq_getElem_cons hil, hbad, show xs[i] = x from (List.getElem?_eq_some_iff.1 HXI.out).2]
          exact chainF_cons HOX.out.vs
        have HKI := Lib.hid hKi2
        have HBAD := Lib.hid hbad
        clear hKi2 hbad hU1
        go_cut [36, 37, 38, 39, 40, 41, 42, 43, 44, 45, 46, 47, 48, 49, 50, 51, 52, 53, 54, 55, 56, 57, 58, 59, 60, 61, 62, 63, 64, 65, 66, 67] (fun _ _ _ _ _ _ _ _ _ _ _ _ _ _ _ _ _ _ _ _ _ _ _ _ _ _ _ _ _ _ _ v wy => v = .bool bad ∧ Hid (OwB w [(bx, .cells X 48), (b13, .cells (ints .u8 k) 34), (b10, .cells (ints .u8 (zs 32)) 34), (b6, .cells (ints .u8 C) 38), (b5, .cells #[.pointer (some ⟨tb, 0, none⟩)] 27)] wy))
        case first =>
          have fx := HU1.out.nth 0 rfl
          have tx := World.at_lt fx
          have x0 : X[0]? = some (.int .u8 x.server) := by rw [HXE.out]; exact cObject_get_server _ _ _ _ _ _ _ HOX.out.kl HOX.out.sl
          replace x0 := (Array.getElem?_eq_some_iff.1 x0).2
          have x1 : X[1]? = some (.int .u8 x.n) := by rw [HXE.out]; exact cObject_get_n _ _ _ _ _ _ _ HOX.out.kl HOX.out.sl
          replace x1 := (Array.getElem?_eq_some_iff.1 x1).2
          have hne : Nonempty Unit := ⟨()⟩
          have w1 : IntKind.i64.wrap ((i : Int) + 1) = (i : Int) + 1 := by rw [IntKind.wrap_i64]; omega
          have w2 : IntKind.i64.wrap x.n = x.n := by have h0 := HOX.out.n0; have h1 := HOX.out.n1; rw [IntKind.wrap_i64]; omega
          by_cases hA : x.server = (server : Int)
          · have dA : (x.server != (server : Int)) = false := by simp [hA]
            by_cases hB : x.n = (i : Int) + 1
            · have dB : (x.n != (i : Int) + 1) = false := by simp [hB]
              have HA := Lib.hid hA
              have HB := Lib.hid hB
              clear hA hB
              have f13 := HU1.out.nth 1 rfl
              have f6 := HU1.out.nth 3 rfl
              have f5 := HU1.out.nth 4 rfl
              have xall : X.extract 0 101 = X := by rw [← hszX]; exact Array.extract_size
              have xsig : X.extract 36 100 = ints .u8 x.sig := by rw [HXE.out]; exact cObject_ext_sig _ _ _ _ _ _ _ HOX.out.kl HOX.out.sl
              have c1 : ∀ W : World, Calls Tryz.prog 44 #[.agg X] W fun e w' => ∃ q m c, e = .returned (.slice q m c) ∧ Bld W [] .u8 5 w' q m c (objText x) := fun W => by rw [HXE.out]; exact otext_o HOX.out
              have c3 : ∀ W : World, Calls Tryz.prog 49 #[SU tb, .agg (ints .u8 C), .agg X] W fun e w' => e = .returned (.int .i64 0) ∧ Fr [] W w' := fun W => vouched0_f hC rfl hszX (by rw [HXE.out]; exact cObject_get_vs _ _ _ _ _ _ _ HOX.out.kl HOX.out.sl)
              have C1 := Lib.hid c1
              have C3 := Lib.hid c3
              have hnd0 : 0 ≤ el C 132 ∧ el C 132 < 256 := HCB.out _ (by rw [el, List.getD_eq_getElem?_getD, List.getElem?_eq_getElem (by omega)]; simp)
              have w3 : IntKind.i64.wrap (el C 132) = (needC C : Int) := by rw [IntKind.wrap_i64]; unfold needC; omega
              have l132 : 132 < C.length := by omega
              have t13 := World.at_lt f13
              have t6 := World.at_lt f6
              have t5 := World.at_lt f5
              clear c1 c3 hnd0
              refine drawn_begin 32 (fun w' => w'.blk bx = some (.cells X 48) ∧ w'.blk b13 = some (.cells (ints .u8 k) 34) ∧ w'.blk b6 = some (.cells (ints .u8 C) 38) ∧ w'.blk b5 = some (.cells #[.pointer (some ⟨tb, 0, none⟩)] 27)) (by kernel_rfl) ?_
              refine drawn_reads (fuel := 14) [0, 1, 2, 3, 4, 5, 6, 7, 8, 9, 10, 11, 12, 13, 14, 15, 17, 18] rfl (by kernel_rfl) ⟨fx, f13, f6, f5⟩ ?_
              repeat (first | (refine rowK_step2 rfl rfl (fun K hK => ?_); go_wp2) | (refine rowK_step rfl (fun K hK => ?_); go_simp; refine hK _ ?_; clear hK K))
              refine rowK_nil ⟨fun w' e1 => ?_, ?_⟩
              · obtain ⟨e1, e2, e3, e4⟩ := e1
                clear fx f13 f6 f5
                repeat (first | (refine rowWp_step2 rfl rfl (fun K hK => ?_); go_wp2) | (refine rowWp_step rfl (fun K hK => ?_); go_simp; refine hK _ ?_; clear hK K))
                exact rowWp_nil rfl
              refine drawn_next 16 (fuel := 13) rfl (by kernel_rfl) ?_
              intro K hK
              go_wp2_with fail
              refine (C1.out _).mono ?_
              rintro e U2 ⟨q, m, c, rfl, hB⟩
              have hU2 := HU1.out.drew.call hB.own.fr
              clear fx f13 f6 f5 tx t13 t6 t5
              have fx := hU2.nth 0 rfl
              have f13 := hU2.nth 1 rfl
              have f6 := hU2.nth 3 rfl
              have f5 := hU2.nth 4 rfl
              have tx := World.at_lt fx
              have t13 := World.at_lt f13
              have t6 := World.at_lt f6
              have t5 := World.at_lt f5
              have HU2 := Lib.hid hU2
              have HBt := Lib.hid hB
              clear hU2 hB
              go_wp2_with fail
              refine ⟨⟨fx, f13, f6, f5⟩, ?_⟩
              refine drawn_next 19 (fuel := 12) rfl (by kernel_rfl) ?_
              intro K hK
              go_wp2_with fail
              refine (verify_o (H.out.fr0 HU2.out.fr) hk hbk.out HBt.out.sl (isBytes_obj HOX.out) HOX.out).mono ?_
              rintro e U3 ⟨rfl, F3⟩
              have hU3 := HU2.out.call F3
              clear fx f13 f6 f5 tx t13 t6 t5 F3
              have fx := hU3.nth 0 rfl
              have f13 := hU3.nth 1 rfl
              have f6 := hU3.nth 3 rfl
              have f5 := hU3.nth 4 rfl
              have tx := World.at_lt fx
              have t13 := World.at_lt f13
              have t6 := World.at_lt f6
              have t5 := World.at_lt f5
              have HU3 := Lib.hid hU3
              clear hU3
              have hb : bad = (!verifyF T k (objText x) x.sig || decide (0 < needC C)) := by rw [HBAD.out]; simp [HA.out, HB.out]
              generalize verifyF T k (objText x) x.sig = vb at hb ⊢
              have HBB := Lib.hid hb
              clear hb
              go_wp2_with fail
              refine ⟨⟨fx, f13, f6, f5⟩, ?_⟩
              cases vb with
              | false =>
                refine drawn_reads (fuel := 0) [20, 21, 22, 23, 24, 25, 26, 27, 28, 29, 30, 31] rfl (by kernel_rfl) ⟨fx, f13, f6, f5⟩ ?_
                repeat (first | (refine rowK_step2 rfl rfl (fun K hK => ?_); go_wp2) | (refine rowK_step rfl (fun K hK => ?_); go_simp; refine hK _ ?_; clear hK K))
                refine rowK_nil ⟨fun w' e1 => ?_, ?_⟩
                · obtain ⟨e1, e2, e3, e4⟩ := e1
                  clear fx f13 f6 f5
                  repeat (first | (refine rowWp_step2 rfl rfl (fun K hK => ?_); go_wp2) | (refine rowWp_step rfl (fun K hK => ?_); go_simp; refine hK _ ?_; clear hK K))
                  exact rowWp_nil rfl
                refine drawn_end (ol := []) rfl (by kernel_rfl) ?_
                intro K hK
                go_wp2_with fail
                go_meet
                case rel => exact ⟨by rw [HBB.out]; rfl, HU3⟩
              | true =>
                refine drawn_reads (fuel := 3) [20, 21, 22, 23, 24, 25, 27, 28, 29] rfl (by kernel_rfl) ⟨fx, f13, f6, f5⟩ ?_
                repeat (first | (refine rowK_step2 rfl rfl (fun K hK => ?_); go_wp2) | (refine rowK_step rfl (fun K hK => ?_); go_simp; refine hK _ ?_; clear hK K))
                refine rowK_nil ⟨fun w' e1 => ?_, ?_⟩
                · obtain ⟨e1, e2, e3, e4⟩ := e1
                  clear fx f13 f6 f5
                  repeat (first | (refine rowWp_step2 rfl rfl (fun K hK => ?_); go_wp2) | (refine rowWp_step rfl (fun K hK => ?_); go_simp; refine hK _ ?_; clear hK K))
                  exact rowWp_nil rfl
                refine drawn_next 26 (fuel := 2) rfl (by kernel_rfl) ?_
                intro K hK
                go_wp2_with fail
                refine (C3.out _).mono ?_
                rintro e U4 ⟨rfl, F4⟩
                have hU4 := HU3.out.call F4
                clear fx f13 f6 f5 tx t13 t6 t5 F4
                have fx := hU4.nth 0 rfl
                have f13 := hU4.nth 1 rfl
                have f6 := hU4.nth 3 rfl
                have f5 := hU4.nth 4 rfl
                have tx := World.at_lt fx
                have HU4 := Lib.hid hU4
                clear hU4
                have HBB2 : Hid (bad = decide (0 < needC C)) := Lib.hid (by rw [HBB.out]; simp)
                go_wp2_with fail
                refine ⟨⟨fx, f13, f6, f5⟩, ?_⟩
                refine drawn_reads (fuel := 0) [30, 31] rfl (by kernel_rfl) ⟨fx, f13, f6, f5⟩ ?_
                repeat (first | (refine rowK_step2 rfl rfl (fun K hK => ?_); go_wp2) | (refine rowK_step rfl (fun K hK => ?_); go_simp; refine hK _ ?_; clear hK K))
                refine rowK_nil ⟨fun w' e1 => ?_, ?_⟩
                · repeat (first | (refine rowWp_step2 rfl rfl (fun K hK => ?_); go_wp2) | (refine rowWp_step rfl (fun K hK => ?_); go_simp; refine hK _ ?_; clear hK K))
                  exact rowWp_nil rfl
                refine drawn_end (ol := []) rfl (by kernel_rfl) ?_
                intro K hK
                go_wp2_with fail
                go_meet
                case rel => exact ⟨by rw [HBB2.out], HU4⟩
            · have dB : (x.n != (i : Int) + 1) = true := by simp [hB]
              have hb : bad = true := by rw [HBAD.out]; simp [hB]
              have HB := Lib.hid hb
              clear hA hB hb
              refine wp_region_quiet_all (C := fun w' => ∃ _ : Unit, w' = U1.drew) (by kernel_rfl) (by kernel_rfl) ⟨(), rfl⟩ ?_
              repeat (go_big_quiet_step (fail))
              refine wpQuiet_nil ?_
              intro _ hw'
              obtain ⟨_, rfl⟩ := hw'
              go_wp2_with fail
              go_meet
              case rel => exact ⟨by rw [HB.out], Lib.hid HU1.out.drew⟩
          · have dA : (x.server != (server : Int)) = true := by simp [hA]
            have hb : bad = true := by rw [HBAD.out]; simp [hA]
            have HB := Lib.hid hb
            clear hA hb
            refine wp_region_quiet_all (C := fun w' => ∃ _ : Unit, w' = U1.drew) (by kernel_rfl) (by kernel_rfl) ⟨(), rfl⟩ ?_
            repeat (go_big_quiet_step (fail))
            refine wpQuiet_nil ?_
            intro _ hw'
            obtain ⟨_, rfl⟩ := hw'
            go_wp2_with fail
            go_meet
            case rel => exact ⟨by rw [HB.out], Lib.hid HU1.out.drew⟩
        case rest =>
          obtain ⟨rfl, hO2⟩ := hcut
          have f13 := hO2.out.nth 1 rfl
          have fx := hO2.out.nth 0 rfl
          have f10 := hO2.out.nth 2 rfl
          have t13 := World.at_lt f13
          have tx := World.at_lt fx
          have t10 := World.at_lt f10
          cases bad with
          | true =>
            have hr0 : R = (Kd.zeros 32, 0, 200) := by rw [HR1.out, HKI.out]; rfl
            have HR0 := Lib.hid hr0
            have F := Lib.hid (hO2.out.fr.put b10 (.cells (ints .u8 (Kd.zeros 32)) 34) (fun h => by omega))
            clear hr0
            go_wp2_with fail
            refine ret_cell_tmp2 rfl rfl rfl ?_
            go_simp
            rw [HR0.out]
            exact ⟨by kernel_rfl, ⟨rfl, rfl, rfl⟩, F.out⟩
          | false =>
            have xkey : X.extract 2 34 = ints .u8 x.key := by rw [HXE.out]; exact cObject_ext_key _ _ _ _ _ _ _ HOX.out.kl HOX.out.sl
            have lk := HOX.out.kl
            go_wp2_with fail
            go_roundw
            case rel =>
              refine ⟨i + 1, x.key, by omega, by simp, HOX.out.kl, Lib.hid HOX.out.kb, Lib.hid ?_, Lib.hid (by rw [HKI.out]; rfl)⟩
              exact hO2.out.take.set 0 _ rfl
            case measure => simp [intOf]; omega
      · obtain rfl : i = n := by omega
        have hd : decide ((i : Int) < (i : Int)) = false := by simp
        have hK1 : K0 = some k := by rw [hKi.out, List.drop_eq_nil_of_le (by rw [HN.out]; exact Nat.le_refl _)]; rfl
        have HK1 := Lib.hid hK1
        have f6 := hO.out.nth 2 rfl
        have f10 := hO.out.nth 1 rfl
        have f13 := hO.out.nth 0 rfl
        have t6 := World.at_lt f6
        have t10 := World.at_lt f10
        have t13 := World.at_lt f13
        have hh := HCB.out (el C (128 + server)) (by rw [el, List.getD_eq_getElem?_getD, List.getElem?_eq_getElem (by omega)]; simp)
        have lC : 128 + server < C.length := by omega
        have hs5 : server < 5 := by omega
        have hs6 : 128 + server < 133 := by omega
        obtain ⟨hi, hhi⟩ : ∃ hi, hi = el C (128 + server) := ⟨_, rfl⟩
        have w5 : IntKind.i64.wrap hi = hi := by rw [IntKind.wrap_i64]; omega
        have HHI := Lib.hid hhi
        rw [hhi] at w5
        clear hK1 hh hhi
        by_cases hlow : (i : Int) < el C (128 + server)
        · have dl : decide ((i : Int) < el C (128 + server)) = true := by rw [decide_eq_true_eq]; exact hlow
          have hr0 : R = (Kd.zeros 32, 0, 210) := by rw [HR1.out, HK1.out]; exact endF_low (by rw [HN.out]; exact hlow)
          have HR0 := Lib.hid hr0
          have F := Lib.hid (hO.out.fr.put b10 (.cells (ints .u8 (Kd.zeros 32)) 34) (fun h => by omega))
          clear hr0
          go_wp2_with fail
          refine ret_cell_tmp2 rfl rfl rfl ?_
          go_simp
          rw [HR0.out]
          exact ⟨by kernel_rfl, ⟨rfl, rfl, rfl⟩, F.out⟩
        · have dl : decide ((i : Int) < el C (128 + server)) = false := by rw [decide_eq_false_iff_not]; exact hlow
          have hlow2 : ¬ (xs.length : Int) < el C (128 + server) := by rw [HN.out]; exact hlow
          have w6 : IntKind.u8.wrap (i : Int) = (i : Int) := by rw [IntKind.wrap_u8]; omega
          cases hlast : xs.getLast? with
          | none =>
            have hr0 : R = (k, (i : Int), 0) := by rw [HR1.out, HK1.out, endF_none hlow2 hlast, HN.out]
            have HR0 := Lib.hid hr0
            have hi0 : i = 0 := by
              rw [List.getLast?_eq_none_iff] at hlast
              have h2 := HN.out
              rw [hlast] at h2
              simpa using h2.symm
            have di : decide ((i : Int) > 0) = false := by rw [hi0]; rfl
            have di2 : decide (0 < (i : Int)) = false := by rw [hi0]; rfl
            have di3 : decide (0 < i) = false := by rw [hi0]; rfl
            clear hi0
            have F := Lib.hid (hO.out.fr.put b10 (.cells (ints .u8 k) 34) (fun h => by omega))
            clear hr0 hlow2 hlast hlow
            go_wp2_with fail
            refine ret_cell_tmp2 rfl rfl rfl ?_
            go_simp
            rw [HR0.out]
            exact ⟨by kernel_rfl, ⟨rfl, rfl, rfl⟩, F.out⟩
          | some x =>
            have hr1 := endF_some (k := k) (now := now) hlow2 hlast
            rw [← HK1.out, ← HR1.out, HN.out] at hr1
            have HRR := Lib.hid hr1
            obtain ⟨j, hj⟩ : ∃ j, i = j + 1 := by
              refine ⟨i - 1, ?_⟩
              have : xs ≠ [] := fun e => by rw [e] at hlast; cases hlast
              have := List.length_pos_iff.2 this
              have h2 := HN.out
              omega
            have hxj : xs[j]? = some x := by
              rw [List.getLast?_eq_getElem?] at hlast
              rw [HN.out, hj] at hlast
              exact hlast
            have hox := HX.out x (List.mem_of_getElem? hxj)
            obtain ⟨b, off, cs, TT, fr, rfl, fc0, hs1, hs2, hext⟩ := HS.out.elem (j := j) (by omega)
            rw [flatMap_part (fun x => (obC x).toList) 101 xs j x (fun y hy => by rw [Array.length_toList, List.size_toArray, cObject_length _ _ _ _ _ _ _ (HX.out y hy).kl (HX.out y hy).sl]) hxj] at hext
            have fc := hO.out.fr.get fc0 (by simp)
            have g3 : cs[off + j * 101 + 34]? = some (.int .u32 x.frm) := by
              have h1 : (cs.extract (off + j * 101) (off + j * 101 + 101))[34]? = some (.int .u32 x.frm) := by rw [hext]; exact cObject_get_frm _ _ _ _ _ _ _ hox.kl hox.sl
              rwa [Array.getElem?_extract_of_lt (by omega), ← Array.getElem?_eq_getElem] at h1
            have g4 : cs[off + j * 101 + 35]? = some (.int .u32 x.til) := by
              have h1 : (cs.extract (off + j * 101) (off + j * 101 + 101))[35]? = some (.int .u32 x.til) := by rw [hext]; exact cObject_get_til _ _ _ _ _ _ _ hox.kl hox.sl
              rwa [Array.getElem?_extract_of_lt (by omega), ← Array.getElem?_eq_getElem] at h1
            have g3' := (Array.getElem?_eq_some_iff.1 g3).2
            have g4' := (Array.getElem?_eq_some_iff.1 g4).2
            have hi0 : decide ((i : Int) > 0) = true := by rw [decide_eq_true_eq]; omega
            have w7 : IntKind.i64.wrap ((i : Int) - 1) = (j : Int) := by rw [IntKind.wrap_i64]; omega
            have dj : decide ((j : Int) < (i : Int)) = true := by rw [decide_eq_true_eq]; omega
            have hji : j < i := by omega
            have HJ := Lib.hid hj
            have F := Lib.hid (hO.out.fr.put b10 (.cells (ints .u8 k) 34) (fun h => by omega))
            have F2 := Lib.hid (hO.out.fr.put b10 (.cells (ints .u8 (Kd.zeros 32)) 34) (fun h => by omega))
            clear hr1 hlow2 hlast hlow hj hxj hox hext fc0
            by_cases hw1 : (now : Int) < x.frm
            · have dw : decide ((now : Int) < x.frm) = true := by rw [decide_eq_true_eq]; exact hw1
              have hr0 : R = (Kd.zeros 32, 0, 201) := by rw [HRR.out, if_pos (Or.inl hw1)]
              have HR0 := Lib.hid hr0
              clear hr0 hw1
              go_wp2_with fail
              refine ret_cell_tmp2 rfl rfl rfl ?_
              go_simp
              rw [HR0.out]
              exact ⟨by kernel_rfl, ⟨rfl, rfl, rfl⟩, F2.out⟩
            · have dw : decide ((now : Int) < x.frm) = false := by rw [decide_eq_false_iff_not]; exact hw1
              by_cases hw2 : x.til ≤ (now : Int)
              · have dw2 : decide ((now : Int) ≥ x.til) = true := by rw [decide_eq_true_eq]; exact hw2
                have dw3 : decide (x.til ≤ (now : Int)) = true := by rw [decide_eq_true_eq]; exact hw2
                have hr0 : R = (Kd.zeros 32, 0, 201) := by rw [HRR.out, if_pos (Or.inr hw2)]
                have HR0 := Lib.hid hr0
                clear hr0 hw1 hw2
                go_wp2_with fail
                refine ret_cell_tmp2 rfl rfl rfl ?_
                go_simp
                rw [HR0.out]
                exact ⟨by kernel_rfl, ⟨rfl, rfl, rfl⟩, F2.out⟩
              · have dw2 : decide ((now : Int) ≥ x.til) = false := by rw [decide_eq_false_iff_not]; exact hw2
                have dw3 : decide (x.til ≤ (now : Int)) = false := by rw [decide_eq_false_iff_not]; exact hw2
                have hr0 : R = (k, (i : Int), 0) := by rw [HRR.out, if_neg (by omega)]
                have HR0 := Lib.hid hr0
                clear hr0 hw1 hw2
                go_wp2_with fail
                refine ret_cell_tmp2 rfl rfl rfl ?_
                go_simp
                rw [HR0.out]
                exact ⟨by kernel_rfl, ⟨rfl, rfl, rfl⟩, F.out⟩
end
end Go.Proofs.YtbhnfohoclcjdaaGreat
