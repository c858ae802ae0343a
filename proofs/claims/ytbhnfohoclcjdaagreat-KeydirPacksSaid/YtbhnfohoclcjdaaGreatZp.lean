/- Joined: DcF, DcG, DcH, DcI, DcJ. -/
import Derived.Test.YtbhnfohoclcjdaaGreatZo
set_option linter.unusedVariables false
set_option linter.unusedSimpArgs false
namespace Go.Proofs.YtbhnfohoclcjdaaGreat
open Go.RowKit Go.Dr Go.Kd
theorem dof_kind {T : List Tm} {k : List Int} {w : World} {kind : Int} {q : Option Addr} {m c : Nat} {ok : Bool} (h : DOfRes T k w kind q m c ok) {n : Int} (hn : n ≠ 0) (hk : kind = n) : ∃ u, ofT T k = some u ∧ u.1 = n ∧ u.2.length = m ∧ SllD w q m c u.2 := by
  unfold DOfRes at h
  split at h
  · exact absurd (h.1.symm.trans hk) (fun e => hn e.symm)
  · rename_i u hu
    exact ⟨u, hu, by rw [← hk, h.1], h.2.2.now.len, h.2.2⟩
theorem dof_no {T : List Tm} {k : List Int} {w : World} {kind : Int} {q : Option Addr} {m c : Nat} {ok : Bool} (h : DOfRes T k w kind q m c ok) {n : Int} {l : Nat} (hk : kind ≠ n ∨ m ≠ l) : ∀ u, ofT T k = some u → ¬ (u.1 = n ∧ u.2.length = l) := by
  intro u hu ⟨h1, h2⟩
  unfold DOfRes at h
  rw [hu] at h
  rcases hk with hk | hk
  · exact hk (h.1.trans h1)
  · exact hk (by rw [← h.2.2.now.len, h2])
theorem verR_no1 {T : List Tm} {k t s1 s2 : List Int} (h : ∀ u, ofT T s1 = some u → ¬ (u.1 = 6 ∧ u.2.length = 2)) : verR T k t s1 s2 = false := by
  cases hu : ofT T s1 with
  | none => exact verR_none hu
  | some u =>
    rw [verR_some hu]
    have := h u hu
    by_cases h1 : u.1 = 6
    · have h2 : ¬ u.2.length = 2 := fun h2 => this ⟨h1, h2⟩
      simp [h2]
    · simp [h1]
theorem verR_no2 {T : List Tm} {k t s1 s2 : List Int} (h : ∀ u, ofT T k = some u → ¬ (u.1 = 5 ∧ u.2.length = 1)) : verR T k t s1 s2 = false := by
  cases hu : ofT T s1 with
  | none => exact verR_none hu
  | some u =>
    rw [verR_some hu]
    cases hv : ofT T k with
    | none => simp
    | some v =>
      have := h v hv
      by_cases h1 : v.1 = 5
      · have h2 : ¬ v.2.length = 1 := fun h2 => this ⟨h1, h2⟩
        simp [h2]
      · simp [h1]
theorem dof_step {T : List Tm} {k : List Int} {w w' : World} {kind : Int} {q : Option Addr} {m c : Nat} {ok : Bool} (h : DOfRes T k w kind q m c ok) (F : Fr [] w w') : DOfRes T k w' kind q m c ok := by
  unfold DOfRes at h ⊢
  split
  · rename_i e; rw [e] at h; exact h
  · rename_i u e; rw [e] at h; exact ⟨h.1, h.2.1, h.2.2.step (.of F)⟩
section
variable {w : World}
set_option maxRecDepth 100000 in
set_option maxHeartbeats 4000000 in
theorem dverify_f {lo tb : Nat} {T : List Tm} {k t s1 s2 : List Int} {p : Option Addr} {n cap : Nat} (h : DTabP lo tb w T) (hk : k.length = 32) (hb : isBytes k) (S : Sl .u8 w p n cap t) (ht : isBytes t) (h1 : s1.length = 32) (h2 : s2.length = 32) (hb1 : isBytes s1) :
    Calls Tryz.prog 50 #[SU tb, .agg (ints .u8 k), .slice p n cap, .agg (ints .u8 (s1 ++ s2))] w fun e w' => e = .returned (.bool (verifyF T k t (s1 ++ s2))) ∧ Fr [] w w' := by
  have H := Lib.hid h
  have HB := Lib.hid hb
  have HS := Lib.hid S
  have HT := Lib.hid ht
  have HB1 := Lib.hid hb1
  have HN := Lib.hid S.len
  obtain ⟨r, hr⟩ : ∃ r, r = verifyF T k t (s1 ++ s2) := ⟨_, rfl⟩
  rw [← hr]
  rw [verifyF_eq h1, S.len] at hr
  have HR := Lib.hid hr
  obtain ⟨sg, hsg⟩ : ∃ sg, sg = s1 ++ s2 := ⟨_, rfl⟩
  rw [← hsg]
  have lsg : sg.length = 64 := by rw [hsg, List.length_append, h1, h2]
  have ssg : (ints .u8 sg).size = 64 := by rw [size_ints, lsg]
  have y1 : (List.take 32 (sg.map (Value.int .u8))).toArray = ints .u8 s1 := by
    rw [← List.map_take, hsg, List.take_append_of_le_length (by omega), List.take_of_length_le (by omega)]
    rfl
  have HSG := Lib.hid hsg
  have H1 := Lib.hid h1
  have H2 := Lib.hid h2
  have sk : (ints .u8 k).size = 32 := by rw [size_ints, hk]
  have sk1 : (ints .u8 s1).size = 32 := by rw [size_ints, h1]
  clear h hb S ht hb1 hr hsg
  go_enter Tryz.func50, Tryz.ntmps50
  by_cases hn : 4096 < n
  · have d1 : decide ((n : Int) > 4096) = true := by rw [decide_eq_true_eq]; omega
    have hr0 : r = false := by rw [HR.out, if_pos hn]
    subst hr0
    have hO := (((OwB.start w).alloc (.cells #[.pointer (some ⟨tb, 0, none⟩)] 31)).alloc (.cells (ints .u8 k) 33)).alloc (.cells (ints .u8 sg) 44)
    have HO := Lib.hid hO
    clear hO
    go_wp2_with fail
    exact bodyPost_ret (results_tmp rfl _ _ _) rfl ⟨rfl, HO.out.fr⟩
  · have d1 : decide ((n : Int) > 4096) = false := by rw [decide_eq_false_iff_not]; omega
    have hr1 : r = verR T k t s1 s2 := by rw [HR.out, if_neg hn]
    have HR1 := Lib.hid hr1
    clear hr1 HR
    go_upto_region 3 with (fail)
    refine named_world (A := fun X => OwB w [(w.heap.size + 1 + 1, .cells (ints .u8 sg) 44), (w.heap.size + 1, .cells (ints .u8 k) 33), (w.heap.size, .cells #[.pointer (some ⟨tb, 0, none⟩)] 31)] X) (Q := fun X => Code.wp _ _ _ _ X) ((((OwB.start w).allocN _ w.heap.size rfl).allocN _ (w.heap.size + 1) (by simp)).allocN _ (w.heap.size + 1 + 1) (by simp)) ?_
    intro V hV
    generalize w.heap.size + 1 + 1 = b7 at hV ⊢
    generalize w.heap.size + 1 = b5 at hV ⊢
    generalize w.heap.size = b4 at hV ⊢
    have f4 := hV.nth 2 rfl
    have t4 := World.at_lt f4
    have HV := Lib.hid hV
    clear hV
    go_upto_region 6 with (fail)
    refine named_world (A := fun X => OwB w [(V.heap.size, .cells (ints .u8 (zs 32)) 33), (b7, .cells (ints .u8 sg) 44), (b5, .cells (ints .u8 k) 33), (b4, .cells #[.pointer (some ⟨tb, 0, none⟩)] 31)] X) (Q := fun X => Code.wp _ _ _ _ X) (HV.out.allocN _ V.heap.size rfl) ?_
    intro V1 hV1
    generalize V.heap.size = b9 at hV1 ⊢
    clear f4 t4
    have f9 := hV1.nth 0 rfl
    have f7 := hV1.nth 1 rfl
    have t9 := World.at_lt f9
    have t7 := World.at_lt f7
    have n97 := hV1.ne 0 1 rfl rfl (by decide)
    have n79 := n97.symm
    have HV1 := Lib.hid hV1
    clear hV1
    refine drawn_begin 2 (fun w' => w'.blk b9 = some (.cells (ints .u8 (zs 32)) 33) ∧ w'.blk b7 = some (.cells (ints .u8 sg) 44)) (by kernel_rfl) ?_
    refine drawn_reads (fuel := 1) [0, 1] rfl (by kernel_rfl) ⟨f9, f7⟩ ?_
    repeat (first | (refine rowK_step2 rfl rfl (fun K hK => ?_); go_wp2) | (refine rowK_step rfl (fun K hK => ?_); go_simp; refine hK _ ?_; clear hK K))
    refine rowK_nil ⟨fun w' e1 => ?_, ?_⟩
    · obtain ⟨e1, e2⟩ := e1
      clear f9 f7 t9 t7
      repeat (first | (refine rowWp_step2 rfl rfl (fun K hK => ?_); go_wp2) | (refine rowWp_step rfl (fun K hK => ?_); go_simp; refine hK _ ?_; clear hK K))
      exact rowWp_nil rfl
    refine drawn_end rfl (by kernel_rfl) ?_
    intro K hK
    go_upto_region 7 with (fail)
    refine named_world (A := fun X => OwB w [(b9, .cells (ints .u8 s1) 33), (b7, .cells (ints .u8 sg) 44), (b5, .cells (ints .u8 k) 33), (b4, .cells #[.pointer (some ⟨tb, 0, none⟩)] 31)] X) (Q := fun X => Code.wp _ _ _ _ X) (HV1.out.set 0 _ rfl).drew ?_
    intro V3 hV3
    clear f9 f7 t9 t7 n97 n79 y1
    have f9 := hV3.nth 0 rfl
    have f4 := hV3.nth 3 rfl
    have t9 := World.at_lt f9
    have t4 := World.at_lt f4
    have HV3 := Lib.hid hV3
    clear hV3 HV1 HV
    go_wp2_with fail
    refine (dof_f (H.out.fr0 HV3.out.fr) H1.out HB1.out).mono ?_
    rintro e W1 ⟨kind1, q1, m1, c1, ok1, rfl, F1, D1⟩
    have HW1 := Lib.hid (HV3.out.call F1)
    have HD1 := Lib.hid D1
    clear F1 D1 f9 f4 t9 t4
    go_upto_region 8 with (fail)
    refine named_world (A := fun X => OwB w [(W1.heap.size, .cells #[.int .i64 kind1, .slice q1 m1 c1] 155), (b9, .cells (ints .u8 s1) 33), (b7, .cells (ints .u8 sg) 44), (b5, .cells (ints .u8 k) 33), (b4, .cells #[.pointer (some ⟨tb, 0, none⟩)] 31)] X ∧ DOfRes T s1 X kind1 q1 m1 c1 ok1) (Q := fun X => Code.wp _ _ _ _ X) ⟨HW1.out.allocN _ W1.heap.size rfl, dof_step HD1.out ((Fr.refl [] W1).alloc _)⟩ ?_
    rintro W2 ⟨hW2, D1⟩
    generalize W1.heap.size = b10 at hW2 ⊢
    have f5 := hW2.nth 3 rfl
    have f4 := hW2.nth 4 rfl
    have t5 := World.at_lt f5
    have t4 := World.at_lt f4
    have HW2 := Lib.hid hW2
    have HD2 := Lib.hid D1
    clear hW2 D1 HD1 HW1
    go_wp2_with fail
    refine (dof_f (H.out.fr0 HW2.out.fr) hk HB.out).mono ?_
    rintro e W3 ⟨kind2, q2, m2, c2, ok2, rfl, F3, D3⟩
    have HW3 := Lib.hid (HW2.out.call F3)
    have HD1 := Lib.hid (dof_step HD2.out F3)
    have HD3 := Lib.hid D3
    clear F3 D3 f5 f4 t5 t4
    go_upto_region 9 with (fail)
    refine named_world (A := fun X => OwB w [(W3.heap.size, .cells #[.int .i64 kind2, .slice q2 m2 c2] 155), (b10, .cells #[.int .i64 kind1, .slice q1 m1 c1] 155), (b9, .cells (ints .u8 s1) 33), (b7, .cells (ints .u8 sg) 44), (b5, .cells (ints .u8 k) 33), (b4, .cells #[.pointer (some ⟨tb, 0, none⟩)] 31)] X ∧ DOfRes T s1 X kind1 q1 m1 c1 ok1 ∧ DOfRes T k X kind2 q2 m2 c2 ok2) (Q := fun X => Code.wp _ _ _ _ X) ⟨HW3.out.allocN _ W3.heap.size rfl, dof_step HD1.out ((Fr.refl [] W3).alloc _), dof_step HD3.out ((Fr.refl [] W3).alloc _)⟩ ?_
    rintro W4 ⟨hW4, D1, D3⟩
    generalize W3.heap.size = b12 at hW4 ⊢
    have f12 := hW4.nth 0 rfl
    have f10 := hW4.nth 1 rfl
    have t12 := World.at_lt f12
    have t10 := World.at_lt f10
    have HW4 := Lib.hid hW4
    have HE1 := Lib.hid D1
    have HE3 := Lib.hid D3
    clear hW4 D1 D3 HD1 HD2 HD3 HW2 HW3
    obtain ⟨z, hz⟩ : ∃ z : Bool, z = decide (kind1 ≠ 6 ∨ m1 ≠ 2 ∨ kind2 ≠ 5 ∨ m2 ≠ 1) := ⟨_, rfl⟩
    have HZ := Lib.hid hz
    clear hz
    go_cut [42, 43, 44, 45, 46, 47, 48, 49, 50, 51, 52, 53, 54, 55, 56, 57, 58, 59, 60, 61] (fun _ _ _ _ _ _ _ _ _ _ _ _ _ _ _ _ _ _ _ v61 wy => v61 = .bool z ∧ wy = W4)
    case first =>
      by_cases a1 : kind1 = 6
      · have e1 : (kind1 != 6) = false := by simp [a1]
        by_cases a2 : m1 = 2
        · have e2 : ((m1 : Int) != 2) = false := by simp; omega
          by_cases a3 : kind2 = 5
          · have e3 : (kind2 != 5) = false := by simp [a3]
            by_cases a4 : m2 = 1
            · have e4 : ((m2 : Int) != 1) = false := by simp; omega
              have hz0 : z = false := by rw [HZ.out, decide_eq_false_iff_not]; omega
              subst hz0
              clear a1 a2 a3 a4
              go_wp2_with fail
              go_meet
              case rel => exact ⟨rfl, rfl⟩
            · have e4 : ((m2 : Int) != 1) = true := by simp; omega
              have hz0 : z = true := by rw [HZ.out, decide_eq_true_eq]; omega
              subst hz0
              clear a1 a2 a3 a4
              go_wp2_with fail
              go_meet
              case rel => exact ⟨rfl, rfl⟩
          · have e3 : (kind2 != 5) = true := by simp [a3]
            have hz0 : z = true := by rw [HZ.out, decide_eq_true_eq]; omega
            subst hz0
            clear a1 a2 a3
            go_wp2_with fail
            go_meet
            case rel => exact ⟨rfl, rfl⟩
        · have e2 : ((m1 : Int) != 2) = true := by simp; omega
          have hz0 : z = true := by rw [HZ.out, decide_eq_true_eq]; omega
          subst hz0
          clear a1 a2
          go_wp2_with fail
          go_meet
          case rel => exact ⟨rfl, rfl⟩
      · have e1 : (kind1 != 6) = true := by simp [a1]
        have hz0 : z = true := by rw [HZ.out, decide_eq_true_eq]; omega
        subst hz0
        clear a1
        go_wp2_with fail
        go_meet
        case rel => exact ⟨rfl, rfl⟩
    case rest =>
      obtain ⟨rfl, rfl⟩ := hcut
      clear f12 f10 t12 t10
      cases z with
      | true =>
        have hr0 : r = false := by
          rw [HR1.out]
          have hh := of_decide_eq_true HZ.out.symm
          by_cases a : kind1 ≠ 6 ∨ m1 ≠ 2
          · exact verR_no1 (dof_no HE1.out a)
          · exact verR_no2 (dof_no HE3.out (by omega))
        subst hr0
        go_wp2_with fail
        exact bodyPost_ret (results_tmp rfl _ _ _) rfl ⟨rfl, HW4.out.fr⟩
      | false =>
        have hh := of_decide_eq_false HZ.out.symm
        obtain ⟨u, hu, hu1, hu2, HA1⟩ := dof_kind HE1.out (n := 6) (by decide) (by omega)
        obtain ⟨v, hv, hv1, hv2, HA3⟩ := dof_kind HE3.out (n := 5) (by decide) (by omega)
        obtain rfl : m1 = 2 := by omega
        obtain rfl : m2 = 1 := by omega
        have hrr : verR T k t s1 s2 = (decide (s2 = Kd.zeros 32) && (decide (u.2.getD 1 [] = t) && decide (v.2.getD 0 [] = u.2.getD 0 []))) := by
          rw [verR_some hu, hv]
          simp [hu1, hu2, hv1, hv2, Bool.and_assoc]
        have HRR := Lib.hid hrr
        have HU := Lib.hid hu
        have HVV := Lib.hid hv
        have HS1 := Lib.hid HA1
        have HS3 := Lib.hid HA3
        clear hh hu hu1 hu2 hv hv1 hv2 HA1 HA3 hrr HE1 HE3
        go_upto_region 12 with (fail)
        go_loopw [14] (fun iv wy => ∃ i : Nat, 32 ≤ i ∧ i ≤ 64 ∧ iv = .int .i64 (i : Int) ∧ wy = wc ∧ Hid (∀ j, 32 ≤ j → j < i → el sg j = 0)) (fun iv _ => (64 - intOf iv).toNat)
        case atStart => exact ⟨32, by omega, by omega, rfl, rfl, Lib.hid (fun j h1 h2 => by omega)⟩
        case round =>
          obtain ⟨i, hi32, hi64, rfl, rfl, hz0⟩ := hrel
          by_cases hlt : i < 64
          · have hd : decide ((i : Int) < 64) = true := by rw [decide_eq_true_eq]; omega
            have f7 := HW4.out.nth 3 rfl
            have t7 := World.at_lt f7
            have wi : IntKind.i64.wrap ((i : Int) + 1) = ((i + 1 : Nat) : Int) := by rw [IntKind.wrap_i64]; omega
            by_cases he : el sg i = 0
            · have e1 : (el sg i != 0) = false := by simp [he]
              have HE := Lib.hid he
              clear he
              go_wp2_with fail
              go_roundw
              case rel =>
                refine ⟨i + 1, by omega, by omega, by first | rfl | simp, by first | trivial | rfl, Lib.hid fun j h1 h2 => ?_⟩
                rcases Nat.lt_or_ge j i with h | h
                · exact hz0.out j h1 h
                · obtain rfl : j = i := by omega
                  exact HE.out
              case measure => simp [intOf]; omega
            · have e1 : (el sg i != 0) = true := by simp [he]
              have hr0 : r = false := by
                rw [HR1.out, HRR.out]
                have : decide (s2 = Kd.zeros 32) = false := by
                  rw [decide_eq_false_iff_not]
                  intro e
                  apply he
                  rw [HSG.out, e]
                  have e2 : (s1 ++ Kd.zeros 32)[i]? = some 0 := by
                    rw [List.getElem?_append_right (by rw [H1.out]; omega), H1.out]
                    rw [Kd.zeros, List.getElem?_replicate, if_pos (by omega)]
                  simp only [el, List.getD_eq_getElem?_getD, e2]
                  rfl
                rw [this]; rfl
              subst hr0
              go_wp2_with fail
              exact bodyPost_ret (results_tmp rfl _ _ _) rfl ⟨rfl, HW4.out.fr⟩
          · obtain rfl : i = 64 := by omega
            have hd : decide (((64 : Nat) : Int) < 64) = false := by decide
            have hs2 : s2 = Kd.zeros 32 := by
              apply List.ext_getElem?
              intro j
              rcases Nat.lt_or_ge j 32 with hj | hj
              · have h3 := hz0.out (32 + j) (by omega) (by omega)
                have e2 : sg[32 + j]? = s2[j]? := by
                  rw [HSG.out, List.getElem?_append_right (by rw [H1.out]; omega), H1.out]
                  congr 1; omega
                have e3 : s2[j]? = some (s2[j]'(by rw [H2.out]; exact hj)) := List.getElem?_eq_getElem _
                simp only [el, List.getD_eq_getElem?_getD, e2, e3, Option.getD_some] at h3
                rw [e3, h3, Kd.zeros, List.getElem?_replicate, if_pos hj]
              · rw [List.getElem?_eq_none (by rw [H2.out]; exact hj), List.getElem?_eq_none (by simp [Kd.zeros]; exact hj)]
            have hr2 : r = (decide (u.2.getD 1 [] = t) && decide (v.2.getD 0 [] = u.2.getD 0 [])) := by rw [HR1.out, HRR.out, hs2]; simp
            have HR2 := Lib.hid hr2
            clear hs2 hr2
            obtain ⟨b1, o1, cs1, T1, fr1, q10, m10, c10, l10, rfl, g1, hs10, hc10, hl10, S10⟩ := HS1.out.now.at (j := 0) (by omega)
            obtain ⟨b1', o1', cs1', T1', fr1', q11, m11, c11, l11, hp1, g1', hs11, hc11, hl11, S11⟩ := HS1.out.now.at (j := 1) (by omega)
            simp only [Option.some.injEq, Addr.mk.injEq, and_true] at hp1
            obtain ⟨rfl, rfl⟩ := hp1
            rw [g1] at g1'
            simp only [Option.some.injEq, Obj.cells.injEq] at g1'
            obtain ⟨rfl, rfl, rfl⟩ := g1'
            obtain ⟨b3, o3, cs3, T3, fr3, q30, m30, c30, l30, rfl, g3, hs30, hc30, hl30, S30⟩ := HS3.out.now.at (j := 0) (by omega)
            rw [Nat.add_zero] at hs10 hc10 hs30 hc30
            have k10 := (Array.getElem?_eq_some_iff.1 hc10).2
            have k11 := (Array.getElem?_eq_some_iff.1 hc11).2
            have k30 := (Array.getElem?_eq_some_iff.1 hc30).2
            have e1 : u.2.getD 1 [] = l11 := by rw [List.getD_eq_getElem?_getD, hl11]; rfl
            have e0 : u.2.getD 0 [] = l10 := by rw [List.getD_eq_getElem?_getD, hl10]; rfl
            have e3 : v.2.getD 0 [] = l30 := by rw [List.getD_eq_getElem?_getD, hl30]; rfl
            have hgu := H.out.good u (ofT_mem HU.out)
            have hgv := H.out.good v (ofT_mem HVV.out)
            obtain ⟨y1, hy1⟩ : ∃ y, y = decide (l11 = t) := ⟨_, rfl⟩
            obtain ⟨y2, hy2⟩ : ∃ y, y = decide (l10 = l30) := ⟨_, rfl⟩
            have hr3 : r = (y1 && y2) := by
              rw [HR2.out, e1, e0, e3, hy1, hy2]
              congr 1
              exact decide_eq_decide.2 ⟨fun h => h.symm, fun h => h.symm⟩
            have cc1 : ∀ x : OwnW wr [], Calls Tryz.prog 36 #[.slice q11 m11 c11, .slice p n cap] x.w fun e w' => e = .returned (.bool y1) ∧ Fr [] x.w w' := fun x => by
              rw [hy1]
              exact bytes_f (S11.fr0 x.h.fr) (HS.out.fr0 (HW4.out.fr.trans x.h.fr)) (hgu.2.1 _ (List.mem_of_getElem? hl11)) HT.out
            have cc2 : ∀ x : OwnW wr [], Calls Tryz.prog 36 #[.slice q10 m10 c10, .slice q30 m30 c30] x.w fun e w' => e = .returned (.bool y2) ∧ Fr [] x.w w' := fun x => by
              rw [hy2]
              exact bytes_f (S10.fr0 x.h.fr) (S30.fr0 x.h.fr) (hgu.2.1 _ (List.mem_of_getElem? hl10)) (hgv.2.1 _ (List.mem_of_getElem? hl30))
            have CC1 := Lib.hid cc1
            have CC2 := Lib.hid cc2
            have HR3 := Lib.hid hr3
            have hV : OwB wr [] wr := OwB.start wr
            have hne : Nonempty (OwnW wr []) := ⟨⟨_, hV⟩⟩
            have G12 := Lib.hid (HW4.out.nth 0 rfl)
            have G10 := Lib.hid (HW4.out.nth 1 rfl)
            have G1 := Lib.hid g1
            have G3 := Lib.hid g3
            have g12' : ∀ x : OwnW wr [], x.w.blk b12 = some (.cells #[.int .i64 kind2, .slice (some ⟨b3, o3, none⟩) 1 c2] 155) := fun x => x.h.fr.get G12.out (by simp)
            have g10' : ∀ x : OwnW wr [], x.w.blk b10 = some (.cells #[.int .i64 kind1, .slice (some ⟨b1, o1, none⟩) 2 c1] 155) := fun x => x.h.fr.get G10.out (by simp)
            have g1' : ∀ x : OwnW wr [], x.w.blk b1 = some (.cells cs1 T1 fr1) := fun x => x.h.fr.get G1.out (by simp)
            have g3' : ∀ x : OwnW wr [], x.w.blk b3 = some (.cells cs3 T3 fr3) := fun x => x.h.fr.get G3.out (by simp)
            have t12 : ∀ x : OwnW wr [], b12 < x.w.heap.size := fun x => World.at_lt (g12' x)
            have t10 : ∀ x : OwnW wr [], b10 < x.w.heap.size := fun x => World.at_lt (g10' x)
            have t1 : ∀ x : OwnW wr [], b1 < x.w.heap.size := fun x => World.at_lt (g1' x)
            have t3 : ∀ x : OwnW wr [], b3 < x.w.heap.size := fun x => World.at_lt (g3' x)
            clear cc1 cc2 hr3 g1 g3 e1 e0 e3 hgu hgv hy1 hy2 hl10 hl11 hl30 S10 S11 S30
            cases y1 with
            | false =>
              have hr0 : r = false := by rw [HR3.out]; rfl
              subst hr0
              go_upto_region 16 with (fail)
              refine wp_region_own (by kernel_rfl) (by kernel_rfl) hV ?_
              repeat (go_big_quiet_step (with_reducible first | exact Calls.own_of (CC1.out _) | exact Calls.own_of (CC2.out _)))
              refine wpQuiet_nil ?_
              intro _ hw'
              obtain ⟨⟨V9, hV9⟩, rfl⟩ := hw'
              have HV9 := Lib.hid hV9
              clear hne hV hV9 g12' g10' g1' g3' t12 t10 t1 t3
              go_wp2_with fail
              exact bodyPost_ret (results_tmp rfl _ _ _) rfl ⟨rfl, HW4.out.fr.trans HV9.out.fr⟩
            | true =>
              have hr0 : r = y2 := by rw [HR3.out]; rfl
              subst hr0
              go_upto_region 16 with (fail)
              refine wp_region_own (by kernel_rfl) (by kernel_rfl) hV ?_
              repeat (go_big_quiet_step (with_reducible first | exact Calls.own_of (CC1.out _) | exact Calls.own_of (CC2.out _)))
              refine wpQuiet_nil ?_
              intro _ hw'
              obtain ⟨⟨V9, hV9⟩, rfl⟩ := hw'
              have HV9 := Lib.hid hV9
              clear hne hV hV9 g12' g10' g1' g3' t12 t10 t1 t3
              go_wp2_with fail
              exact bodyPost_ret (results_tmp rfl _ _ _) rfl ⟨rfl, HW4.out.fr.trans HV9.out.fr⟩
end
end Go.Proofs.YtbhnfohoclcjdaaGreat
namespace Go.Proofs.YtbhnfohoclcjdaaGreat
open Go.RowKit Go.Dr Go.Kd
def MadeR (T : List Tm) (t : Tm) (k : List Int) (T' : List Tm) : Prop := (makeT T t).2.1 = k ∧ (makeT T t).1 = T'
def NewR (T : List Tm) (a b c x y z : List Int) (T' : List Tm) : Prop := ∃ T1 T2, MadeR T (1, [a]) x T1 ∧ MadeR T1 (1, [b]) y T2 ∧ MadeR T2 (1, [c]) z T'
def PubR (T : List Tm) (a b x y : List Int) (T' : List Tm) : Prop := ∃ T1, MadeR T (2, [a]) x T1 ∧ MadeR T1 (5, [b]) y T'
section
variable {w : World}
theorem fresh_x {lo tb : Nat} {T : List Tm} {k : List Int} (h : TabP lo tb w T) (hk : Key32 k) :
    Calls Tryz.prog 52 #[SU tb, .agg (ints .u8 k)] w fun e w' => ∃ a T', Hid (MadeR T (1, [k]) a T') ∧ e = .returned (.agg (ints .u8 a)) ∧ Key32 a ∧ TabP lo tb w' T' ∧ FrP lo w w' :=
  (fresh_f h hk.len hk.byt).mono fun e w' ⟨h1, h2, h3⟩ => ⟨_, _, Lib.hid ⟨rfl, rfl⟩, h1, key_makeT _ _, h2, h3⟩
theorem signer_x {lo tb : Nat} {T : List Tm} {k : List Int} (h : TabP lo tb w T) (hk : Key32 k) :
    Calls Tryz.prog 9 #[SU tb, .agg (ints .u8 k)] w fun e w' => ∃ a T', Hid (MadeR T (5, [k]) a T') ∧ e = .returned (.agg (ints .u8 a)) ∧ Key32 a ∧ TabP lo tb w' T' ∧ FrP lo w w' :=
  (signer_f h hk.len hk.byt).mono fun e w' ⟨h1, h2, h3⟩ => ⟨_, _, Lib.hid ⟨rfl, rfl⟩, h1, key_makeT _ _, h2, h3⟩
theorem public_x {lo tb : Nat} {T : List Tm} {k : List Int} (h : TabP lo tb w T) (hk : Key32 k) :
    Calls Tryz.prog 53 #[SU tb, .agg (ints .u8 k)] w fun e w' => ∃ a T', Hid (MadeR T (2, [k]) a T') ∧ e = .returned (.agg (ints .u8 a)) ∧ Key32 a ∧ TabP lo tb w' T' ∧ FrP lo w w' :=
  (public_f h hk.len hk.byt).mono fun e w' ⟨h1, h2, h3⟩ => ⟨_, _, Lib.hid ⟨rfl, rfl⟩, h1, key_makeT _ _, h2, h3⟩
theorem dfresh_x {lo tb : Nat} {T : List Tm} {k : List Int} (h : DTabP lo tb w T) (hk : Key32 k) :
    Calls Tryz.prog 54 #[SU tb, .agg (ints .u8 k)] w fun e w' => ∃ a T', Hid (MadeR T (1, [k]) a T') ∧ e = .returned (.agg (ints .u8 a)) ∧ Key32 a ∧ DTabP lo tb w' T' ∧ FrD lo w w' :=
  (dfresh_f h hk.len hk.byt).mono fun e w' ⟨h1, h2, h3⟩ => ⟨_, _, Lib.hid ⟨rfl, rfl⟩, h1, key_makeT _ _, h2, h3⟩
theorem dsigner_x {lo tb : Nat} {T : List Tm} {k : List Int} (h : DTabP lo tb w T) (hk : Key32 k) :
    Calls Tryz.prog 11 #[SU tb, .agg (ints .u8 k)] w fun e w' => ∃ a T', Hid (MadeR T (5, [k]) a T') ∧ e = .returned (.agg (ints .u8 a)) ∧ Key32 a ∧ DTabP lo tb w' T' ∧ FrD lo w w' :=
  (dsigner_f h hk.len hk.byt).mono fun e w' ⟨h1, h2, h3⟩ => ⟨_, _, Lib.hid ⟨rfl, rfl⟩, h1, key_makeT _ _, h2, h3⟩
theorem dpublic_x {lo tb : Nat} {T : List Tm} {k : List Int} (h : DTabP lo tb w T) (hk : Key32 k) :
    Calls Tryz.prog 24 #[SU tb, .agg (ints .u8 k)] w fun e w' => ∃ a T', Hid (MadeR T (2, [k]) a T') ∧ e = .returned (.agg (ints .u8 a)) ∧ Key32 a ∧ DTabP lo tb w' T' ∧ FrD lo w w' :=
  (dpublic_f h hk.len hk.byt).mono fun e w' ⟨h1, h2, h3⟩ => ⟨_, _, Lib.hid ⟨rfl, rfl⟩, h1, key_makeT _ _, h2, h3⟩
set_option maxRecDepth 100000 in
set_option maxHeartbeats 2000000 in
theorem anew_x {lo tb : Nat} {T : List Tm} {a b c : List Int} (h : TabP lo tb w T) (ha : Key32 a) (hb : Key32 b) (hc : Key32 c) :
    Calls Tryz.prog 21 #[SU tb, .agg (ints .u8 a), .agg (ints .u8 b), .agg (ints .u8 c)] w fun e w' => ∃ x y z T', e = .returned (.agg (acC x y z)) ∧ Key32 x ∧ Key32 y ∧ Key32 z ∧ (TabP lo tb w' T' ∧ Hid (NewR T a b c x y z T')) ∧ FrP lo w w' := by
  have H := Lib.hid h
  have la := ha.len
  have lb := hb.len
  have lc := hc.len
  clear h
  go_enter Tryz.func21, Tryz.ntmps21
  go_upto_region 1 with (fail)
  refine named_world (A := fun X => OwB w [(w.heap.size + 1 + 1 + 1 + 1, .cells Tryz.zeroCells73 73), (w.heap.size + 1 + 1 + 1, .cells (ints .u8 c) 34), (w.heap.size + 1 + 1, .cells (ints .u8 b) 34), (w.heap.size + 1, .cells (ints .u8 a) 34), (w.heap.size, .cells #[.pointer (some ⟨tb, 0, none⟩)] 27)] X) (Q := fun X => Code.wp _ _ _ _ X) ((((((OwB.start w).allocN _ w.heap.size rfl).allocN _ (w.heap.size + 1) (by simp)).allocN _ (w.heap.size + 1 + 1) (by simp)).allocN _ (w.heap.size + 1 + 1 + 1) (by simp)).allocN _ (w.heap.size + 1 + 1 + 1 + 1) (by simp)) ?_
  intro V hV
  have HTV := Lib.hid (H.out.fr0 hV.fr)
  have HFV := Lib.hid (FrT.of (t := TT) (lo := lo) hV.fr)
  generalize w.heap.size + 1 + 1 + 1 + 1 = b8 at hV ⊢
  generalize w.heap.size + 1 + 1 + 1 = b7 at hV ⊢
  generalize w.heap.size + 1 + 1 = b6 at hV ⊢
  generalize w.heap.size + 1 = b5 at hV ⊢
  generalize w.heap.size = b4 at hV ⊢
  have l8 := hV.low 0 rfl
  have hV2 : OwB V.void _ V := hV.weak V.void_fr (Nat.zero_le _)
  have hlw : V.void.heap.size ≤ lo := Nat.zero_le _
  have f7 := hV.nth 1 rfl
  have f6 := hV.nth 2 rfl
  have f5 := hV.nth 3 rfl
  have f4 := hV.nth 4 rfl
  have t7 := World.at_lt f7
  have t6 := World.at_lt f6
  have t5 := World.at_lt f5
  have t4 := World.at_lt f4
  have HOV := Lib.hid hV2
  clear hV hV2
  refine drawn_begin 11 (fun w' => w'.blk b4 = some (.cells #[.pointer (some ⟨tb, 0, none⟩)] 27) ∧ w'.blk b5 = some (.cells (ints .u8 a) 34) ∧ w'.blk b6 = some (.cells (ints .u8 b) 34) ∧ w'.blk b7 = some (.cells (ints .u8 c) 34)) (by kernel_rfl) ?_
  refine drawn_reads (fuel := 6) [0, 1, 3, 4, 6, 7] rfl (by kernel_rfl) ⟨f4, f5, f6, f7⟩ ?_
  repeat (first | (refine rowK_step2 rfl rfl (fun K hK => ?_); go_wp2) | (refine rowK_step rfl (fun K hK => ?_); go_simp; refine hK _ ?_; clear hK K))
  refine rowK_nil ⟨fun w' e1 => ?_, ?_⟩
  · obtain ⟨e1, e2, e3, e4⟩ := e1
    clear f4 f5 f6 f7
    repeat (first | (refine rowWp_step2 rfl rfl (fun K hK => ?_); go_wp2) | (refine rowWp_step rfl (fun K hK => ?_); go_simp; refine hK _ ?_; clear hK K))
    exact rowWp_nil rfl
  refine drawn_next 2 (fuel := 5) rfl (by kernel_rfl) ?_
  intro K hK
  go_wp2_with fail
  refine (fresh_x (HTV.out.fr0 (Fr.refl [] _).drew) ha).mono ?_
  rintro e V1 ⟨k1, T1, hm1, rfl, hk1, hT, F⟩
  have hO := (HOV.out.drew).callT F (by simp [other, TT]) hlw
  clear f4 f5 f6 f7 t4 t5 t6 t7
  have f7 := hO.nth 1 rfl
  have f6 := hO.nth 2 rfl
  have f5 := hO.nth 3 rfl
  have f4 := hO.nth 4 rfl
  have t7 := World.at_lt f7
  have t6 := World.at_lt f6
  have t5 := World.at_lt f5
  have t4 := World.at_lt f4
  have HOV1 := Lib.hid hO
  have HTV1 := Lib.hid hT
  have HFV1 := Lib.hid (HFV.out.trans ((FrT.of (Fr.refl [] _).drew).trans F))
  clear hO hT F
  go_wp2_with fail
  refine ⟨⟨f4, f5, f6, f7⟩, ?_⟩
  refine drawn_next 5 (fuel := 4) rfl (by kernel_rfl) ?_
  intro K hK
  go_wp2_with fail
  refine (fresh_x HTV1.out hb).mono ?_
  rintro e V2 ⟨k2, T2, hm2, rfl, hk2, hT, F⟩
  have hO := (HOV1.out).callT F (by simp [other, TT]) hlw
  clear f4 f5 f6 f7 t4 t5 t6 t7
  have f7 := hO.nth 1 rfl
  have f6 := hO.nth 2 rfl
  have f5 := hO.nth 3 rfl
  have f4 := hO.nth 4 rfl
  have t7 := World.at_lt f7
  have t6 := World.at_lt f6
  have t5 := World.at_lt f5
  have t4 := World.at_lt f4
  have HOV2 := Lib.hid hO
  have HTV2 := Lib.hid hT
  have HFV2 := Lib.hid (HFV1.out.trans F)
  clear hO hT F
  go_wp2_with fail
  refine ⟨⟨f4, f5, f6, f7⟩, ?_⟩
  refine drawn_next 8 (fuel := 3) rfl (by kernel_rfl) ?_
  intro K hK
  go_wp2_with fail
  refine (fresh_x HTV2.out hc).mono ?_
  rintro e V3 ⟨k3, T3, hm3, rfl, hk3, hT, F⟩
  have hO := (HOV2.out).callT F (by simp [other, TT]) hlw
  clear f4 f5 f6 f7 t4 t5 t6 t7
  have f7 := hO.nth 1 rfl
  have f6 := hO.nth 2 rfl
  have f5 := hO.nth 3 rfl
  have f4 := hO.nth 4 rfl
  have t7 := World.at_lt f7
  have t6 := World.at_lt f6
  have t5 := World.at_lt f5
  have t4 := World.at_lt f4
  have HOV3 := Lib.hid hO
  have HTV3 := Lib.hid hT
  have HFV3 := Lib.hid (HFV2.out.trans F)
  clear hO hT F
  go_wp2_with fail
  refine ⟨⟨f4, f5, f6, f7⟩, ?_⟩
  have lk1 := hk1.len
  have lk2 := hk2.len
  have lk3 := hk3.len
  have z54 : Tryz.zeroCells73.size = 99 := by kernel_rfl
  have lk3b : k3.length + 1 = 33 := by omega
  obtain ⟨B, hB⟩ : ∃ B, B = acC k1 k2 k3 := ⟨_, rfl⟩
  have eB : ((List.foldl (fun cs x => cs.setIfInBounds (64 + x.snd) x.fst) ((spl (spl Tryz.zeroCells73 0 (k1.map (Value.int .u8))) 32 (k2.map (Value.int .u8))).setIfInBounds 64 (.int .u16 0)) ((k3.map (Value.int .u8)).zipIdx 1)).setIfInBounds 98 (.int .u16 1)) = B := by rw [hB]; exact acc_built lk1 lk2 lk3
  have szB : B.size = 99 := by rw [hB, List.size_toArray, cAccount_length _ _ _ _ _ _ lk1 lk2 lk3]
  have oneB : ones B.toList = true := by rw [hB]; exact List.all_eq_true.2 (cAccount_one _ _ _ _ _ _ rfl rfl rfl)
  have szF : (List.foldl (fun cs x => cs.setIfInBounds (64 + x.snd) x.fst) ((spl (spl Tryz.zeroCells73 0 (k1.map (Value.int .u8))) 32 (k2.map (Value.int .u8))).setIfInBounds 64 (.int .u16 0)) ((k3.map (Value.int .u8)).zipIdx 1)).size = 99 := by
    have := congrArg Array.size eB
    rw [Array.size_setIfInBounds] at this
    exact this.trans szB
  have HB := Lib.hid hB
  clear hB
  refine drawn_reads (fuel := 1) [9, 10] rfl (by kernel_rfl) ⟨f4, f5, f6, f7⟩ ?_
  repeat (first | (refine rowK_step2 rfl rfl (fun K hK => ?_); go_wp2) | (refine rowK_step rfl (fun K hK => ?_); go_simp; refine hK _ ?_; clear hK K))
  refine rowK_nil ⟨fun w' e1 => ?_, ?_⟩
  · clear f4 f5 f6 f7 e1
    repeat (first | (refine rowWp_step2 rfl rfl (fun K hK => ?_); go_wp2) | (refine rowWp_step rfl (fun K hK => ?_); go_simp; refine hK _ ?_; clear hK K))
    exact rowWp_nil rfl
  have f8 := HOV3.out.nth 0 rfl
  have t8 := World.at_lt f8
  refine drawn_end rfl (by kernel_rfl) ?_
  intro K hK
  go_wp2_with fail
  refine ret_cell rfl rfl rfl ?_
  go_simp
  refine ⟨by kernel_rfl, k1, k2, k3, HB.out, hk1, hk2, hk3, ?_, HFV3.out.put _ l8⟩
  exact ⟨T3, HTV3.out.put f8 (by decide) _, Lib.hid ⟨T1, T2, hm1.out, hm2.out, hm3.out⟩⟩
set_option maxRecDepth 100000 in
set_option maxHeartbeats 2000000 in
theorem apublic_x {lo tb : Nat} {T : List Tm} {a b c : List Int} (h : TabP lo tb w T) (ha : Key32 a) (hb : Key32 b) (hc : Key32 c) :
    Calls Tryz.prog 22 #[SU tb, .agg (acC a b c)] w fun e w' => ∃ x y T', e = .returned (.tuple #[.agg (ints .u8 x), .agg (ints .u8 y)]) ∧ Key32 x ∧ Key32 y ∧ (TabP lo tb w' T' ∧ Hid (PubR T a b x y T')) ∧ FrP lo w w' := by
  have H := Lib.hid h
  obtain ⟨xs, hxs⟩ : ∃ xs, xs = acC a b c := ⟨_, rfl⟩
  have hsz : xs.size = 99 := by rw [hxs, List.size_toArray, cAccount_length _ _ _ _ _ _ ha.len hb.len hc.len]
  have x0 : xs.extract 0 32 = ints .u8 a := by rw [hxs]; exact cAccount_ext_agree _ _ _ _ _ _ ha.len hb.len hc.len
  have x1 : xs.extract 32 64 = ints .u8 b := by rw [hxs]; exact cAccount_ext_sign _ _ _ _ _ _ ha.len hb.len hc.len
  have HK1 := Lib.hid ha
  have HK2 := Lib.hid hb
  rw [← hxs]
  clear h hxs ha hb hc
  go_enter Tryz.func22, Tryz.ntmps22
  go_upto_region 1 with (fail)
  refine named_world (A := fun X => OwB w [(w.heap.size + 1 + 1 + 1, .cells (ints .u8 (zs 32)) 34), (w.heap.size + 1 + 1, .cells (ints .u8 (zs 32)) 34), (w.heap.size + 1, .cells xs 73), (w.heap.size, .cells #[.pointer (some ⟨tb, 0, none⟩)] 27)] X) (Q := fun X => Code.wp _ _ _ _ X) (((((OwB.start w).allocN _ w.heap.size rfl).allocN _ (w.heap.size + 1) (by simp)).allocN _ (w.heap.size + 1 + 1) (by simp)).allocN _ (w.heap.size + 1 + 1 + 1) (by simp)) ?_
  intro V hV
  have HTV := Lib.hid (H.out.fr0 hV.fr)
  have HFV := Lib.hid (FrT.of (t := TT) (lo := lo) hV.fr)
  generalize w.heap.size + 1 + 1 + 1 = b5 at hV ⊢
  generalize w.heap.size + 1 + 1 = b4 at hV ⊢
  generalize w.heap.size + 1 = b3 at hV ⊢
  generalize w.heap.size = b2 at hV ⊢
  have l5 := hV.low 0 rfl
  have l4 := hV.low 1 rfl
  have n45 : b4 ≠ b5 := hV.ne 1 0 rfl rfl (by decide)
  have hV2 : OwB V.void _ V := hV.weak V.void_fr (Nat.zero_le _)
  have hlw : V.void.heap.size ≤ lo := Nat.zero_le _
  have f3 := hV.nth 2 rfl
  have f2 := hV.nth 3 rfl
  have t3 := World.at_lt f3
  have t2 := World.at_lt f2
  have HOV := Lib.hid hV2
  clear hV hV2
  refine drawn_begin 9 (fun w' => w'.blk b2 = some (.cells #[.pointer (some ⟨tb, 0, none⟩)] 27) ∧ w'.blk b3 = some (.cells xs 73)) (by kernel_rfl) ?_
  refine drawn_reads (fuel := 4) [0, 1, 2, 4, 5, 6] rfl (by kernel_rfl) ⟨f2, f3⟩ ?_
  repeat (first | (refine rowK_step2 rfl rfl (fun K hK => ?_); go_wp2) | (refine rowK_step rfl (fun K hK => ?_); go_simp; refine hK _ ?_; clear hK K))
  refine rowK_nil ⟨fun w' e1 => ?_, ?_⟩
  · obtain ⟨e1, e2⟩ := e1
    clear f2 f3
    repeat (first | (refine rowWp_step2 rfl rfl (fun K hK => ?_); go_wp2) | (refine rowWp_step rfl (fun K hK => ?_); go_simp; refine hK _ ?_; clear hK K))
    exact rowWp_nil rfl
  refine drawn_next 3 (fuel := 3) rfl (by kernel_rfl) ?_
  intro K hK
  go_wp2_with fail
  refine (public_x (HTV.out.fr0 (Fr.refl [] _).drew) HK1.out).mono ?_
  rintro e V1 ⟨k1, T1, hm1, rfl, hk1, hT, F⟩
  have hO := (HOV.out.drew).callT F (by simp [other, TT]) hlw
  clear f2 f3 t2 t3
  have f2 := hO.nth 3 rfl
  have f3 := hO.nth 2 rfl
  have t2 := World.at_lt f2
  have t3 := World.at_lt f3
  have HOV1 := Lib.hid hO
  have HTV1 := Lib.hid hT
  have HFV1 := Lib.hid (HFV.out.trans ((FrT.of (Fr.refl [] _).drew).trans F))
  clear hO hT F
  go_wp2_with fail
  refine ⟨⟨f2, f3⟩, ?_⟩
  refine drawn_next 7 (fuel := 2) rfl (by kernel_rfl) ?_
  intro K hK
  go_wp2_with fail
  refine (signer_x HTV1.out HK2.out).mono ?_
  rintro e V2 ⟨k2, T2, hm2, rfl, hk2, hT, F⟩
  have hO := (HOV1.out).callT F (by simp [other, TT]) hlw
  clear f2 f3 t2 t3
  have f2 := hO.nth 3 rfl
  have f3 := hO.nth 2 rfl
  have t2 := World.at_lt f2
  have t3 := World.at_lt f3
  have HOV2 := Lib.hid hO
  have HTV2 := Lib.hid hT
  have HFV2 := Lib.hid (HFV1.out.trans F)
  clear hO hT F
  go_wp2_with fail
  refine ⟨⟨f2, f3⟩, ?_⟩
  refine drawn_next 8 (fuel := 1) rfl (by kernel_rfl) ?_
  intro K hK
  have f4 := HOV2.out.nth 1 rfl
  have t4 := World.at_lt f4
  have f5 := HOV2.out.nth 0 rfl
  have t5 := World.at_lt f5
  have lk1 := hk1.len
  have lk2 := hk2.len
  have y1 : lay (zs 32) 0 k1 = k1 := lay_full lk1
  have y2 : lay (zs 32) 0 k2 = k2 := lay_full lk2
  have s1 : (ints .u8 k1).size = 32 := by rw [size_ints, lk1]
  have s2 : (ints .u8 k2).size = 32 := by rw [size_ints, lk2]
  go_wp2_with fail
  have hO := HOV2.out.set 1 (.cells (ints .u8 k1) 34) rfl
  refine ⟨⟨hO.nth 3 rfl, hO.nth 2 rfl⟩, ?_⟩
  generalize hV3 : V2.put b4 (Obj.cells (ints .u8 k1) 34) = V3 at hO ⊢
  have HTV3 : Hid (TabP lo tb V3 T2) := Lib.hid (by rw [← hV3]; exact HTV2.out.put f4 (by decide) _)
  have HFV3 : Hid (FrT TT lo w V3) := Lib.hid (by rw [← hV3]; exact HFV2.out.put _ l4)
  clear f2 f3 t2 t3 f4 t4 f5 t5 hV3
  have f4 := hO.nth 1 rfl
  have t4 := World.at_lt f4
  have f5 := hO.nth 0 rfl
  have t5 := World.at_lt f5
  refine drawn_end rfl (by kernel_rfl) ?_
  intro K hK
  go_wp2_with fail
  have hO4 := hO.set 0 (.cells (ints .u8 k2) 34) rfl
  have g4 := hO4.nth 1 rfl
  have g5 := hO4.nth 0 rfl
  clear f4 t4 f5 t5
  refine ret_cell2 rfl rfl rfl rfl ?_
  go_simp
  refine ⟨by kernel_rfl, k1, k2, ⟨rfl, rfl⟩, hk1, hk2, ⟨T2, ?_, Lib.hid ⟨T1, hm1.out, hm2.out⟩⟩, HFV3.out.put _ l5⟩
  exact HTV3.out.put (hO.nth 0 rfl) (by decide) _
theorem dverify_s {lo tb : Nat} {T : List Tm} {k t s : List Int} {p : Option Addr} {n cap : Nat} (h : DTabP lo tb w T) (hk : k.length = 32) (hb : isBytes k) (S : Sl .u8 w p n cap t) (ht : isBytes t) (hs : s.length = 64) (hsb : isBytes s) :
    Calls Tryz.prog 50 #[SU tb, .agg (ints .u8 k), .slice p n cap, .agg (ints .u8 s)] w fun e w' => e = .returned (.bool (verifyF T k t s)) ∧ Fr [] w w' := by
  have e : s = s.take 32 ++ s.drop 32 := (List.take_append_drop 32 s).symm
  rw [e]
  exact dverify_f h hk hb S ht (by rw [List.length_take]; omega) (by rw [List.length_drop]; omega) (fun y hy => hsb y (List.mem_of_mem_take hy))
set_option maxRecDepth 100000 in
set_option maxHeartbeats 2000000 in
theorem dcheck_f {lo tb : Nat} {T : List Tm} {x : Bn} (h : DTabP lo tb w T) (hx : BnOk x) :
    Calls Tryz.prog 62 #[SU tb, .agg (bnC x)] w fun e w' => e = .returned (.bool (verifyF T x.signer (bunText x) x.sig)) ∧ Fr [] w w' := by
  have H := Lib.hid h
  obtain ⟨xs, hxs⟩ : ∃ xs, xs = bnC x := ⟨_, rfl⟩
  have hsz : xs.size = 162 := by rw [hxs, List.size_toArray, cBundle_length _ _ _ _ _ _ hx.al hx.sl hx.ol hx.gl]
  have xall : xs.extract 0 162 = xs := by rw [← hsz]; exact Array.extract_size
  have x2 : xs.extract 33 65 = ints .u8 x.signer := by rw [hxs]; exact cBundle_ext_signer _ _ _ _ _ _ hx.al hx.sl hx.ol hx.gl
  have x5 : xs.extract 98 162 = ints .u8 x.sig := by rw [hxs]; exact cBundle_ext_sig _ _ _ _ _ _ hx.al hx.sl hx.ol hx.gl
  have c1 : ∀ W : World, Calls Tryz.prog 26 #[.agg xs] W fun e w' => ∃ q m c, e = .returned (.slice q m c) ∧ Bld W [] .u8 5 w' q m c (bunText x) := fun W => by rw [hxs]; exact rtext_f hx
  have C1 := Lib.hid c1
  have HX := Lib.hid hx
  rw [← hxs]
  clear h hx hxs c1
  go_enter Tryz.func62, Tryz.ntmps62
  go_upto_region 1 with (fail)
  refine named_world (A := fun X => OwB w [(w.heap.size + 1, .cells xs 65), (w.heap.size, .cells #[.pointer (some ⟨tb, 0, none⟩)] 31)] X) (Q := fun X => Code.wp _ _ _ _ X) (((OwB.start w).allocN _ w.heap.size rfl).allocN _ (w.heap.size + 1) (by simp)) ?_
  intro V hV
  generalize w.heap.size + 1 = b3 at hV ⊢
  generalize w.heap.size = b2 at hV ⊢
  have f3 := hV.nth 0 rfl
  have f2 := hV.nth 1 rfl
  have t3 := World.at_lt f3
  have t2 := World.at_lt f2
  have HV := Lib.hid hV
  clear hV
  refine drawn_begin 8 (fun w' => w'.blk b2 = some (.cells #[.pointer (some ⟨tb, 0, none⟩)] 31) ∧ w'.blk b3 = some (.cells xs 65)) (by kernel_rfl) ?_
  refine drawn_reads (fuel := 3) [0, 1, 2, 3, 5, 6] rfl (by kernel_rfl) ⟨f2, f3⟩ ?_
  repeat (first | (refine rowK_step2 rfl rfl (fun K hK => ?_); go_wp2) | (refine rowK_step rfl (fun K hK => ?_); go_simp; refine hK _ ?_; clear hK K))
  refine rowK_nil ⟨fun w' e1 => ?_, ?_⟩
  · obtain ⟨e1, e2⟩ := e1
    clear f2 f3
    repeat (first | (refine rowWp_step2 rfl rfl (fun K hK => ?_); go_wp2) | (refine rowWp_step rfl (fun K hK => ?_); go_simp; refine hK _ ?_; clear hK K))
    exact rowWp_nil rfl
  refine drawn_next 4 (fuel := 2) rfl (by kernel_rfl) ?_
  intro K hK
  go_wp2_with fail
  refine (C1.out _).mono ?_
  rintro e V1 ⟨q, m, c, rfl, hB⟩
  have hV1 := HV.out.drew.call hB.own.fr
  clear f2 f3 t2 t3
  have f3 := hV1.nth 0 rfl
  have f2 := hV1.nth 1 rfl
  have HV1 := Lib.hid hV1
  have HBt := Lib.hid hB
  clear hV1 hB
  go_wp2_with fail
  refine ⟨⟨f2, f3⟩, ?_⟩
  refine drawn_next 7 (fuel := 1) rfl (by kernel_rfl) ?_
  intro K hK
  go_wp2_with fail
  refine (dverify_s (H.out.fr0 HV1.out.fr) HX.out.sl HX.out.sb HBt.out.sl (isBytes_bun HX.out) HX.out.gl HX.out.gb).mono ?_
  rintro e V2 ⟨rfl, F⟩
  have hV2 := HV1.out.call F
  clear f2 f3
  have f3 := hV2.nth 0 rfl
  have f2 := hV2.nth 1 rfl
  have HV2 := Lib.hid hV2
  clear hV2 F
  go_wp2_with fail
  refine ⟨⟨f2, f3⟩, ?_⟩
  refine drawn_end rfl (by kernel_rfl) ?_
  intro K hK
  go_wp2_with fail
  exact bodyPost_ret (results_tmp rfl _ _ _) rfl ⟨rfl, HV2.out.fr⟩
end
end Go.Proofs.YtbhnfohoclcjdaaGreat
namespace Go.Proofs.YtbhnfohoclcjdaaGreat
open Go.RowKit Go.Dr Go.Kd
section
variable {w : World}
set_option maxRecDepth 100000 in
set_option maxHeartbeats 2000000 in
theorem dnew_x {lo tb : Nat} {T : List Tm} {a b c : List Int} (h : DTabP lo tb w T) (ha : Key32 a) (hb : Key32 b) (hc : Key32 c) :
    Calls Tryz.prog 23 #[SU tb, .agg (ints .u8 a), .agg (ints .u8 b), .agg (ints .u8 c)] w fun e w' => ∃ x y z T', e = .returned (.agg (acC x y z)) ∧ Key32 x ∧ Key32 y ∧ Key32 z ∧ (DTabP lo tb w' T' ∧ Hid (NewR T a b c x y z T')) ∧ FrD lo w w' := by
  have H := Lib.hid h
  have HA := Lib.hid ha
  have HB := Lib.hid hb
  have HC := Lib.hid hc
  have la := ha.len
  have lb := hb.len
  have lc := hc.len
  clear h ha hb hc
  have z73 : Tryz.zeroCells73.size = 99 := by kernel_rfl
  obtain ⟨A0, hA0⟩ : ∃ A0, A0 = acC (zs 32) (zs 32) (zs 32) := ⟨_, rfl⟩
  have eA0 : Tryz.zeroCells73.setIfInBounds 98 (.int .u16 1) = A0 := by rw [hA0]; kernel_rfl
  have sA0 : A0.size = 99 := by rw [hA0]; kernel_rfl
  have HA0 := Lib.hid hA0
  have allA0 : A0.extract 0 99 = A0 := by rw [← sA0]; exact Array.extract_size
  have oneA0 : ones A0.toList = true := by rw [hA0]; kernel_rfl
  clear hA0
  go_enter Tryz.func23, Tryz.ntmps23
  go_upto_region 2 with (fail)
  have l9 : w.heap.size ≤ w.heap.size + 1 + 1 + 1 + 1 + 1 := by omega
  have l8 : w.heap.size ≤ w.heap.size + 1 + 1 + 1 + 1 := by omega
  refine named_world (A := fun X => OwB w.void [(w.heap.size + 1 + 1 + 1 + 1 + 1, .cells A0 73), (w.heap.size + 1 + 1 + 1 + 1, .cells Tryz.zeroCells73 73), (w.heap.size + 1 + 1 + 1, .cells (ints .u8 c) 33), (w.heap.size + 1 + 1, .cells (ints .u8 b) 33), (w.heap.size + 1, .cells (ints .u8 a) 33), (w.heap.size, .cells #[.pointer (some ⟨tb, 0, none⟩)] 31)] X ∧ DTabP lo tb X T ∧ FrD lo w X) (Q := fun X => Code.wp _ _ _ _ X) ⟨(((((((OwB.hold w).allocN _ (w.heap.size) (by simp)).allocN _ (w.heap.size + 1) (by simp)).allocN _ (w.heap.size + 1 + 1) (by simp)).allocN _ (w.heap.size + 1 + 1 + 1) (by simp)).allocN _ (w.heap.size + 1 + 1 + 1 + 1) (by simp)).allocN _ (w.heap.size + 1 + 1 + 1 + 1 + 1) (by simp)), H.out.fr0 (((((((Fr.refl [] w).alloc _).alloc _).alloc _).alloc _).alloc _).alloc _), .of (((((((Fr.refl [] w).alloc _).alloc _).alloc _).alloc _).alloc _).alloc _)⟩ ?_
  rintro V0 ⟨hV, hT, hF⟩
  generalize w.heap.size + 1 + 1 + 1 + 1 + 1 = b9 at hV l9 ⊢
  generalize w.heap.size + 1 + 1 + 1 + 1 = b8 at hV l8 ⊢
  generalize w.heap.size + 1 + 1 + 1 = b7 at hV ⊢
  generalize w.heap.size + 1 + 1 = b6 at hV ⊢
  generalize w.heap.size + 1 = b5 at hV ⊢
  generalize w.heap.size = b4 at hV ⊢
  have HV0 := Lib.hid hV
  have HT0 := Lib.hid hT
  have HF0 := Lib.hid hF
  clear hV hT hF eA0
  have f4 := HV0.out.nth 5 rfl
  have fx := HV0.out.nth 4 rfl
  have t4 := World.at_lt f4
  have tx := World.at_lt fx
  go_wp2_with fail
  refine (dfresh_x HT0.out HA.out).mono ?_
  rintro e W1 ⟨k1, T1, hm1, rfl, hk1, hT, F⟩
  have HVx := Lib.hid (HV0.out.callT F (by simp [other, DT]) (Nat.zero_le _))
  have HTx := Lib.hid hT
  have HFx := Lib.hid (HF0.out.trans F)
  have lk1 := hk1.len
  have sk1 : (ints .u8 k1).size = 32 := by rw [size_ints, lk1]
  have HK1 := Lib.hid hk1
  clear f4 fx t4 tx hT F hk1
  have f9 := HVx.out.nth 0 rfl
  have t9 := World.at_lt f9
  obtain ⟨A1, hA1⟩ : ∃ A1, A1 = acC k1 (zs 32) (zs 32) := ⟨_, rfl⟩
  have eA1 : spl A0 0 (k1.map (Value.int .u8)) = A1 := by rw [hA1, HA0.out]; exact cAccount_spl_agree _ _ _ _ _ _ _ rfl rfl rfl lk1
  have sA1 : A1.size = 99 := by rw [hA1, List.size_toArray, cAccount_length _ _ _ _ _ _ (by first | exact lk1 | rfl) (by first | exact lk2 | rfl) (by first | exact lk3 | rfl)]
  have allA1 : A1.extract 0 99 = A1 := by rw [← sA1]; exact Array.extract_size
  have oneA1 : ones A1.toList = true := by rw [hA1]; exact List.all_eq_true.2 (cAccount_one _ _ _ _ _ _ rfl rfl rfl)
  have HA1 := Lib.hid hA1
  clear hA1
  go_upto_region 3 with (fail)
  refine named_world (A := fun X => OwB w.void [(b9, .cells A1 73), (b8, .cells Tryz.zeroCells73 73), (b7, .cells (ints .u8 c) 33), (b6, .cells (ints .u8 b) 33), (b5, .cells (ints .u8 a) 33), (b4, .cells #[.pointer (some ⟨tb, 0, none⟩)] 31)] X ∧ DTabP lo tb X T1 ∧ FrD lo w X) (Q := fun X => Code.wp _ _ _ _ X) ⟨HVx.out.set 0 _ rfl, HTx.out.put f9 (by decide) _, HFx.out.put _ l9⟩ ?_
  rintro V1 ⟨hV, hT, hF⟩
  clear f9 t9 eA1
  have HV1 := Lib.hid hV
  have HT1 := Lib.hid hT
  have HF1 := Lib.hid hF
  clear hV hT hF HVx HTx HFx
  have f4 := HV1.out.nth 5 rfl
  have fx := HV1.out.nth 3 rfl
  have t4 := World.at_lt f4
  have tx := World.at_lt fx
  go_wp2_with fail
  refine (dfresh_x HT1.out HB.out).mono ?_
  rintro e W2 ⟨k2, T2, hm2, rfl, hk2, hT, F⟩
  have HVx := Lib.hid (HV1.out.callT F (by simp [other, DT]) (Nat.zero_le _))
  have HTx := Lib.hid hT
  have HFx := Lib.hid (HF1.out.trans F)
  have lk2 := hk2.len
  have sk2 : (ints .u8 k2).size = 32 := by rw [size_ints, lk2]
  have HK2 := Lib.hid hk2
  clear f4 fx t4 tx hT F hk2
  have f9 := HVx.out.nth 0 rfl
  have t9 := World.at_lt f9
  obtain ⟨A2, hA2⟩ : ∃ A2, A2 = acC k1 k2 (zs 32) := ⟨_, rfl⟩
  have eA2 : spl A1 32 (k2.map (Value.int .u8)) = A2 := by rw [hA2, HA1.out]; exact cAccount_spl_sign _ _ _ _ _ _ _ lk1 rfl rfl lk2
  have sA2 : A2.size = 99 := by rw [hA2, List.size_toArray, cAccount_length _ _ _ _ _ _ (by first | exact lk1 | rfl) (by first | exact lk2 | rfl) (by first | exact lk3 | rfl)]
  have allA2 : A2.extract 0 99 = A2 := by rw [← sA2]; exact Array.extract_size
  have oneA2 : ones A2.toList = true := by rw [hA2]; exact List.all_eq_true.2 (cAccount_one _ _ _ _ _ _ rfl rfl rfl)
  have HA2 := Lib.hid hA2
  clear hA2
  go_upto_region 4 with (fail)
  refine named_world (A := fun X => OwB w.void [(b9, .cells A2 73), (b8, .cells Tryz.zeroCells73 73), (b7, .cells (ints .u8 c) 33), (b6, .cells (ints .u8 b) 33), (b5, .cells (ints .u8 a) 33), (b4, .cells #[.pointer (some ⟨tb, 0, none⟩)] 31)] X ∧ DTabP lo tb X T2 ∧ FrD lo w X) (Q := fun X => Code.wp _ _ _ _ X) ⟨HVx.out.set 0 _ rfl, HTx.out.put f9 (by decide) _, HFx.out.put _ l9⟩ ?_
  rintro V2 ⟨hV, hT, hF⟩
  clear f9 t9 eA2
  have HV2 := Lib.hid hV
  have HT2 := Lib.hid hT
  have HF2 := Lib.hid hF
  clear hV hT hF HVx HTx HFx
  have f4 := HV2.out.nth 5 rfl
  have fx := HV2.out.nth 2 rfl
  have t4 := World.at_lt f4
  have tx := World.at_lt fx
  go_wp2_with fail
  refine (dfresh_x HT2.out HC.out).mono ?_
  rintro e W3 ⟨k3, T3, hm3, rfl, hk3, hT, F⟩
  have HVx := Lib.hid (HV2.out.callT F (by simp [other, DT]) (Nat.zero_le _))
  have HTx := Lib.hid hT
  have HFx := Lib.hid (HF2.out.trans F)
  have lk3 := hk3.len
  have sk3 : (ints .u8 k3).size = 32 := by rw [size_ints, lk3]
  have HK3 := Lib.hid hk3
  clear f4 fx t4 tx hT F hk3
  have f9 := HVx.out.nth 0 rfl
  have t9 := World.at_lt f9
  obtain ⟨A3, hA3⟩ : ∃ A3, A3 = acC k1 k2 k3 := ⟨_, rfl⟩
  have eA3 : spl A2 65 (k3.map (Value.int .u8)) = A3 := by rw [hA3, HA2.out]; exact cAccount_spl_fsec _ _ _ _ _ _ _ lk1 lk2 rfl lk3
  have sA3 : A3.size = 99 := by rw [hA3, List.size_toArray, cAccount_length _ _ _ _ _ _ (by first | exact lk1 | rfl) (by first | exact lk2 | rfl) (by first | exact lk3 | rfl)]
  have allA3 : A3.extract 0 99 = A3 := by rw [← sA3]; exact Array.extract_size
  have oneA3 : ones A3.toList = true := by rw [hA3]; exact List.all_eq_true.2 (cAccount_one _ _ _ _ _ _ rfl rfl rfl)
  have HA3 := Lib.hid hA3
  clear hA3
  go_upto_region 5 with (fail)
  refine named_world (A := fun X => OwB w.void [(b9, .cells A3 73), (b8, .cells Tryz.zeroCells73 73), (b7, .cells (ints .u8 c) 33), (b6, .cells (ints .u8 b) 33), (b5, .cells (ints .u8 a) 33), (b4, .cells #[.pointer (some ⟨tb, 0, none⟩)] 31)] X ∧ DTabP lo tb X T3 ∧ FrD lo w X) (Q := fun X => Code.wp _ _ _ _ X) ⟨HVx.out.set 0 _ rfl, HTx.out.put f9 (by decide) _, HFx.out.put _ l9⟩ ?_
  rintro V3 ⟨hV, hT, hF⟩
  clear f9 t9 eA3
  have HV3 := Lib.hid hV
  have HT3 := Lib.hid hT
  have HF3 := Lib.hid hF
  clear hV hT hF HVx HTx HFx
  have f9 := HV3.out.nth 0 rfl
  have f8 := HV3.out.nth 1 rfl
  have t9 := World.at_lt f9
  have t8 := World.at_lt f8
  have n89 := HV3.out.ne 1 0 rfl rfl (by decide)
  have n98 := n89.symm
  go_wp2_with fail
  refine ret_cell rfl rfl rfl ?_
  go_simp
  refine ⟨by kernel_rfl, k1, k2, k3, HA3.out, HK1.out, HK2.out, HK3.out, ?_, HF3.out.put _ l8⟩
  exact ⟨T3, HT3.out.put f8 (by decide) _, Lib.hid ⟨T1, T2, hm1.out, hm2.out, hm3.out⟩⟩
end
end Go.Proofs.YtbhnfohoclcjdaaGreat
namespace Go.Proofs.YtbhnfohoclcjdaaGreat
open Go.RowKit Go.Dr Go.Kd
theorem fields65 : (Tryz.prog.fieldsOf 65).toList.map (fun f => (f.name == "_", f.type, f.offset)) = [(false, 5, 0), (false, 34, 1), (false, 34, 33), (false, 63, 65), (false, 34, 66), (false, 45, 98)] := by kernel_rfl
theorem und65 : Tryz.prog.underlying 65 = some (.struct (Tryz.prog.fieldsOf 65)) := by kernel_rfl
theorem stood65 : Tryz.prog.stoodInHeld 65 = false := by kernel_rfl
theorem eq45 (a b : List Int) (ha : a.length = 64) (hb : b.length = 64) (w : World) (d : Nat) : (Op.equalIn (d + 2) 45 (.agg (ints .u8 a)) (.agg (ints .u8 b))).run Tryz.prog w = .ok (decide (a = b)) w :=
  let ⟨_, hi⟩ := exInfo5
  run_eq_ints d .u8 .u8 Tryz.underlying45 hi (by kernel_rfl) Tryz.underlying5 (fun w => by kernel_rfl) a b ha hb w
theorem eq34 (a b : List Int) (ha : a.length = 32) (hb : b.length = 32) (w : World) (d : Nat) : (Op.equalIn (d + 2) 34 (.agg (ints .u8 a)) (.agg (ints .u8 b))).run Tryz.prog w = .ok (decide (a = b)) w :=
  let ⟨_, hi⟩ := exInfo5
  run_eq_ints d .u8 .u8 Tryz.underlying34 hi (by kernel_rfl) Tryz.underlying5 (fun w => by kernel_rfl) a b ha hb w
theorem eqFields_pass {d : Nat} {xs ys : Array Value} {f : Field} {fs : List Field} {w : World} {v u : Value} (hn : (f.name == "_") = false) (hx : (part f.type xs f.offset).run Tryz.prog w = .ok v w) (hy : (part f.type ys f.offset).run Tryz.prog w = .ok u w) (he : (Op.equalIn d f.type v u).run Tryz.prog w = .ok true w) (h : (Op.eqFields d xs ys fs).run Tryz.prog w = .ok true w) :
    (Op.eqFields d xs ys (f :: fs)).run Tryz.prog w = .ok true w := by
  have hn' : f.name ≠ "_" := by simpa using hn
  simp [Op.eqFields, hn', hx, hy, he, h]
theorem part_key {xs : Array Value} {o : Nat} {a : List Int} {w : World} (h : xs.extract o (o + 32) = ints .u8 a) (hs : o + 32 ≤ xs.size) : (part 34 xs o).run Tryz.prog w = .ok (.agg (ints .u8 a)) w := by
  have h1 : ∀ w, (isAgg 34).run Tryz.prog w = .ok true w := fun w => by kernel_rfl
  have h2 : ∀ w, (sizeOf 34).run Tryz.prog w = .ok 32 w := fun w => by kernel_rfl
  simp [part, h1, h2, h, hs]
theorem part_sig {xs : Array Value} {o : Nat} {a : List Int} {w : World} (h : xs.extract o (o + 64) = ints .u8 a) (hs : o + 64 ≤ xs.size) : (part 45 xs o).run Tryz.prog w = .ok (.agg (ints .u8 a)) w := by
  have h1 : ∀ w, (isAgg 45).run Tryz.prog w = .ok true w := fun w => by kernel_rfl
  have h2 : ∀ w, (sizeOf 45).run Tryz.prog w = .ok 64 w := fun w => by kernel_rfl
  simp [part, h1, h2, h, hs]
theorem part_u8 {xs : Array Value} {o : Nat} {v : Value} {w : World} (h : xs[o]? = some v) : (part 5 xs o).run Tryz.prog w = .ok v w := by
  have h1 : ∀ w, (isAgg 5).run Tryz.prog w = .ok false w := fun w => by kernel_rfl
  simp [part, h1, h]
theorem part_u16 {xs : Array Value} {o : Nat} {v : Value} {w : World} (h : xs[o]? = some v) : (part 63 xs o).run Tryz.prog w = .ok v w := by
  have h1 : ∀ w, (isAgg 63).run Tryz.prog w = .ok false w := fun w => by kernel_rfl
  simp [part, h1, h]
theorem eq65 {x : Bn} (hx : BnOk x) (w : World) : (Op.equalIn 10000 65 (.agg (bnC x)) (.agg (bnC x))).run Tryz.prog w = .ok true w := by
  rw [run_equalIn_agg (w := w) (P := Tryz.prog) 9999 65 _ _ und65 stood65]
  obtain ⟨fs, hfs⟩ : ∃ fs, fs = (Tryz.prog.fieldsOf 65).toList := ⟨_, rfl⟩
  have hf := fields65
  rw [← hfs] at hf ⊢
  clear hfs
  obtain ⟨xs, hxs⟩ : ∃ xs, xs = bnC x := ⟨_, rfl⟩
  have hsz : xs.size = 162 := by rw [hxs]; exact bnC_size hx
  have g0 : xs[0]? = some (.int .u8 x.device) := by rw [hxs]; exact cBundle_get_device _ _ _ _ _ _ hx.al hx.sl hx.ol hx.gl
  have g1 : xs.extract 1 33 = ints .u8 x.agree := by rw [hxs]; exact cBundle_ext_agree _ _ _ _ _ _ hx.al hx.sl hx.ol hx.gl
  have g2 : xs.extract 33 65 = ints .u8 x.signer := by rw [hxs]; exact cBundle_ext_signer _ _ _ _ _ _ hx.al hx.sl hx.ol hx.gl
  have g3 : xs[65]? = some (.int .u16 x.id) := by rw [hxs]; exact cBundle_get_id _ _ _ _ _ _ hx.al hx.sl hx.ol hx.gl
  have g4 : xs.extract 66 98 = ints .u8 x.once := by rw [hxs]; exact cBundle_ext_once _ _ _ _ _ _ hx.al hx.sl hx.ol hx.gl
  have g5 : xs.extract 98 162 = ints .u8 x.sig := by rw [hxs]; exact cBundle_ext_sig _ _ _ _ _ _ hx.al hx.sl hx.ol hx.gl
  rw [← hxs]
  rcases fs with _ | ⟨f0, _ | ⟨f1, _ | ⟨f2, _ | ⟨f3, _ | ⟨f4, _ | ⟨f5, _ | ⟨f6, fs⟩⟩⟩⟩⟩⟩⟩ <;> simp only [List.map_nil, List.map_cons, List.cons.injEq, Prod.mk.injEq, reduceCtorEq, and_true, and_false, List.nil_eq] at hf
  obtain ⟨⟨n0, t0, o0⟩, ⟨n1, t1, o1⟩, ⟨n2, t2, o2⟩, ⟨n3, t3, o3⟩, ⟨n4, t4, o4⟩, n5, t5, o5⟩ := hf
  refine eqFields_pass n0 (by rw [t0, o0]; exact part_u8 g0) (by rw [t0, o0]; exact part_u8 g0) (by rw [t0]; rw [run_equalIn_int w 9998 5 .u8 .u8 _ _ Tryz.underlying5]; simp) ?_
  refine eqFields_pass n1 (by rw [t1, o1]; exact part_key g1 (by omega)) (by rw [t1, o1]; exact part_key g1 (by omega)) (by rw [t1, eq34 _ _ hx.al hx.al w 9997]; simp) ?_
  refine eqFields_pass n2 (by rw [t2, o2]; exact part_key g2 (by omega)) (by rw [t2, o2]; exact part_key g2 (by omega)) (by rw [t2, eq34 _ _ hx.sl hx.sl w 9997]; simp) ?_
  refine eqFields_pass n3 (by rw [t3, o3]; exact part_u16 g3) (by rw [t3, o3]; exact part_u16 g3) (by rw [t3]; rw [run_equalIn_int w 9998 63 .u16 .u16 _ _ Tryz.underlying63]; simp) ?_
  refine eqFields_pass n4 (by rw [t4, o4]; exact part_key g4 (by omega)) (by rw [t4, o4]; exact part_key g4 (by omega)) (by rw [t4, eq34 _ _ hx.ol hx.ol w 9997]; simp) ?_
  refine eqFields_pass n5 (by rw [t5, o5]; exact part_sig g5 (by omega)) (by rw [t5, o5]; exact part_sig g5 (by omega)) (by rw [t5, eq45 _ _ hx.gl hx.gl w 9997]; simp) ?_
  simp [Op.eqFields]
end Go.Proofs.YtbhnfohoclcjdaaGreat
namespace Go.Proofs.YtbhnfohoclcjdaaGreat
open Go.RowKit Go.Dr Go.Kd
abbrev shC (hs : Bool) (f : Bn) (p : Option Addr) (n c : Nat) (last : Int) : Array Value := (cShelf (.bool hs) (bnC f).toList (.slice p n c) (.int .u16 last)).toArray
/-- What a shelf's cells are. -/
structure ShF (xs : Array Value) (hs : Bool) (F : Array Value) (p : Option Addr) (n c : Nat) (last : Int) : Prop where
  sz : xs.size = 165
  g0 : ∃ h : 0 < xs.size, xs[0] = .bool hs
  g1 : xs.extract 1 163 = F
  g2 : ∃ h : 163 < xs.size, xs[163] = .slice p n c
  g3 : ∃ h : 164 < xs.size, xs[164] = .int .u16 last
  al : xs.extract 0 165 = xs
  on : ones xs.toList = true
theorem shF {hs : Bool} {f : Bn} {p : Option Addr} {n c : Nat} {last : Int} (hf : BnOk f) : ShF (shC hs f p n c last) hs (bnC f) p n c last := by
  have hl : (bnC f).toList.length = 162 := by rw [Array.length_toList, bnC_size hf]
  have hz : (shC hs f p n c last).size = 165 := by rw [List.size_toArray, cShelf_length _ _ _ _ hl]
  exact ⟨hz, Array.getElem?_eq_some_iff.1 (cShelf_get_has _ _ _ _ hl), (cShelf_ext_fall _ _ _ _ hl).trans (by simp), Array.getElem?_eq_some_iff.1 (cShelf_get_left _ _ _ _ hl), Array.getElem?_eq_some_iff.1 (cShelf_get_last _ _ _ _ hl), by rw [← hz]; exact Array.extract_size, List.all_eq_true.2 (cShelf_one _ _ _ _ rfl (cBundle_one _ _ _ _ _ _ rfl rfl) rfl rfl)⟩
section
variable {w : World}
set_option maxRecDepth 100000 in
set_option maxHeartbeats 2000000 in
theorem dsame_t {hs : Bool} {f : Bn} {p q : Option Addr} {n c d : Nat} {last : Int} {ls : List Bn} (hf : BnOk f) (S : Lf w p n c (bnsL ls)) (R : Lf w q n d (bnsL ls)) (hls : ∀ x ∈ ls, BnOk x) (hl : ls.length = n) (hn : n ≤ 1000000) :
    Calls Tryz.prog 30 #[.agg (shC hs f p n c last), .agg (shC hs f q n d last)] w fun e w' => e = .returned (.bool true) ∧ Fr [] w w' := by
  obtain ⟨xs, hxs⟩ : ∃ xs, xs = shC hs f p n c last := ⟨_, rfl⟩
  obtain ⟨ys, hys⟩ : ∃ ys, ys = shC hs f q n d last := ⟨_, rfl⟩
  obtain ⟨F, hF⟩ : ∃ F, F = bnC f := ⟨_, rfl⟩
  have X : ShF xs hs F p n c last := by rw [hxs, hF]; exact shF hf
  have Y : ShF ys hs F q n d last := by rw [hys, hF]; exact shF hf
  have eqF : ∀ W : World, (Op.equalIn 10000 65 (.agg F) (.agg F)).run Tryz.prog W = .ok true W := fun W => by rw [hF]; exact eq65 hf W
  have szF : F.size = 162 := by rw [hF]; exact bnC_size hf
  rw [← hxs, ← hys]
  have HS := Lib.hid S
  have HR := Lib.hid R
  have HLS := Lib.hid hls
  have HL := Lib.hid hl
  clear hxs hys hF S R hls hl hf
  obtain ⟨sx, ⟨x0, x0'⟩, x1, ⟨x2, x2'⟩, ⟨x3, x3'⟩, _, _⟩ := X
  obtain ⟨sy, ⟨y0, y0'⟩, y1, ⟨y2, y2'⟩, ⟨y3, y3'⟩, _, _⟩ := Y
  go_enter Tryz.func30, Tryz.ntmps30
  go_upto_region 1 with (fail)
  refine named_world (A := fun X => OwB w [(w.heap.size + 1, .cells ys 68), (w.heap.size, .cells xs 68)] X) (Q := fun X => Code.wp _ _ _ _ X) (((OwB.start w).allocN _ w.heap.size rfl).allocN _ (w.heap.size + 1) (by simp)) ?_
  intro V hV
  generalize w.heap.size + 1 = b3 at hV ⊢
  generalize w.heap.size = b2 at hV ⊢
  have f3 := hV.nth 0 rfl
  have f2 := hV.nth 1 rfl
  have t3 := World.at_lt f3
  have t2 := World.at_lt f2
  have HV := Lib.hid hV
  clear hV
  have dn : ((n : Int) != (n : Int)) = false := by simp
  go_wp2_with fail
  go_loopw [5] (fun iv wy => ∃ i : Nat, i ≤ n ∧ iv = .int .i64 (i : Int) ∧ Hid (OwB w [(b3, .cells ys 68), (b2, .cells xs 68)] wy)) (fun iv _ => (n - intOf iv).toNat)
  case atStart => exact ⟨0, by omega, rfl, HV⟩
  case round =>
    clear f3 f2 t3 t2 HV
    obtain ⟨i, hi9, rfl, hO⟩ := hrel
    have f3 := hO.out.nth 0 rfl
    have f2 := hO.out.nth 1 rfl
    have t3 := World.at_lt f3
    have t2 := World.at_lt f2
    by_cases hlt : i < n
    · have hd : decide ((i : Int) < (n : Int)) = true := by rw [decide_eq_true_eq]; omega
      obtain ⟨y, b, o, cs, TT, fr, hy, rfl, g1, hs1, hs2, hx⟩ := (HS.out.fr0 hO.out.fr).elem HLS.out HL.out hlt
      obtain ⟨y', b', o', cs', TT', fr', hy', rfl, g1', hs1', hs2', hx'⟩ := (HR.out.fr0 hO.out.fr).elem HLS.out HL.out hlt
      rw [hy] at hy'
      simp only [Option.some.injEq] at hy'
      subst hy'
      have oky := HLS.out y (List.mem_of_getElem? hy)
      obtain ⟨B, hB⟩ : ∃ B, B = bnC y := ⟨_, rfl⟩
      rw [← hB] at hx hx'
      have eqB : ∀ W : World, (Op.equalIn 10000 65 (.agg B) (.agg B)).run Tryz.prog W = .ok true W := fun W => by rw [hB]; exact eq65 oky W
      have szB : B.size = 162 := by rw [hB]; exact bnC_size oky
      have u1 := World.at_lt g1
      have u1' := World.at_lt g1'
      have wi : IntKind.i64.wrap ((i : Int) + 1) = ((i + 1 : Nat) : Int) := by rw [IntKind.wrap_i64]; omega
      clear hB hy oky
      go_upto_region 6 with (fail)
      refine wp_region_quiet_all (C := fun w' => ∃ _ : Unit, w' = wr.drew) (by kernel_rfl) (by kernel_rfl) ⟨(), rfl⟩ ?_
      repeat (go_big_quiet_step (fail))
      refine wpQuiet_nil ?_
      intro _ hw'
      obtain ⟨_, rfl⟩ := hw'
      have HO1 := Lib.hid hO.out.drew
      clear f3 f2 t3 t2 g1 g1' u1 u1' hx hx'
      go_wp2_with fail
      go_roundw
      case rel => exact ⟨i + 1, by omega, by first | rfl | simp, HO1⟩
      case measure => simp [intOf]; omega
    · obtain rfl : i = n := by omega
      have hd : decide ((i : Int) < (i : Int)) = false := by simp
      go_wp2_with fail
      exact bodyPost_ret (results_tmp rfl _ _ _) rfl ⟨rfl, hO.out.fr⟩
end
end Go.Proofs.YtbhnfohoclcjdaaGreat
