/- The free suite: signatures. -/
import Derived.Test.YtbhnfohoclcjdaaKdO
import Derived.Deep.DeepCutAuto
set_option linter.unusedVariables false
set_option linter.unusedSimpArgs false
namespace Go.Proofs.Ytbhnfohoclcjdaa
open Go.RowKit Go.Dr Go.Kd
section
variable {w : World}
theorem sll_two {V : World} {b bx : Nat} {k l : List Int} {q : Option Addr} {m c : Nat} {T1 T2 : TypeId} (h1 : V.blk b = some (.cells (ints .u8 k) T1)) (h3 : Sl .u8 V q m c l) (h2 : V.blk bx = some (.cells #[.slice (some ⟨b, 0, none⟩) 32 32, .slice q m c] T2)) (hk : k.length = 32) : Sll V (some ⟨bx, 0, none⟩) 2 2 [k, l] :=
  Sll.of (vs := [.slice (some ⟨b, 0, none⟩) 32 32, .slice q m c]) ⟨rfl, Nat.le_refl 2, .inr ⟨bx, 0, _, T2, (0, 0), rfl, h2, by simp, by simp⟩, by simp, fun a ha => ⟨_, _, (by simpa using ha.symm)⟩⟩ (.cons (Sl.whole h1 hk) (.cons h3 .nil))
theorem good_two {kind : Int} {k l : List Int} (h1 : 1 ≤ kind) (h8 : kind ≤ 8) (hk : k.length = 32) (hb : isBytes k) (hl : l.length ≤ 4096) (hb2 : isBytes l) : goodT (kind, [k, l]) :=
  ⟨by simp [fits, hk, hl], by simp only [List.mem_cons, List.not_mem_nil, or_false]; rintro x (rfl | rfl) <;> assumption, h1, h8⟩
set_option maxRecDepth 100000 in
set_option maxHeartbeats 2000000 in
theorem sign_f {lo tb : Nat} {T : List Tm} {k t : List Int} {p : Option Addr} {n cap : Nat} (h : TabP lo tb w T) (hk : k.length = 32) (hb : isBytes k) (S : Sl .u8 w p n cap t) (ht : isBytes t) :
    Calls Try.prog 15 #[SU tb, .agg (ints .u8 k), .slice p n cap] w fun e w' => e = .returned (.agg (ints .u8 (signF T k t).2)) ∧ TabP lo tb w' (signF T k t).1 ∧ FrP lo w w' := by
  have H := Lib.hid h
  have HB := Lib.hid hb
  have HS := Lib.hid S
  have HT := Lib.hid ht
  have HN := Lib.hid S.len
  clear h hb S ht
  go_enter Try.func15, Try.ntmps15
  go_upto_if 11 with (fail)
  refine named_world (A := fun X => OwB w [(w.heap.size + 1 + 1, .cells (ints .u8 (zs 64)) 26), (w.heap.size + 1, .cells (ints .u8 k) 23), (w.heap.size, .cells #[.pointer (some ⟨tb, 0, none⟩)] 33)] X) (Q := fun X => Code.wp _ _ _ _ X) ((((OwB.start w).allocN _ w.heap.size rfl).allocN _ (w.heap.size + 1) (by simp)).allocN _ (w.heap.size + 1 + 1) (by simp)) ?_
  intro V hV
  generalize w.heap.size + 1 + 1 = b6 at hV ⊢
  generalize w.heap.size + 1 = b4 at hV ⊢
  generalize w.heap.size = b3 at hV ⊢
  have f3 := hV.nth 2 rfl
  have f4 := hV.nth 1 rfl
  have f6 := hV.nth 0 rfl
  have l6 := hV.low 0 rfl
  have t3 := World.at_lt f3
  have t6 := World.at_lt f6
  have t4 := World.at_lt f4
  by_cases hn : 4096 < n
  · have d : decide (4096 < (n : Int)) = true := by rw [decide_eq_true_eq]; omega
    have e9 : signF T k t = (T, Kd.zeros 64) := by unfold signF; rw [if_pos (by rw [HN.out]; exact hn)]
    have HE := Lib.hid e9
    have HV := Lib.hid hV
    clear e9 hV
    go_wp2_with fail
    refine ret_cell rfl rfl rfl ?_
    go_simp
    rw [HE.out]
    have F := HV.out.fr.put b6 (.cells (ints .u8 (Kd.zeros 64)) 26) (fun h => by omega)
    exact ⟨by kernel_rfl, rfl, H.out.fr0 F, .of F⟩
  · have d : decide (4096 < (n : Int)) = false := by rw [decide_eq_false_iff_not]; omega
    obtain ⟨k2, hk2e⟩ : ∃ k2, k2 = (makeT T (6, [k, t])).2.1 := ⟨_, rfl⟩
    have hk2 : k2.length = 32 := by rw [hk2e]; exact makeT_len _ _
    have e9 : signF T k t = ((makeT T (6, [k, t])).1, k2 ++ Kd.zeros 32) := by unfold signF; rw [if_neg (by rw [HN.out]; exact hn), hk2e]
    have HE := Lib.hid e9
    have HKE := Lib.hid hk2e
    have hg := good_two (kind := 6) (by decide) (by decide) hk HB.out (by rw [HN.out]; omega) HT.out
    have HG := Lib.hid hg
    have HV := Lib.hid hV
    clear e9 hV hk2e hg
    go_upto_region 6 with (fail)
    refine named_world (A := fun X => OwB w [(V.heap.size, .cells (ints .u8 (zs 64)) 26), (b6, .cells (ints .u8 (zs 64)) 26), (b4, .cells (ints .u8 k) 23), (b3, .cells #[.pointer (some ⟨tb, 0, none⟩)] 33)] X) (Q := fun X => Code.wp _ _ _ _ X) (HV.out.allocN _ V.heap.size rfl) ?_
    intro U hU
    clear f3 f4 f6 t3 t4 t6
    generalize V.heap.size = b7 at hU ⊢
    have l7 := hU.low 0 rfl
    have HU := Lib.hid hU
    clear hU HV
    go_cut [8, 19, 20, 21, 22, 23] (fun v8 _ _ _ _ _ wy => ∃ b8, v8 = .pointer (some ⟨b8, 0, none⟩) ∧ wy.blk b8 = some (.cells (ints .u8 k2) 23) ∧ wy.blk b7 = some (.cells (ints .u8 (zs 64)) 26) ∧ wy.blk b6 = some (.cells (ints .u8 (zs 64)) 26) ∧ b8 ≠ b7 ∧ b8 ≠ b6 ∧ b7 ≠ b6 ∧ Hid (TabP lo tb wy (makeT T (6, [k, t])).1) ∧ Hid (FrP lo w wy))
    case first =>
      have f3 := HU.out.nth 3 rfl
      have f4 := HU.out.nth 2 rfl
      have t3 := World.at_lt f3
      have t4 := World.at_lt f4
      refine drawn_begin 6 (fun w' => w'.blk b3 = some (.cells #[.pointer (some ⟨tb, 0, none⟩)] 33) ∧ w'.blk b4 = some (.cells (ints .u8 k) 23)) (by kernel_rfl) ?_
      refine drawn_reads (fuel := 4) [0, 1, 2] rfl (by kernel_rfl) ⟨f3, f4⟩ ?_
      repeat (first | (refine rowK_step2 rfl rfl (fun K hK => ?_); go_wp2) | (refine rowK_step rfl (fun K hK => ?_); go_simp; refine hK _ ?_; clear hK K))
      refine rowK_nil ⟨fun w' e1 => ?_, ?_⟩
      · obtain ⟨e1, e2⟩ := e1
        clear f3 f4
        repeat (first | (refine rowWp_step2 rfl rfl (fun K hK => ?_); go_wp2) | (refine rowWp_step rfl (fun K hK => ?_); go_simp; refine hK _ ?_; clear hK K))
        exact rowWp_nil rfl
      refine drawn_next2 3 5 (fuel := 3) rfl rfl (by kernel_rfl) ?_ ?_
      · intro K hK
        go_wp2_with fail
        refine ⟨⟨by go_simp, by go_simp⟩, ?_⟩
        refine named_world (A := fun X => OwB w [(U.heap.size, .cells #[.slice (some ⟨b4, 0, none⟩) 32 32, .slice p n cap] 47), (b7, .cells (ints .u8 (zs 64)) 26), (b6, .cells (ints .u8 (zs 64)) 26), (b4, .cells (ints .u8 k) 23), (b3, .cells #[.pointer (some ⟨tb, 0, none⟩)] 33)] X) (Q := fun X => Go.Dr.wpAnyS Try.prog .any _ _ _ _ _ _ _ X) (by first | exact (HU.out.allocN _ U.heap.size rfl).drew | exact HU.out.drew.allocN _ U.heap.size rfl | exact HU.out.allocN _ U.heap.size rfl) ?_
        intro U1 hU1
        clear f3 f4 t3 t4
        generalize U.heap.size = bx at hU1 ⊢
        have f3 := hU1.nth 4 rfl
        have f4 := hU1.nth 3 rfl
        have t3 := World.at_lt f3
        have t4 := World.at_lt f4
        have HU1 := Lib.hid hU1
        clear hU1
        refine drawn_next2 4 5 (fuel := 2) rfl rfl (by kernel_rfl) ?_ ?_
        · intro K hK
          go_wp2_with fail
          refine (mk_f (H.out.fr0 HU1.out.fr) (sll_two (HU1.out.nth 3 rfl) (HS.out.fr0 HU1.out.fr) (HU1.out.nth 0 rfl) hk) HG.out).mono ?_
          rintro e w1 ⟨rfl, hT1, F⟩
          rw [← HKE.out]
          clear f3 f4 t3 t4
          have f3 := F.get (HU1.out.nth 4 rfl) (.inr ⟨by decide, by decide⟩)
          have f4 := F.get (HU1.out.nth 3 rfl) (.inr ⟨by decide, by decide⟩)
          have f6 := F.get (HU1.out.nth 2 rfl) (.inr ⟨by decide, by decide⟩)
          have f7 := F.get (HU1.out.nth 1 rfl) (.inr ⟨by decide, by decide⟩)
          have n76 := HU1.out.ne 1 2 rfl rfl (by decide)
          have t3 := World.at_lt f3
          have t4 := World.at_lt f4
          have t6 := World.at_lt f6
          have t7 := World.at_lt f7
          have HT1 := Lib.hid hT1
          have HF1 := Lib.hid ((FrT.of HU1.out.fr).trans F)
          clear hT1 F
          go_wp2_with fail
          refine ⟨⟨f3, f4⟩, ?_⟩
          refine drawn_next 5 (fuel := 1) rfl (by kernel_rfl) ?_
          intro K hK
          go_wp2_with fail
          refine ⟨⟨by go_simp, by go_simp⟩, ?_⟩
          refine drawn_end rfl (by kernel_rfl) ?_
          intro K hK
          go_wp2_with fail
          go_meet
          case rel => exact ⟨w1.heap.size, rfl, by go_simp, by go_simp, by go_simp, by omega, by omega, n76, Lib.hid (HT1.out.fr0 ((Fr.refl [] _).alloc _)), Lib.hid (HF1.out.alloc _)⟩
        · intro K hK
          go_wp2_with fail
          refine ⟨⟨by go_simp, by go_simp⟩, ?_⟩
          refine named_world (A := fun X => OwB w [(U1.heap.size, .cells (ints .u8 (zs 32)) 23), (bx, .cells #[.slice (some ⟨b4, 0, none⟩) 32 32, .slice p n cap] 47), (b7, .cells (ints .u8 (zs 64)) 26), (b6, .cells (ints .u8 (zs 64)) 26), (b4, .cells (ints .u8 k) 23), (b3, .cells #[.pointer (some ⟨tb, 0, none⟩)] 33)] X) (Q := fun X => Go.Dr.wpAnyS Try.prog .any _ _ _ _ _ _ _ X) (by first | exact (HU1.out.allocN _ U1.heap.size rfl).drew | exact HU1.out.drew.allocN _ U1.heap.size rfl | exact HU1.out.allocN _ U1.heap.size rfl) ?_
          intro U2 hU2
          clear f3 f4 t3 t4
          generalize U1.heap.size = b8 at hU2 ⊢
          have f3 := hU2.nth 5 rfl
          have f4 := hU2.nth 4 rfl
          have t3 := World.at_lt f3
          have t4 := World.at_lt f4
          have HU2 := Lib.hid hU2
          clear hU2
          refine drawn_next 4 (fuel := 1) rfl (by kernel_rfl) ?_
          intro K hK
          go_wp2_with fail
          refine (mk_f (H.out.fr0 HU2.out.fr) (sll_two (HU2.out.nth 4 rfl) (HS.out.fr0 HU2.out.fr) (HU2.out.nth 1 rfl) hk) HG.out).mono ?_
          rintro e w1 ⟨rfl, hT1, F⟩
          rw [← HKE.out]
          clear f3 f4 t3 t4
          have f3 := F.get (HU2.out.nth 5 rfl) (.inr ⟨by decide, by decide⟩)
          have f4 := F.get (HU2.out.nth 4 rfl) (.inr ⟨by decide, by decide⟩)
          have f6 := F.get (HU2.out.nth 3 rfl) (.inr ⟨by decide, by decide⟩)
          have f7 := F.get (HU2.out.nth 2 rfl) (.inr ⟨by decide, by decide⟩)
          have n76 := HU2.out.ne 2 3 rfl rfl (by decide)
          have t3 := World.at_lt f3
          have t4 := World.at_lt f4
          have t6 := World.at_lt f6
          have t7 := World.at_lt f7
          have f8 := F.get (HU2.out.nth 0 rfl) (.inr ⟨by decide, by decide⟩)
          have n87 := HU2.out.ne 0 2 rfl rfl (by decide)
          have n86 := HU2.out.ne 0 3 rfl rfl (by decide)
          have n83 := HU2.out.ne 0 5 rfl rfl (by decide)
          have n84 := HU2.out.ne 0 4 rfl rfl (by decide)
          have l8 := HU2.out.low 0 rfl
          have t8 := World.at_lt f8
          have HT1 := Lib.hid hT1
          have HF1 := Lib.hid ((FrT.of HU2.out.fr).trans F)
          clear hT1 F
          go_wp2_with fail
          refine ⟨⟨f3, f4⟩, ?_⟩
          refine drawn_end rfl (by kernel_rfl) ?_
          intro K hK
          go_wp2_with fail
          go_meet
          case rel => exact ⟨b8, rfl, by go_simp, by go_simp, by go_simp, n87, n86, n76, Lib.hid (HT1.out.put f8 (by decide) _), Lib.hid (HF1.out.put _ l8)⟩
      · intro K hK
        go_wp2_with fail
        refine ⟨⟨by go_simp, by go_simp⟩, ?_⟩
        refine named_world (A := fun X => OwB w [(U.heap.size, .cells (ints .u8 (zs 32)) 23), (b7, .cells (ints .u8 (zs 64)) 26), (b6, .cells (ints .u8 (zs 64)) 26), (b4, .cells (ints .u8 k) 23), (b3, .cells #[.pointer (some ⟨tb, 0, none⟩)] 33)] X) (Q := fun X => Go.Dr.wpAnyS Try.prog .any _ _ _ _ _ _ _ X) (by first | exact (HU.out.allocN _ U.heap.size rfl).drew | exact HU.out.drew.allocN _ U.heap.size rfl | exact HU.out.allocN _ U.heap.size rfl) ?_
        intro U1 hU1
        clear f3 f4 t3 t4
        generalize U.heap.size = b8 at hU1 ⊢
        have f3 := hU1.nth 4 rfl
        have f4 := hU1.nth 3 rfl
        have t3 := World.at_lt f3
        have t4 := World.at_lt f4
        have HU1 := Lib.hid hU1
        clear hU1
        refine drawn_next 3 (fuel := 2) rfl (by kernel_rfl) ?_
        intro K hK
        go_wp2_with fail
        refine ⟨⟨by go_simp, by go_simp⟩, ?_⟩
        refine named_world (A := fun X => OwB w [(U1.heap.size, .cells #[.slice (some ⟨b4, 0, none⟩) 32 32, .slice p n cap] 47), (b8, .cells (ints .u8 (zs 32)) 23), (b7, .cells (ints .u8 (zs 64)) 26), (b6, .cells (ints .u8 (zs 64)) 26), (b4, .cells (ints .u8 k) 23), (b3, .cells #[.pointer (some ⟨tb, 0, none⟩)] 33)] X) (Q := fun X => Go.Dr.wpAnyS Try.prog .any _ _ _ _ _ _ _ X) (by first | exact (HU1.out.allocN _ U1.heap.size rfl).drew | exact HU1.out.drew.allocN _ U1.heap.size rfl | exact HU1.out.allocN _ U1.heap.size rfl) ?_
        intro U2 hU2
        clear f3 f4 t3 t4
        generalize U1.heap.size = bx at hU2 ⊢
        have f3 := hU2.nth 5 rfl
        have f4 := hU2.nth 4 rfl
        have t3 := World.at_lt f3
        have t4 := World.at_lt f4
        have HU2 := Lib.hid hU2
        clear hU2
        refine drawn_next 4 (fuel := 1) rfl (by kernel_rfl) ?_
        intro K hK
        go_wp2_with fail
        refine (mk_f (H.out.fr0 HU2.out.fr) (sll_two (HU2.out.nth 4 rfl) (HS.out.fr0 HU2.out.fr) (HU2.out.nth 0 rfl) hk) HG.out).mono ?_
        rintro e w1 ⟨rfl, hT1, F⟩
        rw [← HKE.out]
        clear f3 f4 t3 t4
        have f3 := F.get (HU2.out.nth 5 rfl) (.inr ⟨by decide, by decide⟩)
        have f4 := F.get (HU2.out.nth 4 rfl) (.inr ⟨by decide, by decide⟩)
        have f6 := F.get (HU2.out.nth 3 rfl) (.inr ⟨by decide, by decide⟩)
        have f7 := F.get (HU2.out.nth 2 rfl) (.inr ⟨by decide, by decide⟩)
        have n76 := HU2.out.ne 2 3 rfl rfl (by decide)
        have t3 := World.at_lt f3
        have t4 := World.at_lt f4
        have t6 := World.at_lt f6
        have t7 := World.at_lt f7
        have f8 := F.get (HU2.out.nth 1 rfl) (.inr ⟨by decide, by decide⟩)
        have n87 := HU2.out.ne 1 2 rfl rfl (by decide)
        have n86 := HU2.out.ne 1 3 rfl rfl (by decide)
        have n83 := HU2.out.ne 1 5 rfl rfl (by decide)
        have n84 := HU2.out.ne 1 4 rfl rfl (by decide)
        have l8 := HU2.out.low 1 rfl
        have t8 := World.at_lt f8
        have HT1 := Lib.hid hT1
        have HF1 := Lib.hid ((FrT.of HU2.out.fr).trans F)
        clear hT1 F
        go_wp2_with fail
        refine ⟨⟨f3, f4⟩, ?_⟩
        refine drawn_end rfl (by kernel_rfl) ?_
        intro K hK
        go_wp2_with fail
        go_meet
        case rel => exact ⟨b8, rfl, by go_simp, by go_simp, by go_simp, n87, n86, n76, Lib.hid (HT1.out.put f8 (by decide) _), Lib.hid (HF1.out.put _ l8)⟩
    case rest =>
      obtain ⟨b8, rfl, f8, f7, f6, n87, n86, n76, HTb, HF⟩ := hcut
      have t6 := World.at_lt f6
      have t7 := World.at_lt f7
      have t8 := World.at_lt f8
      go_upto_region 7 with (fail)
      refine drawn_head 2 (by kernel_rfl) rfl rfl (by kernel_rfl) ?_
      change rowK _ _ _ [0, 1] _ _
      repeat (first | (refine rowK_step2 rfl rfl (fun K hK => ?_); go_wp2) | (refine rowK_step rfl (fun K hK => ?_); go_simp; refine hK _ ?_; clear hK K))
      refine rowK_nil ?_
      intro K hK
      go_wp2_with fail
      refine ret_cell rfl rfl rfl ?_
      go_simp
      have hl : lay (zs 64) 0 k2 = k2 ++ Kd.zeros 32 := by simp [lay, zs, Kd.zeros, hk2]
      rw [hl, HE.out]
      exact ⟨by kernel_rfl, rfl, ((HTb.out.put f7 (by decide) _).put (by rw [World.at_put_other _ _ _ _ n76]; exact f6) (by decide) _).fr0 (Fr.refl [] _).drew, ((HF.out.put _ l7).put _ l6).drew⟩
end
end Go.Proofs.Ytbhnfohoclcjdaa
