/- Joined: KdP, KdQ, KdR, KdS, GnH, KdT, KdU. -/
import Derived.Test.YtbhnfohoclcjdaaGreatZe
import Derived.Deep.DeepCutAuto
set_option linter.unusedVariables false
set_option linter.unusedSimpArgs false
namespace Go.Proofs.YtbhnfohoclcjdaaGreat
open Go.RowKit Go.Dr Go.Kd
section
variable {w : World}
theorem sll_two {V : World} {b bx : Nat} {k l : List Int} {q : Option Addr} {m c : Nat} {T1 T2 : TypeId} (h1 : V.blk b = some (.cells (ints .u8 k) T1)) (h3 : Sl .u8 V q m c l) (h2 : V.blk bx = some (.cells #[.slice (some ⟨b, 0, none⟩) 32 32, .slice q m c] T2)) (hk : k.length = 32) : Sll V (some ⟨bx, 0, none⟩) 2 2 [k, l] :=
  Sll.of (vs := [.slice (some ⟨b, 0, none⟩) 32 32, .slice q m c]) ⟨rfl, Nat.le_refl 2, .inr ⟨bx, 0, _, T2, (0, 0), rfl, h2, by simp, by simp⟩, by simp, fun a ha => ⟨_, _, (by simpa using ha.symm)⟩⟩ (.cons (Sl.whole h1 hk) (.cons h3 .nil))
theorem good_two {kind : Int} {k l : List Int} (h1 : 1 ≤ kind) (h8 : kind ≤ 8) (hk : k.length = 32) (hb : isBytes k) (hl : l.length ≤ 4096) (hb2 : isBytes l) : goodT (kind, [k, l]) :=
  ⟨by simp [fits, hk, hl], by simp only [List.mem_cons, List.not_mem_nil, or_false]; rintro x (rfl | rfl) <;> assumption, h1, h8⟩
set_option maxRecDepth 100000 in
set_option maxHeartbeats 2000000 in
theorem sign_f {lo tb : Nat} {T : List Tm} {k t : List Int} {p : Option Addr} {n cap : Nat} (h : TabP lo tb w T) (hk : k.length = 32) (hb : isBytes k) (S : Sl .u8 w p n cap t) (ht : isBytes t) :
    Calls Tryz.prog 27 #[SU tb, .agg (ints .u8 k), .slice p n cap] w fun e w' => e = .returned (.agg (ints .u8 (signF T k t).2)) ∧ TabP lo tb w' (signF T k t).1 ∧ FrP lo w w' := by
  have H := Lib.hid h
  have HB := Lib.hid hb
  have HS := Lib.hid S
  have HT := Lib.hid ht
  have HN := Lib.hid S.len
  clear h hb S ht
  go_enter Tryz.func27, Tryz.ntmps27
  go_upto_if 11 with (fail)
  refine named_world (A := fun X => OwB w [(w.heap.size + 1 + 1, .cells (ints .u8 (zs 64)) 45), (w.heap.size + 1, .cells (ints .u8 k) 34), (w.heap.size, .cells #[.pointer (some ⟨tb, 0, none⟩)] 27)] X) (Q := fun X => Code.wp _ _ _ _ X) ((((OwB.start w).allocN _ w.heap.size rfl).allocN _ (w.heap.size + 1) (by simp)).allocN _ (w.heap.size + 1 + 1) (by simp)) ?_
  intro V hV
  generalize w.heap.size + 1 + 1 = b6 at hV ⊢
  generalize w.heap.size + 1 = b4 at hV ⊢
  generalize w.heap.size = b3 at hV ⊢
  have f3 := hV.nth 2 rfl
  have f4 := hV.nth 1 rfl
  have f6 := hV.nth 0 rfl
  have l6 := hV.low 0 rfl
  have t3 := World.at_lt f3
  have t6 := World.at_lt f6
  have t4 := World.at_lt f4
  by_cases hn : 4096 < n
  · have d : decide (4096 < (n : Int)) = true := by rw [decide_eq_true_eq]; omega
    have e9 : signF T k t = (T, Kd.zeros 64) := by unfold signF; rw [if_pos (by rw [HN.out]; exact hn)]
    have HE := Lib.hid e9
    have HV := Lib.hid hV
    clear e9 hV
    go_wp2_with fail
    refine ret_cell rfl rfl rfl ?_
    go_simp
    rw [HE.out]
    have F := HV.out.fr.put b6 (.cells (ints .u8 (Kd.zeros 64)) 45) (fun h => by omega)
    exact ⟨by kernel_rfl, rfl, H.out.fr0 F, .of F⟩
  · have d : decide (4096 < (n : Int)) = false := by rw [decide_eq_false_iff_not]; omega
    obtain ⟨k2, hk2e⟩ : ∃ k2, k2 = (makeT T (6, [k, t])).2.1 := ⟨_, rfl⟩
    have hk2 : k2.length = 32 := by rw [hk2e]; exact makeT_len _ _
    have e9 : signF T k t = ((makeT T (6, [k, t])).1, k2 ++ Kd.zeros 32) := by unfold signF; rw [if_neg (by rw [HN.out]; exact hn), hk2e]
    have HE := Lib.hid e9
    have HKE := Lib.hid hk2e
    have hg := good_two (kind := 6) (by decide) (by decide) hk HB.out (by rw [HN.out]; omega) HT.out
    have HG := Lib.hid hg
    have HV := Lib.hid hV
    clear e9 hV hk2e hg
    go_upto_region 6 with (fail)
    refine named_world (A := fun X => OwB w [(V.heap.size, .cells (ints .u8 (zs 64)) 45), (b6, .cells (ints .u8 (zs 64)) 45), (b4, .cells (ints .u8 k) 34), (b3, .cells #[.pointer (some ⟨tb, 0, none⟩)] 27)] X) (Q := fun X => Code.wp _ _ _ _ X) (HV.out.allocN _ V.heap.size rfl) ?_
    intro U hU
    clear f3 f4 f6 t3 t4 t6
    generalize V.heap.size = b7 at hU ⊢
    have l7 := hU.low 0 rfl
    have HU := Lib.hid hU
    clear hU HV
    go_cut [8, 19, 20, 21, 22, 23] (fun v8 _ _ _ _ _ wy => ∃ b8, v8 = .pointer (some ⟨b8, 0, none⟩) ∧ wy.blk b8 = some (.cells (ints .u8 k2) 34) ∧ wy.blk b7 = some (.cells (ints .u8 (zs 64)) 45) ∧ wy.blk b6 = some (.cells (ints .u8 (zs 64)) 45) ∧ b8 ≠ b7 ∧ b8 ≠ b6 ∧ b7 ≠ b6 ∧ Hid (TabP lo tb wy (makeT T (6, [k, t])).1) ∧ Hid (FrP lo w wy))
    case first =>
      have f3 := HU.out.nth 3 rfl
      have f4 := HU.out.nth 2 rfl
      have t3 := World.at_lt f3
      have t4 := World.at_lt f4
      refine drawn_begin 6 (fun w' => w'.blk b3 = some (.cells #[.pointer (some ⟨tb, 0, none⟩)] 27) ∧ w'.blk b4 = some (.cells (ints .u8 k) 34)) (by kernel_rfl) ?_
      refine drawn_reads (fuel := 4) [0, 1, 2] rfl (by kernel_rfl) ⟨f3, f4⟩ ?_
      repeat (first | (refine rowK_step2 rfl rfl (fun K hK => ?_); go_wp2) | (refine rowK_step rfl (fun K hK => ?_); go_simp; refine hK _ ?_; clear hK K))
      refine rowK_nil ⟨fun w' e1 => ?_, ?_⟩
      · obtain ⟨e1, e2⟩ := e1
        clear f3 f4
        repeat (first | (refine rowWp_step2 rfl rfl (fun K hK => ?_); go_wp2) | (refine rowWp_step rfl (fun K hK => ?_); go_simp; refine hK _ ?_; clear hK K))
        exact rowWp_nil rfl
      refine drawn_next2 3 5 (fuel := 3) rfl rfl (by kernel_rfl) ?_ ?_
      · intro K hK
        go_wp2_with fail
        refine ⟨⟨by go_simp, by go_simp⟩, ?_⟩
        refine named_world (A := fun X => OwB w [(U.heap.size, .cells #[.slice (some ⟨b4, 0, none⟩) 32 32, .slice p n cap] 49), (b7, .cells (ints .u8 (zs 64)) 45), (b6, .cells (ints .u8 (zs 64)) 45), (b4, .cells (ints .u8 k) 34), (b3, .cells #[.pointer (some ⟨tb, 0, none⟩)] 27)] X) (Q := fun X => Go.Dr.wpAnyS Tryz.prog .any _ _ _ _ _ _ _ X) (by first | exact (HU.out.allocN _ U.heap.size rfl).drew | exact HU.out.drew.allocN _ U.heap.size rfl | exact HU.out.allocN _ U.heap.size rfl) ?_
        intro U1 hU1
        clear f3 f4 t3 t4
        generalize U.heap.size = bx at hU1 ⊢
        have f3 := hU1.nth 4 rfl
        have f4 := hU1.nth 3 rfl
        have t3 := World.at_lt f3
        have t4 := World.at_lt f4
        have HU1 := Lib.hid hU1
        clear hU1
        refine drawn_next2 4 5 (fuel := 2) rfl rfl (by kernel_rfl) ?_ ?_
        · intro K hK
          go_wp2_with fail
          refine (mk_f (H.out.fr0 HU1.out.fr) (sll_two (HU1.out.nth 3 rfl) (HS.out.fr0 HU1.out.fr) (HU1.out.nth 0 rfl) hk) HG.out).mono ?_
          rintro e w1 ⟨rfl, hT1, F⟩
          rw [← HKE.out]
          clear f3 f4 t3 t4
          have f3 := F.get (HU1.out.nth 4 rfl) (.inr ⟨by decide, by decide⟩)
          have f4 := F.get (HU1.out.nth 3 rfl) (.inr ⟨by decide, by decide⟩)
          have f6 := F.get (HU1.out.nth 2 rfl) (.inr ⟨by decide, by decide⟩)
          have f7 := F.get (HU1.out.nth 1 rfl) (.inr ⟨by decide, by decide⟩)
          have n76 := HU1.out.ne 1 2 rfl rfl (by decide)
          have t3 := World.at_lt f3
          have t4 := World.at_lt f4
          have t6 := World.at_lt f6
          have t7 := World.at_lt f7
          have HT1 := Lib.hid hT1
          have HF1 := Lib.hid ((FrT.of HU1.out.fr).trans F)
          clear hT1 F
          go_wp2_with fail
          refine ⟨⟨f3, f4⟩, ?_⟩
          refine drawn_next 5 (fuel := 1) rfl (by kernel_rfl) ?_
          intro K hK
          go_wp2_with fail
          refine ⟨⟨by go_simp, by go_simp⟩, ?_⟩
          refine drawn_end rfl (by kernel_rfl) ?_
          intro K hK
          go_wp2_with fail
          go_meet
          case rel => exact ⟨w1.heap.size, rfl, by go_simp, by go_simp, by go_simp, by omega, by omega, n76, Lib.hid (HT1.out.fr0 ((Fr.refl [] _).alloc _)), Lib.hid (HF1.out.alloc _)⟩
        · intro K hK
          go_wp2_with fail
          refine ⟨⟨by go_simp, by go_simp⟩, ?_⟩
          refine named_world (A := fun X => OwB w [(U1.heap.size, .cells (ints .u8 (zs 32)) 34), (bx, .cells #[.slice (some ⟨b4, 0, none⟩) 32 32, .slice p n cap] 49), (b7, .cells (ints .u8 (zs 64)) 45), (b6, .cells (ints .u8 (zs 64)) 45), (b4, .cells (ints .u8 k) 34), (b3, .cells #[.pointer (some ⟨tb, 0, none⟩)] 27)] X) (Q := fun X => Go.Dr.wpAnyS Tryz.prog .any _ _ _ _ _ _ _ X) (by first | exact (HU1.out.allocN _ U1.heap.size rfl).drew | exact HU1.out.drew.allocN _ U1.heap.size rfl | exact HU1.out.allocN _ U1.heap.size rfl) ?_
          intro U2 hU2
          clear f3 f4 t3 t4
          generalize U1.heap.size = b8 at hU2 ⊢
          have f3 := hU2.nth 5 rfl
          have f4 := hU2.nth 4 rfl
          have t3 := World.at_lt f3
          have t4 := World.at_lt f4
          have HU2 := Lib.hid hU2
          clear hU2
          refine drawn_next 4 (fuel := 1) rfl (by kernel_rfl) ?_
          intro K hK
          go_wp2_with fail
          refine (mk_f (H.out.fr0 HU2.out.fr) (sll_two (HU2.out.nth 4 rfl) (HS.out.fr0 HU2.out.fr) (HU2.out.nth 1 rfl) hk) HG.out).mono ?_
          rintro e w1 ⟨rfl, hT1, F⟩
          rw [← HKE.out]
          clear f3 f4 t3 t4
          have f3 := F.get (HU2.out.nth 5 rfl) (.inr ⟨by decide, by decide⟩)
          have f4 := F.get (HU2.out.nth 4 rfl) (.inr ⟨by decide, by decide⟩)
          have f6 := F.get (HU2.out.nth 3 rfl) (.inr ⟨by decide, by decide⟩)
          have f7 := F.get (HU2.out.nth 2 rfl) (.inr ⟨by decide, by decide⟩)
          have n76 := HU2.out.ne 2 3 rfl rfl (by decide)
          have t3 := World.at_lt f3
          have t4 := World.at_lt f4
          have t6 := World.at_lt f6
          have t7 := World.at_lt f7
          have f8 := F.get (HU2.out.nth 0 rfl) (.inr ⟨by decide, by decide⟩)
          have n87 := HU2.out.ne 0 2 rfl rfl (by decide)
          have n86 := HU2.out.ne 0 3 rfl rfl (by decide)
          have n83 := HU2.out.ne 0 5 rfl rfl (by decide)
          have n84 := HU2.out.ne 0 4 rfl rfl (by decide)
          have l8 := HU2.out.low 0 rfl
          have t8 := World.at_lt f8
          have HT1 := Lib.hid hT1
          have HF1 := Lib.hid ((FrT.of HU2.out.fr).trans F)
          clear hT1 F
          go_wp2_with fail
          refine ⟨⟨f3, f4⟩, ?_⟩
          refine drawn_end rfl (by kernel_rfl) ?_
          intro K hK
          go_wp2_with fail
          go_meet
          case rel => exact ⟨b8, rfl, by go_simp, by go_simp, by go_simp, n87, n86, n76, Lib.hid (HT1.out.put f8 (by decide) _), Lib.hid (HF1.out.put _ l8)⟩
      · intro K hK
        go_wp2_with fail
        refine ⟨⟨by go_simp, by go_simp⟩, ?_⟩
        refine named_world (A := fun X => OwB w [(U.heap.size, .cells (ints .u8 (zs 32)) 34), (b7, .cells (ints .u8 (zs 64)) 45), (b6, .cells (ints .u8 (zs 64)) 45), (b4, .cells (ints .u8 k) 34), (b3, .cells #[.pointer (some ⟨tb, 0, none⟩)] 27)] X) (Q := fun X => Go.Dr.wpAnyS Tryz.prog .any _ _ _ _ _ _ _ X) (by first | exact (HU.out.allocN _ U.heap.size rfl).drew | exact HU.out.drew.allocN _ U.heap.size rfl | exact HU.out.allocN _ U.heap.size rfl) ?_
        intro U1 hU1
        clear f3 f4 t3 t4
        generalize U.heap.size = b8 at hU1 ⊢
        have f3 := hU1.nth 4 rfl
        have f4 := hU1.nth 3 rfl
        have t3 := World.at_lt f3
        have t4 := World.at_lt f4
        have HU1 := Lib.hid hU1
        clear hU1
        refine drawn_next 3 (fuel := 2) rfl (by kernel_rfl) ?_
        intro K hK
        go_wp2_with fail
        refine ⟨⟨by go_simp, by go_simp⟩, ?_⟩
        refine named_world (A := fun X => OwB w [(U1.heap.size, .cells #[.slice (some ⟨b4, 0, none⟩) 32 32, .slice p n cap] 49), (b8, .cells (ints .u8 (zs 32)) 34), (b7, .cells (ints .u8 (zs 64)) 45), (b6, .cells (ints .u8 (zs 64)) 45), (b4, .cells (ints .u8 k) 34), (b3, .cells #[.pointer (some ⟨tb, 0, none⟩)] 27)] X) (Q := fun X => Go.Dr.wpAnyS Tryz.prog .any _ _ _ _ _ _ _ X) (by first | exact (HU1.out.allocN _ U1.heap.size rfl).drew | exact HU1.out.drew.allocN _ U1.heap.size rfl | exact HU1.out.allocN _ U1.heap.size rfl) ?_
        intro U2 hU2
        clear f3 f4 t3 t4
        generalize U1.heap.size = bx at hU2 ⊢
        have f3 := hU2.nth 5 rfl
        have f4 := hU2.nth 4 rfl
        have t3 := World.at_lt f3
        have t4 := World.at_lt f4
        have HU2 := Lib.hid hU2
        clear hU2
        refine drawn_next 4 (fuel := 1) rfl (by kernel_rfl) ?_
        intro K hK
        go_wp2_with fail
        refine (mk_f (H.out.fr0 HU2.out.fr) (sll_two (HU2.out.nth 4 rfl) (HS.out.fr0 HU2.out.fr) (HU2.out.nth 0 rfl) hk) HG.out).mono ?_
        rintro e w1 ⟨rfl, hT1, F⟩
        rw [← HKE.out]
        clear f3 f4 t3 t4
        have f3 := F.get (HU2.out.nth 5 rfl) (.inr ⟨by decide, by decide⟩)
        have f4 := F.get (HU2.out.nth 4 rfl) (.inr ⟨by decide, by decide⟩)
        have f6 := F.get (HU2.out.nth 3 rfl) (.inr ⟨by decide, by decide⟩)
        have f7 := F.get (HU2.out.nth 2 rfl) (.inr ⟨by decide, by decide⟩)
        have n76 := HU2.out.ne 2 3 rfl rfl (by decide)
        have t3 := World.at_lt f3
        have t4 := World.at_lt f4
        have t6 := World.at_lt f6
        have t7 := World.at_lt f7
        have f8 := F.get (HU2.out.nth 1 rfl) (.inr ⟨by decide, by decide⟩)
        have n87 := HU2.out.ne 1 2 rfl rfl (by decide)
        have n86 := HU2.out.ne 1 3 rfl rfl (by decide)
        have n83 := HU2.out.ne 1 5 rfl rfl (by decide)
        have n84 := HU2.out.ne 1 4 rfl rfl (by decide)
        have l8 := HU2.out.low 1 rfl
        have t8 := World.at_lt f8
        have HT1 := Lib.hid hT1
        have HF1 := Lib.hid ((FrT.of HU2.out.fr).trans F)
        clear hT1 F
        go_wp2_with fail
        refine ⟨⟨f3, f4⟩, ?_⟩
        refine drawn_end rfl (by kernel_rfl) ?_
        intro K hK
        go_wp2_with fail
        go_meet
        case rel => exact ⟨b8, rfl, by go_simp, by go_simp, by go_simp, n87, n86, n76, Lib.hid (HT1.out.put f8 (by decide) _), Lib.hid (HF1.out.put _ l8)⟩
    case rest =>
      obtain ⟨b8, rfl, f8, f7, f6, n87, n86, n76, HTb, HF⟩ := hcut
      have t6 := World.at_lt f6
      have t7 := World.at_lt f7
      have t8 := World.at_lt f8
      go_upto_region 7 with (fail)
      refine drawn_head 2 (by kernel_rfl) rfl rfl (by kernel_rfl) ?_
      change rowK _ _ _ [0, 1] _ _
      repeat (first | (refine rowK_step2 rfl rfl (fun K hK => ?_); go_wp2) | (refine rowK_step rfl (fun K hK => ?_); go_simp; refine hK _ ?_; clear hK K))
      refine rowK_nil ?_
      intro K hK
      go_wp2_with fail
      refine ret_cell rfl rfl rfl ?_
      go_simp
      have hl : lay (zs 64) 0 k2 = k2 ++ Kd.zeros 32 := by simp [lay, zs, Kd.zeros, hk2]
      rw [hl, HE.out]
      exact ⟨by kernel_rfl, rfl, ((HTb.out.put f7 (by decide) _).put (by rw [World.at_put_other _ _ _ _ n76]; exact f6) (by decide) _).fr0 (Fr.refl [] _).drew, ((HF.out.put _ l7).put _ l6).drew⟩
end
end Go.Proofs.YtbhnfohoclcjdaaGreat
namespace Go.Proofs.YtbhnfohoclcjdaaGreat
open Go.RowKit Go.Dr Go.Kd
theorem exInfo5 : ∃ i, Tryz.prog.info? 5 = some i := info_of_underlying Tryz.underlying5
@[go_sem] theorem eq23 (a b : List Int) (ha : a.length = 32) (hb : b.length = 32) (w : World) : (Op.equalIn 10000 34 (.agg (ints .u8 a)) (.agg (ints .u8 b))).run Tryz.prog w = .ok (decide (a = b)) w :=
  let ⟨_, hi⟩ := exInfo5
  run_eq_ints 9998 .u8 .u8 Tryz.underlying34 hi (by kernel_rfl) Tryz.underlying5 (fun w => by kernel_rfl) a b ha hb w
theorem beq_dec (a b : List Int) : (a == b) = decide (a = b) := by rw [Bool.eq_iff_iff, beq_iff_eq, decide_eq_true_eq]
/-- The numbers of a written-out row. -/
def litsOf : List Value → List Int
  | [] => []
  | .int _ x :: r => x :: litsOf r
  | _ :: r => 0 :: litsOf r
@[go_sem] theorem litsOf_nil : litsOf [] = [] := rfl
@[go_sem] theorem litsOf_cons (k : IntKind) (x : Int) (r : List Value) : litsOf (.int k x :: r) = x :: litsOf r := rfl
@[go_sem] theorem eq23_lit (a : List Int) (L : List Value) (hL : L = (litsOf L).map (Value.int .u8)) (ha : a.length = 32) (hl : L.length = 32) (w : World) :
    (Op.equalIn 10000 34 (.agg (ints .u8 a)) (.agg L.toArray)).run Tryz.prog w = .ok (a == litsOf L) w := by
  have h : L.toArray = ints .u8 (litsOf L) := by
    conv => lhs; rw [hL]
    rfl
  rw [h, eq23 a _ ha (by rw [hL] at hl; simpa using hl), beq_dec]
theorem ofT_mem {T : List Tm} {k : List Int} {u : Tm} (h : ofT T k = some u) : u ∈ T := by
  unfold ofT at h
  split at h
  · cases h
  · exact List.mem_of_getElem? h
/-- Whether a signature is right, its halves told apart. -/
def verR (T : List Tm) (k t s1 s2 : List Int) : Bool :=
  match ofT T s1 with
  | none => false
  | some u => decide (s2 = Kd.zeros 32) && decide (u.1 = 6) && decide (u.2.length = 2) && decide (u.2.getD 1 [] = t) &&
    match ofT T k with
    | none => false
    | some v => decide (v.1 = 5) && decide (v.2.length = 1) && decide (v.2.getD 0 [] = u.2.getD 0 [])
theorem verR_none {T : List Tm} {k t s1 s2 : List Int} (h : ofT T s1 = none) : verR T k t s1 s2 = false := by unfold verR; rw [h]
theorem verR_some {T : List Tm} {k t s1 s2 : List Int} {u : Tm} (h : ofT T s1 = some u) : verR T k t s1 s2 = (decide (s2 = Kd.zeros 32) && decide (u.1 = 6) && decide (u.2.length = 2) && decide (u.2.getD 1 [] = t) &&
    match ofT T k with
    | none => false
    | some v => decide (v.1 = 5) && decide (v.2.length = 1) && decide (v.2.getD 0 [] = u.2.getD 0 [])) := by unfold verR; rw [h]
theorem verR_z {T : List Tm} {k t s1 s2 : List Int} (h : decide (s2 = Kd.zeros 32) = false) : verR T k t s1 s2 = false := by
  cases hu : ofT T s1 with
  | none => exact verR_none hu
  | some u => rw [verR_some hu, h]; rfl
theorem verifyF_eq {T : List Tm} {k t s1 s2 : List Int} (h1 : s1.length = 32) : verifyF T k t (s1 ++ s2) = if 4096 < t.length then false else verR T k t s1 s2 := by
  have e1 : (s1 ++ s2).take 32 = s1 := by rw [List.take_append_of_le_length (by omega), List.take_of_length_le (by omega)]
  have e2 : (s1 ++ s2).drop 32 = s2 := by rw [List.drop_append_of_le_length (by omega), List.drop_eq_nil_of_le (by omega), List.nil_append]
  unfold verifyF verR
  rw [e1, e2]
  split
  · rfl
  · cases ofT T s1 with
    | none => rfl
    | some u =>
      obtain ⟨ku, pu⟩ := u
      by_cases h6 : ku = 6
      · subst h6
        rcases pu with _ | ⟨a, _ | ⟨b, _ | ⟨c, pu⟩⟩⟩
        · simp
        · simp
        · cases ofT T k with
          | none => simp
          | some v =>
            obtain ⟨kv, pv⟩ := v
            by_cases h5 : kv = 5
            · subst h5
              rcases pv with _ | ⟨c, _ | ⟨d, pv⟩⟩
              · simp
              · simp
              · simp
            · simp [h5]
        · simp
      · simp [h6]
section
variable {w : World}
set_option maxRecDepth 100000 in
set_option maxHeartbeats 2000000 in
theorem verify_f {lo tb : Nat} {T : List Tm} {k t s1 s2 : List Int} {p : Option Addr} {n cap : Nat} (h : TabP lo tb w T) (hk : k.length = 32) (hb : isBytes k) (S : Sl .u8 w p n cap t) (ht : isBytes t) (h1 : s1.length = 32) (h2 : s2.length = 32) (hb1 : isBytes s1) :
    Calls Tryz.prog 48 #[SU tb, .agg (ints .u8 k), .slice p n cap, .agg (ints .u8 (s1 ++ s2))] w fun e w' => e = .returned (.bool (verifyF T k t (s1 ++ s2))) ∧ Fr [] w w' := by
  have H := Lib.hid h
  have HB := Lib.hid hb
  have HS := Lib.hid S
  have HT := Lib.hid ht
  have HN := Lib.hid S.len
  have HB1 := Lib.hid hb1
  have hs : (s1 ++ s2).length = 64 := by rw [List.length_append]; omega
  have e1 : (s1 ++ s2).take 32 = s1 := by rw [List.take_append_of_le_length (by omega), List.take_of_length_le (by omega)]
  have e2 : (s1 ++ s2).drop 32 = s2 := by rw [List.drop_append_of_le_length (by omega), List.drop_eq_nil_of_le (by omega), List.nil_append]
  obtain ⟨v, hv⟩ : ∃ v, v = verR T k t s1 s2 := ⟨_, rfl⟩
  obtain ⟨r, hr⟩ : ∃ r, r = verifyF T k t (s1 ++ s2) := ⟨_, rfl⟩
  rw [← hr]
  have hr2 : r = if 4096 < n then false else v := by rw [hr, verifyF_eq h1, HN.out, hv]
  have HV0 := Lib.hid hv
  clear hv
  obtain ⟨s, hse⟩ : ∃ s, s = s1 ++ s2 := ⟨_, rfl⟩
  rw [← hse] at hs e1 e2 ⊢
  have HR := Lib.hid hr2
  have E1 := Lib.hid e1
  have E2 := Lib.hid e2
  clear h hb S ht hr hr2 hse hb1 e1 e2
  go_enter Tryz.func48, Tryz.ntmps48
  go_upto_if 19 with (fail)
  refine named_world (A := fun X => OwB w [(w.heap.size + 1 + 1, .cells (ints .u8 s) 45), (w.heap.size + 1, .cells (ints .u8 k) 34), (w.heap.size, .cells #[.pointer (some ⟨tb, 0, none⟩)] 27)] X) (Q := fun X => Code.wp _ _ _ _ X) ((((OwB.start w).allocN _ w.heap.size rfl).allocN _ (w.heap.size + 1) (by simp)).allocN _ (w.heap.size + 1 + 1) (by simp)) ?_
  intro V hV
  generalize w.heap.size + 1 + 1 = b7 at hV ⊢
  generalize w.heap.size + 1 = b5 at hV ⊢
  generalize w.heap.size = b4 at hV ⊢
  have HV := Lib.hid hV
  by_cases hn : 4096 < n
  · have d : decide (4096 < (n : Int)) = true := by rw [decide_eq_true_eq]; omega
    have hr0 : r = false := by rw [HR.out, if_pos hn]
    subst hr0
    clear hV
    go_wp2_with fail
    exact bodyPost_ret (results_tmp rfl _ _ _) rfl ⟨rfl, HV.out.fr⟩
  · have d : decide (4096 < (n : Int)) = false := by rw [decide_eq_false_iff_not]; omega
    have hr0 : r = v := by rw [HR.out, if_neg hn]
    subst hr0
    have f4 := hV.nth 2 rfl
    have t4 := World.at_lt f4
    clear hV
    go_upto_region 6 with (fail)
    refine named_world (A := fun X => OwB w [(V.heap.size + 1, .cells (ints .u8 (zs 32)) 34), (V.heap.size, .cells (ints .u8 (zs 32)) 34), (b7, .cells (ints .u8 s) 45), (b5, .cells (ints .u8 k) 34), (b4, .cells #[.pointer (some ⟨tb, 0, none⟩)] 27)] X) (Q := fun X => Code.wp _ _ _ _ X) ((HV.out.allocN _ V.heap.size rfl).allocN _ (V.heap.size + 1) (by simp)) ?_
    intro U hU
    clear f4 t4
    generalize V.heap.size + 1 = b10 at hU ⊢
    generalize V.heap.size = b9 at hU ⊢
    have f10 := hU.nth 0 rfl
    have f9 := hU.nth 1 rfl
    have f7 := hU.nth 2 rfl
    have t10 := World.at_lt f10
    have t9 := World.at_lt f9
    have t7 := World.at_lt f7
    have n97 := hU.ne 1 2 rfl rfl (by decide)
    have n109 := hU.ne 0 1 rfl rfl (by decide)
    have n107 := hU.ne 0 2 rfl rfl (by decide)
    have HU := Lib.hid hU
    clear hU
    refine drawn_head 2 (by kernel_rfl) rfl rfl (by kernel_rfl) ?_
    change rowK _ _ _ [0, 1] _ _
    repeat (first | (refine rowK_step2 rfl rfl (fun K hK => ?_); go_wp2) | (refine rowK_step rfl (fun K hK => ?_); go_simp; refine hK _ ?_; clear hK K))
    refine rowK_nil ?_
    intro K hK
    go_wp2_with fail
    have e9 : (List.take 32 (List.map (Value.int .u8) s)).toArray = ints .u8 s1 := by rw [← List.map_take, E1.out]; rfl
    rw [e9]
    refine named_world (A := fun X => OwB w [(b10, .cells (ints .u8 (zs 32)) 34), (b9, .cells (ints .u8 s1) 34), (b7, .cells (ints .u8 s) 45), (b5, .cells (ints .u8 k) 34), (b4, .cells #[.pointer (some ⟨tb, 0, none⟩)] 27)] X) (Q := fun X => Code.wp _ _ _ _ X) (HU.out.set 1 _ rfl).drew ?_
    clear f10 f9 f7 t10 t9 t7 e9
    intro U1 hU
    have f10 := hU.nth 0 rfl
    have f7 := hU.nth 2 rfl
    have t10 := World.at_lt f10
    have t7 := World.at_lt f7
    have HU1 := Lib.hid hU
    clear hU
    refine drawn_head 2 (by kernel_rfl) rfl rfl (by kernel_rfl) ?_
    change rowK _ _ _ [0, 1] _ _
    repeat (first | (refine rowK_step2 rfl rfl (fun K hK => ?_); go_wp2) | (refine rowK_step rfl (fun K hK => ?_); go_simp; refine hK _ ?_; clear hK K))
    refine rowK_nil ?_
    intro K hK
    go_upto_region 8 with (fail)
    have e9 : (List.drop 32 (List.map (Value.int .u8) s)).toArray = ints .u8 s2 := by rw [← List.map_drop, E2.out]; rfl
    rw [e9]
    refine named_world (A := fun X => OwB w [(b10, .cells (ints .u8 s2) 34), (b9, .cells (ints .u8 s1) 34), (b7, .cells (ints .u8 s) 45), (b5, .cells (ints .u8 k) 34), (b4, .cells #[.pointer (some ⟨tb, 0, none⟩)] 27)] X) (Q := fun X => Code.wp _ _ _ _ X) (HU1.out.set 0 _ rfl).drew ?_
    clear f10 f7 t10 t7 e9 n97 n109 n107 HU HU1
    intro U2 hU
    have f9 := hU.nth 1 rfl
    have f4 := hU.nth 4 rfl
    have t9 := World.at_lt f9
    have t4 := World.at_lt f4
    have HU2 := Lib.hid hU
    clear hU
    go_wp2_with fail
    refine (of_f (H.out.fr0 HU2.out.fr) h1 HB1.out).mono ?_
    rintro e W1 ⟨kind, q, m, c, ok, rfl, F1, R1⟩
    have hO1 := HU2.out.call F1
    clear f9 f4 t9 t4
    have f10 := hO1.nth 0 rfl
    have f5 := hO1.nth 3 rfl
    have f4 := hO1.nth 4 rfl
    have t10 := World.at_lt f10
    have t5 := World.at_lt f5
    have t4 := World.at_lt f4
    have HO1 := Lib.hid hO1
    have HR1 := Lib.hid R1
    clear hO1 F1 R1
    go_upto_region 9 with (fail)
    have hne : Nonempty Unit := ⟨()⟩
    obtain ⟨z, hz⟩ : ∃ z, decide (s2 = Kd.zeros 32) = z := ⟨_, rfl⟩
    have hz2 : (s2 == [0, 0, 0, 0, 0, 0, 0, 0, 0, 0, 0, 0, 0, 0, 0, 0, 0, 0, 0, 0, 0, 0, 0, 0, 0, 0, 0, 0, 0, 0, 0, 0]) = z := by rw [beq_dec]; exact hz
    have HZ := Lib.hid hz
    clear hz
    by_cases hz0 : z = false
    · subst hz0
      refine wp_region_quiet_all (C := fun w' => ∃ _ : Unit, w' = W1.drew) (by kernel_rfl) (by kernel_rfl) ⟨(), rfl⟩ ?_
      repeat (go_big_quiet_step (fail))
      refine wpQuiet_nil ?_
      intro _ hw'
      obtain ⟨_, rfl⟩ := hw'
      have hr0 : r = false := by rw [HV0.out, verR_z HZ.out]
      subst hr0
      clear hz2 f10 f5 f4 t10 t5 t4
      go_wp2_with fail
      exact bodyPost_ret (results_tmp rfl _ _ _) rfl ⟨rfl, HO1.out.fr.drew⟩
    · have hz1 : z = true := by simpa using hz0
      subst hz1
      clear hz0
      by_cases h6 : kind = 6
      · subst h6
        obtain ⟨u, hu, hu6, S1⟩ : ∃ u, ofT T s1 = some u ∧ u.1 = 6 ∧ SllA W1 q m c u.2 := by
          have h := HR1.out
          unfold OfRes at h
          split at h
          · omega
          · rename_i u hu
            exact ⟨u, hu, h.1.symm, h.2.2⟩
        have HUU := Lib.hid hu
        have HU6 := Lib.hid hu6
        have HS1 := Lib.hid S1
        have hml := S1.now.len
        have HML := Lib.hid hml
        clear hu hu6 S1 hml
        by_cases hm : m = 2
        · subst hm
          have HGU := Lib.hid (H.out.good u (ofT_mem HUU.out)).2.1
          obtain ⟨pb, off, cs, TT, fr, qa, ma, ca, la, rfl, fp, hs1, hc, hl, Sa⟩ := HS1.out.now.at (j := 1) (by omega)
          have hc2 := (Array.getElem?_eq_some_iff.1 hc).2
          have hconv := conv47 (Sa.fr0 (Fr.refl [] W1).drew)
          have hconv2 := conv47 (HS.out.fr0 HO1.out.fr.drew)
          have hla : isBytes la := HGU.out la (List.mem_of_getElem? hl)
          have hgd : u.2.getD 1 [] = la := by rw [List.getD_eq_getElem?_getD, hl]; rfl
          obtain ⟨y, hy⟩ : ∃ y, ((strB la).toList == (strB t).toList) = y := ⟨_, rfl⟩
          have hy2 : decide (u.2.getD 1 [] = t) = y := by rw [hgd, ← beq_str hla HT.out]; exact hy
          have HY := Lib.hid hy2
          clear hgd hla hl Sa hy2
          refine wp_region_quiet_all (C := fun w' => ∃ _ : Unit, w' = W1.drew) (by kernel_rfl) (by kernel_rfl) ⟨(), rfl⟩ ?_
          repeat (go_big_quiet_step (fail))
          refine wpQuiet_nil ?_
          intro _ hw'
          obtain ⟨_, rfl⟩ := hw'
          clear hz2 f10 fp hs1 hc2 hc hconv hconv2 hy
          cases y with
          | false =>
            have hr0 : r = false := by rw [HV0.out, verR_some HUU.out, HY.out]; simp
            subst hr0
            clear f5 f4 t10 t5 t4
            go_wp2_with fail
            exact bodyPost_ret (results_tmp rfl _ _ _) rfl ⟨rfl, HO1.out.fr.drew⟩
          | true =>
            go_wp2_with fail
            refine (of_f (H.out.fr0 HO1.out.fr.drew) hk HB.out).mono ?_
            rintro e W2 ⟨kind2, q2, m2, c2, ok2, rfl, F2, R2⟩
            have hO2 := Lib.hid (HO1.out.drew.call F2)
            have HR2 := Lib.hid R2
            have HS2 := Lib.hid (HS1.out.step (.of ((Fr.refl [] W1).drew.trans F2)))
            have hr3 : r = (match ofT T k with | none => false | some v => decide (v.1 = 5) && decide (v.2.length = 1) && decide (v.2.getD 0 [] = u.2.getD 0 [])) := by
              rw [HV0.out, verR_some HUU.out, HY.out, HZ.out, HU6.out, HML.out]; rfl
            have HR3 := Lib.hid hr3
            clear f5 f4 t10 t5 t4 F2 R2 hr3
            go_upto_region 12 with (fail)
            by_cases h5 : kind2 = 5
            · subst h5
              obtain ⟨v, hv, hv5, S2⟩ : ∃ v, ofT T k = some v ∧ v.1 = 5 ∧ SllA W2 q2 m2 c2 v.2 := by
                have h := HR2.out
                unfold OfRes at h
                split at h
                · omega
                · rename_i v hv
                  exact ⟨v, hv, h.1.symm, h.2.2⟩
              have hr3 : r = (decide (v.1 = 5) && decide (v.2.length = 1) && decide (v.2.getD 0 [] = u.2.getD 0 [])) := by rw [HR3.out, hv]
              have HR4 := Lib.hid hr3
              have HV5 := Lib.hid hv5
              have HGV := Lib.hid (H.out.good v (ofT_mem hv)).2.1
              have hml := S2.now.len
              have HML2 := Lib.hid hml
              have HS3 := Lib.hid S2
              clear hr3 hv5 hv hml S2
              by_cases hm : m2 = 1
              · subst hm
                obtain ⟨pa, offa, csa, TTa, fra, qa, ma, ca, la, hpa, fa, hsa, hca, hla, Sa⟩ := HS2.out.now.at (j := 0) (by omega)
                simp only [Option.some.injEq, Addr.mk.injEq, and_true] at hpa
                obtain ⟨rfl, rfl⟩ := hpa
                obtain ⟨pc, offc, csc, TTc, frc, qc, mc, cc, lc, rfl, fc, hsc, hcc, hlc, Sc⟩ := HS3.out.now.at (j := 0) (by omega)
                have hca2 := (Array.getElem?_eq_some_iff.1 hca).2
                have hcc2 := (Array.getElem?_eq_some_iff.1 hcc).2
                rw [Nat.add_zero] at hsa hca hsc hcc
                simp only [Nat.add_zero] at hca2 hcc2
                have hconv := conv47 (Sa.fr0 (Fr.refl [] W2).drew)
                have hconv2 := conv47 (Sc.fr0 (Fr.refl [] W2).drew)
                have g1 : u.2.getD 0 [] = la := by rw [List.getD_eq_getElem?_getD, hla]; rfl
                have g2 : v.2.getD 0 [] = lc := by rw [List.getD_eq_getElem?_getD, hlc]; rfl
                have b1 : isBytes la := HGU.out la (List.mem_of_getElem? hla)
                have b2 : isBytes lc := HGV.out lc (List.mem_of_getElem? hlc)
                obtain ⟨y, hy⟩ : ∃ y, ((strB lc).toList == (strB la).toList) = y := ⟨_, rfl⟩
                have hr0 : r = y := by rw [HR4.out, HV5.out, HML2.out, g1, g2, ← beq_str b2 b1, hy]; rfl
                have HR0 := Lib.hid hr0
                clear g1 g2 b1 b2 hla hlc Sa Sc hr0
                refine wp_region_quiet_all (C := fun w' => ∃ _ : Unit, w' = W2.drew) (by kernel_rfl) (by kernel_rfl) ⟨(), rfl⟩ ?_
                repeat (go_big_quiet_step (fail))
                refine wpQuiet_nil ?_
                intro _ hw'
                obtain ⟨_, rfl⟩ := hw'
                clear fa fc hsa hsc hca2 hcc2 hca hcc hconv hconv2 hy
                go_wp2_with fail
                rw [HR0.out]
                exact bodyPost_ret (results_tmp rfl _ _ _) rfl ⟨rfl, hO2.out.fr.drew⟩
              · have d2 : ((m2 : Int) == 1) = false := by simp; omega
                have hr0 : r = false := by rw [HR4.out, decide_eq_false (show ¬ v.2.length = 1 by rw [HML2.out]; exact hm)]; simp
                refine wp_region_quiet_all (C := fun w' => ∃ _ : Unit, w' = W2.drew) (by kernel_rfl) (by kernel_rfl) ⟨(), rfl⟩ ?_
                repeat (go_big_quiet_step (fail))
                refine wpQuiet_nil ?_
                intro _ hw'
                obtain ⟨_, rfl⟩ := hw'
                subst hr0
                clear d2
                go_wp2_with fail
                exact bodyPost_ret (results_tmp rfl _ _ _) rfl ⟨rfl, hO2.out.fr.drew⟩
            · have d2 : (kind2 == 5) = false := by simpa using h5
              have hr0 : r = false := by
                rw [HR3.out]
                have h := HR2.out
                unfold OfRes at h
                split at h
                · rename_i hu; rw [hu]
                · rename_i v hv
                  rw [hv]
                  simp only [decide_eq_false (show ¬ v.1 = 5 by rw [← h.1]; exact h5), Bool.false_and]
              refine wp_region_quiet_all (C := fun w' => ∃ _ : Unit, w' = W2.drew) (by kernel_rfl) (by kernel_rfl) ⟨(), rfl⟩ ?_
              repeat (go_big_quiet_step (fail))
              refine wpQuiet_nil ?_
              intro _ hw'
              obtain ⟨_, rfl⟩ := hw'
              subst hr0
              clear d2
              go_wp2_with fail
              exact bodyPost_ret (results_tmp rfl _ _ _) rfl ⟨rfl, hO2.out.fr.drew⟩
        · have d2 : ((m : Int) != 2) = true := by simp; omega
          refine wp_region_quiet_all (C := fun w' => ∃ _ : Unit, w' = W1.drew) (by kernel_rfl) (by kernel_rfl) ⟨(), rfl⟩ ?_
          repeat (go_big_quiet_step (fail))
          refine wpQuiet_nil ?_
          intro _ hw'
          obtain ⟨_, rfl⟩ := hw'
          have hr0 : r = false := by rw [HV0.out, verR_some HUU.out, decide_eq_false (show ¬ u.2.length = 2 by rw [HML.out]; exact hm)]; simp
          subst hr0
          clear hz2 f10 f5 f4 t10 t5 t4 d2
          go_wp2_with fail
          exact bodyPost_ret (results_tmp rfl _ _ _) rfl ⟨rfl, HO1.out.fr.drew⟩
      · have d2 : (kind != 6) = true := by simpa using h6
        refine wp_region_quiet_all (C := fun w' => ∃ _ : Unit, w' = W1.drew) (by kernel_rfl) (by kernel_rfl) ⟨(), rfl⟩ ?_
        repeat (go_big_quiet_step (fail))
        refine wpQuiet_nil ?_
        intro _ hw'
        obtain ⟨_, rfl⟩ := hw'
        have hr0 : r = false := by
          rw [HV0.out]
          have h := HR1.out
          unfold OfRes at h
          split at h
          · rename_i hu; exact verR_none hu
          · rename_i u hu
            rw [verR_some hu, decide_eq_false (show ¬ u.1 = 6 by rw [← h.1]; exact h6)]; simp
        subst hr0
        clear hz2 f10 f5 f4 t10 t5 t4 d2
        go_wp2_with fail
        exact bodyPost_ret (results_tmp rfl _ _ _) rfl ⟨rfl, HO1.out.fr.drew⟩
end
end Go.Proofs.YtbhnfohoclcjdaaGreat
namespace Go.Proofs.YtbhnfohoclcjdaaGreat
open Go.RowKit Go.Dr Go.Kd
section
variable {w : World}
set_option maxRecDepth 100000 in
set_option maxHeartbeats 2000000 in
theorem eq27_nil (w : World) : (binOp .eql 46 (.slice none 0 0) (.slice none 0 0)).run Tryz.prog w = .ok (.bool true) w := by
  kernel_rfl
set_option maxRecDepth 100000 in
set_option maxHeartbeats 2000000 in
theorem clone0_f : Calls Tryz.prog 43 #[.slice none 0 0] w fun e w' => e = .returned (.slice none 0 0) ∧ Fr [] w w' := by
  have HF := Lib.hid (Fr.refl [] w)
  have hq := eq27_nil w
  go_enter Tryz.func43, Tryz.ntmps43
  go_wp2_with fail
  exact bodyPost_ret (results_tmp rfl _ _ _) rfl ⟨rfl, HF.out⟩
theorem signF_len (T : List Tm) (k t : List Int) : (signF T k t).2.length = 64 := by
  unfold signF
  split
  · rfl
  · show ((makeT T (6, [k, t])).2.1 ++ Kd.zeros 32).length = 64
    rw [List.length_append, makeT_len]
    rfl
/-- An object without vouches, as cells. -/
abbrev obC (x : Ob) : Array Value := (cObject (.int .u8 x.server) (.int .u8 x.n) x.key (.int .u32 x.frm) (.int .u32 x.til) x.sig (.slice none 0 0)).toArray
structure ObOk (x : Ob) : Prop where
  s0 : 0 ≤ x.server
  s1 : x.server < 256
  n0 : 0 ≤ x.n
  n1 : x.n < 256
  f0 : 0 ≤ x.frm
  f1 : x.frm < 4294967296
  t0 : 0 ≤ x.til
  t1 : x.til < 4294967296
  kl : x.key.length = 32
  sl : x.sig.length = 64
  kb : isBytes x.key
  sb : isBytes x.sig
  vs : x.vs = []
theorem otext_o {x : Ob} (h : ObOk x) : Calls Tryz.prog 44 #[.agg (obC x)] w fun e w' => ∃ q m c, e = .returned (.slice q m c) ∧ Bld w [] .u8 5 w' q m c (objText x) := by
  obtain ⟨server, n, key, frm, til, sig, vs⟩ := x
  obtain ⟨s0, s1, n0, n1, f0, f1, t0, t1, kl, sl, kb, sb, hv⟩ := h
  simp only at *
  subst hv
  obtain ⟨s, rfl⟩ := Int.eq_ofNat_of_zero_le s0
  obtain ⟨m, rfl⟩ := Int.eq_ofNat_of_zero_le n0
  obtain ⟨f, rfl⟩ := Int.eq_ofNat_of_zero_le f0
  obtain ⟨t, rfl⟩ := Int.eq_ofNat_of_zero_le t0
  exact otext_f (by omega) (by omega) (by omega) (by omega) kl sl rfl
theorem isBytes_obj {x : Ob} (h : ObOk x) : isBytes (objText x) := by
  have hp : ∀ k s, isBytes (putB k s) := fun k s y hy => by
    simp only [putB, List.mem_map] at hy
    obtain ⟨i, _, rfl⟩ := hy
    omega
  refine isBytes_join (by simp [fits, putB_len, h.kl]) ?_
  intro l hl
  simp only [List.mem_cons, List.not_mem_nil, or_false] at hl
  rcases hl with rfl | rfl | rfl | rfl | rfl | rfl
  · intro y hy; simp only [List.mem_cons, List.not_mem_nil, or_false] at hy; omega
  · exact hp _ _
  · exact hp _ _
  · exact h.kb
  · exact hp _ _
  · exact hp _ _
set_option maxRecDepth 100000 in
set_option maxHeartbeats 2000000 in
theorem ksign_f {lo tb : Nat} {T : List Tm} {k : List Int} {x : Ob} (h : TabP lo tb w T) (hk : k.length = 32) (hb : isBytes k) (hx : ObOk x) :
    Calls Tryz.prog 14 #[SU tb, .agg (ints .u8 k), .agg (obC x)] w fun e w' => e = .returned (.agg (obC { x with sig := (signF T k (objText x)).2 })) ∧ TabP lo tb w' (signF T k (objText x)).1 ∧ FrP lo w w' := by
  have H := Lib.hid h
  have HB := Lib.hid hb
  obtain ⟨xs, hxs⟩ : ∃ xs, xs = obC x := ⟨_, rfl⟩
  have hsz : xs.size = 101 := by rw [hxs, List.size_toArray, cObject_length _ _ _ _ _ _ _ hx.kl hx.sl]
  have x6 : xs[100]? = some (.slice none 0 0) := by rw [hxs]; exact cObject_get_vs _ _ _ _ _ _ _ hx.kl hx.sl
  replace x6 := (Array.getElem?_eq_some_iff.1 x6).2
  have xset : xs.setIfInBounds 100 (.slice none 0 0) = xs := by rw [hxs]; exact cObject_set_vs _ _ _ _ _ _ _ _ hx.kl hx.sl
  have xall : xs.extract 0 101 = xs := by rw [← hsz]; exact Array.extract_size
  rw [← hxs]
  have c1 : ∀ W : World, Calls Tryz.prog 44 #[.agg xs] W fun e w' => ∃ q m c, e = .returned (.slice q m c) ∧ Bld W [] .u8 5 w' q m c (objText x) := fun W => by rw [hxs]; exact otext_o hx
  have C1 := Lib.hid c1
  clear c1
  have HX := Lib.hid hxs
  have HO := Lib.hid hx
  clear h hb hxs hx
  go_enter Tryz.func14, Tryz.ntmps14
  go_wp2_with fail
  have hz : Tryz.zeroCells48.size = 101 := by kernel_rfl
  refine named_world (A := fun X => OwB w [(w.heap.size + 1 + 1 + 1, .cells Tryz.zeroCells48 48), (w.heap.size + 1 + 1, .cells xs 48), (w.heap.size + 1, .cells (ints .u8 k) 34), (w.heap.size, .cells #[.pointer (some ⟨tb, 0, none⟩)] 27)] X) (Q := fun X => Calls Tryz.prog 43 _ X _) (((((OwB.start w).allocN _ w.heap.size rfl).allocN _ (w.heap.size + 1) (by simp)).allocN _ (w.heap.size + 1 + 1) (by simp)).allocN _ (w.heap.size + 1 + 1 + 1) (by simp)) ?_
  intro V hV
  generalize w.heap.size + 1 + 1 + 1 = b6 at hV ⊢
  generalize w.heap.size + 1 + 1 = b5 at hV ⊢
  generalize w.heap.size + 1 = b4 at hV ⊢
  generalize w.heap.size = b3 at hV ⊢
  refine clone0_f.mono ?_
  rintro e V1 ⟨rfl, F1⟩
  have hV1 := hV.call F1
  clear hV F1
  have f5 := hV1.nth 1 rfl
  have t5 := World.at_lt f5
  have HV1 := Lib.hid hV1
  clear hV1
  go_upto_region 2 with (fail)
  refine named_world (A := fun X => OwB w [(b6, .cells Tryz.zeroCells48 48), (b5, .cells xs 48), (b4, .cells (ints .u8 k) 34), (b3, .cells #[.pointer (some ⟨tb, 0, none⟩)] 27)] X) (Q := fun X => Code.wp _ _ _ _ X) (HV1.out.set 1 _ rfl) ?_
  clear f5 t5 HV1
  intro U hU
  have f5 := hU.nth 1 rfl
  have f4 := hU.nth 2 rfl
  have f3 := hU.nth 3 rfl
  have t5 := World.at_lt f5
  have t4 := World.at_lt f4
  have t3 := World.at_lt f3
  have HU := Lib.hid hU
  clear hU
  refine drawn_begin 5 (fun w' => w'.blk b3 = some (.cells #[.pointer (some ⟨tb, 0, none⟩)] 27) ∧ w'.blk b4 = some (.cells (ints .u8 k) 34) ∧ w'.blk b5 = some (.cells xs 48)) (by kernel_rfl) ?_
  refine drawn_reads (fuel := 4) [0, 1, 2] rfl (by kernel_rfl) ⟨f3, f4, f5⟩ ?_
  repeat (first | (refine rowK_step2 rfl rfl (fun K hK => ?_); go_wp2) | (refine rowK_step rfl (fun K hK => ?_); go_simp; refine hK _ ?_; clear hK K))
  refine rowK_nil ⟨fun w' e1 => ?_, ?_⟩
  · obtain ⟨e1, e2, e3⟩ := e1
    clear f3 f4 f5
    repeat (first | (refine rowWp_step2 rfl rfl (fun K hK => ?_); go_wp2) | (refine rowWp_step rfl (fun K hK => ?_); go_simp; refine hK _ ?_; clear hK K))
    exact rowWp_nil rfl
  refine drawn_next 3 (fuel := 3) rfl (by kernel_rfl) ?_
  intro K hK
  go_wp2_with fail
  refine (C1.out _).mono ?_
  rintro e U1 ⟨q, m, c, rfl, hB⟩
  have hU1 := HU.out.drew.call hB.own.fr
  clear f3 f4 f5 t3 t4 t5
  have f5 := hU1.nth 1 rfl
  have f4 := hU1.nth 2 rfl
  have f3 := hU1.nth 3 rfl
  have t5 := World.at_lt f5
  have t4 := World.at_lt f4
  have t3 := World.at_lt f3
  have HU1 := Lib.hid hU1
  have HBt := Lib.hid hB
  clear hU1 hB
  go_wp2_with fail
  refine ⟨⟨f3, f4, f5⟩, ?_⟩
  refine drawn_next 4 (fuel := 2) rfl (by kernel_rfl) ?_
  intro K hK
  go_wp2_with fail
  refine (sign_f (H.out.fr0 HU1.out.fr) hk HB.out HBt.out.sl (isBytes_obj HO.out)).mono ?_
  rintro e U2 ⟨rfl, hT, F⟩
  have l6 := HU1.out.low 0 rfl
  have l5 := HU1.out.low 1 rfl
  have n65 := HU1.out.ne 0 1 rfl rfl (by decide)
  have n56 := n65.symm
  have FF := (FrT.of (t := TT) (lo := lo) HU1.out.fr).trans F
  have f6 := F.get (HU1.out.nth 0 rfl) (.inr ⟨by decide, by decide⟩)
  replace f5 := F.get f5 (.inr ⟨by decide, by decide⟩)
  replace f4 := F.get f4 (.inr ⟨by decide, by decide⟩)
  replace f3 := F.get f3 (.inr ⟨by decide, by decide⟩)
  clear t3 t4 t5
  have t6 := World.at_lt f6
  have t5 := World.at_lt f5
  have HT := Lib.hid hT
  have HF := Lib.hid FF
  have hsl := signF_len T k (objText x)
  obtain ⟨s2, hs2⟩ : ∃ s2, s2 = (signF T k (objText x)).2 := ⟨_, rfl⟩
  rw [← hs2] at hsl ⊢
  have HS2 := Lib.hid hs2
  obtain ⟨ys, hys⟩ : ∃ ys, ys = obC { x with sig := s2 } := ⟨_, rfl⟩
  have xspl : spl xs 36 (s2.map (Value.int .u8)) = ys := by rw [HX.out, hys]; exact cObject_spl_sig _ _ _ _ _ _ _ _ HO.out.kl HO.out.sl hsl
  have hszy : ys.size = 101 := by rw [hys, List.size_toArray, cObject_length _ _ _ _ _ _ _ HO.out.kl hsl]
  have yall : ys.extract 0 101 = ys := by rw [← hszy]; exact Array.extract_size
  have yones : ones ys.toList = true := by rw [hys]; exact List.all_eq_true.2 (cObject_one _ _ _ _ _ _ _ rfl rfl rfl rfl rfl)
  have HY := Lib.hid hys
  clear hT F FF hs2 hys
  go_wp2_with fail
  refine ⟨⟨f3, f4, f5⟩, ?_⟩
  refine drawn_end rfl (by kernel_rfl) ?_
  intro K hK
  go_wp2_with fail
  refine ret_cell rfl rfl rfl ?_
  go_simp
  exact ⟨by kernel_rfl, by rw [HY.out, HS2.out], (HT.out.put f5 (by decide) _).put (by rw [World.at_put_other _ _ _ _ n56]; exact f6) (by decide) _, (HF.out.put _ l5).put _ l6⟩
end
end Go.Proofs.YtbhnfohoclcjdaaGreat
namespace Go
section
variable {P : Program} {fn : Func} {R : Ending → World → Prop} {a : Act} {w : World}
theorem ret_cell_tmp2 {p ty b u v : Nat} (h : fn.results = #[.cell p ty, .tmp u, .tmp v]) (hp : a.tmps.getD p undef = .pointer (some ⟨b, 0, none⟩)) (hd : a.defers = [])
    (hR : cellRet P ty (w.blk b) (fun x => R (.returned (.tuple #[x, a.tmps.getD u undef, a.tmps.getD v undef])) w)) : bodyPost P fn R .ret a w := by
  unfold cellRet at hR
  split at hR
  · rename_i cs T fr hb
    refine bodyPost_ret (v := .tuple #[.agg cs, a.tmps.getD u undef, a.tmps.getD v undef]) ?_ hd hR.2
    have hp' : a.tmps[p]?.getD undef = .pointer (some ⟨b, 0, none⟩) := by simpa using hp
    simp [results, h, hp', asAddr, run_loadVar_agg hb hR.1]
  · exact hR.elim
end
end Go
namespace Go.Proofs.YtbhnfohoclcjdaaGreat
open Go.RowKit Go.Dr Go.Kd
section
variable {w : World}
set_option maxRecDepth 100000 in
set_option maxHeartbeats 2000000 in
theorem vouched0_f {sv : Array Value} {C : List Int} {xs : Array Value} (hC : C.length = 133) (hsv : sv.size = 1) (hsz : xs.size = 101) (hv : xs[100]? = some (.slice none 0 0)) :
    Calls Tryz.prog 49 #[.agg sv, .agg (ints .u8 C), .agg xs] w fun e w' => e = .returned (.int .i64 0) ∧ Fr [] w w' := by
  replace hv := (Array.getElem?_eq_some_iff.1 hv).2
  have hmk : ∀ W : World, (Instr.makeMap 166 none).run Tryz.prog W = .ok (.map (some W.heap.size)) (W.alloc (.map #[] 0)) := fun _ => rfl
  go_enter Tryz.func49, Tryz.ntmps49
  go_wp2_with fail
  refine named_world (A := fun X => OwB w [(w.heap.size + 1 + 1 + 1, .map #[] 0)] X) (Q := fun X => Code.wp _ _ _ _ X) (((((OwB.start w).alloc _).take.alloc _).take.alloc _).take.allocN _ (w.heap.size + 1 + 1 + 1) (by simp)) ?_
  intro V hV
  generalize w.heap.size + 1 + 1 + 1 = mb at hV ⊢
  have fm := hV.nth 0 rfl
  have HV := Lib.hid hV
  clear hV
  go_loopw [14] (fun iv wy => iv = .int .i64 0 ∧ wy = V) (fun _ _ => 0)
  case atStart => exact ⟨rfl, rfl⟩
  case round =>
    obtain ⟨rfl, rfl⟩ := hrel
    have hl : (Builtin.len_ #[166] 3 #[.map (some mb)]).run Tryz.prog wr = .ok (.int .i64 0) wr := run_len_map _ 166 3 mb #[] 0 (by kernel_rfl) fm
    go_wp2_with fail
    exact bodyPost_ret (results_tmp rfl _ _ _) rfl ⟨rfl, HV.out.fr⟩
end
end Go.Proofs.YtbhnfohoclcjdaaGreat
namespace Go
open Go.Dr
theorem flatMap_part {α β : Type} (f : α → List β) (m : Nat) : ∀ (xs : List α) (j : Nat) (x : α), (∀ x ∈ xs, (f x).length = m) → xs[j]? = some x → ((xs.flatMap f).drop (j * m)).take m = f x := by
  intro xs
  induction xs with
  | nil => intro j x _ h; simp at h
  | cons y xs ih =>
    intro j x hm h
    have hy := hm y (by simp)
    cases j with
    | zero =>
      simp only [List.getElem?_cons_zero, Option.some.injEq] at h
      subst h
      rw [Nat.zero_mul, List.drop_zero, List.flatMap_cons, List.take_append_of_le_length (by omega), List.take_of_length_le (by omega)]
    | succ j =>
      rw [List.flatMap_cons, List.drop_append, List.drop_eq_nil_of_le (by rw [hy, Nat.add_mul]; omega), List.nil_append, hy, show (j + 1) * m - m = j * m by rw [Nat.add_mul]; omega]
      exact ih j x (fun z hz => hm z (by simp [hz])) (by simpa using h)
theorem Sv.elem {sz : Nat} {w : World} {p : Option Addr} {n cap : Nat} {vs : List Value} (h : Sv sz w p n cap vs) {j : Nat} (hj : j < n) :
    ∃ b off cs T fr, p = some ⟨b, off, none⟩ ∧ w.blk b = some (.cells cs T fr) ∧ off + n * sz ≤ cs.size ∧ off + j * sz + sz ≤ cs.size ∧ cs.extract (off + j * sz) (off + j * sz + sz) = ((vs.drop (j * sz)).take sz).toArray := by
  obtain ⟨b, off, cs, T, fr, hp, hb, hs, hat⟩ := h.at hj
  have h1 : (j + 1) * sz ≤ n * sz := Nat.mul_le_mul_right _ hj
  rw [Nat.add_mul, Nat.one_mul] at h1
  have hl := h.len
  refine ⟨b, off, cs, T, fr, hp, hb, hs, by omega, ?_⟩
  apply Array.ext_getElem?
  intro i
  rcases Nat.lt_or_ge i sz with hi | hi
  · rw [Array.getElem?_extract_of_lt (by omega), ← Array.getElem?_eq_getElem, hat i hi]
    simp [List.getElem?_take, List.getElem?_drop, hi]
  · rw [Array.getElem?_eq_none (by simp only [Array.size_extract]; omega), Array.getElem?_eq_none (by simp; omega)]
end Go
namespace Go.Proofs.YtbhnfohoclcjdaaGreat
open Go.RowKit Go.Dr Go.Kd
/-- The first keys that a cache knows, out of its cells. -/
def firstC (C : List Int) : List Bs := [0, 1, 2, 3].map fun i => (C.drop (32 * i)).take 32
def highC (C : List Int) : List Int := (C.drop 128).take 4
def needC (C : List Int) : Nat := (el C 132).toNat
theorem verify_o {w : World} {lo tb : Nat} {T : List Tm} {k t : List Int} {p : Option Addr} {n cap : Nat} {x : Ob} (h : TabP lo tb w T) (hk : k.length = 32) (hb : isBytes k) (S : Sl .u8 w p n cap t) (ht : isBytes t) (hx : ObOk x) :
    Calls Tryz.prog 48 #[SU tb, .agg (ints .u8 k), .slice p n cap, .agg (ints .u8 x.sig)] w fun e w' => e = .returned (.bool (verifyF T k t x.sig)) ∧ Fr [] w w' := by
  have e : x.sig = x.sig.take 32 ++ x.sig.drop 32 := (List.take_append_drop 32 x.sig).symm
  rw [e]
  have hs := hx.sl
  exact verify_f h hk hb S ht (by rw [List.length_take]; omega) (by rw [List.length_drop]; omega) (fun y hy => hx.sb y (List.mem_of_mem_take hy))
theorem chainF_cons {T : List Tm} {first : List Bs} {need : Nat} {server : Int} {x : Ob} {l : List Ob} {i : Nat} {key : Bs} (hv : x.vs = []) :
    chainF T first need server (x :: l) i key = if (decide (x.server ≠ server) || decide (x.n ≠ (i : Int) + 1) || !verifyF T key (objText x) x.sig || decide (0 < need)) = true then none else chainF T first need server l (i + 1) x.key := by
  have hl : (vouchers T first x).length = 0 := by unfold vouchers; rw [hv]; rfl
  rw [chainF, hl]
  congr 1
  simp only [Bool.or_eq_true, decide_eq_true_eq, Bool.not_eq_true', or_assoc]
/-- What a chain's end says. -/
def endF (C : List Int) (server now : Nat) (xs : List Ob) : Option Bs → Bs × Int × Int
  | none => (Kd.zeros 32, 0, 200)
  | some key => if (xs.length : Int) < el C (128 + server) then (Kd.zeros 32, 0, 210) else match xs.getLast? with
    | some x => if (now : Int) < x.frm ∨ x.til ≤ (now : Int) then (Kd.zeros 32, 0, 201) else (key, xs.length, 0)
    | none => (key, xs.length, 0)
theorem endF_low {C : List Int} {server now : Nat} {xs : List Ob} {k : Bs} (h : (xs.length : Int) < el C (128 + server)) : endF C server now xs (some k) = (Kd.zeros 32, 0, 210) := by
  simp only [endF, if_pos h]
theorem endF_none {C : List Int} {server now : Nat} {xs : List Ob} {k : Bs} (h : ¬ (xs.length : Int) < el C (128 + server)) (hl : xs.getLast? = none) : endF C server now xs (some k) = (k, (xs.length : Int), 0) := by
  simp only [endF, if_neg h, hl]
theorem endF_some {C : List Int} {server now : Nat} {xs : List Ob} {k : Bs} {x : Ob} (h : ¬ (xs.length : Int) < el C (128 + server)) (hl : xs.getLast? = some x) : endF C server now xs (some k) = if (now : Int) < x.frm ∨ x.til ≤ (now : Int) then (Kd.zeros 32, 0, 201) else (k, (xs.length : Int), 0) := by
  simp only [endF, if_neg h, hl]
theorem checkF_end {T : List Tm} {C : List Int} {server now : Nat} {xs : List Ob} (h4 : server < 4) (hn : xs.length ≤ 4) (hC : C.length = 133) :
    checkF T (firstC C) (highC C) (needC C) server xs now = endF C server now xs (chainF T (firstC C) (needC C) server xs 0 (List.drop (server * 32) (List.take (server * 32 + 32) C))) := by
  have e1 : (firstC C).getD (server : Int).toNat [] = List.drop (server * 32) (List.take (server * 32 + 32) C) := by
    rw [List.drop_take, Nat.add_sub_cancel_left]
    rcases (show server = 0 ∨ server = 1 ∨ server = 2 ∨ server = 3 by omega) with rfl | rfl | rfl | rfl <;> rfl
  have e2 : (highC C).getD (server : Int).toNat 0 = el C (128 + server) := by
    simp only [highC, el, Int.toNat_natCast, List.getD_eq_getElem?_getD, List.getElem?_take, List.getElem?_drop]
    rw [if_pos h4]
  unfold checkF
  rw [if_neg (by omega), e1, e2]
  cases chainF T (firstC C) (needC C) server xs 0 (List.drop (server * 32) (List.take (server * 32 + 32) C)) with
  | none => rfl
  | some key => rfl
section
variable {w : World}
set_option maxRecDepth 100000 in
set_option maxHeartbeats 2000000 in
theorem check_f {lo tb : Nat} {T : List Tm} {C : List Int} {server : Nat} {now : Nat} {p : Option Addr} {n cap : Nat} {xs : List Ob} (h : TabP lo tb w T) (hC : C.length = 133) (hCb : isBytes C) (hs : server < 256) (hw : now < 4294967296)
    (S : Sv 101 w p n cap (xs.flatMap fun x => (obC x).toList)) (hn : xs.length = n) (hx : ∀ x ∈ xs, ObOk x) (hnb : n ≤ 1000000) :
    Calls Tryz.prog 19 #[SU tb, .agg (ints .u8 C), .int .u8 server, .slice p n cap, .int .u32 now] w fun e w' => e = .returned (.tuple #[.agg (ints .u8 (checkF T (firstC C) (highC C) (needC C) server xs now).1), .int .u8 (checkF T (firstC C) (highC C) (needC C) server xs now).2.1, .int .i64 (checkF T (firstC C) (highC C) (needC C) server xs now).2.2]) ∧ Fr [] w w' := by
  have H := Lib.hid h
  have HCB := Lib.hid hCb
  have HS := Lib.hid S
  have HX := Lib.hid hx
  obtain ⟨R, hR⟩ : ∃ R, R = checkF T (firstC C) (highC C) (needC C) server xs now := ⟨_, rfl⟩
  rw [← hR]
  have HR := Lib.hid hR
  have HN := Lib.hid hn
  clear h hCb S hx hR hn
  go_enter Tryz.func19, Tryz.ntmps19
  by_cases h4 : 4 ≤ server
  · have d : decide (4 ≤ (server : Int)) = true := by rw [decide_eq_true_eq]; omega
    have hr0 : R = (Kd.zeros 32, 0, 200) := by rw [HR.out]; unfold checkF; rw [if_pos (by omega)]
    have HR0 := Lib.hid hr0
    clear hr0
    go_upto_if 23 with (fail)
    refine named_world (A := fun X => OwB w [(w.heap.size + 1 + 1, .cells (ints .u8 (zs 32)) 34), (w.heap.size + 1, .cells (ints .u8 C) 38), (w.heap.size, .cells #[.pointer (some ⟨tb, 0, none⟩)] 27)] X) (Q := fun X => Code.wp _ _ _ _ X) ((((OwB.start w).allocN _ w.heap.size rfl).allocN _ (w.heap.size + 1) (by simp)).allocN _ (w.heap.size + 1 + 1) (by simp)) ?_
    intro V hV
    generalize w.heap.size + 1 + 1 = b10 at hV ⊢
    generalize w.heap.size + 1 = b6 at hV ⊢
    generalize w.heap.size = b5 at hV ⊢
    have f10 := hV.nth 0 rfl
    have t10 := World.at_lt f10
    have l10 := hV.low 0 rfl
    have F := Lib.hid (hV.fr.put b10 (.cells (ints .u8 (Kd.zeros 32)) 34) (fun h => by omega))
    clear hV
    go_wp2_with fail
    refine ret_cell_tmp2 rfl rfl rfl ?_
    go_simp
    rw [HR0.out]
    exact ⟨by kernel_rfl, ⟨rfl, rfl, rfl⟩, F.out⟩
  have d0 : decide (4 ≤ (server : Int)) = false := by rw [decide_eq_false_iff_not]; omega
  go_upto_if 23 with (fail)
  refine named_world (A := fun X => OwB w [(w.heap.size + 1 + 1, .cells (ints .u8 (zs 32)) 34), (w.heap.size + 1, .cells (ints .u8 C) 38), (w.heap.size, .cells #[.pointer (some ⟨tb, 0, none⟩)] 27)] X) (Q := fun X => Code.wp _ _ _ _ X) ((((OwB.start w).allocN _ w.heap.size rfl).allocN _ (w.heap.size + 1) (by simp)).allocN _ (w.heap.size + 1 + 1) (by simp)) ?_
  intro V hV
  generalize w.heap.size + 1 + 1 = b10 at hV ⊢
  generalize w.heap.size + 1 = b6 at hV ⊢
  generalize w.heap.size = b5 at hV ⊢
  have f10 := hV.nth 0 rfl
  have t10 := World.at_lt f10
  have l10 := hV.low 0 rfl
  have HV := Lib.hid hV
  by_cases hg : 4 < n
  · have d : decide (4 < (n : Int)) = true := by rw [decide_eq_true_eq]; omega
    have hr0 : R = (Kd.zeros 32, 0, 200) := by rw [HR.out]; unfold checkF; rw [if_pos (by rw [HN.out]; omega)]
    clear hV
    have F := Lib.hid (HV.out.fr.put b10 (.cells (ints .u8 (Kd.zeros 32)) 34) (fun h => by omega))
    have HR0 := Lib.hid hr0
    clear hr0
    go_wp2_with fail
    refine ret_cell_tmp2 rfl rfl rfl ?_
    go_simp
    rw [HR0.out]
    exact ⟨by kernel_rfl, ⟨rfl, rfl, rfl⟩, F.out⟩
  · have d : decide (4 < (n : Int)) = false := by rw [decide_eq_false_iff_not]; omega
    have d4 : decide ((server : Int) < 4) = true := by rw [decide_eq_true_eq]; omega
    have f6 := hV.nth 1 rfl
    have t6 := World.at_lt f6
    clear hV
    go_wp2_with fail
    obtain ⟨k0, hk0⟩ : ∃ k0, k0 = List.drop (server * 32) (List.take (server * 32 + 32) C) := ⟨_, rfl⟩
    have e13 : (List.drop (server * 32) (List.take (server * 32 + 32) (List.map (Value.int .u8) C))).toArray = ints .u8 k0 := by rw [hk0, ints, List.map_drop, List.map_take]
    have lk0 : k0.length = 32 := by rw [hk0, List.length_drop, List.length_take]; omega
    have bk0 : isBytes k0 := fun x hx => HCB.out x (by rw [hk0] at hx; exact List.mem_of_mem_take (List.mem_of_mem_drop hx))
    rw [e13, ← hk0]
    obtain ⟨K0, hK0⟩ : ∃ K0, K0 = chainF T (firstC C) (needC C) server xs 0 k0 := ⟨_, rfl⟩
    have hR1 : R = endF C server now xs K0 := by rw [HR.out, checkF_end (by omega) (by rw [HN.out]; omega) hC, hK0, hk0]
    have HR1 := Lib.hid hR1
    have HK0 := Lib.hid hK0
    have HBK := Lib.hid bk0
    refine named_world (A := fun X => OwB w [(V.heap.size, .cells (ints .u8 k0) 34), (b10, .cells (ints .u8 (zs 32)) 34), (b6, .cells (ints .u8 C) 38), (b5, .cells #[.pointer (some ⟨tb, 0, none⟩)] 27)] X) (Q := fun X => Code.wp _ _ _ _ X) (HV.out.allocN _ V.heap.size rfl) ?_
    intro U hU
    clear f10 t10 f6 t6 hR1 hK0 bk0 hk0 e13
    generalize V.heap.size = b13 at hU ⊢
    have HU := Lib.hid hU
    clear hU
    go_loopw [31] (fun iv wy => ∃ (i : Nat) (k : List Int), i ≤ n ∧ iv = .int .i64 (i : Int) ∧ k.length = 32 ∧ Hid (isBytes k) ∧ Hid (OwB w [(b13, .cells (ints .u8 k) 34), (b10, .cells (ints .u8 (zs 32)) 34), (b6, .cells (ints .u8 C) 38), (b5, .cells #[.pointer (some ⟨tb, 0, none⟩)] 27)] wy) ∧ Hid (K0 = chainF T (firstC C) (needC C) server (xs.drop i) i k)) (fun iv _ => (n - intOf iv).toNat)
    case atStart => exact ⟨0, k0, by omega, rfl, lk0, HBK, HU, HK0⟩
    case round =>
      obtain ⟨i, k, hi9, rfl, hk, hbk, hO, hKi⟩ := hrel
      by_cases hlt : i < n
      · have hd : decide ((i : Int) < (n : Int)) = true := by rw [decide_eq_true_eq]; omega
        obtain ⟨b, off, cs, TT, fr, rfl, fc0, hs1, hs2, hext⟩ := HS.out.elem hlt
        obtain ⟨x, hxi⟩ : ∃ x, xs[i]? = some x := ⟨xs[i]'(by rw [HN.out]; exact hlt), List.getElem?_eq_getElem _⟩
        have hox := HX.out x (List.mem_of_getElem? hxi)
        rw [flatMap_part (fun x => (obC x).toList) 101 xs i x (fun y hy => by rw [Array.length_toList, List.size_toArray, cObject_length _ _ _ _ _ _ _ (HX.out y hy).kl (HX.out y hy).sl]) hxi] at hext
        have fc := hO.out.fr.get fc0 (by simp)
        obtain ⟨X, hX⟩ : ∃ X, X = obC x := ⟨_, rfl⟩
        have hext2 : cs.extract (off + i * 101) (off + i * 101 + 101) = X := by rw [hext, hX]
        have HXE := Lib.hid hX
        have hszX : X.size = 101 := by rw [hX, List.size_toArray, cObject_length _ _ _ _ _ _ _ hox.kl hox.sl]
        have xones : ones X.toList = true := by rw [hX]; exact List.all_eq_true.2 (cObject_one _ _ _ _ _ _ _ rfl rfl rfl rfl rfl)
        have HOX := Lib.hid hox
        have HXI := Lib.hid hxi
        clear hext hX hox hxi fc0
        go_upto_region 7 with (fail)
        refine named_world (A := fun Y => OwB w [(wr.heap.size, .cells X 48), (b13, .cells (ints .u8 k) 34), (b10, .cells (ints .u8 (zs 32)) 34), (b6, .cells (ints .u8 C) 38), (b5, .cells #[.pointer (some ⟨tb, 0, none⟩)] 27)] Y) (Q := fun Y => Code.wp _ _ _ _ Y) (hO.out.allocN _ wr.heap.size rfl) ?_
        intro U1 hU1
        clear fc hext2 hs1 hs2
        generalize wr.heap.size = bx at hU1 ⊢
        have HU1 := Lib.hid hU1
        obtain ⟨bad, hbad⟩ : ∃ bad, bad = (decide (x.server ≠ (server : Int)) || decide (x.n ≠ (i : Int) + 1) || !verifyF T k (objText x) x.sig || decide (0 < needC C)) := ⟨_, rfl⟩
        have hKi2 : K0 = if bad = true then none else chainF T (firstC C) (needC C) server (xs.drop (i + 1)) (i + 1) x.key := by
          have hil : i < xs.length := by rw [HN.out]; exact hlt
          rw [hKi.out, List.drop_eq_getElem_cons hil, hbad, show xs[i] = x from (List.getElem?_eq_some_iff.1 HXI.out).2]
          exact chainF_cons HOX.out.vs
        have HKI := Lib.hid hKi2
        have HBAD := Lib.hid hbad
        clear hKi2 hbad hU1
        go_cut [36, 37, 38, 39, 40, 41, 42, 43, 44, 45, 46, 47, 48, 49, 50, 51, 52, 53, 54, 55, 56, 57, 58, 59, 60, 61, 62, 63, 64, 65, 66, 67] (fun _ _ _ _ _ _ _ _ _ _ _ _ _ _ _ _ _ _ _ _ _ _ _ _ _ _ _ _ _ _ _ v wy => v = .bool bad ∧ Hid (OwB w [(bx, .cells X 48), (b13, .cells (ints .u8 k) 34), (b10, .cells (ints .u8 (zs 32)) 34), (b6, .cells (ints .u8 C) 38), (b5, .cells #[.pointer (some ⟨tb, 0, none⟩)] 27)] wy))
        case first =>
          have fx := HU1.out.nth 0 rfl
          have tx := World.at_lt fx
          have x0 : X[0]? = some (.int .u8 x.server) := by rw [HXE.out]; exact cObject_get_server _ _ _ _ _ _ _ HOX.out.kl HOX.out.sl
          replace x0 := (Array.getElem?_eq_some_iff.1 x0).2
          have x1 : X[1]? = some (.int .u8 x.n) := by rw [HXE.out]; exact cObject_get_n _ _ _ _ _ _ _ HOX.out.kl HOX.out.sl
          replace x1 := (Array.getElem?_eq_some_iff.1 x1).2
          have hne : Nonempty Unit := ⟨()⟩
          have w1 : IntKind.i64.wrap ((i : Int) + 1) = (i : Int) + 1 := by rw [IntKind.wrap_i64]; omega
          have w2 : IntKind.i64.wrap x.n = x.n := by have h0 := HOX.out.n0; have h1 := HOX.out.n1; rw [IntKind.wrap_i64]; omega
          by_cases hA : x.server = (server : Int)
          · have dA : (x.server != (server : Int)) = false := by simp [hA]
            by_cases hB : x.n = (i : Int) + 1
            · have dB : (x.n != (i : Int) + 1) = false := by simp [hB]
              have HA := Lib.hid hA
              have HB := Lib.hid hB
              clear hA hB
              have f13 := HU1.out.nth 1 rfl
              have f6 := HU1.out.nth 3 rfl
              have f5 := HU1.out.nth 4 rfl
              have xall : X.extract 0 101 = X := by rw [← hszX]; exact Array.extract_size
              have xsig : X.extract 36 100 = ints .u8 x.sig := by rw [HXE.out]; exact cObject_ext_sig _ _ _ _ _ _ _ HOX.out.kl HOX.out.sl
              have c1 : ∀ W : World, Calls Tryz.prog 44 #[.agg X] W fun e w' => ∃ q m c, e = .returned (.slice q m c) ∧ Bld W [] .u8 5 w' q m c (objText x) := fun W => by rw [HXE.out]; exact otext_o HOX.out
              have c3 : ∀ W : World, Calls Tryz.prog 49 #[SU tb, .agg (ints .u8 C), .agg X] W fun e w' => e = .returned (.int .i64 0) ∧ Fr [] W w' := fun W => vouched0_f hC rfl hszX (by rw [HXE.out]; exact cObject_get_vs _ _ _ _ _ _ _ HOX.out.kl HOX.out.sl)
              have C1 := Lib.hid c1
              have C3 := Lib.hid c3
              have hnd0 : 0 ≤ el C 132 ∧ el C 132 < 256 := HCB.out _ (by rw [el, List.getD_eq_getElem?_getD, List.getElem?_eq_getElem (by omega)]; simp)
              have w3 : IntKind.i64.wrap (el C 132) = (needC C : Int) := by rw [IntKind.wrap_i64]; unfold needC; omega
              have l132 : 132 < C.length := by omega
              have t13 := World.at_lt f13
              have t6 := World.at_lt f6
              have t5 := World.at_lt f5
              clear c1 c3 hnd0
              refine drawn_begin 32 (fun w' => w'.blk bx = some (.cells X 48) ∧ w'.blk b13 = some (.cells (ints .u8 k) 34) ∧ w'.blk b6 = some (.cells (ints .u8 C) 38) ∧ w'.blk b5 = some (.cells #[.pointer (some ⟨tb, 0, none⟩)] 27)) (by kernel_rfl) ?_
              refine drawn_reads (fuel := 14) [0, 1, 2, 3, 4, 5, 6, 7, 8, 9, 10, 11, 12, 13, 14, 15, 17, 18] rfl (by kernel_rfl) ⟨fx, f13, f6, f5⟩ ?_
              repeat (first | (refine rowK_step2 rfl rfl (fun K hK => ?_); go_wp2) | (refine rowK_step rfl (fun K hK => ?_); go_simp; refine hK _ ?_; clear hK K))
              refine rowK_nil ⟨fun w' e1 => ?_, ?_⟩
              · obtain ⟨e1, e2, e3, e4⟩ := e1
                clear fx f13 f6 f5
                repeat (first | (refine rowWp_step2 rfl rfl (fun K hK => ?_); go_wp2) | (refine rowWp_step rfl (fun K hK => ?_); go_simp; refine hK _ ?_; clear hK K))
                exact rowWp_nil rfl
              refine drawn_next 16 (fuel := 13) rfl (by kernel_rfl) ?_
              intro K hK
              go_wp2_with fail
              refine (C1.out _).mono ?_
              rintro e U2 ⟨q, m, c, rfl, hB⟩
              have hU2 := HU1.out.drew.call hB.own.fr
              clear fx f13 f6 f5 tx t13 t6 t5
              have fx := hU2.nth 0 rfl
              have f13 := hU2.nth 1 rfl
              have f6 := hU2.nth 3 rfl
              have f5 := hU2.nth 4 rfl
              have tx := World.at_lt fx
              have t13 := World.at_lt f13
              have t6 := World.at_lt f6
              have t5 := World.at_lt f5
              have HU2 := Lib.hid hU2
              have HBt := Lib.hid hB
              clear hU2 hB
              go_wp2_with fail
              refine ⟨⟨fx, f13, f6, f5⟩, ?_⟩
              refine drawn_next 19 (fuel := 12) rfl (by kernel_rfl) ?_
              intro K hK
              go_wp2_with fail
              refine (verify_o (H.out.fr0 HU2.out.fr) hk hbk.out HBt.out.sl (isBytes_obj HOX.out) HOX.out).mono ?_
              rintro e U3 ⟨rfl, F3⟩
              have hU3 := HU2.out.call F3
              clear fx f13 f6 f5 tx t13 t6 t5 F3
              have fx := hU3.nth 0 rfl
              have f13 := hU3.nth 1 rfl
              have f6 := hU3.nth 3 rfl
              have f5 := hU3.nth 4 rfl
              have tx := World.at_lt fx
              have t13 := World.at_lt f13
              have t6 := World.at_lt f6
              have t5 := World.at_lt f5
              have HU3 := Lib.hid hU3
              clear hU3
              have hb : bad = (!verifyF T k (objText x) x.sig || decide (0 < needC C)) := by rw [HBAD.out]; simp [HA.out, HB.out]
              generalize verifyF T k (objText x) x.sig = vb at hb ⊢
              have HBB := Lib.hid hb
              clear hb
              go_wp2_with fail
              refine ⟨⟨fx, f13, f6, f5⟩, ?_⟩
              cases vb with
              | false =>
                refine drawn_reads (fuel := 0) [20, 21, 22, 23, 24, 25, 26, 27, 28, 29, 30, 31] rfl (by kernel_rfl) ⟨fx, f13, f6, f5⟩ ?_
                repeat (first | (refine rowK_step2 rfl rfl (fun K hK => ?_); go_wp2) | (refine rowK_step rfl (fun K hK => ?_); go_simp; refine hK _ ?_; clear hK K))
                refine rowK_nil ⟨fun w' e1 => ?_, ?_⟩
                · obtain ⟨e1, e2, e3, e4⟩ := e1
                  clear fx f13 f6 f5
                  repeat (first | (refine rowWp_step2 rfl rfl (fun K hK => ?_); go_wp2) | (refine rowWp_step rfl (fun K hK => ?_); go_simp; refine hK _ ?_; clear hK K))
                  exact rowWp_nil rfl
                refine drawn_end (ol := []) rfl (by kernel_rfl) ?_
                intro K hK
                go_wp2_with fail
                go_meet
                case rel => exact ⟨by rw [HBB.out]; rfl, HU3⟩
              | true =>
                refine drawn_reads (fuel := 3) [20, 21, 22, 23, 24, 25, 27, 28, 29] rfl (by kernel_rfl) ⟨fx, f13, f6, f5⟩ ?_
                repeat (first | (refine rowK_step2 rfl rfl (fun K hK => ?_); go_wp2) | (refine rowK_step rfl (fun K hK => ?_); go_simp; refine hK _ ?_; clear hK K))
                refine rowK_nil ⟨fun w' e1 => ?_, ?_⟩
                · obtain ⟨e1, e2, e3, e4⟩ := e1
                  clear fx f13 f6 f5
                  repeat (first | (refine rowWp_step2 rfl rfl (fun K hK => ?_); go_wp2) | (refine rowWp_step rfl (fun K hK => ?_); go_simp; refine hK _ ?_; clear hK K))
                  exact rowWp_nil rfl
                refine drawn_next 26 (fuel := 2) rfl (by kernel_rfl) ?_
                intro K hK
                go_wp2_with fail
                refine (C3.out _).mono ?_
                rintro e U4 ⟨rfl, F4⟩
                have hU4 := HU3.out.call F4
                clear fx f13 f6 f5 tx t13 t6 t5 F4
                have fx := hU4.nth 0 rfl
                have f13 := hU4.nth 1 rfl
                have f6 := hU4.nth 3 rfl
                have f5 := hU4.nth 4 rfl
                have tx := World.at_lt fx
                have HU4 := Lib.hid hU4
                clear hU4
                have HBB2 : Hid (bad = decide (0 < needC C)) := Lib.hid (by rw [HBB.out]; simp)
                go_wp2_with fail
                refine ⟨⟨fx, f13, f6, f5⟩, ?_⟩
                refine drawn_reads (fuel := 0) [30, 31] rfl (by kernel_rfl) ⟨fx, f13, f6, f5⟩ ?_
                repeat (first | (refine rowK_step2 rfl rfl (fun K hK => ?_); go_wp2) | (refine rowK_step rfl (fun K hK => ?_); go_simp; refine hK _ ?_; clear hK K))
                refine rowK_nil ⟨fun w' e1 => ?_, ?_⟩
                · repeat (first | (refine rowWp_step2 rfl rfl (fun K hK => ?_); go_wp2) | (refine rowWp_step rfl (fun K hK => ?_); go_simp; refine hK _ ?_; clear hK K))
                  exact rowWp_nil rfl
                refine drawn_end (ol := []) rfl (by kernel_rfl) ?_
                intro K hK
                go_wp2_with fail
                go_meet
                case rel => exact ⟨by rw [HBB2.out], HU4⟩
            · have dB : (x.n != (i : Int) + 1) = true := by simp [hB]
              have hb : bad = true := by rw [HBAD.out]; simp [hB]
              have HB := Lib.hid hb
              clear hA hB hb
              refine wp_region_quiet_all (C := fun w' => ∃ _ : Unit, w' = U1.drew) (by kernel_rfl) (by kernel_rfl) ⟨(), rfl⟩ ?_
              repeat (go_big_quiet_step (fail))
              refine wpQuiet_nil ?_
              intro _ hw'
              obtain ⟨_, rfl⟩ := hw'
              go_wp2_with fail
              go_meet
              case rel => exact ⟨by rw [HB.out], Lib.hid HU1.out.drew⟩
          · have dA : (x.server != (server : Int)) = true := by simp [hA]
            have hb : bad = true := by rw [HBAD.out]; simp [hA]
            have HB := Lib.hid hb
            clear hA hb
            refine wp_region_quiet_all (C := fun w' => ∃ _ : Unit, w' = U1.drew) (by kernel_rfl) (by kernel_rfl) ⟨(), rfl⟩ ?_
            repeat (go_big_quiet_step (fail))
            refine wpQuiet_nil ?_
            intro _ hw'
            obtain ⟨_, rfl⟩ := hw'
            go_wp2_with fail
            go_meet
            case rel => exact ⟨by rw [HB.out], Lib.hid HU1.out.drew⟩
        case rest =>
          obtain ⟨rfl, hO2⟩ := hcut
          have f13 := hO2.out.nth 1 rfl
          have fx := hO2.out.nth 0 rfl
          have f10 := hO2.out.nth 2 rfl
          have t13 := World.at_lt f13
          have tx := World.at_lt fx
          have t10 := World.at_lt f10
          cases bad with
          | true =>
            have hr0 : R = (Kd.zeros 32, 0, 200) := by rw [HR1.out, HKI.out]; rfl
            have HR0 := Lib.hid hr0
            have F := Lib.hid (hO2.out.fr.put b10 (.cells (ints .u8 (Kd.zeros 32)) 34) (fun h => by omega))
            clear hr0
            go_wp2_with fail
            refine ret_cell_tmp2 rfl rfl rfl ?_
            go_simp
            rw [HR0.out]
            exact ⟨by kernel_rfl, ⟨rfl, rfl, rfl⟩, F.out⟩
          | false =>
            have xkey : X.extract 2 34 = ints .u8 x.key := by rw [HXE.out]; exact cObject_ext_key _ _ _ _ _ _ _ HOX.out.kl HOX.out.sl
            have lk := HOX.out.kl
            go_wp2_with fail
            go_roundw
            case rel =>
              refine ⟨i + 1, x.key, by omega, by simp, HOX.out.kl, Lib.hid HOX.out.kb, Lib.hid ?_, Lib.hid (by rw [HKI.out]; rfl)⟩
              exact hO2.out.take.set 0 _ rfl
            case measure => simp [intOf]; omega
      · obtain rfl : i = n := by omega
        have hd : decide ((i : Int) < (i : Int)) = false := by simp
        have hK1 : K0 = some k := by rw [hKi.out, List.drop_eq_nil_of_le (by rw [HN.out]; exact Nat.le_refl _)]; rfl
        have HK1 := Lib.hid hK1
        have f6 := hO.out.nth 2 rfl
        have f10 := hO.out.nth 1 rfl
        have f13 := hO.out.nth 0 rfl
        have t6 := World.at_lt f6
        have t10 := World.at_lt f10
        have t13 := World.at_lt f13
        have hh := HCB.out (el C (128 + server)) (by rw [el, List.getD_eq_getElem?_getD, List.getElem?_eq_getElem (by omega)]; simp)
        have lC : 128 + server < C.length := by omega
        have hs5 : server < 5 := by omega
        have hs6 : 128 + server < 133 := by omega
        obtain ⟨hi, hhi⟩ : ∃ hi, hi = el C (128 + server) := ⟨_, rfl⟩
        have w5 : IntKind.i64.wrap hi = hi := by rw [IntKind.wrap_i64]; omega
        have HHI := Lib.hid hhi
        rw [hhi] at w5
        clear hK1 hh hhi
        by_cases hlow : (i : Int) < el C (128 + server)
        · have dl : decide ((i : Int) < el C (128 + server)) = true := by rw [decide_eq_true_eq]; exact hlow
          have hr0 : R = (Kd.zeros 32, 0, 210) := by rw [HR1.out, HK1.out]; exact endF_low (by rw [HN.out]; exact hlow)
          have HR0 := Lib.hid hr0
          have F := Lib.hid (hO.out.fr.put b10 (.cells (ints .u8 (Kd.zeros 32)) 34) (fun h => by omega))
          clear hr0
          go_wp2_with fail
          refine ret_cell_tmp2 rfl rfl rfl ?_
          go_simp
          rw [HR0.out]
          exact ⟨by kernel_rfl, ⟨rfl, rfl, rfl⟩, F.out⟩
        · have dl : decide ((i : Int) < el C (128 + server)) = false := by rw [decide_eq_false_iff_not]; exact hlow
          have hlow2 : ¬ (xs.length : Int) < el C (128 + server) := by rw [HN.out]; exact hlow
          have w6 : IntKind.u8.wrap (i : Int) = (i : Int) := by rw [IntKind.wrap_u8]; omega
          cases hlast : xs.getLast? with
          | none =>
            have hr0 : R = (k, (i : Int), 0) := by rw [HR1.out, HK1.out, endF_none hlow2 hlast, HN.out]
            have HR0 := Lib.hid hr0
            have hi0 : i = 0 := by
              rw [List.getLast?_eq_none_iff] at hlast
              have h2 := HN.out
              rw [hlast] at h2
              simpa using h2.symm
            have di : decide ((i : Int) > 0) = false := by rw [hi0]; rfl
            have di2 : decide (0 < (i : Int)) = false := by rw [hi0]; rfl
            have di3 : decide (0 < i) = false := by rw [hi0]; rfl
            clear hi0
            have F := Lib.hid (hO.out.fr.put b10 (.cells (ints .u8 k) 34) (fun h => by omega))
            clear hr0 hlow2 hlast hlow
            go_wp2_with fail
            refine ret_cell_tmp2 rfl rfl rfl ?_
            go_simp
            rw [HR0.out]
            exact ⟨by kernel_rfl, ⟨rfl, rfl, rfl⟩, F.out⟩
          | some x =>
            have hr1 := endF_some (k := k) (now := now) hlow2 hlast
            rw [← HK1.out, ← HR1.out, HN.out] at hr1
            have HRR := Lib.hid hr1
            obtain ⟨j, hj⟩ : ∃ j, i = j + 1 := by
              refine ⟨i - 1, ?_⟩
              have : xs ≠ [] := fun e => by rw [e] at hlast; cases hlast
              have := List.length_pos_iff.2 this
              have h2 := HN.out
              omega
            have hxj : xs[j]? = some x := by
              rw [List.getLast?_eq_getElem?] at hlast
              rw [HN.out, hj] at hlast
              exact hlast
            have hox := HX.out x (List.mem_of_getElem? hxj)
            obtain ⟨b, off, cs, TT, fr, rfl, fc0, hs1, hs2, hext⟩ := HS.out.elem (j := j) (by omega)
            rw [flatMap_part (fun x => (obC x).toList) 101 xs j x (fun y hy => by rw [Array.length_toList, List.size_toArray, cObject_length _ _ _ _ _ _ _ (HX.out y hy).kl (HX.out y hy).sl]) hxj] at hext
            have fc := hO.out.fr.get fc0 (by simp)
            have g3 : cs[off + j * 101 + 34]? = some (.int .u32 x.frm) := by
              have h1 : (cs.extract (off + j * 101) (off + j * 101 + 101))[34]? = some (.int .u32 x.frm) := by rw [hext]; exact cObject_get_frm _ _ _ _ _ _ _ hox.kl hox.sl
              rwa [Array.getElem?_extract_of_lt (by omega), ← Array.getElem?_eq_getElem] at h1
            have g4 : cs[off + j * 101 + 35]? = some (.int .u32 x.til) := by
              have h1 : (cs.extract (off + j * 101) (off + j * 101 + 101))[35]? = some (.int .u32 x.til) := by rw [hext]; exact cObject_get_til _ _ _ _ _ _ _ hox.kl hox.sl
              rwa [Array.getElem?_extract_of_lt (by omega), ← Array.getElem?_eq_getElem] at h1
            have g3' := (Array.getElem?_eq_some_iff.1 g3).2
            have g4' := (Array.getElem?_eq_some_iff.1 g4).2
            have hi0 : decide ((i : Int) > 0) = true := by rw [decide_eq_true_eq]; omega
            have w7 : IntKind.i64.wrap ((i : Int) - 1) = (j : Int) := by rw [IntKind.wrap_i64]; omega
            have dj : decide ((j : Int) < (i : Int)) = true := by rw [decide_eq_true_eq]; omega
            have hji : j < i := by omega
            have HJ := Lib.hid hj
            have F := Lib.hid (hO.out.fr.put b10 (.cells (ints .u8 k) 34) (fun h => by omega))
            have F2 := Lib.hid (hO.out.fr.put b10 (.cells (ints .u8 (Kd.zeros 32)) 34) (fun h => by omega))
            clear hr1 hlow2 hlast hlow hj hxj hox hext fc0
            by_cases hw1 : (now : Int) < x.frm
            · have dw : decide ((now : Int) < x.frm) = true := by rw [decide_eq_true_eq]; exact hw1
              have hr0 : R = (Kd.zeros 32, 0, 201) := by rw [HRR.out, if_pos (Or.inl hw1)]
              have HR0 := Lib.hid hr0
              clear hr0 hw1
              go_wp2_with fail
              refine ret_cell_tmp2 rfl rfl rfl ?_
              go_simp
              rw [HR0.out]
              exact ⟨by kernel_rfl, ⟨rfl, rfl, rfl⟩, F2.out⟩
            · have dw : decide ((now : Int) < x.frm) = false := by rw [decide_eq_false_iff_not]; exact hw1
              by_cases hw2 : x.til ≤ (now : Int)
              · have dw2 : decide ((now : Int) ≥ x.til) = true := by rw [decide_eq_true_eq]; exact hw2
                have dw3 : decide (x.til ≤ (now : Int)) = true := by rw [decide_eq_true_eq]; exact hw2
                have hr0 : R = (Kd.zeros 32, 0, 201) := by rw [HRR.out, if_pos (Or.inr hw2)]
                have HR0 := Lib.hid hr0
                clear hr0 hw1 hw2
                go_wp2_with fail
                refine ret_cell_tmp2 rfl rfl rfl ?_
                go_simp
                rw [HR0.out]
                exact ⟨by kernel_rfl, ⟨rfl, rfl, rfl⟩, F2.out⟩
              · have dw2 : decide ((now : Int) ≥ x.til) = false := by rw [decide_eq_false_iff_not]; exact hw2
                have dw3 : decide (x.til ≤ (now : Int)) = false := by rw [decide_eq_false_iff_not]; exact hw2
                have hr0 : R = (k, (i : Int), 0) := by rw [HRR.out, if_neg (by omega)]
                have HR0 := Lib.hid hr0
                clear hr0 hw1 hw2
                go_wp2_with fail
                refine ret_cell_tmp2 rfl rfl rfl ?_
                go_simp
                rw [HR0.out]
                exact ⟨by kernel_rfl, ⟨rfl, rfl, rfl⟩, F.out⟩
end
end Go.Proofs.YtbhnfohoclcjdaaGreat
namespace Go
section
variable {P : Program} {fn : Func} {R : Ending → World → Prop} {a : Act} {w : World}
theorem ret_cell2_tmp {p q ty tz b c u : Nat} (h : fn.results = #[.cell p ty, .cell q tz, .tmp u]) (hp : a.tmps.getD p undef = .pointer (some ⟨b, 0, none⟩)) (hq : a.tmps.getD q undef = .pointer (some ⟨c, 0, none⟩)) (hd : a.defers = [])
    (hR : cellRet P ty (w.blk b) (fun v => cellRet P tz (w.blk c) (fun x => R (.returned (.tuple #[v, x, a.tmps.getD u undef])) w))) : bodyPost P fn R .ret a w := by
  unfold cellRet at hR
  split at hR
  · rename_i cs T fr hb
    obtain ⟨h1, hR⟩ := hR
    split at hR
    · rename_i ds T2 fr2 hc
      refine bodyPost_ret (v := .tuple #[.agg cs, .agg ds, a.tmps.getD u undef]) ?_ hd hR.2
      have hp' : a.tmps[p]?.getD undef = .pointer (some ⟨b, 0, none⟩) := by simpa using hp
      have hq' : a.tmps[q]?.getD undef = .pointer (some ⟨c, 0, none⟩) := by simpa using hq
      simp [results, h, hp', hq', asAddr, run_loadVar_agg hb h1, run_loadVar_agg hc hR.1]
    · exact hR.elim
  · exact hR.elim
end
end Go
namespace Go.Proofs.YtbhnfohoclcjdaaGreat
open Go.RowKit Go.Dr Go.Kd
theorem info59 : (Tryz.prog.info? 65).map (fun i => (i.zero.map (·.cells.size), i.size, i.bytes)) = some (some 162, 162, 164) := by kernel_rfl
theorem info59_parts : ∃ i z, Tryz.prog.info? 65 = some i ∧ i.zero = some z ∧ z.cells.size = 162 ∧ i.size = 162 ∧ i.bytes = 164 := by
  have h := info59
  cases hi : Tryz.prog.info? 65 with
  | none => rw [hi] at h; cases h
  | some i =>
    rw [hi] at h
    simp only [Option.map_some, Option.some.injEq, Prod.mk.injEq] at h
    cases hz : i.zero with
    | none => rw [hz] at h; cases h.1
    | some z =>
      rw [hz] at h
      simp only [Option.map_some, Option.some.injEq] at h
      exact ⟨i, z, rfl, hz, h.1, h.2.1, h.2.2⟩
section
variable {w0 w : World} {L : List (Nat × Obj)} {p : Option Addr} {n cap : Nat} {vs : List Value} {ops : Array Oper} {rest : List Oper} {o : Oper} {a : Act} {Q : Exit → Act → World → Prop}
/-- []api.Bundle: append of a slice. -/
theorem wpList_app60 (hgd : o.guard = none) (s x : Operand) (ho : o.op = .call { callee := .builtin .append, args := #[s, x], argTypes := #[66, 66] })
    (hs : a.eval s = .slice p n cap) (B : BldV w0 L 65 162 w p n cap vs) {q : Option Addr} {m c : Nat} {us : List Value} (hx : a.eval x = .slice q m c) (S : Sv 162 w q m c us) (h1 : ∀ u ∈ us, u.oneCell' = true) (hbig : n + m ≤ 1000000)
    (h : ∀ p' cap' w', BldV w0 L 65 162 w' p' (n + m) cap' (vs ++ us) → wpList Tryz.prog ops Q rest (a.put o.dst (.slice p' (n + m) cap')) w') : wpList Tryz.prog ops Q (o :: rest) a w := by
  obtain ⟨i, z, hi, hz, hzs, hs1, hb1⟩ := info59_parts
  exact wpList_apdV hgd s x 66 66 ho Tryz.underlying66 hi hz hs1 (by omega) hb1 hzs hs B hx (Apd.ofSrc Tryz.underlying66 hi hz (by rw [hs1]; exact S.src Tryz.underlying66 h1)) (by omega) (by omega) h
end
/-- All but the first. -/
theorem sv_rest {sz : Nat} {w : World} {g m c : Nat} {u us : List Value} (S : Sv sz w (some ⟨g, 0, none⟩) m c (u ++ us)) (hu : u.length = sz) (hm : 0 < m) : Sv sz w (if c = 1 then some ⟨g, 0, none⟩ else some ⟨g, sz, none⟩) (m - 1) (c - 1) us := by
  have hl := S.len
  have hc := S.cap_
  have hsm : sz ≤ m * sz := Nat.le_mul_of_pos_left _ hm
  have hl2 : us.length = (m - 1) * sz := by rw [List.length_append] at hl; rw [Nat.sub_mul]; omega
  refine ⟨hl2, by omega, ?_, ?_, ?_⟩
  · rcases Nat.eq_zero_or_pos (m - 1) with h0 | h0
    · exact .inl h0
    · rcases S.row with h | ⟨b, off, cs, T, fr, hp, hb, hs, hx⟩
      · omega
      · simp only [Option.some.injEq, Addr.mk.injEq, and_true] at hp
        obtain ⟨rfl, rfl⟩ := hp
        refine .inr ⟨g, sz, cs, T, fr, by rw [if_neg (by omega)], hb, ?_, ?_⟩
        · rw [Nat.sub_mul]; omega
        · have e : (cs.extract sz (sz + (m - 1) * sz)).toList = ((cs.extract 0 (0 + m * sz)).toList).drop sz := by
            simp only [Array.toList_extract, List.extract_eq_take_drop, Nat.zero_add, List.drop_zero, Nat.sub_zero]
            rw [List.drop_take]
            congr 1
            rw [Nat.sub_mul]; omega
          rw [e, hx, ← hu, List.drop_left]
  · intro h; split at h <;> cases h
  · intro a ha
    split at ha
    · exact ⟨g, 0, by simpa using ha.symm⟩
    · exact ⟨g, sz, by simpa using ha.symm⟩
section
variable {w : World}
set_option maxRecDepth 100000 in
set_option maxHeartbeats 2000000 in
theorem bclone_f {a : Addr} {n cap : Nat} {vs : List Value} (S : Sv 162 w (some a) n cap vs) (h1 : ∀ u ∈ vs, u.oneCell' = true) (hn : n ≤ 100000) :
    Calls Tryz.prog 60 #[.slice (some a) n cap] w fun e w' => ∃ q c, e = .returned (.slice q n c) ∧ BldV w [] 65 162 w' q n c vs := by
  have HS := Lib.hid S
  have H1 := Lib.hid h1
  have hq : (binOp .eql 66 (.slice (some a) n cap) (.slice none 0 0)).run Tryz.prog w = .ok (.bool false) w := by
    exact Lib.run_eql_slice_nil w 66 65 (some a) n cap 0 0 Tryz.underlying66
  clear S h1
  go_enter Tryz.func60, Tryz.ntmps60
  have hO : OwB w [(w.heap.size, .cells #[] 65)] (w.alloc (.cells #[] 65)) := (OwB.start w).alloc _
  have B : BldV w [] 65 162 (w.alloc (.cells #[] 65)) (some ⟨w.heap.size, 0, none⟩) 0 0 [] := BldV.of (r := #[]) hO rfl rfl (Nat.le_refl 0) (by simp [maxLen])
  have HB := Lib.hid B
  clear hO B
  go_wp2_with (refine wpList_app60 rfl _ _ rfl rfl HB.out rfl (HS.out.fr0 HB.out.own.fr) H1.out (by omega) ?_)
  intro q c W B2
  have HB2 := Lib.hid B2
  clear B2
  go_wp2_with fail
  exact bodyPost_ret (results_tmp rfl _ _ _) rfl ⟨q, c, rfl, HB2.out⟩
set_option maxRecDepth 100000 in
set_option maxHeartbeats 2000000 in
/-- The first of those that are left. -/
theorem claim_f {has last : Value} {fall u : List Value} {us : List Value} {a : Addr} {n cap : Nat} (hf : fall.length = 162) (hfo : ∀ v ∈ fall, v.oneCell' = true) (ho : has.oneCell' = true) (hl : last.oneCell' = true) (S : Sv 162 w (some a) (n + 1) cap (u ++ us)) (hu : u.length = 162) (h1 : ∀ v ∈ u ++ us, v.oneCell' = true) (hn : n ≤ 1000) :
    Calls Tryz.prog 31 #[.agg (cShelf has fall (.slice (some a) (n + 1) cap) last).toArray] w fun e w' => ∃ q c, e = .returned (.tuple #[.agg (cShelf has fall (.slice q n c) last).toArray, .agg u.toArray, .bool true]) ∧ Sv 162 w' q n c us ∧ Fr [] w w' := by
  obtain ⟨m, hm⟩ : ∃ m, m = n + 1 := ⟨_, rfl⟩
  rw [← hm] at S ⊢
  obtain ⟨xs, hxs⟩ : ∃ xs, xs = (cShelf has fall (.slice (some a) m cap) last).toArray := ⟨_, rfl⟩
  have hsz : xs.size = 165 := by rw [hxs, List.size_toArray, cShelf_length _ _ _ _ hf]
  have x1 : xs[163]? = some (.slice (some a) m cap) := by rw [hxs]; exact cShelf_get_left _ _ _ _ hf
  replace x1 := (Array.getElem?_eq_some_iff.1 x1).2
  have HXS := Lib.hid hxs
  rw [← hxs]
  have HS := Lib.hid S
  have H1 := Lib.hid h1
  have HM := Lib.hid hm
  have hm0 : decide ((m : Int) > 0) = true := by rw [decide_eq_true_eq]; omega
  have hm1 : decide (0 < m) = true := by rw [decide_eq_true_eq]; omega
  clear hxs S h1 hm
  go_enter Tryz.func31, Tryz.ntmps31
  go_wp2_with fail
  refine named_world (A := fun X => OwB w [(w.heap.size + 1 + 1, .cells Tryz.zeroCells65 65), (w.heap.size + 1, .cells Tryz.zeroCells68 68), (w.heap.size, .cells xs 68)] X) (Q := fun X => Calls Tryz.prog 60 _ X _) ((((OwB.start w).allocN _ w.heap.size rfl).allocN _ (w.heap.size + 1) (by simp)).allocN _ (w.heap.size + 1 + 1) (by simp)) ?_
  intro V hV
  generalize w.heap.size + 1 + 1 = b3 at hV ⊢
  generalize w.heap.size + 1 = b2 at hV ⊢
  generalize w.heap.size = b1 at hV ⊢
  have HV := Lib.hid hV
  clear hV
  refine (bclone_f (HS.out.fr0 HV.out.fr) H1.out (by have := HM.out; omega)).mono ?_
  rintro e W ⟨q, c, rfl, B⟩
  obtain ⟨g, rfl⟩ := B.row.some_of (by have := HM.out; omega)
  have hSv := B.sv
  obtain ⟨r, hO, hcz, hnc, hcm⟩ := B.room
  have hgl := hO.low 0 rfl
  have hall := (HV.out.merge hO)
  have HO := Lib.hid (OwB.call HV.out B.own.fr)
  have hgb := hO.nth 0 rfl
  have hg1 : g ≠ b1 := by have := HV.out.lt 2 rfl; omega
  have hg2 : g ≠ b2 := by have := HV.out.lt 1 rfl; omega
  have hg3 : g ≠ b3 := by have := HV.out.lt 0 rfl; omega
  have f1 := HO.out.nth 2 rfl
  have f2 := HO.out.nth 1 rfl
  have f3 := HO.out.nth 0 rfl
  have n12 := HO.out.ne 2 1 rfl rfl (by decide)
  have n13 := HO.out.ne 2 0 rfl rfl (by decide)
  have n23 := HO.out.ne 1 0 rfl rfl (by decide)
  have n21 := n12.symm
  have n31 := n13.symm
  have n32 := n23.symm
  have hext : (rowV (u ++ us) r).extract 0 162 = u.toArray := by
    apply Array.ext'
    rw [rowV]
    simp [hu]
  have hrs : 162 ≤ (rowV (u ++ us) r).size := by rw [size_rowV, List.length_append]; omega
  have t1 := World.at_lt f1
  have t2 := World.at_lt f2
  have t3 := World.at_lt f3
  have tg := World.at_lt hgb
  generalize rowV (u ++ us) r = cs at hgb hext hrs
  obtain ⟨ys, hys⟩ : ∃ ys, ys = (cShelf has fall (.slice (some ⟨g, 0, none⟩) m c) last).toArray := ⟨_, rfl⟩
  have hszy : ys.size = 165 := by rw [hys, List.size_toArray, cShelf_length _ _ _ _ hf]
  have y1 : ys[163]? = some (.slice (some ⟨g, 0, none⟩) m c) := by rw [hys]; exact cShelf_get_left _ _ _ _ hf
  replace y1 := (Array.getElem?_eq_some_iff.1 y1).2
  have xset : xs.setIfInBounds 163 (.slice (some ⟨g, 0, none⟩) m c) = ys := by rw [HXS.out, hys]; exact cShelf_set_left _ _ _ _ _ hf
  have HYS := Lib.hid hys
  have HSv := Lib.hid hSv
  have hmc : m ≤ c := hnc
  clear hys hSv B hO hall hcz hnc hcm
  have usz : u.toArray.size = 162 := by simpa using hu
  have uone : ones u = true := List.all_eq_true.2 (fun v hv => H1.out v (by simp [hv]))
  have hg1' := hg1.symm
  have hm2 : 0 < m := by have := HM.out; omega
  obtain ⟨zs, hzs⟩ : ∃ zs, zs = (cShelf has fall (.slice (if c = 1 then some ⟨g, 0, none⟩ else some ⟨g, 162, none⟩) (m - 1) (c - 1)) last).toArray := ⟨_, rfl⟩
  have hszz : zs.size = 165 := by rw [hzs, List.size_toArray, cShelf_length _ _ _ _ hf]
  have zset : ys.setIfInBounds 163 (.slice (if c = 1 then some ⟨g, 0, none⟩ else some ⟨g, 162, none⟩) (m - 1) (c - 1)) = zs := by rw [HYS.out, hzs]; exact cShelf_set_left _ _ _ _ _ hf
  have zones : ones zs.toList = true := by rw [hzs]; exact List.all_eq_true.2 (cShelf_one _ _ _ _ ho hfo rfl hl)
  have HZS := Lib.hid hzs
  have hc1 : decide ((1 : Int) ≤ (m : Int)) = true := by rw [decide_eq_true_eq]; omega
  clear hzs
  go_upto_region 5 with (fail)
  have hz59 : Tryz.zeroCells65.size = 162 := by kernel_rfl
  have hz62 : Tryz.zeroCells68.size = 165 := by kernel_rfl
  have zall : zs.extract 0 165 = zs := by rw [← hszz]; exact Array.extract_size
  have uall : u.toArray.extract 0 162 = u.toArray := by
    apply Array.ext'
    simp
    rw [← hu]
    exact List.take_length
  generalize hqq : (if c = 1 then some (⟨g, 0, none⟩ : Addr) else some ⟨g, 162, none⟩) = qq at HZS ⊢
  have HQQ := Lib.hid hqq
  clear hqq zset
  refine named_world (A := fun X => OwB w [(W.heap.size, .cells u.toArray 65), (b3, .cells Tryz.zeroCells65 65), (b2, .cells Tryz.zeroCells68 68), (b1, .cells zs 68)] X ∧ Fr [b1, b2, b3] W X) (Q := fun X => Code.wp _ _ _ _ X) ⟨((HO.out.set 2 _ rfl).allocN _ W.heap.size (by simp)), ((Fr.refl [b1, b2, b3] W).put b1 _ (by simp)).alloc _⟩ ?_
  rintro U ⟨hU, hFU⟩
  have hgW := tg
  clear f1 f2 f3 t1 t2 t3 tg hgb
  have n52 : W.heap.size ≠ b2 := hU.ne 0 2 rfl rfl (by decide)
  have n53 : W.heap.size ≠ b3 := hU.ne 0 1 rfl rfl (by decide)
  generalize W.heap.size = b5 at hU n52 n53 ⊢
  have f5 := hU.nth 0 rfl
  have f1 := hU.nth 3 rfl
  have f2 := hU.nth 2 rfl
  have f3 := hU.nth 1 rfl
  have t5 := World.at_lt f5
  have t1 := World.at_lt f1
  have t2 := World.at_lt f2
  have t3 := World.at_lt f3
  have n25 := n52.symm
  have n35 := n53.symm
  have l2 := hU.low 2 rfl
  have l3 := hU.low 1 rfl
  have HU := Lib.hid hU
  have HFU := Lib.hid hFU
  clear hU hFU
  refine drawn_begin 3 (fun w' => w'.blk b1 = some (.cells zs 68) ∧ w'.blk b5 = some (.cells u.toArray 65)) (by kernel_rfl) ?_
  refine drawn_reads (fuel := 3) [0, 1] rfl (by kernel_rfl) ⟨f1, f5⟩ ?_
  repeat (first | (refine rowK_step2 rfl rfl (fun K hK => ?_); go_wp2) | (refine rowK_step rfl (fun K hK => ?_); go_simp; refine hK _ ?_; clear hK K))
  refine rowK_nil ⟨fun w' e1 => ?_, ?_⟩
  · obtain ⟨e1, e2⟩ := e1
    clear f1 f5
    repeat (first | (refine rowWp_step2 rfl rfl (fun K hK => ?_); go_wp2) | (refine rowWp_step rfl (fun K hK => ?_); go_simp; refine hK _ ?_; clear hK K))
    exact rowWp_nil rfl
  refine drawn_next 2 (fuel := 2) rfl (by kernel_rfl) ?_
  intro K hK
  go_wp2_with fail
  refine ⟨⟨by go_simp, by go_simp⟩, ?_⟩
  refine drawn_end rfl (by kernel_rfl) ?_
  intro K hK
  go_wp2_with fail
  refine ret_cell2_tmp rfl rfl rfl rfl ?_
  go_simp
  have hmn : m - 1 = n := by have := HM.out; omega
  have hrest := sv_rest HSv.out hu hm2
  rw [HQQ.out, hmn] at hrest
  refine ⟨by kernel_rfl, by kernel_rfl, qq, c - 1, by rw [HZS.out, hmn], hrest.fr (((HFU.out.put b2 _ (by simp)).put b3 _ (by simp)).drew) (fun x hx => ?_), ((HU.out.fr.put b2 _ (fun h => by omega)).put b3 _ (fun h => by omega)).drew⟩
  have hxg : x = g := by
    rw [← HQQ.out] at hx
    split at hx
    · simpa using hx.symm
    · simpa using hx.symm
  subst hxg
  simp [hg1, hg2, hg3]
end
end Go.Proofs.YtbhnfohoclcjdaaGreat
