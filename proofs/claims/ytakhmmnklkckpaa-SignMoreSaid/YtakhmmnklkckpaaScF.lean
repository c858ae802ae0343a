/- The code's numbers modulo the base's order: MulAdd. -/
import Derived.Test.YtakhmmnklkckpaaScQ
namespace Go.Proofs.Ytakhmmnklkckpaa
open Go.RowKit Go.Dr
theorem over_eq {P u o : Int} (h0 : 0 ≤ P) (h1 : P ≤ 340282366920938463426481119284349108225) (hu : 0 ≤ u ∧ u < M64) (ho : 0 ≤ o) (ho1 : o < M64) :
    IntKind.u64.wrap (IntKind.u64.wrap (P / 18446744073709551616 + (P % 18446744073709551616 + u) / 18446744073709551616) + ((P + u) % 18446744073709551616 + o) / 18446744073709551616) = (u + P + o) / M64 := by
  unfold M64 at *
  rw [IntKind.wrap_u64, IntKind.wrap_u64]
  omega
theorem set_el_self (l : List Int) (i : Nat) (h : i < l.length) : l.set i (el l i) = l := by
  apply List.ext_getElem (by simp)
  intro n h1 h2
  rw [List.getElem_set]
  split
  · next h3 => subst h3; simp [el, List.getElem?_eq_getElem h]
  · rfl
theorem carP_stop {p : List Int × Int} {k0 j : Nat} (hr : Wrd p.1 ∧ 0 ≤ p.2 ∧ p.2 < M64) (h0 : (carP p k0 j).2 = 0) : ∀ n, k0 + j + n ≤ p.1.length → (carP p k0 (j + n)).1 = (carP p k0 j).1 ∧ (carP p k0 (j + n)).2 = 0
  | 0, _ => ⟨rfl, h0⟩
  | n + 1, h => by
    obtain ⟨h1, h2⟩ := carP_stop hr h0 n (by omega)
    have h3 := wrd_el (carP_rng hr k0 j).1 (k0 + (j + n))
    rw [← Nat.add_assoc, carP, h1, h2, Int.add_zero]
    unfold M64 at h3 ⊢
    refine ⟨?_, by simp only []; omega⟩
    simp only []
    rw [Int.emod_eq_of_lt h3.1 h3.2]
    exact set_el_self _ _ (by rw [length_carP]; omega)
section
variable {w : World}
set_option maxRecDepth 100000 in
set_option maxHeartbeats 2000000 in
theorem muladd_f {a b c : List Int} (la : a.length = 32) (lb : b.length = 32) (lc : c.length = 32) (ha : Byt a) (hb : Byt b) (hc : Byt c) :
    Calls Try.prog 95 #[.agg (ints .u8 a), .agg (ints .u8 b), .agg (ints .u8 c)] w fun e w' => e = .returned (.agg (ints .u8 (outF (w4 (modS (bitsD ((List.range 64).map (obF (mulW (w4 (modS (bitsD a))) (w4 (modS (bitsD b))) (w4 (modS (bitsD c)) ++ zs 4) 4))))))))) ∧ Fr [] w w' := by
  have HA := Lib.hid ha
  have HB := Lib.hid hb
  have HC := Lib.hid hc
  clear ha hb hc
  go_enter Try.func95, Try.ntmps95
  go_wp2_with fail
  refine OwB.named (Q := fun X => Code.wp _ _ _ _ X) (show OwB w [(w.heap.size + 3, .cells (ints .u8 (zs 32)) 22), (w.heap.size + 2, .cells (ints .u8 c) 22), (w.heap.size + 1, .cells (ints .u8 b) 22), (w.heap.size, .cells (ints .u8 a) 22)] _ from ((((OwB.start w).allocN (.cells (ints .u8 a) 22) w.heap.size rfl).allocN (.cells (ints .u8 b) 22) (w.heap.size + 1) (by simp)).allocN (.cells (ints .u8 c) 22) (w.heap.size + 2) (by simp)).allocN (.cells (ints .u8 (zs 32)) 22) (w.heap.size + 3) (by simp)) ?_
  intro V hV
  generalize w.heap.size + 3 = bo at hV ⊢
  generalize w.heap.size + 2 = bc at hV ⊢
  generalize w.heap.size + 1 = bb at hV ⊢
  generalize w.heap.size = ba at hV ⊢
  obtain ⟨L5, hL5⟩ : ∃ L5 : List (Nat × Obj), L5 = [(bo, .cells (ints .u8 (zs 32)) 22), (bc, .cells (ints .u8 c) 22), (bb, .cells (ints .u8 b) 22), (ba, .cells (ints .u8 a) 22)] := ⟨_, rfl⟩
  rw [← hL5] at hV
  have HL5 := Lib.hid hL5
  clear hL5
  have hne : Nonempty (OwnW w L5) := ⟨⟨_, hV⟩⟩
  have HSa : Hid (∀ x : OwnW w L5, Sl .u8 x.w (some ⟨ba, 0, none⟩) 32 32 a) := Lib.hid fun x => Sl.ofInts (x.nth HL5.out 3 rfl) (by omega) (by rw [List.drop_zero, List.take_of_length_le (by omega)]) (Nat.le_refl 32)
  have HSb : Hid (∀ x : OwnW w L5, Sl .u8 x.w (some ⟨bb, 0, none⟩) 32 32 b) := Lib.hid fun x => Sl.ofInts (x.nth HL5.out 2 rfl) (by omega) (by rw [List.drop_zero, List.take_of_length_le (by omega)]) (Nat.le_refl 32)
  refine wp_region_rooms 6 8 [(4, 7, .cells (ints .u64 (zs 4)) 113), (5, 8, .cells (ints .u64 (zs 4)) 113)] (by kernel_rfl) (by kernel_rfl) (RoomsOk.of (by kernel_rfl) ?rm) rfl hV ?_
  case rm =>
    intro r hr
    simp only [List.mem_cons, List.not_mem_nil, or_false] at hr
    rcases hr with rfl | rfl <;> exact ⟨_, rfl, rfl, rfl, fun ρ w => by kernel_rfl⟩
  simp only [List.take_succ_cons, List.take_zero, List.drop_succ_cons, List.drop_zero]
  repeat (first
    | (refine wpQuietR_room rfl ?_)
    | (refine wpQuietR_step rfl rfl (fun K hK => ?_); go_simp; refine hK _ ?_; clear hK K)
    | (refine wpQuietR_step rfl rfl (fun K hK => ?_); go_simp; apply Exists.intro; refine ⟨fun _ => ?_, hK _ ?_⟩; (first | with_reducible exact mod_f (HSa.out _) HA.out (by omega) | with_reducible exact mod_f (HSb.out _) HB.out (by omega)); clear hK K))
  refine wpQuietR_nil ?_
  intro bl V1 hV1
  simp only [ownR, realR, ptrTo, List.map_cons, List.map_nil, List.foldr_cons, List.foldr_nil, List.cons_append, List.nil_append, Act.put, List.setIfInBounds_toArray, List.set_cons_zero, List.set_cons_succ] at hV1 ⊢
  generalize bl 4 = nx at hV1 ⊢
  generalize bl 5 = ny at hV1 ⊢
  rw [HL5.out] at hV1
  obtain ⟨X, hX⟩ : ∃ X, X = modS (bitsD a) := ⟨_, rfl⟩
  obtain ⟨Y, hY⟩ : ∃ Y, Y = modS (bitsD b) := ⟨_, rfl⟩
  rw [← hX, ← hY]
  have HX := Lib.hid hX
  have HY := Lib.hid hY
  have v0 := hV1.nth 0 rfl
  have v1 := hV1.nth 1 rfl
  have u0 := hV1.lt 0 rfl
  have u1 := hV1.lt 1 rfl
  have e0 := hV1.ne 0 1 rfl rfl (by decide)
  have e1 := hV1.ne 1 0 rfl rfl (by decide)
  have lX := length_w4 X
  have lY := length_w4 Y
  clear hX hY hne hV
  intro K hK
  go_wp2_with fail
  have hO2 := ((hV1.set 0 (.cells (ints .u64 (w4 X)) 113) rfl).set 1 (.cells (ints .u64 (w4 Y)) 113) rfl).allocN (.cells (ints .u64 (zs 8)) 119) V1.heap.size (by simp)
  obtain ⟨Z, hZ⟩ : ∃ Z, Z = modS (bitsD c) := ⟨_, rfl⟩
  refine (mod_f (Sl.ofInts (hO2.nth 4 rfl) (by omega) (by rw [List.drop_zero, List.take_of_length_le (by omega)]) (Nat.le_refl 32)) HC.out (by omega)).mono ?_
  rintro e w3 ⟨rfl, F3⟩
  rw [← hZ]
  have HZ := Lib.hid hZ
  have hO3 : OwB w [(V1.heap.size, .cells (ints .u64 (zs 8)) 119), (nx, .cells (ints .u64 (w4 X)) 113), (ny, .cells (ints .u64 (w4 Y)) 113), (bo, .cells (ints .u8 (zs 32)) 22), (bc, .cells (ints .u8 c) 22), (bb, .cells (ints .u8 b) 22), (ba, .cells (ints .u8 a) 22)] w3 := hO2.call F3
  generalize V1.heap.size = bt at hO3 ⊢
  clear hO2 F3 hZ hV1 v0 v1 u0 u1 e0 e1
  have lZ := length_w4 Z
  simp only []
  go_wp2_with fail
  have hO4 : OwB w [(w3.heap.size, .cells (ints .u64 (w4 Z)) 113), (bt, .cells (ints .u64 (zs 8)) 119), (nx, .cells (ints .u64 (w4 X)) 113), (ny, .cells (ints .u64 (w4 Y)) 113), (bo, .cells (ints .u8 (zs 32)) 22), (bc, .cells (ints .u8 c) 22), (bb, .cells (ints .u8 b) 22), (ba, .cells (ints .u8 a) 22)] (w3.alloc (.cells (ints .u64 (w4 Z)) 113)) := hO3.allocN _ _ rfl
  generalize w3.heap.size = bz at hO4 ⊢
  clear hO3
  obtain ⟨L6, hL6⟩ : ∃ L6 : List (Nat × Obj), L6 = [(bz, .cells (ints .u64 (w4 Z)) 113), (bt, .cells (ints .u64 (zs 8)) 119), (nx, .cells (ints .u64 (w4 X)) 113), (ny, .cells (ints .u64 (w4 Y)) 113), (bo, .cells (ints .u8 (zs 32)) 22), (bc, .cells (ints .u8 c) 22), (bb, .cells (ints .u8 b) 22), (ba, .cells (ints .u8 a) 22)] := ⟨_, rfl⟩
  rw [← hL6] at hO4
  have HL6 := Lib.hid hL6
  clear hL6
  have hne : Nonempty (OwnW w L6) := ⟨⟨_, hO4⟩⟩
  refine wp_region_own_tail 2 (by kernel_rfl) (by kernel_rfl) hO4 ?_
  simp only [List.take_succ_cons, List.take_zero, List.drop_succ_cons, List.drop_zero]
  repeat (go_big_quiet_step (fail))
  refine wpQuiet_nil ?_
  intro _ hw'
  obtain ⟨⟨V2, hV2⟩, rfl⟩ := hw'
  clear hne hO4
  rw [HL6.out] at hV2
  have v0 := hV2.nth 0 rfl
  have v1 := hV2.nth 1 rfl
  have u1 := hV2.lt 1 rfl
  go_wp2_with fail
  have hO5 := hV2.set 1 (.cells (ints .u64 (w4 Z ++ zs 4)) 119) rfl
  rw [show lay (zs 8) 0 (w4 Z) = w4 Z ++ zs 4 from rfl]
  clear hV2 v0 v1 u1
  obtain ⟨T0, hT0⟩ : ∃ T0, T0 = w4 Z ++ zs 4 := ⟨_, rfl⟩
  rw [← hT0] at hO5 ⊢
  have lT0 : T0.length = 8 := by rw [hT0]; rfl
  have wT0 : Wrd T0 := by
    rw [hT0]
    exact fun x hx => (List.mem_append.1 hx).elim (wrd_w4 Z x) (wrd_zs 4 x)
  have HT0 := Lib.hid hT0
  have HWT0 := Lib.hid wT0
  clear hT0 wT0
  obtain ⟨X4, hX4⟩ : ∃ X4, X4 = w4 X := ⟨_, rfl⟩
  obtain ⟨Y4, hY4⟩ : ∃ Y4, Y4 = w4 Y := ⟨_, rfl⟩
  rw [← hX4, ← hY4] at hO5 ⊢
  have wX : Wrd X4 := by rw [hX4]; exact wrd_w4 X
  have wY : Wrd Y4 := by rw [hY4]; exact wrd_w4 Y
  rw [← hX4] at lX
  rw [← hY4] at lY
  have HX4 := Lib.hid hX4
  have HY4 := Lib.hid hY4
  have HWX := Lib.hid wX
  have HWY := Lib.hid wY
  clear hX4 hY4 wX wY
  go_loopw [30] (fun iv wr => ∃ i : Nat, i ≤ 4 ∧ iv = .int .i64 (i : Int) ∧ Hid (OwB w [(bz, .cells (ints .u64 (w4 Z)) 113), (bt, .cells (ints .u64 (mulW X4 Y4 T0 i)) 119), (nx, .cells (ints .u64 (X4)) 113), (ny, .cells (ints .u64 (Y4)) 113), (bo, .cells (ints .u8 (zs 32)) 22), (bc, .cells (ints .u8 c) 22), (bb, .cells (ints .u8 b) 22), (ba, .cells (ints .u8 a) 22)] wr)) (fun iv _ => (4 - intOf iv).toNat)
  case atStart => exact ⟨0, by omega, rfl, Lib.hid hO5⟩
  case round =>
    clear hO5
    obtain ⟨i, hi, rfl, hO⟩ := hrel
    obtain ⟨T, hT⟩ : ∃ T, T = mulW X4 Y4 T0 i := ⟨_, rfl⟩
    rw [← hT] at hO
    have lT : T.length = 8 := by rw [hT, length_mulW, lT0]
    have wT : Wrd T := by rw [hT]; exact wrd_mulW HWX.out HWY.out HWT0.out i
    have HT := Lib.hid hT
    have HWT := Lib.hid wT
    clear hT wT
    by_cases hlt : i < 4
    · have hd : decide ((i : Int) < 4) = true := by rw [decide_eq_true_eq]; omega
      go_wp2_with fail
      go_loopw [12, 33] (fun ov kv wr => ∃ k : Nat, k ≤ 4 ∧ kv = .int .i64 (k : Int) ∧ (∃ o, Hid (o = (rowP T (el X4 i) Y4 i k).2) ∧ ov = .int .u64 o) ∧ Hid (OwB w [(bz, .cells (ints .u64 (w4 Z)) 113), (bt, .cells (ints .u64 ((rowP T (el X4 i) Y4 i k).1)) 119), (nx, .cells (ints .u64 (X4)) 113), (ny, .cells (ints .u64 (Y4)) 113), (bo, .cells (ints .u8 (zs 32)) 22), (bc, .cells (ints .u8 c) 22), (bb, .cells (ints .u8 b) 22), (ba, .cells (ints .u8 a) 22)] wr)) (fun _ kv _ => (4 - intOf kv).toNat)
      case atStart => exact ⟨0, by omega, rfl, ⟨0, Lib.hid rfl, rfl⟩, hO⟩
      case round =>
        clear hO
        obtain ⟨k, hk, rfl, ⟨o, ho, rfl⟩, hO1⟩ := hrel
        have hrr := rowP_rng (i := i) HWT.out HWY.out (wrd_el HWX.out i) k
        rw [← ho.out] at hrr
        obtain ⟨U, hU⟩ : ∃ U, U = (rowP T (el X4 i) Y4 i k).1 := ⟨_, rfl⟩
        rw [← hU] at hO1 hrr
        have lU : U.length = 8 := by rw [hU, length_rowP, lT]
        obtain ⟨wU, ho0, ho1⟩ := hrr
        have HU := Lib.hid hU
        have HWU := Lib.hid wU
        clear hU wU
        by_cases hlt2 : k < 4
        · have hd2 : decide ((k : Int) < 4) = true := by rw [decide_eq_true_eq]; omega
          obtain ⟨u, hu⟩ : ∃ u : Nat, (i : Int) + (k : Int) = u := ⟨i + k, by omega⟩
          have hu8 : u < 8 := by omega
          have HUK := Lib.hid (show u = i + k from by omega)
          have rx := wrd_el HWX.out i
          have ry := wrd_el HWY.out k
          have rt := wrd_el HWU.out u
          have hp0 : 0 ≤ el X4 i * el Y4 k := Int.mul_nonneg rx.1 ry.1
          have hp1 : el X4 i * el Y4 k ≤ 340282366920938463426481119284349108225 := by
            have := Int.mul_le_mul (a := el X4 i) (b := el Y4 k) (c := 18446744073709551615) (d := 18446744073709551615) (by have := rx.2; unfold M64 at this; omega) (by have := ry.2; unfold M64 at this; omega) ry.1 (by decide)
            omega
          have hmul : Hid (∀ W : World, Calls Try.prog 98 #[.int .u64 (el X4 i), .int .u64 (el Y4 k)] W fun e w' => e = .returned (.tuple #[.int .u64 (el X4 i * el Y4 k / 18446744073709551616), .int .u64 (el X4 i * el Y4 k % 18446744073709551616)]) ∧ Fr [] W w') :=
            Lib.hid fun W => (mul64_any _ _ rx.1 rx.2 ry.1 ry.2).mono fun e w' ⟨h1, h2⟩ => ⟨h1, h2 ▸ Fr.refl _ _⟩
          obtain ⟨L7, hL7⟩ : ∃ L7 : List (Nat × Obj), L7 = [(bz, .cells (ints .u64 (w4 Z)) 113), (bt, .cells (ints .u64 U) 119), (nx, .cells (ints .u64 X4) 113), (ny, .cells (ints .u64 Y4) 113), (bo, .cells (ints .u8 (zs 32)) 22), (bc, .cells (ints .u8 c) 22), (bb, .cells (ints .u8 b) 22), (ba, .cells (ints .u8 a) 22)] := ⟨_, rfl⟩
          have hO2 := hO1.out
          rw [← hL7] at hO2
          have HL7 := Lib.hid hL7
          clear hL7 hO1
          have hne : Nonempty (OwnW w L7) := ⟨⟨_, hO2⟩⟩
          have f0 : ∀ x : OwnW w L7, x.w.blk nx = some (.cells (ints .u64 X4) 113) := fun x => x.nth HL7.out 2 rfl
          have f1 : ∀ x : OwnW w L7, x.w.blk ny = some (.cells (ints .u64 Y4) 113) := fun x => x.nth HL7.out 3 rfl
          go_wp2_with fail
          refine wp_region_own (by kernel_rfl) (by kernel_rfl) hO2 ?_
          repeat (go_big_quiet_step (with_reducible exact Calls.own_of (hmul.out _)))
          refine wpQuiet_nil ?_
          intro _ hw'
          obtain ⟨⟨V3, hV3⟩, rfl⟩ := hw'
          clear f0 f1 hne hO2
          rw [HL7.out] at hV3
          have v1 := hV3.nth 1 rfl
          have u1 := hV3.lt 1 rfl
          obtain ⟨P, hP⟩ : ∃ P, P = el X4 i * el Y4 k := ⟨_, rfl⟩
          rw [← hP] at hp0 hp1 ⊢
          have HP := Lib.hid hP
          clear hP hmul
          have ad1 := add64_0 (P % 18446744073709551616) (el U u) (by omega) rt.1
          have ad2 := add64_0 ((P + el U u) % 18446744073709551616) o (by omega) ho0
          go_wp2_with fail
          go_roundw
          case rel =>
            have hrow : rowP T (el X4 i) Y4 i (k + 1) = (U.set u ((el U u + P + o) % M64), (el U u + P + o) / M64) := by
              rw [rowP, ← HU.out, ← ho.out, ← HUK.out, ← HP.out]
            rw [over_eq hp0 hp1 rt ho0 ho1]
            refine ⟨k + 1, by omega, by simp, ⟨_, Lib.hid ?_, rfl⟩, Lib.hid ?_⟩
            · rw [hrow]
            · rw [hrow]
              have hn := hV3.set 1 (.cells (ints .u64 (U.set u ((el U u + P + o) % M64))) 119) rfl
              rw [show P + el U u + o = el U u + P + o from by omega]
              exact hn
          case measure => simp [intOf]; omega
        · have HK4 := Lib.hid (show k = 4 by omega)
          have hd2 : decide ((k : Int) < 4) = false := by rw [decide_eq_false_iff_not]; omega
          clear hlt2 hk
          go_wp2_with fail
          obtain ⟨R, hR⟩ : ∃ R, R = rowP T (el X4 i) Y4 i 4 := ⟨_, rfl⟩
          have hUR : U = R.1 := by rw [hR, HU.out, HK4.out]
          have hoR : o = R.2 := by rw [hR, ho.out, HK4.out]
          have hRr : Wrd R.1 ∧ 0 ≤ R.2 ∧ R.2 < M64 := by rw [← hUR, ← hoR]; exact ⟨HWU.out, ho0, ho1⟩
          have lR : R.1.length = 8 := by rw [← hUR]; exact lU
          have HR := Lib.hid hR
          have HRr := Lib.hid hRr
          rw [hUR] at hO1
          have HoR := Lib.hid hoR
          clear hR hUR hoR hRr ho0 ho1 ho HU HWU HK4
          go_loopw [12, 18] (fun ov jv wr => ∃ j m : Nat, Hid (m = i + 4 + j) ∧ m ≤ 8 ∧ jv = .int .i64 (m : Int) ∧ (∃ o, Hid (o = (carP R (i + 4) j).2) ∧ ov = .int .u64 o) ∧ Hid (OwB w [(bz, .cells (ints .u64 (w4 Z)) 113), (bt, .cells (ints .u64 ((carP R (i + 4) j).1)) 119), (nx, .cells (ints .u64 (X4)) 113), (ny, .cells (ints .u64 (Y4)) 113), (bo, .cells (ints .u8 (zs 32)) 22), (bc, .cells (ints .u8 c) 22), (bb, .cells (ints .u8 b) 22), (ba, .cells (ints .u8 a) 22)] wr)) (fun _ jv _ => (8 - intOf jv).toNat)
          case atStart => exact ⟨0, i + 4, Lib.hid rfl, by omega, by simp, ⟨_, HoR, rfl⟩, hO1⟩
          case round =>
            clear hO1 HoR
            obtain ⟨j, m, hm, hm8, rfl, ⟨o, ho, rfl⟩, hO1⟩ := hrel
            have hcr := carP_rng HRr.out (i + 4) j
            rw [← ho.out] at hcr
            obtain ⟨U, hU⟩ : ∃ U, U = (carP R (i + 4) j).1 := ⟨_, rfl⟩
            rw [← hU] at hO1 hcr
            have lU : U.length = 8 := by rw [hU, length_carP, lR]
            obtain ⟨wU, ho0, ho1⟩ := hcr
            have HU := Lib.hid hU
            have HWU := Lib.hid wU
            clear hU wU
            by_cases hlt3 : m < 8
            · have hd3 : decide ((m : Int) < 8) = true := by rw [decide_eq_true_eq]; omega
              by_cases hpos : 0 < o
              · have hd4 : decide (0 < o) = true := by rw [decide_eq_true_eq]; omega
                have hd5 : decide (o > 0) = true := by rw [decide_eq_true_eq]; omega
                have rt := wrd_el HWU.out m
                have hV3 := hO1.out
                have v1 := hV3.nth 1 rfl
                have u1 := hV3.lt 1 rfl
                have ad := add64_0 (el U m) o rt.1 ho0
                go_wp2_with fail
                go_roundw
                case rel =>
                  have hrow : carP R (i + 4) (j + 1) = (U.set m ((el U m + o) % M64), (el U m + o) / M64) := by
                    rw [carP, ← HU.out, ← ho.out, ← hm.out]
                  refine ⟨j + 1, m + 1, Lib.hid (by have := hm.out; omega), by omega, by simp, ⟨_, Lib.hid ?_, rfl⟩, Lib.hid ?_⟩
                  · rw [hrow]
                  · rw [hrow]
                    exact hV3.set 1 (.cells (ints .u64 (U.set m ((el U m + o) % M64))) 119) rfl
                case measure => simp [intOf]; omega
              · have hd4 : decide (0 < o) = false := by rw [decide_eq_false_iff_not]; exact hpos
                have hd5 : decide (o > 0) = false := by rw [decide_eq_false_iff_not]; exact hpos
                have hend : U = mulW X4 Y4 T0 (i + 1) := by
                  have hz : (carP R (i + 4) j).2 = 0 := by rw [← ho.out]; omega
                  have h1 := (carP_stop HRr.out hz (4 - i - j) (by rw [lR]; have := hm.out; omega)).1
                  rw [show j + (4 - i - j) = 4 - i from by have := hm.out; omega] at h1
                  rw [mulW, ← HT.out, ← HR.out, h1, HU.out]
                have hn := hO1.out
                rw [hend] at hn
                have HN := Lib.hid hn
                clear hn hend hO1
                go_wp2_with fail
                go_roundw
                case rel => exact ⟨i + 1, by omega, by simp, HN⟩
                case measure => simp [intOf]; omega
            · have hd3 : decide ((m : Int) < 8) = false := by rw [decide_eq_false_iff_not]; omega
              have hend : U = mulW X4 Y4 T0 (i + 1) := by
                rw [mulW, ← HT.out, ← HR.out, show 4 - i = j from by have := hm.out; omega, HU.out]
              have hn := hO1.out
              rw [hend] at hn
              have HN := Lib.hid hn
              clear hn hend hO1
              go_wp2_with fail
              go_roundw
              case rel => exact ⟨i + 1, by omega, by simp, HN⟩
              case measure => simp [intOf]; omega
    · have HI4 := Lib.hid (show i = 4 by omega)
      have hd : decide ((i : Int) < 4) = false := by rw [decide_eq_false_iff_not]; omega
      have hn := hO.out
      have HT8 := Lib.hid (show T = mulW X4 Y4 T0 4 from by rw [HT.out, HI4.out])
      clear HT HI4 hO hi hlt
      go_wp2_with fail
      refine OwB.named (Q := fun X => Code.wp _ _ _ _ X) (show OwB w [(wr.heap.size, .cells (ints .u8 (zs 64)) 69), (bz, .cells (ints .u64 (w4 Z)) 113), (bt, .cells (ints .u64 T) 119), (nx, .cells (ints .u64 (X4)) 113), (ny, .cells (ints .u64 (Y4)) 113), (bo, .cells (ints .u8 (zs 32)) 22), (bc, .cells (ints .u8 c) 22), (bb, .cells (ints .u8 b) 22), (ba, .cells (ints .u8 a) 22)] _ from hn.allocN (.cells (ints .u8 (zs 64)) 69) _ (by simp)) ?_
      intro V9 hV9
      generalize hbw : wr.heap.size = bw at hV9 ⊢
      clear hbw hn
      go_loopw [94] (fun iv wy => ∃ i : Nat, i ≤ 64 ∧ iv = .int .i64 (i : Int) ∧ Hid (OwB w [(bw, .cells (ints .u8 (upd (obF T) (zs 64) i)) 69), (bz, .cells (ints .u64 (w4 Z)) 113), (bt, .cells (ints .u64 T) 119), (nx, .cells (ints .u64 (X4)) 113), (ny, .cells (ints .u64 (Y4)) 113), (bo, .cells (ints .u8 (zs 32)) 22), (bc, .cells (ints .u8 c) 22), (bb, .cells (ints .u8 b) 22), (ba, .cells (ints .u8 a) 22)] wy)) (fun iv _ => (64 - intOf iv).toNat)
      case atStart => exact ⟨0, by omega, rfl, Lib.hid (by rw [upd_zero]; exact hV9)⟩
      case round =>
        clear hV9
        obtain ⟨i, hi9, rfl, hO9⟩ := hrel
        have f0 := hO9.out.nth 0 rfl
        have f1 := hO9.out.nth 2 rfl
        have e0 := hO9.out.ne 0 2 rfl rfl (by decide)
        have t0 := hO9.out.lt 0 rfl
        have t1 := hO9.out.lt 2 rfl
        obtain ⟨U, hU⟩ : ∃ U, U = upd (obF T) (zs 64) i := ⟨_, rfl⟩
        have lU : U.length = 64 := by rw [hU, length_upd _ _ _ (by rw [length_zs]; exact hi9), length_zs]
        rw [← hU] at f0
        have HU := Lib.hid hU
        clear hU
        by_cases hlt5 : i < 64
        · have hd : decide ((i : Int) < 64) = true := by rw [decide_eq_true_eq]; omega
          have hi8 : i / 8 < 8 := by omega
          go_wp2
          go_roundw
          case rel =>
            refine ⟨i + 1, by omega, by simp, Lib.hid ?_⟩
            have hn := hO9.out
            rw [← HU.out] at hn
            have hn2 := hn.set 0 (.cells (ints .u8 (upd (obF T) (zs 64) (i + 1))) 69) rfl
            have ev : U.set i (el T (i / 8) / 2 ^ (i % 8 * 8) % 256) = upd (obF T) (zs 64) (i + 1) := by
              rw [HU.out]
              exact set_upd (obF T) (zs 64) i (by rw [length_zs]; exact hlt5)
            rw [ev]
            exact hn2
          case measure => simp [intOf]; omega
        · obtain rfl : i = 64 := by omega
          have hd : decide ((64 : Int) < 64) = false := by decide
          clear e0 t1 f1
          have bU : Byt U := by
            rw [HU.out, upd_full _ _ _ (length_zs 64)]
            intro x hx
            obtain ⟨i, _, rfl⟩ := List.mem_map.1 hx
            unfold obF
            exact ⟨Int.emod_nonneg _ (by decide), Int.emod_lt_of_pos _ (by decide)⟩
          have HBU := Lib.hid bU
          clear bU
          go_wp2_with fail
          refine (mod_f (Sl.ofInts f0 (by omega) (by rw [List.drop_zero, List.take_of_length_le (by omega)]) (Nat.le_refl 64)) HBU.out (by omega)).mono ?_
          rintro e w8 ⟨rfl, F4⟩
          simp only []
          go_wp2_with fail
          refine (out_f (length_w4 _) (wrd_w4 _)).mono ?_
          rintro e w9 ⟨rfl, F5⟩
          simp only []
          have hn := hO9.out
          rw [← HU.out] at hn
          have hn5 := ((hn.call F4).call F5).set 5 (.cells (ints .u8 (outF (w4 (modS (bitsD U))))) 22) rfl
          have u6 := ((hn.call F4).call F5).lt 5 rfl
          have v6 := ((hn.call F4).call F5).nth 5 rfl
          clear hn F4 f0 t0
          go_wp2_with fail
          refine ret_cell rfl rfl rfl ?_
          refine cellRet_of (hn5.nth 5 rfl) (aggB_ints (length_outF _) (by kernel_rfl)) ?_
          refine ⟨?_, hn5.fr⟩
          rw [HU.out, upd_full _ _ _ (length_zs 64), HT8.out, HX4.out, HY4.out, HT0.out, HX.out, HY.out, HZ.out]
end
end Go.Proofs.Ytakhmmnklkckpaa
