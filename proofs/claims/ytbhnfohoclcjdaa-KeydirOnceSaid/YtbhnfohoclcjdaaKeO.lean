/- KeydirOnce: whatever is laid on a shelf, batch by batch, and claimed between, no number but 0 is claimed twice; walked. -/
import Derived.Test.YtbhnfohoclcjdaaKeP
set_option linter.unusedVariables false
set_option linter.unusedSimpArgs false
namespace Go.Proofs.Ytbhnfohoclcjdaa
open Go.RowKit Go.Dr Go.Kd
section
variable {w : World}
set_option maxRecDepth 100000 in
set_option maxHeartbeats 4000000 in
theorem keydirOnce_walk {p q : Option Addr} {n m c c' : Nat} {LB : List (List Int)} {cl : List Int} (hB : RowR .u16 w p n LB) (hC : RowI .u8 w q m cl) :
    Calls Try.prog 4 #[.slice p n c, .slice q m c'] w fun e w' => e = .returned (.bool true) ∧ Fr [] w w' := by
  have HLB := Lib.hid hB
  have HCL := Lib.hid hC
  have hnb := hB.big
  have hmb := hC.big
  have hml : maxLen = 9223372036854775807 := by decide
  have hk32 : ∀ x : Int, 0 ≤ x → x < 256 → Key32 (key1 x) := fun x h0 h1 => ⟨rfl, fun v hv => by
    simp only [key1, List.mem_cons, Kd.zeros, List.mem_replicate] at hv
    omega⟩
  have HK32 := Lib.hid hk32
  have hz59 : Try.zeroCells59.size = 162 := by kernel_rfl
  have hz62 : Try.zeroCells62.size = 165 := by kernel_rfl
  clear hB hC hk32
  go_enter Try.func4, Try.ntmps4
  go_wp2_with fail
  refine alive_f.mono ?_
  rintro e V1 ⟨rfl, F1⟩
  have HF1 := Lib.hid F1
  clear F1
  go_wp2_with fail
  refine free_f.mono ?_
  rintro e V2 ⟨tb, rfl, hT, F2⟩
  have HF2 := Lib.hid (HF1.out.trans F2)
  obtain ⟨lo, hlo⟩ : ∃ lo, lo = V1.heap.size := ⟨_, rfl⟩
  rw [← hlo] at hT
  have hlw : w.heap.size ≤ lo := by rw [hlo]; exact HF1.out.size
  have HT2 := Lib.hid hT
  clear hT F2 hlo
  go_wp2_with fail
  refine named_world (A := fun X => OwB w [(V2.heap.size, .cells #[.pointer (some ⟨tb, 0, none⟩)] 33)] X ∧ TabP lo tb X []) (Q := fun X => Calls _ _ _ X _) ⟨((OwB.start w).call HF2.out).allocN _ V2.heap.size rfl, HT2.out.fr0 ((Fr.refl [] V2).alloc _)⟩ ?_
  rintro U1 ⟨hU, hT⟩
  generalize V2.heap.size = b5 at hU ⊢
  have HU1 := Lib.hid hU
  have HT3 := Lib.hid hT
  clear hU hT
  change Calls Try.prog 12 #[SU tb, .agg (ints .u8 (key1 1)), .agg (ints .u8 (key1 2)), .agg (ints .u8 (key1 3))] _ _
  refine (anew_f HT3.out (HK32.out 1 (by omega) (by omega)) (HK32.out 2 (by omega) (by omega)) (HK32.out 3 (by omega) (by omega))).mono ?_
  rintro e V3 ⟨a1, a2, a3, T1, rfl, ka1, ka2, ka3, hT, F⟩
  have hV3 := HU1.out.callT F (by simp [other, TT]) hlw
  have HV3 := Lib.hid hV3
  have HT4 := Lib.hid hT
  obtain ⟨A, hA⟩ : ∃ A, A = acC a1 a2 a3 := ⟨_, rfl⟩
  have szA : A.size = 99 := by rw [hA, List.size_toArray, cAccount_length _ _ _ _ _ _ ka1.len ka2.len ka3.len]
  have allA : A.extract 0 99 = A := by rw [← szA]; exact Array.extract_size
  have sgA : A.extract 32 64 = ints .u8 a2 := by rw [hA]; exact cAccount_ext_sign _ _ _ _ _ _ ka1.len ka2.len ka3.len
  have oneA : ones A.toList = true := by rw [hA]; exact List.all_eq_true.2 (cAccount_one _ _ _ _ _ _ rfl rfl rfl)
  have c13 : ∀ (T : List Tm) (W : World), TabP lo tb W T → Calls Try.prog 13 #[SU tb, .agg A] W fun e w' => ∃ x y T', e = .returned (.tuple #[.agg (ints .u8 x), .agg (ints .u8 y)]) ∧ Key32 x ∧ Key32 y ∧ TabP lo tb w' T' ∧ FrP lo W w' := fun T W hW => by rw [hA]; exact apublic_f hW ka1 ka2 ka3
  have c14 : ∀ (T : List Tm) (W : World), TabP lo tb W T → Calls Try.prog 14 #[SU tb, .agg A, .int .u8 4] W fun e w' => ∃ q cap x T', e = .returned (.slice q 1 cap) ∧ BnOk x ∧ x.id = 0 ∧ BldV w'.void [] 59 162 w' q 1 cap (bnC x).toList ∧ TabP lo tb w' T' ∧ FrP lo W w' ∧ ∀ g, q.map (·.block) = some g → W.heap.size ≤ g := fun T W hW => by rw [hA]; exact bundles_f (dv := 4) hW ka1 ka2 ka3 (by omega)
  have C13 := Lib.hid c13
  have C14 := Lib.hid c14
  have HKA := Lib.hid ka2
  have la2 := ka2.len
  rw [← hA]
  clear hV3 hT F c13 c14 hA ka1 ka2 ka3
  have f5 := HV3.out.nth 0 rfl
  have t5 := World.at_lt f5
  go_wp2_with fail
  refine named_world (A := fun X => OwB w [(V3.heap.size, .cells A 54), (b5, .cells #[.pointer (some ⟨tb, 0, none⟩)] 33)] X ∧ TabP lo tb X T1) (Q := fun X => Calls _ _ _ X _) ⟨HV3.out.allocN _ V3.heap.size rfl, HT4.out.fr0 ((Fr.refl [] V3).alloc _)⟩ ?_
  rintro U2 ⟨hU, hT⟩
  clear f5 t5
  generalize V3.heap.size = b6 at hU ⊢
  have HU2 := Lib.hid hU
  have HT5 := Lib.hid hT
  clear hU hT
  refine (C13.out T1 U2 HT5.out).mono ?_
  rintro e V4 ⟨k1, k2, T2, rfl, hk1, hk2, hT, F⟩
  have hV4 := HU2.out.callT F (by simp [other, TT]) hlw
  have HV4 := Lib.hid hV4
  have HT6 := Lib.hid hT
  have lk1 := hk1.len
  have lk2 := hk2.len
  have s1 : (ints .u8 k1).size = 32 := by rw [size_ints, lk1]
  have s2 : (ints .u8 k2).size = 32 := by rw [size_ints, lk2]
  have y1 : lay (zs 32) 0 k1 = k1 := lay_full lk1
  have y2 : lay (zs 32) 0 k2 = k2 := lay_full lk2
  have HK1 := Lib.hid hk1
  have HK2 := Lib.hid hk2
  clear hV4 hT F hk1 hk2
  go_upto_region 9 with (fail)
  generalize (Value.agg #[.int .u8 1, .int .u8 0, .int .u8 0, .int .u8 0, .int .u8 0, .int .u8 0, .int .u8 0, .int .u8 0, .int .u8 0, .int .u8 0, .int .u8 0, .int .u8 0, .int .u8 0, .int .u8 0, .int .u8 0, .int .u8 0, .int .u8 0, .int .u8 0, .int .u8 0, .int .u8 0, .int .u8 0, .int .u8 0, .int .u8 0, .int .u8 0, .int .u8 0, .int .u8 0, .int .u8 0, .int .u8 0, .int .u8 0, .int .u8 0, .int .u8 0, .int .u8 0]) = lit1
  generalize (Value.agg #[.int .u8 2, .int .u8 0, .int .u8 0, .int .u8 0, .int .u8 0, .int .u8 0, .int .u8 0, .int .u8 0, .int .u8 0, .int .u8 0, .int .u8 0, .int .u8 0, .int .u8 0, .int .u8 0, .int .u8 0, .int .u8 0, .int .u8 0, .int .u8 0, .int .u8 0, .int .u8 0, .int .u8 0, .int .u8 0, .int .u8 0, .int .u8 0, .int .u8 0, .int .u8 0, .int .u8 0, .int .u8 0, .int .u8 0, .int .u8 0, .int .u8 0, .int .u8 0]) = lit2
  generalize (Value.agg #[.int .u8 3, .int .u8 0, .int .u8 0, .int .u8 0, .int .u8 0, .int .u8 0, .int .u8 0, .int .u8 0, .int .u8 0, .int .u8 0, .int .u8 0, .int .u8 0, .int .u8 0, .int .u8 0, .int .u8 0, .int .u8 0, .int .u8 0, .int .u8 0, .int .u8 0, .int .u8 0, .int .u8 0, .int .u8 0, .int .u8 0, .int .u8 0, .int .u8 0, .int .u8 0, .int .u8 0, .int .u8 0, .int .u8 0, .int .u8 0, .int .u8 0, .int .u8 0]) = lit3
  refine named_world (A := fun X => OwB w ((V4.heap.size + 1 + 1, .cells Try.zeroCells62 62) :: [(V4.heap.size + 1, .cells (ints .u8 k2) 23), (V4.heap.size, .cells (ints .u8 k1) 23), (b6, .cells A 54), (b5, .cells #[.pointer (some ⟨tb, 0, none⟩)] 33)]) X ∧ TabP lo tb X T2) (Q := fun X => Code.wp _ _ _ _ X) ⟨((HV4.out.allocN _ V4.heap.size rfl).allocN _ (V4.heap.size + 1) (by simp)).allocN _ (V4.heap.size + 1 + 1) (by simp), HT6.out.fr0 ((((Fr.refl [] V4).alloc _).alloc _).alloc _)⟩ ?_
  rintro U3 ⟨hU, hT⟩
  generalize V4.heap.size + 1 + 1 = b9 at hU ⊢
  generalize V4.heap.size + 1 = b8 at hU ⊢
  generalize V4.heap.size = b7 at hU ⊢
  have HU3 := Lib.hid hU
  have HT7 := Lib.hid hT
  clear hU hT
  go_loopw [10, 11, 12] (fun v10 v11 v12 wy => ∃ (i n10 n11 : Nat) (p10 p11 : Option Addr) (c10 c11 : Nat), i ≤ 12 ∧ v12 = .int .i64 (i : Int) ∧ v10 = .slice p10 n10 c10 ∧ v11 = .slice p11 n11 c11 ∧ Hid (OnceE w lo tb [(b8, .cells (ints .u8 k2) 23), (b7, .cells (ints .u8 k1) 23), (b6, .cells A 54), (b5, .cells #[.pointer (some ⟨tb, 0, none⟩)] 33)] b9 i wy p10 n10 c10 p11 n11 c11)) (fun _ _ v12 _ => (12 - intOf v12).toNat)
  case atStart =>
    refine ⟨0, 0, 0, none, none, 0, 0, by omega, rfl, rfl, rfl, Lib.hid ⟨[], [], false, Try.zeroCells59.toList, none, 0, 0, 0, [], [], [], [], T2, by simp, ⟨?_, .nil _ _, .nil _ _, Kept.nil, HT7.out, InvK.start, rfl, rfl, rfl, by rw [Array.length_toList, hz59], ?_, fun h => by cases h⟩⟩⟩
    · rw [show (cShelf (.bool false) Try.zeroCells59.toList (.slice none 0 0) (.int .u16 0)).toArray = Try.zeroCells62 from by kernel_rfl]
      exact HU3.out
    · exact List.all_eq_true.1 (by kernel_rfl)
  case round =>
    clear HU3 HT7
    obtain ⟨i, n10, n11, p10, p11, c10, c11, hi12, rfl, rfl, rfl, hE⟩ := hrel
    go_upto_region 9 with (fail)
    obtain ⟨t9, ht9⟩ : ∃ t : Bool, t = decide (i < n ∧ i < 12) := ⟨_, rfl⟩
    have HT9 := Lib.hid ht9
    clear ht9
    go_cut [38, 39, 40, 41, 42, 43, 44, 45] (fun _ _ _ _ _ _ _ v45 wy => v45 = .bool t9 ∧ wy = wr)
    case first =>
      by_cases h1 : i < n
      · have d1 : decide ((i : Int) < (n : Int)) = true := by rw [decide_eq_true_eq]; omega
        by_cases h2 : i < 12
        · have d2 : decide ((i : Int) < 12) = true := by rw [decide_eq_true_eq]; omega
          go_wp2_with fail
          go_meet
          case rel => exact ⟨by rw [HT9.out, decide_eq_true ⟨h1, h2⟩], rfl⟩
        · have d2 : decide ((i : Int) < 12) = false := by rw [decide_eq_false_iff_not]; omega
          go_wp2_with fail
          go_meet
          case rel => exact ⟨by rw [HT9.out, decide_eq_false (fun h => h2 h.2)], rfl⟩
      · have d1 : decide ((i : Int) < (n : Int)) = false := by rw [decide_eq_false_iff_not]; omega
        go_wp2_with fail
        go_meet
        case rel => exact ⟨by rw [HT9.out, decide_eq_false (fun h => h1 h.1)], rfl⟩
    case rest =>
      obtain ⟨rfl, rfl⟩ := hcut
      cases t9 with
      | false =>
        have hstop : ¬ (i < n ∧ i < 12) := of_decide_eq_false HT9.out.symm
        obtain ⟨S, C, hs, fall, p', m', cap', last, ls, Ns, Nc, M, T, hSl, hO⟩ := hE.out
        clear hE
        have HO := Lib.hid hO
        clear hO
        go_upto_region 36 with (fail)
        go_loopw [23] (fun v23 wy => ∃ j : Nat, j ≤ n11 ∧ v23 = .int .i64 (j : Int) ∧ Hid (OnceS w lo tb [(b8, .cells (ints .u8 k2) 23), (b7, .cells (ints .u8 k1) 23), (b6, .cells A 54), (b5, .cells #[.pointer (some ⟨tb, 0, none⟩)] 33)] b9 wy p10 n10 c10 p11 n11 c11 S C hs fall p' m' cap' last ls Ns Nc M T)) (fun v23 _ => (n11 - intOf v23).toNat)
        case atStart => exact ⟨0, by omega, rfl, HO⟩
        case round =>
          clear HO
          obtain ⟨j, hj11, rfl, HO⟩ := hrel
          have hn11 : n11 ≤ 120 := by
            have h1 := HO.out.cl
            have h2 := HO.out.inv.le
            omega
          have hn10 : n11 ≤ n10 := by
            have h1 := HO.out.cl
            have h2 := HO.out.inv.le
            have h3 := HO.out.sl
            omega
          by_cases hlt : j < n11
          · have hd : decide ((j : Int) < (n11 : Int)) = true := by rw [decide_eq_true_eq]; omega
            have hd2 : decide ((n10 : Int) ≤ (j : Int)) = false := by rw [decide_eq_false_iff_not]; omega
            have hd3 : decide ((j : Int) ≥ (n10 : Int)) = false := hd2
            have hd4 : decide ((j : Int) < (n10 : Int)) = true := by rw [decide_eq_true_eq]; omega
            have hd5 : decide (n10 ≤ j) = false := by rw [decide_eq_false_iff_not]; omega
            obtain ⟨x, hx⟩ : ∃ x, C[j]? = some x := ⟨C[j]'(by rw [HO.out.cl]; exact hlt), List.getElem?_eq_getElem _⟩
            have hxS := HO.out.inv.same hx
            have hown := HO.out.own
            have hBS := HO.out.ks.take (own_front hown)
            have hBC : BldV w ((M ++ Ns) ++ ((b9, .cells (cShelf (.bool hs) fall (.slice p' m' cap') (.int .u16 last)).toArray 62) :: [(b8, .cells (ints .u8 k2) 23), (b7, .cells (ints .u8 k1) 23), (b6, .cells A 54), (b5, .cells #[.pointer (some ⟨tb, 0, none⟩)] 33)])) 49 1 wr p11 n11 c11 (C.map (Value.int .u16)) := HO.out.kc.take (own_front (A := M ++ Ns) (by simpa [List.append_assoc] using hown))
            obtain ⟨g10, cs10, fr10, hp10, f10, lt10, at10⟩ := row16_at hBS hxS
            obtain ⟨g11, cs11, fr11, hp11, f11, lt11, at11⟩ := row16_at hBC hx
            have t10 := World.at_lt f10
            have t11 := World.at_lt f11
            have HBC := Lib.hid hBC
            have HX := Lib.hid hx
            have wj : IntKind.i64.wrap ((j : Int) + 1) = ((j + 1 : Nat) : Int) := by rw [IntKind.wrap_i64]; omega
            clear hown hBS hBC hxS hx
            subst hp10 hp11
            go_upto_region 38 with (fail)
            by_cases hj0 : j = 0
            · have d0 : decide ((j : Int) > 0) = false := by rw [decide_eq_false_iff_not]; omega
              have d00 : decide (0 < (j : Int)) = false := d0
              have d01 : decide (0 < j) = false := by rw [decide_eq_false_iff_not]; omega
              clear hj0
              refine wp_region_quiet_all (C := fun w' => ∃ _ : Unit, w' = wr.drew) (by kernel_rfl) (by kernel_rfl) ⟨(), rfl⟩ ?_
              repeat (go_big_quiet_step (fail))
              refine wpQuiet_nil ?_
              intro _ hw'
              obtain ⟨_, rfl⟩ := hw'
              have HO3 : Hid (OnceS w lo tb [(b8, .cells (ints .u8 k2) 23), (b7, .cells (ints .u8 k1) 23), (b6, .cells A 54), (b5, .cells #[.pointer (some ⟨tb, 0, none⟩)] 33)] b9 wr.drew (some ⟨g10, 0, none⟩) n10 c10 (some ⟨g11, 0, none⟩) n11 c11 S C hs fall p' m' cap' last ls Ns Nc M T) := Lib.hid (by have h := HO.out; exact ⟨h.own.drew, h.ks, h.kc, h.kl, h.tab.fr0 (Fr.refl [] wr).drew, h.inv, h.ml, h.sl, h.cl, h.fl, h.fo, h.f0⟩)
              clear f10 f11 t10 t11 at10 at11
              go_wp2_with fail
              go_roundw
              case rel => exact ⟨j + 1, by omega, by first | rfl | simp, HO3⟩
              case measure => simp [intOf]; omega
            · have d0 : decide ((j : Int) > 0) = true := by rw [decide_eq_true_eq]; omega
              have d00 : decide (0 < (j : Int)) = true := d0
              have d01 : decide (0 < j) = true := by rw [decide_eq_true_eq]; omega
              obtain ⟨jm, hjm⟩ : ∃ jm, j = jm + 1 := ⟨j - 1, by omega⟩
              have wjm : IntKind.i64.wrap ((j : Int) - 1) = (jm : Int) := by rw [IntKind.wrap_i64]; omega
              obtain ⟨y, hy⟩ : ∃ y, C[jm]? = some y := ⟨C[jm]'(by rw [HO.out.cl]; omega), List.getElem?_eq_getElem _⟩
              have hyx : y < x := HO.out.inv.rises hy (by rw [← hjm]; exact HX.out)
              obtain ⟨g12, cs12, fr12, hp12, f12, lt12, at12⟩ := row16_at HBC.out hy
              simp only [Option.some.injEq, Addr.mk.injEq, and_true] at hp12
              subst hp12
              rw [f11] at f12
              simp only [Option.some.injEq, Obj.cells.injEq, true_and] at f12
              obtain ⟨rfl, rfl⟩ := f12
              have dxy : decide (x ≤ y) = false := by rw [decide_eq_false_iff_not]; omega
              have hjml : jm < n11 := by omega
              clear hy hyx hjm hj0
              refine wp_region_quiet_all (C := fun w' => ∃ _ : Unit, w' = wr.drew) (by kernel_rfl) (by kernel_rfl) ⟨(), rfl⟩ ?_
              repeat (go_big_quiet_step (fail))
              refine wpQuiet_nil ?_
              intro _ hw'
              obtain ⟨_, rfl⟩ := hw'
              have HO3 : Hid (OnceS w lo tb [(b8, .cells (ints .u8 k2) 23), (b7, .cells (ints .u8 k1) 23), (b6, .cells A 54), (b5, .cells #[.pointer (some ⟨tb, 0, none⟩)] 33)] b9 wr.drew (some ⟨g10, 0, none⟩) n10 c10 (some ⟨g11, 0, none⟩) n11 c11 S C hs fall p' m' cap' last ls Ns Nc M T) := Lib.hid (by have h := HO.out; exact ⟨h.own.drew, h.ks, h.kc, h.kl, h.tab.fr0 (Fr.refl [] wr).drew, h.inv, h.ml, h.sl, h.cl, h.fl, h.fo, h.f0⟩)
              clear f10 f11 t10 t11 at10 at11 at12
              go_wp2_with fail
              go_roundw
              case rel => exact ⟨j + 1, by omega, by first | rfl | simp, HO3⟩
              case measure => simp [intOf]; omega
          · have hd : decide ((j : Int) < (n11 : Int)) = false := by rw [decide_eq_false_iff_not]; omega
            obtain ⟨xs, hxs⟩ : ∃ xs, xs = (cShelf (.bool hs) fall (.slice p' m' cap') (.int .u16 last)).toArray := ⟨_, rfl⟩
            have szx : xs.size = 165 := by rw [hxs, List.size_toArray, cShelf_length _ _ _ _ HO.out.fl]
            have f9 : wr.blk b9 = some (.cells xs 62) := by rw [hxs]; exact HO.out.own.mem (by simp)
            have t9' := World.at_lt f9
            have xl : xs[163]? = some (.slice p' m' cap') := by rw [hxs]; exact cShelf_get_left _ _ _ _ HO.out.fl
            obtain ⟨xl1, xl2⟩ := Array.getElem?_eq_some_iff.1 xl
            have wnn : IntKind.i64.wrap ((n10 : Int) - (n11 : Int)) = (m' : Int) := by
              have h1 := HO.out.cl
              have h2 := HO.out.inv.le
              have h3 := HO.out.sl
              have h4 := HO.out.ml
              rw [IntKind.wrap_i64]; omega
            clear hxs xl
            go_wp2_with fail
            exact bodyPost_ret (results_tmp rfl _ _ _) rfl ⟨by simp, HO.out.own.fr⟩
      | true =>
        obtain ⟨hin, hi11⟩ : i < n ∧ i < 12 := of_decide_eq_true HT9.out.symm
        obtain ⟨S, C, hs, fall, pL, mL, cL, last, ls, Ns, Nc, M, T, hSi, hO⟩ := hE.out
        clear hE
        obtain ⟨bb, bo, bcs, bT, bfr, bq, bm, bc, bl, rfl, fbw, hbs, hbat, hbl, hri⟩ := HLB.out.at hin
        replace hbat := (Array.getElem?_eq_some_iff.1 hbat).2
        have HO := Lib.hid hO
        have f5 := hO.own.mem (b := b5) (o := .cells #[.pointer (some ⟨tb, 0, none⟩)] 33) (by simp)
        have f6 := hO.own.mem (b := b6) (o := .cells A 54) (by simp)
        have t5 := World.at_lt f5
        have t6 := World.at_lt f6
        have HBW := Lib.hid fbw
        have HRI := Lib.hid hri
        clear hO fbw hri hbl
        go_wp2_with fail
        refine (C14.out T wc HO.out.tab).mono ?_
        rintro e W1 ⟨q9, c9, x0, T', rfl, okx, hid, hB, hT, F, hnew⟩
        obtain ⟨LL, hLL⟩ : ∃ LL, LL = M ++ (Ns ++ (Nc ++ ((b9, .cells (cShelf (.bool hs) fall (.slice pL mL cL) (.int .u16 last)).toArray 62) :: [(b8, .cells (ints .u8 k2) 23), (b7, .cells (ints .u8 k1) 23), (b6, .cells A 54), (b5, .cells #[.pointer (some ⟨tb, 0, none⟩)] 33)]))) := ⟨_, rfl⟩
        have hoth : ∀ q ∈ LL, q.1 < lo ∨ other TT q.2 := by
          rw [hLL]
          exact HO.out.oth (by simp [other, TT])
        have hO0 := HO.out.own
        rw [← hLL] at hO0
        have hB1 := bld_here hO0 (hO0.callT F hoth hlw) hB hnew
        have HB1 : Hid (BatchE w lo tb LL W1 q9 1 c9) := Lib.hid ⟨x0, [], T', by rw [show bnsL [x0] = (bnC x0).toList by simp [bnsL]]; exact hB1, okx, hid, (fun y hy => by cases hy), rfl, hT⟩
        have m5 : (b5, Obj.cells #[.pointer (some ⟨tb, 0, none⟩)] 33) ∈ LL := by rw [hLL]; simp
        have m6 : (b6, Obj.cells A 54) ∈ LL := by rw [hLL]; simp
        have m7 : (b7, Obj.cells (ints .u8 k1) 23) ∈ LL := by rw [hLL]; simp
        have m8 : (b8, Obj.cells (ints .u8 k2) 23) ∈ LL := by rw [hLL]; simp
        have m9 : (b9, Obj.cells (cShelf (.bool hs) fall (.slice pL mL cL) (.int .u16 last)).toArray 62) ∈ LL := by rw [hLL]; simp
        have HLL := Lib.hid hLL
        have HOTH := Lib.hid hoth
        have HM5 := Lib.hid m5
        have HM6 := Lib.hid m6
        have HM7 := Lib.hid m7
        have HM8 := Lib.hid m8
        have HM9 := Lib.hid m9
        clear f5 f6 t5 t6 hB hT F hnew okx hid hO0 hB1 hLL hoth m5 m6 m7 m8 m9
        go_upto_region 13 with (fail)
        go_loopw [13, 14] (fun v13 v14 wy => ∃ (k n9 : Nat) (q9 : Option Addr) (c9 : Nat), k ≤ 10 ∧ v14 = .int .i64 (k : Int) ∧ v13 = .slice q9 n9 c9 ∧ Hid (n9 = k + 1) ∧ Hid (BatchE w lo tb LL wy q9 n9 c9)) (fun _ v14 _ => (10 - intOf v14).toNat)
        case atStart => exact ⟨0, 1, q9, c9, by omega, rfl, rfl, Lib.hid rfl, HB1⟩
        case round =>
          clear HB1
          obtain ⟨k, n9, q9, c9, hk10, rfl, rfl, hnk, hE9⟩ := hrel
          go_upto_region 13 with (fail)
          obtain ⟨t13, ht13⟩ : ∃ t : Bool, t = decide (k < bm ∧ k < 10) := ⟨_, rfl⟩
          have HT13 := Lib.hid ht13
          clear ht13
          go_cut [51, 52, 53, 54, 55, 56, 57, 58, 59, 60, 61] (fun _ _ _ _ _ _ _ _ _ _ v61 wy => v61 = .bool t13 ∧ wy = wr)
          case first =>
            have fb : wr.blk bb = some (.cells bcs bT bfr) := by
              obtain ⟨x, l, T2, hBv, _⟩ := hE9.out
              exact hBv.own.fr.get HBW.out (by simp)
            have tb' := World.at_lt fb
            by_cases h1 : k < bm
            · have d1 : decide ((k : Int) < (bm : Int)) = true := by rw [decide_eq_true_eq]; omega
              by_cases h2 : k < 10
              · have d2 : decide ((k : Int) < 10) = true := by rw [decide_eq_true_eq]; omega
                go_wp2_with fail
                go_meet
                case rel => exact ⟨by rw [HT13.out, decide_eq_true ⟨h1, h2⟩], rfl⟩
              · have d2 : decide ((k : Int) < 10) = false := by rw [decide_eq_false_iff_not]; omega
                go_wp2_with fail
                go_meet
                case rel => exact ⟨by rw [HT13.out, decide_eq_false (fun h => h2 h.2)], rfl⟩
            · have d1 : decide ((k : Int) < (bm : Int)) = false := by rw [decide_eq_false_iff_not]; omega
              go_wp2_with fail
              go_meet
              case rel => exact ⟨by rw [HT13.out, decide_eq_false (fun h => h1 h.1)], rfl⟩
          case rest =>
            obtain ⟨rfl, rfl⟩ := hcut
            cases t13 with
            | false =>
              clear HT13
              obtain ⟨x, l, T2, hBv, okx, hid, okl, hll, hT⟩ := hE9.out
              clear hE9
              obtain ⟨Nl, hON, hPN⟩ := hBv.park
              have hKl := Parked.kept hPN
              have okA : ∀ y ∈ x :: l, BnOk y := fun y hy => by
                rcases List.mem_cons.1 hy with rfl | hy
                · exact okx
                · exact okl y hy
              have hln : (x :: l).length = n9 := hll
              obtain ⟨_, gq, oq, _, _, _, _, hq9, _⟩ := Lf.elem (hKl.2 wc hON.has.of_append.1) okA hln (j := 0) (by have := hnk.out; omega)
              subst hq9
              obtain ⟨xs, hxs⟩ : ∃ xs, xs = (cShelf (.bool hs) fall (.slice pL mL cL) (.int .u16 last)).toArray := ⟨_, rfl⟩
              have szx : xs.size = 165 := by rw [hxs, List.size_toArray, cShelf_length _ _ _ _ HO.out.fl]
              have allx : xs.extract 0 165 = xs := by rw [← szx]; exact Array.extract_size
              have hasL : Has LL wc := hON.has.of_append.2
              have hasM : Has M wc := by rw [HLL.out] at hasL; exact hasL.of_append.1
              have c17 : Calls Try.prog 17 #[SU tb, .agg xs, .int .u8 4, .agg (ints .u8 k1), .agg (ints .u8 k2), .slice (some ⟨gq, oq, none⟩) n9 c9] wc fun e w' => ∃ v, e = .returned v ∧ StockR T2 4 k1 k2 hs fall ls last mL (x :: l) wc w' v := by
                rw [hxs]
                exact stock_f (dv := 4) hT HO.out.fl HO.out.fo (HO.out.kl.2 wc hasM) (by have := HO.out.inv.room; have := HO.out.ml; omega) (hKl.2 wc hON.has.of_append.1) (by have := hnk.out; omega) okA lk1 lk2 (by omega) HO.out.inv.last0.1 HO.out.inv.last0.2
              have C17 := Lib.hid c17
              have f9 : wc.blk b9 = some (.cells xs 62) := by rw [hxs]; exact hON.mem (List.mem_append_right _ HM9.out)
              have f5 := hON.mem (List.mem_append_right _ HM5.out)
              have f7 := hON.mem (List.mem_append_right _ HM7.out)
              have f8 := hON.mem (List.mem_append_right _ HM8.out)
              have t9' := World.at_lt f9
              have t5 := World.at_lt f5
              have t7 := World.at_lt f7
              have t8 := World.at_lt f8
              have HON := Lib.hid hON
              have HKl := Lib.hid hKl
              have HOKA := Lib.hid okA
              have HLN := Lib.hid hln
              have HIDX := Lib.hid hid
              have HTW := Lib.hid hT
              clear hON hKl okA hln hid hT c17 hBv okx okl hll hPN hasL hasM hxs
              go_wp2_with fail
              refine C17.out.mono ?_
              rintro e X1 ⟨v, rfl, r, mR, rc, E, hs2, fall2, ls2, last2, rfl, hBr, hE, hStk⟩
              obtain ⟨M2, hOM, hKM⟩ := (BldV.lf hBr).keep (BldV.new59 hBr) HON.out hBr.own.fr
              have hfl2 : fall2.length = 162 ∧ (∀ v ∈ fall2, v.oneCell' = true) ∧ (hs2 = true → fall2[65]? = some (.int .u16 0)) := by
                rcases hStk with ⟨_, _, b, l2, hb, hf, _⟩ | ⟨_, h1, h2, _⟩
                · simp only [List.cons.injEq] at hb
                  obtain ⟨rfl, rfl⟩ := hb
                  have ok := HOKA.out x (by simp)
                  refine ⟨by rw [hf, Array.length_toList, bnC_size ok], by rw [hf]; exact cBundle_one _ _ _ _ _ _ rfl rfl, fun _ => ?_⟩
                  have h := cBundle_get_id (.int .u8 x.device) x.agree x.signer (.int .u16 x.id) x.once x.sig ok.al ok.sl ok.ol ok.gl
                  rw [hf, Array.getElem?_toList, h, HIDX.out]
                · rw [h1, h2]; exact ⟨HO.out.fl, HO.out.fo, HO.out.f0⟩
              have hinv : InvK (if E = 0 then S ++ l.map Bn.id else S) C ls2 last2 := by
                rcases hStk with ⟨h0, _, b, l2, hb, _, h1, h2⟩ | ⟨h0, _, _, h1, h2⟩
                · simp only [List.cons.injEq] at hb
                  obtain ⟨rfl, rfl⟩ := hb
                  rw [if_pos h0, h1, h2]
                  exact HO.out.inv.stock (by rw [HO.out.ml]; rw [← hE]; exact h0) fun y hy => HOKA.out y (by simp [hy])
                · rw [if_neg h0, h1, h2]; exact HO.out.inv
              have hm2 : ls2.length = mR := by
                have h1 := bnsL_length hinv.ok
                have h2 := hBr.len
                omega
              have HTX1 := Lib.hid (HTW.out.fr0 hBr.own.fr)
              have HOM := Lib.hid hOM
              have HKM := Lib.hid hKM
              have HFL2 := Lib.hid hfl2
              have HINV := Lib.hid hinv
              have HM2 := Lib.hid hm2
              obtain ⟨Y, hY⟩ : ∃ Y, Y = (cShelf (.bool hs2) fall2 (.slice r mR rc) (.int .u16 last2)).toArray := ⟨_, rfl⟩
              have szY : Y.size = 165 := by rw [hY, List.size_toArray, cShelf_length _ _ _ _ hfl2.1]
              have oneY : ones Y.toList = true := by rw [hY]; exact List.all_eq_true.2 (cShelf_one _ _ _ _ rfl hfl2.2.1 rfl rfl)
              have allY : Y.extract 0 165 = Y := by rw [← szY]; exact Array.extract_size
              rw [← hY]
              have HYE := Lib.hid hY
              clear hOM hKM hfl2 hinv hm2 hY hBr hE hStk f5 f7 f8 f9 t5 t7 t8 t9' szx allx
              go_upto_region 19 with (fail)
              refine named_world (A := fun X => OwB w ((X1.heap.size, .cells Y 62) :: (M2 ++ (Nl ++ LL))) X ∧ TabP lo tb X T2) (Q := fun X => Code.wp _ _ _ _ X) ⟨HOM.out.allocN _ X1.heap.size rfl, HTX1.out.fr0 ((Fr.refl [] X1).alloc _)⟩ ?_
              rintro X2 ⟨hO2, hT2⟩
              generalize X1.heap.size = b16 at hO2 ⊢
              have HO2 := Lib.hid hO2
              have HT2' := Lib.hid hT2
              clear hO2 hT2
              go_upto_if 98 with (fail)
              go_cut [10, 18, 99, 100, 101, 102, 103, 104, 105, 106, 107, 108, 109, 110, 111, 112] (fun v10 _ _ _ _ _ _ _ _ _ _ _ _ _ _ _ wy => ∃ (p8 : Option Addr) (n8 c8 : Nat), v10 = .slice p8 n8 c8 ∧ Hid (∃ N8, OwB w ((b16, .cells Y 62) :: (M2 ++ (Nl ++ (M ++ (N8 ++ (Nc ++ ((b9, .cells (cShelf (.bool hs) fall (.slice pL mL cL) (.int .u16 last)).toArray 62) :: [(b8, .cells (ints .u8 k2) 23), (b7, .cells (ints .u8 k1) 23), (b6, .cells A 54), (b5, .cells #[.pointer (some ⟨tb, 0, none⟩)] 33)])))))) ) wy ∧ Parked N8 49 1 p8 n8 c8 ((if E = 0 then S ++ l.map Bn.id else S).map (Value.int .u16)) ∧ TabP lo tb wy T2))
              case first =>
                by_cases hE0 : E = 0
                · have dE : (E == 0) = true := by simp [hE0]
                  have dE2 : decide (E = 0) = true := by simp [hE0]
                  have HE0 := Lib.hid hE0
                  clear hE0
                  obtain ⟨LD, hLD⟩ : ∃ LD, LD = (b16, Obj.cells Y 62) :: (M2 ++ (Nl ++ (M ++ (Nc ++ ((b9, .cells (cShelf (.bool hs) fall (.slice pL mL cL) (.int .u16 last)).toArray 62) :: [(b8, .cells (ints .u8 k2) 23), (b7, .cells (ints .u8 k1) 23), (b6, .cells A 54), (b5, .cells #[.pointer (some ⟨tb, 0, none⟩)] 33)]))))) := ⟨_, rfl⟩
                  have hld : (b16, Obj.cells Y 62) :: (M2 ++ (Nl ++ LL)) = ((b16, Obj.cells Y 62) :: (M2 ++ (Nl ++ M))) ++ (Ns ++ (Nc ++ ((b9, .cells (cShelf (.bool hs) fall (.slice pL mL cL) (.int .u16 last)).toArray 62) :: [(b8, .cells (ints .u8 k2) 23), (b7, .cells (ints .u8 k1) 23), (b6, .cells A 54), (b5, .cells #[.pointer (some ⟨tb, 0, none⟩)] 33)]))) := by rw [HLL.out]; simp [List.append_assoc]
                  have hBD : BldV w LD 49 1 X2 p10 n10 c10 (S.map (Value.int .u16)) := by
                    have h := HO2.out
                    rw [hld] at h
                    have h2 := HO.out.ks.take (own_front h)
                    rw [hLD]
                    simpa [List.append_assoc] using h2
                  have HLD := Lib.hid hLD
                  have HBD := Lib.hid hBD
                  have hS10 := HO.out.sl
                  have HS10 := Lib.hid hS10
                  clear hld hBD hLD hS10
                  go_upto_region 21 with (fail)
                  rw [dE]
                  go_loopw [10, 18] (fun v10 v18 wy => ∃ (j n8 : Nat) (p8 : Option Addr) (c8 : Nat), 1 ≤ j ∧ j ≤ n9 ∧ v18 = .int .i64 (j : Int) ∧ v10 = .slice p8 n8 c8 ∧ Hid (n8 + 1 = n10 + j) ∧ Hid (BldV w LD 49 1 wy p8 n8 c8 ((S ++ (l.map Bn.id).take (j - 1)).map (Value.int .u16)) ∧ TabP lo tb wy T2)) (fun _ v18 _ => (n9 - intOf v18).toNat)
                  case atStart => exact ⟨1, n10, p10, c10, by omega, by have := hnk.out; omega, rfl, rfl, Lib.hid rfl, Lib.hid ⟨by rw [Nat.sub_self, List.take_zero, List.append_nil]; exact HBD.out, HT2'.out⟩⟩
                  case round =>
                    clear HBD
                    obtain ⟨j, n8, p8, c8, hj1, hj9, rfl, rfl, hn8, hDD⟩ := hrel
                    obtain ⟨hB8, hT8⟩ := hDD.out
                    clear hDD
                    by_cases hlt : j < n9
                    · have hd : decide ((j : Int) < (n9 : Int)) = true := by rw [decide_eq_true_eq]; omega
                      have hasN : Has Nl wr := fun q hq => hB8.own.has q (by rw [HLD.out]; simp [hq])
                      obtain ⟨y, b', off', cs', TT', fr', hx, hq', fc', hs1', hs2', hext⟩ := Lf.elem (HKl.out.2 wr hasN) HOKA.out HLN.out (j := j) hlt
                      simp only [Option.some.injEq, Addr.mk.injEq, and_true] at hq'
                      obtain ⟨rfl, rfl⟩ := hq'
                      have oky := HOKA.out y (List.mem_of_getElem? hx)
                      have yid := el_ext (i := 65) hext hs2' (by omega)
                      rw [cBundle_get_id _ _ _ _ _ _ oky.al oky.sl oky.ol oky.gl] at yid
                      have ylt := (Array.getElem?_eq_some_iff.1 yid).1
                      replace yid := (Array.getElem?_eq_some_iff.1 yid).2
                      have tc' := World.at_lt fc'
                      have HX : Hid (l[j - 1]? = some y) := Lib.hid (by rw [← hx]; obtain ⟨j', rfl⟩ : ∃ j', j = j' + 1 := ⟨j - 1, by omega⟩; rfl)
                      have HB8 := Lib.hid hB8
                      have HT8 := Lib.hid hT8
                      have hbg : n8 + 1 ≤ 1000000 := by have := hn8.out; have := HS10.out; have := hnk.out; omega
                      have wj : IntKind.i64.wrap ((j : Int) + 1) = ((j + 1 : Nat) : Int) := by rw [IntKind.wrap_i64]; have := hnk.out; omega
                      clear hasN hext oky hx hB8 hT8
                      go_upto_region 23 with (fail)
                      go_wp2_with (refine wpList_app63 rfl _ _ rfl rfl (BldV.newroom HB8.out _) rfl (sv_one (World.at_alloc_new _ _ _ rfl) rfl) (fun u hu => by simp only [List.mem_singleton, Array.toList, List.mem_cons, List.not_mem_nil, or_false] at hu; rw [hu]; rfl) hbg ?_)
                      intro p7 c7 X6 hB6 hF6
                      have HT6' : Hid (TabP lo tb X6 T2) := Lib.hid (Tab.grown (HT8.out.fr0 ((Fr.refl [] wr).alloc _)) (BldV.newroom HB8.out _) hF6 (by decide))
                      have HB6 := Lib.hid (hB6.sub (.cons _ (.refl _)))
                      clear hB6 hF6 fc' tc' yid
                      go_wp2_with fail
                      go_roundw
                      case rel =>
                        refine ⟨j + 1, n8 + 1, p7, c7, by omega, by omega, by first | rfl | simp, rfl, Lib.hid (by have := hn8.out; omega), Lib.hid ⟨?_, HT6'.out⟩⟩
                        have h3 := HB6.out
                        have h4 : (l.map Bn.id).take (j + 1 - 1) = (l.map Bn.id).take (j - 1) ++ [y.id] := by
                          rw [show j + 1 - 1 = j - 1 + 1 by omega, List.take_add_one, List.getElem?_map, HX.out]; rfl
                        rw [h4]
                        simpa [List.map_append, List.append_assoc] using h3
                      case measure => simp [intOf]; omega
                    · have hd : decide ((j : Int) < (n9 : Int)) = false := by rw [decide_eq_false_iff_not]; omega
                      have HB8 := Lib.hid hB8
                      have HT8 := Lib.hid hT8
                      clear hB8 hT8
                      go_wp2_with fail
                      go_meet
                      case rel =>
                        refine ⟨p8, n8, c8, rfl, Lib.hid ?_⟩
                        obtain ⟨N8, hO8, hP8⟩ := HB8.out.park
                        refine ⟨N8, ?_, ?_, HT8.out⟩
                        · rw [HLD.out] at hO8
                          have h2 := own_front (A := N8) (B := (b16, .cells Y 62) :: (M2 ++ (Nl ++ M))) (by simpa [List.append_assoc] using hO8)
                          simpa [List.append_assoc] using h2
                        · rw [if_pos HE0.out]
                          have h4 : (l.map Bn.id).take (j - 1) = l.map Bn.id := List.take_of_length_le (by have h := HLN.out; simp at h ⊢; omega)
                          rw [h4] at hP8
                          exact hP8
                · have dE : (E == 0) = false := by simp [hE0]
                  have dE2 : decide (E = 0) = false := by simp [hE0]
                  have HE0 := Lib.hid hE0
                  clear hE0
                  go_wp2_with fail
                  go_meet
                  case rel => exact ⟨p10, n10, c10, rfl, Lib.hid ⟨Ns, by have h := HO2.out; rw [HLL.out] at h; exact h, by rw [if_neg HE0.out]; exact HO.out.ks, HT2'.out⟩⟩
              case rest =>
                obtain ⟨p8, n8, c8, rfl, hD⟩ := hcut
                obtain ⟨N8, hO8, hP8, hT8⟩ := hD.out
                clear hD
                have f16 := hO8.nth 0 rfl
                have t16 := World.at_lt f16
                have f9 : wc.blk b9 = some (.cells (cShelf (.bool hs) fall (.slice pL mL cL) (.int .u16 last)).toArray 62) := hO8.mem (by simp)
                have t9' := World.at_lt f9
                generalize hxs : (cShelf (.bool hs) fall (.slice pL mL cL) (.int .u16 last)).toArray = xs at f9
                have szx : xs.size = 165 := by rw [← hxs, List.size_toArray, cShelf_length _ _ _ _ HO.out.fl]
                obtain ⟨S2, hS2⟩ : ∃ S2, S2 = if E = 0 then S ++ l.map Bn.id else S := ⟨_, rfl⟩
                rw [← hS2] at hP8
                have hS2l : S2.length ≤ 10 * (i + 1) := by
                  have h1 := HLN.out
                  have h2 := hnk.out
                  simp only [List.length_cons] at h1
                  rw [hS2]
                  split
                  · rw [List.length_append, List.length_map]; omega
                  · omega
                have hOE : OwB w (M2 ++ (N8 ++ (Nc ++ ((b9, .cells xs 62) :: [(b8, .cells (ints .u8 k2) 23), (b7, .cells (ints .u8 k1) 23), (b6, .cells A 54), (b5, .cells #[.pointer (some ⟨tb, 0, none⟩)] 33)])))) wc := by
                  rw [← hxs]
                  exact hO8.sub (.cons _ ((List.Sublist.refl M2).append ((List.sublist_append_right _ _).trans (List.sublist_append_right _ _))))
                have hS2n : S2.length = n8 := by
                  have h := (hP8.take (own_front hOE)).len
                  simpa using h
                have hOE2 : OnceE w lo tb [(b8, .cells (ints .u8 k2) 23), (b7, .cells (ints .u8 k1) 23), (b6, .cells A 54), (b5, .cells #[.pointer (some ⟨tb, 0, none⟩)] 33)] b9 (i + 1) (wc.put b9 (.cells Y 62)) p8 n8 c8 p11 n11 c11 := by
                  refine ⟨S2, C, hs2, fall2, r, mR, rc, last2, ls2, N8, Nc, M2, T2, hS2l, ?_⟩
                  have hfl := HFL2.out
                  exact ⟨by rw [← HYE.out]; exact own_set4 hOE _, hP8, HO.out.kc, HKM.out, hT8.put f9 (by decide) _, by rw [hS2]; exact HINV.out, HM2.out, hS2n, HO.out.cl, hfl.1, hfl.2.1, hfl.2.2⟩
                have HOE2 := Lib.hid hOE2
                clear hO8 hP8 hT8 hxs hS2 hS2l hOE hS2n hOE2
                go_upto_region 26 with (fail)
                refine named_world (A := fun X => OnceE w lo tb [(b8, .cells (ints .u8 k2) 23), (b7, .cells (ints .u8 k1) 23), (b6, .cells A 54), (b5, .cells #[.pointer (some ⟨tb, 0, none⟩)] 33)] b9 (i + 1) X p8 n8 c8 p11 n11 c11) (Q := fun X => Code.wp _ _ _ _ X) HOE2.out ?_
                intro X3 hE3
                have HE3 := Lib.hid hE3
                clear hE3 HOE2 f16 t16 f9 t9'
                have wi : IntKind.i64.wrap ((i : Int) + 1) = ((i + 1 : Nat) : Int) := by rw [IntKind.wrap_i64]; omega
                go_loopw [11, 19] (fun v11 v19 wy => ∃ (kk n11 : Nat) (p11 : Option Addr) (c11 : Nat), kk ≤ 12 ∧ v19 = .int .i64 (kk : Int) ∧ v11 = .slice p11 n11 c11 ∧ Hid (OnceE w lo tb [(b8, .cells (ints .u8 k2) 23), (b7, .cells (ints .u8 k1) 23), (b6, .cells A 54), (b5, .cells #[.pointer (some ⟨tb, 0, none⟩)] 33)] b9 (i + 1) wy p8 n8 c8 p11 n11 c11)) (fun _ v19 _ => (12 - intOf v19).toNat)
                case atStart => exact ⟨0, n11, p11, c11, by omega, rfl, rfl, HE3⟩
                case round =>
                  clear HE3
                  obtain ⟨kk, n11, p11, c11, hk12, rfl, rfl, hE⟩ := hrel
                  go_upto_region 26 with (fail)
                  go_cut [114, 115, 116, 117, 118, 119, 120, 121, 122, 123, 124, 125, 126, 127] (fun _ _ _ _ _ _ _ _ _ _ _ _ _ v127 wy => ∃ t : Bool, v127 = .bool t ∧ (t = true → kk < 12) ∧ wy = wr)
                  case first =>
                    by_cases h1 : i < m
                    · have d1 : decide ((i : Int) < (m : Int)) = true := by rw [decide_eq_true_eq]; omega
                      obtain ⟨cb, co, ccs, cT, cfr, x, rfl, fcw, hcs, hcat, hcl, hwf⟩ := HCL.out.at h1
                      have hcat2 := (Array.getElem?_eq_some_iff.1 hcat).2
                      have hx := wf_u8 hwf
                      have fc : wr.blk cb = some (.cells ccs cT cfr) := by
                        obtain ⟨S, C, hs, fall, p, m, cap, last, ls, Ns, Nc, M, T, _, hO⟩ := hE.out
                        exact hO.own.fr.get fcw (by simp)
                      have tc := World.at_lt fc
                      have hcb := hcs
                      clear hcl hwf fcw
                      go_wp2_with fail
                      go_meet
                      case rel => exact ⟨_, rfl, fun h => by have h2 := of_decide_eq_true h; omega, rfl⟩
                    · have d1 : decide ((i : Int) < (m : Int)) = false := by rw [decide_eq_false_iff_not]; omega
                      go_wp2_with fail
                      go_meet
                      case rel => exact ⟨false, rfl, by simp, rfl⟩
                  case rest =>
                    obtain ⟨t, rfl, ht, rfl⟩ := hcut
                    cases t with
                    | false =>
                      go_wp2_with fail
                      go_roundw
                      case rel => exact ⟨i + 1, n8, n11, p8, p11, c8, c11, by omega, by first | rfl | simp, rfl, rfl, hE⟩
                      case measure => simp [intOf]; omega
                    | true =>
                      have hk2 := ht rfl
                      clear ht
                      obtain ⟨S, C, hs, fall, p, m, cap, last, ls, Ns, Nc, M, T, hSl, hO⟩ := hE.out
                      clear hE
                      obtain ⟨xs, hxs⟩ : ∃ xs, xs = (cShelf (.bool hs) fall (.slice p m cap) (.int .u16 last)).toArray := ⟨_, rfl⟩
                      have szx : xs.size = 165 := by rw [hxs, List.size_toArray, cShelf_length _ _ _ _ hO.fl]
                      have allx : xs.extract 0 165 = xs := by rw [← szx]; exact Array.extract_size
                      have f9 : wc.blk b9 = some (.cells xs 62) := by rw [hxs]; exact hO.own.mem (by simp)
                      have t9' := World.at_lt f9
                      have xl : xs[163]? = some (.slice p m cap) := by rw [hxs]; exact cShelf_get_left _ _ _ _ hO.fl
                      have xl2 := (Array.getElem?_eq_some_iff.1 xl).2
                      have c18 := claim_k (last := last) hO.own hO.kl hO.own.has.of_append.1 hO.inv.ok hO.ml (by have := hO.inv.room; have := hO.ml; omega) hO.fl hO.fo hO.f0
                      rw [← hxs] at c18
                      have C18 := Lib.hid c18
                      have HO' := Lib.hid hO
                      have HXS := Lib.hid hxs
                      have XL := Lib.hid xl
                      clear c18 hO hxs xl xl2
                      go_upto_region 28 with (fail)
                      go_wp2_with fail
                      refine C18.out.mono ?_
                      rintro e X1 ⟨q', m', c', u, okb, id, ls', M', rfl, hl', szu, oneu, uid, hO', hK', F', hcase⟩
                      obtain ⟨Z, hZ⟩ : ∃ Z, Z = (cShelf (.bool hs) fall (.slice q' m' c') (.int .u16 last)).toArray := ⟨_, rfl⟩
                      rw [← hZ]
                      have szZ : Z.size = 165 := by rw [hZ, List.size_toArray, cShelf_length _ _ _ _ HO'.out.fl]
                      have oneZ : ones Z.toList = true := by rw [hZ]; exact List.all_eq_true.2 (cShelf_one _ _ _ _ rfl HO'.out.fo rfl rfl)
                      have allZ : Z.extract 0 165 = Z := by rw [← szZ]; exact Array.extract_size
                      have allu : u.extract 0 162 = u := by rw [← szu]; exact Array.extract_size
                      have uid2 := (Array.getElem?_eq_some_iff.1 uid).2
                      have HZ := Lib.hid hZ
                      have HTX := Lib.hid (HO'.out.tab.fr0 F')
                      have HO1 := Lib.hid hO'
                      have HK1' := Lib.hid hK'
                      have HCS := Lib.hid hcase
                      clear hZ hO' hK' F' hcase f9 t9' C18
                      go_upto_region 29 with (fail)
                      refine named_world (A := fun X => OwB w ((X1.heap.size + 1, .cells u 59) :: (X1.heap.size, .cells Z 62) :: (M' ++ (M ++ (Ns ++ (Nc ++ ((b9, .cells xs 62) :: [(b8, .cells (ints .u8 k2) 23), (b7, .cells (ints .u8 k1) 23), (b6, .cells A 54), (b5, .cells #[.pointer (some ⟨tb, 0, none⟩)] 33)])))))) X ∧ TabP lo tb X T) (Q := fun X => Code.wp _ _ _ _ X) ⟨by have h := ((HO1.out.allocN (.cells Z 62) X1.heap.size rfl).allocN (.cells u 59) (X1.heap.size + 1) (by simp)); exact h, HTX.out.fr0 (((Fr.refl [] X1).alloc _).alloc _)⟩ ?_
                      rintro X2 ⟨hO2, hT2⟩
                      generalize X1.heap.size + 1 = b21 at hO2 ⊢
                      generalize X1.heap.size = b20 at hO2 ⊢
                      have HO2 := Lib.hid hO2
                      have HT2 := Lib.hid hT2
                      clear hO2 hT2
                      cases okb with
                      | false =>
                        go_wp2_with fail
                        go_roundw
                        case rel =>
                          refine ⟨i + 1, n8, n11, p8, p11, c8, c11, by omega, by first | rfl | simp, rfl, rfl, Lib.hid ⟨S, C, hs, fall, p, m, cap, last, ls, Ns, Nc, M, T, hSl, ?_⟩⟩
                          have h := HO'.out
                          exact ⟨by rw [← HXS.out]; exact HO2.out.sub (.cons _ (.cons _ (List.sublist_append_right _ _))), h.ks, h.kc, h.kl, HT2.out, h.inv, h.ml, h.sl, h.cl, h.fl, h.fo, h.f0⟩
                        case measure => simp [intOf]; omega
                      | true =>
                        have f21 := HO2.out.nth 0 rfl
                        have t21 := World.at_lt f21
                        have wk2 : IntKind.i64.wrap ((kk : Int) + 1) = ((kk + 1 : Nat) : Int) := by rw [IntKind.wrap_i64]; omega
                        by_cases hid : id > 0
                        · have dE : decide (id > 0) = true := decide_eq_true hid
                          have dE2 : decide (0 < id) = true := decide_eq_true hid
                          obtain ⟨bn, hls, hidb⟩ : ∃ b, ls = b :: ls' ∧ id = b.id := by
                            rcases HCS.out with ⟨b, h1, _, h3⟩ | ⟨_, _, _, h⟩
                            · exact ⟨b, h1, h3⟩
                            · omega
                          have HLS := Lib.hid hls
                          have HIDB := Lib.hid hidb
                          obtain ⟨LD, hLD⟩ : ∃ LD, LD = (b20, Obj.cells Z 62) :: (M' ++ (Ns ++ ((b9, .cells xs 62) :: [(b8, .cells (ints .u8 k2) 23), (b7, .cells (ints .u8 k1) 23), (b6, .cells A 54), (b5, .cells #[.pointer (some ⟨tb, 0, none⟩)] 33)]))) := ⟨_, rfl⟩
                          have hBD : BldV w LD 49 1 X2 p11 n11 c11 (C.map (Value.int .u16)) := by
                            have h := HO2.out
                            have h2 : OwB w (((b20, Obj.cells Z 62) :: (M' ++ Ns)) ++ (Nc ++ ((b9, .cells xs 62) :: [(b8, .cells (ints .u8 k2) 23), (b7, .cells (ints .u8 k1) 23), (b6, .cells A 54), (b5, .cells #[.pointer (some ⟨tb, 0, none⟩)] 33)]))) X2 := by
                              refine h.sub (.cons _ ?_)
                              simp only [List.cons_append, List.append_assoc]
                              exact .cons_cons _ ((List.Sublist.refl M').append (List.sublist_append_right _ _))
                            have h3 := HO'.out.kc.take (own_front h2)
                            rw [hLD]
                            simpa [List.append_assoc] using h3
                          have HLD := Lib.hid hLD
                          have HBD := Lib.hid hBD
                          have hbg : n11 + 1 ≤ 1000000 := by
                            have h1 := HO'.out.cl
                            have h2 := HO'.out.inv.le
                            omega
                          clear hls hidb hLD hBD hid
                          go_upto_region 31 with (fail)
                          go_wp2_with (refine wpList_app63 rfl _ _ rfl rfl (BldV.newroom HBD.out _) rfl (sv_one (World.at_alloc_new _ _ _ rfl) rfl) (fun u hu => by simp only [List.mem_singleton, Array.toList, List.mem_cons, List.not_mem_nil, or_false] at hu; rw [hu]; rfl) hbg ?_)
                          intro p7 c7 X4 hB4 hF4
                          have HT4 : Hid (TabP lo tb X4 T) := Lib.hid (Tab.grown (HT2.out.fr0 ((Fr.refl [] X2).alloc _)) (BldV.newroom HBD.out _) hF4 (by decide))
                          have hB5 := hB4.sub (.cons _ (.refl _))
                          have f20 : X4.blk b20 = some (.cells Z 62) := hB5.own.mem (by rw [HLD.out]; simp)
                          have f9 : X4.blk b9 = some (.cells xs 62) := hB5.own.mem (by rw [HLD.out]; simp)
                          have t20 := World.at_lt f20
                          have t9' := World.at_lt f9
                          have HB5 := Lib.hid hB5
                          clear hB4 hF4 f21 t21 hB5
                          go_upto_region 27 with (fail)
                          refine named_world (A := fun X => OnceE w lo tb [(b8, .cells (ints .u8 k2) 23), (b7, .cells (ints .u8 k1) 23), (b6, .cells A 54), (b5, .cells #[.pointer (some ⟨tb, 0, none⟩)] 33)] b9 (i + 1) X p8 n8 c8 p7 (n11 + 1) c7) (Q := fun X => Code.wp _ _ _ _ X) ?_ ?_
                          · refine ⟨S, C ++ [id], hs, fall, q', m', c', last, ls', Ns, ?_⟩
                            have h := HO'.out
                            obtain ⟨N7, h7, hP7⟩ := HB5.out.park
                            have h8 : OwB w (M' ++ (Ns ++ (N7 ++ ((b9, .cells xs 62) :: [(b8, .cells (ints .u8 k2) 23), (b7, .cells (ints .u8 k1) 23), (b6, .cells A 54), (b5, .cells #[.pointer (some ⟨tb, 0, none⟩)] 33)])))) X4 := by
                              have h9 : OwB w (N7 ++ ((M' ++ Ns) ++ ((b9, .cells xs 62) :: [(b8, .cells (ints .u8 k2) 23), (b7, .cells (ints .u8 k1) 23), (b6, .cells A 54), (b5, .cells #[.pointer (some ⟨tb, 0, none⟩)] 33)]))) X4 := by
                                refine h7.sub ((List.Sublist.refl N7).append ?_)
                                rw [HLD.out, List.append_assoc]
                                exact .cons _ (.refl _)
                              have h10 := own_front h9
                              simpa [List.append_assoc] using h10
                            have hiv := h.inv
                            rw [HLS.out] at hiv
                            have hiv2 := hiv.claim.1
                            rw [← HIDB.out] at hiv2
                            exact ⟨N7, M', T, hSl, by rw [← HZ.out]; exact own_set4 h8 _, h.ks, by rw [List.map_append]; exact hP7, HK1'.out, HT4.out.put f9 (by decide) _, hiv2, hl', h.sl, by rw [List.length_append, h.cl]; rfl, h.fl, h.fo, h.f0⟩
                          intro X5 hE5
                          have HE5 := Lib.hid hE5
                          clear hE5 f20 f9 t20 t9'
                          go_wp2_with fail
                          go_roundw
                          case rel => exact ⟨kk + 1, n11 + 1, p7, c7, by omega, by first | rfl | simp, rfl, HE5⟩
                          case measure => simp [intOf]; omega
                        · have dE : decide (id > 0) = false := decide_eq_false hid
                          have dE2 : decide (0 < id) = false := decide_eq_false hid
                          obtain ⟨hls, hls'⟩ : ls = [] ∧ ls' = [] := by
                            rcases HCS.out with ⟨b, h1, _, h3⟩ | ⟨h1, h2, _, _⟩
                            · have hiv := HO'.out.inv
                              rw [h1] at hiv
                              have := hiv.claim.2
                              omega
                            · exact ⟨h1, h2⟩
                          have hm0 : m = 0 := by rw [← HO'.out.ml, hls]; rfl
                          have xl3 : ∃ h : 163 < xs.size, xs[163] = .slice p m cap := Array.getElem?_eq_some_iff.1 XL.out
                          obtain ⟨_, xl4⟩ := xl3
                          have f9 : X2.blk b9 = some (.cells xs 62) := HO2.out.mem (by simp)
                          have f20 := HO2.out.nth 1 rfl
                          have t20 := World.at_lt f20
                          have t9' := World.at_lt f9
                          have HLS := Lib.hid hls
                          have HLS' := Lib.hid hls'
                          subst hm0
                          clear hls hls' hid
                          go_upto_region 27 with (fail)
                          refine named_world (A := fun X => OnceE w lo tb [(b8, .cells (ints .u8 k2) 23), (b7, .cells (ints .u8 k1) 23), (b6, .cells A 54), (b5, .cells #[.pointer (some ⟨tb, 0, none⟩)] 33)] b9 (i + 1) X p8 n8 c8 p11 n11 c11) (Q := fun X => Code.wp _ _ _ _ X) ?_ ?_
                          · refine ⟨S, C, hs, fall, q', m', c', last, ls', Ns, Nc, M', T, hSl, ?_⟩
                            have h := HO'.out
                            have h8 : OwB w (M' ++ (Ns ++ (Nc ++ ((b9, .cells xs 62) :: [(b8, .cells (ints .u8 k2) 23), (b7, .cells (ints .u8 k1) 23), (b6, .cells A 54), (b5, .cells #[.pointer (some ⟨tb, 0, none⟩)] 33)])))) X2 := HO2.out.sub (.cons _ (.cons _ ((List.Sublist.refl M').append (List.sublist_append_right _ _))))
                            exact ⟨by rw [← HZ.out]; exact own_set4 h8 _, h.ks, h.kc, HK1'.out, HT2.out.put f9 (by decide) _, by have h2 := h.inv; rw [HLS.out] at h2; rw [HLS'.out]; exact h2, hl', h.sl, h.cl, h.fl, h.fo, h.f0⟩
                          intro X5 hE5
                          have HE5 := Lib.hid hE5
                          clear hE5 f20 f9 t20 t9' f21 t21
                          go_wp2_with fail
                          go_roundw
                          case rel => exact ⟨kk + 1, n11, p11, c11, by omega, by first | rfl | simp, rfl, HE5⟩
                          case measure => simp [intOf]; omega
            | true =>
              obtain ⟨hkm, hk9⟩ : k < bm ∧ k < 10 := of_decide_eq_true HT13.out.symm
              obtain ⟨x, l, T2, hBv, okx, hid, okl, hll, hT⟩ := hE9.out
              clear hE9
              obtain ⟨bi, io, ics, iT, ifr, idv, hq, fiw, his, hiat, hil, hwf⟩ := HRI.out.at hkm
              subst hq
              replace hiat := (Array.getElem?_eq_some_iff.1 hiat).2
              have fb := hBv.own.fr.get HBW.out (by simp)
              have fi := hBv.own.fr.get fiw (by simp)
              have f7 := hBv.own.mem HM7.out
              have f8 := hBv.own.mem HM8.out
              have tb' := World.at_lt fb
              have ti := World.at_lt fi
              have t7 := World.at_lt f7
              have t8 := World.at_lt f8
              have wk : IntKind.u8.wrap (k : Int) = (k : Int) := by rw [IntKind.wrap_u8]; omega
              have HBV := Lib.hid hBv
              have HXL : Hid (BnOk x ∧ x.id = 0 ∧ (∀ y ∈ l, BnOk y) ∧ l.length + 1 = n9) := Lib.hid ⟨okx, hid, okl, hll⟩
              have HTB := Lib.hid hT
              have HID := Lib.hid (wf_u16 hwf)
              clear hBv okx hid okl hll hT fiw hil hwf
              obtain ⟨y, hy⟩ : ∃ y : Bn, y = ⟨4, k1, k2, idv, key1 (k : Int), zs 64⟩ := ⟨_, rfl⟩
              have oky : BnOk y := by
                have hk := HK32.out (k : Int) (by omega) (by omega)
                rw [hy]
                exact ⟨by show (0 : Int) ≤ 4; omega, by show (4 : Int) < 256; omega, HID.out.1, by have := HID.out.2; show idv < 65536; omega, lk1, lk2, hk.len, rfl, HK1.out.byt, HK2.out.byt, hk.byt, byt_zs 64⟩
              obtain ⟨B, hB⟩ : ∃ B, B = bnC y := ⟨_, rfl⟩
              have eB : (((((((((((((((((((((((((((((((((spl (spl (Try.zeroCells59.setIfInBounds 0 (.int .u8 4)) 1 (k1.map (Value.int .u8))) 33 (k2.map (Value.int .u8))).setIfInBounds 65 (.int .u16 idv)).setIfInBounds 66 (.int .u8 (k : Int))).setIfInBounds 67 (.int .u8 0)).setIfInBounds 68 (.int .u8 0)).setIfInBounds 69 (.int .u8 0)).setIfInBounds 70 (.int .u8 0)).setIfInBounds 71 (.int .u8 0)).setIfInBounds 72 (.int .u8 0)).setIfInBounds 73 (.int .u8 0)).setIfInBounds 74 (.int .u8 0)).setIfInBounds 75 (.int .u8 0)).setIfInBounds 76 (.int .u8 0)).setIfInBounds 77 (.int .u8 0)).setIfInBounds 78 (.int .u8 0)).setIfInBounds 79 (.int .u8 0)).setIfInBounds 80 (.int .u8 0)).setIfInBounds 81 (.int .u8 0)).setIfInBounds 82 (.int .u8 0)).setIfInBounds 83 (.int .u8 0)).setIfInBounds 84 (.int .u8 0)).setIfInBounds 85 (.int .u8 0)).setIfInBounds 86 (.int .u8 0)).setIfInBounds 87 (.int .u8 0)).setIfInBounds 88 (.int .u8 0)).setIfInBounds 89 (.int .u8 0)).setIfInBounds 90 (.int .u8 0)).setIfInBounds 91 (.int .u8 0)).setIfInBounds 92 (.int .u8 0)).setIfInBounds 93 (.int .u8 0)).setIfInBounds 94 (.int .u8 0)).setIfInBounds 95 (.int .u8 0)).setIfInBounds 96 (.int .u8 0)).setIfInBounds 97 (.int .u8 0) = B := by
                rw [hB, hy]
                exact Eq.trans (by kernel_rfl) (bun_built3 (d := 4) lk1 lk2 (k : Int))
              have szB : B.size = 162 := by rw [hB]; exact bnC_size oky
              have allB : B.extract 0 162 = B := by rw [← szB]; exact Array.extract_size
              have oneB : ones B.toList = true := by rw [hB]; exact List.all_eq_true.2 (cBundle_one _ _ _ _ _ _ rfl rfl)
              have HY := Lib.hid hy
              have HOKY := Lib.hid oky
              have HBE := Lib.hid hB
              clear hy oky hB
              go_upto_region 15 with (fail)
              refine drawn_begin 14 (fun w' => w'.blk b7 = some (.cells (ints .u8 k1) 23) ∧ w'.blk b8 = some (.cells (ints .u8 k2) 23) ∧ w'.blk bb = some (.cells bcs bT bfr) ∧ w'.blk bi = some (.cells ics iT ifr)) (by kernel_rfl) ?_
              refine drawn_reads (fuel := 2) [0, 1, 2, 3, 4, 5, 6, 7, 8, 9, 10, 11, 12] rfl (by kernel_rfl) ⟨f7, f8, fb, fi⟩ ?_
              repeat (first | (refine rowK_step2 rfl rfl (fun K hK => ?_); go_wp2) | (refine rowK_step rfl (fun K hK => ?_); go_simp; refine hK _ ?_; clear hK K))
              refine rowK_nil ⟨fun w' e1 => ?_, ?_⟩
              · obtain ⟨e1, e2, e3, e4⟩ := e1
                clear f7 f8 fb fi t7 t8 tb' ti
                repeat (first | (refine rowWp_step2 rfl rfl (fun K hK => ?_); go_wp2) | (refine rowWp_step rfl (fun K hK => ?_); go_simp; refine hK _ ?_; clear hK K))
                exact rowWp_nil rfl
              refine drawn_next 13 (fuel := 1) rfl (by kernel_rfl) ?_
              intro K hK
              go_wp2_with fail
              refine ⟨⟨by go_simp, by go_simp, by go_simp, by go_simp⟩, ?_⟩
              refine named_world (A := fun Y => BldV w ((wc.heap.size, .cells Try.zeroCells59 59) :: LL) 59 162 Y q9 n9 c9 (bnsL (x :: l)) ∧ TabP lo tb Y T2) (Q := fun X => Go.Dr.wpAnyS Try.prog .any _ _ _ _ _ _ _ X) ⟨(BldV.newroom HBV.out _).call (Fr.refl [] _).drew, HTB.out.fr0 ((Fr.refl [] wc).alloc _).drew⟩ ?_
              rintro X1 ⟨hB1, hT1⟩
              clear f7 f8 fb fi t7 t8 tb' ti
              generalize wc.heap.size = b15 at hB1 ⊢
              have f15 := hB1.own.nth 0 rfl
              have t15 := World.at_lt f15
              have HB1' := Lib.hid hB1
              have HT1 := Lib.hid hT1
              clear hB1 hT1
              refine drawn_end rfl (by kernel_rfl) ?_
              intro K hK
              go_upto_region 16 with (fail)
              refine named_world (A := fun Y => BldV w ((b15, .cells B 59) :: LL) 59 162 Y q9 n9 c9 (bnsL (x :: l)) ∧ TabP lo tb Y T2) (Q := fun X => Code.wp _ _ _ _ X) ⟨HB1'.out.set 0 _ rfl, HT1.out.put f15 (by decide) _⟩ ?_
              rintro X2 ⟨hB2, hT2⟩
              clear f15 t15 eB
              have f15 := hB2.own.nth 0 rfl
              have f5 := hB2.own.mem (List.mem_cons_of_mem _ HM5.out)
              have f6 := hB2.own.mem (List.mem_cons_of_mem _ HM6.out)
              have t15 := World.at_lt f15
              have t5 := World.at_lt f5
              have t6 := World.at_lt f6
              have HB2 := Lib.hid hB2
              have HT2' := Lib.hid hT2
              clear hB2 hT2
              have c16 : ∀ W : World, Calls Try.prog 16 #[.agg B] W fun e w' => ∃ q m c, e = .returned (.slice q m c) ∧ Bld W [] .u8 5 w' q m c (bunText y) := fun W => by rw [HBE.out]; exact rtext_f HOKY.out
              have C16 := Lib.hid c16
              clear c16
              refine drawn_begin 6 (fun w' => w'.blk b15 = some (.cells B 59) ∧ w'.blk b5 = some (.cells #[.pointer (some ⟨tb, 0, none⟩)] 33) ∧ w'.blk b6 = some (.cells A 54)) (by kernel_rfl) ?_
              refine drawn_reads (fuel := 4) [0, 1, 2, 3] rfl (by kernel_rfl) ⟨f15, f5, f6⟩ ?_
              repeat (first | (refine rowK_step2 rfl rfl (fun K hK => ?_); go_wp2) | (refine rowK_step rfl (fun K hK => ?_); go_simp; refine hK _ ?_; clear hK K))
              refine rowK_nil ⟨fun w' e1 => ?_, ?_⟩
              · obtain ⟨e1, e2, e3⟩ := e1
                clear f15 f5 f6 t15 t5 t6
                repeat (first | (refine rowWp_step2 rfl rfl (fun K hK => ?_); go_wp2) | (refine rowWp_step rfl (fun K hK => ?_); go_simp; refine hK _ ?_; clear hK K))
                exact rowWp_nil rfl
              refine drawn_next 4 (fuel := 3) rfl (by kernel_rfl) ?_
              intro K hK
              go_wp2_with fail
              refine (C16.out _).mono ?_
              rintro e X3 ⟨tq, tm, tc, rfl, hTx⟩
              have hB3 : BldV w ((b15, .cells B 59) :: LL) 59 162 X3 q9 n9 c9 (bnsL (x :: l)) := HB2.out.call (by first | exact hTx.own.fr | exact (Fr.refl [] _).drew.trans hTx.own.fr)
              have HT3' : Hid (TabP lo tb X3 T2) := Lib.hid (HT2'.out.fr0 (by first | exact hTx.own.fr | exact (Fr.refl [] _).drew.trans hTx.own.fr))
              have HTX := Lib.hid hTx.sl
              clear f15 f5 f6 t15 t5 t6 hTx
              have f15 := hB3.own.nth 0 rfl
              have f5 := hB3.own.mem (List.mem_cons_of_mem _ HM5.out)
              have f6 := hB3.own.mem (List.mem_cons_of_mem _ HM6.out)
              have t15 := World.at_lt f15
              have HB3 := Lib.hid hB3
              clear hB3
              go_wp2_with fail
              refine ⟨⟨f15, f5, f6⟩, ?_⟩
              refine drawn_next 5 (fuel := 2) rfl (by kernel_rfl) ?_
              intro K hK
              go_wp2_with fail
              refine (sign_f HT3'.out la2 HKA.out.byt HTX.out (isBytes_bun HOKY.out)).mono ?_
              rintro e X4 ⟨rfl, hT4, F4⟩
              have hB4 := BldV.callT HB3.out F4 (fun q hq => by
                rcases List.mem_cons.1 hq with rfl | hq
                · exact .inr ⟨by decide, by decide⟩
                · exact HOTH.out q hq) ⟨by decide, by decide⟩ hlw
              clear f15 f5 f6 t15 F4
              obtain ⟨sg, hsg⟩ : ∃ g, g = (signF T2 a2 (bunText y)).2 := ⟨_, rfl⟩
              rw [← hsg]
              have lsg : sg.length = 64 := by rw [hsg]; exact signF_len _ _ _
              obtain ⟨z, hz⟩ : ∃ z : Bn, z = ⟨4, k1, k2, idv, key1 (k : Int), sg⟩ := ⟨_, rfl⟩
              have okz : BnOk z := by
                have h := HOKY.out
                rw [HY.out] at h
                rw [hz]
                exact ⟨h.d0, h.d1, h.i0, h.i1, h.al, h.sl, h.ol, lsg, h.ab, h.sb, h.ob, by show isBytes sg; rw [hsg]; exact byt_signF⟩
              obtain ⟨Z, hZ⟩ : ∃ Z, Z = bnC z := ⟨_, rfl⟩
              have eZ : spl B 98 (sg.map (Value.int .u8)) = Z := by
                have h := HOKY.out
                rw [HBE.out, hZ, hz]
                rw [HY.out] at h ⊢
                exact cBundle_spl_sig _ _ _ _ _ _ _ h.al h.sl h.ol h.gl lsg
              have szZ : Z.size = 162 := by rw [hZ]; exact bnC_size okz
              have allZ : Z.extract 0 162 = Z := by rw [← szZ]; exact Array.extract_size
              have ssg : (ints .u8 sg).size = 64 := by rw [size_ints, lsg]
              have HZ := Lib.hid hZ
              have HOKZ := Lib.hid okz
              have HB4 := Lib.hid hB4
              have HT4' := Lib.hid hT4
              have HOZ : Hid (∀ u ∈ Z.toList, u.oneCell' = true) := Lib.hid (by rw [hZ]; exact cBundle_one _ _ _ _ _ _ rfl rfl)
              clear hsg hz okz hZ hT4
              have f15 := hB4.own.nth 0 rfl
              have f5 := hB4.own.mem (List.mem_cons_of_mem _ HM5.out)
              have f6 := hB4.own.mem (List.mem_cons_of_mem _ HM6.out)
              have t15 := World.at_lt f15
              clear hB4
              go_wp2_with fail
              refine ⟨⟨f15, f5, f6⟩, ?_⟩
              refine drawn_end rfl (by kernel_rfl) ?_
              intro K hK
              go_upto_region 17 with (fail)
              refine named_world (A := fun Y => BldV w ((b15, .cells Z 59) :: LL) 59 162 Y q9 n9 c9 (bnsL (x :: l)) ∧ TabP lo tb Y (signF T2 a2 (bunText y)).1) (Q := fun X => Code.wp _ _ _ _ X) ⟨HB4.out.set 0 _ rfl, HT4'.out.put f15 (by decide) _⟩ ?_
              rintro X5 ⟨hB5, hT5⟩
              clear f15 f5 f6 t15 eZ allB oneB szB
              have f15 := hB5.own.nth 0 rfl
              have t15 := World.at_lt f15
              have HB5 := Lib.hid hB5
              have HT5' := Lib.hid hT5
              clear hB5 hT5
              go_wp2_with (refine wpList_app60F rfl _ _ rfl rfl (BldV.newroom HB5.out _) rfl (sv_one (World.at_alloc_new _ _ _ rfl) szZ) HOZ.out (by have := hnk.out; omega) ?_)
              intro q8 c8 X6 hB6 hF6
              have HT6' : Hid (TabP lo tb X6 (signF T2 a2 (bunText y)).1) := Lib.hid (Tab.grown (HT5'.out.fr0 ((Fr.refl [] X5).alloc _)) (BldV.newroom HB5.out (.cells Z 59)) hF6 (by decide))
              have HB6 : Hid (BldV w LL 59 162 X6 q8 (n9 + 1) c8 (bnsL (x :: (l ++ [z])))) := Lib.hid (by rw [bnsL_snoc, ← HZ.out]; exact hB6.sub (.cons _ (.cons _ (.refl _))))
              obtain ⟨n8, hn8⟩ : ∃ n8, n8 = n9 + 1 := ⟨_, rfl⟩
              rw [← hn8] at HB6 ⊢
              have HN8 := Lib.hid hn8
              clear hB6 hF6 f15 t15 hn8
              have w14 : IntKind.i64.wrap ((k : Int) + 1) = ((k + 1 : Nat) : Int) := by rw [IntKind.wrap_i64]; omega
              go_wp2_with fail
              go_roundw
              case rel =>
                refine ⟨k + 1, n8, q8, c8, by omega, by first | rfl | simp, rfl, Lib.hid (by rw [HN8.out, hnk.out]), Lib.hid ⟨x, l ++ [z], _, HB6.out, HXL.out.1, HXL.out.2.1, fun v hv => ?_, by rw [List.length_append, HN8.out]; have := HXL.out.2.2.2; simp only [List.length_singleton]; omega, HT6'.out⟩⟩
                rcases List.mem_append.1 hv with hv | hv
                · exact HXL.out.2.2.1 v hv
                · simp only [List.mem_singleton] at hv
                  rw [hv]; exact HOKZ.out
              case measure => simp [intOf]; omega
end
end Go.Proofs.Ytbhnfohoclcjdaa
