/- The document's numbers modulo the base's order: MulAdd. -/
import Derived.Test.YtakhmmnklkckpaaScX
namespace Go.Proofs.Ytakhmmnklkckpaa
open Go.RowKit Go.Dr
theorem carD_add (p : List Int × Int) (k0 j : Nat) : ∀ m, carD (carD p k0 j) (k0 + j) m = carD p k0 (j + m)
  | 0 => rfl
  | m + 1 => by rw [carD, carD_add p k0 j m, ← Nat.add_assoc j m 1, carD, Nat.add_assoc k0 j m]
section
variable {w : World}
set_option maxRecDepth 100000 in
set_option maxHeartbeats 8000000 in
theorem muladd_dw {a b c : List Int} (la : a.length = 32) (lb : b.length = 32) (lc : c.length = 32) (ha : Byt a) (hb : Byt b) (hc : Byt c) :
    Calls Try.prog 96 #[.agg (ints .u8 a), .agg (ints .u8 b), .agg (ints .u8 c)] w fun e w' => e = .returned (.agg (ints .u8 (bN (gN (mulD (dgF a 32) (dgF b 32) (upd (el (dgF c 32)) (zs 33) 16) 16) % ordL)))) ∧ Fr [] w w' := by
  have HA := Lib.hid ha
  have HB := Lib.hid hb
  have HC := Lib.hid hc
  clear ha hb hc
  go_enter Try.func96, Try.ntmps96
  go_wp2_with fail
  refine OwB.named (Q := fun X => Code.wp _ _ _ _ X) (show OwB w [(w.heap.size + 3, .cells (ints .u8 (zs 32)) 22), (w.heap.size + 2, .cells (ints .u8 c) 22), (w.heap.size + 1, .cells (ints .u8 b) 22), (w.heap.size, .cells (ints .u8 a) 22)] _ from ((((OwB.start w).allocN (.cells (ints .u8 a) 22) w.heap.size rfl).allocN (.cells (ints .u8 b) 22) (w.heap.size + 1) (by simp)).allocN (.cells (ints .u8 c) 22) (w.heap.size + 2) (by simp)).allocN (.cells (ints .u8 (zs 32)) 22) (w.heap.size + 3) (by simp)) ?_
  intro V hV
  generalize w.heap.size + 3 = b6 at hV ⊢
  generalize w.heap.size + 2 = b5 at hV ⊢
  generalize w.heap.size + 1 = b4 at hV ⊢
  generalize w.heap.size = b3 at hV ⊢
  obtain ⟨L, hL⟩ : ∃ L : List (Nat × Obj), L = [(b6, .cells (ints .u8 (zs 32)) 22), (b5, .cells (ints .u8 c) 22), (b4, .cells (ints .u8 b) 22), (b3, .cells (ints .u8 a) 22)] := ⟨_, rfl⟩
  rw [← hL] at hV
  have HL := Lib.hid hL
  clear hL
  refine drawn_begin 6 (OwB w L) (by kernel_rfl) ?_
  refine OwB.named (Q := fun X => Go.Dr.wpAnyS Try.prog .any _ _ _ _ _ _ _ X) hV.drew ?_
  intro V1 h1
  clear hV
  refine drawn_reads (fuel := 6) [0, 2, 4] rfl (by kernel_rfl) h1 ?_
  repeat (first | (refine rowK_step2 rfl rfl (fun K hK => ?_); go_wp2) | (refine rowK_step rfl (fun K hK => ?_); go_simp; refine hK _ ?_; clear hK K))
  refine rowK_nil ⟨fun w' hw' => ?_, ?_⟩
  · repeat (first | (refine rowWp_step2 rfl rfl (fun K hK => ?_); go_wp2) | (refine rowWp_step rfl (fun K hK => ?_); go_simp; refine hK _ ?_; clear hK K))
    exact rowWp_nil rfl
  refine drawn_next 1 (fuel := 5) rfl (by kernel_rfl) ?_
  intro K hK
  go_wp2_with fail
  have hs := HL.out ▸ h1
  refine (digits_d (Sl.ofInts (k := .u8) (n := 32) (cap := 32) (off := 0) (hs.nth 3 rfl) (by omega) (by rw [List.drop_zero, List.take_of_length_le (by omega)]) (Nat.le_refl 32)) HA.out (by omega)).mono ?_
  rintro e w1 ⟨qx, cx, rfl, hx, F1⟩
  rw [show (32 + 1) / 2 = 16 from rfl] at hx
  have h2 := h1.call F1
  have HX := Lib.hid hx
  clear h1 hs F1 hx
  simp only []
  go_wp2
  refine ⟨h2, ?_⟩
  refine drawn_next 3 (fuel := 4) rfl (by kernel_rfl) ?_
  intro K hK
  go_wp2_with fail
  have hs := HL.out ▸ h2
  refine (digits_d (Sl.ofInts (k := .u8) (n := 32) (cap := 32) (off := 0) (hs.nth 2 rfl) (by omega) (by rw [List.drop_zero, List.take_of_length_le (by omega)]) (Nat.le_refl 32)) HB.out (by omega)).mono ?_
  rintro e w2 ⟨qy, cy, rfl, hy, F2⟩
  rw [show (32 + 1) / 2 = 16 from rfl] at hy
  have h3 := h2.call F2
  have HX2 := Lib.hid (HX.out.fr0 F2)
  have HY := Lib.hid hy
  clear h2 hs F2 hy HX
  simp only []
  go_wp2
  refine ⟨h3, ?_⟩
  refine drawn_next 5 (fuel := 3) rfl (by kernel_rfl) ?_
  intro K hK
  go_wp2_with fail
  have hs := HL.out ▸ h3
  refine (digits_d (Sl.ofInts (k := .u8) (n := 32) (cap := 32) (off := 0) (hs.nth 1 rfl) (by omega) (by rw [List.drop_zero, List.take_of_length_le (by omega)]) (Nat.le_refl 32)) HC.out (by omega)).mono ?_
  rintro e w3 ⟨qz, cz, rfl, hz, F3⟩
  rw [show (32 + 1) / 2 = 16 from rfl] at hz
  have h4 := h3.call F3
  have HX3 := Lib.hid (HX2.out.fr0 F3)
  have HY3 := Lib.hid (HY.out.fr0 F3)
  have HZ3 := Lib.hid hz
  clear h3 hs F3 hz HX2 HY
  simp only [Nat.reduceAdd, Nat.reduceDiv]
  go_wp2
  refine ⟨h4, ?_⟩
  refine drawn_end (ol := [_, _, _]) rfl (by kernel_rfl) ?_
  intro K hK
  go_wp2_with fail
  obtain ⟨X, hX⟩ : ∃ X, X = dgF a 32 := ⟨_, rfl⟩
  obtain ⟨Y, hY⟩ : ∃ Y, Y = dgF b 32 := ⟨_, rfl⟩
  obtain ⟨Z, hZ⟩ : ∃ Z, Z = dgF c 32 := ⟨_, rfl⟩
  have dX : Hid (Dig X) := Lib.hid (by rw [hX]; exact dig_dgF HA.out 32)
  have dY : Hid (Dig Y) := Lib.hid (by rw [hY]; exact dig_dgF HB.out 32)
  have dZ : Hid (Dig Z) := Lib.hid (by rw [hZ]; exact dig_dgF HC.out 32)
  rw [← hX] at HX3
  rw [← hY] at HY3
  rw [← hZ] at HZ3
  have HXE := Lib.hid hX
  have HYE := Lib.hid hY
  have HZE := Lib.hid hZ
  have H4 := Lib.hid h4
  clear hX hY hZ h4
  refine OwB.named (Q := fun X => Code.wp _ _ _ _ X) (show OwB w3 [(w3.heap.size, .cells (ints .i64 (zs 33)) 3)] _ from (OwB.start w3).allocN (.cells (ints .i64 (zs 33)) 3) w3.heap.size rfl) ?_
  intro V2 hV
  generalize w3.heap.size = bd at hV ⊢
  go_loopw [11] (fun v wr => ∃ i : Nat, i ≤ 16 ∧ v = .int .i64 (i : Int) ∧ Hid (OwB w3 [(bd, .cells (ints .i64 (upd (el Z) (zs 33) i)) 3)] wr)) (fun v _ => (16 - intOf v).toNat)
  case atStart => exact ⟨0, by omega, rfl, Lib.hid (by rw [upd_zero]; exact hV)⟩
  case round =>
    clear hV
    obtain ⟨i, hi, rfl, hO⟩ := hrel
    by_cases hlt : i < 16
    · have hd : decide ((i : Int) < 16) = true := by rw [decide_eq_true_eq]; omega
      obtain ⟨bz, off, cs, T, fr, rfl, hbz, hlc, hat⟩ := HZ3.out.at hlt
      have f0 := hO.out.nth 0 rfl
      have t0 := hO.out.lt 0 rfl
      have f1 := hO.out.fr.get hbz (by simp)
      have t1 := World.at_lt f1
      have e0 : bd ≠ bz := by have := hO.out.low 0 rfl; have := World.at_lt hbz; omega
      have e1 := e0.symm
      have hcat : cs[off + i] = .int .i64 (el Z i) := (Array.getElem?_eq_some_iff.1 hat).2
      obtain ⟨U, hU⟩ : ∃ U, U = upd (el Z) (zs 33) i := ⟨_, rfl⟩
      have lU : U.length = 33 := by rw [hU, length_upd _ _ _ (by rw [length_zs]; omega), length_zs]
      rw [← hU] at f0
      have HU := Lib.hid hU
      have HBZ := Lib.hid hbz
      have HAT := Lib.hid hat
      have hi33 : i < 33 := by omega
      clear hU hbz hat
      go_wp2
      go_roundw
      case rel =>
        refine ⟨i + 1, by omega, by go_num, Lib.hid ?_⟩
        have hn := (HU.out ▸ hO.out).set 0 (.cells (ints .i64 (upd (el Z) (zs 33) (i + 1))) 3) rfl
        rw [HU.out, set_upd (el Z) (zs 33) i (by rw [length_zs]; omega)]
        exact hn
      case measure => simp [intOf]; omega
    · obtain rfl : i = 16 := by omega
      rw [show ((16 : Nat) : Int) = 16 from rfl]
      have hd : decide ((16 : Int) < 16) = false := by decide
      obtain ⟨T0, hT0⟩ : ∃ T0, T0 = upd (el Z) (zs 33) 16 := ⟨_, rfl⟩
      have lT0 : T0.length = 33 := by rw [hT0, length_upd _ _ _ (by rw [length_zs]; omega), length_zs]
      have dT0 : Hid (Dig T0) := Lib.hid (by
        rw [hT0]
        intro x hx
        rcases List.mem_append.1 hx with h | h
        · obtain ⟨j, _, rfl⟩ := List.mem_map.1 h
          exact dig_el dZ.out j
        · have := List.mem_of_mem_drop h
          rw [List.eq_of_mem_replicate this]; omega)
      rw [← hT0] at hO
      have HT0 := Lib.hid hT0
      have LT0 := Lib.hid lT0
      clear hT0 lT0
      go_wp2_with fail
      go_loopw [12] (fun v wr => ∃ i : Nat, i ≤ 16 ∧ v = .int .i64 (i : Int) ∧ Hid (OwB w3 [(bd, .cells (ints .i64 (mulD X Y T0 i)) 3)] wr)) (fun v _ => (16 - intOf v).toNat)
      case atStart => exact ⟨0, by omega, rfl, hO⟩
      case round =>
        clear hO
        obtain ⟨i, hi, rfl, hO⟩ := hrel
        obtain ⟨T, hT⟩ : ∃ T, T = mulD X Y T0 i := ⟨_, rfl⟩
        have lT : T.length = 33 := by rw [hT, length_mulD]; exact LT0.out
        have dT : Hid (Dig T) := Lib.hid (by rw [hT]; exact dig_mulD dX.out dY.out dT0.out i)
        rw [← hT] at hO
        have HT := Lib.hid hT
        have LT := Lib.hid lT
        clear hT lT
        by_cases hlt : i < 16
        · have hd : decide ((i : Int) < 16) = true := by rw [decide_eq_true_eq]; omega
          have hd16 : decide (i < 16) = true := by rw [decide_eq_true_eq]; omega
          go_wp2_with fail
          go_loopw [13, 14] (fun c v wr => ∃ k : Nat, k ≤ 17 ∧ v = .int .i64 (k : Int) ∧ c = .int .i64 (rowD T (el X i) Y i k).2 ∧ Hid (OwB w3 [(bd, .cells (ints .i64 (rowD T (el X i) Y i k).1) 3)] wr)) (fun _ v _ => (17 - intOf v).toNat)
          case atStart => exact ⟨0, by omega, rfl, rfl, hO⟩
          case round =>
            clear hO
            obtain ⟨k, hk, rfl, rfl, hO⟩ := hrel
            obtain ⟨U, hU⟩ : ∃ U, U = (rowD T (el X i) Y i k).1 := ⟨_, rfl⟩
            obtain ⟨o, ho⟩ : ∃ o, o = (rowD T (el X i) Y i k).2 := ⟨_, rfl⟩
            have lU : U.length = 33 := by rw [hU, length_rowD]; exact LT.out
            obtain ⟨rU, ro1, ro2⟩ := rowD_rng dT.out dY.out (dig_el dX.out i) i k
            rw [← hU] at rU hO
            rw [← ho] at ro1 ro2 ⊢
            have ro3 : o < 65536 := ro2
            have DU := Lib.hid rU
            have HU := Lib.hid hU
            have HO := Lib.hid ho
            clear hU ho rU ro2
            by_cases hk17 : k < 17
            · have hd2 : decide ((k : Int) < 17) = true := by rw [decide_eq_true_eq]; omega
              have f0 := hO.out.nth 0 rfl
              have t0 := hO.out.lt 0 rfl
              have rel := dig_el DU.out (i + k)
              have hik : i + k < 33 := by omega
              have hstep : Hid (rowD T (el X i) Y i (k + 1) = (U.set (i + k) ((o + el U (i + k) + el X i * el Y k) % B16), (o + el U (i + k) + el X i * el Y k) / B16)) := Lib.hid (by rw [rowD, ← HU.out, ← HO.out])
              have rx := dig_el dX.out i
              have ry := dig_el dY.out k
              have rxy0 : 0 ≤ el X i * el Y k := Int.mul_nonneg rx.1 ry.1
              have rxy1 : el X i * el Y k ≤ 65535 * 65535 := Int.mul_le_mul (by omega) (by omega) ry.1 (by decide)
              by_cases hk16 : k < 16
              · have hd3 : decide ((k : Int) < 16) = true := by rw [decide_eq_true_eq]; omega
                obtain ⟨bx, ox, cx', Tx, frx, rfl, hbx, hlx, hax⟩ := HX3.out.at hlt
                obtain ⟨by', oy, cy', Ty, fry, rfl, hby, hly, hay⟩ := HY3.out.at hk16
                have g1 := hO.out.fr.get hbx (by simp)
                have u1 := World.at_lt g1
                have g2 := hO.out.fr.get hby (by simp)
                have u2 := World.at_lt g2
                have e0 : bd ≠ bx := by have := hO.out.low 0 rfl; have := World.at_lt hbx; omega
                have e1 : bd ≠ by' := by have := hO.out.low 0 rfl; have := World.at_lt hby; omega
                have hcx : cx'[ox + i] = .int .i64 (el X i) := (Array.getElem?_eq_some_iff.1 hax).2
                have hcy : cy'[oy + k] = .int .i64 (el Y k) := (Array.getElem?_eq_some_iff.1 hay).2
                have HBX := Lib.hid hbx
                have HBY := Lib.hid hby
                have HAX := Lib.hid hax
                have HAY := Lib.hid hay
                clear hbx hby hax hay
                go_wp2
                refine drawn_head 11 (by kernel_rfl) rfl rfl (by kernel_rfl) ?_
                change rowK _ _ _ [0,1,2,3,4,5,6,7,8,9,10] _ _
                repeat (refine rowK_step2 rfl rfl (fun K hK => ?_); go_wp2)
                refine rowK_nil ?_
                intro K hK
                go_wp2
                go_roundw
                case rel =>
                  refine ⟨k + 1, by omega, by go_num, by rw [hstep.out]; rfl, Lib.hid ?_⟩
                  rw [hstep.out]
                  exact (hO.out.drew).set 0 (.cells (ints .i64 (U.set (i + k) ((o + el U (i + k) + el X i * el Y k) % B16))) 3) rfl
                case measure => simp [intOf]; omega
              · have hd3 : decide ((k : Int) < 16) = false := by rw [decide_eq_false_iff_not]; omega
                have hy0 : el Y k = 0 := by
                  have := HY3.out.len
                  simp [el, show Y.length ≤ k by omega]
                have hstep2 := hstep.out
                rw [hy0, Int.mul_zero, Int.add_zero] at hstep2
                have HST := Lib.hid hstep2
                clear hstep hstep2 hy0 ry rx rxy0 rxy1
                go_wp2
                go_roundw
                case rel =>
                  refine ⟨k + 1, by omega, by go_num, by rw [HST.out]; rfl, Lib.hid ?_⟩
                  rw [HST.out]
                  exact (hO.out).set 0 (.cells (ints .i64 (U.set (i + k) ((o + el U (i + k)) % B16))) 3) rfl
                case measure => simp [intOf]; omega
            · obtain rfl : k = 17 := by omega
              rw [show ((17 : Nat) : Int) = 17 from rfl]
              have hd2 : decide ((17 : Int) < 17) = false := by decide
              obtain ⟨p, hp⟩ : ∃ p, p = rowD T (el X i) Y i 17 := ⟨_, rfl⟩
              have rp : Hid (Dig p.1 ∧ 0 ≤ p.2 ∧ p.2 < B16) := Lib.hid (by rw [hp]; exact rowD_rng dT.out dY.out (dig_el dX.out i) i 17)
              have lp : Hid (p.1.length = 33) := Lib.hid (by rw [hp, length_rowD]; exact LT.out)
              have hU2 := HU.out
              have hO2 := HO.out
              rw [← hp] at hU2 hO2
              rw [hU2] at hO
              rw [hO2] at ro1 ro3 ⊢
              have HP := Lib.hid hp
              clear hp hU2 hO2 HU HO DU lU ro1 ro3 hd2
              have hd2 : decide ((17 : Int) < 17) = false := by decide
              have hend : Hid (mulD X Y T0 (i + 1) = (carD p (i + 17) (16 - i)).1) := Lib.hid (by rw [mulD, ← HT.out, HP.out])
              go_wp2_with fail
              go_loopw [13, 15] (fun c v wr => ∃ j q : Nat, q ≤ 33 ∧ Hid (q = i + 17 + j) ∧ v = .int .i64 (q : Int) ∧ c = .int .i64 (carD p (i + 17) j).2 ∧ Hid (OwB w3 [(bd, .cells (ints .i64 (carD p (i + 17) j).1) 3)] wr)) (fun _ v _ => (33 - intOf v).toNat)
              case atStart => exact ⟨0, i + 17, by omega, Lib.hid rfl, by go_num, rfl, hO⟩
              case round =>
                clear hO
                obtain ⟨j, q, hq, hqj, rfl, rfl, hO⟩ := hrel
                obtain ⟨U, hU⟩ : ∃ U, U = (carD p (i + 17) j).1 := ⟨_, rfl⟩
                obtain ⟨o, ho⟩ : ∃ o, o = (carD p (i + 17) j).2 := ⟨_, rfl⟩
                have lU : U.length = 33 := by rw [hU, length_carD]; exact lp.out
                obtain ⟨rU, ro1, ro2⟩ := carD_rng rp.out (i + 17) j
                rw [← hU] at rU hO
                rw [← ho] at ro1 ro2 ⊢
                have ro3 : o < 65536 := ro2
                have DU := Lib.hid rU
                have HU := Lib.hid hU
                have HO := Lib.hid ho
                clear hU ho rU ro2
                by_cases hq33 : q < 33
                · have hd4 : decide ((q : Int) < 33) = true := by rw [decide_eq_true_eq]; omega
                  by_cases ho0 : 0 < o
                  · have hd5 : decide (0 < o) = true := by rw [decide_eq_true_eq]; exact ho0
                    have f0 := hO.out.nth 0 rfl
                    have t0 := hO.out.lt 0 rfl
                    have rel := dig_el DU.out q
                    have hstep : Hid (carD p (i + 17) (j + 1) = (U.set q ((o + el U q) % B16), (o + el U q) / B16)) := Lib.hid (by rw [carD, ← HU.out, ← HO.out, hqj.out])
                    go_wp2
                    go_roundw
                    case rel =>
                      refine ⟨j + 1, q + 1, by omega, Lib.hid (by have := hqj.out; omega), by go_num, by rw [hstep.out]; rfl, Lib.hid ?_⟩
                      rw [hstep.out]
                      exact (hO.out).set 0 (.cells (ints .i64 (U.set q ((o + el U q) % B16))) 3) rfl
                    case measure => simp [intOf]; omega
                  · have hd5 : decide (0 < o) = false := by rw [decide_eq_false_iff_not]; exact ho0
                    have hfin : U = mulD X Y T0 (i + 1) := by
                      have h0 : o = 0 := by omega
                      have hj : 16 - i = j + (16 - i - j) := by have := hqj.out; omega
                      rw [hend.out, hj, ← carD_add, carD_stop (by rw [← HU.out]; exact DU.out) (by rw [← HO.out]; exact h0), HU.out]
                    rw [hfin] at hO
                    clear hfin
                    go_wp2_with fail
                    go_roundw
                    case rel => exact ⟨i + 1, by omega, by go_num, hO⟩
                    case measure => simp [intOf]; omega
                · have hd4 : decide ((q : Int) < 33) = false := by rw [decide_eq_false_iff_not]; omega
                  have hfin : U = mulD X Y T0 (i + 1) := by
                    have hj : 16 - i = j := by have := hqj.out; omega
                    rw [hend.out, hj, HU.out]
                  rw [hfin] at hO
                  clear hfin
                  go_wp2_with fail
                  go_roundw
                  case rel => exact ⟨i + 1, by omega, by go_num, hO⟩
                  case measure => simp [intOf]; omega
        · obtain rfl : i = 16 := by omega
          have hd : decide ((16 : Int) < 16) = false := by decide
          have hS := Lib.hid (Sl.ofInts (k := .i64) (n := 33) (cap := 33) (off := 0) (hO.out.nth 0 rfl) (by rw [LT.out]; omega) (by rw [List.drop_zero, List.take_of_length_le (by rw [LT.out]; omega)]) (Nat.le_refl 33))
          go_wp2_with fail
          refine (modulo_d hS.out dT.out (by omega)).mono ?_
          rintro e w4 ⟨bm, rfl, hm1, hm2, F⟩
          have hO2 := Lib.hid (hO.out.call F)
          have HM := Lib.hid hm1
          clear F hm1 hm2 hS hO
          simp only []
          go_wp2_with fail
          refine (bytes_d HM.out).mono ?_
          rintro e w5 ⟨rfl, F⟩
          have hO3 := hO2.out.fr.trans F
          have h5 := HL.out ▸ (H4.out.call hO3)
          clear F hO2 hO3
          rw [HT.out, HXE.out, HYE.out, HT0.out, HZE.out]
          obtain ⟨R, hR⟩ : ∃ R, R = bN (gN (mulD (dgF a 32) (dgF b 32) (upd (el (dgF c 32)) (zs 33) 16) 16) % ordL) := ⟨_, rfl⟩
          rw [← hR]
          have lR : R.length = 32 := by rw [hR]; simp [bN]
          have HR := Lib.hid hR
          have g0 := h5.nth 0 rfl
          have t0 := h5.lt 0 rfl
          clear hR
          simp only []
          go_wp2_with fail
          have hn := h5.set 0 (.cells (ints .u8 R) 22) rfl
          refine ret_cell rfl rfl rfl ?_
          refine cellRet_of (hn.nth 0 rfl) (aggB_ints lR (by kernel_rfl)) ?_
          exact ⟨by rw [HR.out], hn.fr⟩
end
theorem vD_upd (Z : List Int) (lZ : Z.length = 16) : ∀ j, vD (upd (el Z) (zs 33) 16) (16 + j) = vD Z 16
  | 0 => by
    have h : ∀ k, k ≤ 16 → vD (upd (el Z) (zs 33) 16) k = vD Z k := by
      intro k
      induction k with
      | zero => intro _; rfl
      | succ k ih => intro hk; rw [vD, vD, ih (by omega), el_upd, if_pos (by omega)]
    exact h 16 (Nat.le_refl _)
  | j + 1 => by
    show vD (upd (el Z) (zs 33) 16) (16 + j) + el (upd (el Z) (zs 33) 16) (16 + j) * B16 ^ (16 + j) = _
    rw [vD_upd Z lZ j, el_upd, if_neg (by omega), el_zs]
    omega
theorem gN_lt : ∀ {l : List Int}, Dig l → (gN l : Int) < B16 ^ l.length
  | [], _ => by decide
  | d :: r, h => by
    have ih := gN_lt (l := r) fun x hx => h x (by simp [hx])
    have hd := h d (by simp)
    rw [List.length_cons, Int.pow_succ, gN]
    have e : B16 = 65536 := rfl
    generalize B16 ^ r.length = P at ih
    rw [e]
    omega
/-- MulAdd's sum. -/
theorem muladd_numD {a b c : List Int} (la : a.length = 32) (lb : b.length = 32) (lc : c.length = 32) (ha : Byt a) (hb : Byt b) (hc : Byt c) :
    bN (gN (mulD (dgF a 32) (dgF b 32) (upd (el (dgF c 32)) (zs 33) 16) 16) % ordL) = outF (w4 ((vB a * vB b + vB c) % oL)) := by
  have ga := gN_dgF a ha
  have gb := gN_dgF b hb
  have gc := gN_dgF c hc
  rw [la] at ga
  rw [lb] at gb
  rw [lc] at gc
  have dX := dig_dgF ha 32
  have dY := dig_dgF hb 32
  have dZ := dig_dgF hc 32
  have lX : (dgF a 32).length = 16 := length_dgF a 32
  have lY : (dgF b 32).length = 16 := length_dgF b 32
  have lZ : (dgF c 32).length = 16 := length_dgF c 32
  generalize dgF a 32 = X at *
  generalize dgF b 32 = Y at *
  generalize dgF c 32 = Z at *
  have lT : (upd (el Z) (zs 33) 16).length = 33 := by rw [length_upd _ _ _ (by rw [length_zs]; omega), length_zs]
  have dT : Dig (upd (el Z) (zs 33) 16) := by
    intro x hx
    rcases List.mem_append.1 hx with h | h
    · obtain ⟨j, _, rfl⟩ := List.mem_map.1 h
      exact dig_el dZ j
    · have := List.mem_of_mem_drop h
      rw [List.eq_of_mem_replicate this]; omega
  have vX := vD_gN dX
  have vY := vD_gN dY
  have vZ := vD_gN dZ
  rw [lX] at vX
  rw [lY] at vY
  rw [lZ] at vZ
  have vY2 := vD_more (l := Y) 1
  rw [lY] at vY2
  have bX := gN_lt dX
  have bY := gN_lt dY
  have bZ := gN_lt dZ
  rw [lX] at bX
  rw [lY] at bY
  rw [lZ] at bZ
  have hT := vD_upd Z lZ 17
  have hb : vD (upd (el Z) (zs 33) 16) 33 + vD X 16 * vD Y 17 < B16 ^ 33 := by
    rw [hT, vY2, vX, vY, vZ]
    have h1 : (gN X : Int) * (gN Y : Int) ≤ B16 ^ 16 * B16 ^ 16 := Int.mul_le_mul (Int.le_of_lt bX) (Int.le_of_lt bY) (Int.natCast_nonneg _) (Int.pow_nonneg (by decide))
    have h2 : B16 ^ 16 + B16 ^ 16 * B16 ^ 16 < B16 ^ 33 := by decide +kernel
    omega
  have hv := mulD_val lT dX dY dT hb 16 (Nat.le_refl 16)
  have dM := dig_mulD dX dY dT 16
  have hg := vD_gN dM
  rw [length_mulD, lT, hv, hT, vY2, vX, vY, vZ, ga, gb, gc] at hg
  apply bN_outF
  rw [Int.natCast_emod, ← hg, ordL_oL, Int.add_comm]
theorem muladd_d {w : World} {a b c : List Int} (la : a.length = 32) (lb : b.length = 32) (lc : c.length = 32) (ha : Byt a) (hb : Byt b) (hc : Byt c) :
    Calls Try.prog 96 #[.agg (ints .u8 a), .agg (ints .u8 b), .agg (ints .u8 c)] w fun e w' => e = .returned (.agg (ints .u8 (outF (w4 ((vB a * vB b + vB c) % oL))))) ∧ Fr [] w w' := by
  have h := muladd_dw (w := w) la lb lc ha hb hc
  rw [muladd_numD la lb lc ha hb hc] at h
  exact h
end Go.Proofs.Ytakhmmnklkckpaa
