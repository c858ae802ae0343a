/- The document's numbers modulo the base's order: modulo. -/
import Derived.Test.YtakhmmnklkckpaaScU
namespace Go.Proofs.Ytakhmmnklkckpaa
open Go.RowKit Go.Dr
/-- What digits are worth. -/
def gN : List Int → Nat
  | [] => 0
  | d :: r => d.toNat + 65536 * gN r
theorem gN_drop : ∀ (l : List Int) (i : Nat), i < l.length → gN (l.drop i) = (el l i).toNat + 65536 * gN (l.drop (i + 1))
  | [], _, h => by simp at h
  | _ :: _, 0, _ => rfl
  | _ :: r, i + 1, h => gN_drop r i (by simpa using h)
def Dig (l : List Int) : Prop := ∀ x ∈ l, 0 ≤ x ∧ x < 65536
theorem dig_el {l : List Int} (h : Dig l) (i : Nat) : 0 ≤ el l i ∧ el l i < 65536 := by
  unfold el
  rw [List.getD_eq_getElem?_getD]
  cases hl : l[i]? with
  | none => simp
  | some x => exact h x (List.mem_of_getElem? hl)
theorem mod_half (Y A q : Nat) (hA : 0 < A) : (Y % (A * 2 ^ (q + 1)) < A * 2 ^ q → Y % (A * 2 ^ (q + 1)) = Y % (A * 2 ^ q)) ∧ (¬ Y % (A * 2 ^ (q + 1)) < A * 2 ^ q → Y % (A * 2 ^ (q + 1)) - A * 2 ^ q = Y % (A * 2 ^ q)) := by
  rw [Nat.pow_succ, ← Nat.mul_assoc]
  have hB : 0 < A * 2 ^ q := Nat.mul_pos hA (Nat.pow_pos (by decide))
  generalize A * 2 ^ q = B at hB
  have h1 : Y % (B * 2) % B = Y % B := Nat.mod_mul_right_mod Y B 2
  have h2 := Nat.mod_lt Y (show 0 < B * 2 by omega)
  constructor
  · intro h; rw [← h1, Nat.mod_eq_of_lt h]
  · intro h
    have h3 := Nat.mod_eq_sub_mod (show Y % (B * 2) ≥ B by omega)
    have h4 : (Y % (B * 2) - B) % B = Y % (B * 2) - B := Nat.mod_eq_of_lt (by omega)
    rw [← h1, h3, h4]
theorem ordL_lt : ordL * 2 ^ 16 < 65536 ^ 17 := by decide +kernel
theorem ordL_pos : 0 < ordL := by decide +kernel
theorem ordq_lt (q : Nat) (h : q ≤ 16) : ordL * 2 ^ q < 65536 ^ 17 :=
  Nat.lt_of_le_of_lt (Nat.mul_le_mul_left _ (Nat.pow_le_pow_right (by decide) h)) ordL_lt
theorem digN_zero : digN 0 17 = zs 17 := by decide +kernel
/-- Digits moved up, a new one below. -/
theorem el_digN_up (R d k : Nat) (hd : d < 65536) (hk : k < 16) : el (digN (65536 * R + d) 17) (k + 1) = el (digN R 17) k := by
  rw [el_digN, el_digN, if_pos (by omega), if_pos (by omega)]
  congr 2
  rw [Nat.pow_succ, Nat.mul_comm (65536 ^ k), ← Nat.div_div_eq_div_mul]
  congr 1
  omega
theorem el_digN_0 (R d : Nat) (hd : d < 65536) : el (digN (65536 * R + d) 17) 0 = (d : Int) := by
  rw [el_digN, if_pos (by omega), Nat.pow_zero, Nat.div_one]
  omega
theorem full_digN (Y m : Nat) (l : List Int) (h : l.length = m) : upd (el (digN Y m)) l m = digN Y m := by
  rw [upd_full _ _ _ h]
  apply List.ext_getElem?
  intro j
  by_cases hj : j < m
  · rw [List.getElem?_map, List.getElem?_range hj, Option.map_some, el_digN, if_pos hj]
    simp [hj, digN]
  · rw [List.getElem?_eq_none (by simp; omega), List.getElem?_eq_none (by rw [length_digN]; omega)]
/-- The first digits of a difference. -/
def minE (m n k : Nat) : List Int := upd (fun i => (((m - n) / 65536 ^ i % 65536 : Nat) : Int)) (digN m 17) k
theorem length_minE (m n k : Nat) (h : k ≤ 17) : (minE m n k).length = 17 := by rw [minE, length_upd _ _ _ (by rw [length_digN]; exact h), length_digN]
theorem minE_full (m n : Nat) : minE m n 17 = digN (m - n) 17 := by rw [minE, upd_full _ _ _ (length_digN m 17)]; rfl
theorem minE_set (m n k : Nat) (h : k < 17) {x : Int} (hx : (((m - n) / 65536 ^ k % 65536 : Nat) : Int) = x) : (minE m n k).set k x = minE m n (k + 1) := by
  rw [minE, ← hx]; exact set_upd (fun i => (((m - n) / 65536 ^ i % 65536 : Nat) : Int)) (digN m 17) k (by rw [length_digN]; exact h)
theorem el_minE (m n k : Nat) (_h : k < 17) : el (minE m n k) k = el (digN m 17) k := by rw [minE, el_upd, if_neg (by omega)]
section
variable {w : World}
set_option maxRecDepth 100000 in
set_option maxHeartbeats 8000000 in
theorem modulo_d {p : Option Addr} {n cap : Nat} {D : List Int} (S : Sl .i64 w p n cap D) (hD : Dig D) (hn : n ≤ 4096) :
    Calls Try.prog 109 #[.slice p n cap] w fun e w' => ∃ b, e = .returned (.slice (some ⟨b, 0, none⟩) 16 17) ∧ w'.blk b = some (.cells (ints .i64 (digN (gN D % ordL) 17)) 3) ∧ w.heap.size ≤ b ∧ Fr [] w w' := by
  have HS := Lib.hid S
  have HD := Lib.hid hD
  clear S hD
  go_enter Try.func109, Try.ntmps109
  go_wp2_with fail
  refine OwB.named (Q := fun X => Code.wp _ _ _ _ X) (show OwB w [(w.heap.size, .cells (ints .i64 (zs 17)) 3)] _ from (OwB.start w).allocN (.cells (ints .i64 (zs 17)) 3) w.heap.size rfl) ?_
  intro V hV
  generalize w.heap.size = b at hV ⊢
  go_loopw [3, 4] (fun r v wr => ∃ i b : Nat, i ≤ n ∧ v = .int .i64 ((i : Int) - 1) ∧ r = .slice (some ⟨b, 0, none⟩) 17 17 ∧ Hid (OwB w [(b, .cells (ints .i64 (digN (gN (D.drop i) % ordL) 17)) 3)] wr)) (fun _ v _ => (intOf v + 1).toNat)
  case atStart => exact ⟨n, b, by omega, rfl, rfl, Lib.hid (by rw [List.drop_of_length_le (by rw [HS.out.len]; exact Nat.le_refl n), gN, Nat.zero_mod, digN_zero]; exact hV)⟩
  case round =>
    clear hV
    obtain ⟨i, b, hi, rfl, rfl, hO⟩ := hrel
    by_cases hi0 : 1 ≤ i
    · obtain ⟨i, rfl⟩ : ∃ j, i = j + 1 := ⟨i - 1, by omega⟩
      rw [show ((i + 1 : Nat) : Int) - 1 = (i : Int) from by omega]
      have hd0 : decide ((0 : Int) ≤ (i : Int)) = true := by rw [decide_eq_true_eq]; omega
      obtain ⟨R, hR⟩ : ∃ R, R = gN (D.drop (i + 1)) % ordL := ⟨_, rfl⟩
      rw [← hR] at hO
      have hRl : R < ordL := by rw [hR]; exact Nat.mod_lt _ ordL_pos
      have HRl := Lib.hid hRl
      have HR := Lib.hid hR
      clear hR hRl hi0
      obtain ⟨d, hd⟩ : ∃ d : Nat, d = (el D i).toNat := ⟨_, rfl⟩
      have hdr := dig_el HD.out i
      have hdi : el D i = (d : Int) := by omega
      have hd6 : d < 65536 := by omega
      have HDi := Lib.hid hd
      obtain ⟨bD, off, cs, T, fr, rfl, hbD, hlt, hat⟩ := HS.out.at (show i < n by omega)
      rw [hdi] at hat
      clear hd hdr hdi
      have hbl := World.at_lt hbD
      have f1 := hO.out.fr.get hbD (by simp)
      have hbl2 := World.at_lt f1
      have hne : bD ≠ wr.heap.size := by have := hO.out.fr.size; omega
      have HBD := Lib.hid hbD
      have HBL := Lib.hid hbl
      have HAT := Lib.hid hat
      have hcat : cs[off + i] = .int .i64 (d : Int) := (Array.getElem?_eq_some_iff.1 hat).2
      clear hbD hbl hat
      go_wp2
      clear f1 hne hbl2 hcat hd0
      refine OwB.named (Q := fun X => Code.wp _ _ _ _ X) (show OwB w [(wr.heap.size, .cells (ints .i64 ((zs 17).set 0 (d : Int))) 3), (b, .cells (ints .i64 (digN R 17)) 3)] _ from hO.out.allocN (.cells (ints .i64 ((zs 17).set 0 (d : Int))) 3) wr.heap.size rfl) ?_
      intro V2 hV2
      generalize wr.heap.size = b2 at hV2 ⊢
      clear hO
      obtain ⟨Y, hY⟩ : ∃ Y, Y = 65536 * R + d := ⟨_, rfl⟩
      have HY := Lib.hid hY
      have lR := length_digN R 17
      clear hY
      go_loopw [6] (fun v wy => ∃ j : Nat, j ≤ 16 ∧ v = .int .i64 ((j : Int) + 1) ∧ Hid (OwB w [(b2, .cells (ints .i64 (upd (el (digN Y 17)) (zs 17) (j + 1))) 3), (b, .cells (ints .i64 (digN R 17)) 3)] wy)) (fun v _ => (17 - intOf v).toNat)
      case atStart =>
        refine ⟨0, by omega, rfl, Lib.hid ?_⟩
        have e := set_upd (el (digN Y 17)) (zs 17) 0 (by rw [length_zs]; omega)
        rw [upd_zero, HY.out, el_digN_0 R d hd6, ← HY.out] at e
        rw [← e]; exact hV2
      case round =>
        clear hV2
        obtain ⟨j, hj, rfl, hO⟩ := hrel
        by_cases hlt2 : j < 16
        · have hd2 : decide ((j : Int) + 1 < 17) = true := by rw [decide_eq_true_eq]; omega
          have f0 := hO.out.nth 0 rfl
          have f1 := hO.out.nth 1 rfl
          have t0 := hO.out.lt 0 rfl
          have t1 := hO.out.lt 1 rfl
          have e0 := hO.out.ne 0 1 rfl rfl (by decide)
          have e1 := e0.symm
          obtain ⟨U, hU⟩ : ∃ U, U = upd (el (digN Y 17)) (zs 17) (j + 1) := ⟨_, rfl⟩
          have lU : U.length = 17 := by rw [hU, length_upd _ _ _ (by rw [length_zs]; omega), length_zs]
          rw [← hU] at f0
          have HU := Lib.hid hU
          clear hU
          have hj1 : IntKind.i64.wrap ((j : Int) + 1 - 1) = (j : Int) := by rw [IntKind.wrap_i64]; omega
          go_wp2
          go_roundw
          case rel =>
            have hn := (HU.out ▸ hO.out).set 0 (.cells (ints .i64 (upd (el (digN Y 17)) (zs 17) (j + 2))) 3) rfl
            refine ⟨j + 1, by omega, by go_num, Lib.hid ?_⟩
            have e := set_upd (el (digN Y 17)) (zs 17) (j + 1) (by rw [length_zs]; omega)
            rw [HY.out, el_digN_up R d j hd6 hlt2, ← HY.out, ← HU.out] at e
            rw [spl_one _ _ _ (by rw [size_ints]; omega), set_ints, e]
            exact hn
          case measure => simp [intOf]; omega
        · obtain rfl : j = 16 := by omega
          rw [show ((16 : Nat) : Int) + 1 = (17 : Int) from rfl]
          have hd2 : decide ((17 : Int) < 17) = false := by decide
          have hO2 := hO.out.sub (.cons_cons _ (.cons _ (List.Sublist.refl _)))
          rw [full_digN Y 17 (zs 17) (length_zs 17)] at hO2
          have HO2 := Lib.hid hO2
          have hYL : Y < ordL * 2 ^ 16 := by have := HY.out; have := HRl.out; rw [show (2 : Nat) ^ 16 = 65536 from rfl, Nat.mul_comm]; omega
          have HYL := Lib.hid hYL
          clear hO hO2 hYL
          go_wp2_with fail
          go_loopw [7] (fun v wy => ∃ q : Nat, q ≤ 16 ∧ v = .int .i64 ((q : Int) - 1) ∧ Hid (OwB w [(b2, .cells (ints .i64 (digN (Y % (ordL * 2 ^ q)) 17)) 3)] wy)) (fun v _ => (intOf v + 1).toNat)
          case atStart => exact ⟨16, by omega, rfl, Lib.hid (by rw [Nat.mod_eq_of_lt HYL.out]; exact HO2.out)⟩
          case round =>
            clear HO2
            obtain ⟨q, hq, rfl, hO⟩ := hrel
            by_cases hq0 : 1 ≤ q
            · obtain ⟨u, rfl⟩ : ∃ u, q = u + 1 := ⟨q - 1, by omega⟩
              rw [show ((u + 1 : Nat) : Int) - 1 = (u : Int) from by omega]
              have hd3 : decide ((0 : Int) ≤ (u : Int)) = true := by rw [decide_eq_true_eq]; omega
              obtain ⟨A, hA⟩ : ∃ A, A = ordL * 2 ^ u := ⟨_, rfl⟩
              obtain ⟨M, hM⟩ : ∃ M, M = Y % (ordL * 2 ^ (u + 1)) := ⟨_, rfl⟩
              rw [← hM] at hO
              have hA17 : A < 65536 ^ 17 := by rw [hA]; exact ordq_lt u (by omega)
              have hM17 : M < 65536 ^ 17 := by rw [hM]; exact Nat.lt_trans (Nat.mod_lt _ (Nat.mul_pos ordL_pos (Nat.pow_pos (by decide)))) (ordq_lt (u + 1) hq)
              obtain ⟨mh1, mh2⟩ := mod_half Y ordL u ordL_pos
              rw [← hM, ← hA] at mh1 mh2
              have MH1 := Lib.hid mh1
              have MH2 := Lib.hid mh2
              have HA := Lib.hid hA
              have HA17 := Lib.hid hA17
              have HM17 := Lib.hid hM17
              clear hA hM hA17 hM17 mh1 mh2 hq0
              go_wp2_with fail
              refine (order_d u (by omega)).mono ?_
              rintro e w1 ⟨bl, rfl, hl1, hl2, F⟩
              rw [← HA.out] at hl1
              have hO4 := (hO.out.call F).room hl1 (hO.out.fresh hl2) (Nat.le_trans hO.out.fr.size hl2)
              have HO4 := Lib.hid hO4
              clear hO hO4 hl1 hl2 F
              simp only []
              go_wp2_with fail
              refine (below_d M A HM17.out HA17.out (HO4.out.nth 1 rfl) (HO4.out.nth 0 rfl)).mono ?_
              rintro e w2 ⟨rfl, F⟩
              have HO5 := Lib.hid (HO4.out.call F)
              clear HO4 F
              simp only []
              by_cases hMA : M < A
              · have hd4 : decide (M < A) = true := by rw [decide_eq_true_eq]; exact hMA
                rw [hd4]
                have HMA := Lib.hid hMA
                clear hMA
                go_wp2_with fail
                go_roundw
                case rel => exact ⟨u, by omega, rfl, Lib.hid (by have h := HO5.out.sub (.cons _ (List.Sublist.refl _)); rw [MH1.out HMA.out, HA.out] at h; exact h)⟩
                case measure => simp [intOf]
              · have hd4 : decide (M < A) = false := by rw [decide_eq_false_iff_not]; exact hMA
                rw [hd4]
                have HMA := Lib.hid hMA
                clear hMA
                go_wp2_with fail
                go_loopw [9, 10] (fun c v wz => ∃ k : Nat, k ≤ 17 ∧ v = .int .i64 (k : Int) ∧ c = .int .i64 (bor M A k) ∧ Hid (OwB w [(bl, .cells (ints .i64 (digN A 17)) 3), (b2, .cells (ints .i64 (minE M A k)) 3)] wz)) (fun _ v _ => (17 - intOf v).toNat)
                case atStart => exact ⟨0, by omega, rfl, by rw [bor_zero], Lib.hid (by rw [minE, upd_zero]; exact HO5.out)⟩
                case round =>
                  clear HO5
                  obtain ⟨k, hk, rfl, rfl, hO⟩ := hrel
                  by_cases hlt4 : k < 17
                  · have hd5 : decide ((k : Int) < 17) = true := by rw [decide_eq_true_eq]; omega
                    have f0 := hO.out.nth 0 rfl
                    have f1 := hO.out.nth 1 rfl
                    have t0 := hO.out.lt 0 rfl
                    have t1 := hO.out.lt 1 rfl
                    have e0 := hO.out.ne 0 1 rfl rfl (by decide)
                    have e1 := e0.symm
                    have lA := length_digN A 17
                    obtain ⟨U, hU⟩ : ∃ U, U = minE M A k := ⟨_, rfl⟩
                    have lU : U.length = 17 := by rw [hU]; exact length_minE M A k hk
                    rw [← hU] at f1
                    have hel : el U k = el (digN M 17) k := by rw [hU]; exact el_minE M A k hlt4
                    have HU := Lib.hid hU
                    clear hU
                    obtain ⟨s1, s2⟩ := minus_step M A k (Nat.le_of_not_lt HMA.out)
                    have dM := el_digN_lt M 17 k
                    have dA := el_digN_lt A 17 k
                    have eM := el_digN M 17 k
                    have eA := el_digN A 17 k
                    rw [if_pos hlt4] at eM eA
                    rw [← eM, ← eA, ← hel] at s1 s2
                    rw [← hel] at dM
                    have hb := bor_01 M A k
                    clear eM eA hel
                    obtain ⟨bb, hbb⟩ : ∃ bb, bb = bor M A k := ⟨_, rfl⟩
                    rw [← hbb] at s1 s2 hb ⊢
                    have HBB := Lib.hid hbb
                    clear hbb
                    by_cases hneg : el U k - el (digN A 17) k - bb < 0
                    · rw [if_pos hneg] at s1 s2
                      have hd1 : decide (el U k - el (digN A 17) k - bb < 0) = true := decide_eq_true hneg
                      have hset' := minE_set M A k hlt4 s1
                      have S2 := Lib.hid s2
                      have HSET := Lib.hid hset'
                      clear s1 s2 hset'
                      go_wp2
                      refine drawn_head 11 (by kernel_rfl) rfl rfl (by kernel_rfl) ?_
                      change rowK _ _ _ [0,1,2,3,4,5,6,7,8,9,10] _ _
                      repeat (refine rowK_step2 rfl rfl (fun K hK => ?_); go_wp2)
                      refine rowK_nil ?_
                      intro K hK
                      go_wp2
                      go_roundw
                      case rel =>
                        have hn := ((HU.out ▸ hO.out).drew).set 1 (.cells (ints .i64 (minE M A (k + 1))) 3) rfl
                        refine ⟨k + 1, by omega, by go_num, by rw [S2.out], Lib.hid ?_⟩
                        rw [HU.out]
                        rw [HU.out] at HSET
                        rw [HSET.out]
                        exact hn
                      case measure => simp [intOf]; omega
                    · rw [if_neg hneg] at s1 s2
                      have hd1 : decide (el U k - el (digN A 17) k - bb < 0) = false := decide_eq_false hneg
                      have hset' := minE_set M A k hlt4 s1
                      have S2 := Lib.hid s2
                      have HSET := Lib.hid hset'
                      clear s1 s2 hset'
                      go_wp2
                      refine drawn_head 11 (by kernel_rfl) rfl rfl (by kernel_rfl) ?_
                      change rowK _ _ _ [0,1,2,3,4,5,6,7,8,9,10] _ _
                      repeat (refine rowK_step2 rfl rfl (fun K hK => ?_); go_wp2)
                      refine rowK_nil ?_
                      intro K hK
                      go_wp2
                      go_roundw
                      case rel =>
                        have hn := ((HU.out ▸ hO.out).drew).set 1 (.cells (ints .i64 (minE M A (k + 1))) 3) rfl
                        refine ⟨k + 1, by omega, by go_num, by rw [S2.out], Lib.hid ?_⟩
                        rw [HU.out]
                        rw [HU.out] at HSET
                        rw [HSET.out]
                        exact hn
                      case measure => simp [intOf]; omega
                  · obtain rfl : k = 17 := by omega
                    have hd5 : decide ((17 : Int) < 17) = false := by decide
                    have h := hO.out.sub (.cons _ (List.Sublist.refl _))
                    rw [minE_full, MH2.out HMA.out, HA.out] at h
                    have HN := Lib.hid h
                    clear h hO
                    go_wp2_with fail
                    go_roundw
                    case rel => exact ⟨u, by omega, rfl, HN⟩
                    case measure => simp [intOf]
            · obtain rfl : q = 0 := by omega
              have h := hO.out
              rw [Nat.pow_zero, Nat.mul_one, show Y % ordL = gN (D.drop i) % ordL from by rw [gN_drop D i (by rw [HS.out.len]; omega), ← HDi.out, HY.out, HR.out, Nat.add_comm, Nat.add_mod, Nat.mul_mod_mod, ← Nat.add_mod]] at h
              have HN := Lib.hid h
              clear h hO
              go_wp2_with fail
              go_roundw
              case rel => exact ⟨i, b2, by omega, rfl, rfl, HN⟩
              case measure => simp [intOf]
    · obtain rfl : i = 0 := by omega
      go_wp2_with fail
      go_ret
      exact ⟨b, rfl, hO.out.nth 0 rfl, hO.out.low 0 rfl, hO.out.fr⟩
end
end Go.Proofs.Ytakhmmnklkckpaa
