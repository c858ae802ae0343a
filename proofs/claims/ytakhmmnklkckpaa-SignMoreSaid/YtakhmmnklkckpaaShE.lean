/- The code's SHA-512. -/
import Derived.Test.YtakhmmnklkckpaaShD
import Derived.Test.YtakhmmnklkckpaaZh
import Derived.Test.YtakhmmnklkckpaaZi
namespace Go.Proofs.Ytakhmmnklkckpaa
open Go.RowKit Go.Dr
section
variable {w : World}
theorem block_s {hb cap : Nat} {p : Option Addr} {H B : List Int} (hH : w.blk hb = some (.cells (ints .u64 H) 119)) (lH : H.length = 8) (wH : Wrd H) (S : Sl .u8 w p 128 cap B) (bB : Byt B) :
    Calls Try.prog 110 #[.pointer (some ⟨hb, 0, none⟩), .slice p 128 cap] w fun e w' => e = .returned (.tuple #[]) ∧ w'.blk hb = some (.cells (ints .u64 (blkF H B)) 119) ∧ Fr [hb] w w' := by
  obtain ⟨b, off, _, _, _, rfl, _⟩ := S.out (by omega)
  obtain ⟨cs, T, fr, hA, hs, hc⟩ := S.cells (by omega)
  refine block_f hH lH wH hA hc bB ?_
  rintro rfl
  rw [hH] at hA
  simp only [Option.some.injEq, Obj.cells.injEq] at hA
  have h0 := hc 0 (by omega)
  rw [← hA.1, Nat.add_zero] at h0
  simp only [ints, List.getElem?_toArray, List.getElem?_map, Option.map_eq_some_iff] at h0
  obtain ⟨x, _, hx⟩ := h0
  cases hx
set_option maxRecDepth 100000 in
set_option maxHeartbeats 2000000 in
theorem sum512_f {p : Option Addr} {n cap : Nat} {B : List Int} (S : Sl .u8 w p n cap B) (hB : Byt B) (hn : n ≤ 70368744177664) :
    Calls Try.prog 101 #[.slice p n cap] w fun e w' => e = .returned (.agg (ints .u8 (sumF B))) ∧ Fr [] w w' := by
  have HS := Lib.hid S
  have HB := Lib.hid hB
  have HN := Lib.hid S.len
  clear S hB
  go_enter Try.func101, Try.ntmps101
  go_wp2_with (refine wpList_buildV (t := 119) (v := .agg (ints .u64 iL)) rfl rfl (by kernel_rfl) ?_)
  refine OwB.named (Q := fun X => Code.wp _ _ _ _ X) (show OwB w [(w.heap.size + 1, .cells (ints .u64 (hR (padF B) 0)) 119), (w.heap.size, .cells (ints .u8 (zs 64)) 69)] _ from (((OwB.start w).allocN (.cells (ints .u8 (zs 64)) 69) w.heap.size rfl).allocN (.cells (ints .u64 (hR (padF B) 0)) 119) (w.heap.size + 1) (by simp))) ?_
  intro V hV
  generalize w.heap.size + 1 = bh at hV ⊢
  generalize w.heap.size = bo at hV ⊢
  go_loopw [0] (fun v wr => ∃ (k : Nat) (q : Option Addr) (m c : Nat), 128 * k ≤ B.length ∧ v = .slice q m c ∧ Hid (Sl .u8 w q m c (B.drop (128 * k))) ∧ Hid (OwB w [(bh, .cells (ints .u64 (hR (padF B) k)) 119), (bo, .cells (ints .u8 (zs 64)) 69)] wr)) (fun v _ => slLen v)
  case atStart => exact ⟨0, p, n, cap, by omega, rfl, HS, Lib.hid hV⟩
  case round =>
    clear hV
    obtain ⟨k, q, m, c, hk, rfl, hSl, hO⟩ := hrel
    have hml := hSl.out.len
    rw [List.length_drop] at hml
    have hmc := hSl.out.cap_
    have HML := Lib.hid hml
    clear hml
    by_cases hlt : 128 ≤ m
    · obtain ⟨b, off, _, _, _, rfl, _⟩ := hSl.out.out (by omega)
      have hd : decide ((128 : Int) ≤ (m : Int)) = true := by rw [decide_eq_true_eq]; omega
      have hS1 := (hSl.out.fr0 hO.out.fr).front (j := 128) hlt
      have hS2 := hSl.out.part (i := 128) (j := m) (c := c) hlt (by omega) (by omega) (by omega)
      have hH := hO.out.nth 0 rfl
      have hc1 := block_s hH (length_hR _ _) (wrd_hR _ _) hS1 (byt_take (byt_drop HB.out _) _)
      have ht : ((B.drop (128 * k)).take m).drop 128 = B.drop (128 * (k + 1)) := by
        rw [List.take_of_length_le (by rw [List.length_drop, HML.out]; exact Nat.le_refl _), List.drop_drop]
        rfl
      have hk1 : blkF (hR (padF B) k) ((B.drop (128 * k)).take 128) = hR (padF B) (k + 1) := by
        rw [← hR_text B k (by have := HML.out; omega)]
        exact blkF_congr fun i hi => el_take _ _ _ hi
      rw [hk1] at hc1
      rw [ht] at hS2
      have HC1 := Lib.hid hc1
      have HS2 := Lib.hid hS2
      have hk2 : 128 * (k + 1) ≤ B.length := by have := HML.out; omega
      clear hc1 hS2 hS1 ht hk1 hH
      by_cases hc : c = 128
      · subst hc
        obtain rfl : m = 128 := by omega
        rw [if_pos rfl] at HS2
        have HS3 : Hid (Sl .u8 w (some ⟨b, off, none⟩) 0 0 (B.drop (128 * (k + 1)))) := HS2
        clear HS2
        go_wp2_with fail
        refine HC1.out.mono ?_
        rintro e w1 ⟨rfl, hb1, F1⟩
        have hO2 := Lib.hid (hO.out.wrote 0 rfl hb1 F1)
        clear hb1 F1 HC1
        go_wp2
        go_roundw
        case rel => exact ⟨k + 1, _, _, _, hk2, rfl, HS3, hO2⟩
        case measure => simp only [slLen]; omega
      · rw [if_neg hc, Option.map_some, Addr.add_mid] at HS2
        go_wp2_with fail
        refine HC1.out.mono ?_
        rintro e w1 ⟨rfl, hb1, F1⟩
        have hO2 := Lib.hid (hO.out.wrote 0 rfl hb1 F1)
        clear hb1 F1 HC1
        go_wp2
        go_roundw
        case rel => exact ⟨k + 1, _, _, _, hk2, rfl, HS2, hO2⟩
        case measure => simp only [slLen]; omega
    · have hd : decide ((128 : Int) ≤ (m : Int)) = false := by rw [decide_eq_false_iff_not]; omega
      have hS1 := Lib.hid (hSl.out.fr0 hO.out.fr)
      have hB0 := Lib.hid (Bld.made (k := .u8) (e := 5) hO.out 256 (by unfold maxLen; omega))
      have hmn : m ≤ 70368744177664 := by omega
      clear hSl hO
      go_wp2_with (first | (refine wpList_app8 rfl (.tmp 21) (.tmp 22) rfl rfl hB0.out rfl (hS1.out.fr0 ((Fr.refl [] wr).alloc _)) (by omega) ?_; intro p1 c1 w1 B1; rw [Nat.zero_add, List.nil_append] at B1; have hB1 := Lib.hid B1; clear B1) | (refine wpList_app8o rfl (.tmp 23) (.tmp 24) rfl rfl hB1.out rfl (by omega) ?_; intro p2 c2 w2 B2; have hB2 := Lib.hid B2; clear B2))
      obtain ⟨z0, hz0⟩ : ∃ z0, z0 = zN B.length := ⟨_, rfl⟩
      have hz : z0 < 128 ∧ (m + 1 + z0) % 128 = 112 := by have := HML.out; unfold zN at hz0; omega
      obtain ⟨hz1, hz2⟩ := hz
      have HZ := Lib.hid hz0
      have HZ2 := Lib.hid hz2
      clear hz0 hz2 hS1 hB0 hB1 hd
      obtain ⟨X, hX⟩ : ∃ X, X = hR (padF B) k := ⟨_, rfl⟩
      rw [← hX] at hB2
      have HX := Lib.hid hX
      clear hX
      go_loopw [5] (fun v wr => ∃ (z y : Nat) (p : Option Addr) (c : Nat), z ≤ z0 ∧ Hid (y = m + 1 + z) ∧ v = .slice p y c ∧ Hid (Bld w [(bh, .cells (ints .u64 X) 119), (bo, .cells (ints .u8 (zs 64)) 69)] .u8 5 wr p y c (B.drop (128 * k) ++ [128] ++ zs z))) (fun v _ => m + 1 + z0 - slLen v)
      case atStart => exact ⟨0, m + 1, p2, c2, by omega, Lib.hid rfl, rfl, Lib.hid (by rw [show zs 0 = [] from rfl, List.append_nil]; exact hB2.out)⟩
      case round =>
        clear hB2
        obtain ⟨z, y, p3, c3, hzz, hy, rfl, hB3⟩ := hrel
        by_cases hlt2 : z < z0
        · have hd : ((y : Int) % 128 != 112) = true := by have := hy.out; have := HZ2.out; rw [bne_iff_ne]; omega
          have hyb : y + 1 ≤ 140737488355328 := by have := hy.out; omega
          go_wp2_with (refine wpList_app8o rfl (.tmp 30) (.tmp 31) rfl rfl hB3.out rfl hyb ?_; intro p4 c4 w4 B4; have hB4 := Lib.hid B4; clear B4)
          go_roundw
          case rel => exact ⟨z + 1, y + 1, p4, c4, hlt2, Lib.hid (by have := hy.out; omega), rfl, Lib.hid (by have := hB4.out; rw [List.append_assoc, ← zs_succ] at this; exact this)⟩
          case measure => have := hy.out; simp only [slLen]; omega
        · obtain rfl : z = z0 := by omega
          have hd : ((y : Int) % 128 != 112) = false := by have := hy.out; have := HZ2.out; rw [bne_eq_false_iff_eq]; omega
          have hyb : y + 8 ≤ 140737488355328 := by have := hy.out; omega
          clear hlt2 hzz
          go_wp2_with (refine wpList_app8z rfl (.tmp 33) _ rfl rfl hB3.out 8 rfl hyb ?_; intro p4 c4 w4 B4; have hB4 := Lib.hid B4; clear B4)
          go_loopw [5, 6] (fun v iv wr => ∃ (j t : Nat) (i : Int) (p : Option Addr) (c : Nat), j ≤ 8 ∧ Hid (t = y + 8 + j) ∧ Hid (i = 7 - (j : Int)) ∧ iv = .int .i64 i ∧ v = .slice p t c ∧ Hid (Bld w [(bh, .cells (ints .u64 X) 119), (bo, .cells (ints .u8 (zs 64)) 69)] .u8 5 wr p t c (B.drop (128 * k) ++ [128] ++ zs z ++ zs 8 ++ lenL B.length j))) (fun _ iv _ => (intOf iv + 1).toNat)
          case atStart => exact ⟨0, y + 8, 7, p4, c4, by omega, Lib.hid rfl, Lib.hid rfl, rfl, rfl, Lib.hid (by rw [lenL, List.append_nil]; exact hB4.out)⟩
          case round =>
            clear hB4 hB3
            obtain ⟨j, t, i, p5, c5, hj, ht, hi, rfl, rfl, hB5⟩ := hrel
            by_cases hlt3 : j < 8
            · obtain ⟨u, hu⟩ : ∃ u : Nat, i = (u : Int) := ⟨7 - j, by have := hi.out; omega⟩
              subst hu
              have hu7 : u ≤ 7 := by have := hi.out; omega
              have htb : t + 1 ≤ 140737488355328 := by have := ht.out; have := hy.out; omega
              have hd : decide ((0 : Int) ≤ (u : Int)) = true := by rw [decide_eq_true_eq]; omega
              go_wp2_with (refine wpList_app8o rfl (.tmp 39) (.tmp 46) rfl rfl hB5.out rfl htb ?_; intro p6 c6 w6 B6; have hB6 := Lib.hid B6; clear B6)
              go_roundw
              case rel =>
                refine ⟨j + 1, t + 1, (u : Int) - 1, p6, c6, hlt3, Lib.hid (by have := ht.out; omega), Lib.hid (by have := hi.out; omega), rfl, rfl, Lib.hid ?_⟩
                have h6 := hB6.out
                have e : (n : Int) * 8 / 2 ^ (8 * u) % 256 = lenB B.length (7 - j) := by
                  have hu : u = 7 - j := by have := hi.out; omega
                  rw [lenB, HN.out, hu]
                rw [e, List.append_assoc] at h6
                rw [lenL]
                exact h6
              case measure => simp only [intOf]; omega
            · obtain rfl : j = 8 := by omega
              obtain rfl : i = -1 := by have := hi.out; omega
              have hd : decide ((0 : Int) ≤ -1) = false := by decide
              obtain ⟨T, hT⟩ : ∃ T, T = B.drop (128 * k) ++ [128] ++ zs z ++ zs 8 ++ lenL B.length 8 := ⟨_, rfl⟩
              rw [← hT] at hB5
              have hT2 : T = (padF B).drop (128 * k) := by rw [drop_padF B _ hk, hT, HZ.out]; simp only [List.append_assoc]
              have hTl : T.length = t := hB5.out.len
              have hTm : t % 128 = 0 := by have := ht.out; have := hy.out; have := HZ2.out; omega
              obtain ⟨g, rfl⟩ := hB5.out.row.some_of (by have := ht.out; omega)
              obtain ⟨r, hO6, _⟩ := hB5.out.room
              have hbyt : Byt T := by rw [hT2]; exact byt_drop (byt_padF HB.out) _
              have HT2 := Lib.hid hT2
              have HTl := Lib.hid hTl
              have HTm := Lib.hid hTm
              have HO6 := Lib.hid hO6
              have HBT := Lib.hid hbyt
              have hcc := hB5.out.cap_le.1
              clear hT hT2 hTl hTm hO6 hbyt hB5
              go_wp2_with fail
              go_loopw [5] (fun v wx => ∃ j o m c : Nat, Hid (m + 128 * j = t) ∧ v = .slice (some ⟨g, o, none⟩) m c ∧ m ≤ c ∧ Hid (m = 0 ∨ o = 128 * j) ∧ Hid (OwB w [(g, .cells (rowR .u8 T r) 5), (bh, .cells (ints .u64 (hR (padF B) (k + j))) 119), (bo, .cells (ints .u8 (zs 64)) 69)] wx)) (fun v _ => slLen v)
              case atStart => exact ⟨0, 0, t, c5, Lib.hid (by omega), rfl, hcc, Lib.hid (.inr rfl), Lib.hid (by rw [Nat.add_zero, ← HX.out]; exact HO6.out)⟩
              case round =>
                clear HO6 hcc
                obtain ⟨j, o, m, c, hm, rfl, hmc2, ho, hO7⟩ := hrel
                by_cases hlt4 : 0 < m
                · have hm128 : 128 ≤ m := by have := hm.out; have := HTm.out; omega
                  have hd : decide ((0 : Int) < (m : Int)) = true := by rw [decide_eq_true_eq]; omega
                  have ho2 : o = 128 * j := by have := ho.out; omega
                  have hS1 : Sl .u8 wr (some ⟨g, o, none⟩) 128 c ((T.drop o).take 128) := Sl.ofRow (hO7.out.nth 0 rfl) (by have := hm.out; have := HTl.out; omega) (by omega)
                  have hc1 := block_s (hO7.out.nth 1 rfl) (length_hR _ _) (wrd_hR _ _) hS1 (byt_take (byt_drop HBT.out _) _)
                  have hk1 : blkF (hR (padF B) (k + j)) ((T.drop o).take 128) = hR (padF B) (k + (j + 1)) := by
                    rw [show k + (j + 1) = k + j + 1 from rfl, hR]
                    refine blkF_congr fun i hi => ?_
                    rw [el_take _ _ _ hi, HT2.out, List.drop_drop, ho2, Nat.mul_add]
                  rw [hk1] at hc1
                  have HC1 := Lib.hid hc1
                  have HO2 := Lib.hid ho2
                  clear hc1 hS1 hk1 ho2
                  by_cases hc : c = 128
                  · subst hc
                    obtain rfl : m = 128 := by omega
                    go_wp2_with fail
                    refine HC1.out.mono ?_
                    rintro e w7 ⟨rfl, hb7, F7⟩
                    have hO8 := Lib.hid (hO7.out.wrote 1 rfl hb7 F7)
                    clear hb7 F7 HC1
                    go_wp2
                    go_roundw
                    case rel => exact ⟨j + 1, _, 0, 0, Lib.hid (by have := hm.out; omega), rfl, Nat.le_refl _, Lib.hid (.inl rfl), hO8⟩
                    case measure => simp only [slLen]; omega
                  · go_wp2_with fail
                    refine HC1.out.mono ?_
                    rintro e w7 ⟨rfl, hb7, F7⟩
                    have hO8 := Lib.hid (hO7.out.wrote 1 rfl hb7 F7)
                    clear hb7 F7 HC1
                    go_wp2
                    go_roundw
                    case rel => exact ⟨j + 1, _, m - 128, c - 128, Lib.hid (by have := hm.out; omega), rfl, by omega, Lib.hid (.inr (by have := HO2.out; omega)), hO8⟩
                    case measure => simp only [slLen]; omega
                · obtain rfl : m = 0 := by omega
                  have hd : decide ((0 : Int) < 0) = false := by decide
                  have hN : k + j = blkN B := by
                    have h1 := hm.out
                    have h2 := HTl.out
                    have h3 := blkN_mul B
                    rw [HT2.out, List.length_drop] at h2
                    have h4 := length_padF B
                    omega
                  obtain ⟨H, hH⟩ : ∃ H, H = sumW B := ⟨_, rfl⟩
                  have hO8 := hO7.out
                  rw [hN, show hR (padF B) (blkN B) = sumW B from rfl, ← hH] at hO8
                  have hHl : H.length = 8 := by rw [hH]; exact length_hR _ _
                  have hHw : Wrd H := by rw [hH]; exact wrd_hR _ _
                  have HH := Lib.hid hH
                  have HHW := Lib.hid hHw
                  have HO8 := Lib.hid hO8
                  clear hH hHw hO8 hO7 hN
                  go_wp2_with fail
                  refine OwB.named (Q := fun X => Code.wp _ _ _ _ X) (show OwB w [(wr.heap.size, .cells (ints .u8 (zs 64)) 69), (g, .cells (rowR .u8 T r) 5), (bh, .cells (ints .u64 H) 119), (bo, .cells (ints .u8 (zs 64)) 69)] _ from HO8.out.allocN (.cells (ints .u8 (zs 64)) 69) wr.heap.size rfl) ?_
                  intro V2 hV2
                  generalize wr.heap.size = b2 at hV2 ⊢
                  clear HO8
                  go_loopw [56] (fun iv wy => ∃ i : Nat, i ≤ 64 ∧ iv = .int .i64 (i : Int) ∧ Hid (OwB w [(b2, .cells (ints .u8 (upd (outB H) (zs 64) i)) 69), (g, .cells (rowR .u8 T r) 5), (bh, .cells (ints .u64 H) 119), (bo, .cells (ints .u8 (zs 64)) 69)] wy)) (fun iv _ => (64 - intOf iv).toNat)
                  case atStart => exact ⟨0, by omega, rfl, Lib.hid (by rw [upd_zero]; exact hV2)⟩
                  case round =>
                    clear hV2
                    obtain ⟨i, hi9, rfl, hO9⟩ := hrel
                    have f0 := hO9.out.nth 0 rfl
                    have f1 := hO9.out.nth 2 rfl
                    have f2 := hO9.out.nth 3 rfl
                    have e0 := hO9.out.ne 0 2 rfl rfl (by decide)
                    have e1 := hO9.out.ne 0 3 rfl rfl (by decide)
                    have t0 := hO9.out.lt 0 rfl
                    have t2 := hO9.out.lt 3 rfl
                    obtain ⟨U, hU⟩ : ∃ U, U = upd (outB H) (zs 64) i := ⟨_, rfl⟩
                    have lU : U.length = 64 := by rw [hU, length_upd _ _ _ (by rw [length_zs]; exact hi9), length_zs]
                    rw [← hU] at f0
                    have HU := Lib.hid hU
                    clear hU
                    by_cases hlt5 : i < 64
                    · have hd : decide ((i : Int) < 64) = true := by rw [decide_eq_true_eq]; omega
                      obtain ⟨e, he⟩ : ∃ e : Nat, 56 - (i : Int) % 8 * 8 = e := ⟨56 - i % 8 * 8, by omega⟩
                      have hi8 : i / 8 < 8 := by omega
                      go_wp2
                      go_roundw
                      case rel =>
                        refine ⟨i + 1, by omega, by simp, Lib.hid ?_⟩
                        have hn := hO9.out
                        rw [← HU.out] at hn
                        have hn2 := hn.set 0 (.cells (ints .u8 (upd (outB H) (zs 64) (i + 1))) 69) rfl
                        have ev : U.set i (el H (i / 8) / 2 ^ e % 256) = upd (outB H) (zs 64) (i + 1) := by
                          have hx : e = 56 - i % 8 * 8 := by omega
                          rw [HU.out, hx]
                          exact set_upd (outB H) (zs 64) i (by rw [length_zs]; exact hlt5)
                        rw [ev]
                        exact hn2
                      case measure => simp [intOf]; omega
                    · obtain rfl : i = 64 := by omega
                      have hd : decide ((64 : Int) < 64) = false := by decide
                      go_wp2_with fail
                      have hn := hO9.out
                      rw [← HU.out] at hn
                      have hn2 := hn.set 3 (.cells (ints .u8 U) 69) rfl
                      refine ret_cell rfl rfl rfl ?_
                      refine cellRet_of (hn2.nth 3 rfl) (aggB_ints lU (by kernel_rfl)) ?_
                      refine ⟨?_, hn2.fr⟩
                      rw [HU.out, upd_full _ _ _ (length_zs 64), HH.out]
                      rfl
end
end Go.Proofs.Ytakhmmnklkckpaa
