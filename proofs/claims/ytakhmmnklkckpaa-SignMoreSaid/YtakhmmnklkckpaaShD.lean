/- The code's block of SHA-512. -/
import Derived.Test.YtakhmmnklkckpaaZh
namespace Go.Proofs.Ytakhmmnklkckpaa
open Go.RowKit Go.Dr

section
variable {w : World}
set_option maxRecDepth 100000 in
set_option maxHeartbeats 8000000 in
theorem block_f {hb bb off cap T : Nat} {fr : Nat × Nat} {cs : Array Value} {H B : List Int} (hH : w.blk hb = some (.cells (ints .u64 H) 119)) (lH : H.length = 8) (wH : Wrd H) (hA : w.blk bb = some (.cells cs T fr)) (hcs : ∀ i, i < 128 → cs[off + i]? = some (.int .u8 (el B i))) (bB : Byt B) (_hne : hb ≠ bb) :
    Calls Try.prog 110 #[.pointer (some ⟨hb, 0, none⟩), .slice (some ⟨bb, off, none⟩) 128 cap] w fun e w' => e = .returned (.tuple #[]) ∧ w'.blk hb = some (.cells (ints .u64 (blkF H B)) 119) ∧ Fr [hb] w w' := by
  have HH := Lib.hid hH
  have HA := Lib.hid hA
  have WH := Lib.hid wH
  have BB := Lib.hid bB
  have HCS := Lib.hid hcs
  clear hH hA wH bB hcs
  go_enter Try.func110, Try.ntmps110
  go_wp2_with (refine wpList_build135 rfl rfl (by kernel_rfl) ?_)
  refine OwB.named (Q := fun X => Code.wp _ _ _ _ X) (show OwB w [(w.heap.size + 1, .cells (ints .u64 (List.replicate 80 0)) 135), (w.heap.size, .cells (ints .u64 (kL)) 135)] _ from (((OwB.start w).allocN (.cells (ints .u64 kL) 135) w.heap.size rfl).allocN (.cells (ints .u64 (List.replicate 80 0)) 135) (w.heap.size + 1) (by simp))) ?_
  intro V4 h3
  generalize w.heap.size + 1 = bk2 at h3 ⊢
  generalize w.heap.size = bk1 at h3 ⊢
  obtain ⟨L5, hL5⟩ : ∃ L : List (Nat × Obj), L = [(bk2, .cells (ints .u64 (List.replicate 80 0)) 135), (bk1, .cells (ints .u64 (kL)) 135)] := ⟨_, rfl⟩
  rw [← hL5] at h3
  have HL5 := Lib.hid hL5
  clear hL5
  have hst : OwB w [(bk2, .cells (ints .u64 (zs 80)) 135), (bk1, .cells (ints .u64 (kL)) 135)] V4 := HL5.out ▸ h3
  clear h3
  go_loopw [18] (fun iv wr => ∃ i : Nat, i ≤ 128 ∧ iv = .int .i64 (i : Int) ∧ Hid (OwB w [(bk2, .cells (ints .u64 (bR B i)) 135), (bk1, .cells (ints .u64 (kL)) 135)] wr)) (fun iv _ => (128 - intOf iv).toNat)
  case atStart => exact ⟨0, by omega, rfl, hst⟩
  case round =>
    obtain ⟨i, hi, rfl, hO⟩ := hrel
    clear hst
    have hI := hO.out
    clear hO
    have lU := length_bR B i
    obtain ⟨U, hU⟩ : ∃ U, U = bR B i := ⟨_, rfl⟩
    rw [← hU] at hI lU
    have HU := Lib.hid hU
    clear hU
    obtain ⟨L6, hL6⟩ : ∃ L : List (Nat × Obj), L = [(bk2, .cells (ints .u64 (U)) 135), (bk1, .cells (ints .u64 (kL)) 135)] := ⟨_, rfl⟩
    rw [← hL6] at hI
    have HL6 := Lib.hid hL6
    clear hL6
    by_cases hlt : i < 128
    · have hl1 : decide ((i : Int) < 128) = true := by rw [decide_eq_true_eq]; omega
      have hi8 : i / 8 < 80 := by omega
      have hcell := HCS.out i hlt
      have hw : IntKind.u64.wrap (el B i) = el B i := by
        have := byt_el BB.out i
        rw [IntKind.wrap_u64]; omega
      have hi1 : i < 128 := hlt
      go_wp2_with fail
      refine drawn_begin 14 (OwB w L6) (by kernel_rfl) ?_
      refine OwB.named (Q := fun X => Go.Dr.wpAnyS Try.prog .any _ _ _ _ _ _ _ X) (hI.drew) ?_
      intro V7 h8
      clear hI
      have s9 := h8
      rw [HL6.out] at s9
      have f10 := s9.nth 0 rfl
      have f11 := s9.fr.get HA.out (by simp)
      clear s9
      refine drawn_reads (fuel := 1) [0, 1, 2, 3, 4, 5, 6, 7, 8, 9, 10, 11, 12, 13] rfl (by kernel_rfl) (h8) ?_
      repeat (first | (refine rowK_step2 rfl rfl (fun K hK => ?_); go_wp2) | (refine rowK_step rfl (fun K hK => ?_); go_simp; refine hK _ ?_; clear hK K) | (refine rowK_step rfl (fun K hK => ?_); go_simp; refine ⟨by decide, hK _ ?_⟩; clear hK K))
      refine rowK_nil ⟨fun w' hw' => ?_, ?_⟩
      · rw [HL6.out] at hw'
        have g12 := hw'.nth 0 rfl
        have g13 := hw'.fr.get HA.out (by simp)
        clear f10 f11
        repeat (first | (refine rowWp_step2 rfl rfl (fun K hK => ?_); go_wp2) | (refine rowWp_step rfl (fun K hK => ?_); go_simp; refine hK _ ?_; clear hK K) | (refine rowWp_step rfl (fun K hK => ?_); go_simp; refine ⟨by decide, hK _ ?_⟩; clear hK K))
        exact rowWp_nil rfl
      clear f10 f11
      refine drawn_end (ol := [_]) rfl (by kernel_rfl) ?_
      intro K hK
      have s14 := h8
      rw [HL6.out] at s14
      have f15 := s14.nth 0 rfl
      have t16 := s14.lt 0 rfl
      clear s14
      have s17 := h8
      rw [HL6.out] at s17
      go_wp2_with fail
      clear f15 t16
      go_roundw
      case rel =>
        refine ⟨i + 1, by omega, by simp, Lib.hid ?_⟩
        have hn := (s17.set 0 (.cells (ints .u64 (U.set (i / 8) (bits .or .u64 (IntKind.u64.wrap (el U (i / 8) * 256)) (el B i)))) 135) rfl)
        rw [bR, ← HU.out]
        exact hn
      case measure => simp [intOf]; omega
    · obtain rfl : i = 128 := by omega
      rw [show ((128 : Nat) : Int) = 128 from rfl]
      have hl1 : decide ((128 : Int) < 128) = false := by decide
      obtain ⟨W0, hW0⟩ : ∃ W0, W0 = bR B 128 := ⟨_, rfl⟩
      have wW0 : Wrd W0 := by rw [hW0]; exact wrd_bR BB.out 128
      obtain rfl : U = W0 := by rw [HU.out, hW0]
      have HW0 := Lib.hid hW0
      have WW0 := Lib.hid wW0
      clear hW0 wW0 HU
      go_wp2_with fail
      have hst : OwB w [(bk2, .cells (ints .u64 (cR U 0)) 135), (bk1, .cells (ints .u64 (kL)) 135)] wr := HL6.out ▸ hI
      clear hI
      go_loopw [7] (fun iv wv => ∃ k : Nat, k ≤ 64 ∧ iv = .int .i64 ((16 + k : Nat) : Int) ∧ Hid (OwB w [(bk2, .cells (ints .u64 (cR U k)) 135), (bk1, .cells (ints .u64 (kL)) 135)] wv)) (fun iv _ => (80 - intOf iv).toNat)
      case atStart => exact ⟨0, by omega, rfl, hst⟩
      case round =>
        obtain ⟨k, hk, rfl, hO⟩ := hrel
        clear hst
        have hI := hO.out
        clear hO
        obtain ⟨V, hV⟩ : ∃ V, V = cR U k := ⟨_, rfl⟩
        have lV : V.length = 80 := by rw [hV, length_cR]; exact lU
        have wV : Wrd V := by rw [hV]; exact wrd_cR WW0.out k
        rw [← hV] at hI
        have HV := Lib.hid hV
        have WU := Lib.hid wV
        clear hV wV
        obtain ⟨j, hj⟩ : ∃ j : Nat, j = 16 + k := ⟨_, rfl⟩
        rw [← hj]
        refine OwB.named (Q := fun X => Code.wp _ _ _ _ X) hI ?_
        intro WV hI2
        clear hI
        obtain ⟨L19, hL19⟩ : ∃ L : List (Nat × Obj), L = [(bk2, .cells (ints .u64 (V)) 135), (bk1, .cells (ints .u64 (kL)) 135)] := ⟨_, rfl⟩
        rw [← hL19] at hI2
        have HL19 := Lib.hid hL19
        clear hL19
        by_cases hlt2 : k < 64
        · have hl2 : decide ((j : Int) < 80) = true := by rw [decide_eq_true_eq]; omega
          obtain ⟨a, ha⟩ : ∃ a : Nat, (j : Int) - 15 = a := ⟨j - 15, by omega⟩
          obtain ⟨b, hb⟩ : ∃ b : Nat, (j : Int) - 2 = b := ⟨j - 2, by omega⟩
          obtain ⟨c, hc⟩ : ∃ c : Nat, (j : Int) - 16 = c := ⟨j - 16, by omega⟩
          obtain ⟨d, hd⟩ : ∃ d : Nat, (j : Int) - 7 = d := ⟨j - 7, by omega⟩
          have la : a < 80 := by omega
          have lb : b < 80 := by omega
          have lc : c < 80 := by omega
          have ld : d < 80 := by omega
          have lj : j < 80 := by omega
          have HAJ := Lib.hid (show a = j - 15 ∧ b = j - 2 ∧ c = j - 16 ∧ d = j - 7 from by omega)
          have HJ := Lib.hid hj
          clear hj
          go_wp2_with fail
          refine drawn_begin 9 (OwB w L19) (by kernel_rfl) ?_
          refine OwB.named (Q := fun X => Go.Dr.wpAnyS Try.prog .any _ _ _ _ _ _ _ X) (hI2.drew) ?_
          intro V20 h21
          clear hI2
          have s22 := h21
          rw [HL19.out] at s22
          have f23 := s22.nth 0 rfl
          clear s22
          refine drawn_reads (fuel := 1) [0, 1, 2, 3, 4, 5, 6, 7, 8] rfl (by kernel_rfl) (h21) ?_
          repeat (first | (refine rowK_step2 rfl rfl (fun K hK => ?_); go_wp2) | (refine rowK_step rfl (fun K hK => ?_); go_simp; refine hK _ ?_; clear hK K) | (refine rowK_step rfl (fun K hK => ?_); go_simp; refine ⟨by decide, hK _ ?_⟩; clear hK K))
          refine rowK_nil ⟨fun w' hw' => ?_, ?_⟩
          · rw [HL19.out] at hw'
            have g24 := hw'.nth 0 rfl
            clear f23
            repeat (first | (refine rowWp_step2 rfl rfl (fun K hK => ?_); go_wp2) | (refine rowWp_step rfl (fun K hK => ?_); go_simp; refine hK _ ?_; clear hK K) | (refine rowWp_step rfl (fun K hK => ?_); go_simp; refine ⟨by decide, hK _ ?_⟩; clear hK K))
            exact rowWp_nil rfl
          clear f23
          refine drawn_end (ol := [_]) rfl (by kernel_rfl) ?_
          intro K hK
          go_wp2_with fail
          refine drawn_begin 29 (OwB w L19) (by kernel_rfl) ?_
          refine OwB.named (Q := fun X => Go.Dr.wpAnyS Try.prog .any _ _ _ _ _ _ _ X) (h21.drew) ?_
          intro V25 h26
          clear h21
          have s27 := h26
          rw [HL19.out] at s27
          have f28 := s27.nth 0 rfl
          clear s27
          refine drawn_reads (fuel := 12) [0, 1, 2, 3, 4, 5, 6, 7, 8, 9, 10, 12, 15, 16, 19, 21, 24, 25] rfl (by kernel_rfl) (h26) ?_
          repeat (first | (refine rowK_step2 rfl rfl (fun K hK => ?_); go_wp2) | (refine rowK_step rfl (fun K hK => ?_); go_simp; refine hK _ ?_; clear hK K) | (refine rowK_step rfl (fun K hK => ?_); go_simp; refine ⟨by decide, hK _ ?_⟩; clear hK K))
          refine rowK_nil ⟨fun w' hw' => ?_, ?_⟩
          · rw [HL19.out] at hw'
            have g29 := hw'.nth 0 rfl
            clear f28
            repeat (first | (refine rowWp_step2 rfl rfl (fun K hK => ?_); go_wp2) | (refine rowWp_step rfl (fun K hK => ?_); go_simp; refine hK _ ?_; clear hK K) | (refine rowWp_step rfl (fun K hK => ?_); go_simp; refine ⟨by decide, hK _ ?_⟩; clear hK K))
            exact rowWp_nil rfl
          clear f28
          refine drawn_next 11 (fuel := 11) rfl (by kernel_rfl) ?_
          intro K hK
          go_wp2_with fail
          refine (rotl_1 _ (wrd_el WU.out a)).mono ?_
          rintro e w30 ⟨rfl, F31⟩
          have h32 := (h26).call F31
          clear F31 h26
          simp only []
          go_wp2
          refine ⟨h32, ?_⟩
          refine drawn_next 13 (fuel := 10) rfl (by kernel_rfl) ?_
          intro K hK
          go_wp2_with fail
          refine (rotl_8 _ (wrd_el WU.out a)).mono ?_
          rintro e w33 ⟨rfl, F34⟩
          have h35 := (h32).call F34
          clear F34 h32
          simp only []
          go_wp2
          refine ⟨h35, ?_⟩
          refine drawn_reads (fuel := 7) [14, 17, 18] rfl (by kernel_rfl) (h35) ?_
          repeat (first | (refine rowK_step2 rfl rfl (fun K hK => ?_); go_wp2) | (refine rowK_step rfl (fun K hK => ?_); go_simp; refine hK _ ?_; clear hK K) | (refine rowK_step rfl (fun K hK => ?_); go_simp; refine ⟨by decide, hK _ ?_⟩; clear hK K))
          refine rowK_nil ⟨fun w' hw' => ?_, ?_⟩
          · skip
            repeat (first | (refine rowWp_step2 rfl rfl (fun K hK => ?_); go_wp2) | (refine rowWp_step rfl (fun K hK => ?_); go_simp; refine hK _ ?_; clear hK K) | (refine rowWp_step rfl (fun K hK => ?_); go_simp; refine ⟨by decide, hK _ ?_⟩; clear hK K))
            exact rowWp_nil rfl
          refine drawn_next 20 (fuel := 6) rfl (by kernel_rfl) ?_
          intro K hK
          go_wp2_with fail
          refine (rotl_19 _ (wrd_el WU.out b)).mono ?_
          rintro e w36 ⟨rfl, F37⟩
          have h38 := (h35).call F37
          clear F37 h35
          simp only []
          go_wp2
          refine ⟨h38, ?_⟩
          refine drawn_next 22 (fuel := 5) rfl (by kernel_rfl) ?_
          intro K hK
          go_wp2_with fail
          refine (rotl_61 _ (wrd_el WU.out b)).mono ?_
          rintro e w39 ⟨rfl, F40⟩
          have h41 := (h38).call F40
          clear F40 h38
          simp only []
          go_wp2
          refine ⟨h41, ?_⟩
          refine drawn_reads (fuel := 1) [23, 26, 27, 28] rfl (by kernel_rfl) (h41) ?_
          repeat (first | (refine rowK_step2 rfl rfl (fun K hK => ?_); go_wp2) | (refine rowK_step rfl (fun K hK => ?_); go_simp; refine hK _ ?_; clear hK K) | (refine rowK_step rfl (fun K hK => ?_); go_simp; refine ⟨by decide, hK _ ?_⟩; clear hK K))
          refine rowK_nil ⟨fun w' hw' => ?_, ?_⟩
          · skip
            repeat (first | (refine rowWp_step2 rfl rfl (fun K hK => ?_); go_wp2) | (refine rowWp_step rfl (fun K hK => ?_); go_simp; refine hK _ ?_; clear hK K) | (refine rowWp_step rfl (fun K hK => ?_); go_simp; refine ⟨by decide, hK _ ?_⟩; clear hK K))
            exact rowWp_nil rfl
          refine drawn_end (ol := [_]) rfl (by kernel_rfl) ?_
          intro K hK
          have s42 := h41
          rw [HL19.out] at s42
          have f43 := s42.nth 0 rfl
          have t44 := s42.lt 0 rfl
          clear s42
          have s45 := h41
          rw [HL19.out] at s45
          go_wp2_with fail
          clear f43 t44
          go_roundw
          case rel =>
            refine ⟨k + 1, by omega, by rw [HJ.out]; rfl, Lib.hid ?_⟩
            have hn := (s45.set 0 (.cells (ints .u64 (V.set j (IntKind.u64.wrap (IntKind.u64.wrap (IntKind.u64.wrap (el V c + el V d) + sg0 (el V a)) + sg1 (el V b))))) 135) rfl)
            have e : V.set j (IntKind.u64.wrap (IntKind.u64.wrap (IntKind.u64.wrap (el V c + el V d) + sg0 (el V a)) + sg1 (el V b))) = cR U (k + 1) := by
              obtain ⟨e1, e2, e3, e4⟩ := HAJ.out
              rw [e1, e2, e3, e4, HJ.out, HV.out, cR]
              rfl
            rw [← e]
            exact hn
          case measure => simp [intOf]; omega
        · have hl2 : decide ((j : Int) < 80) = false := by rw [decide_eq_false_iff_not]; omega
          obtain rfl : k = 64 := by omega
          have HJ := Lib.hid hj
          clear hj
          have lK : kL.length = 80 := rfl
          have s46 := hI2
          rw [HL19.out] at s46
          have f47 := s46.fr.get HH.out (by simp)
          have t48 := World.at_lt f47
          clear s46
          go_wp2_with fail
          clear f47 t48
          have s49 := hI2
          rw [HL19.out] at s49
          refine OwB.named (Q := fun X => Code.wp _ _ _ _ X) (show OwB w [(WV.heap.size, .cells (ints .u64 (H)) 119), (bk2, .cells (ints .u64 (V)) 135), (bk1, .cells (ints .u64 (kL)) 135)] _ from (s49.allocN (.cells (ints .u64 (H)) 119) (WV.heap.size) (by simp))) ?_
          intro V52 h51
          generalize WV.heap.size = bk50 at h51 ⊢
          clear s49 hI2
          obtain ⟨L53, hL53⟩ : ∃ L : List (Nat × Obj), L = [(bk50, .cells (ints .u64 (H)) 119), (bk2, .cells (ints .u64 (V)) 135), (bk1, .cells (ints .u64 (kL)) 135)] := ⟨_, rfl⟩
          rw [← hL53] at h51
          have HL53 := Lib.hid hL53
          clear hL53
          have hst : OwB w [(bk50, .cells (ints .u64 (vR V H 0)) 119), (bk2, .cells (ints .u64 (V)) 135), (bk1, .cells (ints .u64 (kL)) 135)] V52 := HL53.out ▸ h51
          clear h51
          go_loopw [80] (fun iv wx => ∃ r : Nat, r ≤ 80 ∧ iv = .int .i64 (r : Int) ∧ Hid (OwB w [(bk50, .cells (ints .u64 (vR V H r)) 119), (bk2, .cells (ints .u64 (V)) 135), (bk1, .cells (ints .u64 (kL)) 135)] wx)) (fun iv _ => (80 - intOf iv).toNat)
          case atStart => exact ⟨0, by omega, rfl, hst⟩
          case round =>
            obtain ⟨r, hr, rfl, hO⟩ := hrel
            clear hst
            have hI := hO.out
            clear hO
            obtain ⟨X, hX⟩ : ∃ X, X = vR V H r := ⟨_, rfl⟩
            have lX : X.length = 8 := by rw [hX]; exact length_vR V H lH r
            have wX : Wrd X := by rw [hX]; exact wrd_vR WH.out r
            rw [← hX] at hI
            have HX := Lib.hid hX
            have WX := Lib.hid wX
            clear hX wX
            refine OwB.named (Q := fun X => Code.wp _ _ _ _ X) hI ?_
            intro WX2 hI3
            clear hI
            obtain ⟨L54, hL54⟩ : ∃ L : List (Nat × Obj), L = [(bk50, .cells (ints .u64 (X)) 119), (bk2, .cells (ints .u64 (V)) 135), (bk1, .cells (ints .u64 (kL)) 135)] := ⟨_, rfl⟩
            rw [← hL54] at hI3
            have HL54 := Lib.hid hL54
            clear hL54
            by_cases hlt3 : r < 80
            · have hl3 : decide ((r : Int) < 80) = true := by rw [decide_eq_true_eq]; omega
              go_wp2_with fail
              refine drawn_begin 5 (OwB w L54) (by kernel_rfl) ?_
              refine OwB.named (Q := fun X => Go.Dr.wpAnyS Try.prog .any _ _ _ _ _ _ _ X) (hI3.drew) ?_
              intro V55 h56
              clear hI3
              have s57 := h56
              rw [HL54.out] at s57
              have f58 := s57.nth 0 rfl
              clear s57
              refine drawn_reads (fuel := 1) [0, 1, 2, 3, 4] rfl (by kernel_rfl) (h56) ?_
              repeat (first | (refine rowK_step2 rfl rfl (fun K hK => ?_); go_wp2) | (refine rowK_step rfl (fun K hK => ?_); go_simp; refine hK _ ?_; clear hK K) | (refine rowK_step rfl (fun K hK => ?_); go_simp; refine ⟨by decide, hK _ ?_⟩; clear hK K))
              refine rowK_nil ⟨fun w' hw' => ?_, ?_⟩
              · rw [HL54.out] at hw'
                have g59 := hw'.nth 0 rfl
                clear f58
                repeat (first | (refine rowWp_step2 rfl rfl (fun K hK => ?_); go_wp2) | (refine rowWp_step rfl (fun K hK => ?_); go_simp; refine hK _ ?_; clear hK K) | (refine rowWp_step rfl (fun K hK => ?_); go_simp; refine ⟨by decide, hK _ ?_⟩; clear hK K))
                exact rowWp_nil rfl
              clear f58
              refine drawn_end (ol := [_]) rfl (by kernel_rfl) ?_
              intro K hK
              go_wp2_with fail
              refine drawn_begin 30 (OwB w L54) (by kernel_rfl) ?_
              refine OwB.named (Q := fun X => Go.Dr.wpAnyS Try.prog .any _ _ _ _ _ _ _ X) (h56.drew) ?_
              intro V60 h61
              clear h56
              have s62 := h61
              rw [HL54.out] at s62
              have f63 := s62.nth 0 rfl
              have f64 := s62.nth 2 rfl
              have f65 := s62.nth 1 rfl
              clear s62
              refine drawn_reads (fuel := 10) [0, 1, 2, 4, 7, 11, 12, 13, 14, 15, 16, 17, 18, 19, 20, 22, 23, 24, 26, 27, 28] rfl (by kernel_rfl) (h61) ?_
              repeat (first | (refine rowK_step2 rfl rfl (fun K hK => ?_); go_wp2) | (refine rowK_step rfl (fun K hK => ?_); go_simp; refine hK _ ?_; clear hK K) | (refine rowK_step rfl (fun K hK => ?_); go_simp; refine ⟨by decide, hK _ ?_⟩; clear hK K))
              refine rowK_nil ⟨fun w' hw' => ?_, ?_⟩
              · rw [HL54.out] at hw'
                have g66 := hw'.nth 0 rfl
                have g67 := hw'.nth 2 rfl
                have g68 := hw'.nth 1 rfl
                clear f63 f64 f65
                repeat (first | (refine rowWp_step2 rfl rfl (fun K hK => ?_); go_wp2) | (refine rowWp_step rfl (fun K hK => ?_); go_simp; refine hK _ ?_; clear hK K) | (refine rowWp_step rfl (fun K hK => ?_); go_simp; refine ⟨by decide, hK _ ?_⟩; clear hK K))
                exact rowWp_nil rfl
              clear f63 f64 f65
              refine drawn_next 3 (fuel := 9) rfl (by kernel_rfl) ?_
              intro K hK
              go_wp2_with fail
              refine (rotl_14 _ (wrd_el WX.out 4)).mono ?_
              rintro e w69 ⟨rfl, F70⟩
              have h71 := (h61).call F70
              clear F70 h61
              simp only []
              go_wp2
              refine ⟨h71, ?_⟩
              refine drawn_next 5 (fuel := 8) rfl (by kernel_rfl) ?_
              intro K hK
              go_wp2_with fail
              refine (rotl_18 _ (wrd_el WX.out 4)).mono ?_
              rintro e w72 ⟨rfl, F73⟩
              have h74 := (h71).call F73
              clear F73 h71
              simp only []
              go_wp2
              refine ⟨h74, ?_⟩
              refine drawn_reads (fuel := 7) [6] rfl (by kernel_rfl) (h74) ?_
              repeat (first | (refine rowK_step2 rfl rfl (fun K hK => ?_); go_wp2) | (refine rowK_step rfl (fun K hK => ?_); go_simp; refine hK _ ?_; clear hK K) | (refine rowK_step rfl (fun K hK => ?_); go_simp; refine ⟨by decide, hK _ ?_⟩; clear hK K))
              refine rowK_nil ⟨fun w' hw' => ?_, ?_⟩
              · skip
                repeat (first | (refine rowWp_step2 rfl rfl (fun K hK => ?_); go_wp2) | (refine rowWp_step rfl (fun K hK => ?_); go_simp; refine hK _ ?_; clear hK K) | (refine rowWp_step rfl (fun K hK => ?_); go_simp; refine ⟨by decide, hK _ ?_⟩; clear hK K))
                exact rowWp_nil rfl
              refine drawn_next 8 (fuel := 6) rfl (by kernel_rfl) ?_
              intro K hK
              go_wp2_with fail
              refine (rotl_41 _ (wrd_el WX.out 4)).mono ?_
              rintro e w75 ⟨rfl, F76⟩
              have h77 := (h74).call F76
              clear F76 h74
              simp only []
              go_wp2
              refine ⟨h77, ?_⟩
              refine drawn_reads (fuel := 1) [9, 10, 21, 25, 29] rfl (by kernel_rfl) (h77) ?_
              repeat (first | (refine rowK_step2 rfl rfl (fun K hK => ?_); go_wp2) | (refine rowK_step rfl (fun K hK => ?_); go_simp; refine hK _ ?_; clear hK K) | (refine rowK_step rfl (fun K hK => ?_); go_simp; refine ⟨by decide, hK _ ?_⟩; clear hK K))
              refine rowK_nil ⟨fun w' hw' => ?_, ?_⟩
              · skip
                repeat (first | (refine rowWp_step2 rfl rfl (fun K hK => ?_); go_wp2) | (refine rowWp_step rfl (fun K hK => ?_); go_simp; refine hK _ ?_; clear hK K) | (refine rowWp_step rfl (fun K hK => ?_); go_simp; refine ⟨by decide, hK _ ?_⟩; clear hK K))
                exact rowWp_nil rfl
              refine drawn_end (ol := [_]) rfl (by kernel_rfl) ?_
              intro K hK
              go_wp2_with fail
              refine drawn_begin 24 (OwB w L54) (by kernel_rfl) ?_
              refine OwB.named (Q := fun X => Go.Dr.wpAnyS Try.prog .any _ _ _ _ _ _ _ X) (h77.drew) ?_
              intro V78 h79
              clear h77
              have s80 := h79
              rw [HL54.out] at s80
              have f81 := s80.nth 0 rfl
              clear s80
              refine drawn_reads (fuel := 7) [0, 2, 5, 8, 9, 10, 11, 12, 13, 14, 15, 16, 17, 18, 19, 20, 21, 22] rfl (by kernel_rfl) (h79) ?_
              repeat (first | (refine rowK_step2 rfl rfl (fun K hK => ?_); go_wp2) | (refine rowK_step rfl (fun K hK => ?_); go_simp; refine hK _ ?_; clear hK K) | (refine rowK_step rfl (fun K hK => ?_); go_simp; refine ⟨by decide, hK _ ?_⟩; clear hK K))
              refine rowK_nil ⟨fun w' hw' => ?_, ?_⟩
              · rw [HL54.out] at hw'
                have g82 := hw'.nth 0 rfl
                clear f81
                repeat (first | (refine rowWp_step2 rfl rfl (fun K hK => ?_); go_wp2) | (refine rowWp_step rfl (fun K hK => ?_); go_simp; refine hK _ ?_; clear hK K) | (refine rowWp_step rfl (fun K hK => ?_); go_simp; refine ⟨by decide, hK _ ?_⟩; clear hK K))
                exact rowWp_nil rfl
              clear f81
              refine drawn_next 1 (fuel := 6) rfl (by kernel_rfl) ?_
              intro K hK
              go_wp2_with fail
              refine (rotl_28 _ (wrd_el WX.out 0)).mono ?_
              rintro e w83 ⟨rfl, F84⟩
              have h85 := (h79).call F84
              clear F84 h79
              simp only []
              go_wp2
              refine ⟨h85, ?_⟩
              refine drawn_next 3 (fuel := 5) rfl (by kernel_rfl) ?_
              intro K hK
              go_wp2_with fail
              refine (rotl_34 _ (wrd_el WX.out 0)).mono ?_
              rintro e w86 ⟨rfl, F87⟩
              have h88 := (h85).call F87
              clear F87 h85
              simp only []
              go_wp2
              refine ⟨h88, ?_⟩
              refine drawn_reads (fuel := 4) [4] rfl (by kernel_rfl) (h88) ?_
              repeat (first | (refine rowK_step2 rfl rfl (fun K hK => ?_); go_wp2) | (refine rowK_step rfl (fun K hK => ?_); go_simp; refine hK _ ?_; clear hK K) | (refine rowK_step rfl (fun K hK => ?_); go_simp; refine ⟨by decide, hK _ ?_⟩; clear hK K))
              refine rowK_nil ⟨fun w' hw' => ?_, ?_⟩
              · skip
                repeat (first | (refine rowWp_step2 rfl rfl (fun K hK => ?_); go_wp2) | (refine rowWp_step rfl (fun K hK => ?_); go_simp; refine hK _ ?_; clear hK K) | (refine rowWp_step rfl (fun K hK => ?_); go_simp; refine ⟨by decide, hK _ ?_⟩; clear hK K))
                exact rowWp_nil rfl
              refine drawn_next 6 (fuel := 3) rfl (by kernel_rfl) ?_
              intro K hK
              go_wp2_with fail
              refine (rotl_39 _ (wrd_el WX.out 0)).mono ?_
              rintro e w89 ⟨rfl, F90⟩
              have h91 := (h88).call F90
              clear F90 h88
              simp only []
              go_wp2
              refine ⟨h91, ?_⟩
              refine drawn_reads (fuel := 1) [7, 23] rfl (by kernel_rfl) (h91) ?_
              repeat (first | (refine rowK_step2 rfl rfl (fun K hK => ?_); go_wp2) | (refine rowK_step rfl (fun K hK => ?_); go_simp; refine hK _ ?_; clear hK K) | (refine rowK_step rfl (fun K hK => ?_); go_simp; refine ⟨by decide, hK _ ?_⟩; clear hK K))
              refine rowK_nil ⟨fun w' hw' => ?_, ?_⟩
              · skip
                repeat (first | (refine rowWp_step2 rfl rfl (fun K hK => ?_); go_wp2) | (refine rowWp_step rfl (fun K hK => ?_); go_simp; refine hK _ ?_; clear hK K) | (refine rowWp_step rfl (fun K hK => ?_); go_simp; refine ⟨by decide, hK _ ?_⟩; clear hK K))
                exact rowWp_nil rfl
              refine drawn_end (ol := [_]) rfl (by kernel_rfl) ?_
              intro K hK
              have s92 := h91
              rw [HL54.out] at s92
              have f93 := s92.nth 0 rfl
              have t94 := s92.lt 0 rfl
              clear s92
              have s95 := h91
              rw [HL54.out] at s95
              go_wp2_with fail
              clear f93 t94
              go_roundw
              case rel =>
                refine ⟨r + 1, by omega, by simp, Lib.hid ?_⟩
                have hn := (s95.set 0 (.cells (ints .u64 (rnd X (el kL r) (el V r))) 119) rfl)
                have e : rnd X (el kL r) (el V r) = vR V H (r + 1) := by rw [HX.out, vR]
                rw [← e]
                exact hn
              case measure => simp [intOf]; omega
            · obtain rfl : r = 80 := by omega
              rw [show ((80 : Nat) : Int) = 80 from rfl]
              have hl3 : decide ((80 : Int) < 80) = false := by decide
              go_wp2_with fail
              obtain ⟨Z, hZ⟩ : ∃ Z, Z = X := ⟨_, rfl⟩
              clear hZ Z
              have hst : OwB w [(bk50, .cells (ints .u64 (X)) 119), (bk2, .cells (ints .u64 (V)) 135), (bk1, .cells (ints .u64 (kL)) 135)] WX2 := HL54.out ▸ hI3
              clear hI3
              go_loopw [160] (fun iv wy => ∃ (q : Nat) (base : World), q ≤ 8 ∧ iv = .int .i64 (q : Int) ∧ Hid (base.blk hb = some (.cells (ints .u64 (addR H X q)) 119)) ∧ Hid (Fr [hb] w base) ∧ Hid (OwB base [(bk50, .cells (ints .u64 (X)) 119), (bk2, .cells (ints .u64 (V)) 135), (bk1, .cells (ints .u64 (kL)) 135)] wy)) (fun iv _ => (8 - intOf iv).toNat)
              case atStart => exact ⟨0, w, by omega, rfl, Lib.hid (by rw [addR, upd_zero]; exact HH.out), Lib.hid (Fr.refl _ _), hst⟩
              case round =>
                obtain ⟨q, base, hq, rfl, hF, hB1, hO⟩ := hrel
                clear hst
                have hI := hO.out
                clear hO
                obtain ⟨F, hFF⟩ : ∃ F, F = addR H X q := ⟨_, rfl⟩
                have lF : F.length = 8 := by rw [hFF, addR, length_upd _ _ _ (by omega), lH]
                rw [← hFF] at hF
                have HF := Lib.hid hFF
                clear hFF
                have hlt4 : hb < base.heap.size := World.at_lt hF.out
                refine OwB.named (Q := fun X => Code.wp _ _ _ _ X) hI ?_
                intro WY hI4
                clear hI
                obtain ⟨L96, hL96⟩ : ∃ L : List (Nat × Obj), L = [(bk50, .cells (ints .u64 (X)) 119), (bk2, .cells (ints .u64 (V)) 135), (bk1, .cells (ints .u64 (kL)) 135)] := ⟨_, rfl⟩
                rw [← hL96] at hI4
                have HL96 := Lib.hid hL96
                clear hL96
                by_cases hlt5 : q < 8
                · have hl4 : decide ((q : Int) < 8) = true := by rw [decide_eq_true_eq]; omega
                  go_wp2_with fail
                  refine drawn_begin 11 (OwB base L96) (by kernel_rfl) ?_
                  refine OwB.named (Q := fun X => Go.Dr.wpAnyS Try.prog .any _ _ _ _ _ _ _ X) (hI4.drew) ?_
                  intro V97 h98
                  clear hI4
                  have s99 := h98
                  rw [HL96.out] at s99
                  have f100 := s99.fr.get hF.out (by simp)
                  have f101 := s99.nth 0 rfl
                  clear s99
                  refine drawn_reads (fuel := 1) [0, 1, 2, 3, 4, 5, 6, 7, 8, 9, 10] rfl (by kernel_rfl) (h98) ?_
                  repeat (first | (refine rowK_step2 rfl rfl (fun K hK => ?_); go_wp2) | (refine rowK_step rfl (fun K hK => ?_); go_simp; refine hK _ ?_; clear hK K) | (refine rowK_step rfl (fun K hK => ?_); go_simp; refine ⟨by decide, hK _ ?_⟩; clear hK K))
                  refine rowK_nil ⟨fun w' hw' => ?_, ?_⟩
                  · rw [HL96.out] at hw'
                    have g102 := hw'.fr.get hF.out (by simp)
                    have g103 := hw'.nth 0 rfl
                    clear f100 f101
                    repeat (first | (refine rowWp_step2 rfl rfl (fun K hK => ?_); go_wp2) | (refine rowWp_step rfl (fun K hK => ?_); go_simp; refine hK _ ?_; clear hK K) | (refine rowWp_step rfl (fun K hK => ?_); go_simp; refine ⟨by decide, hK _ ?_⟩; clear hK K))
                    exact rowWp_nil rfl
                  clear f100 f101
                  refine drawn_end (ol := [_]) rfl (by kernel_rfl) ?_
                  intro K hK
                  have s104 := h98
                  rw [HL96.out] at s104
                  have f105 := s104.fr.get hF.out (by simp)
                  have t106 := World.at_lt f105
                  clear s104
                  go_wp2_with fail
                  clear f105 t106
                  go_roundw
                  case rel =>
                    have hn := h98
                    rw [HL96.out] at hn
                    have e : F.set q (IntKind.u64.wrap (el F q + el X q)) = addR H X (q + 1) := by
                      have hq2 : el F q = el H q := by rw [HF.out, addR, el_upd, if_neg (by omega)]
                      rw [hq2, HF.out]
                      exact set_upd _ _ _ (by omega)
                    refine ⟨q + 1, base.put hb (.cells (ints .u64 (addR H X (q + 1))) 119), by omega, by simp, Lib.hid (World.at_put_same _ _ _ hlt4), Lib.hid (hB1.out.put _ _ fun _ => by simp), Lib.hid ?_⟩
                    rw [← e]
                    exact hn.over _ hlt4
                  case measure => simp [intOf]; omega
                · obtain rfl : q = 8 := by omega
                  rw [show ((8 : Nat) : Int) = 8 from rfl]
                  have hl4 : decide ((8 : Int) < 8) = false := by decide
                  go_wp2_with fail
                  go_end0
                  have hn := hI4
                  rw [HL96.out] at hn
                  refine ⟨rfl, ?_, hB1.out.seq hn.fr (by simp)⟩
                  rw [hn.fr.get hF.out (by simp), HF.out, HX.out, HV.out, HW0.out]
                  rfl
end
end Go.Proofs.Ytakhmmnklkckpaa
