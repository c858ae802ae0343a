/- What Decode gives, on both sides: the point that the bytes are, or the zero point. The base, on both sides. Two points of the same bytes; the curve's example. -/
import Derived.Test.YtakhmmnklkckpaaZs
import Derived.Test.YtakhmmnklkckpaaZx
import Derived.Test.YtakhmmnklkckpaaZl
namespace Go.Proofs.Ytakhmmnklkckpaa
open Go.RowKit Go.Dr
theorem length_lowB (b : List Int) : (lowB b).length = b.length := by rw [lowB, List.length_set]
theorem byt_lowB {b : List Int} (hb : Byt b) : Byt (lowB b) := byt_set hb 31 (by omega)
theorem lowD_eq {b : List Int} (hb : Byt b) : lowD b = lowB b := by rw [lowD, lowB, Int.tmod_eq_emod_of_nonneg (byt_el hb 31).1]
section
variable {w : World} {b : List Int}
theorem cdec_v (hl : b.length = 32) (hb : Byt b) : Calls Try.prog 80 #[.agg (ints .u8 b)] w fun e w' => ∃ v ok, e = .returned (.tuple #[v, .bool ok]) ∧ DecV b (lowB b) (decY b) (decR b) (rootOk (decXX (decY b))) v ok ∧ Fr [] w w' := by
  have hC := (lowC_eq hb).symm
  have lC := (length_lowB b).trans hl
  have bC := byt_lowB hb
  have h31 := byt_el hb 31
  by_cases h1 : bytesF (decY b) = lowB b
  · cases ho : rootOk (decXX (decY b)) with
    | false => exact cdec_none b _ _ _ hl hC lC bC rfl rfl ho.symm h1
    | true =>
      by_cases h2 : el b 31 / 128 = 0
      · exact cdec_even b _ _ _ hl hC lC bC rfl rfl ho.symm h1 h2
      · have h3 : el b 31 / 128 = 1 := by omega
        cases hz : (bytesF (decR b) == [0, 0, 0, 0, 0, 0, 0, 0, 0, 0, 0, 0, 0, 0, 0, 0, 0, 0, 0, 0, 0, 0, 0, 0, 0, 0, 0, 0, 0, 0, 0, 0]) with
        | true => exact cdec_zero b _ _ _ hl hC lC bC rfl rfl ho.symm h1 h3 hz
        | false => exact cdec_odd b _ _ _ hl hC lC bC rfl rfl ho.symm h1 h3 hz
  · exact cdec_no b _ _ _ hl hC lC bC rfl rfl _ h1
theorem decPt_bad (h : decOk b = false) : decPt b = pz := by rw [decPt, h, if_neg Bool.false_ne_true]
theorem decPt_good (h : decOk b = true) : decPt b = decP b := by rw [decPt, h, if_pos rfl]
theorem cdec_p (hl : b.length = 32) (hb : Byt b) : Calls Try.prog 80 #[.agg (ints .u8 b)] w fun e w' => ∃ x y z t s, e = .returned (.tuple #[.agg (ptC x y z t s), .bool (decOk b)]) ∧ CP x y z t s (decPt b) ∧ Fr [] w w' := by
  refine (cdec_v hl hb).mono ?_
  rintro e w' ⟨v, ok, he, h, hF⟩
  rcases h with ⟨h, rfl, rfl⟩ | ⟨X, h, rfl, k, l, m, n, rfl, h1, h2, h3, h4⟩
  · have hd := bad_dec hb h
    rw [hd, decPt_bad hd]
    exact ⟨_, _, _, _, _, he, CP.zero, hF⟩
  · obtain ⟨hd, hx⟩ := good_dec hb h
    rw [hd, decPt_good hd]
    subst hx
    exact ⟨_, _, _, _, _, he, ⟨_, _, _, _, CpOk.mk' h1 h2 h3 h4, csays_dec (decOk_iff.1 hd).2.1⟩, hF⟩
theorem ddec_v (hl : b.length = 32) (hb : Byt b) : Calls Try.prog 81 #[.agg (ints .u8 b)] w fun e w' => ∃ v ok, e = .returned (.tuple #[v, .bool ok]) ∧ DecD b (lowB b) (decY b) (decR b) (rootOk (decXX (decY b))) 0 1 v ok ∧ Fr [] w w' := by
  have hC := (lowD_eq hb).symm
  have lC := (length_lowB b).trans hl
  have bC := byt_lowB hb
  by_cases h1 : bytesF (decY b) = lowB b
  · cases ho : rootOk (decXX (decY b)) with
    | false => exact ddec_none b _ _ _ _ _ _ hl hC lC bC rfl rfl toFp_one toFp_zero rfl ho.symm h1
    | true =>
      by_cases h2 : 128 ≤ el b 31
      · by_cases hz : digs (decR b).val = digs (0 : Fp).val
        · exact ddec_zero b _ _ _ _ _ _ hl hC lC bC rfl rfl toFp_one toFp_zero rfl ho.symm h1 h2 hz
        · exact ddec_odd b _ _ _ _ _ _ hl hC lC bC rfl rfl toFp_one toFp_zero rfl ho.symm h1 h2 hz
      · exact ddec_even b _ _ _ _ _ _ hl hC lC bC rfl rfl toFp_one toFp_zero rfl ho.symm h1 h2
  · exact ddec_no b _ _ _ _ _ _ hl hC lC bC rfl rfl toFp_one toFp_zero rfl _ h1
theorem badD (hb : Byt b) {C : List Int} {y r : Fp} {ro : Bool} (h : BadD b C y r ro 0) : BadV b C y r ro := by
  have h31 := byt_el hb 31
  rcases h with h | h | ⟨h1, h2, h3, h4⟩
  · exact .inl h
  · exact .inr (.inl h)
  · exact .inr (.inr ⟨h1, h2, by omega, bytes_zero.2 ((digs_eq r 0).1 h4)⟩)
theorem goodD (hb : Byt b) {C : List Int} {y r X : Fp} {ro : Bool} (h : GoodD b C y r ro 0 X) : GoodV b C y r ro X := by
  have h31 := byt_el hb 31
  obtain ⟨h1, h2, h⟩ := h
  rcases h with ⟨h3, h4⟩ | ⟨h3, h4, h5⟩
  · exact ⟨h1, h2, .inl ⟨by omega, h4⟩⟩
  · exact ⟨h1, h2, .inr ⟨by omega, fun e => h4 ((digs_eq r 0).2 (bytes_zero.1 e)), h5⟩⟩
theorem ddec_p (hl : b.length = 32) (hb : Byt b) : Calls Try.prog 81 #[.agg (ints .u8 b)] w fun e w' => ∃ X Y Z, e = .returned (.tuple #[.agg (dpC X Y Z), .bool (decOk b)]) ∧ DSays X Y Z (decPt b) ∧ Fr [] w w' := by
  refine (ddec_v hl hb).mono ?_
  rintro e w' ⟨v, ok, he, h, hF⟩
  rcases h with ⟨h, rfl, rfl⟩ | ⟨X, h, rfl, rfl⟩
  · have hd := bad_dec hb (badD hb h)
    rw [hd, decPt_bad hd]
    exact ⟨_, _, _, he, dsays_zero, hF⟩
  · obtain ⟨hd, hx⟩ := good_dec hb (goodD hb h)
    rw [hd, decPt_good hd]
    subst hx
    exact ⟨_, _, _, he, dsays_dec (decOk_iff.1 hd).2.1, hF⟩
theorem rbytes_n {x : Fp} {B : List Int} (h : bytesF x = B) : Calls Try.prog 28 #[dF x] w fun e w' => e = .returned (.agg (ints .u8 B)) ∧ Fr [] w w' := h ▸ rbytes_f x
theorem cdec_n {P : Pt} {ok : Bool} (hP : decPt b = P) (ho : decOk b = ok) (hl : b.length = 32) (hb : Byt b) : Calls Try.prog 80 #[.agg (ints .u8 b)] w fun e w' => ∃ x y z t s, e = .returned (.tuple #[.agg (ptC x y z t s), .bool ok]) ∧ CP x y z t s P ∧ Fr [] w w' := hP ▸ ho ▸ cdec_p hl hb
theorem ddec_n {P : Pt} {ok : Bool} (hP : decPt b = P) (ho : decOk b = ok) (hl : b.length = 32) (hb : Byt b) : Calls Try.prog 81 #[.agg (ints .u8 b)] w fun e w' => ∃ X Y Z, e = .returned (.tuple #[.agg (dpC X Y Z), .bool ok]) ∧ DSays X Y Z P ∧ Fr [] w w' := hP ▸ ho ▸ ddec_p hl hb
end
end Go.Proofs.Ytakhmmnklkckpaa
namespace Go.Proofs.Ytakhmmnklkckpaa
open Go.RowKit Go.Dr

section
variable {w : World}
set_option maxRecDepth 100000 in
set_option maxHeartbeats 8000000 in
theorem cbase_core (V : List Int) (P : Pt) (hV : V = (upd (fun _ => 102) (zs 32) 32)) (hP : decPt (V.set 0 88) = P) (hB : Byt (V.set 0 88)) : Calls Try.prog 56 #[] w fun e w' => ∃ x y z t s, e = .returned (.agg (ptC x y z t s)) ∧ CP x y z t s P ∧ Fr [] w w' := by
  have HV := Lib.hid hV
  have HP := Lib.hid hP
  have HB := Lib.hid hB
  clear hV hP hB
  go_enter Try.func56, Try.ntmps56
  go_wp2_with fail
  refine OwB.named (Q := fun X => Code.wp _ _ _ _ X) (show OwB w [(w.heap.size + 1, .cells (ints .u8 (List.replicate 32 0)) 22), (w.heap.size, .cells (ptC (zs 5) (zs 5) (zs 5) (zs 5) false) 49)] _ from (((OwB.start w).allocN (.cells (ptC (zs 5) (zs 5) (zs 5) (zs 5) false) 49) w.heap.size rfl).allocN (.cells (ints .u8 (List.replicate 32 0)) 22) (w.heap.size + 1) (by simp))) ?_
  intro V4 h3
  generalize w.heap.size + 1 = bk2 at h3 ⊢
  generalize w.heap.size = bk1 at h3 ⊢
  obtain ⟨L5, hL5⟩ : ∃ L : List (Nat × Obj), L = [(bk2, .cells (ints .u8 (List.replicate 32 0)) 22), (bk1, .cells (ptC (zs 5) (zs 5) (zs 5) (zs 5) false) 49)] := ⟨_, rfl⟩
  rw [← hL5] at h3
  have HL5 := Lib.hid hL5
  clear hL5
  have hst : OwB w [(bk2, .cells (ints .u8 (zs 32)) 22), (bk1, .cells (ptC (zs 5) (zs 5) (zs 5) (zs 5) false) 49)] V4 := HL5.out ▸ h3
  clear h3
  go_loopw [5] (fun iv wr => ∃ k : Nat, k ≤ 32 ∧ iv = .int .i64 (k : Int) ∧ Hid (OwB w [(bk2, .cells (ints .u8 (upd (fun _ => 102) (zs 32) k)) 22), (bk1, .cells (ptC (zs 5) (zs 5) (zs 5) (zs 5) false) 49)] wr)) (fun iv _ => (32 - intOf iv).toNat)
  case atStart => exact ⟨0, by omega, rfl, Lib.hid (by rw [upd_zero]; exact hst)⟩
  case round =>
    obtain ⟨k, hk, rfl, hO⟩ := hrel
    clear hst
    have hI := hO.out
    clear hO
    have lU : (upd (fun _ => 102) (zs 32) k).length = 32 := length_upd _ _ _ (by rw [length_zs]; omega)
    obtain ⟨U, hU⟩ : ∃ U, U = upd (fun _ => 102) (zs 32) k := ⟨_, rfl⟩
    rw [← hU] at hI lU
    have HU := Lib.hid hU
    clear hU
    obtain ⟨L6, hL6⟩ : ∃ L : List (Nat × Obj), L = [(bk2, .cells (ints .u8 (U)) 22), (bk1, .cells (ptC (zs 5) (zs 5) (zs 5) (zs 5) false) 49)] := ⟨_, rfl⟩
    rw [← hL6] at hI
    have HL6 := Lib.hid hL6
    clear hL6
    by_cases hlt : k < 32
    · have hl1 : decide ((k : Int) < 32) = true := by rw [decide_eq_true_eq]; omega
      have s7 := hI
      rw [HL6.out] at s7
      have f8 := s7.nth 0 rfl
      have t9 := s7.lt 0 rfl
      clear s7
      go_wp2_with fail
      clear f8 t9
      have s10 := hI
      rw [HL6.out] at s10
      go_roundw
      case rel =>
        refine ⟨k + 1, by omega, by simp, Lib.hid ?_⟩
        have hn := (s10.set 0 (.cells (ints .u8 (U.set k 102)) 22) rfl)
        rw [← set_upd (fun _ => 102) (zs 32) k (by rw [length_zs]; omega), ← HU.out]
        exact hn
      case measure => simp [intOf]; omega
    · obtain rfl : k = 32 := by omega
      have hl1 : decide (((32 : Nat) : Int) < 32) = false := by decide
      obtain rfl : U = V := by rw [HU.out, HV.out]
      clear HU HV
      have s11 := hI
      rw [HL6.out] at s11
      have f12 := s11.nth 0 rfl
      have t13 := s11.lt 0 rfl
      clear s11
      go_wp2_with fail
      clear f12 t13
      have s14 := hI
      rw [HL6.out] at s14
      refine (cdec_n HP.out rfl (by rw [List.length_set]; exact lU) HB.out).mono ?_
      rintro e w15 ⟨x17, y18, z19, t20, s21, rfl, k22, F16⟩
      have nx17 := k22.nx
      have ny18 := k22.ny
      have nz19 := k22.nz
      have nt20 := k22.nt
      have Hk22 := Lib.hid k22
      clear k22
      have h23 : OwB w [(bk2, .cells (ints .u8 (U.set 0 88)) 22), (bk1, .cells (ptC (zs 5) (zs 5) (zs 5) (zs 5) false) 49)] w15 := ((s14.set 0 (.cells (ints .u8 (U.set 0 88)) 22) rfl)).call F16
      clear F16
      simp only []
      clear s14 hI
      obtain ⟨L24, hL24⟩ : ∃ L : List (Nat × Obj), L = [(bk2, .cells (ints .u8 (U.set 0 88)) 22), (bk1, .cells (ptC (zs 5) (zs 5) (zs 5) (zs 5) false) 49)] := ⟨_, rfl⟩
      rw [← hL24] at h23
      have HL24 := Lib.hid hL24
      clear hL24
      have s25 := h23
      rw [HL24.out] at s25
      have f26 := s25.nth 1 rfl
      have t27 := s25.lt 1 rfl
      clear s25
      go_wp2_with fail
      clear f26 t27
      have s28 := h23
      rw [HL24.out] at s28
      refine OwB.named (Q := fun X => bodyPost _ _ _ _ _ X) (show OwB w [(w15.heap.size, .cells (ptC x17 y18 z19 t20 s21) 49), (bk2, .cells (ints .u8 (U.set 0 88)) 22), (bk1, .cells (ptC x17 y18 z19 t20 s21) 49)] _ from ((s28.set 1 (.cells (ptC x17 y18 z19 t20 s21) 49) rfl).allocN (.cells (ptC x17 y18 z19 t20 s21) 49) (w15.heap.size) (by simp))) ?_
      intro V31 h30
      generalize w15.heap.size = bk29 at h30 ⊢
      clear s28 h23
      obtain ⟨L32, hL32⟩ : ∃ L : List (Nat × Obj), L = [(bk29, .cells (ptC x17 y18 z19 t20 s21) 49), (bk2, .cells (ints .u8 (U.set 0 88)) 22), (bk1, .cells (ptC x17 y18 z19 t20 s21) 49)] := ⟨_, rfl⟩
      rw [← hL32] at h30
      have HL32 := Lib.hid hL32
      clear hL32
      have s33 := h30
      rw [HL32.out] at s33
      refine ret_cell rfl rfl rfl ?_
      refine cellRet_of (s33.nth 2 rfl) (by rw [size_ptC nx17 ny18 nz19 nt20]; kernel_rfl) ?_
      exact ⟨x17, y18, z19, t20, s21, rfl, Hk22.out, s33.fr⟩

set_option maxRecDepth 100000 in
set_option maxHeartbeats 8000000 in
theorem dbase_core (a b i m : Fp) (B : List Int) (P : Pt) (ha : toFp 4 = a) (hb : toFp 5 = b) (hi : inv b = i) (hm : a * i = m) (hB : bytesF m = B) (lB : B.length = 32) (bB : Byt B) (hP : decPt B = P) : Calls Try.prog 58 #[] w fun e w' => ∃ X Y Z, e = .returned (.agg (dpC X Y Z)) ∧ DSays X Y Z P ∧ Fr [] w w' := by
  have Ha := Lib.hid ha
  have Hb := Lib.hid hb
  have Hi := Lib.hid hi
  have Hm := Lib.hid hm
  have HB := Lib.hid hB
  have HP := Lib.hid hP
  have HY := Lib.hid bB
  clear ha hb hi hm hB hP bB
  go_enter Try.func58, Try.ntmps58
  go_wp2_with fail
  refine (small_n 4 (by decide) Ha.out).mono ?_
  rintro e w2 ⟨rfl, F3⟩
  have h4 : OwB w [(w.heap.size, .cells (ints .i64 (List.replicate 48 0)) 51)] w2 := (((OwB.start w).allocN (.cells (ints .i64 (List.replicate 48 0)) 51) w.heap.size rfl)).call F3
  clear F3
  simp only []
  generalize w.heap.size = bk1 at h4 ⊢
  obtain ⟨L5, hL5⟩ : ∃ L : List (Nat × Obj), L = [(bk1, .cells (ints .i64 (List.replicate 48 0)) 51)] := ⟨_, rfl⟩
  rw [← hL5] at h4
  have HL5 := Lib.hid hL5
  clear hL5
  go_wp2_with fail
  refine (small_n 5 (by decide) Hb.out).mono ?_
  rintro e w6 ⟨rfl, F7⟩
  have s9 := h4
  rw [HL5.out] at s9
  have h8 : OwB w [(bk1, .cells (ints .i64 (List.replicate 48 0)) 51)] w6 := (s9).call F7
  clear F7
  simp only []
  clear s9 h4
  obtain ⟨L10, hL10⟩ : ∃ L : List (Nat × Obj), L = [(bk1, .cells (ints .i64 (List.replicate 48 0)) 51)] := ⟨_, rfl⟩
  rw [← hL10] at h8
  have HL10 := Lib.hid hL10
  clear hL10
  go_wp2_with fail
  refine (rinv_n Hi.out).mono ?_
  rintro e w11 ⟨rfl, F12⟩
  have s14 := h8
  rw [HL10.out] at s14
  have h13 : OwB w [(bk1, .cells (ints .i64 (List.replicate 48 0)) 51)] w11 := (s14).call F12
  clear F12
  simp only []
  clear s14 h8
  obtain ⟨L15, hL15⟩ : ∃ L : List (Nat × Obj), L = [(bk1, .cells (ints .i64 (List.replicate 48 0)) 51)] := ⟨_, rfl⟩
  rw [← hL15] at h13
  have HL15 := Lib.hid hL15
  clear hL15
  go_wp2_with fail
  refine (rmul_n Hm.out).mono ?_
  rintro e w16 ⟨rfl, F17⟩
  have s19 := h13
  rw [HL15.out] at s19
  have h18 : OwB w [(bk1, .cells (ints .i64 (List.replicate 48 0)) 51)] w16 := (s19).call F17
  clear F17
  simp only []
  clear s19 h13
  obtain ⟨L20, hL20⟩ : ∃ L : List (Nat × Obj), L = [(bk1, .cells (ints .i64 (List.replicate 48 0)) 51)] := ⟨_, rfl⟩
  rw [← hL20] at h18
  have HL20 := Lib.hid hL20
  clear hL20
  go_wp2_with fail
  refine (rbytes_n HB.out).mono ?_
  rintro e w21 ⟨rfl, F22⟩
  have s24 := h18
  rw [HL20.out] at s24
  have h23 : OwB w [(bk1, .cells (ints .i64 (List.replicate 48 0)) 51)] w21 := (s24).call F22
  clear F22
  simp only []
  clear s24 h18
  obtain ⟨L25, hL25⟩ : ∃ L : List (Nat × Obj), L = [(bk1, .cells (ints .i64 (List.replicate 48 0)) 51)] := ⟨_, rfl⟩
  rw [← hL25] at h23
  have HL25 := Lib.hid hL25
  clear hL25
  go_wp2_with fail
  refine (ddec_n HP.out rfl lB HY.out).mono ?_
  rintro e w26 ⟨X28, Y29, Z30, rfl, k31, F27⟩
  have Hk31 := Lib.hid k31
  clear k31
  have s33 := h23
  rw [HL25.out] at s33
  have h32 : OwB w [(bk1, .cells (ints .i64 (List.replicate 48 0)) 51)] w26 := (s33).call F27
  clear F27
  simp only []
  clear s33 h23
  obtain ⟨L34, hL34⟩ : ∃ L : List (Nat × Obj), L = [(bk1, .cells (ints .i64 (List.replicate 48 0)) 51)] := ⟨_, rfl⟩
  rw [← hL34] at h32
  have HL34 := Lib.hid hL34
  clear hL34
  have s35 := h32
  rw [HL34.out] at s35
  have f36 := s35.nth 0 rfl
  have t37 := s35.lt 0 rfl
  clear s35
  go_wp2_with fail
  clear f36 t37
  have s38 := h32
  rw [HL34.out] at s38
  refine OwB.named (Q := fun X => bodyPost _ _ _ _ _ X) (show OwB w [(w26.heap.size, .cells (dpC X28 Y29 Z30) 51), (bk1, .cells (dpC X28 Y29 Z30) 51)] _ from ((s38.set 0 (.cells (dpC X28 Y29 Z30) 51) rfl).allocN (.cells (dpC X28 Y29 Z30) 51) (w26.heap.size) (by simp))) ?_
  intro V41 h40
  generalize w26.heap.size = bk39 at h40 ⊢
  clear s38 h32
  obtain ⟨L42, hL42⟩ : ∃ L : List (Nat × Obj), L = [(bk39, .cells (dpC X28 Y29 Z30) 51), (bk1, .cells (dpC X28 Y29 Z30) 51)] := ⟨_, rfl⟩
  rw [← hL42] at h40
  have HL42 := Lib.hid hL42
  clear hL42
  have s43 := h40
  rw [HL42.out] at s43
  refine ret_cell rfl rfl rfl ?_
  refine cellRet_of (s43.nth 1 rfl) (by rw [size_dpC]; kernel_rfl) ?_
  exact ⟨_, _, _, rfl, Hk31.out, s43.fr⟩

theorem upd_bs : (upd (fun _ => 102) (zs 32) 32).set 0 88 = bsB := rfl
theorem decPt_bs : decPt bsB = bsP := decPt_good bs_ok
theorem cbase_f : Calls Try.prog 56 #[] w fun e w' => ∃ x y z t s, e = .returned (.agg (ptC x y z t s)) ∧ CP x y z t s bsP ∧ Fr [] w w' := cbase_core _ bsP rfl (by rw [upd_bs]; exact decPt_bs) (by rw [upd_bs]; exact byt_bsB)
theorem five_inv : toFp 5 * toFp 11579208923731619542357098500868790785326998466564056403945758400791312963990 = 1 := by kernel_rfl
theorem four_fifths : toFp 4 * toFp 11579208923731619542357098500868790785326998466564056403945758400791312963990 = bsY := by kernel_rfl
theorem four_fifths' : toFp 4 * inv (toFp 5) = bsY := by rw [inv_of five_inv, four_fifths]
theorem dbase_f : Calls Try.prog 58 #[] w fun e w' => ∃ X Y Z, e = .returned (.agg (dpC X Y Z)) ∧ DSays X Y Z bsP ∧ Fr [] w w' := dbase_core _ _ _ _ bsB bsP rfl rfl rfl rfl (by rw [four_fifths', bs_bytes]) rfl byt_bsB decPt_bs
end
end Go.Proofs.Ytakhmmnklkckpaa
namespace Go.Proofs.Ytakhmmnklkckpaa
open Go.RowKit Go.Dr

section
variable {w : World}
theorem _root_.Go.Dr.ret_cell2_tmp2 {P : Program} {fn : Func} {R : Ending → World → Prop} {a : Act} {w : World} {p q ty tz b c u v : Nat} (h : fn.results = #[.cell p ty, .cell q tz, .tmp u, .tmp v]) (hp : a.tmps.getD p undef = .pointer (some ⟨b, 0, none⟩)) (hq : a.tmps.getD q undef = .pointer (some ⟨c, 0, none⟩)) (hd : a.defers = [])
    (hR : cellRet P ty (w.blk b) (fun x => cellRet P tz (w.blk c) (fun y => R (.returned (.tuple #[x, y, a.tmps.getD u undef, a.tmps.getD v undef])) w))) : bodyPost P fn R .ret a w := by
  unfold cellRet at hR
  split at hR
  · rename_i cs T fr hb
    obtain ⟨h1, hR⟩ := hR
    split at hR
    · rename_i ds T2 fr2 hc
      refine bodyPost_ret (v := .tuple #[.agg cs, .agg ds, a.tmps.getD u undef, a.tmps.getD v undef]) ?_ hd hR.2
      have hp' : a.tmps[p]?.getD undef = .pointer (some ⟨b, 0, none⟩) := by simpa using hp
      have hq' : a.tmps[q]?.getD undef = .pointer (some ⟨c, 0, none⟩) := by simpa using hq
      simp [results, h, hp', hq', asAddr, run_loadVar_agg hb h1, run_loadVar_agg hc hR.1]
    · exact hR.elim
  · exact hR.elim
theorem tmod_digs (U : Fp) : (el (digs U.val) 0).tmod 2 = ((U.val % 2 : Nat) : Int) := by
  have h := el_digs_lt U.val 0 (by omega)
  rw [Int.tmod_eq_emod_of_nonneg h.1, el_digs _ _ (by omega), Nat.pow_zero, Nat.div_one]
  omega
theorem denc_p {X Y Z : Fp} {P : Pt} {B : List Int} (hB : encP P = B) (h : DSays X Y Z P) : Calls Try.prog 51 #[.agg (dpC X Y Z)] w fun e w' => e = .returned (.agg (ints .u8 B)) ∧ Fr [] w w' := by
  have e := h.enc
  rw [hB] at e
  have lB : B.length = 32 := by rw [← hB]; exact length_encP P
  rcases (by omega : (X * inv Z).val % 2 = 0 ∨ (X * inv Z).val % 2 = 1) with hp | hp
  · exact denc_even B rfl rfl rfl (by rw [← e, encD_even hp]) lB (by rw [tmod_digs, hp]; rfl)
  · exact denc_odd B rfl rfl rfl (by rw [← e, encD_eq hp]) lB (by rw [tmod_digs, hp]; rfl)
theorem dadd_p {X1 Y1 Z1 X2 Y2 Z2 : Fp} {P Q : Pt} (h1 : DSays X1 Y1 Z1 P) (h2 : DSays X2 Y2 Z2 Q) : Calls Try.prog 52 #[.agg (dpC X1 Y1 Z1), .agg (dpC X2 Y2 Z2)] w fun e w' => ∃ X Y Z, e = .returned (.agg (dpC X Y Z)) ∧ DSays X Y Z (pad dC P Q) ∧ Fr [] w w' :=
  (dadd_c rfl rfl rfl).mono fun _e _w' ⟨he, hF⟩ => ⟨_, _, _, he, dsays_add h1 h2, hF⟩
theorem dneg_p {X Y Z : Fp} {P : Pt} (h : DSays X Y Z P) : Calls Try.prog 54 #[.agg (dpC X Y Z)] w fun e w' => ∃ X Y Z, e = .returned (.agg (dpC X Y Z)) ∧ DSays X Y Z (pn P) ∧ Fr [] w w' :=
  (dneg_c X Y Z).mono fun _e _w' ⟨he, hF⟩ => ⟨_, _, _, he, dsays_neg h, hF⟩
theorem cbase_n {bs : Pt} (h : bsP = bs) : Calls Try.prog 56 #[] w fun e w' => ∃ x y z t s, e = .returned (.agg (ptC x y z t s)) ∧ CP x y z t s bs ∧ Fr [] w w' := h ▸ cbase_f
theorem dbase_n {bs : Pt} (h : bsP = bs) : Calls Try.prog 58 #[] w fun e w' => ∃ X Y Z, e = .returned (.agg (dpC X Y Z)) ∧ DSays X Y Z bs ∧ Fr [] w w' := h ▸ dbase_f

set_option maxRecDepth 100000 in
set_option maxHeartbeats 8000000 in
theorem two_core (b : List Int) (P : Pt) (ok : Bool) (hl : b.length = 32) (hb : Byt b) (hP : decPt b = P) (ho : decOk b = ok) : Calls Try.prog 48 #[.agg (ints .u8 b)] w fun e w' => ∃ x y z t s X Y Z, e = .returned (.tuple #[.agg (ptC x y z t s), .agg (dpC X Y Z), .bool ok, .bool true]) ∧ CP x y z t s P ∧ DSays X Y Z P ∧ Fr [] w w' := by
  have HP := Lib.hid hP
  have HO := Lib.hid ho
  have HB := Lib.hid hb
  clear hP ho hb
  go_enter Try.func48, Try.ntmps48
  go_wp2_with fail
  refine (cdec_n HP.out HO.out hl HB.out).mono ?_
  rintro e w4 ⟨x6, y7, z8, t9, s10, rfl, k11, F5⟩
  have nx6 := k11.nx
  have ny7 := k11.ny
  have nz8 := k11.nz
  have nt9 := k11.nt
  have Hk11 := Lib.hid k11
  clear k11
  have h12 : OwB w [(w.heap.size + 2, .cells (ints .i64 (List.replicate 48 0)) 51), (w.heap.size + 1, .cells (ptC (zs 5) (zs 5) (zs 5) (zs 5) false) 49), (w.heap.size, .cells (ints .u8 (b)) 22)] w4 := (((((OwB.start w).allocN (.cells (ints .u8 (b)) 22) w.heap.size rfl).allocN (.cells (ptC (zs 5) (zs 5) (zs 5) (zs 5) false) 49) (w.heap.size + 1) (by simp)).allocN (.cells (ints .i64 (List.replicate 48 0)) 51) (w.heap.size + 2) (by simp))).call F5
  clear F5
  simp only []
  generalize w.heap.size + 2 = bk3 at h12 ⊢
  generalize w.heap.size + 1 = bk2 at h12 ⊢
  generalize w.heap.size = bk1 at h12 ⊢
  obtain ⟨L13, hL13⟩ : ∃ L : List (Nat × Obj), L = [(bk3, .cells (ints .i64 (List.replicate 48 0)) 51), (bk2, .cells (ptC (zs 5) (zs 5) (zs 5) (zs 5) false) 49), (bk1, .cells (ints .u8 (b)) 22)] := ⟨_, rfl⟩
  rw [← hL13] at h12
  have HL13 := Lib.hid hL13
  clear hL13
  have s14 := h12
  rw [HL13.out] at s14
  have f15 := s14.nth 2 rfl
  have t16 := s14.lt 2 rfl
  clear s14
  go_wp2_with fail
  clear f15 t16
  have s17 := h12
  rw [HL13.out] at s17
  refine (ddec_n HP.out HO.out hl HB.out).mono ?_
  rintro e w19 ⟨X21, Y22, Z23, rfl, k24, F20⟩
  have Hk24 := Lib.hid k24
  clear k24
  have h25 : OwB w [(w4.heap.size, .cells (ptC x6 y7 z8 t9 s10) 49), (bk3, .cells (ints .i64 (List.replicate 48 0)) 51), (bk2, .cells (ptC (zs 5) (zs 5) (zs 5) (zs 5) false) 49), (bk1, .cells (ints .u8 (b)) 22)] w19 := ((s17.allocN (.cells (ptC x6 y7 z8 t9 s10) 49) (w4.heap.size) (by simp))).call F20
  clear F20
  simp only []
  generalize w4.heap.size = bk18 at h25 ⊢
  clear s17 h12
  obtain ⟨L26, hL26⟩ : ∃ L : List (Nat × Obj), L = [(bk18, .cells (ptC x6 y7 z8 t9 s10) 49), (bk3, .cells (ints .i64 (List.replicate 48 0)) 51), (bk2, .cells (ptC (zs 5) (zs 5) (zs 5) (zs 5) false) 49), (bk1, .cells (ints .u8 (b)) 22)] := ⟨_, rfl⟩
  rw [← hL26] at h25
  have HL26 := Lib.hid hL26
  clear hL26
  go_wp2_with fail
  have s27 := h25
  rw [HL26.out] at s27
  refine OwB.named (Q := fun X => Code.wp _ _ _ _ X) (show OwB w [(w19.heap.size, .cells (dpC X21 Y22 Z23) 51), (bk18, .cells (ptC x6 y7 z8 t9 s10) 49), (bk3, .cells (ints .i64 (List.replicate 48 0)) 51), (bk2, .cells (ptC (zs 5) (zs 5) (zs 5) (zs 5) false) 49), (bk1, .cells (ints .u8 (b)) 22)] _ from (s27.allocN (.cells (dpC X21 Y22 Z23) 51) (w19.heap.size) (by simp))) ?_
  intro V30 h29
  generalize w19.heap.size = bk28 at h29 ⊢
  clear s27 h25
  obtain ⟨L31, hL31⟩ : ∃ L : List (Nat × Obj), L = [(bk28, .cells (dpC X21 Y22 Z23) 51), (bk18, .cells (ptC x6 y7 z8 t9 s10) 49), (bk3, .cells (ints .i64 (List.replicate 48 0)) 51), (bk2, .cells (ptC (zs 5) (zs 5) (zs 5) (zs 5) false) 49), (bk1, .cells (ints .u8 (b)) 22)] := ⟨_, rfl⟩
  rw [← hL31] at h29
  have HL31 := Lib.hid hL31
  clear hL31
  cases ok
  · have s32 := h29
    rw [HL31.out] at s32
    have h33 : OwB w [(bk28, .cells (dpC X21 Y22 Z23) 51), (bk18, .cells (ptC x6 y7 z8 t9 s10) 49), (bk1, .cells (ints .u8 (b)) 22)] _ := ((s32.drop 3).drop 2)
    obtain ⟨L34, hL34⟩ : ∃ L : List (Nat × Obj), L = [(bk28, .cells (dpC X21 Y22 Z23) 51), (bk18, .cells (ptC x6 y7 z8 t9 s10) 49), (bk1, .cells (ints .u8 (b)) 22)] := ⟨_, rfl⟩
    rw [← hL34] at h33
    have HL34 := Lib.hid hL34
    clear hL34
    refine drawn_begin 12 (OwB w L34) (by kernel_rfl) ?_
    refine OwB.named (Q := fun X => Go.Dr.wpAnyS Try.prog .any _ _ _ _ _ _ _ X) (s32.drew) ?_
    intro V35 h36
    have h37 : OwB w L34 _ := OwB.cast HL34.out ((h36.drop 3).drop 2)
    clear h33 s32 h29
    have s38 := h37
    rw [HL34.out] at s38
    have f39 := s38.nth 1 rfl
    have f40 := s38.nth 0 rfl
    clear s38
    refine drawn_reads (fuel := 6) [0, 1, 2, 3, 6, 7, 8] rfl (by kernel_rfl) (h37) ?_
    repeat (first | (refine rowK_step2 rfl rfl (fun K hK => ?_); go_wp2) | (refine rowK_step rfl (fun K hK => ?_); go_simp; refine hK _ ?_; clear hK K) | (refine rowK_step rfl (fun K hK => ?_); go_simp; refine ⟨by decide, hK _ ?_⟩; clear hK K))
    refine rowK_nil ⟨fun w' hw' => ?_, ?_⟩
    · rw [HL34.out] at hw'
      have g41 := hw'.nth 1 rfl
      have g42 := hw'.nth 0 rfl
      clear f39 f40
      repeat (first | (refine rowWp_step2 rfl rfl (fun K hK => ?_); go_wp2) | (refine rowWp_step rfl (fun K hK => ?_); go_simp; refine hK _ ?_; clear hK K) | (refine rowWp_step rfl (fun K hK => ?_); go_simp; refine ⟨by decide, hK _ ?_⟩; clear hK K))
      exact rowWp_nil rfl
    clear f39 f40
    refine drawn_reads (fuel := 4) [4, 5] rfl (by kernel_rfl) (h37) ?_
    repeat (first | (refine rowK_step2 rfl rfl (fun K hK => ?_); go_wp2) | (refine rowK_step rfl (fun K hK => ?_); go_simp; refine hK _ ?_; clear hK K) | (refine rowK_step rfl (fun K hK => ?_); go_simp; refine ⟨by decide, hK _ ?_⟩; clear hK K))
    refine rowK_nil ⟨fun w' hw' => ?_, ?_⟩
    · skip
      repeat (first | (refine rowWp_step2 rfl rfl (fun K hK => ?_); go_wp2) | (refine rowWp_step rfl (fun K hK => ?_); go_simp; refine hK _ ?_; clear hK K) | (refine rowWp_step rfl (fun K hK => ?_); go_simp; refine ⟨by decide, hK _ ?_⟩; clear hK K))
      exact rowWp_nil rfl
    refine drawn_next 9 (fuel := 3) rfl (by kernel_rfl) ?_
    intro K hK
    have f43 := h36.nth 3 rfl
    have t44 := h36.lt 3 rfl
    go_wp2
    clear f43 t44
    have h45 : OwB w [(bk28, .cells (dpC X21 Y22 Z23) 51), (bk18, .cells (ptC x6 y7 z8 t9 s10) 49), (bk3, .cells (ints .i64 (List.replicate 48 0)) 51), (bk2, .cells (ptC x6 y7 z8 t9 s10) 49), (bk1, .cells (ints .u8 (b)) 22)] _ := h36.set 3 (.cells (ptC x6 y7 z8 t9 s10) 49) rfl
    clear h36
    have h46 : OwB w L34 _ := OwB.cast HL34.out (((h45.drop 3).drop 2))
    clear h37
    refine ⟨h46, ?_⟩
    refine drawn_next 10 (fuel := 2) rfl (by kernel_rfl) ?_
    intro K hK
    have f47 := h45.nth 2 rfl
    have t48 := h45.lt 2 rfl
    go_wp2
    clear f47 t48
    have h49 : OwB w [(bk28, .cells (dpC X21 Y22 Z23) 51), (bk18, .cells (ptC x6 y7 z8 t9 s10) 49), (bk3, .cells (dpC X21 Y22 Z23) 51), (bk2, .cells (ptC x6 y7 z8 t9 s10) 49), (bk1, .cells (ints .u8 (b)) 22)] _ := h45.set 2 (.cells (dpC X21 Y22 Z23) 51) rfl
    clear h45
    have h50 : OwB w L34 _ := OwB.cast HL34.out (((h49.drop 3).drop 2))
    clear h46
    refine ⟨h50, ?_⟩
    refine drawn_reads (fuel := 1) [11] rfl (by kernel_rfl) (h50) ?_
    repeat (first | (refine rowK_step2 rfl rfl (fun K hK => ?_); go_wp2) | (refine rowK_step rfl (fun K hK => ?_); go_simp; refine hK _ ?_; clear hK K) | (refine rowK_step rfl (fun K hK => ?_); go_simp; refine ⟨by decide, hK _ ?_⟩; clear hK K))
    refine rowK_nil ⟨fun w' hw' => ?_, ?_⟩
    · skip
      repeat (first | (refine rowWp_step2 rfl rfl (fun K hK => ?_); go_wp2) | (refine rowWp_step rfl (fun K hK => ?_); go_simp; refine hK _ ?_; clear hK K) | (refine rowWp_step rfl (fun K hK => ?_); go_simp; refine ⟨by decide, hK _ ?_⟩; clear hK K))
      exact rowWp_nil rfl
    obtain ⟨L51, hL51⟩ : ∃ L : List (Nat × Obj), L = [(bk28, .cells (dpC X21 Y22 Z23) 51), (bk18, .cells (ptC x6 y7 z8 t9 s10) 49), (bk3, .cells (dpC X21 Y22 Z23) 51), (bk2, .cells (ptC x6 y7 z8 t9 s10) 49), (bk1, .cells (ints .u8 (b)) 22)] := ⟨_, rfl⟩
    rw [← hL51] at h49
    have HL51 := Lib.hid hL51
    clear hL51
    refine drawn_end (ol := [_]) rfl (by kernel_rfl) ?_
    intro K hK
    go_wp2_with fail
    have s52 := h49
    rw [HL51.out] at s52
    refine ret_cell2_tmp2 rfl rfl rfl rfl ?_
    refine cellRet_of (s52.nth 3 rfl) (by rw [size_ptC nx6 ny7 nz8 nt9]; kernel_rfl) ?_
    refine cellRet_of (s52.nth 2 rfl) (by rw [size_dpC]; kernel_rfl) ?_
    exact ⟨x6, y7, z8, t9, s10, X21, Y22, Z23, rfl, Hk11.out, Hk24.out, s52.fr⟩
  · have s53 := h29
    rw [HL31.out] at s53
    have h54 : OwB w [(bk28, .cells (dpC X21 Y22 Z23) 51), (bk18, .cells (ptC x6 y7 z8 t9 s10) 49), (bk1, .cells (ints .u8 (b)) 22)] _ := ((s53.drop 3).drop 2)
    obtain ⟨L55, hL55⟩ : ∃ L : List (Nat × Obj), L = [(bk28, .cells (dpC X21 Y22 Z23) 51), (bk18, .cells (ptC x6 y7 z8 t9 s10) 49), (bk1, .cells (ints .u8 (b)) 22)] := ⟨_, rfl⟩
    rw [← hL55] at h54
    have HL55 := Lib.hid hL55
    clear hL55
    refine drawn_begin 12 (OwB w L55) (by kernel_rfl) ?_
    refine OwB.named (Q := fun X => Go.Dr.wpAnyS Try.prog .any _ _ _ _ _ _ _ X) (s53.drew) ?_
    intro V56 h57
    have h58 : OwB w L55 _ := OwB.cast HL55.out ((h57.drop 3).drop 2)
    clear h54 s53 h29
    have s59 := h58
    rw [HL55.out] at s59
    have f60 := s59.nth 1 rfl
    have f61 := s59.nth 0 rfl
    clear s59
    refine drawn_reads (fuel := 6) [0, 1, 2, 3, 6, 7, 8] rfl (by kernel_rfl) (h58) ?_
    repeat (first | (refine rowK_step2 rfl rfl (fun K hK => ?_); go_wp2) | (refine rowK_step rfl (fun K hK => ?_); go_simp; refine hK _ ?_; clear hK K) | (refine rowK_step rfl (fun K hK => ?_); go_simp; refine ⟨by decide, hK _ ?_⟩; clear hK K))
    refine rowK_nil ⟨fun w' hw' => ?_, ?_⟩
    · rw [HL55.out] at hw'
      have g62 := hw'.nth 1 rfl
      have g63 := hw'.nth 0 rfl
      clear f60 f61
      repeat (first | (refine rowWp_step2 rfl rfl (fun K hK => ?_); go_wp2) | (refine rowWp_step rfl (fun K hK => ?_); go_simp; refine hK _ ?_; clear hK K) | (refine rowWp_step rfl (fun K hK => ?_); go_simp; refine ⟨by decide, hK _ ?_⟩; clear hK K))
      exact rowWp_nil rfl
    clear f60 f61
    refine drawn_reads (fuel := 4) [4, 5] rfl (by kernel_rfl) (h58) ?_
    repeat (first | (refine rowK_step2 rfl rfl (fun K hK => ?_); go_wp2) | (refine rowK_step rfl (fun K hK => ?_); go_simp; refine hK _ ?_; clear hK K) | (refine rowK_step rfl (fun K hK => ?_); go_simp; refine ⟨by decide, hK _ ?_⟩; clear hK K))
    refine rowK_nil ⟨fun w' hw' => ?_, ?_⟩
    · skip
      repeat (first | (refine rowWp_step2 rfl rfl (fun K hK => ?_); go_wp2) | (refine rowWp_step rfl (fun K hK => ?_); go_simp; refine hK _ ?_; clear hK K) | (refine rowWp_step rfl (fun K hK => ?_); go_simp; refine ⟨by decide, hK _ ?_⟩; clear hK K))
      exact rowWp_nil rfl
    refine drawn_next 9 (fuel := 3) rfl (by kernel_rfl) ?_
    intro K hK
    have f64 := h57.nth 3 rfl
    have t65 := h57.lt 3 rfl
    go_wp2
    clear f64 t65
    have h66 : OwB w [(bk28, .cells (dpC X21 Y22 Z23) 51), (bk18, .cells (ptC x6 y7 z8 t9 s10) 49), (bk3, .cells (ints .i64 (List.replicate 48 0)) 51), (bk2, .cells (ptC x6 y7 z8 t9 s10) 49), (bk1, .cells (ints .u8 (b)) 22)] _ := h57.set 3 (.cells (ptC x6 y7 z8 t9 s10) 49) rfl
    clear h57
    have h67 : OwB w L55 _ := OwB.cast HL55.out (((h66.drop 3).drop 2))
    clear h58
    refine ⟨h67, ?_⟩
    refine drawn_next 10 (fuel := 2) rfl (by kernel_rfl) ?_
    intro K hK
    have f68 := h66.nth 2 rfl
    have t69 := h66.lt 2 rfl
    go_wp2
    clear f68 t69
    have h70 : OwB w [(bk28, .cells (dpC X21 Y22 Z23) 51), (bk18, .cells (ptC x6 y7 z8 t9 s10) 49), (bk3, .cells (dpC X21 Y22 Z23) 51), (bk2, .cells (ptC x6 y7 z8 t9 s10) 49), (bk1, .cells (ints .u8 (b)) 22)] _ := h66.set 2 (.cells (dpC X21 Y22 Z23) 51) rfl
    clear h66
    have h71 : OwB w L55 _ := OwB.cast HL55.out (((h70.drop 3).drop 2))
    clear h67
    refine ⟨h71, ?_⟩
    refine drawn_reads (fuel := 1) [11] rfl (by kernel_rfl) (h71) ?_
    repeat (first | (refine rowK_step2 rfl rfl (fun K hK => ?_); go_wp2) | (refine rowK_step rfl (fun K hK => ?_); go_simp; refine hK _ ?_; clear hK K) | (refine rowK_step rfl (fun K hK => ?_); go_simp; refine ⟨by decide, hK _ ?_⟩; clear hK K))
    refine rowK_nil ⟨fun w' hw' => ?_, ?_⟩
    · skip
      repeat (first | (refine rowWp_step2 rfl rfl (fun K hK => ?_); go_wp2) | (refine rowWp_step rfl (fun K hK => ?_); go_simp; refine hK _ ?_; clear hK K) | (refine rowWp_step rfl (fun K hK => ?_); go_simp; refine ⟨by decide, hK _ ?_⟩; clear hK K))
      exact rowWp_nil rfl
    obtain ⟨L72, hL72⟩ : ∃ L : List (Nat × Obj), L = [(bk28, .cells (dpC X21 Y22 Z23) 51), (bk18, .cells (ptC x6 y7 z8 t9 s10) 49), (bk3, .cells (dpC X21 Y22 Z23) 51), (bk2, .cells (ptC x6 y7 z8 t9 s10) 49), (bk1, .cells (ints .u8 (b)) 22)] := ⟨_, rfl⟩
    rw [← hL72] at h70
    have HL72 := Lib.hid hL72
    clear hL72
    refine drawn_end (ol := [_]) rfl (by kernel_rfl) ?_
    intro K hK
    go_wp2_with fail
    have s73 := h70
    rw [HL72.out] at s73
    refine ret_cell2_tmp2 rfl rfl rfl rfl ?_
    refine cellRet_of (s73.nth 3 rfl) (by rw [size_ptC nx6 ny7 nz8 nt9]; kernel_rfl) ?_
    refine cellRet_of (s73.nth 2 rfl) (by rw [size_dpC]; kernel_rfl) ?_
    exact ⟨x6, y7, z8, t9, s10, X21, Y22, Z23, rfl, Hk11.out, Hk24.out, s73.fr⟩

set_option maxRecDepth 100000 in
set_option maxHeartbeats 8000000 in
theorem calive_core (bs Q : Pt) (R O : List Int) (lR : R.length = 32) (yR : Byt R) (lO : O.length = 32) (yO : Byt O) (hR0 : encP bs = R) (hR1 : encP Q = O) (hbs : bsP = bs) (hQ : decPt (b1 1) = Q) (ho : decOk (b1 1) = true) (h0 : el R 0 = 88) (h1 : el R 1 = 102) (h31 : el R 31 = 102) (hz : (O == [1, 0, 0, 0, 0, 0, 0, 0, 0, 0, 0, 0, 0, 0, 0, 0, 0, 0, 0, 0, 0, 0, 0, 0, 0, 0, 0, 0, 0, 0, 0, 0]) = true) : Calls Try.prog 47 #[] w fun e w' => e = .returned (.bool true) ∧ Fr [] w w' := by
  have YR := Lib.hid yR
  clear yR
  have YO := Lib.hid yO
  clear yO
  have HR0 := Lib.hid hR0
  clear hR0
  have HR1 := Lib.hid hR1
  clear hR1
  have HBS := Lib.hid hbs
  have HQ := Lib.hid hQ
  have HO := Lib.hid ho
  clear hbs hQ ho
  go_enter Try.func47, Try.ntmps47
  go_wp2_with fail
  refine (cbase_n HBS.out).mono ?_
  rintro e w1 ⟨x3, y4, z5, t6, s7, rfl, k8, F2⟩
  have nx3 := k8.nx
  have ny4 := k8.ny
  have nz5 := k8.nz
  have nt6 := k8.nt
  have Hk8 := Lib.hid k8
  clear k8
  have h9 : OwB w [] w1 := ((OwB.start w)).call F2
  clear F2
  simp only []
  obtain ⟨L10, hL10⟩ : ∃ L : List (Nat × Obj), L = [] := ⟨_, rfl⟩
  rw [← hL10] at h9
  have HL10 := Lib.hid hL10
  clear hL10
  go_wp2_with fail
  refine (cenc_p HR0.out Hk8.out).mono ?_
  rintro e w11 ⟨rfl, F12⟩
  have s14 := h9
  rw [HL10.out] at s14
  have h13 : OwB w [] w11 := (s14).call F12
  clear F12
  simp only []
  clear s14 h9
  obtain ⟨L15, hL15⟩ : ∃ L : List (Nat × Obj), L = [] := ⟨_, rfl⟩
  rw [← hL15] at h13
  have HL15 := Lib.hid hL15
  clear hL15
  go_wp2_with fail
  have s16 := h13
  rw [HL15.out] at s16
  refine (cdec_n HQ.out HO.out rfl (byt_b1 (by decide))).mono ?_
  rintro e w18 ⟨x20, y21, z22, t23, s24, rfl, k25, F19⟩
  have nx20 := k25.nx
  have ny21 := k25.ny
  have nz22 := k25.nz
  have nt23 := k25.nt
  have Hk25 := Lib.hid k25
  clear k25
  have h26 : OwB w [(w11.heap.size, .cells (ints .u8 (R)) 22)] w18 := ((s16.allocN (.cells (ints .u8 (R)) 22) (w11.heap.size) (by simp))).call F19
  clear F19
  simp only []
  generalize w11.heap.size = bk17 at h26 ⊢
  clear s16 h13
  obtain ⟨L27, hL27⟩ : ∃ L : List (Nat × Obj), L = [(bk17, .cells (ints .u8 (R)) 22)] := ⟨_, rfl⟩
  rw [← hL27] at h26
  have HL27 := Lib.hid hL27
  clear hL27
  have s28 := h26
  rw [HL27.out] at s28
  have f29 := s28.nth 0 rfl
  have t30 := s28.lt 0 rfl
  clear s28
  go_wp2_with fail
  clear f29 t30
  have s31 := h26
  rw [HL27.out] at s31
  refine (cenc_p HR1.out Hk25.out).mono ?_
  rintro e w33 ⟨rfl, F34⟩
  have h35 : OwB w [(w18.heap.size, .cells (ptC x20 y21 z22 t23 s24) 49), (bk17, .cells (ints .u8 (R)) 22)] w33 := ((s31.allocN (.cells (ptC x20 y21 z22 t23 s24) 49) (w18.heap.size) (by simp))).call F34
  clear F34
  simp only []
  generalize w18.heap.size = bk32 at h35 ⊢
  clear s31 h26
  obtain ⟨L36, hL36⟩ : ∃ L : List (Nat × Obj), L = [(bk32, .cells (ptC x20 y21 z22 t23 s24) 49), (bk17, .cells (ints .u8 (R)) 22)] := ⟨_, rfl⟩
  rw [← hL36] at h35
  have HL36 := Lib.hid hL36
  clear hL36
  go_wp2_with fail
  go_ret
  exact ⟨rfl, (h35).fr⟩

theorem encP_bs : encP bsP = bsB := enc_dec rfl byt_bsB bs_ok
theorem encP_z1 : encP (decPt (b1 1)) = b1 1 := by rw [decPt_good z1_ok, enc_dec rfl (byt_b1 (by decide)) z1_ok]
theorem calive_f : Calls Try.prog 47 #[] w fun e w' => e = .returned (.bool true) ∧ Fr [] w w' := calive_core bsP _ bsB (b1 1) rfl byt_bsB rfl (byt_b1 (by decide)) encP_bs encP_z1 rfl rfl z1_ok rfl rfl rfl rfl
end
end Go.Proofs.Ytakhmmnklkckpaa
