/- CurveMuls, CurveSums, CurveGroup: the walks. -/
import Derived.Test.YtakhmmnklkckpaaZw
import Derived.Test.YtakhmmnklkckpaaZl
import Derived.Test.YtakhmmnklkckpaaZq
namespace Go.Proofs.Ytakhmmnklkckpaa
open Go.RowKit Go.Dr

section
variable {w : World}
theorem cmulP_n {S x y z t : List Int} {s : Bool} {P M : Pt} (hM : mulP dC (numB S) P = M) (hS : S.length = 32) (bS : Byt S) (hP : CP x y z t s P) :
    Calls Try.prog 55 #[.agg (ints .u8 S), .agg (ptC x y z t s)] w fun e w' => ∃ x y z t s, e = .returned (.agg (ptC x y z t s)) ∧ CP x y z t s M ∧ Fr [] w w' := hM ▸ cmulP_f hS bS hP
theorem dmulP_n {S : List Int} {X Y Z : Fp} {P M : Pt} (hM : mulP dC (numB S) P = M) (hS : S.length = 32) (bS : Byt S) (hP : DSays X Y Z P) :
    Calls Try.prog 57 #[.agg (ints .u8 S), .agg (dpC X Y Z)] w fun e w' => ∃ X Y Z, e = .returned (.agg (dpC X Y Z)) ∧ DSays X Y Z M ∧ Fr [] w w' := hM ▸ dmulP_f hS bS hP

set_option maxRecDepth 100000 in
set_option maxHeartbeats 8000000 in
theorem curveMuls_yes (n b R : List Int) (P : Pt) (M : Pt)  (ln : n.length = 32) (yn : Byt n) (lb : b.length = 32) (yb : Byt b) (lR : R.length = 32) (yR : Byt R) (hR0 : encP M = R) (hPP : decPt b = P) (hOP : decOk b = true) (hMM : mulP dC (numB n) P = M)  : Calls Try.prog 17 #[.agg (ints .u8 n), .agg (ints .u8 b)] w fun e w' => e = .returned (.bool true) ∧ Fr [] w w' := by
  have Yn := Lib.hid yn
  clear yn
  have Yb := Lib.hid yb
  clear yb
  have YR := Lib.hid yR
  clear yR
  have HR0 := Lib.hid hR0
  clear hR0
  have HPP := Lib.hid hPP
  have HOP := Lib.hid hOP
  clear hPP hOP
  have HMM := Lib.hid hMM
  clear hMM
  go_enter Try.func17, Try.ntmps17
  go_wp2_with fail
  refine (calive_f).mono ?_
  rintro e w3 ⟨rfl, F4⟩
  have h5 : Own w [(w.heap.size + 1, .cells (ints .u8 (b)) 22), (w.heap.size, .cells (ints .u8 (n)) 22)] w3 := ((((Own.start w).allocN (.cells (ints .u8 (n)) 22) w.heap.size rfl).allocN (.cells (ints .u8 (b)) 22) (w.heap.size + 1) (by simp))).call F4
  clear F4
  simp only []
  generalize w.heap.size + 1 = bk2 at h5 ⊢
  generalize w.heap.size = bk1 at h5 ⊢
  obtain ⟨L6, hL6⟩ : ∃ L : List (Nat × Obj), L = [(bk2, .cells (ints .u8 (b)) 22), (bk1, .cells (ints .u8 (n)) 22)] := ⟨_, rfl⟩
  rw [← hL6] at h5
  have HL6 := Lib.hid hL6
  clear hL6
  have s7 := h5
  rw [HL6.out] at s7
  have f8 := s7.nth 0 rfl
  clear s7
  go_wp2_with fail
  clear f8
  refine (two_core _ _ _ lb Yb.out HPP.out HOP.out).mono ?_
  rintro e w9 ⟨x11, y12, z13, t14, s15, X16, Y17, Z18, rfl, k19, k20, F10⟩
  have nx11 := k19.nx
  have ny12 := k19.ny
  have nz13 := k19.nz
  have nt14 := k19.nt
  have Hk19 := Lib.hid k19
  clear k19
  have Hk20 := Lib.hid k20
  clear k20
  have s22 := h5
  rw [HL6.out] at s22
  have h21 : Own w [(bk2, .cells (ints .u8 (b)) 22), (bk1, .cells (ints .u8 (n)) 22)] w9 := (s22).call F10
  clear F10
  simp only []
  clear s22 h5
  obtain ⟨L23, hL23⟩ : ∃ L : List (Nat × Obj), L = [(bk2, .cells (ints .u8 (b)) 22), (bk1, .cells (ints .u8 (n)) 22)] := ⟨_, rfl⟩
  rw [← hL23] at h21
  have HL23 := Lib.hid hL23
  clear hL23
  go_wp2_with fail
  have s24 := h21
  rw [HL23.out] at s24
  refine Own.named (Q := fun X => Code.wp _ _ _ _ X) (show Own w [(w9.heap.size + 1, .cells (dpC X16 Y17 Z18) 51), (w9.heap.size, .cells (ptC x11 y12 z13 t14 s15) 49), (bk2, .cells (ints .u8 (b)) 22), (bk1, .cells (ints .u8 (n)) 22)] _ from ((s24.allocN (.cells (ptC x11 y12 z13 t14 s15) 49) (w9.heap.size) (by simp)).allocN (.cells (dpC X16 Y17 Z18) 51) (w9.heap.size + 1) (by simp))) ?_
  intro V28 h27
  generalize w9.heap.size + 1 = bk26 at h27 ⊢
  generalize w9.heap.size = bk25 at h27 ⊢
  clear s24 h21
  obtain ⟨L29, hL29⟩ : ∃ L : List (Nat × Obj), L = [(bk26, .cells (dpC X16 Y17 Z18) 51), (bk25, .cells (ptC x11 y12 z13 t14 s15) 49), (bk2, .cells (ints .u8 (b)) 22), (bk1, .cells (ints .u8 (n)) 22)] := ⟨_, rfl⟩
  rw [← hL29] at h27
  have HL29 := Lib.hid hL29
  clear hL29
  refine drawn_begin 9 (Own w L29) (by kernel_rfl) ?_
  refine Own.named (Q := fun X => Go.Dr.wpAnyS Try.prog .any _ _ _ _ _ _ _ X) (h27.drew) ?_
  intro V30 h31
  clear h27
  have s32 := h31
  rw [HL29.out] at s32
  have f33 := s32.nth 3 rfl
  have f34 := s32.nth 1 rfl
  have f35 := s32.nth 0 rfl
  clear s32
  refine drawn_reads (fuel := 6) [0, 1, 4, 5] rfl (by kernel_rfl) (h31) ?_
  repeat (first | (refine rowK_step2 rfl rfl (fun K hK => ?_); go_wp2) | (refine rowK_step rfl (fun K hK => ?_); go_simp; refine hK _ ?_; clear hK K) | (refine rowK_step rfl (fun K hK => ?_); go_simp; refine ⟨by decide, hK _ ?_⟩; clear hK K))
  refine rowK_nil ⟨fun w' hw' => ?_, ?_⟩
  · rw [HL29.out] at hw'
    have g36 := hw'.nth 3 rfl
    have g37 := hw'.nth 1 rfl
    have g38 := hw'.nth 0 rfl
    clear f33 f34 f35
    repeat (first | (refine rowWp_step2 rfl rfl (fun K hK => ?_); go_wp2) | (refine rowWp_step rfl (fun K hK => ?_); go_simp; refine hK _ ?_; clear hK K) | (refine rowWp_step rfl (fun K hK => ?_); go_simp; refine ⟨by decide, hK _ ?_⟩; clear hK K))
    exact rowWp_nil rfl
  clear f33 f34 f35
  refine drawn_next 2 (fuel := 5) rfl (by kernel_rfl) ?_
  intro K hK
  go_wp2_with fail
  refine (cmulP_n HMM.out ln Yn.out Hk19.out).mono ?_
  rintro e w39 ⟨x41, y42, z43, t44, s45, rfl, k46, F40⟩
  have nx41 := k46.nx
  have ny42 := k46.ny
  have nz43 := k46.nz
  have nt44 := k46.nt
  have Hk46 := Lib.hid k46
  clear k46
  have h47 := (h31).call F40
  clear F40 h31
  simp only []
  go_wp2
  refine ⟨h47, ?_⟩
  refine drawn_next 3 (fuel := 4) rfl (by kernel_rfl) ?_
  intro K hK
  go_wp2_with fail
  refine (cenc_p HR0.out Hk46.out).mono ?_
  rintro e w48 ⟨rfl, F49⟩
  have h50 := (h47).call F49
  clear F49 h47
  simp only []
  go_wp2
  refine ⟨h50, ?_⟩
  refine drawn_next 6 (fuel := 3) rfl (by kernel_rfl) ?_
  intro K hK
  go_wp2_with fail
  refine (dmulP_n HMM.out ln Yn.out Hk20.out).mono ?_
  rintro e w51 ⟨X53, Y54, Z55, rfl, k56, F52⟩
  have Hk56 := Lib.hid k56
  clear k56
  have h57 := (h50).call F52
  clear F52 h50
  simp only []
  go_wp2
  refine ⟨h57, ?_⟩
  refine drawn_next 7 (fuel := 2) rfl (by kernel_rfl) ?_
  intro K hK
  go_wp2_with fail
  refine (denc_p HR0.out Hk56.out).mono ?_
  rintro e w58 ⟨rfl, F59⟩
  have h60 := (h57).call F59
  clear F59 h57
  simp only []
  go_wp2
  refine ⟨h60, ?_⟩
  refine drawn_reads (fuel := 1) [8] rfl (by kernel_rfl) (h60) ?_
  repeat (first | (refine rowK_step2 rfl rfl (fun K hK => ?_); go_wp2) | (refine rowK_step rfl (fun K hK => ?_); go_simp; refine hK _ ?_; clear hK K) | (refine rowK_step rfl (fun K hK => ?_); go_simp; refine ⟨by decide, hK _ ?_⟩; clear hK K))
  refine rowK_nil ⟨fun w' hw' => ?_, ?_⟩
  · skip
    repeat (first | (refine rowWp_step2 rfl rfl (fun K hK => ?_); go_wp2) | (refine rowWp_step rfl (fun K hK => ?_); go_simp; refine hK _ ?_; clear hK K) | (refine rowWp_step rfl (fun K hK => ?_); go_simp; refine ⟨by decide, hK _ ?_⟩; clear hK K))
    exact rowWp_nil rfl
  refine drawn_end (ol := [_]) rfl (by kernel_rfl) ?_
  intro K hK
  go_wp2_with fail
  go_ret
  exact ⟨rfl, (h60).fr⟩

set_option maxRecDepth 100000 in
set_option maxHeartbeats 8000000 in
theorem curveMuls_no (n b R : List Int) (P : Pt) (bs M : Pt)  (ln : n.length = 32) (yn : Byt n) (lb : b.length = 32) (yb : Byt b) (lR : R.length = 32) (yR : Byt R) (hR0 : encP M = R) (hPP : decPt b = P) (hOP : decOk b = false) (hbs : bsP = bs) (hMM : mulP dC (numB n) bs = M)  : Calls Try.prog 17 #[.agg (ints .u8 n), .agg (ints .u8 b)] w fun e w' => e = .returned (.bool true) ∧ Fr [] w w' := by
  have Yn := Lib.hid yn
  clear yn
  have Yb := Lib.hid yb
  clear yb
  have YR := Lib.hid yR
  clear yR
  have HR0 := Lib.hid hR0
  clear hR0
  have HPP := Lib.hid hPP
  have HOP := Lib.hid hOP
  clear hPP hOP
  have HBS := Lib.hid hbs
  clear hbs
  have HMM := Lib.hid hMM
  clear hMM
  go_enter Try.func17, Try.ntmps17
  go_wp2_with fail
  refine (calive_f).mono ?_
  rintro e w3 ⟨rfl, F4⟩
  have h5 : Own w [(w.heap.size + 1, .cells (ints .u8 (b)) 22), (w.heap.size, .cells (ints .u8 (n)) 22)] w3 := ((((Own.start w).allocN (.cells (ints .u8 (n)) 22) w.heap.size rfl).allocN (.cells (ints .u8 (b)) 22) (w.heap.size + 1) (by simp))).call F4
  clear F4
  simp only []
  generalize w.heap.size + 1 = bk2 at h5 ⊢
  generalize w.heap.size = bk1 at h5 ⊢
  obtain ⟨L6, hL6⟩ : ∃ L : List (Nat × Obj), L = [(bk2, .cells (ints .u8 (b)) 22), (bk1, .cells (ints .u8 (n)) 22)] := ⟨_, rfl⟩
  rw [← hL6] at h5
  have HL6 := Lib.hid hL6
  clear hL6
  have s7 := h5
  rw [HL6.out] at s7
  have f8 := s7.nth 0 rfl
  clear s7
  go_wp2_with fail
  clear f8
  refine (two_core _ _ _ lb Yb.out HPP.out HOP.out).mono ?_
  rintro e w9 ⟨x11, y12, z13, t14, s15, X16, Y17, Z18, rfl, k19, k20, F10⟩
  have nx11 := k19.nx
  have ny12 := k19.ny
  have nz13 := k19.nz
  have nt14 := k19.nt
  have Hk19 := Lib.hid k19
  clear k19
  have Hk20 := Lib.hid k20
  clear k20
  have s22 := h5
  rw [HL6.out] at s22
  have h21 : Own w [(bk2, .cells (ints .u8 (b)) 22), (bk1, .cells (ints .u8 (n)) 22)] w9 := (s22).call F10
  clear F10
  simp only []
  clear s22 h5
  obtain ⟨L23, hL23⟩ : ∃ L : List (Nat × Obj), L = [(bk2, .cells (ints .u8 (b)) 22), (bk1, .cells (ints .u8 (n)) 22)] := ⟨_, rfl⟩
  rw [← hL23] at h21
  have HL23 := Lib.hid hL23
  clear hL23
  go_wp2_with fail
  have s24 := h21
  rw [HL23.out] at s24
  refine Own.named (Q := fun X => Code.wp _ _ _ _ X) (show Own w [(w9.heap.size + 1, .cells (dpC X16 Y17 Z18) 51), (w9.heap.size, .cells (ptC x11 y12 z13 t14 s15) 49), (bk2, .cells (ints .u8 (b)) 22), (bk1, .cells (ints .u8 (n)) 22)] _ from ((s24.allocN (.cells (ptC x11 y12 z13 t14 s15) 49) (w9.heap.size) (by simp)).allocN (.cells (dpC X16 Y17 Z18) 51) (w9.heap.size + 1) (by simp))) ?_
  intro V28 h27
  generalize w9.heap.size + 1 = bk26 at h27 ⊢
  generalize w9.heap.size = bk25 at h27 ⊢
  clear s24 h21
  obtain ⟨L29, hL29⟩ : ∃ L : List (Nat × Obj), L = [(bk26, .cells (dpC X16 Y17 Z18) 51), (bk25, .cells (ptC x11 y12 z13 t14 s15) 49), (bk2, .cells (ints .u8 (b)) 22), (bk1, .cells (ints .u8 (n)) 22)] := ⟨_, rfl⟩
  rw [← hL29] at h27
  have HL29 := Lib.hid hL29
  clear hL29
  refine drawn_begin 9 (Own w L29) (by kernel_rfl) ?_
  refine Own.named (Q := fun X => Go.Dr.wpAnyS Try.prog .any _ _ _ _ _ _ _ X) (h27.drew) ?_
  intro V30 h31
  clear h27
  have s32 := h31
  rw [HL29.out] at s32
  have f33 := s32.nth 3 rfl
  clear s32
  refine drawn_reads (fuel := 8) [0, 4] rfl (by kernel_rfl) (h31) ?_
  repeat (first | (refine rowK_step2 rfl rfl (fun K hK => ?_); go_wp2) | (refine rowK_step rfl (fun K hK => ?_); go_simp; refine hK _ ?_; clear hK K) | (refine rowK_step rfl (fun K hK => ?_); go_simp; refine ⟨by decide, hK _ ?_⟩; clear hK K))
  refine rowK_nil ⟨fun w' hw' => ?_, ?_⟩
  · rw [HL29.out] at hw'
    have g34 := hw'.nth 3 rfl
    clear f33
    repeat (first | (refine rowWp_step2 rfl rfl (fun K hK => ?_); go_wp2) | (refine rowWp_step rfl (fun K hK => ?_); go_simp; refine hK _ ?_; clear hK K) | (refine rowWp_step rfl (fun K hK => ?_); go_simp; refine ⟨by decide, hK _ ?_⟩; clear hK K))
    exact rowWp_nil rfl
  clear f33
  refine drawn_next 1 (fuel := 7) rfl (by kernel_rfl) ?_
  intro K hK
  go_wp2_with fail
  refine (cbase_n HBS.out).mono ?_
  rintro e w35 ⟨x37, y38, z39, t40, s41, rfl, k42, F36⟩
  have nx37 := k42.nx
  have ny38 := k42.ny
  have nz39 := k42.nz
  have nt40 := k42.nt
  have Hk42 := Lib.hid k42
  clear k42
  have h43 := (h31).call F36
  clear F36 h31
  simp only []
  go_wp2
  refine ⟨h43, ?_⟩
  refine drawn_next 2 (fuel := 6) rfl (by kernel_rfl) ?_
  intro K hK
  go_wp2_with fail
  refine (cmulP_n HMM.out ln Yn.out Hk42.out).mono ?_
  rintro e w44 ⟨x46, y47, z48, t49, s50, rfl, k51, F45⟩
  have nx46 := k51.nx
  have ny47 := k51.ny
  have nz48 := k51.nz
  have nt49 := k51.nt
  have Hk51 := Lib.hid k51
  clear k51
  have h52 := (h43).call F45
  clear F45 h43
  simp only []
  go_wp2
  refine ⟨h52, ?_⟩
  refine drawn_next 3 (fuel := 5) rfl (by kernel_rfl) ?_
  intro K hK
  go_wp2_with fail
  refine (cenc_p HR0.out Hk51.out).mono ?_
  rintro e w53 ⟨rfl, F54⟩
  have h55 := (h52).call F54
  clear F54 h52
  simp only []
  go_wp2
  refine ⟨h55, ?_⟩
  refine drawn_next 5 (fuel := 4) rfl (by kernel_rfl) ?_
  intro K hK
  go_wp2_with fail
  refine (dbase_n HBS.out).mono ?_
  rintro e w56 ⟨X58, Y59, Z60, rfl, k61, F57⟩
  have Hk61 := Lib.hid k61
  clear k61
  have h62 := (h55).call F57
  clear F57 h55
  simp only []
  go_wp2
  refine ⟨h62, ?_⟩
  refine drawn_next 6 (fuel := 3) rfl (by kernel_rfl) ?_
  intro K hK
  go_wp2_with fail
  refine (dmulP_n HMM.out ln Yn.out Hk61.out).mono ?_
  rintro e w63 ⟨X65, Y66, Z67, rfl, k68, F64⟩
  have Hk68 := Lib.hid k68
  clear k68
  have h69 := (h62).call F64
  clear F64 h62
  simp only []
  go_wp2
  refine ⟨h69, ?_⟩
  refine drawn_next 7 (fuel := 2) rfl (by kernel_rfl) ?_
  intro K hK
  go_wp2_with fail
  refine (denc_p HR0.out Hk68.out).mono ?_
  rintro e w70 ⟨rfl, F71⟩
  have h72 := (h69).call F71
  clear F71 h69
  simp only []
  go_wp2
  refine ⟨h72, ?_⟩
  refine drawn_reads (fuel := 1) [8] rfl (by kernel_rfl) (h72) ?_
  repeat (first | (refine rowK_step2 rfl rfl (fun K hK => ?_); go_wp2) | (refine rowK_step rfl (fun K hK => ?_); go_simp; refine hK _ ?_; clear hK K) | (refine rowK_step rfl (fun K hK => ?_); go_simp; refine ⟨by decide, hK _ ?_⟩; clear hK K))
  refine rowK_nil ⟨fun w' hw' => ?_, ?_⟩
  · skip
    repeat (first | (refine rowWp_step2 rfl rfl (fun K hK => ?_); go_wp2) | (refine rowWp_step rfl (fun K hK => ?_); go_simp; refine hK _ ?_; clear hK K) | (refine rowWp_step rfl (fun K hK => ?_); go_simp; refine ⟨by decide, hK _ ?_⟩; clear hK K))
    exact rowWp_nil rfl
  refine drawn_end (ol := [_]) rfl (by kernel_rfl) ?_
  intro K hK
  go_wp2_with fail
  go_ret
  exact ⟨rfl, (h72).fr⟩

theorem curveMuls_walk (n b : List Int) (ln : n.length = 32) (yn : Byt n) (lb : b.length = 32) (yb : Byt b) : Calls Try.prog 17 #[.agg (ints .u8 n), .agg (ints .u8 b)] w fun e w' => e = .returned (.bool true) ∧ Fr [] w w' := by
  cases ho : decOk b with
  | true => exact curveMuls_yes n b _ _ _ ln yn lb yb (length_encP _) (byt_encP _) rfl rfl ho rfl
  | false => exact curveMuls_no n b _ _ _ _ ln yn lb yb (length_encP _) (byt_encP _) rfl rfl ho rfl rfl

def m1 (m : Int) : List Int := [m, 1, 0, 0, 0, 0, 0, 0, 0, 0, 0, 0, 0, 0, 0, 0, 0, 0, 0, 0, 0, 0, 0, 0, 0, 0, 0, 0, 0, 0, 0, 0]
def n07 (n : Int) : List Int := [n, 0, 7, 0, 0, 0, 0, 0, 0, 0, 0, 0, 0, 0, 0, 0, 0, 0, 0, 0, 0, 0, 0, 0, 0, 0, 0, 0, 0, 0, 0, 0]
theorem byt_m1 {n : Int} (h : 0 ≤ n ∧ n < 256) : Byt (m1 n) := byt_set (byt_b1 h) 1 (x := 1) (by omega)
theorem byt_n07 {n : Int} (h : 0 ≤ n ∧ n < 256) : Byt (n07 n) := byt_set (byt_b1 h) 2 (x := 7) (by omega)

set_option maxRecDepth 100000 in
set_option maxHeartbeats 8000000 in
theorem curveGroup_core (R O T : List Int) (bs A B C : Pt) (k m n : Int) (lR : R.length = 32) (yR : Byt R) (lO : O.length = 32) (yO : Byt O) (lT : T.length = 32) (yT : Byt T) (hR0 : encP (pad dC (pad dC A B) C) = R) (hR1 : encP (pad dC A (pad dC B C)) = R) (hR2 : encP (pad dC A (pn A)) = O) (hR3 : encP (pad dC A pz) = T) (hR4 : encP A = T)  (hbs : bsP = bs) (hMA : mulP dC (numB (b1 k)) bs = A) (hMB : mulP dC (numB (m1 m)) bs = B) (hMC : mulP dC (numB (n07 n)) bs = C) (yk : Byt (b1 k)) (ym : Byt (m1 m)) (yn : Byt (n07 n)) (hz : (O == [1, 0, 0, 0, 0, 0, 0, 0, 0, 0, 0, 0, 0, 0, 0, 0, 0, 0, 0, 0, 0, 0, 0, 0, 0, 0, 0, 0, 0, 0, 0, 0]) = true) : Calls Try.prog 19 #[.int .u8 k, .int .u8 m, .int .u8 n] w fun e w' => e = .returned (.bool true) ∧ Fr [] w w' := by
  have YR := Lib.hid yR
  clear yR
  have YO := Lib.hid yO
  clear yO
  have YT := Lib.hid yT
  clear yT
  have HR0 := Lib.hid hR0
  clear hR0
  have HR1 := Lib.hid hR1
  clear hR1
  have HR2 := Lib.hid hR2
  clear hR2
  have HR3 := Lib.hid hR3
  clear hR3
  have HR4 := Lib.hid hR4
  clear hR4
  have HBS := Lib.hid hbs
  clear hbs
  have HMA := Lib.hid hMA
  clear hMA
  have HMB := Lib.hid hMB
  clear hMB
  have HMC := Lib.hid hMC
  clear hMC
  have Yk := Lib.hid yk
  have Ym := Lib.hid ym
  have Yn := Lib.hid yn
  have HZZ := Lib.hid CP.zero
  clear yk ym yn
  go_enter Try.func19, Try.ntmps19
  go_wp2_with fail
  refine (calive_f).mono ?_
  rintro e w1 ⟨rfl, F2⟩
  have h3 : Own w [] w1 := ((Own.start w)).call F2
  clear F2
  simp only []
  obtain ⟨L4, hL4⟩ : ∃ L : List (Nat × Obj), L = [] := ⟨_, rfl⟩
  rw [← hL4] at h3
  have HL4 := Lib.hid hL4
  clear hL4
  go_wp2_with fail
  refine (cbase_n HBS.out).mono ?_
  rintro e w5 ⟨x7, y8, z9, t10, s11, rfl, k12, F6⟩
  have nx7 := k12.nx
  have ny8 := k12.ny
  have nz9 := k12.nz
  have nt10 := k12.nt
  have Hk12 := Lib.hid k12
  clear k12
  have s14 := h3
  rw [HL4.out] at s14
  have h13 : Own w [] w5 := (s14).call F6
  clear F6
  simp only []
  clear s14 h3
  obtain ⟨L15, hL15⟩ : ∃ L : List (Nat × Obj), L = [] := ⟨_, rfl⟩
  rw [← hL15] at h13
  have HL15 := Lib.hid hL15
  clear hL15
  go_wp2_with fail
  refine (cmulP_n HMA.out rfl Yk.out Hk12.out).mono ?_
  rintro e w16 ⟨x18, y19, z20, t21, s22, rfl, k23, F17⟩
  have nx18 := k23.nx
  have ny19 := k23.ny
  have nz20 := k23.nz
  have nt21 := k23.nt
  have Hk23 := Lib.hid k23
  clear k23
  have s25 := h13
  rw [HL15.out] at s25
  have h24 : Own w [] w16 := (s25).call F17
  clear F17
  simp only []
  clear s25 h13
  obtain ⟨L26, hL26⟩ : ∃ L : List (Nat × Obj), L = [] := ⟨_, rfl⟩
  rw [← hL26] at h24
  have HL26 := Lib.hid hL26
  clear hL26
  go_wp2_with fail
  have s27 := h24
  rw [HL26.out] at s27
  refine (cbase_n HBS.out).mono ?_
  rintro e w29 ⟨x31, y32, z33, t34, s35, rfl, k36, F30⟩
  have nx31 := k36.nx
  have ny32 := k36.ny
  have nz33 := k36.nz
  have nt34 := k36.nt
  have Hk36 := Lib.hid k36
  clear k36
  have h37 : Own w [(w16.heap.size, .cells (ptC x18 y19 z20 t21 s22) 49)] w29 := ((s27.allocN (.cells (ptC x18 y19 z20 t21 s22) 49) (w16.heap.size) (by simp))).call F30
  clear F30
  simp only []
  generalize w16.heap.size = bk28 at h37 ⊢
  clear s27 h24
  obtain ⟨L38, hL38⟩ : ∃ L : List (Nat × Obj), L = [(bk28, .cells (ptC x18 y19 z20 t21 s22) 49)] := ⟨_, rfl⟩
  rw [← hL38] at h37
  have HL38 := Lib.hid hL38
  clear hL38
  go_wp2_with fail
  refine (cmulP_n HMB.out rfl Ym.out Hk36.out).mono ?_
  rintro e w39 ⟨x41, y42, z43, t44, s45, rfl, k46, F40⟩
  have nx41 := k46.nx
  have ny42 := k46.ny
  have nz43 := k46.nz
  have nt44 := k46.nt
  have Hk46 := Lib.hid k46
  clear k46
  have s48 := h37
  rw [HL38.out] at s48
  have h47 : Own w [(bk28, .cells (ptC x18 y19 z20 t21 s22) 49)] w39 := (s48).call F40
  clear F40
  simp only []
  clear s48 h37
  obtain ⟨L49, hL49⟩ : ∃ L : List (Nat × Obj), L = [(bk28, .cells (ptC x18 y19 z20 t21 s22) 49)] := ⟨_, rfl⟩
  rw [← hL49] at h47
  have HL49 := Lib.hid hL49
  clear hL49
  go_wp2_with fail
  have s50 := h47
  rw [HL49.out] at s50
  refine (cbase_n HBS.out).mono ?_
  rintro e w52 ⟨x54, y55, z56, t57, s58, rfl, k59, F53⟩
  have nx54 := k59.nx
  have ny55 := k59.ny
  have nz56 := k59.nz
  have nt57 := k59.nt
  have Hk59 := Lib.hid k59
  clear k59
  have h60 : Own w [(w39.heap.size, .cells (ptC x41 y42 z43 t44 s45) 49), (bk28, .cells (ptC x18 y19 z20 t21 s22) 49)] w52 := ((s50.allocN (.cells (ptC x41 y42 z43 t44 s45) 49) (w39.heap.size) (by simp))).call F53
  clear F53
  simp only []
  generalize w39.heap.size = bk51 at h60 ⊢
  clear s50 h47
  obtain ⟨L61, hL61⟩ : ∃ L : List (Nat × Obj), L = [(bk51, .cells (ptC x41 y42 z43 t44 s45) 49), (bk28, .cells (ptC x18 y19 z20 t21 s22) 49)] := ⟨_, rfl⟩
  rw [← hL61] at h60
  have HL61 := Lib.hid hL61
  clear hL61
  go_wp2_with fail
  refine (cmulP_n HMC.out rfl Yn.out Hk59.out).mono ?_
  rintro e w62 ⟨x64, y65, z66, t67, s68, rfl, k69, F63⟩
  have nx64 := k69.nx
  have ny65 := k69.ny
  have nz66 := k69.nz
  have nt67 := k69.nt
  have Hk69 := Lib.hid k69
  clear k69
  have s71 := h60
  rw [HL61.out] at s71
  have h70 : Own w [(bk51, .cells (ptC x41 y42 z43 t44 s45) 49), (bk28, .cells (ptC x18 y19 z20 t21 s22) 49)] w62 := (s71).call F63
  clear F63
  simp only []
  clear s71 h60
  obtain ⟨L72, hL72⟩ : ∃ L : List (Nat × Obj), L = [(bk51, .cells (ptC x41 y42 z43 t44 s45) 49), (bk28, .cells (ptC x18 y19 z20 t21 s22) 49)] := ⟨_, rfl⟩
  rw [← hL72] at h70
  have HL72 := Lib.hid hL72
  clear hL72
  go_wp2_with fail
  have s73 := h70
  rw [HL72.out] at s73
  refine Own.named (Q := fun X => Code.wp _ _ _ _ X) (show Own w [(w62.heap.size, .cells (ptC x64 y65 z66 t67 s68) 49), (bk51, .cells (ptC x41 y42 z43 t44 s45) 49), (bk28, .cells (ptC x18 y19 z20 t21 s22) 49)] _ from (s73.allocN (.cells (ptC x64 y65 z66 t67 s68) 49) (w62.heap.size) (by simp))) ?_
  intro V76 h75
  generalize w62.heap.size = bk74 at h75 ⊢
  clear s73 h70
  obtain ⟨L77, hL77⟩ : ∃ L : List (Nat × Obj), L = [(bk74, .cells (ptC x64 y65 z66 t67 s68) 49), (bk51, .cells (ptC x41 y42 z43 t44 s45) 49), (bk28, .cells (ptC x18 y19 z20 t21 s22) 49)] := ⟨_, rfl⟩
  rw [← hL77] at h75
  have HL77 := Lib.hid hL77
  clear hL77
  refine drawn_begin 13 (Own w L77) (by kernel_rfl) ?_
  refine Own.named (Q := fun X => Go.Dr.wpAnyS Try.prog .any _ _ _ _ _ _ _ X) (h75.drew) ?_
  intro V78 h79
  clear h75
  have s80 := h79
  rw [HL77.out] at s80
  have f81 := s80.nth 2 rfl
  have f82 := s80.nth 1 rfl
  have f83 := s80.nth 0 rfl
  clear s80
  refine drawn_reads (fuel := 8) [0, 1, 3, 6, 7, 8] rfl (by kernel_rfl) (h79) ?_
  repeat (first | (refine rowK_step2 rfl rfl (fun K hK => ?_); go_wp2) | (refine rowK_step rfl (fun K hK => ?_); go_simp; refine hK _ ?_; clear hK K) | (refine rowK_step rfl (fun K hK => ?_); go_simp; refine ⟨by decide, hK _ ?_⟩; clear hK K))
  refine rowK_nil ⟨fun w' hw' => ?_, ?_⟩
  · rw [HL77.out] at hw'
    have g84 := hw'.nth 2 rfl
    have g85 := hw'.nth 1 rfl
    have g86 := hw'.nth 0 rfl
    clear f81 f82 f83
    repeat (first | (refine rowWp_step2 rfl rfl (fun K hK => ?_); go_wp2) | (refine rowWp_step rfl (fun K hK => ?_); go_simp; refine hK _ ?_; clear hK K) | (refine rowWp_step rfl (fun K hK => ?_); go_simp; refine ⟨by decide, hK _ ?_⟩; clear hK K))
    exact rowWp_nil rfl
  clear f81 f82 f83
  refine drawn_next 2 (fuel := 7) rfl (by kernel_rfl) ?_
  intro K hK
  go_wp2_with fail
  refine (cadd_p Hk23.out Hk46.out).mono ?_
  rintro e w87 ⟨x89, y90, z91, t92, s93, rfl, k94, F88⟩
  have nx89 := k94.nx
  have ny90 := k94.ny
  have nz91 := k94.nz
  have nt92 := k94.nt
  have Hk94 := Lib.hid k94
  clear k94
  have h95 := (h79).call F88
  clear F88 h79
  simp only []
  go_wp2
  refine ⟨h95, ?_⟩
  refine drawn_next 4 (fuel := 6) rfl (by kernel_rfl) ?_
  intro K hK
  go_wp2_with fail
  refine (cadd_p Hk94.out Hk69.out).mono ?_
  rintro e w96 ⟨x98, y99, z100, t101, s102, rfl, k103, F97⟩
  have nx98 := k103.nx
  have ny99 := k103.ny
  have nz100 := k103.nz
  have nt101 := k103.nt
  have Hk103 := Lib.hid k103
  clear k103
  have h104 := (h95).call F97
  clear F97 h95
  simp only []
  go_wp2
  refine ⟨h104, ?_⟩
  refine drawn_next 5 (fuel := 5) rfl (by kernel_rfl) ?_
  intro K hK
  go_wp2_with fail
  refine (cenc_p HR0.out Hk103.out).mono ?_
  rintro e w105 ⟨rfl, F106⟩
  have h107 := (h104).call F106
  clear F106 h104
  simp only []
  go_wp2
  refine ⟨h107, ?_⟩
  refine drawn_next 9 (fuel := 4) rfl (by kernel_rfl) ?_
  intro K hK
  go_wp2_with fail
  refine (cadd_p Hk46.out Hk69.out).mono ?_
  rintro e w108 ⟨x110, y111, z112, t113, s114, rfl, k115, F109⟩
  have nx110 := k115.nx
  have ny111 := k115.ny
  have nz112 := k115.nz
  have nt113 := k115.nt
  have Hk115 := Lib.hid k115
  clear k115
  have h116 := (h107).call F109
  clear F109 h107
  simp only []
  go_wp2
  refine ⟨h116, ?_⟩
  refine drawn_next 10 (fuel := 3) rfl (by kernel_rfl) ?_
  intro K hK
  go_wp2_with fail
  refine (cadd_p Hk23.out Hk115.out).mono ?_
  rintro e w117 ⟨x119, y120, z121, t122, s123, rfl, k124, F118⟩
  have nx119 := k124.nx
  have ny120 := k124.ny
  have nz121 := k124.nz
  have nt122 := k124.nt
  have Hk124 := Lib.hid k124
  clear k124
  have h125 := (h116).call F118
  clear F118 h116
  simp only []
  go_wp2
  refine ⟨h125, ?_⟩
  refine drawn_next 11 (fuel := 2) rfl (by kernel_rfl) ?_
  intro K hK
  go_wp2_with fail
  refine (cenc_p HR1.out Hk124.out).mono ?_
  rintro e w126 ⟨rfl, F127⟩
  have h128 := (h125).call F127
  clear F127 h125
  simp only []
  go_wp2
  refine ⟨h128, ?_⟩
  refine drawn_reads (fuel := 1) [12] rfl (by kernel_rfl) (h128) ?_
  repeat (first | (refine rowK_step2 rfl rfl (fun K hK => ?_); go_wp2) | (refine rowK_step rfl (fun K hK => ?_); go_simp; refine hK _ ?_; clear hK K) | (refine rowK_step rfl (fun K hK => ?_); go_simp; refine ⟨by decide, hK _ ?_⟩; clear hK K))
  refine rowK_nil ⟨fun w' hw' => ?_, ?_⟩
  · skip
    repeat (first | (refine rowWp_step2 rfl rfl (fun K hK => ?_); go_wp2) | (refine rowWp_step rfl (fun K hK => ?_); go_simp; refine hK _ ?_; clear hK K) | (refine rowWp_step rfl (fun K hK => ?_); go_simp; refine ⟨by decide, hK _ ?_⟩; clear hK K))
    exact rowWp_nil rfl
  refine drawn_end (ol := [_]) rfl (by kernel_rfl) ?_
  intro K hK
  go_wp2_with fail
  refine drawn_begin 19 (Own w L77) (by kernel_rfl) ?_
  refine Own.named (Q := fun X => Go.Dr.wpAnyS Try.prog .any _ _ _ _ _ _ _ X) (h128.drew) ?_
  intro V129 h130
  clear h128
  refine drawn_reads (fuel := 18) [0, 1] rfl (by kernel_rfl) (h130) ?_
  repeat (first | (refine rowK_step2 rfl rfl (fun K hK => ?_); go_wp2) | (refine rowK_step rfl (fun K hK => ?_); go_simp; refine hK _ ?_; clear hK K) | (refine rowK_step rfl (fun K hK => ?_); go_simp; refine ⟨by decide, hK _ ?_⟩; clear hK K))
  refine rowK_nil ⟨fun w' hw' => ?_, ?_⟩
  · skip
    repeat (first | (refine rowWp_step2 rfl rfl (fun K hK => ?_); go_wp2) | (refine rowWp_step rfl (fun K hK => ?_); go_simp; refine hK _ ?_; clear hK K) | (refine rowWp_step rfl (fun K hK => ?_); go_simp; refine ⟨by decide, hK _ ?_⟩; clear hK K))
    exact rowWp_nil rfl
  have s131 := h130
  rw [HL77.out] at s131
  have f132 := s131.nth 2 rfl
  clear s131
  refine drawn_reads (fuel := 15) [2, 3, 7] rfl (by kernel_rfl) (h130) ?_
  repeat (first | (refine rowK_step2 rfl rfl (fun K hK => ?_); go_wp2) | (refine rowK_step rfl (fun K hK => ?_); go_simp; refine hK _ ?_; clear hK K) | (refine rowK_step rfl (fun K hK => ?_); go_simp; refine ⟨by decide, hK _ ?_⟩; clear hK K))
  refine rowK_nil ⟨fun w' hw' => ?_, ?_⟩
  · rw [HL77.out] at hw'
    have g133 := hw'.nth 2 rfl
    clear f132
    repeat (first | (refine rowWp_step2 rfl rfl (fun K hK => ?_); go_wp2) | (refine rowWp_step rfl (fun K hK => ?_); go_simp; refine hK _ ?_; clear hK K) | (refine rowWp_step rfl (fun K hK => ?_); go_simp; refine ⟨by decide, hK _ ?_⟩; clear hK K))
    exact rowWp_nil rfl
  clear f132
  refine drawn_next 4 (fuel := 14) rfl (by kernel_rfl) ?_
  intro K hK
  go_wp2_with fail
  refine (cneg_p Hk23.out).mono ?_
  rintro e w134 ⟨x136, y137, z138, t139, s140, rfl, k141, F135⟩
  have nx136 := k141.nx
  have ny137 := k141.ny
  have nz138 := k141.nz
  have nt139 := k141.nt
  have Hk141 := Lib.hid k141
  clear k141
  have h142 := (h130).call F135
  clear F135 h130
  simp only []
  go_wp2
  refine ⟨h142, ?_⟩
  refine drawn_next 5 (fuel := 13) rfl (by kernel_rfl) ?_
  intro K hK
  go_wp2_with fail
  refine (cadd_p Hk23.out Hk141.out).mono ?_
  rintro e w143 ⟨x145, y146, z147, t148, s149, rfl, k150, F144⟩
  have nx145 := k150.nx
  have ny146 := k150.ny
  have nz147 := k150.nz
  have nt148 := k150.nt
  have Hk150 := Lib.hid k150
  clear k150
  have h151 := (h142).call F144
  clear F144 h142
  simp only []
  go_wp2
  refine ⟨h151, ?_⟩
  refine drawn_next 6 (fuel := 12) rfl (by kernel_rfl) ?_
  intro K hK
  go_wp2_with fail
  refine (cenc_p HR2.out Hk150.out).mono ?_
  rintro e w152 ⟨rfl, F153⟩
  have h154 := (h151).call F153
  clear F153 h151
  simp only []
  go_wp2
  refine ⟨h154, ?_⟩
  have s155 := h154
  rw [HL77.out] at s155
  have f156 := s155.nth 2 rfl
  clear s155
  refine drawn_reads (fuel := 6) [8, 9, 10, 11, 12, 15] rfl (by kernel_rfl) (h154) ?_
  repeat (first | (refine rowK_step2 rfl rfl (fun K hK => ?_); go_wp2) | (refine rowK_step rfl (fun K hK => ?_); go_simp; refine hK _ ?_; clear hK K) | (refine rowK_step rfl (fun K hK => ?_); go_simp; refine ⟨by decide, hK _ ?_⟩; clear hK K))
  refine rowK_nil ⟨fun w' hw' => ?_, ?_⟩
  · rw [HL77.out] at hw'
    have g157 := hw'.nth 2 rfl
    clear f156
    repeat (first | (refine rowWp_step2 rfl rfl (fun K hK => ?_); go_wp2) | (refine rowWp_step rfl (fun K hK => ?_); go_simp; refine hK _ ?_; clear hK K) | (refine rowWp_step rfl (fun K hK => ?_); go_simp; refine ⟨by decide, hK _ ?_⟩; clear hK K))
    exact rowWp_nil rfl
  clear f156
  refine drawn_next 13 (fuel := 5) rfl (by kernel_rfl) ?_
  intro K hK
  go_wp2_with fail
  refine (cadd_p Hk23.out HZZ.out).mono ?_
  rintro e w158 ⟨x160, y161, z162, t163, s164, rfl, k165, F159⟩
  have nx160 := k165.nx
  have ny161 := k165.ny
  have nz162 := k165.nz
  have nt163 := k165.nt
  have Hk165 := Lib.hid k165
  clear k165
  have h166 := (h154).call F159
  clear F159 h154
  simp only []
  go_wp2
  refine ⟨h166, ?_⟩
  refine drawn_next 14 (fuel := 4) rfl (by kernel_rfl) ?_
  intro K hK
  go_wp2_with fail
  refine (cenc_p HR3.out Hk165.out).mono ?_
  rintro e w167 ⟨rfl, F168⟩
  have h169 := (h166).call F168
  clear F168 h166
  simp only []
  go_wp2
  refine ⟨h169, ?_⟩
  refine drawn_next 16 (fuel := 3) rfl (by kernel_rfl) ?_
  intro K hK
  go_wp2_with fail
  refine (cenc_p HR4.out Hk23.out).mono ?_
  rintro e w170 ⟨rfl, F171⟩
  have h172 := (h169).call F171
  clear F171 h169
  simp only []
  go_wp2
  refine ⟨h172, ?_⟩
  refine drawn_reads (fuel := 1) [17, 18] rfl (by kernel_rfl) (h172) ?_
  repeat (first | (refine rowK_step2 rfl rfl (fun K hK => ?_); go_wp2) | (refine rowK_step rfl (fun K hK => ?_); go_simp; refine hK _ ?_; clear hK K) | (refine rowK_step rfl (fun K hK => ?_); go_simp; refine ⟨by decide, hK _ ?_⟩; clear hK K))
  refine rowK_nil ⟨fun w' hw' => ?_, ?_⟩
  · skip
    repeat (first | (refine rowWp_step2 rfl rfl (fun K hK => ?_); go_wp2) | (refine rowWp_step rfl (fun K hK => ?_); go_simp; refine hK _ ?_; clear hK K) | (refine rowWp_step rfl (fun K hK => ?_); go_simp; refine ⟨by decide, hK _ ?_⟩; clear hK K))
    exact rowWp_nil rfl
  refine drawn_end (ol := [_]) rfl (by kernel_rfl) ?_
  intro K hK
  go_wp2_with fail
  go_ret
  exact ⟨rfl, (h172).fr⟩

theorem pad_pz (P : Pt) : pad dC P pz = P := by rw [pad_comm, pad_zero (ne_zero_of not_sq_dC)]
theorem on_mul (n : Nat) : On dC (mulP dC n bsP) := mulP_on not_sq_dC on_bsP n
theorem curveGroup_walk (k m n : Int) (hk : 0 ≤ k ∧ k < 256) (hm : 0 ≤ m ∧ m < 256) (hn : 0 ≤ n ∧ n < 256) : Calls Try.prog 19 #[.int .u8 k, .int .u8 m, .int .u8 n] w fun e w' => e = .returned (.bool true) ∧ Fr [] w w' :=
  curveGroup_core _ (b1 1) _ _ _ _ _ k m n (length_encP _) (byt_encP _) rfl (byt_b1 (by decide)) (length_encP _) (byt_encP _) rfl (by rw [pad_assoc not_sq_dC (on_mul _) (on_mul _) (on_mul _)]) (by rw [pad_neg not_sq_dC (on_mul _)]; exact enc_pz) (by rw [pad_pz]) rfl
    rfl rfl rfl rfl (byt_b1 hk) (byt_m1 hm) (byt_n07 hn) rfl

end
end Go.Proofs.Ytakhmmnklkckpaa
