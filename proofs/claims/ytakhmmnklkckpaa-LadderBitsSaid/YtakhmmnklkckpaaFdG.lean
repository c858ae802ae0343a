/- The package field: Root. -/
import Derived.Test.YtakhmmnklkckpaaFdF
import Derived.Test.YtakhmmnklkckpaaEqs
namespace Go.Proofs.Ytakhmmnklkckpaa
open Go.RowKit Go.Dr

theorem le_digits (n : Nat) : ∀ m, le ((List.range m).map fun i => (n : Int) / 256 ^ i % 256) = ((n % 256 ^ m : Nat) : Int)
  | 0 => by simp [le, Nat.mod_one]
  | m + 1 => by
    rw [List.range_succ, List.map_append, le_append, le_digits n m]
    simp only [List.map_cons, List.map_nil, le, List.length_map, List.length_range]
    rw [Nat.pow_succ, Nat.mod_mul]
    rw [Int.natCast_add, Int.natCast_mul, Int.natCast_pow, Int.natCast_emod (n / 256 ^ m), Int.natCast_ediv, Int.natCast_pow]
    grind
theorem le_bytesF (x : Fp) : le (bytesF x) = x.val := by
  rw [bytesF, bytesL, le_digits]
  have := x.isLt
  rw [Nat.mod_eq_of_lt (by omega)]
theorem bytesF_inj {x y : Fp} : bytesF x = bytesF y ↔ x = y :=
  ⟨fun h => fp_ext (by rw [← le_bytesF, ← le_bytesF, h]), fun h => by rw [h]⟩
theorem length_bytesF (x : Fp) : (bytesF x).length = 32 := by simp [bytesF, bytesL]
theorem el_bytesF0 (x : Fp) : el (bytesF x) 0 = (x.val : Int) % 256 := by
  rw [bytesF, bytesL, el_map_range _ _ _ (by omega), Int.pow_zero, Int.ediv_one]
theorem u8_and1 (n : Int) (h0 : 0 ≤ n) (h1 : n < 256) : bits .and .u8 n 1 = n % 2 := by go_bits2
/-- The candidate for a root; is it one? The even one. -/
def rCand (x : Fp) : Fp := if pw x pEight * pw x pEight = -x then pw x pEight * im else pw x pEight
def rootOk (x : Fp) : Bool := decide (rCand x * rCand x = x)
def oddF (x : Fp) : Bool := decide (x.val % 2 = 1)
def evenOf (x : Fp) : Fp := if oddF x then -x else x
def rootF (x : Fp) : Fp := if rootOk x then evenOf (rCand x) else 0
theorem rootF_odd {x : Fp} (h : rootOk x = true) (h2 : oddF (rCand x) = true) : rootF x = -rCand x := by rw [rootF, if_pos h, evenOf, if_pos h2]
theorem rootF_even {x : Fp} (h : rootOk x = true) (h2 : oddF (rCand x) = false) : rootF x = rCand x := by rw [rootF, if_pos h, evenOf, if_neg (by rw [h2]; exact Bool.false_ne_true)]
theorem rootF_none {x : Fp} (h : rootOk x = false) : rootF x = 0 := by rw [rootF, if_neg (by rw [h]; exact Bool.false_ne_true)]
section
variable {w : World}
set_option maxRecDepth 100000 in
set_option maxHeartbeats 4000000 in
theorem root_walk (a : List Int) (x : Fp) (ha : Is a x) :
    Calls Try.prog 38 #[fe a] w fun e w' => ∃ c, e = .returned (.tuple #[fe c, .bool (rootOk x)]) ∧ Is c (rootF x) ∧ Fr [] w w' := by
  have hla := ha.len
  have HA := Lib.hid ha
  clear ha
  unfold fe
  go_enter Try.func38, Try.ntmps38
  go_wp2_with fail
  refine (power252 HA.out).mono ?_
  rintro e w1 ⟨r, rfl, hR, F1⟩
  have h0 := F1.get (b := w.heap.size) (o := .cells (ints .u64 a) 28) (by go_simp) (by simp)
  have h1 := F1.get (b := w.heap.size + 1) (o := .cells (ints .u64 (zs 5)) 28) (by go_simp; rfl) (by simp)
  have hrl := hR.len
  have HR := Lib.hid hR
  have HF1 := Lib.hid ((((Fr.refl [] w).alloc _).alloc _).trans F1)
  have h0l := World.at_lt h0
  have h1l := World.at_lt h1
  clear F1 hR
  go_wp2_with fail
  refine (mul_f HR.out HR.out).mono ?_
  rintro e w2 ⟨s, rfl, hS, F2⟩
  have HS := Lib.hid hS
  have k0 := F2.get (b := w.heap.size) (o := .cells (ints .u64 a) 28) (by go_simp) (by simp)
  have k1 := F2.get (b := w.heap.size + 1) (o := .cells (ints .u64 (zs 5)) 28) (by go_simp) (by simp)
  have k2 := F2.get (b := w1.heap.size) (o := .cells (ints .u64 r) 28) (by go_simp) (by simp)
  have HF2 := Lib.hid ((HF1.out.alloc _).trans F2)
  clear F2 hS h0 h1
  go_wp2_with fail
  refine (bytes_f HS.out).mono ?_
  rintro e w3 ⟨rfl, F3⟩
  have m0 := F3.get k0 (by simp)
  have m1 := F3.get k1 (by simp)
  have m2 := F3.get k2 (by simp)
  have HF3 := Lib.hid (HF2.out.trans F3)
  obtain ⟨sq, hsq⟩ : ∃ l, l = bytesF (pw x pEight * pw x pEight) := ⟨_, rfl⟩
  rw [← hsq]
  have hsl : sq.length = 32 := by rw [hsq, bytesF, bytesL]; simp
  have HSQ := Lib.hid hsq
  clear F3 k0 k1 k2 hsq
  go_wp2
  obtain ⟨W, hW⟩ : ∃ W, W = w3.alloc (.cells (ints .u8 sq) 22) := ⟨_, rfl⟩
  refine Eq.mp (congrArg (fun X => Code.wp _ _ _ _ X) hW) ?_
  have g0 : W.blk w.heap.size = some (.cells (ints .u64 a) 28) := by rw [hW, World.at_alloc_lt _ _ _ (World.at_lt m0)]; exact m0
  have g1 : W.blk (w.heap.size + 1) = some (.cells (ints .u64 (zs 5)) 28) := by rw [hW, World.at_alloc_lt _ _ _ (World.at_lt m1)]; exact m1
  have g2 : W.blk w1.heap.size = some (.cells (ints .u64 r) 28) := by rw [hW, World.at_alloc_lt _ _ _ (World.at_lt m2)]; exact m2
  have g3 : W.blk w3.heap.size = some (.cells (ints .u8 sq) 22) := by rw [hW, World.at_alloc_new _ _ _ rfl]
  have HF4 := Lib.hid (show Fr [] w W by rw [hW]; exact HF3.out.alloc _)
  have n1 := World.at_lt m0
  have n2 := World.at_lt m1
  have n3 := World.at_lt m2
  have n4 : w1.heap.size ≠ w.heap.size := fun e => by omega
  have n6 : w1.heap.size ≠ w.heap.size + 1 := by omega
  have n7 : w3.heap.size ≠ w.heap.size := by omega
  have n8 : w3.heap.size ≠ w.heap.size + 1 := by omega
  have n9 : w3.heap.size ≠ w1.heap.size := by omega
  have n5 : w1.heap.size ≠ w3.heap.size := by omega
  clear hW m0 m1 m2 HF1 HF2 HF3
  have sW : Has [(w.heap.size, .cells (ints .u64 a) 28), (w.heap.size + 1, .cells (ints .u64 (zs 5)) 28), (w1.heap.size, .cells (ints .u64 r) 28), (w3.heap.size, .cells (ints .u8 sq) 22)] W :=
    .cons g0 (.cons g1 (.cons g2 (.cons g3 (.nil _))))
  obtain ⟨L, hL⟩ : ∃ L : List (Nat × Obj), L = [(w.heap.size, .cells (ints .u64 a) 28), (w.heap.size + 1, .cells (ints .u64 (zs 5)) 28), (w1.heap.size, .cells (ints .u64 r) 28), (w3.heap.size, .cells (ints .u8 sq) 22)] := ⟨_, rfl⟩
  rw [← hL] at sW
  have HL := Lib.hid hL
  clear hL
  go_cut [16] (fun v wc => v = .bool (decide (sq = bytesF (-x))) ∧ Has L wc ∧ Fr [] W wc)
  case first =>
    refine drawn_begin 5 (Has L) (by kernel_rfl) ?_
    refine drawn_reads (fuel := 3) [0, 1] rfl (by kernel_rfl) sW.drew ?_
    repeat (refine rowK_step2 rfl rfl (fun K hK => ?_); go_wp2)
    refine rowK_nil ⟨fun w' hw' => ?_, ?_⟩
    · rw [HL.out] at hw'
      have e1 := hw'.nth 0 rfl
      have e2 := hw'.nth 3 rfl
      repeat (refine rowWp_step2 rfl rfl (fun K hK => ?_); go_wp2)
      exact rowWp_nil rfl
    refine drawn_next 2 (fuel := 2) rfl (by kernel_rfl) ?_
    intro K hK
    go_wp2_with fail
    refine (neg_f HA.out).mono ?_
    rintro e wa ⟨y, rfl, hy, FA⟩
    have sA := sW.drew.fr0 FA
    simp only []
    go_wp2
    refine ⟨sA, ?_⟩
    refine drawn_next 3 (fuel := 1) rfl (by kernel_rfl) ?_
    intro K hK
    go_wp2_with fail
    refine (bytes_f hy).mono ?_
    rintro e wb ⟨rfl, FB⟩
    have sB := sA.fr0 FB
    have FC : Fr [] W wb := ((Fr.refl [] W).drew.trans FA).trans FB
    have HFC := Lib.hid FC
    have hbl : (bytesF (-x)).length = 32 := by rw [bytesF, bytesL]; simp
    clear FA FB FC
    simp only []
    go_wp2
    refine ⟨sB, ?_⟩
    refine drawn_reads (fuel := 0) [4] rfl (by kernel_rfl) sB ?_
    repeat (refine rowK_step2 rfl rfl (fun K hK => ?_); go_wp2)
    refine rowK_nil ⟨fun w' hw' => ?_, ?_⟩
    · repeat (refine rowWp_step2 rfl rfl (fun K hK => ?_); go_wp2)
      exact rowWp_nil rfl
    refine drawn_end (ol := []) rfl (by kernel_rfl) ?_
    intro K hK
    go_wp2
    go_meet
    case rel => exact ⟨rfl, sB, HFC.out⟩
  case rest =>
    obtain ⟨rfl, sC, FC⟩ := hcut
    have hdec : decide (sq = bytesF (-x)) = decide (pw x pEight * pw x pEight = -x) := by rw [HSQ.out, Bool.eq_iff_iff]; simp only [decide_eq_true_eq, bytesF_inj]
    rw [hdec]
    have HF5 := Lib.hid (HF4.out.trans FC)
    clear hdec FC g0 g1 g2 g3 sW n1 n2
    go_upto_if 16 with (fail)
    go_cut [] (fun wc => ∃ c q, Is c (rCand x) ∧ q = bytesF (rCand x * rCand x) ∧ Has [(w.heap.size, .cells (ints .u64 a) 28), (w.heap.size + 1, .cells (ints .u64 (zs 5)) 28), (w1.heap.size, .cells (ints .u64 c) 28), (w3.heap.size, .cells (ints .u8 q) 22)] wc ∧ Fr [] w wc)
    case first =>
      by_cases hc : pw x pEight * pw x pEight = -x
      · refine wp_cond_true (by rw [decide_eq_true hc]; rfl) ?_
        have HC := Lib.hid (show rCand x = pw x pEight * im from if_pos hc)
        clear hc
        have sC' := sC
        rw [HL.out] at sC'
        have c2 := sC'.nth 2 rfl
        go_wp2
        refine drawn_begin 5 (Has L) (by kernel_rfl) ?_
        refine drawn_reads (fuel := 3) [0, 1, 2] rfl (by kernel_rfl) sC.drew ?_
        repeat (refine rowK_step2 rfl rfl (fun K hK => ?_); go_wp2)
        refine rowK_nil ⟨fun w' hw' => ?_, ?_⟩
        · rw [HL.out] at hw'
          have e1 := hw'.nth 2 rfl
          repeat (refine rowWp_step2 rfl rfl (fun K hK => ?_); go_wp2)
          exact rowWp_nil rfl
        refine drawn_next 3 (fuel := 2) rfl (by kernel_rfl) ?_
        intro K hK
        go_wp2_with fail
        refine (power253 (a := [2, 0, 0, 0, 0]) (x := 2) ⟨⟨rfl, by decide, by decide, by decide, by decide, by decide⟩, by decide⟩).mono ?_
        rintro e wa ⟨y, rfl, hy, FA⟩
        have sA := sC.drew.fr0 FA
        have hyl := hy.len
        simp only []
        go_wp2
        refine ⟨sA, ?_⟩
        refine drawn_next 4 (fuel := 1) rfl (by kernel_rfl) ?_
        intro K hK
        go_wp2_with fail
        refine (mul_f HR.out hy).mono ?_
        rintro e wb ⟨z, rfl, hz, FB⟩
        have sB := sA.fr0 FB
        have hzl := hz.len
        have HZ := Lib.hid hz
        have HFC := Lib.hid (((HF5.out.drew).trans FA).trans FB)
        clear FA FB hy hyl sA hz c2 sC' hsl
        have sB' := sB
        rw [HL.out] at sB'
        have d0 := sB'.nth 0 rfl
        have d1 := sB'.nth 1 rfl
        have d2 := sB'.nth 2 rfl
        have d3 := sB'.nth 3 rfl
        have d2l := World.at_lt d2
        have d3l := World.at_lt d3
        simp only []
        go_wp2
        refine ⟨sB, ?_⟩
        refine drawn_end rfl (by kernel_rfl) ?_
        intro K hK
        go_wp2_with fail
        refine (mul_f HZ.out HZ.out).mono ?_
        rintro e wd ⟨z2, rfl, hz2, FD⟩
        have HZ2 := Lib.hid hz2
        have p0 := FD.get (b := w.heap.size) (o := .cells (ints .u64 a) 28) (by go_simp) (by simp)
        have p1 := FD.get (b := w.heap.size + 1) (o := .cells (ints .u64 (zs 5)) 28) (by go_simp) (by simp)
        have p2 := FD.get (b := w1.heap.size) (o := .cells (ints .u64 z) 28) (by go_simp) (by simp)
        have p3 := FD.get (b := w3.heap.size) (o := .cells (ints .u8 sq) 22) (by go_simp) (by simp)
        have HFD := Lib.hid ((HFC.out.put _ _ (by omega)).trans FD)
        clear FD d0 d1 d2 d3 d2l d3l hz2 sB sB'
        go_wp2_with fail
        refine (bytes_f HZ2.out).mono ?_
        rintro e we ⟨rfl, FE⟩
        have q0 := FE.get p0 (by simp)
        have q1 := FE.get p1 (by simp)
        have q2 := FE.get p2 (by simp)
        have q3 := FE.get p3 (by simp)
        have hlb := length_bytesF (pw x pEight * pw 2 pQuart * (pw x pEight * pw 2 pQuart))
        have HFE := Lib.hid (HFD.out.trans FE)
        have q3l := World.at_lt q3
        have hsl : sq.length = 32 := by rw [HSQ.out]; exact length_bytesF _
        clear FE p0 p1 p2 p3
        go_wp2
        go_meet
        case rel =>
          refine ⟨z, _, ?_, rfl, ?_, HFE.out.put _ _ (by omega)⟩
          · rw [HC.out]; exact HZ.out
          · rw [HC.out]
            refine Has.cons ?_ (Has.cons ?_ (Has.cons ?_ (Has.cons ?_ (Has.nil _))))
            · rw [World.at_put_other _ _ _ _ n7]; exact q0
            · rw [World.at_put_other _ _ _ _ n8]; exact q1
            · rw [World.at_put_other _ _ _ _ n9]; exact q2
            · exact World.at_put_same _ _ _ q3l
      · refine wp_cond_false (by rw [decide_eq_false hc]; rfl) ?_
        have hcand : rCand x = pw x pEight := if_neg hc
        go_wp2
        go_meet
        case rel =>
          refine ⟨r, sq, ?_, ?_, ?_, HF5.out⟩
          · rw [hcand]; exact HR.out
          · rw [hcand]; exact HSQ.out
          · rw [HL.out] at sC; exact sC
    case rest =>
      obtain ⟨c, q, hC, hq, sD, FD⟩ := hcut
      have HC := Lib.hid hC
      have hql : q.length = 32 := by rw [hq]; exact length_bytesF _
      have hcl := hC.len
      have HQ := Lib.hid hq
      have HFD := Lib.hid FD
      clear FD sC hq hC HF5 HF4 HL HR HSQ HS
      obtain ⟨L2, hL2⟩ : ∃ L : List (Nat × Obj), L = [(w.heap.size, .cells (ints .u64 a) 28), (w.heap.size + 1, .cells (ints .u64 (zs 5)) 28), (w1.heap.size, .cells (ints .u64 c) 28), (w3.heap.size, .cells (ints .u8 q) 22)] := ⟨_, rfl⟩
      have sD' := sD
      rw [← hL2] at sD
      have c0 := sD'.nth 0 rfl
      have c3 := sD'.nth 3 rfl
      have HL := Lib.hid hL2
      clear hL2 sD'
      rename_i wc
      go_wp2
      go_cut [29] (fun v wc' => v = .bool (!rootOk x) ∧ Has L2 wc' ∧ Fr [] wc wc')
      case first =>
        refine drawn_begin 4 (Has L2) (by kernel_rfl) ?_
        refine drawn_reads (fuel := 2) [0, 1] rfl (by kernel_rfl) sD.drew ?_
        repeat (refine rowK_step2 rfl rfl (fun K hK => ?_); go_wp2)
        refine rowK_nil ⟨fun w' hw' => ?_, ?_⟩
        · rw [HL.out] at hw'
          have e1 := hw'.nth 0 rfl
          have e2 := hw'.nth 3 rfl
          repeat (refine rowWp_step2 rfl rfl (fun K hK => ?_); go_wp2)
          exact rowWp_nil rfl
        refine drawn_next 2 (fuel := 1) rfl (by kernel_rfl) ?_
        intro K hK
        go_wp2_with fail
        refine (bytes_f HA.out).mono ?_
        rintro e wa ⟨rfl, FA⟩
        have sA := sD.drew.fr0 FA
        have hbl := length_bytesF x
        have HFA := Lib.hid ((Fr.refl [] wc).drew.trans FA)
        clear FA
        simp only []
        go_wp2
        refine ⟨sA, ?_⟩
        refine drawn_reads (fuel := 0) [3] rfl (by kernel_rfl) sA ?_
        repeat (refine rowK_step2 rfl rfl (fun K hK => ?_); go_wp2)
        refine rowK_nil ⟨fun w' hw' => ?_, ?_⟩
        · repeat (refine rowWp_step2 rfl rfl (fun K hK => ?_); go_wp2)
          exact rowWp_nil rfl
        refine drawn_end (ol := []) rfl (by kernel_rfl) ?_
        intro K hK
        go_wp2
        go_meet
        case rel =>
          refine ⟨?_, sA, HFA.out⟩
          rw [HQ.out, rootOk]
          simp only [bytesF_inj]
      case rest =>
        obtain ⟨rfl, sE, FE⟩ := hcut
        have HFE := Lib.hid (HFD.out.trans FE)
        have sE' := sE
        rw [HL.out] at sE'
        have d0 := sE'.nth 0 rfl
        have d1 := sE'.nth 1 rfl
        have d2 := sE'.nth 2 rfl
        have d3 := sE'.nth 3 rfl
        have d1l := World.at_lt d1
        clear FE sE' c0 c3 sE sD HFD
        by_cases hok : rootOk x = true
        · rw [hok]
          go_wp2_with fail
          refine (bytes_f HC.out).mono ?_
          rintro e wd ⟨rfl, FD⟩
          have p1 := FD.get d1 (by simp)
          have p2 := FD.get d2 (by simp)
          have p2l := World.at_lt p2
          have p1l := World.at_lt p1
          have hbl := length_bytesF (rCand x)
          have hb0 := el_bytesF0 (rCand x)
          have hand := u8_and1 ((rCand x).val % 256 : Int) (by omega) (by omega)
          have hodd : ((rCand x).val % 256 : Int) % 2 = if oddF (rCand x) then 1 else 0 := by unfold oddF; split <;> simp_all <;> omega
          have HFX := Lib.hid (HFE.out.trans FD)
          clear FD d0 d1 d2 d3 d1l
          cases ho : oddF (rCand x) with
          | true =>
            rw [ho] at hodd
            simp only [↓reduceIte] at hodd
            go_wp2_with fail
            refine (neg_f HC.out).mono ?_
            rintro e wf ⟨z, rfl, hz, FF⟩
            have q1 := FF.get p1 (by simp)
            have q2 := FF.get p2 (by simp)
            have q1l := World.at_lt q1
            have q2l := World.at_lt q2
            have hzl := hz.len
            have HZ := Lib.hid hz
            have HFF := Lib.hid (HFX.out.trans FF)
            clear FF hz p1 p2 p1l p2l
            go_wp2
            refine ret_cell_tmp rfl rfl rfl ?_
            go_simp
            refine ⟨z, rfl, ?_, (HFF.out.put _ _ (by omega)).put _ _ (by omega)⟩
            rw [rootF_odd hok ho]
            exact HZ.out
          | false =>
            rw [ho] at hodd
            simp only [Bool.false_eq_true, ↓reduceIte] at hodd
            go_wp2
            refine ret_cell_tmp rfl rfl rfl ?_
            go_simp
            refine ⟨c, rfl, ?_, HFX.out.put _ _ (by omega)⟩
            rw [rootF_even hok ho]
            exact HC.out
        · have hok' : rootOk x = false := by simpa using hok
          rw [hok']
          go_wp2
          refine ret_cell_tmp rfl rfl rfl ?_
          go_simp
          refine ⟨zs 5, rfl, ?_, HFE.out.put _ _ (by omega)⟩
          rw [rootF_none hok']
          exact is_zero
end
end Go.Proofs.Ytakhmmnklkckpaa
