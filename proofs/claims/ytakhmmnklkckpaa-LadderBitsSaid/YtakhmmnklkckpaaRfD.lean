/- The document's numbers: Small, Add, Neg, Sub, Bytes, Of. -/
import Derived.Test.YtakhmmnklkckpaaRfC
import Derived.Test.YtakhmmnklkckpaaFdC
import Derived.Deep.DeepCutAuto
namespace Go.Proofs.Ytakhmmnklkckpaa
open Go.RowKit Go.Dr

section
variable {w : World}
/-- fold, of a row that is just as long. -/
theorem fold_any (b0 : Nat) (l0 : List Int) (V : Nat) (hb : w.blk b0 = some (.cells (ints .i64 l0) 3)) (h1 : 1 ≤ l0.length) (h32 : l0.length ≤ 32)
    (hd : ∀ i, 0 ≤ el l0 i ∧ el l0 i ≤ 1099511627776) (hp : pre l0 l0.length = V) (hV : V < 65536 ^ 32) :
    Calls Try.prog 68 #[.slice (some ⟨b0, 0, none⟩) l0.length l0.length] w fun e w' => e = .returned (nm (V % pN)) ∧ Fr [b0] w w' := by
  have h := fold_walk (w := w) b0 l0 #[] (by rw [rowR_nil]; exact hb) (show l0.length + 0 ≤ maxLen by unfold maxLen; omega) h1 h32 hd (by rw [hp]; have := Int.ofNat_lt.2 hV; rw [Int.natCast_pow] at this; exact this)
  rw [hp, Int.toNat_natCast] at h
  exact h
theorem small_any (n : Nat) (hn : n ≤ 1099511627776) : Calls Try.prog 76 #[.int .i64 n] w fun e w' => e = .returned (nm (n % pN)) ∧ Fr [] w w' := by
  go_enter Try.func76, Try.ntmps76
  go_wp2_with fail
  refine (fold_any (w.heap.size + 1) [(n : Int)] n (by go_simp; rfl) (by simp) (by simp) (fun i => ?_) ?_ ?_).mono ?_
  · match i with
    | 0 => simp [el]; omega
    | i + 1 => simp [el]
  · simp [pre, el]
  · exact Nat.lt_of_le_of_lt hn (by decide)
  rintro e w1 ⟨rfl, F1⟩
  have h0 := F1.get (b := w.heap.size) (o := .cells (ints .i64 (zs 16)) 32) (by go_simp; rfl) (by simp)
  have h0l := World.at_lt h0
  have hlm := length_digs (n % pN)
  have HF := Lib.hid ((((Fr.refl [] w).alloc _).alloc _).seq F1 (by simp))
  clear F1
  simp only []
  go_wp2
  refine ret_cell rfl rfl rfl ?_
  go_simp
  exact HF.out.put _ _ (by omega)
/-- The digits' sums. -/
theorem pre_sum (m n : Nat) : ∀ k, k ≤ 16 → pre ((List.range 16).map fun i => el (digs m) i + el (digs n) i) k = pre (digs m) k + pre (digs n) k
  | 0, _ => rfl
  | k + 1, h => by
    rw [pre, pre, pre, pre_sum m n k (by omega), el_map_range _ _ _ (by omega)]
    grind
theorem pre_digs (m : Nat) (hm : m < 65536 ^ 16) : pre (digs m) 16 = m := by rw [digs_digN, pre_digN _ _ _ (Nat.le_refl _), Nat.mod_eq_of_lt hm]
theorem lt16 {m : Nat} (h : m < pN) : m < 65536 ^ 16 := Nat.lt_trans h (by decide)
set_option maxRecDepth 100000 in
theorem radd_any (m n : Nat) (hm : m < pN) (hn : n < pN) : Calls Try.prog 31 #[nm m, nm n] w fun e w' => e = .returned (nm ((m + n) % pN)) ∧ Fr [] w w' := by
  have lm := length_digs m
  have ln := length_digs n
  unfold nm
  go_enter Try.func31, Try.ntmps31
  go_wp2
  obtain ⟨V, hV⟩ : ∃ V, V = (((w.alloc (.cells (ints .i64 (digs m)) 32)).alloc (.cells (ints .i64 (digs n)) 32)).alloc (.cells (ints .i64 (zs 16)) 32)).alloc (.cells (ints .i64 (zs 16)) 3) := ⟨_, rfl⟩
  refine Eq.mp (congrArg (fun X => Code.wp _ _ _ _ X) hV) ?_
  have h0 : V.blk w.heap.size = some (.cells (ints .i64 (digs m)) 32) := by rw [hV]; go_simp
  have h1 : V.blk (w.heap.size + 1) = some (.cells (ints .i64 (digs n)) 32) := by rw [hV]; go_simp
  have h2 : V.blk (w.heap.size + 2) = some (.cells (ints .i64 (zs 16)) 32) := by rw [hV]; go_simp
  have h3 : V.blk (w.heap.size + 3) = some (.cells (ints .i64 (zs 16)) 3) := by rw [hV]; go_simp
  have HFV := Lib.hid (show Fr [] w V by rw [hV]; exact ((((Fr.refl _ _).alloc _).alloc _).alloc _).alloc _)
  clear hV
  go_loopw [6] (fun iv wr => ∃ k : Nat, k ≤ 16 ∧ iv = .int .i64 k ∧ Fr [w.heap.size + 3] V wr ∧ wr.blk (w.heap.size + 3) = some (.cells (ints .i64 (upd (fun i => el (digs m) i + el (digs n) i) (zs 16) k)) 3)) (fun iv _ => 16 - (intOf iv).toNat)
  case atStart => exact ⟨0, by omega, rfl, Fr.refl _ _, by rw [upd_zero]; exact h3⟩
  case round =>
    obtain ⟨k, hk, rfl, FR, hc⟩ := hrel
    have k0 := FR.get h0 (by simp)
    have k1 := FR.get h1 (by simp)
    have k2 := FR.get h2 (by simp)
    have hcl := World.at_lt hc
    have HFR := Lib.hid FR
    clear FR h0 h1 h2 h3
    have hlu := length_upd (fun i => el (digs m) i + el (digs n) i) (zs 16) k (by rw [length_zs]; omega)
    rw [length_zs] at hlu
    by_cases hlt : k < 16
    · have dm := el_digs_lt m k hlt
      have dn := el_digs_lt n k hlt
      have hset : (upd (fun i => el (digs m) i + el (digs n) i) (zs 16) k).set k (el (digs m) k + el (digs n) k) = upd (fun i => el (digs m) i + el (digs n) i) (zs 16) (k + 1) := set_upd (fun i => el (digs m) i + el (digs n) i) (zs 16) k (by rw [length_zs]; omega)
      go_wp2
      refine drawn_head 10 (by kernel_rfl) rfl rfl (by kernel_rfl) ?_
      change rowK _ _ _ [0,1,2,3,4,5,6,7,8,9] _ _
      repeat (refine rowK_step2 rfl rfl (fun K hK => ?_); go_wp2)
      refine rowK_nil ?_
      intro K hK
      go_wp2
      go_roundw
      case rel => exact ⟨k + 1, by omega, by go_num, HFR.out.drew.put _ _ (by simp), World.at_put_same _ _ _ hcl⟩
      case measure => simp [intOf]; omega
    · obtain rfl : k = 16 := by omega
      have hfull : upd (fun i => el (digs m) i + el (digs n) i) (zs 16) 16 = (List.range 16).map fun i => el (digs m) i + el (digs n) i := upd_full _ _ _ (length_zs 16)
      rw [hfull] at hc hlu
      obtain ⟨D, hD⟩ : ∃ D, D = (List.range 16).map fun i => el (digs m) i + el (digs n) i := ⟨_, rfl⟩
      have hDb : ∀ i, 0 ≤ el D i ∧ el D i ≤ 1099511627776 := fun i => by
        rw [hD]
        by_cases hi : i < 16
        · rw [el_map_range _ _ _ hi]
          have := el_digs_lt m i hi
          have := el_digs_lt n i hi
          omega
        · rw [el_out _ _ (by simp; omega)]; omega
      have hDp : pre D D.length = ((m + n : Nat) : Int) := by
        rw [hD]
        rw [show ((List.range 16).map fun i => el (digs m) i + el (digs n) i).length = 16 from by simp, pre_sum _ _ _ (Nat.le_refl _), pre_digs _ (lt16 hm), pre_digs _ (lt16 hn), Int.natCast_add]
      have hlt : m + n < 65536 ^ 32 := by
        have : pN + pN < 65536 ^ 32 := by decide
        omega
      rw [← hD] at hc hlu
      have HDB := Lib.hid hDb
      have HDP := Lib.hid hDp
      have HFX := Lib.hid (HFV.out.seq HFR.out (by simp))
      have hfold := fold_any (w := wr) (w.heap.size + 3) D (m + n) hc (by omega) (by omega) HDB.out HDP.out hlt
      rw [hlu] at hfold
      have HFO := Lib.hid hfold
      clear hfull hD hDb hDp hlt hfold k0 k1
      go_wp2_with fail
      refine HFO.out.mono ?_
      rintro e w1 ⟨rfl, F1⟩
      have g2 := F1.get k2 (by simp)
      have g2l := World.at_lt g2
      have hlm := length_digs ((m + n) % pN)
      have HF := Lib.hid (HFX.out.seq F1 (by simp))
      clear F1 k2 hc
      simp only []
      go_wp2
      refine ret_cell rfl rfl rfl ?_
      go_simp
      exact HF.out.put _ _ (by omega)
theorem digs_zero : digs 0 = zs 16 := by kernel_rfl
theorem digs_inj {m n : Nat} (hm : m < 65536 ^ 16) (hn : n < 65536 ^ 16) : digs m = digs n ↔ m = n :=
  ⟨fun h => by
    have h1 := pre_digs m hm
    rw [h, pre_digs n hn] at h1
    omega, fun h => by rw [h]⟩
set_option maxRecDepth 100000 in
theorem rneg_any (m : Nat) (hm : m < pN) : Calls Try.prog 35 #[nm m] w fun e w' => e = .returned (nm ((pN - m) % pN)) ∧ Fr [] w w' := by
  have lm := length_digs m
  have hz := length_zs 16
  have hdec : (digs m == [0, 0, 0, 0, 0, 0, 0, 0, 0, 0, 0, 0, 0, 0, 0, 0]) = decide (m = 0) := by
    rw [beq_dec, show ([0, 0, 0, 0, 0, 0, 0, 0, 0, 0, 0, 0, 0, 0, 0, 0] : List Int) = digs 0 from by kernel_rfl, Bool.eq_iff_iff, decide_eq_true_eq, decide_eq_true_eq, digs_inj (lt16 hm) (by decide)]
  have HD := Lib.hid hdec
  obtain ⟨q, hq⟩ : ∃ q, q = (pN - m) % pN := ⟨_, rfl⟩
  rw [← hq]
  have HQ := Lib.hid hq
  clear hdec hq
  unfold nm
  go_enter Try.func35, Try.ntmps35
  go_upto_if 5 with (fail)
  rw [HD.out]
  obtain ⟨V, hV⟩ : ∃ V, V = (w.alloc (.cells (ints .i64 (digs m)) 32)).alloc (.cells (ints .i64 (zs 16)) 32) := ⟨_, rfl⟩
  refine Eq.mp (congrArg (fun X => Code.wp _ _ _ _ X) hV) ?_
  have g0 : V.blk w.heap.size = some (.cells (ints .i64 (digs m)) 32) := by rw [hV]; go_simp
  have g1 : V.blk (w.heap.size + 1) = some (.cells (ints .i64 (zs 16)) 32) := by rw [hV]; go_simp
  have HF := Lib.hid (show Fr [] w V by rw [hV]; exact ((Fr.refl _ _).alloc _).alloc _)
  have g1l := World.at_lt g1
  clear hV
  by_cases h0 : m = 0
  · have hr : q = m := by rw [HQ.out, h0]; decide
    have HR := Lib.hid hr
    rw [decide_eq_true h0]
    clear hr h0
    go_wp2
    refine ret_cell rfl rfl rfl ?_
    go_simp
    rw [HR.out]
    exact ⟨rfl, HF.out.put _ _ (by omega)⟩
  · have hr : q = pN - m := by rw [HQ.out, Nat.mod_eq_of_lt (show pN - m < pN by omega)]
    have HR := Lib.hid hr
    rw [decide_eq_false h0]
    clear hr h0
    go_wp2
    have hs : Has [(w.heap.size, .cells (ints .i64 (digs m)) 32), (w.heap.size + 1, .cells (ints .i64 (zs 16)) 32)] V := .cons g0 (.cons g1 (.nil _))
    obtain ⟨L, hL⟩ : ∃ L : List (Nat × Obj), L = [(w.heap.size, .cells (ints .i64 (digs m)) 32), (w.heap.size + 1, .cells (ints .i64 (zs 16)) 32)] := ⟨_, rfl⟩
    rw [← hL] at hs
    have HL := Lib.hid hL
    clear hL
    refine drawn_begin 3 (Has L) (by kernel_rfl) ?_
    refine drawn_reads (fuel := 3) [1] rfl (by kernel_rfl) hs.drew ?_
    repeat (refine rowK_step2 rfl rfl (fun K hK => ?_); go_wp2)
    refine rowK_nil ⟨fun w' hw' => ?_, ?_⟩
    · rw [HL.out] at hw'
      have e1 := hw'.nth 0 rfl
      repeat (refine rowWp_step2 rfl rfl (fun K hK => ?_); go_wp2)
      exact rowWp_nil rfl
    refine drawn_next 0 (fuel := 2) rfl (by kernel_rfl) ?_
    intro K hK
    go_wp2_with fail
    refine prime_any.mono ?_
    rintro e wa ⟨rfl, FA⟩
    have sA := hs.drew.fr0 FA
    simp only []
    go_wp2
    refine ⟨sA, ?_⟩
    refine drawn_next 2 (fuel := 1) rfl (by kernel_rfl) ?_
    intro K hK
    go_wp2_with fail
    refine (minus_any pN m (by omega)).mono ?_
    rintro e wb ⟨rfl, FB⟩
    have sB := sA.fr0 FB
    have HFB := Lib.hid (((HF.out.drew).trans FA).trans FB)
    have sB' := sB
    rw [HL.out] at sB'
    have d1 := sB'.nth 1 rfl
    have d1l := World.at_lt d1
    have hdm := length_digs (pN - m)
    clear FA FB sB' g0 g1 g1l sA
    simp only []
    go_wp2
    refine ⟨sB, ?_⟩
    refine drawn_end rfl (by kernel_rfl) ?_
    intro K hK
    clear sB hs
    go_wp2
    refine ret_cell rfl rfl rfl ?_
    go_simp
    rw [HR.out]
    exact ⟨rfl, HFB.out.put _ _ (by omega)⟩
set_option maxRecDepth 100000 in
theorem rsub_any (m n : Nat) (hm : m < pN) (hn : n < pN) : Calls Try.prog 33 #[nm m, nm n] w fun e w' => e = .returned (nm ((m + (pN - n) % pN) % pN)) ∧ Fr [] w w' := by
  have lm := length_digs m
  have ln := length_digs n
  obtain ⟨q, hq⟩ : ∃ q, q = (pN - n) % pN := ⟨_, rfl⟩
  obtain ⟨s, hs⟩ : ∃ s, s = (m + q) % pN := ⟨_, rfl⟩
  have hqp : q < pN := by rw [hq]; exact Nat.mod_lt _ (by decide)
  rw [← hq, ← hs]
  have HQ := Lib.hid hq
  have HS := Lib.hid hs
  clear hq hs
  unfold nm
  go_enter Try.func33, Try.ntmps33
  go_wp2
  obtain ⟨V, hV⟩ : ∃ V, V = ((w.alloc (.cells (ints .i64 (digs m)) 32)).alloc (.cells (ints .i64 (digs n)) 32)).alloc (.cells (ints .i64 (zs 16)) 32) := ⟨_, rfl⟩
  refine Eq.mp (congrArg (fun X => Code.wp _ _ _ _ X) hV) ?_
  have g0 : V.blk w.heap.size = some (.cells (ints .i64 (digs m)) 32) := by rw [hV]; go_simp
  have g1 : V.blk (w.heap.size + 1) = some (.cells (ints .i64 (digs n)) 32) := by rw [hV]; go_simp
  have g2 : V.blk (w.heap.size + 2) = some (.cells (ints .i64 (zs 16)) 32) := by rw [hV]; go_simp
  have HF := Lib.hid (show Fr [] w V by rw [hV]; exact (((Fr.refl _ _).alloc _).alloc _).alloc _)
  clear hV
  have hs : Has [(w.heap.size, .cells (ints .i64 (digs m)) 32), (w.heap.size + 1, .cells (ints .i64 (digs n)) 32), (w.heap.size + 2, .cells (ints .i64 (zs 16)) 32)] V := .cons g0 (.cons g1 (.cons g2 (.nil _)))
  obtain ⟨L, hL⟩ : ∃ L : List (Nat × Obj), L = [(w.heap.size, .cells (ints .i64 (digs m)) 32), (w.heap.size + 1, .cells (ints .i64 (digs n)) 32), (w.heap.size + 2, .cells (ints .i64 (zs 16)) 32)] := ⟨_, rfl⟩
  rw [← hL] at hs
  have HL := Lib.hid hL
  clear hL
  refine drawn_begin 4 (Has L) (by kernel_rfl) ?_
  refine drawn_reads (fuel := 3) [0, 1] rfl (by kernel_rfl) hs.drew ?_
  repeat (refine rowK_step2 rfl rfl (fun K hK => ?_); go_wp2)
  refine rowK_nil ⟨fun w' hw' => ?_, ?_⟩
  · rw [HL.out] at hw'
    have e1 := hw'.nth 0 rfl
    have e2 := hw'.nth 1 rfl
    repeat (refine rowWp_step2 rfl rfl (fun K hK => ?_); go_wp2)
    exact rowWp_nil rfl
  refine drawn_next 2 (fuel := 2) rfl (by kernel_rfl) ?_
  intro K hK
  go_wp2_with fail
  refine (rneg_any n hn).mono ?_
  rw [← HQ.out]
  rintro e wa ⟨rfl, FA⟩
  have sA := hs.drew.fr0 FA
  simp only []
  go_wp2
  refine ⟨sA, ?_⟩
  refine drawn_next 3 (fuel := 1) rfl (by kernel_rfl) ?_
  intro K hK
  go_wp2_with fail
  refine (radd_any m q hm hqp).mono ?_
  rw [← HS.out]
  rintro e wb ⟨rfl, FB⟩
  have sB := sA.fr0 FB
  have HFB := Lib.hid (((HF.out.drew).trans FA).trans FB)
  have sB' := sB
  rw [HL.out] at sB'
  have d2 := sB'.nth 2 rfl
  have d2l := World.at_lt d2
  have hdm := length_digs s
  clear FA FB sB' g0 g1 g2 sA
  simp only []
  go_wp2
  refine ⟨sB, ?_⟩
  refine drawn_end rfl (by kernel_rfl) ?_
  intro K hK
  clear sB hs
  go_wp2
  refine ret_cell rfl rfl rfl ?_
  go_simp
  exact HFB.out.put _ _ (by omega)
end
end Go.Proofs.Ytakhmmnklkckpaa
