/- The document's numbers: half, power, Inv. -/
import Derived.Test.YtakhmmnklkckpaaRfF
import Derived.Test.YtakhmmnklkckpaaFdF
namespace Go.Proofs.Ytakhmmnklkckpaa
open Go.RowKit Go.Dr

theorem half_digit (n k : Nat) : ((n / 2 / 65536 ^ k % 65536 : Nat) : Int) = ((n / 65536 ^ k % 65536 : Nat) : Int) / 2 + ((n / 65536 ^ (k + 1) % 65536 : Nat) : Int) % 2 * 32768 := by
  rw [Nat.div_div_eq_div_mul, Nat.mul_comm 2, ← Nat.div_div_eq_div_mul, Nat.pow_succ, ← Nat.div_div_eq_div_mul n]
  generalize n / 65536 ^ k = y
  omega
theorem half_last (n : Nat) (hn : n < 65536 ^ 16) : ((n / 2 / 65536 ^ 15 % 65536 : Nat) : Int) = ((n / 65536 ^ 15 % 65536 : Nat) : Int) / 2 := by
  rw [half_digit n 15, Nat.div_eq_of_lt (show n < 65536 ^ (15 + 1) from hn)]
  simp
abbrev halfD (n k : Nat) : List Int := upd (fun i => ((n / 2 / 65536 ^ i % 65536 : Nat) : Int)) (digs n) k
section
variable {w : World}
set_option maxRecDepth 100000 in
theorem half_any (n : Nat) (hn : n < 65536 ^ 16) : Calls Try.prog 75 #[nm n] w fun e w' => e = .returned (nm (n / 2)) ∧ Fr [] w w' := by
  have ln := length_digs n
  have hl := half_last n hn
  rw [← el_digs n 15 (by omega)] at hl
  have HL := Lib.hid hl
  clear hl
  unfold nm
  go_enter Try.func75, Try.ntmps75
  go_wp2
  obtain ⟨V, hV⟩ : ∃ V, V = (w.alloc (.cells (ints .i64 (digs n)) 32)).alloc (.cells (ints .i64 (zs 16)) 32) := ⟨_, rfl⟩
  refine Eq.mp (congrArg (fun X => Code.wp _ _ _ _ X) hV) ?_
  have h0 : V.blk w.heap.size = some (.cells (ints .i64 (digs n)) 32) := by rw [hV]; go_simp
  have h1 : V.blk (w.heap.size + 1) = some (.cells (ints .i64 (zs 16)) 32) := by rw [hV]; go_simp
  have HFV := Lib.hid (show Fr [] w V by rw [hV]; exact ((Fr.refl _ _).alloc _).alloc _)
  clear hV
  go_loopw [3] (fun iv wr => ∃ k : Nat, k ≤ 16 ∧ iv = .int .i64 k ∧ Hid (Fr [w.heap.size] V wr) ∧ wr.blk w.heap.size = some (.cells (ints .i64 (halfD n k)) 32)) (fun iv _ => 16 - (intOf iv).toNat)
  case atStart => exact ⟨0, by omega, rfl, Fr.refl _ _, by unfold halfD; rw [upd_zero]; exact h0⟩
  case round =>
    obtain ⟨k, hk, rfl, FR, hc⟩ := hrel
    have hcl := World.at_lt hc
    have k1 := FR.out.get h1 (by simp)
    have k1l := World.at_lt k1
    clear h0 h1
    have hlu : (halfD n k).length = 16 := by unfold halfD; rw [length_upd _ _ _ (by omega)]; exact ln
    by_cases hlt : k < 16
    · have dk := el_digs_lt n k hlt
      have hel : el (halfD n k) k = el (digs n) k := by unfold halfD; rw [el_upd, if_neg (by omega)]
      have hset : ∀ x, ((n / 2 / 65536 ^ k % 65536 : Nat) : Int) = x → (halfD n k).set k x = halfD n (k + 1) := fun x hx => by
        unfold halfD; rw [← hx]; exact set_upd (fun i => ((n / 2 / 65536 ^ i % 65536 : Nat) : Int)) (digs n) k (by omega)
      by_cases h15 : k < 15
      · have dk1 := el_digs_lt n (k + 1) (by omega)
        have hx := half_digit n k
        rw [← el_digs n k hlt, ← el_digs n (k + 1) (by omega)] at hx
        have hs := hset _ hx
        have e1 : el ((halfD n k).set k (el (digs n) k / 2)) k = el (digs n) k / 2 := by rw [el_set _ _ _ _ (by omega), if_pos rfl]
        have e2 : el ((halfD n k).set k (el (digs n) k / 2)) (k + 1) = el (digs n) (k + 1) := by
          rw [el_set _ _ _ _ (by omega), if_neg (by omega)]; unfold halfD; rw [el_upd, if_neg (by omega)]
        have e3 : ((halfD n k).set k (el (digs n) k / 2)).set k (el (digs n) k / 2 + el (digs n) (k + 1) % 2 * 32768) = halfD n (k + 1) := by rw [List.set_set]; exact hs
        have hk1 : k + 1 < 16 := by omega
        obtain ⟨T, hT⟩ : ∃ T, T = (halfD n k).set k (el (digs n) k / 2) := ⟨_, rfl⟩
        have hTl : T.length = 16 := by rw [hT, List.length_set]; exact hlu
        rw [← hT] at e1 e2 e3
        have hT' := hT.symm
        clear hset hx hs hT
        go_wp2
        refine drawn_head 12 (by kernel_rfl) rfl rfl (by kernel_rfl) ?_
        change rowK _ _ _ [0,1,2,3,4,5,6,7,8,9,10,11] _ _
        repeat (refine rowK_step2 rfl rfl (fun K hK => ?_); go_wp2)
        refine rowK_nil ?_
        intro K hK
        go_wp2
        go_roundw
        case rel => exact ⟨k + 1, by omega, by go_num, (FR.out.put _ _ (by simp)).drew, World.at_put_same _ _ _ hcl⟩
        case measure => simp [intOf]; omega
      · obtain rfl : k = 15 := by omega
        have hs := hset _ (half_last n hn)
        rw [← el_digs n 15 hlt] at hs
        clear hset
        go_wp2
        go_roundw
        case rel => exact ⟨16, by omega, by go_num, FR.out.put _ _ (by simp), World.at_put_same _ _ _ hcl⟩
        case measure => simp [intOf]
    · obtain rfl : k = 16 := by omega
      have hfull : halfD n 16 = digs (n / 2) := upd_full _ _ _ ln
      rw [hfull] at hc hlu
      have HFX := Lib.hid (HFV.out.seq FR.out (by simp))
      clear hfull
      go_wp2
      refine ret_cell rfl rfl rfl ?_
      go_simp
      exact HFX.out.put _ _ (by omega)
end
/-- A Num of a number modulo p. -/
@[go_sem] def dF (x : Fp) : Value := .agg (ints .i64 (digs x.val))
theorem dF_lt (x : Fp) : x.val < pN := x.isLt
theorem pN_pos : 0 < pN := by decide
theorem toFp_val' (n : Nat) : (toFp n).val = n % pN := by
  have h := val_toFp n
  rw [show prI = (pN : Int) from rfl, ← Int.natCast_emod] at h
  exact Int.ofNat.inj h
section
variable {w : World}
theorem rmul_f (x y : Fp) : Calls Try.prog 37 #[dF x, dF y] w fun e w' => e = .returned (dF (x * y)) ∧ Fr [] w w' := by
  have h := rmul_any (w := w) x.val y.val (dF_lt x) (dF_lt y)
  rw [show x.val * y.val % pN = (x * y).val from (Fin.val_mul x y).symm] at h
  exact h
theorem radd_f (x y : Fp) : Calls Try.prog 31 #[dF x, dF y] w fun e w' => e = .returned (dF (x + y)) ∧ Fr [] w w' := by
  have h := radd_any (w := w) x.val y.val (dF_lt x) (dF_lt y)
  rw [show (x.val + y.val) % pN = (x + y).val from (Fin.val_add x y).symm] at h
  exact h
theorem rneg_f (x : Fp) : Calls Try.prog 35 #[dF x] w fun e w' => e = .returned (dF (-x)) ∧ Fr [] w w' := by
  have h := rneg_any (w := w) x.val (dF_lt x)
  rw [show (pN - x.val) % pN = (-x).val from (Fin.val_neg' x).symm] at h
  exact h
theorem rsub_f (x y : Fp) : Calls Try.prog 33 #[dF x, dF y] w fun e w' => e = .returned (dF (x - y)) ∧ Fr [] w w' := by
  have h := rsub_any (w := w) x.val y.val (dF_lt x) (dF_lt y)
  rw [show (pN - y.val) % pN = (-y).val from (Fin.val_neg' y).symm, show (x.val + (-y).val) % pN = (x + -y).val from (Fin.val_add x (-y)).symm, show x + -y = x - y from by grobner] at h
  exact h
theorem small_f (n : Nat) (hn : n ≤ 1099511627776) : Calls Try.prog 76 #[.int .i64 n] w fun e w' => e = .returned (dF (toFp n)) ∧ Fr [] w w' := by
  have h := small_any (w := w) n hn
  rw [← toFp_val'] at h
  exact h
theorem rof_f (b : List Int) (hlb : b.length = 32) (hB : Byt b) : Calls Try.prog 29 #[.agg (ints .u8 b)] w fun e w' => e = .returned (dF (toFp (le b % 57896044618658097711785492504343953926634992332820282019728792003956564819968))) ∧ Fr [] w w' := by
  have h := rof_any (w := w) b hlb hB
  rw [← toFp_val', Int.toNat_of_nonneg (Int.emod_nonneg _ (by decide))] at h
  exact h
theorem rbytes_f (x : Fp) : Calls Try.prog 28 #[dF x] w fun e w' => e = .returned (.agg (ints .u8 (bytesF x))) ∧ Fr [] w w' := rbytes_any x.val
end
theorem bit_digit (e i : Nat) : (e / 65536 ^ (i / 16) % 65536) / 2 ^ (i % 16) % 2 = e / 2 ^ i % 2 := by
  have h1 : 2 ^ i = 65536 ^ (i / 16) * 2 ^ (i % 16) := by
    rw [show (65536 : Nat) = 2 ^ 16 from rfl, ← Nat.pow_mul, ← Nat.pow_add, Nat.div_add_mod]
  rw [h1, ← Nat.div_div_eq_div_mul]
  generalize e / 65536 ^ (i / 16) = y
  have hr : i % 16 < 16 := Nat.mod_lt _ (by decide)
  generalize i % 16 = r at hr
  have hc : r = 0 ∨ r = 1 ∨ r = 2 ∨ r = 3 ∨ r = 4 ∨ r = 5 ∨ r = 6 ∨ r = 7 ∨ r = 8 ∨ r = 9 ∨ r = 10 ∨ r = 11 ∨ r = 12 ∨ r = 13 ∨ r = 14 ∨ r = 15 := by omega
  rcases hc with rfl | rfl | rfl | rfl | rfl | rfl | rfl | rfl | rfl | rfl | rfl | rfl | rfl | rfl | rfl | rfl <;> omega
section
variable {w : World}
set_option maxRecDepth 100000 in
theorem rpower_f (x : Fp) (e : Nat) (he : e < 65536 ^ 16) : Calls Try.prog 74 #[dF x, nm e] w fun r w' => r = .returned (dF (pw x e)) ∧ Fr [] w w' := by
  have lx := length_digs x.val
  have le' := length_digs e
  unfold dF nm
  go_enter Try.func74, Try.ntmps74
  go_wp2_with fail
  refine (small_f 1 (by decide)).mono ?_
  rintro r w1 ⟨rfl, F1⟩
  have k0 := F1.get (b := w.heap.size) (o := .cells (ints .i64 (digs x.val)) 32) (by go_simp) (by simp)
  have k1 := F1.get (b := w.heap.size + 1) (o := .cells (ints .i64 (digs e)) 32) (by go_simp) (by simp)
  have k2 := F1.get (b := w.heap.size + 2) (o := .cells (ints .i64 (zs 16)) 32) (by go_simp; rfl) (by simp)
  have HF1 := Lib.hid (((((Fr.refl [] w).alloc _).alloc _).alloc _).trans F1)
  have n0 := World.at_lt k0
  have n1 := World.at_lt k1
  have n2 := World.at_lt k2
  obtain ⟨y, hy⟩ : ∃ y, y = toFp ((1 : Nat) : Int) := ⟨_, rfl⟩
  have hy1 : y = 1 := by rw [hy]; exact toFp_one
  rw [← hy]
  have ly := length_digs y.val
  have HY := Lib.hid hy1
  clear F1 hy hy1
  simp only []
  go_wp2
  unfold dF
  obtain ⟨V, hV⟩ : ∃ V, V = w1.alloc (.cells (ints .i64 (digs y.val)) 32) := ⟨_, rfl⟩
  refine Eq.mp (congrArg (fun X => Code.wp _ _ _ _ X) hV) ?_
  have g0 : V.blk w.heap.size = some (.cells (ints .i64 (digs x.val)) 32) := by rw [hV, World.at_alloc_lt _ _ _ n0]; exact k0
  have g1 : V.blk (w.heap.size + 1) = some (.cells (ints .i64 (digs e)) 32) := by rw [hV, World.at_alloc_lt _ _ _ n1]; exact k1
  have g2 : V.blk (w.heap.size + 2) = some (.cells (ints .i64 (zs 16)) 32) := by rw [hV, World.at_alloc_lt _ _ _ n2]; exact k2
  have g3 : V.blk w1.heap.size = some (.cells (ints .i64 (digs y.val)) 32) := by rw [hV]; exact World.at_alloc_new _ _ _ rfl
  obtain ⟨B, hB⟩ : ∃ B, B = w1.heap.size := ⟨_, rfl⟩
  rw [← hB] at g3 n0 n1 n2 ⊢
  have G0 := Lib.hid g0
  have G1 := Lib.hid g1
  have G2 := Lib.hid g2
  have HFV := Lib.hid (show Fr [] w V by rw [hV]; exact HF1.out.alloc _)
  have m0 : B ≠ w.heap.size := by omega
  have m1 : B ≠ w.heap.size + 1 := by omega
  have m2 : B ≠ w.heap.size + 2 := by omega
  have HBo := Lib.hid (show w.heap.size ≤ B by omega)
  have start : Hid (y = pw x (e / 2 ^ 256)) := by
    rw [Hid, HY.out, Nat.div_eq_of_lt (show e < 2 ^ 256 from he), pw_zero]
  clear hV hB k0 k1 k2 g0 g1 g2
  go_loopw [6] (fun iv wr => ∃ (j : Nat) (z : Fp), j ≤ 256 ∧ iv = .int .i64 ((j : Int) - 1) ∧ Hid (Fr [B] V wr) ∧ wr.blk B = some (.cells (ints .i64 (digs z.val)) 32) ∧ Hid (z = pw x (e / 2 ^ j))) (fun iv _ => (intOf iv + 1).toNat)
  case atStart => exact ⟨256, y, by omega, rfl, Fr.refl _ _, g3, start⟩
  case round =>
    obtain ⟨j, z, hj, rfl, FR, hc, hz⟩ := hrel
    clear g3 start
    have lz := length_digs z.val
    have hcl := World.at_lt hc
    by_cases hj0 : 1 ≤ j
    · obtain ⟨i, rfl⟩ : ∃ i, j = i + 1 := ⟨j - 1, by omega⟩
      rw [show ((i + 1 : Nat) : Int) - 1 = (i : Int) from by omega]
      go_wp2_with fail
      refine (rmul_f z z).mono ?_
      rintro r w2 ⟨rfl, F2⟩
      obtain ⟨u, hu⟩ : ∃ u, u = z * z := ⟨_, rfl⟩
      rw [← hu]
      have lu := length_digs u.val
      have c2 := F2.get hc (by simp)
      have c2l := World.at_lt c2
      have FR2 := Lib.hid (FR.out.trans (F2.mono (fun _ h => by cases h)))
      have q1 := FR2.out.get G1.out (by simpa using m1.symm)
      have q0 := FR2.out.get G0.out (by simpa using m0.symm)
      have HU := Lib.hid hu
      have hE : e / 2 ^ i = 2 * (e / 2 ^ (i + 1)) + e / 2 ^ i % 2 := by
        rw [Nat.pow_succ, ← Nat.div_div_eq_div_mul]; omega
      have HE := Lib.hid hE
      have hbd := bit_digit e i
      have hi16 : i / 16 < 16 := by omega
      have hdig := el_digs e (i / 16) hi16
      have hand := i64_and1 (el (digs e) (i / 16) / 2 ^ (i % 16))
      have hpar : el (digs e) (i / 16) / 2 ^ (i % 16) % 2 = ((e / 2 ^ i % 2 : Nat) : Int) := by
        rw [hdig, ← hbd]
        generalize e / 65536 ^ (i / 16) % 65536 = d
        rw [Int.natCast_emod, Int.natCast_ediv, Int.natCast_pow]; rfl
      rw [hpar] at hand
      have dlt := el_digs_lt e (i / 16) hi16
      have hi64 : i % 16 < 64 := by omega
      clear F2 hu hE hbd hdig hpar hc hcl
      simp only []
      rcases Nat.mod_two_eq_zero_or_one (e / 2 ^ i) with hb | hb
      · rw [hb] at hand
        have HB := Lib.hid hb
        clear hb
        go_wp2
        go_roundw
        case rel =>
          refine ⟨i, u, by omega, by simp, FR2.out.put _ _ (by simp), World.at_put_same _ _ _ c2l, ?_⟩
          show u = _
          rw [HE.out, HB.out, Nat.add_zero, Nat.two_mul, pw_add, HU.out, hz.out]
        case measure => simp [intOf]
      · rw [hb] at hand
        have HB := Lib.hid hb
        clear hb
        go_wp2_with fail
        refine (rmul_f u x).mono ?_
        rintro r w3 ⟨rfl, F3⟩
        obtain ⟨v, hv⟩ : ∃ v, v = u * x := ⟨_, rfl⟩
        rw [← hv]
        have lv := length_digs v.val
        have c3 := F3.get (b := B) (o := .cells (ints .i64 (digs u.val)) 32) (by go_simp) (by simp)
        have c3l := World.at_lt c3
        have FR3 := Lib.hid ((FR2.out.put B (.cells (ints .i64 (digs u.val)) 32) (by simp)).trans (F3.mono (fun _ h => by cases h)))
        have HV := Lib.hid hv
        clear F3 hv c2 c2l q0 q1
        simp only []
        go_wp2
        go_roundw
        case rel =>
          refine ⟨i, v, by omega, by simp, FR3.out.put _ _ (by simp), World.at_put_same _ _ _ c3l, ?_⟩
          show v = _
          rw [HE.out, HB.out, pw_succ, Nat.two_mul, pw_add, HV.out, HU.out, hz.out]
        case measure => simp [intOf]
    · obtain rfl : j = 0 := by omega
      have q2 := FR.out.get G2.out (by simpa using m2.symm)
      have q2l := World.at_lt q2
      have HFX := Lib.hid (HFV.out.seq FR.out (fun k hk hlt => by rw [List.mem_singleton.1 hk] at hlt; have := HBo.out; omega))
      have hzx : z = pw x e := by have := hz.out; rwa [Nat.pow_zero, Nat.div_one] at this
      have HZ := Lib.hid hzx
      clear hzx
      go_wp2
      refine ret_cell rfl rfl rfl ?_
      go_simp
      rw [← HZ.out]
      exact ⟨rfl, HFX.out.put _ _ (by omega)⟩
end
end Go.Proofs.Ytakhmmnklkckpaa
