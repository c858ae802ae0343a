/- The document's numbers: Bytes, Of. -/
import Derived.Test.YtakhmmnklkckpaaRfD
namespace Go.Proofs.Ytakhmmnklkckpaa
open Go.RowKit Go.Dr

theorem byte_lo (m k : Nat) : (((m / 65536 ^ k % 65536 : Nat) : Int) % 256) = (m : Int) / 256 ^ (2 * k) % 256 := by
  have e : (256 : Int) ^ (2 * k) = ((65536 ^ k : Nat) : Int) := by rw [Int.pow_mul, Int.natCast_pow]; rfl
  rw [e, Int.natCast_emod, Int.natCast_ediv]
  generalize (m : Int) / ((65536 ^ k : Nat) : Int) = x
  omega
theorem byte_hi (m k : Nat) : (((m / 65536 ^ k % 65536 : Nat) : Int) / 256) = (m : Int) / 256 ^ (2 * k + 1) % 256 := by
  have e : (256 : Int) ^ (2 * k) = ((65536 ^ k : Nat) : Int) := by rw [Int.pow_mul, Int.natCast_pow]; rfl
  rw [Int.pow_succ, ← Int.ediv_ediv_of_nonneg (by rw [e]; exact Int.natCast_nonneg _), e, Int.natCast_emod, Int.natCast_ediv]
  generalize (m : Int) / ((65536 ^ k : Nat) : Int) = x
  omega
section
variable {w : World}
set_option maxRecDepth 100000 in
theorem rbytes_any (m : Nat) : Calls Try.prog 28 #[nm m] w fun e w' => e = .returned (.agg (ints .u8 (bytesL m))) ∧ Fr [] w w' := by
  have lm := length_digs m
  unfold nm
  go_enter Try.func28, Try.ntmps28
  go_wp2
  obtain ⟨V, hV⟩ : ∃ V, V = ((w.alloc (.cells (ints .i64 (digs m)) 32)).alloc (.cells (ints .u8 (zs 32)) 22)).alloc (.cells (ints .u8 (zs 32)) 22) := ⟨_, rfl⟩
  refine Eq.mp (congrArg (fun X => Code.wp _ _ _ _ X) hV) ?_
  have h0 : V.blk w.heap.size = some (.cells (ints .i64 (digs m)) 32) := by rw [hV]; go_simp
  have h1 : V.blk (w.heap.size + 1) = some (.cells (ints .u8 (zs 32)) 22) := by rw [hV]; go_simp
  have h2 : V.blk (w.heap.size + 2) = some (.cells (ints .u8 (zs 32)) 22) := by rw [hV]; go_simp
  have HFV := Lib.hid (show Fr [] w V by rw [hV]; exact (((Fr.refl _ _).alloc _).alloc _).alloc _)
  clear hV
  go_loopw [4] (fun iv wr => ∃ k : Nat, k ≤ 16 ∧ iv = .int .i64 k ∧ Hid (Fr [w.heap.size + 2] V wr) ∧ wr.blk (w.heap.size + 2) = some (.cells (ints .u8 (upd (fun i => (m : Int) / 256 ^ i % 256) (zs 32) (2 * k))) 22)) (fun iv _ => 16 - (intOf iv).toNat)
  case atStart => exact ⟨0, by omega, rfl, Fr.refl _ _, by rw [Nat.mul_zero, upd_zero]; exact h2⟩
  case round =>
    obtain ⟨k, hk, rfl, FR, hc⟩ := hrel
    have k0 := FR.out.get h0 (by simp)
    have k1 := FR.out.get h1 (by simp)
    have hcl := World.at_lt hc
    have k1l := World.at_lt k1
    clear h0 h1 h2
    have hlu := length_upd (fun i => (m : Int) / 256 ^ i % 256) (zs 32) (2 * k) (by rw [length_zs]; omega)
    rw [length_zs] at hlu
    by_cases hlt : k < 16
    · have dm := el_digs_lt m k hlt
      have hlo := byte_lo m k
      have hhi := byte_hi m k
      rw [← el_digs m k hlt] at hlo hhi
      have hs1 : (upd (fun i => (m : Int) / 256 ^ i % 256) (zs 32) (2 * k)).set (2 * k) (el (digs m) k % 256) = upd (fun i => (m : Int) / 256 ^ i % 256) (zs 32) (2 * k + 1) := by
        rw [hlo]; exact set_upd (fun i => (m : Int) / 256 ^ i % 256) (zs 32) (2 * k) (by rw [length_zs]; omega)
      have hs2 : (upd (fun i => (m : Int) / 256 ^ i % 256) (zs 32) (2 * k + 1)).set (2 * k + 1) (el (digs m) k / 256) = upd (fun i => (m : Int) / 256 ^ i % 256) (zs 32) (2 * (k + 1)) := by
        rw [hhi]; exact set_upd (fun i => (m : Int) / 256 ^ i % 256) (zs 32) (2 * k + 1) (by rw [length_zs]; omega)
      have hlu2 := length_upd (fun i => (m : Int) / 256 ^ i % 256) (zs 32) (2 * k + 1) (by rw [length_zs]; omega)
      rw [length_zs] at hlu2
      have hk2 : 2 * k < 32 := by omega
      have hk3 : 2 * k + 1 < 32 := by omega
      have hne : w.heap.size + 1 + 1 ≠ w.heap.size := by omega
      clear hlo hhi
      go_wp2
      go_roundw
      case rel =>
        refine ⟨k + 1, by omega, by go_num, FR.out.put _ _ (by simp), World.at_put_same _ _ _ hcl⟩
      case measure => simp [intOf]; omega
    · obtain rfl : k = 16 := by omega
      have hfull : upd (fun i => (m : Int) / 256 ^ i % 256) (zs 32) (2 * 16) = bytesL m := upd_full _ _ _ (length_zs 32)
      rw [hfull] at hc hlu
      have HFX := Lib.hid (HFV.out.seq FR.out (by simp))
      clear hfull
      go_wp2
      refine ret_cell rfl rfl rfl ?_
      go_simp
      exact HFX.out.put _ _ (by omega)
end
/-- The digits of bytes. -/
def pairD (b : List Int) (i : Nat) : Int := el b (2 * i) + 256 * el b (2 * i + 1)
theorem take_snoc (b : List Int) (i : Nat) (h : i < b.length) : b.take (i + 1) = b.take i ++ [el b i] := by
  rw [List.take_add_one, el]
  simp [List.getElem?_eq_getElem h]
theorem pre_pairs {b : List Int} (hb : b.length = 32) : ∀ k, k ≤ 16 → pre ((List.range 16).map (pairD b)) k = le (b.take (2 * k))
  | 0, _ => by simp [pre, le]
  | k + 1, h => by
    rw [pre, pre_pairs hb k (by omega), el_map_range _ _ _ (by omega)]
    rw [show 2 * (k + 1) = 2 * k + 1 + 1 from by omega, take_snoc b (2 * k + 1) (by omega), take_snoc b (2 * k) (by omega), le_append, le_append]
    have l1 : (b.take (2 * k)).length = 2 * k := by simp; omega
    simp only [List.length_append, List.length_cons, List.length_nil, l1, le, pairD]
    have e : (256 : Int) ^ (2 * k) = 65536 ^ k := by rw [Int.pow_mul]; rfl
    rw [Int.pow_succ, e]
    grind
theorem pre_of {b : List Int} (hb : b.length = 32) (hB : Byt b) : pre (((List.range 16).map (pairD b)).set 15 (pairD b 15 % 32768)) 16 = le b % 57896044618658097711785492504343953926634992332820282019728792003956564819968 := by
  have h16 := pre_pairs hb 16 (by omega)
  rw [List.take_of_length_le (by omega)] at h16
  have h15 := pre_pairs hb 15 (by omega)
  have e : ∀ x : Int, pre (((List.range 16).map (pairD b)).set 15 x) 16 = le (b.take 30) + x * 65536 ^ 15 := fun x => by
    have hc := pre_congr (l := ((List.range 16).map (pairD b)).set 15 x) (m := (List.range 16).map (pairD b)) 15 (fun i hi => by rw [el_set _ _ _ _ (by simp), if_neg (by omega)])
    rw [pre, el_set_same _ _ _ (by simp), hc, h15]
  have e2 : le b = le (b.take 30) + pairD b 15 * 65536 ^ 15 := by
    rw [← h16, pre, h15, el_map_range _ _ _ (by omega)]
  have hlt := le_lt (b.take 30) (fun x hx => hB x (List.mem_of_mem_take hx))
  have hl : (b.take 30).length = 30 := by simp; omega
  rw [hl] at hlt
  rw [e, e2]
  generalize le (b.take 30) = A at hlt
  generalize pairD b 15 = d
  omega
section
variable {w : World}
set_option maxRecDepth 100000 in
theorem rof_any (b : List Int) (hlb : b.length = 32) (hB : Byt b) : Calls Try.prog 29 #[.agg (ints .u8 b)] w fun e w' => e = .returned (nm ((le b % 57896044618658097711785492504343953926634992332820282019728792003956564819968).toNat % pN)) ∧ Fr [] w w' := by
  have HB := Lib.hid hB
  clear hB
  go_enter Try.func29, Try.ntmps29
  go_wp2
  obtain ⟨V, hV⟩ : ∃ V, V = ((w.alloc (.cells (ints .u8 b) 22)).alloc (.cells (ints .i64 (zs 16)) 32)).alloc (.cells (ints .i64 (zs 16)) 3) := ⟨_, rfl⟩
  refine Eq.mp (congrArg (fun X => Code.wp _ _ _ _ X) hV) ?_
  have h0 : V.blk w.heap.size = some (.cells (ints .u8 b) 22) := by rw [hV]; go_simp
  have h1 : V.blk (w.heap.size + 1) = some (.cells (ints .i64 (zs 16)) 32) := by rw [hV]; go_simp
  have h2 : V.blk (w.heap.size + 2) = some (.cells (ints .i64 (zs 16)) 3) := by rw [hV]; go_simp
  have HFV := Lib.hid (show Fr [] w V by rw [hV]; exact (((Fr.refl _ _).alloc _).alloc _).alloc _)
  clear hV
  go_loopw [4] (fun iv wr => ∃ k : Nat, k ≤ 16 ∧ iv = .int .i64 k ∧ Hid (Fr [w.heap.size + 2] V wr) ∧ wr.blk (w.heap.size + 2) = some (.cells (ints .i64 (upd (pairD b) (zs 16) k)) 3)) (fun iv _ => 16 - (intOf iv).toNat)
  case atStart => exact ⟨0, by omega, rfl, Fr.refl _ _, by rw [upd_zero]; exact h2⟩
  case round =>
    obtain ⟨k, hk, rfl, FR, hc⟩ := hrel
    have k0 := FR.out.get h0 (by simp)
    have k1 := FR.out.get h1 (by simp)
    have hcl := World.at_lt hc
    clear h0 h1 h2
    have hlu := length_upd (pairD b) (zs 16) k (by rw [length_zs]; omega)
    rw [length_zs] at hlu
    by_cases hlt : k < 16
    · have d0 := HB.out.at_ (2 * k) (by omega)
      have d1 := HB.out.at_ (2 * k + 1) (by omega)
      have hset : (upd (pairD b) (zs 16) k).set k (el b (2 * k) + 256 * el b (2 * k + 1)) = upd (pairD b) (zs 16) (k + 1) := set_upd (pairD b) (zs 16) k (by rw [length_zs]; omega)
      have hk2 : 2 * k < 32 := by omega
      have hk3 : 2 * k + 1 < 32 := by omega
      go_wp2
      refine drawn_head 16 (by kernel_rfl) rfl rfl (by kernel_rfl) ?_
      change rowK _ _ _ [0,1,2,3,4,5,6,7,8,9,10,11,12,13,14,15] _ _
      repeat (refine rowK_step2 rfl rfl (fun K hK => ?_); go_wp2)
      refine rowK_nil ?_
      intro K hK
      go_wp2
      go_roundw
      case rel => exact ⟨k + 1, by omega, by go_num, FR.out.drew.put _ _ (by simp), World.at_put_same _ _ _ hcl⟩
      case measure => simp [intOf]; omega
    · obtain rfl : k = 16 := by omega
      have hfull : upd (pairD b) (zs 16) 16 = (List.range 16).map (pairD b) := upd_full _ _ _ (length_zs 16)
      rw [hfull] at hc hlu
      obtain ⟨D, hD⟩ : ∃ D, D = (List.range 16).map (pairD b) := ⟨_, rfl⟩
      rw [← hD] at hc hlu
      have d15 : el D 15 = pairD b 15 := by rw [hD, el_map_range _ _ _ (by omega)]
      have hpb : ∀ i, i < 16 → 0 ≤ pairD b i ∧ pairD b i < 65536 := fun i hi => by
        have := HB.out.at_ (2 * i) (by omega)
        have := HB.out.at_ (2 * i + 1) (by omega)
        unfold pairD; omega
      have hd15 := hpb 15 (by omega)
      rw [← d15] at hd15
      obtain ⟨E, hE⟩ : ∃ E, E = D.set 15 (el D 15 % 32768) := ⟨_, rfl⟩
      have hEl : E.length = 16 := by rw [hE, List.length_set]; exact hlu
      have hEb : ∀ i, 0 ≤ el E i ∧ el E i ≤ 1099511627776 := fun i => by
        rw [hE, el_set _ _ _ _ (by omega)]
        by_cases h15 : 15 = i
        · rw [if_pos h15]; omega
        · rw [if_neg h15]
          by_cases hi : i < 16
          · rw [hD, el_map_range _ _ _ hi]
            have := hpb i hi
            omega
          · rw [el_out _ _ (by omega)]; omega
      obtain ⟨n, hn⟩ : ∃ n, n = (le b % 57896044618658097711785492504343953926634992332820282019728792003956564819968).toNat := ⟨_, rfl⟩
      have hEp : pre E E.length = (n : Int) := by
        rw [hEl, hE, d15, hD, pre_of hlb HB.out, hn, Int.toNat_of_nonneg (by omega)]
      have hnlt : n < 65536 ^ 32 := by
        have : n < 57896044618658097711785492504343953926634992332820282019728792003956564819968 := by omega
        exact Nat.lt_trans this (by decide)
      have HE := Lib.hid hE.symm
      have HEB := Lib.hid hEb
      have HEP := Lib.hid hEp
      have HN := Lib.hid hn
      have HFX := Lib.hid (HFV.out.seq FR.out (by simp))
      have hset := hE.symm
      clear hfull hD hE hEb hEp hpb hn d15 k0
      go_wp2_with fail
      have hbk : (wr.put (w.heap.size + 2) (.cells (ints .i64 E) 3)).blk (w.heap.size + 2) = some (.cells (ints .i64 E) 3) := World.at_put_same _ _ _ hcl
      have hfold := fold_any (w.heap.size + 2) E n hbk (by omega) (by omega) HEB.out HEP.out hnlt
      rw [hEl] at hfold
      refine hfold.mono ?_
      rintro e w1 ⟨rfl, F1⟩
      have g1 := F1.get (b := w.heap.size + 1) (o := .cells (ints .i64 (zs 16)) 32) (by go_simp) (by simp)
      have g1l := World.at_lt g1
      have hlm := length_digs (n % pN)
      have HF := Lib.hid ((HFX.out.put _ _ (by omega)).seq F1 (by simp))
      clear F1 k1 hc hbk hfold
      simp only []
      go_wp2
      refine ret_cell rfl rfl rfl ?_
      go_simp
      rw [← HN.out]
      exact ⟨rfl, HF.out.put _ _ (by omega)⟩
end
end Go.Proofs.Ytakhmmnklkckpaa
