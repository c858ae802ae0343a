/- The document's numbers: Mul, half. -/
import Derived.Test.YtakhmmnklkckpaaRfE
namespace Go.Proofs.Ytakhmmnklkckpaa
open Go.RowKit Go.Dr

section
variable {w : World}
set_option maxRecDepth 100000 in
set_option maxHeartbeats 1000000 in
theorem rmul_any (m n : Nat) (hm : m < pN) (hn : n < pN) : Calls Try.prog 37 #[nm m, nm n] w fun e w' => e = .returned (nm (m * n % pN)) ∧ Fr [] w w' := by
  have lm := length_digs m
  have ln := length_digs n
  obtain ⟨q, hq⟩ : ∃ q, q = m * n % pN := ⟨_, rfl⟩
  rw [← hq]
  have HQ := Lib.hid hq
  clear hq
  unfold nm
  go_enter Try.func37, Try.ntmps37
  go_wp2
  obtain ⟨V, hV⟩ : ∃ V, V = (((w.alloc (.cells (ints .i64 (digs m)) 32)).alloc (.cells (ints .i64 (digs n)) 32)).alloc (.cells (ints .i64 (zs 16)) 32)).alloc (.cells (ints .i64 (zs 31)) 3) := ⟨_, rfl⟩
  refine Eq.mp (congrArg (fun X => Code.wp _ _ _ _ X) hV) ?_
  have h0 : V.blk w.heap.size = some (.cells (ints .i64 (digs m)) 32) := by rw [hV]; go_simp
  have h1 : V.blk (w.heap.size + 1) = some (.cells (ints .i64 (digs n)) 32) := by rw [hV]; go_simp
  have h2 : V.blk (w.heap.size + 2) = some (.cells (ints .i64 (zs 16)) 32) := by rw [hV]; go_simp
  have h3 : V.blk (w.heap.size + 3) = some (.cells (ints .i64 (zs 31)) 3) := by rw [hV]; go_simp
  have HFV := Lib.hid (show Fr [] w V by rw [hV]; exact ((((Fr.refl _ _).alloc _).alloc _).alloc _).alloc _)
  have H0 := Lib.hid h0
  have H1 := Lib.hid h1
  have H2 := Lib.hid h2
  clear hV h0 h1 h2
  have z31 : ∀ j, el (zs 31) j = 0 := el_zs 31
  have pz : ∀ k, pre (zs 31) k = 0 := fun k => by
    induction k with
    | zero => rfl
    | succ k ih => rw [pre, ih, z31]; simp
  go_loopw [6] (fun iv wr => ∃ (i : Nat) (D : List Int), i ≤ 16 ∧ iv = .int .i64 i ∧ D.length = 31 ∧ Hid (Fr [w.heap.size + 3] V wr) ∧ wr.blk (w.heap.size + 3) = some (.cells (ints .i64 D) 3) ∧
    Hid (∀ j, 0 ≤ el D j ∧ el D j ≤ 16 * i * 4294836225) ∧ Hid (pre D 31 = pre (digs m) i * n)) (fun iv _ => 16 - (intOf iv).toNat)
  case atStart => exact ⟨0, zs 31, by omega, rfl, rfl, Fr.refl _ _, h3, fun j => by rw [z31]; omega, by rw [Hid, pz]; simp [pre]⟩
  case round =>
    obtain ⟨i, D, hi, rfl, hDl, FR, hc, hDb, hDp⟩ := hrel
    clear h3 z31 pz
    by_cases hlt : i < 16
    · go_wp2
      rw [show decide ((i : Int) < 16) = true from by simp; omega]
      go_loopw [7] (fun kv wv => ∃ (k : Nat) (D : List Int), k ≤ 16 ∧ kv = .int .i64 k ∧ D.length = 31 ∧ Hid (Fr [w.heap.size + 3] V wv) ∧ wv.blk (w.heap.size + 3) = some (.cells (ints .i64 D) 3) ∧
        Hid (∀ j, 0 ≤ el D j ∧ el D j ≤ (16 * i + k) * 4294836225) ∧ Hid (pre D 31 = pre (digs m) i * n + el (digs m) i * 65536 ^ i * pre (digs n) k)) (fun kv _ => 16 - (intOf kv).toNat)
      case atStart => exact ⟨0, D, by omega, rfl, hDl, FR, hc, fun j => by have := hDb.out j; omega, by rw [Hid, hDp.out]; simp [pre]⟩
      case round =>
        obtain ⟨k, E, hk, rfl, hEl, FR2, hc2, hEb, hEp⟩ := hrel
        clear hc
        have hcl := World.at_lt hc2
        have k0 := FR2.out.get H0.out (by simp)
        have k1 := FR2.out.get H1.out (by simp)
        by_cases hltk : k < 16
        · have dm := el_digs_lt m i hlt
          have dn := el_digs_lt n k hltk
          have hmul : 0 ≤ el (digs m) i * el (digs n) k ∧ el (digs m) i * el (digs n) k ≤ 65535 * 65535 := ⟨Int.mul_nonneg dm.1 dn.1, Int.mul_le_mul (by omega) (by omega) dn.1 (by omega)⟩
          have hEj := hEb.out (i + k)
          have hik : i + k < 31 := by omega
          have hps := pre_set E (i + k) (by omega) (el (digs m) i * el (digs n) k) 31
          rw [if_pos hik] at hps
          obtain ⟨E', hE'⟩ : ∃ E', E' = E.set (i + k) (el E (i + k) + el (digs m) i * el (digs n) k) := ⟨_, rfl⟩
          have hE'l : E'.length = 31 := by rw [hE', List.length_set]; exact hEl
          have HE'b : Hid (∀ j, 0 ≤ el E' j ∧ el E' j ≤ (16 * i + (k + 1 : Nat)) * 4294836225) := fun j => by
            rw [hE', el_set _ _ _ _ (by omega)]
            have := hEb.out j
            split <;> omega
          have HE'p : Hid (pre E' 31 = pre (digs m) i * n + el (digs m) i * 65536 ^ i * pre (digs n) (k + 1)) := by
            rw [Hid, hE', hps, hEp.out, pre, Int.pow_add]
            grind
          have hset := hE'.symm
          clear hE' hps
          go_wp2
          refine drawn_head 19 (by kernel_rfl) rfl rfl (by kernel_rfl) ?_
          change rowK _ _ _ [0,1,2,3,4,5,6,7,8,9,10,11,12,13,14,15,16,17,18] _ _
          repeat (refine rowK_step2 rfl rfl (fun K hK => ?_); go_wp2)
          refine rowK_nil ?_
          intro K hK
          go_wp2
          go_roundw
          case rel => exact ⟨k + 1, E', by omega, by go_num, hE'l, FR2.out.drew.put _ _ (by simp), World.at_put_same _ _ _ hcl, HE'b, HE'p⟩
          case measure => simp [intOf]; omega
        · obtain rfl : k = 16 := by omega
          have hEp2 : Hid (pre E 31 = pre (digs m) (i + 1) * n) := by
            rw [Hid, hEp.out, pre_digs n (lt16 hn), pre]
            grind
          have hEb2 : Hid (∀ j, 0 ≤ el E j ∧ el E j ≤ 16 * ((i + 1 : Nat) : Int) * 4294836225) := fun j => by have := hEb.out j; omega
          go_wp2
          go_roundw
          case rel => exact ⟨i + 1, E, by omega, by go_num, hEl, FR2, hc2, hEb2, hEp2⟩
          case measure => simp [intOf]; omega
    · obtain rfl : i = 16 := by omega
      have hlt2 : m * n < 65536 ^ 32 := by
        have h1 : m * n ≤ pN * pN := Nat.mul_le_mul (by omega) (by omega)
        exact Nat.lt_of_le_of_lt h1 (by decide)
      have HFX := Lib.hid (HFV.out.seq FR.out (by simp))
      have g2 := FR.out.get H2.out (by simp)
      have hfold := fold_any (w := wr) (w.heap.size + 3) D (m * n) hc (by omega) (by omega) (fun j => by have := hDb.out j; omega) (by rw [hDl, hDp.out, pre_digs m (lt16 hm), Int.natCast_mul]) hlt2
      rw [hDl, ← HQ.out] at hfold
      have HFO := Lib.hid hfold
      clear hlt2 hfold
      go_wp2_with fail
      refine HFO.out.mono ?_
      rintro e w1 ⟨rfl, F1⟩
      have g3 := F1.get g2 (by simp)
      have g3l := World.at_lt g3
      have hlm := length_digs q
      have HF := Lib.hid (HFX.out.seq F1 (by simp))
      clear F1 g2 hc
      simp only []
      go_wp2
      refine ret_cell rfl rfl rfl ?_
      go_simp
      exact HF.out.put _ _ (by omega)
end
end Go.Proofs.Ytakhmmnklkckpaa
