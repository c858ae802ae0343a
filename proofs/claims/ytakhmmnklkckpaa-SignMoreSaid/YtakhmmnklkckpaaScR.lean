/- The code's MulAdd, in plain numbers. -/
import Derived.Test.YtakhmmnklkckpaaScF
namespace Go.Proofs.Ytakhmmnklkckpaa
open Go.RowKit Go.Dr
theorem oL_lt : oL < 115792089237316195423570985008687907853269984665640564039457584007913129639936 := by decide
theorem oL_pos : 0 < oL := by decide
theorem vM_w4 {x : Int} (h : 0 ≤ x ∧ x < 115792089237316195423570985008687907853269984665640564039457584007913129639936) : vM (w4 x) 4 = x := by
  have e := w4_val x h
  simp only [vM, w4, el, M64, List.getD_cons_zero, List.getD_cons_succ, Int.pow_succ, Int.pow_zero]
  omega
theorem vM_w4z {x : Int} (h : 0 ≤ x ∧ x < 115792089237316195423570985008687907853269984665640564039457584007913129639936) : vM (w4 x ++ zs 4) 8 = x := by
  have e := w4_val x h
  simp only [vM, w4, zs, el, M64, List.getD_cons_zero, List.getD_cons_succ, List.replicate_succ, List.replicate_zero, List.cons_append, List.nil_append, Int.pow_succ, Int.pow_zero]
  omega
theorem rngL (n : Int) : 0 ≤ n % oL ∧ n % oL < oL := ⟨Int.emod_nonneg _ (Int.ne_of_gt oL_pos), Int.emod_lt_of_pos _ oL_pos⟩
theorem rng256 (n : Int) : 0 ≤ n % oL ∧ n % oL < 115792089237316195423570985008687907853269984665640564039457584007913129639936 :=
  ⟨(rngL n).1, Int.lt_trans (rngL n).2 oL_lt⟩
/-- MulAdd's sum: what the wide bytes stand for. -/
theorem muladd_num {a b c : List Int} (ha : Byt a) (hb : Byt b) (hc : Byt c) :
    modS (bitsD ((List.range 64).map (obF (mulW (w4 (modS (bitsD a))) (w4 (modS (bitsD b))) (w4 (modS (bitsD c)) ++ zs 4) 4)))) = (vB a * vB b + vB c) % oL := by
  rw [modS_bits ha, modS_bits hb, modS_bits hc]
  have hT : Wrd (w4 (vB c % oL) ++ zs 4) := fun x hx => (List.mem_append.1 hx).elim (wrd_w4 _ x) (wrd_zs 4 x)
  have hW := wrd_mulW (wrd_w4 (vB a % oL)) (wrd_w4 (vB b % oL)) hT 4
  have hB : Byt ((List.range 64).map (obF (mulW (w4 (vB a % oL)) (w4 (vB b % oL)) (w4 (vB c % oL) ++ zs 4) 4))) := fun x hx => by
    obtain ⟨i, _, rfl⟩ := List.mem_map.1 hx
    unfold obF
    exact ⟨Int.emod_nonneg _ (by decide), Int.emod_lt_of_pos _ (by decide)⟩
  rw [modS_bits hB]
  have hv := vB_wide hW 8
  rw [show 8 * 8 = 64 from rfl] at hv
  have hp : (vB a % oL) * (vB b % oL) ≤ oL * oL := Int.mul_le_mul (Int.le_of_lt (rngL _).2) (Int.le_of_lt (rngL _).2) (rngL _).1 (Int.le_of_lt oL_pos)
  have hbound : vM (w4 (vB c % oL) ++ zs 4) 8 + vM (w4 (vB a % oL)) 4 * vM (w4 (vB b % oL)) 4 < M64 ^ 8 := by
    rw [vM_w4z (rng256 _), vM_w4 (rng256 _), vM_w4 (rng256 _)]
    have h1 := (rngL (vB c)).2
    have h2 : oL + oL * oL < M64 ^ 8 := by decide
    omega
  rw [hv, mulW_val (by rfl) (wrd_w4 _) (wrd_w4 _) hT hbound 4 (Nat.le_refl 4), vM_w4z (rng256 _), vM_w4 (rng256 _), vM_w4 (rng256 _)]
  rw [Int.add_comm, Int.add_emod, ← Int.mul_emod, Int.emod_emod, ← Int.add_emod]
theorem muladd_c {w : World} {a b c : List Int} (la : a.length = 32) (lb : b.length = 32) (lc : c.length = 32) (ha : Byt a) (hb : Byt b) (hc : Byt c) :
    Calls Try.prog 95 #[.agg (ints .u8 a), .agg (ints .u8 b), .agg (ints .u8 c)] w fun e w' => e = .returned (.agg (ints .u8 (outF (w4 ((vB a * vB b + vB c) % oL))))) ∧ Fr [] w w' := by
  have h := muladd_f (w := w) la lb lc ha hb hc
  rw [muladd_num ha hb hc] at h
  exact h
end Go.Proofs.Ytakhmmnklkckpaa
