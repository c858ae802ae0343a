/- Signatures: what was signed is verified; with L more it is not (plain). -/
import Derived.Test.YtakhmmnklkckpaaSgK
import Derived.Test.YtakhmmnklkckpaaZq
namespace Go.Proofs.Ytakhmmnklkckpaa
open Go.RowKit Go.Dr
theorem x_sq {P : Pt} (h : On dC P) : (-(im * P.1)) * (-(im * P.1)) = decXX P.2 := by
  have h1 := mul_inv (den_ne P.2)
  have h2 := d_D
  have h3 := im_im
  unfold On OnC at h
  unfold decXX
  obtain ⟨X, y⟩ := P
  simp only at h h1 ⊢
  obtain ⟨i, hi⟩ : ∃ i, i = inv (dE * (y * y) + 1) := ⟨_, rfl⟩
  rw [← hi] at h1 ⊢
  obtain ⟨d, hd⟩ : ∃ d, d = dE := ⟨_, rfl⟩
  rw [← hd] at h1 h2
  obtain ⟨D, hD⟩ : ∃ D, D = dC := ⟨_, rfl⟩
  rw [← hD] at h h2
  obtain ⟨m, hm⟩ : ∃ m, m = im := ⟨_, rfl⟩
  rw [← hm] at h3 ⊢
  clear hi hd hD hm
  have e0 : -(m * X) * -(m * X) = -(X * X) := by clear h h1 h2; grobner
  rw [e0]
  obtain ⟨v, hv⟩ : ∃ v, v = X * X := ⟨_, rfl⟩
  rw [← hv] at h ⊢
  obtain ⟨u, hu⟩ : ∃ u, u = y * y := ⟨_, rfl⟩
  rw [← hu] at h h1 ⊢
  clear hv hu e0 h3
  have e1 : -v * (d * u + 1) = u - 1 := by clear h1; grobner
  have e2 : -v = -v * (d * u + 1) * i := by clear e1 h h2; grobner
  rw [e2, e1]
theorem low_encB (x y : Fp) : lowB (encB x y) = bytesF y := by
  have h := el31_lt y
  unfold lowB encB
  rw [el_set_same _ _ _ (by rw [length_bytesF]; omega), List.set_set]
  have e : (el (bytesF y) 31 + 128 * ((x.val : Int) % 2)) % 128 = el (bytesF y) 31 := by omega
  rw [e]
  exact el_ext (by simp) fun k hk => by
    rw [el_set _ _ _ _ (by rw [length_bytesF]; omega)]
    split
    · rename_i hh; rw [hh]
    · rfl
theorem odd_encB (x y : Fp) : oddB (encB x y) = oddF x := by
  have h := el31_lt y
  unfold oddB encB oddF
  rw [el_set_same _ _ _ (by rw [length_bytesF]; omega), Bool.eq_iff_iff, decide_eq_true_eq, decide_eq_true_eq]
  omega
theorem neg_zeroF {x : Fp} (h : -x = 0) : x = 0 := by
  have : x = -(-x) := by clear h; grobner
  rw [this, h]; clear this h; grobner
theorem odd_zero : oddF (0 : Fp) = false := by kernel_rfl
theorem dec_encB {x y : Fp} (hx : x * x = decXX y) : decOk (encB x y) = true ∧ decX (encB x y) = x ∧ decY (encB x y) = y := by
  have hy : decY (encB x y) = y := by rw [decY, low_encB, fromB_bytesF]
  have hr := root_sq x
  rw [hx] at hr
  have hR : decR (encB x y) = evenOf x := by rw [decR, hy, hr.2]
  have ok : decOk (encB x y) = true := decOk_iff.2 ⟨by rw [hy, low_encB], by rw [hy]; exact hr.1, fun ho => by
    rw [odd_encB] at ho
    rw [hR, evenOf, if_pos ho]
    intro h0
    rw [neg_zeroF h0, odd_zero] at ho
    cases ho⟩
  refine ⟨ok, ?_, hy⟩
  rw [decX, odd_encB, hR, evenOf]
  clear hx hr hR ok hy
  cases oddF x with
  | true =>
    rw [if_pos rfl, if_pos rfl]
    grobner
  | false => rw [if_neg Bool.false_ne_true, if_neg Bool.false_ne_true]
theorem x_back (X : Fp) : im * -(im * X) = X := by
  have h3 := im_im
  obtain ⟨m, hm⟩ : ∃ m, m = im := ⟨_, rfl⟩
  rw [← hm] at h3 ⊢
  clear hm
  grobner
/-- What is told of a point is read as it. -/
theorem dec_enc {P : Pt} (h : On dC P) : decOk (encP P) = true ∧ decPt (encP P) = P := by
  obtain ⟨h1, h2, h3⟩ := dec_encB (x_sq h)
  have e : encP P = encB (-(im * P.1)) P.2 := rfl
  rw [e]
  refine ⟨h1, ?_⟩
  rw [decPt, if_pos h1, decP, h2, h3, x_back]
theorem le_vB : ∀ l : List Int, le l = vB l
  | [] => rfl
  | x :: r => by rw [le, vB, le_vB r]
theorem vB_outF {n : Int} (h : 0 ≤ n ∧ n < 115792089237316195423570985008687907853269984665640564039457584007913129639936) : vB (outF (w4 n)) = n := by
  have e := vB_wide (wrd_w4 n) 4
  rw [show 8 * 4 = 32 from rfl] at e
  rw [outF, e, vM_w4 h]
theorem scB_eq {l : List Int} (h : Byt l) : vB (scB l) = vB l % oL := by
  rw [scB, modS_bits h, vB_outF (rng256 _)]
theorem scB_scB (n : Int) : scB (outF (w4 (n % oL))) = outF (w4 (n % oL)) := by
  rw [scB, modS_bits (byt_outF _), vB_outF (rng256 _), Int.emod_emod]
theorem numB_vB {l : List Int} (h : Byt l) : ((numB l : Nat) : Int) = vB l := by
  rw [numB, le_vB, Int.toNat_of_nonneg (vB_nonneg h)]
theorem pz_pad {P : Pt} : pad dC pz P = P := pad_zero (ne_zero_of not_sq_dC) P
theorem mulP_pz : ∀ q, mulP dC q pz = pz
  | 0 => rfl
  | q + 1 => by rw [mulP, mulP_pz q, pz_pad]
/-- Multiples of the base go round with L. -/
theorem mulP_mod (n : Nat) : mulP dC (n % ordL) bsP = mulP dC n bsP := by
  have h : n = n / ordL * ordL + n % ordL := by rw [Nat.mul_comm]; exact (Nat.div_add_mod n ordL).symm
  have e : mulP dC n bsP = pad dC (mulP dC (n / ordL * ordL) bsP) (mulP dC (n % ordL) bsP) := by
    rw [← mulP_add not_sq_dC on_bsP, ← h]
  rw [e, mulP_mul not_sq_dC on_bsP, ord_bs, mulP_pz, pz_pad]
theorem pad_back {A B : Pt} (hA : On dC A) (hB : On dC B) : pad dC (pad dC A B) (pn A) = B := by
  rw [pad_comm A B, pad_assoc not_sq_dC hB hA (on_pn hA), pad_neg not_sq_dC hA, pad_comm, pz_pad]
theorem take_signB (S t : List Int) : (signB S t).take 32 = RB S t := by
  rw [signB, List.take_append_of_le_length (by rw [RB, length_baseB]; exact Nat.le_refl _), List.take_of_length_le (by rw [RB, length_baseB]; exact Nat.le_refl _)]
theorem drop_signB (S t : List Int) : (signB S t).drop 32 = sB S t := by
  rw [signB, List.drop_append_of_le_length (by rw [RB, length_baseB]; exact Nat.le_refl _), List.drop_of_length_le (by rw [RB, length_baseB]; exact Nat.le_refl _), List.nil_append]
theorem sum_num {k N r s : Nat} (h : s = (k * N + r) % ordL) : mulP dC s bsP = pad dC (mulP dC k (mulP dC N bsP)) (mulP dC r bsP) := by
  rw [h, mulP_mod, mulP_add not_sq_dC on_bsP, mulP_mul not_sq_dC on_bsP]
theorem ver_sign (S t : List Int) : verB (pubB S) t (signB S t) = true := by
  unfold verB
  rw [take_signB, drop_signB]
  have hon : ∀ n, On dC (mulP dC n bsP) := fun n => mulP_on not_sq_dC on_bsP n
  obtain ⟨d1, d2⟩ := dec_enc (hon (numB (clampB (sumF S))))
  have hp : pubB S = encP (mulP dC (numB (clampB (sumF S))) bsP) := rfl
  have hk : hashB (RB S t ++ pubB S ++ t) = kB S t := rfl
  rw [hk, hp, d1, d2]
  have hs : numB (sB S t) = (numB (kB S t) * numB (clampB (sumF S)) + numB (rB S t)) % ordL := by
    apply Int.ofNat.inj
    show ((numB (sB S t) : Nat) : Int) = (((numB (kB S t) * numB (clampB (sumF S)) + numB (rB S t)) % ordL : Nat) : Int)
    rw [Int.natCast_emod, Int.natCast_add, Int.natCast_mul, numB_vB (l := sB S t) (byt_outF _), numB_vB (l := kB S t) (byt_hashB _), numB_vB (l := rB S t) (byt_hashB _), numB_vB (byt_clampB (byt_sumF _)), sB, vB_outF (rng256 _), ordL_oL]
  rw [sum_num hs, pad_back (mulP_on not_sq_dC (hon _) _) (hon _)]
  rw [show scB (sB S t) = sB S t from scB_scB _, decide_eq_true rfl, show encP (mulP dC (numB (rB S t)) bsP) = RB S t from rfl, decide_eq_true rfl]
  rfl
end Go.Proofs.Ytakhmmnklkckpaa
