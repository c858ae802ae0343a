/- Two ladders may be turned round. -/
import Derived.Test.YtakhmmnklkckpaaLadH
namespace Go.Proofs.Ytakhmmnklkckpaa
section
variable {D s : Fp}
/-- So many times a point. -/
def mulP (D : Fp) : Nat → Pt → Pt
  | 0, _ => pz
  | n + 1, P => pad D (mulP D n P) P
theorem mulP_on (hD : ¬ IsSq D) {P : Pt} (hP : On D P) : ∀ n, On D (mulP D n P)
  | 0 => on_pz
  | n + 1 => pad_on hD (mulP_on hD hP n) hP
theorem mulP_add (hD : ¬ IsSq D) {P : Pt} (hP : On D P) (m : Nat) : ∀ n, mulP D (m + n) P = pad D (mulP D m P) (mulP D n P)
  | 0 => by rw [mulP, pad_comm, pad_zero (ne_zero_of hD), Nat.add_zero]
  | n + 1 => by
    rw [← Nat.add_assoc, mulP, mulP_add hD hP m n, mulP, pad_assoc hD (mulP_on hD hP m) (mulP_on hD hP n) hP]
theorem mulP_mul (hD : ¬ IsSq D) {P : Pt} (hP : On D P) (n : Nat) : ∀ m, mulP D (m * n) P = mulP D m (mulP D n P)
  | 0 => by rw [Nat.zero_mul, mulP, mulP]
  | m + 1 => by rw [Nat.succ_mul, mulP_add hD hP, mulP_mul hD hP n m, mulP]
theorem mulP_turn (hD : ¬ IsSq D) {P : Pt} (hP : On D P) (m n : Nat) : mulP D m (mulP D n P) = mulP D n (mulP D m P) := by
  rw [← mulP_mul hD hP, ← mulP_mul hD hP, Nat.mul_comm]
theorem mulP_one (hD : ¬ IsSq D) (P : Pt) : mulP D 1 P = P := by rw [mulP, mulP, pad_zero (ne_zero_of hD)]
/-- (n + 1) P less n P. -/
theorem mulP_less (hD : ¬ IsSq D) {P : Pt} (hP : On D P) (n : Nat) : P = pad D (mulP D (n + 1) P) (pn (mulP D n P)) := by
  have h := mulP_on hD hP n
  rw [mulP, pad_comm (mulP D n P) P, pad_assoc hD hP h (on_pn h), pad_neg hD h, pad_comm, pad_zero (ne_zero_of hD)]
/-- The number of a point. -/
def numP (s : Fp) (P : Pt) : Fp := s * (1 + P.2) * inv (1 - P.2)
/-- The number that the first k bits say. -/
def topN (bits : Nat → Bool) : Nat → Nat
  | 0 => 0
  | k + 1 => 2 * topN bits k + (if bits (254 - k) then 1 else 0)
theorem lrun_says (hD : ¬ IsSq D) (hs : s * s = 1) (hc : s * kA * (D - 1) = (1 + 1) * (D + 1)) {T : Pt} (hT : On D T) {t : Fp} (ht : t = numP s T) (t1 : 1 - T.2 ≠ 0) (t2 : 1 + T.2 ≠ 0) (bits : Nat → Bool) :
    ∀ k, Says s (lrun t bits k).ax (lrun t bits k).az (mulP D (topN bits k) T) ∧ Says s (lrun t bits k).bx (lrun t bits k).bz (mulP D (topN bits k + 1) T)
  | 0 => by
    have hi := mul_inv two_ne
    have hj := mul_inv t1
    have hs0 : s ≠ 0 := fun h0 => by rw [h0] at hs; exact zero_ne_one (by rw [← hs]; grobner)
    have i0 : inv (1 + 1 : Fp) ≠ 0 := fun h0 => by rw [h0] at hi; exact zero_ne_one (by rw [← hi]; grobner)
    have j0 : inv (1 - T.2) ≠ 0 := fun h0 => by rw [h0] at hj; exact zero_ne_one (by rw [← hj]; grobner)
    rw [topN, mulP, Nat.zero_add, mulP_one hD]
    refine ⟨⟨s * inv (1 + 1), ne_mul hs0 i0, ?_, ?_⟩, ⟨inv (1 - T.2), j0, ?_, ?_⟩⟩
    · show (1 : Fp) = s * (s * inv (1 + 1)) * (1 + 1)
      obtain ⟨i, hii⟩ : ∃ i, i = inv (1 + 1 : Fp) := ⟨_, rfl⟩
      rw [← hii] at hi ⊢
      clear hii hj j0 i0 ht hc
      grobner
    · show (0 : Fp) = s * inv (1 + 1) * (1 - 1)
      obtain ⟨i, hii⟩ : ∃ i, i = inv (1 + 1 : Fp) := ⟨_, rfl⟩
      rw [← hii]
      clear hii hi hj j0 i0 ht hc
      grobner
    · show t = s * inv (1 - T.2) * (1 + T.2)
      rw [ht, numP]
      obtain ⟨i, hii⟩ : ∃ i, i = inv (1 - T.2) := ⟨_, rfl⟩
      rw [← hii]
      clear hii hi hj j0 i0 ht hc
      grobner
    · show (1 : Fp) = inv (1 - T.2) * (1 - T.2)
      obtain ⟨i, hii⟩ : ∃ i, i = inv (1 - T.2) := ⟨_, rfl⟩
      rw [← hii] at hj ⊢
      have e : i * (1 - T.2) = (1 - T.2) * i := by clear hii hi hj j0 i0 ht hc; grobner
      rw [e, hj]
  | k + 1 => by
    obtain ⟨h1, h2⟩ := lrun_says hD hs hc hT ht t1 t2 bits k
    have o1 := mulP_on hD hT (topN bits k)
    have o2 := mulP_on hD hT (topN bits k + 1)
    have htt : t * (1 - T.2) = s * (1 + T.2) := by
      have hj := mul_inv t1
      rw [ht, numP]
      obtain ⟨i, hii⟩ : ∃ i, i = inv (1 - T.2) := ⟨_, rfl⟩
      rw [← hii] at hj ⊢
      clear hii h1 h2 ht hc
      grobner
    have h3 := says_sum hD hs o1 o2 (mulP_less hD hT _) htt t1 t2 h1 h2
    rw [← mulP_add hD hT] at h3
    rw [lrun, dstep, topN]
    cases hb : bits (254 - k) with
    | true =>
      rw [if_pos rfl, if_pos rfl]
      have h4 := says_dbl hD hs hc o2 h2
      rw [← mulP_add hD hT] at h4
      rw [show topN bits k + (topN bits k + 1) = 2 * topN bits k + 1 from by omega] at h3
      rw [show topN bits k + 1 + (topN bits k + 1) = 2 * topN bits k + 1 + 1 from by omega] at h4
      exact ⟨h3, h4⟩
    | false =>
      rw [if_neg Bool.false_ne_true, if_neg Bool.false_ne_true]
      have h4 := says_dbl hD hs hc o1 h1
      rw [← mulP_add hD hT] at h4
      rw [show topN bits k + (topN bits k + 1) = 2 * topN bits k + 0 + 1 from by omega] at h3
      rw [show topN bits k + topN bits k = 2 * topN bits k + 0 from by omega] at h4
      exact ⟨h4, h3⟩
/-- Of 0 it gives 0. -/
theorem lrun_zero (bits : Nat → Bool) : ∀ k, (lrun 0 bits k).az = 0
  | 0 => rfl
  | k + 1 => by
    have ih := lrun_zero bits k
    rw [lrun, dstep]
    cases bits (254 - k) with
    | true => rw [if_pos rfl]; show sumZ 0 _ _ _ _ = 0; unfold sumZ; grobner
    | false =>
      rw [if_neg Bool.false_ne_true]
      show dblZ kA _ _ = 0
      rw [ih]
      unfold dblZ
      obtain ⟨F, hF⟩ : ∃ F, F = toFp 4 := ⟨_, rfl⟩
      rw [← hF]
      clear hF
      grobner
theorem ladF_zero (bits : Nat → Bool) : ladF 0 bits = 0 := by
  rw [ladF, lrun_zero, inv_zero]; grobner
theorem zero_of {y : Fp} (h : (1 - y) * (1 + y) = 0) (P : Pt) (hy : y = P.2) : numP s P = 0 := by
  unfold numP
  rw [← hy]
  rcases mul_zero_or h with z | z
  · rw [z, inv_zero]; grobner
  · rw [z]; grobner
/-- Multiples of the two points on the axis lie there. -/
theorem axis_mul (hD : ¬ IsSq D) {P : Pt} (h0 : P.1 = 0) (hy : P.2 * P.2 = 1) : ∀ n, (mulP D n P).1 = 0 ∧ (mulP D n P).2 * (mulP D n P).2 = 1
  | 0 => ⟨rfl, by show (1 : Fp) * 1 = 1; grobner⟩
  | n + 1 => by
    obtain ⟨h1, h2⟩ := axis_mul hD h0 hy n
    have hd := mul_inv (ne_zero_of hD)
    rw [mulP]
    unfold pad
    simp only []
    rw [h1, h0]
    obtain ⟨a, ha⟩ : ∃ a, a = (mulP D n P).2 := ⟨_, rfl⟩
    obtain ⟨b, hb⟩ : ∃ b, b = P.2 := ⟨_, rfl⟩
    rw [← ha] at h2 ⊢
    rw [← hb] at hy ⊢
    rw [show D + 0 * a * 0 * b = D from by clear h2 hy hd; grobner, show D - 0 * a * 0 * b = D from by clear h2 hy hd; grobner]
    obtain ⟨i, hi⟩ : ∃ i, i = inv D := ⟨_, rfl⟩
    rw [← hi] at hd ⊢
    clear ha hb hi h1 h0
    constructor
    · clear hd h2 hy; grobner
    · have e : D * (a * b - 0 * 0) * i * (D * (a * b - 0 * 0) * i) = (D * i) * (D * i) * (a * a) * (b * b) := by clear hd h2 hy; grobner
      rw [e, hd, h2, hy]
      clear e hd h2 hy
      grobner
/-- The ladder gives the multiple's number. -/
theorem ladF_num (hD : ¬ IsSq D) (hs : s * s = 1) (hc : s * kA * (D - 1) = (1 + 1) * (D + 1)) {T : Pt} (hT : On D T) (bits : Nat → Bool) : ladF (numP s T) bits = numP s (mulP D (topN bits 255) T) := by
  by_cases t1 : 1 - T.2 = 0 ∨ 1 + T.2 = 0
  · have hz : (1 - T.2) * (1 + T.2) = 0 := by
      rcases t1 with z | z <;> rw [z] <;> grobner
    have hyy : T.2 * T.2 = 1 := by grobner
    have hx : T.1 = 0 := by
      have h1 : T.1 * T.1 * (T.2 * T.2) = D * (T.1 * T.1 + T.2 * T.2 - 1) := hT
      rw [hyy] at h1
      have h2 : (D - 1) * (T.1 * T.1) = 0 := by
        clear t1 hz hyy hc
        grobner
      rcases mul_zero_or h2 with z | z
      · exact (not_one hD z).elim
      · exact sq_ne z
    rw [zero_of hz T rfl, ladF_zero]
    obtain ⟨_, h2⟩ := axis_mul hD hx hyy (topN bits 255)
    refine (zero_of (y := (mulP D (topN bits 255) T).2) ?_ _ rfl).symm
    obtain ⟨a, ha⟩ : ∃ a, a = (mulP D (topN bits 255) T).2 := ⟨_, rfl⟩
    rw [← ha] at h2 ⊢
    clear ha t1 hz hyy hc hx hT
    grobner
  · obtain ⟨h1, h2⟩ : 1 - T.2 ≠ 0 ∧ 1 + T.2 ≠ 0 := ⟨fun h => t1 (.inl h), fun h => t1 (.inr h)⟩
    exact says_quot (lrun_says hD hs hc hT rfl h1 h2 bits 255).1
theorem turn_on (hD : ¬ IsSq D) (hs : s * s = 1) (hc : s * kA * (D - 1) = (1 + 1) * (D + 1)) {T : Pt} (hT : On D T) (a b : Nat → Bool) : ladF (ladF (numP s T) b) a = ladF (ladF (numP s T) a) b := by
  rw [ladF_num hD hs hc hT, ladF_num hD hs hc hT, ladF_num hD hs hc (mulP_on hD hT _), ladF_num hD hs hc (mulP_on hD hT _), mulP_turn hD hT]
end
end Go.Proofs.Ytakhmmnklkckpaa
