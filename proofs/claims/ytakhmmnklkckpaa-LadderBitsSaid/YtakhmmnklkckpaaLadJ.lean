/- Each number but 0 is a point's, on one of two curves; so two ladders may be turned round, whatever the number. -/
import Derived.Test.YtakhmmnklkckpaaLadI
namespace Go.Proofs.Ytakhmmnklkckpaa
theorem isSq_of_euler {a : Fp} (h : pw a pHalf = 1) : IsSq a := by
  rcases root_cases a with ⟨_, h1 | h1⟩ | ⟨⟨h1, _⟩, _⟩
  · exact ⟨_, h1⟩
  · refine ⟨pw a pEight * im, ?_⟩
    have h2 := im_im
    obtain ⟨x, hx⟩ : ∃ x, x = pw a pEight := ⟨_, rfl⟩
    obtain ⟨i, hi⟩ : ∃ i, i = im := ⟨_, rfl⟩
    rw [← hx] at h1 ⊢
    rw [← hi] at h2 ⊢
    clear hx hi h
    grobner
  · exact (h1 h).elim
theorem euler_not {a : Fp} (h : ¬ IsSq a) : pw a pHalf = -1 := by
  have h0 : a ≠ 0 := fun e => h (e ▸ isSq_zero)
  rcases sq_pHalf h0 with h1 | h1
  · exact (h (isSq_of_euler h1)).elim
  · exact h1
theorem isSq_mul {a b : Fp} (ha : ¬ IsSq a) (hb : ¬ IsSq b) : IsSq (a * b) := by
  refine isSq_of_euler ?_
  rw [pw_mulF, euler_not ha, euler_not hb]
  grobner
theorem val_N : (toFp 236839902240).val = 236839902240 := by kernel_rfl
theorem not_sq_N : ¬ IsSq (toFp 236839902240) := fun h => by
  have h0 : toFp 236839902240 ≠ 0 := fun e => by
    have := congrArg Fin.val e
    rw [val_N] at this
    exact absurd this (by decide)
  have h1 := euler_of_sq h0 h
  have h2 : pw (toFp 236839902240) pHalf = -1 := by
    apply Fin.ext
    rw [val_pw, val_N]
    rw [pow_mod_of (m := 57896044618658097711785492504343953926634992332820282019728792003956564819949) (f := 256) (b := 236839902240) (e := pHalf) (v := 57896044618658097711785492504343953926634992332820282019728792003956564819948) (by kernel_rfl) (by unfold pHalf; omega)]
    rfl
  exact one_ne_neg (h1.symm.trans h2)
theorem kA_N : (kA + 1 + 1) * (kA - 1 - 1) = toFp 236839902240 := by kernel_rfl
theorem kA_ne : kA + 1 + 1 ≠ 0 ∧ kA - 1 - 1 ≠ 0 := by
  have h0 : toFp 236839902240 ≠ 0 := fun e => not_sq_N (e ▸ isSq_zero)
  rw [← kA_N] at h0
  exact ⟨fun e => h0 (by rw [e]; grobner), fun e => h0 (by rw [e]; grobner)⟩
theorem not_sq_of {a b N : Fp} (h : a * b = N) (hb : b ≠ 0) (hN : ¬ IsSq N) : ¬ IsSq (a * inv b) := fun ⟨x, hx⟩ => hN ⟨x * b, by
  have hi := mul_inv hb
  obtain ⟨i, hii⟩ : ∃ i, i = inv b := ⟨_, rfl⟩
  rw [← hii] at hi hx
  clear hii hN hb
  rw [← h]
  have e : x * b * (x * b) = x * x * b * b := by clear hx hi h; grobner
  rw [e, hx]
  have e2 : a * i * b * b = a * b * (b * i) := by clear e hx hi h; grobner
  rw [e2, hi]
  clear e e2 hx hi h
  grobner⟩
/-- The curves' number: (k + 2) / (k - 2), and its inverse. -/
def dOne : Fp := (kA + 1 + 1) * inv (kA - 1 - 1)
def dTwo : Fp := (kA - 1 - 1) * inv (kA + 1 + 1)
theorem not_sq_one : ¬ IsSq dOne := not_sq_of kA_N kA_ne.2 not_sq_N
theorem not_sq_two : ¬ IsSq dTwo := not_sq_of (by rw [← kA_N]; grobner) kA_ne.1 not_sq_N
theorem rel_one : 1 * kA * (dOne - 1) = (1 + 1) * (dOne + 1) := by
  have hi := mul_inv kA_ne.2
  unfold dOne
  obtain ⟨i, hii⟩ : ∃ i, i = inv (kA - 1 - 1) := ⟨_, rfl⟩
  rw [← hii] at hi ⊢
  obtain ⟨k, hk⟩ : ∃ k, k = kA := ⟨_, rfl⟩
  rw [← hk] at hi ⊢
  clear hii hk
  grobner
theorem rel_two : -1 * kA * (dTwo - 1) = (1 + 1) * (dTwo + 1) := by
  have hi := mul_inv kA_ne.1
  unfold dTwo
  obtain ⟨i, hii⟩ : ∃ i, i = inv (kA + 1 + 1) := ⟨_, rfl⟩
  rw [← hii] at hi ⊢
  obtain ⟨k, hk⟩ : ∃ k, k = kA := ⟨_, rfl⟩
  rw [← hk] at hi ⊢
  clear hii hk
  grobner
theorem one_two : dOne * dTwo = 1 := by
  have h1 := mul_inv kA_ne.1
  have h2 := mul_inv kA_ne.2
  unfold dOne dTwo
  obtain ⟨i, hii⟩ : ∃ i, i = inv (kA + 1 + 1) := ⟨_, rfl⟩
  obtain ⟨j, hjj⟩ : ∃ j, j = inv (kA - 1 - 1) := ⟨_, rfl⟩
  obtain ⟨k, hk⟩ : ∃ k, k = kA := ⟨_, rfl⟩
  rw [← hii] at h1 ⊢
  rw [← hjj] at h2 ⊢
  rw [← hk] at h1 h2 ⊢
  obtain ⟨a, ha⟩ : ∃ a, a = k + 1 + 1 := ⟨_, rfl⟩
  obtain ⟨b, hb⟩ : ∃ b, b = k - 1 - 1 := ⟨_, rfl⟩
  rw [← ha] at h1 ⊢
  rw [← hb] at h2 ⊢
  clear hii hjj hk ha hb
  have e : a * j * (b * i) = a * i * (b * j) := by clear h1 h2; grobner
  rw [e, h1, h2]
  clear e h1 h2
  grobner
/-- Each number but 0 is a point's. -/
theorem has_point {u : Fp} (_h0 : u ≠ 0) : (∃ T, On dOne T ∧ u = numP 1 T) ∨ (∃ T, On dTwo T ∧ u = numP (-1) T) := by
  have i1 : inv (1 : Fp) = 1 := inv_of (by grobner)
  by_cases hu1 : u - 1 = 0
  · left
    refine ⟨(1, 0), ?_, ?_⟩
    · unfold On OnC; simp only []; grobner
    · unfold numP; simp only []
      rw [show (1 : Fp) - 0 = 1 from by clear _h0 hu1 i1; grobner, i1]
      clear _h0 i1; grobner
  by_cases hu2 : u + 1 = 0
  · right
    refine ⟨(1, 0), ?_, ?_⟩
    · unfold On OnC; simp only []; grobner
    · unfold numP; simp only []
      rw [show (1 : Fp) - 0 = 1 from by clear _h0 hu1 i1; grobner, i1]
      clear _h0 i1 hu1; grobner
  have hp := mul_inv hu2
  have hm := mul_inv hu1
  have h2 := mul_inv two_ne
  obtain ⟨p, hpp⟩ : ∃ p, p = inv (u + 1) := ⟨_, rfl⟩
  obtain ⟨m, hmm⟩ : ∃ m, m = inv (u - 1) := ⟨_, rfl⟩
  obtain ⟨q, hq⟩ : ∃ q, q = inv (1 + 1 : Fp) := ⟨_, rfl⟩
  rw [← hpp] at hp
  rw [← hmm] at hm
  rw [← hq] at h2
  -- y = (u - 1) / (u + 1), z = 1 / y
  obtain ⟨y, hy⟩ : ∃ y, y = (u - 1) * p := ⟨_, rfl⟩
  obtain ⟨z, hz⟩ : ∃ z, z = (u + 1) * m := ⟨_, rfl⟩
  have hyz : y * z = 1 := by
    have e : (u - 1) * p * ((u + 1) * m) = (u + 1) * p * ((u - 1) * m) := by clear hp hm h2 hpp hmm hq; grobner
    rw [hy, hz, e, hp, hm]
    clear e hp hm h2 hpp hmm hq hy hz
    grobner
  have e1 : 1 - y = (1 + 1) * p := by
    rw [hy]
    have : 1 - (u - 1) * p = (u + 1) * p - (u - 1) * p := by rw [hp]
    rw [this]
    clear this hp hm h2 hpp hmm hq hy hz hyz
    grobner
  have e2 : 1 + y = (1 + 1) * u * p := by
    rw [hy]
    have : 1 + (u - 1) * p = (u + 1) * p + (u - 1) * p := by rw [hp]
    rw [this]
    clear this hp hm h2 hpp hmm hq hy hz hyz e1
    grobner
  have e3 : 1 - z = -(1 + 1) * m := by
    rw [hz]
    have : 1 - (u + 1) * m = (u - 1) * m - (u + 1) * m := by rw [hm]
    rw [this]
    clear this hp hm h2 hpp hmm hq hy hz hyz e1 e2
    grobner
  have e4 : 1 + z = (1 + 1) * u * m := by
    rw [hz]
    have : 1 + (u + 1) * m = (u - 1) * m + (u + 1) * m := by rw [hm]
    rw [this]
    clear this hp hm h2 hpp hmm hq hy hz hyz e1 e2 e3
    grobner
  have n1 : inv (1 - y) = q * (u + 1) := by
    refine inv_of ?_
    have e : (1 + 1) * p * (q * (u + 1)) = (1 + 1) * q * ((u + 1) * p) := by clear hp hm h2 hpp hmm hq hy hz hyz e1 e2 e3 e4; grobner
    rw [e1, e, h2, hp]
    clear e hp hm h2 hpp hmm hq hy hz hyz e1 e2 e3 e4
    grobner
  have n2 : inv (1 - z) = -(q * (u - 1)) := by
    refine inv_of ?_
    have e : -(1 + 1) * m * -(q * (u - 1)) = (1 + 1) * q * ((u - 1) * m) := by clear hp hm h2 hpp hmm hq hy hz hyz e1 e2 e3 e4 n1; grobner
    rw [e3, e, h2, hm]
    clear e hp hm h2 hpp hmm hq hy hz hyz e1 e2 e3 e4 n1
    grobner
  have num1 : ∀ x, u = numP 1 (x, y) := fun x => by
    unfold numP
    simp only []
    rw [n1, e2]
    have e : 1 * ((1 + 1) * u * p) * (q * (u + 1)) = u * ((1 + 1) * q) * ((u + 1) * p) := by clear hp hm h2 hpp hmm hq hy hz hyz e1 e2 e3 e4 n1 n2; grobner
    rw [e, h2, hp]
    clear e hp hm h2 hpp hmm hq hy hz hyz e1 e2 e3 e4 n1 n2
    grobner
  have num2 : ∀ x, u = numP (-1) (x, z) := fun x => by
    unfold numP
    simp only []
    rw [n2, e4]
    have e : -1 * ((1 + 1) * u * m) * -(q * (u - 1)) = u * ((1 + 1) * q) * ((u - 1) * m) := by clear hp hm h2 hpp hmm hq hy hz hyz e1 e2 e3 e4 n1 n2 num1; grobner
    rw [e, h2, hm]
    clear e hp hm h2 hpp hmm hq hy hz hyz e1 e2 e3 e4 n1 n2 num1
    grobner
  have hD := not_sq_one
  have hDE := one_two
  obtain ⟨D, hd⟩ : ∃ D, D = dOne := ⟨_, rfl⟩
  obtain ⟨E, he⟩ : ∃ E, E = dTwo := ⟨_, rfl⟩
  rw [← hd] at hD hDE ⊢
  rw [← he] at hDE ⊢
  have hg : D - y * y ≠ 0 := fun h => hD ⟨y, by clear hp hm h2 hpp hmm hq hy hz hyz e1 e2 e3 e4 n1 n2 num1 num2 hDE; grobner⟩
  have hgi := mul_inv hg
  obtain ⟨g, hgg⟩ : ∃ g, g = inv (D - y * y) := ⟨_, rfl⟩
  rw [← hgg] at hgi
  clear hp hm h2 hpp hmm hq hy hz e1 e2 e3 e4 n1 n2 hgg hg hd he
  by_cases hs : IsSq (D * (1 - y * y) * g)
  · left
    obtain ⟨x, hx⟩ := hs
    refine ⟨(x, y), ?_, num1 x⟩
    unfold On OnC
    simp only []
    clear num1 num2 hDE hyz hD
    have e : x * x * (D - y * y) = D * (1 - y * y) := by
      rw [hx]
      have : D * (1 - y * y) * g * (D - y * y) = D * (1 - y * y) * ((D - y * y) * g) := by clear hx hgi; grobner
      rw [this, hgi]; clear this hx hgi; grobner
    clear hx hgi
    grobner
  · right
    obtain ⟨x, hx⟩ := isSq_mul hD hs
    refine ⟨(x * E, z), ?_, num2 _⟩
    unfold On OnC
    simp only []
    clear num1 num2 hD hs
    -- x x = D D (1 - y y) g: so (x E)^2 = (1 - y y) g
    have e1 : x * E * (x * E) = (1 - y * y) * g := by
      have : x * E * (x * E) = x * x * (E * E) := by clear hx hgi hDE hyz; grobner
      rw [this, hx]
      have : D * (D * (1 - y * y) * g) * (E * E) = (D * E) * (D * E) * ((1 - y * y) * g) := by clear hx hgi hDE hyz this; grobner
      rw [this, hDE]; clear this hx hgi hDE hyz; grobner
    have e2 : (1 - y * y) * g * (D - y * y) = 1 - y * y := by
      have : (1 - y * y) * g * (D - y * y) = (1 - y * y) * ((D - y * y) * g) := by clear hx hgi hDE hyz e1; grobner
      rw [this, hgi]; clear this hx hgi hDE hyz e1; grobner
    obtain ⟨r, hr⟩ : ∃ r, r = (1 - y * y) * g := ⟨_, rfl⟩
    rw [← hr] at e1 e2
    rw [e1]
    clear hr hx hgi e1
    -- r (D - y y) = 1 - y y, y z = 1, D E = 1
    have f1 : r * (D - y * y) * (z * z) * E = (1 - y * y) * (z * z) * E := by rw [e2]
    have f2 : r * (D - y * y) * (z * z) * E = r * (D * E) * (z * z) - r * ((y * z) * (y * z)) * E := by clear f1 e2 hDE hyz; grobner
    have f3 : (1 - y * y) * (z * z) * E = (z * z) * E - (y * z) * (y * z) * E := by clear f1 f2 e2 hDE hyz; grobner
    rw [f2, f3, hDE, hyz] at f1
    clear f2 f3 e2 hDE hyz
    grobner
/-- WHATEVER THE NUMBER, TWO LADDERS MAY BE TURNED ROUND. -/
theorem ladF_turn (u : Fp) (a b : Nat → Bool) : ladF (ladF u b) a = ladF (ladF u a) b := by
  by_cases h0 : u = 0
  · simp only [h0, ladF_zero]
  · rcases has_point h0 with ⟨T, hT, rfl⟩ | ⟨T, hT, rfl⟩
    · exact turn_on not_sq_one (by grobner) rel_one hT a b
    · exact turn_on not_sq_two (by grobner) rel_two hT a b
end Go.Proofs.Ytakhmmnklkckpaa
