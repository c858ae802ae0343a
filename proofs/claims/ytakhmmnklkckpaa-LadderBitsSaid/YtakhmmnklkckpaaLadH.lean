/- The ladder on the curve: multiples of a point. -/
import Derived.Test.YtakhmmnklkckpaaLadG
namespace Go.Proofs.Ytakhmmnklkckpaa
section
variable {D s : Fp}
theorem not_one (hD : ¬ IsSq D) : D - 1 ≠ 0 := fun h => hD ⟨1, by grobner⟩
theorem dblXZ {l y X Z : Fp} (hs : s * s = 1) (hX : X = s * l * (1 + y)) (hZ : Z = l * (1 - y)) :
    dblX X Z = (1 + 1 + 1 + 1) * (l * l * (l * l)) * ((1 + 1 + 1 + 1) * (y * y)) ∧
    dblZ kA X Z = s * ((1 + 1 + 1 + 1) * (l * l * (l * l)) * ((1 - y * y) * ((1 + 1) + (1 + 1) * (y * y) + s * kA * (1 - y * y)))) := by
  unfold dblX dblZ
  have hF := four_eq
  obtain ⟨F, hF'⟩ : ∃ F, F = toFp 4 := ⟨_, rfl⟩
  obtain ⟨k, hk⟩ : ∃ k, k = kA := ⟨_, rfl⟩
  rw [← hF'] at hF ⊢
  rw [← hk]
  clear hF' hk
  subst hX hZ hF
  constructor <;> grobner
theorem says_dbl {X Z : Fp} {P : Pt} (hD : ¬ IsSq D) (hs : s * s = 1) (hc : s * kA * (D - 1) = (1 + 1) * (D + 1)) (hP : On D P) (h : Says s X Z P) : Says s (dblX X Z) (dblZ kA X Z) (pad D P P) := by
  obtain ⟨l, hl, hX, hZ⟩ := h
  obtain ⟨u, v, hu, hv, e⟩ := pad_def hD hP hP
  obtain ⟨h1, h2⟩ := dblXZ hs hX hZ
  have hd := ne_zero_of hD
  have h3 := dbl_rel (not_one hD) hc hP hv hd
  rw [h1, h2, e]
  clear e h1 h2 hX hZ
  obtain ⟨x, y⟩ := P
  simp only [] at *
  obtain ⟨c, hcc⟩ : ∃ c, c = s * kA := ⟨_, rfl⟩
  rw [← hcc] at h3 hc ⊢
  obtain ⟨m, hm⟩ : ∃ m, m = (1 + 1 + 1 + 1) * (l * l * (l * l)) := ⟨_, rfl⟩
  have four : (1 + 1 + 1 + 1 : Fp) ≠ 0 := four_eq ▸ four_ne
  have hm0 : m ≠ 0 := by rw [hm]; exact ne_mul four (ne_mul (ne_mul hl hl) (ne_mul hl hl))
  rw [← hm]
  obtain ⟨q, hq⟩ : ∃ q, q = (1 - y * y) * ((1 + 1) + (1 + 1) * (y * y) + c * (1 - y * y)) := ⟨_, rfl⟩
  rw [← hq] at h3 ⊢
  obtain ⟨t, ht⟩ : ∃ t, t = D * (y * y - x * x) * v := ⟨_, rfl⟩
  rw [← ht] at h3 ⊢
  refine says_of hs ?_ ?_
  · simp only []
    clear hq ht hm hm0 hc hcc hv hu hP
    have e1 : m * ((1 + 1 + 1 + 1) * (y * y)) * (1 - t) = m * ((1 + 1 + 1 + 1) * (y * y) * (1 - t)) := by clear h3; grobner
    have e2 : s * (s * (m * q) * (1 + t)) = s * s * (m * (q * (1 + t))) := by clear h3 e1; grobner
    rw [e1, e2, h3, hs]
    clear h3 e1 e2
    grobner
  · rintro ⟨z1, z2⟩
    have y0 : y = 0 := by
      rcases mul_zero_or z1 with z | z
      · exact (hm0 z).elim
      · rcases mul_zero_or z with z | z
        · exact (four z).elim
        · exact sq_ne z
    have s0 : s ≠ 0 := fun h0 => by rw [h0] at hs; exact zero_ne_one (by rw [← hs]; grobner)
    have q0 : q = 0 := by
      rcases mul_zero_or z2 with z | z
      · exact (s0 z).elim
      · rcases mul_zero_or z with z | z
        · exact (hm0 z).elim
        · exact z
    rw [y0] at hq
    have c0 : (1 + 1) + c = 0 := by
      rw [q0] at hq
      clear h3 hc hu hv hP ht
      grobner
    have : (1 + 1 + 1 + 1) * D = 0 := by
      have e : c = -(1 + 1) := by clear hc h3 hq hu hv hP ht; grobner
      rw [e] at hc
      clear h3 hq hu hv hP ht c0 e
      grobner
    rcases mul_zero_or this with z | z
    · exact four z
    · exact hd z
theorem sum_says {l m y1 y2 X1 Z1 X2 Z2 : Fp} (hs : s * s = 1) (t : Fp) (h1 : X1 = s * l * (1 + y1)) (h2 : Z1 = l * (1 - y1)) (h3 : X2 = s * m * (1 + y2)) (h4 : Z2 = m * (1 - y2)) :
    sumX X1 Z1 X2 Z2 = (1 + 1 + 1 + 1) * (l * l * (m * m)) * ((y1 + y2) * (y1 + y2)) ∧ sumZ t X1 Z1 X2 Z2 = t * ((1 + 1 + 1 + 1) * (l * l * (m * m)) * ((y1 - y2) * (y1 - y2))) := by
  unfold sumX sumZ
  subst h1 h2 h3 h4
  constructor <;> grobner
/-- The sum of two whose difference is T. -/
theorem says_sum {X1 Z1 X2 Z2 t : Fp} {P Q T : Pt} (hD : ¬ IsSq D) (hs : s * s = 1) (hP : On D P) (hQ : On D Q) (hT : T = pad D Q (pn P)) (ht : t * (1 - T.2) = s * (1 + T.2)) (t1 : 1 - T.2 ≠ 0) (t2 : 1 + T.2 ≠ 0)
    (h1 : Says s X1 Z1 P) (h2 : Says s X2 Z2 Q) : Says s (sumX X1 Z1 X2 Z2) (sumZ t X1 Z1 X2 Z2) (pad D P Q) := by
  obtain ⟨l, hl, a1, a2⟩ := h1
  obtain ⟨m, hm, a3, a4⟩ := h2
  obtain ⟨e1, e2⟩ := sum_says hs t a1 a2 a3 a4
  obtain ⟨u, v, hu, hv, e⟩ := pad_def hD hP hQ
  obtain ⟨u', w, hu', hw, e'⟩ := pad_def hD hQ (on_pn hP)
  have hd := ne_zero_of hD
  rw [e1, e2, e]
  rw [e'] at hT
  clear e e' e1 e2 a1 a2 a3 a4
  obtain ⟨x1, y1⟩ := P
  obtain ⟨x2, y2⟩ := Q
  unfold pn at *
  simp only [] at *
  have hw2 : (D + x1 * y1 * x2 * y2) * w = 1 := by rw [← hw]; clear hu hv hu' hw; grobner
  have h3 := sum_rel hP hQ hv hw2
  have hTy : T.2 = D * (y1 * y2 + x1 * x2) * w := by rw [hT]; clear h3 hu hv hu' hw hw2; grobner
  rw [← hTy] at h3
  obtain ⟨y0, hy0⟩ : ∃ y0, y0 = T.2 := ⟨_, rfl⟩
  rw [← hy0] at h3 hTy ht t1 t2
  have four : (1 + 1 + 1 + 1 : Fp) ≠ 0 := four_eq ▸ four_ne
  obtain ⟨n, hn⟩ : ∃ n, n = (1 + 1 + 1 + 1) * (l * l * (m * m)) := ⟨_, rfl⟩
  have hn0 : n ≠ 0 := by rw [hn]; exact ne_mul four (ne_mul (ne_mul hl hl) (ne_mul hm hm))
  rw [← hn]
  obtain ⟨r, hr⟩ : ∃ r, r = D * (y1 * y2 - x1 * x2) * v := ⟨_, rfl⟩
  rw [← hr] at h3 ⊢
  clear hn hu hu' hT hy0
  refine says_of hs ?_ ?_
  · simp only []
    refine eq_of_mul t1 ?_
    have k1 : n * ((y1 + y2) * (y1 + y2)) * (1 - r) * (1 - y0) = n * ((y1 + y2) * (y1 + y2) * (1 - r) * (1 - y0)) := by clear h3 ht hv hw hw2 hTy hr; grobner
    have k2 : s * (t * (n * ((y1 - y2) * (y1 - y2))) * (1 + r)) * (1 - y0) = s * (t * (1 - y0)) * (n * ((y1 - y2) * (y1 - y2)) * (1 + r)) := by clear h3 ht hv hw hw2 hTy hr k1; grobner
    rw [k1, k2, h3, ht]
    have k3 : s * (s * (1 + y0)) * (n * ((y1 - y2) * (y1 - y2)) * (1 + r)) = s * s * (n * ((y1 - y2) * (y1 - y2) * (1 + r) * (1 + y0))) := by clear h3 ht hv hw hw2 hTy hr k1 k2; grobner
    rw [k3, hs]
    clear h3 ht hv hw hw2 hTy hr k1 k2 k3
    grobner
  · rintro ⟨z1, z2⟩
    have a0 : y1 + y2 = 0 := by
      rcases mul_zero_or z1 with z | z
      · exact (hn0 z).elim
      · exact sq_ne z
    have tne : t ≠ 0 := fun h0 => by
      rw [h0] at ht
      have s0 : s ≠ 0 := fun h0 => by rw [h0] at hs; exact zero_ne_one (by rw [← hs]; clear ht; grobner)
      have : s * (1 + y0) = 0 := by rw [← ht]; clear ht h3 hv hw hw2 hTy hr; grobner
      rcases mul_zero_or this with z | z
      · exact s0 z
      · exact t2 z
    have b0 : y1 - y2 = 0 := by
      rcases mul_zero_or z2 with z | z
      · exact (tne z).elim
      · rcases mul_zero_or z with z | z
        · exact (hn0 z).elim
        · exact sq_ne z
    have c1 : (1 + 1) * y1 = 0 := by
      have : (1 + 1) * y1 = (y1 + y2) + (y1 - y2) := by clear a0 b0 h3 ht hv hw hw2 hTy hr z1 z2; grobner
      rw [this, a0, b0]; clear this a0 b0 h3 ht hv hw hw2 hTy hr z1 z2; grobner
    have y10 : y1 = 0 := by rcases mul_zero_or c1 with z | z; exact (two_ne z).elim; exact z
    have y20 : y2 = 0 := by rw [y10] at a0; rw [← a0]; clear a0 b0 h3 ht hv hw hw2 hTy hr z1 z2 c1; grobner
    subst y10 y20
    unfold On OnC at hP hQ
    simp only [] at hP hQ
    have q1 : x1 * x1 = 1 := by
      have : D * (x1 * x1 - 1) = 0 := by clear h3 ht hv hw hw2 hTy hr z1 z2 a0 b0 c1 hQ; grobner
      rcases mul_zero_or this with z | z
      · exact (hd z).elim
      · clear h3 ht hv hw hw2 hTy hr z1 z2 a0 b0 c1 hQ hP; grobner
    have q2 : x2 * x2 = 1 := by
      have : D * (x2 * x2 - 1) = 0 := by clear h3 ht hv hw hw2 hTy hr z1 z2 a0 b0 c1 hP q1; grobner
      rcases mul_zero_or this with z | z
      · exact (hd z).elim
      · clear h3 ht hv hw hw2 hTy hr z1 z2 a0 b0 c1 hQ hP q1; grobner
    have q3 : y0 = x1 * x2 := by
      have e : D * w = 1 := by rw [← hw2]; clear h3 ht hv hw hw2 hTy hr z1 z2 a0 b0 c1 hP q1 hQ q2; grobner
      rw [hTy]
      clear h3 ht hv hw hw2 hTy hr z1 z2 a0 b0 c1 hP q1 hQ q2
      grobner
    have q4 : (1 - y0) * (1 + y0) = 0 := by
      rw [q3]
      have : (1 - x1 * x2) * (1 + x1 * x2) = 1 - (x1 * x1) * (x2 * x2) := by clear h3 ht hv hw hw2 hTy hr z1 z2 a0 b0 c1 hP q1 hQ q2 q3; grobner
      rw [this, q1, q2]; clear this h3 ht hv hw hw2 hTy hr z1 z2 a0 b0 c1 hP q1 hQ q2 q3; grobner
    rcases mul_zero_or q4 with z | z
    · exact t1 z
    · exact t2 z
end
end Go.Proofs.Ytakhmmnklkckpaa
