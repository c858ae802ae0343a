/- The group of the points of x^2 y^2 = D (x^2 + y^2 - 1), D no square; multiples. -/
import Derived.Test.YtakhmmnklkckpaaEdw
namespace Go.Proofs.Ytakhmmnklkckpaa
section
variable {D : Fp}
abbrev Pt : Type := Fp × Fp
def On (D : Fp) (P : Pt) : Prop := OnC D P.1 P.2
def pad (D : Fp) (P Q : Pt) : Pt := (D * (P.1 * Q.2 + P.2 * Q.1) * inv (D + P.1 * P.2 * Q.1 * Q.2), D * (P.2 * Q.2 - P.1 * Q.1) * inv (D - P.1 * P.2 * Q.1 * Q.2))
def pz : Pt := (0, 1)
def pn (P : Pt) : Pt := (-P.1, P.2)
theorem pad_def (hD : ¬ IsSq D) {P Q : Pt} (hP : On D P) (hQ : On D Q) : ∃ u v, (D + P.1 * P.2 * Q.1 * Q.2) * u = 1 ∧ (D - P.1 * P.2 * Q.1 * Q.2) * v = 1 ∧ pad D P Q = (D * (P.1 * Q.2 + P.2 * Q.1) * u, D * (P.2 * Q.2 - P.1 * Q.1) * v) := by
  have h := no_eps hD hP hQ
  refine ⟨_, _, mul_inv fun e => h (by rw [e]; grobner), mul_inv fun e => h (by rw [e]; grobner), rfl⟩
theorem one_div {a u x : Fp} (h : a * u = 1) (k : x * a = 0) : x = 0 := by grobner
theorem pad_on (hD : ¬ IsSq D) {P Q : Pt} (hP : On D P) (hQ : On D Q) : On D (pad D P Q) := by
  obtain ⟨u, v, hu, hv, e⟩ := pad_def hD hP hQ
  rw [e]
  have hd := ne_zero_of hD
  obtain ⟨x1, y1⟩ := P
  obtain ⟨x2, y2⟩ := Q
  have c := closed hP hQ
  simp only [On, OnC] at hu hv ⊢
  obtain ⟨n, hn⟩ : ∃ n, n = x1 * y2 + y1 * x2 := ⟨_, rfl⟩
  obtain ⟨m, hm⟩ : ∃ m, m = y1 * y2 - x1 * x2 := ⟨_, rfl⟩
  obtain ⟨a, ha⟩ : ∃ a, a = D + x1 * y1 * x2 * y2 := ⟨_, rfl⟩
  obtain ⟨b, hb⟩ : ∃ b, b = D - x1 * y1 * x2 * y2 := ⟨_, rfl⟩
  rw [← hn, ← hm, ← ha, ← hb] at c
  rw [← ha] at hu
  rw [← hb] at hv
  rw [← hn, ← hm]
  clear e hn hm ha hb hP hQ
  grobner
theorem pad_comm (P Q : Pt) : pad D P Q = pad D Q P := by
  unfold pad
  rw [show D * (P.1 * Q.2 + P.2 * Q.1) = D * (Q.1 * P.2 + Q.2 * P.1) from by grobner, show D * (P.2 * Q.2 - P.1 * Q.1) = D * (Q.2 * P.2 - Q.1 * P.1) from by grobner,
    show P.1 * P.2 * Q.1 * Q.2 = Q.1 * Q.2 * P.1 * P.2 from by grobner]
theorem on_pz : On D pz := by unfold On OnC pz; grobner
theorem on_pn {P : Pt} (h : On D P) : On D (pn P) := by
  obtain ⟨x, y⟩ := P
  unfold On OnC pn at *
  simp only [] at *
  grobner
theorem pad_zero (hd : D ≠ 0) (P : Pt) : pad D pz P = P := by
  have h := mul_inv hd
  obtain ⟨x, y⟩ := P
  unfold pad pz
  simp only []
  rw [show D + 0 * 1 * x * y = D from by grobner, show D - 0 * 1 * x * y = D from by grobner]
  obtain ⟨i, hi⟩ : ∃ i, i = inv D := ⟨_, rfl⟩
  rw [← hi] at h ⊢
  clear hi
  rw [show D * (0 * y + 1 * x) * i = x from by grobner, show D * (1 * y - 0 * x) * i = y from by grobner]
theorem pad_neg (hD : ¬ IsSq D) {P : Pt} (hP : On D P) : pad D P (pn P) = pz := by
  obtain ⟨u, v, hu, hv, e⟩ := pad_def hD hP (on_pn hP)
  rw [e]
  obtain ⟨x, y⟩ := P
  unfold On OnC pn pz at *
  simp only [] at *
  clear e
  rw [show D * (x * y + y * -x) * u = 0 from by grobner, show D * (y * y - x * -x) * v = 1 from by grobner]
theorem frac {p q B1 B2 N1 N2 a c : Fp} (ha : D * p * B1 * a = 1) (hc : D * q * B2 * c = 1) (h : N1 * B2 = N2 * B1) : D * p * N1 * a = D * q * N2 * c := by
  have h1 : D * p * N1 * a = D * p * a * (D * q * c) * (N1 * B2) := by
    rw [show D * p * a * (D * q * c) * (N1 * B2) = D * p * N1 * a * (D * q * B2 * c) from by grobner, hc]; grobner
  have h2 : D * q * N2 * c = D * p * a * (D * q * c) * (N2 * B1) := by
    rw [show D * p * a * (D * q * c) * (N2 * B1) = D * q * N2 * c * (D * p * B1 * a) from by grobner, ha]; grobner
  rw [h1, h2, h]
theorem uv_one {f u v : Fp} (hu : (D + f) * u = 1) (hv : (D - f) * v = 1) : u * v * (D * D - f * f) = 1 := by
  rw [show u * v * (D * D - f * f) = (D + f) * u * ((D - f) * v) from by grobner, hu, hv]; grobner
theorem frac_den {f u v z a k : Fp} (h : u * v * (D * D - f * f) = 1) (hk : k = D + D * D * (u * v) * z) (ha : k * a = 1) : D * (u * v) * (D * D - f * f + D * z) * a = 1 := by
  rw [show D * (u * v) * (D * D - f * f + D * z) * a = D * (u * v * (D * D - f * f)) * a + D * D * (u * v) * z * a from by grobner, h, ← ha, hk]; grobner
theorem frac_num {f u v n m y3 x3 : Fp} (hu : (D + f) * u = 1) (hv : (D - f) * v = 1) : D * n * u * y3 + D * m * v * x3 = D * (u * v) * (n * (D - f) * y3 + m * (D + f) * x3) := by
  rw [show D * (u * v) * (n * (D - f) * y3 + m * (D + f) * x3) = D * n * u * ((D - f) * v) * y3 + D * m * v * ((D + f) * u) * x3 from by grobner, hu, hv]; grobner
theorem pad_assoc (hD : ¬ IsSq D) {P Q R : Pt} (hP : On D P) (hQ : On D Q) (hR : On D R) : pad D (pad D P Q) R = pad D P (pad D Q R) := by
  have o1 := pad_on hD hP hQ
  have o2 := pad_on hD hQ hR
  obtain ⟨u, v, hu, hv, e⟩ := pad_def hD hP hQ
  obtain ⟨s, t, hs, ht, e'⟩ := pad_def hD hQ hR
  obtain ⟨a, b, ha, hb, e1⟩ := pad_def hD o1 hR
  obtain ⟨c, d, hc, hd', e2⟩ := pad_def hD hP o2
  rw [e1, e2]
  rw [e] at ha hb ⊢
  rw [e'] at hc hd' ⊢
  clear e e' e1 e2 o1 o2
  have hd := ne_zero_of hD
  obtain ⟨x1, y1⟩ := P
  obtain ⟨x2, y2⟩ := Q
  obtain ⟨x3, y3⟩ := R
  have ax := assoc_x hP hQ hR
  have ay := assoc_y hP hQ hR
  simp only [] at *
  obtain ⟨n, hn⟩ : ∃ n, n = x1 * y2 + y1 * x2 := ⟨_, rfl⟩
  obtain ⟨m, hm⟩ : ∃ m, m = y1 * y2 - x1 * x2 := ⟨_, rfl⟩
  obtain ⟨n', hn'⟩ : ∃ n', n' = x2 * y3 + y2 * x3 := ⟨_, rfl⟩
  obtain ⟨m', hm'⟩ : ∃ m', m' = y2 * y3 - x2 * x3 := ⟨_, rfl⟩
  obtain ⟨f, hf⟩ : ∃ f, f = x1 * y1 * x2 * y2 := ⟨_, rfl⟩
  obtain ⟨g, hg⟩ : ∃ g, g = x2 * y2 * x3 * y3 := ⟨_, rfl⟩
  rw [← hn, ← hm] at ha hb ax ay ⊢
  rw [← hn', ← hm'] at hc hd' ax ay ⊢
  rw [← hf] at hu hv ax ay
  rw [← hg] at ax ay
  rw [← hg] at hs ht
  clear hn hm hn' hm' hf hg hP hQ hR
  have huv := uv_one hu hv
  have hst := uv_one hs ht
  have kx : D * (D * n * u * y3 + D * m * v * x3) * a = D * (x1 * (D * m' * t) + y1 * (D * n' * s)) * c := by
    have k := frac (D := D) (p := u * v) (q := s * t) (B1 := D * D - f * f + D * (n * m * x3 * y3)) (B2 := D * D - g * g + D * (n' * m' * x1 * y1)) (N1 := n * (D - f) * y3 + m * (D + f) * x3) (N2 := x1 * (m' * (D + g)) + y1 * (n' * (D - g))) (a := a) (c := c)
      (frac_den huv (by clear hu hv hs ht ha hb hc hd' ax ay huv hst; grobner) ha) (frac_den hst (by clear hu hv hs ht ha hb hc hd' ax ay huv hst; grobner) hc)
      (by rw [show D * (n' * m' * x1 * y1) = D * n' * m' * x1 * y1 from by clear hu hv hs ht ha hb hc hd' ax ay huv hst; grobner, show D * (n * m * x3 * y3) = D * n * m * x3 * y3 from by clear hu hv hs ht ha hb hc hd' ax ay huv hst; grobner]; exact ax)
    rw [frac_num hu hv, show x1 * (D * m' * t) + y1 * (D * n' * s) = D * n' * s * y1 + D * m' * t * x1 from by clear hu hv hs ht ha hb hc hd' ax ay huv hst k; grobner, frac_num hs ht]
    rw [show n' * (D - g) * y1 + m' * (D + g) * x1 = x1 * (m' * (D + g)) + y1 * (n' * (D - g)) from by clear hu hv hs ht ha hb hc hd' ax ay huv hst k; grobner]
    rw [show ∀ z w a : Fp, D * (D * z * w) * a = D * (D * z * w * a) from fun z w a => by clear hu hv hs ht ha hb hc hd' ax ay huv hst k; grobner, k]
    clear hu hv hs ht ha hb hc hd' ax ay huv hst k; grobner
  have ky : D * (D * m * v * y3 - D * n * u * x3) * b = D * (y1 * (D * m' * t) - x1 * (D * n' * s)) * d := by
    have k := frac (D := D) (p := u * v) (q := s * t) (B1 := D * D - f * f + D * -(n * m * x3 * y3)) (B2 := D * D - g * g + D * -(n' * m' * x1 * y1)) (N1 := m * (D + f) * y3 - n * (D - f) * x3) (N2 := y1 * (m' * (D + g)) - x1 * (n' * (D - g))) (a := b) (c := d)
      (frac_den huv (by clear hu hv hs ht ha hb hc hd' ax ay huv hst kx; grobner) hb) (frac_den hst (by clear hu hv hs ht ha hb hc hd' ax ay huv hst kx; grobner) hd')
      (by rw [show D * D - g * g + D * -(n' * m' * x1 * y1) = D * D - g * g - D * n' * m' * x1 * y1 from by clear hu hv hs ht ha hb hc hd' ax ay huv hst kx; grobner, show D * D - f * f + D * -(n * m * x3 * y3) = D * D - f * f - D * n * m * x3 * y3 from by clear hu hv hs ht ha hb hc hd' ax ay huv hst kx; grobner]; exact ay)
    rw [show D * m * v * y3 - D * n * u * x3 = D * n * u * -x3 + D * m * v * y3 from by clear hu hv hs ht ha hb hc hd' ax ay huv hst k kx; grobner, frac_num hu hv, show y1 * (D * m' * t) - x1 * (D * n' * s) = D * n' * s * -x1 + D * m' * t * y1 from by clear hu hv hs ht ha hb hc hd' ax ay huv hst k kx; grobner, frac_num hs ht]
    rw [show n' * (D - g) * -x1 + m' * (D + g) * y1 = y1 * (m' * (D + g)) - x1 * (n' * (D - g)) from by clear hu hv hs ht ha hb hc hd' ax ay huv hst k kx; grobner, show n * (D - f) * -x3 + m * (D + f) * y3 = m * (D + f) * y3 - n * (D - f) * x3 from by clear hu hv hs ht ha hb hc hd' ax ay huv hst k kx; grobner]
    rw [show ∀ z w a : Fp, D * (D * z * w) * a = D * (D * z * w * a) from fun z w a => by clear hu hv hs ht ha hb hc hd' ax ay huv hst k kx; grobner, k]
    clear hu hv hs ht ha hb hc hd' ax ay huv hst k kx; grobner
  rw [kx, ky]
end
end Go.Proofs.Ytakhmmnklkckpaa
