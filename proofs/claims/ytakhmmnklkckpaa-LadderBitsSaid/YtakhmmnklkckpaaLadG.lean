/- The ladder on the curve: it gives a multiple's number; so two ladders may be turned round. -/
import Derived.Test.YtakhmmnklkckpaaLad
namespace Go.Proofs.Ytakhmmnklkckpaa
theorem two_ne : (1 + 1 : Fp) ≠ 0 := fun h => by
  have := congrArg Fin.val h
  exact absurd this (by rw [show (1 + 1 : Fp).val = 2 from by kernel_rfl, show (0 : Fp).val = 0 from rfl]; omega)
section
variable {D s k : Fp}
/-- The two numbers say the point. -/
def Says (s X Z : Fp) (P : Pt) : Prop := ∃ l : Fp, l ≠ 0 ∧ X = s * l * (1 + P.2) ∧ Z = l * (1 - P.2)
theorem sq_ne {x : Fp} (h : x * x = 0) : x = 0 := by rcases mul_zero_or h with h | h <;> exact h
theorem says_core {X Z y i : Fp} (hs : s * s = 1) (hi : (1 + 1) * i = 1) (h : X * (1 - y) = s * (Z * (1 + y))) :
    X = s * ((s * X + Z) * i) * (1 + y) ∧ Z = (s * X + Z) * i * (1 - y) := by
  constructor <;> grobner
theorem says_of {X Z : Fp} {P : Pt} (hs : s * s = 1) (h : X * (1 - P.2) = s * (Z * (1 + P.2))) (hne : ¬ (X = 0 ∧ Z = 0)) : Says s X Z P := by
  obtain ⟨h1, h2⟩ := says_core hs (mul_inv two_ne) h
  refine ⟨_, fun h0 => hne ?_, h1, h2⟩
  rw [h0] at h1 h2
  exact ⟨h1.trans (by grobner), h2.trans (by grobner)⟩
theorem says_quot {X Z : Fp} {P : Pt} (h : Says s X Z P) : X * inv Z = s * (1 + P.2) * inv (1 - P.2) := by
  obtain ⟨l, hl, rfl, rfl⟩ := h
  have := mul_inv hl
  rw [inv_mul]
  obtain ⟨i, hi⟩ : ∃ i, i = inv l := ⟨_, rfl⟩
  obtain ⟨j, hj⟩ : ∃ j, j = inv (1 - P.2) := ⟨_, rfl⟩
  rw [← hi, ← hj]
  rw [← hi] at this
  obtain ⟨y, hy⟩ : ∃ y, y = P.2 := ⟨_, rfl⟩
  rw [← hy]
  clear hi hj hl hy
  grobner
theorem dbl_rel {c x y v : Fp} (hD1 : D - 1 ≠ 0) (hc : c * (D - 1) = (1 + 1) * (D + 1)) (hP : OnC D x y) (hv : (D - x * y * x * y) * v = 1) (_ : D ≠ 0) :
    (1 + 1 + 1 + 1) * (y * y) * (1 - D * (y * y - x * x) * v) = (1 - y * y) * ((1 + 1) + (1 + 1) * (y * y) + c * (1 - y * y)) * (1 + D * (y * y - x * x) * v) := by
  unfold OnC at hP
  have k1 : (1 + 1 + 1 + 1) * (y * y) = ((1 + 1) + (1 + 1) * (y * y) + c * (1 - y * y)) * (1 - x * x) := by
    refine eq_of_mul hD1 ?_
    have e : ((1 + 1) + (1 + 1) * (y * y) + c * (1 - y * y)) * (1 - x * x) * (D - 1) = ((1 + 1) * (D - 1) + (1 + 1) * (D - 1) * (y * y) + c * (D - 1) * (1 - y * y)) * (1 - x * x) := by clear hP hv hc; grobner
    rw [e, hc]
    clear e hc hv
    grobner
  have k2 : (1 - D * (y * y - x * x) * v) = (1 + 1) * D * (1 - y * y) * v := by
    have : D - x * y * x * y - D * (y * y - x * x) = (1 + 1) * D * (1 - y * y) := by clear k1 hv hc; grobner
    rw [← this]
    clear this k1 hP hc
    grobner
  have k3 : (1 + D * (y * y - x * x) * v) = (1 + 1) * D * (1 - x * x) * v := by
    have : D - x * y * x * y + D * (y * y - x * x) = (1 + 1) * D * (1 - x * x) := by clear k1 k2 hv hc; grobner
    rw [← this]
    clear this k1 hP hc k2
    grobner
  rw [k1, k2, k3]
  clear k1 k2 k3 hP hv hc
  grobner
theorem sum_rel {x1 y1 x2 y2 v w : Fp} (h1 : OnC D x1 y1) (h2 : OnC D x2 y2) (hv : (D - x1 * y1 * x2 * y2) * v = 1) (hw : (D + x1 * y1 * x2 * y2) * w = 1) :
    (y1 + y2) * (y1 + y2) * (1 - D * (y1 * y2 - x1 * x2) * v) * (1 - D * (y1 * y2 + x1 * x2) * w) = (y1 - y2) * (y1 - y2) * (1 + D * (y1 * y2 - x1 * x2) * v) * (1 + D * (y1 * y2 + x1 * x2) * w) := by
  unfold OnC at h1 h2
  have key : (y1 + y2) * (y1 + y2) * (D - x1 * y1 * x2 * y2 - D * (y1 * y2 - x1 * x2)) * (D + x1 * y1 * x2 * y2 - D * (y1 * y2 + x1 * x2)) = (y1 - y2) * (y1 - y2) * (D - x1 * y1 * x2 * y2 + D * (y1 * y2 - x1 * x2)) * (D + x1 * y1 * x2 * y2 + D * (y1 * y2 + x1 * x2)) := by
    clear hv hw; grobner
  obtain ⟨e, he⟩ : ∃ e, e = x1 * y1 * x2 * y2 := ⟨_, rfl⟩
  rw [← he] at hv hw key
  obtain ⟨n, hn⟩ : ∃ n, n = y1 * y2 - x1 * x2 := ⟨_, rfl⟩
  obtain ⟨m, hm⟩ : ∃ m, m = y1 * y2 + x1 * x2 := ⟨_, rfl⟩
  obtain ⟨a, ha⟩ : ∃ a, a = y1 + y2 := ⟨_, rfl⟩
  obtain ⟨b, hb⟩ : ∃ b, b = y1 - y2 := ⟨_, rfl⟩
  rw [← hn, ← hm, ← ha, ← hb] at key ⊢
  clear h1 h2 he hn hm ha hb
  have e1 : 1 - D * n * v = (D - e - D * n) * v := by clear key hw; grobner
  have e2 : 1 + D * n * v = (D - e + D * n) * v := by clear key hw; grobner
  have e3 : 1 - D * m * w = (D + e - D * m) * w := by clear key hv e1 e2; grobner
  have e4 : 1 + D * m * w = (D + e + D * m) * w := by clear key hv e1 e2 e3; grobner
  rw [e1, e2, e3, e4]
  have : a * a * ((D - e - D * n) * v) * ((D + e - D * m) * w) = a * a * (D - e - D * n) * (D + e - D * m) * (v * w) := by clear key hv hw e1 e2 e3 e4; grobner
  rw [this, key]
  clear this key hv hw e1 e2 e3 e4
  grobner
end
end Go.Proofs.Ytakhmmnklkckpaa
