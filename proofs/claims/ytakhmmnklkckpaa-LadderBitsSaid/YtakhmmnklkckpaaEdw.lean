/- The curve x^2 y^2 = D (x^2 + y^2 - 1), D no square: its points are a commutative group. -/
import Derived.Test.YtakhmmnklkckpaaFpC
namespace Go.Proofs.Ytakhmmnklkckpaa
section
variable {D x1 y1 x2 y2 x3 y3 : Fp}
theorem no_root (hD : ¬ IsSq D) {a b : Fp} (h : a * a = D * (b * b)) : b = 0 := by
  by_cases hb : b = 0
  · exact hb
  · refine absurd ⟨a * inv b, ?_⟩ hD
    have h1 := mul_inv hb
    obtain ⟨i, hi⟩ : ∃ i, i = inv b := ⟨_, rfl⟩
    rw [← hi] at h1 ⊢
    clear hi hD hb
    grobner
def OnC (D x y : Fp) : Prop := x * x * (y * y) = D * (x * x + y * y - 1)
theorem ne_zero_of (hD : ¬ IsSq D) : D ≠ 0 := fun h => hD (h ▸ isSq_zero)
theorem no_eps (hD : ¬ IsSq D) (h1 : OnC D x1 y1) (h2 : OnC D x2 y2) : (D + x1 * y1 * x2 * y2) * (D - x1 * y1 * x2 * y2) ≠ 0 := fun h => by
  unfold OnC at h1 h2
  have a1 : (D * x1 + x1 * y1 * x2 * y2 * y1) * (D * x1 + x1 * y1 * x2 * y2 * y1) = D * (x1 * y1 * (x2 + y2) * (x1 * y1 * (x2 + y2))) := by grobner
  have a2 : (D * x1 - x1 * y1 * x2 * y2 * y1) * (D * x1 - x1 * y1 * x2 * y2 * y1) = D * (x1 * y1 * (x2 - y2) * (x1 * y1 * (x2 - y2))) := by grobner
  have b1 := no_root hD a1
  have b2 := no_root hD a2
  have hd := ne_zero_of hD
  have e : D * D = 0 := by grobner
  rcases mul_zero_or e with e | e <;> exact hd e
theorem assoc_x (h1 : OnC D x1 y1) (h2 : OnC D x2 y2) (h3 : OnC D x3 y3) :
    ((x1 * y2 + y1 * x2) * (D - x1 * y1 * x2 * y2) * y3 + (y1 * y2 - x1 * x2) * (D + x1 * y1 * x2 * y2) * x3) * (D * D - x2 * y2 * x3 * y3 * (x2 * y2 * x3 * y3) + D * (x2 * y3 + y2 * x3) * (y2 * y3 - x2 * x3) * x1 * y1)
     = (x1 * ((y2 * y3 - x2 * x3) * (D + x2 * y2 * x3 * y3)) + y1 * ((x2 * y3 + y2 * x3) * (D - x2 * y2 * x3 * y3))) * (D * D - x1 * y1 * x2 * y2 * (x1 * y1 * x2 * y2) + D * (x1 * y2 + y1 * x2) * (y1 * y2 - x1 * x2) * x3 * y3) := by
  unfold OnC at h1 h2 h3
  grobner
theorem assoc_y (h1 : OnC D x1 y1) (h2 : OnC D x2 y2) (h3 : OnC D x3 y3) :
    ((y1 * y2 - x1 * x2) * (D + x1 * y1 * x2 * y2) * y3 - (x1 * y2 + y1 * x2) * (D - x1 * y1 * x2 * y2) * x3) * (D * D - x2 * y2 * x3 * y3 * (x2 * y2 * x3 * y3) - D * (x2 * y3 + y2 * x3) * (y2 * y3 - x2 * x3) * x1 * y1)
     = (y1 * ((y2 * y3 - x2 * x3) * (D + x2 * y2 * x3 * y3)) - x1 * ((x2 * y3 + y2 * x3) * (D - x2 * y2 * x3 * y3))) * (D * D - x1 * y1 * x2 * y2 * (x1 * y1 * x2 * y2) - D * (x1 * y2 + y1 * x2) * (y1 * y2 - x1 * x2) * x3 * y3) := by
  unfold OnC at h1 h2 h3
  grobner
theorem closed (h1 : OnC D x1 y1) (h2 : OnC D x2 y2) :
    D * D * ((x1 * y2 + y1 * x2) * (x1 * y2 + y1 * x2)) * (D * (y1 * y2 - x1 * x2) * (D * (y1 * y2 - x1 * x2))) = D * (D * (x1 * y2 + y1 * x2) * (D * (x1 * y2 + y1 * x2)) * ((D - x1 * y1 * x2 * y2) * (D - x1 * y1 * x2 * y2)) + D * (y1 * y2 - x1 * x2) * (D * (y1 * y2 - x1 * x2)) * ((D + x1 * y1 * x2 * y2) * (D + x1 * y1 * x2 * y2)) - (D + x1 * y1 * x2 * y2) * (D + x1 * y1 * x2 * y2) * ((D - x1 * y1 * x2 * y2) * (D - x1 * y1 * x2 * y2))) := by
  unfold OnC at h1 h2
  grobner
end
end Go.Proofs.Ytakhmmnklkckpaa
