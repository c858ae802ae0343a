/- The ladder by itself: what the document's steps and the code's give, up to a factor. -/
import Derived.Test.YtakhmmnklkckpaaEdwB
namespace Go.Proofs.Ytakhmmnklkckpaa
/-- Two numbers over one another; two of these. -/
structure St where
  ax : Fp
  az : Fp
  bx : Fp
  bz : Fp
/-- The document's double, for k = 486662, and its sum. -/
def dblX (x z : Fp) : Fp := (x * x - z * z) * (x * x - z * z)
def dblZ (k x z : Fp) : Fp := toFp 4 * (x * z) * (x * x + z * z + k * (x * z))
def sumX (ax az bx bz : Fp) : Fp := (ax * bx - az * bz) * (ax * bx - az * bz)
def sumZ (t ax az bx bz : Fp) : Fp := t * ((ax * bz - az * bx) * (ax * bz - az * bx))
def kA : Fp := toFp 486662
def dstep (t : Fp) (bit : Bool) (s : St) : St :=
  if bit then ⟨sumX s.ax s.az s.bx s.bz, sumZ t s.ax s.az s.bx s.bz, dblX s.bx s.bz, dblZ kA s.bx s.bz⟩
  else ⟨dblX s.ax s.az, dblZ kA s.ax s.az, sumX s.ax s.az s.bx s.bz, sumZ t s.ax s.az s.bx s.bz⟩
/-- The state behind the first k of 255 bits, from the top. -/
def lrun (t : Fp) (bits : Nat → Bool) : Nat → St
  | 0 => ⟨1, 0, t, 1⟩
  | k + 1 => dstep t (bits (254 - k)) (lrun t bits k)
/-- What the ladder gives. -/
def ladF (t : Fp) (bits : Nat → Bool) : Fp := (lrun t bits 255).ax * inv (lrun t bits 255).az
/-- The same up to a factor. -/
def Sim (X Z x z : Fp) : Prop := ∃ l : Fp, l ≠ 0 ∧ X = l * x ∧ Z = l * z
theorem four_eq : toFp 4 = 1 + 1 + 1 + 1 := by kernel_rfl
theorem kA_eq : kA = toFp 4 * toFp 121665 + 1 + 1 := by kernel_rfl
theorem four_ne : toFp 4 ≠ 0 := by
  intro h; exact absurd (congrArg Fin.val h) (by rw [show (toFp 4).val = 4 from by kernel_rfl, show (0 : Fp).val = 0 from rfl]; omega)
theorem one_ne : (1 : Fp) ≠ 0 := fun h => zero_ne_one h.symm
theorem Sim.refl (x z : Fp) : Sim x z x z := ⟨1, one_ne, by grobner, by grobner⟩
theorem dbl_core {l x z F a k : Fp} (hF : F = 1 + 1 + 1 + 1) (hk : k = F * a + 1 + 1) :
    (l * x + l * z) * (l * x + l * z) * ((l * x - l * z) * (l * x - l * z)) = l * l * (l * l) * ((x * x - z * z) * (x * x - z * z)) ∧
    ((l * x + l * z) * (l * x + l * z) - (l * x - l * z) * (l * x - l * z)) * ((l * x + l * z) * (l * x + l * z) + a * ((l * x + l * z) * (l * x + l * z) - (l * x - l * z) * (l * x - l * z))) = l * l * (l * l) * (F * (x * z) * (x * x + z * z + k * (x * z))) := by
  subst hF hk
  constructor <;> grobner
theorem Sim.dbl {X Z x z : Fp} (h : Sim X Z x z) :
    Sim ((X + Z) * (X + Z) * ((X - Z) * (X - Z))) (((X + Z) * (X + Z) - (X - Z) * (X - Z)) * ((X + Z) * (X + Z) + toFp 121665 * ((X + Z) * (X + Z) - (X - Z) * (X - Z)))) (dblX x z) (dblZ kA x z) := by
  obtain ⟨l, hl, rfl, rfl⟩ := h
  obtain ⟨h1, h2⟩ := dbl_core (l := l) (x := x) (z := z) four_eq kA_eq
  exact ⟨l * l * (l * l), ne_mul (ne_mul hl hl) (ne_mul hl hl), h1, h2⟩
theorem sum_core {l m x z u v t F : Fp} (hF : F = 1 + 1 + 1 + 1) :
    ((m * u - m * v) * (l * x + l * z) + (m * u + m * v) * (l * x - l * z)) * ((m * u - m * v) * (l * x + l * z) + (m * u + m * v) * (l * x - l * z)) = F * (l * l * (m * m)) * ((x * u - z * v) * (x * u - z * v)) ∧
    t * (((m * u - m * v) * (l * x + l * z) - (m * u + m * v) * (l * x - l * z)) * ((m * u - m * v) * (l * x + l * z) - (m * u + m * v) * (l * x - l * z))) = F * (l * l * (m * m)) * (t * ((x * v - z * u) * (x * v - z * u))) := by
  subst hF
  constructor <;> grobner
theorem Sim.sum {X Z U V x z u v : Fp} (h : Sim X Z x z) (k : Sim U V u v) (t : Fp) :
    Sim (((U - V) * (X + Z) + (U + V) * (X - Z)) * ((U - V) * (X + Z) + (U + V) * (X - Z))) (t * (((U - V) * (X + Z) - (U + V) * (X - Z)) * ((U - V) * (X + Z) - (U + V) * (X - Z)))) (sumX x z u v) (sumZ t x z u v) := by
  obtain ⟨l, hl, rfl, rfl⟩ := h
  obtain ⟨m, hm, rfl, rfl⟩ := k
  obtain ⟨h1, h2⟩ := sum_core (l := l) (m := m) (x := x) (z := z) (u := u) (v := v) (t := t) four_eq
  exact ⟨_, ne_mul four_ne (ne_mul (ne_mul hl hl) (ne_mul hm hm)), h1, h2⟩
theorem sumX_comm (x z u v : Fp) : sumX u v x z = sumX x z u v := by unfold sumX; grobner
theorem sumZ_comm (t x z u v : Fp) : sumZ t u v x z = sumZ t x z u v := by unfold sumZ; grobner
/-- The code's two pairs: turned round where the last bit was set. -/
def Pairs (last : Bool) (X Z U V : Fp) (s : St) : Prop := if last then Sim X Z s.bx s.bz ∧ Sim U V s.ax s.az else Sim X Z s.ax s.az ∧ Sim U V s.bx s.bz
theorem Pairs.swap {X Z U V : Fp} {s : St} {b : Bool} (h : Pairs b X Z U V s) : Pairs (!b) U V X Z s := by
  unfold Pairs at *
  cases b
  · exact ⟨h.2, h.1⟩
  · exact ⟨h.2, h.1⟩
theorem Pairs.step {X Z U V : Fp} {s : St} {bit : Bool} (h : Pairs bit X Z U V s) (t : Fp) :
    Pairs bit ((X + Z) * (X + Z) * ((X - Z) * (X - Z))) (((X + Z) * (X + Z) - (X - Z) * (X - Z)) * ((X + Z) * (X + Z) + toFp 121665 * ((X + Z) * (X + Z) - (X - Z) * (X - Z))))
      (((U - V) * (X + Z) + (U + V) * (X - Z)) * ((U - V) * (X + Z) + (U + V) * (X - Z))) (t * (((U - V) * (X + Z) - (U + V) * (X - Z)) * ((U - V) * (X + Z) - (U + V) * (X - Z)))) (dstep t bit s) := by
  unfold Pairs at *
  cases bit
  · exact ⟨h.1.dbl, h.1.sum h.2 t⟩
  · refine ⟨h.1.dbl, ?_⟩
    have := h.1.sum h.2 t
    rw [sumX_comm, sumZ_comm] at this
    exact this
theorem inv_mul (x y : Fp) : inv (x * y) = inv x * inv y := by unfold inv; exact pw_mulF _ _ _
theorem Sim.quot {X Z x z : Fp} (h : Sim X Z x z) : X * inv Z = x * inv z := by
  obtain ⟨l, hl, rfl, rfl⟩ := h
  have := mul_inv hl
  rw [inv_mul]
  obtain ⟨i, hi⟩ : ∃ i, i = inv l := ⟨_, rfl⟩
  obtain ⟨j, hj⟩ : ∃ j, j = inv z := ⟨_, rfl⟩
  rw [← hi, ← hj]
  rw [← hi] at this
  clear hi hj hl
  grobner
end Go.Proofs.Ytakhmmnklkckpaa
