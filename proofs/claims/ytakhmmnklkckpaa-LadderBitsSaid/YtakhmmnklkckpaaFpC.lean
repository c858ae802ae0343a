/- The field of p: no zero divisors, inverses, roots. -/
import Derived.Test.YtakhmmnklkckpaaFpB
namespace Go.Proofs.Ytakhmmnklkckpaa

theorem mul_zero_or {x y : Fp} (h : x * y = 0) : x = 0 ∨ y = 0 := by
  have h1 := congrArg Fin.val h
  rw [Fin.val_mul] at h1
  have h2 : 57896044618658097711785492504343953926634992332820282019728792003956564819949 ∣ x.val * y.val := Nat.dvd_of_mod_eq_zero h1
  have key : ∀ z : Fp, 57896044618658097711785492504343953926634992332820282019728792003956564819949 ∣ z.val → z = 0 := fun z hz => by
    apply Fin.ext
    have hlt := z.isLt
    rcases Nat.eq_zero_or_pos z.val with h | h
    · exact h
    · have := Nat.le_of_dvd h hz; omega
  rcases primeP.dvd_mul h2 with h | h
  · exact .inl (key x h)
  · exact .inr (key y h)
/-- A power. -/
@[irreducible] def pw (x : Fp) (n : Nat) : Fp := x ^ n
theorem pw_zero (x : Fp) : pw x 0 = 1 := by unfold pw; grobner
theorem pw_succ (x : Fp) (n : Nat) : pw x (n + 1) = pw x n * x := by unfold pw; grobner
theorem pw_add (x : Fp) (m : Nat) : ∀ n, pw x (m + n) = pw x m * pw x n
  | 0 => by rw [pw_zero, Nat.add_zero]; grobner
  | n + 1 => by rw [← Nat.add_assoc, pw_succ, pw_add x m n, pw_succ]; grobner
theorem pw_mul (x : Fp) (m : Nat) : ∀ n, pw x (m * n) = pw (pw x m) n
  | 0 => by rw [Nat.mul_zero, pw_zero, pw_zero]
  | n + 1 => by rw [Nat.mul_succ, pw_add, pw_mul x m n, pw_succ]
theorem pw_mulF (x y : Fp) : ∀ n, pw (x * y) n = pw x n * pw y n
  | 0 => by rw [pw_zero, pw_zero, pw_zero]; grobner
  | n + 1 => by rw [pw_succ, pw_succ, pw_succ, pw_mulF x y n]; grobner
theorem pw_one : ∀ n, pw 1 n = 1
  | 0 => pw_zero 1
  | n + 1 => by rw [pw_succ, pw_one n]; grobner
theorem pw_oneE (x : Fp) : pw x 1 = x := by rw [show 1 = 0 + 1 from rfl, pw_succ, pw_zero]; grobner
theorem pw_two (x : Fp) : pw x 2 = x * x := by rw [show 2 = 1 + 1 from rfl, pw_succ, pw_oneE]
theorem pw_zeroF (n : Nat) (h : 0 < n) : pw 0 n = 0 := by
  obtain ⟨m, rfl⟩ : ∃ m, n = m + 1 := ⟨n - 1, by omega⟩
  rw [pw_succ]; grobner
theorem val_pw (x : Fp) : ∀ n, (pw x n).val = x.val ^ n % 57896044618658097711785492504343953926634992332820282019728792003956564819949
  | 0 => by rw [pw_zero]; rfl
  | n + 1 => by rw [pw_succ, Fin.val_mul, val_pw x n, Nat.pow_succ, Nat.mod_mul_mod]
/-- p - 1. -/
def pm1 : Nat := 57896044618658097711785492504343953926634992332820282019728792003956564819948
theorem pw_pm1 {x : Fp} (h : x ≠ 0) : pw x pm1 = 1 := by
  apply Fin.ext
  rw [val_pw]
  have hn : ¬ 57896044618658097711785492504343953926634992332820282019728792003956564819949 ∣ x.val := fun hd => by
    have hlt := x.isLt
    rcases Nat.eq_zero_or_pos x.val with h0 | h0
    · exact h (Fin.ext h0)
    · have := Nat.le_of_dvd h0 hd; omega
  have h1 := fermat' primeP hn
  rw [show 57896044618658097711785492504343953926634992332820282019728792003956564819949 - 1 = pm1 from by unfold pm1; omega] at h1
  rw [h1]; rfl
/-- p - 2. -/
def pm2 : Nat := 57896044618658097711785492504343953926634992332820282019728792003956564819947
theorem pm1_eq : pm1 = pm2 + 1 := by unfold pm1 pm2; omega
/-- The inverse; of 0 it is 0. -/
def inv (x : Fp) : Fp := pw x pm2
theorem pm2_pos : 0 < pm2 := by unfold pm2; omega
theorem inv_zero : inv 0 = 0 := pw_zeroF _ pm2_pos
theorem mul_inv {x : Fp} (h : x ≠ 0) : x * inv x = 1 := by
  have h1 := pw_pm1 h
  rw [pm1_eq, pw_succ] at h1
  rw [inv, ← h1]; grobner
theorem eq_of_mul {x y z : Fp} (hz : z ≠ 0) (h : x * z = y * z) : x = y := by
  have h1 : (x - y) * z = 0 := by grobner
  rcases mul_zero_or h1 with h2 | h2
  · grobner
  · exact (hz h2).elim
theorem zero_ne_one : (0 : Fp) ≠ 1 := by decide
theorem inv_of {x y : Fp} (h : x * y = 1) : inv x = y := by
  have hx : x ≠ 0 := fun h0 => zero_ne_one (by subst h0; rw [← h]; grobner)
  have h1 := mul_inv hx
  refine eq_of_mul hx ?_
  grobner
theorem ne_mul {x y : Fp} (hx : x ≠ 0) (hy : y ≠ 0) : x * y ≠ 0 := fun h => by
  rcases mul_zero_or h with h | h
  · exact hx h
  · exact hy h
/-! ### Roots -/
/-- (p - 1) / 2, (p - 1) / 4, (p + 3) / 8. -/
def pHalf : Nat := 28948022309329048855892746252171976963317496166410141009864396001978282409974
def pQuart : Nat := 14474011154664524427946373126085988481658748083205070504932198000989141204987
def pEight : Nat := 7237005577332262213973186563042994240829374041602535252466099000494570602494
theorem two_pHalf : pw 2 pHalf = -1 := by
  apply Fin.ext
  rw [val_pw]
  rw [show (2 : Fp).val = 2 from rfl]
  rw [pow_mod_of (m := 57896044618658097711785492504343953926634992332820282019728792003956564819949) (f := 256) (b := 2) (e := pHalf) (v := 57896044618658097711785492504343953926634992332820282019728792003956564819948) (by kernel_rfl) (by unfold pHalf; omega)]
  rfl
/-- A root of -1. -/
def im : Fp := pw 2 pQuart
theorem im_im : im * im = -1 := by
  rw [im, ← pw_add, show pQuart + pQuart = pHalf from by unfold pQuart pHalf; omega, two_pHalf]
theorem sq_pHalf {a : Fp} (h : a ≠ 0) : pw a pHalf = 1 ∨ pw a pHalf = -1 := by
  have h1 := pw_pm1 h
  rw [show pm1 = pHalf + pHalf from by unfold pm1 pHalf; omega, pw_add] at h1
  have h2 : (pw a pHalf - 1) * (pw a pHalf + 1) = 0 := by grobner
  rcases mul_zero_or h2 with h3 | h3
  · left; grobner
  · right; grobner
theorem one_ne_neg : (1 : Fp) ≠ -1 := by decide
/-- Squares. -/
def IsSq (a : Fp) : Prop := ∃ x, x * x = a
theorem isSq_zero : IsSq 0 := ⟨0, by decide⟩
theorem euler_of_sq {a : Fp} (ha : a ≠ 0) (h : IsSq a) : pw a pHalf = 1 := by
  obtain ⟨x, rfl⟩ := h
  have hx : x ≠ 0 := fun h0 => ha (by subst h0; decide)
  rw [← pw_two, ← pw_mul, show 2 * pHalf = pm1 from by unfold pm1 pHalf; omega]
  exact pw_pm1 hx
theorem root4 (a : Fp) : pw a pEight * pw a pEight * (pw a pEight * pw a pEight) = a * a * pw a pHalf := by
  rw [← pw_add, ← pw_add, show pEight + pEight + (pEight + pEight) = pHalf + 2 from by unfold pEight pHalf; omega, pw_add, pw_two]; grobner
theorem neg_eq_zero {x : Fp} (h : -x = 0) : x = 0 := by grobner
/-- With Euler's word, a root; without it there is none. -/
theorem root_cases (a : Fp) :
    (pw a pHalf = 1 ∨ a = 0) ∧ (pw a pEight * pw a pEight = a ∨ pw a pEight * pw a pEight = -a) ∨
    (pw a pHalf ≠ 1 ∧ a ≠ 0) ∧ pw a pEight * pw a pEight ≠ a ∧ pw a pEight * pw a pEight ≠ -a ∧ ¬ IsSq a := by
  by_cases ha : a = 0
  · subst ha
    left
    refine ⟨.inr rfl, .inl ?_⟩
    rw [pw_zeroF _ (by unfold pEight; omega)]; decide
  · rcases sq_pHalf ha with h | h
    · left
      refine ⟨.inl h, ?_⟩
      have h4 := root4 a
      rw [h] at h4
      have h5 : (pw a pEight * pw a pEight - a) * (pw a pEight * pw a pEight + a) = 0 := by grobner
      rcases mul_zero_or h5 with h6 | h6
      · left; grobner
      · right; grobner
    · right
      have h4 := root4 a
      have haa : a * a ≠ 0 := ne_mul ha ha
      have hne : a * a ≠ a * a * -1 := fun he => by
        have : a * a * (1 - -1) = 0 := by grobner
        rcases mul_zero_or this with h1 | h1
        · exact haa h1
        · exact absurd h1 (by decide)
      rw [h] at h4
      refine ⟨⟨fun h1 => one_ne_neg (h1.symm.trans h), ha⟩, fun h1 => hne (by rw [← h4, h1]), fun h1 => hne (by rw [← h4, h1]; grobner), fun hs => ?_⟩
      exact one_ne_neg ((euler_of_sq ha hs).symm.trans h)
end Go.Proofs.Ytakhmmnklkckpaa
