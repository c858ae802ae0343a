/- The ladder reckoned: on whole numbers below p. -/
import Derived.Test.YtakhmmnklkckpaaLad
namespace Go.Proofs.Ytakhmmnklkckpaa
/-- Reckons x first. -/
def force {α : Type} (x : Nat) (f : Nat → α) : α := Nat.rec (f 0) (fun n _ => f (n + 1)) x
theorem force_eq {α : Type} (x : Nat) (f : Nat → α) : force x f = f x := by cases x <;> rfl
def pQ : Nat := 57896044618658097711785492504343953926634992332820282019728792003956564819949
def mulN (x y : Nat) : Nat := x * y % pQ
def addN (x y : Nat) : Nat := (x + y) % pQ
def subN (x y : Nat) : Nat := (pQ - y + x) % pQ
theorem mulN_val (x y : Fp) : (x * y).val = mulN x.val y.val := Fin.val_mul x y
theorem addN_val (x y : Fp) : (x + y).val = addN x.val y.val := Fin.val_add x y
theorem subN_val (x y : Fp) : (x - y).val = subN x.val y.val := by rw [Fin.val_sub]; rfl
def dblXN (x z : Nat) : Nat := force (subN (mulN x x) (mulN z z)) fun d => mulN d d
def dblZN (x z : Nat) : Nat := force (mulN x z) fun xz => mulN (mulN 4 xz) (addN (addN (mulN x x) (mulN z z)) (mulN 486662 xz))
def sumXN (ax az bx bz : Nat) : Nat := force (subN (mulN ax bx) (mulN az bz)) fun d => mulN d d
def sumZN (t ax az bx bz : Nat) : Nat := force (subN (mulN ax bz) (mulN az bx)) fun d => mulN t (mulN d d)
theorem four_val : (toFp 4).val = 4 := by kernel_rfl
theorem kA_val : kA.val = 486662 := by kernel_rfl
theorem dblXN_val (x z : Fp) : (dblX x z).val = dblXN x.val z.val := by
  rw [dblX, dblXN, force_eq, mulN_val, subN_val, mulN_val, mulN_val]
theorem dblZN_val (x z : Fp) : (dblZ kA x z).val = dblZN x.val z.val := by
  rw [dblZ, dblZN, force_eq, mulN_val, mulN_val, mulN_val, addN_val, addN_val, mulN_val, mulN_val, mulN_val, four_val, kA_val, mulN_val]
theorem sumXN_val (a b c d : Fp) : (sumX a b c d).val = sumXN a.val b.val c.val d.val := by
  rw [sumX, sumXN, force_eq, mulN_val, subN_val, mulN_val, mulN_val]
theorem sumZN_val (t a b c d : Fp) : (sumZ t a b c d).val = sumZN t.val a.val b.val c.val d.val := by
  rw [sumZ, sumZN, force_eq, mulN_val, mulN_val, subN_val, mulN_val, mulN_val]
/-- The first k steps' numbers go on to f. -/
def runN (t : Nat) (bits : Nat → Bool) : Nat → (Nat → Nat → Nat → Nat → Bool) → Nat → Nat → Nat → Nat → Nat → Bool
  | 0, f, _, ax, az, bx, bz => f ax az bx bz
  | k + 1, f, i, ax, az, bx, bz =>
    force (sumXN ax az bx bz) fun sx => force (sumZN t ax az bx bz) fun sz =>
      if bits i then force (dblXN bx bz) fun dx => force (dblZN bx bz) fun dz => runN t bits k f (i - 1) sx sz dx dz
      else force (dblXN ax az) fun dx => force (dblZN ax az) fun dz => runN t bits k f (i - 1) dx dz sx sz
theorem runN_val (t : Fp) (bits : Nat → Bool) (f : Nat → Nat → Nat → Nat → Bool) : ∀ (k j : Nat), k + j = 255 →
    runN t.val bits k f (254 - j) (lrun t bits j).ax.val (lrun t bits j).az.val (lrun t bits j).bx.val (lrun t bits j).bz.val =
      f (lrun t bits 255).ax.val (lrun t bits 255).az.val (lrun t bits 255).bx.val (lrun t bits 255).bz.val
  | 0, j, h => by
    obtain rfl : j = 255 := by omega
    rw [runN]
  | k + 1, j, h => by
    have ih := runN_val t bits f k (j + 1) (by omega)
    rw [runN, force_eq, force_eq, ← sumXN_val, ← sumZN_val]
    rw [lrun, dstep] at ih
    cases hb : bits (254 - j) with
    | true =>
      rw [hb, if_pos rfl] at ih
      rw [if_pos rfl, force_eq, force_eq, ← dblXN_val, ← dblZN_val, show 254 - j - 1 = 254 - (j + 1) from by omega]
      exact ih
    | false =>
      rw [hb, if_neg Bool.false_ne_true] at ih
      rw [if_neg Bool.false_ne_true, force_eq, force_eq, ← dblXN_val, ← dblZN_val, show 254 - j - 1 = 254 - (j + 1) from by omega]
      exact ih
/-- The check: what it gives is v. -/
theorem ladF_reckoned {t : Fp} {bits : Nat → Bool} (tN v : Nat) (ht : t.val = tN) (hv : v < pQ) (h : runN tN bits 255 (fun ax az _ _ => decide (az ≠ 0) && decide (mulN v az = ax)) 254 1 0 tN 1 = true) : ladF t bits = toFp (v : Int) := by
  have h1 := runN_val t bits (fun ax az _ _ => decide (az ≠ 0) && decide (mulN v az = ax)) 255 0 rfl
  have e1 : (lrun t bits 0).ax.val = 1 := rfl
  have e2 : (lrun t bits 0).az.val = 0 := rfl
  have e3 : (lrun t bits 0).bx.val = t.val := rfl
  have e4 : (lrun t bits 0).bz.val = 1 := rfl
  rw [e1, e2, e3, e4, ht, Nat.sub_zero, h] at h1
  have h2 := h1.symm
  rw [Bool.and_eq_true, decide_eq_true_eq, decide_eq_true_eq] at h2
  obtain ⟨hz, hm⟩ := h2
  unfold ladF
  obtain ⟨s, hs⟩ : ∃ s, s = lrun t bits 255 := ⟨_, rfl⟩
  rw [← hs] at hz hm ⊢
  have hz' : s.az ≠ 0 := fun e => hz (by rw [e]; rfl)
  have hvv : (toFp (v : Int)).val = v := by
    have := val_toFp (v : Int)
    unfold prI at this; unfold pQ at hv
    omega
  have hax : toFp (v : Int) * s.az = s.ax := by
    apply Fin.ext
    rw [mulN_val, hvv, hm]
  rw [← hax]
  have := mul_inv hz'
  obtain ⟨i, hi⟩ : ∃ i, i = inv s.az := ⟨_, rfl⟩
  rw [← hi] at this ⊢
  clear hi hax hvv hz' hm hz h1 h
  grobner
end Go.Proofs.Ytakhmmnklkckpaa
