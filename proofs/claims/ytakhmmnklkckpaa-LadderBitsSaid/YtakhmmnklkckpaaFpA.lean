/- The numbers modulo p = 2^255 - 19, as Fin p; from whole numbers to them. -/
namespace Go.Proofs.Ytakhmmnklkckpaa
abbrev Fp : Type := Fin 57896044618658097711785492504343953926634992332820282019728792003956564819949
def prI : Int := 57896044618658097711785492504343953926634992332820282019728792003956564819949
/-- A whole number modulo p. -/
def toFp (n : Int) : Fp := ⟨(n % prI).toNat, by have := Int.emod_nonneg n (show prI ≠ 0 by decide); have := Int.emod_lt_of_pos n (show 0 < prI by decide); unfold prI at *; omega⟩
theorem val_toFp (n : Int) : ((toFp n).val : Int) = n % prI := Int.toNat_of_nonneg (Int.emod_nonneg n (by decide))
theorem toFp_eq {x y : Int} (h : x % prI = y % prI) : toFp x = toFp y := by
  apply Fin.ext
  have h1 := val_toFp x
  have h2 := val_toFp y
  omega
theorem toFp_val (x : Fp) : toFp (x.val : Int) = x := by
  apply Fin.ext
  have h := val_toFp (x.val : Int)
  have := x.isLt
  unfold prI at h
  omega
theorem fp_ext {x y : Fp} (h : (x.val : Int) = y.val) : x = y := Fin.ext (by omega)
theorem val_addF (x y : Fp) : ((x + y).val : Int) = ((x.val : Int) + y.val) % prI := by
  rw [Fin.val_add]; unfold prI; omega
theorem val_mulF (x y : Fp) : ((x * y).val : Int) = ((x.val : Int) * y.val) % prI := by
  rw [Fin.val_mul, Int.natCast_emod, Int.natCast_mul]; rfl
theorem val_negF (x : Fp) : ((-x).val : Int) = (-(x.val : Int)) % prI := by
  rw [Fin.val_neg']
  have := x.isLt
  unfold prI; omega
theorem val_subF (x y : Fp) : ((x - y).val : Int) = ((x.val : Int) - y.val) % prI := by
  rw [Fin.val_sub]
  have := y.isLt
  unfold prI; omega
theorem toFp_add (x y : Int) : toFp (x + y) = toFp x + toFp y := fp_ext (by rw [val_addF, val_toFp, val_toFp, val_toFp, ← Int.add_emod])
theorem toFp_mul (x y : Int) : toFp (x * y) = toFp x * toFp y := fp_ext (by rw [val_mulF, val_toFp, val_toFp, val_toFp, ← Int.mul_emod])
theorem toFp_sub (x y : Int) : toFp (x - y) = toFp x - toFp y := fp_ext (by rw [val_subF, val_toFp, val_toFp, val_toFp, ← Int.sub_emod])
theorem toFp_neg (x : Int) : toFp (-x) = -toFp x := by
  have := toFp_sub 0 x
  rw [Int.zero_sub] at this
  rw [this]
  have h0 : toFp 0 = 0 := by apply Fin.ext; rfl
  rw [h0]
  grind
theorem toFp_zero : toFp 0 = 0 := by apply Fin.ext; rfl
theorem toFp_one : toFp 1 = 1 := by apply Fin.ext; rfl
theorem toFp_eq_iff (x y : Int) : toFp x = toFp y ↔ x % prI = y % prI := ⟨fun h => by rw [← val_toFp, ← val_toFp, h], toFp_eq⟩
end Go.Proofs.Ytakhmmnklkckpaa
