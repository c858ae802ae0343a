/- SHA-512 of one block, reckoned in the kernel; the public key of the seed of zeros. -/
import Derived.Test.YtakhmmnklkckpaaSgB
namespace Go.Proofs.Ytakhmmnklkckpaa
open Go.RowKit Go.Dr
def forceI {α : Type} (x : Int) (f : Int → α) : α := match x with
  | .ofNat n => force n fun n => f (.ofNat n)
  | .negSucc n => f (.negSucc n)
theorem forceI_eq {α : Type} (x : Int) (f : Int → α) : forceI x f = f x := by
  cases x with
  | ofNat n =>
    show force n (fun n => f (.ofNat n)) = f (.ofNat n)
    rw [force_eq]
  | negSucc n => rfl
def forceL {α : Type} : List Int → (List Int → α) → α
  | [], f => f []
  | x :: r, f => forceI x fun x => forceL r fun r => f (x :: r)
theorem forceL_eq {α : Type} : ∀ (l : List Int) (f : List Int → α), forceL l f = f l
  | [], _ => rfl
  | x :: r, f => by rw [forceL, forceI_eq, forceL_eq r]
def runB {α : Type} (B : List Int) (c : List Int → α) : Nat → Nat → List Int → α
  | 0, _, l => c l
  | n + 1, i, l => forceL (l.set (i / 8) (bits .or .u64 (IntKind.u64.wrap (el l (i / 8) * 256)) (el B i))) fun l => runB B c n (i + 1) l
theorem runB_eq {α : Type} (B : List Int) (c : List Int → α) : ∀ n i, runB B c n i (bR B i) = c (bR B (i + n))
  | 0, _ => rfl
  | n + 1, i => by rw [runB, forceL_eq]; exact (runB_eq B c n (i + 1)).trans (by rw [show i + 1 + n = i + (n + 1) from by omega])
def runS {α : Type} (c : List Int → α) : Nat → Nat → List Int → α
  | 0, _, l => c l
  | n + 1, k, l => forceL (l.set (16 + k) (nxt l (16 + k))) fun l => runS c n (k + 1) l
theorem runS_eq {α : Type} (W : List Int) (c : List Int → α) : ∀ n k, runS c n k (cR W k) = c (cR W (k + n))
  | 0, _ => rfl
  | n + 1, k => by rw [runS, forceL_eq]; exact (runS_eq W c n (k + 1)).trans (by rw [show k + 1 + n = k + (n + 1) from by omega])
def runV {α : Type} (W : List Int) (c : List Int → α) : Nat → Nat → List Int → α
  | 0, _, v => c v
  | n + 1, k, v => forceL (rnd v (el kL k) (el W k)) fun v => runV W c n (k + 1) v
theorem runV_eq {α : Type} (W H : List Int) (c : List Int → α) : ∀ n k, runV W c n k (vR W H k) = c (vR W H (k + n))
  | 0, _ => rfl
  | n + 1, k => by rw [runV, forceL_eq]; exact (runV_eq W H c n (k + 1)).trans (by rw [show k + 1 + n = k + (n + 1) from by omega])
/-- A block, reckoned. -/
def runK {α : Type} (H B : List Int) (c : List Int → α) : α :=
  forceL B fun B => runB B (fun l => runS (fun W => runV W (fun v => forceL (addR H v 8) c) 80 0 H) 64 0 l) 128 0 (zs 80)
theorem runK_eq {α : Type} (H B : List Int) (c : List Int → α) : runK H B c = c (blkF H B) := by
  unfold runK
  rw [forceL_eq]
  refine (runB_eq B _ 128 0).trans ?_
  refine (runS_eq (bR B (0 + 128)) _ 64 0).trans ?_
  refine (runV_eq _ H _ 80 0).trans ?_
  rw [forceL_eq]
  rfl
def sum0 : List Int := [80, 70, 173, 193, 219, 168, 56, 134, 123, 43, 187, 253, 208, 195, 66, 62, 88, 181, 121, 112, 181, 38, 122, 144, 245, 121, 96, 146, 74, 135, 241, 150, 10, 106, 133, 234, 166, 66, 218, 200, 53, 66, 75, 93, 124, 141, 99, 124, 0, 64, 140, 122, 115, 218, 103, 43, 127, 73, 133, 33, 66, 11, 109, 211]
set_option maxRecDepth 100000 in
theorem blkN_zero : blkN (zs 32) = 1 := by kernel_rfl
theorem run_zero : runK iL (padF (zs 32)) (fun l => forceL ((List.range 64).map (outB l)) fun l => decide (l = sum0)) = true := by kernel_rfl
theorem sum_zero : sumF (zs 32) = sum0 := by
  have h := run_zero
  rw [runK_eq, forceL_eq, decide_eq_true_eq] at h
  have e : sumW (zs 32) = blkF iL (padF (zs 32)) := by
    rw [sumW, blkN_zero, hR, hR, List.drop_zero]
  rw [sumF, e]
  exact h
def num0 : Nat := 39325648866980652792715009169219496062012184734522019333892538943312776480336
theorem clamp_zero : numB (clampB sum0) = num0 := by decide +kernel
def ax0 : Fp := toFp 9639205628789703341510410801487549615560488670885798085067615194958049462616
def ay0 : Fp := toFp 18930617471878267742194159801949745215346600387277955685031939302387136031291
theorem ax0_val : ax0.val = 9639205628789703341510410801487549615560488670885798085067615194958049462616 := by kernel_rfl
theorem ay0_val : ay0.val = 18930617471878267742194159801949745215346600387277955685031939302387136031291 := by kernel_rfl
def pub0 : List Int := [59, 106, 39, 188, 206, 182, 164, 45, 98, 163, 168, 208, 42, 111, 13, 115, 101, 50, 21, 119, 29, 226, 67, 166, 58, 192, 72, 161, 139, 89, 218, 41]
theorem enc_zero : encB ax0 ay0 = pub0 := by kernel_rfl
theorem reckon_zero : ∃ X Y Z T, CSays X Y Z T (mulP dC num0 bsP) ∧ (Nat.beq X.val (mulN 9639205628789703341510410801487549615560488670885798085067615194958049462616 Z.val) && Nat.beq Y.val (mulN 18930617471878267742194159801949745215346600387277955685031939302387136031291 Z.val)) = true :=
  bs_reckoned num0 256 (by decide +kernel) (fun x y z _ => Nat.beq x (mulN 9639205628789703341510410801487549615560488670885798085067615194958049462616 z) && Nat.beq y (mulN 18930617471878267742194159801949745215346600387277955685031939302387136031291 z)) (by kernel_rfl)
theorem mul_quot {z x : Fp} (hz : z ≠ 0) : x * z * inv z = x := by
  obtain ⟨i, hi⟩ : ∃ i, i = inv z := ⟨_, rfl⟩
  have h := mul_inv hz
  rw [← hi] at h ⊢
  clear hi
  grobner
theorem pub_zero : pubB (zs 32) = pub0 := by
  rw [pubB, sum_zero, baseB, clamp_zero]
  obtain ⟨X, Y, Z, T, h, hf⟩ := reckon_zero
  rw [Bool.and_eq_true] at hf
  have hx : X = ax0 * Z := Fin.ext (by rw [mulN_val, ax0_val]; exact Nat.eq_of_beq_eq_true hf.1)
  have hy : Y = ay0 * Z := Fin.ext (by rw [mulN_val, ay0_val]; exact Nat.eq_of_beq_eq_true hf.2)
  rw [← h.enc, hx, hy, mul_quot h.z, mul_quot h.z, enc_zero]
end Go.Proofs.Ytakhmmnklkckpaa
