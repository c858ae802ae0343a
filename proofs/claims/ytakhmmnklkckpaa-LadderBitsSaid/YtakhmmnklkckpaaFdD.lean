/- The package field: sums of products. -/
import Derived.Test.YtakhmmnklkckpaaFdA
import Derived.Laws.Externs
import Derived.Laws.MathBits
namespace Go.Proofs.Ytakhmmnklkckpaa
open Go.RowKit Go.Dr

theorem add64_key0 (X Y : Nat) (w : World) : (callFunc 72 #[.int .u64 (X : Int), .int .u64 (Y : Int), .int .u64 0]).run Try.prog w =
      .ok (.value (Extern.MathBitsCarry.pair ((X + Y + 0) % Extern.MathBitsCarry.m64) ((X + Y + 0) / Extern.MathBitsCarry.m64))) w := by kernel_rfl
theorem add64_key1 (X Y : Nat) (w : World) : (callFunc 72 #[.int .u64 (X : Int), .int .u64 (Y : Int), .int .u64 1]).run Try.prog w =
      .ok (.value (Extern.MathBitsCarry.pair ((X + Y + 1) % Extern.MathBitsCarry.m64) ((X + Y + 1) / Extern.MathBitsCarry.m64))) w := by kernel_rfl
theorem add64 (x y c : Int) (hx : 0 ≤ x) (hy : 0 ≤ y) (hc0 : 0 ≤ c) (hc : c ≤ 1) (w : World) : (callFunc 72 #[.int .u64 x, .int .u64 y, .int .u64 c]).run Try.prog w =
    .ok (.value (.tuple #[.int .u64 ((x + y + c) % 18446744073709551616), .int .u64 ((x + y + c) / 18446744073709551616)])) w := by
  have key : ∀ (X Y : Nat) (k : Nat), k ≤ 1 → (callFunc 72 #[.int .u64 (X : Int), .int .u64 (Y : Int), .int .u64 (k : Int)]).run Try.prog w =
      .ok (.value (Extern.MathBitsCarry.pair ((X + Y + k) % Extern.MathBitsCarry.m64) ((X + Y + k) / Extern.MathBitsCarry.m64))) w := by
    intro X Y k hk
    match k, hk with
    | 0, _ => exact add64_key0 X Y w
    | 1, _ => exact add64_key1 X Y w
  obtain ⟨k, rfl⟩ := Int.eq_ofNat_of_zero_le hc0
  obtain ⟨X, rfl⟩ := Int.eq_ofNat_of_zero_le hx
  obtain ⟨Y, rfl⟩ := Int.eq_ofNat_of_zero_le hy
  rw [key X Y k (by omega)]
  simp only [Extern.MathBitsCarry.pair, Extern.MathBitsCarry.m64]
  congr 5
theorem add64_0 (x y : Int) (hx : 0 ≤ x) (hy : 0 ≤ y) (w : World) : (callFunc 72 #[.int .u64 x, .int .u64 y, .int .u64 0]).run Try.prog w =
    .ok (.value (.tuple #[.int .u64 ((x + y) % 18446744073709551616), .int .u64 ((x + y) / 18446744073709551616)])) w := by
  simpa using add64 x y 0 hx hy (Int.le_refl 0) (by decide) w
theorem and_mod32 (z : Int) : bits .and .u64 (z % 18446744073709551616) 4294967295 = z % 18446744073709551616 % 4294967296 :=
  and_low32 _ (by omega) (by omega)
section
variable {w : World}
theorem mul64_any (x y : Int) (hx0 : 0 ≤ x) (hx : x < 18446744073709551616) (hy0 : 0 ≤ y) (hy : y < 18446744073709551616) :
    Calls Try.prog 98 #[.int .u64 x, .int .u64 y] w fun e w' => e = .returned (.tuple #[.int .u64 (x * y / 18446744073709551616), .int .u64 (x * y % 18446744073709551616)]) ∧ w' = w := by
  go_enter Try.func98, Try.ntmps98
  go_wp2
  simp only [and_low32 x hx0 hx, and_low32 y hy0 hy, and_mod32, IntKind.wrap_u64]
  rw [mul64_arith x y hx0 hx hy0 hy]
  go_ret2
  exact ⟨rfl, rfl⟩
/-- more: w + a b, where that is below 2^128. -/
theorem more_any (hi lo a b : Int) (h0 : 0 ≤ hi) (l0 : 0 ≤ lo) (l1 : lo < 18446744073709551616) (a0 : 0 ≤ a) (a1 : a < 18446744073709551616) (b0 : 0 ≤ b) (b1 : b < 18446744073709551616)
    (hs : hi * 18446744073709551616 + lo + a * b < 340282366920938463463374607431768211456) :
    Calls Try.prog 71 #[.agg #[.int .u64 hi, .int .u64 lo], .int .u64 a, .int .u64 b] w fun e w' =>
      e = .returned (.agg #[.int .u64 ((hi * 18446744073709551616 + lo + a * b) / 18446744073709551616), .int .u64 ((hi * 18446744073709551616 + lo + a * b) % 18446744073709551616)]) ∧ Fr [] w w' := by
  have hm : 0 ≤ a * b := Int.mul_nonneg a0 b0
  go_enter Try.func71, Try.ntmps71
  go_wp2_with fail
  refine (mul64_any a b a0 a1 b0 b1).mono ?_
  rintro e w1 ⟨rfl, rfl⟩
  generalize hme : a * b = m at hm hs ⊢
  have e1 := add64_0 lo (m % 18446744073709551616) l0 (by omega)
  have e2 := add64 hi (m / 18446744073709551616) ((lo + m % 18446744073709551616) / 18446744073709551616) h0 (by omega) (by omega) (by omega)
  have g1 : (lo + m % 18446744073709551616) % 18446744073709551616 = (hi * 18446744073709551616 + lo + m) % 18446744073709551616 := by omega
  have g2 : (hi + m / 18446744073709551616 + (lo + m % 18446744073709551616) / 18446744073709551616) % 18446744073709551616 = (hi * 18446744073709551616 + lo + m) / 18446744073709551616 := by omega
  clear hs hm l1 a1 b1
  go_wp2_with (first | simp only [] | simp only [e2])
  refine ret_cell rfl rfl rfl ?_
  go_simp
  exact ((Fr.refl _ _).alloc _).alloc _
theorem more_at (s a b : Int) (h0 : 0 ≤ s) (a0 : 0 ≤ a) (a1 : a < 18446744073709551616) (b0 : 0 ≤ b) (b1 : b < 18446744073709551616) (hs : s + a * b < 340282366920938463463374607431768211456) :
    Calls Try.prog 71 #[.agg #[.int .u64 (s / 18446744073709551616), .int .u64 (s % 18446744073709551616)], .int .u64 a, .int .u64 b] w fun e w' =>
      e = .returned (.agg #[.int .u64 ((s + a * b) / 18446744073709551616), .int .u64 ((s + a * b) % 18446744073709551616)]) ∧ Fr [] w w' := by
  have e : s / 18446744073709551616 * 18446744073709551616 + s % 18446744073709551616 = s := by omega
  have := more_any (w := w) (s / 18446744073709551616) (s % 18446744073709551616) a b (by omega) (by omega) (by omega) a0 a1 b0 b1 (by rw [e]; exact hs)
  rw [e] at this
  exact this
end
end Go.Proofs.Ytakhmmnklkckpaa
