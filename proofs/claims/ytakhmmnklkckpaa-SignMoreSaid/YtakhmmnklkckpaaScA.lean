/- The code's numbers modulo the base's order: words, differences, bytes. -/
import Derived.Test.YtakhmmnklkckpaaZi
import Derived.Test.YtakhmmnklkckpaaZb
namespace Go.Proofs.Ytakhmmnklkckpaa
open Go.RowKit Go.Dr
theorem sub64_key0 (X Y : Nat) (w : World) : (callFunc 124 #[.int .u64 (X : Int), .int .u64 (Y : Int), .int .u64 0]).run Try.prog w =
      .ok (.value (Extern.MathBitsCarry.pair ((X + Extern.MathBitsCarry.m64 - Y - 0) % Extern.MathBitsCarry.m64) (if X < Y + 0 then 1 else 0))) w := by kernel_rfl
theorem sub64_key1 (X Y : Nat) (w : World) : (callFunc 124 #[.int .u64 (X : Int), .int .u64 (Y : Int), .int .u64 1]).run Try.prog w =
      .ok (.value (Extern.MathBitsCarry.pair ((X + Extern.MathBitsCarry.m64 - Y - 1) % Extern.MathBitsCarry.m64) (if X < Y + 1 then 1 else 0))) w := by kernel_rfl
theorem sub64 (x y c : Int) (hx : 0 ≤ x) (hy : 0 ≤ y ∧ y < M64) (hc0 : 0 ≤ c) (hc : c ≤ 1) (w : World) : (callFunc 124 #[.int .u64 x, .int .u64 y, .int .u64 c]).run Try.prog w =
    .ok (.value (.tuple #[.int .u64 ((x - y - c) % 18446744073709551616), .int .u64 (if x < y + c then 1 else 0)])) w := by
  have key : ∀ (X Y : Nat) (k : Nat), k ≤ 1 → (callFunc 124 #[.int .u64 (X : Int), .int .u64 (Y : Int), .int .u64 (k : Int)]).run Try.prog w =
      .ok (.value (Extern.MathBitsCarry.pair ((X + Extern.MathBitsCarry.m64 - Y - k) % Extern.MathBitsCarry.m64) (if X < Y + k then 1 else 0))) w := by
    intro X Y k hk
    match k, hk with
    | 0, _ => exact sub64_key0 X Y w
    | 1, _ => exact sub64_key1 X Y w
  obtain ⟨k, rfl⟩ := Int.eq_ofNat_of_zero_le hc0
  obtain ⟨X, rfl⟩ := Int.eq_ofNat_of_zero_le hx
  obtain ⟨Y, rfl⟩ := Int.eq_ofNat_of_zero_le hy.1
  have hY := hy.2
  unfold M64 at hY
  rw [key X Y k (by omega)]
  simp only [Extern.MathBitsCarry.pair, Extern.MathBitsCarry.m64]
  have e1 : Int.ofNat ((X + 2 ^ 64 - Y - k) % 2 ^ 64) = ((X : Int) - Y - k) % 18446744073709551616 := by
    simp only [Int.ofNat_eq_natCast]
    omega
  have e2 : Int.ofNat (if X < Y + k then 1 else 0) = if (X : Int) < Y + k then 1 else 0 := by
    by_cases h : X < Y + k
    · rw [if_pos h, if_pos (by omega)]; rfl
    · rw [if_neg h, if_neg (by omega)]; rfl
  rw [e1, e2]
/-- Borrows, differences. -/
def bwF (A B : List Int) : Nat → Int
  | 0 => 0
  | i + 1 => if el A i < el B i + bwF A B i then 1 else 0
def dfF (A B : List Int) (i : Nat) : Int := (el A i - el B i - bwF A B i) % 18446744073709551616
theorem bw_01 (A B : List Int) : ∀ i, 0 ≤ bwF A B i ∧ bwF A B i ≤ 1
  | 0 => ⟨Int.le_refl 0, by show (0 : Int) ≤ 1; decide⟩
  | i + 1 => by unfold bwF; split <;> exact ⟨by decide, by decide⟩
/-- A number's four words. -/
def w4 (x : Int) : List Int := [x % 18446744073709551616, x / 18446744073709551616 % 18446744073709551616, x / 340282366920938463463374607431768211456 % 18446744073709551616, x / 6277101735386680763835789423207666416102355444464034512896 % 18446744073709551616]
theorem w4_of (a b c d : Int) (ha : 0 ≤ a ∧ a < 18446744073709551616) (hb : 0 ≤ b ∧ b < 18446744073709551616) (hc : 0 ≤ c ∧ c < 18446744073709551616) (hd : 0 ≤ d ∧ d < 18446744073709551616) : w4 (a + b * 18446744073709551616 + c * 340282366920938463463374607431768211456 + d * 6277101735386680763835789423207666416102355444464034512896) = [a, b, c, d] := by
  unfold w4
  have h0 : (a + b * 18446744073709551616 + c * 340282366920938463463374607431768211456 + d * 6277101735386680763835789423207666416102355444464034512896) % 18446744073709551616 = a := by omega
  have h1 : (a + b * 18446744073709551616 + c * 340282366920938463463374607431768211456 + d * 6277101735386680763835789423207666416102355444464034512896) / 18446744073709551616 % 18446744073709551616 = b := by omega
  have h2 : (a + b * 18446744073709551616 + c * 340282366920938463463374607431768211456 + d * 6277101735386680763835789423207666416102355444464034512896) / 340282366920938463463374607431768211456 % 18446744073709551616 = c := by omega
  have h3 : (a + b * 18446744073709551616 + c * 340282366920938463463374607431768211456 + d * 6277101735386680763835789423207666416102355444464034512896) / 6277101735386680763835789423207666416102355444464034512896 % 18446744073709551616 = d := by omega
  rw [h0, h1, h2, h3]
theorem w4_val (x : Int) (h : 0 ≤ x ∧ x < 115792089237316195423570985008687907853269984665640564039457584007913129639936) : x = x % 18446744073709551616 + x / 18446744073709551616 % 18446744073709551616 * 18446744073709551616 + x / 340282366920938463463374607431768211456 % 18446744073709551616 * 340282366920938463463374607431768211456 + x / 6277101735386680763835789423207666416102355444464034512896 % 18446744073709551616 * 6277101735386680763835789423207666416102355444464034512896 := by omega
theorem length_w4 (x : Int) : (w4 x).length = 4 := rfl
theorem wrd_w4 (x : Int) : Wrd (w4 x) := fun y hy => by
  unfold M64
  simp only [w4, List.mem_cons, List.not_mem_nil, or_false] at hy
  rcases hy with rfl | rfl | rfl | rfl <;> omega
theorem less_w4 (x y : Int) (hx : 0 ≤ x ∧ x < 115792089237316195423570985008687907853269984665640564039457584007913129639936) (hy : 0 ≤ y ∧ y < 115792089237316195423570985008687907853269984665640564039457584007913129639936) : (List.range 4).map (dfF (w4 x) (w4 y)) = w4 ((x - y) % 115792089237316195423570985008687907853269984665640564039457584007913129639936) ∧ bwF (w4 x) (w4 y) 4 = if x < y then 1 else 0 := by
  have vx := w4_val x hx
  have vy := w4_val y hy
  have step : ∀ i, el (w4 x) i - el (w4 y) i - bwF (w4 x) (w4 y) i = dfF (w4 x) (w4 y) i - bwF (w4 x) (w4 y) (i + 1) * 18446744073709551616 := by
    intro i
    have h1 := wrd_el (wrd_w4 x) i
    have h2 := wrd_el (wrd_w4 y) i
    have h3 := bw_01 (w4 x) (w4 y) i
    unfold M64 at h1 h2
    rw [dfF, bwF]
    split <;> omega
  have rng : ∀ i, 0 ≤ dfF (w4 x) (w4 y) i ∧ dfF (w4 x) (w4 y) i < 18446744073709551616 := fun i => by unfold dfF; omega
  have s0 := step 0
  have s1 := step 1
  have s2 := step 2
  have s3 := step 3
  have r0 := rng 0
  have r1 := rng 1
  have r2 := rng 2
  have r3 := rng 3
  have b4 := bw_01 (w4 x) (w4 y) 4
  rw [show bwF (w4 x) (w4 y) 0 = 0 from rfl] at s0
  simp only [show ∀ z, el (w4 z) 0 = z % 18446744073709551616 from fun _ => rfl, show ∀ z, el (w4 z) 1 = z / 18446744073709551616 % 18446744073709551616 from fun _ => rfl, show ∀ z, el (w4 z) 2 = z / 340282366920938463463374607431768211456 % 18446744073709551616 from fun _ => rfl, show ∀ z, el (w4 z) 3 = z / 6277101735386680763835789423207666416102355444464034512896 % 18446744073709551616 from fun _ => rfl] at s0 s1 s2 s3
  have hl : (List.range 4).map (dfF (w4 x) (w4 y)) = [dfF (w4 x) (w4 y) 0, dfF (w4 x) (w4 y) 1, dfF (w4 x) (w4 y) 2, dfF (w4 x) (w4 y) 3] := rfl
  rw [hl, ← w4_of _ _ _ _ r0 r1 r2 r3]
  simp only [Nat.zero_add, Nat.reduceAdd] at s0 s1 s2 s3
  generalize dfF (w4 x) (w4 y) 0 = d0 at *
  generalize dfF (w4 x) (w4 y) 1 = d1 at *
  generalize dfF (w4 x) (w4 y) 2 = d2 at *
  generalize dfF (w4 x) (w4 y) 3 = d3 at *
  generalize bwF (w4 x) (w4 y) 1 = c1 at *
  generalize bwF (w4 x) (w4 y) 2 = c2 at *
  generalize bwF (w4 x) (w4 y) 3 = c3 at *
  generalize bwF (w4 x) (w4 y) 4 = c4 at *
  clear step rng hl
  generalize x % 18446744073709551616 = x0 at *
  generalize x / 18446744073709551616 % 18446744073709551616 = x1 at *
  generalize x / 340282366920938463463374607431768211456 % 18446744073709551616 = x2 at *
  generalize x / 6277101735386680763835789423207666416102355444464034512896 % 18446744073709551616 = x3 at *
  generalize y % 18446744073709551616 = y0 at *
  generalize y / 18446744073709551616 % 18446744073709551616 = y1 at *
  generalize y / 340282366920938463463374607431768211456 % 18446744073709551616 = y2 at *
  generalize y / 6277101735386680763835789423207666416102355444464034512896 % 18446744073709551616 = y3 at *
  have key : x - y = d0 + d1 * 18446744073709551616 + d2 * 340282366920938463463374607431768211456 + d3 * 6277101735386680763835789423207666416102355444464034512896 - c4 * 115792089237316195423570985008687907853269984665640564039457584007913129639936 := by omega
  generalize hD : d0 + d1 * 18446744073709551616 + d2 * 340282366920938463463374607431768211456 + d3 * 6277101735386680763835789423207666416102355444464034512896 = D at *
  have hDr : 0 ≤ D ∧ D < 115792089237316195423570985008687907853269984665640564039457584007913129639936 := by omega
  clear s0 s1 s2 s3 hD vx vy
  constructor
  · congr 1; omega
  · split <;> omega
section
variable {w : World}
theorem order_f : Calls Try.prog 114 #[] w fun e w' => e = .returned (.agg (ints .u64 (w4 7237005577332262213973186563042994240857116359379907606001950938285454250989))) ∧ Fr [] w w' := by
  go_enter Try.func114, Try.ntmps114
  go_wp2_with (refine wpList_buildV (t := 113) (v := .agg (ints .u64 [6346243789798364141, 1503914060200516822, 0, 1152921504606846976])) rfl rfl (by kernel_rfl) ?_)
  refine ret_cell rfl rfl rfl ?_
  refine cellRet_of (World.at_alloc_new _ _ _ rfl) (aggB_ints (k := .u64) (l := w4 7237005577332262213973186563042994240857116359379907606001950938285454250989) rfl (by kernel_rfl)) ?_
  exact ⟨rfl, (Fr.refl _ _).alloc _⟩
set_option maxRecDepth 100000 in
set_option maxHeartbeats 2000000 in
theorem less_f (x y : Int) (hx : 0 ≤ x ∧ x < 115792089237316195423570985008687907853269984665640564039457584007913129639936) (hy : 0 ≤ y ∧ y < 115792089237316195423570985008687907853269984665640564039457584007913129639936) : Calls Try.prog 113 #[.agg (ints .u64 (w4 x)), .agg (ints .u64 (w4 y))] w fun e w' => e = .returned (.tuple #[.agg (ints .u64 (w4 ((x - y) % 115792089237316195423570985008687907853269984665640564039457584007913129639936))), .bool (decide (x < y))]) ∧ Fr [] w w' := by
  obtain ⟨A, hA⟩ : ∃ A, A = w4 x := ⟨_, rfl⟩
  obtain ⟨B, hB⟩ : ∃ B, B = w4 y := ⟨_, rfl⟩
  have lA : A.length = 4 := by rw [hA]; rfl
  have lB : B.length = 4 := by rw [hB]; rfl
  have wA : Wrd A := by rw [hA]; exact wrd_w4 _
  have wB : Wrd B := by rw [hB]; exact wrd_w4 _
  have hm := less_w4 x y hx hy
  rw [← hA, ← hB] at hm ⊢
  have HA := Lib.hid wA
  have HB := Lib.hid wB
  have HM := Lib.hid hm
  clear hA hB wA wB hm
  go_enter Try.func113, Try.ntmps113
  go_wp2_with fail
  refine OwB.named (Q := fun X => Code.wp _ _ _ _ X) (show OwB w [(w.heap.size + 2, .cells (ints .u64 (zs 4)) 113), (w.heap.size + 1, .cells (ints .u64 B) 113), (w.heap.size, .cells (ints .u64 A) 113)] _ from (((OwB.start w).allocN (.cells (ints .u64 A) 113) w.heap.size rfl).allocN (.cells (ints .u64 B) 113) (w.heap.size + 1) (by simp)).allocN (.cells (ints .u64 (zs 4)) 113) (w.heap.size + 2) (by simp)) ?_
  intro V hV
  generalize w.heap.size + 2 = b4 at hV ⊢
  generalize w.heap.size + 1 = b3 at hV ⊢
  generalize w.heap.size = b2 at hV ⊢
  go_loopw [6, 8] (fun cv iv wr => ∃ (i : Nat) (c : Int), i ≤ 4 ∧ Hid (c = bwF A B i) ∧ 0 ≤ c ∧ c ≤ 1 ∧ cv = .int .u64 c ∧ iv = .int .i64 (i : Int) ∧ Hid (OwB w [(b4, .cells (ints .u64 (zs 4)) 113), (b3, .cells (ints .u64 B) 113), (b2, .cells (ints .u64 (upd (dfF A B) A i)) 113)] wr)) (fun _ iv _ => (4 - intOf iv).toNat)
  case atStart => exact ⟨0, 0, by omega, Lib.hid rfl, by omega, by omega, rfl, rfl, Lib.hid (by rw [upd_zero]; exact hV)⟩
  case round =>
    clear hV
    obtain ⟨i, c, hi, hc, hc0, hc1, rfl, rfl, hO⟩ := hrel
    obtain ⟨U, hU⟩ : ∃ U, U = upd (dfF A B) A i := ⟨_, rfl⟩
    have lU : U.length = 4 := by rw [hU, length_upd _ _ _ (by omega), lA]
    have eU : el U i = el A i := by rw [hU, el_upd, if_neg (by omega)]
    rw [← hU] at hO
    have HU := Lib.hid hU
    have EU := Lib.hid eU
    clear hU eU
    by_cases hlt : i < 4
    · have hd : decide ((i : Int) < 4) = true := by rw [decide_eq_true_eq]; omega
      have hsub := sub64 (el U i) (el B i) c (by rw [EU.out]; exact (wrd_el HA.out i).1) (wrd_el HB.out i) hc0 hc1
      obtain ⟨L5, hL5⟩ : ∃ L5 : List (Nat × Obj), L5 = [(b4, .cells (ints .u64 (zs 4)) 113), (b3, .cells (ints .u64 B) 113), (b2, .cells (ints .u64 U) 113)] := ⟨_, rfl⟩
      have hO10 := hO.out
      rw [← hL5] at hO10
      have HL5 := Lib.hid hL5
      clear hL5 hO
      have hne : Nonempty (OwnW w L5) := ⟨⟨_, hO10⟩⟩
      have f0 : ∀ x : OwnW w L5, x.w.blk b3 = some (.cells (ints .u64 B) 113) := fun x => x.nth HL5.out 1 rfl
      have f1 : ∀ x : OwnW w L5, x.w.blk b2 = some (.cells (ints .u64 U) 113) := fun x => x.nth HL5.out 2 rfl
      go_wp2_with fail
      refine wp_region_own_late 13 11 (by kernel_rfl) (by kernel_rfl) rfl hO10 ?_
      simp only [List.take_succ_cons, List.take_zero, List.drop_succ_cons, List.drop_zero]
      repeat (go_big_quiet_step (fail))
      refine wpQuiet_nil ?_
      refine ⟨_, yields_extract rfl rfl rfl rfl, ?_⟩
      simp only [Act.put, List.setIfInBounds_toArray, List.set_cons_zero, List.set_cons_succ]
      repeat (go_big_quiet_step (fail))
      refine wpQuiet_nil ?_
      intro _ hw'
      obtain ⟨⟨V9, hV9⟩, rfl⟩ := hw'
      clear f0 f1 hne hO10 hsub
      rw [HL5.out] at hV9
      have g0 := hV9.nth 2 rfl
      have t0 := hV9.lt 2 rfl
      intro K hK
      go_wp2
      go_roundw
      case rel =>
        refine ⟨i + 1, _, by omega, Lib.hid ?_, ?_, ?_, rfl, by simp, Lib.hid ?_⟩
        · rw [bwF, EU.out, hc.out]
        · split <;> omega
        · split <;> omega
        · have hn := hV9.set 2 (.cells (ints .u64 (upd (dfF A B) A (i + 1))) 113) rfl
          have e : U.set i ((el U i - el B i - c) % 18446744073709551616) = upd (dfF A B) A (i + 1) := by
            rw [EU.out, hc.out, HU.out]
            exact set_upd (dfF A B) A i (by rw [lA]; exact hlt)
          rw [e]
          exact hn
      case measure => simp [intOf]; omega
    · obtain rfl : i = 4 := by omega
      have hd : decide ((4 : Int) < 4) = false := by decide
      have g2 := hO.out.nth 2 rfl
      have g4 := hO.out.nth 0 rfl
      have t4 := hO.out.lt 0 rfl
      go_wp2_with fail
      have hn := hO.out.set 0 (.cells (ints .u64 U) 113) rfl
      obtain ⟨hm1, hm2⟩ := HM.out
      refine ret_cell_tmp rfl rfl rfl ?_
      refine cellRet_of (hn.nth 0 rfl) (aggB_ints lU (by kernel_rfl)) ?_
      refine ⟨?_, hn.fr⟩
      rw [HU.out, upd_full _ _ _ lA, hm1, hc.out, hm2]
      by_cases hxy : x < y
      · rw [if_pos hxy, decide_eq_true hxy]; rfl
      · rw [if_neg hxy, decide_eq_false hxy]; rfl
end
end Go.Proofs.Ytakhmmnklkckpaa
