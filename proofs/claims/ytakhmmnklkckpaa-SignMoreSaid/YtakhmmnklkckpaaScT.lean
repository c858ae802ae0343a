/- The document's numbers modulo the base's order: the order, so many bits to the left; below. -/
import Derived.Test.YtakhmmnklkckpaaScS
import Derived.Test.YtakhmmnklkckpaaZc
import Derived.Test.YtakhmmnklkckpaaZq
namespace Go.Proofs.Ytakhmmnklkckpaa
open Go.RowKit Go.Dr
theorem dbl_step (X i : Nat) : (2 * (X % 65536 ^ i) / 65536 ^ i + 2 * (X / 65536 ^ i % 65536)) % 65536 = 2 * X / 65536 ^ i % 65536 ∧ (2 * (X % 65536 ^ i) / 65536 ^ i + 2 * (X / 65536 ^ i % 65536)) / 65536 = 2 * (X % 65536 ^ (i + 1)) / 65536 ^ (i + 1) := by
  rw [Nat.pow_succ]
  have hP : 0 < 65536 ^ i := Nat.pow_pos (by decide)
  generalize 65536 ^ i = P at hP
  have e1 : 2 * X / P = 2 * (X % P) / P + 2 * (X / P) := by
    have h : 2 * X = 2 * (X % P) + P * (2 * (X / P)) := by
      have := Nat.div_add_mod X P
      rw [← Nat.mul_assoc, Nat.mul_comm P 2, Nat.mul_assoc]; omega
    have h2 := Nat.add_mul_div_left (2 * (X % P)) (2 * (X / P)) hP
    rw [← h] at h2
    exact h2
  have e2 : 2 * (X % (P * 65536)) / (P * 65536) = (2 * (X % P) / P + 2 * (X / P % 65536)) / 65536 := by
    have h : 2 * (X % (P * 65536)) = 2 * (X % P) + P * (2 * (X / P % 65536)) := by
      rw [Nat.mod_mul, Nat.mul_add, ← Nat.mul_assoc, ← Nat.mul_assoc, Nat.mul_comm P 2]
    rw [← Nat.div_div_eq_div_mul, h, Nat.add_mul_div_left _ _ hP]
  rw [e1, e2]
  omega
theorem dbl_car (X i : Nat) : 2 * (X % 65536 ^ i) / 65536 ^ i ≤ 1 := by
  have hP : 0 < 65536 ^ i := Nat.pow_pos (by decide)
  have := Nat.mod_lt X hP
  have h2 : 2 * (X % 65536 ^ i) / 65536 ^ i < 2 := by rw [Nat.div_lt_iff_lt_mul hP]; omega
  omega

def oD0 : List Int := [54253, 23797, 25370, 22546, 40150, 41719, 63966, 5342, 0, 0, 0, 0, 0, 0, 0, 4096, 0]
theorem oD0_eq : oD0 = digN (ordL * 2 ^ 0) 17 := by decide +kernel
/-- Twice a number: the first i digits are told. -/
def dblD (X : Nat) (i : Nat) : List Int := upd (el (digN (2 * X) 17)) (digN X 17) i
theorem length_dblD (X i : Nat) (h : i ≤ 17) : (dblD X i).length = 17 := by rw [dblD, length_upd _ _ _ (by rw [length_digN]; exact h), length_digN]
theorem dblD_set (X i : Nat) (h : i < 17) : (dblD X i).set i ((2 * X / 65536 ^ i % 65536 : Nat) : Int) = dblD X (i + 1) := by
  have := set_upd (el (digN (2 * X) 17)) (digN X 17) i (by rw [length_digN]; exact h)
  rw [el_digN, if_pos h] at this
  exact this
theorem el_dblD (X i : Nat) (h : i < 17) : el (dblD X i) i = ((X / 65536 ^ i % 65536 : Nat) : Int) := by
  rw [dblD, el_upd, if_neg (by omega), el_digN, if_pos h]
theorem dblD_full (X : Nat) : dblD X 17 = digN (2 * X) 17 := by
  rw [dblD, upd_full _ _ _ (length_digN X 17)]
  apply List.ext_getElem?
  intro j
  by_cases hj : j < 17
  · rw [List.getElem?_map, List.getElem?_range hj, Option.map_some, el_digN, if_pos hj]
    simp [hj, digN]
  · rw [List.getElem?_eq_none (by simp; omega), List.getElem?_eq_none (by rw [length_digN]; omega)]
theorem wpList_bs {w w' : World} {ops : Array Oper} {rest : List Oper} {o : Oper} {a : Act} {Q : Exit → Act → World → Prop} {t : TypeId} {m : Nat} {ps : Array (Nat × Operand)} {v : Value} (hg : o.guard = none) (_ : o.op = .buildSlice t m ps)
    (h : (execOp a.eval o).run Try.prog w = .ok (.value v) w') (hk : wpList Try.prog ops Q rest (a.put o.dst v) w') : wpList Try.prog ops Q (o :: rest) a w :=
  wpList_plain hg fun K hK => by
    unfold Oper.wp
    rw [h]
    exact hK _ _ hk
section
variable {w : World}
set_option maxRecDepth 100000 in
set_option maxHeartbeats 2000000 in
theorem order_d (n : Nat) (hn : n ≤ 15) : Calls Try.prog 115 #[.int .i64 (n : Int)] w fun e w' => ∃ b, e = .returned (.slice (some ⟨b, 0, none⟩) 17 17) ∧ w'.blk b = some (.cells (ints .i64 (digN (ordL * 2 ^ n) 17)) 3) ∧ w.heap.size ≤ b ∧ Fr [] w w' := by
  go_enter Try.func115, Try.ntmps115
  go_wp2_with (refine wpList_bs (t := 76) (m := 17) (v := .slice (some ⟨w.heap.size, 0, none⟩) 17 17) (w' := w.alloc (.cells (ints .i64 oD0) 3)) rfl rfl (by kernel_rfl) ?_)
  refine OwB.named (Q := fun X => Code.wp _ _ _ _ X) (show OwB w [(w.heap.size, .cells (ints .i64 oD0) 3)] _ from (OwB.start w).allocN (.cells (ints .i64 oD0) 3) w.heap.size rfl) ?_
  intro V hV
  generalize w.heap.size = b at hV ⊢
  go_loopw [0] (fun v wr => ∃ k x : Nat, Hid (x + k = n) ∧ v = .int .i64 (x : Int) ∧ Hid (OwB w [(b, .cells (ints .i64 (digN (ordL * 2 ^ k) 17)) 3)] wr)) (fun v _ => (intOf v).toNat)
  case atStart => exact ⟨0, n, Lib.hid (by omega), rfl, Lib.hid (by rw [← oD0_eq]; exact hV)⟩
  case round =>
    clear hV
    obtain ⟨k, x, hkx, rfl, hO⟩ := hrel
    by_cases hx : 0 < x
    · have hd : decide ((0 : Int) < (x : Int)) = true := by rw [decide_eq_true_eq]; omega
      obtain ⟨X, hX⟩ : ∃ X, X = ordL * 2 ^ k := ⟨_, rfl⟩
      rw [← hX] at hO
      have HX := Lib.hid hX
      clear hX
      have hxs : x ≤ 15 := by have := hkx.out; omega
      go_wp2_with fail
      go_loopw [4, 5] (fun c v wr => ∃ i u : Nat, i ≤ 17 ∧ v = .int .i64 (i : Int) ∧ c = .int .i64 (u : Int) ∧ Hid (u = 2 * (X % 65536 ^ i) / 65536 ^ i) ∧ Hid (OwB w [(b, .cells (ints .i64 (dblD X i)) 3)] wr)) (fun _ v _ => (17 - intOf v).toNat)
      case atStart => exact ⟨0, 0, by omega, rfl, rfl, Lib.hid (by simp [Nat.mod_one]), Lib.hid (by rw [dblD, upd_zero]; exact hO.out)⟩
      case round =>
        clear hO
        obtain ⟨i, u, hi, rfl, rfl, hu, hO⟩ := hrel
        by_cases hlt : i < 17
        · have hd2 : decide ((i : Int) < 17) = true := by rw [decide_eq_true_eq]; omega
          have f0 := hO.out.nth 0 rfl
          have t0 := hO.out.lt 0 rfl
          obtain ⟨U, hU⟩ : ∃ U, U = dblD X i := ⟨_, rfl⟩
          have lU : U.length = 17 := by rw [hU]; exact length_dblD X i hi
          have eU : el U i = ((X / 65536 ^ i % 65536 : Nat) : Int) := by rw [hU]; exact el_dblD X i hlt
          rw [← hU] at f0
          have hu1 : u ≤ 1 := by rw [hu.out]; exact dbl_car X i
          have hr : 0 ≤ el U i ∧ el U i < 65536 := by rw [eU]; omega
          have HU := Lib.hid hU
          have EU := Lib.hid eU
          clear hU eU
          go_wp2
          go_roundw
          case rel =>
            obtain ⟨s1, s2⟩ := dbl_step X i
            have hn := (HU.out ▸ hO.out).set 0 (.cells (ints .i64 (dblD X (i + 1))) 3) rfl
            refine ⟨i + 1, 2 * (X % 65536 ^ (i + 1)) / 65536 ^ (i + 1), by omega, by go_num, ?_, Lib.hid rfl, Lib.hid ?_⟩
            · rw [EU.out, hu.out, ← s2]; congr 1
            · have e : U.set i (((u : Int) + 2 * el U i) % 65536) = dblD X (i + 1) := by
                rw [← dblD_set X i hlt, ← HU.out, ← s1, EU.out, hu.out]; congr 1
              rw [e]; exact hn
          case measure => simp [intOf]; omega
        · obtain rfl : i = 17 := by omega
          have hd2 : decide ((17 : Int) < 17) = false := by decide
          go_wp2_with fail
          go_roundw
          case rel =>
            refine ⟨k + 1, x - 1, Lib.hid (by have := hkx.out; omega), by go_num, Lib.hid ?_⟩
            have hn := hO.out
            rw [dblD_full, HX.out] at hn
            rw [Nat.pow_succ, ← Nat.mul_assoc, Nat.mul_comm _ 2]
            exact hn
          case measure => simp [intOf]; omega
    · obtain rfl : x = 0 := by omega
      have hd : decide ((0 : Int) < 0) = false := by decide
      obtain rfl : k = n := by have := hkx.out; omega
      go_wp2_with fail
      go_ret
      exact ⟨b, rfl, hO.out.nth 0 rfl, hO.out.low 0 rfl, hO.out.fr⟩
end
end Go.Proofs.Ytakhmmnklkckpaa
