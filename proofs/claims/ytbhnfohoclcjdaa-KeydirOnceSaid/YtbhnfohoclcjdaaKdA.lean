/- Numbers and lists of bytes (octet). -/
import Derived.Test.YtbhnfohoclcjdaaGnC
import Derived.Test.YtbhnfohoclcjdaaGnE
import Derived.Test.YtbhnfohoclcjdaaGnF
import Derived.Test.YtbhnfohoclcjdaaKdL
import Derived.Test.YtbhnfohoclcjdaaChecked
import Derived.Laws.BitsAllLaws
set_option linter.unusedVariables false
set_option linter.unusedSimpArgs false
namespace Go.Proofs.Ytbhnfohoclcjdaa
open Go.RowKit Go.Dr Go.Kd
section
variable {w : World}
theorem or_add (s : Nat) (x y : Int) (z : Nat) (hx : 0 ≤ x) (hx2 : x < ((2 ^ s : Nat) : Int)) (hx3 : x < 18446744073709551616) (hy : y = (2 ^ s * z : Nat)) (hy2 : y < 18446744073709551616) : bits .or .u64 x y = x + y := by
  obtain ⟨a, rfl⟩ : ∃ a : Nat, x = a := ⟨x.toNat, by omega⟩
  subst hy
  rw [u64_or_nat a (2 ^ s * z) (by omega) (by omega), Nat.or_comm, ← Nat.two_pow_add_eq_or_of_lt (by omega)]
  omega
theorem or_comm64 (x y : Int) : bits .or .u64 x y = bits .or .u64 y x := by simp only [bits, BitVec.or_comm]
theorem getB_snoc (l : Bs) (c : Int) : getB (l ++ [c]) = getB l * 256 + c.toNat := by simp [getB]
theorem getB_lt : ∀ (n : Nat) (l : Bs), l.length = n → isBytes l → getB l < 256 ^ n := by
  intro n
  induction n with
  | zero => intro l h _; rw [List.eq_nil_of_length_eq_zero h]; decide
  | succ n ih =>
    intro l h hb
    rcases List.eq_nil_or_concat l with rfl | ⟨m, c, rfl⟩
    · cases h
    · rw [List.concat_eq_append] at h hb ⊢
      rw [getB_snoc]
      have h1 := ih m (by simpa using h) (fun x hx => hb x (by simp [hx]))
      have h2 := hb c (by simp)
      rw [Nat.pow_succ]
      omega
def getOk (n : Nat) : Bool := decide (1 ≤ n ∧ n ≤ 8)
def getV (B : Bs) : Nat := if getOk B.length then getB B else 0
theorem take_el {B : List Int} {i : Nat} (h : i < B.length) : B.take (i + 1) = B.take i ++ [el B i] := by
  rw [List.take_add_one, List.getElem?_eq_getElem h]
  simp [el, h]
theorem el_byte {B : List Int} (hB : isBytes B) {i : Nat} (h : i < B.length) : 0 ≤ el B i ∧ el B i < 256 := hB _ (by simp [el, h])
set_option maxRecDepth 100000 in
set_option maxHeartbeats 2000000 in
theorem get_f {p : Option Addr} {n cap : Nat} {B : List Int} (S : Sl .u8 w p n cap B) (hB : isBytes B) :
    Calls Try.prog 82 #[.slice p n cap] w fun e w' => e = .returned (.tuple #[.int .u64 (getV B), .bool (getOk n)]) ∧ Fr [] w w' := by
  have HS := Lib.hid S
  have HB := Lib.hid hB
  have HN := Lib.hid S.len
  clear S hB
  go_enter Try.func82, Try.ntmps82
  by_cases hn : 1 ≤ n ∧ n ≤ 8
  · have d1 : decide ((n : Int) < 1) = false := by rw [decide_eq_false_iff_not]; omega
    have d2 : decide ((n : Int) > 8) = false := by rw [decide_eq_false_iff_not]; omega
    go_wp2_with fail
    go_loopw [4, 17] (fun v iv wy => ∃ i : Nat, i ≤ n ∧ iv = .int .i64 (i : Int) ∧ v = .int .u64 (getB (B.take i) : Nat) ∧ Hid (OwB w [] wy)) (fun _ iv _ => (n - intOf iv).toNat)
    case atStart => exact ⟨0, by omega, rfl, rfl, Lib.hid (OwB.start w)⟩
    case round =>
      obtain ⟨i, hi9, rfl, rfl, hO⟩ := hrel
      by_cases hlt : i < n
      · have hd : decide ((i : Int) < (n : Int)) = true := by rw [decide_eq_true_eq]; omega
        obtain ⟨b, off, cs, T, fr, rfl, f0, hs, hc⟩ := (HS.out.fr0 hO.out.fr).at hlt
        obtain ⟨x, hx⟩ : ∃ x, x = getB (B.take i) := ⟨_, rfl⟩
        rw [← hx]
        have HX := Lib.hid hx
        clear hx
        have hil : i < B.length := by rw [HN.out]; exact hlt
        have hx8 : x < 72057594037927936 := by
          rw [HX.out]
          have h1 := getB_lt i (B.take i) (by rw [List.length_take]; omega) fun y hy => HB.out y (List.mem_of_mem_take hy)
          have h2 : (256 : Nat) ^ i ≤ 256 ^ 7 := Nat.pow_le_pow_right (by omega) (by omega)
          omega
        have hc2 := (Array.getElem?_eq_some_iff.1 hc).2
        have w1 : IntKind.u64.wrap ((x : Int) * 256) = ((x * 256 : Nat) : Int) := by
          rw [IntKind.wrap_u64, Int.emod_eq_of_lt] <;> omega
        go_wp2
        go_roundw
        case rel =>
          refine ⟨i + 1, by omega, by simp, ?_, hO⟩
          have hb := el_byte HB.out hil
          have w2 : IntKind.u64.wrap (el B i) = el B i := by
            rw [IntKind.wrap_u64, Int.emod_eq_of_lt] <;> omega
          rw [w2, or_comm64, or_add 8 (el B i) ((x : Int) * 256) x hb.1 (by omega) (by omega) (by omega) (by omega), take_el hil, getB_snoc, ← HX.out]
          congr 1
          omega
        case measure => simp [intOf]; omega
      · obtain rfl : i = n := by omega
        have hd : decide ((i : Int) < (i : Int)) = false := by simp
        go_wp2
        rw [List.take_of_length_le (by rw [HN.out]; exact Nat.le_refl _)]
        have e1 : getOk i = true := by unfold getOk; rw [decide_eq_true_eq]; exact hn
        have e2 : getV B = getB B := by unfold getV; rw [HN.out, e1, if_pos rfl]
        rw [e1, e2]
        exact bodyPost_ret (results_tmp2 rfl _ _ _) rfl ⟨rfl, hO.out.fr⟩
  · have e1 : getOk n = false := by unfold getOk; rw [decide_eq_false_iff_not]; exact hn
    have e2 : getV B = 0 := by unfold getV; rw [HN.out, e1, if_neg (by simp)]
    rw [e1, e2]
    have HF := Lib.hid (Fr.refl [] w)
    by_cases h1 : n < 1
    · have d1 : decide ((n : Int) < 1) = true := by rw [decide_eq_true_eq]; omega
      go_wp2_with fail
      exact bodyPost_ret (results_tmp2 rfl _ _ _) rfl ⟨rfl, HF.out⟩
    · have d1 : decide ((n : Int) < 1) = false := by rw [decide_eq_false_iff_not]; omega
      have d2 : decide ((n : Int) > 8) = true := by rw [decide_eq_true_eq]; omega
      go_wp2_with fail
      exact bodyPost_ret (results_tmp2 rfl _ _ _) rfl ⟨rfl, HF.out⟩
end
end Go.Proofs.Ytbhnfohoclcjdaa
