/- The document's numbers: fold, the plain part: sums of digits. -/
import Derived.Test.YtakhmmnklkckpaaRfA
namespace Go.Proofs.Ytakhmmnklkckpaa
open Go.RowKit Go.Dr

/-- The sum of the first digits. -/
def pre (l : List Int) : Nat → Int
  | 0 => 0
  | i + 1 => pre l i + el l i * 65536 ^ i
theorem B_pos (i : Nat) : (0 : Int) < 65536 ^ i := Int.pow_pos (by decide)
theorem pre_nonneg {l : List Int} (h : ∀ i, 0 ≤ el l i) : ∀ k, 0 ≤ pre l k
  | 0 => Int.le_refl 0
  | k + 1 => by
    have := pre_nonneg h k
    have := Int.mul_nonneg (h k) (Int.le_of_lt (B_pos k))
    unfold pre; omega
theorem pre_congr {l m : List Int} : ∀ k, (∀ i, i < k → el l i = el m i) → pre l k = pre m k
  | 0, _ => rfl
  | k + 1, h => by rw [pre, pre, pre_congr k (fun i hi => h i (by omega)), h k (by omega)]
theorem el_out (l : List Int) (i : Nat) (h : l.length ≤ i) : el l i = 0 := by simp [el, h]
theorem pre_out (l : List Int) (k : Nat) (h : l.length ≤ k) : pre l k = pre l l.length := by
  obtain ⟨d, rfl⟩ : ∃ d, k = l.length + d := ⟨k - l.length, by omega⟩
  induction d with
  | zero => rfl
  | succ d ih =>
    rw [show l.length + (d + 1) = l.length + d + 1 from rfl, pre, ih (by omega), el_out l _ (by omega), Int.zero_mul, Int.add_zero]
theorem pre_set (l : List Int) (j : Nat) (hj : j < l.length) (x : Int) : ∀ k, pre (l.set j (el l j + x)) k = pre l k + if j < k then x * 65536 ^ j else 0
  | 0 => by simp [pre]
  | k + 1 => by
    rw [pre, pre_set l j hj x k, el_set _ _ _ _ hj, pre]
    by_cases h1 : j = k
    · subst h1
      rw [if_pos rfl, if_neg (by omega), if_pos (by omega), Int.add_mul]; omega
    · rw [if_neg h1]
      by_cases h2 : j < k
      · rw [if_pos h2, if_pos (by omega)]; omega
      · rw [if_neg h2, if_neg (by omega)]; omega
/-- The digit that comes out at j. -/
def dg (l : List Int) (j : Nat) : Int := pre l (j + 1) / 65536 ^ j % 65536
theorem carry_add (l : List Int) (i : Nat) : pre l i / 65536 ^ i + el l i = pre l (i + 1) / 65536 ^ i := by
  rw [pre, Int.add_mul_ediv_right _ _ (by have := B_pos i; omega)]
theorem carry_next (l : List Int) (i : Nat) : pre l (i + 1) / 65536 ^ i / 65536 = pre l (i + 1) / 65536 ^ (i + 1) := by
  rw [Int.ediv_ediv_of_nonneg (Int.le_of_lt (B_pos i)), Int.pow_succ]
theorem carry_lt {l : List Int} (h : ∀ i, 0 ≤ el l i ∧ el l i ≤ 1099511627776) : ∀ i, 0 ≤ pre l i / 65536 ^ i ∧ pre l i / 65536 ^ i ≤ 1099511627776
  | 0 => by simp [pre]
  | i + 1 => by
    have ih := carry_lt h i
    have h1 := carry_add l i
    have h2 := carry_next l i
    have := h i
    omega
theorem pre_more (l : List Int) (i : Nat) : ∀ d, ∃ y : Int, pre l (i + d) = pre l i + 65536 ^ i * y
  | 0 => ⟨0, by simp⟩
  | d + 1 => by
    obtain ⟨y, hy⟩ := pre_more l i d
    refine ⟨y + el l (i + d) * 65536 ^ d, ?_⟩
    rw [show i + (d + 1) = i + d + 1 from rfl, pre, hy, Int.pow_add]
    grind
theorem dg_all (l : List Int) (j m : Nat) (h : j < m) : dg l j = pre l m / 65536 ^ j % 65536 := by
  obtain ⟨d, rfl⟩ : ∃ d, m = j + 1 + d := ⟨m - (j + 1), by omega⟩
  obtain ⟨y, hy⟩ := pre_more l (j + 1) d
  rw [dg, hy, Int.pow_succ, Int.mul_assoc, Int.add_mul_ediv_left _ _ (by have := B_pos j; omega), Int.add_mul_emod_self_left]
/-- So many digits of a number. -/
def digN (V : Nat) (m : Nat) : List Int := (List.range m).map fun j => ((V / 65536 ^ j % 65536 : Nat) : Int)
theorem length_digN (V m : Nat) : (digN V m).length = m := by simp [digN]
theorem el_digN (V m j : Nat) : el (digN V m) j = if j < m then ((V / 65536 ^ j % 65536 : Nat) : Int) else 0 := by
  split
  · rw [digN, el_map_range _ _ _ (by assumption)]
  · exact el_out _ _ (by rw [length_digN]; omega)
theorem digN_succ (V m : Nat) : digN V m ++ [((V / 65536 ^ m % 65536 : Nat) : Int)] = digN V (m + 1) := by simp [digN, List.range_succ]
theorem el_digN_lt (V m j : Nat) : 0 ≤ el (digN V m) j ∧ el (digN V m) j < 65536 := by rw [el_digN]; split <;> omega
theorem pre_digN (V m : Nat) : ∀ k, k ≤ m → pre (digN V m) k = ((V % 65536 ^ k : Nat) : Int)
  | 0, _ => by simp [pre, Nat.mod_one]
  | k + 1, h => by
    rw [pre, pre_digN V m k (by omega), el_digN, if_pos (by omega), Nat.pow_succ, Nat.mod_mul, Int.natCast_add, Int.natCast_mul, Int.natCast_pow]
    grind
/-- What comes out is the number's digits. -/
theorem dg_digN {l : List Int} (h : ∀ i, 0 ≤ el l i) (m : Nat) : (List.range m).map (dg l) = digN (pre l m).toNat m := by
  refine List.map_congr_left fun j hj => ?_
  have hj' := List.mem_range.1 hj
  rw [dg_all l j m hj', Int.natCast_emod, Int.natCast_ediv, Int.natCast_pow, Int.toNat_of_nonneg (pre_nonneg h m)]
  rfl
/-- Digits from 16 on count 38 times. -/
def eF (l : List Int) (k j : Nat) : Int := (if j < k then el l j else 0) + (if j + 16 < k then 38 * el l (j + 16) else 0)
theorem eF_lo (l : List Int) (k : Nat) (h : k < 16) : (List.range 16).map (eF l (k + 1)) = ((List.range 16).map (eF l k)).set k (el ((List.range 16).map (eF l k)) k + el l k) := by
  apply el_ext
  · simp
  · intro j hj
    have hj' : j < 16 := by simpa using hj
    rw [el_set _ _ _ _ (by simp; omega), el_map_range _ _ _ hj', el_map_range _ _ _ h, el_map_range _ _ _ hj']
    unfold eF
    by_cases hjk : k = j
    · subst hjk
      rw [if_pos rfl, if_pos (by omega), if_neg (by omega), if_neg (by omega), if_neg (by omega)]; omega
    · rw [if_neg hjk]
      congr 1
      · by_cases h2 : j < k
        · rw [if_pos h2, if_pos (by omega)]
        · rw [if_neg h2, if_neg (by omega)]
      · rw [if_neg (by omega), if_neg (by omega)]
theorem eF_hi (l : List Int) (k : Nat) (h1 : 16 ≤ k) (h2 : k < 32) : (List.range 16).map (eF l (k + 1)) = ((List.range 16).map (eF l k)).set (k - 16) (el ((List.range 16).map (eF l k)) (k - 16) + 38 * el l k) := by
  apply el_ext
  · simp
  · intro j hj
    have hj' : j < 16 := by simpa using hj
    rw [el_set _ _ _ _ (by simp; omega), el_map_range _ _ _ hj', el_map_range _ _ _ (by omega), el_map_range _ _ _ hj']
    unfold eF
    by_cases hjk : k - 16 = j
    · subst hjk
      rw [if_pos rfl, if_pos (by omega), if_pos (by omega), if_pos (by omega), if_neg (by omega), show k - 16 + 16 = k from by omega]; omega
    · rw [if_neg hjk, if_pos (show j < k + 1 by omega), if_pos (show j < k by omega)]
      congr 1
      by_cases h3 : j + 16 < k
      · rw [if_pos h3, if_pos (show j + 16 < k + 1 by omega)]
      · rw [if_neg h3, if_neg (show ¬ j + 16 < k + 1 by omega)]
/-- The folded row: its bounds, its sum. -/
theorem eF_end (V m : Nat) (hm1 : 16 < m) (hm2 : m ≤ 32) (hV : V < 65536 ^ m) :
    (∀ i, 0 ≤ el ((List.range 16).map (eF (digN V m) m)) i ∧ el ((List.range 16).map (eF (digN V m) m)) i ≤ 1099511627776) ∧
    pre ((List.range 16).map (eF (digN V m) m)) 16 = ((V % 65536 ^ 16 + 38 * (V / 65536 ^ 16) : Nat) : Int) := by
  constructor
  · intro i
    by_cases hi : i < 16
    · rw [el_map_range _ _ _ hi, eF]
      have h1 := el_digN_lt V m i
      have h2 := el_digN_lt V m (i + 16)
      split <;> split <;> omega
    · rw [el_out _ _ (by simp; omega)]; omega
  · have key : ∀ k, k ≤ 16 → pre ((List.range 16).map (eF (digN V m) m)) k = ((V % 65536 ^ k + 38 * (V / 65536 ^ 16 % 65536 ^ k) : Nat) : Int) := by
      intro k
      induction k with
      | zero => intro _; simp [pre, Nat.mod_one]
      | succ k ih =>
        intro hk
        rw [pre, ih (by omega), el_map_range _ _ _ (by omega), eF, if_pos (by omega), el_digN, if_pos (by omega), el_digN]
        have e1 := Nat.mod_mul (x := V) (a := 65536 ^ k) (b := 65536)
        have e2 := Nat.mod_mul (x := V / 65536 ^ 16) (a := 65536 ^ k) (b := 65536)
        have e0 : 65536 ^ (k + 1) = 65536 ^ k * 65536 := Nat.pow_succ ..
        rw [e0, e1, e2]
        have e3 : V / 65536 ^ 16 / 65536 ^ k = V / 65536 ^ (k + 16) := by rw [Nat.div_div_eq_div_mul, ← Nat.pow_add, Nat.add_comm]
        rw [e3]
        by_cases hkm : k + 16 < m
        · rw [if_pos hkm, if_pos hkm]
          simp only [Int.natCast_add, Int.natCast_mul, Int.natCast_pow]
          grind
        · have hz : V / 65536 ^ (k + 16) = 0 := Nat.div_eq_of_lt (Nat.lt_of_lt_of_le hV (Nat.pow_le_pow_right (by omega) (by omega)))
          rw [if_neg hkm, hz]
          simp only [Int.natCast_add, Int.natCast_mul, Int.natCast_pow, Nat.zero_mod]
          grind
    rw [key 16 (by omega)]
    have : V / 65536 ^ 16 < 65536 ^ 16 := by
      rw [Nat.div_lt_iff_lt_mul (Nat.pow_pos (by omega)), ← Nat.pow_add]
      exact Nat.lt_of_lt_of_le hV (Nat.pow_le_pow_right (by omega) (by omega))
    rw [Nat.mod_eq_of_lt this]
/-- Modulo p nothing has turned. -/
theorem fold_mod (V : Nat) : (V % 65536 ^ 16 + 38 * (V / 65536 ^ 16)) % pN = V % pN := by
  have h := Nat.div_add_mod V (65536 ^ 16)
  have e : V = V % 65536 ^ 16 + 38 * (V / 65536 ^ 16) + pN * (2 * (V / 65536 ^ 16)) := by
    rw [show (65536 ^ 16 : Nat) = 115792089237316195423570985008687907853269984665640564039457584007913129639936 from by decide] at h ⊢
    unfold pN
    omega
  conv => rhs; rw [e]
  rw [Nat.add_mul_mod_self_left]
theorem digs_digN (V : Nat) : digs V = digN V 16 := rfl
end Go.Proofs.Ytakhmmnklkckpaa
