/- Products of the document's digits: plain. -/
import Derived.Test.YtakhmmnklkckpaaScV
namespace Go.Proofs.Ytakhmmnklkckpaa
open Go.RowKit Go.Dr
def B16 : Int := 65536
theorem dig_set {l : List Int} (h : Dig l) (i : Nat) {x : Int} (hx : 0 ≤ x ∧ x < 65536) : Dig (l.set i x) := fun y hy => by
  rcases List.mem_or_eq_of_mem_set hy with hy | rfl
  · exact h y hy
  · exact hx
/-- The number of words. -/
def vD (l : List Int) : Nat → Int
  | 0 => 0
  | k + 1 => vD l k + el l k * B16 ^ k
theorem vD_set (l : List Int) (i : Nat) (x : Int) (h : i < l.length) : ∀ k, vD (l.set i x) k = if i < k then vD l k + (x - el l i) * B16 ^ i else vD l k
  | 0 => by simp [vD]
  | k + 1 => by
    rw [vD, vD, vD_set l i x h k, el_set _ _ _ _ h]
    by_cases h1 : i < k
    · rw [if_pos h1, if_neg (by omega), if_pos (by omega)]; omega
    · by_cases h2 : i = k
      · subst h2
        rw [if_neg h1, if_pos rfl, if_pos (by omega), Int.sub_mul]; omega
      · rw [if_neg h1, if_neg h2, if_neg (by omega)]
theorem vD_nonneg {l : List Int} (h : Dig l) : ∀ k, 0 ≤ vD l k
  | 0 => Int.le_refl 0
  | k + 1 => Int.add_nonneg (vD_nonneg h k) (Int.mul_nonneg (dig_el h k).1 (Int.pow_nonneg (by unfold B16; decide)))
/-- A row of products, added from i on. -/
def rowD (T : List Int) (x : Int) (Y : List Int) (i : Nat) : Nat → List Int × Int
  | 0 => (T, 0)
  | k + 1 => ((rowD T x Y i k).1.set (i + k) (((rowD T x Y i k).2 + el (rowD T x Y i k).1 (i + k) + x * el Y k) % B16), ((rowD T x Y i k).2 + el (rowD T x Y i k).1 (i + k) + x * el Y k) / B16)
/-- What is over, carried on. -/
def carD (p : List Int × Int) (k0 : Nat) : Nat → List Int × Int
  | 0 => p
  | j + 1 => ((carD p k0 j).1.set (k0 + j) (((carD p k0 j).2 + el (carD p k0 j).1 (k0 + j)) % B16), ((carD p k0 j).2 + el (carD p k0 j).1 (k0 + j)) / B16)
def mulD (X Y T : List Int) : Nat → List Int
  | 0 => T
  | i + 1 => (carD (rowD (mulD X Y T i) (el X i) Y i 17) (i + 17) (16 - i)).1
theorem length_rowD (T : List Int) (x : Int) (Y : List Int) (i : Nat) : ∀ k, (rowD T x Y i k).1.length = T.length
  | 0 => rfl
  | k + 1 => by rw [rowD, List.length_set, length_rowD T x Y i k]
theorem length_carD (p : List Int × Int) (k0 : Nat) : ∀ j, (carD p k0 j).1.length = p.1.length
  | 0 => rfl
  | k + 1 => by rw [carD, List.length_set, length_carD p k0 k]
theorem length_mulD (X Y T : List Int) : ∀ i, (mulD X Y T i).length = T.length
  | 0 => rfl
  | i + 1 => by rw [mulD, length_carD, length_rowD, length_mulD X Y T i]
theorem mod_rngD (s : Int) : 0 ≤ s % B16 ∧ s % B16 < B16 := by unfold B16; omega
theorem rowD_rng {T Y : List Int} {x : Int} (hT : Dig T) (hY : Dig Y) (hx : 0 ≤ x ∧ x < B16) (i : Nat) : ∀ k, Dig (rowD T x Y i k).1 ∧ 0 ≤ (rowD T x Y i k).2 ∧ (rowD T x Y i k).2 < B16
  | 0 => ⟨hT, Int.le_refl 0, by show (0 : Int) < B16; unfold B16; decide⟩
  | k + 1 => by
    obtain ⟨h1, h2, h3⟩ := rowD_rng hT hY hx i k
    have h4 := dig_el h1 (i + k)
    have h5 : 0 ≤ el Y k ∧ el Y k < B16 := dig_el hY k
    have h6 : 0 ≤ x * el Y k := Int.mul_nonneg hx.1 h5.1
    have h7 : x * el Y k ≤ (B16 - 1) * (B16 - 1) := Int.mul_le_mul (by omega) (by omega) h5.1 (by unfold B16; decide)
    refine ⟨dig_set h1 _ (mod_rngD _), ?_, ?_⟩
    · rw [rowD]; unfold B16 at *; simp only []; omega
    · rw [rowD]; unfold B16 at *; simp only []; omega
theorem carD_rng {p : List Int × Int} (h : Dig p.1 ∧ 0 ≤ p.2 ∧ p.2 < B16) (k0 : Nat) : ∀ j, Dig (carD p k0 j).1 ∧ 0 ≤ (carD p k0 j).2 ∧ (carD p k0 j).2 < B16
  | 0 => h
  | j + 1 => by
    obtain ⟨h1, h2, h3⟩ := carD_rng h k0 j
    have h4 := dig_el h1 (k0 + j)
    refine ⟨dig_set h1 _ (mod_rngD _), ?_, ?_⟩
    · rw [carD]; unfold B16 at *; simp only []; omega
    · rw [carD]; unfold B16 at *; simp only []; omega
theorem dig_mulD {X Y T : List Int} (hX : Dig X) (hY : Dig Y) (hT : Dig T) : ∀ i, Dig (mulD X Y T i)
  | 0 => hT
  | i + 1 => by rw [mulD]; exact (carD_rng (rowD_rng (dig_mulD hX hY hT i) hY (dig_el hX i) i 17) _ _).1
theorem rowD_val {T Y : List Int} {x : Int} {i : Nat} (lT : T.length = 33) : ∀ k, i + k ≤ 33 → vD (rowD T x Y i k).1 33 + (rowD T x Y i k).2 * B16 ^ (i + k) = vD T 33 + x * vD Y k * B16 ^ i
  | 0, _ => by simp [rowD, vD]
  | k + 1, h => by
    have ih := rowD_val (x := x) (Y := Y) (i := i) lT k (by omega)
    rw [rowD]
    simp only []
    rw [vD_set _ _ _ (by rw [length_rowD, lT]; omega), if_pos (by omega), show vD Y (k + 1) = vD Y k + el Y k * B16 ^ k from rfl]
    have hdm := Int.emod_add_mul_ediv ((rowD T x Y i k).2 + el (rowD T x Y i k).1 (i + k) + x * el Y k) B16
    have hp1 : B16 ^ (i + (k + 1)) = B16 ^ (i + k) * B16 := by rw [← Nat.add_assoc, Int.pow_succ]
    have hp2 : B16 ^ (i + k) = B16 ^ i * B16 ^ k := Int.pow_add ..
    rw [hp1]
    generalize ((rowD T x Y i k).2 + el (rowD T x Y i k).1 (i + k) + x * el Y k) % B16 = a at *
    generalize ((rowD T x Y i k).2 + el (rowD T x Y i k).1 (i + k) + x * el Y k) / B16 = b at *
    generalize B16 ^ (i + k) = P at *
    generalize B16 ^ i = Q at *
    generalize B16 ^ k = R at *
    generalize el (rowD T x Y i k).1 (i + k) = t at *
    generalize (rowD T x Y i k).2 = o at *
    generalize vD (rowD T x Y i k).1 33 = V at *
    clear hp1
    grobner
theorem carD_val {p : List Int × Int} {k0 : Nat} (lp : p.1.length = 33) : ∀ j, k0 + j ≤ 33 → vD (carD p k0 j).1 33 + (carD p k0 j).2 * B16 ^ (k0 + j) = vD p.1 33 + p.2 * B16 ^ k0
  | 0, _ => by simp [carD]
  | j + 1, h => by
    have ih := carD_val (p := p) (k0 := k0) lp j (by omega)
    rw [carD]
    simp only []
    rw [vD_set _ _ _ (by rw [length_carD, lp]; omega), if_pos (by omega)]
    have hdm := Int.emod_add_mul_ediv ((carD p k0 j).2 + el (carD p k0 j).1 (k0 + j)) B16
    have hp1 : B16 ^ (k0 + (j + 1)) = B16 ^ (k0 + j) * B16 := by rw [← Nat.add_assoc, Int.pow_succ]
    rw [hp1]
    generalize ((carD p k0 j).2 + el (carD p k0 j).1 (k0 + j)) % B16 = a at *
    generalize ((carD p k0 j).2 + el (carD p k0 j).1 (k0 + j)) / B16 = b at *
    generalize B16 ^ (k0 + j) = P at *
    generalize el (carD p k0 j).1 (k0 + j) = t at *
    generalize (carD p k0 j).2 = o at *
    generalize vD (carD p k0 j).1 33 = V at *
    clear hp1
    grobner
theorem vD_le {l : List Int} (h : Dig l) (k : Nat) : ∀ j, vD l k ≤ vD l (k + j)
  | 0 => Int.le_refl _
  | j + 1 => by
    have h1 := vD_le h k j
    have h2 : 0 ≤ el l (k + j) * B16 ^ (k + j) := Int.mul_nonneg (dig_el h _).1 (Int.pow_nonneg (by unfold B16; decide))
    show _ ≤ vD l (k + j) + el l (k + j) * B16 ^ (k + j)
    omega
theorem mulD_val {X Y T : List Int} (lT : T.length = 33) (hX : Dig X) (hY : Dig Y) (hT : Dig T) (hb : vD T 33 + vD X 16 * vD Y 17 < B16 ^ 33) : ∀ i, i ≤ 16 → vD (mulD X Y T i) 33 = vD T 33 + vD X i * vD Y 17
  | 0, _ => by simp [mulD, vD]
  | i + 1, h => by
    have ih := mulD_val lT hX hY hT hb i (by omega)
    have hW := dig_mulD hX hY hT i
    have h1 := rowD_val (T := mulD X Y T i) (x := el X i) (Y := Y) (i := i) (by rw [length_mulD, lT]) 17 (by omega)
    have hr := rowD_rng hW hY (dig_el hX i) i 17
    have h2 := carD_val (p := rowD (mulD X Y T i) (el X i) Y i 17) (k0 := i + 17) (by rw [length_rowD, length_mulD, lT]) (16 - i) (by omega)
    have hc := carD_rng hr (i + 17) (16 - i)
    have h3 := vD_nonneg hc.1 33
    have h4 := vD_le hX (i + 1) (16 - (i + 1))
    rw [show i + 1 + (16 - (i + 1)) = 16 from by omega] at h4
    have h5 := vD_nonneg hY 17
    have h6 := Int.mul_le_mul_of_nonneg_right h4 h5
    have h8 : i + 17 + (16 - i) = 33 := by omega
    rw [mulD]
    rw [h8] at h2
    have e : vD (carD (rowD (mulD X Y T i) (el X i) Y i 17) (i + 17) (16 - i)).1 33 + (carD (rowD (mulD X Y T i) (el X i) Y i 17) (i + 17) (16 - i)).2 * B16 ^ 33 = vD T 33 + vD X (i + 1) * vD Y 17 := by
      rw [h2, h1, ih, show vD X (i + 1) = vD X i + el X i * B16 ^ i from rfl]
      generalize B16 ^ i = Q
      grobner
    have h9 := hc.2.1
    generalize (carD (rowD (mulD X Y T i) (el X i) Y i 17) (i + 17) (16 - i)).2 = o at *
    generalize vD (carD (rowD (mulD X Y T i) (el X i) Y i 17) (i + 17) (16 - i)).1 33 = V at *
    have h10 : o = 0 := by
      rcases Int.lt_or_le 0 o with h | h
      · have : 1 * B16 ^ 33 ≤ o * B16 ^ 33 := Int.mul_le_mul_of_nonneg_right (by omega) (Int.pow_nonneg (by unfold B16; decide))
        omega
      · omega
    rw [h10] at e
    omega

theorem carD_stop {p : List Int × Int} (h : Dig p.1) (h0 : p.2 = 0) (k0 : Nat) : ∀ j, carD p k0 j = p
  | 0 => rfl
  | j + 1 => by
    rw [carD, carD_stop h h0 k0 j, h0]
    have hr := dig_el h (k0 + j)
    obtain ⟨T, c⟩ := p
    simp only at h0 hr ⊢
    subst h0
    rw [Int.zero_add, show el T (k0 + j) % B16 = el T (k0 + j) from Int.emod_eq_of_lt hr.1 hr.2, show el T (k0 + j) / B16 = 0 from Int.ediv_eq_zero_of_lt hr.1 hr.2]
    congr 1
    apply List.ext_getElem?
    intro q
    rw [List.getElem?_set]
    split
    · rename_i hq
      subst hq
      split
      · rename_i hlt
        simp [el, hlt]
      · rename_i hlt
        rw [List.getElem?_eq_none (by omega)]
    · rfl
theorem vD_gN : ∀ {l : List Int}, Dig l → vD l l.length = (gN l : Int) := by
  have key : ∀ (l : List Int) (k : Nat), Dig l → k ≤ l.length → vD l k + B16 ^ k * (gN (l.drop k) : Int) = (gN l : Int) := by
    intro l k hl
    induction k with
    | zero => intro _; simp [vD]
    | succ k ih =>
      intro h
      have h1 := ih (by omega)
      rw [gN_drop l k (by omega)] at h1
      have hr := dig_el hl k
      rw [Int.natCast_add, Int.natCast_mul, Int.toNat_of_nonneg hr.1] at h1
      rw [← h1, show vD l (k + 1) = vD l k + el l k * B16 ^ k from rfl, Int.pow_succ]
      have e : ((65536 : Nat) : Int) = B16 := rfl
      rw [e]
      generalize B16 ^ k = P
      generalize ((gN (l.drop (k + 1)) : Nat) : Int) = G
      grobner
  intro l hl
  have h := key l l.length hl (Nat.le_refl _)
  rw [List.drop_length, gN] at h
  simpa using h
theorem vD_more {l : List Int} : ∀ j, vD l (l.length + j) = vD l l.length
  | 0 => rfl
  | j + 1 => by
    have h := vD_more (l := l) j
    show vD l (l.length + j) + el l (l.length + j) * B16 ^ (l.length + j) = _
    rw [h, show el l (l.length + j) = 0 from by simp [el]]
    omega
end Go.Proofs.Ytakhmmnklkckpaa
