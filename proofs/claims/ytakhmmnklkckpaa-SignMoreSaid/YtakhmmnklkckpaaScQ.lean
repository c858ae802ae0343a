/- Products of words, as the code makes them. -/
import Derived.Test.YtakhmmnklkckpaaScP
namespace Go.Proofs.Ytakhmmnklkckpaa
open Go.RowKit Go.Dr
/-- The number of words. -/
def vM (l : List Int) : Nat → Int
  | 0 => 0
  | k + 1 => vM l k + el l k * M64 ^ k
theorem vM_set (l : List Int) (i : Nat) (x : Int) (h : i < l.length) : ∀ k, vM (l.set i x) k = if i < k then vM l k + (x - el l i) * M64 ^ i else vM l k
  | 0 => by simp [vM]
  | k + 1 => by
    rw [vM, vM, vM_set l i x h k, el_set _ _ _ _ h]
    by_cases h1 : i < k
    · rw [if_pos h1, if_neg (by omega), if_pos (by omega)]; omega
    · by_cases h2 : i = k
      · subst h2
        rw [if_neg h1, if_pos rfl, if_pos (by omega), Int.sub_mul]; omega
      · rw [if_neg h1, if_neg h2, if_neg (by omega)]
theorem vM_nonneg {l : List Int} (h : Wrd l) : ∀ k, 0 ≤ vM l k
  | 0 => Int.le_refl 0
  | k + 1 => Int.add_nonneg (vM_nonneg h k) (Int.mul_nonneg (wrd_el h k).1 (Int.pow_nonneg (by unfold M64; decide)))
/-- A row of products, added from i on. -/
def rowP (T : List Int) (x : Int) (Y : List Int) (i : Nat) : Nat → List Int × Int
  | 0 => (T, 0)
  | k + 1 => ((rowP T x Y i k).1.set (i + k) ((el (rowP T x Y i k).1 (i + k) + x * el Y k + (rowP T x Y i k).2) % M64), (el (rowP T x Y i k).1 (i + k) + x * el Y k + (rowP T x Y i k).2) / M64)
/-- What is over, carried on. -/
def carP (p : List Int × Int) (k0 : Nat) : Nat → List Int × Int
  | 0 => p
  | j + 1 => ((carP p k0 j).1.set (k0 + j) ((el (carP p k0 j).1 (k0 + j) + (carP p k0 j).2) % M64), (el (carP p k0 j).1 (k0 + j) + (carP p k0 j).2) / M64)
def mulW (X Y T : List Int) : Nat → List Int
  | 0 => T
  | i + 1 => (carP (rowP (mulW X Y T i) (el X i) Y i 4) (i + 4) (4 - i)).1
theorem length_rowP (T : List Int) (x : Int) (Y : List Int) (i : Nat) : ∀ k, (rowP T x Y i k).1.length = T.length
  | 0 => rfl
  | k + 1 => by rw [rowP, List.length_set, length_rowP T x Y i k]
theorem length_carP (p : List Int × Int) (k0 : Nat) : ∀ j, (carP p k0 j).1.length = p.1.length
  | 0 => rfl
  | k + 1 => by rw [carP, List.length_set, length_carP p k0 k]
theorem length_mulW (X Y T : List Int) : ∀ i, (mulW X Y T i).length = T.length
  | 0 => rfl
  | i + 1 => by rw [mulW, length_carP, length_rowP, length_mulW X Y T i]
theorem mod_rng (s : Int) : 0 ≤ s % M64 ∧ s % M64 < M64 := by unfold M64; omega
theorem rowP_rng {T Y : List Int} {x : Int} (hT : Wrd T) (hY : Wrd Y) (hx : 0 ≤ x ∧ x < M64) (i : Nat) : ∀ k, Wrd (rowP T x Y i k).1 ∧ 0 ≤ (rowP T x Y i k).2 ∧ (rowP T x Y i k).2 < M64
  | 0 => ⟨hT, Int.le_refl 0, by show (0 : Int) < M64; unfold M64; decide⟩
  | k + 1 => by
    obtain ⟨h1, h2, h3⟩ := rowP_rng hT hY hx i k
    have h4 := wrd_el h1 (i + k)
    have h5 := wrd_el hY k
    have h6 : 0 ≤ x * el Y k := Int.mul_nonneg hx.1 h5.1
    have h7 : x * el Y k ≤ (M64 - 1) * (M64 - 1) := Int.mul_le_mul (by omega) (by omega) h5.1 (by unfold M64; decide)
    refine ⟨wrd_set h1 _ (mod_rng _), ?_, ?_⟩
    · rw [rowP]; unfold M64 at *; simp only []; omega
    · rw [rowP]; unfold M64 at *; simp only []; omega
theorem carP_rng {p : List Int × Int} (h : Wrd p.1 ∧ 0 ≤ p.2 ∧ p.2 < M64) (k0 : Nat) : ∀ j, Wrd (carP p k0 j).1 ∧ 0 ≤ (carP p k0 j).2 ∧ (carP p k0 j).2 < M64
  | 0 => h
  | j + 1 => by
    obtain ⟨h1, h2, h3⟩ := carP_rng h k0 j
    have h4 := wrd_el h1 (k0 + j)
    refine ⟨wrd_set h1 _ (mod_rng _), ?_, ?_⟩
    · rw [carP]; unfold M64 at *; simp only []; omega
    · rw [carP]; unfold M64 at *; simp only []; omega
theorem wrd_mulW {X Y T : List Int} (hX : Wrd X) (hY : Wrd Y) (hT : Wrd T) : ∀ i, Wrd (mulW X Y T i)
  | 0 => hT
  | i + 1 => by rw [mulW]; exact (carP_rng (rowP_rng (wrd_mulW hX hY hT i) hY (wrd_el hX i) i 4) _ _).1
theorem rowP_val {T Y : List Int} {x : Int} {i : Nat} (lT : T.length = 8) : ∀ k, i + k ≤ 8 → vM (rowP T x Y i k).1 8 + (rowP T x Y i k).2 * M64 ^ (i + k) = vM T 8 + x * vM Y k * M64 ^ i
  | 0, _ => by simp [rowP, vM]
  | k + 1, h => by
    have ih := rowP_val (x := x) (Y := Y) (i := i) lT k (by omega)
    rw [rowP]
    simp only []
    rw [vM_set _ _ _ (by rw [length_rowP, lT]; omega), if_pos (by omega), show vM Y (k + 1) = vM Y k + el Y k * M64 ^ k from rfl]
    have hdm := Int.emod_add_mul_ediv (el (rowP T x Y i k).1 (i + k) + x * el Y k + (rowP T x Y i k).2) M64
    have hp1 : M64 ^ (i + (k + 1)) = M64 ^ (i + k) * M64 := by rw [← Nat.add_assoc, Int.pow_succ]
    have hp2 : M64 ^ (i + k) = M64 ^ i * M64 ^ k := Int.pow_add ..
    rw [hp1]
    generalize (el (rowP T x Y i k).1 (i + k) + x * el Y k + (rowP T x Y i k).2) % M64 = a at *
    generalize (el (rowP T x Y i k).1 (i + k) + x * el Y k + (rowP T x Y i k).2) / M64 = b at *
    generalize M64 ^ (i + k) = P at *
    generalize M64 ^ i = Q at *
    generalize M64 ^ k = R at *
    generalize el (rowP T x Y i k).1 (i + k) = t at *
    generalize (rowP T x Y i k).2 = o at *
    generalize vM (rowP T x Y i k).1 8 = V at *
    clear hp1
    grobner
theorem carP_val {p : List Int × Int} {k0 : Nat} (lp : p.1.length = 8) : ∀ j, k0 + j ≤ 8 → vM (carP p k0 j).1 8 + (carP p k0 j).2 * M64 ^ (k0 + j) = vM p.1 8 + p.2 * M64 ^ k0
  | 0, _ => by simp [carP]
  | j + 1, h => by
    have ih := carP_val (p := p) (k0 := k0) lp j (by omega)
    rw [carP]
    simp only []
    rw [vM_set _ _ _ (by rw [length_carP, lp]; omega), if_pos (by omega)]
    have hdm := Int.emod_add_mul_ediv (el (carP p k0 j).1 (k0 + j) + (carP p k0 j).2) M64
    have hp1 : M64 ^ (k0 + (j + 1)) = M64 ^ (k0 + j) * M64 := by rw [← Nat.add_assoc, Int.pow_succ]
    rw [hp1]
    generalize (el (carP p k0 j).1 (k0 + j) + (carP p k0 j).2) % M64 = a at *
    generalize (el (carP p k0 j).1 (k0 + j) + (carP p k0 j).2) / M64 = b at *
    generalize M64 ^ (k0 + j) = P at *
    generalize el (carP p k0 j).1 (k0 + j) = t at *
    generalize (carP p k0 j).2 = o at *
    generalize vM (carP p k0 j).1 8 = V at *
    clear hp1
    grobner
theorem vM_le {l : List Int} (h : Wrd l) (k : Nat) : ∀ j, vM l k ≤ vM l (k + j)
  | 0 => Int.le_refl _
  | j + 1 => by
    have h1 := vM_le h k j
    have h2 : 0 ≤ el l (k + j) * M64 ^ (k + j) := Int.mul_nonneg (wrd_el h _).1 (Int.pow_nonneg (by unfold M64; decide))
    show _ ≤ vM l (k + j) + el l (k + j) * M64 ^ (k + j)
    omega
theorem mulW_val {X Y T : List Int} (lT : T.length = 8) (hX : Wrd X) (hY : Wrd Y) (hT : Wrd T) (hb : vM T 8 + vM X 4 * vM Y 4 < M64 ^ 8) : ∀ i, i ≤ 4 → vM (mulW X Y T i) 8 = vM T 8 + vM X i * vM Y 4
  | 0, _ => by simp [mulW, vM]
  | i + 1, h => by
    have ih := mulW_val lT hX hY hT hb i (by omega)
    have hW := wrd_mulW hX hY hT i
    have h1 := rowP_val (T := mulW X Y T i) (x := el X i) (Y := Y) (i := i) (by rw [length_mulW, lT]) 4 (by omega)
    have hr := rowP_rng hW hY (wrd_el hX i) i 4
    have h2 := carP_val (p := rowP (mulW X Y T i) (el X i) Y i 4) (k0 := i + 4) (by rw [length_rowP, length_mulW, lT]) (4 - i) (by omega)
    have hc := carP_rng hr (i + 4) (4 - i)
    have h3 := vM_nonneg hc.1 8
    have h4 := vM_le hX (i + 1) (4 - (i + 1))
    rw [show i + 1 + (4 - (i + 1)) = 4 from by omega] at h4
    have h5 := vM_nonneg hY 4
    have h6 := Int.mul_le_mul_of_nonneg_right h4 h5
    have h8 : i + 4 + (4 - i) = 8 := by omega
    rw [mulW]
    rw [h8] at h2
    have e : vM (carP (rowP (mulW X Y T i) (el X i) Y i 4) (i + 4) (4 - i)).1 8 + (carP (rowP (mulW X Y T i) (el X i) Y i 4) (i + 4) (4 - i)).2 * M64 ^ 8 = vM T 8 + vM X (i + 1) * vM Y 4 := by
      rw [h2, h1, ih, show vM X (i + 1) = vM X i + el X i * M64 ^ i from rfl]
      generalize M64 ^ i = Q
      grobner
    have h9 := hc.2.1
    generalize (carP (rowP (mulW X Y T i) (el X i) Y i 4) (i + 4) (4 - i)).2 = o at *
    generalize vM (carP (rowP (mulW X Y T i) (el X i) Y i 4) (i + 4) (4 - i)).1 8 = V at *
    have h10 : o = 0 := by
      rcases Int.lt_or_le 0 o with h | h
      · have : 1 * M64 ^ 8 ≤ o * M64 ^ 8 := Int.mul_le_mul_of_nonneg_right (by omega) (Int.pow_nonneg (by unfold M64; decide))
        omega
      · omega
    rw [h10] at e
    omega
theorem emod_mul256 (x : Int) {a : Int} (ha : 0 < a) : x % (a * 256) = x % a + a * (x / a % 256) := by
  have h1 := Int.emod_add_mul_ediv x a
  have h2 := Int.emod_add_mul_ediv (x / a) 256
  have h3 := Int.emod_nonneg x (Int.ne_of_gt ha)
  have h4 := Int.emod_lt_of_pos x ha
  have h5 : 0 ≤ x / a % 256 ∧ x / a % 256 < 256 := by omega
  have e : x = (x % a + a * (x / a % 256)) + (a * 256) * (x / a / 256) := by
    generalize x / a / 256 = q at *
    generalize x / a % 256 = r at *
    generalize x / a = z at *
    generalize x % a = y at *
    grobner
  have h6 : a * (x / a % 256) ≤ a * 255 := Int.mul_le_mul_of_nonneg_left (by omega) (Int.le_of_lt ha)
  have h7 : 0 ≤ a * (x / a % 256) := Int.mul_nonneg (Int.le_of_lt ha) h5.1
  have hs : 0 ≤ x % a + a * (x / a % 256) ∧ x % a + a * (x / a % 256) < a * 256 := by omega
  generalize x % a + a * (x / a % 256) = s at *
  rw [e, Int.add_mul_emod_self_left, Int.emod_eq_of_lt hs.1 hs.2]
/-- Words' bytes say their number. -/
theorem vB_obF {T : List Int} (hT : Wrd T) : ∀ q r, r < 8 → vB ((List.range (8 * q + r)).map (obF T)) = vM T q + el T q % 256 ^ r * M64 ^ q := by
  have hM : ∀ q : Nat, (256 : Int) ^ (8 * q) = M64 ^ q := fun q => by rw [Int.pow_mul]; rfl
  have step : ∀ q r, r < 8 → vB ((List.range (8 * q + r)).map (obF T)) = vM T q + el T q % 256 ^ r * M64 ^ q → vB ((List.range (8 * q + r + 1)).map (obF T)) = vM T q + el T q % 256 ^ (r + 1) * M64 ^ q := by
    intro q r hr h
    have h1 := wrd_el hT q
    rw [vB_map, h, obF, show (8 * q + r) / 8 = q from by omega, show (8 * q + r) % 8 = r from by omega, Int.pow_add, hM, show (2 : Int) ^ (r * 8) = 256 ^ r from by rw [Nat.mul_comm, Int.pow_mul]; rfl]
    have e : el T q % 256 ^ (r + 1) = el T q % 256 ^ r + 256 ^ r * (el T q / 256 ^ r % 256) := by
      rw [Int.pow_succ]
      exact emod_mul256 _ (Int.pow_pos (by decide))
    rw [e]
    generalize M64 ^ q = Q
    grobner
  intro q
  induction q with
  | zero =>
    intro r
    induction r with
    | zero => intro _; simp [vB, vM, Int.emod_one]
    | succ r ih => intro hr; exact step 0 r (by omega) (ih (by omega))
  | succ q ih =>
    intro r
    induction r with
    | zero =>
      intro _
      have h7 := step q 7 (by omega) (ih 7 (by omega))
      have h1 := wrd_el hT q
      rw [show 8 * (q + 1) + 0 = 8 * q + 7 + 1 from by omega, h7, show (7 : Nat) + 1 = 8 from rfl, show (256 : Int) ^ 8 = M64 from rfl, Int.emod_eq_of_lt h1.1 h1.2]
      simp [vM, Int.emod_one]
    | succ r ih2 => intro hr; exact step (q + 1) r (by omega) (ih2 (by omega))
theorem vB_wide {T : List Int} (hT : Wrd T) (n : Nat) : vB ((List.range (8 * n)).map (obF T)) = vM T n := by
  have := vB_obF hT n 0 (by omega)
  simpa [Int.emod_one] using this
end Go.Proofs.Ytakhmmnklkckpaa
