/- The numbers modulo p = 2^255 - 19, as Fin p; from whole numbers to them. p = 2^255 - 19 is prime (a chain of certificates); Fermat's little theorem; powers modulo n, reckoned. The field of p: no zero divisors, inverses, roots. The curve x^2 y^2 = D (x^2 + y^2 - 1), D no square: its points are a commutative group. The group of the points of x^2 y^2 = D (x^2 + y^2 - 1), D no square; multiples. The ladder by itself: what the document's steps and the code's give, up to a factor. The ladder on the curve: it gives a multiple's number; so two ladders may be turned round. The ladder on the curve: multiples of a point. Two ladders may be turned round. The ladder reckoned: on whole numbers below p. -/
import Derived.KernelRfl
namespace Go.Proofs.Ytakhmmnklkckpaa
abbrev Fp : Type := Fin 57896044618658097711785492504343953926634992332820282019728792003956564819949
def prI : Int := 57896044618658097711785492504343953926634992332820282019728792003956564819949
/-- A whole number modulo p. -/
def toFp (n : Int) : Fp := ⟨(n % prI).toNat, by have := Int.emod_nonneg n (show prI ≠ 0 by decide); have := Int.emod_lt_of_pos n (show 0 < prI by decide); unfold prI at *; omega⟩
theorem val_toFp (n : Int) : ((toFp n).val : Int) = n % prI := Int.toNat_of_nonneg (Int.emod_nonneg n (by decide))
theorem toFp_eq {x y : Int} (h : x % prI = y % prI) : toFp x = toFp y := by
  apply Fin.ext
  have h1 := val_toFp x
  have h2 := val_toFp y
  omega
theorem toFp_val (x : Fp) : toFp (x.val : Int) = x := by
  apply Fin.ext
  have h := val_toFp (x.val : Int)
  have := x.isLt
  unfold prI at h
  omega
theorem fp_ext {x y : Fp} (h : (x.val : Int) = y.val) : x = y := Fin.ext (by omega)
theorem val_addF (x y : Fp) : ((x + y).val : Int) = ((x.val : Int) + y.val) % prI := by
  rw [Fin.val_add]; unfold prI; omega
theorem val_mulF (x y : Fp) : ((x * y).val : Int) = ((x.val : Int) * y.val) % prI := by
  rw [Fin.val_mul, Int.natCast_emod, Int.natCast_mul]; rfl
theorem val_negF (x : Fp) : ((-x).val : Int) = (-(x.val : Int)) % prI := by
  rw [Fin.val_neg']
  have := x.isLt
  unfold prI; omega
theorem val_subF (x y : Fp) : ((x - y).val : Int) = ((x.val : Int) - y.val) % prI := by
  rw [Fin.val_sub]
  have := y.isLt
  unfold prI; omega
theorem toFp_add (x y : Int) : toFp (x + y) = toFp x + toFp y := fp_ext (by rw [val_addF, val_toFp, val_toFp, val_toFp, ← Int.add_emod])
theorem toFp_mul (x y : Int) : toFp (x * y) = toFp x * toFp y := fp_ext (by rw [val_mulF, val_toFp, val_toFp, val_toFp, ← Int.mul_emod])
theorem toFp_sub (x y : Int) : toFp (x - y) = toFp x - toFp y := fp_ext (by rw [val_subF, val_toFp, val_toFp, val_toFp, ← Int.sub_emod])
theorem toFp_neg (x : Int) : toFp (-x) = -toFp x := by
  have := toFp_sub 0 x
  rw [Int.zero_sub] at this
  rw [this]
  have h0 : toFp 0 = 0 := by apply Fin.ext; rfl
  rw [h0]
  grind
theorem toFp_zero : toFp 0 = 0 := by apply Fin.ext; rfl
theorem toFp_one : toFp 1 = 1 := by apply Fin.ext; rfl
theorem toFp_eq_iff (x y : Int) : toFp x = toFp y ↔ x % prI = y % prI := ⟨fun h => by rw [← val_toFp, ← val_toFp, h], toFp_eq⟩
end Go.Proofs.Ytakhmmnklkckpaa
namespace Go.Proofs.Ytakhmmnklkckpaa

/-! ### Prime numbers -/
def Prime (n : Nat) : Prop := 2 ≤ n ∧ ∀ d, d ∣ n → d = 1 ∨ d = n
theorem Prime.dvd_mul {p a b : Nat} (hp : Prime p) (h : p ∣ a * b) : p ∣ a ∨ p ∣ b := by
  rcases hp.2 (Nat.gcd p a) (Nat.gcd_dvd_left p a) with hg | hg
  · exact Or.inr (Nat.Coprime.dvd_of_dvd_mul_left hg h)
  · exact Or.inl (hg ▸ Nat.gcd_dvd_right p a)
/-- The least divisor from d on. -/
theorem exists_prime_dvd : ∀ n, 2 ≤ n → ∃ r, Prime r ∧ r ∣ n := by
  intro n
  induction n using Nat.strongRecOn with
  | _ n ih =>
    intro hn
    by_cases hp : Prime n
    · exact ⟨n, hp, Nat.dvd_refl n⟩
    · have : ∃ d, d ∣ n ∧ d ≠ 1 ∧ d ≠ n := by
        apply Classical.byContradiction
        intro hc
        apply hp
        refine ⟨hn, fun d hd => ?_⟩
        apply Classical.byContradiction
        intro hne
        exact hc ⟨d, hd, fun h => hne (.inl h), fun h => hne (.inr h)⟩
      obtain ⟨d, hd, h1, h2⟩ := this
      have hle := Nat.le_of_dvd (by omega) hd
      have hd0 : d ≠ 0 := fun h => by subst h; have := Nat.eq_zero_of_zero_dvd hd; omega
      obtain ⟨r, hr, hrd⟩ := ih d (by omega) (by omega)
      exact ⟨r, hr, Nat.dvd_trans hrd hd⟩
theorem exists_small_prime {n : Nat} (hn : 2 ≤ n) (hp : ¬ Prime n) : ∃ r, Prime r ∧ r ∣ n ∧ r * r ≤ n := by
  have : ∃ d, d ∣ n ∧ d ≠ 1 ∧ d ≠ n := by
    apply Classical.byContradiction
    intro hc
    apply hp
    refine ⟨hn, fun d hd => ?_⟩
    apply Classical.byContradiction
    intro hne
    exact hc ⟨d, hd, fun h => hne (.inl h), fun h => hne (.inr h)⟩
  obtain ⟨d, ⟨e, he⟩, h1, h2⟩ := this
  have hd0 : d ≠ 0 := fun h => by subst h; omega
  have he0 : e ≠ 0 := fun h => by subst h; omega
  have he1 : e ≠ 1 := fun h => by subst h; omega
  have key : ∀ a b, n = a * b → 2 ≤ a → a ≤ b → ∃ r, Prime r ∧ r ∣ n ∧ r * r ≤ n := fun a b hab ha hle => by
    obtain ⟨r, hr, hra⟩ := exists_prime_dvd a ha
    refine ⟨r, hr, Nat.dvd_trans hra ⟨b, hab⟩, ?_⟩
    have := Nat.le_of_dvd (by omega) hra
    rw [hab]
    exact Nat.mul_le_mul this (by omega)
  rcases Nat.le_total d e with h | h
  · exact key d e he (by omega) h
  · exact key e d (by rw [he, Nat.mul_comm]) (by omega) h

/-! ### Fermat -/
def bin : Nat → Nat → Nat
  | _, 0 => 1
  | 0, _ + 1 => 0
  | n + 1, k + 1 => bin n k + bin n (k + 1)
theorem bin_gt : ∀ n k, n < k → bin n k = 0
  | 0, k + 1, _ => rfl
  | n + 1, k + 1, h => by rw [bin, bin_gt n k (by omega), bin_gt n (k + 1) (by omega)]
theorem bin_self : ∀ n, bin n n = 1
  | 0 => rfl
  | n + 1 => by rw [bin, bin_self n, bin_gt n (n + 1) (by omega)]
theorem bin_absorb : ∀ n k, (k + 1) * bin (n + 1) (k + 1) = (n + 1) * bin n k
  | 0, 0 => rfl
  | 0, k + 1 => by simp [bin]
  | n + 1, 0 => by
    have := bin_absorb n 0
    rw [bin]
    simp only [bin] at this ⊢
    omega
  | n + 1, k + 1 => by
    have h1 := bin_absorb n k
    have h2 := bin_absorb n (k + 1)
    rw [bin]
    have h3 : bin (n + 1) (k + 1) = bin n k + bin n (k + 1) := rfl
    have e : (k + 1 + 1) * (bin (n + 1) (k + 1) + bin (n + 1) (k + 1 + 1)) = (k + 1) * bin (n + 1) (k + 1) + bin (n + 1) (k + 1) + (k + 1 + 1) * bin (n + 1) (k + 1 + 1) := by
      rw [Nat.mul_add, Nat.add_mul (k + 1) 1, Nat.one_mul]
    rw [e, h1, h2, h3, Nat.add_mul (n + 1) 1, Nat.one_mul, Nat.mul_add]
    omega
/-- The sum of the first terms of (1 + a)^n. -/
def bsum (a n : Nat) : Nat → Nat
  | 0 => 0
  | m + 1 => bsum a n m + bin n m * a ^ m
theorem bsum_succ (a n : Nat) : ∀ m, bsum a (n + 1) (m + 1) = bsum a n (m + 1) + a * bsum a n m
  | 0 => by simp [bsum, bin]
  | m + 1 => by
    have ih := bsum_succ a n m
    rw [bsum, ih, bsum, bin, bsum, bsum, Nat.add_mul, Nat.mul_add, Nat.pow_succ]
    have e : a * (bin n m * a ^ m) = bin n m * (a ^ m * a) := by
      rw [Nat.mul_left_comm, Nat.mul_comm a]
    rw [e]
    omega
theorem bsum_all (a : Nat) : ∀ n, bsum a n (n + 1) = (a + 1) ^ n
  | 0 => by simp [bsum, bin]
  | n + 1 => by
    rw [bsum_succ, bsum, bin_gt n (n + 1) (by omega), bsum_all a n, Nat.zero_mul, Nat.add_zero, Nat.pow_succ, Nat.mul_add]
    rw [Nat.mul_comm a]; omega
theorem prime_bin {r k : Nat} (hr : Prime r) (h0 : 0 < k) (hk : k < r) : r ∣ bin r k := by
  obtain ⟨k, rfl⟩ : ∃ j, k = j + 1 := ⟨k - 1, by omega⟩
  obtain ⟨n, rfl⟩ : ∃ j, r = j + 1 := ⟨r - 1, by have := hr.1; omega⟩
  have h := bin_absorb n k
  rcases hr.dvd_mul (show n + 1 ∣ (k + 1) * bin (n + 1) (k + 1) from ⟨_, h⟩) with h | h
  · have := Nat.le_of_dvd (by omega) h; omega
  · exact h
theorem bsum_mod {r : Nat} (hr : Prime r) (a : Nat) : ∀ m, m + 1 ≤ r → bsum a r (m + 1) % r = 1 % r
  | 0, _ => by simp [bsum, bin]
  | m + 1, h => by
    have ih := bsum_mod hr a m (by omega)
    obtain ⟨c, hc⟩ := prime_bin hr (show 0 < m + 1 by omega) (by omega)
    rw [bsum, hc, Nat.mul_assoc, Nat.add_mul_mod_self_left, ih]
theorem fermat {r : Nat} (hr : Prime r) : ∀ a, a ^ r % r = a % r
  | 0 => by rw [Nat.zero_pow (by have := hr.1; omega)]
  | a + 1 => by
    have ih := fermat hr a
    have hr2 := hr.1
    rw [← bsum_all a r, bsum, bin_self, Nat.one_mul, Nat.add_mod, ih]
    have := bsum_mod hr a (r - 1) (by omega)
    rw [show r - 1 + 1 = r from by omega] at this
    rw [this, ← Nat.add_mod, Nat.add_comm]
theorem fermat' {r a : Nat} (hr : Prime r) (h : ¬ r ∣ a) : a ^ (r - 1) % r = 1 % r := by
  have hr2 := hr.1
  have hf := fermat hr a
  have h1 : a ^ r = a ^ (r - 1) * a := by rw [← Nat.pow_succ, show (r - 1).succ = r from by omega]
  have hle : 1 ≤ a ^ (r - 1) := Nat.one_le_iff_ne_zero.2 (fun h0 => h (by
    rcases Nat.pow_eq_zero.1 h0 with ⟨h0, _⟩
    rw [h0]; exact Nat.dvd_zero r))
  have hd : r ∣ (a ^ (r - 1) - 1) * a := by
    rw [Nat.sub_mul, Nat.one_mul, ← h1]
    have hle2 : a ≤ a ^ r := by rw [h1]; exact Nat.le_mul_of_pos_left a (by omega)
    exact Nat.dvd_of_mod_eq_zero (Nat.sub_mod_eq_zero_of_mod_eq hf)
  rcases hr.dvd_mul hd with h2 | h2
  · obtain ⟨c, hc⟩ := h2
    rw [show a ^ (r - 1) = 1 + r * c from by omega, Nat.add_mul_mod_self_left]
  · exact (h h2).elim

/-! ### Powers, reckoned -/
def mpow (m : Nat) : Nat → Nat → Nat → Nat → Nat
  | 0, acc, _, _ => acc
  | f + 1, acc, b, e => mpow m f (if e % 2 = 1 then acc * b % m else acc) (b * b % m) (e / 2)
theorem mpow_mod (m : Nat) : ∀ f acc b e, e < 2 ^ f → mpow m f acc b e % m = acc * b ^ e % m
  | 0, acc, b, e, h => by
    have : e = 0 := by omega
    subst this; simp [mpow]
  | f + 1, acc, b, e, h => by
    have ih := mpow_mod m f (if e % 2 = 1 then acc * b % m else acc) (b * b % m) (e / 2) (by rw [Nat.pow_succ] at h; omega)
    rw [mpow, ih]
    have hb : (b * b % m) ^ (e / 2) % m = b ^ (2 * (e / 2)) % m := by rw [← Nat.pow_mod, Nat.pow_mul, Nat.pow_two]
    rw [Nat.mul_mod, hb, ← Nat.mul_mod]
    by_cases h1 : e % 2 = 1
    · rw [if_pos h1, Nat.mul_mod, Nat.mod_mod, ← Nat.mul_mod, Nat.mul_assoc, ← Nat.pow_succ', show (2 * (e / 2)).succ = e from by omega]
    · rw [if_neg h1, show 2 * (e / 2) = e from by omega]
theorem pow_mod_of {m f b e v : Nat} (h : mpow m f 1 b e = v) (he : e < 2 ^ f) : b ^ e % m = v % m := by
  rw [← h, mpow_mod m f 1 b e he, Nat.one_mul]

/-! ### Certificates -/
theorem pow_gcd_one {r a : Nat} : ∀ x y, a ^ x % r = 1 % r → a ^ y % r = 1 % r → a ^ Nat.gcd x y % r = 1 % r := by
  intro x
  induction x using Nat.strongRecOn with
  | _ x ih =>
    intro y hx hy
    by_cases h0 : x = 0
    · subst h0; rw [Nat.gcd_zero_left]; exact hy
    · rw [Nat.gcd_rec]
      refine ih (y % x) (Nat.mod_lt _ (by omega)) x ?_ hx
      have e : a ^ y = (a ^ x) ^ (y / x) * a ^ (y % x) := by rw [← Nat.pow_mul, ← Nat.pow_add, Nat.div_add_mod]
      rw [e, Nat.mul_mod, Nat.pow_mod (a ^ x), hx, ← Nat.pow_mod, Nat.one_pow, ← Nat.mul_mod, Nat.one_mul] at hy
      exact hy
/-- n is prime, if q is, q goes into n - 1, and what is known of a. -/
theorem prime_of {n q a m : Nat} (hn : 2 ≤ n) (hq : Prime q) (hm : n - 1 = q * m) (h1 : a ^ (n - 1) % n = 1 % n) (h2 : Nat.gcd (a ^ m % n + n - 1) n = 1) (K : Nat)
    (hK : ∀ k, k ≤ K → 1 ≤ k → ¬ (k * q + 1 ∣ n)) (hsq : n < ((K + 1) * q + 1) * ((K + 1) * q + 1)) : Prime n := by
  apply Classical.byContradiction
  intro hp
  obtain ⟨r, hr, hrn, hrr⟩ := exists_small_prime hn hp
  have hr2 := hr.1
  have mod1 : ∀ x, x % n = 1 % n → x % r = 1 % r := fun x hx => by
    rw [← Nat.mod_mod_of_dvd x hrn, hx, Nat.mod_mod_of_dvd 1 hrn]
  have hna : ¬ r ∣ a := fun h => by
    have h3 := mod1 _ h1
    have : r ∣ a ^ (n - 1) := Nat.dvd_trans h ⟨a ^ (n - 2), by rw [← Nat.pow_succ', show (n - 2).succ = n - 1 from by omega]⟩
    rw [Nat.mod_eq_zero_of_dvd this, Nat.mod_eq_of_lt (by omega)] at h3
    omega
  have hf := fermat' hr hna
  have hg := pow_gcd_one (n - 1) (r - 1) (mod1 _ h1) hf
  -- q goes into r - 1
  have hqr : q ∣ r - 1 := by
    apply Classical.byContradiction
    intro hnq
    have hgm : Nat.gcd (n - 1) (r - 1) ∣ m := by
      have hd : Nat.gcd (n - 1) (r - 1) ∣ q * m := hm ▸ Nat.gcd_dvd_left _ _
      refine Nat.Coprime.dvd_of_dvd_mul_left ?_ hd
      rcases hq.2 (Nat.gcd (Nat.gcd (n - 1) (r - 1)) q) (Nat.gcd_dvd_right _ _) with h | h
      · exact h
      · exact (hnq (Nat.dvd_trans (h ▸ Nat.gcd_dvd_left _ _) (Nat.gcd_dvd_right _ _))).elim
    obtain ⟨c, hc⟩ := hgm
    have h3 : a ^ m % r = 1 % r := by rw [hc, Nat.pow_mul, Nat.pow_mod, hg, ← Nat.pow_mod, Nat.one_pow]
    have h4 : r ∣ a ^ m % n + n - 1 := by
      have e1 : a ^ m % n % r = 1 := by rw [Nat.mod_mod_of_dvd _ hrn, h3, Nat.mod_eq_of_lt (by omega)]
      obtain ⟨t, ht⟩ := hrn
      refine ⟨a ^ m % n / r + t, ?_⟩
      have := Nat.div_add_mod (a ^ m % n) r
      rw [Nat.mul_add, ← ht]
      omega
    have h5 := Nat.dvd_gcd h4 hrn
    rw [h2] at h5
    have := Nat.le_of_dvd (by omega) h5
    omega
  obtain ⟨k, hk⟩ := hqr
  have hk1 : 1 ≤ k := by
    rcases Nat.eq_zero_or_pos k with h | h
    · subst h; omega
    · exact h
  have hrk : r = k * q + 1 := by rw [Nat.mul_comm k q]; omega
  by_cases hle : k ≤ K
  · exact hK k hle hk1 (hrk ▸ hrn)
  · have : (K + 1) * q + 1 ≤ r := by rw [hrk]; exact Nat.add_le_add_right (Nat.mul_le_mul_right q (by omega)) 1
    have := Nat.mul_le_mul this this
    omega
/-- No number from 2 up to d goes into n. -/
def noDiv (n : Nat) : Nat → Bool
  | 0 => true
  | d + 1 => (d + 1 == 1 || n % (d + 1) != 0) && noDiv n d
theorem noDiv_spec (n : Nat) : ∀ d, noDiv n d = true → ∀ k, 2 ≤ k → k ≤ d → ¬ k ∣ n
  | 0, _, k, h2, hk => by omega
  | d + 1, h, k, h2, hk => by
    simp only [noDiv, Bool.and_eq_true, Bool.or_eq_true, beq_iff_eq, bne_iff_ne] at h
    rcases Nat.eq_or_lt_of_le hk with e | e
    · subst e
      intro hd
      rcases h.1 with h | h
      · omega
      · exact h (Nat.mod_eq_zero_of_dvd hd)
    · exact noDiv_spec n d h.2 k h2 (by omega)
theorem prime_by_trial {n d : Nat} (hn : 2 ≤ n) (h : noDiv n d = true) (hd : n < (d + 1) * (d + 1)) : Prime n := by
  apply Classical.byContradiction
  intro hp
  obtain ⟨r, hr, hrn, hrr⟩ := exists_small_prime hn hp
  by_cases hle : r ≤ d
  · exact noDiv_spec n d h r hr.1 hle hrn
  · have := Nat.mul_le_mul (show d + 1 ≤ r by omega) (show d + 1 ≤ r by omega)
    omega
/-- No k q + 1 goes into n, k from 1 to K. -/
def noStep (n q : Nat) : Nat → Bool
  | 0 => true
  | k + 1 => n % ((k + 1) * q + 1) != 0 && noStep n q k
theorem noStep_spec (n q : Nat) : ∀ K, noStep n q K = true → ∀ k, k ≤ K → 1 ≤ k → ¬ (k * q + 1 ∣ n)
  | 0, _, k, hk, h1 => by omega
  | K + 1, h, k, hk, h1 => by
    simp only [noStep, Bool.and_eq_true, bne_iff_ne] at h
    rcases Nat.eq_or_lt_of_le hk with e | e
    · subst e; exact fun hd => h.1 (Nat.mod_eq_zero_of_dvd hd)
    · exact noStep_spec n q K h.2 k (by omega) h1

theorem prime4 : Prime 8574133 := prime_by_trial (d := 2930) (by decide) (by kernel_rfl) (by decide)
/-- One link, with all that is reckoned. -/
theorem link {n q m v f K : Nat} (hn : 2 ≤ n) (hq : Prime q) (hm : (n - 1 == q * m) = true) (h1 : (mpow n f 1 2 (n - 1) == 1) = true) (hv : (mpow n f 1 2 m == v) = true) (h2 : (Nat.gcd (v % n + n - 1) n == 1) = true)
    (hf : (decide (n - 1 < 2 ^ f) && decide (m < 2 ^ f)) = true) (hK : noStep n q K = true) (hsq : decide (n < ((K + 1) * q + 1) * ((K + 1) * q + 1)) = true) : Prime n := by
  simp only [Bool.and_eq_true, decide_eq_true_eq, beq_iff_eq] at *
  refine prime_of (a := 2) (m := m) hn hq hm (pow_mod_of h1 hf.1) ?_ K (noStep_spec n q K hK) hsq
  rw [pow_mod_of hv hf.2]; exact h2
theorem prime3 : Prime 1919519569386763 := link (q := 8574133) (m := 223873314) (v := 1059928654987441) (f := 51) (K := 5) (by decide) prime4 (by kernel_rfl) (by kernel_rfl) (by kernel_rfl) (by kernel_rfl) (by kernel_rfl) (by kernel_rfl) (by kernel_rfl)
theorem prime2 : Prime 75445702479781427272750846543864801 := link (q := 1919519569386763) (m := 39304471641247389600) (v := 56747016255153332959347766392083459) (f := 116) (K := 143) (by decide) prime3 (by kernel_rfl) (by kernel_rfl) (by kernel_rfl) (by kernel_rfl) (by kernel_rfl) (by kernel_rfl) (by kernel_rfl)
theorem prime1 : Prime 74058212732561358302231226437062788676166966415465897661863160754340907 := link (q := 75445702479781427272750846543864801) (m := 981609426360740691344999861639072106) (v := 69490809710348678725736597923071784769591275419387514694139338586948360) (f := 236) (K := 3) (by decide) prime2 (by kernel_rfl) (by kernel_rfl) (by kernel_rfl) (by kernel_rfl) (by kernel_rfl) (by kernel_rfl) (by kernel_rfl)
theorem primeP : Prime 57896044618658097711785492504343953926634992332820282019728792003956564819949 := link (q := 74058212732561358302231226437062788676166966415465897661863160754340907) (m := 781764) (v := 427094198651976259540344842774561673889945192655078505504941250475370961481) (f := 255) (K := 0) (by decide) prime1 (by kernel_rfl) (by kernel_rfl) (by kernel_rfl) (by kernel_rfl) (by kernel_rfl) (by kernel_rfl) (by kernel_rfl)
#print axioms primeP
end Go.Proofs.Ytakhmmnklkckpaa
namespace Go.Proofs.Ytakhmmnklkckpaa

theorem mul_zero_or {x y : Fp} (h : x * y = 0) : x = 0 ∨ y = 0 := by
  have h1 := congrArg Fin.val h
  rw [Fin.val_mul] at h1
  have h2 : 57896044618658097711785492504343953926634992332820282019728792003956564819949 ∣ x.val * y.val := Nat.dvd_of_mod_eq_zero h1
  have key : ∀ z : Fp, 57896044618658097711785492504343953926634992332820282019728792003956564819949 ∣ z.val → z = 0 := fun z hz => by
    apply Fin.ext
    have hlt := z.isLt
    rcases Nat.eq_zero_or_pos z.val with h | h
    · exact h
    · have := Nat.le_of_dvd h hz; omega
  rcases primeP.dvd_mul h2 with h | h
  · exact .inl (key x h)
  · exact .inr (key y h)
/-- A power. -/
@[irreducible] def pw (x : Fp) (n : Nat) : Fp := x ^ n
theorem pw_zero (x : Fp) : pw x 0 = 1 := by unfold pw; grobner
theorem pw_succ (x : Fp) (n : Nat) : pw x (n + 1) = pw x n * x := by unfold pw; grobner
theorem pw_add (x : Fp) (m : Nat) : ∀ n, pw x (m + n) = pw x m * pw x n
  | 0 => by rw [pw_zero, Nat.add_zero]; grobner
  | n + 1 => by rw [← Nat.add_assoc, pw_succ, pw_add x m n, pw_succ]; grobner
theorem pw_mul (x : Fp) (m : Nat) : ∀ n, pw x (m * n) = pw (pw x m) n
  | 0 => by rw [Nat.mul_zero, pw_zero, pw_zero]
  | n + 1 => by rw [Nat.mul_succ, pw_add, pw_mul x m n, pw_succ]
theorem pw_mulF (x y : Fp) : ∀ n, pw (x * y) n = pw x n * pw y n
  | 0 => by rw [pw_zero, pw_zero, pw_zero]; grobner
  | n + 1 => by rw [pw_succ, pw_succ, pw_succ, pw_mulF x y n]; grobner
theorem pw_one : ∀ n, pw 1 n = 1
  | 0 => pw_zero 1
  | n + 1 => by rw [pw_succ, pw_one n]; grobner
theorem pw_oneE (x : Fp) : pw x 1 = x := by rw [show 1 = 0 + 1 from rfl, pw_succ, pw_zero]; grobner
theorem pw_two (x : Fp) : pw x 2 = x * x := by rw [show 2 = 1 + 1 from rfl, pw_succ, pw_oneE]
theorem pw_zeroF (n : Nat) (h : 0 < n) : pw 0 n = 0 := by
  obtain ⟨m, rfl⟩ : ∃ m, n = m + 1 := ⟨n - 1, by omega⟩
  rw [pw_succ]; grobner
theorem val_pw (x : Fp) : ∀ n, (pw x n).val = x.val ^ n % 57896044618658097711785492504343953926634992332820282019728792003956564819949
  | 0 => by rw [pw_zero]; rfl
  | n + 1 => by rw [pw_succ, Fin.val_mul, val_pw x n, Nat.pow_succ, Nat.mod_mul_mod]
/-- p - 1. -/
def pm1 : Nat := 57896044618658097711785492504343953926634992332820282019728792003956564819948
theorem pw_pm1 {x : Fp} (h : x ≠ 0) : pw x pm1 = 1 := by
  apply Fin.ext
  rw [val_pw]
  have hn : ¬ 57896044618658097711785492504343953926634992332820282019728792003956564819949 ∣ x.val := fun hd => by
    have hlt := x.isLt
    rcases Nat.eq_zero_or_pos x.val with h0 | h0
    · exact h (Fin.ext h0)
    · have := Nat.le_of_dvd h0 hd; omega
  have h1 := fermat' primeP hn
  rw [show 57896044618658097711785492504343953926634992332820282019728792003956564819949 - 1 = pm1 from by unfold pm1; omega] at h1
  rw [h1]; rfl
/-- p - 2. -/
def pm2 : Nat := 57896044618658097711785492504343953926634992332820282019728792003956564819947
theorem pm1_eq : pm1 = pm2 + 1 := by unfold pm1 pm2; omega
/-- The inverse; of 0 it is 0. -/
def inv (x : Fp) : Fp := pw x pm2
theorem pm2_pos : 0 < pm2 := by unfold pm2; omega
theorem inv_zero : inv 0 = 0 := pw_zeroF _ pm2_pos
theorem mul_inv {x : Fp} (h : x ≠ 0) : x * inv x = 1 := by
  have h1 := pw_pm1 h
  rw [pm1_eq, pw_succ] at h1
  rw [inv, ← h1]; grobner
theorem eq_of_mul {x y z : Fp} (hz : z ≠ 0) (h : x * z = y * z) : x = y := by
  have h1 : (x - y) * z = 0 := by grobner
  rcases mul_zero_or h1 with h2 | h2
  · grobner
  · exact (hz h2).elim
theorem zero_ne_one : (0 : Fp) ≠ 1 := by decide
theorem inv_of {x y : Fp} (h : x * y = 1) : inv x = y := by
  have hx : x ≠ 0 := fun h0 => zero_ne_one (by subst h0; rw [← h]; grobner)
  have h1 := mul_inv hx
  refine eq_of_mul hx ?_
  grobner
theorem ne_mul {x y : Fp} (hx : x ≠ 0) (hy : y ≠ 0) : x * y ≠ 0 := fun h => by
  rcases mul_zero_or h with h | h
  · exact hx h
  · exact hy h
/-! ### Roots -/
/-- (p - 1) / 2, (p - 1) / 4, (p + 3) / 8. -/
def pHalf : Nat := 28948022309329048855892746252171976963317496166410141009864396001978282409974
def pQuart : Nat := 14474011154664524427946373126085988481658748083205070504932198000989141204987
def pEight : Nat := 7237005577332262213973186563042994240829374041602535252466099000494570602494
theorem two_pHalf : pw 2 pHalf = -1 := by
  apply Fin.ext
  rw [val_pw]
  rw [show (2 : Fp).val = 2 from rfl]
  rw [pow_mod_of (m := 57896044618658097711785492504343953926634992332820282019728792003956564819949) (f := 256) (b := 2) (e := pHalf) (v := 57896044618658097711785492504343953926634992332820282019728792003956564819948) (by kernel_rfl) (by unfold pHalf; omega)]
  rfl
/-- A root of -1. -/
def im : Fp := pw 2 pQuart
theorem im_im : im * im = -1 := by
  rw [im, ← pw_add, show pQuart + pQuart = pHalf from by unfold pQuart pHalf; omega, two_pHalf]
theorem sq_pHalf {a : Fp} (h : a ≠ 0) : pw a pHalf = 1 ∨ pw a pHalf = -1 := by
  have h1 := pw_pm1 h
  rw [show pm1 = pHalf + pHalf from by unfold pm1 pHalf; omega, pw_add] at h1
  have h2 : (pw a pHalf - 1) * (pw a pHalf + 1) = 0 := by grobner
  rcases mul_zero_or h2 with h3 | h3
  · left; grobner
  · right; grobner
theorem one_ne_neg : (1 : Fp) ≠ -1 := by decide
/-- Squares. -/
def IsSq (a : Fp) : Prop := ∃ x, x * x = a
theorem isSq_zero : IsSq 0 := ⟨0, by decide⟩
theorem euler_of_sq {a : Fp} (ha : a ≠ 0) (h : IsSq a) : pw a pHalf = 1 := by
  obtain ⟨x, rfl⟩ := h
  have hx : x ≠ 0 := fun h0 => ha (by subst h0; decide)
  rw [← pw_two, ← pw_mul, show 2 * pHalf = pm1 from by unfold pm1 pHalf; omega]
  exact pw_pm1 hx
theorem root4 (a : Fp) : pw a pEight * pw a pEight * (pw a pEight * pw a pEight) = a * a * pw a pHalf := by
  rw [← pw_add, ← pw_add, show pEight + pEight + (pEight + pEight) = pHalf + 2 from by unfold pEight pHalf; omega, pw_add, pw_two]; grobner
theorem neg_eq_zero {x : Fp} (h : -x = 0) : x = 0 := by grobner
/-- With Euler's word, a root; without it there is none. -/
theorem root_cases (a : Fp) :
    (pw a pHalf = 1 ∨ a = 0) ∧ (pw a pEight * pw a pEight = a ∨ pw a pEight * pw a pEight = -a) ∨
    (pw a pHalf ≠ 1 ∧ a ≠ 0) ∧ pw a pEight * pw a pEight ≠ a ∧ pw a pEight * pw a pEight ≠ -a ∧ ¬ IsSq a := by
  by_cases ha : a = 0
  · subst ha
    left
    refine ⟨.inr rfl, .inl ?_⟩
    rw [pw_zeroF _ (by unfold pEight; omega)]; decide
  · rcases sq_pHalf ha with h | h
    · left
      refine ⟨.inl h, ?_⟩
      have h4 := root4 a
      rw [h] at h4
      have h5 : (pw a pEight * pw a pEight - a) * (pw a pEight * pw a pEight + a) = 0 := by grobner
      rcases mul_zero_or h5 with h6 | h6
      · left; grobner
      · right; grobner
    · right
      have h4 := root4 a
      have haa : a * a ≠ 0 := ne_mul ha ha
      have hne : a * a ≠ a * a * -1 := fun he => by
        have : a * a * (1 - -1) = 0 := by grobner
        rcases mul_zero_or this with h1 | h1
        · exact haa h1
        · exact absurd h1 (by decide)
      rw [h] at h4
      refine ⟨⟨fun h1 => one_ne_neg (h1.symm.trans h), ha⟩, fun h1 => hne (by rw [← h4, h1]), fun h1 => hne (by rw [← h4, h1]; grobner), fun hs => ?_⟩
      exact one_ne_neg ((euler_of_sq ha hs).symm.trans h)
end Go.Proofs.Ytakhmmnklkckpaa
namespace Go.Proofs.Ytakhmmnklkckpaa
section
variable {D x1 y1 x2 y2 x3 y3 : Fp}
theorem no_root (hD : ¬ IsSq D) {a b : Fp} (h : a * a = D * (b * b)) : b = 0 := by
  by_cases hb : b = 0
  · exact hb
  · refine absurd ⟨a * inv b, ?_⟩ hD
    have h1 := mul_inv hb
    obtain ⟨i, hi⟩ : ∃ i, i = inv b := ⟨_, rfl⟩
    rw [← hi] at h1 ⊢
    clear hi hD hb
    grobner
def OnC (D x y : Fp) : Prop := x * x * (y * y) = D * (x * x + y * y - 1)
theorem ne_zero_of (hD : ¬ IsSq D) : D ≠ 0 := fun h => hD (h ▸ isSq_zero)
theorem no_eps (hD : ¬ IsSq D) (h1 : OnC D x1 y1) (h2 : OnC D x2 y2) : (D + x1 * y1 * x2 * y2) * (D - x1 * y1 * x2 * y2) ≠ 0 := fun h => by
  unfold OnC at h1 h2
  have a1 : (D * x1 + x1 * y1 * x2 * y2 * y1) * (D * x1 + x1 * y1 * x2 * y2 * y1) = D * (x1 * y1 * (x2 + y2) * (x1 * y1 * (x2 + y2))) := by grobner
  have a2 : (D * x1 - x1 * y1 * x2 * y2 * y1) * (D * x1 - x1 * y1 * x2 * y2 * y1) = D * (x1 * y1 * (x2 - y2) * (x1 * y1 * (x2 - y2))) := by grobner
  have b1 := no_root hD a1
  have b2 := no_root hD a2
  have hd := ne_zero_of hD
  have e : D * D = 0 := by grobner
  rcases mul_zero_or e with e | e <;> exact hd e
theorem assoc_x (h1 : OnC D x1 y1) (h2 : OnC D x2 y2) (h3 : OnC D x3 y3) :
    ((x1 * y2 + y1 * x2) * (D - x1 * y1 * x2 * y2) * y3 + (y1 * y2 - x1 * x2) * (D + x1 * y1 * x2 * y2) * x3) * (D * D - x2 * y2 * x3 * y3 * (x2 * y2 * x3 * y3) + D * (x2 * y3 + y2 * x3) * (y2 * y3 - x2 * x3) * x1 * y1)
     = (x1 * ((y2 * y3 - x2 * x3) * (D + x2 * y2 * x3 * y3)) + y1 * ((x2 * y3 + y2 * x3) * (D - x2 * y2 * x3 * y3))) * (D * D - x1 * y1 * x2 * y2 * (x1 * y1 * x2 * y2) + D * (x1 * y2 + y1 * x2) * (y1 * y2 - x1 * x2) * x3 * y3) := by
  unfold OnC at h1 h2 h3
  grobner
theorem assoc_y (h1 : OnC D x1 y1) (h2 : OnC D x2 y2) (h3 : OnC D x3 y3) :
    ((y1 * y2 - x1 * x2) * (D + x1 * y1 * x2 * y2) * y3 - (x1 * y2 + y1 * x2) * (D - x1 * y1 * x2 * y2) * x3) * (D * D - x2 * y2 * x3 * y3 * (x2 * y2 * x3 * y3) - D * (x2 * y3 + y2 * x3) * (y2 * y3 - x2 * x3) * x1 * y1)
     = (y1 * ((y2 * y3 - x2 * x3) * (D + x2 * y2 * x3 * y3)) - x1 * ((x2 * y3 + y2 * x3) * (D - x2 * y2 * x3 * y3))) * (D * D - x1 * y1 * x2 * y2 * (x1 * y1 * x2 * y2) - D * (x1 * y2 + y1 * x2) * (y1 * y2 - x1 * x2) * x3 * y3) := by
  unfold OnC at h1 h2 h3
  grobner
theorem closed (h1 : OnC D x1 y1) (h2 : OnC D x2 y2) :
    D * D * ((x1 * y2 + y1 * x2) * (x1 * y2 + y1 * x2)) * (D * (y1 * y2 - x1 * x2) * (D * (y1 * y2 - x1 * x2))) = D * (D * (x1 * y2 + y1 * x2) * (D * (x1 * y2 + y1 * x2)) * ((D - x1 * y1 * x2 * y2) * (D - x1 * y1 * x2 * y2)) + D * (y1 * y2 - x1 * x2) * (D * (y1 * y2 - x1 * x2)) * ((D + x1 * y1 * x2 * y2) * (D + x1 * y1 * x2 * y2)) - (D + x1 * y1 * x2 * y2) * (D + x1 * y1 * x2 * y2) * ((D - x1 * y1 * x2 * y2) * (D - x1 * y1 * x2 * y2))) := by
  unfold OnC at h1 h2
  grobner
end
end Go.Proofs.Ytakhmmnklkckpaa
namespace Go.Proofs.Ytakhmmnklkckpaa
section
variable {D : Fp}
abbrev Pt : Type := Fp × Fp
def On (D : Fp) (P : Pt) : Prop := OnC D P.1 P.2
def pad (D : Fp) (P Q : Pt) : Pt := (D * (P.1 * Q.2 + P.2 * Q.1) * inv (D + P.1 * P.2 * Q.1 * Q.2), D * (P.2 * Q.2 - P.1 * Q.1) * inv (D - P.1 * P.2 * Q.1 * Q.2))
def pz : Pt := (0, 1)
def pn (P : Pt) : Pt := (-P.1, P.2)
theorem pad_def (hD : ¬ IsSq D) {P Q : Pt} (hP : On D P) (hQ : On D Q) : ∃ u v, (D + P.1 * P.2 * Q.1 * Q.2) * u = 1 ∧ (D - P.1 * P.2 * Q.1 * Q.2) * v = 1 ∧ pad D P Q = (D * (P.1 * Q.2 + P.2 * Q.1) * u, D * (P.2 * Q.2 - P.1 * Q.1) * v) := by
  have h := no_eps hD hP hQ
  refine ⟨_, _, mul_inv fun e => h (by rw [e]; grobner), mul_inv fun e => h (by rw [e]; grobner), rfl⟩
theorem one_div {a u x : Fp} (h : a * u = 1) (k : x * a = 0) : x = 0 := by grobner
theorem pad_on (hD : ¬ IsSq D) {P Q : Pt} (hP : On D P) (hQ : On D Q) : On D (pad D P Q) := by
  obtain ⟨u, v, hu, hv, e⟩ := pad_def hD hP hQ
  rw [e]
  have hd := ne_zero_of hD
  obtain ⟨x1, y1⟩ := P
  obtain ⟨x2, y2⟩ := Q
  have c := closed hP hQ
  simp only [On, OnC] at hu hv ⊢
  obtain ⟨n, hn⟩ : ∃ n, n = x1 * y2 + y1 * x2 := ⟨_, rfl⟩
  obtain ⟨m, hm⟩ : ∃ m, m = y1 * y2 - x1 * x2 := ⟨_, rfl⟩
  obtain ⟨a, ha⟩ : ∃ a, a = D + x1 * y1 * x2 * y2 := ⟨_, rfl⟩
  obtain ⟨b, hb⟩ : ∃ b, b = D - x1 * y1 * x2 * y2 := ⟨_, rfl⟩
  rw [← hn, ← hm, ← ha, ← hb] at c
  rw [← ha] at hu
  rw [← hb] at hv
  rw [← hn, ← hm]
  clear e hn hm ha hb hP hQ
  grobner
theorem pad_comm (P Q : Pt) : pad D P Q = pad D Q P := by
  unfold pad
  rw [show D * (P.1 * Q.2 + P.2 * Q.1) = D * (Q.1 * P.2 + Q.2 * P.1) from by grobner, show D * (P.2 * Q.2 - P.1 * Q.1) = D * (Q.2 * P.2 - Q.1 * P.1) from by grobner,
    show P.1 * P.2 * Q.1 * Q.2 = Q.1 * Q.2 * P.1 * P.2 from by grobner]
theorem on_pz : On D pz := by unfold On OnC pz; grobner
theorem on_pn {P : Pt} (h : On D P) : On D (pn P) := by
  obtain ⟨x, y⟩ := P
  unfold On OnC pn at *
  simp only [] at *
  grobner
theorem pad_zero (hd : D ≠ 0) (P : Pt) : pad D pz P = P := by
  have h := mul_inv hd
  obtain ⟨x, y⟩ := P
  unfold pad pz
  simp only []
  rw [show D + 0 * 1 * x * y = D from by grobner, show D - 0 * 1 * x * y = D from by grobner]
  obtain ⟨i, hi⟩ : ∃ i, i = inv D := ⟨_, rfl⟩
  rw [← hi] at h ⊢
  clear hi
  rw [show D * (0 * y + 1 * x) * i = x from by grobner, show D * (1 * y - 0 * x) * i = y from by grobner]
theorem pad_neg (hD : ¬ IsSq D) {P : Pt} (hP : On D P) : pad D P (pn P) = pz := by
  obtain ⟨u, v, hu, hv, e⟩ := pad_def hD hP (on_pn hP)
  rw [e]
  obtain ⟨x, y⟩ := P
  unfold On OnC pn pz at *
  simp only [] at *
  clear e
  rw [show D * (x * y + y * -x) * u = 0 from by grobner, show D * (y * y - x * -x) * v = 1 from by grobner]
theorem frac {p q B1 B2 N1 N2 a c : Fp} (ha : D * p * B1 * a = 1) (hc : D * q * B2 * c = 1) (h : N1 * B2 = N2 * B1) : D * p * N1 * a = D * q * N2 * c := by
  have h1 : D * p * N1 * a = D * p * a * (D * q * c) * (N1 * B2) := by
    rw [show D * p * a * (D * q * c) * (N1 * B2) = D * p * N1 * a * (D * q * B2 * c) from by grobner, hc]; grobner
  have h2 : D * q * N2 * c = D * p * a * (D * q * c) * (N2 * B1) := by
    rw [show D * p * a * (D * q * c) * (N2 * B1) = D * q * N2 * c * (D * p * B1 * a) from by grobner, ha]; grobner
  rw [h1, h2, h]
theorem uv_one {f u v : Fp} (hu : (D + f) * u = 1) (hv : (D - f) * v = 1) : u * v * (D * D - f * f) = 1 := by
  rw [show u * v * (D * D - f * f) = (D + f) * u * ((D - f) * v) from by grobner, hu, hv]; grobner
theorem frac_den {f u v z a k : Fp} (h : u * v * (D * D - f * f) = 1) (hk : k = D + D * D * (u * v) * z) (ha : k * a = 1) : D * (u * v) * (D * D - f * f + D * z) * a = 1 := by
  rw [show D * (u * v) * (D * D - f * f + D * z) * a = D * (u * v * (D * D - f * f)) * a + D * D * (u * v) * z * a from by grobner, h, ← ha, hk]; grobner
theorem frac_num {f u v n m y3 x3 : Fp} (hu : (D + f) * u = 1) (hv : (D - f) * v = 1) : D * n * u * y3 + D * m * v * x3 = D * (u * v) * (n * (D - f) * y3 + m * (D + f) * x3) := by
  rw [show D * (u * v) * (n * (D - f) * y3 + m * (D + f) * x3) = D * n * u * ((D - f) * v) * y3 + D * m * v * ((D + f) * u) * x3 from by grobner, hu, hv]; grobner
theorem pad_assoc (hD : ¬ IsSq D) {P Q R : Pt} (hP : On D P) (hQ : On D Q) (hR : On D R) : pad D (pad D P Q) R = pad D P (pad D Q R) := by
  have o1 := pad_on hD hP hQ
  have o2 := pad_on hD hQ hR
  obtain ⟨u, v, hu, hv, e⟩ := pad_def hD hP hQ
  obtain ⟨s, t, hs, ht, e'⟩ := pad_def hD hQ hR
  obtain ⟨a, b, ha, hb, e1⟩ := pad_def hD o1 hR
  obtain ⟨c, d, hc, hd', e2⟩ := pad_def hD hP o2
  rw [e1, e2]
  rw [e] at ha hb ⊢
  rw [e'] at hc hd' ⊢
  clear e e' e1 e2 o1 o2
  have hd := ne_zero_of hD
  obtain ⟨x1, y1⟩ := P
  obtain ⟨x2, y2⟩ := Q
  obtain ⟨x3, y3⟩ := R
  have ax := assoc_x hP hQ hR
  have ay := assoc_y hP hQ hR
  simp only [] at *
  obtain ⟨n, hn⟩ : ∃ n, n = x1 * y2 + y1 * x2 := ⟨_, rfl⟩
  obtain ⟨m, hm⟩ : ∃ m, m = y1 * y2 - x1 * x2 := ⟨_, rfl⟩
  obtain ⟨n', hn'⟩ : ∃ n', n' = x2 * y3 + y2 * x3 := ⟨_, rfl⟩
  obtain ⟨m', hm'⟩ : ∃ m', m' = y2 * y3 - x2 * x3 := ⟨_, rfl⟩
  obtain ⟨f, hf⟩ : ∃ f, f = x1 * y1 * x2 * y2 := ⟨_, rfl⟩
  obtain ⟨g, hg⟩ : ∃ g, g = x2 * y2 * x3 * y3 := ⟨_, rfl⟩
  rw [← hn, ← hm] at ha hb ax ay ⊢
  rw [← hn', ← hm'] at hc hd' ax ay ⊢
  rw [← hf] at hu hv ax ay
  rw [← hg] at ax ay
  rw [← hg] at hs ht
  clear hn hm hn' hm' hf hg hP hQ hR
  have huv := uv_one hu hv
  have hst := uv_one hs ht
  have kx : D * (D * n * u * y3 + D * m * v * x3) * a = D * (x1 * (D * m' * t) + y1 * (D * n' * s)) * c := by
    have k := frac (D := D) (p := u * v) (q := s * t) (B1 := D * D - f * f + D * (n * m * x3 * y3)) (B2 := D * D - g * g + D * (n' * m' * x1 * y1)) (N1 := n * (D - f) * y3 + m * (D + f) * x3) (N2 := x1 * (m' * (D + g)) + y1 * (n' * (D - g))) (a := a) (c := c)
      (frac_den huv (by clear hu hv hs ht ha hb hc hd' ax ay huv hst; grobner) ha) (frac_den hst (by clear hu hv hs ht ha hb hc hd' ax ay huv hst; grobner) hc)
      (by rw [show D * (n' * m' * x1 * y1) = D * n' * m' * x1 * y1 from by clear hu hv hs ht ha hb hc hd' ax ay huv hst; grobner, show D * (n * m * x3 * y3) = D * n * m * x3 * y3 from by clear hu hv hs ht ha hb hc hd' ax ay huv hst; grobner]; exact ax)
    rw [frac_num hu hv, show x1 * (D * m' * t) + y1 * (D * n' * s) = D * n' * s * y1 + D * m' * t * x1 from by clear hu hv hs ht ha hb hc hd' ax ay huv hst k; grobner, frac_num hs ht]
    rw [show n' * (D - g) * y1 + m' * (D + g) * x1 = x1 * (m' * (D + g)) + y1 * (n' * (D - g)) from by clear hu hv hs ht ha hb hc hd' ax ay huv hst k; grobner]
    rw [show ∀ z w a : Fp, D * (D * z * w) * a = D * (D * z * w * a) from fun z w a => by clear hu hv hs ht ha hb hc hd' ax ay huv hst k; grobner, k]
    clear hu hv hs ht ha hb hc hd' ax ay huv hst k; grobner
  have ky : D * (D * m * v * y3 - D * n * u * x3) * b = D * (y1 * (D * m' * t) - x1 * (D * n' * s)) * d := by
    have k := frac (D := D) (p := u * v) (q := s * t) (B1 := D * D - f * f + D * -(n * m * x3 * y3)) (B2 := D * D - g * g + D * -(n' * m' * x1 * y1)) (N1 := m * (D + f) * y3 - n * (D - f) * x3) (N2 := y1 * (m' * (D + g)) - x1 * (n' * (D - g))) (a := b) (c := d)
      (frac_den huv (by clear hu hv hs ht ha hb hc hd' ax ay huv hst kx; grobner) hb) (frac_den hst (by clear hu hv hs ht ha hb hc hd' ax ay huv hst kx; grobner) hd')
      (by rw [show D * D - g * g + D * -(n' * m' * x1 * y1) = D * D - g * g - D * n' * m' * x1 * y1 from by clear hu hv hs ht ha hb hc hd' ax ay huv hst kx; grobner, show D * D - f * f + D * -(n * m * x3 * y3) = D * D - f * f - D * n * m * x3 * y3 from by clear hu hv hs ht ha hb hc hd' ax ay huv hst kx; grobner]; exact ay)
    rw [show D * m * v * y3 - D * n * u * x3 = D * n * u * -x3 + D * m * v * y3 from by clear hu hv hs ht ha hb hc hd' ax ay huv hst k kx; grobner, frac_num hu hv, show y1 * (D * m' * t) - x1 * (D * n' * s) = D * n' * s * -x1 + D * m' * t * y1 from by clear hu hv hs ht ha hb hc hd' ax ay huv hst k kx; grobner, frac_num hs ht]
    rw [show n' * (D - g) * -x1 + m' * (D + g) * y1 = y1 * (m' * (D + g)) - x1 * (n' * (D - g)) from by clear hu hv hs ht ha hb hc hd' ax ay huv hst k kx; grobner, show n * (D - f) * -x3 + m * (D + f) * y3 = m * (D + f) * y3 - n * (D - f) * x3 from by clear hu hv hs ht ha hb hc hd' ax ay huv hst k kx; grobner]
    rw [show ∀ z w a : Fp, D * (D * z * w) * a = D * (D * z * w * a) from fun z w a => by clear hu hv hs ht ha hb hc hd' ax ay huv hst k kx; grobner, k]
    clear hu hv hs ht ha hb hc hd' ax ay huv hst k kx; grobner
  rw [kx, ky]
end
end Go.Proofs.Ytakhmmnklkckpaa
namespace Go.Proofs.Ytakhmmnklkckpaa
/-- Two numbers over one another; two of these. -/
structure St where
  ax : Fp
  az : Fp
  bx : Fp
  bz : Fp
/-- The document's double, for k = 486662, and its sum. -/
def dblX (x z : Fp) : Fp := (x * x - z * z) * (x * x - z * z)
def dblZ (k x z : Fp) : Fp := toFp 4 * (x * z) * (x * x + z * z + k * (x * z))
def sumX (ax az bx bz : Fp) : Fp := (ax * bx - az * bz) * (ax * bx - az * bz)
def sumZ (t ax az bx bz : Fp) : Fp := t * ((ax * bz - az * bx) * (ax * bz - az * bx))
def kA : Fp := toFp 486662
def dstep (t : Fp) (bit : Bool) (s : St) : St :=
  if bit then ⟨sumX s.ax s.az s.bx s.bz, sumZ t s.ax s.az s.bx s.bz, dblX s.bx s.bz, dblZ kA s.bx s.bz⟩
  else ⟨dblX s.ax s.az, dblZ kA s.ax s.az, sumX s.ax s.az s.bx s.bz, sumZ t s.ax s.az s.bx s.bz⟩
/-- The state behind the first k of 255 bits, from the top. -/
def lrun (t : Fp) (bits : Nat → Bool) : Nat → St
  | 0 => ⟨1, 0, t, 1⟩
  | k + 1 => dstep t (bits (254 - k)) (lrun t bits k)
/-- What the ladder gives. -/
def ladF (t : Fp) (bits : Nat → Bool) : Fp := (lrun t bits 255).ax * inv (lrun t bits 255).az
/-- The same up to a factor. -/
def Sim (X Z x z : Fp) : Prop := ∃ l : Fp, l ≠ 0 ∧ X = l * x ∧ Z = l * z
theorem four_eq : toFp 4 = 1 + 1 + 1 + 1 := by kernel_rfl
theorem kA_eq : kA = toFp 4 * toFp 121665 + 1 + 1 := by kernel_rfl
theorem four_ne : toFp 4 ≠ 0 := by
  intro h; exact absurd (congrArg Fin.val h) (by rw [show (toFp 4).val = 4 from by kernel_rfl, show (0 : Fp).val = 0 from rfl]; omega)
theorem one_ne : (1 : Fp) ≠ 0 := fun h => zero_ne_one h.symm
theorem Sim.refl (x z : Fp) : Sim x z x z := ⟨1, one_ne, by grobner, by grobner⟩
theorem dbl_core {l x z F a k : Fp} (hF : F = 1 + 1 + 1 + 1) (hk : k = F * a + 1 + 1) :
    (l * x + l * z) * (l * x + l * z) * ((l * x - l * z) * (l * x - l * z)) = l * l * (l * l) * ((x * x - z * z) * (x * x - z * z)) ∧
    ((l * x + l * z) * (l * x + l * z) - (l * x - l * z) * (l * x - l * z)) * ((l * x + l * z) * (l * x + l * z) + a * ((l * x + l * z) * (l * x + l * z) - (l * x - l * z) * (l * x - l * z))) = l * l * (l * l) * (F * (x * z) * (x * x + z * z + k * (x * z))) := by
  subst hF hk
  constructor <;> grobner
theorem Sim.dbl {X Z x z : Fp} (h : Sim X Z x z) :
    Sim ((X + Z) * (X + Z) * ((X - Z) * (X - Z))) (((X + Z) * (X + Z) - (X - Z) * (X - Z)) * ((X + Z) * (X + Z) + toFp 121665 * ((X + Z) * (X + Z) - (X - Z) * (X - Z)))) (dblX x z) (dblZ kA x z) := by
  obtain ⟨l, hl, rfl, rfl⟩ := h
  obtain ⟨h1, h2⟩ := dbl_core (l := l) (x := x) (z := z) four_eq kA_eq
  exact ⟨l * l * (l * l), ne_mul (ne_mul hl hl) (ne_mul hl hl), h1, h2⟩
theorem sum_core {l m x z u v t F : Fp} (hF : F = 1 + 1 + 1 + 1) :
    ((m * u - m * v) * (l * x + l * z) + (m * u + m * v) * (l * x - l * z)) * ((m * u - m * v) * (l * x + l * z) + (m * u + m * v) * (l * x - l * z)) = F * (l * l * (m * m)) * ((x * u - z * v) * (x * u - z * v)) ∧
    t * (((m * u - m * v) * (l * x + l * z) - (m * u + m * v) * (l * x - l * z)) * ((m * u - m * v) * (l * x + l * z) - (m * u + m * v) * (l * x - l * z))) = F * (l * l * (m * m)) * (t * ((x * v - z * u) * (x * v - z * u))) := by
  subst hF
  constructor <;> grobner
theorem Sim.sum {X Z U V x z u v : Fp} (h : Sim X Z x z) (k : Sim U V u v) (t : Fp) :
    Sim (((U - V) * (X + Z) + (U + V) * (X - Z)) * ((U - V) * (X + Z) + (U + V) * (X - Z))) (t * (((U - V) * (X + Z) - (U + V) * (X - Z)) * ((U - V) * (X + Z) - (U + V) * (X - Z)))) (sumX x z u v) (sumZ t x z u v) := by
  obtain ⟨l, hl, rfl, rfl⟩ := h
  obtain ⟨m, hm, rfl, rfl⟩ := k
  obtain ⟨h1, h2⟩ := sum_core (l := l) (m := m) (x := x) (z := z) (u := u) (v := v) (t := t) four_eq
  exact ⟨_, ne_mul four_ne (ne_mul (ne_mul hl hl) (ne_mul hm hm)), h1, h2⟩
theorem sumX_comm (x z u v : Fp) : sumX u v x z = sumX x z u v := by unfold sumX; grobner
theorem sumZ_comm (t x z u v : Fp) : sumZ t u v x z = sumZ t x z u v := by unfold sumZ; grobner
/-- The code's two pairs: turned round where the last bit was set. -/
def Pairs (last : Bool) (X Z U V : Fp) (s : St) : Prop := if last then Sim X Z s.bx s.bz ∧ Sim U V s.ax s.az else Sim X Z s.ax s.az ∧ Sim U V s.bx s.bz
theorem Pairs.swap {X Z U V : Fp} {s : St} {b : Bool} (h : Pairs b X Z U V s) : Pairs (!b) U V X Z s := by
  unfold Pairs at *
  cases b
  · exact ⟨h.2, h.1⟩
  · exact ⟨h.2, h.1⟩
theorem Pairs.step {X Z U V : Fp} {s : St} {bit : Bool} (h : Pairs bit X Z U V s) (t : Fp) :
    Pairs bit ((X + Z) * (X + Z) * ((X - Z) * (X - Z))) (((X + Z) * (X + Z) - (X - Z) * (X - Z)) * ((X + Z) * (X + Z) + toFp 121665 * ((X + Z) * (X + Z) - (X - Z) * (X - Z))))
      (((U - V) * (X + Z) + (U + V) * (X - Z)) * ((U - V) * (X + Z) + (U + V) * (X - Z))) (t * (((U - V) * (X + Z) - (U + V) * (X - Z)) * ((U - V) * (X + Z) - (U + V) * (X - Z)))) (dstep t bit s) := by
  unfold Pairs at *
  cases bit
  · exact ⟨h.1.dbl, h.1.sum h.2 t⟩
  · refine ⟨h.1.dbl, ?_⟩
    have := h.1.sum h.2 t
    rw [sumX_comm, sumZ_comm] at this
    exact this
theorem inv_mul (x y : Fp) : inv (x * y) = inv x * inv y := by unfold inv; exact pw_mulF _ _ _
theorem Sim.quot {X Z x z : Fp} (h : Sim X Z x z) : X * inv Z = x * inv z := by
  obtain ⟨l, hl, rfl, rfl⟩ := h
  have := mul_inv hl
  rw [inv_mul]
  obtain ⟨i, hi⟩ : ∃ i, i = inv l := ⟨_, rfl⟩
  obtain ⟨j, hj⟩ : ∃ j, j = inv z := ⟨_, rfl⟩
  rw [← hi, ← hj]
  rw [← hi] at this
  clear hi hj hl
  grobner
end Go.Proofs.Ytakhmmnklkckpaa
namespace Go.Proofs.Ytakhmmnklkckpaa
theorem two_ne : (1 + 1 : Fp) ≠ 0 := fun h => by
  have := congrArg Fin.val h
  exact absurd this (by rw [show (1 + 1 : Fp).val = 2 from by kernel_rfl, show (0 : Fp).val = 0 from rfl]; omega)
section
variable {D s k : Fp}
/-- The two numbers say the point. -/
def Says (s X Z : Fp) (P : Pt) : Prop := ∃ l : Fp, l ≠ 0 ∧ X = s * l * (1 + P.2) ∧ Z = l * (1 - P.2)
theorem sq_ne {x : Fp} (h : x * x = 0) : x = 0 := by rcases mul_zero_or h with h | h <;> exact h
theorem says_core {X Z y i : Fp} (hs : s * s = 1) (hi : (1 + 1) * i = 1) (h : X * (1 - y) = s * (Z * (1 + y))) :
    X = s * ((s * X + Z) * i) * (1 + y) ∧ Z = (s * X + Z) * i * (1 - y) := by
  constructor <;> grobner
theorem says_of {X Z : Fp} {P : Pt} (hs : s * s = 1) (h : X * (1 - P.2) = s * (Z * (1 + P.2))) (hne : ¬ (X = 0 ∧ Z = 0)) : Says s X Z P := by
  obtain ⟨h1, h2⟩ := says_core hs (mul_inv two_ne) h
  refine ⟨_, fun h0 => hne ?_, h1, h2⟩
  rw [h0] at h1 h2
  exact ⟨h1.trans (by grobner), h2.trans (by grobner)⟩
theorem says_quot {X Z : Fp} {P : Pt} (h : Says s X Z P) : X * inv Z = s * (1 + P.2) * inv (1 - P.2) := by
  obtain ⟨l, hl, rfl, rfl⟩ := h
  have := mul_inv hl
  rw [inv_mul]
  obtain ⟨i, hi⟩ : ∃ i, i = inv l := ⟨_, rfl⟩
  obtain ⟨j, hj⟩ : ∃ j, j = inv (1 - P.2) := ⟨_, rfl⟩
  rw [← hi, ← hj]
  rw [← hi] at this
  obtain ⟨y, hy⟩ : ∃ y, y = P.2 := ⟨_, rfl⟩
  rw [← hy]
  clear hi hj hl hy
  grobner
theorem dbl_rel {c x y v : Fp} (hD1 : D - 1 ≠ 0) (hc : c * (D - 1) = (1 + 1) * (D + 1)) (hP : OnC D x y) (hv : (D - x * y * x * y) * v = 1) (_ : D ≠ 0) :
    (1 + 1 + 1 + 1) * (y * y) * (1 - D * (y * y - x * x) * v) = (1 - y * y) * ((1 + 1) + (1 + 1) * (y * y) + c * (1 - y * y)) * (1 + D * (y * y - x * x) * v) := by
  unfold OnC at hP
  have k1 : (1 + 1 + 1 + 1) * (y * y) = ((1 + 1) + (1 + 1) * (y * y) + c * (1 - y * y)) * (1 - x * x) := by
    refine eq_of_mul hD1 ?_
    have e : ((1 + 1) + (1 + 1) * (y * y) + c * (1 - y * y)) * (1 - x * x) * (D - 1) = ((1 + 1) * (D - 1) + (1 + 1) * (D - 1) * (y * y) + c * (D - 1) * (1 - y * y)) * (1 - x * x) := by clear hP hv hc; grobner
    rw [e, hc]
    clear e hc hv
    grobner
  have k2 : (1 - D * (y * y - x * x) * v) = (1 + 1) * D * (1 - y * y) * v := by
    have : D - x * y * x * y - D * (y * y - x * x) = (1 + 1) * D * (1 - y * y) := by clear k1 hv hc; grobner
    rw [← this]
    clear this k1 hP hc
    grobner
  have k3 : (1 + D * (y * y - x * x) * v) = (1 + 1) * D * (1 - x * x) * v := by
    have : D - x * y * x * y + D * (y * y - x * x) = (1 + 1) * D * (1 - x * x) := by clear k1 k2 hv hc; grobner
    rw [← this]
    clear this k1 hP hc k2
    grobner
  rw [k1, k2, k3]
  clear k1 k2 k3 hP hv hc
  grobner
theorem sum_rel {x1 y1 x2 y2 v w : Fp} (h1 : OnC D x1 y1) (h2 : OnC D x2 y2) (hv : (D - x1 * y1 * x2 * y2) * v = 1) (hw : (D + x1 * y1 * x2 * y2) * w = 1) :
    (y1 + y2) * (y1 + y2) * (1 - D * (y1 * y2 - x1 * x2) * v) * (1 - D * (y1 * y2 + x1 * x2) * w) = (y1 - y2) * (y1 - y2) * (1 + D * (y1 * y2 - x1 * x2) * v) * (1 + D * (y1 * y2 + x1 * x2) * w) := by
  unfold OnC at h1 h2
  have key : (y1 + y2) * (y1 + y2) * (D - x1 * y1 * x2 * y2 - D * (y1 * y2 - x1 * x2)) * (D + x1 * y1 * x2 * y2 - D * (y1 * y2 + x1 * x2)) = (y1 - y2) * (y1 - y2) * (D - x1 * y1 * x2 * y2 + D * (y1 * y2 - x1 * x2)) * (D + x1 * y1 * x2 * y2 + D * (y1 * y2 + x1 * x2)) := by
    clear hv hw; grobner
  obtain ⟨e, he⟩ : ∃ e, e = x1 * y1 * x2 * y2 := ⟨_, rfl⟩
  rw [← he] at hv hw key
  obtain ⟨n, hn⟩ : ∃ n, n = y1 * y2 - x1 * x2 := ⟨_, rfl⟩
  obtain ⟨m, hm⟩ : ∃ m, m = y1 * y2 + x1 * x2 := ⟨_, rfl⟩
  obtain ⟨a, ha⟩ : ∃ a, a = y1 + y2 := ⟨_, rfl⟩
  obtain ⟨b, hb⟩ : ∃ b, b = y1 - y2 := ⟨_, rfl⟩
  rw [← hn, ← hm, ← ha, ← hb] at key ⊢
  clear h1 h2 he hn hm ha hb
  have e1 : 1 - D * n * v = (D - e - D * n) * v := by clear key hw; grobner
  have e2 : 1 + D * n * v = (D - e + D * n) * v := by clear key hw; grobner
  have e3 : 1 - D * m * w = (D + e - D * m) * w := by clear key hv e1 e2; grobner
  have e4 : 1 + D * m * w = (D + e + D * m) * w := by clear key hv e1 e2 e3; grobner
  rw [e1, e2, e3, e4]
  have : a * a * ((D - e - D * n) * v) * ((D + e - D * m) * w) = a * a * (D - e - D * n) * (D + e - D * m) * (v * w) := by clear key hv hw e1 e2 e3 e4; grobner
  rw [this, key]
  clear this key hv hw e1 e2 e3 e4
  grobner
end
end Go.Proofs.Ytakhmmnklkckpaa
namespace Go.Proofs.Ytakhmmnklkckpaa
section
variable {D s : Fp}
theorem not_one (hD : ¬ IsSq D) : D - 1 ≠ 0 := fun h => hD ⟨1, by grobner⟩
theorem dblXZ {l y X Z : Fp} (hs : s * s = 1) (hX : X = s * l * (1 + y)) (hZ : Z = l * (1 - y)) :
    dblX X Z = (1 + 1 + 1 + 1) * (l * l * (l * l)) * ((1 + 1 + 1 + 1) * (y * y)) ∧
    dblZ kA X Z = s * ((1 + 1 + 1 + 1) * (l * l * (l * l)) * ((1 - y * y) * ((1 + 1) + (1 + 1) * (y * y) + s * kA * (1 - y * y)))) := by
  unfold dblX dblZ
  have hF := four_eq
  obtain ⟨F, hF'⟩ : ∃ F, F = toFp 4 := ⟨_, rfl⟩
  obtain ⟨k, hk⟩ : ∃ k, k = kA := ⟨_, rfl⟩
  rw [← hF'] at hF ⊢
  rw [← hk]
  clear hF' hk
  subst hX hZ hF
  constructor <;> grobner
theorem says_dbl {X Z : Fp} {P : Pt} (hD : ¬ IsSq D) (hs : s * s = 1) (hc : s * kA * (D - 1) = (1 + 1) * (D + 1)) (hP : On D P) (h : Says s X Z P) : Says s (dblX X Z) (dblZ kA X Z) (pad D P P) := by
  obtain ⟨l, hl, hX, hZ⟩ := h
  obtain ⟨u, v, hu, hv, e⟩ := pad_def hD hP hP
  obtain ⟨h1, h2⟩ := dblXZ hs hX hZ
  have hd := ne_zero_of hD
  have h3 := dbl_rel (not_one hD) hc hP hv hd
  rw [h1, h2, e]
  clear e h1 h2 hX hZ
  obtain ⟨x, y⟩ := P
  simp only [] at *
  obtain ⟨c, hcc⟩ : ∃ c, c = s * kA := ⟨_, rfl⟩
  rw [← hcc] at h3 hc ⊢
  obtain ⟨m, hm⟩ : ∃ m, m = (1 + 1 + 1 + 1) * (l * l * (l * l)) := ⟨_, rfl⟩
  have four : (1 + 1 + 1 + 1 : Fp) ≠ 0 := four_eq ▸ four_ne
  have hm0 : m ≠ 0 := by rw [hm]; exact ne_mul four (ne_mul (ne_mul hl hl) (ne_mul hl hl))
  rw [← hm]
  obtain ⟨q, hq⟩ : ∃ q, q = (1 - y * y) * ((1 + 1) + (1 + 1) * (y * y) + c * (1 - y * y)) := ⟨_, rfl⟩
  rw [← hq] at h3 ⊢
  obtain ⟨t, ht⟩ : ∃ t, t = D * (y * y - x * x) * v := ⟨_, rfl⟩
  rw [← ht] at h3 ⊢
  refine says_of hs ?_ ?_
  · simp only []
    clear hq ht hm hm0 hc hcc hv hu hP
    have e1 : m * ((1 + 1 + 1 + 1) * (y * y)) * (1 - t) = m * ((1 + 1 + 1 + 1) * (y * y) * (1 - t)) := by clear h3; grobner
    have e2 : s * (s * (m * q) * (1 + t)) = s * s * (m * (q * (1 + t))) := by clear h3 e1; grobner
    rw [e1, e2, h3, hs]
    clear h3 e1 e2
    grobner
  · rintro ⟨z1, z2⟩
    have y0 : y = 0 := by
      rcases mul_zero_or z1 with z | z
      · exact (hm0 z).elim
      · rcases mul_zero_or z with z | z
        · exact (four z).elim
        · exact sq_ne z
    have s0 : s ≠ 0 := fun h0 => by rw [h0] at hs; exact zero_ne_one (by rw [← hs]; grobner)
    have q0 : q = 0 := by
      rcases mul_zero_or z2 with z | z
      · exact (s0 z).elim
      · rcases mul_zero_or z with z | z
        · exact (hm0 z).elim
        · exact z
    rw [y0] at hq
    have c0 : (1 + 1) + c = 0 := by
      rw [q0] at hq
      clear h3 hc hu hv hP ht
      grobner
    have : (1 + 1 + 1 + 1) * D = 0 := by
      have e : c = -(1 + 1) := by clear hc h3 hq hu hv hP ht; grobner
      rw [e] at hc
      clear h3 hq hu hv hP ht c0 e
      grobner
    rcases mul_zero_or this with z | z
    · exact four z
    · exact hd z
theorem sum_says {l m y1 y2 X1 Z1 X2 Z2 : Fp} (hs : s * s = 1) (t : Fp) (h1 : X1 = s * l * (1 + y1)) (h2 : Z1 = l * (1 - y1)) (h3 : X2 = s * m * (1 + y2)) (h4 : Z2 = m * (1 - y2)) :
    sumX X1 Z1 X2 Z2 = (1 + 1 + 1 + 1) * (l * l * (m * m)) * ((y1 + y2) * (y1 + y2)) ∧ sumZ t X1 Z1 X2 Z2 = t * ((1 + 1 + 1 + 1) * (l * l * (m * m)) * ((y1 - y2) * (y1 - y2))) := by
  unfold sumX sumZ
  subst h1 h2 h3 h4
  constructor <;> grobner
/-- The sum of two whose difference is T. -/
theorem says_sum {X1 Z1 X2 Z2 t : Fp} {P Q T : Pt} (hD : ¬ IsSq D) (hs : s * s = 1) (hP : On D P) (hQ : On D Q) (hT : T = pad D Q (pn P)) (ht : t * (1 - T.2) = s * (1 + T.2)) (t1 : 1 - T.2 ≠ 0) (t2 : 1 + T.2 ≠ 0)
    (h1 : Says s X1 Z1 P) (h2 : Says s X2 Z2 Q) : Says s (sumX X1 Z1 X2 Z2) (sumZ t X1 Z1 X2 Z2) (pad D P Q) := by
  obtain ⟨l, hl, a1, a2⟩ := h1
  obtain ⟨m, hm, a3, a4⟩ := h2
  obtain ⟨e1, e2⟩ := sum_says hs t a1 a2 a3 a4
  obtain ⟨u, v, hu, hv, e⟩ := pad_def hD hP hQ
  obtain ⟨u', w, hu', hw, e'⟩ := pad_def hD hQ (on_pn hP)
  have hd := ne_zero_of hD
  rw [e1, e2, e]
  rw [e'] at hT
  clear e e' e1 e2 a1 a2 a3 a4
  obtain ⟨x1, y1⟩ := P
  obtain ⟨x2, y2⟩ := Q
  unfold pn at *
  simp only [] at *
  have hw2 : (D + x1 * y1 * x2 * y2) * w = 1 := by rw [← hw]; clear hu hv hu' hw; grobner
  have h3 := sum_rel hP hQ hv hw2
  have hTy : T.2 = D * (y1 * y2 + x1 * x2) * w := by rw [hT]; clear h3 hu hv hu' hw hw2; grobner
  rw [← hTy] at h3
  obtain ⟨y0, hy0⟩ : ∃ y0, y0 = T.2 := ⟨_, rfl⟩
  rw [← hy0] at h3 hTy ht t1 t2
  have four : (1 + 1 + 1 + 1 : Fp) ≠ 0 := four_eq ▸ four_ne
  obtain ⟨n, hn⟩ : ∃ n, n = (1 + 1 + 1 + 1) * (l * l * (m * m)) := ⟨_, rfl⟩
  have hn0 : n ≠ 0 := by rw [hn]; exact ne_mul four (ne_mul (ne_mul hl hl) (ne_mul hm hm))
  rw [← hn]
  obtain ⟨r, hr⟩ : ∃ r, r = D * (y1 * y2 - x1 * x2) * v := ⟨_, rfl⟩
  rw [← hr] at h3 ⊢
  clear hn hu hu' hT hy0
  refine says_of hs ?_ ?_
  · simp only []
    refine eq_of_mul t1 ?_
    have k1 : n * ((y1 + y2) * (y1 + y2)) * (1 - r) * (1 - y0) = n * ((y1 + y2) * (y1 + y2) * (1 - r) * (1 - y0)) := by clear h3 ht hv hw hw2 hTy hr; grobner
    have k2 : s * (t * (n * ((y1 - y2) * (y1 - y2))) * (1 + r)) * (1 - y0) = s * (t * (1 - y0)) * (n * ((y1 - y2) * (y1 - y2)) * (1 + r)) := by clear h3 ht hv hw hw2 hTy hr k1; grobner
    rw [k1, k2, h3, ht]
    have k3 : s * (s * (1 + y0)) * (n * ((y1 - y2) * (y1 - y2)) * (1 + r)) = s * s * (n * ((y1 - y2) * (y1 - y2) * (1 + r) * (1 + y0))) := by clear h3 ht hv hw hw2 hTy hr k1 k2; grobner
    rw [k3, hs]
    clear h3 ht hv hw hw2 hTy hr k1 k2 k3
    grobner
  · rintro ⟨z1, z2⟩
    have a0 : y1 + y2 = 0 := by
      rcases mul_zero_or z1 with z | z
      · exact (hn0 z).elim
      · exact sq_ne z
    have tne : t ≠ 0 := fun h0 => by
      rw [h0] at ht
      have s0 : s ≠ 0 := fun h0 => by rw [h0] at hs; exact zero_ne_one (by rw [← hs]; clear ht; grobner)
      have : s * (1 + y0) = 0 := by rw [← ht]; clear ht h3 hv hw hw2 hTy hr; grobner
      rcases mul_zero_or this with z | z
      · exact s0 z
      · exact t2 z
    have b0 : y1 - y2 = 0 := by
      rcases mul_zero_or z2 with z | z
      · exact (tne z).elim
      · rcases mul_zero_or z with z | z
        · exact (hn0 z).elim
        · exact sq_ne z
    have c1 : (1 + 1) * y1 = 0 := by
      have : (1 + 1) * y1 = (y1 + y2) + (y1 - y2) := by clear a0 b0 h3 ht hv hw hw2 hTy hr z1 z2; grobner
      rw [this, a0, b0]; clear this a0 b0 h3 ht hv hw hw2 hTy hr z1 z2; grobner
    have y10 : y1 = 0 := by rcases mul_zero_or c1 with z | z; exact (two_ne z).elim; exact z
    have y20 : y2 = 0 := by rw [y10] at a0; rw [← a0]; clear a0 b0 h3 ht hv hw hw2 hTy hr z1 z2 c1; grobner
    subst y10 y20
    unfold On OnC at hP hQ
    simp only [] at hP hQ
    have q1 : x1 * x1 = 1 := by
      have : D * (x1 * x1 - 1) = 0 := by clear h3 ht hv hw hw2 hTy hr z1 z2 a0 b0 c1 hQ; grobner
      rcases mul_zero_or this with z | z
      · exact (hd z).elim
      · clear h3 ht hv hw hw2 hTy hr z1 z2 a0 b0 c1 hQ hP; grobner
    have q2 : x2 * x2 = 1 := by
      have : D * (x2 * x2 - 1) = 0 := by clear h3 ht hv hw hw2 hTy hr z1 z2 a0 b0 c1 hP q1; grobner
      rcases mul_zero_or this with z | z
      · exact (hd z).elim
      · clear h3 ht hv hw hw2 hTy hr z1 z2 a0 b0 c1 hQ hP q1; grobner
    have q3 : y0 = x1 * x2 := by
      have e : D * w = 1 := by rw [← hw2]; clear h3 ht hv hw hw2 hTy hr z1 z2 a0 b0 c1 hP q1 hQ q2; grobner
      rw [hTy]
      clear h3 ht hv hw hw2 hTy hr z1 z2 a0 b0 c1 hP q1 hQ q2
      grobner
    have q4 : (1 - y0) * (1 + y0) = 0 := by
      rw [q3]
      have : (1 - x1 * x2) * (1 + x1 * x2) = 1 - (x1 * x1) * (x2 * x2) := by clear h3 ht hv hw hw2 hTy hr z1 z2 a0 b0 c1 hP q1 hQ q2 q3; grobner
      rw [this, q1, q2]; clear this h3 ht hv hw hw2 hTy hr z1 z2 a0 b0 c1 hP q1 hQ q2 q3; grobner
    rcases mul_zero_or q4 with z | z
    · exact t1 z
    · exact t2 z
end
end Go.Proofs.Ytakhmmnklkckpaa
namespace Go.Proofs.Ytakhmmnklkckpaa
section
variable {D s : Fp}
/-- So many times a point. -/
def mulP (D : Fp) : Nat → Pt → Pt
  | 0, _ => pz
  | n + 1, P => pad D (mulP D n P) P
theorem mulP_on (hD : ¬ IsSq D) {P : Pt} (hP : On D P) : ∀ n, On D (mulP D n P)
  | 0 => on_pz
  | n + 1 => pad_on hD (mulP_on hD hP n) hP
theorem mulP_add (hD : ¬ IsSq D) {P : Pt} (hP : On D P) (m : Nat) : ∀ n, mulP D (m + n) P = pad D (mulP D m P) (mulP D n P)
  | 0 => by rw [mulP, pad_comm, pad_zero (ne_zero_of hD), Nat.add_zero]
  | n + 1 => by
    rw [← Nat.add_assoc, mulP, mulP_add hD hP m n, mulP, pad_assoc hD (mulP_on hD hP m) (mulP_on hD hP n) hP]
theorem mulP_mul (hD : ¬ IsSq D) {P : Pt} (hP : On D P) (n : Nat) : ∀ m, mulP D (m * n) P = mulP D m (mulP D n P)
  | 0 => by rw [Nat.zero_mul, mulP, mulP]
  | m + 1 => by rw [Nat.succ_mul, mulP_add hD hP, mulP_mul hD hP n m, mulP]
theorem mulP_turn (hD : ¬ IsSq D) {P : Pt} (hP : On D P) (m n : Nat) : mulP D m (mulP D n P) = mulP D n (mulP D m P) := by
  rw [← mulP_mul hD hP, ← mulP_mul hD hP, Nat.mul_comm]
theorem mulP_one (hD : ¬ IsSq D) (P : Pt) : mulP D 1 P = P := by rw [mulP, mulP, pad_zero (ne_zero_of hD)]
/-- (n + 1) P less n P. -/
theorem mulP_less (hD : ¬ IsSq D) {P : Pt} (hP : On D P) (n : Nat) : P = pad D (mulP D (n + 1) P) (pn (mulP D n P)) := by
  have h := mulP_on hD hP n
  rw [mulP, pad_comm (mulP D n P) P, pad_assoc hD hP h (on_pn h), pad_neg hD h, pad_comm, pad_zero (ne_zero_of hD)]
/-- The number of a point. -/
def numP (s : Fp) (P : Pt) : Fp := s * (1 + P.2) * inv (1 - P.2)
/-- The number that the first k bits say. -/
def topN (bits : Nat → Bool) : Nat → Nat
  | 0 => 0
  | k + 1 => 2 * topN bits k + (if bits (254 - k) then 1 else 0)
theorem lrun_says (hD : ¬ IsSq D) (hs : s * s = 1) (hc : s * kA * (D - 1) = (1 + 1) * (D + 1)) {T : Pt} (hT : On D T) {t : Fp} (ht : t = numP s T) (t1 : 1 - T.2 ≠ 0) (t2 : 1 + T.2 ≠ 0) (bits : Nat → Bool) :
    ∀ k, Says s (lrun t bits k).ax (lrun t bits k).az (mulP D (topN bits k) T) ∧ Says s (lrun t bits k).bx (lrun t bits k).bz (mulP D (topN bits k + 1) T)
  | 0 => by
    have hi := mul_inv two_ne
    have hj := mul_inv t1
    have hs0 : s ≠ 0 := fun h0 => by rw [h0] at hs; exact zero_ne_one (by rw [← hs]; grobner)
    have i0 : inv (1 + 1 : Fp) ≠ 0 := fun h0 => by rw [h0] at hi; exact zero_ne_one (by rw [← hi]; grobner)
    have j0 : inv (1 - T.2) ≠ 0 := fun h0 => by rw [h0] at hj; exact zero_ne_one (by rw [← hj]; grobner)
    rw [topN, mulP, Nat.zero_add, mulP_one hD]
    refine ⟨⟨s * inv (1 + 1), ne_mul hs0 i0, ?_, ?_⟩, ⟨inv (1 - T.2), j0, ?_, ?_⟩⟩
    · show (1 : Fp) = s * (s * inv (1 + 1)) * (1 + 1)
      obtain ⟨i, hii⟩ : ∃ i, i = inv (1 + 1 : Fp) := ⟨_, rfl⟩
      rw [← hii] at hi ⊢
      clear hii hj j0 i0 ht hc
      grobner
    · show (0 : Fp) = s * inv (1 + 1) * (1 - 1)
      obtain ⟨i, hii⟩ : ∃ i, i = inv (1 + 1 : Fp) := ⟨_, rfl⟩
      rw [← hii]
      clear hii hi hj j0 i0 ht hc
      grobner
    · show t = s * inv (1 - T.2) * (1 + T.2)
      rw [ht, numP]
      obtain ⟨i, hii⟩ : ∃ i, i = inv (1 - T.2) := ⟨_, rfl⟩
      rw [← hii]
      clear hii hi hj j0 i0 ht hc
      grobner
    · show (1 : Fp) = inv (1 - T.2) * (1 - T.2)
      obtain ⟨i, hii⟩ : ∃ i, i = inv (1 - T.2) := ⟨_, rfl⟩
      rw [← hii] at hj ⊢
      have e : i * (1 - T.2) = (1 - T.2) * i := by clear hii hi hj j0 i0 ht hc; grobner
      rw [e, hj]
  | k + 1 => by
    obtain ⟨h1, h2⟩ := lrun_says hD hs hc hT ht t1 t2 bits k
    have o1 := mulP_on hD hT (topN bits k)
    have o2 := mulP_on hD hT (topN bits k + 1)
    have htt : t * (1 - T.2) = s * (1 + T.2) := by
      have hj := mul_inv t1
      rw [ht, numP]
      obtain ⟨i, hii⟩ : ∃ i, i = inv (1 - T.2) := ⟨_, rfl⟩
      rw [← hii] at hj ⊢
      clear hii h1 h2 ht hc
      grobner
    have h3 := says_sum hD hs o1 o2 (mulP_less hD hT _) htt t1 t2 h1 h2
    rw [← mulP_add hD hT] at h3
    rw [lrun, dstep, topN]
    cases hb : bits (254 - k) with
    | true =>
      rw [if_pos rfl, if_pos rfl]
      have h4 := says_dbl hD hs hc o2 h2
      rw [← mulP_add hD hT] at h4
      rw [show topN bits k + (topN bits k + 1) = 2 * topN bits k + 1 from by omega] at h3
      rw [show topN bits k + 1 + (topN bits k + 1) = 2 * topN bits k + 1 + 1 from by omega] at h4
      exact ⟨h3, h4⟩
    | false =>
      rw [if_neg Bool.false_ne_true, if_neg Bool.false_ne_true]
      have h4 := says_dbl hD hs hc o1 h1
      rw [← mulP_add hD hT] at h4
      rw [show topN bits k + (topN bits k + 1) = 2 * topN bits k + 0 + 1 from by omega] at h3
      rw [show topN bits k + topN bits k = 2 * topN bits k + 0 from by omega] at h4
      exact ⟨h4, h3⟩
/-- Of 0 it gives 0. -/
theorem lrun_zero (bits : Nat → Bool) : ∀ k, (lrun 0 bits k).az = 0
  | 0 => rfl
  | k + 1 => by
    have ih := lrun_zero bits k
    rw [lrun, dstep]
    cases bits (254 - k) with
    | true => rw [if_pos rfl]; show sumZ 0 _ _ _ _ = 0; unfold sumZ; grobner
    | false =>
      rw [if_neg Bool.false_ne_true]
      show dblZ kA _ _ = 0
      rw [ih]
      unfold dblZ
      obtain ⟨F, hF⟩ : ∃ F, F = toFp 4 := ⟨_, rfl⟩
      rw [← hF]
      clear hF
      grobner
theorem ladF_zero (bits : Nat → Bool) : ladF 0 bits = 0 := by
  rw [ladF, lrun_zero, inv_zero]; grobner
theorem zero_of {y : Fp} (h : (1 - y) * (1 + y) = 0) (P : Pt) (hy : y = P.2) : numP s P = 0 := by
  unfold numP
  rw [← hy]
  rcases mul_zero_or h with z | z
  · rw [z, inv_zero]; grobner
  · rw [z]; grobner
/-- Multiples of the two points on the axis lie there. -/
theorem axis_mul (hD : ¬ IsSq D) {P : Pt} (h0 : P.1 = 0) (hy : P.2 * P.2 = 1) : ∀ n, (mulP D n P).1 = 0 ∧ (mulP D n P).2 * (mulP D n P).2 = 1
  | 0 => ⟨rfl, by show (1 : Fp) * 1 = 1; grobner⟩
  | n + 1 => by
    obtain ⟨h1, h2⟩ := axis_mul hD h0 hy n
    have hd := mul_inv (ne_zero_of hD)
    rw [mulP]
    unfold pad
    simp only []
    rw [h1, h0]
    obtain ⟨a, ha⟩ : ∃ a, a = (mulP D n P).2 := ⟨_, rfl⟩
    obtain ⟨b, hb⟩ : ∃ b, b = P.2 := ⟨_, rfl⟩
    rw [← ha] at h2 ⊢
    rw [← hb] at hy ⊢
    rw [show D + 0 * a * 0 * b = D from by clear h2 hy hd; grobner, show D - 0 * a * 0 * b = D from by clear h2 hy hd; grobner]
    obtain ⟨i, hi⟩ : ∃ i, i = inv D := ⟨_, rfl⟩
    rw [← hi] at hd ⊢
    clear ha hb hi h1 h0
    constructor
    · clear hd h2 hy; grobner
    · have e : D * (a * b - 0 * 0) * i * (D * (a * b - 0 * 0) * i) = (D * i) * (D * i) * (a * a) * (b * b) := by clear hd h2 hy; grobner
      rw [e, hd, h2, hy]
      clear e hd h2 hy
      grobner
/-- The ladder gives the multiple's number. -/
theorem ladF_num (hD : ¬ IsSq D) (hs : s * s = 1) (hc : s * kA * (D - 1) = (1 + 1) * (D + 1)) {T : Pt} (hT : On D T) (bits : Nat → Bool) : ladF (numP s T) bits = numP s (mulP D (topN bits 255) T) := by
  by_cases t1 : 1 - T.2 = 0 ∨ 1 + T.2 = 0
  · have hz : (1 - T.2) * (1 + T.2) = 0 := by
      rcases t1 with z | z <;> rw [z] <;> grobner
    have hyy : T.2 * T.2 = 1 := by grobner
    have hx : T.1 = 0 := by
      have h1 : T.1 * T.1 * (T.2 * T.2) = D * (T.1 * T.1 + T.2 * T.2 - 1) := hT
      rw [hyy] at h1
      have h2 : (D - 1) * (T.1 * T.1) = 0 := by
        clear t1 hz hyy hc
        grobner
      rcases mul_zero_or h2 with z | z
      · exact (not_one hD z).elim
      · exact sq_ne z
    rw [zero_of hz T rfl, ladF_zero]
    obtain ⟨_, h2⟩ := axis_mul hD hx hyy (topN bits 255)
    refine (zero_of (y := (mulP D (topN bits 255) T).2) ?_ _ rfl).symm
    obtain ⟨a, ha⟩ : ∃ a, a = (mulP D (topN bits 255) T).2 := ⟨_, rfl⟩
    rw [← ha] at h2 ⊢
    clear ha t1 hz hyy hc hx hT
    grobner
  · obtain ⟨h1, h2⟩ : 1 - T.2 ≠ 0 ∧ 1 + T.2 ≠ 0 := ⟨fun h => t1 (.inl h), fun h => t1 (.inr h)⟩
    exact says_quot (lrun_says hD hs hc hT rfl h1 h2 bits 255).1
theorem turn_on (hD : ¬ IsSq D) (hs : s * s = 1) (hc : s * kA * (D - 1) = (1 + 1) * (D + 1)) {T : Pt} (hT : On D T) (a b : Nat → Bool) : ladF (ladF (numP s T) b) a = ladF (ladF (numP s T) a) b := by
  rw [ladF_num hD hs hc hT, ladF_num hD hs hc hT, ladF_num hD hs hc (mulP_on hD hT _), ladF_num hD hs hc (mulP_on hD hT _), mulP_turn hD hT]
end
end Go.Proofs.Ytakhmmnklkckpaa
namespace Go.Proofs.Ytakhmmnklkckpaa
/-- Reckons x first. -/
def force {α : Type} (x : Nat) (f : Nat → α) : α := Nat.rec (f 0) (fun n _ => f (n + 1)) x
theorem force_eq {α : Type} (x : Nat) (f : Nat → α) : force x f = f x := by cases x <;> rfl
def pQ : Nat := 57896044618658097711785492504343953926634992332820282019728792003956564819949
def mulN (x y : Nat) : Nat := x * y % pQ
def addN (x y : Nat) : Nat := (x + y) % pQ
def subN (x y : Nat) : Nat := (pQ - y + x) % pQ
theorem mulN_val (x y : Fp) : (x * y).val = mulN x.val y.val := Fin.val_mul x y
theorem addN_val (x y : Fp) : (x + y).val = addN x.val y.val := Fin.val_add x y
theorem subN_val (x y : Fp) : (x - y).val = subN x.val y.val := by rw [Fin.val_sub]; rfl
def dblXN (x z : Nat) : Nat := force (subN (mulN x x) (mulN z z)) fun d => mulN d d
def dblZN (x z : Nat) : Nat := force (mulN x z) fun xz => mulN (mulN 4 xz) (addN (addN (mulN x x) (mulN z z)) (mulN 486662 xz))
def sumXN (ax az bx bz : Nat) : Nat := force (subN (mulN ax bx) (mulN az bz)) fun d => mulN d d
def sumZN (t ax az bx bz : Nat) : Nat := force (subN (mulN ax bz) (mulN az bx)) fun d => mulN t (mulN d d)
theorem four_val : (toFp 4).val = 4 := by kernel_rfl
theorem kA_val : kA.val = 486662 := by kernel_rfl
theorem dblXN_val (x z : Fp) : (dblX x z).val = dblXN x.val z.val := by
  rw [dblX, dblXN, force_eq, mulN_val, subN_val, mulN_val, mulN_val]
theorem dblZN_val (x z : Fp) : (dblZ kA x z).val = dblZN x.val z.val := by
  rw [dblZ, dblZN, force_eq, mulN_val, mulN_val, mulN_val, addN_val, addN_val, mulN_val, mulN_val, mulN_val, four_val, kA_val, mulN_val]
theorem sumXN_val (a b c d : Fp) : (sumX a b c d).val = sumXN a.val b.val c.val d.val := by
  rw [sumX, sumXN, force_eq, mulN_val, subN_val, mulN_val, mulN_val]
theorem sumZN_val (t a b c d : Fp) : (sumZ t a b c d).val = sumZN t.val a.val b.val c.val d.val := by
  rw [sumZ, sumZN, force_eq, mulN_val, mulN_val, subN_val, mulN_val, mulN_val]
/-- The first k steps' numbers go on to f. -/
def runN (t : Nat) (bits : Nat → Bool) : Nat → (Nat → Nat → Nat → Nat → Bool) → Nat → Nat → Nat → Nat → Nat → Bool
  | 0, f, _, ax, az, bx, bz => f ax az bx bz
  | k + 1, f, i, ax, az, bx, bz =>
    force (sumXN ax az bx bz) fun sx => force (sumZN t ax az bx bz) fun sz =>
      if bits i then force (dblXN bx bz) fun dx => force (dblZN bx bz) fun dz => runN t bits k f (i - 1) sx sz dx dz
      else force (dblXN ax az) fun dx => force (dblZN ax az) fun dz => runN t bits k f (i - 1) dx dz sx sz
theorem runN_val (t : Fp) (bits : Nat → Bool) (f : Nat → Nat → Nat → Nat → Bool) : ∀ (k j : Nat), k + j = 255 →
    runN t.val bits k f (254 - j) (lrun t bits j).ax.val (lrun t bits j).az.val (lrun t bits j).bx.val (lrun t bits j).bz.val =
      f (lrun t bits 255).ax.val (lrun t bits 255).az.val (lrun t bits 255).bx.val (lrun t bits 255).bz.val
  | 0, j, h => by
    obtain rfl : j = 255 := by omega
    rw [runN]
  | k + 1, j, h => by
    have ih := runN_val t bits f k (j + 1) (by omega)
    rw [runN, force_eq, force_eq, ← sumXN_val, ← sumZN_val]
    rw [lrun, dstep] at ih
    cases hb : bits (254 - j) with
    | true =>
      rw [hb, if_pos rfl] at ih
      rw [if_pos rfl, force_eq, force_eq, ← dblXN_val, ← dblZN_val, show 254 - j - 1 = 254 - (j + 1) from by omega]
      exact ih
    | false =>
      rw [hb, if_neg Bool.false_ne_true] at ih
      rw [if_neg Bool.false_ne_true, force_eq, force_eq, ← dblXN_val, ← dblZN_val, show 254 - j - 1 = 254 - (j + 1) from by omega]
      exact ih
/-- The check: what it gives is v. -/
theorem ladF_reckoned {t : Fp} {bits : Nat → Bool} (tN v : Nat) (ht : t.val = tN) (hv : v < pQ) (h : runN tN bits 255 (fun ax az _ _ => decide (az ≠ 0) && decide (mulN v az = ax)) 254 1 0 tN 1 = true) : ladF t bits = toFp (v : Int) := by
  have h1 := runN_val t bits (fun ax az _ _ => decide (az ≠ 0) && decide (mulN v az = ax)) 255 0 rfl
  have e1 : (lrun t bits 0).ax.val = 1 := rfl
  have e2 : (lrun t bits 0).az.val = 0 := rfl
  have e3 : (lrun t bits 0).bx.val = t.val := rfl
  have e4 : (lrun t bits 0).bz.val = 1 := rfl
  rw [e1, e2, e3, e4, ht, Nat.sub_zero, h] at h1
  have h2 := h1.symm
  rw [Bool.and_eq_true, decide_eq_true_eq, decide_eq_true_eq] at h2
  obtain ⟨hz, hm⟩ := h2
  unfold ladF
  obtain ⟨s, hs⟩ : ∃ s, s = lrun t bits 255 := ⟨_, rfl⟩
  rw [← hs] at hz hm ⊢
  have hz' : s.az ≠ 0 := fun e => hz (by rw [e]; rfl)
  have hvv : (toFp (v : Int)).val = v := by
    have := val_toFp (v : Int)
    unfold prI at this; unfold pQ at hv
    omega
  have hax : toFp (v : Int) * s.az = s.ax := by
    apply Fin.ext
    rw [mulN_val, hvv, hm]
  rw [← hax]
  have := mul_inv hz'
  obtain ⟨i, hi⟩ : ∃ i, i = inv s.az := ⟨_, rfl⟩
  rw [← hi] at this ⊢
  clear hi hax hvv hz' hm hz h1 h
  grobner
end Go.Proofs.Ytakhmmnklkckpaa
