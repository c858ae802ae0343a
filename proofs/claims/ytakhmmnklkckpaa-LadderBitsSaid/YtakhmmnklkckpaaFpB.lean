/- p = 2^255 - 19 is prime (a chain of certificates); Fermat's little theorem; powers modulo n, reckoned. -/
import Derived.Test.YtakhmmnklkckpaaFpA
import Derived.KernelRfl
namespace Go.Proofs.Ytakhmmnklkckpaa

/-! ### Prime numbers -/
def Prime (n : Nat) : Prop := 2 ≤ n ∧ ∀ d, d ∣ n → d = 1 ∨ d = n
theorem Prime.dvd_mul {p a b : Nat} (hp : Prime p) (h : p ∣ a * b) : p ∣ a ∨ p ∣ b := by
  rcases hp.2 (Nat.gcd p a) (Nat.gcd_dvd_left p a) with hg | hg
  · exact Or.inr (Nat.Coprime.dvd_of_dvd_mul_left hg h)
  · exact Or.inl (hg ▸ Nat.gcd_dvd_right p a)
/-- The least divisor from d on. -/
theorem exists_prime_dvd : ∀ n, 2 ≤ n → ∃ r, Prime r ∧ r ∣ n := by
  intro n
  induction n using Nat.strongRecOn with
  | _ n ih =>
    intro hn
    by_cases hp : Prime n
    · exact ⟨n, hp, Nat.dvd_refl n⟩
    · have : ∃ d, d ∣ n ∧ d ≠ 1 ∧ d ≠ n := by
        apply Classical.byContradiction
        intro hc
        apply hp
        refine ⟨hn, fun d hd => ?_⟩
        apply Classical.byContradiction
        intro hne
        exact hc ⟨d, hd, fun h => hne (.inl h), fun h => hne (.inr h)⟩
      obtain ⟨d, hd, h1, h2⟩ := this
      have hle := Nat.le_of_dvd (by omega) hd
      have hd0 : d ≠ 0 := fun h => by subst h; have := Nat.eq_zero_of_zero_dvd hd; omega
      obtain ⟨r, hr, hrd⟩ := ih d (by omega) (by omega)
      exact ⟨r, hr, Nat.dvd_trans hrd hd⟩
theorem exists_small_prime {n : Nat} (hn : 2 ≤ n) (hp : ¬ Prime n) : ∃ r, Prime r ∧ r ∣ n ∧ r * r ≤ n := by
  have : ∃ d, d ∣ n ∧ d ≠ 1 ∧ d ≠ n := by
    apply Classical.byContradiction
    intro hc
    apply hp
    refine ⟨hn, fun d hd => ?_⟩
    apply Classical.byContradiction
    intro hne
    exact hc ⟨d, hd, fun h => hne (.inl h), fun h => hne (.inr h)⟩
  obtain ⟨d, ⟨e, he⟩, h1, h2⟩ := this
  have hd0 : d ≠ 0 := fun h => by subst h; omega
  have he0 : e ≠ 0 := fun h => by subst h; omega
  have he1 : e ≠ 1 := fun h => by subst h; omega
  have key : ∀ a b, n = a * b → 2 ≤ a → a ≤ b → ∃ r, Prime r ∧ r ∣ n ∧ r * r ≤ n := fun a b hab ha hle => by
    obtain ⟨r, hr, hra⟩ := exists_prime_dvd a ha
    refine ⟨r, hr, Nat.dvd_trans hra ⟨b, hab⟩, ?_⟩
    have := Nat.le_of_dvd (by omega) hra
    rw [hab]
    exact Nat.mul_le_mul this (by omega)
  rcases Nat.le_total d e with h | h
  · exact key d e he (by omega) h
  · exact key e d (by rw [he, Nat.mul_comm]) (by omega) h

/-! ### Fermat -/
def bin : Nat → Nat → Nat
  | _, 0 => 1
  | 0, _ + 1 => 0
  | n + 1, k + 1 => bin n k + bin n (k + 1)
theorem bin_gt : ∀ n k, n < k → bin n k = 0
  | 0, k + 1, _ => rfl
  | n + 1, k + 1, h => by rw [bin, bin_gt n k (by omega), bin_gt n (k + 1) (by omega)]
theorem bin_self : ∀ n, bin n n = 1
  | 0 => rfl
  | n + 1 => by rw [bin, bin_self n, bin_gt n (n + 1) (by omega)]
theorem bin_absorb : ∀ n k, (k + 1) * bin (n + 1) (k + 1) = (n + 1) * bin n k
  | 0, 0 => rfl
  | 0, k + 1 => by simp [bin]
  | n + 1, 0 => by
    have := bin_absorb n 0
    rw [bin]
    simp only [bin] at this ⊢
    omega
  | n + 1, k + 1 => by
    have h1 := bin_absorb n k
    have h2 := bin_absorb n (k + 1)
    rw [bin]
    have h3 : bin (n + 1) (k + 1) = bin n k + bin n (k + 1) := rfl
    have e : (k + 1 + 1) * (bin (n + 1) (k + 1) + bin (n + 1) (k + 1 + 1)) = (k + 1) * bin (n + 1) (k + 1) + bin (n + 1) (k + 1) + (k + 1 + 1) * bin (n + 1) (k + 1 + 1) := by
      rw [Nat.mul_add, Nat.add_mul (k + 1) 1, Nat.one_mul]
    rw [e, h1, h2, h3, Nat.add_mul (n + 1) 1, Nat.one_mul, Nat.mul_add]
    omega
/-- The sum of the first terms of (1 + a)^n. -/
def bsum (a n : Nat) : Nat → Nat
  | 0 => 0
  | m + 1 => bsum a n m + bin n m * a ^ m
theorem bsum_succ (a n : Nat) : ∀ m, bsum a (n + 1) (m + 1) = bsum a n (m + 1) + a * bsum a n m
  | 0 => by simp [bsum, bin]
  | m + 1 => by
    have ih := bsum_succ a n m
    rw [bsum, ih, bsum, bin, bsum, bsum, Nat.add_mul, Nat.mul_add, Nat.pow_succ]
    have e : a * (bin n m * a ^ m) = bin n m * (a ^ m * a) := by
      rw [Nat.mul_left_comm, Nat.mul_comm a]
    rw [e]
    omega
theorem bsum_all (a : Nat) : ∀ n, bsum a n (n + 1) = (a + 1) ^ n
  | 0 => by simp [bsum, bin]
  | n + 1 => by
    rw [bsum_succ, bsum, bin_gt n (n + 1) (by omega), bsum_all a n, Nat.zero_mul, Nat.add_zero, Nat.pow_succ, Nat.mul_add]
    rw [Nat.mul_comm a]; omega
theorem prime_bin {r k : Nat} (hr : Prime r) (h0 : 0 < k) (hk : k < r) : r ∣ bin r k := by
  obtain ⟨k, rfl⟩ : ∃ j, k = j + 1 := ⟨k - 1, by omega⟩
  obtain ⟨n, rfl⟩ : ∃ j, r = j + 1 := ⟨r - 1, by have := hr.1; omega⟩
  have h := bin_absorb n k
  rcases hr.dvd_mul (show n + 1 ∣ (k + 1) * bin (n + 1) (k + 1) from ⟨_, h⟩) with h | h
  · have := Nat.le_of_dvd (by omega) h; omega
  · exact h
theorem bsum_mod {r : Nat} (hr : Prime r) (a : Nat) : ∀ m, m + 1 ≤ r → bsum a r (m + 1) % r = 1 % r
  | 0, _ => by simp [bsum, bin]
  | m + 1, h => by
    have ih := bsum_mod hr a m (by omega)
    obtain ⟨c, hc⟩ := prime_bin hr (show 0 < m + 1 by omega) (by omega)
    rw [bsum, hc, Nat.mul_assoc, Nat.add_mul_mod_self_left, ih]
theorem fermat {r : Nat} (hr : Prime r) : ∀ a, a ^ r % r = a % r
  | 0 => by rw [Nat.zero_pow (by have := hr.1; omega)]
  | a + 1 => by
    have ih := fermat hr a
    have hr2 := hr.1
    rw [← bsum_all a r, bsum, bin_self, Nat.one_mul, Nat.add_mod, ih]
    have := bsum_mod hr a (r - 1) (by omega)
    rw [show r - 1 + 1 = r from by omega] at this
    rw [this, ← Nat.add_mod, Nat.add_comm]
theorem fermat' {r a : Nat} (hr : Prime r) (h : ¬ r ∣ a) : a ^ (r - 1) % r = 1 % r := by
  have hr2 := hr.1
  have hf := fermat hr a
  have h1 : a ^ r = a ^ (r - 1) * a := by rw [← Nat.pow_succ, show (r - 1).succ = r from by omega]
  have hle : 1 ≤ a ^ (r - 1) := Nat.one_le_iff_ne_zero.2 (fun h0 => h (by
    rcases Nat.pow_eq_zero.1 h0 with ⟨h0, _⟩
    rw [h0]; exact Nat.dvd_zero r))
  have hd : r ∣ (a ^ (r - 1) - 1) * a := by
    rw [Nat.sub_mul, Nat.one_mul, ← h1]
    have hle2 : a ≤ a ^ r := by rw [h1]; exact Nat.le_mul_of_pos_left a (by omega)
    exact Nat.dvd_of_mod_eq_zero (Nat.sub_mod_eq_zero_of_mod_eq hf)
  rcases hr.dvd_mul hd with h2 | h2
  · obtain ⟨c, hc⟩ := h2
    rw [show a ^ (r - 1) = 1 + r * c from by omega, Nat.add_mul_mod_self_left]
  · exact (h h2).elim

/-! ### Powers, reckoned -/
def mpow (m : Nat) : Nat → Nat → Nat → Nat → Nat
  | 0, acc, _, _ => acc
  | f + 1, acc, b, e => mpow m f (if e % 2 = 1 then acc * b % m else acc) (b * b % m) (e / 2)
theorem mpow_mod (m : Nat) : ∀ f acc b e, e < 2 ^ f → mpow m f acc b e % m = acc * b ^ e % m
  | 0, acc, b, e, h => by
    have : e = 0 := by omega
    subst this; simp [mpow]
  | f + 1, acc, b, e, h => by
    have ih := mpow_mod m f (if e % 2 = 1 then acc * b % m else acc) (b * b % m) (e / 2) (by rw [Nat.pow_succ] at h; omega)
    rw [mpow, ih]
    have hb : (b * b % m) ^ (e / 2) % m = b ^ (2 * (e / 2)) % m := by rw [← Nat.pow_mod, Nat.pow_mul, Nat.pow_two]
    rw [Nat.mul_mod, hb, ← Nat.mul_mod]
    by_cases h1 : e % 2 = 1
    · rw [if_pos h1, Nat.mul_mod, Nat.mod_mod, ← Nat.mul_mod, Nat.mul_assoc, ← Nat.pow_succ', show (2 * (e / 2)).succ = e from by omega]
    · rw [if_neg h1, show 2 * (e / 2) = e from by omega]
theorem pow_mod_of {m f b e v : Nat} (h : mpow m f 1 b e = v) (he : e < 2 ^ f) : b ^ e % m = v % m := by
  rw [← h, mpow_mod m f 1 b e he, Nat.one_mul]

/-! ### Certificates -/
theorem pow_gcd_one {r a : Nat} : ∀ x y, a ^ x % r = 1 % r → a ^ y % r = 1 % r → a ^ Nat.gcd x y % r = 1 % r := by
  intro x
  induction x using Nat.strongRecOn with
  | _ x ih =>
    intro y hx hy
    by_cases h0 : x = 0
    · subst h0; rw [Nat.gcd_zero_left]; exact hy
    · rw [Nat.gcd_rec]
      refine ih (y % x) (Nat.mod_lt _ (by omega)) x ?_ hx
      have e : a ^ y = (a ^ x) ^ (y / x) * a ^ (y % x) := by rw [← Nat.pow_mul, ← Nat.pow_add, Nat.div_add_mod]
      rw [e, Nat.mul_mod, Nat.pow_mod (a ^ x), hx, ← Nat.pow_mod, Nat.one_pow, ← Nat.mul_mod, Nat.one_mul] at hy
      exact hy
/-- n is prime, if q is, q goes into n - 1, and what is known of a. -/
theorem prime_of {n q a m : Nat} (hn : 2 ≤ n) (hq : Prime q) (hm : n - 1 = q * m) (h1 : a ^ (n - 1) % n = 1 % n) (h2 : Nat.gcd (a ^ m % n + n - 1) n = 1) (K : Nat)
    (hK : ∀ k, k ≤ K → 1 ≤ k → ¬ (k * q + 1 ∣ n)) (hsq : n < ((K + 1) * q + 1) * ((K + 1) * q + 1)) : Prime n := by
  apply Classical.byContradiction
  intro hp
  obtain ⟨r, hr, hrn, hrr⟩ := exists_small_prime hn hp
  have hr2 := hr.1
  have mod1 : ∀ x, x % n = 1 % n → x % r = 1 % r := fun x hx => by
    rw [← Nat.mod_mod_of_dvd x hrn, hx, Nat.mod_mod_of_dvd 1 hrn]
  have hna : ¬ r ∣ a := fun h => by
    have h3 := mod1 _ h1
    have : r ∣ a ^ (n - 1) := Nat.dvd_trans h ⟨a ^ (n - 2), by rw [← Nat.pow_succ', show (n - 2).succ = n - 1 from by omega]⟩
    rw [Nat.mod_eq_zero_of_dvd this, Nat.mod_eq_of_lt (by omega)] at h3
    omega
  have hf := fermat' hr hna
  have hg := pow_gcd_one (n - 1) (r - 1) (mod1 _ h1) hf
  -- q goes into r - 1
  have hqr : q ∣ r - 1 := by
    apply Classical.byContradiction
    intro hnq
    have hgm : Nat.gcd (n - 1) (r - 1) ∣ m := by
      have hd : Nat.gcd (n - 1) (r - 1) ∣ q * m := hm ▸ Nat.gcd_dvd_left _ _
      refine Nat.Coprime.dvd_of_dvd_mul_left ?_ hd
      rcases hq.2 (Nat.gcd (Nat.gcd (n - 1) (r - 1)) q) (Nat.gcd_dvd_right _ _) with h | h
      · exact h
      · exact (hnq (Nat.dvd_trans (h ▸ Nat.gcd_dvd_left _ _) (Nat.gcd_dvd_right _ _))).elim
    obtain ⟨c, hc⟩ := hgm
    have h3 : a ^ m % r = 1 % r := by rw [hc, Nat.pow_mul, Nat.pow_mod, hg, ← Nat.pow_mod, Nat.one_pow]
    have h4 : r ∣ a ^ m % n + n - 1 := by
      have e1 : a ^ m % n % r = 1 := by rw [Nat.mod_mod_of_dvd _ hrn, h3, Nat.mod_eq_of_lt (by omega)]
      obtain ⟨t, ht⟩ := hrn
      refine ⟨a ^ m % n / r + t, ?_⟩
      have := Nat.div_add_mod (a ^ m % n) r
      rw [Nat.mul_add, ← ht]
      omega
    have h5 := Nat.dvd_gcd h4 hrn
    rw [h2] at h5
    have := Nat.le_of_dvd (by omega) h5
    omega
  obtain ⟨k, hk⟩ := hqr
  have hk1 : 1 ≤ k := by
    rcases Nat.eq_zero_or_pos k with h | h
    · subst h; omega
    · exact h
  have hrk : r = k * q + 1 := by rw [Nat.mul_comm k q]; omega
  by_cases hle : k ≤ K
  · exact hK k hle hk1 (hrk ▸ hrn)
  · have : (K + 1) * q + 1 ≤ r := by rw [hrk]; exact Nat.add_le_add_right (Nat.mul_le_mul_right q (by omega)) 1
    have := Nat.mul_le_mul this this
    omega
/-- No number from 2 up to d goes into n. -/
def noDiv (n : Nat) : Nat → Bool
  | 0 => true
  | d + 1 => (d + 1 == 1 || n % (d + 1) != 0) && noDiv n d
theorem noDiv_spec (n : Nat) : ∀ d, noDiv n d = true → ∀ k, 2 ≤ k → k ≤ d → ¬ k ∣ n
  | 0, _, k, h2, hk => by omega
  | d + 1, h, k, h2, hk => by
    simp only [noDiv, Bool.and_eq_true, Bool.or_eq_true, beq_iff_eq, bne_iff_ne] at h
    rcases Nat.eq_or_lt_of_le hk with e | e
    · subst e
      intro hd
      rcases h.1 with h | h
      · omega
      · exact h (Nat.mod_eq_zero_of_dvd hd)
    · exact noDiv_spec n d h.2 k h2 (by omega)
theorem prime_by_trial {n d : Nat} (hn : 2 ≤ n) (h : noDiv n d = true) (hd : n < (d + 1) * (d + 1)) : Prime n := by
  apply Classical.byContradiction
  intro hp
  obtain ⟨r, hr, hrn, hrr⟩ := exists_small_prime hn hp
  by_cases hle : r ≤ d
  · exact noDiv_spec n d h r hr.1 hle hrn
  · have := Nat.mul_le_mul (show d + 1 ≤ r by omega) (show d + 1 ≤ r by omega)
    omega
/-- No k q + 1 goes into n, k from 1 to K. -/
def noStep (n q : Nat) : Nat → Bool
  | 0 => true
  | k + 1 => n % ((k + 1) * q + 1) != 0 && noStep n q k
theorem noStep_spec (n q : Nat) : ∀ K, noStep n q K = true → ∀ k, k ≤ K → 1 ≤ k → ¬ (k * q + 1 ∣ n)
  | 0, _, k, hk, h1 => by omega
  | K + 1, h, k, hk, h1 => by
    simp only [noStep, Bool.and_eq_true, bne_iff_ne] at h
    rcases Nat.eq_or_lt_of_le hk with e | e
    · subst e; exact fun hd => h.1 (Nat.mod_eq_zero_of_dvd hd)
    · exact noStep_spec n q K h.2 k (by omega) h1

theorem prime4 : Prime 8574133 := prime_by_trial (d := 2930) (by decide) (by kernel_rfl) (by decide)
/-- One link, with all that is reckoned. -/
theorem link {n q m v f K : Nat} (hn : 2 ≤ n) (hq : Prime q) (hm : (n - 1 == q * m) = true) (h1 : (mpow n f 1 2 (n - 1) == 1) = true) (hv : (mpow n f 1 2 m == v) = true) (h2 : (Nat.gcd (v % n + n - 1) n == 1) = true)
    (hf : (decide (n - 1 < 2 ^ f) && decide (m < 2 ^ f)) = true) (hK : noStep n q K = true) (hsq : decide (n < ((K + 1) * q + 1) * ((K + 1) * q + 1)) = true) : Prime n := by
  simp only [Bool.and_eq_true, decide_eq_true_eq, beq_iff_eq] at *
  refine prime_of (a := 2) (m := m) hn hq hm (pow_mod_of h1 hf.1) ?_ K (noStep_spec n q K hK) hsq
  rw [pow_mod_of hv hf.2]; exact h2
theorem prime3 : Prime 1919519569386763 := link (q := 8574133) (m := 223873314) (v := 1059928654987441) (f := 51) (K := 5) (by decide) prime4 (by kernel_rfl) (by kernel_rfl) (by kernel_rfl) (by kernel_rfl) (by kernel_rfl) (by kernel_rfl) (by kernel_rfl)
theorem prime2 : Prime 75445702479781427272750846543864801 := link (q := 1919519569386763) (m := 39304471641247389600) (v := 56747016255153332959347766392083459) (f := 116) (K := 143) (by decide) prime3 (by kernel_rfl) (by kernel_rfl) (by kernel_rfl) (by kernel_rfl) (by kernel_rfl) (by kernel_rfl) (by kernel_rfl)
theorem prime1 : Prime 74058212732561358302231226437062788676166966415465897661863160754340907 := link (q := 75445702479781427272750846543864801) (m := 981609426360740691344999861639072106) (v := 69490809710348678725736597923071784769591275419387514694139338586948360) (f := 236) (K := 3) (by decide) prime2 (by kernel_rfl) (by kernel_rfl) (by kernel_rfl) (by kernel_rfl) (by kernel_rfl) (by kernel_rfl) (by kernel_rfl)
theorem primeP : Prime 57896044618658097711785492504343953926634992332820282019728792003956564819949 := link (q := 74058212732561358302231226437062788676166966415465897661863160754340907) (m := 781764) (v := 427094198651976259540344842774561673889945192655078505504941250475370961481) (f := 255) (K := 0) (by decide) prime1 (by kernel_rfl) (by kernel_rfl) (by kernel_rfl) (by kernel_rfl) (by kernel_rfl) (by kernel_rfl) (by kernel_rfl)
#print axioms primeP
end Go.Proofs.Ytakhmmnklkckpaa
