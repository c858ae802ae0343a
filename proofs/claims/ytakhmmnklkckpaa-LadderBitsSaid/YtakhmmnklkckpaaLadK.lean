/- Which bits of a secret, and of a number, count. -/
import Derived.Test.YtakhmmnklkckpaaLdL
namespace Go.Proofs.Ytakhmmnklkckpaa
open Go.RowKit Go.Dr
theorem or8_fin : ∀ (p : Fin 32) (q : Fin 8), (p.val * 8 ||| q.val) = p.val * 8 + q.val := by decide +kernel
theorem or64_fin2 : ∀ (p : Fin 64) (q : Fin 4), (p.val ||| q.val * 64) = p.val + q.val * 64 := by decide +kernel
theorem or128_fin : ∀ (p : Fin 128) (q : Fin 2), (p.val ||| q.val * 128) = p.val + q.val * 128 := by decide +kernel
theorem or8_nat (p q : Nat) (hp : p < 32) (hq : q < 8) : (p * 8 ||| q) = p * 8 + q := or8_fin ⟨p, hp⟩ ⟨q, hq⟩
theorem or64_nat2 (p q : Nat) (hp : p < 64) (hq : q < 4) : (p ||| q * 64) = p + q * 64 := or64_fin2 ⟨p, hp⟩ ⟨q, hq⟩
theorem or128_nat (p q : Nat) (hp : p < 128) (hq : q < 2) : (p ||| q * 128) = p + q * 128 := or128_fin ⟨p, hp⟩ ⟨q, hq⟩
theorem u8_or' (a b : Int) (ha : 0 ≤ a ∧ a < 256) (hb : 0 ≤ b ∧ b < 256) : bits BinOp.or IntKind.u8 a b = ((a.toNat ||| b.toNat : Nat) : Int) := u8_or a b ha.1 ha.2 hb.1 hb.2
theorem and248 {x : Int} (hx : 0 ≤ x ∧ x < 256) : bits BinOp.and IntKind.u8 x 248 = x / 8 * 8 :=
  eq_of_beq (all_bytes (p := fun x => bits BinOp.and IntKind.u8 x 248 == x / 8 * 8) (by kernel_rfl) hx)
theorem and7 {x : Int} (hx : 0 ≤ x ∧ x < 256) : bits BinOp.and IntKind.u8 x 7 = x % 8 :=
  eq_of_beq (all_bytes (p := fun x => bits BinOp.and IntKind.u8 x 7 == x % 8) (by kernel_rfl) hx)
theorem and63 {x : Int} (hx : 0 ≤ x ∧ x < 256) : bits BinOp.and IntKind.u8 x 63 = x % 64 :=
  eq_of_beq (all_bytes (p := fun x => bits BinOp.and IntKind.u8 x 63 == x % 64) (by kernel_rfl) hx)
theorem and192 {x : Int} (hx : 0 ≤ x ∧ x < 256) : bits BinOp.and IntKind.u8 x 192 = x / 64 * 64 :=
  eq_of_beq (all_bytes (p := fun x => bits BinOp.and IntKind.u8 x 192 == x / 64 * 64) (by kernel_rfl) hx)
theorem and128 {x : Int} (hx : 0 ≤ x ∧ x < 256) : bits BinOp.and IntKind.u8 x 128 = x / 128 * 128 :=
  eq_of_beq (all_bytes (p := fun x => bits BinOp.and IntKind.u8 x 128 == x / 128 * 128) (by kernel_rfl) hx)
theorem mix0 {x l : Int} (hx : 0 ≤ x ∧ x < 256) (hl : 0 ≤ l ∧ l < 256) : bits BinOp.or IntKind.u8 (bits BinOp.and IntKind.u8 x 248) (bits BinOp.and IntKind.u8 l 7) = x / 8 * 8 + l % 8 := by
  rw [and248 hx, and7 hl, u8_or' _ _ (by omega) (by omega)]
  rw [show (x / 8 * 8).toNat = (x / 8).toNat * 8 from by omega, or8_nat _ _ (by omega) (by omega)]
  omega
theorem mix31 {x t : Int} (hx : 0 ≤ x ∧ x < 256) (ht : 0 ≤ t ∧ t < 256) : bits BinOp.or IntKind.u8 (bits BinOp.and IntKind.u8 x 63) (bits BinOp.and IntKind.u8 t 192) = x % 64 + t / 64 * 64 := by
  rw [and63 hx, and192 ht, u8_or' _ _ (by omega) (by omega)]
  rw [show (t / 64 * 64).toNat = (t / 64).toNat * 64 from by omega, or64_nat2 _ _ (by omega) (by omega)]
  omega
theorem mixU {x t : Int} (hx : 0 ≤ x ∧ x < 256) (ht : 0 ≤ t ∧ t < 256) : bits BinOp.or IntKind.u8 (bits BinOp.and IntKind.u8 x 127) (bits BinOp.and IntKind.u8 t 128) = x % 128 + t / 128 * 128 := by
  rw [and127 hx, and128 ht, u8_or' _ _ (by omega) (by omega)]
  rw [show (t / 128 * 128).toNat = (t / 128).toNat * 128 from by omega, or128_nat _ _ (by omega) (by omega)]
  omega
/-- The other secret, the other number. -/
def otherB (S : List Int) (l t : Int) : List Int := (S.set 0 (bits BinOp.or IntKind.u8 (bits BinOp.and IntKind.u8 (el S 0) 248) (bits BinOp.and IntKind.u8 l 7))).set 31
  (bits BinOp.or IntKind.u8 (bits BinOp.and IntKind.u8 (el (S.set 0 (bits BinOp.or IntKind.u8 (bits BinOp.and IntKind.u8 (el S 0) 248) (bits BinOp.and IntKind.u8 l 7))) 31) 63) (bits BinOp.and IntKind.u8 t 192))
def otherU (U : List Int) (t : Int) : List Int := U.set 31 (bits BinOp.or IntKind.u8 (bits BinOp.and IntKind.u8 (el U 31) 127) (bits BinOp.and IntKind.u8 t 128))
theorem length_otherB (S : List Int) (l t : Int) : (otherB S l t).length = S.length := by simp [otherB]
theorem length_otherU (U : List Int) (t : Int) : (otherU U t).length = U.length := by simp [otherU]
theorem otherB_eq {S : List Int} {l t : Int} (hS : S.length = 32) (bS : Byt S) (hl : 0 ≤ l ∧ l < 256) (ht : 0 ≤ t ∧ t < 256) : otherB S l t = (S.set 0 (el S 0 / 8 * 8 + l % 8)).set 31 (el S 31 % 64 + t / 64 * 64) := by
  unfold otherB
  rw [mix0 (byt_el bS 0) hl, el_set _ _ _ _ (by omega), if_neg (by omega), mix31 (byt_el bS 31) ht]
theorem byt_otherB {S : List Int} {l t : Int} (hS : S.length = 32) (bS : Byt S) (hl : 0 ≤ l ∧ l < 256) (ht : 0 ≤ t ∧ t < 256) : Byt (otherB S l t) := by
  rw [otherB_eq hS bS hl ht]
  have h0 := byt_el bS 0
  have h31 := byt_el bS 31
  exact byt_set (byt_set bS 0 (by omega)) 31 (by omega)
theorem otherU_eq {U : List Int} {t : Int} (bU : Byt U) (ht : 0 ≤ t ∧ t < 256) : otherU U t = U.set 31 (el U 31 % 128 + t / 128 * 128) := by
  unfold otherU
  rw [mixU (byt_el bU 31) ht]
theorem byt_otherU {U : List Int} {t : Int} (bU : Byt U) (ht : 0 ≤ t ∧ t < 256) : Byt (otherU U t) := by
  rw [otherU_eq bU ht]
  have h31 := byt_el bU 31
  exact byt_set bU 31 (by omega)
theorem clD_other {S : List Int} {l t : Int} (hS : S.length = 32) (bS : Byt S) (hl : 0 ≤ l ∧ l < 256) (ht : 0 ≤ t ∧ t < 256) : clD (otherB S l t) = clD S := by
  rw [otherB_eq hS bS hl ht]
  have h0 := byt_el bS 0
  have h31 := byt_el bS 31
  obtain ⟨x, hx⟩ : ∃ x, x = el S 0 / 8 * 8 + l % 8 := ⟨_, rfl⟩
  obtain ⟨y, hy⟩ : ∃ y, y = el S 31 % 64 + t / 64 * 64 := ⟨_, rfl⟩
  rw [← hx, ← hy]
  unfold clD
  have e0 : el ((S.set 0 x).set 31 y) 0 = x := by rw [el_set _ _ _ _ (by simp; omega), if_neg (by omega), el_set_same _ _ _ (by omega)]
  have e31 : ∀ z, el (((S.set 0 x).set 31 y).set 0 z) 31 = y := fun z => by rw [el_set _ _ _ _ (by simp; omega), if_neg (by omega), el_set_same _ _ _ (by simp; omega)]
  have f31 : ∀ z, el (S.set 0 z) 31 = el S 31 := fun z => by rw [el_set _ _ _ _ (by omega), if_neg (by omega)]
  rw [e0, e31, f31]
  have g0 : x.tdiv 8 % 256 * 8 % 256 = (el S 0).tdiv 8 % 256 * 8 % 256 := by
    rw [Int.tdiv_eq_ediv_of_nonneg (by omega), Int.tdiv_eq_ediv_of_nonneg h0.1]; omega
  have g31 : (y.tmod 64 + 64) % 256 = ((el S 31).tmod 64 + 64) % 256 := by
    rw [Int.tmod_eq_emod_of_nonneg (by omega), Int.tmod_eq_emod_of_nonneg h31.1]; omega
  rw [g0, g31]
  generalize (el S 0).tdiv 8 % 256 * 8 % 256 = c
  generalize ((el S 31).tmod 64 + 64) % 256 = d
  apply List.ext_getElem?
  intro i
  simp only [List.getElem?_set, List.length_set]
  by_cases h1 : 31 = i
  · simp [h1]
  · by_cases h2 : 0 = i
    · simp [h1, h2]
    · simp [h1, h2]
theorem le_set : ∀ (l : List Int) (i : Nat) (x : Int), i < l.length → le (l.set i x) = le l + (x - el l i) * 256 ^ i
  | [], i, x, h => by simp at h
  | a :: l, 0, x, _ => by simp only [List.set_cons_zero, le, el_zero]; omega
  | a :: l, i + 1, x, h => by
    simp only [List.set_cons_succ, le, el_succ]
    rw [le_set l i x (by simpa using h), Int.pow_succ, Int.mul_add, ← Int.add_assoc]
    congr 1
    rw [Int.mul_comm (256 : Int) _, Int.mul_assoc]
theorem fromB_other {U : List Int} {t : Int} (hU : U.length = 32) (bU : Byt U) (ht : 0 ≤ t ∧ t < 256) : fromB (otherU U t) = fromB U := by
  rw [otherU_eq bU ht]
  unfold fromB
  rw [le_set _ _ _ (by omega)]
  have h31 := byt_el bU 31
  obtain ⟨k, hk⟩ : ∃ k, k = t / 128 - el U 31 / 128 := ⟨_, rfl⟩
  have e : (el U 31 % 128 + t / 128 * 128 - el U 31) * 256 ^ 31 = k * 57896044618658097711785492504343953926634992332820282019728792003956564819968 := by
    have : el U 31 % 128 + t / 128 * 128 - el U 31 = k * 128 := by omega
    rw [this, Int.mul_assoc]
    rfl
  rw [e, Int.add_mul_emod_self_right]
theorem ladB_other {S U : List Int} {l t : Int} (hS : S.length = 32) (bS : Byt S) (hU : U.length = 32) (bU : Byt U) (hl : 0 ≤ l ∧ l < 256) (ht : 0 ≤ t ∧ t < 256) : ladB (otherB S l t) (otherU U t) = ladB S U := by
  unfold ladB
  rw [clD_other hS bS hl ht, fromB_other hU bU ht]
theorem ladB_zero (S : List Int) : ladB S (b1 0) = b1 0 := by
  unfold ladB
  rw [fromB_b1 (by decide), toFp_zero, ladF_zero, bytesF_0]
end Go.Proofs.Ytakhmmnklkckpaa
