/- Numbers of bytes, their bits, and what is left of them modulo the base's order. -/
import Derived.Test.YtakhmmnklkckpaaScE
namespace Go.Proofs.Ytakhmmnklkckpaa
open Go.RowKit Go.Dr
/-- The number that bytes say, the least first. -/
def vB : List Int → Int
  | [] => 0
  | b :: l => b + 256 * vB l
theorem vB_nonneg : ∀ {l : List Int}, Byt l → 0 ≤ vB l
  | [], _ => Int.le_refl 0
  | b :: l, h => by
    have h1 := h b (List.mem_cons_self ..)
    have h2 := vB_nonneg (l := l) fun x hx => h x (List.mem_cons_of_mem _ hx)
    unfold vB
    omega
theorem vB_drop : ∀ (l : List Int) (q : Nat), Byt l → vB l / 256 ^ q = vB (l.drop q)
  | l, 0, _ => by simp
  | [], q + 1, _ => by simp [vB]
  | b :: l, q + 1, h => by
    have h1 := h b (List.mem_cons_self ..)
    have ih := vB_drop l q fun x hx => h x (List.mem_cons_of_mem _ hx)
    rw [List.drop_succ_cons, ← ih, vB, Int.pow_succ, Int.mul_comm (256 ^ q) 256, ← Int.ediv_ediv_of_nonneg (by decide)]
    congr 1
    omega
theorem vB_head (l : List Int) : vB l = el l 0 + 256 * vB (l.drop 1) := by
  cases l with
  | nil => rfl
  | cons b l => rfl
theorem vB_bit {l : List Int} (h : Byt l) (i : Nat) : vB l / 2 ^ i % 2 = bitI l i := by
  obtain ⟨q, r, hr, rfl⟩ : ∃ q r, r < 8 ∧ i = 8 * q + r := ⟨i / 8, i % 8, by omega, by omega⟩
  have h1 := vB_drop l q h
  have hd : Byt (l.drop q) := fun x hx => h x (List.mem_of_mem_drop hx)
  have h0 := vB_nonneg (l := (l.drop q).drop 1) fun x hx => hd x (List.mem_of_mem_drop hx)
  have hb := byt_el hd 0
  rw [bitI, show (8 * q + r) / 8 = q from by omega, show (8 * q + r) % 8 = r from by omega, Int.pow_add, Int.pow_mul, show (2 : Int) ^ 8 = 256 from rfl, ← Int.ediv_ediv_of_nonneg (Int.pow_nonneg (by decide)), h1, vB_head (l.drop q), el_drop, Nat.add_zero]
  rw [el_drop, Nat.add_zero] at hb
  generalize el l q = x at *
  generalize vB ((l.drop q).drop 1) = y at *
  match r, hr with
  | 0, _ => simp; omega
  | 1, _ => simp; omega
  | 2, _ => simp; omega
  | 3, _ => simp; omega
  | 4, _ => simp; omega
  | 5, _ => simp; omega
  | 6, _ => simp; omega
  | 7, _ => simp; omega
theorem vB_lt : ∀ {l : List Int}, Byt l → vB l < 256 ^ l.length
  | [], _ => by simp [vB]
  | b :: l, h => by
    have h1 := h b (List.mem_cons_self ..)
    have ih := vB_lt (l := l) fun x hx => h x (List.mem_cons_of_mem _ hx)
    rw [List.length_cons, Int.pow_succ, vB]
    omega
theorem mstep_mod (v : Int) (b : Bit) : mstep (v % oL) b = (2 * v + b.1) % oL := by
  have := b.2
  unfold mstep oL
  split <;> omega
theorem modS_take {B : List Int} (hB : Byt B) : ∀ j, j ≤ 8 * B.length → modS ((bitsD B).take j) = vB B / 2 ^ (8 * B.length - j) % oL
  | 0, _ => by
    have h1 := vB_lt hB
    have h2 := vB_nonneg hB
    rw [List.take_zero, Nat.sub_zero, Int.pow_mul, show (2 : Int) ^ 8 = 256 from rfl, Int.ediv_eq_zero_of_lt h2 h1]
    rfl
  | j + 1, h => by
    rw [take_bitsD B j (by omega), modS_snoc, modS_take hB j (by omega), mstep_mod]
    congr 1
    obtain ⟨m, hm⟩ : ∃ m, 8 * B.length - j = m + 1 := ⟨8 * B.length - j - 1, by omega⟩
    have h1 := vB_bit hB m
    have e : (dnB B (8 * B.length - 1 - j)).1 = bitI B m := by
      show bitI B (8 * B.length - 1 - j) = _
      rw [show 8 * B.length - 1 - j = m from by omega]
    rw [e, ← h1, hm, show 8 * B.length - (j + 1) = m from by omega, Int.pow_succ, ← Int.ediv_ediv_of_nonneg (Int.pow_nonneg (by decide))]
    omega
/-- Modulo is modulo. -/
theorem modS_bits {B : List Int} (hB : Byt B) : modS (bitsD B) = vB B % oL := by
  have h := modS_take hB (8 * B.length) (Nat.le_refl _)
  rw [List.take_of_length_le (by rw [length_bitsD]; exact Nat.le_refl _), Nat.sub_self] at h
  simpa using h
/-- The bytes of words say the words' number. -/
theorem vB_map (f : Nat → Int) : ∀ n, vB ((List.range (n + 1)).map f) = vB ((List.range n).map f) + 256 ^ n * f n := by
  have app : ∀ (l : List Int) (x : Int), vB (l ++ [x]) = vB l + 256 ^ l.length * x := by
    intro l x
    induction l with
    | nil => simp [vB]
    | cons b l ih =>
      show b + 256 * vB (l ++ [x]) = b + 256 * vB l + 256 ^ (l.length + 1) * x
      have e : (256 : Int) ^ (l.length + 1) * x = 256 * (256 ^ l.length * x) := by rw [Int.pow_succ, Int.mul_comm (256 ^ l.length) 256, Int.mul_assoc]
      rw [ih, e]
      omega
  intro n
  rw [List.range_succ, List.map_append, List.map_cons, List.map_nil, app, List.length_map, List.length_range]
end Go.Proofs.Ytakhmmnklkckpaa
