/- More on rows of structs. -/
import Derived.Test.YtbhnfohoclcjdaaGnG
set_option linter.unusedVariables false
set_option linter.unusedSimpArgs false
namespace Go
open Go.Dr
theorem flatMap_part {α β : Type} (f : α → List β) (m : Nat) : ∀ (xs : List α) (j : Nat) (x : α), (∀ x ∈ xs, (f x).length = m) → xs[j]? = some x → ((xs.flatMap f).drop (j * m)).take m = f x := by
  intro xs
  induction xs with
  | nil => intro j x _ h; simp at h
  | cons y xs ih =>
    intro j x hm h
    have hy := hm y (by simp)
    cases j with
    | zero =>
      simp only [List.getElem?_cons_zero, Option.some.injEq] at h
      subst h
      rw [Nat.zero_mul, List.drop_zero, List.flatMap_cons, List.take_append_of_le_length (by omega), List.take_of_length_le (by omega)]
    | succ j =>
      rw [List.flatMap_cons, List.drop_append, List.drop_eq_nil_of_le (by rw [hy, Nat.add_mul]; omega), List.nil_append, hy, show (j + 1) * m - m = j * m by rw [Nat.add_mul]; omega]
      exact ih j x (fun z hz => hm z (by simp [hz])) (by simpa using h)
theorem Sv.elem {sz : Nat} {w : World} {p : Option Addr} {n cap : Nat} {vs : List Value} (h : Sv sz w p n cap vs) {j : Nat} (hj : j < n) :
    ∃ b off cs T fr, p = some ⟨b, off, none⟩ ∧ w.blk b = some (.cells cs T fr) ∧ off + n * sz ≤ cs.size ∧ off + j * sz + sz ≤ cs.size ∧ cs.extract (off + j * sz) (off + j * sz + sz) = ((vs.drop (j * sz)).take sz).toArray := by
  obtain ⟨b, off, cs, T, fr, hp, hb, hs, hat⟩ := h.at hj
  have h1 : (j + 1) * sz ≤ n * sz := Nat.mul_le_mul_right _ hj
  rw [Nat.add_mul, Nat.one_mul] at h1
  have hl := h.len
  refine ⟨b, off, cs, T, fr, hp, hb, hs, by omega, ?_⟩
  apply Array.ext_getElem?
  intro i
  rcases Nat.lt_or_ge i sz with hi | hi
  · rw [Array.getElem?_extract_of_lt (by omega), ← Array.getElem?_eq_getElem, hat i hi]
    simp [List.getElem?_take, List.getElem?_drop, hi]
  · rw [Array.getElem?_eq_none (by simp only [Array.size_extract]; omega), Array.getElem?_eq_none (by simp; omega)]
end Go
