/- The ladder's contracts by name; the secret's bits. -/
import Derived.Test.YtakhmmnklkckpaaLad
import Derived.Test.YtakhmmnklkckpaaLdC
import Derived.Test.YtakhmmnklkckpaaLdB
import Derived.Test.YtakhmmnklkckpaaParB
import Derived.ScopeJumps
namespace Go.Proofs.Ytakhmmnklkckpaa
open Go.RowKit Go.Dr
section
variable {w : World}
theorem dsum_n (A B C D X : Fp) : Calls Try.prog 78 #[dF A, dF B, dF C, dF D, dF X] w fun e w' => e = .returned (.tuple #[dF (sumX A B C D), dF (sumZ X A B C D)]) ∧ Fr [] w w' := dsum_f A B C D X
theorem ddbl_n {M : Fp} (A B : Fp) (h : kA = M) : Calls Try.prog 79 #[dF A, dF B, dF M] w fun e w' => e = .returned (.tuple #[dF (dblX A B), dF (dblZ kA A B)]) ∧ Fr [] w w' := h ▸ ddouble_f A B kA
theorem small_n {y : Fp} (n : Nat) (hn : n ≤ 1099511627776) (h : toFp (n : Int) = y) : Calls Try.prog 76 #[.int .i64 n] w fun e w' => e = .returned (dF y) ∧ Fr [] w w' := h ▸ small_f n hn
theorem rof_n {b : List Int} {X : Fp} (hX : fromB b = X) (hlb : b.length = 32) (hb : Byt b) : Calls Try.prog 29 #[.agg (ints .u8 b)] w fun e w' => e = .returned (dF X) ∧ Fr [] w w' := hX ▸ rof_b hlb hb
theorem of_n {b : List Int} {X : Fp} (hX : fromB b = X) (hlb : b.length = 32) (hb : Byt b) : Calls Try.prog 27 #[.agg (ints .u8 b)] w fun e w' => ∃ c, e = .returned (fe c) ∧ Is c X ∧ Fr [] w w' := hX ▸ of_b hlb hb
/-- The secret as it is used: as the document has it. -/
def clD (S : List Int) : List Int := (S.set 0 ((el S 0).tdiv 8 % 256 * 8 % 256)).set 31 (((el (S.set 0 ((el S 0).tdiv 8 % 256 * 8 % 256)) 31).tmod 64 + 64) % 256)
def kbit (C : List Int) (i : Nat) : Bool := decide (el C (i / 8) / 2 ^ (i % 8) % 2 = 1)
theorem byt_el {l : List Int} (h : Byt l) (i : Nat) : 0 ≤ el l i ∧ el l i < 256 := by
  unfold el
  rw [List.getD_eq_getElem?_getD]
  cases hi : l[i]? with
  | none => simp
  | some x => exact h x (List.mem_of_getElem? hi)
theorem byt_set {l : List Int} (h : Byt l) (i : Nat) {x : Int} (hx : 0 ≤ x ∧ x < 256) : Byt (l.set i x) := fun y hy => by
  rcases List.mem_or_eq_of_mem_set hy with hy | rfl
  · exact h y hy
  · exact hx
theorem byt_clD {S : List Int} (h : Byt S) : Byt (clD S) := byt_set (byt_set h 0 (by omega)) 31 (by omega)
theorem length_clD (S : List Int) : (clD S).length = S.length := by simp [clD]
theorem div_pow_range {x : Int} (h : 0 ≤ x ∧ x < 256) (k : Nat) : 0 ≤ x / 2 ^ k ∧ x / 2 ^ k < 256 := by
  have hp : (0 : Int) < 2 ^ k := Int.pow_pos (by omega)
  refine ⟨Int.ediv_nonneg h.1 (by omega), ?_⟩
  exact Int.lt_of_le_of_lt (Int.ediv_le_self _ h.1) h.2
end
end Go.Proofs.Ytakhmmnklkckpaa
