/- The bytes of a number below 2^256, by words and by bytes. -/
import Derived.Test.YtakhmmnklkckpaaScR
namespace Go.Proofs.Ytakhmmnklkckpaa
open Go.RowKit Go.Dr
theorem obF_w4 {n : Int} (i : Nat) (hi : i < 32) : obF (w4 n) i = n / 256 ^ i % 256 := by
  unfold obF w4 el
  have h : i = 0 ∨ i = 1 ∨ i = 2 ∨ i = 3 ∨ i = 4 ∨ i = 5 ∨ i = 6 ∨ i = 7 ∨ i = 8 ∨ i = 9 ∨ i = 10 ∨ i = 11 ∨ i = 12 ∨ i = 13 ∨ i = 14 ∨ i = 15 ∨ i = 16 ∨ i = 17 ∨ i = 18 ∨ i = 19 ∨ i = 20 ∨ i = 21 ∨ i = 22 ∨ i = 23 ∨ i = 24 ∨ i = 25 ∨ i = 26 ∨ i = 27 ∨ i = 28 ∨ i = 29 ∨ i = 30 ∨ i = 31 := by omega
  rcases h with rfl | rfl | rfl | rfl | rfl | rfl | rfl | rfl | rfl | rfl | rfl | rfl | rfl | rfl | rfl | rfl | rfl | rfl | rfl | rfl | rfl | rfl | rfl | rfl | rfl | rfl | rfl | rfl | rfl | rfl | rfl | rfl <;> simp <;> omega
theorem outF_w4 (n : Int) : outF (w4 n) = (List.range 32).map fun i => n / 256 ^ i % 256 := by
  unfold outF
  exact List.map_congr_left fun i hi => obF_w4 i (List.mem_range.1 hi)
end Go.Proofs.Ytakhmmnklkckpaa
