/- Multiples of points, named; the order's bytes. -/
import Derived.Test.YtakhmmnklkckpaaZw
import Derived.Test.YtakhmmnklkckpaaZl
import Derived.Test.YtakhmmnklkckpaaZq
namespace Go.Proofs.Ytakhmmnklkckpaa
open Go.RowKit Go.Dr
section
variable {w : World}
theorem cmulP_n {S x y z t : List Int} {s : Bool} {P M : Pt} (hM : mulP dC (numB S) P = M) (hS : S.length = 32) (bS : Byt S) (hP : CP x y z t s P) :
    Calls Try.prog 55 #[.agg (ints .u8 S), .agg (ptC x y z t s)] w fun e w' => ∃ x y z t s, e = .returned (.agg (ptC x y z t s)) ∧ CP x y z t s M ∧ Fr [] w w' := hM ▸ cmulP_f hS bS hP
theorem dmulP_n {S : List Int} {X Y Z : Fp} {P M : Pt} (hM : mulP dC (numB S) P = M) (hS : S.length = 32) (bS : Byt S) (hP : DSays X Y Z P) :
    Calls Try.prog 57 #[.agg (ints .u8 S), .agg (dpC X Y Z)] w fun e w' => ∃ X Y Z, e = .returned (.agg (dpC X Y Z)) ∧ DSays X Y Z M ∧ Fr [] w w' := hM ▸ dmulP_f hS bS hP

end
def ordB0 : List Int := [237, 211, 245, 92, 26, 99, 18, 88, 214, 156, 247, 162, 222, 249, 222, 20, 0, 0, 0, 0, 0, 0, 0, 0, 0, 0, 0, 0, 0, 0, 0, 0]
theorem byt_ordB : Byt (ordB0.set 31 16) := fun y hy => by
  have h : (ordB0.set 31 16).all (fun y => decide (0 ≤ y) && decide (y < 256)) = true := by decide
  have := List.all_eq_true.1 h y hy
  simpa using this
theorem num_ordB : numB (ordB0.set 31 16) = ordL := by decide +kernel
end Go.Proofs.Ytakhmmnklkckpaa
