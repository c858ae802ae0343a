/- What is checked of the program alone, once for all claims of the seat. -/
import Derived.Test.YtbhnfohoclcjdaaKdX
set_option linter.unusedVariables false
set_option linter.unusedSimpArgs false
namespace Go.Proofs.Ytbhnfohoclcjdaa
open Go.ChangeShapes Go.WideShapes Go.ChangeAt Go.RowKit Go.Dr
theorem and_true' {a b : Bool} (h : a = true) (k : b = true) : (a && b) = true := by rw [h, k]; rfl
theorem mapsRowedFact : (mapsRowed Try.pinned.checked.prog) = true := by kernel_rfl
theorem mayEnterFact : (Try.pinned.checked.prog.mayEnter) = true := by kernel_rfl
theorem liftsFact : ((Rows.keydirFreeRow.lifted == Try.pinned.checked.prog.liftsFinal)) = true := by kernel_rfl
theorem makeFact : ((Try.pinned.checked.prog.make == some Rows.keydirFreeRow.make)) = true := by kernel_rfl
end Go.Proofs.Ytbhnfohoclcjdaa
