/- The ladder's contracts: Mul of the code and of the document. -/
import Derived.Test.YtakhmmnklkckpaaLdG
import Derived.Test.YtakhmmnklkckpaaLdH
namespace Go.Proofs.Ytakhmmnklkckpaa
open Go.RowKit Go.Dr
section
variable {w : World}
/-- A secret times a number, as bytes. -/
def ladB (S U : List Int) : List Int := bytesF (ladF (fromB U) (kbit (clD S)))
@[go_sem] theorem len_ladB (S U : List Int) : (ladB S U).length = 32 := length_bytesF _
theorem byt_ladB (S U : List Int) : Byt (ladB S U) := byt_bytesF _
theorem lmul_f {S U : List Int} (hS : S.length = 32) (bS : Byt S) (hU : U.length = 32) (bU : Byt U) :
    Calls Try.prog 43 #[.agg (ints .u8 S), .agg (ints .u8 U)] w fun e w' => e = .returned (.agg (ints .u8 (ladB S U))) ∧ Fr [] w w' :=
  cmul_core S U (clD S) (fromB U) hS hU bU (clC_eq bS) (by rw [length_clD, hS]) (byt_clD bS) rfl
theorem dlmul_f {S U : List Int} (hS : S.length = 32) (bS : Byt S) (hU : U.length = 32) (bU : Byt U) :
    Calls Try.prog 44 #[.agg (ints .u8 S), .agg (ints .u8 U)] w fun e w' => e = .returned (.agg (ints .u8 (ladB S U))) ∧ Fr [] w w' :=
  dmul_core S U (clD S) (fromB U) kA (toFp 1) (toFp 0) hS hU bU rfl (by rw [length_clD, hS]) (byt_clD bS) rfl rfl rfl rfl
theorem byt_9 : Byt (b1 9) := byt_b1 (by decide)
theorem lad_alive : el (ladB (b1 1) (b1 9)) 0 = 47 ∧ el (ladB (b1 1) (b1 9)) 1 = 229 ∧ el (ladB (b1 1) (b1 9)) 31 = 116 := by
  have := lad_1_bytes
  unfold ladB
  rw [fromB_b1 (by decide)]
  exact this
end
end Go.Proofs.Ytakhmmnklkckpaa
