/- The ladder's example: the public number of a secret of 1, reckoned. -/
import Derived.Test.YtakhmmnklkckpaaLdN
import Derived.Test.YtakhmmnklkckpaaLdF
namespace Go.Proofs.Ytakhmmnklkckpaa
set_option maxRecDepth 100000 in
theorem lad_1 : ladF (toFp 9) (kbit (clD (b1 1))) = toFp (52573937849532372069814888178136277301931757964231753054399601207743438775599 : Nat) :=
  ladF_reckoned 9 52573937849532372069814888178136277301931757964231753054399601207743438775599 (by kernel_rfl) (by decide) (by kernel_rfl)
theorem lad_1_bytes : el (bytesF (ladF (toFp 9) (kbit (clD (b1 1))))) 0 = 47 ∧ el (bytesF (ladF (toFp 9) (kbit (clD (b1 1))))) 1 = 229 ∧ el (bytesF (ladF (toFp 9) (kbit (clD (b1 1))))) 31 = 116 := by
  rw [lad_1]
  exact ⟨by kernel_rfl, by kernel_rfl, by kernel_rfl⟩
end Go.Proofs.Ytakhmmnklkckpaa
