/- Numbers of names. -/
import Derived.Test.YtbhnfohoclcjdaaKdC
set_option linter.unusedVariables false
set_option linter.unusedSimpArgs false
namespace Go.Proofs.Ytbhnfohoclcjdaa
open Go.RowKit Go.Dr Go.Kd
theorem conv47 {w : World} {p : Option Addr} {n cap : Nat} {l : List Int} (S : Sl .u8 w p n cap l) : (convert 47 9 (.slice p n cap)).run Try.prog w = .ok (.string (strB l)) w := by
  rw [run_convert_bytes_string w 47 9 5 p n cap Try.underlying47 Try.underlying5 Try.underlying9]
  exact S.toStr
section
variable {w : World}
set_option maxRecDepth 100000 in
set_option maxHeartbeats 2000000 in
theorem text_f {k : List Int} (hk : k.length = 32) : Calls Try.prog 83 #[.agg (ints .u8 k)] w fun e w' => e = .returned (.string (strB k)) ∧ Fr [] w w' := by
  have O := (OwB.start w).allocN (.cells (ints .u8 k) 23) w.heap.size rfl
  have hS : Sl .u8 (w.alloc (.cells (ints .u8 k) 23)) (some ⟨w.heap.size, 0, none⟩) 32 32 k := Sl.ofInts (O.nth 0 rfl) (by omega) (by rw [List.drop_zero, List.take_of_length_le (by omega)]) (Nat.le_refl _)
  have hc := conv47 hS
  have HF := Lib.hid O.fr
  clear O hS
  go_enter Try.func83, Try.ntmps83
  go_wp2_with fail
  exact bodyPost_ret (results_tmp rfl _ _ _) rfl ⟨rfl, HF.out⟩
end
end Go.Proofs.Ytbhnfohoclcjdaa
