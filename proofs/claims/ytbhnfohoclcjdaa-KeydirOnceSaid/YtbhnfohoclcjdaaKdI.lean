/- What was written, joined. -/
import Derived.Test.YtbhnfohoclcjdaaKdH
set_option linter.unusedVariables false
set_option linter.unusedSimpArgs false
namespace Go.Proofs.Ytbhnfohoclcjdaa
open Go.RowKit Go.Dr Go.Kd
section
variable {w : World}
set_option maxRecDepth 100000 in
set_option maxHeartbeats 2000000 in
theorem done_f {wb : Nat} {p : Option Addr} {n cap : Nat} {fr : Nat × Nat} {ls : List (List Int)} (hb : w.blk wb = some (.cells #[.slice p n cap, .bool false] 106 fr)) (S : Sll w p n cap ls) (hf : fits ls = true) :
    Calls Try.prog 43 #[.pointer (some ⟨wb, 0, none⟩)] w fun e w' => ∃ q m c, e = .returned (.tuple #[.slice q m c, .bool true]) ∧ Bld w [] .u8 5 w' q m c (joinB ls) := by
  have HS := Lib.hid S
  have t0 := World.at_lt hb
  clear S
  go_enter Try.func43, Try.ntmps43
  go_wp2_with fail
  refine (join_f HS.out hf).mono ?_
  rintro e w' ⟨q, m, c, rfl, B⟩
  have f0 := B.own.fr.get hb (by simp)
  have t1 := World.at_lt f0
  have HB := Lib.hid B
  clear B hb t0
  go_wp2_with fail
  exact bodyPost_ret (results_tmp2 rfl _ _ _) rfl ⟨q, m, c, rfl, HB.out⟩
end
end Go.Proofs.Ytbhnfohoclcjdaa
