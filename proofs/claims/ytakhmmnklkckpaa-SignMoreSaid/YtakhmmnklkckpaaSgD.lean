/- SignPublics: the walk; the example. -/
import Derived.Test.YtakhmmnklkckpaaSgC
namespace Go.Proofs.Ytakhmmnklkckpaa
open Go.RowKit Go.Dr
theorem zeros22 : (#[.int .u8 0, .int .u8 0, .int .u8 0, .int .u8 0, .int .u8 0, .int .u8 0, .int .u8 0, .int .u8 0, .int .u8 0, .int .u8 0, .int .u8 0, .int .u8 0, .int .u8 0, .int .u8 0, .int .u8 0, .int .u8 0, .int .u8 0, .int .u8 0, .int .u8 0, .int .u8 0, .int .u8 0, .int .u8 0, .int .u8 0, .int .u8 0, .int .u8 0, .int .u8 0, .int .u8 0, .int .u8 0, .int .u8 0, .int .u8 0, .int .u8 0, .int .u8 0] : Array Value) = ints .u8 (zs 32) := rfl
section
variable {w : World}
set_option maxRecDepth 100000 in
set_option maxHeartbeats 4000000 in
theorem salive_core {R : List Int} (hR : pubB (zs 32) = R) (lR : R.length = 32) (h0 : el R 0 = 59) (h1 : el R 1 = 106) (h31 : el R 31 = 41) :
    Calls Try.prog 60 #[] w fun e w' => e = .returned (.bool true) ∧ Fr [] w w' := by
  have HR := Lib.hid hR
  clear hR
  go_enter Try.func60, Try.ntmps60
  go_wp2_with fail
  refine (public_f (length_zs 32) (byt_zs 32)).mono ?_
  rintro e w1 ⟨rfl, F⟩
  rw [HR.out]
  have hO := ((OwB.start w).call F).allocN (.cells (ints .u8 R) 22) w1.heap.size rfl
  clear F
  simp only []
  go_wp2_with fail
  go_ret
  exact ⟨rfl, hO.fr⟩
theorem salive_f : Calls Try.prog 60 #[] w fun e w' => e = .returned (.bool true) ∧ Fr [] w w' := salive_core pub_zero rfl rfl rfl rfl
set_option maxRecDepth 100000 in
set_option maxHeartbeats 4000000 in
theorem signPublics_core {S R : List Int} (lS : S.length = 32) (hS : Byt S) (hR : pubB S = R) (lR : R.length = 32) :
    Calls Try.prog 20 #[.agg (ints .u8 S)] w fun e w' => e = .returned (.bool true) ∧ Fr [] w w' := by
  have HS := Lib.hid hS
  have HR := Lib.hid hR
  clear hS hR
  go_enter Try.func20, Try.ntmps20
  go_wp2_with fail
  refine OwB.named (Q := fun X => Code.wp _ _ _ _ X) (show OwB w [(w.heap.size, .cells (ints .u8 S) 22)] _ from (OwB.start w).allocN (.cells (ints .u8 S) 22) w.heap.size rfl) ?_
  intro V hV
  generalize w.heap.size = b0 at hV ⊢
  obtain ⟨L, hL⟩ : ∃ L : List (Nat × Obj), L = [(b0, .cells (ints .u8 S) 22)] := ⟨_, rfl⟩
  rw [← hL] at hV
  have HL := Lib.hid hL
  clear hL
  have hne : Nonempty (OwnW w L) := ⟨⟨_, hV⟩⟩
  have f0 : ∀ x : OwnW w L, x.w.blk b0 = some (.cells (ints .u8 S) 22) := fun x => x.nth HL.out 0 rfl
  have heq := fun (W : World) => eq22 R R lR lR W
  have c1 : ∀ w : World, Calls Try.prog 61 #[.agg (ints .u8 S)] w fun e w' => e = .returned (.agg (ints .u8 R)) ∧ Fr [] w w' := fun _ => HR.out ▸ public_f lS HS.out
  have c2 : ∀ w : World, Calls Try.prog 62 #[.agg (ints .u8 S)] w fun e w' => e = .returned (.agg (ints .u8 R)) ∧ Fr [] w w' := fun _ => HR.out ▸ dpublic_f lS HS.out
  have C1 := Lib.hid c1
  have C2 := Lib.hid c2
  clear c1 c2
  refine wp_region_own (by kernel_rfl) (by kernel_rfl) hV ?_
  repeat (go_big_quiet_step (with_reducible first | exact Calls.own_of salive_f | exact Calls.own_of (C1.out _) | exact Calls.own_of (C2.out _)))
  refine wpQuiet_nil ?_
  intro _ hw'
  obtain ⟨⟨V9, hV9⟩, rfl⟩ := hw'
  clear f0 hne hV heq
  go_wp2_with fail
  go_ret
  exact ⟨rfl, hV9.fr⟩
theorem signPublics_walk (S : List Int) (lS : S.length = 32) (hS : Byt S) : Calls Try.prog 20 #[.agg (ints .u8 S)] w fun e w' => e = .returned (.bool true) ∧ Fr [] w w' := signPublics_core lS hS rfl (length_baseB _)
end
end Go.Proofs.Ytakhmmnklkckpaa
