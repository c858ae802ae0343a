/- The code's numbers modulo the base's order: as bytes. -/
import Derived.Test.YtakhmmnklkckpaaScA
namespace Go.Proofs.Ytakhmmnklkckpaa
open Go.RowKit Go.Dr
/-- The bytes of words, the least first. -/
def obF (A : List Int) (i : Nat) : Int := el A (i / 8) / 2 ^ (i % 8 * 8) % 256
def outF (A : List Int) : List Int := (List.range 32).map (obF A)
theorem length_outF (A : List Int) : (outF A).length = 32 := by simp [outF]
theorem byt_outF (A : List Int) : Byt (outF A) := fun x hx => by
  obtain ⟨i, _, rfl⟩ := List.mem_map.1 hx
  unfold obF
  exact ⟨Int.emod_nonneg _ (by decide), Int.emod_lt_of_pos _ (by decide)⟩
section
variable {w : World}
set_option maxRecDepth 100000 in
set_option maxHeartbeats 2000000 in
theorem out_f {A : List Int} (lA : A.length = 4) (wA : Wrd A) : Calls Try.prog 103 #[.agg (ints .u64 A)] w fun e w' => e = .returned (.agg (ints .u8 (outF A))) ∧ Fr [] w w' := by
  have HA := Lib.hid wA
  clear wA
  go_enter Try.func103, Try.ntmps103
  go_wp2_with fail
  refine OwB.named (Q := fun X => Code.wp _ _ _ _ X) (show OwB w [(w.heap.size + 2, .cells (ints .u8 (zs 32)) 22), (w.heap.size + 1, .cells (ints .u8 (zs 32)) 22), (w.heap.size, .cells (ints .u64 A) 113)] _ from (((OwB.start w).allocN (.cells (ints .u64 A) 113) w.heap.size rfl).allocN (.cells (ints .u8 (zs 32)) 22) (w.heap.size + 1) (by simp)).allocN (.cells (ints .u8 (zs 32)) 22) (w.heap.size + 2) (by simp)) ?_
  intro V hV
  generalize w.heap.size + 2 = b2 at hV ⊢
  generalize w.heap.size + 1 = bo at hV ⊢
  generalize w.heap.size = b1 at hV ⊢
  go_loopw [5] (fun iv wy => ∃ i : Nat, i ≤ 32 ∧ iv = .int .i64 (i : Int) ∧ Hid (OwB w [(b2, .cells (ints .u8 (upd (obF A) (zs 32) i)) 22), (bo, .cells (ints .u8 (zs 32)) 22), (b1, .cells (ints .u64 A) 113)] wy)) (fun iv _ => (32 - intOf iv).toNat)
  case atStart => exact ⟨0, by omega, rfl, Lib.hid (by rw [upd_zero]; exact hV)⟩
  case round =>
    clear hV
    obtain ⟨i, hi9, rfl, hO9⟩ := hrel
    have f0 := hO9.out.nth 0 rfl
    have f1 := hO9.out.nth 1 rfl
    have f2 := hO9.out.nth 2 rfl
    have e0 := hO9.out.ne 0 1 rfl rfl (by decide)
    have t0 := hO9.out.lt 0 rfl
    have t1 := hO9.out.lt 1 rfl
    obtain ⟨U, hU⟩ : ∃ U, U = upd (obF A) (zs 32) i := ⟨_, rfl⟩
    have lU : U.length = 32 := by rw [hU, length_upd _ _ _ (by rw [length_zs]; exact hi9), length_zs]
    rw [← hU] at f0
    have HU := Lib.hid hU
    clear hU
    by_cases hlt5 : i < 32
    · have hd : decide ((i : Int) < 32) = true := by rw [decide_eq_true_eq]; omega
      have hi8 : i / 8 < 4 := by omega
      go_wp2
      go_roundw
      case rel =>
        refine ⟨i + 1, by omega, by simp, Lib.hid ?_⟩
        have hn := hO9.out
        rw [← HU.out] at hn
        have hn2 := hn.set 0 (.cells (ints .u8 (upd (obF A) (zs 32) (i + 1))) 22) rfl
        have ev : U.set i (el A (i / 8) / 2 ^ (i % 8 * 8) % 256) = upd (obF A) (zs 32) (i + 1) := by
          rw [HU.out]
          exact set_upd (obF A) (zs 32) i (by rw [length_zs]; exact hlt5)
        rw [ev]
        exact hn2
      case measure => simp [intOf]; omega
    · obtain rfl : i = 32 := by omega
      have hd : decide ((32 : Int) < 32) = false := by decide
      go_wp2_with fail
      have hn := hO9.out
      rw [← HU.out] at hn
      have hn2 := hn.set 1 (.cells (ints .u8 U) 22) rfl
      refine ret_cell rfl rfl rfl ?_
      refine cellRet_of (hn2.nth 1 rfl) (aggB_ints lU (by kernel_rfl)) ?_
      refine ⟨?_, hn2.fr⟩
      rw [HU.out, upd_full _ _ _ (length_zs 32)]
      rfl
end
end Go.Proofs.Ytakhmmnklkckpaa
