/- The code's numbers modulo the base's order: Reduce, Right. -/
import Derived.Test.YtakhmmnklkckpaaScD
import Derived.Test.YtakhmmnklkckpaaZb
namespace Go.Proofs.Ytakhmmnklkckpaa
open Go.RowKit Go.Dr
/-- Bytes modulo the order, as bytes. -/
def scB (B : List Int) : List Int := outF (w4 (modS (bitsD B)))
theorem length_scB (B : List Int) : (scB B).length = 32 := length_outF _
theorem byt_scB (B : List Int) : Byt (scB B) := byt_outF _
section
variable {w : World}
set_option maxRecDepth 100000 in
set_option maxHeartbeats 2000000 in
theorem reduce_f {p : Option Addr} {m cap : Nat} {B : List Int} (S : Sl .u8 w p m cap B) (hB : Byt B) (hm : m ≤ 64) :
    Calls Try.prog 105 #[.slice p m cap] w fun e w' => e = .returned (.tuple #[.agg (ints .u8 (scB B)), .bool true]) ∧ Fr [] w w' := by
  have HS := Lib.hid S
  have HB := Lib.hid hB
  clear S hB
  have hd : decide ((64 : Int) < (m : Int)) = false := by rw [decide_eq_false_iff_not]; omega
  go_enter Try.func105, Try.ntmps105
  go_wp2_with fail
  refine (mod_f (HS.out.fr0 ((Fr.refl [] w).alloc _)) HB.out (by omega)).mono ?_
  rintro e w1 ⟨rfl, F1⟩
  simp only []
  go_wp2_with fail
  refine (out_f (length_w4 _) (wrd_w4 _)).mono ?_
  rintro e w2 ⟨rfl, F2⟩
  simp only []
  have hO : OwB w [(w.heap.size, .cells (ints .u8 (zs 32)) 22)] w2 := (((OwB.start w).allocN (.cells (ints .u8 (zs 32)) 22) w.heap.size rfl).call F1).call F2
  obtain ⟨U, hU⟩ : ∃ U, U = outF (w4 (modS (bitsD B))) := ⟨_, rfl⟩
  rw [← hU]
  have lU : U.length = 32 := by rw [hU]; exact length_outF _
  have HU := Lib.hid hU
  have g0 := hO.nth 0 rfl
  have t0 := hO.lt 0 rfl
  clear hU F1 F2
  go_wp2_with fail
  have hn := hO.set 0 (.cells (ints .u8 U) 22) rfl
  refine ret_cell_tmp rfl rfl rfl ?_
  refine cellRet_of (hn.nth 0 rfl) (aggB_ints lU (by kernel_rfl)) ?_
  exact ⟨by rw [HU.out]; rfl, hn.fr⟩
set_option maxRecDepth 100000 in
set_option maxHeartbeats 2000000 in
theorem right_f {b : List Int} (lb : b.length = 32) (hb : Byt b) :
    Calls Try.prog 91 #[.agg (ints .u8 b)] w fun e w' => e = .returned (.bool (decide (scB b = b))) ∧ Fr [] w w' := by
  have HB := Lib.hid hb
  clear hb
  go_enter Try.func91, Try.ntmps91
  go_wp2_with fail
  have hO : OwB w [(w.heap.size, .cells (ints .u8 b) 22)] (w.alloc (.cells (ints .u8 b) 22)) := (OwB.start w).allocN (.cells (ints .u8 b) 22) w.heap.size rfl
  refine OwB.named (Q := fun X => Code.wp _ _ _ _ X) hO ?_
  intro V hV
  generalize w.heap.size = bb at hV ⊢
  obtain ⟨L5, hL5⟩ : ∃ L5 : List (Nat × Obj), L5 = [(bb, .cells (ints .u8 b) 22)] := ⟨_, rfl⟩
  rw [← hL5] at hV
  have HL5 := Lib.hid hL5
  clear hL5 hO
  have hne : Nonempty (OwnW w L5) := ⟨⟨_, hV⟩⟩
  have f0 : ∀ x : OwnW w L5, x.w.blk bb = some (.cells (ints .u8 b) 22) := fun x => x.nth HL5.out 0 rfl
  have heq := fun (W : World) => eq22 (outF (w4 (modS (bitsD b)))) b (length_outF _) lb W
  refine wp_region_own (by kernel_rfl) (by kernel_rfl) hV ?_
  repeat (go_big_quiet_step (first | exact Calls.own_of (mod_f (Sl.ofInts (f0 _) (by omega) (by rw [List.drop_zero, List.take_of_length_le (by omega)]) (Nat.le_refl 32)) HB.out (by omega)) | exact Calls.own_of (out_f (length_w4 _) (wrd_w4 _))))
  refine wpQuiet_nil ?_
  intro _ hw'
  obtain ⟨⟨V9, hV9⟩, rfl⟩ := hw'
  clear f0 hne hV heq
  go_wp2_with fail
  go_ret
  exact ⟨rfl, hV9.fr⟩
end
end Go.Proofs.Ytakhmmnklkckpaa
