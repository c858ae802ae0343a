/- SignVerifies, SignBack: the walks. -/
import Derived.Test.YtakhmmnklkckpaaSgK
namespace Go.Proofs.Ytakhmmnklkckpaa
open Go.RowKit Go.Dr
section
variable {w : World} {S B t sig : List Int} {p : Option Addr} {n cap : Nat}
set_option maxRecDepth 100000 in
set_option maxHeartbeats 4000000 in
theorem signVerifies_core {v : Bool} (lB : B.length = 32) (yB : Byt B) (lsig : sig.length = 64) (ysig : Byt sig) (St : Sl .u8 w p n cap t) (ht : Byt t) (hv : verB B t sig = v) :
    Calls Try.prog 21 #[.agg (ints .u8 B), .slice p n cap, .agg (ints .u8 sig)] w fun e w' => e = .returned (.bool true) ∧ Fr [] w w' := by
  have YB := Lib.hid yB
  have Ysig := Lib.hid ysig
  have HV0 := Lib.hid hv
  have HSt := Lib.hid St
  have HT := Lib.hid ht
  clear yB ysig hv St ht
  go_enter Try.func21, Try.ntmps21
  go_wp2_with fail
  refine salive_f.mono ?_
  rintro e w1 ⟨rfl, F⟩
  have hV := (((OwB.start w).allocN (.cells (ints .u8 B) 22) w.heap.size rfl).allocN (.cells (ints .u8 sig) 69) (w.heap.size + 1) (by simp)).call F
  clear F
  simp only []
  generalize w.heap.size + 1 = b1 at hV ⊢
  generalize w.heap.size = b0 at hV ⊢
  by_cases hn : n ≤ 2000
  · have hd : decide ((2000 : Int) < (n : Int)) = false := by rw [decide_eq_false_iff_not]; omega
    go_wp2_with fail
    obtain ⟨L, hL⟩ : ∃ L : List (Nat × Obj), L = [(b1, .cells (ints .u8 sig) 69), (b0, .cells (ints .u8 B) 22)] := ⟨_, rfl⟩
    rw [← hL] at hV
    have HL := Lib.hid hL
    clear hL
    have hne : Nonempty (OwnW w L) := ⟨⟨_, hV⟩⟩
    have f0 : ∀ x : OwnW w L, x.w.blk b0 = some (.cells (ints .u8 B) 22) := fun x => x.nth HL.out 1 rfl
    have f1 : ∀ x : OwnW w L, x.w.blk b1 = some (.cells (ints .u8 sig) 69) := fun x => x.nth HL.out 0 rfl
    have c1 : ∀ x : OwnW w L, Calls Try.prog 63 #[.agg (ints .u8 B), .slice p n cap, .agg (ints .u8 sig)] x.w fun e w' => e = .returned (.bool v) ∧ Fr [] x.w w' := fun x => HV0.out ▸ verify_f lB YB.out lsig Ysig.out (HSt.out.fr0 x.h.fr) HT.out (by omega)
    have c2 : ∀ x : OwnW w L, Calls Try.prog 64 #[.agg (ints .u8 B), .slice p n cap, .agg (ints .u8 sig)] x.w fun e w' => e = .returned (.bool v) ∧ Fr [] x.w w' := fun x => HV0.out ▸ verify_d lB YB.out lsig Ysig.out (HSt.out.fr0 x.h.fr) HT.out (by omega)
    have C1 := Lib.hid c1
    have C2 := Lib.hid c2
    clear c1 c2
    refine wp_region_own (by kernel_rfl) (by kernel_rfl) hV ?_
    repeat (go_big_quiet_step (with_reducible first | exact Calls.own_of (C1.out _) | exact Calls.own_of (C2.out _)))
    refine wpQuiet_nil ?_
    intro _ hw'
    obtain ⟨⟨V9, hV9⟩, rfl⟩ := hw'
    clear f0 f1 hne hV
    go_wp2_with fail
    go_ret
    exact ⟨rfl, hV9.fr⟩
  · have hd : decide ((2000 : Int) < (n : Int)) = true := by rw [decide_eq_true_eq]; omega
    have HV := Lib.hid hV
    clear hV
    go_wp2_with fail
    go_ret
    exact ⟨rfl, HV.out.fr⟩
set_option maxRecDepth 100000 in
set_option maxHeartbeats 4000000 in
theorem signBack_core {R A : List Int} (lS : S.length = 32) (hS : Byt S) (St : Sl .u8 w p n cap t) (ht : Byt t) (hR : signB S t = R) (hA : pubB S = A) (hv : n ≤ 5000 → verB A t R = true) :
    Calls Try.prog 23 #[.agg (ints .u8 S), .slice p n cap] w fun e w' => e = .returned (.bool true) ∧ Fr [] w w' := by
  have HS := Lib.hid hS
  have HR := Lib.hid hR
  have HA := Lib.hid hA
  have HV0 := Lib.hid hv
  have lR : R.length = 64 := by rw [← hR]; exact length_signB _ _
  have lA : A.length = 32 := by rw [← hA]; exact length_baseB _
  have YR : Hid (Byt R) := Lib.hid (hR ▸ byt_signB _ _)
  have YA : Hid (Byt A) := Lib.hid (hA ▸ byt_baseB _)
  have HSt := Lib.hid St
  have HT := Lib.hid ht
  clear hS hR hA hv St ht
  go_enter Try.func23, Try.ntmps23
  go_wp2_with fail
  refine salive_f.mono ?_
  rintro e w1 ⟨rfl, F⟩
  have hV := ((OwB.start w).allocN (.cells (ints .u8 S) 22) w.heap.size rfl).call F
  clear F
  simp only []
  generalize w.heap.size = b0 at hV ⊢
  by_cases hn : n ≤ 5000
  · have hd : decide ((5000 : Int) < (n : Int)) = false := by rw [decide_eq_false_iff_not]; omega
    go_wp2_with fail
    obtain ⟨L, hL⟩ : ∃ L : List (Nat × Obj), L = [(b0, .cells (ints .u8 S) 22)] := ⟨_, rfl⟩
    rw [← hL] at hV
    have HL := Lib.hid hL
    clear hL
    have hne : Nonempty (OwnW w L) := ⟨⟨_, hV⟩⟩
    have f0 : ∀ x : OwnW w L, x.w.blk b0 = some (.cells (ints .u8 S) 22) := fun x => x.nth HL.out 0 rfl
    have c1 : ∀ x : OwnW w L, Calls Try.prog 65 #[.agg (ints .u8 S), .slice p n cap] x.w fun e w' => e = .returned (.agg (ints .u8 R)) ∧ Fr [] x.w w' := fun x => HR.out ▸ sign_f lS HS.out (HSt.out.fr0 x.h.fr) HT.out (by omega)
    have c2 : ∀ x : OwnW w L, Calls Try.prog 61 #[.agg (ints .u8 S)] x.w fun e w' => e = .returned (.agg (ints .u8 A)) ∧ Fr [] x.w w' := fun x => HA.out ▸ public_f lS HS.out
    have c3 : ∀ x : OwnW w L, Calls Try.prog 63 #[.agg (ints .u8 A), .slice p n cap, .agg (ints .u8 R)] x.w fun e w' => e = .returned (.bool true) ∧ Fr [] x.w w' := fun x => HV0.out hn ▸ verify_f lA YA.out lR YR.out (HSt.out.fr0 x.h.fr) HT.out (by omega)
    have C3 := Lib.hid c3
    have C1 := Lib.hid c1
    have C2 := Lib.hid c2
    clear c1 c2 c3
    refine wp_region_own (by kernel_rfl) (by kernel_rfl) hV ?_
    repeat (go_big_quiet_step (with_reducible first | exact Calls.own_of (C1.out _) | exact Calls.own_of (C2.out _) | exact Calls.own_of (C3.out _)))
    refine wpQuiet_nil ?_
    intro _ hw'
    obtain ⟨⟨V9, hV9⟩, rfl⟩ := hw'
    clear f0 hne hV
    go_wp2_with fail
    go_ret
    exact ⟨rfl, hV9.fr⟩
  · have hd : decide ((5000 : Int) < (n : Int)) = true := by rw [decide_eq_true_eq]; omega
    have HV := Lib.hid hV
    clear hV
    go_wp2_with fail
    go_ret
    exact ⟨rfl, HV.out.fr⟩
end
end Go.Proofs.Ytakhmmnklkckpaa
