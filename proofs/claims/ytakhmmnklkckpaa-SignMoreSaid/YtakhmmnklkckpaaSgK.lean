/- SignSigns, SignVerifies: the walks. -/
import Derived.Test.YtakhmmnklkckpaaSgI
namespace Go.Proofs.Ytakhmmnklkckpaa
open Go.RowKit Go.Dr
theorem eq69 (a b : List Int) (ha : a.length = 64) (hb : b.length = 64) (w : World) : (Op.equalIn 10000 69 (.agg (ints .u8 a)) (.agg (ints .u8 b))).run Try.prog w = .ok (decide (a = b)) w :=
  let ⟨_, hi⟩ := exInfo5
  run_eq_ints 9998 .u8 .u8 Try.underlying69 hi (by kernel_rfl) Try.underlying5 (fun w => by kernel_rfl) a b ha hb w
/-- A signature. -/
def rB (S t : List Int) : List Int := hashB ((sumF S).drop 32 ++ t)
def RB (S t : List Int) : List Int := baseB (rB S t)
def kB (S t : List Int) : List Int := hashB (RB S t ++ pubB S ++ t)
def sB (S t : List Int) : List Int := outF (w4 ((vB (kB S t) * vB (clampB (sumF S)) + vB (rB S t)) % oL))
def signB (S t : List Int) : List Int := RB S t ++ sB S t
/-- Is it one? -/
def verB (B t sig : List Int) : Bool :=
  decOk B && (decide (scB (sig.drop 32) = sig.drop 32) && decide (encP (pad dC (mulP dC (numB (sig.drop 32)) bsP) (pn (mulP dC (numB (hashB (sig.take 32 ++ B ++ t))) (decPt B)))) = sig.take 32))
theorem length_signB (S t : List Int) : (signB S t).length = 64 := by rw [signB, List.length_append, RB, length_baseB, sB, length_outF]
theorem byt_signB (S t : List Int) : Byt (signB S t) := byt_app (byt_baseB _) (byt_outF _)
section
variable {w : World} {S B t sig : List Int} {p : Option Addr} {n cap : Nat}
theorem sign_f (lS : S.length = 32) (hS : Byt S) (St : Sl .u8 w p n cap t) (ht : Byt t) (hn : n ≤ 5000) :
    Calls Try.prog 65 #[.agg (ints .u8 S), .slice p n cap] w fun e w' => e = .returned (.agg (ints .u8 (signB S t))) ∧ Fr [] w w' :=
  sign_core lS hS St ht hn rfl rfl rfl rfl rfl rfl rfl rfl rfl
theorem sign_d (lS : S.length = 32) (hS : Byt S) (St : Sl .u8 w p n cap t) (ht : Byt t) (hn : n ≤ 5000) :
    Calls Try.prog 66 #[.agg (ints .u8 S), .slice p n cap] w fun e w' => e = .returned (.agg (ints .u8 (signB S t))) ∧ Fr [] w w' :=
  dsign_core lS hS St ht hn rfl rfl rfl rfl rfl rfl rfl
theorem verify_f (lB : B.length = 32) (yB : Byt B) (lsig : sig.length = 64) (ysig : Byt sig) (St : Sl .u8 w p n cap t) (ht : Byt t) (hn : n ≤ 5000) :
    Calls Try.prog 63 #[.agg (ints .u8 B), .slice p n cap, .agg (ints .u8 sig)] w fun e w' => e = .returned (.bool (verB B t sig)) ∧ Fr [] w w' :=
  verify_core lB yB lsig ysig St ht hn rfl rfl rfl rfl rfl rfl rfl rfl rfl rfl
theorem verify_d (lB : B.length = 32) (yB : Byt B) (lsig : sig.length = 64) (ysig : Byt sig) (St : Sl .u8 w p n cap t) (ht : Byt t) (hn : n ≤ 5000) :
    Calls Try.prog 64 #[.agg (ints .u8 B), .slice p n cap, .agg (ints .u8 sig)] w fun e w' => e = .returned (.bool (verB B t sig)) ∧ Fr [] w w' :=
  dverify_core lB yB lsig ysig St ht hn rfl rfl rfl rfl rfl rfl rfl rfl rfl rfl
set_option maxRecDepth 100000 in
set_option maxHeartbeats 4000000 in
theorem signSigns_core {R : List Int} (lS : S.length = 32) (hS : Byt S) (St : Sl .u8 w p n cap t) (ht : Byt t) (hR : signB S t = R) (lR : R.length = 64) :
    Calls Try.prog 22 #[.agg (ints .u8 S), .slice p n cap] w fun e w' => e = .returned (.bool true) ∧ Fr [] w w' := by
  have HS := Lib.hid hS
  have HR := Lib.hid hR
  have HSt := Lib.hid St
  have HT := Lib.hid ht
  clear hS hR St ht
  go_enter Try.func22, Try.ntmps22
  go_wp2_with fail
  refine salive_f.mono ?_
  rintro e w1 ⟨rfl, F⟩
  have hV := ((OwB.start w).allocN (.cells (ints .u8 S) 22) w.heap.size rfl).call F
  clear F
  simp only []
  generalize w.heap.size = b0 at hV ⊢
  by_cases hn : n ≤ 2000
  · have hd : decide ((2000 : Int) < (n : Int)) = false := by rw [decide_eq_false_iff_not]; omega
    go_wp2_with fail
    obtain ⟨L, hL⟩ : ∃ L : List (Nat × Obj), L = [(b0, .cells (ints .u8 S) 22)] := ⟨_, rfl⟩
    rw [← hL] at hV
    have HL := Lib.hid hL
    clear hL
    have hne : Nonempty (OwnW w L) := ⟨⟨_, hV⟩⟩
    have f0 : ∀ x : OwnW w L, x.w.blk b0 = some (.cells (ints .u8 S) 22) := fun x => x.nth HL.out 0 rfl
    have heq := fun (W : World) => eq69 R R lR lR W
    have c1 : ∀ x : OwnW w L, Calls Try.prog 65 #[.agg (ints .u8 S), .slice p n cap] x.w fun e w' => e = .returned (.agg (ints .u8 R)) ∧ Fr [] x.w w' := fun x => HR.out ▸ sign_f lS HS.out (HSt.out.fr0 x.h.fr) HT.out (by omega)
    have c2 : ∀ x : OwnW w L, Calls Try.prog 66 #[.agg (ints .u8 S), .slice p n cap] x.w fun e w' => e = .returned (.agg (ints .u8 R)) ∧ Fr [] x.w w' := fun x => HR.out ▸ sign_d lS HS.out (HSt.out.fr0 x.h.fr) HT.out (by omega)
    have C1 := Lib.hid c1
    have C2 := Lib.hid c2
    clear c1 c2
    refine wp_region_own (by kernel_rfl) (by kernel_rfl) hV ?_
    repeat (go_big_quiet_step (with_reducible first | exact Calls.own_of (C1.out _) | exact Calls.own_of (C2.out _)))
    refine wpQuiet_nil ?_
    intro _ hw'
    obtain ⟨⟨V9, hV9⟩, rfl⟩ := hw'
    clear f0 hne hV heq
    go_wp2_with fail
    go_ret
    exact ⟨rfl, hV9.fr⟩
  · have hd : decide ((2000 : Int) < (n : Int)) = true := by rw [decide_eq_true_eq]; omega
    have HV := Lib.hid hV
    clear hV
    go_wp2_with fail
    go_ret
    exact ⟨rfl, HV.out.fr⟩
end
end Go.Proofs.Ytakhmmnklkckpaa
