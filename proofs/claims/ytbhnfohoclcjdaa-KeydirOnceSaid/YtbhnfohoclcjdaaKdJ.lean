/- A key is written. -/
import Derived.Test.YtbhnfohoclcjdaaKdI
set_option linter.unusedVariables false
set_option linter.unusedSimpArgs false
namespace Go.Proofs.Ytbhnfohoclcjdaa
open Go.RowKit Go.Dr Go.Kd
section
variable {w0 w : World} {L : List (Nat × Obj)} {p : Option Addr} {n cap : Nat} {vs : List Value}
set_option maxRecDepth 100000 in
set_option maxHeartbeats 2000000 in
theorem key_f {i wb : Nat} {k : List Int} (B : BldV w0 L 47 1 w p n cap vs) (hi : L[i]? = some (wb, .cells #[.slice p n cap, .bool false] 106)) (hn : n ≤ 1000) (hk : k.length = 32) :
    Calls Try.prog 42 #[.pointer (some ⟨wb, 0, none⟩), .agg (ints .u8 k)] w fun e w' => e = .returned (.tuple #[]) ∧ ∃ b p' cap', BldV w0 ((b, .cells (ints .u8 k) 23) :: L.set i (wb, .cells #[.slice p' (n + 1) cap', .bool false] 106)) 47 1 w' p' (n + 1) cap' (vs ++ [.slice (some ⟨b, 0, none⟩) 32 32]) := by
  obtain ⟨wA, hwA⟩ : ∃ wA, wA = w.alloc (.cells (ints .u8 k) 23) := ⟨_, rfl⟩
  obtain ⟨b, hb⟩ : ∃ b, b = w.heap.size := ⟨_, rfl⟩
  have B2 : BldV w0 ((b, .cells (ints .u8 k) 23) :: L) 47 1 wA p n cap vs := by
    rw [hwA, hb]
    exact B.add ((Fr.refl [] w).alloc _) (World.at_alloc_new _ _ _ rfl) (Nat.le_refl _)
  have hi2 : ((b, .cells (ints .u8 k) 23) :: L)[i + 1]? = some (wb, .cells #[.slice p n cap, .bool false] 106) := hi
  have f1 := B2.own.nth (i + 1) hi2
  have t1 := B2.own.lt (i + 1) hi2
  have HB2 := Lib.hid B2
  have HI2 := Lib.hid hi2
  clear B hi B2 hi2
  go_enter Try.func42, Try.ntmps42
  go_upto_region 1 with (fail)
  rw [← hwA, ← hb]
  clear hwA hb
  refine drawn_begin 8 (fun w' => w'.blk wb = some (.cells #[.slice p n cap, .bool false] 106)) (by kernel_rfl) ?_
  refine drawn_reads (fuel := 5) [0, 1, 2, 3, 4, 5] rfl (by kernel_rfl) (by go_simp) ?_
  repeat (refine rowK_step rfl (fun K hK => ?_); go_simp; refine hK _ ?_; clear hK K)
  refine rowK_nil ⟨fun w' e1 => ?_, ?_⟩
  · repeat (refine rowWp_step rfl (fun K hK => ?_); go_simp; refine hK _ ?_; clear hK K)
    exact rowWp_nil rfl
  refine drawn_next 6 (fuel := 4) rfl (by kernel_rfl) ?_
  intro K hK
  go_wp2
  refine ⟨by go_simp, ?_⟩
  refine drawn_next 7 (fuel := 3) rfl (by kernel_rfl) ?_
  intro K hK
  refine wpList_app86 rfl _ _ rfl rfl (HB2.out.call (((Fr.refl [] wA).alloc (.cells #[.slice (some ⟨b, 0, none⟩) 32 32] 47)).drew)) rfl (Sv.one (v := .slice (some ⟨b, 0, none⟩) 32 32) (T := 47) (fr := (0, 0)) (show (wA.alloc (.cells #[.slice (some ⟨b, 0, none⟩) 32 32] 47)).blk wA.heap.size = _ from World.at_alloc_new _ _ _ rfl)) (by simp [Value.oneCell']) (by omega) ?_
  intro p3 c3 W3 B3
  have f3 := B3.own.nth (i + 1) HI2.out
  have t3 := B3.own.lt (i + 1) HI2.out
  have HB3 := Lib.hid B3
  clear B3 f1 t1
  refine wpList_nil ?_
  refine hK _ _ ⟨f3, ?_⟩
  refine drawn_end rfl (by kernel_rfl) ?_
  intro K hK
  go_wp2_with fail
  have B4 := HB3.out.set (i + 1) (.cells #[.slice p3 (n + 1) c3, .bool false] 106) HI2.out
  exact bodyPost_end (results_none rfl _ _ _) rfl ⟨rfl, b, p3, c3, B4⟩
end
end Go.Proofs.Ytbhnfohoclcjdaa
