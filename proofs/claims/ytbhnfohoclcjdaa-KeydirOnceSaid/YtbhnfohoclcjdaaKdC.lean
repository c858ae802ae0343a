/- Names of terms. -/
import Derived.Test.YtbhnfohoclcjdaaKdB
set_option linter.unusedVariables false
set_option linter.unusedSimpArgs false
namespace Go
theorem run_copy_str {P : Program} (w : World) (dT sT ty : TypeId) (d : Addr) (dl dc : Nat) (s : ByteArray) (h : P.underlying dT = some (.slice (P.elem dT))) :
    (Builtin.copy_ #[dT, sT] ty #[.slice (some d) dl dc, .string s]).run P w =
      ((sizeOf (P.elem dT)).run P w).andThen fun _ w1 => ((storeCells d (((s.extract 0 (Nat.min s.size dl)).data.map fun b => Value.int .u8 b.toNat).toList)).run P w1).andThen fun _ w3 => .ok (goInt (Nat.min s.size dl)) w3 := by
  simp only [Builtin.copy_, Builtin.lenOf, Builtin.firstCells, List.getElem?_toArray, List.getElem?_cons_zero, List.getElem?_cons_succ, Sem.run_bind, run_underlying h, Result.andThen_ok, Sem.run_pure]
attribute [go_sem] run_copy_str
end Go
namespace Go.Proofs.Ytbhnfohoclcjdaa
open Go.RowKit Go.Dr Go.Kd
@[go_sem] theorem term_cells : ((((⟨#[116, 101, 114, 109]⟩ : ByteArray).extract 0 (Nat.min (⟨#[116, 101, 114, 109]⟩ : ByteArray).size 32)).data.map fun b => Value.int .u8 b.toNat).toList) = [.int .u8 116, .int .u8 101, .int .u8 114, .int .u8 109] := by kernel_rfl
section
variable {w : World}
set_option maxRecDepth 100000 in
set_option maxHeartbeats 2000000 in
theorem name_f {n : Nat} (hn : n < 4294967296) : Calls Try.prog 51 #[.int .i64 n] w fun e w' => e = .returned (.agg (ints .u8 (nameB n))) ∧ Fr [] w w' := by
  go_enter Try.func51, Try.ntmps51
  have w1 : IntKind.u64.wrap (n : Int) = n := by rw [IntKind.wrap_u64, Int.emod_eq_of_lt] <;> omega
  go_wp2_with fail
  refine OwB.named (Q := fun X => Calls Try.prog 63 _ X _) (show OwB w [(w.heap.size + 1, .cells (ints .u8 ([116, 101, 114, 109] ++ zs 28)) 23), (w.heap.size, .cells (ints .u8 (zs 32)) 23)] _ from (((OwB.start w).allocN (.cells (ints .u8 (zs 32)) 23) w.heap.size rfl).allocN (.cells (ints .u8 ([116, 101, 114, 109] ++ zs 28)) 23) (w.heap.size + 1) (by simp))) ?_
  intro V hV
  generalize w.heap.size + 1 = bk at hV ⊢
  generalize w.heap.size = br at hV ⊢
  refine (put_f (w := V) (n := n) (s := 4) (by omega) (by omega) (by omega)).mono ?_
  rintro e w' ⟨b, rfl, S, hb, F⟩
  have O2 := hV.call F
  obtain ⟨b', off, cs, T, fr, hp, f2, hs, hl⟩ := S.out (by omega)
  simp only [Option.some.injEq, Addr.mk.injEq, and_true] at hp
  obtain ⟨rfl, rfl⟩ := hp
  have f0 := O2.nth 0 rfl
  have f1 := O2.nth 1 rfl
  have t0 := O2.lt 0 rfl
  have t1 := O2.lt 1 rfl
  have t2 := World.at_lt f2
  have e0 := O2.ne 0 1 rfl rfl (by decide)
  have e1 := O2.ne 1 0 rfl rfl (by decide)
  have g0 : bk ≠ b := by have := hV.lt 0 rfl; omega
  have g1 : b ≠ bk := g0.symm
  have hl2 : (cs.extract 0 4) = ints .u8 (putB n 4) := by
    apply Array.ext'
    rw [toList_ints]
    exact hl
  rw [Nat.zero_add] at hs
  clear hl S
  have HO := Lib.hid O2
  have HV := Lib.hid hV
  have HB := Lib.hid hb
  have HF := Lib.hid F
  clear O2 hV hb F
  have l4 : (putB n 4).length = 4 := putB_length n 4
  go_wp2_with fail
  have ev : lay (116 :: 101 :: 114 :: 109 :: zs 28) 4 (putB n 4) = nameB n := by
    unfold lay nameB
    rw [l4]
    rfl
  rw [ev]
  have O3 := (HO.out.set 0 (.cells (ints .u8 (nameB n)) 23) rfl).set 1 (.cells (ints .u8 (nameB n)) 23) rfl
  have h3 := O3.nth 1 rfl
  refine ret_cell rfl rfl rfl ?_
  refine cellRet_of h3 (aggB_ints (nameB_length n) (by kernel_rfl)) ⟨rfl, O3.fr⟩
end
end Go.Proofs.Ytbhnfohoclcjdaa
