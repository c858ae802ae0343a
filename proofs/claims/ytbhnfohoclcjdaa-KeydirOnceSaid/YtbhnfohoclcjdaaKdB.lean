/- octet.Put. -/
import Derived.Test.YtbhnfohoclcjdaaKdA
set_option linter.unusedVariables false
set_option linter.unusedSimpArgs false
namespace Go.Proofs.Ytbhnfohoclcjdaa
open Go.RowKit Go.Dr Go.Kd
theorem info5 : (Try.prog.info? 5).map (fun i => (i.zero, i.size, i.bytes)) = some (some (.int .u8 0), 1, 1) := by kernel_rfl
theorem E47 : ElemT Try.prog 47 5 1 1 (ints .u8 (zs 1)) := ⟨Try.underlying47, by kernel_rfl, by rw [size_ints, length_zs]⟩
@[go_sem] theorem make47 (w : World) (kl kc : IntKind) (l c : Int) (h0 : 0 ≤ l) (hlc : l ≤ c) (hb : c ≤ 281474976710656) : (Instr.makeSlice 47 (.int kl l) (.int kc c)).run Try.prog w = .ok (.slice (some ⟨w.heap.size, 0, none⟩) l.toNat c.toNat) (w.alloc (.cells (ints .u8 (zs c.toNat)) 5)) := by
  rw [E47.make w kl kc l c h0 hlc (by omega) (by omega), madeCells_ints _ _ _ (by omega), Nat.mul_one]
@[go_sem] theorem one47 (w : World) (x : Int) : (buildOneK 47 #[(0, .int .u8 x)]).run Try.prog w = .ok (.slice (some ⟨w.heap.size, 0, none⟩) 1 1) (w.alloc (.cells #[.int .u8 x] 5)) :=
  E47.buildOne (by omega) (by omega) w (.int .u8 x) rfl
section
variable {w : World}
/-- After so many rounds: the low bytes lie at the end. -/
def rowP (n s i : Nat) : Bs := (List.range s).map fun k => if s - i ≤ k then ((n / 256 ^ (s - 1 - k) % 256 : Nat) : Int) else 0
theorem length_rowP (n s i : Nat) : (rowP n s i).length = s := by simp [rowP]
theorem rowP_zero (n s : Nat) : rowP n s 0 = zs s := by
  apply List.ext_getElem
  · simp [rowP, zs]
  · intro k h1 h2
    have : k < s := by simpa [rowP] using h1
    simp [rowP, zs]
    omega
theorem rowP_full (n s : Nat) : rowP n s s = putB n s := by simp [rowP, putB]
theorem rowP_succ {n s i : Nat} (h : i < s) : (rowP n s i).set (s - 1 - i) ((n / 256 ^ i % 256 : Nat) : Int) = rowP n s (i + 1) := by
  apply List.ext_getElem
  · simp [rowP]
  · intro k h1 h2
    have hk : k < s := by simpa [rowP] using h2
    rw [List.getElem_set]
    by_cases e : s - 1 - i = k
    · rw [if_pos e]
      simp only [rowP, List.getElem_map, List.getElem_range]
      rw [if_pos (by omega)]
      congr 5
      omega
    · rw [if_neg e]
      simp only [rowP, List.getElem_map, List.getElem_range]
      by_cases e2 : s - i ≤ k
      · rw [if_pos e2, if_pos (by omega)]
      · rw [if_neg e2, if_neg (by omega)]
theorem pow_256 (i : Nat) : (2 : Nat) ^ (8 * i) = 256 ^ i := by rw [Nat.pow_mul]
set_option maxRecDepth 100000 in
set_option maxHeartbeats 2000000 in
theorem put_b {n s : Nat} (h1 : 1 ≤ s) (h8 : s < 8) (hn : n < 256 ^ s) :
    Calls Try.prog 63 #[.int .u64 n, .int .i64 s] w fun e w' => ∃ b, e = .returned (.tuple #[.slice (some ⟨b, 0, none⟩) s s, .bool true]) ∧ w'.blk b = some (.cells (ints .u8 (putB n s)) 5) ∧ w.heap.size ≤ b ∧ Fr [] w w' := by
  go_enter Try.func63, Try.ntmps63
  have d1 : decide ((s : Int) < 1) = false := by rw [decide_eq_false_iff_not]; omega
  have d2 : decide ((s : Int) > 8) = false := by rw [decide_eq_false_iff_not]; omega
  have d3 : decide ((s : Int) < 8) = true := by rw [decide_eq_true_eq]; omega
  have w1 : IntKind.i64.wrap (8 * (s : Int)) = 8 * s := by rw [IntKind.wrap_i64]; omega
  have d4 : ((n : Int) / 2 ^ (8 * s) != 0) = false := by
    have e : ((n : Int) / 2 ^ (8 * s)) = ((n / 2 ^ (8 * s) : Nat) : Int) := by norm_cast
    rw [e, pow_256, Nat.div_eq_of_lt hn]
    rfl
  have m0 : (0 : Int) ≤ s := by omega
  have m1 : (s : Int) ≤ 281474976710656 := by omega
  go_wp2_with fail
  refine OwB.named (Q := fun X => Code.wp _ _ _ _ X) (show OwB w [(w.heap.size, .cells (ints .u8 (rowP n s 0)) 5)] _ from (by rw [rowP_zero]; exact (OwB.start w).allocN (.cells (ints .u8 (zs s)) 5) w.heap.size rfl)) ?_
  intro V hV
  obtain ⟨b, hb⟩ : ∃ b, b = w.heap.size := ⟨_, rfl⟩
  rw [← hb] at hV ⊢
  have HB := Lib.hid hb
  clear hb
  go_loopw [29] (fun iv wy => ∃ i : Nat, i ≤ s ∧ iv = .int .i64 (i : Int) ∧ Hid (OwB w [(b, .cells (ints .u8 (rowP n s i)) 5)] wy)) (fun iv _ => (s - intOf iv).toNat)
  case atStart => exact ⟨0, by omega, rfl, Lib.hid hV⟩
  case round =>
    clear hV
    obtain ⟨i, hi9, rfl, hO⟩ := hrel
    have f0 := hO.out.nth 0 rfl
    have t0 := hO.out.lt 0 rfl
    obtain ⟨U, hU⟩ : ∃ U, U = rowP n s i := ⟨_, rfl⟩
    have lU : U.length = s := by rw [hU, length_rowP]
    rw [← hU] at f0
    have HU := Lib.hid hU
    clear hU
    by_cases hlt : i < s
    · have hd : decide ((i : Int) < (s : Int)) = true := by rw [decide_eq_true_eq]; omega
      have w2 : IntKind.i64.wrap ((s : Int) - 1) = s - 1 := by rw [IntKind.wrap_i64]; omega
      have w3 : IntKind.i64.wrap ((s : Int) - 1 - i) = ((s - 1 - i : Nat) : Int) := by rw [IntKind.wrap_i64]; omega
      have w4 : IntKind.i64.wrap (8 * (i : Int)) = 8 * i := by rw [IntKind.wrap_i64]; omega
      have hj : s - 1 - i < s := by omega
      obtain ⟨j, hj2⟩ : ∃ j, j = s - 1 - i := ⟨_, rfl⟩
      rw [← hj2] at w3 hj
      have HJ := Lib.hid hj2
      clear hj2
      go_wp2
      go_roundw
      case rel =>
        refine ⟨i + 1, by omega, by simp, Lib.hid ?_⟩
        have hn2 := hO.out.set 0 (.cells (ints .u8 (rowP n s (i + 1))) 5) rfl
        have ev : U.set j ((n : Int) / 2 ^ (8 * i) % 256) = rowP n s (i + 1) := by
          rw [HU.out, HJ.out, ← rowP_succ hlt, show ((n : Int) / 2 ^ (8 * i) % 256) = ((n / 256 ^ i % 256 : Nat) : Int) from by rw [← pow_256]; norm_cast]
        rw [ev]
        exact hn2
      case measure => simp [intOf]; omega
    · obtain rfl : i = s := by omega
      have hd : decide ((i : Int) < (i : Int)) = false := by simp
      go_wp2
      refine bodyPost_ret (results_tmp2 rfl _ _ _) rfl ⟨b, rfl, ?_, by rw [HB.out]; exact Nat.le_refl _, hO.out.fr⟩
      rw [HU.out, rowP_full] at f0
      exact f0
theorem put_f {n s : Nat} (h1 : 1 ≤ s) (h8 : s < 8) (hn : n < 256 ^ s) :
    Calls Try.prog 63 #[.int .u64 n, .int .i64 s] w fun e w' => ∃ b, e = .returned (.tuple #[.slice (some ⟨b, 0, none⟩) s s, .bool true]) ∧ Sl .u8 w' (some ⟨b, 0, none⟩) s s (putB n s) ∧ w.heap.size ≤ b ∧ Fr [] w w' :=
  (put_b h1 h8 hn).mono fun _ _ ⟨b, he, hb, hs, hF⟩ => ⟨b, he, Sl.ofInts hb (by rw [putB_length]; omega) (by rw [List.drop_zero, List.take_of_length_le (by rw [putB_length]; exact Nat.le_refl _)]) (Nat.le_refl _), hs, hF⟩
end
end Go.Proofs.Ytbhnfohoclcjdaa
