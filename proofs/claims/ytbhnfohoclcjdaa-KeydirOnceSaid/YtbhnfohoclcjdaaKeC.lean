/- The document's octets: Put, Num, Join, All. -/
import Derived.Test.YtbhnfohoclcjdaaKeB
set_option linter.unusedVariables false
set_option linter.unusedSimpArgs false
namespace Go.Proofs.Ytbhnfohoclcjdaa
open Go.RowKit Go.Dr Go.Kd
section
variable {w : World}
set_option maxRecDepth 100000 in
set_option maxHeartbeats 2000000 in
theorem rput_b {n s : Nat} (h1 : 1 ≤ s) (h8 : s < 8) (hn : n < 256 ^ s) :
    Calls Try.prog 49 #[.int .u64 n, .int .i64 s] w fun e w' => ∃ b, e = .returned (.tuple #[.slice (some ⟨b, 0, none⟩) s s, .bool true]) ∧ w'.blk b = some (.cells (ints .u8 (putB n s)) 5) ∧ w.heap.size ≤ b ∧ Fr [] w w' := by
  have hn64 : n < 18446744073709551616 := Nat.lt_of_lt_of_le hn (Nat.le_trans (Nat.pow_le_pow_right (by omega) (by omega : s ≤ 8)) (by decide))
  go_enter Try.func49, Try.ntmps49
  have d1 : decide ((s : Int) < 1) = false := by rw [decide_eq_false_iff_not]; omega
  have d2 : decide ((s : Int) > 8) = false := by rw [decide_eq_false_iff_not]; omega
  have m0 : (0 : Int) ≤ s := by omega
  have m1 : (s : Int) ≤ 281474976710656 := by omega
  have w1 : IntKind.i64.wrap ((s : Int) - 1) = (s : Int) - 1 := by rw [IntKind.wrap_i64]; omega
  go_wp2_with fail
  refine OwB.named (Q := fun X => Code.wp _ _ _ _ X) (show OwB w [(w.heap.size, .cells (ints .u8 (rowP n s 0)) 5)] _ from (by rw [rowP_zero]; exact (OwB.start w).allocN (.cells (ints .u8 (zs s)) 5) w.heap.size rfl)) ?_
  intro V hV
  obtain ⟨b, hb⟩ : ∃ b, b = w.heap.size := ⟨_, rfl⟩
  rw [← hb] at hV ⊢
  have HB := Lib.hid hb
  clear hb w1
  go_loopw [0, 7] (fun nv iv wy => ∃ (j : Nat) (k : Int) (m : Nat), j ≤ s ∧ Hid (k = (s : Int) - 1 - j) ∧ iv = .int .i64 k ∧ nv = .int .u64 (m : Int) ∧ Hid (m = n / 256 ^ j) ∧ Hid (OwB w [(b, .cells (ints .u8 (rowP n s j)) 5)] wy)) (fun _ iv _ => (intOf iv + 1).toNat)
  case atStart => exact ⟨0, _, n, by omega, Lib.hid (by simp), rfl, rfl, Lib.hid (by simp), Lib.hid hV⟩
  case round =>
    clear hV
    obtain ⟨j, k, m, hj, hk, rfl, rfl, hm, hO⟩ := hrel
    have f0 := hO.out.nth 0 rfl
    have t0 := hO.out.lt 0 rfl
    obtain ⟨U, hU⟩ : ∃ U, U = rowP n s j := ⟨_, rfl⟩
    have lU : U.length = s := by rw [hU, length_rowP]
    rw [← hU] at f0
    have HU := Lib.hid hU
    clear hU
    have hm64 : m < 18446744073709551616 := by rw [hm.out]; exact Nat.lt_of_le_of_lt (Nat.div_le_self _ _) hn64
    by_cases hlt : j < s
    · have hd : decide (k ≥ 0) = true := by rw [decide_eq_true_eq, hk.out]; omega
      have hd2 : decide (0 ≤ k) = true := by rw [decide_eq_true_eq, hk.out]; omega
      obtain ⟨q, hq⟩ : ∃ q : Nat, k = (q : Int) := ⟨s - 1 - j, by rw [hk.out]; omega⟩
      have hqs : q < s := by have := hk.out; omega
      have hqe : q = s - 1 - j := by have := hk.out; omega
      subst hq
      have w3 : IntKind.i64.wrap ((q : Int) - 1) = (q : Int) - 1 := by rw [IntKind.wrap_i64]; omega
      have w4 : IntKind.u8.wrap ((m : Int) % 256) = (m : Int) % 256 := by rw [IntKind.wrap_u8]; omega
      have w5 : IntKind.u64.wrap ((m : Int) / 256) = (m : Int) / 256 := by rw [IntKind.wrap_u64, Int.emod_eq_of_lt] <;> omega
      have HQ := Lib.hid hqe
      clear hqe
      go_wp2
      go_roundw
      case rel =>
        refine ⟨j + 1, (q : Int) - 1, m / 256, by omega, Lib.hid (by have := HQ.out; omega), rfl, by simp, Lib.hid (by rw [hm.out, Nat.div_div_eq_div_mul, Nat.pow_succ]), Lib.hid ?_⟩
        have hn2 := hO.out.set 0 (.cells (ints .u8 (rowP n s (j + 1))) 5) rfl
        have ev : U.set q ((m : Int) % 256) = rowP n s (j + 1) := by
          rw [HU.out, HQ.out, ← rowP_succ hlt, ← hm.out]
          try rfl
        rw [ev]
        exact hn2
      case measure => simp [intOf]
    · obtain rfl : j = s := by omega
      have hd : decide (k ≥ 0) = false := by rw [decide_eq_false_iff_not, hk.out]; omega
      have hd2 : decide (0 ≤ k) = false := by rw [decide_eq_false_iff_not, hk.out]; omega
      have hm0 : m = 0 := by rw [hm.out]; exact Nat.div_eq_of_lt hn
      have hmd : ((m : Int) != 0) = false := by rw [hm0]; rfl
      clear hm0
      go_wp2
      refine bodyPost_ret (results_tmp2 rfl _ _ _) rfl ⟨b, rfl, ?_, by rw [HB.out]; exact Nat.le_refl _, hO.out.fr⟩
      rw [HU.out, rowP_full] at f0
      exact f0
set_option maxRecDepth 100000 in
set_option maxHeartbeats 2000000 in
theorem rnum_b {n s : Nat} (h1 : 1 ≤ s) (h8 : s < 8) (hn : n < 256 ^ s) :
    Calls Try.prog 31 #[.int .i64 n, .int .i64 s] w fun e w' => ∃ b, e = .returned (.slice (some ⟨b, 0, none⟩) s s) ∧ w'.blk b = some (.cells (ints .u8 (putB n s)) 5) ∧ w.heap.size ≤ b ∧ Fr [] w w' := by
  have hn64 : n < 18446744073709551616 := Nat.lt_of_lt_of_le hn (Nat.le_trans (Nat.pow_le_pow_right (by omega) (by omega : s ≤ 8)) (by decide))
  have w1 : IntKind.u64.wrap (n : Int) = n := by rw [IntKind.wrap_u64, Int.emod_eq_of_lt] <;> omega
  go_enter Try.func31, Try.ntmps31
  go_wp2_with fail
  refine (rput_b h1 h8 hn).mono ?_
  rintro e w1 ⟨b, rfl, hb, hs, F⟩
  have HB := Lib.hid hb
  have HF := Lib.hid F
  clear hb F
  go_wp2_with fail
  exact bodyPost_ret (results_tmp rfl _ _ _) rfl ⟨b, rfl, HB.out, hs, HF.out⟩
theorem putB_two {m : Nat} (hm : m ≤ 4096) : putB m 2 = [((m / 256 : Nat) : Int), ((m % 256 : Nat) : Int)] := by
  simp [putB, List.range, List.range.loop]
  omega
set_option maxRecDepth 100000 in
set_option maxHeartbeats 2000000 in
theorem rjoin_f {p : Option Addr} {n cap : Nat} {ls : List (List Int)} (S : Sll w p n cap ls) (hf : fits ls = true) :
    Calls Try.prog 48 #[.slice p n cap] w fun e w' => ∃ q m c, e = .returned (.tuple #[.slice q m c, .bool true]) ∧ Bld w [] .u8 5 w' q m c (joinB ls) := by
  have HS := Lib.hid S
  have HN := Lib.hid S.len
  have hf1 : n ≤ 64 := by
    simp only [fits, Bool.and_eq_true, decide_eq_true_eq] at hf
    rw [HN.out] at hf
    exact hf.1
  have hf2 : ∀ l ∈ ls, l.length ≤ 4096 := by
    simp only [fits, Bool.and_eq_true, decide_eq_true_eq, List.all_eq_true] at hf
    exact hf.2
  have HF := Lib.hid hf2
  clear S hf hf2
  go_enter Try.func48, Try.ntmps48
  have d1 : decide ((n : Int) > 64) = false := by rw [decide_eq_false_iff_not]; omega
  have w1 : IntKind.u8.wrap (n : Int) = n := by rw [IntKind.wrap_u8, Int.emod_eq_of_lt] <;> omega
  go_wp2_with fail
  have hB0 : Bld w [] .u8 5 (w.alloc (.cells #[.int .u8 (n : Int)] 5)) (some ⟨w.heap.size, 0, none⟩) 1 1 (joinP ls 0) := by
    have h1 := Bld.of (k := .u8) (e := 5) (l := [(n : Int)]) (r := #[]) ((OwB.start w).allocN (.cells #[.int .u8 (n : Int)] 5) w.heap.size rfl) (by simp [maxLen])
    have e : joinP ls 0 = [(n : Int)] := by unfold joinP; rw [HN.out]; rfl
    rw [e]
    exact h1
  have HB0 := Lib.hid hB0
  clear hB0
  go_loopw [4, 5] (fun v iv wy => ∃ (i : Nat) (q : Option Addr) (m c : Nat), i ≤ n ∧ iv = .int .i64 (i : Int) ∧ v = .slice q m c ∧ m ≤ 1 + 4098 * i ∧ Hid (Bld w [] .u8 5 wy q m c (joinP ls i))) (fun _ iv _ => (n - intOf iv).toNat)
  case atStart => exact ⟨0, _, 1, 1, by omega, rfl, rfl, by omega, HB0⟩
  case round =>
    clear HB0
    obtain ⟨i, q, m, c, hi9, rfl, rfl, hm, hO⟩ := hrel
    by_cases hlt : i < n
    · have hd : decide ((i : Int) < (n : Int)) = true := by rw [decide_eq_true_eq]; omega
      obtain ⟨b, off, cs, T, fr, q2, m2, c2, l2, rfl, f00, hs, hc, hl, S2⟩ := HS.out.at hlt
      have f0 := hO.out.own.fr.get f00 (by simp)
      have hc2 := (Array.getElem?_eq_some_iff.1 hc).2
      have hl2 := HF.out l2 (List.mem_of_getElem? hl)
      have hm2 := S2.len
      have d2 : decide ((m2 : Int) > 4096) = false := by rw [decide_eq_false_iff_not]; omega
      have HL := Lib.hid hl
      have HS2 := Lib.hid S2
      have HM2 := Lib.hid hm2
      have F00 := Lib.hid f00
      clear hl S2 hm2 hl2 f00
      have hml : m2 ≤ 4096 := by rw [← HM2.out]; exact HF.out l2 (List.mem_of_getElem? HL.out)
      go_wp2_with fail
      refine (rnum_b (n := m2) (s := 2) (by omega) (by omega) (by omega)).mono ?_
      rintro e w3 ⟨b3, rfl, hb3, hs3, F3⟩
      have HO3 := Lib.hid (hO.out.call F3)
      have HB3 := Lib.hid hb3
      clear f0 hb3 F3 hs3
      have f0 := HO3.out.own.fr.get F00.out (by simp)
      go_wp2_with (refine wpList_app47 rfl _ _ rfl rfl HO3.out rfl (Sl.whole HB3.out (putB_len _ _)) (by omega) ?_)
      intro q3 c3 W3 hB3
      have HB4 := Lib.hid hB3
      have f1 := hB3.own.fr.get F00.out (by simp)
      clear hB3 f0
      go_wp2_with (refine wpList_app47 rfl _ _ rfl rfl HB4.out rfl (HS2.out.fr0 HB4.out.own.fr) (by omega) ?_)
      intro q4 c4 W4 hB4
      have HB5 := Lib.hid hB4
      clear hB4 f1
      go_wp2_with fail
      go_roundw
      case rel =>
        refine ⟨i + 1, q4, m + 2 + m2, c4, by omega, by simp, rfl, by omega, ?_⟩
        rw [joinP_succ HL.out, HM2.out, ← putB_two hml, List.append_assoc]
        exact HB5
      case measure => simp [intOf]; omega
    · obtain rfl : i = n := by omega
      have hd : decide ((i : Int) < (i : Int)) = false := by simp
      have ev := joinP_full HN.out
      rw [ev] at hO
      go_wp2_with fail
      exact bodyPost_ret (results_tmp2 rfl _ _ _) rfl ⟨q, m, c, rfl, hO.out⟩
set_option maxRecDepth 100000 in
set_option maxHeartbeats 2000000 in
theorem rall_f {p : Option Addr} {n cap : Nat} {ls : List (List Int)} (S : Sll w p n cap ls) (hf : fits ls = true) :
    Calls Try.prog 30 #[.slice p n cap] w fun e w' => ∃ q m c, e = .returned (.slice q m c) ∧ Bld w [] .u8 5 w' q m c (joinB ls) := by
  have HS := Lib.hid S
  clear S
  go_enter Try.func30, Try.ntmps30
  go_wp2_with fail
  refine (rjoin_f HS.out hf).mono ?_
  rintro e w1 ⟨q, m, c, rfl, B⟩
  have HB := Lib.hid B
  clear B
  go_wp2_with fail
  exact bodyPost_ret (results_tmp rfl _ _ _) rfl ⟨q, m, c, rfl, HB.out⟩
end
end Go.Proofs.Ytbhnfohoclcjdaa
