/- The names that stand in bytes: some row of numbers. -/
import Derived.Test.YtbhnfohoclcjdaaKdF
set_option linter.unusedVariables false
set_option linter.unusedSimpArgs false
namespace Go.Proofs.Ytbhnfohoclcjdaa
open Go.RowKit Go.Dr Go.Kd
theorem info3 : (Try.prog.info? 3).map (fun i => (i.zero, i.size, i.bytes)) = some (some (.int .i64 0), 1, 8) := by kernel_rfl
theorem E127 : ElemT Try.prog 127 3 1 8 (ints .i64 (zs 1)) := ⟨Try.underlying127, by kernel_rfl, by rw [size_ints, length_zs]⟩
@[go_sem] theorem one127 (w : World) (x : Int) : (buildOneK 127 #[(0, .int .i64 x)]).run Try.prog w = .ok (.slice (some ⟨w.heap.size, 0, none⟩) 1 1) (w.alloc (.cells #[.int .i64 x] 3)) :=
  E127.buildOne (by omega) (by omega) w (.int .i64 x) rfl
section
variable {w0 w : World} {L : List (Nat × Obj)} {p : Option Addr} {n cap : Nat} {l : List Int} {ops : Array Oper} {rest : List Oper} {o : Oper} {a : Act} {Q : Exit → Act → World → Prop}
/-- []int: append of a slice. -/
theorem wpList_app127 (hgd : o.guard = none) (s x : Operand) (ho : o.op = .call { callee := .builtin .append, args := #[s, x], argTypes := #[127, 127] })
    (hs : a.eval s = .slice p n cap) (B : Bld w0 L .i64 3 w p n cap l) {q : Option Addr} {m c : Nat} {l2 : List Int} (hx : a.eval x = .slice q m c) (S : Sl .i64 w q m c l2) (hbig : n + m ≤ 1000000000)
    (h : ∀ p' cap' w', Bld w0 L .i64 3 w' p' (n + m) cap' (l ++ l2) → wpList Try.prog ops Q rest (a.put o.dst (.slice p' (n + m) cap')) w') : wpList Try.prog ops Q (o :: rest) a w := by
  obtain ⟨i, hi, hz, hs1, hb1⟩ := info_parts info3
  exact wpList_apd hgd s x 127 127 ho Try.underlying127 hi hz hs1 hb1 rfl hs B hx (Apd.ofSrc Try.underlying127 hi hz (by rw [hs1]; exact S.src Try.underlying127)) (by omega) (by omega) h
end
section
variable {w : World}
set_option maxRecDepth 100000 in
set_option maxHeartbeats 2000000 in
theorem in_f {p : Option Addr} {n cap most : Nat} {B : List Int} (S : Sl .u8 w p n cap B) (hB : isBytes B) (hm : most < 4294967296) (hn : n ≤ 1000000) :
    Calls Try.prog 52 #[.slice p n cap, .int .i64 most] w fun e w' => ∃ q m c, e = .returned (.slice q m c) ∧ Fr [] w w' := by
  have HS := Lib.hid S
  have HB := Lib.hid hB
  have HN := Lib.hid S.len
  have hcap := S.cap_
  clear S hB
  go_enter Try.func52, Try.ntmps52
  go_wp2_with fail
  go_loopw [5, 6] (fun v iv wy => ∃ (i m : Nat) (q : Option Addr) (c : Nat) (l : List Int), i ≤ n + 100 ∧ iv = .int .i64 (i : Int) ∧ v = .slice q m c ∧ m ≤ i ∧ Hid (Bld w [] .i64 3 wy q m c l)) (fun _ iv _ => (n + 200 - intOf iv).toNat)
  case atStart => exact ⟨0, 0, none, 0, [], by omega, rfl, rfl, by omega, Lib.hid (Bld.nil (OwB.start w))⟩
  case round =>
    obtain ⟨i, m, q, c, l, hi9, rfl, rfl, hmi, hO⟩ := hrel
    have w1 : IntKind.i64.wrap ((i : Int) + 32) = i + 32 := by rw [IntKind.wrap_i64]; omega
    by_cases hlt : i + 32 ≤ n
    · have hd : decide ((i : Int) + 32 ≤ (n : Int)) = true := by rw [decide_eq_true_eq]; omega
      obtain ⟨b, off, cs, T, fr, rfl, f00, hs, hc⟩ := HS.out.at (j := i) (by omega)
      have f0 := hO.out.own.fr.get f00 (by simp)
      have hc2 := (Array.getElem?_eq_some_iff.1 hc).2
      have w2 : IntKind.i64.wrap ((i : Int) + 1) = i + 1 := by rw [IntKind.wrap_i64]; omega
      by_cases ht : el B i = 116
      · have d3 : (el B i != 116) = false := by simp [ht]
        have hS1 : Sl .u8 w (if cap = i then some ⟨b, off, none⟩ else (some ⟨b, off, none⟩ : Option Addr).map (·.add i)) (n - i) (cap - i) ((B.take n).drop i) := HS.out.part (by omega) (Nat.le_refl _) (by omega) (Nat.le_refl _)
        rw [if_neg (by omega)] at hS1
        have hS2 : Sl .u8 w (some ⟨b, off + i, none⟩) (n - i) (cap - i) ((B.take n).drop i) := by
          simpa [Addr.add_mid] using hS1
        have HS1 := Lib.hid hS2
        clear hS1 hS2
        go_wp2_with fail
        refine (number_f (HS1.out.fr0 hO.out.own.fr) (fun x hx => HB.out x (List.mem_of_mem_take (List.mem_of_mem_drop hx))) hm).mono ?_
        rintro e w' ⟨rfl, F⟩
        have HO2 := Lib.hid (hO.out.call F)
        obtain ⟨g, hg⟩ : ∃ g, g = numB ((B.take n).drop i) most := ⟨_, rfl⟩
        rw [← hg]
        have HG := Lib.hid hg
        clear hg F hO f0 f00 hc hc2
        have w3 : IntKind.i64.wrap ((i : Int) + 31) = i + 31 := by rw [IntKind.wrap_i64]; omega
        have w4 : IntKind.i64.wrap ((i : Int) + 31 + 1) = i + 31 + 1 := by rw [IntKind.wrap_i64]; omega
        by_cases hg0 : 0 < g
        · have d4 : decide ((g : Int) > 0) = true := by rw [decide_eq_true_eq]; omega
          go_wp2_with (refine wpList_app127 rfl _ _ rfl rfl (HO2.out.call ((Fr.refl [] w').alloc (.cells #[.int .i64 (g : Int)] 3))) rfl (l2 := [(g : Int)]) (Sl.of (World.at_alloc_new _ _ _ rfl) (by simp) (by simp) (Nat.le_refl 1)) (by omega) ?_)
          intro q3 c3 W3 hB3
          have HB3 := Lib.hid hB3
          clear hB3
          go_wp2_with fail
          go_roundw
          case rel => exact ⟨i + 32, m + 1, q3, c3, _, by omega, by simp; omega, rfl, by omega, HB3⟩
          case measure => simp [intOf]; omega
        · have d4 : decide ((g : Int) > 0) = false := by rw [decide_eq_false_iff_not]; omega
          go_wp2_with fail
          go_roundw
          case rel => exact ⟨i + 1, m, q, c, l, by omega, by simp, rfl, by omega, HO2⟩
          case measure => simp [intOf]; omega
      · have d3 : (el B i != 116) = true := by simp [ht]
        go_wp2_with fail
        go_roundw
        case rel => exact ⟨i + 1, m, q, c, l, by omega, by simp, rfl, by omega, hO⟩
        case measure => simp [intOf]; omega
    · have hd : decide ((i : Int) + 32 ≤ (n : Int)) = false := by rw [decide_eq_false_iff_not]; omega
      go_wp2_with fail
      exact bodyPost_ret (results_tmp rfl _ _ _) rfl ⟨q, m, c, rfl, hO.out.own.fr⟩
end
end Go.Proofs.Ytbhnfohoclcjdaa
