/- octet.Join. -/
import Derived.Test.YtbhnfohoclcjdaaKdE
set_option linter.unusedVariables false
set_option linter.unusedSimpArgs false
namespace Go.Proofs.Ytbhnfohoclcjdaa
open Go.RowKit Go.Dr Go.Kd
section
variable {w0 w : World} {L : List (Nat × Obj)} {p : Option Addr} {n cap : Nat} {l : List Int} {ops : Array Oper} {rest : List Oper} {o : Oper} {a : Act} {Q : Exit → Act → World → Prop}
/-- []byte: append of a slice. -/
theorem wpList_app47 (hgd : o.guard = none) (s x : Operand) (ho : o.op = .call { callee := .builtin .append, args := #[s, x], argTypes := #[47, 47] })
    (hs : a.eval s = .slice p n cap) (B : Bld w0 L .u8 5 w p n cap l) {q : Option Addr} {m c : Nat} {l2 : List Int} (hx : a.eval x = .slice q m c) (S : Sl .u8 w q m c l2) (hbig : n + m ≤ 140737488355328)
    (h : ∀ p' cap' w', Bld w0 L .u8 5 w' p' (n + m) cap' (l ++ l2) → wpList Try.prog ops Q rest (a.put o.dst (.slice p' (n + m) cap')) w') : wpList Try.prog ops Q (o :: rest) a w := by
  obtain ⟨i, hi, hz, hs1, hb1⟩ := info_parts info5
  exact wpList_apd hgd s x 47 47 ho Try.underlying47 hi hz hs1 hb1 rfl hs B hx (Apd.ofSrc Try.underlying47 hi hz (by rw [hs1]; exact S.src Try.underlying47)) (by omega) (by omega) h
end
section
variable {w : World}
def partB (p : Bs) : Bs := ((p.length / 256 : Nat) : Int) :: ((p.length % 256 : Nat) : Int) :: p
def joinP (ls : List Bs) (i : Nat) : Bs := (ls.length : Int) :: (ls.take i).flatMap partB
theorem joinP_full {ls : List Bs} {n : Nat} (h : ls.length = n) : joinP ls n = joinB ls := by
  unfold joinP joinB
  rw [List.take_of_length_le (by omega)]
  rfl
theorem joinP_succ {ls : List Bs} {i : Nat} {l : Bs} (h : ls[i]? = some l) : joinP ls (i + 1) = joinP ls i ++ [((l.length / 256 : Nat) : Int), ((l.length % 256 : Nat) : Int)] ++ l := by
  unfold joinP
  rw [List.take_add_one, h]
  simp [partB]
set_option maxRecDepth 100000 in
set_option maxHeartbeats 2000000 in
theorem join_f {p : Option Addr} {n cap : Nat} {ls : List (List Int)} (S : Sll w p n cap ls) (hf : fits ls = true) :
    Calls Try.prog 50 #[.slice p n cap] w fun e w' => ∃ q m c, e = .returned (.tuple #[.slice q m c, .bool true]) ∧ Bld w [] .u8 5 w' q m c (joinB ls) := by
  have HS := Lib.hid S
  have HN := Lib.hid S.len
  have hf1 : n ≤ 64 := by
    simp only [fits, Bool.and_eq_true, decide_eq_true_eq] at hf
    rw [HN.out] at hf
    exact hf.1
  have hf2 : ∀ l ∈ ls, l.length ≤ 4096 := by
    simp only [fits, Bool.and_eq_true, decide_eq_true_eq, List.all_eq_true] at hf
    exact hf.2
  have HF := Lib.hid hf2
  clear S hf hf2
  go_enter Try.func50, Try.ntmps50
  have d1 : decide ((n : Int) > 64) = false := by rw [decide_eq_false_iff_not]; omega
  have w1 : IntKind.u8.wrap (n : Int) = n := by rw [IntKind.wrap_u8, Int.emod_eq_of_lt] <;> omega
  go_wp2_with fail
  have hB0 : Bld w [] .u8 5 (w.alloc (.cells #[.int .u8 (n : Int)] 5)) (some ⟨w.heap.size, 0, none⟩) 1 1 (joinP ls 0) := by
    have h1 := Bld.of (k := .u8) (e := 5) (l := [(n : Int)]) (r := #[]) ((OwB.start w).allocN (.cells #[.int .u8 (n : Int)] 5) w.heap.size rfl) (by simp [maxLen])
    have e : joinP ls 0 = [(n : Int)] := by unfold joinP; rw [HN.out]; rfl
    rw [e]
    exact h1
  have HB0 := Lib.hid hB0
  clear hB0
  go_loopw [4, 16] (fun v iv wy => ∃ (i : Nat) (q : Option Addr) (m c : Nat), i ≤ n ∧ iv = .int .i64 (i : Int) ∧ v = .slice q m c ∧ m ≤ 1 + 4098 * i ∧ Hid (Bld w [] .u8 5 wy q m c (joinP ls i))) (fun _ iv _ => (n - intOf iv).toNat)
  case atStart => exact ⟨0, _, 1, 1, by omega, rfl, rfl, by omega, HB0⟩
  case round =>
    clear HB0
    obtain ⟨i, q, m, c, hi9, rfl, rfl, hm, hO⟩ := hrel
    by_cases hlt : i < n
    · have hd : decide ((i : Int) < (n : Int)) = true := by rw [decide_eq_true_eq]; omega
      obtain ⟨b, off, cs, T, fr, q2, m2, c2, l2, rfl, f00, hs, hc, hl, S2⟩ := HS.out.at hlt
      have f0 := hO.out.own.fr.get f00 (by simp)
      have hc2 := (Array.getElem?_eq_some_iff.1 hc).2
      have hl2 := HF.out l2 (List.mem_of_getElem? hl)
      have hm2 := S2.len
      have d2 : decide ((m2 : Int) > 4096) = false := by rw [decide_eq_false_iff_not]; omega
      have w2 : IntKind.u8.wrap ((m2 : Int) / 256) = ((m2 / 256 : Nat) : Int) := by rw [IntKind.wrap_u8, Int.emod_eq_of_lt] <;> omega
      have w3 : IntKind.u8.wrap (m2 : Int) = ((m2 % 256 : Nat) : Int) := by rw [IntKind.wrap_u8]; omega
      have HL := Lib.hid hl
      have HS2 := Lib.hid S2
      have HM2 := Lib.hid hm2
      clear hl S2 hm2 hl2 f00
      have hml : m2 ≤ 4096 := by rw [← HM2.out]; exact HF.out l2 (List.mem_of_getElem? HL.out)
      go_wp2_with (refine wpList_app47 rfl _ _ rfl rfl (hO.out.call ((Fr.refl [] wr).alloc (.cells #[.int .u8 ((m2 : Int) / 256), .int .u8 ((m2 : Int) % 256)] 5))) rfl (l2 := [((l2.length / 256 : Nat) : Int), ((l2.length % 256 : Nat) : Int)]) (Sl.of (World.at_alloc_new _ _ _ rfl) (by simp) (by rw [HM2.out]; simp) (Nat.le_refl 2)) (by omega) ?_)
      intro q3 c3 W3 hB3
      have HB3 := Lib.hid hB3
      clear hB3
      go_wp2_with (refine wpList_app47 rfl _ _ rfl rfl HB3.out rfl (HS2.out.fr0 HB3.out.own.fr) (by omega) ?_)
      intro q4 c4 W4 hB4
      have HB4 := Lib.hid hB4
      clear hB4
      go_wp2_with fail
      go_roundw
      case rel =>
        refine ⟨i + 1, q4, m + 2 + m2, c4, by omega, by simp, rfl, by omega, ?_⟩
        rw [joinP_succ HL.out, List.append_assoc]
        exact HB4
      case measure => simp [intOf]; omega
    · obtain rfl : i = n := by omega
      have hd : decide ((i : Int) < (i : Int)) = false := by simp
      have ev := joinP_full HN.out
      rw [ev] at hO
      go_wp2_with fail
      exact bodyPost_ret (results_tmp2 rfl _ _ _) rfl ⟨q, m, c, rfl, hO.out⟩
end
end Go.Proofs.Ytbhnfohoclcjdaa
