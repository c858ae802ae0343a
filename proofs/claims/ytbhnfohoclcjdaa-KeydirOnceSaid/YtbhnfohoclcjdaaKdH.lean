/- What is written piece by piece. -/
import Derived.Test.YtbhnfohoclcjdaaKdG
set_option linter.unusedVariables false
set_option linter.unusedSimpArgs false
namespace Go.Proofs.Ytbhnfohoclcjdaa
open Go.RowKit Go.Dr Go.Kd
theorem info47 : (Try.prog.info? 47).map (fun i => (i.zero, i.size, i.bytes)) = some (some (.slice none 0 0), 1, 24) := by kernel_rfl
theorem E86 : ElemT Try.prog 86 47 1 24 #[.slice none 0 0] := ⟨Try.underlying86, by kernel_rfl, rfl⟩
@[go_sem] theorem one86 (w : World) (q : Option Addr) (m c : Nat) : (buildOneK 86 #[(0, .slice q m c)]).run Try.prog w = .ok (.slice (some ⟨w.heap.size, 0, none⟩) 1 1) (w.alloc (.cells #[.slice q m c] 47)) :=
  E86.buildOne (by omega) (by omega) w (.slice q m c) rfl
section
variable {w0 w : World} {L : List (Nat × Obj)} {p : Option Addr} {n cap : Nat} {vs : List Value} {ops : Array Oper} {rest : List Oper} {o : Oper} {a : Act} {Q : Exit → Act → World → Prop}
/-- [][]byte: append of a slice of slices. -/
theorem wpList_app86 (hgd : o.guard = none) (s x : Operand) (ho : o.op = .call { callee := .builtin .append, args := #[s, x], argTypes := #[86, 86] })
    (hs : a.eval s = .slice p n cap) (B : BldV w0 L 47 1 w p n cap vs) {q : Option Addr} {m c : Nat} {us : List Value} (hx : a.eval x = .slice q m c) (S : Sv 1 w q m c us) (h1 : ∀ u ∈ us, u.oneCell' = true) (hbig : n + m ≤ 1000000)
    (h : ∀ p' cap' w', BldV w0 L 47 1 w' p' (n + m) cap' (vs ++ us) → wpList Try.prog ops Q rest (a.put o.dst (.slice p' (n + m) cap')) w') : wpList Try.prog ops Q (o :: rest) a w := by
  obtain ⟨i, hi, hz, hs1, hb1⟩ := info_parts info47
  exact wpList_apdV hgd s x 86 86 ho Try.underlying86 hi hz hs1 (by omega) hb1 rfl hs B hx (Apd.ofSrc Try.underlying86 hi hz (by rw [hs1]; exact S.src Try.underlying86 h1)) (by omega) (by omega) h
end
section
variable {w0 w : World} {L : List (Nat × Obj)} {p : Option Addr} {n cap : Nat} {vs : List Value}
set_option maxRecDepth 100000 in
set_option maxHeartbeats 2000000 in
theorem num_f {i wb k s : Nat} (B : BldV w0 L 47 1 w p n cap vs) (hi : L[i]? = some (wb, .cells #[.slice p n cap, .bool false] 106)) (hn : n ≤ 1000) (h1 : 1 ≤ s) (h8 : s < 8) (hk : k < 256 ^ s) :
    Calls Try.prog 41 #[.pointer (some ⟨wb, 0, none⟩), .int .u64 k, .int .i64 s] w fun e w' => e = .returned (.tuple #[]) ∧ ∃ b p' cap', BldV w0 ((b, .cells (ints .u8 (putB k s)) 5) :: L.set i (wb, .cells #[.slice p' (n + 1) cap', .bool false] 106)) 47 1 w' p' (n + 1) cap' (vs ++ [.slice (some ⟨b, 0, none⟩) s s]) := by
  have HB := Lib.hid B
  have HI := Lib.hid hi
  clear B hi
  go_enter Try.func41, Try.ntmps41
  go_wp2_with fail
  refine (put_b h1 h8 hk).mono ?_
  rintro e w' ⟨b, rfl, hb, hs, F⟩
  have B2 := HB.out.add F hb hs
  have hi2 : ((b, .cells (ints .u8 (putB k s)) 5) :: L)[i + 1]? = some (wb, .cells #[.slice p n cap, .bool false] 106) := HI.out
  have f1 := B2.own.nth (i + 1) hi2
  have t1 := B2.own.lt (i + 1) hi2
  have HB2 := Lib.hid B2
  have HI2 := Lib.hid hi2
  clear hb hs F B2 hi2
  go_wp2_with (refine wpList_app86 rfl _ _ rfl rfl (HB2.out.call ((Fr.refl [] w').alloc (.cells #[.slice (some ⟨b, 0, none⟩) s s] 47))) rfl (Sv.one (World.at_alloc_new _ _ _ rfl)) (by simp [Value.oneCell']) (by omega) ?_)
  intro p3 c3 W3 B3
  have f3 := B3.own.nth (i + 1) HI2.out
  have t3 := B3.own.lt (i + 1) HI2.out
  have HB3 := Lib.hid B3
  clear B3 f1 t1
  go_wp2_with fail
  have B4 := HB3.out.set (i + 1) (.cells #[.slice p3 (n + 1) c3, .bool false] 106) HI2.out
  exact bodyPost_end (results_none rfl _ _ _) rfl ⟨rfl, b, p3, c3, B4⟩
end
end Go.Proofs.Ytbhnfohoclcjdaa
