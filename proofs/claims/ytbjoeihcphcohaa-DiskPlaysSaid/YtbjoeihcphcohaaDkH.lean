/- What comes in to the statements on disks: a list of ops, read. -/
import Derived.Test.YtbjoeihcphcohaaDkG
import Derived.ProofKit
import Derived.OpenShut
import Derived.Deep.Slices
namespace Go.Proofs.Ytbjoeihcphcohaa
open Go.ChangeShapes Go.WideShapes Go.ChangeAt Go.RowKit Go.Dr

theorem own : ownKnob Try.prog.godebug = none := by kernel_rfl
theorem laidOut : laidOutB Try.prog = true := by kernel_rfl

theorem Fr.below {W W' : World} (h : Fr [] W W') : Below W.heap.size W W' :=
  ⟨h.os, h.tape, h.output, h.size, fun k hk => h.at_ k hk (by simp)⟩

theorem cells28 : Try.prog.cellsOf 28 = 4 := by kernel_rfl
theorem cells5 : Try.prog.cellsOf 5 = 1 := by kernel_rfl
theorem cells3 : Try.prog.cellsOf 3 = 1 := by kernel_rfl

theorem wf_u8 {n : Int} (h : (Lit.int .u8 n).wf = true) : 0 ≤ n ∧ n ≤ 255 := by
  simp [Lit.wf, IntKind.min, IntKind.max, IntKind.signed, IntKind.bits] at h; omega
theorem wf_i64' {n : Int} (h : (Lit.int .i64 n).wf = true) : -9223372036854775808 ≤ n ∧ n ≤ 9223372036854775807 := by
  simp [Lit.wf, IntKind.min, IntKind.max, IntKind.signed, IntKind.bits] at h; omega

section
variable {H : Type} {enc : TypeId × Value → H} {w : World} {base : Nat} {spare : Nat → Bool} {held : Bool}
/-- Cells that are there, one behind the other. -/
theorem cellsN {a : Addr} {cs : List Value} {n : Nat} (h : w.cells? base a n = some cs) : cs.length = n ∧ ∀ i v, cs[i]? = some v → w.cell? (a.add i) = some v := by
  unfold World.cells? at h
  split at h
  · have hl := mapM_some_length h
    refine ⟨by simpa using hl, fun i v hv => ?_⟩
    have hi : i < n := by
      have := (List.getElem?_eq_some_iff.1 hv).1
      simp only [List.length_range] at hl; omega
    have := mapM_some_get h i i (by simp [hi])
    rw [this]; exact hv
  · cases h

theorem op_of_trod {n : Nat} {cs : List Value} {x : DataW H × List MemPlace} (h : DataW.trod enc Try.prog w base spare held n 28 cs = some x) (hl : cs.length = 4) :
    ∃ o : OpV, o.wf ∧ cs = [.int .u8 o.k, .int .i64 o.a, .int .u8 o.f, .int .u8 o.s] := by
  obtain ⟨xs, m, rfl, _, _, hxl, hf⟩ := DataW.trod_struct Try.underlying28 h
  match cs, hl with
  | [c0, c1, c2, c3], _ =>
    have h0 : DataW.trod enc Try.prog w base spare held m 5 (([c0, c1, c2, c3].drop 0).take (Try.prog.cellsOf 5)) = xs[0]? := hf 0 _ rfl
    rw [cells5] at h0
    change DataW.trod enc Try.prog w base spare held m 5 [c0] = xs[0]? at h0
    have h1 : DataW.trod enc Try.prog w base spare held m 3 (([c0, c1, c2, c3].drop 1).take (Try.prog.cellsOf 3)) = xs[1]? := hf 1 _ rfl
    rw [cells3] at h1
    change DataW.trod enc Try.prog w base spare held m 3 [c1] = xs[1]? at h1
    have h2 : DataW.trod enc Try.prog w base spare held m 5 (([c0, c1, c2, c3].drop 2).take (Try.prog.cellsOf 5)) = xs[2]? := hf 2 _ rfl
    rw [cells5] at h2
    change DataW.trod enc Try.prog w base spare held m 5 [c2] = xs[2]? at h2
    have h3 : DataW.trod enc Try.prog w base spare held m 5 (([c0, c1, c2, c3].drop 3).take (Try.prog.cellsOf 5)) = xs[3]? := hf 3 _ rfl
    rw [cells5] at h3
    change DataW.trod enc Try.prog w base spare held m 5 [c3] = xs[3]? at h3
    have hs : xs.length = 4 := hxl
    obtain ⟨x0, e0⟩ : ∃ y, xs[0]? = some y := ⟨_, List.getElem?_eq_getElem (by omega)⟩
    obtain ⟨x1, e1⟩ : ∃ y, xs[1]? = some y := ⟨_, List.getElem?_eq_getElem (by omega)⟩
    obtain ⟨x2, e2⟩ : ∃ y, xs[2]? = some y := ⟨_, List.getElem?_eq_getElem (by omega)⟩
    obtain ⟨x3, e3⟩ : ∃ y, xs[3]? = some y := ⟨_, List.getElem?_eq_getElem (by omega)⟩
    rw [e0] at h0; rw [e1] at h1; rw [e2] at h2; rw [e3] at h3
    obtain ⟨n0, p0, _, q0⟩ := DataW.trod_int Try.underlying5 h0
    obtain ⟨n1, p1, _, q1⟩ := DataW.trod_int Try.underlying3 h1
    obtain ⟨n2, p2, _, q2⟩ := DataW.trod_int Try.underlying5 h2
    obtain ⟨n3, p3, _, q3⟩ := DataW.trod_int Try.underlying5 h3
    simp only [List.cons.injEq, and_true] at p0 p1 p2 p3
    subst p0 p1 p2 p3
    have := wf_u8 q0; have := wf_i64' q1; have := wf_u8 q2; have := wf_u8 q3
    exact ⟨⟨n0, n1, n2, n3⟩, by unfold OpV.wf; dsimp only; omega, rfl⟩

theorem ops_of_trod {p : Option Addr} {len cap : Nat} {d : DataW H} {ps : List MemPlace} (h : DataW.Trod enc Try.prog w base spare held 22 (.slice p len cap) d ps) :
    ∃ l : List OpV, l.length = len ∧ OpsAt w p l := by
  obtain ⟨fuel, hf⟩ := h
  rcases Go.Deep.open_slice Try.underlying22 hf with ⟨hcs, _⟩ | ⟨a, len', cap', m, n, D, Pl, hcs, _, hlc, _, hm, _, hel⟩
  · simp [Value.cells] at hcs
    obtain ⟨rfl, rfl, rfl⟩ := hcs
    exact ⟨[], rfl, fun o ho => (by cases ho), fun hne => absurd rfl hne⟩
  · simp [Value.cells] at hcs
    obtain ⟨rfl, rfl, rfl⟩ := hcs
    have hle : len ≤ m := by rw [hm]; split <;> omega
    have key : ∀ i, i < len → ∃ o : OpV, o.wf ∧ ∀ j v, [Value.int .u8 o.k, .int .i64 o.a, .int .u8 o.f, .int .u8 o.s][j]? = some v → w.cell? (a.add (i * 4 + j)) = some v := fun i hi => by
      obtain ⟨cs, hc, ht⟩ := hel i (by omega)
      rw [cells28] at hc
      obtain ⟨hl4, hcell⟩ := cellsN hc
      obtain ⟨o, ho, rfl⟩ := op_of_trod ht hl4
      refine ⟨o, ho, fun j v hv => ?_⟩
      have := hcell j v hv
      rwa [Go.Deep.add_add] at this
    obtain ⟨f, hf'⟩ := Classical.axiomOfChoice (r := fun (i : Nat) (o : OpV) => i < len → o.wf ∧ ∀ j v, [Value.int .u8 o.k, .int .i64 o.a, .int .u8 o.f, .int .u8 o.s][j]? = some v → w.cell? (a.add (i * 4 + j)) = some v)
      (fun i => by
        by_cases hi : i < len
        · obtain ⟨o, h⟩ := key i hi; exact ⟨o, fun _ => h⟩
        · exact ⟨⟨0, 0, 0, 0⟩, fun h => absurd h hi⟩)
    refine ⟨(List.range len).map f, by simp, fun o ho => ?_, fun hne => ?_⟩
    · obtain ⟨i, hi, rfl⟩ := List.mem_map.1 ho
      exact (hf' i (List.mem_range.1 hi)).1
    · have hlen : 0 < len := by
        rcases Nat.eq_zero_or_pos len with h | h
        · subst h; exact absurd rfl hne
        · exact h
      -- the first cell is there: the address is a plain one, in a row of cells
      have hlast := (hf' (len - 1) (by omega)).2 3 _ rfl
      have h00 := (hf' 0 hlen).2 0 _ rfl
      obtain ⟨b, off, spot⟩ := a
      have hspot : spot = none := by
        simp only [Nat.zero_mul, Nat.zero_add, Addr.add_zero'] at h00
        unfold World.cell? at h00
        split at h00
        · cases spot with
          | none => rfl
          | some s => simp at h00
        · cases h00
      subst hspot
      rw [Addr.add_mid] at hlast
      cases hb : w.blk b with
      | none => rw [World.cell?_at, hb] at hlast; cases hlast
      | some ob =>
        rw [World.cell?_at, hb] at hlast
        cases ob with
        | cells cs T fr =>
          have hsz : off + ((len - 1) * 4 + 3) < cs.size := (Array.getElem?_eq_some_iff.1 hlast).1
          refine ⟨b, off, cs, T, fr, rfl, hb, by simp; omega, fun i hi => ?_⟩
          have hi' : i < len := by simpa using hi
          have hc := (hf' i hi').2
          simp only [List.getElem_map, List.getElem_range]
          apply Array.ext_getElem?
          intro j
          by_cases hj : j < 4
          · rw [Array.getElem?_extract_of_lt (by omega)]
            have : ∃ v, [Value.int .u8 (f i).k, .int .i64 (f i).a, .int .u8 (f i).f, .int .u8 (f i).s][j]? = some v := ⟨_, List.getElem?_eq_getElem (by simpa using hj)⟩
            obtain ⟨v, hv⟩ := this
            have h2 := hc j v hv
            rw [Addr.add_mid, World.cell?_at, hb] at h2
            have h3 : cs[off + (i * 4 + j)]? = some v := h2
            rw [← Array.getElem?_eq_getElem, show off + i * 4 + j = off + (i * 4 + j) from by omega, h3, ← hv]
            simp
          · rw [Array.getElem?_eq_none (by simp only [Array.size_extract]; omega), Array.getElem?_eq_none (by simp; omega)]
        | _ => cases hlast
end
end Go.Proofs.Ytbjoeihcphcohaa
