/- What comes in to the statements: objects, rows of bytes, read. -/
import Derived.Test.YtbhnfohoclcjdaaRows
import Derived.Test.YtbhnfohoclcjdaaKdR
import Derived.ProofKit
import Derived.OpenShut
set_option linter.unusedVariables false
set_option linter.unusedSimpArgs false
namespace Go.Proofs.Ytbhnfohoclcjdaa
open Go.ChangeShapes Go.WideShapes Go.ChangeAt Go.RowKit Go.Dr Go.Kd
theorem own : ownKnob Try.prog.godebug = none := by kernel_rfl
theorem laidOut : laidOutB Try.prog = true := by kernel_rfl
theorem Fr.below {W W' : World} (h : Fr [] W W') : Below W.heap.size W W' :=
  ⟨h.os, h.tape, h.output, h.size, fun k hk => h.at_ k hk (by simp)⟩
/-- A cell of a number's type. -/
theorem int_cell {P : Program} {w : World} {r : Reach} {base u : Nat} {v : Value} {k : IntKind} (h : Cell.okWide P w r base u v) (hu : P.underlying u = some (.int k)) : ∃ n, v = .int k n ∧ k.has n := by
  unfold Cell.okWide at h
  rw [hu] at h
  cases v <;> simp only [Cell.ok, hu] at h <;> first | exact h.elim | skip
  obtain ⟨rfl, h⟩ := h
  exact ⟨_, rfl, h⟩
theorem slice_cell {P : Program} {w : World} {r : Reach} {base u e : Nat} {v : Value} (h : Cell.okWide P w r base u v) (hu : P.underlying u = some (.slice e)) : ∃ p n c, v = .slice p n c := by
  unfold Cell.okWide at h
  rw [hu] at h
  cases v <;> simp only [Cell.ok, hu] at h <;> first | exact h.elim | exact ⟨_, _, _, rfl⟩ | skip
theorem has_u8 {n : Int} (h : IntKind.u8.has n) : 0 ≤ n ∧ n < 256 := by
  simp only [IntKind.has, IntKind.min, IntKind.max, IntKind.signed, IntKind.bits] at h
  simp at h
  omega
theorem has_u32 {n : Int} (h : IntKind.u32.has n) : 0 ≤ n ∧ n < 4294967296 := by
  simp only [IntKind.has, IntKind.min, IntKind.max, IntKind.signed, IntKind.bits] at h
  simp at h
  omega
/-- Cells of bytes. -/
theorem row_bytes : ∀ (L : List Value), (∀ v ∈ L, ∃ n, v = .int .u8 n ∧ 0 ≤ n ∧ n < 256) → ∃ l : List Int, L = l.map (Value.int .u8) ∧ isBytes l
  | [], _ => ⟨[], rfl, by simp [isBytes]⟩
  | v :: L, h => by
    obtain ⟨l, hl, hb⟩ := row_bytes L (fun u hu => h u (by simp [hu]))
    obtain ⟨n, rfl, h0, h1⟩ := h v (by simp)
    refine ⟨n :: l, by rw [hl]; rfl, fun x hx => ?_⟩
    rcases List.mem_cons.1 hx with rfl | hx
    · exact ⟨h0, h1⟩
    · exact hb x hx
set_option maxRecDepth 100000 in
theorem types22 : Try.prog.cellTypes Try.prog.depth 22 = some (List.replicate 32 5) := by kernel_rfl
set_option maxRecDepth 100000 in
theorem types29 : Try.prog.cellTypes Try.prog.depth 29 = some (5 :: 5 :: (List.replicate 32 5 ++ 24 :: 24 :: (List.replicate 64 5 ++ [27]))) := by kernel_rfl
theorem cells22 : Try.prog.cellsOf 22 = 32 := by kernel_rfl
theorem cells29 : Try.prog.cellsOf 29 = 101 := by kernel_rfl
section
variable {w : World} {b0 : Nat} {r : Reach} {v : Value}
set_option maxRecDepth 100000 in
theorem open24 (h : Value.okWide Try.prog w r b0 24 v) : ∃ a, v = .int .u32 a ∧ 0 ≤ a ∧ a < 4294967296 := by
  unfold Value.okWide at h
  rw [Try.underlying24] at h
  obtain ⟨a, ha, hh⟩ := int_cell h Try.underlying24
  exact ⟨a, ha, has_u32 hh⟩
set_option maxRecDepth 100000 in
theorem open22 (h : Value.okWide Try.prog w r b0 22 v) : ∃ b : List Int, v = .agg (ints .u8 b) ∧ b.length = 32 ∧ isBytes b := by
  unfold Value.okWide at h
  rw [Try.underlying22] at h
  obtain ⟨cs, rfl, hsz, ts, hts, _, hc⟩ := h
  rw [cells22] at hsz
  rw [types22, Option.some.injEq] at hts
  subst hts
  obtain ⟨l, hl, hb⟩ := row_bytes cs.toList (fun v hv => by
    obtain ⟨i, hi, rfl⟩ := List.getElem_of_mem hv
    rw [Array.length_toList] at hi
    obtain ⟨u, hu, hok⟩ := hc i cs[i] (Array.getElem?_eq_getElem hi)
    rw [List.length_replicate, List.getElem?_replicate] at hu
    split at hu
    · injection hu with hu
      subst hu
      obtain ⟨n, hn, hh⟩ := int_cell hok Try.underlying5
      exact ⟨n, by rw [Array.getElem_toList]; exact hn, has_u8 hh⟩
    · cases hu)
  refine ⟨l, ?_, ?_, hb⟩
  · congr 1
    apply Array.ext'
    rw [hl, toList_ints]
  · have := congrArg List.length hl
    simp at this
    omega
set_option maxRecDepth 100000 in
theorem open29 (h : Value.okWide Try.prog w r b0 29 v) : ∃ (s0 n0 : Int) (key : List Int) (frm til : Int) (sig : List Int) (p : Option Addr) (m c : Nat), v = .agg (cObject (.int .u8 s0) (.int .u8 n0) key (.int .u32 frm) (.int .u32 til) sig (.slice p m c)).toArray ∧
    key.length = 32 ∧ sig.length = 64 ∧ isBytes key ∧ isBytes sig ∧ 0 ≤ frm ∧ frm < 4294967296 ∧ 0 ≤ til ∧ til < 4294967296 := by
  unfold Value.okWide at h
  rw [Try.underlying29] at h
  obtain ⟨cs, rfl, hsz, ts, hts, _, hc⟩ := h
  rw [cells29] at hsz
  rw [types29, Option.some.injEq] at hts
  subst hts
  have hL : cs.toList.length = 101 := by simpa using hsz
  have cell : ∀ i (hi : i < 101) u, (5 :: 5 :: (List.replicate 32 5 ++ 24 :: 24 :: (List.replicate 64 5 ++ [27])) : List Nat)[i]? = some u → Cell.okWide Try.prog w r b0 u (cs.toList[i]'(by omega)) := fun i hi u hu => by
    obtain ⟨u', hu', hok⟩ := hc i (cs[i]'(by omega)) (Array.getElem?_eq_getElem (by omega))
    rw [show (5 :: 5 :: (List.replicate 32 5 ++ 24 :: 24 :: (List.replicate 64 5 ++ [27])) : List Nat).length = 101 by simp, Nat.mod_eq_of_lt hi, hu] at hu'
    injection hu' with hu'
    subst hu'
    rw [Array.getElem_toList]
    exact hok
  have key : ∃ l : List Int, (cs.toList.drop 2).take 32 = l.map (Value.int .u8) ∧ isBytes l := row_bytes _ (fun v hv => by
    obtain ⟨j, hj, rfl⟩ := List.getElem_of_mem hv
    rw [List.length_take, List.length_drop, hL] at hj
    obtain ⟨n, hn, hh⟩ := int_cell (cell (2 + j) (by omega) 5 (by
      rw [show 2 + j = j + 1 + 1 by omega, List.getElem?_cons_succ, List.getElem?_cons_succ, List.getElem?_append_left (by simp; omega), List.getElem?_replicate, if_pos (by omega)])) Try.underlying5
    exact ⟨n, by rw [List.getElem_take, List.getElem_drop]; exact hn, has_u8 hh⟩)
  have sig : ∃ l : List Int, (cs.toList.drop 36).take 64 = l.map (Value.int .u8) ∧ isBytes l := row_bytes _ (fun v hv => by
    obtain ⟨j, hj, rfl⟩ := List.getElem_of_mem hv
    rw [List.length_take, List.length_drop, hL] at hj
    obtain ⟨n, hn, hh⟩ := int_cell (cell (36 + j) (by omega) 5 (by
      rw [show 36 + j = (34 + j) + 1 + 1 by omega, List.getElem?_cons_succ, List.getElem?_cons_succ, List.getElem?_append_right (by simp; omega), List.length_replicate, show 34 + j - 32 = j + 1 + 1 by omega, List.getElem?_cons_succ, List.getElem?_cons_succ, List.getElem?_append_left (by simp; omega), List.getElem?_replicate, if_pos (by omega)])) Try.underlying5
    exact ⟨n, by rw [List.getElem_take, List.getElem_drop]; exact hn, has_u8 hh⟩)
  obtain ⟨s0, h0, _⟩ := int_cell (cell 0 (by omega) 5 rfl) Try.underlying5
  obtain ⟨n0, h1, _⟩ := int_cell (cell 1 (by omega) 5 rfl) Try.underlying5
  obtain ⟨frm, h34, hf⟩ := int_cell (cell 34 (by omega) 24 rfl) Try.underlying24
  obtain ⟨til, h35, ht⟩ := int_cell (cell 35 (by omega) 24 rfl) Try.underlying24
  obtain ⟨p, m, c, h100⟩ := slice_cell (cell 100 (by omega) 27 rfl) Try.underlying27
  obtain ⟨kl, hk, hkb⟩ := key
  obtain ⟨sl, hs, hsb⟩ := sig
  have lk : kl.length = 32 := by have := congrArg List.length hk; simp [hL] at this; omega
  have ls : sl.length = 64 := by have := congrArg List.length hs; simp [hL] at this; omega
  have e : cs.toList = cObject (.int .u8 s0) (.int .u8 n0) kl (.int .u32 frm) (.int .u32 til) sl (.slice p m c) := by
    have d0 : cs.toList = cs.toList[0]'(by omega) :: cs.toList.drop 1 := by
      have := List.drop_eq_getElem_cons (l := cs.toList) (i := 0) (by omega)
      simpa using this
    have d1 := List.drop_eq_getElem_cons (l := cs.toList) (i := 1) (by omega)
    have d2 : cs.toList.drop 2 = (cs.toList.drop 2).take 32 ++ cs.toList.drop 34 := by
      conv => lhs; rw [← List.take_append_drop 32 (cs.toList.drop 2)]
      rw [List.drop_drop]
    have d34 := List.drop_eq_getElem_cons (l := cs.toList) (i := 34) (by omega)
    have d35 := List.drop_eq_getElem_cons (l := cs.toList) (i := 35) (by omega)
    have d36 : cs.toList.drop 36 = (cs.toList.drop 36).take 64 ++ cs.toList.drop 100 := by
      conv => lhs; rw [← List.take_append_drop 64 (cs.toList.drop 36)]
      rw [List.drop_drop]
    have d100 := List.drop_eq_getElem_cons (l := cs.toList) (i := 100) (by omega)
    have d101 : cs.toList.drop 101 = [] := List.drop_eq_nil_of_le (by omega)
    rw [d0, d1, d2, d34, d35, d36, d100, d101, hk, hs, h0, h1, h34, h35, h100]
    rfl
  refine ⟨s0, n0, kl, frm, til, sl, p, m, c, ?_, lk, ls, hkb, hsb, (has_u32 hf).1, (has_u32 hf).2, (has_u32 ht).1, (has_u32 ht).2⟩
  congr 1
  rw [← e, Array.toArray_toList]
end
end Go.Proofs.Ytbhnfohoclcjdaa
