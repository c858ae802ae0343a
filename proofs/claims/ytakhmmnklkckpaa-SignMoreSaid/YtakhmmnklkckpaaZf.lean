/- What comes in to the statements: rows of 32 bytes, read. What is checked of the program alone, once for all claims of the seat. -/
import Derived.Test.YtakhmmnklkckpaaRows
import Derived.Test.YtakhmmnklkckpaaZb
import Derived.ProofKit
import Derived.OpenShut
namespace Go.Proofs.Ytakhmmnklkckpaa
open Go.ChangeShapes Go.WideShapes Go.ChangeAt Go.RowKit Go.Dr

theorem okWide_array {P : Program} {w : World} {r : Reach} {base n : Nat} {t e : TypeId} {v : Value} (ht : P.underlying t = some (.array n e)) (h : Value.okWide P w r base t v) : ∃ cs, v = .agg cs ∧ cs.size = P.cellsOf t := by
  unfold Value.okWide at h
  rw [ht] at h
  obtain ⟨cs, h1, h2, _⟩ := h
  exact ⟨cs, h1, h2⟩
theorem own : ownKnob Try.prog.godebug = none := by kernel_rfl
theorem laidOut : laidOutB Try.prog = true := by kernel_rfl
theorem Fr.below {W W' : World} (h : Fr [] W W') : Below W.heap.size W W' :=
  ⟨h.os, h.tape, h.output, h.size, fun k hk => h.at_ k hk (by simp)⟩
theorem cells5 : Try.prog.cellsOf 5 = 1 := by kernel_rfl
theorem cells22 : Try.prog.cellsOf 22 = 32 := by kernel_rfl
theorem wf_u8 {n : Int} (h : (Lit.int .u8 n).wf = true) : 0 ≤ n ∧ n ≤ 255 := by
  simp [Lit.wf, IntKind.min, IntKind.max, IntKind.signed, IntKind.bits] at h; omega
section
variable {H : Type} {enc : TypeId × Value → H} {w : World} {base b0 : Nat} {spare : Nat → Bool} {held : Bool} {r : Reach}
set_option maxRecDepth 100000 in
theorem open22 {v : Value} {d : DataW H} {ps : List MemPlace} (hval : Value.okWide Try.prog w r b0 22 v) (hd : DataW.Trod enc Try.prog w base spare held 22 v d ps) :
    ∃ b : List Int, v = .agg (ints .u8 b) ∧ b.length = 32 ∧ Byt b := by
  obtain ⟨cs, rfl, hsz⟩ := okWide_array Try.underlying22 hval
  rw [cells22] at hsz
  obtain ⟨fuel, hf⟩ := hd
  obtain ⟨xs, m, rfl, _, _, hxl, hel⟩ := DataW.trod_array Try.underlying22 hf
  have hcs : (Value.agg cs).cells = cs := rfl
  rw [hcs] at hel
  have key : ∀ i (h : i < 32), ∃ n, cs[i]? = some (.int .u8 n) ∧ 0 ≤ n ∧ n ≤ 255 := fun i h => by
    have h1 := hel i h
    rw [cells5, Nat.mul_one] at h1
    have hx : xs[i]? = some xs[i] := List.getElem?_eq_getElem (by omega)
    rw [hx] at h1
    obtain ⟨n, p, _, q⟩ := DataW.trod_int Try.underlying5 h1
    have hc : (cs.toList.drop i).take 1 = [cs[i]] := by
      rw [List.drop_eq_getElem_cons (by simp; omega)]
      simp
    rw [hc] at p
    simp only [List.cons.injEq, and_true] at p
    exact ⟨n, by rw [Array.getElem?_eq_getElem (by omega), p], wf_u8 q⟩
  refine ⟨cs.toList.map intOf, ?_, by simpa using hsz, fun x hx => ?_⟩
  · congr 1
    apply Array.ext_getElem?
    intro i
    by_cases h : i < 32
    · obtain ⟨n, hn, _⟩ := key i h
      rw [hn]
      have h2 : (cs.toList)[i]? = some (.int .u8 n) := by rw [Array.getElem?_toList]; exact hn
      simp [ints, h2, intOf]
    · rw [Array.getElem?_eq_none (by omega), Array.getElem?_eq_none (by rw [size_ints]; simp; omega)]
  · obtain ⟨y, hy, rfl⟩ := List.mem_map.1 hx
    obtain ⟨i, hi, rfl⟩ := List.getElem_of_mem hy
    obtain ⟨n, hn, h0, h1⟩ := key i (by simp at hi; omega)
    have : cs.toList[i] = .int .u8 n := by
      rw [← Array.getElem?_toList, List.getElem?_eq_getElem hi] at hn
      exact Option.some.inj hn
    rw [this]
    exact ⟨h0, by show n < 256; omega⟩
end
end Go.Proofs.Ytakhmmnklkckpaa
namespace Go.Proofs.Ytakhmmnklkckpaa
open Go.ChangeShapes Go.WideShapes Go.ChangeAt Go.RowKit Go.Dr
theorem and_true' {a b : Bool} (h : a = true) (k : b = true) : (a && b) = true := by rw [h, k]; rfl
theorem mapsRowedFact : (mapsRowed Try.pinned.checked.prog) = true := by kernel_rfl
theorem mayEnterFact : (Try.pinned.checked.prog.mayEnter) = true := by kernel_rfl
theorem liftsFact : ((Rows.fieldBytesRow.lifted == Try.pinned.checked.prog.liftsFinal)) = true := by kernel_rfl
theorem makeFact : ((Try.pinned.checked.prog.make == some Rows.fieldBytesRow.make)) = true := by kernel_rfl
end Go.Proofs.Ytakhmmnklkckpaa
