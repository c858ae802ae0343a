/- What comes in to the statements: rows of 64 bytes, slices of bytes, read. -/
import Derived.Test.YtakhmmnklkckpaaZf
import Derived.Test.YtakhmmnklkckpaaZi
import Derived.Deep.Slices
namespace Go.Proofs.Ytakhmmnklkckpaa
open Go.ChangeShapes Go.WideShapes Go.ChangeAt Go.RowKit Go.Dr
theorem cells69 : Try.prog.cellsOf 69 = 64 := by kernel_rfl
section
variable {H : Type} {enc : TypeId × Value → H} {w : World} {base b0 : Nat} {spare : Nat → Bool} {held : Bool} {r : Reach}
set_option maxRecDepth 100000 in
theorem open69 {v : Value} {d : DataW H} {ps : List MemPlace} (hval : Value.okWide Try.prog w r b0 69 v) (hd : DataW.Trod enc Try.prog w base spare held 69 v d ps) :
    ∃ b : List Int, v = .agg (ints .u8 b) ∧ b.length = 64 ∧ Byt b := by
  obtain ⟨cs, rfl, hsz⟩ := okWide_array Try.underlying69 hval
  rw [cells69] at hsz
  obtain ⟨fuel, hf⟩ := hd
  obtain ⟨xs, m, rfl, _, _, hxl, hel⟩ := DataW.trod_array Try.underlying69 hf
  have hcs : (Value.agg cs).cells = cs := rfl
  rw [hcs] at hel
  have key : ∀ i (h : i < 64), ∃ n, cs[i]? = some (.int .u8 n) ∧ 0 ≤ n ∧ n ≤ 255 := fun i h => by
    have h1 := hel i h
    rw [cells5, Nat.mul_one] at h1
    have hx : xs[i]? = some xs[i] := List.getElem?_eq_getElem (by omega)
    rw [hx] at h1
    obtain ⟨n, p, _, q⟩ := DataW.trod_int Try.underlying5 h1
    have hc : (cs.toList.drop i).take 1 = [cs[i]] := by
      rw [List.drop_eq_getElem_cons (by simp; omega)]
      simp
    rw [hc] at p
    simp only [List.cons.injEq, and_true] at p
    exact ⟨n, by rw [Array.getElem?_eq_getElem (by omega), p], wf_u8 q⟩
  refine ⟨cs.toList.map intOf, ?_, by simpa using hsz, fun x hx => ?_⟩
  · congr 1
    apply Array.ext_getElem?
    intro i
    by_cases h : i < 64
    · obtain ⟨n, hn, _⟩ := key i h
      rw [hn]
      have h2 : (cs.toList)[i]? = some (.int .u8 n) := by rw [Array.getElem?_toList]; exact hn
      simp [ints, h2, intOf]
    · rw [Array.getElem?_eq_none (by omega), Array.getElem?_eq_none (by rw [size_ints]; simp; omega)]
  · obtain ⟨y, hy, rfl⟩ := List.mem_map.1 hx
    obtain ⟨i, hi, rfl⟩ := List.getElem_of_mem hy
    obtain ⟨n, hn, h0, h1⟩ := key i (by simp at hi; omega)
    have : cs.toList[i] = .int .u8 n := by
      rw [← Array.getElem?_toList, List.getElem?_eq_getElem hi] at hn
      exact Option.some.inj hn
    rw [this]
    show 0 ≤ n ∧ n < 256
    omega
set_option maxRecDepth 100000 in
theorem slice_of_ok {e : TypeId} {t : TypeId} {v : Value} (ht : Try.prog.underlying t = some (.slice e)) (hval : Value.okWide Try.prog w r b0 t v) :
    (v = .slice none 0 0) ∨ ∃ b off len cap, v = .slice (some ⟨b, off, none⟩) len cap := by
  unfold Value.okWide at hval
  rw [ht] at hval
  simp only [Cell.okWide, ht] at hval
  unfold Cell.ok at hval
  rw [ht] at hval
  cases v with
  | slice p n c =>
    cases p with
    | none =>
      cases n with
      | zero => cases c with
        | zero => exact .inl rfl
        | succ c => simp at hval
      | succ n => simp at hval
    | some a =>
      simp only at hval
      obtain ⟨_, _, _, hs, _⟩ := hval
      obtain ⟨b, off, sp⟩ := a
      simp only at hs
      subst hs
      exact .inr ⟨b, off, n, c, rfl⟩
  | _ => simp at hval
set_option maxRecDepth 100000 in
theorem open68 {v : Value} {d : DataW H} {ps : List MemPlace} (hval : Value.okWide Try.prog w r b0 68 v) (hd : DataW.Trod enc Try.prog w base spare held 68 v d ps) :
    ∃ p n cap l, v = .slice p n cap ∧ Sl .u8 w p n cap l ∧ Byt l ∧ n ≤ maxLen := by
  obtain ⟨fuel, hf⟩ := hd
  rcases slice_of_ok Try.underlying68 hval with rfl | ⟨b, off, len, cap, rfl⟩
  · exact ⟨none, 0, 0, [], rfl, ⟨rfl, Nat.le_refl 0, .inl rfl, fun _ => rfl, by simp⟩, (fun x hx => by cases hx), Nat.zero_le _⟩
  · rcases Go.Deep.open_slice1 Try.underlying68 cells5 hf with ⟨hcs, _⟩ | ⟨a, len', cap', m, n, V, D, Pl, hcs, _, hlc, hcm, hm, _, hel⟩
    · simp [Value.cells] at hcs
    · simp [Value.cells] at hcs
      obtain ⟨rfl, rfl, rfl⟩ := hcs
      have hle : len ≤ m := by rw [hm]; split <;> omega
      have key : ∀ i, i < len → ∃ x : Int, 0 ≤ x ∧ x ≤ 255 ∧ w.cell? ⟨b, off + i, none⟩ = some (.int .u8 x) := fun i hi => by
        obtain ⟨h1, h2⟩ := hel i (by omega)
        obtain ⟨x, p, _, q⟩ := DataW.trod_int Try.underlying5 h2
        simp only [List.cons.injEq, and_true] at p
        rw [p, Addr.add_mid] at h1
        exact ⟨x, (wf_u8 q).1, (wf_u8 q).2, h1⟩
      obtain ⟨f, hf'⟩ := Classical.axiomOfChoice (r := fun (i : Nat) (x : Int) => i < len → 0 ≤ x ∧ x ≤ 255 ∧ w.cell? ⟨b, off + i, none⟩ = some (.int .u8 x)) (fun i => by
        by_cases hi : i < len
        · obtain ⟨x, h⟩ := key i hi; exact ⟨x, fun _ => h⟩
        · exact ⟨0, fun h => absurd h hi⟩)
      refine ⟨_, len, cap, (List.range len).map f, rfl, ⟨by simp, hlc, ?_, by simp, by simp⟩, fun x hx => ?_, Nat.le_trans hlc hcm⟩
      · rcases Nat.eq_zero_or_pos len with h0 | h0
        · exact .inl h0
        · right
          have hb := (hf' 0 h0).2.2
          rw [World.cell?_at] at hb
          cases hbl : w.blk b with
          | none => rw [hbl] at hb; simp at hb
          | some o =>
            cases o with
            | cells cs T fr =>
              have hall : ∀ i, i < len → cs[off + i]? = some (.int .u8 (f i)) := fun i hi => by
                have h := (hf' i hi).2.2
                rw [World.cell?_at, hbl] at h
                exact h
              have hsz : off + len ≤ cs.size := by
                have h := hall (len - 1) (by omega)
                have := (Array.getElem?_eq_some_iff.1 h).1
                omega
              refine ⟨b, off, cs, T, fr, rfl, hbl, hsz, ?_⟩
              apply List.ext_getElem?
              intro i
              rw [Array.getElem?_toList]
              by_cases hi : i < len
              · have h := hall i hi
                rw [Array.getElem?_extract_of_lt (by omega)]
                have e : cs[off + i]? = some cs[off + i] := Array.getElem?_eq_getElem (by omega)
                rw [e] at h
                rw [h]
                simp [hi]
              · rw [Array.getElem?_eq_none (by simp only [Array.size_extract]; omega), List.getElem?_eq_none (by simp; omega)]
            | _ => rw [hbl] at hb; simp at hb
      · obtain ⟨i, hi, rfl⟩ := List.mem_map.1 hx
        have := hf' i (List.mem_range.1 hi)
        omega
end
end Go.Proofs.Ytakhmmnklkckpaa
