/- Rows of numbers that come in: []byte, [][]uint16. -/
import Derived.Test.YtbhnfohoclcjdaaKdX
import Derived.Deep.Slices
set_option linter.unusedVariables false
set_option linter.unusedSimpArgs false
namespace Go.Proofs.Ytbhnfohoclcjdaa
open Go.ChangeShapes Go.WideShapes Go.ChangeAt Go.RowKit Go.Dr Go.Kd
/-- Numbers of one kind, one behind the other. -/
structure RowI (k : IntKind) (w : World) (p : Option Addr) (n : Nat) (l : List Int) : Prop where
  len : l.length = n
  row : n = 0 ∨ ∃ b off cs T fr, p = some ⟨b, off, none⟩ ∧ w.blk b = some (.cells cs T fr) ∧ ∀ j x, l[j]? = some x → cs[off + j]? = some (.int k x)
  ok : ∀ x ∈ l, (Lit.int k x).wf = true
  big : n ≤ maxLen
/-- Rows of them. -/
structure RowR (k : IntKind) (w : World) (p : Option Addr) (n : Nat) (L : List (List Int)) : Prop where
  len : L.length = n
  row : n = 0 ∨ ∃ b off cs T fr, p = some ⟨b, off, none⟩ ∧ w.blk b = some (.cells cs T fr) ∧ ∀ j l, L[j]? = some l → ∃ q m c, cs[off + j]? = some (.slice q m c) ∧ RowI k w q m l
  big : n ≤ maxLen
theorem RowI.fr0 {k : IntKind} {w w' : World} {p : Option Addr} {n : Nat} {l : List Int} (h : RowI k w p n l) (F : Fr [] w w') : RowI k w' p n l :=
  ⟨h.len, h.row.imp id fun ⟨b, off, cs, T, fr, h1, h2, h3⟩ => ⟨b, off, cs, T, fr, h1, F.get h2 (by simp), h3⟩, h.ok, h.big⟩
theorem RowR.fr0 {k : IntKind} {w w' : World} {p : Option Addr} {n : Nat} {L : List (List Int)} (h : RowR k w p n L) (F : Fr [] w w') : RowR k w' p n L :=
  ⟨h.len, h.row.imp id fun ⟨b, off, cs, T, fr, h1, h2, h3⟩ => ⟨b, off, cs, T, fr, h1, F.get h2 (by simp), fun j l hj => by
    obtain ⟨q, m, c, h4, h5⟩ := h3 j l hj
    exact ⟨q, m, c, h4, h5.fr0 F⟩⟩, h.big⟩
/-- One number of a row. -/
theorem RowI.at {k : IntKind} {w : World} {p : Option Addr} {n : Nat} {l : List Int} (h : RowI k w p n l) {j : Nat} (hj : j < n) :
    ∃ b off cs T fr x, p = some ⟨b, off, none⟩ ∧ w.blk b = some (.cells cs T fr) ∧ off + j < cs.size ∧ cs[off + j]? = some (.int k x) ∧ l[j]? = some x ∧ (Lit.int k x).wf = true := by
  rcases h.row with h0 | ⟨b, off, cs, T, fr, h1, h2, h3⟩
  · omega
  · have hl : j < l.length := by rw [h.len]; exact hj
    have h4 := h3 j l[j] (List.getElem?_eq_getElem hl)
    exact ⟨b, off, cs, T, fr, l[j], h1, h2, (Array.getElem?_eq_some_iff.1 h4).1, h4, List.getElem?_eq_getElem hl, h.ok _ (List.getElem_mem hl)⟩
theorem RowR.at {k : IntKind} {w : World} {p : Option Addr} {n : Nat} {L : List (List Int)} (h : RowR k w p n L) {j : Nat} (hj : j < n) :
    ∃ b off cs T fr q m c l, p = some ⟨b, off, none⟩ ∧ w.blk b = some (.cells cs T fr) ∧ off + j < cs.size ∧ cs[off + j]? = some (.slice q m c) ∧ L[j]? = some l ∧ RowI k w q m l := by
  rcases h.row with h0 | ⟨b, off, cs, T, fr, h1, h2, h3⟩
  · omega
  · have hl : j < L.length := by rw [h.len]; exact hj
    obtain ⟨q, m, c, h4, h5⟩ := h3 j L[j] (List.getElem?_eq_getElem hl)
    exact ⟨b, off, cs, T, fr, q, m, c, L[j], h1, h2, (Array.getElem?_eq_some_iff.1 h4).1, h4, List.getElem?_eq_getElem hl, h5⟩
theorem wf_u8 {n : Int} (h : (Lit.int .u8 n).wf = true) : 0 ≤ n ∧ n ≤ 255 := by
  simp [Lit.wf, IntKind.min, IntKind.max, IntKind.signed, IntKind.bits] at h; omega
theorem wf_u16 {n : Int} (h : (Lit.int .u16 n).wf = true) : 0 ≤ n ∧ n ≤ 65535 := by
  simp [Lit.wf, IntKind.min, IntKind.max, IntKind.signed, IntKind.bits] at h; omega
theorem cells5 : Try.prog.cellsOf 5 = 1 := by kernel_rfl
theorem cells49 : Try.prog.cellsOf 49 = 1 := by kernel_rfl
theorem cells63 : Try.prog.cellsOf 63 = 1 := by kernel_rfl
theorem cell_addr {w : World} {a : Addr} {v : Value} (h : w.cell? (a.add 0) = some v) : ∃ b off cs T fr, a = ⟨b, off, none⟩ ∧ w.blk b = some (.cells cs T fr) := by
  obtain ⟨b, off, spot⟩ := a
  rw [Addr.add_zero'] at h
  have hspot : spot = none := by
    unfold World.cell? at h
    split at h
    · cases spot with
      | none => rfl
      | some s => simp at h
    · cases h
  subst hspot
  rw [World.cell?_at] at h
  cases hb : w.blk b with
  | none => rw [hb] at h; cases h
  | some ob =>
    rw [hb] at h
    cases ob with
    | cells cs T fr => exact ⟨b, off, cs, T, fr, rfl, hb⟩
    | _ => cases h
theorem cell_in {w : World} {b off i : Nat} {cs : Array Value} {T : TypeId} {fr : Nat × Nat} {v : Value} (hb : w.blk b = some (.cells cs T fr)) (h : w.cell? ((⟨b, off, none⟩ : Addr).add i) = some v) : cs[off + i]? = some v := by
  rw [Addr.add_mid, World.cell?_at, hb] at h
  exact h
section
variable {H : Type} {enc : TypeId × Value → H} {w : World} {base : Nat} {spare : Nat → Bool} {held : Bool}
theorem rowI_of {t e : TypeId} {k : IntKind} {fuel : Nat} {v : Value} {x : DataW H × List MemPlace} (ht : Try.prog.underlying t = some (.slice e)) (hc : Try.prog.cellsOf e = 1) (he : Try.prog.underlying e = some (.int k))
    (hf : DataW.trod enc Try.prog w base spare held fuel t [v] = some x) : ∃ p n c l, v = .slice p n c ∧ RowI k w p n l := by
  rcases Go.Deep.open_slice1 ht hc hf with ⟨hcs, _⟩ | ⟨a, len, cap, m, n, V, D, Pl, hcs, _, hlc, hcm, hm, _, hel⟩
  · simp only [List.cons.injEq, and_true] at hcs
    exact ⟨none, 0, 0, [], hcs, rfl, .inl rfl, (fun x hx => by cases hx), Nat.zero_le _⟩
  · simp only [List.cons.injEq, and_true] at hcs
    have hle : len ≤ m := by rw [hm]; split <;> omega
    have key : ∀ i, i < len → ∃ x : Int, (Lit.int k x).wf = true ∧ w.cell? (a.add i) = some (.int k x) := fun i hi => by
      obtain ⟨h1, h2⟩ := hel i (by omega)
      obtain ⟨x, p, _, q⟩ := DataW.trod_int he h2
      simp only [List.cons.injEq, and_true] at p
      rw [p] at h1
      exact ⟨x, q, h1⟩
    obtain ⟨f, hf'⟩ := Classical.axiomOfChoice (r := fun (i : Nat) (x : Int) => i < len → (Lit.int k x).wf = true ∧ w.cell? (a.add i) = some (.int k x)) (fun i => by
      by_cases hi : i < len
      · obtain ⟨x, h⟩ := key i hi; exact ⟨x, fun _ => h⟩
      · exact ⟨0, fun h => absurd h hi⟩)
    refine ⟨some a, len, cap, (List.range len).map f, hcs, by simp, ?_, fun x hx => ?_, Nat.le_trans hlc hcm⟩
    · rcases Nat.eq_zero_or_pos len with h0 | h0
      · exact .inl h0
      · right
        obtain ⟨b, off, cs, T, fr, rfl, hb⟩ := cell_addr (hf' 0 h0).2
        refine ⟨b, off, cs, T, fr, rfl, hb, fun j x hj => ?_⟩
        have hjl : j < len := by have := (List.getElem?_eq_some_iff.1 hj).1; simpa using this
        have h3 := cell_in hb (hf' j hjl).2
        have e : x = f j := by simp [hjl] at hj; exact hj.symm
        rw [e]; exact h3
    · obtain ⟨i, hi, rfl⟩ := List.mem_map.1 hx
      exact (hf' i (List.mem_range.1 hi)).1
theorem rowR_of {t u e : TypeId} {k : IntKind} {fuel : Nat} {v : Value} {x : DataW H × List MemPlace} (ht : Try.prog.underlying t = some (.slice u)) (hc : Try.prog.cellsOf u = 1) (hu : Try.prog.underlying u = some (.slice e)) (hce : Try.prog.cellsOf e = 1) (he : Try.prog.underlying e = some (.int k))
    (hf : DataW.trod enc Try.prog w base spare held fuel t [v] = some x) : ∃ p n c L, v = .slice p n c ∧ RowR k w p n L := by
  rcases Go.Deep.open_slice1 ht hc hf with ⟨hcs, _⟩ | ⟨a, len, cap, m, n, V, D, Pl, hcs, _, hlc, hcm, hm, _, hel⟩
  · simp only [List.cons.injEq, and_true] at hcs
    exact ⟨none, 0, 0, [], hcs, rfl, .inl rfl, Nat.zero_le _⟩
  · simp only [List.cons.injEq, and_true] at hcs
    have hle : len ≤ m := by rw [hm]; split <;> omega
    have key : ∀ i, i < len → ∃ l : List Int, w.cell? (a.add i) = some (V i) ∧ ∃ q m c, V i = .slice q m c ∧ RowI k w q m l := fun i hi => by
      obtain ⟨h1, h2⟩ := hel i (by omega)
      obtain ⟨q, m, c, l, h3, h4⟩ := rowI_of hu hce he h2
      exact ⟨l, h1, q, m, c, h3, h4⟩
    obtain ⟨f, hf'⟩ := Classical.axiomOfChoice (r := fun (i : Nat) (l : List Int) => i < len → w.cell? (a.add i) = some (V i) ∧ ∃ q m c, V i = .slice q m c ∧ RowI k w q m l) (fun i => by
      by_cases hi : i < len
      · obtain ⟨x, h⟩ := key i hi; exact ⟨x, fun _ => h⟩
      · exact ⟨[], fun h => absurd h hi⟩)
    refine ⟨some a, len, cap, (List.range len).map f, hcs, by simp, ?_, Nat.le_trans hlc hcm⟩
    rcases Nat.eq_zero_or_pos len with h0 | h0
    · exact .inl h0
    · right
      obtain ⟨b, off, cs, T, fr, rfl, hb⟩ := cell_addr (hf' 0 h0).1
      refine ⟨b, off, cs, T, fr, rfl, hb, fun j x hj => ?_⟩
      have hjl : j < len := by have := (List.getElem?_eq_some_iff.1 hj).1; simpa using this
      obtain ⟨h9, q, m, c, h5, h6⟩ := hf' j hjl
      have h3 := cell_in hb h9
      have e : x = f j := by simp [hjl] at hj; exact hj.symm
      rw [e]; exact ⟨q, m, c, by rw [← h5]; exact h3, h6⟩
theorem open47 {v : Value} {d : DataW H} {ps : List MemPlace} (hv : v.cells = #[v]) (hd : DataW.Trod enc Try.prog w base spare held 47 v d ps) : ∃ p n c l, v = .slice p n c ∧ RowI .u8 w p n l := by
  obtain ⟨fuel, hf⟩ := hd
  rw [hv] at hf
  exact rowI_of Try.underlying47 cells5 Try.underlying5 hf
theorem open46 {v : Value} {d : DataW H} {ps : List MemPlace} (hv : v.cells = #[v]) (hd : DataW.Trod enc Try.prog w base spare held 46 v d ps) : ∃ p n c L, v = .slice p n c ∧ RowR .u16 w p n L := by
  obtain ⟨fuel, hf⟩ := hd
  rw [hv] at hf
  exact rowR_of Try.underlying46 cells63 Try.underlying63 cells49 Try.underlying49 hf
set_option maxRecDepth 100000 in
/-- A slice is one cell. -/
theorem one_of_slice {r : Reach} {b0 : Nat} {t e : TypeId} {v : Value} (ht : Try.prog.underlying t = some (.slice e)) (hval : Value.okWide Try.prog w r b0 t v) : v.cells = #[v] := by
  unfold Value.okWide at hval
  rw [ht] at hval
  obtain ⟨p, n, c, rfl⟩ := slice_cell hval ht
  rfl
end
end Go.Proofs.Ytbhnfohoclcjdaa
