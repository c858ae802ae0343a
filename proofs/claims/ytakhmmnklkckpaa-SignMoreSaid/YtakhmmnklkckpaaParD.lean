/- Regions that draw their order: calls, rooms and rows that are made, in whatever order; each with what it is in the world, and the blocks that are its own. -/
import Derived.Test.YtakhmmnklkckpaaZd
namespace Go.Dr
/-- What is made: its number, its slot, what it is, the blocks that are its own. -/
structure Ev where
  idx : Nat
  slot : Nat
  prop : Value → World → Prop
  own : Value → List Nat
structure Ev.Inv (evs : List Ev) (row : List Nat) (w0 : World) (L : Nat → Bool) (s : Nat → Value) (w : World) : Prop where
  fr : Fr [] w0 w
  row : ∀ i ∈ row, L i = true
  ev : ∀ e ∈ evs, L e.idx = true → e.prop (s e.slot) w ∧ ∀ b ∈ e.own (s e.slot), w0.heap.size ≤ b ∧ b < w.heap.size
  apart : ∀ e ∈ evs, ∀ e' ∈ evs, e.idx ≠ e'.idx → L e.idx = true → L e'.idx = true → ∀ b ∈ e.own (s e.slot), b ∉ e'.own (s e'.slot)
structure Ev.ok (evs : List Ev) : Prop where
  idx : (evs.map (·.idx)).Nodup
  slot : (evs.map (·.slot)).Nodup
  still : ∀ e ∈ evs, ∀ v w w', Fr [] w w' → e.prop v w → e.prop v w'
theorem Ev.Inv.start {evs : List Ev} {row : List Nat} {w0 : World} {L : Nat → Bool} {s : Nat → Value} (hr : ∀ i ∈ row, L i = true) (he : ∀ i ∈ evs.map (·.idx), L i = false) : Ev.Inv evs row w0 L s w0 := by
  have hne : ∀ e ∈ evs, L e.idx = true → False := fun e h h2 => by rw [he e.idx (List.mem_map_of_mem h)] at h2; cases h2
  exact ⟨Fr.refl _ _, hr, fun e h h2 => (hne e h h2).elim, fun e h _ _ _ h2 => (hne e h h2).elim⟩
theorem Ev.Inv.did {evs : List Ev} {row : List Nat} {w0 w w' : World} {L : Nat → Bool} {s : Nat → Value} (h : Ev.Inv evs row w0 L s w) (ok : Ev.ok evs) (e : Ev) (hm : e ∈ evs) {v : Value} (F : Fr [] w w') (hp : e.prop v w') (hn : ∀ b ∈ e.own v, w.heap.size ≤ b ∧ b < w'.heap.size) :
    Ev.Inv evs row w0 (fun j => j == e.idx || L j) (set1 s e.slot v) w' := by
  have hs : ∀ e' ∈ evs, e'.idx ≠ e.idx → set1 s e.slot v e'.slot = s e'.slot := fun e' h' hne =>
    set1_other s v fun h2 => hne (by rw [inj_of_map ok.slot e' h' e hm h2])
  have hL : ∀ e' ∈ evs, e'.idx ≠ e.idx → (e'.idx == e.idx || L e'.idx) = true → L e'.idx = true := fun e' _ hne h2 => by
    rw [show (e'.idx == e.idx) = false from by simpa using hne, Bool.false_or] at h2; exact h2
  have he : ∀ e' ∈ evs, e'.idx = e.idx → e' = e := fun e' h' h2 => inj_of_map ok.idx e' h' e hm h2
  refine ⟨h.fr.trans F, fun i hi => by rw [h.row i hi, Bool.or_true], fun e' h' h2 => ?_, fun e1 h1 e2 h2 hne l1 l2 b hb => ?_⟩
  · by_cases hi : e'.idx = e.idx
    · obtain rfl := he e' h' hi
      rw [set1_same]
      exact ⟨hp, fun b hb => ⟨Nat.le_trans h.fr.size (hn b hb).1, (hn b hb).2⟩⟩
    · rw [hs e' h' hi]
      obtain ⟨g1, g2⟩ := h.ev e' h' (hL e' h' hi h2)
      exact ⟨ok.still e' h' _ _ _ F g1, fun b hb => ⟨(g2 b hb).1, Nat.lt_of_lt_of_le (g2 b hb).2 F.size⟩⟩
  · by_cases hi1 : e1.idx = e.idx
    · obtain rfl := he e1 h1 hi1
      rw [set1_same] at hb
      have hi2 : e2.idx ≠ e1.idx := fun h => hne h.symm
      rw [hs e2 h2 hi2]
      intro hb2
      have := ((h.ev e2 h2 (hL e2 h2 hi2 l2)).2 b hb2).2
      have := (hn b hb).1
      omega
    · rw [hs e1 h1 hi1] at hb
      by_cases hi2 : e2.idx = e.idx
      · obtain rfl := he e2 h2 hi2
        rw [set1_same]
        intro hb2
        have := ((h.ev e1 h1 (hL e1 h1 hi1 l1)).2 b hb).2
        have := (hn b hb2).1
        omega
      · rw [hs e2 h2 hi2]
        exact h.apart e1 h1 e2 h2 hne (hL e1 h1 hi1 l1) (hL e2 h2 hi2 l2) b hb
/-- No block of its own. -/
def noOwn : Value → List Nat := fun _ => []
/-- The block that it points to. -/
def ptrOwn : Value → List Nat
  | .pointer (some a) => [a.block]
  | .slice (some a) _ _ => [a.block]
  | _ => []
def Ev.Still (e : Ev) : Prop := ∀ v w w', Fr [] w w' → e.prop v w → e.prop v w'
theorem Ev.ok.of {evs : List Ev} (hi : (evs.map (·.idx)).Nodup) (hs : (evs.map (·.slot)).Nodup) (h : ∀ e ∈ evs, e.Still) : Ev.ok evs := ⟨hi, hs, h⟩
/-- A call with one value. -/
def evVal (i d : Nat) (v0 : Value) : Ev := ⟨i, d, fun v _ => v = v0, noOwn⟩
/-- A call whose value meets something. -/
def evSome (i d : Nat) (p : Value → Prop) : Ev := ⟨i, d, fun v _ => p v, noOwn⟩
/-- A room. -/
def evRoom (i d : Nat) (cs : Array Value) (T : TypeId) : Ev := ⟨i, d, fun v w => ∃ b, v = .pointer (some ⟨b, 0, none⟩) ∧ w.blk b = some (.cells cs T), ptrOwn⟩
/-- A row that is made. -/
def evRow (i d n : Nat) (cs : Array Value) (T : TypeId) : Ev := ⟨i, d, fun v w => ∃ b, v = .slice (some ⟨b, 0, none⟩) n n ∧ w.blk b = some (.cells cs T), ptrOwn⟩
theorem evVal_still (i d : Nat) (v0 : Value) : (evVal i d v0).Still := fun _ _ _ _ h => h
theorem evSome_still (i d : Nat) (p : Value → Prop) : (evSome i d p).Still := fun _ _ _ _ h => h
theorem evRoom_still (i d : Nat) (cs : Array Value) (T : TypeId) : (evRoom i d cs T).Still := fun _ _ _ F ⟨b, h1, h2⟩ => ⟨b, h1, F.get h2 (by simp)⟩
theorem evRow_still (i d n : Nat) (cs : Array Value) (T : TypeId) : (evRow i d n cs T).Still := fun _ _ _ F ⟨b, h1, h2⟩ => ⟨b, h1, F.get h2 (by simp)⟩
section
variable {evs : List Ev} {row : List Nat} {w0 w w' : World} {L : Nat → Bool} {s : Nat → Value}
theorem Ev.Inv.val (h : Ev.Inv evs row w0 L s w) (ok : Ev.ok evs) (i d : Nat) (v0 : Value) (hm : evVal i d v0 ∈ evs) (F : Fr [] w w') : Ev.Inv evs row w0 (fun j => j == i || L j) (set1 s d v0) w' :=
  h.did ok _ hm F rfl (fun b hb => by cases hb)
theorem Ev.Inv.some (h : Ev.Inv evs row w0 L s w) (ok : Ev.ok evs) (i d : Nat) (p : Value → Prop) (hm : evSome i d p ∈ evs) {v : Value} (F : Fr [] w w') (hv : p v) : Ev.Inv evs row w0 (fun j => j == i || L j) (set1 s d v) w' :=
  h.did ok _ hm F hv (fun b hb => by cases hb)
theorem Ev.Inv.room (h : Ev.Inv evs row w0 L s w) (ok : Ev.ok evs) (i d : Nat) (cs : Array Value) (T : TypeId) (hm : evRoom i d cs T ∈ evs) : Ev.Inv evs row w0 (fun j => j == i || L j) (set1 s d (.pointer (Option.some ⟨w.heap.size, 0, none⟩))) (w.alloc (.cells cs T)) :=
  h.did ok _ hm ((Fr.refl [] w).alloc _) ⟨w.heap.size, rfl, World.at_alloc_new _ _ _ rfl⟩ (fun b hb => by
    obtain rfl : b = w.heap.size := by simpa [evRoom, ptrOwn] using hb
    exact ⟨Nat.le_refl _, by simp⟩)
theorem Ev.Inv.rowMade (h : Ev.Inv evs row w0 L s w) (ok : Ev.ok evs) (i d n : Nat) (cs : Array Value) (T : TypeId) (hm : evRow i d n cs T ∈ evs) : Ev.Inv evs row w0 (fun j => j == i || L j) (set1 s d (.slice (Option.some ⟨w.heap.size, 0, none⟩) n n)) (w.alloc (.cells cs T)) :=
  h.did ok _ hm ((Fr.refl [] w).alloc _) ⟨w.heap.size, rfl, World.at_alloc_new _ _ _ rfl⟩ (fun b hb => by
    obtain rfl : b = w.heap.size := by simpa [evRow, ptrOwn] using hb
    exact ⟨Nat.le_refl _, by simp⟩)
end
end Go.Dr
