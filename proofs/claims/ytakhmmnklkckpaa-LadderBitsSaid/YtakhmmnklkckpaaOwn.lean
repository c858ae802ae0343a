/- A function's own blocks: what they hold, that they are apart, new since the call; the rest is as it was. -/
import Derived.Test.YtakhmmnklkckpaaPar
import Derived.Test.YtakhmmnklkckpaaLwB
namespace Go
open Go.Dr
structure Own (w0 : World) (L : List (Nat × Obj)) (w : World) : Prop where
  has : Has L w
  nd : (L.map Prod.fst).Nodup
  lo : ∀ p ∈ L, w0.heap.size ≤ p.1
  fr : Fr [] w0 w
variable {w0 w w' V wz : World} {L : List (Nat × Obj)} {b : Nat} {o o' : Obj}
theorem Own.start (w : World) : Own w [] w := ⟨.nil _, List.nodup_nil, (fun p hp => by cases hp), Fr.refl _ _⟩
theorem Own.fresh (h : Own w0 L V) (hb : V.heap.size ≤ b) : b ∉ L.map Prod.fst := fun hm => by
  obtain ⟨p, hp, rfl⟩ := List.mem_map.1 hm
  have := World.at_lt (h.has p hp)
  omega
theorem Own.room (h : Own w0 L w) (hb : w.blk b = some o) (hn : b ∉ L.map Prod.fst) (hl : w0.heap.size ≤ b) : Own w0 ((b, o) :: L) w :=
  ⟨.cons hb h.has, List.nodup_cons.2 ⟨hn, h.nd⟩, (fun p hp => (List.mem_cons.1 hp).elim (fun e => e ▸ hl) (h.lo p)), h.fr⟩
theorem Own.alloc (h : Own w0 L w) (o : Obj) : Own w0 ((w.heap.size, o) :: L) (w.alloc o) :=
  have h1 : Own w0 L (w.alloc o) := ⟨h.has.alloc o, h.nd, h.lo, h.fr.alloc o⟩
  h1.room (World.at_alloc_new _ _ _ rfl) (h.fresh (Nat.le_refl _)) h.fr.size
theorem Own.allocN (h : Own w0 L w) (o : Obj) (a : Nat) (ha : a = w.heap.size) : Own w0 ((a, o) :: L) (w.alloc o) := ha ▸ h.alloc o
theorem Own.named {Q : World → Prop} (h : Own w0 L V) (k : ∀ V', Own w0 L V' → Q V') : Q V := k V h
theorem Own.call (h : Own w0 L w) (F : Fr [] w w') : Own w0 L w' := ⟨h.has.fr0 F, h.nd, h.lo, h.fr.trans F⟩
theorem Own.drew (h : Own w0 L w) : Own w0 L w.drew := ⟨h.has.drew, h.nd, h.lo, h.fr.drew⟩
theorem Own.nth (h : Own w0 L w) (i : Nat) (hi : L[i]? = some (b, o)) : w.blk b = some o := h.has.nth i hi
theorem Own.lt (h : Own w0 L w) (i : Nat) (hi : L[i]? = some (b, o)) : b < w.heap.size := World.at_lt (h.nth i hi)
theorem Own.low (h : Own w0 L w) (i : Nat) (hi : L[i]? = some (b, o)) : w0.heap.size ≤ b := h.lo (b, o) (List.mem_of_getElem? hi)
theorem Own.ne (h : Own w0 L w) (i j : Nat) {c : Nat} (hi : L[i]? = some (b, o)) (hj : L[j]? = some (c, o')) (hij : i ≠ j) : b ≠ c := by
  obtain ⟨hi', hi⟩ := List.getElem?_eq_some_iff.1 hi
  obtain ⟨hj', hj⟩ := List.getElem?_eq_some_iff.1 hj
  intro e
  have h1 : (L.map Prod.fst)[i]'(by simpa using hi') = (L.map Prod.fst)[j]'(by simpa using hj') := by simp [hi, hj, e]
  have h2 := List.pairwise_iff_getElem.1 h.nd
  rcases Nat.lt_or_gt_of_ne hij with hl | hl
  · exact h2 i j (by simpa using hi') (by simpa using hj') hl h1
  · exact h2 j i (by simpa using hj') (by simpa using hi') hl h1.symm
theorem map_fst_set (L : List (Nat × Obj)) (i : Nat) (hi : L[i]? = some (b, o)) : (L.set i (b, o')).map Prod.fst = L.map Prod.fst := by
  apply List.ext_getElem?
  intro j
  rw [List.getElem?_map, List.getElem?_map, List.getElem?_set]
  by_cases h : i = j
  · subst h
    obtain ⟨hi', hi⟩ := List.getElem?_eq_some_iff.1 hi
    simp [hi']
    rw [hi]
  · simp [h]
theorem Own.set (h : Own w0 L w) (i : Nat) (o' : Obj) (hi : L[i]? = some (b, o)) : Own w0 (L.set i (b, o')) (w.put b o') := by
  have hlt := h.lt i hi
  have hlo := h.low i hi
  refine ⟨fun p hp => ?_, by rw [map_fst_set L i hi]; exact h.nd, fun p hp => ?_, h.fr.put b o' fun hb => by omega⟩
  · obtain ⟨j, hj, rfl⟩ := List.getElem_of_mem hp
    rw [List.length_set] at hj
    rw [List.getElem_set]
    by_cases hij : i = j
    · rw [if_pos hij]; exact World.at_put_same _ _ _ hlt
    · rw [if_neg hij]
      have hj' : L[j]? = some (L[j].1, L[j].2) := List.getElem?_eq_getElem hj
      rw [World.at_put_other _ _ _ _ (h.ne i j hi hj' hij)]
      exact h.nth j hj'
  · obtain ⟨j, hj, rfl⟩ := List.getElem_of_mem hp
    rw [List.length_set] at hj
    rw [List.getElem_set]
    by_cases hij : i = j
    · rw [if_pos hij]; exact hlo
    · rw [if_neg hij]; exact h.lo _ (List.getElem_mem hj)
theorem Own.take (h : Own w0 ((b, o) :: L) w) : Own w0 L w := ⟨h.has.tail, (List.nodup_cons.1 h.nd).2, fun p hp => h.lo p (List.mem_cons_of_mem _ hp), h.fr⟩
/-- An operation that was listed ahead. -/
theorem after_on {ds : Array Edge} {L : Nat → Bool} (hd : ∀ e ∈ ds, Region.binds .any e = true → L e.on = true) {j : Nat} (h : (ds.any fun e => e.on == j && Region.binds .any e) = true) : L j = true := by
  rw [Array.any_eq_true'] at h
  obtain ⟨e, he, hb⟩ := h
  simp only [Bool.and_eq_true, beq_iff_eq] at hb
  rw [← hb.1]
  exact hd e he hb.2
end Go
namespace Go.Proofs.Ytakhmmnklkckpaa
@[go_sem] theorem len_bytesF (x : Fp) : (bytesF x).length = 32 := length_bytesF x
@[go_sem] theorem len_digs (n : Nat) : (digs n).length = 16 := length_digs n
end Go.Proofs.Ytakhmmnklkckpaa
