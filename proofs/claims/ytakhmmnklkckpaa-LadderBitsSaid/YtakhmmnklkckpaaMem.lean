/- Memory by whole blocks: laws for the walk: 'w.blk b' tells what stands in block b, 'w.put b o' lays another thing there. -/
import Derived.WalkKit
import Derived.WalkSpells
import Derived.WalkLawsBesides
import Derived.Deep.MidRow
import Derived.Lib.Hide
namespace Go

/-- The world with another thing in block b. -/
def World.put (w : World) (b : Nat) (o : Obj) : World := { w with heap := w.heap.setIfInBounds b o }

/-- What stands in block b. -/
def World.blk (w : World) (b : Nat) : Option Obj := w.heap[b]?

theorem World.at_lt {w : World} {b : Nat} {o : Obj} (h : w.blk b = some o) : b < w.heap.size :=
  (Array.getElem?_eq_some_iff.1 h).1

theorem World.cell?_at (w : World) (b j : Nat) : w.cell? ⟨b, j, none⟩ = match w.blk b with | some (.cells c _ _) => c[j]? | _ => none := by
  simp only [World.cell?, World.blk]; rfl

theorem World.frozen?_at (w : World) (b j : Nat) : w.frozen? ⟨b, j, none⟩ = match w.blk b with | some (.cells _ _ (lo, hi)) => lo ≤ j && j < hi | _ => false := by
  simp only [World.frozen?, World.blk]; rfl

theorem World.at_drew (w : World) (b : Nat) : w.drew.blk b = w.blk b := rfl
theorem World.put_drew (w : World) (b : Nat) (o : Obj) : w.drew.put b o = (w.put b o).drew := rfl

theorem World.at_alloc (w : World) (o : Obj) (b : Nat) : (w.alloc o).blk b = if b = w.heap.size then some o else w.blk b := by
  simp only [World.blk, World.alloc, Array.getElem?_push]

theorem World.at_alloc_new (w : World) (o : Obj) (b : Nat) (h : b = w.heap.size) : (w.alloc o).blk b = some o := by
  rw [World.at_alloc, if_pos h]
theorem World.at_alloc_lt (w : World) (o : Obj) (b : Nat) (h : b < w.heap.size) : (w.alloc o).blk b = w.blk b := by
  rw [World.at_alloc, if_neg (by omega)]

theorem World.at_put_same (w : World) (b : Nat) (o : Obj) (h : b < w.heap.size) : (w.put b o).blk b = some o := by
  simp only [World.blk, World.put]
  rw [Array.getElem?_setIfInBounds_self_of_lt h]
theorem World.at_put_other (w : World) (b c : Nat) (o : Obj) (h : b ≠ c) : (w.put b o).blk c = w.blk c := by
  simp only [World.blk, World.put]
  rw [Array.getElem?_setIfInBounds_ne h]
@[simp] theorem World.size_put (w : World) (b : Nat) (o : Obj) : (w.put b o).heap.size = w.heap.size := by simp [World.put]
theorem World.put_put (w : World) (b : Nat) (o o' : Obj) : (w.put b o).put b o' = w.put b o' := by simp [World.put]
theorem World.put_put_ne (w : World) (b c : Nat) (o o' : Obj) (h : b ≠ c) : (w.put b o).put c o' = (w.put c o').put b o := by
  simp only [World.put, Array.setIfInBounds_comm _ _ h]
theorem World.put_alloc_new (w : World) (o o' : Obj) (b : Nat) (h : b = w.heap.size) : (w.alloc o).put b o' = w.alloc o' := by
  subst h
  simp only [World.put, World.alloc]
  congr 1
  apply Array.ext_getElem?
  intro i
  rw [Array.getElem?_setIfInBounds, Array.getElem?_push, Array.getElem?_push]
  by_cases hi : i = w.heap.size
  · subst hi; simp
  · rw [if_neg hi, if_neg (fun h => hi h.symm)]; simp [hi]
theorem World.put_alloc_lt (w : World) (o o' : Obj) (b : Nat) (h : b < w.heap.size) : (w.alloc o).put b o' = (w.put b o').alloc o := by
  simp only [World.put, World.alloc]
  congr 1
  apply Array.ext_getElem?
  intro i
  rw [Array.getElem?_setIfInBounds, Array.getElem?_push, Array.getElem?_push, Array.getElem?_setIfInBounds]
  by_cases hi : b = i
  · subst hi; simp only [↓reduceIte, Array.size_push, Array.size_setIfInBounds]; rw [if_pos (by omega), if_neg (by omega), if_pos h]
  · rw [if_neg hi, if_neg hi]; simp
theorem World.put_same (w : World) (b : Nat) (o : Obj) (h : w.blk b = some o) : w.put b o = w := by
  obtain ⟨hlt, h2⟩ := Array.getElem?_eq_some_iff.1 h
  have : w.heap.setIfInBounds b o = w.heap := by
    apply Array.ext_getElem?
    intro i
    rw [Array.getElem?_setIfInBounds]
    split
    · subst_vars; simp [hlt]
    · rfl
  simp [World.put, this]

theorem World.setCell_at (w : World) (b j : Nat) (v : Value) :
    w.setCell ⟨b, j, none⟩ v = match w.blk b with | some (.cells c t f) => w.put b (.cells (c.setIfInBounds j v) t f) | _ => w := by
  cases h : w.heap[b]? with
  | none =>
    have : ∀ f, w.heap.modify b f = w.heap := fun f => by
      apply Array.ext_getElem?
      intro i
      rw [Array.getElem?_modify]
      split
      · subst_vars; simp [h]
      · rfl
    simp [World.setCell, World.blk, h, this]
  | some o =>
    have hlt : b < w.heap.size := (Array.getElem?_eq_some_iff.1 h).1
    have ho : w.heap[b] = o := (Array.getElem?_eq_some_iff.1 h).2
    have hm : ∀ f, w.heap.modify b f = w.heap.setIfInBounds b (f o) := fun f => by
      apply Array.ext_getElem?
      intro i
      rw [Array.getElem?_modify, Array.getElem?_setIfInBounds]
      split
      · subst_vars; simp [hlt]
      · rfl
    have hid : w.put b o = w := World.put_same w b o h
    have hid' : { w with heap := w.heap.setIfInBounds b o } = w := hid
    simp only [World.setCell, World.blk, h, hm]
    cases o <;> first | exact hid' | simp [World.put]

/-- Do n cells stand in block b from o on? -/
def World.fits (w : World) (b o n : Nat) : Bool := match w.blk b with | some (.cells c _ _) => decide (o + n ≤ c.size) | _ => false
/-- May they be written? -/
def World.okw (w : World) (b o n : Nat) : Bool := match w.blk b with | some (.cells c _ (lo, hi)) => decide (o + n ≤ c.size) && (decide (hi ≤ o) || decide (o + n ≤ lo) || decide (hi ≤ lo)) | _ => false
/-- The n cells in block b from o on. -/
def World.cellsAt (w : World) (b o n : Nat) : Array Value := match w.blk b with | some (.cells c _ _) => c.extract o (o + n) | _ => #[]
/-- A row of cells with others laid over it from o on. -/
def spl (c : Array Value) (o : Nat) (xs : List Value) : Array Value := c.extract 0 o ++ xs.toArray ++ c.extract (o + xs.length) c.size
/-- The thing that stands in b, with cells laid over it. -/
def World.over (w : World) (b o : Nat) (xs : List Value) : World := match w.blk b with | some (.cells c t f) => w.put b (.cells (spl c o xs) t f) | _ => w
/-- All are one cell each. -/
def ones (xs : List Value) : Bool := xs.all (·.oneCell')

theorem size_spl (c : Array Value) (o : Nat) (xs : List Value) (h : o + xs.length ≤ c.size) : (spl c o xs).size = c.size := by
  simp only [spl, Array.size_append, Array.size_extract, List.size_toArray]; omega
theorem getElem?_spl (c : Array Value) (o : Nat) (xs : List Value) (h : o + xs.length ≤ c.size) (j : Nat) :
    (spl c o xs)[j]? = if j < o then c[j]? else if j < o + xs.length then xs[j - o]? else c[j]? := by
  have hsz := size_spl c o xs h
  have e0 : (c.extract 0 o).size = o := by simp only [Array.size_extract]; omega
  by_cases h1 : j < o
  · rw [if_pos h1]
    simp only [spl, Array.append_assoc]
    rw [Array.getElem?_append_left (by omega)]
    rw [Array.getElem?_extract_of_lt (by simp only [Array.size_extract] at e0; omega)]
    simp
  · rw [if_neg h1]
    simp only [spl, Array.append_assoc]
    rw [Array.getElem?_append_right (by omega), e0]
    by_cases h2 : j < o + xs.length
    · rw [if_pos h2, Array.getElem?_append_left (by simp only [List.size_toArray]; omega)]
      simp
    · rw [if_neg h2, Array.getElem?_append_right (by simp only [List.size_toArray]; omega)]
      simp only [List.size_toArray]
      by_cases h3 : j < c.size
      · rw [Array.getElem?_extract_of_lt (by omega)]
        have e : o + xs.length + (j - o - xs.length) = j := by omega
        rw [Array.getElem?_eq_getElem h3]
        simp only [e]
      · rw [Array.getElem?_eq_none (by simp only [Array.size_extract]; omega), Array.getElem?_eq_none (by omega)]

section
variable {P : Program}
theorem run_loadCells_at (w : World) (b o n : Nat) (h : w.fits b o n = true) : (loadCells ⟨b, o, none⟩ n).run P w = .ok (w.cellsAt b o n) w := by
  unfold World.fits at h
  split at h
  · rename_i c t f hb
    have hle : o + n ≤ c.size := by simpa using h
    have hs : (c.extract o (o + n)).toList.length = n := by simp only [Array.length_toList, Array.size_extract]; omega
    have := run_loadCells_list (P := P) w ⟨b, o, none⟩ (c.extract o (o + n)).toList (fun j v hv => by
      rw [Addr.add_mid, World.cell?_at, hb]
      have hj : j < n := by have := (List.getElem?_eq_some_iff.1 hv).1; omega
      rw [Array.getElem?_toList, Array.getElem?_extract_of_lt (by omega)] at hv
      show c[o + j]? = some v
      rw [Array.getElem?_eq_getElem (by omega)]
      exact hv)
    rw [hs] at this
    rw [this]
    simp only [World.cellsAt, hb, Array.toArray_toList]
  · cases h

theorem run_storeCells_over (w : World) (b o : Nat) (vs : List Value) (h : w.okw b o vs.length = true) (h1 : ones vs = true) :
    (storeCells ⟨b, o, none⟩ vs).run P w = .ok () (w.over b o vs) := by
  unfold World.okw at h
  split at h
  · rename_i c t lo hi hb
    simp only [Bool.and_eq_true, Bool.or_eq_true, decide_eq_true_eq] at h
    obtain ⟨hle, hfr⟩ := h
    have := run_storeCells_cells (P := P) b o vs 0 w (fun j hj => by rw [World.cell?_at, hb]; simp; omega)
      (fun j hj => by rw [World.frozen?_at, hb]; simp; omega)
      (fun v hv => (List.all_eq_true.1 h1) v hv)
    rw [this]
    congr 1
    simp only [World.over, hb, Nat.add_zero]
    clear this h1
    -- the cells one by one are the cells laid over
    suffices H : ∀ (vs : List Value) (o : Nat) (w : World) (c : Array Value), w.blk b = some (.cells c t (lo, hi)) → o + vs.length ≤ c.size →
        w.setCells b o vs = w.put b (.cells (spl c o vs) t (lo, hi)) from H vs o w c hb hle
    intro vs
    induction vs with
    | nil =>
      intro o w c hb hle
      have : spl c o [] = c := by
        apply Array.ext_getElem?
        intro i
        rw [getElem?_spl c o [] hle]
        simp only [List.length_nil, Nat.add_zero]
        split
        · rfl
        · rfl
      rw [World.setCells, this, World.put_same _ _ _ hb]
    | cons v r ih =>
      intro o w c hb hle
      simp only [List.length_cons] at hle
      have hlt := World.at_lt hb
      rw [World.setCells, World.setCell_at, hb]
      simp only []
      rw [ih (o + 1) _ (c.setIfInBounds o v) (World.at_put_same _ _ _ hlt) (by simp only [Array.size_setIfInBounds]; omega), World.put_put]
      congr 2
      apply Array.ext_getElem?
      intro i
      rw [getElem?_spl _ _ _ (by simp only [Array.size_setIfInBounds]; omega), getElem?_spl c o (v :: r) (by simp only [List.length_cons]; omega)]
      simp only [List.length_cons]
      by_cases e1 : i < o
      · rw [if_pos (by omega), if_pos e1, Array.getElem?_setIfInBounds_ne (by omega)]
      · rw [if_neg e1]
        by_cases e2 : i = o
        · subst e2
          rw [if_pos (by omega), if_pos (by omega), Array.getElem?_setIfInBounds_self_of_lt (by omega)]
          simp
        · rw [if_neg (by omega)]
          by_cases e3 : i < o + (r.length + 1)
          · rw [if_pos (by omega), if_pos e3]
            rw [show i - o = (i - (o + 1)) + 1 from by omega, List.getElem?_cons_succ]
          · rw [if_neg (by omega), if_neg e3, Array.getElem?_setIfInBounds_ne (by omega)]
  · cases h

end

/-! ### The walk's own words for a load, a store of whole rows: not to be opened cell by cell -/
def loadCellsK (a : Addr) (n : Nat) : Sem (Array Value) := loadCells a n
def storeCellsK (a : Addr) (vs : List Value) : Sem Unit := storeCells a vs
def loadVarK (t : TypeId) (a : Addr) : Sem Value := loadVar t a
def storeVarK (t : TypeId) (a : Addr) (v : Value) : Sem Unit := storeVar t a v
theorem loadCells_K (a : Addr) (n : Nat) : loadCells a n = loadCellsK a n := rfl
theorem storeCells_K (a : Addr) (vs : List Value) : storeCells a vs 0 = storeCellsK a vs := rfl
theorem loadVar_K (t : TypeId) (a : Addr) : loadVar t a = loadVarK t a := rfl
theorem storeVar_K (t : TypeId) (a : Addr) (v : Value) : storeVar t a v = storeVarK t a v := rfl
section
variable {P : Program}
/-- A load, a store that no law has run. -/
def loadLeft (P : Program) (a : Addr) (n : Nat) (w : World) : Result (Array Value) := (loadCells a n).run P w
def storeLeft (P : Program) (a : Addr) (vs : List Value) (w : World) : Result Unit := (storeCells a vs).run P w
def loadOneLeft (P : Program) (a : Addr) (w : World) : Result Value := (load a).run P w
theorem run_loadCellsK (w : World) (b o n : Nat) :
    (loadCellsK ⟨b, o, none⟩ n).run P w = if w.fits b o n = true then .ok (w.cellsAt b o n) w else loadLeft P ⟨b, o, none⟩ n w := by
  unfold loadCellsK
  split
  · rename_i h; exact run_loadCells_at w b o n h
  · rfl
theorem run_storeCellsK (w : World) (b o : Nat) (vs : List Value) :
    (storeCellsK ⟨b, o, none⟩ vs).run P w = if (w.okw b o vs.length && ones vs) = true then .ok () (w.over b o vs) else storeLeft P ⟨b, o, none⟩ vs w := by
  unfold storeCellsK
  split
  · rename_i h; rw [Bool.and_eq_true] at h; exact run_storeCells_over w b o vs h.1 h.2
  · rfl
theorem run_loadVarK (w : World) (t : TypeId) (b o : Nat) :
    (loadVarK t ⟨b, o, none⟩).run P w = ((isAgg t).run P w).andThen fun g w1 =>
      if g = true then ((sizeOf t).run P w1).andThen fun n w2 => ((loadCellsK ⟨b, o, none⟩ n).run P w2).andThen fun cs w3 => .ok (.agg cs) w3
      else match w1.blk b with
        | some (.cells c _ _) => match c[o]? with
          | some v => .ok v w1
          | none => loadOneLeft P ⟨b, o, none⟩ w1
        | _ => loadOneLeft P ⟨b, o, none⟩ w1 := by
  simp only [loadVarK, loadVar, Sem.run_bind]
  congr 1
  funext g w1
  cases g
  · simp only [Bool.false_eq_true, ↓reduceIte]
    unfold loadOneLeft
    split
    · rename_i c t f hb
      split
      · rename_i v hv
        simp [load, Sem.run, World.cell?_at, hb, hv]
      · rfl
    · rfl
  · simp only [↓reduceIte, Sem.run_bind, Sem.run_pure]; rfl
theorem run_storeVarK (w : World) (t : TypeId) (b o : Nat) (v : Value) :
    (storeVarK t ⟨b, o, none⟩ v).run P w = ((sizeOf t).run P w).andThen fun n w1 =>
      if v.cells.size = n then (storeCellsK ⟨b, o, none⟩ v.cells.toList).run P w1 else .halt (.stuck "storeVar: the value has not the size of the variable") w1 := by
  simp only [storeVarK, storeVar, Sem.run_bind]
  congr 1
  funext n w1
  by_cases h : v.cells.size = n
  · simp [h, storeCellsK]
  · simp [h, stuck, Sem.run, Result.andThen]
end
theorem spl_one (c : Array Value) (o : Nat) (v : Value) (h : o < c.size) : spl c o [v] = c.setIfInBounds o v := by
  apply Array.ext_getElem?
  intro i
  rw [getElem?_spl _ _ _ (by simp; omega), Array.getElem?_setIfInBounds]
  simp only [List.length_cons, List.length_nil, Nat.zero_add]
  by_cases h1 : i < o
  · rw [if_pos h1, if_neg (by omega)]
  · rw [if_neg h1]
    by_cases h2 : o = i
    · subst h2; rw [if_pos (by omega), if_pos rfl, if_pos h]; simp
    · rw [if_neg (by omega), if_neg h2]
theorem spl_cons (x : Value) (l : List Value) (o : Nat) (ys : List Value) : spl (x :: l).toArray (o + 1) ys = (x :: (spl l.toArray o ys).toList).toArray := by
  apply Array.ext'
  simp [spl, List.extract_eq_take_drop, Nat.add_right_comm o 1]
theorem extract_spl (c : Array Value) (o : Nat) (xs : List Value) (k : Nat) (h : o + xs.length ≤ c.size) (hk : k = o + xs.length) : (spl c o xs).extract o k = xs.toArray := by
  subst hk
  apply Array.ext_getElem?
  intro i
  have hs := size_spl c o xs h
  by_cases hi : i < xs.length
  · rw [Array.getElem?_extract_of_lt (by omega)]
    have h2 := getElem?_spl c o xs h (o + i)
    rw [if_neg (by omega), if_pos (by omega), show o + i - o = i from by omega] at h2
    rw [← Array.getElem?_eq_getElem, h2]
    simp
  · rw [Array.getElem?_eq_none (by simp only [Array.size_extract]; omega), Array.getElem?_eq_none (by simp; omega)]
theorem spl_all (c : Array Value) (xs : List Value) (h : xs.length = c.size) : spl c 0 xs = xs.toArray := by
  simp [spl, h]

theorem run_copy_slices {P : Program} (w : World) (dT sT ty : TypeId) (d s : Addr) (dl dc sl sc : Nat) (h : P.underlying dT = some (.slice (P.elem dT))) :
    (Builtin.copy_ #[dT, sT] ty #[.slice (some d) dl dc, .slice (some s) sl sc]).run P w =
      ((sizeOf (P.elem dT)).run P w).andThen fun n w1 => ((loadCells s (Nat.min sl dl * n)).run P w1).andThen fun cs w2 =>
        ((storeCells d cs.toList).run P w2).andThen fun _ w3 => .ok (goInt (Nat.min sl dl)) w3 := by
  simp only [Builtin.copy_, Builtin.lenOf, Builtin.firstCells, List.getElem?_toArray, List.getElem?_cons_zero, List.getElem?_cons_succ, Sem.run_bind, run_underlying h, Result.andThen_ok, Sem.run_pure]

/-! ### Rows of whole numbers -/
/-- A row of whole numbers of one kind. -/
def ints (k : IntKind) (l : List Int) : Array Value := (l.map (Value.int k)).toArray
theorem size_ints (k : IntKind) (l : List Int) : (ints k l).size = l.length := by simp [ints]
theorem toList_ints (k : IntKind) (l : List Int) : (ints k l).toList = l.map (Value.int k) := by simp [ints]
/-- The row's number there. -/
def el (l : List Int) (j : Nat) : Int := l.getD j 0
theorem el_zero (x : Int) (r : List Int) : el (x :: r) 0 = x := rfl
theorem el_succ (x : Int) (r : List Int) (n : Nat) : el (x :: r) (n + 1) = el r n := rfl
theorem el_set (l : List Int) (i j : Nat) (x : Int) (h : i < l.length) : el (l.set i x) j = if i = j then x else el l j := by
  unfold el
  rw [List.getD_eq_getElem?_getD, List.getElem?_set]
  by_cases hij : i = j
  · subst hij; simp [h]
  · simp [hij]
theorem el_set_same (l : List Int) (i : Nat) (x : Int) (h : i < l.length) : el (l.set i x) i = x := by rw [el_set _ _ _ _ h, if_pos rfl]
theorem el_ext {l m : List Int} (hl : l.length = m.length) (h : ∀ k, k < l.length → el l k = el m k) : l = m := by
  apply List.ext_getElem hl
  intro i h1 h2
  have := h i h1
  unfold el at this
  simpa [h1, h2] using this
theorem el_map_range (f : Nat → Int) (n k : Nat) (h : k < n) : el ((List.range n).map f) k = f k := by simp [el, h]
theorem el_append (l m : List Int) (k : Nat) : el (l ++ m) k = if k < l.length then el l k else el m (k - l.length) := by
  unfold el
  simp only [List.getD_eq_getElem?_getD]
  split
  · rw [List.getElem?_append_left (by assumption)]
  · rw [List.getElem?_append_right (by omega)]
theorem el_drop (l : List Int) (i k : Nat) : el (l.drop i) k = el l (i + k) := by simp [el]
/-- A row whose first k numbers are told by f. -/
def upd (f : Nat → Int) (l : List Int) (k : Nat) : List Int := (List.range k).map f ++ l.drop k
theorem length_upd (f : Nat → Int) (l : List Int) (k : Nat) (h : k ≤ l.length) : (upd f l k).length = l.length := by simp [upd]; omega
theorem upd_zero (f : Nat → Int) (l : List Int) : upd f l 0 = l := by simp [upd]
theorem el_upd (f : Nat → Int) (l : List Int) (k j : Nat) : el (upd f l k) j = if j < k then f j else el l j := by
  unfold upd
  rw [el_append]
  simp only [List.length_map, List.length_range]
  split
  · rw [el_map_range _ _ _ (by assumption)]
  · rw [el_drop]; congr 1; omega
theorem set_upd (f : Nat → Int) (l : List Int) (k : Nat) (h : k < l.length) : (upd f l k).set k (f k) = upd f l (k + 1) := by
  have h1 : k < (upd f l k).length := by rw [length_upd _ _ _ (by omega)]; exact h
  apply el_ext
  · rw [List.length_set, length_upd _ _ _ (by omega), length_upd _ _ _ (by omega)]
  · intro j hj
    rw [el_set _ _ _ _ h1, el_upd, el_upd]
    by_cases hjk : k = j
    · subst hjk; simp
    · rw [if_neg hjk]
      by_cases h2 : j < k
      · rw [if_pos h2, if_pos (by omega)]
      · rw [if_neg h2, if_neg (by omega)]
theorem upd_full (f : Nat → Int) (l : List Int) (k : Nat) (h : l.length = k) : upd f l k = (List.range k).map f := by simp [upd, ← h]
theorem getElem?_ints (k : IntKind) (l : List Int) (j : Nat) (h : j < l.length) : (ints k l)[j]? = some (.int k (el l j)) := by
  simp [ints, el, h]
theorem getElem_ints (k : IntKind) (l : List Int) (j : Nat) (h : j < (ints k l).size) : (ints k l)[j] = .int k (el l j) := by
  have h' : j < l.length := by rwa [size_ints] at h
  simp [ints, el, h']
attribute [go_sem] getElem_ints
theorem toArray_ints (k : IntKind) (l : List Int) : (l.map (Value.int k)).toArray = ints k l := rfl
theorem toArray_ints_set (k : IntKind) (l : List Int) (i : Nat) (x : Int) : ((l.map (Value.int k)).set i (.int k x)).toArray = ints k (l.set i x) := by simp [ints, List.map_set]
attribute [go_sem ↓ high] toArray_ints toArray_ints_set
theorem extract_ints (k : IntKind) (l : List Int) (i j : Nat) : (ints k l).extract i j = ints k ((l.take j).drop i) := by
  apply Array.ext'
  simp [ints, List.drop_take, List.map_take, List.map_drop]
theorem set_ints (k : IntKind) (l : List Int) (j : Nat) (x : Int) : (ints k l).setIfInBounds j (.int k x) = ints k (l.set j x) := by
  apply Array.ext'
  simp [ints, List.map_set]
/-- A row with another laid over it from o on. -/
def lay (c : List Int) (o : Nat) (b : List Int) : List Int := c.take o ++ b ++ c.drop (o + b.length)
theorem length_lay (c : List Int) (o : Nat) (b : List Int) (h : o + b.length ≤ c.length) : (lay c o b).length = c.length := by
  simp [lay]; omega
theorem take_whole {α : Type} (l : List α) (n : Nat) (h : l.length ≤ n) : l.take n = l := List.take_of_length_le h
attribute [go_sem] take_whole length_lay
theorem spl_ints (k : IntKind) (l : List Int) (o : Nat) (m : List Int) : spl (ints k l) o (m.map (Value.int k)) = ints k (lay l o m) := by
  simp only [lay, spl, extract_ints, size_ints, List.length_map]
  apply Array.ext'
  simp [ints]
theorem append_ints (k : IntKind) (l m : List Int) : ints k l ++ ints k m = ints k (l ++ m) := by simp [ints]
theorem ones_nil : ones [] = true := rfl
theorem ones_cons (v : Value) (r : List Value) : ones (v :: r) = (v.oneCell' && ones r) := by simp [ones]
theorem ones_append (a b : List Value) : ones (a ++ b) = (ones a && ones b) := by simp [ones]
theorem ones_map_int (k : IntKind) (l : List Int) : ones (l.map (Value.int k)) = true := by simp [ones, Value.oneCell']
theorem ones_replicate (n : Nat) (k : IntKind) (x : Int) : ones (List.replicate n (.int k x)) = true := by simp [ones, Value.oneCell']
theorem ones_take (n : Nat) (a : List Value) (h : ones a = true) : ones (a.take n) = true :=
  List.all_eq_true.2 fun x hx => List.all_eq_true.1 h x (List.mem_of_mem_take hx)
theorem ones_drop (n : Nat) (a : List Value) (h : ones a = true) : ones (a.drop n) = true :=
  List.all_eq_true.2 fun x hx => List.all_eq_true.1 h x (List.mem_of_mem_drop hx)
theorem ones_ints_set (k : IntKind) (l : List Int) (i : Nat) (x : Int) : ones ((l.map (Value.int k)).set i (.int k x)) = true := by
  rw [show (l.map (Value.int k)).set i (.int k x) = (l.set i x).map (Value.int k) from by simp [List.map_set]]
  exact ones_map_int k _
attribute [go_sem] ones_ints_set
attribute [go_sem] el_zero el_succ el_set_same size_ints toList_ints getElem?_ints extract_ints set_ints spl_ints ones_nil ones_cons ones_append ones_map_int ones_replicate ones_take ones_drop Value.oneCell'

theorem run_max2 {P : Program} (w : World) (ts : Array TypeId) (t : TypeId) (k k' : IntKind) (x y : Int) : (Builtin.max_ ts t #[.int k x, .int k' y]).run P w = .ok (.int k (max x y)) w := by
  rw [run_max_int2]
  congr 2
  split <;> omega
theorem run_min2 {P : Program} (w : World) (ts : Array TypeId) (t : TypeId) (k k' : IntKind) (x y : Int) : (Builtin.min_ ts t #[.int k x, .int k' y]).run P w = .ok (.int k (min x y)) w := by
  rw [run_min_int2]
  congr 2
  split <;> omega
theorem run_min3 {P : Program} (w : World) (ts : Array TypeId) (t : TypeId) (k k' k'' : IntKind) (x y z : Int) : (Builtin.min_ ts t #[.int k x, .int k' y, .int k'' z]).run P w = .ok (.int k (min (min x y) z)) w := by
  rw [run_min_int3]
  congr 2
  (repeat' split) <;> omega
attribute [go_sem ↓ high] run_max2 run_min2 run_min3
/-! ### Zeros, and rows that are made -/
/-- So many zeros. -/
def zs (n : Nat) : List Int := List.replicate n 0
theorem length_zs (n : Nat) : (zs n).length = n := by simp [zs]
theorem madeCells_ints (k : IntKind) (s m : Nat) (hs : 0 < s) : madeCells (ints k (zs s)) m = ints k (zs m) := by
  apply Array.ext_getElem?
  intro i
  by_cases hi : i < m
  · have h1 : i % s < s := Nat.mod_lt _ hs
    simp [madeCells, ints, zs, hi, h1]
  · rw [Array.getElem?_eq_none (by rw [size_madeCells]; omega), Array.getElem?_eq_none (by rw [size_ints, length_zs]; omega)]
/-- What a slice's element type is: its number, its cells, its bytes, its zero. -/
structure ElemT (P : Program) (t e size bytes : Nat) (z : Array Value) : Prop where
  ht : P.underlying t = some (.slice e)
  hi : (P.info? e).map (fun i => (i.zero.map (·.cells), i.size, i.bytes)) = some (some z, size, bytes)
  hsz : z.size = size
theorem ElemT.parts {P : Program} {t e size bytes : Nat} {z : Array Value} (E : ElemT P t e size bytes z) :
    ∃ i v, P.info? e = some i ∧ i.zero = some v ∧ v.cells = z ∧ i.size = size ∧ i.bytes = bytes := by
  have h := E.hi
  cases hi : P.info? e with
  | none => rw [hi] at h; cases h
  | some i =>
    rw [hi] at h
    simp only [Option.map_some, Option.some.injEq, Prod.mk.injEq] at h
    obtain ⟨h1, h2, h3⟩ := h
    cases hz : i.zero with
    | none => rw [hz] at h1; cases h1
    | some v => rw [hz] at h1; exact ⟨i, v, rfl, hz, by simpa using h1, h2, h3⟩
theorem ElemT.make {P : Program} {t e size bytes : Nat} {z : Array Value} (E : ElemT P t e size bytes z) (w : World) (kl kc : IntKind) (l c : Int) (h0 : 0 ≤ l) (hlc : l ≤ c)
    (hb : (bytes : Int) * c ≤ 281474976710656) (h63 : c ≤ 9223372036854775807) :
    (Instr.makeSlice t (.int kl l) (.int kc c)).run P w = .ok (.slice (some ⟨w.heap.size, 0, none⟩) l.toNat c.toNat) (w.alloc (.cells (madeCells z (c.toNat * size)) e)) := by
  obtain ⟨i, v, h1, h2, h3, h4, h5⟩ := E.parts
  rw [run_make w t e i v E.ht h1 h2 kl kc l c h0 hlc (by rw [h5]; exact hb) h63, h3, h4]

/-- A slice of one element, as 'append(xs, x)' lays it. -/
def buildOneK (t : TypeId) (ps : Array (Nat × Value)) : Sem Value := Instr.buildSlice t 1 ps
theorem buildSlice_K (t : TypeId) (ps : Array (Nat × Value)) : Instr.buildSlice t 1 ps = buildOneK t ps := rfl
theorem fold_set : ∀ (cs base pre : List Value), base.length = cs.length →
    (cs.zipIdx pre.length).foldl (fun (a : Array Value) (x : Value × Nat) => a.setIfInBounds x.2 x.1) (pre ++ base).toArray = (pre ++ cs).toArray
  | [], base, pre, h => by have : base = [] := List.eq_nil_of_length_eq_zero (by simpa using h); subst this; simp
  | c :: r, [], pre, h => by simp at h
  | c :: r, b :: bs, pre, h => by
    have h' : bs.length = r.length := by simpa using h
    have ih := fold_set r bs (pre ++ [c]) h'
    simp only [List.zipIdx_cons, List.foldl_cons, List.setIfInBounds_toArray]
    have e : (pre ++ b :: bs).set pre.length c = (pre ++ [c]) ++ bs := by simp
    rw [e]
    simpa using ih
theorem ElemT.buildOne {P : Program} {t e size bytes : Nat} {z : Array Value} (E : ElemT P t e size bytes z) (hs : 0 < size) (h24 : size ≤ 16777216) (w : World) (v : Value) (hv : v.cells.size = size) :
    (buildOneK t #[(0, v)]).run P w = .ok (.slice (some ⟨w.heap.size, 0, none⟩) 1 1) (w.alloc (.cells v.cells e)) := by
  obtain ⟨i, u, h1, h2, h3, h4, h5⟩ := E.parts
  have hn : ¬ (16777216 < size) := by omega
  have hn0 : size ≠ 0 := by omega
  have hf : Instr.fill (fun i => some (i * size, size)) ((Array.range (1 * size)).map (z[· % z.size]!)) [(0, v)] = some v.cells := by
    have hb : ((Array.range (1 * size)).map (z[· % z.size]!)).size = size := by simp
    have := fold_set v.cells.toList ((Array.range (1 * size)).map (z[· % z.size]!)).toList [] (by simp only [Array.length_toList]; rw [hb, hv])
    simp only [List.nil_append, List.length_nil, Array.toArray_toList] at this
    rw [← Array.toList_zipIdx, Array.foldl_toList] at this
    simp only [Instr.fill, hv, Nat.zero_mul, Nat.zero_add, hb, ne_eq, not_true_eq_false, Nat.lt_irrefl, gt_iff_lt, decide_false, Bool.or_self, Bool.false_eq_true, ↓reduceIte, this]
  simp only [Nat.one_mul] at hf
  simp [buildOneK, Instr.buildSlice, run_underlying E.ht, sizeOf, typeInfo, zeroValue, h1, h2, h4, h3, hn, hn0, newRow, hf]

/-! ### What a call leaves alone -/
/-- Of the blocks that were there, only those of the list may have turned. -/
structure Fr (fp : List Nat) (w w' : World) : Prop where
  os : w'.os = w.os
  tape : w'.tape = w.tape
  output : w'.output = w.output
  size : w.heap.size ≤ w'.heap.size
  at_ : ∀ k, k < w.heap.size → k ∉ fp → w'.blk k = w.blk k
namespace Fr
variable {fp : List Nat} {w w1 w2 : World}
theorem refl (fp : List Nat) (w : World) : Fr fp w w := ⟨rfl, rfl, rfl, Nat.le_refl _, fun _ _ _ => rfl⟩
theorem trans (h : Fr fp w w1) (k : Fr fp w1 w2) : Fr fp w w2 :=
  ⟨k.os.trans h.os, k.tape.trans h.tape, k.output.trans h.output, Nat.le_trans h.size k.size, fun i hi hn => (k.at_ i (Nat.lt_of_lt_of_le hi h.size) hn).trans (h.at_ i hi hn)⟩
theorem mono {fp' : List Nat} (h : Fr fp w w1) (hs : ∀ k ∈ fp, k < w.heap.size → k ∈ fp') : Fr fp' w w1 :=
  ⟨h.os, h.tape, h.output, h.size, fun i hi hn => h.at_ i hi (fun hf => hn (hs i hf hi))⟩
/-- A second step may turn what is new, too. -/
theorem seq {fp' : List Nat} (h : Fr fp w w1) (k : Fr fp' w1 w2) (hs : ∀ k ∈ fp', k < w.heap.size → k ∈ fp) : Fr fp w w2 :=
  ⟨k.os.trans h.os, k.tape.trans h.tape, k.output.trans h.output, Nat.le_trans h.size k.size,
   fun i hi hn => (k.at_ i (Nat.lt_of_lt_of_le hi h.size) (fun hf => hn (hs i hf hi))).trans (h.at_ i hi hn)⟩
theorem drew (h : Fr fp w w1) : Fr fp w w1.drew := ⟨h.os, h.tape, h.output, h.size, h.at_⟩
theorem alloc (h : Fr fp w w1) (o : Obj) : Fr fp w (w1.alloc o) :=
  ⟨h.os, h.tape, h.output, by simp; exact Nat.le_succ_of_le h.size, fun i hi hn => by rw [World.at_alloc_lt _ _ _ (Nat.lt_of_lt_of_le hi h.size)]; exact h.at_ i hi hn⟩
theorem put (h : Fr fp w w1) (b : Nat) (o : Obj) (hb : b < w.heap.size → b ∈ fp) : Fr fp w (w1.put b o) :=
  ⟨h.os, h.tape, h.output, by simp; exact h.size, fun i hi hn => by
    rw [World.at_put_other _ _ _ _ (fun e => by subst e; exact hn (hb hi))]; exact h.at_ i hi hn⟩
theorem grown {row : Option Nat} (h : Fr fp w w1) (k : w1.grownBy w2 row) (hr : ∀ b, row = some b → b < w.heap.size → b ∈ fp) : Fr fp w w2 :=
  ⟨k.os.trans h.os, k.tape.trans h.tape, k.output.trans h.output, Nat.le_trans h.size k.size, fun i hi hn =>
    (k.block i (Nat.lt_of_lt_of_le hi h.size) (fun e => hn (hr i e.symm hi))).trans (h.at_ i hi hn)⟩
theorem get (h : Fr fp w w1) {b : Nat} {o : Obj} (hb : w.blk b = some o) (hn : b ∉ fp) : w1.blk b = some o := (h.at_ b (World.at_lt hb) hn).trans hb
theorem owns (h : Fr fp w w1) {base : Nat} {e : TypeId} {size : Nat} {v : Value} {n : Nat} {xs : List Value} (ho : w.ownsRow base e size v n xs) (hn : ∀ b, v.ownBlock = some b → b ∉ fp) : w1.ownsRow base e size v n xs := by
  refine ⟨ho.1, ?_⟩
  rcases ho.2 with h2 | ⟨g, cap, cur, hv, hb, hg, rest⟩
  · exact .inl h2
  · exact .inr ⟨g, cap, cur, hv, hb, h.get hg (hn g (by rw [hv]; rfl)), rest⟩
end Fr

/-! ### A row of numbers, and room behind it -/
def rowR (k : IntKind) (l : List Int) (r : Array Value) : Array Value := ints k l ++ r
theorem size_rowR (k : IntKind) (l : List Int) (r : Array Value) : (rowR k l r).size = l.length + r.size := by simp [rowR, size_ints]
theorem getElem?_rowR (k : IntKind) (l : List Int) (r : Array Value) (i : Nat) (h : i < l.length) : (rowR k l r)[i]? = some (.int k (el l i)) := by
  rw [rowR, Array.getElem?_append_left (by rw [size_ints]; exact h), getElem?_ints k l i h]
theorem getElem_rowR (k : IntKind) (l : List Int) (r : Array Value) (i : Nat) (hi : i < (rowR k l r).size) (h : i < l.length) : (rowR k l r)[i] = .int k (el l i) := by
  have := getElem?_rowR k l r i h
  rw [Array.getElem?_eq_getElem hi] at this
  exact Option.some.inj this
theorem set_rowR (k : IntKind) (l : List Int) (r : Array Value) (i : Nat) (x : Int) (h : i < l.length) : (rowR k l r).setIfInBounds i (.int k x) = rowR k (l.set i x) r := by
  rw [rowR, rowR, ← set_ints]
  apply Array.ext_getElem?
  intro j
  have hs : (ints k l).size = l.length := size_ints k l
  by_cases hj : j < l.length
  · rw [Array.getElem?_append_left (by rw [Array.size_setIfInBounds, hs]; exact hj), Array.getElem?_setIfInBounds, Array.getElem?_setIfInBounds, Array.getElem?_append_left (by rw [hs]; exact hj)]
    by_cases hij : i = j
    · subst hij
      rw [if_pos rfl, if_pos rfl, if_pos (by rw [Array.size_append, hs]; omega), if_pos (by rw [hs]; exact h)]
    · rw [if_neg hij, if_neg hij]
  · rw [Array.getElem?_append_right (by rw [Array.size_setIfInBounds, hs]; omega), Array.getElem?_setIfInBounds, if_neg (by omega), Array.getElem?_append_right (by rw [hs]; omega), Array.size_setIfInBounds]
theorem rowR_nil (k : IntKind) (l : List Int) : rowR k l #[] = ints k l := by simp [rowR]
attribute [go_sem] size_rowR getElem?_rowR getElem_rowR set_rowR

/-! ### What stands in several blocks -/
def Has (L : List (Nat × Obj)) (w : World) : Prop := ∀ p ∈ L, w.blk p.1 = some p.2
theorem Has.nil (w : World) : Has [] w := fun p hp => by cases hp
theorem Has.cons {L : List (Nat × Obj)} {w : World} {b : Nat} {o : Obj} (h : w.blk b = some o) (hL : Has L w) : Has ((b, o) :: L) w := fun p hp => by
  rcases List.mem_cons.1 hp with rfl | hp
  · exact h
  · exact hL p hp
theorem Has.nth {L : List (Nat × Obj)} {w : World} (h : Has L w) (i : Nat) {b : Nat} {o : Obj} (hi : L[i]? = some (b, o)) : w.blk b = some o := h (b, o) (List.mem_of_getElem? hi)
theorem Has.drew {L : List (Nat × Obj)} {w : World} (h : Has L w) : Has L w.drew := h
theorem Has.fr {L : List (Nat × Obj)} {w w' : World} {fp : List Nat} (h : Has L w) (F : Fr fp w w') (hn : ∀ p ∈ L, p.1 ∉ fp) : Has L w' := fun p hp => F.get (h p hp) (hn p hp)
theorem Has.fr0 {L : List (Nat × Obj)} {w w' : World} (h : Has L w) (F : Fr [] w w') : Has L w' := h.fr F (fun _ _ => by simp)
theorem Has.alloc {L : List (Nat × Obj)} {w : World} (h : Has L w) (o : Obj) : Has L (w.alloc o) := h.fr0 ((Fr.refl [] w).alloc o)
theorem Has.put {L : List (Nat × Obj)} {w : World} (h : Has L w) (b : Nat) (o : Obj) (hn : ∀ p ∈ L, p.1 ≠ b) : Has L (w.put b o) :=
  h.fr (fp := [b]) ((Fr.refl [b] w).put b o (by simp)) (fun p hp => by simpa using hn p hp)
theorem Has.tail {L : List (Nat × Obj)} {w : World} {x : Nat × Obj} (h : Has (x :: L) w) : Has L w := fun p hp => h p (List.mem_cons_of_mem _ hp)

/-! ### append -/
/-- A slice from its row's head, or nil: its row holds so many elements, as these cells. -/
abbrev OwnsR (w : World) (e size : Nat) (p : Option Addr) (n cap : Nat) (xs : List Value) : Prop := w.ownsRow 0 e size (.slice p n cap) n xs
theorem run_app {P : Program} {w : World} (t ty : TypeId) {e size bytes : Nat} {z : Array Value} (E : ElemT P t e size bytes z) (hsz : 0 < size)
    (p : Option Addr) (n cap : Nat) (xs : List Value) (hown : OwnsR w e size p n cap xs)
    (ad : Addr) (m c : Nat) (news : List Value) (hl : news.length = m * size) (hnews : ∀ j u, news[j]? = some u → w.cell? (ad.add j) = some u) (h1 : ∀ u ∈ news, u.oneCell' = true)
    (hbig : (n + m) * bytes ≤ 140737488355328) (h63 : n + m ≤ 4611686018427387904) :
    ∃ p' cap' w', (Builtin.append_ #[t, t] ty #[.slice p n cap, .slice (some ad) m c]).run P w = .ok (.slice p' (n + m) cap') w' ∧ OwnsR w' e size p' (n + m) cap' (xs ++ news) ∧ w.grownBy w' (p.map (·.block)) ∧
      (∀ g, p'.map (·.block) = some g → p.map (·.block) = some g ∨ w.heap.size ≤ g) := by
  obtain ⟨i, v, i1, i2, i3, i4, i5⟩ := E.parts
  obtain ⟨v', w', hr, h2, h3, h4⟩ := run_append_own (P := P) w 0 t ty e i v size bytes E.ht i1 i2 i4 i5 (by rw [i3, E.hsz]) hsz (.slice p n cap) n xs hown ad m c news hl hnews h1
    (by unfold maxLen; omega) hbig (Nat.zero_le _)
  have hvb : (Value.slice p n cap).ownBlock = p.map (·.block) := by cases p <;> rfl
  rw [hvb] at h3
  obtain ⟨p', cap', rfl⟩ : ∃ p' cap', v' = .slice p' (n + m) cap' := by
    rcases h2.2 with ⟨rfl, h0⟩ | ⟨g, cap', cur, rfl, _⟩
    · exact ⟨none, 0, by rw [h0]⟩
    · exact ⟨_, _, rfl⟩
  refine ⟨p', cap', w', hr, h2, h3, ?_⟩
  intro g hg
  rcases hown.2 with ⟨he, h0⟩ | ⟨g0, cap0, cur, he, _, hg0, hnc, hcm, hcs, htake⟩
  · simp only [Value.slice.injEq] at he
    obtain ⟨rfl, _, rfl⟩ := he
    subst h0
    right
    by_cases hm : m = 0
    · have := h4.2 ⟨rfl, hm⟩
      simp only [Value.slice.injEq] at this
      rw [this.1] at hg; cases hg
    · have hr2 := run_append_nil (P := P) w t ty e i v E.ht i1 i2 ad m c news (by rw [i4]; exact hl) hnews (by omega) (by omega) (by rw [i5]; simp only [Nat.zero_add] at hbig; omega)
      rw [hr2] at hr
      simp only [Result.ok.injEq, Value.slice.injEq] at hr
      rw [← hr.1.1] at hg
      simp at hg; omega
  · simp only [Value.slice.injEq] at he
    obtain ⟨rfl, _, rfl⟩ := he
    by_cases hroom : n + m ≤ cap
    · left
      have hr2 := run_append_room (P := P) w t ty e i E.ht i1 g0 n cap cur hg0 ad m c news (by rw [i4]; exact hl) hnews h1 hroom (by rw [hl, hcs, i4, ← Nat.add_mul]; exact Nat.mul_le_mul_right _ hroom)
      rw [hr2] at hr
      simp only [Result.ok.injEq, Value.slice.injEq] at hr
      rw [← hr.1.1] at hg
      exact hg
    · right
      have holds : ∀ j u, xs[j]? = some u → w.cell? ((⟨g0, 0, none⟩ : Addr).add j) = some u := hown.cells (g := g0) rfl
      have hr2 := run_append_grow (P := P) w t ty e i v E.ht i1 i2 ⟨g0, 0, none⟩ n cap xs (by rw [i4]; exact hown.1) holds ad m c news (by rw [i4]; exact hl) hnews (by omega) (by omega)
        (growslice_fits (by omega) (by rw [i5]; exact hbig))
      rw [hr2] at hr
      simp only [Result.ok.injEq, Value.slice.injEq] at hr
      rw [← hr.1.1] at hg
      simp at hg; omega

theorem World.blk_heap (w : World) (b : Nat) : w.blk b = w.heap[b]? := rfl
/-- A row of one-celled elements that is owned: its block. -/
theorem OwnsR.out {w : World} {e : Nat} {b : Nat} {n cap : Nat} {k : IntKind} {l : List Int} (h : OwnsR w e 1 (some ⟨b, 0, none⟩) n cap (l.map (Value.int k))) :
    ∃ r, w.blk b = some (.cells (rowR k l r) e (0, 0)) ∧ cap = l.length + r.size ∧ n = l.length ∧ cap ≤ maxLen := by
  obtain ⟨h1, h2⟩ := h
  rcases h2 with ⟨h2, _⟩ | ⟨g, c, cur, hv, _, hg, hn, hm, hs, ht⟩
  · cases h2
  · simp only [Value.slice.injEq, Option.some.injEq, Addr.mk.injEq, and_true, true_and] at hv
    obtain ⟨rfl, rfl⟩ := hv
    have hl : l.length = n := by simpa using h1
    refine ⟨cur.extract l.length cur.size, ?_, ?_, hl.symm, hm⟩
    · rw [World.blk_heap, hg]
      congr 2
      rw [rowR]
      apply Array.ext'
      rw [Array.toList_append, toList_ints, ← ht, Array.toList_extract, List.extract_eq_take_drop]
      rw [Nat.mul_one, hl, List.take_of_length_le (l := cur.toList.drop n) (by simp), List.take_append_drop]
    · simp; omega
theorem OwnsR.some_of {w : World} {e size n cap : Nat} {p : Option Addr} {xs : List Value} (h : OwnsR w e size p n cap xs) (hn : 0 < n) : ∃ g, p = some ⟨g, 0, none⟩ := by
  rcases h.2 with ⟨_, h0⟩ | ⟨g, c, cur, hv, _⟩
  · omega
  · simp only [Value.slice.injEq] at hv
    exact ⟨g, hv.1⟩
theorem OwnsR.mk' {w : World} {e : Nat} {b : Nat} {k : IntKind} {l : List Int} {r : Array Value} (h : w.blk b = some (.cells (rowR k l r) e (0, 0))) (hm : l.length + r.size ≤ maxLen) :
    OwnsR w e 1 (some ⟨b, 0, none⟩) l.length (l.length + r.size) (l.map (Value.int k)) := by
  refine ⟨by simp, .inr ⟨b, _, _, rfl, Nat.zero_le _, h, Nat.le_add_right .., hm, by simp [size_rowR], ?_⟩⟩
  rw [rowR, Array.toList_append, toList_ints, Nat.mul_one, List.take_append_of_le_length (by simp), List.take_of_length_le (by simp)]
/-- What an append leaves: the new row; the old one may have been written; the new one is the old one, or a new block. -/
structure AppRes (w w' : World) (e size : Nat) (p p' : Option Addr) (n cap : Nat) (xs : List Value) : Prop where
  owns : OwnsR w' e size p' n cap xs
  fr : Fr (p.map (·.block)).toList w w'
  new : ∀ g, p'.map (·.block) = some g → p.map (·.block) = some g ∨ w.heap.size ≤ g
theorem wpList_app {P : Program} {ops : Array Oper} {rest : List Oper} {o : Oper} {a : Act} {w : World} {Q : Exit → Act → World → Prop} (hgd : o.guard = none) (s x : Operand) (t : TypeId)
    (ho : o.op = .call { callee := .builtin .append, args := #[s, x], argTypes := #[t, t] })
    {e size bytes : Nat} {z : Array Value} (E : ElemT P t e size bytes z) (hsz : 0 < size)
    (p : Option Addr) (n cap : Nat) (xs : List Value) (hs : a.eval s = .slice p n cap) (hown : OwnsR w e size p n cap xs)
    (b off m c : Nat) (hx : a.eval x = .slice (some ⟨b, off, none⟩) m c) (cs : Array Value) (T : TypeId) (f : Nat × Nat) (hb : w.blk b = some (.cells cs T f)) (news : List Value)
    (hnews : (cs.extract off (off + m * size)).toList = news) (hfit : off + m * size ≤ cs.size) (h1 : ones news = true) (hbig : (n + m) * bytes ≤ 140737488355328) (h63 : n + m ≤ 4611686018427387904)
    (h : ∀ p' cap' w', AppRes w w' e size p p' (n + m) cap' (xs ++ news) → wpList P ops Q rest (a.put o.dst (.slice p' (n + m) cap')) w') : wpList P ops Q (o :: rest) a w := by
  refine wpList_plain hgd fun K hK => ?_
  have hl : news.length = m * size := by rw [← hnews]; simp only [Array.length_toList, Array.size_extract]; omega
  obtain ⟨p', cap', w', hr, h2, h3, h4⟩ := run_app (w := w) t o.type E hsz p n cap xs hown ⟨b, off, none⟩ m c news hl (by
    intro j u hu
    rw [Addr.add_mid, World.cell?_at, hb]
    have hj : j < m * size := by have := (List.getElem?_eq_some_iff.1 hu).1; omega
    rw [← hnews, Array.getElem?_toList, Array.getElem?_extract_of_lt (by omega)] at hu
    show cs[off + j]? = some u
    rw [Array.getElem?_eq_getElem (by omega)]; exact hu) (fun u hu => List.all_eq_true.1 h1 u hu) hbig h63
  unfold Oper.wp execOp
  simp only [ho, resolve, invoke, builtin, Sem.run_bind, Sem.run_pure, Result.andThen_ok, List.map_toArray, List.map_cons, List.map_nil, hs, hx, hr]
  exact hK _ _ (h p' cap' w' ⟨h2, (Fr.refl _ _).grown h3 (fun g hg _ => by simp [hg]), h4⟩)

attribute [go_sem ↓ high] World.cell?_at World.frozen?_at loadCells_K storeCells_K loadVar_K storeVar_K buildSlice_K
attribute [go_sem] run_loadCellsK run_storeCellsK run_loadVarK run_storeVarK spl_one spl_all spl_cons size_spl extract_spl
attribute [go_sem high] World.setCell_at
attribute [go_sem] World.at_drew World.put_drew World.at_alloc_new World.at_alloc_lt World.at_put_same World.at_put_other World.size_put World.put_put World.put_alloc_new World.put_alloc_lt
attribute [go_sem] run_copy_slices
attribute [go_sem] length_zs Nat.min_def
attribute [go_sem] World.fits World.okw World.cellsAt World.over
end Go
