/- A region that draws its order, with many writers: whatever the order, an invariant over 'what has been listed' holds. Its commonest case: calls, rooms made, and (behind both) stores. -/
import Derived.Test.YtakhmmnklkckpaaDrawn
import Derived.Test.YtakhmmnklkckpaaMem
namespace Go.Dr
section
variable {P : Program} {ops : Array Oper} {Q : Exit → Act → World → Prop} {S : World → Prop} {N : Nat}

/-- Each operation waits only for ones ahead of it in the text. -/
def backB (ops : Array Oper) : Bool :=
  (List.range ops.size).all fun j => match ops[j]? with
    | some o => o.after.all fun e => decide (e.on < j)
    | none => true
theorem backB_spec (h : backB ops = true) {j : Nat} {o : Oper} (ho : ops[j]? = some o) : ∀ e ∈ o.after, e.on < j := by
  intro e he
  have h1 := List.all_eq_true.1 h j (List.mem_range.2 (Array.getElem?_eq_some_iff.1 ho).1)
  rw [ho] at h1
  have := (Array.all_eq_true_iff_forall_mem.1 h1) e he
  simpa using this
/-- How many below N are still to come. -/
def toCome (listed : Array Bool) (N : Nat) : Nat := ((List.range N).filter fun j => !listed.getD j false).length
theorem toCome_set {listed : Array Bool} {i : Nat} (hi : i < N) (hs : N ≤ listed.size) (hun : listed.getD i false = false) : toCome (listed.setIfInBounds i true) N + 1 = toCome listed N := by
  unfold toCome
  have key : ∀ n, (n ≤ i → (List.range n).filter (fun j => !(listed.setIfInBounds i true).getD j false) = (List.range n).filter (fun j => !listed.getD j false)) ∧
      (i < n → n ≤ N → ((List.range n).filter (fun j => !(listed.setIfInBounds i true).getD j false)).length + 1 = ((List.range n).filter (fun j => !listed.getD j false)).length) := by
    intro n
    induction n with
    | zero => exact ⟨fun _ => rfl, fun h => absurd h (Nat.not_lt_zero _)⟩
    | succ n ih =>
      refine ⟨fun h => ?_, fun h hN => ?_⟩
      · rw [List.range_succ, List.filter_append, List.filter_append, ih.1 (by omega)]
        have : (listed.setIfInBounds i true).getD n false = listed.getD n false := getD_set_ne false (by omega)
        simp only [List.filter_cons, this, List.filter_nil]
      · rw [List.range_succ, List.filter_append, List.filter_append, List.length_append, List.length_append]
        by_cases hin : i = n
        · subst hin
          rw [ih.1 (Nat.le_refl _)]
          have h1 : (listed.setIfInBounds i true).getD i false = true := by
            have : i < listed.size := by omega
            simp [this]
          simp only [List.filter_cons, h1, hun]
          simp
        · have h1 : (listed.setIfInBounds i true).getD n false = listed.getD n false := getD_set_ne false (by omega)
          have := ih.2 (by omega) (by omega)
          simp only [List.filter_cons, h1, List.filter_nil]
          omega
  exact (key N).2 hi (Nat.le_refl _)

theorem drawn_inv_go (I : (Nat → Bool) → Act → World → Prop) {rest : Nat} (hT : tailB .any ops N = true) (hA : backB ops = true) (hNs : N ≤ ops.size) (hS : ∀ L a w, I L a w → S w)
    (step : ∀ (i : Nat) (o : Oper) (L : Nat → Bool) (a : Act) (w : World), ops[i]? = some o → i < N → L i = false → (∀ e ∈ o.after, Region.binds .any e = true → L e.on = true) → I L a w →
      ∀ K : Act → World → Prop, (∀ a' w', I (fun j => j == i || L j) a' w' → K a' w') → wpList P ops (Exit.then K fun e a w => e = .outgrown ∧ Q e a w) [o] a w)
    (fin : ∀ (a : Act) (w : World), I (fun j => decide (j < N)) a w → wpAnyS P .any ops (NoP Q) S N rest (Array.replicate N true ++ Array.replicate (ops.size - N) false) a w) :
    ∀ (m : Nat) (listed : Array Bool) (a : Act) (w : World), listed.size = ops.size → noTail N listed → closedL .any ops listed → toCome listed N = m → I (fun j => listed.getD j false) a w →
      wpAnyS P .any ops (NoP Q) S N (rest + m) listed a w := by
  intro m
  induction m with
  | zero =>
    intro listed a w hsz hno hc hm hI
    have hall : ∀ j, j < N → listed.getD j false = true := by
      intro j hj
      cases h : listed.getD j false with
      | true => rfl
      | false =>
        have h1 : j ∈ (List.range N).filter fun j => !listed.getD j false := List.mem_filter.2 ⟨List.mem_range.2 hj, by simp [h]⟩
        have h2 : (List.range N).filter (fun j => !listed.getD j false) = [] := List.eq_nil_of_length_eq_zero hm
        rw [h2] at h1; cases h1
    have he : listed = Array.replicate N true ++ Array.replicate (ops.size - N) false := by
      refine Array.ext (by simp; omega) fun j h1 h2 => ?_
      by_cases hj : j < N
      · have := hall j hj
        rw [Array.getElem_append_left (by simpa using hj)]
        simpa [h1] using this
      · have := hno j (by omega)
        rw [Array.getElem_append_right (by simpa using Nat.le_of_not_lt hj)]
        simpa [h1] using this
    have hI' : I (fun j => decide (j < N)) a w := by
      have : (fun j => listed.getD j false) = fun j => decide (j < N) := by
        funext j
        by_cases hj : j < N
        · rw [hall j hj, decide_eq_true hj]
        · rw [hno j (by omega), decide_eq_false hj]
      rwa [this] at hI
    rw [he]
    exact fin a w hI'
  | succ m ih =>
    intro listed a w hsz hno hc hm hI
    have hex : ∃ i, i < N ∧ listed.getD i false = false := by
      have : (List.range N).filter (fun j => !listed.getD j false) ≠ [] := fun h => by
        unfold toCome at hm; rw [h] at hm; cases hm
      obtain ⟨i, hi⟩ := List.exists_mem_of_ne_nil _ this
      obtain ⟨h1, h2⟩ := List.mem_filter.1 hi
      exact ⟨i, List.mem_range.1 h1, by simpa using h2⟩
    refine ⟨fun h0 => ?_, fun i hi => ?_⟩
    · exfalso
      obtain ⟨i, hiN, hiu⟩ := hex
      have key : ∀ (n i : Nat), i < n → i < N → listed.getD i false = false → False := by
        intro n
        induction n with
        | zero => intro i h; exact absurd h (Nat.not_lt_zero _)
        | succ n ihn =>
          intro i hin hiN hiu
          have hio : i < ops.size := by omega
          have ho : ops[i]? = some ops[i] := Array.getElem?_eq_getElem hio
          by_cases hall : ∀ e ∈ ops[i].after, Region.binds .any e = true → listed.getD e.on false = true
          · have : i ∈ Region.ready .any ops listed := mem_ready.2 ⟨by
              have h2 : i < listed.size := by omega
              simpa [h2] using hiu, _, ho, hall⟩
            rw [h0] at this; cases this
          · have hex2 : ∃ e, e ∈ ops[i].after ∧ listed.getD e.on false = false := by
              refine Classical.byContradiction fun hn => hall fun e he _ => ?_
              cases h : listed.getD e.on false with
              | true => rfl
              | false => exact (hn ⟨e, he, h⟩).elim
            obtain ⟨e, he, heu⟩ := hex2
            have := backB_spec hA ho e he
            exact ihn e.on (by omega) (by omega) heu
      exact key (i + 1) i (Nat.lt_succ_self i) hiN hiu
    · obtain ⟨hiu, o, ho, hall⟩ := mem_ready.1 hi
      have hiu' := getD_both' hiu
      obtain ⟨i0, hi0, hu0⟩ := hex
      have hiN : i < N := head_only hT hno hc hi0 hu0 hi
      have h := step i o _ a w ho hiN hiu' hall hI (fun a' w' => (N ≤ i ∨ S w') ∧ wpAnyS P .any ops (NoP Q) S N (rest + m) (listed.setIfInBounds i true) a' w') (fun a' w' hI' => by
        refine ⟨.inr (hS _ _ _ hI'), ih _ a' w' (by simpa using hsz) (noTail_set hno hiN) (closedL_set hc hi) ?_ ?_⟩
        · have := toCome_set hiN (by omega) hiu'
          omega
        · have : (fun j => (listed.setIfInBounds i true).getD j false) = fun j => j == i || listed.getD j false := by
            funext j
            by_cases hji : i = j
            · subst hji
              have h2 : i < listed.size := by omega
              simp [h2]
            · rw [getD_set_ne false hji, show (j == i) = false from by simpa using Ne.symm hji]
              simp
          rw [this]
          exact hI')
      have h1 : wpList P ops (Exit.then (fun a' w' => (N ≤ i ∨ S w') ∧ wpAnyS P .any ops (NoP Q) S N (rest + m) (listed.setIfInBounds i true) a' w') (NoP Q)) [o] a w :=
        wpList_imp (fun e a w h => by
          cases e <;> first | exact h | exact h.2 | (exact absurd h.1 (by simp))) _ _ _ h
      unfold wpOp
      simp only [ho]
      unfold wpList at h1
      split
      · rename_i hw
        rw [if_pos hw] at h1
        rcases h1 with h1 | ⟨ha, a', w', hl⟩
        · left
          revert h1
          unfold Oper.wp
          generalize (execOp a.eval o).run P w = r
          intro h1
          cases r with
          | ok n w' =>
            cases n <;> simp only [Oper.upon] at h1 ⊢
            case value v => exact h1
            case skip => exact h1
            case defer d => exact h1
            case enter f args =>
              refine Calls.mono h1 (fun e w'' he => ?_)
              cases e <;> exact he
            case row row args => exact Rows.mono h1 (fun v w'' he => he)
          | halt x w' => cases x <;> simp only [Oper.upon] at h1 ⊢ <;> exact h1
        · exact .inr ⟨ha, a', w', hl⟩
      · rename_i hw
        rw [if_neg hw] at h1
        exact h1

/-- The slots ds get what s tells. -/
def fill (s : Nat → Value) : List Nat → Act → Act
  | [], a => a
  | d :: ds, a => fill s ds (a.put (some d) (s d))
def set1 (s : Nat → Value) (d : Nat) (v : Value) : Nat → Value := fun e => if e = d then v else s e
theorem set1_same (s : Nat → Value) (d : Nat) (v : Value) : set1 s d v d = v := if_pos rfl
theorem set1_other (s : Nat → Value) {d e : Nat} (v : Value) (h : e ≠ d) : set1 s d v e = s e := if_neg h

/-- What is checked of the region: the head's N, listed so far. -/
def parB (ops : Array Oper) (N : Nat) (listed : Array Bool) (m : Nat) : Bool :=
  tailB .any ops N && backB ops && decide (N ≤ ops.size) && decide (listed.size = ops.size) && ((List.range (listed.size - N)).all fun i => !listed.getD (N + i) false) && closedB .any ops listed && decide (toCome listed N = m)
/-- THE REGION WITH MANY WRITERS, IN WHATEVER ORDER: an invariant I over what is listed, over a value for each slot of ds. -/
theorem drawn_inv (ds : List Nat) (I : (Nat → Bool) → (Nat → Value) → World → Prop) (s : Nat → Value) (m : Nat) {rest : Nat} {listed : Array Bool} {b : Act} {w : World}
    (chk : parB ops N listed m = true) (hS : ∀ L s w, I L s w → S w) (ha : fill s ds b = b) (hI : I (fun j => listed.getD j false) s w)
    (step : ∀ (i : Nat) (o : Oper) (L : Nat → Bool) (s : Nat → Value) (w : World), ops[i]? = some o → i < N → L i = false → (∀ e ∈ o.after, Region.binds .any e = true → L e.on = true) → I L s w →
      ∀ K : Act → World → Prop, (∀ a' w', (∃ s', a' = fill s' ds b ∧ I (fun j => j == i || L j) s' w') → K a' w') → wpList P ops (Exit.then K fun e a w => e = .outgrown ∧ Q e a w) [o] (fill s ds b) w)
    (fin : ∀ (s : Nat → Value) (w : World), I (fun j => decide (j < N)) s w → wpAnyS P .any ops (NoP Q) S N rest (Array.replicate N true ++ Array.replicate (ops.size - N) false) (fill s ds b) w) :
    wpAnyS P .any ops (NoP Q) S N (rest + m) listed b w := by
  simp only [parB, Bool.and_eq_true, decide_eq_true_eq] at chk
  obtain ⟨⟨⟨⟨⟨⟨h1, h2⟩, h3⟩, h4⟩, h5⟩, h6⟩, h7⟩ := chk
  refine drawn_inv_go (fun L a w => ∃ s, a = fill s ds b ∧ I L s w) h1 h2 h3 (fun L a w h => ?_) (fun i o L a w ho hi hL hd h K hK => ?_) (fun a w h => ?_) m listed b w h4 (fun t ht => ?_) (closedB_spec h6) h7 ⟨s, ha.symm, hI⟩
  · obtain ⟨s, _, h⟩ := h; exact hS _ _ _ h
  · obtain ⟨s, rfl, h⟩ := h
    exact step i o L s w ho hi hL hd h K (fun a' w' h' => hK _ _ h')
  · obtain ⟨s, rfl, h⟩ := h
    exact fin s w h
  · by_cases hlt : t < listed.size
    · have := List.all_eq_true.1 h5 (t - N) (List.mem_range.2 (by omega))
      rw [show N + (t - N) = t from by omega] at this
      simpa using this
    · simp [Array.getElem?_eq_none (Nat.le_of_not_lt hlt)]
end

theorem _root_.Go.Has.put_ge {L : List (Nat × Obj)} {V w : World} (h0 : Has L V) (h : Has L w) (b : Nat) (o : Obj) (hb : V.heap.size ≤ b) : Has L (w.put b o) :=
  h.put b o fun x hx e => by have := World.at_lt (h0 x hx); omega
/-! ### Calls and rooms, in whatever order -/
/-- A call: its number, its slot, what its value is. A room: its number, its slot, what it is when new. -/
structure Par where
  calls : List (Nat × Nat × (Value → Prop))
  rooms : List (Nat × Nat × Obj)
  row : List Nat
/-- w0: the world ahead; L0: what was read before. -/
structure Par.Inv (p : Par) (w0 : World) (L : Nat → Bool) (s : Nat → Value) (w : World) : Prop where
  fr : Fr [] w0 w
  row : ∀ i ∈ p.row, L i = true
  call : ∀ c ∈ p.calls, L c.1 = true → c.2.2 (s c.2.1)
  room : ∀ c ∈ p.rooms, L c.1 = true → ∃ b, s c.2.1 = .pointer (some ⟨b, 0, none⟩) ∧ w0.heap.size ≤ b ∧ w.blk b = some c.2.2
  apart : ∀ c ∈ p.rooms, ∀ d ∈ p.rooms, c.1 ≠ d.1 → L c.1 = true → L d.1 = true → s c.2.1 ≠ s d.2.1
theorem inj_of_map {α β : Type} {f : α → β} : ∀ {l : List α}, (l.map f).Nodup → ∀ x ∈ l, ∀ y ∈ l, f x = f y → x = y
  | [], _, x, hx, _, _, _ => by cases hx
  | a :: l, h, x, hx, y, hy, e => by
    rw [List.map_cons, List.nodup_cons] at h
    rcases List.mem_cons.1 hx with rfl | hx <;> rcases List.mem_cons.1 hy with rfl | hy
    · rfl
    · exact (h.1 (by rw [e]; exact List.mem_map_of_mem (by assumption))).elim
    · exact (h.1 (by rw [← e]; exact List.mem_map_of_mem (by assumption))).elim
    · exact inj_of_map h.2 x hx y hy e
def Par.ok (p : Par) : Prop := (p.calls.map (·.1) ++ p.rooms.map (·.1)).Nodup ∧ (p.calls.map (·.2.1) ++ p.rooms.map (·.2.1)).Nodup
variable {p : Par} {w0 w w' : World} {L : Nat → Bool} {s : Nat → Value}
theorem Par.Inv.start (hrow : ∀ i ∈ p.row, L i = true) (hc : ∀ i ∈ p.calls.map (·.1), L i = false) (hr : ∀ i ∈ p.rooms.map (·.1), L i = false) : p.Inv w0 L s w0 :=
  ⟨Fr.refl _ _, hrow, fun c hm h => (by rw [hc _ (List.mem_map_of_mem hm)] at h; cases h), fun c hm h => (by rw [hr _ (List.mem_map_of_mem hm)] at h; cases h), fun c hm _ _ _ h => (by rw [hr _ (List.mem_map_of_mem hm)] at h; cases h)⟩
theorem Par.Inv.called (h : p.Inv w0 L s w) (ok : p.ok) (c : Nat × Nat × (Value → Prop)) (hm : c ∈ p.calls) {v : Value} (F : Fr [] w w') (hv : c.2.2 v) : p.Inv w0 (fun j => j == c.1 || L j) (set1 s c.2.1 v) w' := by
  obtain ⟨n1, n2⟩ := ok
  rw [List.nodup_append] at n1 n2
  have dis1 : ∀ r ∈ p.rooms, r.1 ≠ c.1 := fun r hr e => n1.2.2 c.1 (List.mem_map_of_mem hm) r.1 (List.mem_map_of_mem hr) e.symm
  have dis2 : ∀ r ∈ p.rooms, r.2.1 ≠ c.2.1 := fun r hr e => n2.2.2 c.2.1 (List.mem_map_of_mem (f := fun x => x.2.1) hm) r.2.1 (List.mem_map_of_mem (f := fun x => x.2.1) hr) e.symm
  have off : ∀ r ∈ p.rooms, (r.1 == c.1 || L r.1) = true → L r.1 = true := fun r hr e => by
    rw [show (r.1 == c.1) = false from by simpa using dis1 r hr] at e; simpa using e
  refine ⟨h.fr.trans F, fun i hi => by simp [h.row i hi], fun d hd e => ?_, fun d hd e => ?_, fun d hd g hg hne e1 e2 => ?_⟩
  · by_cases hdc : d.1 = c.1
    · obtain rfl : d = c := inj_of_map n1.1 d hd c hm hdc
      rw [set1_same]; exact hv
    · rw [show (d.1 == c.1) = false from by simpa using hdc, Bool.false_or] at e
      rw [set1_other _ _ (fun e' => hdc (by rw [inj_of_map (f := fun x => x.2.1) n2.1 d hd c hm e']))]
      exact h.call d hd e
  · obtain ⟨b, e1, e2, e3⟩ := h.room d hd (off d hd e)
    rw [set1_other _ _ (dis2 d hd)]
    exact ⟨b, e1, e2, F.get e3 (by simp)⟩
  · rw [set1_other _ _ (dis2 d hd), set1_other _ _ (dis2 g hg)]
    exact h.apart d hd g hg hne (off d hd e1) (off g hg e2)
theorem Par.Inv.made (h : p.Inv w0 L s w) (ok : p.ok) (c : Nat × Nat × Obj) (hm : c ∈ p.rooms) : p.Inv w0 (fun j => j == c.1 || L j) (set1 s c.2.1 (.pointer (some ⟨w.heap.size, 0, none⟩))) (w.alloc c.2.2) := by
  obtain ⟨n1, n2⟩ := ok
  rw [List.nodup_append] at n1 n2
  have dis1 : ∀ r ∈ p.calls, r.1 ≠ c.1 := fun r hr e => n1.2.2 r.1 (List.mem_map_of_mem hr) c.1 (List.mem_map_of_mem hm) e
  have dis2 : ∀ r ∈ p.calls, r.2.1 ≠ c.2.1 := fun r hr e => n2.2.2 r.2.1 (List.mem_map_of_mem (f := fun x => x.2.1) hr) c.2.1 (List.mem_map_of_mem (f := fun x => x.2.1) hm) e
  have other : ∀ d ∈ p.rooms, d.1 ≠ c.1 → d.2.1 ≠ c.2.1 := fun d hd hne e => hne (by rw [inj_of_map (f := fun x => x.2.1) n2.2.1 d hd c hm e])
  have less : ∀ d ∈ p.rooms, d.1 ≠ c.1 → (d.1 == c.1 || L d.1) = true → s d.2.1 ≠ .pointer (some ⟨w.heap.size, 0, none⟩) := fun d hd hdc e e' => by
    obtain ⟨b, e1, e2, e3⟩ := h.room d hd (by
      rw [show (d.1 == c.1) = false from by simpa using hdc, Bool.false_or] at e; exact e)
    have := World.at_lt e3
    rw [e1] at e'
    injection e' with e'
    injection e' with e'
    injection e' with e' _
    omega
  refine ⟨h.fr.alloc _, fun i hi => by simp [h.row i hi], fun d hd e => ?_, fun d hd e => ?_, fun d hd g hg hne e1 e2 => ?_⟩
  · rw [show (d.1 == c.1) = false from by simpa using dis1 d hd, Bool.false_or] at e
    rw [set1_other _ _ (dis2 d hd)]
    exact h.call d hd e
  · by_cases hdc : d.1 = c.1
    · obtain rfl : d = c := inj_of_map n1.2.1 d hd c hm hdc
      exact ⟨_, set1_same _ _ _, h.fr.size, World.at_alloc_new _ _ _ rfl⟩
    · rw [show (d.1 == c.1) = false from by simpa using hdc, Bool.false_or] at e
      obtain ⟨b, e1, e2, e3⟩ := h.room d hd e
      rw [set1_other _ _ (other d hd hdc)]
      exact ⟨b, e1, e2, by rw [World.at_alloc_lt _ _ _ (World.at_lt e3)]; exact e3⟩
  · by_cases hdc : d.1 = c.1
    · obtain rfl : d = c := inj_of_map n1.2.1 d hd c hm hdc
      rw [set1_same, set1_other _ _ (other g hg (Ne.symm hne))]
      exact (less g hg (Ne.symm hne) e2).symm
    · rw [set1_other _ _ (other d hd hdc)]
      by_cases hgc : g.1 = c.1
      · obtain rfl : g = c := inj_of_map n1.2.1 g hg c hm hgc
        rw [set1_same]
        exact less d hd hdc e1
      · rw [set1_other _ _ (other g hg hgc)]
        rw [show (d.1 == c.1) = false from by simpa using hdc, Bool.false_or] at e1
        rw [show (g.1 == c.1) = false from by simpa using hgc, Bool.false_or] at e2
        exact h.apart d hd g hg hne e1 e2
end Go.Dr
