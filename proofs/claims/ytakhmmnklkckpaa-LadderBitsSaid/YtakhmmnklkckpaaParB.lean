/- A part of a region that draws its order: what comes behind waits for the whole part. -/
import Derived.Test.YtakhmmnklkckpaaLdA
namespace Go.Dr
section
variable {P : Program} {ops : Array Oper} {Q : Exit → Act → World → Prop} {S : World → Prop} {N : Nat}
/-- Every one from M on waits itself for each below M that is not listed. -/
def relB (ops : Array Oper) (M : Nat) (l0 : Array Bool) : Bool :=
  (List.range M).all fun i => l0.getD i false || (List.range (ops.size - M)).all fun t => waitsB .any ops (M + t) i
theorem relB_head {M : Nat} {l0 listed : Array Bool} (hT : relB ops M l0 = true) (hl : ∀ k, l0.getD k false = true → listed.getD k false = true) {i j : Nat} (hi : i < M) (hun : listed.getD i false = false) (hj : j ∈ Region.ready .any ops listed) : j < M := by
  rcases Nat.lt_or_ge j M with h | h
  · exact h
  · exfalso
    obtain ⟨_, o, ho, hall⟩ := mem_ready.1 hj
    have hjs : j < ops.size := (Array.getElem?_eq_some_iff.1 ho).1
    have h1 := List.all_eq_true.1 hT i (List.mem_range.2 hi)
    rw [Bool.or_eq_true] at h1
    rcases h1 with h1 | h1
    · rw [hl i h1] at hun; cases hun
    · have h2 := List.all_eq_true.1 h1 (j - M) (List.mem_range.2 (by omega))
      rw [show M + (j - M) = j from by omega] at h2
      obtain ⟨o', ho', e, he, hb, hon⟩ := waitsB_spec h2
      obtain rfl : o' = o := Option.some.inj (ho'.symm.trans ho)
      have := hall e he hb
      rw [hon, hun] at this; cases this

/-- Each operation waits only for ones ahead of it in the text. -/
def backB2 (ops : Array Oper) : Bool :=
  (List.range ops.size).all fun j => match ops[j]? with
    | some o => o.after.all fun e => !Region.binds .any e || decide (e.on < j)
    | none => true
theorem backB2_spec (h : backB2 ops = true) {j : Nat} {o : Oper} (ho : ops[j]? = some o) : ∀ e ∈ o.after, Region.binds .any e = true → e.on < j := by
  intro e he hb
  have h1 := List.all_eq_true.1 h j (List.mem_range.2 (Array.getElem?_eq_some_iff.1 ho).1)
  rw [ho] at h1
  have := (Array.all_eq_true_iff_forall_mem.1 h1) e he
  rw [hb] at this
  simpa using this
theorem drawn_inv_go2 {M : Nat} {l0 : Array Bool} (I : (Nat → Bool) → Act → World → Prop) {rest : Nat} (hT : relB ops M l0 = true) (hA : backB2 ops = true) (hNs : M ≤ ops.size) (hS : ∀ L a w, I L a w → S w)
    (step : ∀ (i : Nat) (o : Oper) (L : Nat → Bool) (a : Act) (w : World), ops[i]? = some o → i < M → L i = false → (∀ e ∈ o.after, Region.binds .any e = true → L e.on = true) → I L a w →
      ∀ K : Act → World → Prop, (∀ a' w', I (fun j => j == i || L j) a' w' → K a' w') → wpList P ops (Exit.then K fun e a w => e = .outgrown ∧ Q e a w) [o] a w)
    (fin : ∀ (a : Act) (w : World), I (fun j => decide (j < M)) a w → wpAnyS P .any ops (NoP Q) S N rest (Array.replicate M true ++ Array.replicate (ops.size - M) false) a w) :
    ∀ (m : Nat) (listed : Array Bool) (a : Act) (w : World), listed.size = ops.size → noTail M listed → closedL .any ops listed → (∀ k, l0.getD k false = true → listed.getD k false = true) → toCome listed M = m → I (fun j => listed.getD j false) a w →
      wpAnyS P .any ops (NoP Q) S N (rest + m) listed a w := by
  intro m
  induction m with
  | zero =>
    intro listed a w hsz hno hc hl0 hm hI
    have hall : ∀ j, j < M → listed.getD j false = true := by
      intro j hj
      cases h : listed.getD j false with
      | true => rfl
      | false =>
        have h1 : j ∈ (List.range M).filter fun j => !listed.getD j false := List.mem_filter.2 ⟨List.mem_range.2 hj, by simp [h]⟩
        have h2 : (List.range M).filter (fun j => !listed.getD j false) = [] := List.eq_nil_of_length_eq_zero hm
        rw [h2] at h1; cases h1
    have he : listed = Array.replicate M true ++ Array.replicate (ops.size - M) false := by
      refine Array.ext (by simp; omega) fun j h1 h2 => ?_
      by_cases hj : j < M
      · have := hall j hj
        rw [Array.getElem_append_left (by simpa using hj)]
        simpa [h1] using this
      · have := hno j (by omega)
        rw [Array.getElem_append_right (by simpa using Nat.le_of_not_lt hj)]
        simpa [h1] using this
    have hI' : I (fun j => decide (j < M)) a w := by
      have : (fun j => listed.getD j false) = fun j => decide (j < M) := by
        funext j
        by_cases hj : j < M
        · rw [hall j hj, decide_eq_true hj]
        · rw [hno j (by omega), decide_eq_false hj]
      rwa [this] at hI
    rw [he]
    exact fin a w hI'
  | succ m ih =>
    intro listed a w hsz hno hc hl0 hm hI
    have hex : ∃ i, i < M ∧ listed.getD i false = false := by
      have : (List.range M).filter (fun j => !listed.getD j false) ≠ [] := fun h => by
        unfold toCome at hm; rw [h] at hm; cases hm
      obtain ⟨i, hi⟩ := List.exists_mem_of_ne_nil _ this
      obtain ⟨h1, h2⟩ := List.mem_filter.1 hi
      exact ⟨i, List.mem_range.1 h1, by simpa using h2⟩
    refine ⟨fun h0 => ?_, fun i hi => ?_⟩
    · exfalso
      obtain ⟨i, hiN, hiu⟩ := hex
      have key : ∀ (n i : Nat), i < n → i < M → listed.getD i false = false → False := by
        intro n
        induction n with
        | zero => intro i h; exact absurd h (Nat.not_lt_zero _)
        | succ n ihn =>
          intro i hin hiN hiu
          have hio : i < ops.size := by omega
          have ho : ops[i]? = some ops[i] := Array.getElem?_eq_getElem hio
          by_cases hall : ∀ e ∈ ops[i].after, Region.binds .any e = true → listed.getD e.on false = true
          · have : i ∈ Region.ready .any ops listed := mem_ready.2 ⟨by
              have h2 : i < listed.size := by omega
              simpa [h2] using hiu, _, ho, hall⟩
            rw [h0] at this; cases this
          · have hex2 : ∃ e, e ∈ ops[i].after ∧ Region.binds .any e = true ∧ listed.getD e.on false = false := by
              refine Classical.byContradiction fun hn => hall fun e he hbe => ?_
              cases h : listed.getD e.on false with
              | true => rfl
              | false => exact (hn ⟨e, he, hbe, h⟩).elim
            obtain ⟨e, he, hbe, heu⟩ := hex2
            have := backB2_spec hA ho e he hbe
            exact ihn e.on (by omega) (by omega) heu
      exact key (i + 1) i (Nat.lt_succ_self i) hiN hiu
    · obtain ⟨hiu, o, ho, hall⟩ := mem_ready.1 hi
      have hiu' := getD_both' hiu
      obtain ⟨i0, hi0, hu0⟩ := hex
      have hiN : i < M := relB_head hT hl0 hi0 hu0 hi
      have h := step i o _ a w ho hiN hiu' hall hI (fun a' w' => (N ≤ i ∨ S w') ∧ wpAnyS P .any ops (NoP Q) S N (rest + m) (listed.setIfInBounds i true) a' w') (fun a' w' hI' => by
        refine ⟨.inr (hS _ _ _ hI'), ih _ a' w' (by simpa using hsz) (noTail_set hno hiN) (closedL_set hc hi) (fun k hk => ?_) ?_ ?_⟩
        · by_cases hik : i = k
          · subst hik
            have h2 : i < listed.size := by omega
            simp [h2]
          · rw [getD_set_ne false hik]; exact hl0 k hk
        · have := toCome_set hiN (by omega) hiu'
          omega
        · have : (fun j => (listed.setIfInBounds i true).getD j false) = fun j => j == i || listed.getD j false := by
            funext j
            by_cases hji : i = j
            · subst hji
              have h2 : i < listed.size := by omega
              simp [h2]
            · rw [getD_set_ne false hji, show (j == i) = false from by simpa using Ne.symm hji]
              simp
          rw [this]
          exact hI')
      have h1 : wpList P ops (Exit.then (fun a' w' => (N ≤ i ∨ S w') ∧ wpAnyS P .any ops (NoP Q) S N (rest + m) (listed.setIfInBounds i true) a' w') (NoP Q)) [o] a w :=
        wpList_imp (fun e a w h => by
          cases e <;> first | exact h | exact h.2 | (exact absurd h.1 (by simp))) _ _ _ h
      unfold wpOp
      simp only [ho]
      unfold wpList at h1
      split
      · rename_i hw
        rw [if_pos hw] at h1
        rcases h1 with h1 | ⟨ha, a', w', hl⟩
        · left
          revert h1
          unfold Oper.wp
          generalize (execOp a.eval o).run P w = r
          intro h1
          cases r with
          | ok n w' =>
            cases n <;> simp only [Oper.upon] at h1 ⊢
            case value v => exact h1
            case skip => exact h1
            case defer d => exact h1
            case enter f args =>
              refine Calls.mono h1 (fun e w'' he => ?_)
              cases e <;> exact he
            case row row args => exact Rows.mono h1 (fun v w'' he => he)
          | halt x w' => cases x <;> simp only [Oper.upon] at h1 ⊢ <;> exact h1
        · exact .inr ⟨ha, a', w', hl⟩
      · rename_i hw
        rw [if_neg hw] at h1
        exact h1

/-- What is checked of the region: the head's M, listed so far. -/
def parB2 (ops : Array Oper) (M : Nat) (listed : Array Bool) (m : Nat) : Bool :=
  relB ops M listed && backB2 ops && decide (M ≤ ops.size) && decide (listed.size = ops.size) && ((List.range (listed.size - M)).all fun i => !listed.getD (M + i) false) && closedB .any ops listed && decide (toCome listed M = m)
/-- THE REGION WITH MANY WRITERS, IN WHATEVER ORDER: an invariant I over what is listed, over a value for each slot of ds. -/
theorem drawn_inv2 (M : Nat) (ds : List Nat) (I : (Nat → Bool) → (Nat → Value) → World → Prop) (s : Nat → Value) (m : Nat) {rest : Nat} {listed : Array Bool} {b : Act} {w : World}
    (chk : parB2 ops M listed m = true) (hS : ∀ L s w, I L s w → S w) (ha : fill s ds b = b) (hI : I (fun j => listed.getD j false) s w)
    (step : ∀ (i : Nat) (o : Oper) (L : Nat → Bool) (s : Nat → Value) (w : World), ops[i]? = some o → i < M → L i = false → (∀ e ∈ o.after, Region.binds .any e = true → L e.on = true) → I L s w →
      ∀ K : Act → World → Prop, (∀ a' w', (∃ s', a' = fill s' ds b ∧ I (fun j => j == i || L j) s' w') → K a' w') → wpList P ops (Exit.then K fun e a w => e = .outgrown ∧ Q e a w) [o] (fill s ds b) w)
    (fin : ∀ (s : Nat → Value) (w : World), I (fun j => decide (j < M)) s w → wpAnyS P .any ops (NoP Q) S N rest (Array.replicate M true ++ Array.replicate (ops.size - M) false) (fill s ds b) w) :
    wpAnyS P .any ops (NoP Q) S N (rest + m) listed b w := by
  simp only [parB2, Bool.and_eq_true, decide_eq_true_eq] at chk
  obtain ⟨⟨⟨⟨⟨⟨h1, h2⟩, h3⟩, h4⟩, h5⟩, h6⟩, h7⟩ := chk
  refine drawn_inv_go2 (fun L a w => ∃ s, a = fill s ds b ∧ I L s w) h1 h2 h3 (fun L a w h => ?_) (fun i o L a w ho hi hL hd h K hK => ?_) (fun a w h => ?_) m listed b w h4 (fun t ht => ?_) (closedB_spec h6) (fun _ h => h) h7 ⟨s, ha.symm, hI⟩
  · obtain ⟨s, _, h⟩ := h; exact hS _ _ _ h
  · obtain ⟨s, rfl, h⟩ := h
    exact step i o L s w ho hi hL hd h K (fun a' w' h' => hK _ _ h')
  · obtain ⟨s, rfl, h⟩ := h
    exact fin s w h
  · by_cases hlt : t < listed.size
    · have := List.all_eq_true.1 h5 (t - M) (List.mem_range.2 (by omega))
      rw [show M + (t - M) = t from by omega] at this
      simpa using this
    · simp [Array.getElem?_eq_none (Nat.le_of_not_lt hlt)]
end
end Go.Dr
