/- Joined: GnJ, DcT, PkB, PkC, PkD. -/
import Derived.Test.YtbhnfohoclcjdaaGreatZa
import Derived.Test.YtbhnfohoclcjdaaGreatZq
import Derived.ScopeJumps
import Derived.Test.YtbhnfohoclcjdaaGreatZh
set_option linter.unusedVariables false
set_option linter.unusedSimpArgs false
namespace Go.Dr
/-- The state, the slots of l filled. -/
def fillT (D : Nat → Nat) (x : Nat → Value) : List Nat → Array Value → Array Value
  | [], t => t
  | i :: l, t => fillT D x l (t.setIfInBounds (D i) (x i))
def fillA (D : Nat → Nat) (x : Nat → Value) (l : List Nat) (a : Act) : Act := { a with tmps := fillT D x l a.tmps }
def upd (x : Nat → Value) (i : Nat) (v : Value) : Nat → Value := fun j => if j = i then v else x j
theorem fillT_congr {D : Nat → Nat} {x y : Nat → Value} : ∀ {l : List Nat} {t : Array Value}, (∀ j ∈ l, x j = y j) → fillT D x l t = fillT D y l t
  | [], t, _ => rfl
  | i :: l, t, h => by
    show fillT D x l _ = fillT D y l _
    rw [h i (by simp), fillT_congr fun j hj => h j (by simp [hj])]
theorem fillT_out {D : Nat → Nat} {x : Nat → Value} {d : Nat} {v : Value} : ∀ {l : List Nat} {t : Array Value}, (∀ j ∈ l, D j ≠ d) → (fillT D x l t).setIfInBounds d v = fillT D x l (t.setIfInBounds d v)
  | [], t, _ => rfl
  | i :: l, t, h => by
    show (fillT D x l _).setIfInBounds d v = fillT D x l _
    rw [fillT_out fun j hj => h j (by simp [hj]), Array.setIfInBounds_comm _ _ (h i (by simp))]
theorem fillT_put {D : Nat → Nat} {x : Nat → Value} {v : Value} {i : Nat} : ∀ {l : List Nat} {t : Array Value}, i ∈ l → (l.map D).Nodup → (fillT D x l t).setIfInBounds (D i) v = fillT D (upd x i v) l t
  | [], t, h, _ => by cases h
  | j :: l, t, h, hn => by
    show (fillT D x l _).setIfInBounds (D i) v = fillT D _ l _
    rw [List.map_cons, List.nodup_cons] at hn
    by_cases hij : i = j
    · subst hij
      have hni : ∀ k ∈ l, D k ≠ D i := fun k hk e => hn.1 (by rw [← e]; exact List.mem_map_of_mem hk)
      rw [fillT_out hni, Array.setIfInBounds_setIfInBounds, show upd x i v i = v from by simp [upd]]
      exact fillT_congr fun k hk => by
        have : k ≠ i := fun e => hni k hk (by rw [e])
        simp [upd, this]
    · have hm : i ∈ l := by
        rcases List.mem_cons.1 h with h | h
        · exact absurd h hij
        · exact h
      rw [fillT_put hm hn.2, show upd x i v j = x j from by simp [upd, Ne.symm hij]]
theorem fillT_self {D : Nat → Nat} {t : Array Value} {z : Value} : ∀ {l : List Nat}, fillT D (fun i => t.getD (D i) z) l t = t
  | [] => rfl
  | i :: l => by
    show fillT D _ l (t.setIfInBounds (D i) (t.getD (D i) z)) = t
    have : t.setIfInBounds (D i) (t.getD (D i) z) = t := by
      apply Array.ext_getElem?
      intro k
      rw [Array.getElem?_setIfInBounds]
      split
      · rename_i hk
        subst hk
        split
        · rename_i hlt
          simp [hlt]
        · rename_i hlt
          simp [Array.getElem?_eq_none (Nat.le_of_not_lt hlt)]
      · rfl
    rw [this]
    exact fillT_self
theorem markAll_get {k : Nat} : ∀ {l : List Nat} {s : Array Bool}, (markAll s l)[k]? = if k ∈ l ∧ k < s.size then some true else s[k]?
  | [], s => by simp [markAll]
  | i :: l, s => by
    show (markAll (s.setIfInBounds i true) l)[k]? = _
    rw [markAll_get, Array.size_setIfInBounds, Array.getElem?_setIfInBounds]
    by_cases h1 : k ∈ l
    · by_cases h2 : k < s.size
      · simp [h1, h2]
      · rw [if_neg (fun h : k ∈ l ∧ k < s.size => h2 h.2), if_neg (fun h : k ∈ i :: l ∧ k < s.size => h2 h.2), Array.getElem?_eq_none (Nat.le_of_not_lt h2)]
        split
        · exact if_neg (by omega)
        · rfl
    · by_cases h3 : i = k
      · subst h3
        by_cases h2 : i < s.size
        · simp [h1, h2]
        · simp [h1, h2, Array.getElem?_eq_none (Nat.le_of_not_lt h2)]
      · simp [h1, h3, Ne.symm h3]
theorem markAll_set {s : Array Bool} {l m : List Nat} {i : Nat} (h : ∀ k, k ∈ m ↔ k = i ∨ k ∈ l) : (markAll s l).setIfInBounds i true = markAll s m := by
  apply Array.ext_getElem?
  intro k
  have hs : (markAll s l).size = s.size := by
    unfold markAll
    induction l generalizing s m with
    | nil => rfl
    | cons j l ih => rw [List.foldl_cons, ih (m := i :: l) (fun k => by simp), Array.size_setIfInBounds]
  rw [Array.getElem?_setIfInBounds, markAll_get, markAll_get, hs]
  by_cases hk : i = k
  · subst hk
    by_cases h2 : i < s.size
    · simp [h2, (h i).2 (.inl rfl)]
    · simp [h2, Array.getElem?_eq_none (Nat.le_of_not_lt h2)]
  · have : (k ∈ m) ↔ (k ∈ l) := by rw [h k]; exact ⟨fun e => e.resolve_left (Ne.symm hk), .inr⟩
    simp only [hk, if_false, this]
/-- All parts of a list. -/
def parts : List Nat → List (List Nat)
  | [] => [[]]
  | i :: l => parts l ++ (parts l).map (i :: ·)
theorem filter_parts (p : Nat → Bool) : ∀ (l : List Nat), l.filter p ∈ parts l
  | [] => by simp [parts]
  | i :: l => by
    rw [List.filter_cons]
    split
    · exact List.mem_append_right _ (List.mem_map_of_mem (filter_parts p l))
    · exact List.mem_append_left _ (filter_parts p l)
section
variable {P : Program} {ops : Array Oper} {Q : Exit → Act → World → Prop} {S : World → Prop} {N : Nat}
/-- While not all of l are listed, some of l can come up, and nothing else. -/
def jumbleB (ops : Array Oper) (listed : Array Bool) (D : Nat → Nat) (l : List Nat) : Bool :=
  ((parts l).all fun d => d.length == l.length || !closedB .any ops (markAll listed d) || (!(Region.ready .any ops (markAll listed d)).isEmpty && (Region.ready .any ops (markAll listed d)).all fun i => l.contains i)) &&
  closedB .any ops listed && decide (l.map D).Nodup && (l.all fun i => decide (i < listed.size) && !listed.getD i false) && l.all fun i => (ops[i]?).any fun o => o.dst == some (D i)
theorem closedB_of {listed : Array Bool} (h : closedL .any ops listed) : closedB .any ops listed = true := by
  refine List.all_eq_true.2 fun j hj => ?_
  cases hl : listed.getD j false with
  | false => rfl
  | true =>
    cases ho : ops[j]? with
    | none => rfl
    | some o =>
      simp only [Bool.not_true, Bool.false_or]
      refine Array.all_eq_true_iff_forall_mem.2 fun e he => ?_
      cases hb : Region.binds .any e with
      | false => rfl
      | true => simpa using h j o ho hl e he hb
/-- One operation's step, as a walk. -/
theorem wpOp_ofList {i : Nat} {o : Oper} {a : Act} {w : World} {G : Act → World → Prop} (ho : ops[i]? = some o)
    (h : ∀ K : Act → World → Prop, (∀ a' w', G a' w' → K a' w') → wpList P ops (Exit.then K fun e a w => e = .outgrown ∧ Q e a w) [o] a w) : wpOp P ops (NoP Q) i G a w := by
  have h1 : wpList P ops (Exit.then G (NoP Q)) [o] a w :=
    wpList_imp (fun e a w h => by
      cases e <;> first | exact h | exact h.2 | (exact absurd h.1 (by simp))) _ _ _ (h G (fun _ _ h => h))
  clear h
  unfold wpOp
  simp only [ho]
  unfold wpList at h1
  split
  · rename_i hw
    rw [if_pos hw] at h1
    rcases h1 with h1 | ⟨ha, a', w', hl⟩
    · left
      revert h1
      unfold Oper.wp
      generalize (execOp a.eval o).run P w = r
      intro h
      cases r with
      | ok n w' =>
        cases n <;> simp only [Oper.upon] at h ⊢
        case value v => exact h
        case skip => exact h
        case defer d => exact h
        case enter f args =>
          refine Calls.mono h (fun e w'' he => ?_)
          cases e with
          | returned v => exact he
          | panicked c => exact he
          | outgrown => exact he
        case row row args => exact Rows.mono h (fun v w'' he => he)
      | halt x w' => cases x <;> simp only [Oper.upon] at h ⊢ <;> exact h
    · exact .inr ⟨ha, a', w', hl⟩
  · rename_i hw
    rw [if_neg hw] at h1
    exact h1
theorem drawn_jumble {D : Nat → Nat} (l : List Nat) (R : Nat → Value → World → Prop) (E : World → World → Prop) (J : World → Prop) {fuel : Nat} {listed : Array Bool} {a : Act} {w : World}
    (hB : jumbleB ops listed D l = true) (hE : ∀ i v w w', R i v w → E w w' → R i v w') (hJ : J w)
    (H : ∀ i ∈ l, ∀ x w', J w' → (∀ j ∈ l, waitsB .any ops i j = true → R j (x j) w') →
      wpOp P ops (NoP Q) i (fun a' w'' => ∃ v, a' = (fillA D x l a).put (some (D i)) v ∧ R i v w'' ∧ E w' w'' ∧ J w'' ∧ (N ≤ i ∨ S w'')) (fillA D x l a) w')
    (h : ∀ x w', J w' → (∀ j ∈ l, R j (x j) w') → wpAnyS P .any ops (NoP Q) S N fuel (markAll listed l) (fillA D x l a) w') :
    wpAnyS P .any ops (NoP Q) S N (fuel + l.length) listed a w := by
  simp only [jumbleB, Bool.and_eq_true, decide_eq_true_eq] at hB
  obtain ⟨⟨⟨⟨b1, b0⟩, b2⟩, b3⟩, b4⟩ := hB
  have hl : l.Nodup := List.Pairwise.of_map D (fun a b h e => h (by rw [e])) b2
  have key : ∀ (n : Nat) (p : Nat → Bool) (x : Nat → Value) (w' : World), (l.filter fun i => !p i).length = n → closedL .any ops (markAll listed (l.filter p)) → J w' → (∀ j ∈ l, p j = true → R j (x j) w') →
      wpAnyS P .any ops (NoP Q) S N (fuel + n) (markAll listed (l.filter p)) (fillA D x l a) w' := by
    intro n
    induction n with
    | zero =>
      intro p x w' hn hcl hJ' hR
      have hall : ∀ i ∈ l, p i = true := fun i hi => by
        have h0 := List.eq_nil_of_length_eq_zero hn
        cases hp : p i with
        | true => rfl
        | false =>
          have : i ∈ l.filter fun i => !p i := List.mem_filter.2 ⟨hi, by simp [hp]⟩
          rw [h0] at this
          cases this
      rw [List.filter_eq_self.2 hall]
      exact h x w' hJ' fun j hj => hR j hj (hall j hj)
    | succ n ih =>
      intro p x w' hn hcl hJ' hR
      have hlen : (l.filter p).length ≠ l.length := fun e => by
        have h2 : l.filter p = l := List.filter_sublist.eq_of_length e
        have h3 : (l.filter fun i => !p i) = [] := List.filter_eq_nil_iff.2 fun i hi => by
          have := List.filter_eq_self.1 h2 i hi
          simp [this]
        rw [h3] at hn
        cases hn
      have hb := List.all_eq_true.1 b1 _ (filter_parts p l)
      simp only [Bool.or_eq_true, beq_iff_eq, hlen, closedB_of hcl, Bool.not_true, Bool.false_eq_true, false_or, Bool.and_eq_true, Bool.not_eq_true', List.isEmpty_eq_false_iff] at hb
      refine ⟨fun e => absurd e hb.1, fun i hi => ?_⟩
      have hil : i ∈ l := by simpa using List.all_eq_true.1 hb.2 i hi
      obtain ⟨hun, o, ho, hall⟩ := mem_ready.1 hi
      have hsz : ∀ j ∈ l, j < listed.size ∧ listed.getD j false = false := fun j hj => by
        have := List.all_eq_true.1 b3 j hj
        simpa using this
      have hpi : p i = false := by
        cases hp : p i with
        | false => rfl
        | true =>
          have h9 := markAll_get (k := i) (l := l.filter p) (s := listed)
          rw [if_pos ⟨List.mem_filter.2 ⟨hil, hp⟩, (hsz i hil).1⟩] at h9
          rw [Array.getD_eq_getD_getElem?, h9] at hun
          cases hun
      refine wpOp_mono ?_ (H i hil x w' hJ' fun j hj hwt => hR j hj ?_)
      · rintro a' w'' ⟨v, rfl, hv, hEw, hJ2, hS⟩
        refine ⟨hS, ?_⟩
        have hd : (fillA D x l a).put (some (D i)) v = fillA D (upd x i v) l a := by
          show ({ (fillA D x l a) with tmps := (fillA D x l a).tmps.setIfInBounds (D i) v } : Act) = _
          simp only [fillA]
          rw [fillT_put hil b2]
        have hm : (markAll listed (l.filter p)).setIfInBounds i true = markAll listed (l.filter fun k => p k || k == i) := markAll_set fun k => by
          simp only [List.mem_filter, Bool.or_eq_true, beq_iff_eq]
          constructor
          · rintro ⟨hk, hk2 | hk2⟩
            · exact .inr ⟨hk, hk2⟩
            · exact .inl hk2
          · rintro (rfl | ⟨hk, hk2⟩)
            · exact ⟨hil, .inr rfl⟩
            · exact ⟨hk, .inl hk2⟩
        rw [hd, hm]
        refine ih (fun k => p k || k == i) (upd x i v) w'' ?_ (hm ▸ closedL_set hcl hi) hJ2 ?_
        · have e : (l.filter fun k => !(p k || k == i)) = (l.filter fun k => !p k).erase i := by
            rw [List.Nodup.erase_eq_filter (hl.sublist List.filter_sublist), List.filter_filter]
            congr 1
            funext k
            cases p k <;> simp [bne]
          have hmem : i ∈ l.filter fun k => !p k := List.mem_filter.2 ⟨hil, by simp [hpi]⟩
          rw [e, List.length_erase_of_mem hmem, hn]
          rfl
        · intro j hj hp
          simp only [Bool.or_eq_true, beq_iff_eq] at hp
          by_cases hji : j = i
          · subst hji
            simpa [upd] using hv
          · simp only [upd, hji, if_false]
            exact hE _ _ _ _ (hR j hj (hp.resolve_right hji)) hEw
      · obtain ⟨o', ho', e, he, hbd, hon⟩ := waitsB_spec hwt
        obtain rfl : o' = o := Option.some.inj (ho'.symm.trans ho)
        have h9 := hall e he hbd
        rw [hon] at h9
        cases hp : p j with
        | true => rfl
        | false =>
          have h8 := markAll_get (k := j) (l := l.filter p) (s := listed)
          rw [if_neg (fun hh => by have := (List.mem_filter.1 hh.1).2; rw [hp] at this; cases this)] at h8
          rw [Array.getD_eq_getD_getElem?, h8, ← Array.getD_eq_getD_getElem?, (hsz j hj).2] at h9
          cases h9
  have k0 := key l.length (fun _ => false) (fun i => a.tmps.getD (D i) undef) w (by simp) (by rw [List.filter_eq_nil_iff.2 (by simp)]; exact closedB_spec b0) hJ (fun j hj hp => by cases hp)
  rw [List.filter_eq_nil_iff.2 (by simp)] at k0
  have e0 : fillA D (fun i => a.tmps.getD (D i) undef) l a = a := by
    unfold fillA
    rw [fillT_self]
  rw [e0] at k0
  exact k0
/-- The same; the invariant may know what is done. -/
theorem drawn_jumble2 {D : Nat → Nat} (l : List Nat) (R : Nat → Value → World → Prop) (E : World → World → Prop) (J : (Nat → Bool) → World → Prop) {fuel : Nat} {listed : Array Bool} {a : Act} {w : World}
    (hB : jumbleB ops listed D l = true) (hE : ∀ i v w w', R i v w → E w w' → R i v w') (hJ : J (fun _ => false) w)
    (H : ∀ i ∈ l, ∀ p x w', p i = false → J p w' → (∀ j ∈ l, waitsB .any ops i j = true → p j = true) → (∀ j ∈ l, waitsB .any ops i j = true → R j (x j) w') →
      wpOp P ops (NoP Q) i (fun a' w'' => ∃ v, a' = (fillA D x l a).put (some (D i)) v ∧ R i v w'' ∧ E w' w'' ∧ J (fun k => p k || k == i) w'' ∧ (N ≤ i ∨ S w'')) (fillA D x l a) w')
    (h : ∀ p x w', (∀ j ∈ l, p j = true) → J p w' → (∀ j ∈ l, R j (x j) w') → wpAnyS P .any ops (NoP Q) S N fuel (markAll listed l) (fillA D x l a) w') :
    wpAnyS P .any ops (NoP Q) S N (fuel + l.length) listed a w := by
  simp only [jumbleB, Bool.and_eq_true, decide_eq_true_eq] at hB
  obtain ⟨⟨⟨⟨b1, b0⟩, b2⟩, b3⟩, b4⟩ := hB
  have hl : l.Nodup := List.Pairwise.of_map D (fun a b h e => h (by rw [e])) b2
  have key : ∀ (n : Nat) (p : Nat → Bool) (x : Nat → Value) (w' : World), (l.filter fun i => !p i).length = n → closedL .any ops (markAll listed (l.filter p)) → J p w' → (∀ j ∈ l, p j = true → R j (x j) w') →
      wpAnyS P .any ops (NoP Q) S N (fuel + n) (markAll listed (l.filter p)) (fillA D x l a) w' := by
    intro n
    induction n with
    | zero =>
      intro p x w' hn hcl hJ' hR
      have hall : ∀ i ∈ l, p i = true := fun i hi => by
        have h0 := List.eq_nil_of_length_eq_zero hn
        cases hp : p i with
        | true => rfl
        | false =>
          have : i ∈ l.filter fun i => !p i := List.mem_filter.2 ⟨hi, by simp [hp]⟩
          rw [h0] at this
          cases this
      rw [List.filter_eq_self.2 hall]
      exact h p x w' hall hJ' fun j hj => hR j hj (hall j hj)
    | succ n ih =>
      intro p x w' hn hcl hJ' hR
      have hlen : (l.filter p).length ≠ l.length := fun e => by
        have h2 : l.filter p = l := List.filter_sublist.eq_of_length e
        have h3 : (l.filter fun i => !p i) = [] := List.filter_eq_nil_iff.2 fun i hi => by
          have := List.filter_eq_self.1 h2 i hi
          simp [this]
        rw [h3] at hn
        cases hn
      have hb := List.all_eq_true.1 b1 _ (filter_parts p l)
      simp only [Bool.or_eq_true, beq_iff_eq, hlen, closedB_of hcl, Bool.not_true, Bool.false_eq_true, false_or, Bool.and_eq_true, Bool.not_eq_true', List.isEmpty_eq_false_iff] at hb
      refine ⟨fun e => absurd e hb.1, fun i hi => ?_⟩
      have hil : i ∈ l := by simpa using List.all_eq_true.1 hb.2 i hi
      obtain ⟨hun, o, ho, hall⟩ := mem_ready.1 hi
      have hsz : ∀ j ∈ l, j < listed.size ∧ listed.getD j false = false := fun j hj => by
        have := List.all_eq_true.1 b3 j hj
        simpa using this
      have hpi : p i = false := by
        cases hp : p i with
        | false => rfl
        | true =>
          have h9 := markAll_get (k := i) (l := l.filter p) (s := listed)
          rw [if_pos ⟨List.mem_filter.2 ⟨hil, hp⟩, (hsz i hil).1⟩] at h9
          rw [Array.getD_eq_getD_getElem?, h9] at hun
          cases hun
      have pre : ∀ j ∈ l, waitsB .any ops i j = true → p j = true := fun j hj hwt => by
        obtain ⟨o', ho', e, he, hbd, hon⟩ := waitsB_spec hwt
        obtain rfl : o' = o := Option.some.inj (ho'.symm.trans ho)
        have h9 := hall e he hbd
        rw [hon] at h9
        cases hp : p j with
        | true => rfl
        | false =>
          have h8 := markAll_get (k := j) (l := l.filter p) (s := listed)
          rw [if_neg (fun hh => by have := (List.mem_filter.1 hh.1).2; rw [hp] at this; cases this)] at h8
          rw [Array.getD_eq_getD_getElem?, h8, ← Array.getD_eq_getD_getElem?, (hsz j hj).2] at h9
          cases h9
      refine wpOp_mono ?_ (H i hil p x w' hpi hJ' pre fun j hj hwt => hR j hj (pre j hj hwt))
      · rintro a' w'' ⟨v, rfl, hv, hEw, hJ2, hS⟩
        refine ⟨hS, ?_⟩
        have hd : (fillA D x l a).put (some (D i)) v = fillA D (upd x i v) l a := by
          show ({ (fillA D x l a) with tmps := (fillA D x l a).tmps.setIfInBounds (D i) v } : Act) = _
          simp only [fillA]
          rw [fillT_put hil b2]
        have hm : (markAll listed (l.filter p)).setIfInBounds i true = markAll listed (l.filter fun k => p k || k == i) := markAll_set fun k => by
          simp only [List.mem_filter, Bool.or_eq_true, beq_iff_eq]
          constructor
          · rintro ⟨hk, hk2 | hk2⟩
            · exact .inr ⟨hk, hk2⟩
            · exact .inl hk2
          · rintro (rfl | ⟨hk, hk2⟩)
            · exact ⟨hil, .inr rfl⟩
            · exact ⟨hk, .inl hk2⟩
        rw [hd, hm]
        refine ih (fun k => p k || k == i) (upd x i v) w'' ?_ (hm ▸ closedL_set hcl hi) hJ2 ?_
        · have e : (l.filter fun k => !(p k || k == i)) = (l.filter fun k => !p k).erase i := by
            rw [List.Nodup.erase_eq_filter (hl.sublist List.filter_sublist), List.filter_filter]
            congr 1
            funext k
            cases p k <;> simp [bne]
          have hmem : i ∈ l.filter fun k => !p k := List.mem_filter.2 ⟨hil, by simp [hpi]⟩
          rw [e, List.length_erase_of_mem hmem, hn]
          rfl
        · intro j hj hp
          simp only [Bool.or_eq_true, beq_iff_eq] at hp
          by_cases hji : j = i
          · subst hji
            simpa [upd] using hv
          · simp only [upd, hji, if_false]
            exact hE _ _ _ _ (hR j hj (hp.resolve_right hji)) hEw
  have k0 := key l.length (fun _ => false) (fun i => a.tmps.getD (D i) undef) w (by simp) (by rw [List.filter_eq_nil_iff.2 (by simp)]; exact closedB_spec b0) hJ (fun j hj hp => by cases hp)
  rw [List.filter_eq_nil_iff.2 (by simp)] at k0
  have e0 : fillA D (fun i => a.tmps.getD (D i) undef) l a = a := by
    unfold fillA
    rw [fillT_self]
  rw [e0] at k0
  exact k0
end
end Go.Dr
namespace Go
theorem World.freeze_any {w : World} {b : Nat} {C : Array Value} {e : TypeId} {fr : Nat × Nat} (k : Nat) (h : w.blk b = some (.cells C e fr)) : ∃ fr', w.freeze ⟨b, k, none⟩ 1 = w.put b (.cells C e fr') := by
  refine ⟨if fr.1 == fr.2 then (k, k + 1) else (min fr.1 k, max fr.2 (k + 1)), ?_⟩
  unfold World.freeze World.put
  rw [if_neg (by decide)]
  congr 1
  apply Array.ext
  · simp
  · intro i h1 h2
    have hb := Array.getElem?_eq_some_iff.1 h
    rw [Array.getElem_modify, Array.getElem_setIfInBounds]
    by_cases hi : b = i
    · subst hi
      rw [if_pos rfl, if_pos rfl, hb.2]
    · rw [if_neg hi, if_neg hi]
/-- '[]byte("..")' of a constant, its row marked or not. -/
theorem run_convert_any {P : Program} {w : World} {b : Nat} {C : Array Value} {t e : TypeId} {fr : Nat × Nat} (n c : Nat) (h : w.blk b = some (.cells C e fr)) (ht : P.underlying t = some (.slice e)) (he : P.underlying e = some (.int .u8)) :
    ∃ fr', (convert t t (.slice (some ⟨b, 0, none⟩) n c)).run P w = .ok (.slice (some ⟨b, 0, none⟩) n c) (w.put b (.cells C e fr')) := by
  obtain ⟨fr', h2⟩ := World.freeze_any (C.size) h
  refine ⟨fr', ?_⟩
  have hsh : w.shape? b = some (e, C.size) := by
    unfold World.shape?
    rw [show w.heap[b]? = some (.cells C e fr) from h]
  simp [convert, run_underlying ht, run_underlying he, markStringish, hsh]
  exact h2
end Go
namespace Go.Dr
/-- A row of bytes that is nobody else's: made behind w. -/
def Made (w : World) (k : List Int) (v : Value) (W : World) : Prop := ∃ b fr, v = .slice (some ⟨b, 0, none⟩) k.length k.length ∧ W.blk b = some (.cells (ints .u8 k) 5 fr) ∧ w.heap.size ≤ b
/-- Rows of bytes stay, but for their marks. -/
def RowsStay (W W' : World) : Prop := ∀ b cs fr, W.blk b = some (.cells cs 5 fr) → ∃ fr', W'.blk b = some (.cells cs 5 fr')
theorem RowsStay.ofFr {W W' : World} (F : Fr [] W W') : RowsStay W W' := fun b cs fr h => ⟨fr, F.get h (by simp)⟩
theorem RowsStay.mark {W : World} {b : Nat} {cs : Array Value} {fr fr' : Nat × Nat} (h : W.blk b = some (.cells cs 5 fr)) : RowsStay W (W.put b (.cells cs 5 fr')) := fun g cs2 fr2 h2 => by
  by_cases e : b = g
  · subst e
    rw [h] at h2
    cases h2
    exact ⟨fr', World.at_put_same _ _ _ (World.at_lt h)⟩
  · exact ⟨fr2, by rw [World.at_put_other _ _ _ _ e]; exact h2⟩
theorem Made.rest {w W W' : World} {k : List Int} {v : Value} (h : Made w k v W) (R : RowsStay W W') : Made w k v W' := by
  obtain ⟨b, fr, rfl, h1, h2⟩ := h
  obtain ⟨fr', h3⟩ := R _ _ _ h1
  exact ⟨b, fr', rfl, h3, h2⟩
theorem Made.alloc {w W : World} (k : List Int) (h : w.heap.size ≤ W.heap.size) : Made w k (.slice (some ⟨W.heap.size, 0, none⟩) k.length k.length) (W.alloc (.cells (ints .u8 k) 5)) :=
  ⟨W.heap.size, (0, 0), rfl, World.at_alloc_new _ _ _ rfl, h⟩
end Go.Dr
namespace Go.Proofs.YtbhnfohoclcjdaaGreat
open Go.RowKit Go.Dr Go.Kd
def D45 (i : Nat) : Nat := [3, 4, 0, 0, 7, 0, 0, 10, 0, 0, 0, 0, 0, 16, 0, 0, 0, 20].getD i 0
def C45 (s n f t : Nat) (i : Nat) : List Int := match i with
  | 0 => [107, 101, 121]
  | 1 => [107, 101, 121]
  | 4 => [(s : Int)]
  | 7 => [(n : Int)]
  | 13 => putB f 4
  | 17 => putB t 4
  | _ => []
theorem d0 : D45 0 = 3 := rfl
theorem d1 : D45 1 = 4 := rfl
theorem d4 : D45 4 = 7 := rfl
theorem d7 : D45 7 = 10 := rfl
theorem d13 : D45 13 = 16 := rfl
theorem d17 : D45 17 = 20 := rfl
theorem _root_.Go.OwB.put_out {w0 w : World} {L : List (Nat × Obj)} (h : OwB w0 L w) {b : Nat} (o : Obj) (hb : w0.heap.size ≤ b) (hn : ∀ q ∈ L, b ≠ q.1) : OwB w0 L (w.put b o) :=
  ⟨fun q hq => by rw [World.at_put_other _ _ _ _ (hn q hq)]; exact h.has q hq, h.nd, h.lo, h.fr.put b o fun hb2 => by omega⟩
section
variable {w : World}
set_option maxRecDepth 100000 in
set_option maxHeartbeats 8000000 in
theorem rotext_n {s n f t : Nat} {key sig : List Int} {vs : Value} (hs : s < 256) (hn : n < 256) (hf : f < 4294967296) (ht : t < 4294967296) (hk : key.length = 32) (hg : sig.length = 64) (hv : vs.oneCell' = true) :
    Calls Tryz.prog 45 #[.agg (cObject (.int .u8 s) (.int .u8 n) key (.int .u32 f) (.int .u32 t) sig vs).toArray] w fun e w' => ∃ q m c, e = .returned (.slice q m c) ∧ Bld w [] .u8 5 w' q m c (objText ⟨s, n, key, f, t, sig, []⟩) := by
  obtain ⟨xs, hxs⟩ : ∃ xs, xs = (cObject (.int .u8 s) (.int .u8 n) key (.int .u32 f) (.int .u32 t) sig vs).toArray := ⟨_, rfl⟩
  have hsz : xs.size = 101 := by rw [hxs, List.size_toArray, cObject_length _ _ _ _ _ _ _ hk hg]
  have x0 : xs[0]? = some (.int .u8 s) := by rw [hxs]; exact cObject_get_server _ _ _ _ _ _ _ hk hg
  have x1 : xs[1]? = some (.int .u8 n) := by rw [hxs]; exact cObject_get_n _ _ _ _ _ _ _ hk hg
  have x2 : xs.extract 2 34 = ints .u8 key := by rw [hxs]; exact cObject_ext_key _ _ _ _ _ _ _ hk hg
  have x3 : xs[34]? = some (.int .u32 f) := by rw [hxs]; exact cObject_get_frm _ _ _ _ _ _ _ hk hg
  have x4 : xs[35]? = some (.int .u32 t) := by rw [hxs]; exact cObject_get_til _ _ _ _ _ _ _ hk hg
  rw [← hxs]
  have e9 : objText ⟨s, n, key, f, t, sig, []⟩ = joinB [[107, 101, 121], putB s 1, putB n 1, key, putB f 4, putB t 4] := by simp [objText]
  have HE := Lib.hid e9
  have HX2 := Lib.hid x2
  clear hxs e9 x2
  replace x0 := (Array.getElem?_eq_some_iff.1 x0).2
  replace x1 := (Array.getElem?_eq_some_iff.1 x1).2
  replace x3 := (Array.getElem?_eq_some_iff.1 x3).2
  replace x4 := (Array.getElem?_eq_some_iff.1 x4).2
  go_enter Tryz.func45, Tryz.ntmps45
  go_upto_region 1 with (fail)
  refine named_world (A := fun X => OwB w [(w.heap.size, .cells xs 48)] X) (Q := fun X => Code.wp _ _ _ _ X) ((OwB.start w).allocN _ w.heap.size rfl) ?_
  intro V hV
  have lb := Nat.le_refl w.heap.size
  generalize hb0 : w.heap.size = b0 at hV ⊢
  have f0 := hV.nth 0 rfl
  have t0 := World.at_lt f0
  have HV := Lib.hid hV
  clear hV
  refine drawn_begin 20 (fun w' => w'.blk b0 = some (.cells xs 48)) (by kernel_rfl) ?_
  refine drawn_reads (fuel := 9) [2, 3, 5, 6, 8, 9, 10, 11, 12, 14, 15, 16] rfl (by kernel_rfl) f0 ?_
  repeat (first | (refine rowK_step2 rfl rfl (fun K hK => ?_); go_wp2) | (refine rowK_step rfl (fun K hK => ?_); go_simp; refine hK _ ?_; clear hK K))
  refine rowK_nil ⟨fun w' e1 => ?_, ?_⟩
  · clear f0 t0
    repeat (first | (refine rowWp_step2 rfl rfl (fun K hK => ?_); go_wp2) | (refine rowWp_step rfl (fun K hK => ?_); go_simp; refine hK _ ?_; clear hK K))
    exact rowWp_nil rfl
  refine drawn_jumble (fuel := 3) (D := D45) [0, 1, 4, 7, 13, 17] (fun i v W => Made w (C45 s n f t i) v W) RowsStay (fun W => OwB w [(b0, .cells xs 48)] W) (by kernel_rfl) (fun i v W W' h R => h.rest R) HV.out.drew ?_ ?_
  · intro i hi x W hO hR
    have f0 := hO.nth 0 rfl
    have t0 := World.at_lt f0
    have HO := Lib.hid hO
    have HR := Lib.hid hR
    clear hO hR
    simp only [List.mem_cons, List.not_mem_nil, or_false] at hi
    have lw : w.heap.size ≤ W.heap.size := HO.out.fr.size
    rcases hi with rfl | rfl | rfl | rfl | rfl | rfl
    · refine wpOp_ofList rfl fun K hK => ?_
      simp only [fillA, fillT, d0, d1, d4, d7, d13, d17]
      go_wp2_with fail
      exact ⟨_, by kernel_rfl, Made.alloc [107, 101, 121] lw, .ofFr ((Fr.refl [] _).alloc _), HO.out.call ((Fr.refl [] _).alloc _), .inr (by go_simp)⟩
    · obtain ⟨b, fr, hx0, hb, hl⟩ := HR.out 0 (by simp) (by kernel_rfl)
      obtain ⟨fr', hc⟩ := run_convert_any 3 3 hb Tryz.underlying49 Tryz.underlying5
      refine wpOp_ofList rfl fun K hK => ?_
      simp only [fillA, fillT, d0, d1, d4, d7, d13, d17]
      have hx0' : x 0 = .slice (some ⟨b, 0, none⟩) 3 3 := hx0
      rw [hx0']
      have hne : b ≠ b0 := fun e => by
        subst e
        rw [f0] at hb
        cases hb
      go_wp2_with fail
      exact ⟨_, by simp only [fillA, fillT, d0, d1, d4, d7, d13, d17]; rw [hx0']; rfl, ⟨b, fr', rfl, World.at_put_same _ _ _ (World.at_lt hb), hl⟩, .mark hb, HO.out.put_out _ hl (by simpa using hne), .inr (by rw [World.at_put_other _ _ _ _ hne]; exact f0)⟩
    · refine wpOp_ofList rfl fun K hK => ?_
      simp only [fillA, fillT, d0, d1, d4, d7, d13, d17]
      go_wp2_with fail
      exact ⟨_, by kernel_rfl, Made.alloc [(s : Int)] lw, .ofFr ((Fr.refl [] _).alloc _), HO.out.call ((Fr.refl [] _).alloc _), .inr (by go_simp)⟩
    · refine wpOp_ofList rfl fun K hK => ?_
      simp only [fillA, fillT, d0, d1, d4, d7, d13, d17]
      go_wp2_with fail
      exact ⟨_, by kernel_rfl, Made.alloc [(n : Int)] lw, .ofFr ((Fr.refl [] _).alloc _), HO.out.call ((Fr.refl [] _).alloc _), .inr (by go_simp)⟩
    · refine wpOp_ofList rfl fun K hK => ?_
      simp only [fillA, fillT, d0, d1, d4, d7, d13, d17]
      go_wp2_with fail
      refine (rnum_b (n := f) (s := 4) (by omega) (by omega) (by omega)).mono ?_
      rintro e U ⟨bn, rfl, gb, lb, F⟩
      go_wp2_with fail
      exact ⟨_, by kernel_rfl, ⟨bn, (0, 0), by rw [show (C45 s n f t 13).length = 4 from putB_len _ _], gb, Nat.le_trans lw lb⟩, .ofFr F, HO.out.call F, .inr (F.get f0 (by simp))⟩
    · refine wpOp_ofList rfl fun K hK => ?_
      simp only [fillA, fillT, d0, d1, d4, d7, d13, d17]
      go_wp2_with fail
      refine (rnum_b (n := t) (s := 4) (by omega) (by omega) (by omega)).mono ?_
      rintro e U ⟨bn, rfl, gb, lb, F⟩
      go_wp2_with fail
      exact ⟨_, by kernel_rfl, ⟨bn, (0, 0), by rw [show (C45 s n f t 17).length = 4 from putB_len _ _], gb, Nat.le_trans lw lb⟩, .ofFr F, HO.out.call F, .inr (F.get f0 (by simp))⟩
  · intro x W hO hR
    simp only [fillA, fillT, d0, d1, d4, d7, d13, d17]
    have r1 := hR 1 (by simp)
    have r4 := hR 4 (by simp)
    have r7 := hR 7 (by simp)
    have r13 := hR 13 (by simp)
    have r17 := hR 17 (by simp)
    generalize x 0 = y0
    generalize x 1 = y1 at r1 ⊢
    generalize x 4 = y4 at r4 ⊢
    generalize x 7 = y7 at r7 ⊢
    generalize x 13 = y13 at r13 ⊢
    generalize x 17 = y17 at r17 ⊢
    obtain ⟨b1, fr1, rfl, g1, _⟩ := r1
    obtain ⟨b4, fr4, rfl, g4, _⟩ := r4
    obtain ⟨b7, fr7, rfl, g7, _⟩ := r7
    obtain ⟨b13, fr13, rfl, g13, _⟩ := r13
    obtain ⟨b17, fr17, rfl, g17, _⟩ := r17
    rw [show (C45 s n f t 1).length = 3 from rfl, show (C45 s n f t 4).length = 1 from rfl, show (C45 s n f t 7).length = 1 from rfl, show (C45 s n f t 13).length = 4 from putB_len _ _, show (C45 s n f t 17).length = 4 from putB_len _ _]
    have G1 := Lib.hid g1
    have G4 := Lib.hid g4
    have G7 := Lib.hid g7
    have G13 := Lib.hid g13
    have G17 := Lib.hid g17
    clear g1 g4 g7 g13 g17
    have HO := Lib.hid hO
    have f0 := hO.nth 0 rfl
    have t0 := World.at_lt f0
    clear hR hO
    refine drawn_next 18 (fuel := 2) rfl (by kernel_rfl) ?_
    intro K hK
    go_wp2_with fail
    refine ⟨by go_simp, ?_⟩
    refine named_world (A := fun X => OwB w [(W.heap.size, .cells #[.slice (some ⟨b1, 0, none⟩) 3 3, .slice (some ⟨b4, 0, none⟩) 1 1, .slice (some ⟨b7, 0, none⟩) 1 1, .slice (some ⟨b0, 2, none⟩) 32 32, .slice (some ⟨b13, 0, none⟩) 4 4, .slice (some ⟨b17, 0, none⟩) 4 4] 49), (b0, .cells xs 48)] X ∧ Fr [] W X) (Q := fun X => Go.Dr.wpAnyS Tryz.prog .any _ _ _ _ _ _ _ X) ⟨HO.out.allocN _ W.heap.size rfl, (Fr.refl [] _).alloc _⟩ ?_
    rintro U ⟨hO, F⟩
    generalize W.heap.size = bx at hO ⊢
    have e1 : putB s 1 = [(s : Int)] := by simp [putB]; omega
    have e2 : putB n 1 = [(n : Int)] := by simp [putB]; omega
    have S : Sll U (some ⟨bx, 0, none⟩) 6 6 [[107, 101, 121], putB s 1, putB n 1, key, putB f 4, putB t 4] := by
      refine Sll.of (vs := [.slice (some ⟨b1, 0, none⟩) 3 3, .slice (some ⟨b4, 0, none⟩) 1 1, .slice (some ⟨b7, 0, none⟩) 1 1, .slice (some ⟨b0, 2, none⟩) 32 32, .slice (some ⟨b13, 0, none⟩) 4 4, .slice (some ⟨b17, 0, none⟩) 4 4]) ⟨rfl, Nat.le_refl 6, .inr ⟨bx, 0, _, 49, (0, 0), rfl, hO.nth 0 rfl, by simp, by simp⟩, by simp, fun a ha => ⟨_, _, (by simpa using ha.symm)⟩⟩ ?_
      rw [e1, e2]
      exact .cons (Sl.whole (A := [107, 101, 121]) (F.get G1.out (by simp)) rfl) (.cons (Sl.whole (A := [(s : Int)]) (F.get G4.out (by simp)) rfl) (.cons (Sl.whole (A := [(n : Int)]) (F.get G7.out (by simp)) rfl) (.cons (sl_ext (hO.nth 1 rfl) (by omega) HX2.out) (.cons (Sl.whole (F.get G13.out (by simp)) (putB_len _ _)) (.cons (Sl.whole (F.get G17.out (by simp)) (putB_len _ _)) .nil)))))
    have HS := Lib.hid S
    have HF := Lib.hid hO
    clear f0 t0 S hO F e1 e2
    have f0 := HF.out.nth 1 rfl
    have t0 := World.at_lt f0
    refine drawn_next 19 (fuel := 1) rfl (by kernel_rfl) ?_
    intro K hK
    go_wp2_with fail
    refine (rall_f HS.out (by simp [fits, putB_len, hk])).mono ?_
    rintro e Z ⟨q, m, c, rfl, B⟩
    have HB := Lib.hid B
    have HF2 := Lib.hid (HF.out.call B.own.fr)
    clear f0 t0 B
    have f0 := HF2.out.nth 1 rfl
    have t0 := World.at_lt f0
    go_wp2_with fail
    refine ⟨f0, ?_⟩
    refine drawn_end rfl (by kernel_rfl) ?_
    intro K hK
    go_wp2_with fail
    rw [HE.out]
    exact bodyPost_ret (results_tmp rfl _ _ _) rfl ⟨q, m, c, rfl, HB.out.lift (((OwB.start w).call HF.out.fr))⟩
end
end Go.Proofs.YtbhnfohoclcjdaaGreat
namespace Go.Proofs.YtbhnfohoclcjdaaGreat
open Go.RowKit Go.Dr Go.Kd
def D66 (i : Nat) : Nat := [0, 0, 5, 0, 0, 0, 0, 0, 0, 0, 13].getD i 0
def C66 (d k : Nat) (i : Nat) : List Int := match i with
  | 2 => [(d : Int)]
  | 10 => putB k 2
  | _ => []
theorem D66_2 : D66 2 = 5 := rfl
theorem D66_10 : D66 10 = 13 := rfl
theorem sl_extN {V : World} {b off n : Nat} {xs : Array Value} {T : TypeId} {fr : Nat × Nat} {l : List Int} (hb : V.blk b = some (.cells xs T fr)) (hs : off + n ≤ xs.size) (hx : xs.extract off (off + n) = ints .u8 l) : Sl .u8 V (some ⟨b, off, none⟩) n n l :=
  Sl.of hb hs (by rw [hx]; simp [ints]) (Nat.le_refl n)
section
variable {w : World}
set_option maxRecDepth 100000 in
set_option maxHeartbeats 8000000 in
theorem rbundle_f {x : Bn} (hx : BnOk x) : Calls Tryz.prog 66 #[.agg (bnC x)] w fun e w' => ∃ q m c, e = .returned (.slice q m c) ∧ Bld w [] .u8 5 w' q m c (bunB x) := by
  obtain ⟨d, hd⟩ := Int.eq_ofNat_of_zero_le hx.d0
  obtain ⟨k, hk⟩ := Int.eq_ofNat_of_zero_le hx.i0
  have d1 : d < 256 := by have := hx.d1; omega
  have i1 : k < 65536 := by have := hx.i1; omega
  have la := hx.al
  have ls := hx.sl
  have lo := hx.ol
  have lg := hx.gl
  obtain ⟨xs, hxs⟩ : ∃ xs, xs = bnC x := ⟨_, rfl⟩
  have hsz : xs.size = 162 := by rw [hxs, List.size_toArray, cBundle_length _ _ _ _ _ _ hx.al hx.sl hx.ol hx.gl]
  have x0 : xs[0]? = some (.int .u8 (d : Int)) := by rw [hxs, ← hd]; exact cBundle_get_device _ _ _ _ _ _ hx.al hx.sl hx.ol hx.gl
  have x1 : xs.extract 1 33 = ints .u8 x.agree := by rw [hxs]; exact cBundle_ext_agree _ _ _ _ _ _ hx.al hx.sl hx.ol hx.gl
  have x2 : xs.extract 33 65 = ints .u8 x.signer := by rw [hxs]; exact cBundle_ext_signer _ _ _ _ _ _ hx.al hx.sl hx.ol hx.gl
  have x3 : xs[65]? = some (.int .u16 (k : Int)) := by rw [hxs, ← hk]; exact cBundle_get_id _ _ _ _ _ _ hx.al hx.sl hx.ol hx.gl
  have x4 : xs.extract 66 98 = ints .u8 x.once := by rw [hxs]; exact cBundle_ext_once _ _ _ _ _ _ hx.al hx.sl hx.ol hx.gl
  have x5 : xs.extract 98 162 = ints .u8 x.sig := by rw [hxs]; exact cBundle_ext_sig _ _ _ _ _ _ hx.al hx.sl hx.ol hx.gl
  have e9 : bunB x = joinB [putB d 1, x.agree, x.signer, putB k 2, x.once, x.sig] := by simp only [bunB, hd, hk, Int.toNat_natCast]
  rw [← hxs]
  have HE := Lib.hid e9
  have HX1 := Lib.hid x1
  have HX2 := Lib.hid x2
  have HX4 := Lib.hid x4
  have HX5 := Lib.hid x5
  clear hxs e9 hd hk x1 x2 x4 x5
  replace x0 := (Array.getElem?_eq_some_iff.1 x0).2
  replace x3 := (Array.getElem?_eq_some_iff.1 x3).2
  have wk : IntKind.i64.wrap (k : Int) = (k : Int) := by rw [IntKind.wrap_i64]; omega
  go_enter Tryz.func66, Tryz.ntmps66
  go_upto_region 1 with (fail)
  refine named_world (A := fun X => OwB w [(w.heap.size, .cells xs 65)] X) (Q := fun X => Code.wp _ _ _ _ X) ((OwB.start w).allocN _ w.heap.size rfl) ?_
  intro V hV
  have lb := Nat.le_refl w.heap.size
  generalize hb0 : w.heap.size = b0 at hV ⊢
  have f0 := hV.nth 0 rfl
  have t0 := World.at_lt f0
  have HV := Lib.hid hV
  clear hV
  refine drawn_begin 17 (fun w' => w'.blk b0 = some (.cells xs 65)) (by kernel_rfl) ?_
  refine drawn_reads (fuel := 5) [0, 1, 3, 4, 5, 6, 7, 8, 9, 11, 12, 13, 14] rfl (by kernel_rfl) f0 ?_
  repeat (first | (refine rowK_step2 rfl rfl (fun K hK => ?_); go_wp2) | (refine rowK_step rfl (fun K hK => ?_); go_simp; refine hK _ ?_; clear hK K))
  refine rowK_nil ⟨fun w' e1 => ?_, ?_⟩
  · clear f0 t0
    repeat (first | (refine rowWp_step2 rfl rfl (fun K hK => ?_); go_wp2) | (refine rowWp_step rfl (fun K hK => ?_); go_simp; refine hK _ ?_; clear hK K))
    exact rowWp_nil rfl
  refine drawn_jumble (fuel := 3) (D := D66) [2, 10] (fun i v W => Made w (C66 d k i) v W) RowsStay (fun W => OwB w [(b0, .cells xs 65)] W) (by kernel_rfl) (fun i v W W' h R => h.rest R) HV.out.drew ?_ ?_
  · intro i hi x W hO hR
    have f0 := hO.nth 0 rfl
    have t0 := World.at_lt f0
    have HO := Lib.hid hO
    clear hO hR
    simp only [List.mem_cons, List.not_mem_nil, or_false] at hi
    have lw : w.heap.size ≤ W.heap.size := HO.out.fr.size
    rcases hi with rfl | rfl
    · refine wpOp_ofList rfl fun K hK => ?_
      simp only [fillA, fillT, D66_2, D66_10]
      go_wp2_with fail
      exact ⟨_, by kernel_rfl, Made.alloc [(d : Int)] lw, .ofFr ((Fr.refl [] _).alloc _), HO.out.call ((Fr.refl [] _).alloc _), .inr (by go_simp)⟩
    · refine wpOp_ofList rfl fun K hK => ?_
      simp only [fillA, fillT, D66_2, D66_10]
      go_wp2_with fail
      refine (rnum_b (n := k) (s := 2) (by omega) (by omega) (by omega)).mono ?_
      rintro e U ⟨bn, rfl, gb, lb, F⟩
      go_wp2_with fail
      exact ⟨_, by kernel_rfl, ⟨bn, (0, 0), by rw [show (C66 d k 10).length = 2 from putB_len _ _], gb, Nat.le_trans lw lb⟩, .ofFr F, HO.out.call F, .inr (F.get f0 (by simp))⟩
  · intro y W hO hR
    simp only [fillA, fillT, D66_2, D66_10]
    have r2 := hR 2 (by simp)
    have r10 := hR 10 (by simp)
    generalize y 2 = y2 at r2 ⊢
    generalize y 10 = y10 at r10 ⊢
    obtain ⟨b2, fr2, rfl, g2, _⟩ := r2
    obtain ⟨b10, fr10, rfl, g10, _⟩ := r10
    rw [show (C66 d k 2).length = 1 from rfl, show (C66 d k 10).length = 2 from putB_len _ _]
    have G2 := Lib.hid g2
    have G10 := Lib.hid g10
    clear g2 g10
    have HO := Lib.hid hO
    have f0 := hO.nth 0 rfl
    have t0 := World.at_lt f0
    clear hR hO
    refine drawn_next 15 (fuel := 2) rfl (by kernel_rfl) ?_
    intro K hK
    go_wp2_with fail
    refine ⟨by go_simp, ?_⟩
    refine named_world (A := fun X => OwB w [(W.heap.size, .cells #[.slice (some ⟨b2, 0, none⟩) 1 1, .slice (some ⟨b0, 1, none⟩) 32 32, .slice (some ⟨b0, 33, none⟩) 32 32, .slice (some ⟨b10, 0, none⟩) 2 2, .slice (some ⟨b0, 66, none⟩) 32 32, .slice (some ⟨b0, 98, none⟩) 64 64] 49), (b0, .cells xs 65)] X ∧ Fr [] W X) (Q := fun X => Go.Dr.wpAnyS Tryz.prog .any _ _ _ _ _ _ _ X) ⟨HO.out.allocN _ W.heap.size rfl, (Fr.refl [] _).alloc _⟩ ?_
    rintro U ⟨hO, F⟩
    generalize W.heap.size = bx at hO ⊢
    have e1 : putB d 1 = [(d : Int)] := by simp [putB]; omega
    have S : Sll U (some ⟨bx, 0, none⟩) 6 6 [putB d 1, x.agree, x.signer, putB k 2, x.once, x.sig] := by
      refine Sll.of (vs := [.slice (some ⟨b2, 0, none⟩) 1 1, .slice (some ⟨b0, 1, none⟩) 32 32, .slice (some ⟨b0, 33, none⟩) 32 32, .slice (some ⟨b10, 0, none⟩) 2 2, .slice (some ⟨b0, 66, none⟩) 32 32, .slice (some ⟨b0, 98, none⟩) 64 64]) ⟨rfl, Nat.le_refl 6, .inr ⟨bx, 0, _, 49, (0, 0), rfl, hO.nth 0 rfl, by simp, by simp⟩, by simp, fun a ha => ⟨_, _, (by simpa using ha.symm)⟩⟩ ?_
      rw [e1]
      exact .cons (Sl.whole (A := [(d : Int)]) (F.get G2.out (by simp)) rfl) (.cons (sl_ext (hO.nth 1 rfl) (by omega) HX1.out) (.cons (sl_ext (hO.nth 1 rfl) (by omega) HX2.out) (.cons (Sl.whole (F.get G10.out (by simp)) (putB_len _ _)) (.cons (sl_ext (hO.nth 1 rfl) (by omega) HX4.out) (.cons (sl_extN (n := 64) (hO.nth 1 rfl) (by omega) HX5.out) .nil)))))
    have HS := Lib.hid S
    have HF := Lib.hid hO
    clear f0 t0 S hO F e1
    have f0 := HF.out.nth 1 rfl
    have t0 := World.at_lt f0
    refine drawn_next 16 (fuel := 1) rfl (by kernel_rfl) ?_
    intro K hK
    go_wp2_with fail
    refine (rall_f HS.out (by simp [fits, putB_len, la, ls, lo, lg])).mono ?_
    rintro e Z ⟨q, m, c, rfl, B⟩
    have HB := Lib.hid B
    have HF2 := Lib.hid (HF.out.call B.own.fr)
    clear f0 t0 B
    have f0 := HF2.out.nth 1 rfl
    have t0 := World.at_lt f0
    go_wp2_with fail
    refine ⟨f0, ?_⟩
    refine drawn_end rfl (by kernel_rfl) ?_
    intro K hK
    go_wp2_with fail
    rw [HE.out]
    exact bodyPost_ret (results_tmp rfl _ _ _) rfl ⟨q, m, c, rfl, HB.out.lift (((OwB.start w).call HF.out.fr))⟩
end
end Go.Proofs.YtbhnfohoclcjdaaGreat
namespace Go
/-- As Q; by a goto: what holds at its label. -/
def Exit.jumps (J : Nat → Act → World → Prop) (Q : Exit → Act → World → Prop) : Exit → Act → World → Prop
  | .goto l, a, w => J l a w
  | e, a, w => Q e a w
section
variable {P : Program} {a : Act} {w : World} {Q : Exit → Act → World → Prop}
theorem wp_scope_all {c : Code} (J : Nat → Act → World → Prop) (μ : Nat → Act → World → Nat)
    (pass : ∀ l a w, J l a w → ∃ rest, findLabel c l = some rest ∧ rest.wp P (Exit.jumps (fun l' a' w' => J l' a' w' ∧ μ l' a' w' < μ l a w) Q) a w)
    (first : c.wp P (Exit.jumps J Q) a w) : (Code.scope c).wp P Q a w := by
  intro b k cs
  have key : ∀ n l a w, μ l a w = n → J l a w → ∃ rest, findLabel c l = some rest ∧ ∃ e a' w', Q e a' w' ∧ Arrives P (lone (b.at a (.code rest :: .inScope c :: k)) cs w) b k cs e a' w' := by
    intro n
    induction n using Nat.strongRecOn with
    | _ n ih =>
      intro l a w hn hJ
      obtain ⟨rest, hf, hp⟩ := pass l a w hJ
      refine ⟨rest, hf, ?_⟩
      obtain ⟨e, a₁, w₁, hq, harr⟩ := hp b (.inScope c :: k) cs
      cases e with
      | normal => exact ⟨.normal, a₁, w₁, hq, Steps.trans harr (.one step_inScope)⟩
      | exit id => exact ⟨.exit id, a₁, w₁, hq, fun k' hk => harr k' (by simp [exitTo, hk])⟩
      | goto l' =>
        obtain ⟨hJ', hlt⟩ := hq
        obtain ⟨rest2, hf2, e₂, a₂, w₂, hq₂, harr₂⟩ := ih _ (by omega) l' a₁ w₁ rfl hJ'
        have hg : gotoIn l' (.inScope c :: k) = some (.code rest2 :: .inScope c :: k) := by simp [gotoIn, hf2]
        exact ⟨e₂, a₂, w₂, hq₂, .of_steps (harr _ hg) harr₂⟩
      | ret => exact ⟨_, a₁, w₁, hq, harr⟩
      | panic ch => exact ⟨_, a₁, w₁, hq, harr⟩
      | outgrown => exact ⟨_, a₁, w₁, hq, harr⟩
  obtain ⟨e, a₁, w₁, hq, harr⟩ := first b (.inScope c :: k) cs
  cases e with
  | normal => exact ⟨.normal, a₁, w₁, hq, .head step_scope (Steps.trans harr (.one step_inScope))⟩
  | exit id => exact ⟨.exit id, a₁, w₁, hq, fun k' hk => .head step_scope (harr k' (by simp [exitTo, hk]))⟩
  | goto l' =>
    obtain ⟨rest2, hf2, e₂, a₂, w₂, hq₂, harr₂⟩ := key _ l' a₁ w₁ rfl hq
    have hg : gotoIn l' (.inScope c :: k) = some (.code rest2 :: .inScope c :: k) := by simp [gotoIn, hf2]
    exact ⟨e₂, a₂, w₂, hq₂, .of_steps (.head step_scope (harr _ hg)) harr₂⟩
  | ret => exact ⟨_, a₁, w₁, hq, .of_steps (.one step_scope) harr⟩
  | panic ch => exact ⟨_, a₁, w₁, hq, .of_steps (.one step_scope) harr⟩
  | outgrown => exact ⟨_, a₁, w₁, hq, .of_steps (.one step_scope) harr⟩
theorem wp_scope_next {c : Code} (J : Nat → Act → World → Prop) (μ : Nat → Act → World → Nat)
    (pass : ∀ l a w, J l a w → ∃ rest, findLabel c l = some (Code.skip.seq rest) ∧ rest.wp P (Exit.jumps (fun l' a' w' => J l' a' w' ∧ μ l' a' w' < μ l a w) Q) a w)
    (first : (∀ l a w, J l a w → ∃ rest, findLabel c l = some (Code.skip.seq rest) ∧ rest.wp P (Exit.jumps J Q) a w) → c.wp P (Exit.jumps J Q) a w) : (Code.scope c).wp P Q a w := by
  have up : ∀ (R : Nat → Act → World → Prop), (∀ l a w, R l a w → J l a w) → ∀ e a w, Exit.jumps R Q e a w → Exit.jumps J Q e a w := fun R h e a w he => by
    cases e <;> first | exact he | exact h _ _ _ he
  refine wp_scope_all J μ (fun l a w hJ => ?_) (first fun l a w hJ => ?_)
  · obtain ⟨rest, hf, hp⟩ := pass l a w hJ
    exact ⟨_, hf, wp_seq (wp_skip hp)⟩
  · obtain ⟨rest, hf, hp⟩ := pass l a w hJ
    exact ⟨rest, hf, wp_mono hp (up _ fun _ _ _ h => h.1)⟩
theorem wp_there {c X : Code} {l : Nat} (h : ∃ rest, findLabel c l = some (Code.skip.seq rest) ∧ rest.wp P Q a w) (hX : findLabel c l = some (Code.skip.seq X)) : X.wp P Q a w := by
  obtain ⟨rest, hf, hp⟩ := h
  have e := (Code.seq.inj (Option.some.inj (hf.symm.trans hX))).2
  rw [← e]
  exact hp
end
end Go
namespace Go.Kd
/-- n pieces, and what is left. -/
def takeP : Nat → Bs → Option (List Bs × Bs)
  | 0, b => some ([], b)
  | n + 1, a :: c :: b => if 4096 < a.toNat * 256 + c.toNat ∨ b.length < a.toNat * 256 + c.toNat then none else (takeP n (b.drop (a.toNat * 256 + c.toNat))).map fun q => (b.take (a.toNat * 256 + c.toNat) :: q.1, q.2)
  | _ + 1, _ => none
def finP (done : List Bs) : Option (List Bs × Bs) → Option (List Bs)
  | some (l, []) => some (done ++ l)
  | _ => none
/-- The pieces. -/
def splitB : Bs → Option (List Bs)
  | [] => none
  | k :: b => if 64 < k then none else finP [] (takeP k.toNat b)
theorem finP_zero (done : List Bs) (b : Bs) : finP done (takeP 0 b) = if b = [] then some done else none := by
  cases b <;> simp [takeP, finP]
theorem takeP_short {n : Nat} {b : Bs} (h : b.length < 2) : takeP (n + 1) b = none := by
  match b, h with
  | [], _ => rfl
  | [_], _ => rfl
theorem finP_none (done : List Bs) : finP done none = none := rfl
theorem finP_step {done : List Bs} {n : Nat} {a c : Int} {b : Bs} (h1 : ¬ 4096 < a.toNat * 256 + c.toNat) (h2 : ¬ b.length < a.toNat * 256 + c.toNat) :
    finP done (takeP (n + 1) (a :: c :: b)) = finP (done ++ [b.take (a.toNat * 256 + c.toNat)]) (takeP n (b.drop (a.toNat * 256 + c.toNat))) := by
  rw [takeP, if_neg (by omega)]
  cases takeP n (b.drop (a.toNat * 256 + c.toNat)) with
  | none => rfl
  | some q =>
    obtain ⟨l, r⟩ := q
    cases r <;> simp [finP]
theorem takeP_big {n : Nat} {a c : Int} {b : Bs} (h : 4096 < a.toNat * 256 + c.toNat ∨ b.length < a.toNat * 256 + c.toNat) : takeP (n + 1) (a :: c :: b) = none := by
  rw [takeP, if_pos h]
/-- What joined pieces are taken as. -/
theorem takeP_join : ∀ (ps : List Bs) (r : Bs), (∀ p ∈ ps, p.length ≤ 4096) → takeP ps.length (ps.flatMap (fun p => ((p.length / 256 : Nat) : Int) :: ((p.length % 256 : Nat) : Int) :: p) ++ r) = some (ps, r) := by
  intro ps
  induction ps with
  | nil => intro r _; rfl
  | cons p ps ih =>
    intro r h
    have hp := h p (by simp)
    rw [List.flatMap_cons, List.length_cons]
    simp only [List.cons_append, List.append_assoc]
    have e : ((p.length / 256 : Nat) : Int).toNat * 256 + ((p.length % 256 : Nat) : Int).toNat = p.length := by
      rw [Int.toNat_natCast, Int.toNat_natCast]
      omega
    rw [takeP, e, if_neg (by rw [List.length_append]; omega), List.drop_left, List.take_left, ih r (fun q hq => h q (by simp [hq]))]
    rfl
theorem splitB_join {ps : List Bs} (h : fits ps = true) : splitB (joinB ps) = some ps := by
  simp only [fits, Bool.and_eq_true, decide_eq_true_eq, List.all_eq_true] at h
  have := takeP_join ps [] h.2
  rw [List.append_nil] at this
  rw [joinB, splitB, if_neg (by omega), Int.toNat_natCast, this]
  rfl
/-- And the other way round. -/
theorem takeP_back : ∀ (n : Nat) (b : Bs) (ps : List Bs) (r : Bs), (∀ x ∈ b, 0 ≤ x ∧ x < 256) → takeP n b = some (ps, r) → ps.length = n ∧ (∀ p ∈ ps, p.length ≤ 4096) ∧ b = ps.flatMap (fun p => ((p.length / 256 : Nat) : Int) :: ((p.length % 256 : Nat) : Int) :: p) ++ r := by
  intro n
  induction n with
  | zero => intro b ps r _ h; rw [takeP] at h; cases h; simp
  | succ n ih =>
    intro b ps r hb h
    match b, hb, h with
    | [], _, h => cases h
    | [_], _, h => cases h
    | a :: c :: b, hb, h =>
      have ha := hb a (by simp)
      have hc := hb c (by simp)
      rw [takeP] at h
      split at h
      · cases h
      · rename_i hn
        obtain ⟨s, hs⟩ : ∃ s, s = a.toNat * 256 + c.toNat := ⟨_, rfl⟩
        rw [← hs] at h hn
        cases hq : takeP n (b.drop s) with
        | none => rw [hq] at h; cases h
        | some q =>
          obtain ⟨l, r2⟩ := q
          rw [hq] at h
          simp only [Option.map_some, Option.some.injEq, Prod.mk.injEq] at h
          obtain ⟨rfl, rfl⟩ := h
          obtain ⟨h1, h2, h3⟩ := ih _ _ _ (fun x hx => hb x (by simp [List.mem_of_mem_drop hx])) hq
          have hl : (b.take s).length = s := by rw [List.length_take]; omega
          refine ⟨by simp [h1], ?_, ?_⟩
          · intro p hp
            rcases List.mem_cons.1 hp with rfl | hp
            · omega
            · exact h2 p hp
          · rw [List.flatMap_cons, hl]
            simp only [List.cons_append, List.append_assoc]
            rw [← h3, List.take_append_drop]
            congr 1
            · omega
            · congr 1
              omega
theorem splitB_back {b : Bs} {ps : List Bs} (hb : ∀ x ∈ b, 0 ≤ x ∧ x < 256) (h : splitB b = some ps) : b = joinB ps ∧ fits ps = true := by
  match b, hb, h with
  | [], _, h => cases h
  | k :: b, hb, h =>
    have hk := hb k (by simp)
    rw [splitB] at h
    split at h
    · cases h
    · cases hq : takeP k.toNat b with
      | none => rw [hq] at h; cases h
      | some q =>
        obtain ⟨l, r⟩ := q
        rw [hq] at h
        cases r with
        | cons x r => cases h
        | nil =>
          simp only [finP, List.nil_append, Option.some.injEq] at h
          subst h
          obtain ⟨h1, h2, h3⟩ := takeP_back _ _ _ _ (fun x hx => hb x (by simp [hx])) hq
          rw [List.append_nil] at h3
          refine ⟨?_, ?_⟩
          · rw [joinB, ← h3, h1]
            congr 1
            omega
          · simp only [fits, Bool.and_eq_true, decide_eq_true_eq, List.all_eq_true]
            exact ⟨by omega, h2⟩
end Go.Kd
namespace Go.Proofs.YtbhnfohoclcjdaaGreat
open Go.RowKit Go.Dr Go.Kd
theorem _root_.Go.Parked.svH {N : List (Nat × Obj)} {e sz : Nat} {p : Option Addr} {n c : Nat} {vs : List Value} {W : World} (h : Parked N e sz p n c vs) (hN : Has N W) : Sv sz W p n c vs := by
  refine (h.take (L := []) (w0 := W.void) ⟨by simpa using hN, ?_, fun _ _ => Nat.zero_le _, W.void_fr⟩).sv
  rcases h with ⟨rfl, _⟩ | ⟨g, r, rfl, _⟩ <;> simp
section
variable {w : World}
set_option maxRecDepth 100000 in
set_option maxHeartbeats 2000000 in
theorem byclone_f {a : Addr} {n cap : Nat} {l : List Int} (S : Sl .u8 w (some a) n cap l) (hn : n ≤ 100000) :
    Calls Tryz.prog 101 #[.slice (some a) n cap] w fun e w' => ∃ q c, e = .returned (.slice q n c) ∧ Bld w [] .u8 5 w' q n c l := by
  have HS := Lib.hid S
  have hq : (binOp .eql 49 (.slice (some a) n cap) (.slice none 0 0)).run Tryz.prog w = .ok (.bool false) w := by
    exact Lib.run_eql_slice_nil w 49 5 (some a) n cap 0 0 Tryz.underlying49
  clear S
  go_enter Tryz.func101, Tryz.ntmps101
  have B : Bld w [] .u8 5 (w.alloc (.cells #[] 5)) (some ⟨w.heap.size, 0, none⟩) 0 0 [] := Bld.made (OwB.start w) 0 (by simp [maxLen])
  have HB := Lib.hid B
  clear B
  go_wp2_with (refine wpList_app47 rfl _ _ rfl rfl HB.out rfl (HS.out.fr0 HB.out.own.fr) (by omega) ?_)
  intro q c W B2
  have HB2 := Lib.hid B2
  clear B2
  go_wp2_with fail
  exact bodyPost_ret (results_tmp rfl _ _ _) rfl ⟨q, c, rfl, by simpa using HB2.out⟩
end
/-- A slice of pieces that stands in what is owned. -/
def Sly (M : List (Nat × Obj)) (q : Option Addr) (n c : Nat) (ls : List Bs) : Prop := ∃ us, ∀ W, Has M W → Sv 1 W q n c us ∧ Sls W us ls
/-- What Split answers. -/
def SplitRes (w : World) (o : Option (List Bs)) (e : Ending) (w' : World) : Prop := match o with
  | some ls => ∃ q c M, e = .returned (.tuple #[.slice q ls.length c, .int .i64 0]) ∧ OwB w M w' ∧ (∀ x ∈ M, ∃ cs T fr, x.2 = .cells cs T fr ∧ (T = 5 ∨ T = 49)) ∧ Sly M q ls.length c ls
  | none => ∃ why : Int, why ≠ 0 ∧ e = .returned (.tuple #[.slice none 0 0, .int .i64 why]) ∧ Fr [] w w'
end Go.Proofs.YtbhnfohoclcjdaaGreat
