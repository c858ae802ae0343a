/- Joined: GnA. -/
import Derived.OrdersHeld
import Derived.Tactics
import Derived.WalkKit
import Derived.WalkSpells
import Derived.WalkLawsBesides
import Derived.Deep.MidRow
import Derived.Lib.Hide
set_option linter.unusedVariables false
set_option linter.unusedSimpArgs false
namespace Go.Dr
section
variable {P : Program} {ops : Array Oper} {Q : Exit → Act → World → Prop} {md : Region.Mode} {S : World → Prop} {N : Nat}

/-- Whatever order is picked from here on; and S holds behind every operation below N. -/
def wpAnyS (P : Program) (md : Region.Mode) (ops : Array Oper) (Q : Exit → Act → World → Prop) (S : World → Prop) (N : Nat) : Nat → Array Bool → Act → World → Prop
  | 0, listed, a, w => Region.ready md ops listed = [] ∧ Q .normal a w
  | fuel + 1, listed, a, w =>
    (Region.ready md ops listed = [] → Q .normal a w) ∧
    ∀ i ∈ Region.ready md ops listed, wpOp P ops Q i (fun a' w' => (N ≤ i ∨ S w') ∧ wpAnyS P md ops Q S N fuel (listed.setIfInBounds i true) a' w') a w

theorem wpAny_of_S : ∀ (fuel : Nat) (listed : Array Bool) (a : Act) (w : World), wpAnyS P md ops Q S N fuel listed a w → wpAny P md ops Q fuel listed a w
  | 0, _, _, _, h => h
  | fuel + 1, _, _, _, h => ⟨h.1, fun i hi => wpOp_mono (fun a' w' h' => wpAny_of_S fuel _ a' w' h'.2) (h.2 i hi)⟩

theorem wpAnyS_mono {S' : World → Prop} (hSS : ∀ w, S w → S' w) : ∀ (fuel : Nat) (listed : Array Bool) (a : Act) (w : World), wpAnyS P md ops Q S N fuel listed a w → wpAnyS P md ops Q S' N fuel listed a w
  | 0, _, _, _, h => h
  | fuel + 1, _, _, _, h => ⟨h.1, fun i hi => wpOp_mono (fun a' w' h' => ⟨h'.1.imp id (hSS w'), wpAnyS_mono hSS fuel _ a' w' h'.2⟩) (h.2 i hi)⟩

/-- Does j wait for i? -/
def waitsB (md : Region.Mode) (ops : Array Oper) (j i : Nat) : Bool :=
  match ops[j]? with
  | some o => o.after.any fun e => Region.binds md e && e.on == i
  | none => false
theorem waitsB_spec {j i : Nat} (h : waitsB md ops j i = true) : ∃ o, ops[j]? = some o ∧ ∃ e ∈ o.after, Region.binds md e = true ∧ e.on = i := by
  unfold waitsB at h
  split at h
  · rename_i o ho
    obtain ⟨e, he, hb⟩ := Array.any_eq_true'.1 h
    simp only [Bool.and_eq_true, beq_iff_eq] at hb
    exact ⟨o, ho, e, he, hb.1, hb.2⟩
  · cases h
/-- Number N waits, through others, for all below N; each one behind it for one from N on. -/
def tailB (md : Region.Mode) (ops : Array Oper) (N : Nat) : Bool :=
  decide (N = ops.size) || (((List.range N).all fun i => (List.range (N + 1)).any fun j => decide (i < j) && waitsB md ops j i) &&
    (List.range ops.size).all fun t => decide (t ≤ N) || (match ops[t]? with
    | some o => o.after.any fun e => Region.binds md e && decide (N ≤ e.on)
    | none => true))
def noTail (N : Nat) (listed : Array Bool) : Prop := ∀ t, N ≤ t → listed.getD t false = false
/-- What is listed has all that it waits for listed. -/
def closedL (md : Region.Mode) (ops : Array Oper) (listed : Array Bool) : Prop :=
  ∀ j o, ops[j]? = some o → listed.getD j false = true → ∀ e ∈ o.after, Region.binds md e = true → listed.getD e.on false = true
theorem closedL_set {listed : Array Bool} (h : closedL md ops listed) {i : Nat} (hi : i ∈ Region.ready md ops listed) : closedL md ops (listed.setIfInBounds i true) := by
  intro j o hj hl e he hb
  have up : ∀ k, listed.getD k false = true → (listed.setIfInBounds i true).getD k false = true := fun k hk => by
    by_cases hki : i = k
    · subst hki
      by_cases hs : i < listed.size
      · simp [hs]
      · simp [Array.getElem?_eq_none (Nat.le_of_not_lt hs)] at hk
    · rw [getD_set_ne false hki]; exact hk
  by_cases hij : i = j
  · subst hij
    obtain ⟨_, o', ho', hall⟩ := mem_ready.1 hi
    obtain rfl : o' = o := Option.some.inj (ho'.symm.trans hj)
    exact up _ (hall e he hb)
  · rw [getD_set_ne false hij] at hl
    exact up _ (h j o hj hl e he hb)

theorem getD_both' {listed : Array Bool} {i : Nat} (h : listed.getD i true = false) : listed.getD i false = false := by
  rcases Nat.lt_or_ge i listed.size with h' | h'
  · simp [h'] at h ⊢; exact h
  · simp [Array.getElem?_eq_none h'] at h

theorem head_only (hT : tailB md ops N = true) {listed : Array Bool} (hno : noTail N listed) (hc : closedL md ops listed) {i j : Nat} (hi : i < N) (hun : listed.getD i false = false) (hj : j ∈ Region.ready md ops listed) : j < N := by
  rcases Nat.lt_or_ge j N with h | h
  · exact h
  · exfalso
    obtain ⟨_, o, ho, hall⟩ := mem_ready.1 hj
    have hjs : j < ops.size := (Array.getElem?_eq_some_iff.1 ho).1
    simp only [tailB, Bool.or_eq_true, Bool.and_eq_true, decide_eq_true_eq] at hT
    rcases hT with hT | ⟨hA, hB⟩
    · omega
    rcases Nat.eq_or_lt_of_le h with h | h
    · subst h
      -- from i up to N: each has one above it that waits for it
      have key : ∀ (n i : Nat), N - i = n → i < N → listed.getD i false = false → False := by
        intro n
        induction n using Nat.strongRecOn with
        | _ n ih =>
          intro i hn hi hun
          obtain ⟨k, hk, hk2⟩ := List.any_eq_true.1 (List.all_eq_true.1 hA i (List.mem_range.2 hi))
          simp only [Bool.and_eq_true, decide_eq_true_eq] at hk2
          obtain ⟨ok, hok, e, he, hb, hon⟩ := waitsB_spec hk2.2
          have hkN : k ≤ N := by have := List.mem_range.1 hk; omega
          rcases Nat.eq_or_lt_of_le hkN with hkN | hkN
          · subst hkN
            obtain rfl : ok = o := Option.some.inj (hok.symm.trans ho)
            have := hall e he hb
            rw [hon, hun] at this; cases this
          · cases hl : listed.getD k false with
            | true =>
              have := hc k ok hok hl e he hb
              rw [hon, hun] at this; cases this
            | false => exact ih (N - k) (by omega) k rfl hkN hl
      exact key _ i rfl hi hun
    · have h1 := List.all_eq_true.1 hB j (List.mem_range.2 hjs)
      rw [ho] at h1
      simp only [Bool.or_eq_true, decide_eq_true_eq] at h1
      rcases h1 with h1 | h1
      · omega
      · obtain ⟨e, he, hb⟩ := Array.any_eq_true'.1 h1
        simp only [Bool.and_eq_true, decide_eq_true_eq] at hb
        have h3 := hall e he hb.1
        rw [hno e.on hb.2] at h3; cases h3

theorem wpAnyS_first {i : Nat} {oi : Oper} {v : Value} (hi : ops[i]? = some oi) (hN : i < N) (hT : tailB md ops N = true) (hsel : ∀ (j : Nat) (o : Oper) cs b, ops[j]? = some o → o.op ≠ .select cs b)
    (hQ : ∀ c a w, Q (.panic c) (a.put oi.dst v) w → Q (.panic c) a w) :
    ∀ (fuel : Nat) (listed : Array Bool) (a : Act) (w : World), noTail N listed → closedL md ops listed →
      (∀ j oj, ops[j]? = some oj → j ≠ i → listed.getD j true = false → (∀ e ∈ oj.after, Region.binds md e = true → e.on ≠ i) → oi.apart ops oj = true) →
      i ∈ Region.ready md ops listed → YieldsIf P ops S oi v a → S w →
      wpAnyS P md ops Q S N fuel (listed.setIfInBounds i true) (a.put oi.dst v) w → wpAnyS P md ops Q S N (fuel + 1) listed a w := by
  intro fuel
  induction fuel with
  | zero =>
    intro listed a w _ _ _ hr hy hS H
    refine ⟨fun h => (by rw [h] at hr; cases hr), fun j hj => ?_⟩
    by_cases hji : j = i
    · subst hji; exact hy.wpOp hi hS ⟨.inr hS, H⟩
    · have := ready_mono hj hji
      rw [H.1] at this
      cases this
  | succ fuel ih =>
    intro listed a w hno hc hfree hr hy hS H
    refine ⟨fun h => (by rw [h] at hr; cases hr), fun j hj => ?_⟩
    by_cases hji : j = i
    · subst hji; exact hy.wpOp hi hS ⟨.inr hS, H⟩
    · have h1 := H.2 j (ready_mono hj hji)
      obtain ⟨hjun, oj, hoj, hall⟩ := mem_ready.1 hj
      have h0i := (mem_ready.1 hr).1
      have hjN : j < N := head_only hT hno hc hN (getD_both' h0i) hj
      have hnot : ∀ e ∈ oj.after, Region.binds md e = true → e.on ≠ i := fun e he hb heq => by
        have h1 := hall e he hb
        rw [heq, getD_both' h0i] at h1
        cases h1
      have h2 := wpOp_putIf hoj (hfree j oj hoj hji hjun hnot) (fun cs b => hsel i oi cs b hi) (fun cs b => hsel j oj cs b hoj) hQ hy h1
      have hfree' : ∀ k ok, ops[k]? = some ok → k ≠ i → (listed.setIfInBounds j true).getD k true = false →
          (∀ e ∈ ok.after, Region.binds md e = true → e.on ≠ i) → oi.apart ops ok = true := fun k ok hk hki hun hno => by
        refine hfree k ok hk hki ?_ hno
        by_cases hjk : j = k
        · subst hjk; exact hjun
        · rw [getD_set_ne true hjk] at hun; exact hun
      have hno' : noTail N (listed.setIfInBounds j true) := fun t ht => by
        rw [getD_set_ne false (by omega)]; exact hno t ht
      refine wpOp_mono (fun a' w' h3 => ?_) h2
      have hSw : S w' := h3.2.1.resolve_left (by omega)
      refine ⟨.inr hSw, ih (listed.setIfInBounds j true) a' w' hno' (closedL_set hc hj) hfree' (ready_mono hr (Ne.symm hji)) h3.1 hSw ?_⟩
      rw [Array.setIfInBounds_comm _ _ hji]
      exact h3.2.2

/-! ### A row of operations that only read, taken together -/
/-- The operation gives a value and leaves the world as it is. -/
def _root_.Go.Oper.valWp (P : Program) (o : Oper) (a : Act) (w : World) (K : Act → Prop) : Prop :=
  match (execOp a.eval o).run P w with
  | .ok (.value v) w' => w' = w ∧ K (a.put o.dst v)
  | _ => False
/-- The row, one behind the other, gives the state b and leaves the world as it is. -/
def rowWp (P : Program) (ops : Array Oper) (b : Act) : List Nat → Act → World → Prop
  | [], a, _ => a = b
  | i :: rest, a, w => ∃ o, ops[i]? = some o ∧ if Region.wanted o (yielded ops a.tmps) = true then o.valWp P a w (fun a' => rowWp P ops b rest a' w) else rowWp P ops b rest (a.put o.dst undef) w
theorem _root_.Go.Oper.valWp_mono {o : Oper} {a : Act} {w : World} {K K' : Act → Prop} (h : ∀ a, K a → K' a) (hh : o.valWp P a w K) : o.valWp P a w K' := by
  unfold Oper.valWp at *
  split at hh <;> first | exact ⟨hh.1, h _ hh.2⟩ | exact hh.elim
theorem rowWp_step {b : Act} {i : Nat} {rest : List Nat} {a : Act} {w : World} {o : Oper} (ho : ops[i]? = some o)
    (h : ∀ K : Act → Prop, (∀ a', rowWp P ops b rest a' w → K a') → if Region.wanted o (yielded ops a.tmps) = true then o.valWp P a w K else K (a.put o.dst undef)) :
    rowWp P ops b (i :: rest) a w := ⟨o, ho, h _ (fun _ h => h)⟩
theorem rowWp_nil {b a : Act} {w : World} (h : a = b) : rowWp P ops b [] a w := h

/-- The row may be taken, one behind the other: each is ready then, lies below N, nobody else touches its place; each writes a place of its own. -/
def takeB (md : Region.Mode) (ops : Array Oper) (N sz : Nat) : Array Bool → List Nat → Bool
  | _, [] => true
  | listed, i :: rest => decide (i < N) && Region.free md ops listed i && (Region.ready md ops listed).contains i &&
      ((ops[i]?).any fun o => match o.dst with | some d => decide (d < sz) && rest.all fun j => ((ops[j]?).any fun u => u.dst != some d) | none => false) && takeB md ops N sz (listed.setIfInBounds i true) rest
def markAll (listed : Array Bool) (l : List Nat) : Array Bool := l.foldl (fun s i => s.setIfInBounds i true) listed

theorem noTail_set {listed : Array Bool} (h : noTail N listed) {i : Nat} (hi : i < N) : noTail N (listed.setIfInBounds i true) := fun t ht => by
  rw [getD_set_ne false (by omega)]; exact h t ht

/-- A place that the row doesn't write is as it was. -/
theorem rowWp_keeps {b : Act} {w : World} {d : Nat} : ∀ (l : List Nat) (a : Act), (∀ j ∈ l, ∀ o, ops[j]? = some o → o.dst ≠ some d) → rowWp P ops b l a w → b.tmps[d]? = a.tmps[d]?
  | [], a, _, h => by rw [show a = b from h]
  | i :: rest, a, hne, h => by
    obtain ⟨o, ho, h⟩ := h
    have hd := hne i (List.mem_cons_self ..) o ho
    have hput : ∀ v, (a.put o.dst v).tmps[d]? = a.tmps[d]? := fun v => by
      cases hod : o.dst with
      | none => simp [Act.put]
      | some e => simp only [Act.put]; rw [Array.getElem?_setIfInBounds_ne (fun h' => hd (by rw [hod, h']))]
    split at h
    · unfold Oper.valWp at h
      split at h
      · rw [rowWp_keeps rest _ (fun j hj => hne j (List.mem_cons_of_mem _ hj)) h.2, hput]
      · exact h.elim
    · rw [rowWp_keeps rest _ (fun j hj => hne j (List.mem_cons_of_mem _ hj)) h, hput]

theorem put_undef_or {a : Act} {d : Nat} {v v' : Value} (h : (a.put (some d) v).tmps[d]? = (a.put (some d) v').tmps[d]?) : a.put (some d) v = a.put (some d) v' := by
  simp only [Act.put] at *
  by_cases hd : d < a.tmps.size
  · rw [Array.getElem?_setIfInBounds_self_of_lt hd, Array.getElem?_setIfInBounds_self_of_lt hd] at h
    rw [Option.some.inj h]
  · rw [show a.tmps.setIfInBounds d v = a.tmps from by simp [Array.setIfInBounds, hd], show a.tmps.setIfInBounds d v' = a.tmps from by simp [Array.setIfInBounds, hd]]

/-- **A row that only reads may be taken together**, if it gives the same state in every world that meets S. -/
theorem wpAnyS_row (hT : tailB md ops N = true) (hsel : Region.noSelect ops = true) (hQ : ∀ c a (d : Option Tmp) v w, Q (.panic c) (a.put d v) w → Q (.panic c) a w) {b : Act} {w : World} (hS : S w) :
    ∀ (l : List Nat) (fuel : Nat) (listed : Array Bool) (a : Act) (sz : Nat), a.tmps.size = sz → noTail N listed → closedL md ops listed → takeB md ops N sz listed l = true →
      (∀ w', S w' → rowWp P ops b l a w') →
      wpAnyS P md ops Q S N fuel (markAll listed l) b w → wpAnyS P md ops Q S N (fuel + l.length) listed a w
  | [], fuel, listed, a, _, _, _, _, _, H, h => by rw [show a = b from H w hS]; exact h
  | i :: rest, fuel, listed, a, sz, hsz, hno, hcl, hB, H, h => by
    simp only [takeB, Bool.and_eq_true, decide_eq_true_eq] at hB
    obtain ⟨⟨⟨⟨hiN, hfree⟩, hready⟩, hdst⟩, hB⟩ := hB
    obtain ⟨o, ho, h1⟩ := H w hS
    rw [ho] at hdst
    simp only [Option.any_some] at hdst
    cases hd : o.dst with
    | none => rw [hd] at hdst; cases hdst
    | some d =>
    rw [hd] at hdst
    simp only [Bool.and_eq_true, decide_eq_true_eq] at hdst
    obtain ⟨hdl0, hdst⟩ := hdst
    have hne : ∀ j ∈ rest, ∀ u, ops[j]? = some u → u.dst ≠ some d := fun j hj u hu => by
      have := List.all_eq_true.1 hdst j hj
      rw [hu] at this
      simpa using this
    have ready : i ∈ Region.ready md ops listed := by simpa using hready
    -- the value is the same in every world that meets S
    have key : ∃ v, YieldsIf P ops S o v a ∧ ∀ w', S w' → rowWp P ops b rest (a.put o.dst v) w' := by
      by_cases hw : Region.wanted o (yielded ops a.tmps) = true
      · rw [if_pos hw] at h1
        unfold Oper.valWp at h1
        split at h1
        · rename_i v w1 hr
          refine ⟨(a.put (some d) v).tmps.getD d v, ?_⟩
          have hall : ∀ w', S w' → ∃ v', (execOp a.eval o).run P w' = .ok (.value v') w' ∧ rowWp P ops b rest (a.put o.dst v') w' := fun w' hS' => by
            obtain ⟨o', ho', h2⟩ := H w' hS'
            obtain rfl : o' = o := Option.some.inj (ho'.symm.trans ho)
            rw [if_pos hw] at h2
            unfold Oper.valWp at h2
            split at h2
            · rename_i v' w2 hr'
              obtain ⟨rfl, h2⟩ := h2
              exact ⟨v', hr', h2⟩
            · exact h2.elim
          by_cases hdl : d < a.tmps.size
          · have e0 : (a.put (some d) v).tmps.getD d v = v := by simp [Act.put, hdl]
            rw [e0]
            have hv : ∀ w', S w' → (execOp a.eval o).run P w' = .ok (.value v) w' ∧ rowWp P ops b rest (a.put o.dst v) w' := fun w' hS' => by
              obtain ⟨v', hr', h2⟩ := hall w' hS'
              have k1 := rowWp_keeps rest _ hne h2
              have k2 := rowWp_keeps rest _ hne h1.2
              rw [hd] at k1 k2
              have : v' = v := by
                simp only [Act.put] at k1 k2
                rw [Array.getElem?_setIfInBounds_self_of_lt hdl] at k1 k2
                exact Option.some.inj (k1.symm.trans k2)
              subst this
              exact ⟨hr', h2⟩
            exact ⟨.inl ⟨hw, fun w' hS' => (hv w' hS').1⟩, fun w' hS' => (hv w' hS').2⟩
          · -- no such place: not met
            exfalso
            exact hdl (by rw [hsz]; exact hdl0)
        · exact h1.elim
      · rw [if_neg hw] at h1
        refine ⟨undef, .inr ⟨by simpa using hw, rfl⟩, fun w' hS' => ?_⟩
        obtain ⟨o', ho', h2⟩ := H w' hS'
        obtain rfl : o' = o := Option.some.inj (ho'.symm.trans ho)
        rw [if_neg hw] at h2
        exact h2
    obtain ⟨v, hy, H'⟩ := key
    rw [show fuel + (i :: rest).length = (fuel + rest.length) + 1 from by simp only [List.length_cons]; omega]
    exact wpAnyS_first ho hiN hT (Region.noSelect_spec hsel) (fun c a w => hQ c a _ _ w) _ listed a w hno hcl (Region.free_spec ho hfree) ready hy hS
      (wpAnyS_row hT hsel hQ hS rest fuel _ _ sz (by rw [← hsz]; simp only [Act.put]; split <;> simp) (noTail_set hno hiN) (closedL_set hcl ready) hB H' h)

/-- 'closedL', to be decided. -/
def closedB (md : Region.Mode) (ops : Array Oper) (listed : Array Bool) : Bool :=
  (List.range ops.size).all fun j => !listed.getD j false || (match ops[j]? with | some o => o.after.all fun e => !Region.binds md e || listed.getD e.on false | none => true)
theorem closedB_spec {listed : Array Bool} (h : closedB md ops listed = true) : closedL md ops listed := by
  intro j o hj hl e he hb
  have := List.all_eq_true.1 h j (List.mem_range.2 (Array.getElem?_eq_some_iff.1 hj).1)
  rw [hj, hl] at this
  simp only [Bool.not_true, Bool.false_or] at this
  have := (Array.all_eq_true_iff_forall_mem.1 this) e he
  rw [hb] at this
  simpa using this
/-! ### The moves -/
/-- The beginning. -/
theorem drawn_start {id : Nat} {a : Act} {w : World} (N : Nat) (S : World → Prop) (hm : P.follows .mixedOrders = true)
    (h : wpAnyS P .any ops Q S N ops.size (Array.replicate ops.size false) a w.drew) : (Code.region id ops true).wp P Q a w :=
  wp_region_any hm (wpAny_of_S _ _ _ _ h)
/-- A row that only reads. -/
theorem drawn_row (l : List Nat) (b : Act) {fuel : Nat} {listed : Array Bool} {a : Act} {w : World} {sz : Nat} (hsz : a.tmps.size = sz)
    (hT : (tailB md ops N && Region.noSelect ops && ((List.range (listed.size - N)).all fun i => !listed.getD (N + i) false) && closedB md ops listed && takeB md ops N sz listed l) = true)
    (hQ : ∀ c a (d : Option Tmp) v w, Q (.panic c) (a.put d v) w → Q (.panic c) a w) (hS : S w)
    (H : ∀ w', S w' → rowWp P ops b l a w')
    (h : wpAnyS P md ops Q S N fuel (markAll listed l) b w) : wpAnyS P md ops Q S N (fuel + l.length) listed a w := by
  simp only [Bool.and_eq_true] at hT
  obtain ⟨⟨⟨⟨h1, h2⟩, h3⟩, h3c⟩, h4⟩ := hT
  refine wpAnyS_row h1 h2 hQ hS l fuel listed a sz hsz ?_ (closedB_spec h3c) h4 H h
  intro t ht
  by_cases hlt : t < listed.size
  · have := List.all_eq_true.1 h3 (t - N) (List.mem_range.2 (by omega))
    rw [show N + (t - N) = t from by omega] at this
    simpa using this
  · simp [Array.getElem?_eq_none (Nat.le_of_not_lt hlt)]
/-- The one operation that may come up now, below N. -/
theorem drawn_one (i : Nat) {o : Oper} {fuel : Nat} {listed : Array Bool} {a : Act} {w : World} (ho : ops[i]? = some o) (hr : Region.ready md ops listed = [i])
    (h : wpList P ops (Exit.then (fun a' w' => S w' ∧ wpAnyS P md ops Q S N fuel (listed.setIfInBounds i true) a' w') Q) [o] a w) : wpAnyS P md ops Q S N (fuel + 1) listed a w := by
  refine ⟨fun h0 => (by rw [h0] at hr; cases hr), fun j hj => ?_⟩
  rw [hr] at hj
  obtain rfl : j = i := by simpa using hj
  unfold wpOp
  simp only [ho]
  unfold wpList at h
  split
  · rename_i hw
    rw [if_pos hw] at h
    rcases h with h | ⟨ha, a', w', hl⟩
    · exact .inl (by
        revert h
        unfold Oper.wp
        generalize (execOp a.eval o).run P w = r
        intro h
        cases r with
        | ok n w' =>
          cases n <;> simp only [Oper.upon] at h ⊢
          case value v => exact ⟨.inr h.1, h.2⟩
          case skip => exact ⟨.inr h.1, h.2⟩
          case defer d => exact ⟨.inr h.1, h.2⟩
          case enter f args =>
            refine Calls.mono h (fun e w'' he => ?_)
            cases e with
            | returned v => exact ⟨.inr he.1, he.2⟩
            | panicked c => exact he
            | outgrown => exact he
          case row row args => exact Rows.mono h (fun v w'' he => ⟨.inr he.1, he.2⟩)
        | halt x w' => cases x <;> simp only [Oper.upon] at h ⊢ <;> exact h)
    · exact .inr ⟨ha, a', w', hl⟩
  · rename_i hw
    rw [if_neg hw] at h
    exact ⟨.inr h.1, h.2⟩
/-- The last row, forced. -/
def forcedB (md : Region.Mode) (ops : Array Oper) : Array Bool → List Nat → Bool
  | listed, [] => (Region.ready md ops listed).isEmpty
  | listed, i :: rest => (Region.ready md ops listed == [i]) && forcedB md ops (listed.setIfInBounds i true) rest
theorem drawn_tail_go : ∀ (l : List Nat) (listed : Array Bool) (a : Act) (w : World), (∀ i ∈ l, N ≤ i) → forcedB md ops listed l = true →
    wpOps P ops Q l a w → wpAnyS P md ops Q S N l.length listed a w
  | [], listed, a, w, _, hB, h => ⟨by simpa [forcedB] using hB, h⟩
  | i :: rest, listed, a, w, hN, hB, h => by
    simp only [forcedB, Bool.and_eq_true, beq_iff_eq] at hB
    refine ⟨fun h0 => (by rw [h0] at hB; cases hB.1), fun j hj => ?_⟩
    rw [hB.1] at hj
    obtain rfl : j = i := by simpa using hj
    rw [wpOps_cons] at h
    exact wpOp_mono (fun a' w' h' => ⟨.inl (hN j (List.mem_cons_self ..)), drawn_tail_go rest _ a' w' (fun k hk => hN k (List.mem_cons_of_mem _ hk)) hB.2 h'⟩) h
theorem drawn_tail {ol : List Oper} {listed : Array Bool} {a : Act} {w : World} (hol : ops.toList.drop N = ol) (hB : forcedB md ops listed (List.range' N ol.length) = true)
    (h : wpList P ops Q ol a w) : wpAnyS P md ops Q S N ol.length listed a w := by
  have := drawn_tail_go (P := P) (Q := Q) (S := S) (N := N) (md := md) (ops := ops) (List.range' N ol.length) listed a w (fun i hi => by have := List.mem_range'_1.1 hi; omega) hB
    (by rw [wpOps_eq_wpList ol N (fun j => by rw [← hol, List.getElem?_drop]; simp)]; exact h)
  simpa using this
end

section
variable {P : Program} {ops : Array Oper} {Q : Exit → Act → World → Prop} {S : World → Prop} {N : Nat}
/-- Q, but never at a panic. -/
def NoP (Q : Exit → Act → World → Prop) : Exit → Act → World → Prop
  | .panic _, _, _ => False
  | e, a, w => Q e a w
theorem NoP.imp : ∀ (e : Exit) (a : Act) (w : World), NoP Q e a w → Q e a w := fun e a w h => by
  cases e <;> first | exact h | exact (h : False).elim
theorem NoP.still : ∀ c a (d : Option Tmp) v w, NoP Q (.panic c) (a.put d v) w → NoP Q (.panic c) a w := fun _ _ _ _ _ h => h
/-- A row that only reads, and what is asked of its end. -/
def rowK (P : Program) (ops : Array Oper) (E : Act → Prop) : List Nat → Act → World → Prop
  | [], a, _ => E a
  | i :: rest, a, w => ∃ o, ops[i]? = some o ∧ if Region.wanted o (yielded ops a.tmps) = true then o.valWp P a w (fun a' => rowK P ops E rest a' w) else rowK P ops E rest (a.put o.dst undef) w
theorem rowK_step {E : Act → Prop} {i : Nat} {rest : List Nat} {a : Act} {w : World} {o : Oper} (ho : ops[i]? = some o)
    (h : ∀ K : Act → Prop, (∀ a', rowK P ops E rest a' w → K a') → if Region.wanted o (yielded ops a.tmps) = true then o.valWp P a w K else K (a.put o.dst undef)) :
    rowK P ops E (i :: rest) a w := ⟨o, ho, h _ (fun _ h => h)⟩
/-- An operation that reckons a value, by itself. -/
def plainV : Op → Bool
  | .move _ | .assign _ | .load .. | .binOp .. | .unOp .. | .convert .. | .fieldAddr .. | .field .. | .indexAddr .. | .index .. | .extract .. | .build .. | .slice .. | .lookup .. => true
  | _ => false
theorem valWp_of_wp {o : Oper} {a : Act} {w : World} {K : Act → World → Prop} {K' : Act → Prop} (hp : plainV o.op = true) (hw : o.wp P a w K (fun _ _ _ => False)) (hK : ∀ a' w', K a' w' → w' = w ∧ K' a') : o.valWp P a w K' := by
  obtain ⟨dst, op, ty, pos, aft, gd⟩ := o
  have key : ∀ (s : Sem Value), (∀ x, execOp a.eval { dst := dst, op := op, type := ty, pos := pos, after := aft, guard := gd } = x → x = (do pure (Next.value (← s)))) →
      Oper.valWp P { dst := dst, op := op, type := ty, pos := pos, after := aft, guard := gd } a w K' := fun s hs => by
    unfold Oper.wp at hw
    unfold Oper.valWp
    rw [hs _ rfl] at hw ⊢
    rw [Sem.run_bind] at hw ⊢
    cases hr : s.run P w with
    | ok v w' => rw [hr] at hw; exact hK _ _ hw
    | halt h w' => rw [hr] at hw; cases h <;> exact hw.elim
  cases op <;> first | cases hp | skip
  all_goals first
    | exact key (pure _) (fun x hx => by rw [← hx]; rfl)
    | exact key _ (fun x hx => hx.symm)
theorem rowK_step2 {E : Act → Prop} {i : Nat} {rest : List Nat} {a : Act} {w : World} {o : Oper} (ho : ops[i]? = some o) (hp : (plainV o.op && o.guard.isNone) = true)
    (h : ∀ K : Act → World → Prop, (∀ a', rowK P ops E rest a' w → K a' w) → o.wp P a w K (fun _ _ _ => False)) : rowK P ops E (i :: rest) a w := by
  rw [Bool.and_eq_true] at hp
  refine ⟨o, ho, ?_⟩
  have hg : Region.wanted o (yielded ops a.tmps) = true := by
    unfold Region.wanted
    cases hgd : o.guard with
    | none => rfl
    | some g => rw [hgd] at hp; cases hp.2
  rw [if_pos hg]
  exact valWp_of_wp hp.1 (h (fun a' w' => w' = w ∧ rowK P ops E rest a' w) (fun a' ha => ⟨rfl, ha⟩)) (fun _ _ h => h)
theorem rowWp_step2 {b : Act} {i : Nat} {rest : List Nat} {a : Act} {w : World} {o : Oper} (ho : ops[i]? = some o) (hp : (plainV o.op && o.guard.isNone) = true)
    (h : ∀ K : Act → World → Prop, (∀ a', rowWp P ops b rest a' w → K a' w) → o.wp P a w K (fun _ _ _ => False)) : rowWp P ops b (i :: rest) a w := by
  rw [Bool.and_eq_true] at hp
  refine ⟨o, ho, ?_⟩
  have hg : Region.wanted o (yielded ops a.tmps) = true := by
    unfold Region.wanted
    cases hgd : o.guard with
    | none => rfl
    | some g => rw [hgd] at hp; cases hp.2
  rw [if_pos hg]
  exact valWp_of_wp hp.1 (h (fun a' w' => w' = w ∧ rowWp P ops b rest a' w) (fun a' ha => ⟨rfl, ha⟩)) (fun _ _ h => h)
theorem rowK_nil {E : Act → Prop} {a : Act} {w : World} (h : E a) : rowK P ops E [] a w := h
theorem rowK_out {E : Act → Prop} {w : World} : ∀ {l : List Nat} {a : Act}, rowK P ops E l a w → ∃ b, rowWp P ops b l a w ∧ E b
  | [], a, h => ⟨a, rfl, h⟩
  | i :: rest, a, h => by
    obtain ⟨o, ho, h⟩ := h
    split at h
    · rename_i hw
      unfold Oper.valWp at h
      split at h
      · rename_i v w1 hr
        obtain ⟨rfl, h⟩ := h
        obtain ⟨b, h1, h2⟩ := rowK_out h
        exact ⟨b, ⟨o, ho, by rw [if_pos hw]; unfold Oper.valWp; rw [hr]; exact ⟨rfl, h1⟩⟩, h2⟩
      · exact h.elim
    · rename_i hw
      obtain ⟨b, h1, h2⟩ := rowK_out h
      exact ⟨b, ⟨o, ho, by rw [if_neg hw]; exact h1⟩, h2⟩
/-- The tail's last row. -/
def tailK (P : Program) (ops : Array Oper) (Q : Exit → Act → World → Prop) (ol : List Oper) (b : Act) (w : World) : Prop :=
  ∀ K : Act → World → Prop, (∀ a w, Q .normal a w → K a w) → wpList P ops (Exit.then K fun e a w => e = .outgrown ∧ Q e a w) ol b w
theorem wpList_imp {Q Q' : Exit → Act → World → Prop} (hq : ∀ e a w, Q e a w → Q' e a w) : ∀ (l : List Oper) (a : Act) (w : World), wpList P ops Q l a w → wpList P ops Q' l a w
  | [], a, w, h => hq _ _ _ h
  | o :: rest, a, w, h => by
    unfold wpList at *
    split
    · rename_i hw
      rw [if_pos hw] at h
      rcases h with h | ⟨ha, a', w', hl⟩
      · left
        revert h
        unfold Oper.wp
        generalize (execOp a.eval o).run P w = r
        intro h
        cases r with
        | ok n w' =>
          cases n <;> simp only [Oper.upon] at h ⊢
          case value v => exact wpList_imp hq rest _ _ h
          case skip => exact wpList_imp hq rest _ _ h
          case defer d => exact wpList_imp hq rest _ _ h
          case enter f args =>
            refine Calls.mono h (fun e w'' he => ?_)
            cases e with
            | returned v => exact wpList_imp hq rest _ _ he
            | panicked c => exact hq _ _ _ he
            | outgrown => exact (show LetsOut _ from let ⟨a, w, h⟩ := (he : LetsOut Q); ⟨a, w, hq _ _ _ h⟩)
          case row row args => exact Rows.mono h (fun v w'' he => wpList_imp hq rest _ _ he)
        | halt x w' => cases x <;> simp only [Oper.upon] at h ⊢; exact hq _ _ _ h
      · exact .inr ⟨ha, a', w', hq _ _ _ hl⟩
    · rename_i hw
      rw [if_neg hw] at h
      exact wpList_imp hq rest _ _ h
theorem tailK_out {ol : List Oper} {b : Act} {w : World} (h : tailK P ops Q ol b w) : wpList P ops (NoP Q) ol b w :=
  wpList_imp (fun e a w h => by
    cases e <;> first | exact h | exact h.2 | (exact absurd h.1 (by simp))) ol b w (h (fun a w => Q .normal a w) (fun _ _ h => h))
/-- THE USUAL REGION: its first N operations only read, what is left is forced. -/
def headB (ops : Array Oper) (N sz n : Nat) : Bool :=
  tailB .any ops N && Region.noSelect ops && ((List.range (ops.size - N)).all fun i => !(Array.replicate ops.size false).getD (N + i) false) && closedB .any ops (Array.replicate ops.size false) &&
  takeB .any ops N sz (Array.replicate ops.size false) (List.range N) && forcedB .any ops (markAll (Array.replicate ops.size false) (List.range N)) (List.range' N n) && decide (n + N = ops.size)
theorem drawn_head {id : Nat} {a : Act} {w : World} (N : Nat) {sz : Nat} {ol : List Oper} (hm : P.follows .mixedOrders = true) (hsz : a.tmps.size = sz)
    (hol : ops.toList.drop N = ol) (chk : headB ops N sz ol.length = true)
    (H : rowK P ops (fun b => tailK P ops Q ol b w.drew) (List.range N) a w.drew) : (Code.region id ops true).wp P Q a w := by
  simp only [headB, Bool.and_eq_true, decide_eq_true_eq] at chk
  obtain ⟨⟨⟨⟨⟨⟨h1, h2⟩, h3⟩, h3c⟩, h4⟩, h5⟩, h6⟩ := chk
  obtain ⟨b, H, T⟩ := rowK_out H
  refine Code.wp_mono NoP.imp (drawn_start N (fun w' => w' = w.drew) hm ?_)
  have := drawn_row (P := P) (Q := NoP Q) (md := .any) (S := fun w' => w' = w.drew) (N := N) (fuel := ol.length) (listed := Array.replicate ops.size false) (List.range N) b hsz
    (by simp only [Bool.and_eq_true]; exact ⟨⟨⟨⟨h1, h2⟩, by simpa using h3⟩, h3c⟩, h4⟩) NoP.still rfl (fun w' hw' => by subst hw'; exact H) (drawn_tail hol h5 (tailK_out T))
  rw [List.length_range, h6] at this
  exact this
/-- THE REGION WITH MORE THAN ONE WRITER: the beginning. -/
theorem drawn_begin {id : Nat} {a : Act} {w : World} (N : Nat) (S : World → Prop) (hm : P.follows .mixedOrders = true)
    (h : wpAnyS P .any ops (NoP Q) S N ops.size (Array.replicate ops.size false) a w.drew) : (Code.region id ops true).wp P Q a w :=
  Code.wp_mono NoP.imp (drawn_start N S hm h)
/-- .. a row that only reads, walked once for its end, once in whatever world meets S .. -/
theorem drawn_reads (l : List Nat) {fuel : Nat} {listed : Array Bool} {a : Act} {w : World} {sz : Nat} (hsz : a.tmps.size = sz)
    (hT : (tailB .any ops N && Region.noSelect ops && ((List.range (listed.size - N)).all fun i => !listed.getD (N + i) false) && closedB .any ops listed && takeB .any ops N sz listed l) = true)
    (hS : S w)
    (H : rowK P ops (fun b => (∀ w', S w' → rowWp P ops b l a w') ∧ wpAnyS P .any ops (NoP Q) S N fuel (markAll listed l) b w) l a w) :
    wpAnyS P .any ops (NoP Q) S N (fuel + l.length) listed a w := by
  obtain ⟨b, _, H, h⟩ := rowK_out H
  exact drawn_row l b hsz hT NoP.still hS H h
/-- .. the one that may come up now .. -/
theorem drawn_next (i : Nat) {o : Oper} {fuel : Nat} {listed : Array Bool} {a : Act} {w : World} (ho : ops[i]? = some o) (hr : Region.ready .any ops listed = [i])
    (h : ∀ K : Act → World → Prop, (∀ a' w', S w' ∧ wpAnyS P .any ops (NoP Q) S N fuel (listed.setIfInBounds i true) a' w' → K a' w') →
      wpList P ops (Exit.then K fun e a w => e = .outgrown ∧ Q e a w) [o] a w) : wpAnyS P .any ops (NoP Q) S N (fuel + 1) listed a w :=
  drawn_one i ho hr (wpList_imp (fun e a w h => by
    cases e <;> first | exact h | exact h.2 | (exact absurd h.1 (by simp))) _ _ _ (h _ (fun _ _ h => h)))
/-- .. two may come up now .. -/
theorem drawn_next2 (i j : Nat) {o u : Oper} {fuel : Nat} {listed : Array Bool} {a : Act} {w : World} (ho : ops[i]? = some o) (hu : ops[j]? = some u) (hr : Region.ready .any ops listed = [i, j])
    (h : ∀ K : Act → World → Prop, (∀ a' w', S w' ∧ wpAnyS P .any ops (NoP Q) S N fuel (listed.setIfInBounds i true) a' w' → K a' w') →
      wpList P ops (Exit.then K fun e a w => e = .outgrown ∧ Q e a w) [o] a w)
    (k : ∀ K : Act → World → Prop, (∀ a' w', S w' ∧ wpAnyS P .any ops (NoP Q) S N fuel (listed.setIfInBounds j true) a' w' → K a' w') →
      wpList P ops (Exit.then K fun e a w => e = .outgrown ∧ Q e a w) [u] a w) : wpAnyS P .any ops (NoP Q) S N (fuel + 1) listed a w := by
  have one : ∀ (i : Nat) (o : Oper), ops[i]? = some o →
      (∀ K : Act → World → Prop, (∀ a' w', S w' ∧ wpAnyS P .any ops (NoP Q) S N fuel (listed.setIfInBounds i true) a' w' → K a' w') →
      wpList P ops (Exit.then K fun e a w => e = .outgrown ∧ Q e a w) [o] a w) →
      wpOp P ops (NoP Q) i (fun a' w' => (N ≤ i ∨ S w') ∧ wpAnyS P .any ops (NoP Q) S N fuel (listed.setIfInBounds i true) a' w') a w := by
    intro i o ho h
    have h1 : wpList P ops (Exit.then (fun a' w' => (N ≤ i ∨ S w') ∧ wpAnyS P .any ops (NoP Q) S N fuel (listed.setIfInBounds i true) a' w') (NoP Q)) [o] a w :=
      wpList_imp (fun e a w h => by
        cases e <;> first | exact h | exact h.2 | (exact absurd h.1 (by simp))) _ _ _ (h (fun a' w' => (N ≤ i ∨ S w') ∧ wpAnyS P .any ops (NoP Q) S N fuel (listed.setIfInBounds i true) a' w') (fun _ _ h => ⟨.inr h.1, h.2⟩))
    unfold wpOp
    simp only [ho]
    unfold wpList at h1
    split
    · rename_i hw
      rw [if_pos hw] at h1
      rcases h1 with h1 | ⟨ha, a', w', hl⟩
      · left
        revert h1
        unfold Oper.wp
        generalize (execOp a.eval o).run P w = r
        intro h1
        cases r with
        | ok n w' =>
          cases n <;> simp only [Oper.upon] at h1 ⊢
          case value v => exact h1
          case skip => exact h1
          case defer d => exact h1
          case enter f args =>
            refine Calls.mono h1 (fun e w'' he => ?_)
            cases e <;> exact he
          case row row args => exact Rows.mono h1 (fun v w'' he => he)
        | halt x w' => cases x <;> simp only [Oper.upon] at h1 ⊢ <;> exact h1
      · exact .inr ⟨ha, a', w', hl⟩
    · rename_i hw
      rw [if_neg hw] at h1
      exact h1
  refine ⟨fun h0 => (by rw [h0] at hr; cases hr), fun l hl => ?_⟩
  rw [hr] at hl
  rcases List.mem_cons.1 hl with rfl | hl
  · exact one _ _ ho h
  · obtain rfl : l = j := by simpa using hl
    exact one _ _ hu k
/-- .. the last row. -/
theorem drawn_end {ol : List Oper} {listed : Array Bool} {a : Act} {w : World} (hol : ops.toList.drop N = ol) (hB : forcedB .any ops listed (List.range' N ol.length) = true)
    (h : tailK P ops Q ol a w) : wpAnyS P .any ops (NoP Q) S N ol.length listed a w := drawn_tail hol hB (tailK_out h)
end

attribute [go_sem] Oper.valWp
end Go.Dr
namespace Go

/-- The world with another thing in block b. -/
def World.put (w : World) (b : Nat) (o : Obj) : World := { w with heap := w.heap.setIfInBounds b o }

/-- What stands in block b. -/
def World.blk (w : World) (b : Nat) : Option Obj := w.heap[b]?

theorem World.at_lt {w : World} {b : Nat} {o : Obj} (h : w.blk b = some o) : b < w.heap.size :=
  (Array.getElem?_eq_some_iff.1 h).1

theorem World.cell?_at (w : World) (b j : Nat) : w.cell? ⟨b, j, none⟩ = match w.blk b with | some (.cells c _ _) => c[j]? | _ => none := by
  simp only [World.cell?, World.blk]; rfl

theorem World.frozen?_at (w : World) (b j : Nat) : w.frozen? ⟨b, j, none⟩ = match w.blk b with | some (.cells _ _ (lo, hi)) => lo ≤ j && j < hi | _ => false := by
  simp only [World.frozen?, World.blk]; rfl

theorem World.at_drew (w : World) (b : Nat) : w.drew.blk b = w.blk b := rfl
theorem World.put_drew (w : World) (b : Nat) (o : Obj) : w.drew.put b o = (w.put b o).drew := rfl

theorem World.at_alloc (w : World) (o : Obj) (b : Nat) : (w.alloc o).blk b = if b = w.heap.size then some o else w.blk b := by
  simp only [World.blk, World.alloc, Array.getElem?_push]

theorem World.at_alloc_new (w : World) (o : Obj) (b : Nat) (h : b = w.heap.size) : (w.alloc o).blk b = some o := by
  rw [World.at_alloc, if_pos h]
theorem World.at_alloc_lt (w : World) (o : Obj) (b : Nat) (h : b < w.heap.size) : (w.alloc o).blk b = w.blk b := by
  rw [World.at_alloc, if_neg (by omega)]

theorem World.at_put_same (w : World) (b : Nat) (o : Obj) (h : b < w.heap.size) : (w.put b o).blk b = some o := by
  simp only [World.blk, World.put]
  rw [Array.getElem?_setIfInBounds_self_of_lt h]
theorem World.at_put_other (w : World) (b c : Nat) (o : Obj) (h : b ≠ c) : (w.put b o).blk c = w.blk c := by
  simp only [World.blk, World.put]
  rw [Array.getElem?_setIfInBounds_ne h]
@[simp] theorem World.size_put (w : World) (b : Nat) (o : Obj) : (w.put b o).heap.size = w.heap.size := by simp [World.put]
theorem World.put_put (w : World) (b : Nat) (o o' : Obj) : (w.put b o).put b o' = w.put b o' := by simp [World.put]
theorem World.put_put_ne (w : World) (b c : Nat) (o o' : Obj) (h : b ≠ c) : (w.put b o).put c o' = (w.put c o').put b o := by
  simp only [World.put, Array.setIfInBounds_comm _ _ h]
theorem World.put_alloc_new (w : World) (o o' : Obj) (b : Nat) (h : b = w.heap.size) : (w.alloc o).put b o' = w.alloc o' := by
  subst h
  simp only [World.put, World.alloc]
  congr 1
  apply Array.ext_getElem?
  intro i
  rw [Array.getElem?_setIfInBounds, Array.getElem?_push, Array.getElem?_push]
  by_cases hi : i = w.heap.size
  · subst hi; simp
  · rw [if_neg hi, if_neg (fun h => hi h.symm)]; simp [hi]
theorem World.put_alloc_lt (w : World) (o o' : Obj) (b : Nat) (h : b < w.heap.size) : (w.alloc o).put b o' = (w.put b o').alloc o := by
  simp only [World.put, World.alloc]
  congr 1
  apply Array.ext_getElem?
  intro i
  rw [Array.getElem?_setIfInBounds, Array.getElem?_push, Array.getElem?_push, Array.getElem?_setIfInBounds]
  by_cases hi : b = i
  · subst hi; simp only [↓reduceIte, Array.size_push, Array.size_setIfInBounds]; rw [if_pos (by omega), if_neg (by omega), if_pos h]
  · rw [if_neg hi, if_neg hi]; simp
theorem World.put_same (w : World) (b : Nat) (o : Obj) (h : w.blk b = some o) : w.put b o = w := by
  obtain ⟨hlt, h2⟩ := Array.getElem?_eq_some_iff.1 h
  have : w.heap.setIfInBounds b o = w.heap := by
    apply Array.ext_getElem?
    intro i
    rw [Array.getElem?_setIfInBounds]
    split
    · subst_vars; simp [hlt]
    · rfl
  simp [World.put, this]

theorem World.setCell_at (w : World) (b j : Nat) (v : Value) :
    w.setCell ⟨b, j, none⟩ v = match w.blk b with | some (.cells c t f) => w.put b (.cells (c.setIfInBounds j v) t f) | _ => w := by
  cases h : w.heap[b]? with
  | none =>
    have : ∀ f, w.heap.modify b f = w.heap := fun f => by
      apply Array.ext_getElem?
      intro i
      rw [Array.getElem?_modify]
      split
      · subst_vars; simp [h]
      · rfl
    simp [World.setCell, World.blk, h, this]
  | some o =>
    have hlt : b < w.heap.size := (Array.getElem?_eq_some_iff.1 h).1
    have ho : w.heap[b] = o := (Array.getElem?_eq_some_iff.1 h).2
    have hm : ∀ f, w.heap.modify b f = w.heap.setIfInBounds b (f o) := fun f => by
      apply Array.ext_getElem?
      intro i
      rw [Array.getElem?_modify, Array.getElem?_setIfInBounds]
      split
      · subst_vars; simp [hlt]
      · rfl
    have hid : w.put b o = w := World.put_same w b o h
    have hid' : { w with heap := w.heap.setIfInBounds b o } = w := hid
    simp only [World.setCell, World.blk, h, hm]
    cases o <;> first | exact hid' | simp [World.put]

/-- Do n cells stand in block b from o on? -/
def World.fits (w : World) (b o n : Nat) : Bool := match w.blk b with | some (.cells c _ _) => decide (o + n ≤ c.size) | _ => false
/-- May they be written? -/
def World.okw (w : World) (b o n : Nat) : Bool := match w.blk b with | some (.cells c _ (lo, hi)) => decide (o + n ≤ c.size) && (decide (hi ≤ o) || decide (o + n ≤ lo) || decide (hi ≤ lo)) | _ => false
/-- The n cells in block b from o on. -/
def World.cellsAt (w : World) (b o n : Nat) : Array Value := match w.blk b with | some (.cells c _ _) => c.extract o (o + n) | _ => #[]
/-- A row of cells with others laid over it from o on. -/
def spl (c : Array Value) (o : Nat) (xs : List Value) : Array Value := c.extract 0 o ++ xs.toArray ++ c.extract (o + xs.length) c.size
/-- The thing that stands in b, with cells laid over it. -/
def World.over (w : World) (b o : Nat) (xs : List Value) : World := match w.blk b with | some (.cells c t f) => w.put b (.cells (spl c o xs) t f) | _ => w
/-- All are one cell each. -/
def ones (xs : List Value) : Bool := xs.all (·.oneCell')

theorem size_spl (c : Array Value) (o : Nat) (xs : List Value) (h : o + xs.length ≤ c.size) : (spl c o xs).size = c.size := by
  simp only [spl, Array.size_append, Array.size_extract, List.size_toArray]; omega
theorem getElem?_spl (c : Array Value) (o : Nat) (xs : List Value) (h : o + xs.length ≤ c.size) (j : Nat) :
    (spl c o xs)[j]? = if j < o then c[j]? else if j < o + xs.length then xs[j - o]? else c[j]? := by
  have hsz := size_spl c o xs h
  have e0 : (c.extract 0 o).size = o := by simp only [Array.size_extract]; omega
  by_cases h1 : j < o
  · rw [if_pos h1]
    simp only [spl, Array.append_assoc]
    rw [Array.getElem?_append_left (by omega)]
    rw [Array.getElem?_extract_of_lt (by simp only [Array.size_extract] at e0; omega)]
    simp
  · rw [if_neg h1]
    simp only [spl, Array.append_assoc]
    rw [Array.getElem?_append_right (by omega), e0]
    by_cases h2 : j < o + xs.length
    · rw [if_pos h2, Array.getElem?_append_left (by simp only [List.size_toArray]; omega)]
      simp
    · rw [if_neg h2, Array.getElem?_append_right (by simp only [List.size_toArray]; omega)]
      simp only [List.size_toArray]
      by_cases h3 : j < c.size
      · rw [Array.getElem?_extract_of_lt (by omega)]
        have e : o + xs.length + (j - o - xs.length) = j := by omega
        rw [Array.getElem?_eq_getElem h3]
        simp only [e]
      · rw [Array.getElem?_eq_none (by simp only [Array.size_extract]; omega), Array.getElem?_eq_none (by omega)]

section
variable {P : Program}
theorem run_loadCells_at (w : World) (b o n : Nat) (h : w.fits b o n = true) : (loadCells ⟨b, o, none⟩ n).run P w = .ok (w.cellsAt b o n) w := by
  unfold World.fits at h
  split at h
  · rename_i c t f hb
    have hle : o + n ≤ c.size := by simpa using h
    have hs : (c.extract o (o + n)).toList.length = n := by simp only [Array.length_toList, Array.size_extract]; omega
    have := run_loadCells_list (P := P) w ⟨b, o, none⟩ (c.extract o (o + n)).toList (fun j v hv => by
      rw [Addr.add_mid, World.cell?_at, hb]
      have hj : j < n := by have := (List.getElem?_eq_some_iff.1 hv).1; omega
      rw [Array.getElem?_toList, Array.getElem?_extract_of_lt (by omega)] at hv
      show c[o + j]? = some v
      rw [Array.getElem?_eq_getElem (by omega)]
      exact hv)
    rw [hs] at this
    rw [this]
    simp only [World.cellsAt, hb, Array.toArray_toList]
  · cases h

theorem run_storeCells_over (w : World) (b o : Nat) (vs : List Value) (h : w.okw b o vs.length = true) (h1 : ones vs = true) :
    (storeCells ⟨b, o, none⟩ vs).run P w = .ok () (w.over b o vs) := by
  unfold World.okw at h
  split at h
  · rename_i c t lo hi hb
    simp only [Bool.and_eq_true, Bool.or_eq_true, decide_eq_true_eq] at h
    obtain ⟨hle, hfr⟩ := h
    have := run_storeCells_cells (P := P) b o vs 0 w (fun j hj => by rw [World.cell?_at, hb]; simp; omega)
      (fun j hj => by rw [World.frozen?_at, hb]; simp; omega)
      (fun v hv => (List.all_eq_true.1 h1) v hv)
    rw [this]
    congr 1
    simp only [World.over, hb, Nat.add_zero]
    clear this h1
    -- the cells one by one are the cells laid over
    suffices H : ∀ (vs : List Value) (o : Nat) (w : World) (c : Array Value), w.blk b = some (.cells c t (lo, hi)) → o + vs.length ≤ c.size →
        w.setCells b o vs = w.put b (.cells (spl c o vs) t (lo, hi)) from H vs o w c hb hle
    intro vs
    induction vs with
    | nil =>
      intro o w c hb hle
      have : spl c o [] = c := by
        apply Array.ext_getElem?
        intro i
        rw [getElem?_spl c o [] hle]
        simp only [List.length_nil, Nat.add_zero]
        split
        · rfl
        · rfl
      rw [World.setCells, this, World.put_same _ _ _ hb]
    | cons v r ih =>
      intro o w c hb hle
      simp only [List.length_cons] at hle
      have hlt := World.at_lt hb
      rw [World.setCells, World.setCell_at, hb]
      simp only []
      rw [ih (o + 1) _ (c.setIfInBounds o v) (World.at_put_same _ _ _ hlt) (by simp only [Array.size_setIfInBounds]; omega), World.put_put]
      congr 2
      apply Array.ext_getElem?
      intro i
      rw [getElem?_spl _ _ _ (by simp only [Array.size_setIfInBounds]; omega), getElem?_spl c o (v :: r) (by simp only [List.length_cons]; omega)]
      simp only [List.length_cons]
      by_cases e1 : i < o
      · rw [if_pos (by omega), if_pos e1, Array.getElem?_setIfInBounds_ne (by omega)]
      · rw [if_neg e1]
        by_cases e2 : i = o
        · subst e2
          rw [if_pos (by omega), if_pos (by omega), Array.getElem?_setIfInBounds_self_of_lt (by omega)]
          simp
        · rw [if_neg (by omega)]
          by_cases e3 : i < o + (r.length + 1)
          · rw [if_pos (by omega), if_pos e3]
            rw [show i - o = (i - (o + 1)) + 1 from by omega, List.getElem?_cons_succ]
          · rw [if_neg (by omega), if_neg e3, Array.getElem?_setIfInBounds_ne (by omega)]
  · cases h

end

/-! ### The walk's own words for a load, a store of whole rows: not to be opened cell by cell -/
def loadCellsK (a : Addr) (n : Nat) : Sem (Array Value) := loadCells a n
def storeCellsK (a : Addr) (vs : List Value) : Sem Unit := storeCells a vs
def loadVarK (t : TypeId) (a : Addr) : Sem Value := loadVar t a
def storeVarK (t : TypeId) (a : Addr) (v : Value) : Sem Unit := storeVar t a v
theorem loadCells_K (a : Addr) (n : Nat) : loadCells a n = loadCellsK a n := rfl
theorem storeCells_K (a : Addr) (vs : List Value) : storeCells a vs 0 = storeCellsK a vs := rfl
theorem loadVar_K (t : TypeId) (a : Addr) : loadVar t a = loadVarK t a := rfl
theorem storeVar_K (t : TypeId) (a : Addr) (v : Value) : storeVar t a v = storeVarK t a v := rfl
section
variable {P : Program}
/-- A load, a store that no law has run. -/
def loadLeft (P : Program) (a : Addr) (n : Nat) (w : World) : Result (Array Value) := (loadCells a n).run P w
def storeLeft (P : Program) (a : Addr) (vs : List Value) (w : World) : Result Unit := (storeCells a vs).run P w
def loadOneLeft (P : Program) (a : Addr) (w : World) : Result Value := (load a).run P w
theorem run_loadCellsK (w : World) (b o n : Nat) :
    (loadCellsK ⟨b, o, none⟩ n).run P w = if w.fits b o n = true then .ok (w.cellsAt b o n) w else loadLeft P ⟨b, o, none⟩ n w := by
  unfold loadCellsK
  split
  · rename_i h; exact run_loadCells_at w b o n h
  · rfl
theorem run_storeCellsK (w : World) (b o : Nat) (vs : List Value) :
    (storeCellsK ⟨b, o, none⟩ vs).run P w = if (w.okw b o vs.length && ones vs) = true then .ok () (w.over b o vs) else storeLeft P ⟨b, o, none⟩ vs w := by
  unfold storeCellsK
  split
  · rename_i h; rw [Bool.and_eq_true] at h; exact run_storeCells_over w b o vs h.1 h.2
  · rfl
theorem run_loadVarK (w : World) (t : TypeId) (b o : Nat) :
    (loadVarK t ⟨b, o, none⟩).run P w = ((isAgg t).run P w).andThen fun g w1 =>
      if g = true then ((sizeOf t).run P w1).andThen fun n w2 => ((loadCellsK ⟨b, o, none⟩ n).run P w2).andThen fun cs w3 => .ok (.agg cs) w3
      else match w1.blk b with
        | some (.cells c _ _) => match c[o]? with
          | some v => .ok v w1
          | none => loadOneLeft P ⟨b, o, none⟩ w1
        | _ => loadOneLeft P ⟨b, o, none⟩ w1 := by
  simp only [loadVarK, loadVar, Sem.run_bind]
  congr 1
  funext g w1
  cases g
  · simp only [Bool.false_eq_true, ↓reduceIte]
    unfold loadOneLeft
    split
    · rename_i c t f hb
      split
      · rename_i v hv
        simp [load, Sem.run, World.cell?_at, hb, hv]
      · rfl
    · rfl
  · simp only [↓reduceIte, Sem.run_bind, Sem.run_pure]; rfl
theorem run_storeVarK (w : World) (t : TypeId) (b o : Nat) (v : Value) :
    (storeVarK t ⟨b, o, none⟩ v).run P w = ((sizeOf t).run P w).andThen fun n w1 =>
      if v.cells.size = n then (storeCellsK ⟨b, o, none⟩ v.cells.toList).run P w1 else .halt (.stuck "storeVar: the value has not the size of the variable") w1 := by
  simp only [storeVarK, storeVar, Sem.run_bind]
  congr 1
  funext n w1
  by_cases h : v.cells.size = n
  · simp [h, storeCellsK]
  · simp [h, stuck, Sem.run, Result.andThen]
end
theorem spl_one (c : Array Value) (o : Nat) (v : Value) (h : o < c.size) : spl c o [v] = c.setIfInBounds o v := by
  apply Array.ext_getElem?
  intro i
  rw [getElem?_spl _ _ _ (by simp; omega), Array.getElem?_setIfInBounds]
  simp only [List.length_cons, List.length_nil, Nat.zero_add]
  by_cases h1 : i < o
  · rw [if_pos h1, if_neg (by omega)]
  · rw [if_neg h1]
    by_cases h2 : o = i
    · subst h2; rw [if_pos (by omega), if_pos rfl, if_pos h]; simp
    · rw [if_neg (by omega), if_neg h2]
theorem spl_cons (x : Value) (l : List Value) (o : Nat) (ys : List Value) : spl (x :: l).toArray (o + 1) ys = (x :: (spl l.toArray o ys).toList).toArray := by
  apply Array.ext'
  simp [spl, List.extract_eq_take_drop, Nat.add_right_comm o 1]
theorem extract_spl (c : Array Value) (o : Nat) (xs : List Value) (k : Nat) (h : o + xs.length ≤ c.size) (hk : k = o + xs.length) : (spl c o xs).extract o k = xs.toArray := by
  subst hk
  apply Array.ext_getElem?
  intro i
  have hs := size_spl c o xs h
  by_cases hi : i < xs.length
  · rw [Array.getElem?_extract_of_lt (by omega)]
    have h2 := getElem?_spl c o xs h (o + i)
    rw [if_neg (by omega), if_pos (by omega), show o + i - o = i from by omega] at h2
    rw [← Array.getElem?_eq_getElem, h2]
    simp
  · rw [Array.getElem?_eq_none (by simp only [Array.size_extract]; omega), Array.getElem?_eq_none (by simp; omega)]
theorem spl_all (c : Array Value) (xs : List Value) (h : xs.length = c.size) : spl c 0 xs = xs.toArray := by
  simp [spl, h]

theorem run_copy_slices {P : Program} (w : World) (dT sT ty : TypeId) (d s : Addr) (dl dc sl sc : Nat) (h : P.underlying dT = some (.slice (P.elem dT))) :
    (Builtin.copy_ #[dT, sT] ty #[.slice (some d) dl dc, .slice (some s) sl sc]).run P w =
      ((sizeOf (P.elem dT)).run P w).andThen fun n w1 => ((loadCells s (Nat.min sl dl * n)).run P w1).andThen fun cs w2 =>
        ((storeCells d cs.toList).run P w2).andThen fun _ w3 => .ok (goInt (Nat.min sl dl)) w3 := by
  simp only [Builtin.copy_, Builtin.lenOf, Builtin.firstCells, List.getElem?_toArray, List.getElem?_cons_zero, List.getElem?_cons_succ, Sem.run_bind, run_underlying h, Result.andThen_ok, Sem.run_pure]

/-! ### Rows of whole numbers -/
/-- A row of whole numbers of one kind. -/
def ints (k : IntKind) (l : List Int) : Array Value := (l.map (Value.int k)).toArray
theorem size_ints (k : IntKind) (l : List Int) : (ints k l).size = l.length := by simp [ints]
theorem toList_ints (k : IntKind) (l : List Int) : (ints k l).toList = l.map (Value.int k) := by simp [ints]
/-- The row's number there. -/
def el (l : List Int) (j : Nat) : Int := l.getD j 0
theorem el_zero (x : Int) (r : List Int) : el (x :: r) 0 = x := rfl
theorem el_succ (x : Int) (r : List Int) (n : Nat) : el (x :: r) (n + 1) = el r n := rfl
theorem el_set (l : List Int) (i j : Nat) (x : Int) (h : i < l.length) : el (l.set i x) j = if i = j then x else el l j := by
  unfold el
  rw [List.getD_eq_getElem?_getD, List.getElem?_set]
  by_cases hij : i = j
  · subst hij; simp [h]
  · simp [hij]
theorem el_set_same (l : List Int) (i : Nat) (x : Int) (h : i < l.length) : el (l.set i x) i = x := by rw [el_set _ _ _ _ h, if_pos rfl]
theorem el_ext {l m : List Int} (hl : l.length = m.length) (h : ∀ k, k < l.length → el l k = el m k) : l = m := by
  apply List.ext_getElem hl
  intro i h1 h2
  have := h i h1
  unfold el at this
  simpa [h1, h2] using this
theorem el_map_range (f : Nat → Int) (n k : Nat) (h : k < n) : el ((List.range n).map f) k = f k := by simp [el, h]
theorem el_append (l m : List Int) (k : Nat) : el (l ++ m) k = if k < l.length then el l k else el m (k - l.length) := by
  unfold el
  simp only [List.getD_eq_getElem?_getD]
  split
  · rw [List.getElem?_append_left (by assumption)]
  · rw [List.getElem?_append_right (by omega)]
theorem el_drop (l : List Int) (i k : Nat) : el (l.drop i) k = el l (i + k) := by simp [el]
/-- A row whose first k numbers are told by f. -/
def upd (f : Nat → Int) (l : List Int) (k : Nat) : List Int := (List.range k).map f ++ l.drop k
theorem length_upd (f : Nat → Int) (l : List Int) (k : Nat) (h : k ≤ l.length) : (upd f l k).length = l.length := by simp [upd]; omega
theorem upd_zero (f : Nat → Int) (l : List Int) : upd f l 0 = l := by simp [upd]
theorem el_upd (f : Nat → Int) (l : List Int) (k j : Nat) : el (upd f l k) j = if j < k then f j else el l j := by
  unfold upd
  rw [el_append]
  simp only [List.length_map, List.length_range]
  split
  · rw [el_map_range _ _ _ (by assumption)]
  · rw [el_drop]; congr 1; omega
theorem set_upd (f : Nat → Int) (l : List Int) (k : Nat) (h : k < l.length) : (upd f l k).set k (f k) = upd f l (k + 1) := by
  have h1 : k < (upd f l k).length := by rw [length_upd _ _ _ (by omega)]; exact h
  apply el_ext
  · rw [List.length_set, length_upd _ _ _ (by omega), length_upd _ _ _ (by omega)]
  · intro j hj
    rw [el_set _ _ _ _ h1, el_upd, el_upd]
    by_cases hjk : k = j
    · subst hjk; simp
    · rw [if_neg hjk]
      by_cases h2 : j < k
      · rw [if_pos h2, if_pos (by omega)]
      · rw [if_neg h2, if_neg (by omega)]
theorem upd_full (f : Nat → Int) (l : List Int) (k : Nat) (h : l.length = k) : upd f l k = (List.range k).map f := by simp [upd, ← h]
theorem getElem?_ints (k : IntKind) (l : List Int) (j : Nat) (h : j < l.length) : (ints k l)[j]? = some (.int k (el l j)) := by
  simp [ints, el, h]
theorem getElem_ints (k : IntKind) (l : List Int) (j : Nat) (h : j < (ints k l).size) : (ints k l)[j] = .int k (el l j) := by
  have h' : j < l.length := by rwa [size_ints] at h
  simp [ints, el, h']
attribute [go_sem] getElem_ints
theorem toArray_ints (k : IntKind) (l : List Int) : (l.map (Value.int k)).toArray = ints k l := rfl
theorem toArray_ints_set (k : IntKind) (l : List Int) (i : Nat) (x : Int) : ((l.map (Value.int k)).set i (.int k x)).toArray = ints k (l.set i x) := by simp [ints, List.map_set]
attribute [go_sem ↓ high] toArray_ints toArray_ints_set
theorem extract_ints (k : IntKind) (l : List Int) (i j : Nat) : (ints k l).extract i j = ints k ((l.take j).drop i) := by
  apply Array.ext'
  simp [ints, List.drop_take, List.map_take, List.map_drop]
theorem set_ints (k : IntKind) (l : List Int) (j : Nat) (x : Int) : (ints k l).setIfInBounds j (.int k x) = ints k (l.set j x) := by
  apply Array.ext'
  simp [ints, List.map_set]
/-- A row with another laid over it from o on. -/
def lay (c : List Int) (o : Nat) (b : List Int) : List Int := c.take o ++ b ++ c.drop (o + b.length)
theorem length_lay (c : List Int) (o : Nat) (b : List Int) (h : o + b.length ≤ c.length) : (lay c o b).length = c.length := by
  simp [lay]; omega
theorem take_whole {α : Type} (l : List α) (n : Nat) (h : l.length ≤ n) : l.take n = l := List.take_of_length_le h
attribute [go_sem] take_whole length_lay
theorem spl_ints (k : IntKind) (l : List Int) (o : Nat) (m : List Int) : spl (ints k l) o (m.map (Value.int k)) = ints k (lay l o m) := by
  simp only [lay, spl, extract_ints, size_ints, List.length_map]
  apply Array.ext'
  simp [ints]
theorem append_ints (k : IntKind) (l m : List Int) : ints k l ++ ints k m = ints k (l ++ m) := by simp [ints]
theorem ones_nil : ones [] = true := rfl
theorem ones_cons (v : Value) (r : List Value) : ones (v :: r) = (v.oneCell' && ones r) := by simp [ones]
theorem ones_append (a b : List Value) : ones (a ++ b) = (ones a && ones b) := by simp [ones]
theorem ones_map_int (k : IntKind) (l : List Int) : ones (l.map (Value.int k)) = true := by simp [ones, Value.oneCell']
theorem ones_replicate (n : Nat) (k : IntKind) (x : Int) : ones (List.replicate n (.int k x)) = true := by simp [ones, Value.oneCell']
theorem ones_take (n : Nat) (a : List Value) (h : ones a = true) : ones (a.take n) = true :=
  List.all_eq_true.2 fun x hx => List.all_eq_true.1 h x (List.mem_of_mem_take hx)
theorem ones_drop (n : Nat) (a : List Value) (h : ones a = true) : ones (a.drop n) = true :=
  List.all_eq_true.2 fun x hx => List.all_eq_true.1 h x (List.mem_of_mem_drop hx)
theorem ones_ints_set (k : IntKind) (l : List Int) (i : Nat) (x : Int) : ones ((l.map (Value.int k)).set i (.int k x)) = true := by
  rw [show (l.map (Value.int k)).set i (.int k x) = (l.set i x).map (Value.int k) from by simp [List.map_set]]
  exact ones_map_int k _
attribute [go_sem] ones_ints_set
attribute [go_sem] el_zero el_succ el_set_same size_ints toList_ints getElem?_ints extract_ints set_ints spl_ints ones_nil ones_cons ones_append ones_map_int ones_replicate ones_take ones_drop Value.oneCell'

theorem run_max2 {P : Program} (w : World) (ts : Array TypeId) (t : TypeId) (k k' : IntKind) (x y : Int) : (Builtin.max_ ts t #[.int k x, .int k' y]).run P w = .ok (.int k (max x y)) w := by
  rw [run_max_int2]
  congr 2
  split <;> omega
theorem run_min2 {P : Program} (w : World) (ts : Array TypeId) (t : TypeId) (k k' : IntKind) (x y : Int) : (Builtin.min_ ts t #[.int k x, .int k' y]).run P w = .ok (.int k (min x y)) w := by
  rw [run_min_int2]
  congr 2
  split <;> omega
theorem run_min3 {P : Program} (w : World) (ts : Array TypeId) (t : TypeId) (k k' k'' : IntKind) (x y z : Int) : (Builtin.min_ ts t #[.int k x, .int k' y, .int k'' z]).run P w = .ok (.int k (min (min x y) z)) w := by
  rw [run_min_int3]
  congr 2
  (repeat' split) <;> omega
attribute [go_sem ↓ high] run_max2 run_min2 run_min3
/-! ### Zeros, and rows that are made -/
/-- So many zeros. -/
def zs (n : Nat) : List Int := List.replicate n 0
theorem length_zs (n : Nat) : (zs n).length = n := by simp [zs]
theorem madeCells_ints (k : IntKind) (s m : Nat) (hs : 0 < s) : madeCells (ints k (zs s)) m = ints k (zs m) := by
  apply Array.ext_getElem?
  intro i
  by_cases hi : i < m
  · have h1 : i % s < s := Nat.mod_lt _ hs
    simp [madeCells, ints, zs, hi, h1]
  · rw [Array.getElem?_eq_none (by rw [size_madeCells]; omega), Array.getElem?_eq_none (by rw [size_ints, length_zs]; omega)]
/-- What a slice's element type is: its number, its cells, its bytes, its zero. -/
structure ElemT (P : Program) (t e size bytes : Nat) (z : Array Value) : Prop where
  ht : P.underlying t = some (.slice e)
  hi : (P.info? e).map (fun i => (i.zero.map (·.cells), i.size, i.bytes)) = some (some z, size, bytes)
  hsz : z.size = size
theorem ElemT.parts {P : Program} {t e size bytes : Nat} {z : Array Value} (E : ElemT P t e size bytes z) :
    ∃ i v, P.info? e = some i ∧ i.zero = some v ∧ v.cells = z ∧ i.size = size ∧ i.bytes = bytes := by
  have h := E.hi
  cases hi : P.info? e with
  | none => rw [hi] at h; cases h
  | some i =>
    rw [hi] at h
    simp only [Option.map_some, Option.some.injEq, Prod.mk.injEq] at h
    obtain ⟨h1, h2, h3⟩ := h
    cases hz : i.zero with
    | none => rw [hz] at h1; cases h1
    | some v => rw [hz] at h1; exact ⟨i, v, rfl, hz, by simpa using h1, h2, h3⟩
theorem ElemT.make {P : Program} {t e size bytes : Nat} {z : Array Value} (E : ElemT P t e size bytes z) (w : World) (kl kc : IntKind) (l c : Int) (h0 : 0 ≤ l) (hlc : l ≤ c)
    (hb : (bytes : Int) * c ≤ 281474976710656) (h63 : c ≤ 9223372036854775807) :
    (Instr.makeSlice t (.int kl l) (.int kc c)).run P w = .ok (.slice (some ⟨w.heap.size, 0, none⟩) l.toNat c.toNat) (w.alloc (.cells (madeCells z (c.toNat * size)) e)) := by
  obtain ⟨i, v, h1, h2, h3, h4, h5⟩ := E.parts
  rw [run_make w t e i v E.ht h1 h2 kl kc l c h0 hlc (by rw [h5]; exact hb) h63, h3, h4]

/-- A slice of one element, as 'append(xs, x)' lays it. -/
def buildOneK (t : TypeId) (ps : Array (Nat × Value)) : Sem Value := Instr.buildSlice t 1 ps
theorem buildSlice_K (t : TypeId) (ps : Array (Nat × Value)) : Instr.buildSlice t 1 ps = buildOneK t ps := rfl
theorem fold_set : ∀ (cs base pre : List Value), base.length = cs.length →
    (cs.zipIdx pre.length).foldl (fun (a : Array Value) (x : Value × Nat) => a.setIfInBounds x.2 x.1) (pre ++ base).toArray = (pre ++ cs).toArray
  | [], base, pre, h => by have : base = [] := List.eq_nil_of_length_eq_zero (by simpa using h); subst this; simp
  | c :: r, [], pre, h => by simp at h
  | c :: r, b :: bs, pre, h => by
    have h' : bs.length = r.length := by simpa using h
    have ih := fold_set r bs (pre ++ [c]) h'
    simp only [List.zipIdx_cons, List.foldl_cons, List.setIfInBounds_toArray]
    have e : (pre ++ b :: bs).set pre.length c = (pre ++ [c]) ++ bs := by simp
    rw [e]
    simpa using ih
theorem ElemT.buildOne {P : Program} {t e size bytes : Nat} {z : Array Value} (E : ElemT P t e size bytes z) (hs : 0 < size) (h24 : size ≤ 16777216) (w : World) (v : Value) (hv : v.cells.size = size) :
    (buildOneK t #[(0, v)]).run P w = .ok (.slice (some ⟨w.heap.size, 0, none⟩) 1 1) (w.alloc (.cells v.cells e)) := by
  obtain ⟨i, u, h1, h2, h3, h4, h5⟩ := E.parts
  have hn : ¬ (16777216 < size) := by omega
  have hn0 : size ≠ 0 := by omega
  have hf : Instr.fill (fun i => some (i * size, size)) ((Array.range (1 * size)).map (z[· % z.size]!)) [(0, v)] = some v.cells := by
    have hb : ((Array.range (1 * size)).map (z[· % z.size]!)).size = size := by simp
    have := fold_set v.cells.toList ((Array.range (1 * size)).map (z[· % z.size]!)).toList [] (by simp only [Array.length_toList]; rw [hb, hv])
    simp only [List.nil_append, List.length_nil, Array.toArray_toList] at this
    rw [← Array.toList_zipIdx, Array.foldl_toList] at this
    simp only [Instr.fill, hv, Nat.zero_mul, Nat.zero_add, hb, ne_eq, not_true_eq_false, Nat.lt_irrefl, gt_iff_lt, decide_false, Bool.or_self, Bool.false_eq_true, ↓reduceIte, this]
  simp only [Nat.one_mul] at hf
  simp [buildOneK, Instr.buildSlice, run_underlying E.ht, sizeOf, typeInfo, zeroValue, h1, h2, h4, h3, hn, hn0, newRow, hf]

/-! ### What a call leaves alone -/
/-- Of the blocks that were there, only those of the list may have turned. -/
structure Fr (fp : List Nat) (w w' : World) : Prop where
  os : w'.os = w.os
  tape : w'.tape = w.tape
  output : w'.output = w.output
  size : w.heap.size ≤ w'.heap.size
  at_ : ∀ k, k < w.heap.size → k ∉ fp → w'.blk k = w.blk k
namespace Fr
variable {fp : List Nat} {w w1 w2 : World}
theorem refl (fp : List Nat) (w : World) : Fr fp w w := ⟨rfl, rfl, rfl, Nat.le_refl _, fun _ _ _ => rfl⟩
theorem trans (h : Fr fp w w1) (k : Fr fp w1 w2) : Fr fp w w2 :=
  ⟨k.os.trans h.os, k.tape.trans h.tape, k.output.trans h.output, Nat.le_trans h.size k.size, fun i hi hn => (k.at_ i (Nat.lt_of_lt_of_le hi h.size) hn).trans (h.at_ i hi hn)⟩
theorem mono {fp' : List Nat} (h : Fr fp w w1) (hs : ∀ k ∈ fp, k < w.heap.size → k ∈ fp') : Fr fp' w w1 :=
  ⟨h.os, h.tape, h.output, h.size, fun i hi hn => h.at_ i hi (fun hf => hn (hs i hf hi))⟩
/-- A second step may turn what is new, too. -/
theorem seq {fp' : List Nat} (h : Fr fp w w1) (k : Fr fp' w1 w2) (hs : ∀ k ∈ fp', k < w.heap.size → k ∈ fp) : Fr fp w w2 :=
  ⟨k.os.trans h.os, k.tape.trans h.tape, k.output.trans h.output, Nat.le_trans h.size k.size,
   fun i hi hn => (k.at_ i (Nat.lt_of_lt_of_le hi h.size) (fun hf => hn (hs i hf hi))).trans (h.at_ i hi hn)⟩
theorem drew (h : Fr fp w w1) : Fr fp w w1.drew := ⟨h.os, h.tape, h.output, h.size, h.at_⟩
theorem alloc (h : Fr fp w w1) (o : Obj) : Fr fp w (w1.alloc o) :=
  ⟨h.os, h.tape, h.output, by simp; exact Nat.le_succ_of_le h.size, fun i hi hn => by rw [World.at_alloc_lt _ _ _ (Nat.lt_of_lt_of_le hi h.size)]; exact h.at_ i hi hn⟩
theorem put (h : Fr fp w w1) (b : Nat) (o : Obj) (hb : b < w.heap.size → b ∈ fp) : Fr fp w (w1.put b o) :=
  ⟨h.os, h.tape, h.output, by simp; exact h.size, fun i hi hn => by
    rw [World.at_put_other _ _ _ _ (fun e => by subst e; exact hn (hb hi))]; exact h.at_ i hi hn⟩
theorem grown {row : Option Nat} (h : Fr fp w w1) (k : w1.grownBy w2 row) (hr : ∀ b, row = some b → b < w.heap.size → b ∈ fp) : Fr fp w w2 :=
  ⟨k.os.trans h.os, k.tape.trans h.tape, k.output.trans h.output, Nat.le_trans h.size k.size, fun i hi hn =>
    (k.block i (Nat.lt_of_lt_of_le hi h.size) (fun e => hn (hr i e.symm hi))).trans (h.at_ i hi hn)⟩
theorem get (h : Fr fp w w1) {b : Nat} {o : Obj} (hb : w.blk b = some o) (hn : b ∉ fp) : w1.blk b = some o := (h.at_ b (World.at_lt hb) hn).trans hb
theorem owns (h : Fr fp w w1) {base : Nat} {e : TypeId} {size : Nat} {v : Value} {n : Nat} {xs : List Value} (ho : w.ownsRow base e size v n xs) (hn : ∀ b, v.ownBlock = some b → b ∉ fp) : w1.ownsRow base e size v n xs := by
  refine ⟨ho.1, ?_⟩
  rcases ho.2 with h2 | ⟨g, cap, cur, hv, hb, hg, rest⟩
  · exact .inl h2
  · exact .inr ⟨g, cap, cur, hv, hb, h.get hg (hn g (by rw [hv]; rfl)), rest⟩
end Fr

/-! ### A row of numbers, and room behind it -/
def rowR (k : IntKind) (l : List Int) (r : Array Value) : Array Value := ints k l ++ r
theorem size_rowR (k : IntKind) (l : List Int) (r : Array Value) : (rowR k l r).size = l.length + r.size := by simp [rowR, size_ints]
theorem getElem?_rowR (k : IntKind) (l : List Int) (r : Array Value) (i : Nat) (h : i < l.length) : (rowR k l r)[i]? = some (.int k (el l i)) := by
  rw [rowR, Array.getElem?_append_left (by rw [size_ints]; exact h), getElem?_ints k l i h]
theorem getElem_rowR (k : IntKind) (l : List Int) (r : Array Value) (i : Nat) (hi : i < (rowR k l r).size) (h : i < l.length) : (rowR k l r)[i] = .int k (el l i) := by
  have := getElem?_rowR k l r i h
  rw [Array.getElem?_eq_getElem hi] at this
  exact Option.some.inj this
theorem set_rowR (k : IntKind) (l : List Int) (r : Array Value) (i : Nat) (x : Int) (h : i < l.length) : (rowR k l r).setIfInBounds i (.int k x) = rowR k (l.set i x) r := by
  rw [rowR, rowR, ← set_ints]
  apply Array.ext_getElem?
  intro j
  have hs : (ints k l).size = l.length := size_ints k l
  by_cases hj : j < l.length
  · rw [Array.getElem?_append_left (by rw [Array.size_setIfInBounds, hs]; exact hj), Array.getElem?_setIfInBounds, Array.getElem?_setIfInBounds, Array.getElem?_append_left (by rw [hs]; exact hj)]
    by_cases hij : i = j
    · subst hij
      rw [if_pos rfl, if_pos rfl, if_pos (by rw [Array.size_append, hs]; omega), if_pos (by rw [hs]; exact h)]
    · rw [if_neg hij, if_neg hij]
  · rw [Array.getElem?_append_right (by rw [Array.size_setIfInBounds, hs]; omega), Array.getElem?_setIfInBounds, if_neg (by omega), Array.getElem?_append_right (by rw [hs]; omega), Array.size_setIfInBounds]
theorem rowR_nil (k : IntKind) (l : List Int) : rowR k l #[] = ints k l := by simp [rowR]
attribute [go_sem] size_rowR getElem?_rowR getElem_rowR set_rowR

/-! ### What stands in several blocks -/
def Has (L : List (Nat × Obj)) (w : World) : Prop := ∀ p ∈ L, w.blk p.1 = some p.2
theorem Has.nil (w : World) : Has [] w := fun p hp => by cases hp
theorem Has.cons {L : List (Nat × Obj)} {w : World} {b : Nat} {o : Obj} (h : w.blk b = some o) (hL : Has L w) : Has ((b, o) :: L) w := fun p hp => by
  rcases List.mem_cons.1 hp with rfl | hp
  · exact h
  · exact hL p hp
theorem Has.nth {L : List (Nat × Obj)} {w : World} (h : Has L w) (i : Nat) {b : Nat} {o : Obj} (hi : L[i]? = some (b, o)) : w.blk b = some o := h (b, o) (List.mem_of_getElem? hi)
theorem Has.drew {L : List (Nat × Obj)} {w : World} (h : Has L w) : Has L w.drew := h
theorem Has.fr {L : List (Nat × Obj)} {w w' : World} {fp : List Nat} (h : Has L w) (F : Fr fp w w') (hn : ∀ p ∈ L, p.1 ∉ fp) : Has L w' := fun p hp => F.get (h p hp) (hn p hp)
theorem Has.fr0 {L : List (Nat × Obj)} {w w' : World} (h : Has L w) (F : Fr [] w w') : Has L w' := h.fr F (fun _ _ => by simp)
theorem Has.alloc {L : List (Nat × Obj)} {w : World} (h : Has L w) (o : Obj) : Has L (w.alloc o) := h.fr0 ((Fr.refl [] w).alloc o)
theorem Has.put {L : List (Nat × Obj)} {w : World} (h : Has L w) (b : Nat) (o : Obj) (hn : ∀ p ∈ L, p.1 ≠ b) : Has L (w.put b o) :=
  h.fr (fp := [b]) ((Fr.refl [b] w).put b o (by simp)) (fun p hp => by simpa using hn p hp)
theorem Has.tail {L : List (Nat × Obj)} {w : World} {x : Nat × Obj} (h : Has (x :: L) w) : Has L w := fun p hp => h p (List.mem_cons_of_mem _ hp)

/-! ### append -/
/-- A slice from its row's head, or nil: its row holds so many elements, as these cells. -/
abbrev OwnsR (w : World) (e size : Nat) (p : Option Addr) (n cap : Nat) (xs : List Value) : Prop := w.ownsRow 0 e size (.slice p n cap) n xs
theorem run_app {P : Program} {w : World} (t ty : TypeId) {e size bytes : Nat} {z : Array Value} (E : ElemT P t e size bytes z) (hsz : 0 < size)
    (p : Option Addr) (n cap : Nat) (xs : List Value) (hown : OwnsR w e size p n cap xs)
    (ad : Addr) (m c : Nat) (news : List Value) (hl : news.length = m * size) (hnews : ∀ j u, news[j]? = some u → w.cell? (ad.add j) = some u) (h1 : ∀ u ∈ news, u.oneCell' = true)
    (hbig : (n + m) * bytes ≤ 140737488355328) (h63 : n + m ≤ 4611686018427387904) :
    ∃ p' cap' w', (Builtin.append_ #[t, t] ty #[.slice p n cap, .slice (some ad) m c]).run P w = .ok (.slice p' (n + m) cap') w' ∧ OwnsR w' e size p' (n + m) cap' (xs ++ news) ∧ w.grownBy w' (p.map (·.block)) ∧
      (∀ g, p'.map (·.block) = some g → p.map (·.block) = some g ∨ w.heap.size ≤ g) := by
  obtain ⟨i, v, i1, i2, i3, i4, i5⟩ := E.parts
  obtain ⟨v', w', hr, h2, h3, h4⟩ := run_append_own (P := P) w 0 t ty e i v size bytes E.ht i1 i2 i4 i5 (by rw [i3, E.hsz]) hsz (.slice p n cap) n xs hown ad m c news hl hnews h1
    (by unfold maxLen; omega) hbig (Nat.zero_le _)
  have hvb : (Value.slice p n cap).ownBlock = p.map (·.block) := by cases p <;> rfl
  rw [hvb] at h3
  obtain ⟨p', cap', rfl⟩ : ∃ p' cap', v' = .slice p' (n + m) cap' := by
    rcases h2.2 with ⟨rfl, h0⟩ | ⟨g, cap', cur, rfl, _⟩
    · exact ⟨none, 0, by rw [h0]⟩
    · exact ⟨_, _, rfl⟩
  refine ⟨p', cap', w', hr, h2, h3, ?_⟩
  intro g hg
  rcases hown.2 with ⟨he, h0⟩ | ⟨g0, cap0, cur, he, _, hg0, hnc, hcm, hcs, htake⟩
  · simp only [Value.slice.injEq] at he
    obtain ⟨rfl, _, rfl⟩ := he
    subst h0
    right
    by_cases hm : m = 0
    · have := h4.2 ⟨rfl, hm⟩
      simp only [Value.slice.injEq] at this
      rw [this.1] at hg; cases hg
    · have hr2 := run_append_nil (P := P) w t ty e i v E.ht i1 i2 ad m c news (by rw [i4]; exact hl) hnews (by omega) (by omega) (by rw [i5]; simp only [Nat.zero_add] at hbig; omega)
      rw [hr2] at hr
      simp only [Result.ok.injEq, Value.slice.injEq] at hr
      rw [← hr.1.1] at hg
      simp at hg; omega
  · simp only [Value.slice.injEq] at he
    obtain ⟨rfl, _, rfl⟩ := he
    by_cases hroom : n + m ≤ cap
    · left
      have hr2 := run_append_room (P := P) w t ty e i E.ht i1 g0 n cap cur hg0 ad m c news (by rw [i4]; exact hl) hnews h1 hroom (by rw [hl, hcs, i4, ← Nat.add_mul]; exact Nat.mul_le_mul_right _ hroom)
      rw [hr2] at hr
      simp only [Result.ok.injEq, Value.slice.injEq] at hr
      rw [← hr.1.1] at hg
      exact hg
    · right
      have holds : ∀ j u, xs[j]? = some u → w.cell? ((⟨g0, 0, none⟩ : Addr).add j) = some u := hown.cells (g := g0) rfl
      have hr2 := run_append_grow (P := P) w t ty e i v E.ht i1 i2 ⟨g0, 0, none⟩ n cap xs (by rw [i4]; exact hown.1) holds ad m c news (by rw [i4]; exact hl) hnews (by omega) (by omega)
        (growslice_fits (by omega) (by rw [i5]; exact hbig))
      rw [hr2] at hr
      simp only [Result.ok.injEq, Value.slice.injEq] at hr
      rw [← hr.1.1] at hg
      simp at hg; omega

theorem World.blk_heap (w : World) (b : Nat) : w.blk b = w.heap[b]? := rfl
/-- A row of one-celled elements that is owned: its block. -/
theorem OwnsR.out {w : World} {e : Nat} {b : Nat} {n cap : Nat} {k : IntKind} {l : List Int} (h : OwnsR w e 1 (some ⟨b, 0, none⟩) n cap (l.map (Value.int k))) :
    ∃ r, w.blk b = some (.cells (rowR k l r) e (0, 0)) ∧ cap = l.length + r.size ∧ n = l.length ∧ cap ≤ maxLen := by
  obtain ⟨h1, h2⟩ := h
  rcases h2 with ⟨h2, _⟩ | ⟨g, c, cur, hv, _, hg, hn, hm, hs, ht⟩
  · cases h2
  · simp only [Value.slice.injEq, Option.some.injEq, Addr.mk.injEq, and_true, true_and] at hv
    obtain ⟨rfl, rfl⟩ := hv
    have hl : l.length = n := by simpa using h1
    refine ⟨cur.extract l.length cur.size, ?_, ?_, hl.symm, hm⟩
    · rw [World.blk_heap, hg]
      congr 2
      rw [rowR]
      apply Array.ext'
      rw [Array.toList_append, toList_ints, ← ht, Array.toList_extract, List.extract_eq_take_drop]
      rw [Nat.mul_one, hl, List.take_of_length_le (l := cur.toList.drop n) (by simp), List.take_append_drop]
    · simp; omega
theorem OwnsR.some_of {w : World} {e size n cap : Nat} {p : Option Addr} {xs : List Value} (h : OwnsR w e size p n cap xs) (hn : 0 < n) : ∃ g, p = some ⟨g, 0, none⟩ := by
  rcases h.2 with ⟨_, h0⟩ | ⟨g, c, cur, hv, _⟩
  · omega
  · simp only [Value.slice.injEq] at hv
    exact ⟨g, hv.1⟩
theorem OwnsR.mk' {w : World} {e : Nat} {b : Nat} {k : IntKind} {l : List Int} {r : Array Value} (h : w.blk b = some (.cells (rowR k l r) e (0, 0))) (hm : l.length + r.size ≤ maxLen) :
    OwnsR w e 1 (some ⟨b, 0, none⟩) l.length (l.length + r.size) (l.map (Value.int k)) := by
  refine ⟨by simp, .inr ⟨b, _, _, rfl, Nat.zero_le _, h, Nat.le_add_right .., hm, by simp [size_rowR], ?_⟩⟩
  rw [rowR, Array.toList_append, toList_ints, Nat.mul_one, List.take_append_of_le_length (by simp), List.take_of_length_le (by simp)]
/-- What an append leaves: the new row; the old one may have been written; the new one is the old one, or a new block. -/
structure AppRes (w w' : World) (e size : Nat) (p p' : Option Addr) (n cap : Nat) (xs : List Value) : Prop where
  owns : OwnsR w' e size p' n cap xs
  fr : Fr (p.map (·.block)).toList w w'
  new : ∀ g, p'.map (·.block) = some g → p.map (·.block) = some g ∨ w.heap.size ≤ g
theorem wpList_app {P : Program} {ops : Array Oper} {rest : List Oper} {o : Oper} {a : Act} {w : World} {Q : Exit → Act → World → Prop} (hgd : o.guard = none) (s x : Operand) (t : TypeId)
    (ho : o.op = .call { callee := .builtin .append, args := #[s, x], argTypes := #[t, t] })
    {e size bytes : Nat} {z : Array Value} (E : ElemT P t e size bytes z) (hsz : 0 < size)
    (p : Option Addr) (n cap : Nat) (xs : List Value) (hs : a.eval s = .slice p n cap) (hown : OwnsR w e size p n cap xs)
    (b off m c : Nat) (hx : a.eval x = .slice (some ⟨b, off, none⟩) m c) (cs : Array Value) (T : TypeId) (f : Nat × Nat) (hb : w.blk b = some (.cells cs T f)) (news : List Value)
    (hnews : (cs.extract off (off + m * size)).toList = news) (hfit : off + m * size ≤ cs.size) (h1 : ones news = true) (hbig : (n + m) * bytes ≤ 140737488355328) (h63 : n + m ≤ 4611686018427387904)
    (h : ∀ p' cap' w', AppRes w w' e size p p' (n + m) cap' (xs ++ news) → wpList P ops Q rest (a.put o.dst (.slice p' (n + m) cap')) w') : wpList P ops Q (o :: rest) a w := by
  refine wpList_plain hgd fun K hK => ?_
  have hl : news.length = m * size := by rw [← hnews]; simp only [Array.length_toList, Array.size_extract]; omega
  obtain ⟨p', cap', w', hr, h2, h3, h4⟩ := run_app (w := w) t o.type E hsz p n cap xs hown ⟨b, off, none⟩ m c news hl (by
    intro j u hu
    rw [Addr.add_mid, World.cell?_at, hb]
    have hj : j < m * size := by have := (List.getElem?_eq_some_iff.1 hu).1; omega
    rw [← hnews, Array.getElem?_toList, Array.getElem?_extract_of_lt (by omega)] at hu
    show cs[off + j]? = some u
    rw [Array.getElem?_eq_getElem (by omega)]; exact hu) (fun u hu => List.all_eq_true.1 h1 u hu) hbig h63
  unfold Oper.wp execOp
  simp only [ho, resolve, invoke, builtin, Sem.run_bind, Sem.run_pure, Result.andThen_ok, List.map_toArray, List.map_cons, List.map_nil, hs, hx, hr]
  exact hK _ _ (h p' cap' w' ⟨h2, (Fr.refl _ _).grown h3 (fun g hg _ => by simp [hg]), h4⟩)

attribute [go_sem ↓ high] World.cell?_at World.frozen?_at loadCells_K storeCells_K loadVar_K storeVar_K buildSlice_K
attribute [go_sem] run_loadCellsK run_storeCellsK run_loadVarK run_storeVarK spl_one spl_all spl_cons size_spl extract_spl
attribute [go_sem high] World.setCell_at
attribute [go_sem] World.at_drew World.put_drew World.at_alloc_new World.at_alloc_lt World.at_put_same World.at_put_other World.size_put World.put_put World.put_alloc_new World.put_alloc_lt
attribute [go_sem] run_copy_slices
attribute [go_sem] length_zs Nat.min_def
attribute [go_sem] World.fits World.okw World.cellsAt World.over
end Go
namespace Go.Dr
section
variable {P : Program} {ops : Array Oper} {Q : Exit → Act → World → Prop} {S : World → Prop} {N : Nat}

/-- Each operation waits only for ones ahead of it in the text. -/
def backB (ops : Array Oper) : Bool :=
  (List.range ops.size).all fun j => match ops[j]? with
    | some o => o.after.all fun e => decide (e.on < j)
    | none => true
theorem backB_spec (h : backB ops = true) {j : Nat} {o : Oper} (ho : ops[j]? = some o) : ∀ e ∈ o.after, e.on < j := by
  intro e he
  have h1 := List.all_eq_true.1 h j (List.mem_range.2 (Array.getElem?_eq_some_iff.1 ho).1)
  rw [ho] at h1
  have := (Array.all_eq_true_iff_forall_mem.1 h1) e he
  simpa using this
/-- How many below N are still to come. -/
def toCome (listed : Array Bool) (N : Nat) : Nat := ((List.range N).filter fun j => !listed.getD j false).length
theorem toCome_set {listed : Array Bool} {i : Nat} (hi : i < N) (hs : N ≤ listed.size) (hun : listed.getD i false = false) : toCome (listed.setIfInBounds i true) N + 1 = toCome listed N := by
  unfold toCome
  have key : ∀ n, (n ≤ i → (List.range n).filter (fun j => !(listed.setIfInBounds i true).getD j false) = (List.range n).filter (fun j => !listed.getD j false)) ∧
      (i < n → n ≤ N → ((List.range n).filter (fun j => !(listed.setIfInBounds i true).getD j false)).length + 1 = ((List.range n).filter (fun j => !listed.getD j false)).length) := by
    intro n
    induction n with
    | zero => exact ⟨fun _ => rfl, fun h => absurd h (Nat.not_lt_zero _)⟩
    | succ n ih =>
      refine ⟨fun h => ?_, fun h hN => ?_⟩
      · rw [List.range_succ, List.filter_append, List.filter_append, ih.1 (by omega)]
        have : (listed.setIfInBounds i true).getD n false = listed.getD n false := getD_set_ne false (by omega)
        simp only [List.filter_cons, this, List.filter_nil]
      · rw [List.range_succ, List.filter_append, List.filter_append, List.length_append, List.length_append]
        by_cases hin : i = n
        · subst hin
          rw [ih.1 (Nat.le_refl _)]
          have h1 : (listed.setIfInBounds i true).getD i false = true := by
            have : i < listed.size := by omega
            simp [this]
          simp only [List.filter_cons, h1, hun]
          simp
        · have h1 : (listed.setIfInBounds i true).getD n false = listed.getD n false := getD_set_ne false (by omega)
          have := ih.2 (by omega) (by omega)
          simp only [List.filter_cons, h1, List.filter_nil]
          omega
  exact (key N).2 hi (Nat.le_refl _)

theorem drawn_inv_go (I : (Nat → Bool) → Act → World → Prop) {rest : Nat} (hT : tailB .any ops N = true) (hA : backB ops = true) (hNs : N ≤ ops.size) (hS : ∀ L a w, I L a w → S w)
    (step : ∀ (i : Nat) (o : Oper) (L : Nat → Bool) (a : Act) (w : World), ops[i]? = some o → i < N → L i = false → (∀ e ∈ o.after, Region.binds .any e = true → L e.on = true) → I L a w →
      ∀ K : Act → World → Prop, (∀ a' w', I (fun j => j == i || L j) a' w' → K a' w') → wpList P ops (Exit.then K fun e a w => e = .outgrown ∧ Q e a w) [o] a w)
    (fin : ∀ (a : Act) (w : World), I (fun j => decide (j < N)) a w → wpAnyS P .any ops (NoP Q) S N rest (Array.replicate N true ++ Array.replicate (ops.size - N) false) a w) :
    ∀ (m : Nat) (listed : Array Bool) (a : Act) (w : World), listed.size = ops.size → noTail N listed → closedL .any ops listed → toCome listed N = m → I (fun j => listed.getD j false) a w →
      wpAnyS P .any ops (NoP Q) S N (rest + m) listed a w := by
  intro m
  induction m with
  | zero =>
    intro listed a w hsz hno hc hm hI
    have hall : ∀ j, j < N → listed.getD j false = true := by
      intro j hj
      cases h : listed.getD j false with
      | true => rfl
      | false =>
        have h1 : j ∈ (List.range N).filter fun j => !listed.getD j false := List.mem_filter.2 ⟨List.mem_range.2 hj, by simp [h]⟩
        have h2 : (List.range N).filter (fun j => !listed.getD j false) = [] := List.eq_nil_of_length_eq_zero hm
        rw [h2] at h1; cases h1
    have he : listed = Array.replicate N true ++ Array.replicate (ops.size - N) false := by
      refine Array.ext (by simp; omega) fun j h1 h2 => ?_
      by_cases hj : j < N
      · have := hall j hj
        rw [Array.getElem_append_left (by simpa using hj)]
        simpa [h1] using this
      · have := hno j (by omega)
        rw [Array.getElem_append_right (by simpa using Nat.le_of_not_lt hj)]
        simpa [h1] using this
    have hI' : I (fun j => decide (j < N)) a w := by
      have : (fun j => listed.getD j false) = fun j => decide (j < N) := by
        funext j
        by_cases hj : j < N
        · rw [hall j hj, decide_eq_true hj]
        · rw [hno j (by omega), decide_eq_false hj]
      rwa [this] at hI
    rw [he]
    exact fin a w hI'
  | succ m ih =>
    intro listed a w hsz hno hc hm hI
    have hex : ∃ i, i < N ∧ listed.getD i false = false := by
      have : (List.range N).filter (fun j => !listed.getD j false) ≠ [] := fun h => by
        unfold toCome at hm; rw [h] at hm; cases hm
      obtain ⟨i, hi⟩ := List.exists_mem_of_ne_nil _ this
      obtain ⟨h1, h2⟩ := List.mem_filter.1 hi
      exact ⟨i, List.mem_range.1 h1, by simpa using h2⟩
    refine ⟨fun h0 => ?_, fun i hi => ?_⟩
    · exfalso
      obtain ⟨i, hiN, hiu⟩ := hex
      have key : ∀ (n i : Nat), i < n → i < N → listed.getD i false = false → False := by
        intro n
        induction n with
        | zero => intro i h; exact absurd h (Nat.not_lt_zero _)
        | succ n ihn =>
          intro i hin hiN hiu
          have hio : i < ops.size := by omega
          have ho : ops[i]? = some ops[i] := Array.getElem?_eq_getElem hio
          by_cases hall : ∀ e ∈ ops[i].after, Region.binds .any e = true → listed.getD e.on false = true
          · have : i ∈ Region.ready .any ops listed := mem_ready.2 ⟨by
              have h2 : i < listed.size := by omega
              simpa [h2] using hiu, _, ho, hall⟩
            rw [h0] at this; cases this
          · have hex2 : ∃ e, e ∈ ops[i].after ∧ listed.getD e.on false = false := by
              refine Classical.byContradiction fun hn => hall fun e he _ => ?_
              cases h : listed.getD e.on false with
              | true => rfl
              | false => exact (hn ⟨e, he, h⟩).elim
            obtain ⟨e, he, heu⟩ := hex2
            have := backB_spec hA ho e he
            exact ihn e.on (by omega) (by omega) heu
      exact key (i + 1) i (Nat.lt_succ_self i) hiN hiu
    · obtain ⟨hiu, o, ho, hall⟩ := mem_ready.1 hi
      have hiu' := getD_both' hiu
      obtain ⟨i0, hi0, hu0⟩ := hex
      have hiN : i < N := head_only hT hno hc hi0 hu0 hi
      have h := step i o _ a w ho hiN hiu' hall hI (fun a' w' => (N ≤ i ∨ S w') ∧ wpAnyS P .any ops (NoP Q) S N (rest + m) (listed.setIfInBounds i true) a' w') (fun a' w' hI' => by
        refine ⟨.inr (hS _ _ _ hI'), ih _ a' w' (by simpa using hsz) (noTail_set hno hiN) (closedL_set hc hi) ?_ ?_⟩
        · have := toCome_set hiN (by omega) hiu'
          omega
        · have : (fun j => (listed.setIfInBounds i true).getD j false) = fun j => j == i || listed.getD j false := by
            funext j
            by_cases hji : i = j
            · subst hji
              have h2 : i < listed.size := by omega
              simp [h2]
            · rw [getD_set_ne false hji, show (j == i) = false from by simpa using Ne.symm hji]
              simp
          rw [this]
          exact hI')
      have h1 : wpList P ops (Exit.then (fun a' w' => (N ≤ i ∨ S w') ∧ wpAnyS P .any ops (NoP Q) S N (rest + m) (listed.setIfInBounds i true) a' w') (NoP Q)) [o] a w :=
        wpList_imp (fun e a w h => by
          cases e <;> first | exact h | exact h.2 | (exact absurd h.1 (by simp))) _ _ _ h
      unfold wpOp
      simp only [ho]
      unfold wpList at h1
      split
      · rename_i hw
        rw [if_pos hw] at h1
        rcases h1 with h1 | ⟨ha, a', w', hl⟩
        · left
          revert h1
          unfold Oper.wp
          generalize (execOp a.eval o).run P w = r
          intro h1
          cases r with
          | ok n w' =>
            cases n <;> simp only [Oper.upon] at h1 ⊢
            case value v => exact h1
            case skip => exact h1
            case defer d => exact h1
            case enter f args =>
              refine Calls.mono h1 (fun e w'' he => ?_)
              cases e <;> exact he
            case row row args => exact Rows.mono h1 (fun v w'' he => he)
          | halt x w' => cases x <;> simp only [Oper.upon] at h1 ⊢ <;> exact h1
        · exact .inr ⟨ha, a', w', hl⟩
      · rename_i hw
        rw [if_neg hw] at h1
        exact h1

/-- The slots ds get what s tells. -/
def fill (s : Nat → Value) : List Nat → Act → Act
  | [], a => a
  | d :: ds, a => fill s ds (a.put (some d) (s d))
def set1 (s : Nat → Value) (d : Nat) (v : Value) : Nat → Value := fun e => if e = d then v else s e
theorem set1_same (s : Nat → Value) (d : Nat) (v : Value) : set1 s d v d = v := if_pos rfl
theorem set1_other (s : Nat → Value) {d e : Nat} (v : Value) (h : e ≠ d) : set1 s d v e = s e := if_neg h

/-- What is checked of the region: the head's N, listed so far. -/
def parB (ops : Array Oper) (N : Nat) (listed : Array Bool) (m : Nat) : Bool :=
  tailB .any ops N && backB ops && decide (N ≤ ops.size) && decide (listed.size = ops.size) && ((List.range (listed.size - N)).all fun i => !listed.getD (N + i) false) && closedB .any ops listed && decide (toCome listed N = m)
/-- THE REGION WITH MANY WRITERS, IN WHATEVER ORDER: an invariant I over what is listed, over a value for each slot of ds. -/
theorem drawn_inv (ds : List Nat) (I : (Nat → Bool) → (Nat → Value) → World → Prop) (s : Nat → Value) (m : Nat) {rest : Nat} {listed : Array Bool} {b : Act} {w : World}
    (chk : parB ops N listed m = true) (hS : ∀ L s w, I L s w → S w) (ha : fill s ds b = b) (hI : I (fun j => listed.getD j false) s w)
    (step : ∀ (i : Nat) (o : Oper) (L : Nat → Bool) (s : Nat → Value) (w : World), ops[i]? = some o → i < N → L i = false → (∀ e ∈ o.after, Region.binds .any e = true → L e.on = true) → I L s w →
      ∀ K : Act → World → Prop, (∀ a' w', (∃ s', a' = fill s' ds b ∧ I (fun j => j == i || L j) s' w') → K a' w') → wpList P ops (Exit.then K fun e a w => e = .outgrown ∧ Q e a w) [o] (fill s ds b) w)
    (fin : ∀ (s : Nat → Value) (w : World), I (fun j => decide (j < N)) s w → wpAnyS P .any ops (NoP Q) S N rest (Array.replicate N true ++ Array.replicate (ops.size - N) false) (fill s ds b) w) :
    wpAnyS P .any ops (NoP Q) S N (rest + m) listed b w := by
  simp only [parB, Bool.and_eq_true, decide_eq_true_eq] at chk
  obtain ⟨⟨⟨⟨⟨⟨h1, h2⟩, h3⟩, h4⟩, h5⟩, h6⟩, h7⟩ := chk
  refine drawn_inv_go (fun L a w => ∃ s, a = fill s ds b ∧ I L s w) h1 h2 h3 (fun L a w h => ?_) (fun i o L a w ho hi hL hd h K hK => ?_) (fun a w h => ?_) m listed b w h4 (fun t ht => ?_) (closedB_spec h6) h7 ⟨s, ha.symm, hI⟩
  · obtain ⟨s, _, h⟩ := h; exact hS _ _ _ h
  · obtain ⟨s, rfl, h⟩ := h
    exact step i o L s w ho hi hL hd h K (fun a' w' h' => hK _ _ h')
  · obtain ⟨s, rfl, h⟩ := h
    exact fin s w h
  · by_cases hlt : t < listed.size
    · have := List.all_eq_true.1 h5 (t - N) (List.mem_range.2 (by omega))
      rw [show N + (t - N) = t from by omega] at this
      simpa using this
    · simp [Array.getElem?_eq_none (Nat.le_of_not_lt hlt)]
end

theorem _root_.Go.Has.put_ge {L : List (Nat × Obj)} {V w : World} (h0 : Has L V) (h : Has L w) (b : Nat) (o : Obj) (hb : V.heap.size ≤ b) : Has L (w.put b o) :=
  h.put b o fun x hx e => by have := World.at_lt (h0 x hx); omega
/-! ### Calls and rooms, in whatever order -/
/-- A call: its number, its slot, what its value is. A room: its number, its slot, what it is when new. -/
structure Par where
  calls : List (Nat × Nat × (Value → Prop))
  rooms : List (Nat × Nat × Obj)
  row : List Nat
/-- w0: the world ahead; L0: what was read before. -/
structure Par.Inv (p : Par) (w0 : World) (L : Nat → Bool) (s : Nat → Value) (w : World) : Prop where
  fr : Fr [] w0 w
  row : ∀ i ∈ p.row, L i = true
  call : ∀ c ∈ p.calls, L c.1 = true → c.2.2 (s c.2.1)
  room : ∀ c ∈ p.rooms, L c.1 = true → ∃ b, s c.2.1 = .pointer (some ⟨b, 0, none⟩) ∧ w0.heap.size ≤ b ∧ w.blk b = some c.2.2
  apart : ∀ c ∈ p.rooms, ∀ d ∈ p.rooms, c.1 ≠ d.1 → L c.1 = true → L d.1 = true → s c.2.1 ≠ s d.2.1
theorem inj_of_map {α β : Type} {f : α → β} : ∀ {l : List α}, (l.map f).Nodup → ∀ x ∈ l, ∀ y ∈ l, f x = f y → x = y
  | [], _, x, hx, _, _, _ => by cases hx
  | a :: l, h, x, hx, y, hy, e => by
    rw [List.map_cons, List.nodup_cons] at h
    rcases List.mem_cons.1 hx with rfl | hx <;> rcases List.mem_cons.1 hy with rfl | hy
    · rfl
    · exact (h.1 (by rw [e]; exact List.mem_map_of_mem (by assumption))).elim
    · exact (h.1 (by rw [← e]; exact List.mem_map_of_mem (by assumption))).elim
    · exact inj_of_map h.2 x hx y hy e
def Par.ok (p : Par) : Prop := (p.calls.map (·.1) ++ p.rooms.map (·.1)).Nodup ∧ (p.calls.map (·.2.1) ++ p.rooms.map (·.2.1)).Nodup
variable {p : Par} {w0 w w' : World} {L : Nat → Bool} {s : Nat → Value}
theorem Par.Inv.start (hrow : ∀ i ∈ p.row, L i = true) (hc : ∀ i ∈ p.calls.map (·.1), L i = false) (hr : ∀ i ∈ p.rooms.map (·.1), L i = false) : p.Inv w0 L s w0 :=
  ⟨Fr.refl _ _, hrow, fun c hm h => (by rw [hc _ (List.mem_map_of_mem hm)] at h; cases h), fun c hm h => (by rw [hr _ (List.mem_map_of_mem hm)] at h; cases h), fun c hm _ _ _ h => (by rw [hr _ (List.mem_map_of_mem hm)] at h; cases h)⟩
theorem Par.Inv.called (h : p.Inv w0 L s w) (ok : p.ok) (c : Nat × Nat × (Value → Prop)) (hm : c ∈ p.calls) {v : Value} (F : Fr [] w w') (hv : c.2.2 v) : p.Inv w0 (fun j => j == c.1 || L j) (set1 s c.2.1 v) w' := by
  obtain ⟨n1, n2⟩ := ok
  rw [List.nodup_append] at n1 n2
  have dis1 : ∀ r ∈ p.rooms, r.1 ≠ c.1 := fun r hr e => n1.2.2 c.1 (List.mem_map_of_mem hm) r.1 (List.mem_map_of_mem hr) e.symm
  have dis2 : ∀ r ∈ p.rooms, r.2.1 ≠ c.2.1 := fun r hr e => n2.2.2 c.2.1 (List.mem_map_of_mem (f := fun x => x.2.1) hm) r.2.1 (List.mem_map_of_mem (f := fun x => x.2.1) hr) e.symm
  have off : ∀ r ∈ p.rooms, (r.1 == c.1 || L r.1) = true → L r.1 = true := fun r hr e => by
    rw [show (r.1 == c.1) = false from by simpa using dis1 r hr] at e; simpa using e
  refine ⟨h.fr.trans F, fun i hi => by simp [h.row i hi], fun d hd e => ?_, fun d hd e => ?_, fun d hd g hg hne e1 e2 => ?_⟩
  · by_cases hdc : d.1 = c.1
    · obtain rfl : d = c := inj_of_map n1.1 d hd c hm hdc
      rw [set1_same]; exact hv
    · rw [show (d.1 == c.1) = false from by simpa using hdc, Bool.false_or] at e
      rw [set1_other _ _ (fun e' => hdc (by rw [inj_of_map (f := fun x => x.2.1) n2.1 d hd c hm e']))]
      exact h.call d hd e
  · obtain ⟨b, e1, e2, e3⟩ := h.room d hd (off d hd e)
    rw [set1_other _ _ (dis2 d hd)]
    exact ⟨b, e1, e2, F.get e3 (by simp)⟩
  · rw [set1_other _ _ (dis2 d hd), set1_other _ _ (dis2 g hg)]
    exact h.apart d hd g hg hne (off d hd e1) (off g hg e2)
theorem Par.Inv.made (h : p.Inv w0 L s w) (ok : p.ok) (c : Nat × Nat × Obj) (hm : c ∈ p.rooms) : p.Inv w0 (fun j => j == c.1 || L j) (set1 s c.2.1 (.pointer (some ⟨w.heap.size, 0, none⟩))) (w.alloc c.2.2) := by
  obtain ⟨n1, n2⟩ := ok
  rw [List.nodup_append] at n1 n2
  have dis1 : ∀ r ∈ p.calls, r.1 ≠ c.1 := fun r hr e => n1.2.2 r.1 (List.mem_map_of_mem hr) c.1 (List.mem_map_of_mem hm) e
  have dis2 : ∀ r ∈ p.calls, r.2.1 ≠ c.2.1 := fun r hr e => n2.2.2 r.2.1 (List.mem_map_of_mem (f := fun x => x.2.1) hr) c.2.1 (List.mem_map_of_mem (f := fun x => x.2.1) hm) e
  have other : ∀ d ∈ p.rooms, d.1 ≠ c.1 → d.2.1 ≠ c.2.1 := fun d hd hne e => hne (by rw [inj_of_map (f := fun x => x.2.1) n2.2.1 d hd c hm e])
  have less : ∀ d ∈ p.rooms, d.1 ≠ c.1 → (d.1 == c.1 || L d.1) = true → s d.2.1 ≠ .pointer (some ⟨w.heap.size, 0, none⟩) := fun d hd hdc e e' => by
    obtain ⟨b, e1, e2, e3⟩ := h.room d hd (by
      rw [show (d.1 == c.1) = false from by simpa using hdc, Bool.false_or] at e; exact e)
    have := World.at_lt e3
    rw [e1] at e'
    injection e' with e'
    injection e' with e'
    injection e' with e' _
    omega
  refine ⟨h.fr.alloc _, fun i hi => by simp [h.row i hi], fun d hd e => ?_, fun d hd e => ?_, fun d hd g hg hne e1 e2 => ?_⟩
  · rw [show (d.1 == c.1) = false from by simpa using dis1 d hd, Bool.false_or] at e
    rw [set1_other _ _ (dis2 d hd)]
    exact h.call d hd e
  · by_cases hdc : d.1 = c.1
    · obtain rfl : d = c := inj_of_map n1.2.1 d hd c hm hdc
      exact ⟨_, set1_same _ _ _, h.fr.size, World.at_alloc_new _ _ _ rfl⟩
    · rw [show (d.1 == c.1) = false from by simpa using hdc, Bool.false_or] at e
      obtain ⟨b, e1, e2, e3⟩ := h.room d hd e
      rw [set1_other _ _ (other d hd hdc)]
      exact ⟨b, e1, e2, by rw [World.at_alloc_lt _ _ _ (World.at_lt e3)]; exact e3⟩
  · by_cases hdc : d.1 = c.1
    · obtain rfl : d = c := inj_of_map n1.2.1 d hd c hm hdc
      rw [set1_same, set1_other _ _ (other g hg (Ne.symm hne))]
      exact (less g hg (Ne.symm hne) e2).symm
    · rw [set1_other _ _ (other d hd hdc)]
      by_cases hgc : g.1 = c.1
      · obtain rfl : g = c := inj_of_map n1.2.1 g hg c hm hgc
        rw [set1_same]
        exact less d hd hdc e1
      · rw [set1_other _ _ (other g hg hgc)]
        rw [show (d.1 == c.1) = false from by simpa using hdc, Bool.false_or] at e1
        rw [show (g.1 == c.1) = false from by simpa using hgc, Bool.false_or] at e2
        exact h.apart d hd g hg hne e1 e2
end Go.Dr
