/- A region that draws its order, walked in one order: rows of operations that only read are taken first; what writes comes in the one order that the edges leave; a last row is forced. -/
import Derived.OrdersHeld
import Derived.Tactics
namespace Go.Dr
section
variable {P : Program} {ops : Array Oper} {Q : Exit → Act → World → Prop} {md : Region.Mode} {S : World → Prop} {N : Nat}

/-- Whatever order is picked from here on; and S holds behind every operation below N. -/
def wpAnyS (P : Program) (md : Region.Mode) (ops : Array Oper) (Q : Exit → Act → World → Prop) (S : World → Prop) (N : Nat) : Nat → Array Bool → Act → World → Prop
  | 0, listed, a, w => Region.ready md ops listed = [] ∧ Q .normal a w
  | fuel + 1, listed, a, w =>
    (Region.ready md ops listed = [] → Q .normal a w) ∧
    ∀ i ∈ Region.ready md ops listed, wpOp P ops Q i (fun a' w' => (N ≤ i ∨ S w') ∧ wpAnyS P md ops Q S N fuel (listed.setIfInBounds i true) a' w') a w

theorem wpAny_of_S : ∀ (fuel : Nat) (listed : Array Bool) (a : Act) (w : World), wpAnyS P md ops Q S N fuel listed a w → wpAny P md ops Q fuel listed a w
  | 0, _, _, _, h => h
  | fuel + 1, _, _, _, h => ⟨h.1, fun i hi => wpOp_mono (fun a' w' h' => wpAny_of_S fuel _ a' w' h'.2) (h.2 i hi)⟩

theorem wpAnyS_mono {S' : World → Prop} (hSS : ∀ w, S w → S' w) : ∀ (fuel : Nat) (listed : Array Bool) (a : Act) (w : World), wpAnyS P md ops Q S N fuel listed a w → wpAnyS P md ops Q S' N fuel listed a w
  | 0, _, _, _, h => h
  | fuel + 1, _, _, _, h => ⟨h.1, fun i hi => wpOp_mono (fun a' w' h' => ⟨h'.1.imp id (hSS w'), wpAnyS_mono hSS fuel _ a' w' h'.2⟩) (h.2 i hi)⟩

/-- Does j wait for i? -/
def waitsB (md : Region.Mode) (ops : Array Oper) (j i : Nat) : Bool :=
  match ops[j]? with
  | some o => o.after.any fun e => Region.binds md e && e.on == i
  | none => false
theorem waitsB_spec {j i : Nat} (h : waitsB md ops j i = true) : ∃ o, ops[j]? = some o ∧ ∃ e ∈ o.after, Region.binds md e = true ∧ e.on = i := by
  unfold waitsB at h
  split at h
  · rename_i o ho
    obtain ⟨e, he, hb⟩ := Array.any_eq_true'.1 h
    simp only [Bool.and_eq_true, beq_iff_eq] at hb
    exact ⟨o, ho, e, he, hb.1, hb.2⟩
  · cases h
/-- Number N waits, through others, for all below N; each one behind it for one from N on. -/
def tailB (md : Region.Mode) (ops : Array Oper) (N : Nat) : Bool :=
  decide (N = ops.size) || (((List.range N).all fun i => (List.range (N + 1)).any fun j => decide (i < j) && waitsB md ops j i) &&
    (List.range ops.size).all fun t => decide (t ≤ N) || (match ops[t]? with
    | some o => o.after.any fun e => Region.binds md e && decide (N ≤ e.on)
    | none => true))
def noTail (N : Nat) (listed : Array Bool) : Prop := ∀ t, N ≤ t → listed.getD t false = false
/-- What is listed has all that it waits for listed. -/
def closedL (md : Region.Mode) (ops : Array Oper) (listed : Array Bool) : Prop :=
  ∀ j o, ops[j]? = some o → listed.getD j false = true → ∀ e ∈ o.after, Region.binds md e = true → listed.getD e.on false = true
theorem closedL_set {listed : Array Bool} (h : closedL md ops listed) {i : Nat} (hi : i ∈ Region.ready md ops listed) : closedL md ops (listed.setIfInBounds i true) := by
  intro j o hj hl e he hb
  have up : ∀ k, listed.getD k false = true → (listed.setIfInBounds i true).getD k false = true := fun k hk => by
    by_cases hki : i = k
    · subst hki
      by_cases hs : i < listed.size
      · simp [hs]
      · simp [Array.getElem?_eq_none (Nat.le_of_not_lt hs)] at hk
    · rw [getD_set_ne false hki]; exact hk
  by_cases hij : i = j
  · subst hij
    obtain ⟨_, o', ho', hall⟩ := mem_ready.1 hi
    obtain rfl : o' = o := Option.some.inj (ho'.symm.trans hj)
    exact up _ (hall e he hb)
  · rw [getD_set_ne false hij] at hl
    exact up _ (h j o hj hl e he hb)

theorem getD_both' {listed : Array Bool} {i : Nat} (h : listed.getD i true = false) : listed.getD i false = false := by
  rcases Nat.lt_or_ge i listed.size with h' | h'
  · simp [h'] at h ⊢; exact h
  · simp [Array.getElem?_eq_none h'] at h

theorem head_only (hT : tailB md ops N = true) {listed : Array Bool} (hno : noTail N listed) (hc : closedL md ops listed) {i j : Nat} (hi : i < N) (hun : listed.getD i false = false) (hj : j ∈ Region.ready md ops listed) : j < N := by
  rcases Nat.lt_or_ge j N with h | h
  · exact h
  · exfalso
    obtain ⟨_, o, ho, hall⟩ := mem_ready.1 hj
    have hjs : j < ops.size := (Array.getElem?_eq_some_iff.1 ho).1
    simp only [tailB, Bool.or_eq_true, Bool.and_eq_true, decide_eq_true_eq] at hT
    rcases hT with hT | ⟨hA, hB⟩
    · omega
    rcases Nat.eq_or_lt_of_le h with h | h
    · subst h
      -- from i up to N: each has one above it that waits for it
      have key : ∀ (n i : Nat), N - i = n → i < N → listed.getD i false = false → False := by
        intro n
        induction n using Nat.strongRecOn with
        | _ n ih =>
          intro i hn hi hun
          obtain ⟨k, hk, hk2⟩ := List.any_eq_true.1 (List.all_eq_true.1 hA i (List.mem_range.2 hi))
          simp only [Bool.and_eq_true, decide_eq_true_eq] at hk2
          obtain ⟨ok, hok, e, he, hb, hon⟩ := waitsB_spec hk2.2
          have hkN : k ≤ N := by have := List.mem_range.1 hk; omega
          rcases Nat.eq_or_lt_of_le hkN with hkN | hkN
          · subst hkN
            obtain rfl : ok = o := Option.some.inj (hok.symm.trans ho)
            have := hall e he hb
            rw [hon, hun] at this; cases this
          · cases hl : listed.getD k false with
            | true =>
              have := hc k ok hok hl e he hb
              rw [hon, hun] at this; cases this
            | false => exact ih (N - k) (by omega) k rfl hkN hl
      exact key _ i rfl hi hun
    · have h1 := List.all_eq_true.1 hB j (List.mem_range.2 hjs)
      rw [ho] at h1
      simp only [Bool.or_eq_true, decide_eq_true_eq] at h1
      rcases h1 with h1 | h1
      · omega
      · obtain ⟨e, he, hb⟩ := Array.any_eq_true'.1 h1
        simp only [Bool.and_eq_true, decide_eq_true_eq] at hb
        have h3 := hall e he hb.1
        rw [hno e.on hb.2] at h3; cases h3

theorem wpAnyS_first {i : Nat} {oi : Oper} {v : Value} (hi : ops[i]? = some oi) (hN : i < N) (hT : tailB md ops N = true) (hsel : ∀ (j : Nat) (o : Oper) cs b, ops[j]? = some o → o.op ≠ .select cs b)
    (hQ : ∀ c a w, Q (.panic c) (a.put oi.dst v) w → Q (.panic c) a w) :
    ∀ (fuel : Nat) (listed : Array Bool) (a : Act) (w : World), noTail N listed → closedL md ops listed →
      (∀ j oj, ops[j]? = some oj → j ≠ i → listed.getD j true = false → (∀ e ∈ oj.after, Region.binds md e = true → e.on ≠ i) → oi.apart ops oj = true) →
      i ∈ Region.ready md ops listed → YieldsIf P ops S oi v a → S w →
      wpAnyS P md ops Q S N fuel (listed.setIfInBounds i true) (a.put oi.dst v) w → wpAnyS P md ops Q S N (fuel + 1) listed a w := by
  intro fuel
  induction fuel with
  | zero =>
    intro listed a w _ _ _ hr hy hS H
    refine ⟨fun h => (by rw [h] at hr; cases hr), fun j hj => ?_⟩
    by_cases hji : j = i
    · subst hji; exact hy.wpOp hi hS ⟨.inr hS, H⟩
    · have := ready_mono hj hji
      rw [H.1] at this
      cases this
  | succ fuel ih =>
    intro listed a w hno hc hfree hr hy hS H
    refine ⟨fun h => (by rw [h] at hr; cases hr), fun j hj => ?_⟩
    by_cases hji : j = i
    · subst hji; exact hy.wpOp hi hS ⟨.inr hS, H⟩
    · have h1 := H.2 j (ready_mono hj hji)
      obtain ⟨hjun, oj, hoj, hall⟩ := mem_ready.1 hj
      have h0i := (mem_ready.1 hr).1
      have hjN : j < N := head_only hT hno hc hN (getD_both' h0i) hj
      have hnot : ∀ e ∈ oj.after, Region.binds md e = true → e.on ≠ i := fun e he hb heq => by
        have h1 := hall e he hb
        rw [heq, getD_both' h0i] at h1
        cases h1
      have h2 := wpOp_putIf hoj (hfree j oj hoj hji hjun hnot) (fun cs b => hsel i oi cs b hi) (fun cs b => hsel j oj cs b hoj) hQ hy h1
      have hfree' : ∀ k ok, ops[k]? = some ok → k ≠ i → (listed.setIfInBounds j true).getD k true = false →
          (∀ e ∈ ok.after, Region.binds md e = true → e.on ≠ i) → oi.apart ops ok = true := fun k ok hk hki hun hno => by
        refine hfree k ok hk hki ?_ hno
        by_cases hjk : j = k
        · subst hjk; exact hjun
        · rw [getD_set_ne true hjk] at hun; exact hun
      have hno' : noTail N (listed.setIfInBounds j true) := fun t ht => by
        rw [getD_set_ne false (by omega)]; exact hno t ht
      refine wpOp_mono (fun a' w' h3 => ?_) h2
      have hSw : S w' := h3.2.1.resolve_left (by omega)
      refine ⟨.inr hSw, ih (listed.setIfInBounds j true) a' w' hno' (closedL_set hc hj) hfree' (ready_mono hr (Ne.symm hji)) h3.1 hSw ?_⟩
      rw [Array.setIfInBounds_comm _ _ hji]
      exact h3.2.2

/-! ### A row of operations that only read, taken together -/
/-- The operation gives a value and leaves the world as it is. -/
def _root_.Go.Oper.valWp (P : Program) (o : Oper) (a : Act) (w : World) (K : Act → Prop) : Prop :=
  match (execOp a.eval o).run P w with
  | .ok (.value v) w' => w' = w ∧ K (a.put o.dst v)
  | _ => False
/-- The row, one behind the other, gives the state b and leaves the world as it is. -/
def rowWp (P : Program) (ops : Array Oper) (b : Act) : List Nat → Act → World → Prop
  | [], a, _ => a = b
  | i :: rest, a, w => ∃ o, ops[i]? = some o ∧ if Region.wanted o (yielded ops a.tmps) = true then o.valWp P a w (fun a' => rowWp P ops b rest a' w) else rowWp P ops b rest (a.put o.dst undef) w
theorem _root_.Go.Oper.valWp_mono {o : Oper} {a : Act} {w : World} {K K' : Act → Prop} (h : ∀ a, K a → K' a) (hh : o.valWp P a w K) : o.valWp P a w K' := by
  unfold Oper.valWp at *
  split at hh <;> first | exact ⟨hh.1, h _ hh.2⟩ | exact hh.elim
theorem rowWp_step {b : Act} {i : Nat} {rest : List Nat} {a : Act} {w : World} {o : Oper} (ho : ops[i]? = some o)
    (h : ∀ K : Act → Prop, (∀ a', rowWp P ops b rest a' w → K a') → if Region.wanted o (yielded ops a.tmps) = true then o.valWp P a w K else K (a.put o.dst undef)) :
    rowWp P ops b (i :: rest) a w := ⟨o, ho, h _ (fun _ h => h)⟩
theorem rowWp_nil {b a : Act} {w : World} (h : a = b) : rowWp P ops b [] a w := h

/-- The row may be taken, one behind the other: each is ready then, lies below N, nobody else touches its place; each writes a place of its own. -/
def takeB (md : Region.Mode) (ops : Array Oper) (N sz : Nat) : Array Bool → List Nat → Bool
  | _, [] => true
  | listed, i :: rest => decide (i < N) && Region.free md ops listed i && (Region.ready md ops listed).contains i &&
      ((ops[i]?).any fun o => match o.dst with | some d => decide (d < sz) && rest.all fun j => ((ops[j]?).any fun u => u.dst != some d) | none => false) && takeB md ops N sz (listed.setIfInBounds i true) rest
def markAll (listed : Array Bool) (l : List Nat) : Array Bool := l.foldl (fun s i => s.setIfInBounds i true) listed

theorem noTail_set {listed : Array Bool} (h : noTail N listed) {i : Nat} (hi : i < N) : noTail N (listed.setIfInBounds i true) := fun t ht => by
  rw [getD_set_ne false (by omega)]; exact h t ht

/-- A place that the row doesn't write is as it was. -/
theorem rowWp_keeps {b : Act} {w : World} {d : Nat} : ∀ (l : List Nat) (a : Act), (∀ j ∈ l, ∀ o, ops[j]? = some o → o.dst ≠ some d) → rowWp P ops b l a w → b.tmps[d]? = a.tmps[d]?
  | [], a, _, h => by rw [show a = b from h]
  | i :: rest, a, hne, h => by
    obtain ⟨o, ho, h⟩ := h
    have hd := hne i (List.mem_cons_self ..) o ho
    have hput : ∀ v, (a.put o.dst v).tmps[d]? = a.tmps[d]? := fun v => by
      cases hod : o.dst with
      | none => simp [Act.put]
      | some e => simp only [Act.put]; rw [Array.getElem?_setIfInBounds_ne (fun h' => hd (by rw [hod, h']))]
    split at h
    · unfold Oper.valWp at h
      split at h
      · rw [rowWp_keeps rest _ (fun j hj => hne j (List.mem_cons_of_mem _ hj)) h.2, hput]
      · exact h.elim
    · rw [rowWp_keeps rest _ (fun j hj => hne j (List.mem_cons_of_mem _ hj)) h, hput]

theorem put_undef_or {a : Act} {d : Nat} {v v' : Value} (h : (a.put (some d) v).tmps[d]? = (a.put (some d) v').tmps[d]?) : a.put (some d) v = a.put (some d) v' := by
  simp only [Act.put] at *
  by_cases hd : d < a.tmps.size
  · rw [Array.getElem?_setIfInBounds_self_of_lt hd, Array.getElem?_setIfInBounds_self_of_lt hd] at h
    rw [Option.some.inj h]
  · rw [show a.tmps.setIfInBounds d v = a.tmps from by simp [Array.setIfInBounds, hd], show a.tmps.setIfInBounds d v' = a.tmps from by simp [Array.setIfInBounds, hd]]

/-- **A row that only reads may be taken together**, if it gives the same state in every world that meets S. -/
theorem wpAnyS_row (hT : tailB md ops N = true) (hsel : Region.noSelect ops = true) (hQ : ∀ c a (d : Option Tmp) v w, Q (.panic c) (a.put d v) w → Q (.panic c) a w) {b : Act} {w : World} (hS : S w) :
    ∀ (l : List Nat) (fuel : Nat) (listed : Array Bool) (a : Act) (sz : Nat), a.tmps.size = sz → noTail N listed → closedL md ops listed → takeB md ops N sz listed l = true →
      (∀ w', S w' → rowWp P ops b l a w') →
      wpAnyS P md ops Q S N fuel (markAll listed l) b w → wpAnyS P md ops Q S N (fuel + l.length) listed a w
  | [], fuel, listed, a, _, _, _, _, _, H, h => by rw [show a = b from H w hS]; exact h
  | i :: rest, fuel, listed, a, sz, hsz, hno, hcl, hB, H, h => by
    simp only [takeB, Bool.and_eq_true, decide_eq_true_eq] at hB
    obtain ⟨⟨⟨⟨hiN, hfree⟩, hready⟩, hdst⟩, hB⟩ := hB
    obtain ⟨o, ho, h1⟩ := H w hS
    rw [ho] at hdst
    simp only [Option.any_some] at hdst
    cases hd : o.dst with
    | none => rw [hd] at hdst; cases hdst
    | some d =>
    rw [hd] at hdst
    simp only [Bool.and_eq_true, decide_eq_true_eq] at hdst
    obtain ⟨hdl0, hdst⟩ := hdst
    have hne : ∀ j ∈ rest, ∀ u, ops[j]? = some u → u.dst ≠ some d := fun j hj u hu => by
      have := List.all_eq_true.1 hdst j hj
      rw [hu] at this
      simpa using this
    have ready : i ∈ Region.ready md ops listed := by simpa using hready
    -- the value is the same in every world that meets S
    have key : ∃ v, YieldsIf P ops S o v a ∧ ∀ w', S w' → rowWp P ops b rest (a.put o.dst v) w' := by
      by_cases hw : Region.wanted o (yielded ops a.tmps) = true
      · rw [if_pos hw] at h1
        unfold Oper.valWp at h1
        split at h1
        · rename_i v w1 hr
          refine ⟨(a.put (some d) v).tmps.getD d v, ?_⟩
          have hall : ∀ w', S w' → ∃ v', (execOp a.eval o).run P w' = .ok (.value v') w' ∧ rowWp P ops b rest (a.put o.dst v') w' := fun w' hS' => by
            obtain ⟨o', ho', h2⟩ := H w' hS'
            obtain rfl : o' = o := Option.some.inj (ho'.symm.trans ho)
            rw [if_pos hw] at h2
            unfold Oper.valWp at h2
            split at h2
            · rename_i v' w2 hr'
              obtain ⟨rfl, h2⟩ := h2
              exact ⟨v', hr', h2⟩
            · exact h2.elim
          by_cases hdl : d < a.tmps.size
          · have e0 : (a.put (some d) v).tmps.getD d v = v := by simp [Act.put, hdl]
            rw [e0]
            have hv : ∀ w', S w' → (execOp a.eval o).run P w' = .ok (.value v) w' ∧ rowWp P ops b rest (a.put o.dst v) w' := fun w' hS' => by
              obtain ⟨v', hr', h2⟩ := hall w' hS'
              have k1 := rowWp_keeps rest _ hne h2
              have k2 := rowWp_keeps rest _ hne h1.2
              rw [hd] at k1 k2
              have : v' = v := by
                simp only [Act.put] at k1 k2
                rw [Array.getElem?_setIfInBounds_self_of_lt hdl] at k1 k2
                exact Option.some.inj (k1.symm.trans k2)
              subst this
              exact ⟨hr', h2⟩
            exact ⟨.inl ⟨hw, fun w' hS' => (hv w' hS').1⟩, fun w' hS' => (hv w' hS').2⟩
          · -- no such place: not met
            exfalso
            exact hdl (by rw [hsz]; exact hdl0)
        · exact h1.elim
      · rw [if_neg hw] at h1
        refine ⟨undef, .inr ⟨by simpa using hw, rfl⟩, fun w' hS' => ?_⟩
        obtain ⟨o', ho', h2⟩ := H w' hS'
        obtain rfl : o' = o := Option.some.inj (ho'.symm.trans ho)
        rw [if_neg hw] at h2
        exact h2
    obtain ⟨v, hy, H'⟩ := key
    rw [show fuel + (i :: rest).length = (fuel + rest.length) + 1 from by simp only [List.length_cons]; omega]
    exact wpAnyS_first ho hiN hT (Region.noSelect_spec hsel) (fun c a w => hQ c a _ _ w) _ listed a w hno hcl (Region.free_spec ho hfree) ready hy hS
      (wpAnyS_row hT hsel hQ hS rest fuel _ _ sz (by rw [← hsz]; simp only [Act.put]; split <;> simp) (noTail_set hno hiN) (closedL_set hcl ready) hB H' h)

/-- 'closedL', to be decided. -/
def closedB (md : Region.Mode) (ops : Array Oper) (listed : Array Bool) : Bool :=
  (List.range ops.size).all fun j => !listed.getD j false || (match ops[j]? with | some o => o.after.all fun e => !Region.binds md e || listed.getD e.on false | none => true)
theorem closedB_spec {listed : Array Bool} (h : closedB md ops listed = true) : closedL md ops listed := by
  intro j o hj hl e he hb
  have := List.all_eq_true.1 h j (List.mem_range.2 (Array.getElem?_eq_some_iff.1 hj).1)
  rw [hj, hl] at this
  simp only [Bool.not_true, Bool.false_or] at this
  have := (Array.all_eq_true_iff_forall_mem.1 this) e he
  rw [hb] at this
  simpa using this
/-! ### The moves -/
/-- The beginning. -/
theorem drawn_start {id : Nat} {a : Act} {w : World} (N : Nat) (S : World → Prop) (hm : P.follows .mixedOrders = true)
    (h : wpAnyS P .any ops Q S N ops.size (Array.replicate ops.size false) a w.drew) : (Code.region id ops true).wp P Q a w :=
  wp_region_any hm (wpAny_of_S _ _ _ _ h)
/-- A row that only reads. -/
theorem drawn_row (l : List Nat) (b : Act) {fuel : Nat} {listed : Array Bool} {a : Act} {w : World} {sz : Nat} (hsz : a.tmps.size = sz)
    (hT : (tailB md ops N && Region.noSelect ops && ((List.range (listed.size - N)).all fun i => !listed.getD (N + i) false) && closedB md ops listed && takeB md ops N sz listed l) = true)
    (hQ : ∀ c a (d : Option Tmp) v w, Q (.panic c) (a.put d v) w → Q (.panic c) a w) (hS : S w)
    (H : ∀ w', S w' → rowWp P ops b l a w')
    (h : wpAnyS P md ops Q S N fuel (markAll listed l) b w) : wpAnyS P md ops Q S N (fuel + l.length) listed a w := by
  simp only [Bool.and_eq_true] at hT
  obtain ⟨⟨⟨⟨h1, h2⟩, h3⟩, h3c⟩, h4⟩ := hT
  refine wpAnyS_row h1 h2 hQ hS l fuel listed a sz hsz ?_ (closedB_spec h3c) h4 H h
  intro t ht
  by_cases hlt : t < listed.size
  · have := List.all_eq_true.1 h3 (t - N) (List.mem_range.2 (by omega))
    rw [show N + (t - N) = t from by omega] at this
    simpa using this
  · simp [Array.getElem?_eq_none (Nat.le_of_not_lt hlt)]
/-- The one operation that may come up now, below N. -/
theorem drawn_one (i : Nat) {o : Oper} {fuel : Nat} {listed : Array Bool} {a : Act} {w : World} (ho : ops[i]? = some o) (hr : Region.ready md ops listed = [i])
    (h : wpList P ops (Exit.then (fun a' w' => S w' ∧ wpAnyS P md ops Q S N fuel (listed.setIfInBounds i true) a' w') Q) [o] a w) : wpAnyS P md ops Q S N (fuel + 1) listed a w := by
  refine ⟨fun h0 => (by rw [h0] at hr; cases hr), fun j hj => ?_⟩
  rw [hr] at hj
  obtain rfl : j = i := by simpa using hj
  unfold wpOp
  simp only [ho]
  unfold wpList at h
  split
  · rename_i hw
    rw [if_pos hw] at h
    rcases h with h | ⟨ha, a', w', hl⟩
    · exact .inl (by
        revert h
        unfold Oper.wp
        generalize (execOp a.eval o).run P w = r
        intro h
        cases r with
        | ok n w' =>
          cases n <;> simp only [Oper.upon] at h ⊢
          case value v => exact ⟨.inr h.1, h.2⟩
          case skip => exact ⟨.inr h.1, h.2⟩
          case defer d => exact ⟨.inr h.1, h.2⟩
          case enter f args =>
            refine Calls.mono h (fun e w'' he => ?_)
            cases e with
            | returned v => exact ⟨.inr he.1, he.2⟩
            | panicked c => exact he
            | outgrown => exact he
          case row row args => exact Rows.mono h (fun v w'' he => ⟨.inr he.1, he.2⟩)
        | halt x w' => cases x <;> simp only [Oper.upon] at h ⊢ <;> exact h)
    · exact .inr ⟨ha, a', w', hl⟩
  · rename_i hw
    rw [if_neg hw] at h
    exact ⟨.inr h.1, h.2⟩
/-- The last row, forced. -/
def forcedB (md : Region.Mode) (ops : Array Oper) : Array Bool → List Nat → Bool
  | listed, [] => (Region.ready md ops listed).isEmpty
  | listed, i :: rest => (Region.ready md ops listed == [i]) && forcedB md ops (listed.setIfInBounds i true) rest
theorem drawn_tail_go : ∀ (l : List Nat) (listed : Array Bool) (a : Act) (w : World), (∀ i ∈ l, N ≤ i) → forcedB md ops listed l = true →
    wpOps P ops Q l a w → wpAnyS P md ops Q S N l.length listed a w
  | [], listed, a, w, _, hB, h => ⟨by simpa [forcedB] using hB, h⟩
  | i :: rest, listed, a, w, hN, hB, h => by
    simp only [forcedB, Bool.and_eq_true, beq_iff_eq] at hB
    refine ⟨fun h0 => (by rw [h0] at hB; cases hB.1), fun j hj => ?_⟩
    rw [hB.1] at hj
    obtain rfl : j = i := by simpa using hj
    rw [wpOps_cons] at h
    exact wpOp_mono (fun a' w' h' => ⟨.inl (hN j (List.mem_cons_self ..)), drawn_tail_go rest _ a' w' (fun k hk => hN k (List.mem_cons_of_mem _ hk)) hB.2 h'⟩) h
theorem drawn_tail {ol : List Oper} {listed : Array Bool} {a : Act} {w : World} (hol : ops.toList.drop N = ol) (hB : forcedB md ops listed (List.range' N ol.length) = true)
    (h : wpList P ops Q ol a w) : wpAnyS P md ops Q S N ol.length listed a w := by
  have := drawn_tail_go (P := P) (Q := Q) (S := S) (N := N) (md := md) (ops := ops) (List.range' N ol.length) listed a w (fun i hi => by have := List.mem_range'_1.1 hi; omega) hB
    (by rw [wpOps_eq_wpList ol N (fun j => by rw [← hol, List.getElem?_drop]; simp)]; exact h)
  simpa using this
end

section
variable {P : Program} {ops : Array Oper} {Q : Exit → Act → World → Prop} {S : World → Prop} {N : Nat}
/-- Q, but never at a panic. -/
def NoP (Q : Exit → Act → World → Prop) : Exit → Act → World → Prop
  | .panic _, _, _ => False
  | e, a, w => Q e a w
theorem NoP.imp : ∀ (e : Exit) (a : Act) (w : World), NoP Q e a w → Q e a w := fun e a w h => by
  cases e <;> first | exact h | exact (h : False).elim
theorem NoP.still : ∀ c a (d : Option Tmp) v w, NoP Q (.panic c) (a.put d v) w → NoP Q (.panic c) a w := fun _ _ _ _ _ h => h
/-- A row that only reads, and what is asked of its end. -/
def rowK (P : Program) (ops : Array Oper) (E : Act → Prop) : List Nat → Act → World → Prop
  | [], a, _ => E a
  | i :: rest, a, w => ∃ o, ops[i]? = some o ∧ if Region.wanted o (yielded ops a.tmps) = true then o.valWp P a w (fun a' => rowK P ops E rest a' w) else rowK P ops E rest (a.put o.dst undef) w
theorem rowK_step {E : Act → Prop} {i : Nat} {rest : List Nat} {a : Act} {w : World} {o : Oper} (ho : ops[i]? = some o)
    (h : ∀ K : Act → Prop, (∀ a', rowK P ops E rest a' w → K a') → if Region.wanted o (yielded ops a.tmps) = true then o.valWp P a w K else K (a.put o.dst undef)) :
    rowK P ops E (i :: rest) a w := ⟨o, ho, h _ (fun _ h => h)⟩
/-- An operation that reckons a value, by itself. -/
def plainV : Op → Bool
  | .move _ | .assign _ | .load .. | .binOp .. | .unOp .. | .convert .. | .fieldAddr .. | .field .. | .indexAddr .. | .index .. | .extract .. | .build .. | .slice .. | .lookup .. => true
  | _ => false
theorem valWp_of_wp {o : Oper} {a : Act} {w : World} {K : Act → World → Prop} {K' : Act → Prop} (hp : plainV o.op = true) (hw : o.wp P a w K (fun _ _ _ => False)) (hK : ∀ a' w', K a' w' → w' = w ∧ K' a') : o.valWp P a w K' := by
  obtain ⟨dst, op, ty, pos, aft, gd⟩ := o
  have key : ∀ (s : Sem Value), (∀ x, execOp a.eval { dst := dst, op := op, type := ty, pos := pos, after := aft, guard := gd } = x → x = (do pure (Next.value (← s)))) →
      Oper.valWp P { dst := dst, op := op, type := ty, pos := pos, after := aft, guard := gd } a w K' := fun s hs => by
    unfold Oper.wp at hw
    unfold Oper.valWp
    rw [hs _ rfl] at hw ⊢
    rw [Sem.run_bind] at hw ⊢
    cases hr : s.run P w with
    | ok v w' => rw [hr] at hw; exact hK _ _ hw
    | halt h w' => rw [hr] at hw; cases h <;> exact hw.elim
  cases op <;> first | cases hp | skip
  all_goals first
    | exact key (pure _) (fun x hx => by rw [← hx]; rfl)
    | exact key _ (fun x hx => hx.symm)
theorem rowK_step2 {E : Act → Prop} {i : Nat} {rest : List Nat} {a : Act} {w : World} {o : Oper} (ho : ops[i]? = some o) (hp : (plainV o.op && o.guard.isNone) = true)
    (h : ∀ K : Act → World → Prop, (∀ a', rowK P ops E rest a' w → K a' w) → o.wp P a w K (fun _ _ _ => False)) : rowK P ops E (i :: rest) a w := by
  rw [Bool.and_eq_true] at hp
  refine ⟨o, ho, ?_⟩
  have hg : Region.wanted o (yielded ops a.tmps) = true := by
    unfold Region.wanted
    cases hgd : o.guard with
    | none => rfl
    | some g => rw [hgd] at hp; cases hp.2
  rw [if_pos hg]
  exact valWp_of_wp hp.1 (h (fun a' w' => w' = w ∧ rowK P ops E rest a' w) (fun a' ha => ⟨rfl, ha⟩)) (fun _ _ h => h)
theorem rowWp_step2 {b : Act} {i : Nat} {rest : List Nat} {a : Act} {w : World} {o : Oper} (ho : ops[i]? = some o) (hp : (plainV o.op && o.guard.isNone) = true)
    (h : ∀ K : Act → World → Prop, (∀ a', rowWp P ops b rest a' w → K a' w) → o.wp P a w K (fun _ _ _ => False)) : rowWp P ops b (i :: rest) a w := by
  rw [Bool.and_eq_true] at hp
  refine ⟨o, ho, ?_⟩
  have hg : Region.wanted o (yielded ops a.tmps) = true := by
    unfold Region.wanted
    cases hgd : o.guard with
    | none => rfl
    | some g => rw [hgd] at hp; cases hp.2
  rw [if_pos hg]
  exact valWp_of_wp hp.1 (h (fun a' w' => w' = w ∧ rowWp P ops b rest a' w) (fun a' ha => ⟨rfl, ha⟩)) (fun _ _ h => h)
theorem rowK_nil {E : Act → Prop} {a : Act} {w : World} (h : E a) : rowK P ops E [] a w := h
theorem rowK_out {E : Act → Prop} {w : World} : ∀ {l : List Nat} {a : Act}, rowK P ops E l a w → ∃ b, rowWp P ops b l a w ∧ E b
  | [], a, h => ⟨a, rfl, h⟩
  | i :: rest, a, h => by
    obtain ⟨o, ho, h⟩ := h
    split at h
    · rename_i hw
      unfold Oper.valWp at h
      split at h
      · rename_i v w1 hr
        obtain ⟨rfl, h⟩ := h
        obtain ⟨b, h1, h2⟩ := rowK_out h
        exact ⟨b, ⟨o, ho, by rw [if_pos hw]; unfold Oper.valWp; rw [hr]; exact ⟨rfl, h1⟩⟩, h2⟩
      · exact h.elim
    · rename_i hw
      obtain ⟨b, h1, h2⟩ := rowK_out h
      exact ⟨b, ⟨o, ho, by rw [if_neg hw]; exact h1⟩, h2⟩
/-- The tail's last row. -/
def tailK (P : Program) (ops : Array Oper) (Q : Exit → Act → World → Prop) (ol : List Oper) (b : Act) (w : World) : Prop :=
  ∀ K : Act → World → Prop, (∀ a w, Q .normal a w → K a w) → wpList P ops (Exit.then K fun e a w => e = .outgrown ∧ Q e a w) ol b w
theorem wpList_imp {Q Q' : Exit → Act → World → Prop} (hq : ∀ e a w, Q e a w → Q' e a w) : ∀ (l : List Oper) (a : Act) (w : World), wpList P ops Q l a w → wpList P ops Q' l a w
  | [], a, w, h => hq _ _ _ h
  | o :: rest, a, w, h => by
    unfold wpList at *
    split
    · rename_i hw
      rw [if_pos hw] at h
      rcases h with h | ⟨ha, a', w', hl⟩
      · left
        revert h
        unfold Oper.wp
        generalize (execOp a.eval o).run P w = r
        intro h
        cases r with
        | ok n w' =>
          cases n <;> simp only [Oper.upon] at h ⊢
          case value v => exact wpList_imp hq rest _ _ h
          case skip => exact wpList_imp hq rest _ _ h
          case defer d => exact wpList_imp hq rest _ _ h
          case enter f args =>
            refine Calls.mono h (fun e w'' he => ?_)
            cases e with
            | returned v => exact wpList_imp hq rest _ _ he
            | panicked c => exact hq _ _ _ he
            | outgrown => exact (show LetsOut _ from let ⟨a, w, h⟩ := (he : LetsOut Q); ⟨a, w, hq _ _ _ h⟩)
          case row row args => exact Rows.mono h (fun v w'' he => wpList_imp hq rest _ _ he)
        | halt x w' => cases x <;> simp only [Oper.upon] at h ⊢; exact hq _ _ _ h
      · exact .inr ⟨ha, a', w', hq _ _ _ hl⟩
    · rename_i hw
      rw [if_neg hw] at h
      exact wpList_imp hq rest _ _ h
theorem tailK_out {ol : List Oper} {b : Act} {w : World} (h : tailK P ops Q ol b w) : wpList P ops (NoP Q) ol b w :=
  wpList_imp (fun e a w h => by
    cases e <;> first | exact h | exact h.2 | (exact absurd h.1 (by simp))) ol b w (h (fun a w => Q .normal a w) (fun _ _ h => h))
/-- THE USUAL REGION: its first N operations only read, what is left is forced. -/
def headB (ops : Array Oper) (N sz n : Nat) : Bool :=
  tailB .any ops N && Region.noSelect ops && ((List.range (ops.size - N)).all fun i => !(Array.replicate ops.size false).getD (N + i) false) && closedB .any ops (Array.replicate ops.size false) &&
  takeB .any ops N sz (Array.replicate ops.size false) (List.range N) && forcedB .any ops (markAll (Array.replicate ops.size false) (List.range N)) (List.range' N n) && decide (n + N = ops.size)
theorem drawn_head {id : Nat} {a : Act} {w : World} (N : Nat) {sz : Nat} {ol : List Oper} (hm : P.follows .mixedOrders = true) (hsz : a.tmps.size = sz)
    (hol : ops.toList.drop N = ol) (chk : headB ops N sz ol.length = true)
    (H : rowK P ops (fun b => tailK P ops Q ol b w.drew) (List.range N) a w.drew) : (Code.region id ops true).wp P Q a w := by
  simp only [headB, Bool.and_eq_true, decide_eq_true_eq] at chk
  obtain ⟨⟨⟨⟨⟨⟨h1, h2⟩, h3⟩, h3c⟩, h4⟩, h5⟩, h6⟩ := chk
  obtain ⟨b, H, T⟩ := rowK_out H
  refine Code.wp_mono NoP.imp (drawn_start N (fun w' => w' = w.drew) hm ?_)
  have := drawn_row (P := P) (Q := NoP Q) (md := .any) (S := fun w' => w' = w.drew) (N := N) (fuel := ol.length) (listed := Array.replicate ops.size false) (List.range N) b hsz
    (by simp only [Bool.and_eq_true]; exact ⟨⟨⟨⟨h1, h2⟩, by simpa using h3⟩, h3c⟩, h4⟩) NoP.still rfl (fun w' hw' => by subst hw'; exact H) (drawn_tail hol h5 (tailK_out T))
  rw [List.length_range, h6] at this
  exact this
/-- THE REGION WITH MORE THAN ONE WRITER: the beginning. -/
theorem drawn_begin {id : Nat} {a : Act} {w : World} (N : Nat) (S : World → Prop) (hm : P.follows .mixedOrders = true)
    (h : wpAnyS P .any ops (NoP Q) S N ops.size (Array.replicate ops.size false) a w.drew) : (Code.region id ops true).wp P Q a w :=
  Code.wp_mono NoP.imp (drawn_start N S hm h)
/-- .. a row that only reads, walked once for its end, once in whatever world meets S .. -/
theorem drawn_reads (l : List Nat) {fuel : Nat} {listed : Array Bool} {a : Act} {w : World} {sz : Nat} (hsz : a.tmps.size = sz)
    (hT : (tailB .any ops N && Region.noSelect ops && ((List.range (listed.size - N)).all fun i => !listed.getD (N + i) false) && closedB .any ops listed && takeB .any ops N sz listed l) = true)
    (hS : S w)
    (H : rowK P ops (fun b => (∀ w', S w' → rowWp P ops b l a w') ∧ wpAnyS P .any ops (NoP Q) S N fuel (markAll listed l) b w) l a w) :
    wpAnyS P .any ops (NoP Q) S N (fuel + l.length) listed a w := by
  obtain ⟨b, _, H, h⟩ := rowK_out H
  exact drawn_row l b hsz hT NoP.still hS H h
/-- .. the one that may come up now .. -/
theorem drawn_next (i : Nat) {o : Oper} {fuel : Nat} {listed : Array Bool} {a : Act} {w : World} (ho : ops[i]? = some o) (hr : Region.ready .any ops listed = [i])
    (h : ∀ K : Act → World → Prop, (∀ a' w', S w' ∧ wpAnyS P .any ops (NoP Q) S N fuel (listed.setIfInBounds i true) a' w' → K a' w') →
      wpList P ops (Exit.then K fun e a w => e = .outgrown ∧ Q e a w) [o] a w) : wpAnyS P .any ops (NoP Q) S N (fuel + 1) listed a w :=
  drawn_one i ho hr (wpList_imp (fun e a w h => by
    cases e <;> first | exact h | exact h.2 | (exact absurd h.1 (by simp))) _ _ _ (h _ (fun _ _ h => h)))
/-- .. two may come up now .. -/
theorem drawn_next2 (i j : Nat) {o u : Oper} {fuel : Nat} {listed : Array Bool} {a : Act} {w : World} (ho : ops[i]? = some o) (hu : ops[j]? = some u) (hr : Region.ready .any ops listed = [i, j])
    (h : ∀ K : Act → World → Prop, (∀ a' w', S w' ∧ wpAnyS P .any ops (NoP Q) S N fuel (listed.setIfInBounds i true) a' w' → K a' w') →
      wpList P ops (Exit.then K fun e a w => e = .outgrown ∧ Q e a w) [o] a w)
    (k : ∀ K : Act → World → Prop, (∀ a' w', S w' ∧ wpAnyS P .any ops (NoP Q) S N fuel (listed.setIfInBounds j true) a' w' → K a' w') →
      wpList P ops (Exit.then K fun e a w => e = .outgrown ∧ Q e a w) [u] a w) : wpAnyS P .any ops (NoP Q) S N (fuel + 1) listed a w := by
  have one : ∀ (i : Nat) (o : Oper), ops[i]? = some o →
      (∀ K : Act → World → Prop, (∀ a' w', S w' ∧ wpAnyS P .any ops (NoP Q) S N fuel (listed.setIfInBounds i true) a' w' → K a' w') →
      wpList P ops (Exit.then K fun e a w => e = .outgrown ∧ Q e a w) [o] a w) →
      wpOp P ops (NoP Q) i (fun a' w' => (N ≤ i ∨ S w') ∧ wpAnyS P .any ops (NoP Q) S N fuel (listed.setIfInBounds i true) a' w') a w := by
    intro i o ho h
    have h1 : wpList P ops (Exit.then (fun a' w' => (N ≤ i ∨ S w') ∧ wpAnyS P .any ops (NoP Q) S N fuel (listed.setIfInBounds i true) a' w') (NoP Q)) [o] a w :=
      wpList_imp (fun e a w h => by
        cases e <;> first | exact h | exact h.2 | (exact absurd h.1 (by simp))) _ _ _ (h (fun a' w' => (N ≤ i ∨ S w') ∧ wpAnyS P .any ops (NoP Q) S N fuel (listed.setIfInBounds i true) a' w') (fun _ _ h => ⟨.inr h.1, h.2⟩))
    unfold wpOp
    simp only [ho]
    unfold wpList at h1
    split
    · rename_i hw
      rw [if_pos hw] at h1
      rcases h1 with h1 | ⟨ha, a', w', hl⟩
      · left
        revert h1
        unfold Oper.wp
        generalize (execOp a.eval o).run P w = r
        intro h1
        cases r with
        | ok n w' =>
          cases n <;> simp only [Oper.upon] at h1 ⊢
          case value v => exact h1
          case skip => exact h1
          case defer d => exact h1
          case enter f args =>
            refine Calls.mono h1 (fun e w'' he => ?_)
            cases e <;> exact he
          case row row args => exact Rows.mono h1 (fun v w'' he => he)
        | halt x w' => cases x <;> simp only [Oper.upon] at h1 ⊢ <;> exact h1
      · exact .inr ⟨ha, a', w', hl⟩
    · rename_i hw
      rw [if_neg hw] at h1
      exact h1
  refine ⟨fun h0 => (by rw [h0] at hr; cases hr), fun l hl => ?_⟩
  rw [hr] at hl
  rcases List.mem_cons.1 hl with rfl | hl
  · exact one _ _ ho h
  · obtain rfl : l = j := by simpa using hl
    exact one _ _ hu k
/-- .. the last row. -/
theorem drawn_end {ol : List Oper} {listed : Array Bool} {a : Act} {w : World} (hol : ops.toList.drop N = ol) (hB : forcedB .any ops listed (List.range' N ol.length) = true)
    (h : tailK P ops Q ol a w) : wpAnyS P .any ops (NoP Q) S N ol.length listed a w := drawn_tail hol hB (tailK_out h)
end

attribute [go_sem] Oper.valWp
end Go.Dr
