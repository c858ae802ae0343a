/- Joined: GnC, GnD. -/
import Derived.Test.YtombhkekocbfoaaZb
import Derived.OrdersIn
import Derived.RangeFuncCalls
set_option linter.unusedVariables false
set_option linter.unusedSimpArgs false
namespace Go
open Go.Dr
section
variable {P : Program} {ops : Array Oper} {md : Region.Mode} {C : World → Prop} {n x : Nat}
/-- All of the head but x has come. -/
def lateOnly (n x : Nat) (listed : Array Bool) : Prop := ∀ i, i < n → i ≠ x → listed.getD i true = true
def Region.sinkL (md : Region.Mode) (ops : Array Oper) (n x : Nat) : Bool :=
  (List.range n).all fun i => i == x || (List.range (n + 1)).any fun j => decide (i < j) && j != x && Region.waitsFor md ops j i
theorem tail_waitsL {listed : Array Bool} (hx : x < n) (hs : Region.sinkL md ops n x = true) (hc : Region.chainB md ops n = true) (hn : n < ops.size) (inv : HeadInv md ops n listed) :
    ∀ (d i : Nat), n - i = d → i < n → i ≠ x → listed.getD i true = false → ∀ t, n ≤ t → t ∉ Region.ready md ops listed := by
  intro d
  induction d using Nat.strongRecOn with
  | _ d ih =>
    intro i hd hi hix hun t ht hr
    obtain ⟨_, ot, hot, hall⟩ := mem_ready.1 hr
    have htlt : t < ops.size := (Array.getElem?_eq_some_iff.1 hot).1
    by_cases htn : t = n
    · subst htn
      have h1 := List.all_eq_true.1 hs i (List.mem_range.2 hi)
      simp only [Bool.or_eq_true, beq_iff_eq, hix, false_or] at h1
      obtain ⟨j, hj, hj2⟩ := List.any_eq_true.1 h1
      simp only [Bool.and_eq_true, decide_eq_true_eq, bne_iff_ne, ne_eq] at hj2
      obtain ⟨oj, hoj, e, he, hb, hon⟩ := Region.waitsFor_spec hj2.2
      have hjle : j ≤ t := by have := List.mem_range.1 hj; omega
      by_cases hjt : j = t
      · subst hjt
        have : oj = ot := Option.some.inj (hoj.symm.trans hot)
        subst this
        have h2 := hall e he hb
        rw [hon, getD_both hun] at h2
        cases h2
      · cases hl : listed.getD j false with
        | true =>
          have h2 := inv.closed j oj hoj hl e he hb
          rw [hon, getD_both hun] at h2
          cases h2
        | false =>
          have hjs : j < listed.size := by rw [inv.size]; omega
          exact ih (t - j) (by omega) j rfl (by omega) hj2.1.2 (getD_in hjs hl) t (Nat.le_refl _) hr
    · have h1 := List.all_eq_true.1 hc t (List.mem_range.2 htlt)
      simp only [Bool.or_eq_true, decide_eq_true_eq] at h1
      rcases h1 with h1 | h1
      · omega
      · obtain ⟨o', ho', e, he, hb, hon⟩ := Region.waitsFor_spec h1
        have : o' = ot := Option.some.inj (ho'.symm.trans hot)
        subst this
        have h2 := hall e he hb
        rw [hon, getD_both (inv.tail (t - 1) (by omega) (by omega))] at h2
        cases h2
/-- One operation of the head: x needs no memory. -/
def hOp (P : Program) (ops : Array Oper) (C : World → Prop) (x i : Nat) (K : Act → Prop) (a : Act) : Prop :=
  if i = x then ∃ o v, ops[i]? = some o ∧ Yields P ops o v a ∧ K (a.put o.dst v) else qOp P ops C i K a
theorem hOp_mono {i : Nat} {K K' : Act → Prop} {a : Act} (h : ∀ a, K a → K' a) (hh : hOp P ops C x i K a) : hOp P ops C x i K' a := by
  unfold hOp at *
  split
  · rename_i hx
    rw [if_pos hx] at hh
    obtain ⟨o, v, h1, h2, h3⟩ := hh
    exact ⟨o, v, h1, h2, h _ h3⟩
  · rename_i hx
    rw [if_neg hx] at hh
    exact qOp_mono h hh
theorem hOp_put {j : Nat} {oi oj : Oper} {v : Value} (hj : ops[j]? = some oj) (hap : oi.apart ops oj = true)
    (hsj : ∀ cs b, oj.op ≠ .select cs b) {Y : Act → Prop} (keep : ∀ a, Y a → ∀ u, Y (a.put oj.dst u)) {K : Act → Prop} {a : Act}
    (hy : Y a) (h : hOp P ops C x j K (a.put oi.dst v)) :
    hOp P ops C x j (fun a' => Y a' ∧ K (a'.put oi.dst v)) a := by
  obtain ⟨h1, h2, h3⟩ := Oper.apart_spec hap
  unfold hOp at *
  split
  · rename_i hx
    rw [if_pos hx] at h
    obtain ⟨o, u, ho, hu, hK⟩ := h
    obtain rfl : o = oj := Option.some.inj (ho.symm.trans hj)
    refine ⟨o, u, ho, ?_, keep a hy u, by rw [← Act.put_comm a v u h2]; exact hK⟩
    unfold Yields at *
    rw [wanted_put o a oi.dst v h1] at hu
    simpa only [execOp_put o hsj a oi.dst v h1] using hu
  · rename_i hx
    rw [if_neg hx] at h
    unfold qOp at *
    simp only [hj] at *
    rw [wanted_put oj a oi.dst v h1] at h
    split
    · rename_i hw
      simp only [hw, if_true] at h
      obtain ⟨u, hu, hn⟩ := h
      refine ⟨u, fun w hw' => ?_, keep a hy u, by rw [← Act.put_comm a v u h2]; exact hn⟩
      have := hu w hw'
      unfold Oper.quietAt at *
      rwa [execOp_put oj hsj a oi.dst v h1] at this
    · rename_i hw
      simp only [hw] at h
      exact ⟨keep a hy _, by rw [← Act.put_comm a v undef h2]; exact h⟩
def wpAnyL2 (P : Program) (md : Region.Mode) (ops : Array Oper) (C : World → Prop) (n x : Nat) (L : Array Bool → Act → Prop) : Nat → Array Bool → Act → Prop
  | 0, listed, a => L listed a
  | f + 1, listed, a =>
    (lateOnly n x listed → x ∈ Region.ready md ops listed) ∧ Region.ready md ops listed ≠ [] ∧
      ∀ i ∈ Region.ready md ops listed, (i < n → hOp P ops C x i (wpAnyL2 P md ops C n x L f (listed.setIfInBounds i true)) a) ∧ (n ≤ i → lateOnly n x listed)
theorem lateOnly_unset {listed : Array Bool} (h : lateOnly n x (listed.setIfInBounds x true)) : lateOnly n x listed := fun i hi hix => by
  have := h i hi hix
  rwa [getD_set_ne true (Ne.symm hix)] at this
theorem wpAnyL2_first {i : Nat} {oi : Oper} {v : Value} {L : Array Bool → Act → Prop} (hi : ops[i]? = some oi) (hsel : ∀ (j : Nat) (o : Oper) cs b, ops[j]? = some o → o.op ≠ .select cs b)
    (hx : x < n) (hs : Region.sinkL md ops n x = true) (hc : Region.chainB md ops n = true) (hn : n < ops.size) (hin : i < n)
    (Y : Act → Prop) (keep : ∀ (j : Nat) (oj : Oper), ops[j]? = some oj → oi.apart ops oj = true → ∀ a, Y a → ∀ u, Y (a.put oj.dst u)) (close : ∀ (K : Act → Prop) a, Y a → K (a.put oi.dst v) → hOp P ops C x i K a)
    (hdone : ∀ listed a, L listed a → ∀ k, k < n → listed.getD k true = true) :
    ∀ (f : Nat) (listed : Array Bool) (a : Act), HeadInv md ops n listed →
      (∀ j oj, ops[j]? = some oj → j ≠ i → listed.getD j true = false → (∀ e ∈ oj.after, Region.binds md e = true → e.on ≠ i) → oi.apart ops oj = true) →
      i ∈ Region.ready md ops listed → Y a →
      wpAnyL2 P md ops C n x L f (listed.setIfInBounds i true) (a.put oi.dst v) → wpAnyL2 P md ops C n x L (f + 1) listed a := by
  intro f
  induction f with
  | zero =>
    intro listed a inv _ hr hy H
    have hun := (mem_ready.1 hr).1
    refine ⟨fun hl => ?_, fun h => (by rw [h] at hr; cases hr), fun j hj => ?_⟩
    · by_cases hix : i = x
      · rw [← hix]; exact hr
      · have := hl i hin hix
        rw [hun] at this; cases this
    by_cases hji : j = i
    · subst hji
      exact ⟨fun _ => close _ _ hy H, fun h => by omega⟩
    · have hall := hdone _ _ H
      have hjun := (mem_ready.1 hj).1
      refine ⟨fun hjn => ?_, fun hjn => ?_⟩
      · have := hall j hjn
        rw [getD_set_ne true (Ne.symm hji), hjun] at this
        cases this
      · by_cases hix : i = x
        · subst hix
          exact lateOnly_unset fun k hk _ => hall k hk
        · exact absurd hj (tail_waitsL hx hs hc hn inv _ i rfl hin hix hun j hjn)
  | succ f ih =>
    intro listed a inv hfree hr hy H
    have hun := (mem_ready.1 hr).1
    refine ⟨fun hl => ?_, fun h => (by rw [h] at hr; cases hr), fun j hj => ?_⟩
    · by_cases hix : i = x
      · rw [← hix]; exact hr
      · have := hl i hin hix
        rw [hun] at this; cases this
    by_cases hji : j = i
    · subst hji
      exact ⟨fun _ => close _ _ hy H, fun h => by omega⟩
    · have h1 := H.2.2 j (ready_mono hj hji)
      refine ⟨fun hjn => ?_, fun hjn => ?_⟩
      · obtain ⟨hjun, oj, hoj, hall⟩ := mem_ready.1 hj
        have hnot : ∀ e ∈ oj.after, Region.binds md e = true → e.on ≠ i := fun e he hb heq => by
          have h1 := hall e he hb
          rw [heq, getD_both hun] at h1
          cases h1
        have hap := hfree j oj hoj hji hjun hnot
        have h2 := hOp_put hoj hap (fun cs b => hsel j oj cs b hoj) (keep j oj hoj hap) hy (h1.1 hjn)
        have hfree' : ∀ k ok, ops[k]? = some ok → k ≠ i → (listed.setIfInBounds j true).getD k true = false →
            (∀ e ∈ ok.after, Region.binds md e = true → e.on ≠ i) → oi.apart ops ok = true := fun k ok hk hki hun hno => by
          refine hfree k ok hk hki ?_ hno
          by_cases hjk : j = k
          · subst hjk; exact hjun
          · rw [getD_set_ne true hjk] at hun; exact hun
        refine hOp_mono (fun a' h3 => ih (listed.setIfInBounds j true) a' (inv.set hj hjn) hfree' (ready_mono hr (Ne.symm hji)) h3.1 ?_) h2
        rw [Array.setIfInBounds_comm _ _ hji]
        exact h3.2
      · by_cases hix : i = x
        · subst hix
          exact lateOnly_unset (h1.2 hjn)
        · exact absurd hj (tail_waitsL hx hs hc hn inv _ i rfl hin hix hun j hjn)
theorem wpAnyS_of_any {Q : Exit → Act → World → Prop} {N : Nat} : ∀ (fuel : Nat) (listed : Array Bool) (a : Act) (w : World), wpAny P md ops Q fuel listed a w → Dr.wpAnyS P md ops Q (fun _ => True) N fuel listed a w
  | 0, _, _, _, h => h
  | fuel + 1, _, _, _, h => ⟨h.1, fun i hi => wpOp_mono (fun a' w' h' => ⟨.inr trivial, wpAnyS_of_any fuel _ a' w' h'⟩) (h.2 i hi)⟩
def Region.lateFree (md : Region.Mode) (ops : Array Oper) (n x : Nat) : Bool :=
  match ops[x]? with
  | none => false
  | some ox => (List.range ops.size).all fun j => decide (j < n) || Region.waitsFor md ops j x || (match ops[j]? with | some oj => ox.apart ops oj | none => true)
theorem Yields.in' {o : Oper} {v : Value} {a : Act} (h : Yields P ops o v a) : YieldsIn P ops C o v a := by
  rcases h with ⟨h1, h2⟩ | h
  · refine .inl ⟨h1, fun w _ => ?_⟩
    unfold Oper.quietAt
    rw [h2 w]
    exact ⟨rfl, rfl⟩
  · exact .inr h
theorem hOp.quiet {i : Nat} {K : Act → Prop} {a : Act} (h : hOp P ops C x i K a) : qOp P ops C i K a := by
  unfold hOp at h
  split at h
  · obtain ⟨o, v, ho, hy, hK⟩ := h
    exact hy.in'.qOp ho hK
  · exact h
theorem wpAny_of_headL {g : Nat} {L : Array Bool → Act → Prop} {Q : Exit → Act → World → Prop} (hx : x < n) (hn : n < ops.size) (hsel : ∀ (j : Nat) (o : Oper) cs b, ops[j]? = some o → o.op ≠ .select cs b)
    (hQ : ∀ c a (d : Option Tmp) v w, Q (.panic c) (a.put d v) w → Q (.panic c) a w) (hfx : Region.lateFree md ops n x = true)
    (hL : ∀ listed a w, C w → L listed a → wpAny P md ops Q g listed a w) :
    ∀ (f : Nat) (listed : Array Bool) (a : Act) (w : World), C w → HeadInv md ops n listed → wpAnyL2 P md ops C n x L f listed a → wpAny P md ops Q (f + g) listed a w
  | 0, listed, a, w, hw, _, h => by rw [Nat.zero_add]; exact hL _ _ _ hw h
  | f + 1, listed, a, w, hw, inv, h => by
    rw [show f + 1 + g = (f + g) + 1 by omega]
    by_cases hl : lateOnly n x listed
    · have hxr := h.1 hl
      have hc := (h.2.2 x hxr).1 hx
      unfold hOp at hc
      rw [if_pos rfl] at hc
      obtain ⟨ox, v, hox, hy, hK⟩ := hc
      have ih := wpAny_of_headL hx hn hsel hQ hfx hL f _ _ w hw (inv.set hxr hx) hK
      have hS := wpAnyS_of_any (N := ops.size) _ _ _ _ ih
      refine Dr.wpAny_of_S _ _ _ _ (Dr.wpAnyS_first hox (Nat.lt_trans hx hn) (N := ops.size) (by unfold Dr.tailB; simp) hsel (fun c a w h => hQ c a _ _ w h) (f + g) listed a w (fun t ht => ?_) (fun j o ho hlj e he hb => inv.closed j o ho hlj e he hb) ?_ hxr hy.yieldsIf trivial hS)
      · simp [Array.getElem?_eq_none (show listed.size ≤ t by rw [inv.size]; exact ht), Array.getD]
        intro h1
        rw [inv.size] at h1
        omega
      · intro j oj hoj hjx hun hno
        unfold Region.lateFree at hfx
        rw [hox] at hfx
        have hjs : j < ops.size := (Array.getElem?_eq_some_iff.1 hoj).1
        have h1 := List.all_eq_true.1 hfx j (List.mem_range.2 hjs)
        rw [hoj] at h1
        simp only [Bool.or_eq_true, decide_eq_true_eq] at h1
        rcases h1 with (h1 | h1) | h1
        · have := hl j h1 hjx
          rw [hun] at this; cases this
        · obtain ⟨o', ho', e, he, hb, hon⟩ := Region.waitsFor_spec h1
          obtain rfl : o' = oj := Option.some.inj (ho'.symm.trans hoj)
          exact absurd hon (hno e he hb)
        · exact h1
    · refine ⟨fun h0 => absurd h0 h.2.1, fun i hi => ?_⟩
      have hin : i < n := by
        rcases Nat.lt_or_ge i n with h1 | h1
        · exact h1
        · exact absurd ((h.2.2 i hi).2 h1) hl
      exact wpOp_of_qOp hw (fun a' w' hw' h' => wpAny_of_headL hx hn hsel hQ hfx hL f _ a' w' hw' (inv.set hi hin) h') ((h.2.2 i hi).1 hin).quiet
/-- The walk of the head, in the text's order; at x the value in whatever world. -/
def wpQuietL (P : Program) (ops : Array Oper) (C : World → Prop) (x : Nat) (Q : Act → Prop) : Nat → List Oper → Act → Prop
  | _, [], a => Q a
  | k, o :: rest, a => if k = x then ∃ v, Yields P ops o v a ∧ wpQuietL P ops C x Q (k + 1) rest (a.put o.dst v) else
      if Region.wanted o (yielded ops a.tmps) then o.quiet P a C (wpQuietL P ops C x Q (k + 1) rest) else wpQuietL P ops C x Q (k + 1) rest (a.put o.dst undef)
theorem Yields.keep {oi oj : Oper} {v : Value} (hsi : ∀ cs b, oi.op ≠ .select cs b) (hap : oi.apart ops oj = true) (a : Act) (hy : Yields P ops oi v a) (u : Value) : Yields P ops oi v (a.put oj.dst u) := by
  obtain ⟨_, _, h3⟩ := Oper.apart_spec hap
  unfold Yields at *
  rw [wanted_put oi a oj.dst u h3]
  simpa only [execOp_put oi hsi a oj.dst u h3] using hy
theorem wpAnyL2_lex {g : Nat} {Lq : Act → Prop} (hsel : Region.noSelect ops = true) (hx : x < n) (hs : Region.sinkL md ops n x = true) (hc : Region.chainB md ops n = true) (hn : n < ops.size) :
    ∀ (l : List Oper) (k : Nat) (listed : Array Bool) (a : Act), (∀ j, j < l.length → l[j]? = ops[k + j]?) → k + l.length = n → HeadInv md ops n listed → (∀ i, i < k → listed.getD i true = true) →
    Region.lexHead md ops g l.length k listed = true → wpQuietL P ops C x Lq k l a →
    wpAnyL2 P md ops C n x (fun listed' a' => (Region.seqB md ops g n listed' = true ∧ ∀ i, i < n → listed'.getD i true = true) ∧ Lq a') l.length listed a
  | [], k, listed, a, _, hk, _, hd, hB, h => by
    have : k = n := by simpa using hk
    subst this
    exact ⟨⟨by simpa [Region.lexHead] using hB, hd⟩, h⟩
  | o :: l, k, listed, a, hl, hk, inv, hd, hB, h => by
    have h0 : ops[k]? = some o := by simpa using (hl 0 (by simp)).symm
    simp only [List.length_cons, Region.lexHead, Bool.and_eq_true] at hB
    obtain ⟨⟨hr, hf⟩, hB'⟩ := hB
    have hkn : k < n := by simp only [List.length_cons] at hk; omega
    have hr' : k ∈ Region.ready md ops listed := by simpa using hr
    have hs' := Region.noSelect_spec hsel
    have hd' : ∀ i, i < k + 1 → (listed.setIfInBounds k true).getD i true = true := fun i hi => by
      by_cases hik : k = i
      · subst hik
        rcases Nat.lt_or_ge k listed.size with h1 | h1
        · simp [h1]
        · simp [Array.getD, h1]
      · rw [getD_set_ne true hik]; exact hd i (by omega)
    have next := fun v hK => wpAnyL2_lex (g := g) (Lq := Lq) hsel hx hs hc hn l (k + 1) (listed.setIfInBounds k true) (a.put o.dst v) (fun j hj => by have := hl (j + 1) (by simp; omega); simpa [Nat.add_assoc, Nat.add_comm 1 j] using this) (by simp only [List.length_cons] at hk; omega) (inv.set hr' hkn) hd' hB' hK
    by_cases hkx : k = x
    · unfold wpQuietL at h
      rw [if_pos hkx] at h
      obtain ⟨v, hy, hK⟩ := h
      exact wpAnyL2_first h0 hs' hx hs hc hn hkn (Yields P ops o v) (fun j oj hoj hap => Yields.keep (fun cs b => hs' k o cs b h0) hap) (fun K a hy hK => by unfold hOp; rw [if_pos hkx]; exact ⟨o, v, h0, hy, hK⟩)
        (fun _ _ hL => hL.1.2) l.length listed a inv (Region.free_spec h0 hf) hr' hy (next v hK)
    · have hq : qOp P ops C k (wpQuietL P ops C x Lq (k + 1) l) a := by
        unfold wpQuietL at h
        rw [if_neg hkx] at h
        unfold qOp; simp only [h0]; exact h
      obtain ⟨v, hy, hK⟩ := yieldsIn_of_qOp h0 hq
      exact wpAnyL2_first h0 hs' hx hs hc hn hkn (YieldsIn P ops C o v) (fun j oj hoj hap a hy u => by
          obtain ⟨_, _, h3⟩ := Oper.apart_spec hap
          exact hy.of_same (execOp_put o (fun cs b => hs' k o cs b h0) a oj.dst u h3) (wanted_put o a oj.dst u h3))
        (fun K a hy hK => by unfold hOp; rw [if_neg hkx]; exact hy.qOp h0 hK)
        (fun _ _ hL => hL.1.2) l.length listed a inv (Region.free_spec h0 hf) hr' hy (next v hK)
def Region.lexLateB (md : Region.Mode) (ops : Array Oper) (n x : Nat) : Bool :=
  Region.noSelect ops && decide (n < ops.size) && decide (x < n) && Region.sinkL md ops n x && Region.chainB md ops n && Region.lateFree md ops n x && Region.lexHead md ops (ops.size - n) n 0 (Array.replicate ops.size false)
theorem wp_region_quiet_late {id : Nat} {Q : Exit → Act → World → Prop} {a : Act} {w : World} {l : List Oper} (n x : Nat) (hm : P.follows .mixedOrders = true) (hB : Region.lexLateB .any l.toArray n x = true) (hC : C w.drew)
    (h : wpQuietL P l.toArray C x (fun a' => ∀ w', C w' → tailK P l.toArray Q (l.drop n) a' w') 0 (l.take n) a) : (Code.region id l.toArray true).wp P Q a w := by
  simp only [Region.lexLateB, Bool.and_eq_true, decide_eq_true_eq] at hB
  obtain ⟨⟨⟨⟨⟨⟨hsel, hn⟩, hx⟩, hs⟩, hc⟩, hfx⟩, hlex⟩ := hB
  have hn' : n < l.length := by simpa using hn
  have htl : (l.take n).length = n := by simp; omega
  have hdl : (l.drop n).length = l.toArray.size - n := by simp
  have inv0 : HeadInv .any l.toArray n (Array.replicate l.toArray.size false) :=
    ⟨by simp, fun j oj _ hl => (by rw [getD_replicate_false] at hl; cases hl), fun t _ ht => getD_in (by simpa using ht) (getD_replicate_false _ _)⟩
  have H := wpAnyL2_lex (P := P) (C := C) (md := .any) (x := x) (g := l.toArray.size - n) hsel hx hs hc hn (l.take n) 0 _ a (fun j hj => by
    have hj' : j < n := by rw [htl] at hj; exact hj
    simp [hj']) (by simpa using htl) inv0 (fun i hi => by omega) (by rw [htl]; exact hlex) h
  refine Code.wp_mono NoP.imp (wp_region_any hm ?_)
  have := wpAny_of_headL (Q := NoP Q) (g := l.toArray.size - n) hx hn (Region.noSelect_spec hsel) NoP.still hfx (fun listed a' w' hw' hL => by
    have := wpAny_of_seq (md := .any) (Q' := NoP Q) (l.drop n) n listed a' w' (fun j => by simp [List.getElem?_drop]) (by rw [hdl]; exact hL.1.1) (tailK_out (hL.2 w' hw'))
    rwa [hdl] at this) _ _ _ _ hC inv0 H
  rw [htl, show n + (l.toArray.size - n) = l.toArray.size by omega] at this
  exact this
theorem wpQuietL_past {Q : Act → Prop} : ∀ (l : List Oper) (k : Nat) (a : Act), x < k → wpQuiet P ops C Q l a → wpQuietL P ops C x Q k l a
  | [], _, _, _, h => h
  | o :: l, k, a, hk, h => by
    unfold wpQuietL
    unfold wpQuiet at h
    rw [if_neg (by omega)]
    split
    · rename_i hw
      rw [if_pos hw] at h
      exact Oper.quiet_mono (fun a' h' => wpQuietL_past l (k + 1) a' (by omega) h') h
    · rename_i hw
      rw [if_neg hw] at h
      exact wpQuietL_past l (k + 1) _ (by omega) h
theorem wpQuietL_split {Q : Act → Prop} {o : Oper} {l2 : List Oper} : ∀ (l1 : List Oper) (k : Nat) (a : Act), k + l1.length = x →
    wpQuiet P ops C (fun a => ∃ v, Yields P ops o v a ∧ wpQuiet P ops C Q l2 (a.put o.dst v)) l1 a → wpQuietL P ops C x Q k (l1 ++ o :: l2) a
  | [], k, a, hk, h => by
    obtain ⟨v, hy, hK⟩ := h
    show wpQuietL P ops C x Q k (o :: l2) a
    unfold wpQuietL
    rw [if_pos (by simpa using hk)]
    exact ⟨v, hy, wpQuietL_past l2 (k + 1) _ (by simp at hk; omega) hK⟩
  | p :: l1, k, a, hk, h => by
    show wpQuietL P ops C x Q k (p :: (l1 ++ o :: l2)) a
    unfold wpQuietL
    unfold wpQuiet at h
    simp only [List.length_cons] at hk
    rw [if_neg (by omega)]
    split
    · rename_i hw
      rw [if_pos hw] at h
      exact Oper.quiet_mono (fun a' h' => wpQuietL_split l1 (k + 1) a' (by omega) h') h
    · rename_i hw
      rw [if_neg hw] at h
      exact wpQuietL_split l1 (k + 1) _ (by omega) h
theorem yields_extract {o : Oper} {a : Act} {y : Operand} {k : Nat} {vs : Array Value} {v : Value} (hg : o.guard = none) (ho : o.op = .extract y k) (hy : a.eval y = .tuple vs) (hv : vs[k]? = some v) : Yields P ops o v a := by
  refine .inl ⟨by unfold Region.wanted; rw [hg], fun w => ?_⟩
  unfold execOp
  simp only [ho, hy, Instr.extract, hv, Sem.run_bind, Sem.run_pure, Result.andThen_ok]
/-- One operation of the head (x) needs no memory, and may come late. -/
theorem wp_region_own_late {id : Nat} {Q : Exit → Act → World → Prop} {a : Act} {w w0 : World} {L : List (Nat × Obj)} {l : List Oper} {ox : Oper} (n x : Nat) (hm : P.follows .mixedOrders = true) (hB : Region.lexLateB .any l.toArray n x = true) (hox : l[x]? = some ox) (hC : OwB w0 L w)
    (h : wpQuiet P l.toArray (fun w' => ∃ y : OwnW w0 L, w' = y.w) (fun a => ∃ v, Yields P l.toArray ox v a ∧ wpQuiet P l.toArray (fun w' => ∃ y : OwnW w0 L, w' = y.w) (fun a' => ∀ w', (∃ y : OwnW w0 L, w' = y.w) → tailK P l.toArray Q (l.drop n) a' w') ((l.take n).drop (x + 1)) (a.put ox.dst v)) (l.take x) a) :
    (Code.region id l.toArray true).wp P Q a w := by
  have hxn : x < n := by
    simp only [Region.lexLateB, Bool.and_eq_true, decide_eq_true_eq] at hB
    exact hB.1.1.1.1.2
  obtain ⟨hxl, hox⟩ := List.getElem?_eq_some_iff.1 hox
  refine wp_region_quiet_late (C := fun w' => ∃ y : OwnW w0 L, w' = y.w) n x hm hB (OwnC.of hC.drew) ?_
  have e : l.take n = l.take x ++ ox :: (l.take n).drop (x + 1) := by
    have h1 := List.take_append_drop x (l.take n)
    rw [List.take_take, Nat.min_eq_left (by omega)] at h1
    refine h1.symm.trans ?_
    congr 1
    rw [List.drop_eq_getElem_cons (by rw [List.length_take]; omega), List.getElem_take, hox]
  rw [e]
  refine wpQuietL_split (l.take x) 0 a (by rw [List.length_take]; omega) ?_
  exact h
end
end Go
namespace Go
open Go.Dr
section
variable {P : Program} {ops : Array Oper} {md : Region.Mode} {n x : Nat} {w0 : World} {Lb : List (Nat × Obj)}
/-- All of the head but x has come. -/
def lateOnlyR (n x : Nat) (listed : Array Bool) : Prop := ∀ i, i < n → i ≠ x → listed.getD i true = true
def Region.sinkR (md : Region.Mode) (ops : Array Oper) (n x : Nat) : Bool :=
  (List.range n).all fun i => i == x || (List.range (n + 1)).any fun j => decide (i < j) && j != x && Region.waitsFor md ops j i
theorem tail_waitsR {listed : Array Bool} (hs : Region.sinkR md ops n x = true) (hc : Region.chainB md ops n = true) (hn : n < ops.size) (inv : HeadInv md ops n listed) :
    ∀ (d i : Nat), n - i = d → i < n → i ≠ x → listed.getD i true = false → ∀ t, n ≤ t → t ∉ Region.ready md ops listed := by
  intro d
  induction d using Nat.strongRecOn with
  | _ d ih =>
    intro i hd hi hix hun t ht hr
    obtain ⟨_, ot, hot, hall⟩ := mem_ready.1 hr
    have htlt : t < ops.size := (Array.getElem?_eq_some_iff.1 hot).1
    by_cases htn : t = n
    · subst htn
      have h1 := List.all_eq_true.1 hs i (List.mem_range.2 hi)
      simp only [Bool.or_eq_true, beq_iff_eq, hix, false_or] at h1
      obtain ⟨j, hj, hj2⟩ := List.any_eq_true.1 h1
      simp only [Bool.and_eq_true, decide_eq_true_eq, bne_iff_ne, ne_eq] at hj2
      obtain ⟨oj, hoj, e, he, hb, hon⟩ := Region.waitsFor_spec hj2.2
      have hjle : j ≤ t := by have := List.mem_range.1 hj; omega
      by_cases hjt : j = t
      · subst hjt
        have : oj = ot := Option.some.inj (hoj.symm.trans hot)
        subst this
        have h2 := hall e he hb
        rw [hon, getD_both hun] at h2
        cases h2
      · cases hl : listed.getD j false with
        | true =>
          have h2 := inv.closed j oj hoj hl e he hb
          rw [hon, getD_both hun] at h2
          cases h2
        | false =>
          have hjs : j < listed.size := by rw [inv.size]; omega
          exact ih (t - j) (by omega) j rfl (by omega) hj2.1.2 (getD_in hjs hl) t (Nat.le_refl _) hr
    · have h1 := List.all_eq_true.1 hc t (List.mem_range.2 htlt)
      simp only [Bool.or_eq_true, decide_eq_true_eq] at h1
      rcases h1 with h1 | h1
      · omega
      · obtain ⟨o', ho', e, he, hb, hon⟩ := Region.waitsFor_spec h1
        have : o' = ot := Option.some.inj (ho'.symm.trans hot)
        subst this
        have h2 := hall e he hb
        rw [hon, getD_both (inv.tail (t - 1) (by omega) (by omega))] at h2
        cases h2

/-- One value in every world with these own blocks; what was there is kept. -/
def Oper.quietF (P : Program) (o : Oper) (a : Act) (w0 : World) (Lb : List (Nat × Obj)) (next : Act → Prop) : Prop :=
  ∃ v, (∀ y : OwnW w0 Lb, o.quietAt P a (Fr [] y.w) y.w v) ∧ next (a.put o.dst v)
/-- What a room is: its slot, what it holds at first. -/
abbrev Rooms := List (Nat × Nat × Obj)
def Rooms.has (R : Rooms) (i : Nat) : Bool := R.any fun r => r.1 == i
/-- One operation of the head. -/
def rOp (P : Program) (ops : Array Oper) (w0 : World) (Lb : List (Nat × Obj)) (R : Rooms) (x i : Nat) (K : Act → Prop) (a : Act) : Prop :=
  if R.has i then K a
  else if i = x then ∃ o v, ops[i]? = some o ∧ Yields P ops o v a ∧ K (a.put o.dst v)
  else match ops[i]? with
    | none => K a
    | some o => if Region.wanted o (yielded ops a.tmps) then o.quietF P a w0 Lb K else K (a.put o.dst undef)
variable {R : Rooms}
theorem rOp_mono {i : Nat} {K K' : Act → Prop} {a : Act} (h : ∀ a, K a → K' a) (hh : rOp P ops w0 Lb R x i K a) : rOp P ops w0 Lb R x i K' a := by
  unfold rOp at *
  split
  · rename_i hr; rw [if_pos hr] at hh; exact h _ hh
  · rename_i hr
    rw [if_neg hr] at hh
    split
    · rename_i hx
      rw [if_pos hx] at hh
      obtain ⟨o, v, h1, h2, h3⟩ := hh
      exact ⟨o, v, h1, h2, h _ h3⟩
    · rename_i hx
      rw [if_neg hx] at hh
      split
      · rename_i ho; simp only [ho] at hh; exact h _ hh
      · rename_i o ho
        simp only [ho] at hh
        split
        · rename_i hw; rw [if_pos hw] at hh; obtain ⟨v, h1, h2⟩ := hh; exact ⟨v, h1, h _ h2⟩
        · rename_i hw; rw [if_neg hw] at hh; exact h _ hh
theorem rOp_put {j : Nat} {oi oj : Oper} {v : Value} (hj : ops[j]? = some oj) (hap : oi.apart ops oj = true)
    (hsj : ∀ cs b, oj.op ≠ .select cs b) {Y : Act → Prop} (keep : ∀ a, Y a → ∀ u, Y (a.put oj.dst u)) {K : Act → Prop} {a : Act}
    (hy : Y a) (h : rOp P ops w0 Lb R x j K (a.put oi.dst v)) :
    rOp P ops w0 Lb R x j (fun a' => Y a' ∧ K (a'.put oi.dst v)) a := by
  obtain ⟨h1, h2, h3⟩ := Oper.apart_spec hap
  unfold rOp at *
  split
  · rename_i hr; rw [if_pos hr] at h; exact ⟨hy, h⟩
  rename_i hr
  rw [if_neg hr] at h
  split
  · rename_i hx
    rw [if_pos hx] at h
    obtain ⟨o, u, ho, hu, hK⟩ := h
    obtain rfl : o = oj := Option.some.inj (ho.symm.trans hj)
    refine ⟨o, u, ho, ?_, keep a hy u, by rw [← Act.put_comm a v u h2]; exact hK⟩
    unfold Yields at *
    rw [wanted_put o a oi.dst v h1] at hu
    simpa only [execOp_put o hsj a oi.dst v h1] using hu
  · rename_i hx
    rw [if_neg hx] at h
    simp only [hj] at *
    rw [wanted_put oj a oi.dst v h1] at h
    split
    · rename_i hw
      simp only [hw, if_true] at h
      obtain ⟨u, hu, hn⟩ := h
      refine ⟨u, fun y => ?_, keep a hy u, by rw [← Act.put_comm a v u h2]; exact hn⟩
      have := hu y
      unfold Oper.quietAt at *
      rwa [execOp_put oj hsj a oi.dst v h1] at this
    · rename_i hw
      simp only [hw] at h
      exact ⟨keep a hy _, by rw [← Act.put_comm a v undef h2]; exact h⟩
theorem rOp_and {j : Nat} {Y : Act → Prop} {K : Act → Prop} {a : Act} (hY : ∀ a, Y a) (h : rOp P ops w0 Lb R x j K a) : rOp P ops w0 Lb R x j (fun a' => Y a' ∧ K a') a :=
  rOp_mono (fun a hk => ⟨hY a, hk⟩) h
def wpAnyR (P : Program) (md : Region.Mode) (ops : Array Oper) (w0 : World) (Lb : List (Nat × Obj)) (R : Rooms) (n x : Nat) (L : Array Bool → Act → Prop) : Nat → Array Bool → Act → Prop
  | 0, listed, a => L listed a
  | f + 1, listed, a =>
    (lateOnlyR n x listed → x ∈ Region.ready md ops listed) ∧ Region.ready md ops listed ≠ [] ∧
      ∀ i ∈ Region.ready md ops listed, (i < n → rOp P ops w0 Lb R x i (wpAnyR P md ops w0 Lb R n x L f (listed.setIfInBounds i true)) a) ∧ (n ≤ i → lateOnlyR n x listed)
theorem lateOnlyR_unset {listed : Array Bool} (h : lateOnlyR n x (listed.setIfInBounds x true)) : lateOnlyR n x listed := fun i hi hix => by
  have := h i hi hix
  rwa [getD_set_ne true (Ne.symm hix)] at this
/-- An operation may be taken first: e is what it does to the frame. -/
theorem wpAnyR_first {i : Nat} {oi : Oper} {L : Array Bool → Act → Prop}
    (hs : Region.sinkR md ops n x = true) (hc : Region.chainB md ops n = true) (hn : n < ops.size) (hin : i < n)
    (e : Act → Act) (Y : Act → Prop) (comm : ∀ (j : Nat) (oj : Oper) (K : Act → Prop) (a : Act), ops[j]? = some oj → oi.apart ops oj = true → Y a → rOp P ops w0 Lb R x j K (e a) → rOp P ops w0 Lb R x j (fun a' => Y a' ∧ K (e a')) a)
    (close : ∀ (K : Act → Prop) a, Y a → K (e a) → rOp P ops w0 Lb R x i K a)
    (hdone : ∀ listed a, L listed a → ∀ k, k < n → listed.getD k true = true) :
    ∀ (f : Nat) (listed : Array Bool) (a : Act), HeadInv md ops n listed →
      (∀ j oj, ops[j]? = some oj → j ≠ i → listed.getD j true = false → (∀ e ∈ oj.after, Region.binds md e = true → e.on ≠ i) → oi.apart ops oj = true) →
      i ∈ Region.ready md ops listed → Y a →
      wpAnyR P md ops w0 Lb R n x L f (listed.setIfInBounds i true) (e a) → wpAnyR P md ops w0 Lb R n x L (f + 1) listed a := by
  intro f
  induction f with
  | zero =>
    intro listed a inv _ hr hy H
    have hun := (mem_ready.1 hr).1
    refine ⟨fun hl => ?_, fun h => (by rw [h] at hr; cases hr), fun j hj => ?_⟩
    · by_cases hix : i = x
      · rw [← hix]; exact hr
      · have := hl i hin hix
        rw [hun] at this; cases this
    by_cases hji : j = i
    · subst hji
      exact ⟨fun _ => close _ _ hy H, fun h => by omega⟩
    · have hall := hdone _ _ H
      have hjun := (mem_ready.1 hj).1
      refine ⟨fun hjn => ?_, fun hjn => ?_⟩
      · have := hall j hjn
        rw [getD_set_ne true (Ne.symm hji), hjun] at this
        cases this
      · by_cases hix : i = x
        · subst hix
          exact lateOnlyR_unset fun k hk _ => hall k hk
        · exact absurd hj (tail_waitsR hs hc hn inv _ i rfl hin hix hun j hjn)
  | succ f ih =>
    intro listed a inv hfree hr hy H
    have hun := (mem_ready.1 hr).1
    refine ⟨fun hl => ?_, fun h => (by rw [h] at hr; cases hr), fun j hj => ?_⟩
    · by_cases hix : i = x
      · rw [← hix]; exact hr
      · have := hl i hin hix
        rw [hun] at this; cases this
    by_cases hji : j = i
    · subst hji
      exact ⟨fun _ => close _ _ hy H, fun h => by omega⟩
    · have h1 := H.2.2 j (ready_mono hj hji)
      refine ⟨fun hjn => ?_, fun hjn => ?_⟩
      · obtain ⟨hjun, oj, hoj, hall⟩ := mem_ready.1 hj
        have hnot : ∀ e ∈ oj.after, Region.binds md e = true → e.on ≠ i := fun e he hb heq => by
          have h1 := hall e he hb
          rw [heq, getD_both hun] at h1
          cases h1
        have hap := hfree j oj hoj hji hjun hnot
        have h2 := comm j oj _ a hoj hap hy (h1.1 hjn)
        have hfree' : ∀ k ok, ops[k]? = some ok → k ≠ i → (listed.setIfInBounds j true).getD k true = false →
            (∀ e ∈ ok.after, Region.binds md e = true → e.on ≠ i) → oi.apart ops ok = true := fun k ok hk hki hun hno => by
          refine hfree k ok hk hki ?_ hno
          by_cases hjk : j = k
          · subst hjk; exact hjun
          · rw [getD_set_ne true hjk] at hun; exact hun
        refine rOp_mono (fun a' h3 => ih (listed.setIfInBounds j true) a' (inv.set hj hjn) hfree' (ready_mono hr (Ne.symm hji)) h3.1 ?_) h2
        rw [Array.setIfInBounds_comm _ _ hji]
        exact h3.2
      · by_cases hix : i = x
        · subst hix
          exact lateOnlyR_unset (h1.2 hjn)
        · exact absurd hj (tail_waitsR hs hc hn inv _ i rfl hin hix hun j hjn)

/-! ### The real frame: the rooms' slots are filled as the rooms are made -/
def ptrTo (b : Nat) : Value := .pointer (some ⟨b, 0, none⟩)
def realR (bl : Nat → Nat) (R : Rooms) (a : Act) : Act := R.foldr (fun r a => a.put (some r.2.1) (ptrTo (bl r.1))) a
theorem realR_cons (bl : Nat → Nat) (r : Nat × Nat × Obj) (R : Rooms) (a : Act) : realR bl (r :: R) a = (realR bl R a).put (some r.2.1) (ptrTo (bl r.1)) := rfl
def ownR (bl : Nat → Nat) (R : Rooms) : List (Nat × Obj) := R.map fun r => (bl r.1, r.2.2)
/-- The slot is no concern of the operation. -/
def awayB (ops : Array Oper) (o : Oper) (d : Nat) : Bool := !(o.looksAt ops).contains d && o.dst != some d
def Rooms.away (R : Rooms) (ops : Array Oper) (o : Oper) : Prop := ∀ r ∈ R, r.2.1 ∉ o.looksAt ops ∧ o.dst ≠ some r.2.1
variable {bl : Nat → Nat}
theorem realR_put {o : Oper} {a : Act} {v : Value} : ∀ {R : Rooms}, R.away ops o → (realR bl R a).put o.dst v = realR bl R (a.put o.dst v)
  | [], _ => rfl
  | r :: R, h => by
    have ih := realR_put (a := a) (v := v) (R := R) fun q hq => h q (List.mem_cons_of_mem _ hq)
    rw [realR_cons, realR_cons, Act.put_comm _ _ _ (fun d hd => by cases hd; exact (h r (List.mem_cons_self ..)).2), ih]
theorem realR_exec {o : Oper} (hs : ∀ cs b, o.op ≠ .select cs b) {a : Act} : ∀ {R : Rooms}, R.away ops o → execOp (realR bl R a).eval o = execOp a.eval o
  | [], _ => rfl
  | r :: R, h => by
    have ih := realR_exec hs (a := a) (R := R) fun q hq => h q (List.mem_cons_of_mem _ hq)
    rw [realR_cons, execOp_put o hs _ _ _ (fun d hd => by cases hd; exact (h r (List.mem_cons_self ..)).1), ih]
theorem realR_wanted {o : Oper} {a : Act} : ∀ {R : Rooms}, R.away ops o → Region.wanted o (yielded ops (realR bl R a).tmps) = Region.wanted o (yielded ops a.tmps)
  | [], _ => rfl
  | r :: R, h => by
    have ih := realR_wanted (a := a) (R := R) fun q hq => h q (List.mem_cons_of_mem _ hq)
    rw [realR_cons, wanted_put o _ _ _ (fun d hd => by cases hd; exact (h r (List.mem_cons_self ..)).1), ih]
theorem realR_congr {bl' : Nat → Nat} {a : Act} : ∀ {R : Rooms}, (∀ r ∈ R, bl r.1 = bl' r.1) → realR bl R a = realR bl' R a
  | [], _ => rfl
  | r :: R, h => by
    rw [realR_cons, realR_cons, realR_congr fun q hq => h q (List.mem_cons_of_mem _ hq), h r (List.mem_cons_self ..)]
theorem ownR_congr {bl' : Nat → Nat} {R : Rooms} (h : ∀ r ∈ R, bl r.1 = bl' r.1) : ownR bl R = ownR bl' R :=
  List.map_congr_left fun r hr => by rw [h r hr]
theorem realR_perm {a : Act} {R R' : Rooms} (p : R.Perm R') (hd : (R.map (·.2.1)).Nodup) : realR bl R a = realR bl R' a := by
  induction p generalizing a with
  | nil => rfl
  | cons r p ih =>
    rw [realR_cons, realR_cons, ih (List.nodup_cons.1 hd).2]
  | swap r q l =>
    rw [realR_cons, realR_cons, realR_cons, realR_cons]
    refine Act.put_comm _ _ _ fun d hd1 hd2 => ?_
    have h := (List.nodup_cons.1 hd).1
    simp only [List.map_cons, List.mem_cons, not_or] at h
    have e := hd1.trans hd2.symm
    first
      | exact h.1 (Option.some.inj e)
      | exact h.1 (Option.some.inj e).symm
  | trans p q ih1 ih2 => rw [ih1 hd, ih2 ((p.map _).nodup_iff.1 hd)]
theorem OwB.perm {w : World} {L L' : List (Nat × Obj)} (h : OwB w0 L w) (p : L.Perm L') : OwB w0 L' w :=
  ⟨fun q hq => h.has q (p.mem_iff.2 hq), (p.map _).nodup_iff.1 h.nd, fun q hq => h.lo q (p.mem_iff.2 hq), h.fr⟩
/-- What is asked of the rooms. -/
structure RoomsOk (P : Program) (ops : Array Oper) (n : Nat) (R : Rooms) : Prop where
  idx : (R.map (·.1)).Nodup
  slots : (R.map (·.2.1)).Nodup
  op : ∀ r ∈ R, r.1 < n ∧ ∃ o, ops[r.1]? = some o ∧ o.dst = some r.2.1 ∧ o.guard = none ∧ ∀ (ρ : Operand → Value) (w : World), (execOp ρ o).run P w = .ok (.value (ptrTo w.heap.size)) (w.alloc r.2.2)
  away : ∀ j o, ops[j]? = some o → j < n → R.has j = false → R.away ops o
theorem Rooms.has_of {R : Rooms} {r : Nat × Nat × Obj} (h : r ∈ R) : R.has r.1 = true := List.any_eq_true.2 ⟨r, h, by simp⟩
theorem Rooms.of_has {R : Rooms} {i : Nat} (h : R.has i = true) : ∃ r ∈ R, r.1 = i := by
  obtain ⟨r, hr, h2⟩ := List.any_eq_true.1 h
  exact ⟨r, hr, by simpa using h2⟩
theorem eq_of_idx {R : Rooms} (h : (R.map (·.1)).Nodup) {r q : Nat × Nat × Obj} (hr : r ∈ R) (hq : q ∈ R) (he : r.1 = q.1) : r = q := Go.Dr.inj_of_map h r hr q hq he
/-- How far the rooms are made. -/
structure MadeR (R : Rooms) (listed : Array Bool) (T : Rooms) : Prop where
  nd : (T.map (·.1)).Nodup
  sub : ∀ r ∈ T, r ∈ R ∧ listed.getD r.1 true = true
  all : ∀ r ∈ R, listed.getD r.1 true = true → r ∈ T
/-- An operation of the head in the real frame. -/
theorem rOp_real {Q : Exit → Act → World → Prop} {i : Nat} {T : Rooms} {w : World} {a : Act} {K : Act → Prop} {K' : Act → World → Prop} (hR : RoomsOk P ops n R) (hsel : ∀ (j : Nat) (o : Oper) cs b, ops[j]? = some o → o.op ≠ .select cs b)
    (hin : i < n) (hT : ∀ r ∈ T, r ∈ R) (hw : OwB w0 (ownR bl T ++ Lb) w) (h : rOp P ops w0 Lb R x i K a)
    (hr : ∀ r ∈ R, r.1 = i → ∀ w', w' = w.alloc r.2.2 → K a → K' ((realR bl T a).put (some r.2.1) (ptrTo w.heap.size)) w')
    (hq : R.has i = false → ∀ a' w', OwB w0 (ownR bl T ++ Lb) w' → K a' → K' (realR bl T a') w') : wpOp P ops Q i K' (realR bl T a) w := by
  unfold rOp at h
  by_cases hh : R.has i = true
  · rw [if_pos hh] at h
    obtain ⟨r, hrR, rfl⟩ := Rooms.of_has hh
    obtain ⟨_, o, ho, hdst, hg, hrun⟩ := hR.op r hrR
    unfold wpOp
    simp only [ho]
    rw [if_pos (by unfold Region.wanted; rw [hg])]
    left
    unfold Oper.wp
    rw [hrun]
    show K' ((realR bl T a).put o.dst _) _
    rw [hdst]
    exact hr r hrR rfl _ rfl h
  · rw [if_neg hh] at h
    have hh' : R.has i = false := by simpa using hh
    split at h
    · rename_i hix
      obtain ⟨o, v, ho, hy, hK⟩ := h
      have haw : T.away ops o := fun r hr' => hR.away i o ho hin hh' r (hT r hr')
      unfold wpOp
      simp only [ho]
      rw [realR_wanted haw]
      rcases hy with ⟨h1, h2⟩ | ⟨h1, h2⟩
      · rw [if_pos h1]
        left
        unfold Oper.wp
        rw [realR_exec (fun cs b => hsel i o cs b ho) haw, h2 w]
        show K' ((realR bl T a).put o.dst v) w
        rw [realR_put haw]
        exact hq hh' _ _ hw hK
      · rw [if_neg (by rw [h1]; exact Bool.false_ne_true), ← h2, realR_put haw]
        exact hq hh' _ _ hw hK
    · unfold wpOp
      split at h
      · rename_i ho
        simp only [ho]
        exact hq hh' _ _ hw h
      · rename_i o ho
        have haw : T.away ops o := fun r hr' => hR.away i o ho hin hh' r (hT r hr')
        simp only [ho]
        rw [realR_wanted haw]
        split at h
        · rename_i hwd
          rw [if_pos hwd]
          left
          obtain ⟨v, hv, hK⟩ := h
          have hv := hv ⟨w, hw.sub (List.sublist_append_right _ _)⟩
          unfold Oper.quietAt at hv
          unfold Oper.wp
          rw [realR_exec (fun cs b => hsel i o cs b ho) haw]
          revert hv
          generalize (execOp a.eval o).run P w = res
          intro hv
          cases res with
          | ok nx w' =>
            cases nx <;> simp only [Oper.quietUpon] at hv <;> simp only [Oper.upon]
            case value u =>
              obtain ⟨e1, e2⟩ := hv
              rw [e1, e2, realR_put haw]
              exact hq hh' _ _ hw hK
            case skip =>
              obtain ⟨e1, e2⟩ := hv
              rw [e1, ← e2, realR_put haw]
              exact hq hh' _ _ hw hK
            case enter f args =>
              obtain ⟨e1, hc⟩ := hv
              rw [e1]
              exact hc.mono fun e w'' ⟨he, hf⟩ => by subst he; simp only []; rw [realR_put haw]; exact hq hh' _ _ (hw.call hf) hK
          | halt z w' => simp only [Oper.quietUpon] at hv
        · rename_i hwd
          rw [if_neg hwd, realR_put haw]
          exact hq hh' _ _ hw h
theorem getD_set_tt {listed : Array Bool} {i j : Nat} (h : listed.getD i true = true) : (listed.setIfInBounds j true).getD i true = true := by
  by_cases e : j = i
  · subst e
    rcases Nat.lt_or_ge j listed.size with h1 | h1
    · simp [h1]
    · simp [Array.getD, h1]
  · rw [getD_set_ne true e]; exact h
theorem MadeR.other {listed : Array Bool} {T : Rooms} (h : MadeR R listed T) {i : Nat} (hi : R.has i = false) : MadeR R (listed.setIfInBounds i true) T :=
  ⟨h.nd, fun r hr => ⟨(h.sub r hr).1, getD_set_tt (h.sub r hr).2⟩, fun r hr hl => h.all r hr (by
    have hne : i ≠ r.1 := fun e => by rw [e, Rooms.has_of hr] at hi; cases hi
    rwa [getD_set_ne true hne] at hl)⟩
theorem MadeR.room {listed : Array Bool} {T : Rooms} (hR : RoomsOk P ops n R) (h : MadeR R listed T) {r : Nat × Nat × Obj} (hr : r ∈ R) (hun : listed.getD r.1 true = false) : MadeR R (listed.setIfInBounds r.1 true) (r :: T) := by
  refine ⟨?_, fun q hq => ?_, fun q hq hl => ?_⟩
  · rw [List.map_cons, List.nodup_cons]
    refine ⟨fun hm => ?_, h.nd⟩
    obtain ⟨q, hq, he⟩ := List.mem_map.1 hm
    have := (h.sub q hq).2
    rw [he, hun] at this
    cases this
  · rcases List.mem_cons.1 hq with rfl | hq
    · refine ⟨hr, ?_⟩
      rcases Nat.lt_or_ge q.1 listed.size with h1 | h1
      · simp [h1]
      · simp [Array.getD, h1]
    · exact ⟨(h.sub q hq).1, getD_set_tt (h.sub q hq).2⟩
  · by_cases he : r.1 = q.1
    · rw [eq_of_idx hR.idx hr hq he]; exact List.mem_cons_self ..
    · rw [getD_set_ne true he] at hl
      exact List.mem_cons_of_mem _ (h.all q hq hl)

def Region.lateFreeR (md : Region.Mode) (ops : Array Oper) (n x : Nat) : Bool :=
  match ops[x]? with
  | none => true
  | some ox => (List.range ops.size).all fun j => decide (j < n) || Region.waitsFor md ops j x || (match ops[j]? with | some oj => ox.apart ops oj | none => true)
theorem wpAny_of_headR {g : Nat} {L : Array Bool → Act → Prop} {Q : Exit → Act → World → Prop} (hR : RoomsOk P ops n R) (hx : x < n ∨ ops.size ≤ x) (hxr : R.has x = false) (hn : n < ops.size) (hsel : ∀ (j : Nat) (o : Oper) cs b, ops[j]? = some o → o.op ≠ .select cs b)
    (hQ : ∀ c a (d : Option Tmp) v w, Q (.panic c) (a.put d v) w → Q (.panic c) a w) (hfx : Region.lateFreeR md ops n x = true)
    (hL : ∀ listed a w T bl, OwB w0 (ownR bl T ++ Lb) w → MadeR R listed T → L listed a → wpAny P md ops Q g listed (realR bl T a) w) :
    ∀ (f : Nat) (listed : Array Bool) (a : Act) (w : World) (T : Rooms) (bl : Nat → Nat), OwB w0 (ownR bl T ++ Lb) w → MadeR R listed T → HeadInv md ops n listed →
      wpAnyR P md ops w0 Lb R n x L f listed a → wpAny P md ops Q (f + g) listed (realR bl T a) w
  | 0, listed, a, w, T, bl, hw, hT, _, h => by rw [Nat.zero_add]; exact hL _ _ _ _ _ hw hT h
  | f + 1, listed, a, w, T, bl, hw, hT, inv, h => by
    rw [show f + 1 + g = (f + g) + 1 by omega]
    by_cases hl : lateOnlyR n x listed
    · have hxrd := h.1 hl
      have hxs : x < ops.size := by
        obtain ⟨_, o, ho, _⟩ := mem_ready.1 hxrd
        exact (Array.getElem?_eq_some_iff.1 ho).1
      have hxn : x < n := by omega
      have hc := (h.2.2 x hxrd).1 hxn
      unfold rOp at hc
      rw [if_neg (by rw [hxr]; exact Bool.false_ne_true), if_pos rfl] at hc
      obtain ⟨ox, v, hox, hy, hK⟩ := hc
      have haw : Rooms.away T ops ox := fun r hr' => hR.away x ox hox hxn hxr r (hT.sub r hr').1
      have ih := wpAny_of_headR hR hx hxr hn hsel hQ hfx hL f _ _ w T bl hw (hT.other hxr) (inv.set hxrd hxn) hK
      rw [← realR_put haw] at ih
      have hyr : Yields P ops ox v (realR bl T a) := by
        unfold Yields at *
        rw [realR_wanted haw]
        simpa only [realR_exec (fun cs b => hsel x ox cs b hox) haw] using hy
      have hS := wpAnyS_of_any (N := ops.size) _ _ _ _ ih
      refine Dr.wpAny_of_S _ _ _ _ (Dr.wpAnyS_first hox (Nat.lt_trans hxn hn) (N := ops.size) (by unfold Dr.tailB; simp) hsel (fun c a w h => hQ c a _ _ w h) (f + g) listed _ w (fun t ht => ?_) (fun j o ho hlj e he hb => inv.closed j o ho hlj e he hb) ?_ hxrd hyr.yieldsIf trivial hS)
      · simp [Array.getElem?_eq_none (show listed.size ≤ t by rw [inv.size]; exact ht), Array.getD]
        intro h1
        rw [inv.size] at h1
        omega
      · intro j oj hoj hjx hun hno
        unfold Region.lateFreeR at hfx
        rw [hox] at hfx
        have hjs : j < ops.size := (Array.getElem?_eq_some_iff.1 hoj).1
        have h1 := List.all_eq_true.1 hfx j (List.mem_range.2 hjs)
        rw [hoj] at h1
        simp only [Bool.or_eq_true, decide_eq_true_eq] at h1
        rcases h1 with (h1 | h1) | h1
        · have := hl j h1 hjx
          rw [hun] at this; cases this
        · obtain ⟨o', ho', e, he, hb, hon⟩ := Region.waitsFor_spec h1
          obtain rfl : o' = oj := Option.some.inj (ho'.symm.trans hoj)
          exact absurd hon (hno e he hb)
        · exact h1
    · refine ⟨fun h0 => absurd h0 h.2.1, fun i hi => ?_⟩
      have hin : i < n := by
        rcases Nat.lt_or_ge i n with h1 | h1
        · exact h1
        · exact absurd ((h.2.2 i hi).2 h1) hl
      have hun := (mem_ready.1 hi).1
      refine rOp_real hR hsel hin (fun r hr => (hT.sub r hr).1) hw ((h.2.2 i hi).1 hin) (fun r hr hri w' hw' hK => ?_) (fun hh a' w' hw' hK => ?_)
      · subst hri
        subst hw'
        have hne : ∀ q ∈ T, q.1 ≠ r.1 := fun q hq e => by
          have := (hT.sub q hq).2
          rw [e, hun] at this; cases this
        obtain ⟨bl', hbl⟩ : ∃ bl' : Nat → Nat, bl' = fun k => if k = r.1 then w.heap.size else bl k := ⟨_, rfl⟩
        have e1 : bl' r.1 = w.heap.size := by rw [hbl]; exact if_pos rfl
        have e2 : ∀ q ∈ T, bl q.1 = bl' q.1 := fun q hq => by rw [hbl]; exact (if_neg (hne q hq)).symm
        have hw2 : OwB w0 (ownR bl' (r :: T) ++ Lb) (w.alloc r.2.2) := by
          have h1 := hw.alloc r.2.2
          rw [ownR_congr e2, ← e1] at h1
          exact h1
        have ih := wpAny_of_headR hR hx hxr hn hsel hQ hfx hL f _ a (w.alloc r.2.2) (r :: T) bl' hw2 (hT.room hR hr hun) (inv.set hi hin) hK
        rw [realR_cons, ← realR_congr e2, e1] at ih
        exact ih
      · exact wpAny_of_headR hR hx hxr hn hsel hQ hfx hL f _ a' w' T bl hw' (hT.other hh) (inv.set hi hin) hK
/-- The walk of the head, in the text's order. -/
def wpQuietR (P : Program) (ops : Array Oper) (w0 : World) (Lb : List (Nat × Obj)) (R : Rooms) (x : Nat) (Q : Act → Prop) : Nat → List Oper → Act → Prop
  | _, [], a => Q a
  | k, o :: rest, a => if R.has k then wpQuietR P ops w0 Lb R x Q (k + 1) rest a
      else if k = x then ∃ v, Yields P ops o v a ∧ wpQuietR P ops w0 Lb R x Q (k + 1) rest (a.put o.dst v)
      else if Region.wanted o (yielded ops a.tmps) then o.quietF P a w0 Lb (wpQuietR P ops w0 Lb R x Q (k + 1) rest) else wpQuietR P ops w0 Lb R x Q (k + 1) rest (a.put o.dst undef)
section
variable {Q : Act → Prop} {k : Nat} {o : Oper} {rest : List Oper} {a : Act}
theorem wpQuietR_nil (h : Q a) : wpQuietR P ops w0 Lb R x Q k [] a := h
theorem wpQuietR_room (hr : R.has k = true) (h : wpQuietR P ops w0 Lb R x Q (k + 1) rest a) : wpQuietR P ops w0 Lb R x Q k (o :: rest) a := by
  unfold wpQuietR; rw [if_pos hr]; exact h
theorem wpQuietR_late {v : Value} (hr : R.has k = false) (hx : k = x) (hy : Yields P ops o v a) (h : wpQuietR P ops w0 Lb R x Q (k + 1) rest (a.put o.dst v)) : wpQuietR P ops w0 Lb R x Q k (o :: rest) a := by
  unfold wpQuietR; rw [if_neg (by rw [hr]; exact Bool.false_ne_true), if_pos hx]; exact ⟨v, hy, h⟩
theorem wpQuietR_step (hr : R.has k = false) (hx : (k == x) = false) (h : ∀ K : Act → Prop, (∀ a, wpQuietR P ops w0 Lb R x Q (k + 1) rest a → K a) → if Region.wanted o (yielded ops a.tmps) then o.quietF P a w0 Lb K else K (a.put o.dst undef)) : wpQuietR P ops w0 Lb R x Q k (o :: rest) a := by
  unfold wpQuietR; rw [if_neg (by rw [hr]; exact Bool.false_ne_true), if_neg (by simpa using hx)]; exact h _ fun _ h => h
end
theorem wpAnyR_lex {g : Nat} {Lq : Act → Prop} (hsel : Region.noSelect ops = true) (hs : Region.sinkR md ops n x = true) (hc : Region.chainB md ops n = true) (hn : n < ops.size) :
    ∀ (l : List Oper) (k : Nat) (listed : Array Bool) (a : Act), (∀ j, j < l.length → l[j]? = ops[k + j]?) → k + l.length = n → HeadInv md ops n listed → (∀ i, i < k → listed.getD i true = true) →
    Region.lexHead md ops g l.length k listed = true → wpQuietR P ops w0 Lb R x Lq k l a →
    wpAnyR P md ops w0 Lb R n x (fun listed' a' => (Region.seqB md ops g n listed' = true ∧ ∀ i, i < n → listed'.getD i true = true) ∧ Lq a') l.length listed a
  | [], k, listed, a, _, hk, _, hd, hB, h => by
    have : k = n := by simpa using hk
    subst this
    exact ⟨⟨by simpa [Region.lexHead] using hB, hd⟩, h⟩
  | o :: l, k, listed, a, hl, hk, inv, hd, hB, h => by
    have h0 : ops[k]? = some o := by simpa using (hl 0 (by simp)).symm
    simp only [List.length_cons, Region.lexHead, Bool.and_eq_true] at hB
    obtain ⟨⟨hr, hf⟩, hB'⟩ := hB
    have hkn : k < n := by simp only [List.length_cons] at hk; omega
    have hr' : k ∈ Region.ready md ops listed := by simpa using hr
    have hs' := Region.noSelect_spec hsel
    have hd' : ∀ i, i < k + 1 → (listed.setIfInBounds k true).getD i true = true := fun i hi => by
      by_cases hik : k = i
      · subst hik
        rcases Nat.lt_or_ge k listed.size with h1 | h1
        · simp [h1]
        · simp [Array.getD, h1]
      · rw [getD_set_ne true hik]; exact hd i (by omega)
    have next := fun (b : Act) hK => wpAnyR_lex (g := g) (Lq := Lq) hsel hs hc hn l (k + 1) (listed.setIfInBounds k true) b (fun j hj => by have := hl (j + 1) (by simp; omega); simpa [Nat.add_assoc, Nat.add_comm 1 j] using this) (by simp only [List.length_cons] at hk; omega) (inv.set hr' hkn) hd' hB' hK
    unfold wpQuietR at h
    by_cases hrk : R.has k = true
    · rw [if_pos hrk] at h
      exact wpAnyR_first hs hc hn hkn id (fun _ => True) (fun j oj K a hoj hap _ hh => rOp_and (fun _ => trivial) hh) (fun K a _ hK => by unfold rOp; rw [if_pos hrk]; exact hK)
        (fun _ _ hL => hL.1.2) l.length listed a inv (Region.free_spec h0 hf) hr' trivial (next a h)
    rw [if_neg hrk] at h
    by_cases hkx : k = x
    · rw [if_pos hkx] at h
      obtain ⟨v, hy, hK⟩ := h
      exact wpAnyR_first hs hc hn hkn (fun a => a.put o.dst v) (Yields P ops o v) (fun j oj K a hoj hap hy hh => rOp_put hoj hap (fun cs b => hs' j oj cs b hoj) (Yields.keep (fun cs b => hs' k o cs b h0) hap) hy hh)
        (fun K a hy hK => by unfold rOp; rw [if_neg hrk, if_pos hkx]; exact ⟨o, v, h0, hy, hK⟩)
        (fun _ _ hL => hL.1.2) l.length listed a inv (Region.free_spec h0 hf) hr' hy (next _ hK)
    · rw [if_neg hkx] at h
      obtain ⟨v, hy, hK⟩ : ∃ v, ((Region.wanted o (yielded ops a.tmps) = true ∧ ∀ y : OwnW w0 Lb, o.quietAt P a (Fr [] y.w) y.w v) ∨ (Region.wanted o (yielded ops a.tmps) = false ∧ v = undef)) ∧ wpQuietR P ops w0 Lb R x Lq (k + 1) l (a.put o.dst v) := by
        split at h
        · rename_i hw
          obtain ⟨v, hv, hK⟩ := h
          exact ⟨v, .inl ⟨hw, hv⟩, hK⟩
        · rename_i hw
          exact ⟨undef, .inr ⟨by simpa using hw, rfl⟩, h⟩
      exact wpAnyR_first hs hc hn hkn (fun a => a.put o.dst v) (fun a => (Region.wanted o (yielded ops a.tmps) = true ∧ ∀ y : OwnW w0 Lb, o.quietAt P a (Fr [] y.w) y.w v) ∨ (Region.wanted o (yielded ops a.tmps) = false ∧ v = undef))
        (fun j oj K a hoj hap hy hh => rOp_put hoj hap (fun cs b => hs' j oj cs b hoj) (fun a hy u => by
          obtain ⟨_, _, h3⟩ := Oper.apart_spec hap
          unfold Oper.quietAt at *
          rw [wanted_put o a oj.dst u h3, execOp_put o (fun cs b => hs' k o cs b h0) a oj.dst u h3]
          exact hy) hy hh)
        (fun K a hy hK => by
          unfold rOp
          rw [if_neg hrk, if_neg hkx]
          simp only [h0]
          rcases hy with ⟨hw, hv⟩ | ⟨hw, rfl⟩
          · rw [if_pos hw]; exact ⟨v, hv, hK⟩
          · rw [if_neg (by rw [hw]; exact Bool.false_ne_true)]; exact hK)
        (fun _ _ hL => hL.1.2) l.length listed a inv (Region.free_spec h0 hf) hr' hy (next _ hK)
def Region.lexRoomB (md : Region.Mode) (ops : Array Oper) (n x : Nat) : Bool :=
  Region.noSelect ops && decide (n < ops.size) && (decide (x < n) || decide (ops.size ≤ x)) && Region.sinkR md ops n x && Region.chainB md ops n && Region.lateFreeR md ops n x && Region.lexHead md ops (ops.size - n) n 0 (Array.replicate ops.size false)
theorem MadeR.perm {listed : Array Bool} {T : Rooms} (hR : RoomsOk P ops n R) (h : MadeR R listed T) (hall : ∀ i, i < n → listed.getD i true = true) : T.Perm R := by
  have n1 : T.Nodup := List.Pairwise.of_map _ (fun a b h e => h (by rw [e])) h.nd
  have n2 : R.Nodup := List.Pairwise.of_map _ (fun a b h e => h (by rw [e])) hR.idx
  exact (List.perm_ext_iff_of_nodup n1 n2).2 fun r => ⟨fun hr => (h.sub r hr).1, fun hr => h.all r hr (hall r.1 (hR.op r hr).1)⟩
theorem wpAny_rooms {Q : Exit → Act → World → Prop} {a : Act} {w : World} {l : List Oper} (n x : Nat) (R : Rooms) (hB : Region.lexRoomB .any l.toArray n x = true) (hR : RoomsOk P l.toArray n R) (hxr : R.has x = false) (hC : OwB w0 Lb w)
    (h : wpQuietR P l.toArray w0 Lb R x (fun a' => ∀ bl w', OwB w0 (ownR bl R ++ Lb) w' → tailK P l.toArray Q (l.drop n) (realR bl R a') w') 0 (l.take n) a) :
    wpAny P .any l.toArray (NoP Q) l.toArray.size (Array.replicate l.toArray.size false) a w.drew := by
  simp only [Region.lexRoomB, Bool.and_eq_true, Bool.or_eq_true, decide_eq_true_eq] at hB
  obtain ⟨⟨⟨⟨⟨⟨hsel, hn⟩, hx⟩, hs⟩, hc⟩, hfx⟩, hlex⟩ := hB
  have hn' : n < l.length := by simpa using hn
  have htl : (l.take n).length = n := by simp; omega
  have hdl : (l.drop n).length = l.toArray.size - n := by simp
  have inv0 : HeadInv .any l.toArray n (Array.replicate l.toArray.size false) :=
    ⟨by simp, fun j oj _ hl => (by rw [getD_replicate_false] at hl; cases hl), fun t _ ht => getD_in (by simpa using ht) (getD_replicate_false _ _)⟩
  have H := wpAnyR_lex (P := P) (w0 := w0) (Lb := Lb) (R := R) (md := .any) (x := x) (g := l.toArray.size - n) hsel hs hc hn (l.take n) 0 _ a (fun j hj => by
    have hj' : j < n := by rw [htl] at hj; exact hj
    simp [hj']) (by simpa using htl) inv0 (fun i hi => by omega) (by rw [htl]; exact hlex) h
  have mk0 : MadeR R (Array.replicate l.toArray.size false) [] := ⟨List.nodup_nil, (fun r hr => by cases hr), fun r hr hl => by
    have h1 := (hR.op r hr).1
    rw [getD_in (by simp; omega) (getD_replicate_false _ _)] at hl
    cases hl⟩
  have := wpAny_of_headR (Q := NoP Q) (g := l.toArray.size - n) hR hx hxr hn (Region.noSelect_spec hsel) NoP.still hfx (fun listed a' w' T bl hw' hT hL => by
    have hp := hT.perm hR hL.1.2
    have hw2 : OwB w0 (ownR bl R ++ Lb) w' := hw'.perm ((hp.map _).append_right Lb)
    rw [realR_perm hp ((hp.map _).nodup_iff.2 hR.slots)]
    have := wpAny_of_seq (md := .any) (Q' := NoP Q) (l.drop n) n listed (realR bl R a') w' (fun j => by simp [List.getElem?_drop]) (by rw [hdl]; exact hL.1.1) (tailK_out (hL.2 bl w' hw2))
    rwa [hdl] at this) _ _ a w.drew [] (fun _ => 0) hC.drew mk0 inv0 H
  rw [htl, show n + (l.toArray.size - n) = l.toArray.size by omega] at this
  exact this
/-- THE REGION. -/
theorem wp_region_rooms {id : Nat} {Q : Exit → Act → World → Prop} {a : Act} {w : World} {l : List Oper} (n x : Nat) (R : Rooms) (hm : P.follows .mixedOrders = true) (hB : Region.lexRoomB .any l.toArray n x = true) (hR : RoomsOk P l.toArray n R) (hxr : R.has x = false) (hC : OwB w0 Lb w)
    (h : wpQuietR P l.toArray w0 Lb R x (fun a' => ∀ bl w', OwB w0 (ownR bl R ++ Lb) w' → tailK P l.toArray Q (l.drop n) (realR bl R a') w') 0 (l.take n) a) : (Code.region id l.toArray true).wp P Q a w :=
  Code.wp_mono NoP.imp (wp_region_any hm (wpAny_rooms n x R hB hR hxr hC h))
def roomsB (ops : Array Oper) (n : Nat) (R : Rooms) : Bool :=
  decide (R.map (·.1)).Nodup && decide (R.map (·.2.1)).Nodup && R.all (fun r => decide (r.1 < n)) && (List.range n).all fun j => R.has j || match ops[j]? with | some o => R.all fun r => awayB ops o r.2.1 | none => true
theorem RoomsOk.of (chk : roomsB ops n R = true) (op : ∀ r ∈ R, ∃ o, ops[r.1]? = some o ∧ o.dst = some r.2.1 ∧ o.guard = none ∧ ∀ (ρ : Operand → Value) (w : World), (execOp ρ o).run P w = .ok (.value (ptrTo w.heap.size)) (w.alloc r.2.2)) : RoomsOk P ops n R := by
  simp only [roomsB, Bool.and_eq_true, decide_eq_true_eq] at chk
  obtain ⟨⟨⟨h1, h2⟩, h3⟩, h4⟩ := chk
  refine ⟨h1, h2, fun r hr => ⟨by simpa using List.all_eq_true.1 h3 r hr, op r hr⟩, fun j o ho hj hh r hr => ?_⟩
  have h5 := List.all_eq_true.1 h4 j (List.mem_range.2 hj)
  rw [hh, ho, Bool.false_or] at h5
  have h6 := List.all_eq_true.1 h5 r hr
  simp only [awayB, Bool.and_eq_true, Bool.not_eq_true', bne_iff_ne, ne_eq] at h6
  exact ⟨fun hm => by rw [List.contains_iff_mem.2 hm] at h6; exact absurd h6.1 (by simp), h6.2⟩
attribute [go_sem] Oper.quietF
end
end Go
namespace Go
open Go.Dr
section
variable {P : Program} {ops : Array Oper} {md : Region.Mode} {n x : Nat} {w0 : World} {Lb : List (Nat × Obj)} {Q : Exit → Act → World → Prop}
def OnlyN (Q : Exit → Act → World → Prop) : Exit → Act → World → Prop := fun e a w => e = .normal ∧ Q .normal a w
theorem onlyN_out : ¬ LetsOut (NoP (OnlyN Q)) := fun ⟨_, _, h⟩ => by cases h.1
theorem RowsIn.of_rows {row : String} {args : Array Value} {w : World} {K : Value → World → Prop} {m l0 : Nat} (h : Rows P row args w K) : RowsIn (Fence.wide.inRound l0) m P row args w K :=
  fun c cs _ => let ⟨v, w', r, s⟩ := h c cs; ⟨v, w', r, stepsIn_wide.2 s⟩
theorem wpOpIn_of {l0 m i : Nat} {K : Act → World → Prop} {a : Act} {w : World} (hnd : ∀ (j : Nat) (o : Oper) c, ops[j]? = some o → o.op ≠ .defer c) (h : wpOp P ops (NoP (OnlyN Q)) i K a w) : wpOpIn (Fence.wide.inRound l0) m P ops Q i K a w := by
  unfold wpOp at h
  unfold wpOpIn
  split at h
  · rename_i ho; simp only [ho]; exact h
  · rename_i o ho
    simp only [ho]
    split at h
    · rename_i hw
      rw [if_pos hw]
      rcases h with h | ⟨_, h⟩
      · unfold Oper.wpIn
        refine ⟨fun _ _ => trivial, ?_⟩
        rw [show (Fence.wide.inRound l0).round = some l0 from rfl, Oper.semAt_some l0 _ o (fun c => hnd i o c ho)]
        unfold Oper.wp at h
        revert h
        generalize (execOp a.eval o).run P w = r
        intro h
        cases r with
        | ok nx w' =>
          cases nx <;> simp only [Oper.upon] at h <;> simp only [Oper.uponIn]
          case value v => exact h
          case skip => exact h
          case defer d => exact h
          case enter f args =>
            refine ⟨(fun hd => by cases hd), (CallsIn.inRound l0 (callsIn_wide.2 h)).mono ?_⟩
            intro e w'' he
            cases e with
            | returned v => exact he
            | panicked c => exact (show False from he).elim
            | outgrown => exact (onlyN_out he).elim
          case row row args => exact ⟨(fun hd => by cases hd), RowsIn.of_rows h⟩
        | halt z w' =>
          cases z <;> simp only [Oper.upon] at h
          exact (show False from h).elim
      · exact (onlyN_out h).elim
    · rename_i hw
      rw [if_neg hw]
      exact ⟨fun _ _ => trivial, h⟩
theorem wpAnyIn_of {l0 m : Nat} (hnd : ∀ (j : Nat) (o : Oper) c, ops[j]? = some o → o.op ≠ .defer c) : ∀ (fuel : Nat) (listed : Array Bool) (a : Act) (w : World), wpAny P md ops (NoP (OnlyN Q)) fuel listed a w → wpAnyIn (Fence.wide.inRound l0) m P md ops Q fuel listed a w
  | 0, _, _, _, h => ⟨h.1, h.2.2⟩
  | fuel + 1, _, _, _, h => ⟨fun h0 => (h.1 h0).2, fun i hi => wpOpIn_mono (fun a' w' h' => wpAnyIn_of hnd fuel _ a' w' h') (wpOpIn_of hnd (h.2 i hi))⟩
def noDeferB (ops : Array Oper) : Bool := ops.all fun o => match o.op with | .defer _ => false | _ => true
theorem noDeferB_spec (h : noDeferB ops = true) : ∀ (j : Nat) (o : Oper) c, ops[j]? = some o → o.op ≠ .defer c := by
  intro j o c ho e
  have := Array.all_eq_true'.1 h o (Array.mem_of_getElem? ho)
  simp [e] at this
/-- The tail. -/
def tailN (P : Program) (ops : Array Oper) (Q : Exit → Act → World → Prop) (ol : List Oper) (b : Act) (w : World) : Prop :=
  ∀ K : Act → World → Prop, (∀ a w, Q .normal a w → K a w) → wpList P ops (Exit.then K fun _ _ _ => False) ol b w
theorem tailN.tailK {ol : List Oper} {b : Act} {w : World} (h : tailN P ops Q ol b w) : tailK P ops (OnlyN Q) ol b w := fun K hK =>
  wpList_imp (fun e a w h => by cases e <;> first | exact h | exact (show False from h).elim) ol b w (h K fun a w hq => hK a w ⟨rfl, hq⟩)
theorem wpIn_region_rooms {id l0 m : Nat} {a : Act} {w : World} {l : List Oper} (n x : Nat) (R : Rooms) (hm : P.follows .mixedOrders = true) (hB : Region.lexRoomB .any l.toArray n x = true) (hnd : noDeferB l.toArray = true) (hR : RoomsOk P l.toArray n R) (hxr : R.has x = false) (hC : OwB w0 Lb w)
    (h : wpQuietR P l.toArray w0 Lb R x (fun a' => ∀ bl w', OwB w0 (ownR bl R ++ Lb) w' → tailN P l.toArray Q (l.drop n) (realR bl R a') w') 0 (l.take n) a) : (Code.region id l.toArray true).wpIn (Fence.wide.inRound l0) m P Q a w := by
  refine wpIn_region_any hm (wpAnyIn_of (noDeferB_spec hnd) _ _ _ _ (wpAny_rooms (Q := OnlyN Q) n x R hB hR hxr hC ?_))
  have mono : ∀ (l' : List Oper) (k : Nat) (a : Act) (K K' : Act → Prop), (∀ a, K a → K' a) → wpQuietR P l.toArray w0 Lb R x K k l' a → wpQuietR P l.toArray w0 Lb R x K' k l' a := by
    intro l'
    induction l' with
    | nil => exact fun k a K K' hk h => hk a h
    | cons o l' ih =>
      intro k a K K' hk h
      unfold wpQuietR at h ⊢
      by_cases h1 : R.has k = true
      · rw [if_pos h1] at h ⊢; exact ih _ _ _ _ hk h
      · rw [if_neg h1] at h ⊢
        by_cases h2 : k = x
        · rw [if_pos h2] at h ⊢; obtain ⟨v, hy, hK⟩ := h; exact ⟨v, hy, ih _ _ _ _ hk hK⟩
        · rw [if_neg h2] at h ⊢
          by_cases h3 : Region.wanted o (yielded l.toArray a.tmps) = true
          · rw [if_pos h3] at h ⊢; obtain ⟨v, hv, hK⟩ := h; exact ⟨v, hv, ih _ _ _ _ hk hK⟩
          · rw [if_neg h3] at h ⊢; exact ih _ _ _ _ hk h
  exact mono _ _ _ _ _ (fun a' hh bl w' hw => (hh bl w' hw).tailK) h
end
end Go
namespace Go
open Go.Dr

/-! ### A struct's cells, segment by segment -/
theorem seg_get {A C : List Value} {v : Value} {i : Nat} (h : A.length = i) : (A ++ v :: C).toArray[i]? = some v := by
  subst h; simp
theorem seg_get' {A C : List Value} {v : Value} {i : Nat} (h : A.length = i) (hi : i < (A ++ v :: C).toArray.size) : (A ++ v :: C).toArray[i] = v := by
  have := seg_get (C := C) (v := v) h
  rw [Array.getElem?_eq_getElem hi] at this
  exact Option.some.inj this
theorem seg_ext {A B C : List Value} {i j : Nat} (hA : A.length = i) (hB : i + B.length = j) : (A ++ (B ++ C)).toArray.extract i j = B.toArray := by
  subst hA hB
  apply Array.ext'
  simp
theorem seg_set {A C : List Value} {v u : Value} {i : Nat} (h : A.length = i) : (A ++ v :: C).toArray.setIfInBounds i u = (A ++ u :: C).toArray := by
  subst h
  apply Array.ext'
  simp
theorem seg_spl {A B B' C : List Value} {i : Nat} (hA : A.length = i) (hB : B.length = B'.length) : spl (A ++ (B ++ C)).toArray i B' = (A ++ (B' ++ C)).toArray := by
  subst hA
  apply Array.ext'
  simp [spl, hB]
  exact List.take_of_length_le (by omega)
theorem seg_el {A C : List Value} {k : IntKind} {l : List Int} {i j : Nat} (h : A.length = i) (hj : j < l.length) : (A ++ (l.map (Value.int k) ++ C)).toArray[i + j]? = some (.int k (el l j)) := by
  subst h
  simp [el, hj, List.getElem?_append]
theorem seg_put {A C : List Value} {k : IntKind} {l : List Int} {i j : Nat} {x : Int} (h : A.length = i) (hj : j < l.length) : (A ++ (l.map (Value.int k) ++ C)).toArray.setIfInBounds (i + j) (.int k x) = (A ++ ((l.set j x).map (Value.int k) ++ C)).toArray := by
  subst h
  apply Array.ext'
  simp [List.set_append, hj, List.map_set]
theorem seg_all {l : List Value} {n : Nat} (h : l.length = n) : l.toArray.extract 0 n = l.toArray := by
  subst h
  apply Array.ext'
  simp

/-! ### A row of values, and room behind it -/
def rowV (vs : List Value) (r : Array Value) : Array Value := vs.toArray ++ r
theorem size_rowV (vs : List Value) (r : Array Value) : (rowV vs r).size = vs.length + r.size := by simp [rowV]
theorem getElem?_rowV (vs : List Value) (r : Array Value) (i : Nat) (h : i < vs.length) : (rowV vs r)[i]? = some vs[i] := by
  rw [rowV, Array.getElem?_append_left (by simpa using h)]; simp [h]
theorem getElem_rowV (vs : List Value) (r : Array Value) (i : Nat) (hi : i < (rowV vs r).size) (h : i < vs.length) : (rowV vs r)[i] = vs[i] := by
  have := getElem?_rowV vs r i h
  rw [Array.getElem?_eq_getElem hi] at this
  exact Option.some.inj this
attribute [go_sem] size_rowV

/-! ### A slice whose cells are these values -/
/-- n elements of sz cells each. -/
structure Sv (sz : Nat) (w : World) (p : Option Addr) (n cap : Nat) (vs : List Value) : Prop where
  len : vs.length = n * sz
  cap_ : n ≤ cap
  row : n = 0 ∨ ∃ b off cs T fr, p = some ⟨b, off, none⟩ ∧ w.blk b = some (.cells cs T fr) ∧ off + n * sz ≤ cs.size ∧ (cs.extract off (off + n * sz)).toList = vs
  nil : p = none → cap = 0
  mid : True
section
variable {sz : Nat} {w w' : World} {p : Option Addr} {n cap : Nat} {vs : List Value}
theorem Sv.fr {fp : List Nat} (h : Sv sz w p n cap vs) (F : Fr fp w w') (hn : ∀ b, p.map (·.block) = some b → b ∉ fp) : Sv sz w' p n cap vs := by
  refine ⟨h.len, h.cap_, ?_, h.nil, h.mid⟩
  rcases h.row with h0 | ⟨b, off, cs, T, fr, rfl, hb, hs, hl⟩
  · exact .inl h0
  · exact .inr ⟨b, off, cs, T, fr, rfl, F.get hb (hn b rfl), hs, hl⟩
theorem Sv.fr0 (h : Sv sz w p n cap vs) (F : Fr [] w w') : Sv sz w' p n cap vs := h.fr F fun _ _ => by simp
theorem Sv.ofNil (w : World) : Sv sz w none 0 0 [] := ⟨by simp, Nat.le_refl 0, .inl rfl, fun _ => rfl, by simp⟩
/-- Element j's cells lie there. -/
theorem Sv.at (h : Sv sz w p n cap vs) {j : Nat} (hj : j < n) : ∃ b off cs T fr, p = some ⟨b, off, none⟩ ∧ w.blk b = some (.cells cs T fr) ∧ off + n * sz ≤ cs.size ∧ ∀ i, i < sz → cs[off + j * sz + i]? = vs[j * sz + i]? := by
  rcases h.row with h0 | ⟨b, off, cs, T, fr, hp, hb, hs, hl⟩
  · omega
  · refine ⟨b, off, cs, T, fr, hp, hb, hs, fun i hi => ?_⟩
    have hlt : j * sz + i < n * sz := by
      have h1 : (j + 1) * sz ≤ n * sz := Nat.mul_le_mul_right _ hj
      rw [Nat.add_mul] at h1; omega
    rw [← hl, Array.getElem?_toList, Array.getElem?_extract_of_lt (by omega), Nat.add_assoc]
    exact Array.getElem?_eq_getElem (by omega)
theorem Sv.at1 (h : Sv 1 w p n cap vs) {j : Nat} (hj : j < n) (hj2 : j < vs.length) : ∃ b off cs T fr, p = some ⟨b, off, none⟩ ∧ w.blk b = some (.cells cs T fr) ∧ off + j < cs.size ∧ cs[off + j]? = some vs[j] := by
  obtain ⟨b, off, cs, T, fr, hp, hb, hs, hat⟩ := h.at hj
  have := hat 0 (by omega)
  rw [Nat.mul_one, Nat.add_zero, Nat.add_zero, List.getElem?_eq_getElem hj2] at this
  exact ⟨b, off, cs, T, fr, hp, hb, (Array.getElem?_eq_some_iff.1 this).1, this⟩
theorem Sv.src {P : Program} {t e' : TypeId} (h : Sv sz w p n cap vs) (hk : P.underlying t = some (.slice e')) (h1 : ∀ u ∈ vs, u.oneCell' = true) : Src P sz t (.slice p n cap) n vs w := by
  rcases Nat.eq_zero_or_pos n with rfl | h0
  · have hl : vs = [] := List.eq_nil_of_length_eq_zero (by simpa using h.len)
    subst hl
    cases p with
    | none => rw [h.nil rfl]; exact Src.ofNil w hk 0
    | some a => exact Src.ofSlice w hk a 0 cap [] (by simp) (by simp) (by simp)
  · rcases h.row with h2 | ⟨b, off, cs, T, fr, rfl, hb, hs, hl⟩
    · omega
    · refine Src.ofSlice w hk _ n cap _ h.len ?_ h1
      intro j u hu
      have hj : j < n * sz := by have := (List.getElem?_eq_some_iff.1 hu).1; rw [h.len] at this; exact this
      rw [Addr.add_mid, World.cell?_at, hb]
      rw [← hl, Array.getElem?_toList, Array.getElem?_extract_of_lt (by omega)] at hu
      show cs[off + j]? = some u
      rw [Array.getElem?_eq_getElem (by omega)]; exact hu
end

/-! ### A row of the call's own that grows -/
structure BldV (w0 : World) (L : List (Nat × Obj)) (e sz : Nat) (w : World) (p : Option Addr) (n cap : Nat) (vs : List Value) : Prop where
  own : OwB w0 L w
  row : OwnsR w e sz p n cap vs
  new : ∀ g, p.map (·.block) = some g → w0.heap.size ≤ g ∧ g ∉ L.map Prod.fst
section
variable {w0 w w' : World} {L : List (Nat × Obj)} {e sz : Nat} {p : Option Addr} {n cap : Nat} {vs : List Value}
theorem BldV.len (h : BldV w0 L e sz w p n cap vs) : vs.length = n * sz := h.row.1
theorem BldV.nil (h : OwB w0 L w) : BldV w0 L e sz w none 0 0 [] := ⟨h, World.ownsRow_nil w 0 e sz, fun g hg => by cases hg⟩
theorem BldV.call (h : BldV w0 L e sz w p n cap vs) (F : Fr [] w w') : BldV w0 L e sz w' p n cap vs := ⟨h.own.call F, F.owns h.row fun _ _ => by simp, h.new⟩
theorem BldV.room {b : Nat} (h : BldV w0 L e sz w (some ⟨b, 0, none⟩) n cap vs) : ∃ r, OwB w0 ((b, .cells (rowV vs r) e (0, 0)) :: L) w ∧ cap * sz = vs.length + r.size ∧ n ≤ cap ∧ cap ≤ maxLen := by
  have hl := h.row.1
  rcases h.row.2 with ⟨hv, _⟩ | ⟨g, c, cur, hv, _, hg, hnc, hcm, hcs, ht⟩
  · cases hv
  · simp only [Value.slice.injEq, Option.some.injEq, Addr.mk.injEq, and_true, true_and] at hv
    obtain ⟨rfl, rfl⟩ := hv
    refine ⟨cur.extract (n * sz) cur.size, h.own.room ?_ (h.new b rfl).2 (h.new b rfl).1, ?_, hnc, hcm⟩
    · rw [World.blk_heap, hg]
      congr 2
      rw [rowV]
      apply Array.ext'
      rw [Array.toList_append, ← ht, Array.toList_extract, List.extract_eq_take_drop]
      rw [List.take_of_length_le (l := cur.toList.drop (n * sz)) (by simp)]
      simp [List.take_append_drop]
    · have h1 : n * sz ≤ cap * sz := Nat.mul_le_mul_right _ hnc
      simp only [Array.size_extract]; omega
theorem BldV.of {b : Nat} {r : Array Value} (h : OwB w0 ((b, .cells (rowV vs r) e (0, 0)) :: L) w) (hl : vs.length = n * sz) (hc : cap * sz = vs.length + r.size) (hn : n ≤ cap) (hm : cap ≤ maxLen) : BldV w0 L e sz w (some ⟨b, 0, none⟩) n cap vs :=
  ⟨h.take, ⟨hl, .inr ⟨b, cap, rowV vs r, rfl, Nat.zero_le _, h.nth 0 rfl, hn, hm, by rw [size_rowV, hc], by rw [rowV, Array.toList_append, ← hl]; simp⟩⟩, fun g hg => by
    simp only [Option.map_some, Option.some.injEq] at hg
    subst hg
    exact ⟨h.low 0 rfl, (List.nodup_cons.1 h.nd).1⟩⟩
theorem BldV.sv (h : BldV w0 L e sz w p n cap vs) : Sv sz w p n cap vs := by
  have hl := h.len
  rcases h.row.2 with ⟨hv, h0⟩ | ⟨g, c, cur, hv, _, hg, hnc, hcm, hcs, ht⟩
  · simp only [Value.slice.injEq] at hv
    obtain ⟨rfl, _, rfl⟩ := hv
    exact ⟨hl, by omega, .inl h0, fun _ => rfl, by simp⟩
  · simp only [Value.slice.injEq] at hv
    obtain ⟨rfl, _, rfl⟩ := hv
    refine ⟨hl, hnc, .inr ⟨g, 0, cur, e, (0, 0), rfl, hg, ?_, ?_⟩, by simp, trivial⟩
    · rw [hcs, Nat.zero_add]; exact Nat.mul_le_mul_right _ hnc
    · rw [Array.toList_extract, List.extract_eq_take_drop]
      simpa using ht
theorem BldV.some_of (h : BldV w0 L e sz w p n cap vs) (h0 : 0 < n) : ∃ g, p = some ⟨g, 0, none⟩ := h.row.some_of h0
theorem wpList_apdV2 {P : Program} {ops : Array Oper} {rest : List Oper} {o : Oper} {a : Act} {Q : Exit → Act → World → Prop} (hgd : o.guard = none) (s x : Operand) (t tx : TypeId)
    (ho : o.op = .call { callee := .builtin .append, args := #[s, x], argTypes := #[t, tx] }) {i : TypeInfo} {z : Value} {bytes : Nat}
    (ht : P.underlying t = some (.slice e)) (hi : P.info? e = some i) (hz : i.zero = some z) (hsz : i.size = sz) (h0 : 0 < sz) (hby : i.bytes = bytes) (hzs : z.cells.size = sz)
    (hs : a.eval s = .slice p n cap) (B : BldV w0 L e sz w p n cap vs) {v : Value} (hx : a.eval x = v) {m : Nat} {l2 : List Value} (S : Apd P t tx e i z v m l2 w)
    (hbig : (n + m) * bytes ≤ 140737488355328) (h63 : n + m ≤ 4611686018427387904)
    (h : ∀ p' cap' w', BldV w0 L e sz w' p' (n + m) cap' (vs ++ l2) → (∀ g, p'.map (·.block) = some g → p.map (·.block) = some g ∨ w.heap.size ≤ g) → Fr (p.map (·.block)).toList w w' → wpList P ops Q rest (a.put o.dst (.slice p' (n + m) cap')) w') : wpList P ops Q (o :: rest) a w := by
  refine wpList_plain hgd fun K hK => ?_
  have hrow := B.row
  rw [← hsz] at hrow
  obtain ⟨p', cap', w', hr, h2, h3, h4⟩ := run_apd (w := w) (ty := o.type) ht hi hz (by rw [hzs, hsz]) (by omega) hrow S h63 (by rw [hby]; exact hbig)
  unfold Oper.wp execOp
  simp only [ho, resolve, invoke, builtin, Sem.run_bind, Sem.run_pure, Result.andThen_ok, List.map_toArray, List.map_cons, List.map_nil, hs, hx, hr]
  refine hK _ _ (h p' cap' w' ⟨?_, ?_, fun g hg => ?_⟩ h4 ((Fr.refl (p.map (·.block)).toList w).grown h3 fun g hg _ => by simp [hg]))
  · refine ⟨fun q hq => ?_, B.own.nd, B.own.lo, B.own.fr.seq ((Fr.refl (p.map (·.block)).toList w).grown h3 fun g hg _ => by simp [hg]) fun b hb hlt => ?_⟩
    · have hq2 := B.own.has q hq
      exact (h3.block q.1 (World.at_lt hq2) (fun e => (B.new q.1 e.symm).2 (List.mem_map_of_mem hq))).trans hq2
    · have hb' : p.map (·.block) = some b := by
        cases hp : p.map (·.block) with
        | none => rw [hp] at hb; cases hb
        | some c => rw [hp] at hb; simp only [Option.toList_some, List.mem_singleton] at hb; rw [hb]
      have := (B.new b hb').1
      omega
  · rw [hsz] at h2
    exact h2
  · rcases h4 g hg with h5 | h5
    · exact B.new g h5
    · exact ⟨Nat.le_trans B.own.fr.size h5, B.own.fresh h5⟩
theorem wpList_apdV {P : Program} {ops : Array Oper} {rest : List Oper} {o : Oper} {a : Act} {Q : Exit → Act → World → Prop} (hgd : o.guard = none) (s x : Operand) (t tx : TypeId)
    (ho : o.op = .call { callee := .builtin .append, args := #[s, x], argTypes := #[t, tx] }) {i : TypeInfo} {z : Value} {bytes : Nat}
    (ht : P.underlying t = some (.slice e)) (hi : P.info? e = some i) (hz : i.zero = some z) (hsz : i.size = sz) (h0 : 0 < sz) (hby : i.bytes = bytes) (hzs : z.cells.size = sz)
    (hs : a.eval s = .slice p n cap) (B : BldV w0 L e sz w p n cap vs) {v : Value} (hx : a.eval x = v) {m : Nat} {l2 : List Value} (S : Apd P t tx e i z v m l2 w)
    (hbig : (n + m) * bytes ≤ 140737488355328) (h63 : n + m ≤ 4611686018427387904)
    (h : ∀ p' cap' w', BldV w0 L e sz w' p' (n + m) cap' (vs ++ l2) → wpList P ops Q rest (a.put o.dst (.slice p' (n + m) cap')) w') : wpList P ops Q (o :: rest) a w :=
  wpList_apdV2 hgd s x t tx ho ht hi hz hsz h0 hby hzs hs B hx S hbig h63 fun p' cap' w' B' _ _ => h p' cap' w' B'
end
end Go
