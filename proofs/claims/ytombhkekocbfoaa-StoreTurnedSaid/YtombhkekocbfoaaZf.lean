/- Joined: PkC, StB, StC, StE, StF, StG, StH, StI, StJ. -/
import Derived.Test.YtombhkekocbfoaaZe
import Derived.ScopeJumps
set_option linter.unusedVariables false
set_option linter.unusedSimpArgs false
namespace Go
/-- As Q; by a goto: what holds at its label. -/
def Exit.jumps (J : Nat → Act → World → Prop) (Q : Exit → Act → World → Prop) : Exit → Act → World → Prop
  | .goto l, a, w => J l a w
  | e, a, w => Q e a w
section
variable {P : Program} {a : Act} {w : World} {Q : Exit → Act → World → Prop}
theorem wp_scope_all {c : Code} (J : Nat → Act → World → Prop) (μ : Nat → Act → World → Nat)
    (pass : ∀ l a w, J l a w → ∃ rest, findLabel c l = some rest ∧ rest.wp P (Exit.jumps (fun l' a' w' => J l' a' w' ∧ μ l' a' w' < μ l a w) Q) a w)
    (first : c.wp P (Exit.jumps J Q) a w) : (Code.scope c).wp P Q a w := by
  intro b k cs
  have key : ∀ n l a w, μ l a w = n → J l a w → ∃ rest, findLabel c l = some rest ∧ ∃ e a' w', Q e a' w' ∧ Arrives P (lone (b.at a (.code rest :: .inScope c :: k)) cs w) b k cs e a' w' := by
    intro n
    induction n using Nat.strongRecOn with
    | _ n ih =>
      intro l a w hn hJ
      obtain ⟨rest, hf, hp⟩ := pass l a w hJ
      refine ⟨rest, hf, ?_⟩
      obtain ⟨e, a₁, w₁, hq, harr⟩ := hp b (.inScope c :: k) cs
      cases e with
      | normal => exact ⟨.normal, a₁, w₁, hq, Steps.trans harr (.one step_inScope)⟩
      | exit id => exact ⟨.exit id, a₁, w₁, hq, fun k' hk => harr k' (by simp [exitTo, hk])⟩
      | goto l' =>
        obtain ⟨hJ', hlt⟩ := hq
        obtain ⟨rest2, hf2, e₂, a₂, w₂, hq₂, harr₂⟩ := ih _ (by omega) l' a₁ w₁ rfl hJ'
        have hg : gotoIn l' (.inScope c :: k) = some (.code rest2 :: .inScope c :: k) := by simp [gotoIn, hf2]
        exact ⟨e₂, a₂, w₂, hq₂, .of_steps (harr _ hg) harr₂⟩
      | ret => exact ⟨_, a₁, w₁, hq, harr⟩
      | panic ch => exact ⟨_, a₁, w₁, hq, harr⟩
      | outgrown => exact ⟨_, a₁, w₁, hq, harr⟩
  obtain ⟨e, a₁, w₁, hq, harr⟩ := first b (.inScope c :: k) cs
  cases e with
  | normal => exact ⟨.normal, a₁, w₁, hq, .head step_scope (Steps.trans harr (.one step_inScope))⟩
  | exit id => exact ⟨.exit id, a₁, w₁, hq, fun k' hk => .head step_scope (harr k' (by simp [exitTo, hk]))⟩
  | goto l' =>
    obtain ⟨rest2, hf2, e₂, a₂, w₂, hq₂, harr₂⟩ := key _ l' a₁ w₁ rfl hq
    have hg : gotoIn l' (.inScope c :: k) = some (.code rest2 :: .inScope c :: k) := by simp [gotoIn, hf2]
    exact ⟨e₂, a₂, w₂, hq₂, .of_steps (.head step_scope (harr _ hg)) harr₂⟩
  | ret => exact ⟨_, a₁, w₁, hq, .of_steps (.one step_scope) harr⟩
  | panic ch => exact ⟨_, a₁, w₁, hq, .of_steps (.one step_scope) harr⟩
  | outgrown => exact ⟨_, a₁, w₁, hq, .of_steps (.one step_scope) harr⟩
theorem wp_scope_next {c : Code} (J : Nat → Act → World → Prop) (μ : Nat → Act → World → Nat)
    (pass : ∀ l a w, J l a w → ∃ rest, findLabel c l = some (Code.skip.seq rest) ∧ rest.wp P (Exit.jumps (fun l' a' w' => J l' a' w' ∧ μ l' a' w' < μ l a w) Q) a w)
    (first : (∀ l a w, J l a w → ∃ rest, findLabel c l = some (Code.skip.seq rest) ∧ rest.wp P (Exit.jumps J Q) a w) → c.wp P (Exit.jumps J Q) a w) : (Code.scope c).wp P Q a w := by
  have up : ∀ (R : Nat → Act → World → Prop), (∀ l a w, R l a w → J l a w) → ∀ e a w, Exit.jumps R Q e a w → Exit.jumps J Q e a w := fun R h e a w he => by
    cases e <;> first | exact he | exact h _ _ _ he
  refine wp_scope_all J μ (fun l a w hJ => ?_) (first fun l a w hJ => ?_)
  · obtain ⟨rest, hf, hp⟩ := pass l a w hJ
    exact ⟨_, hf, wp_seq (wp_skip hp)⟩
  · obtain ⟨rest, hf, hp⟩ := pass l a w hJ
    exact ⟨rest, hf, wp_mono hp (up _ fun _ _ _ h => h.1)⟩
theorem wp_there {c X : Code} {l : Nat} (h : ∃ rest, findLabel c l = some (Code.skip.seq rest) ∧ rest.wp P Q a w) (hX : findLabel c l = some (Code.skip.seq X)) : X.wp P Q a w := by
  obtain ⟨rest, hf, hp⟩ := h
  have e := (Code.seq.inj (Option.some.inj (hf.symm.trans hX))).2
  rw [← e]
  exact hp
end
end Go
namespace Go.Kd
/-- n pieces, and what is left. -/
def takeP : Nat → Bs → Option (List Bs × Bs)
  | 0, b => some ([], b)
  | n + 1, a :: c :: b => if 4096 < a.toNat * 256 + c.toNat ∨ b.length < a.toNat * 256 + c.toNat then none else (takeP n (b.drop (a.toNat * 256 + c.toNat))).map fun q => (b.take (a.toNat * 256 + c.toNat) :: q.1, q.2)
  | _ + 1, _ => none
def finP (done : List Bs) : Option (List Bs × Bs) → Option (List Bs)
  | some (l, []) => some (done ++ l)
  | _ => none
/-- The pieces. -/
def splitB : Bs → Option (List Bs)
  | [] => none
  | k :: b => if 64 < k then none else finP [] (takeP k.toNat b)
theorem finP_zero (done : List Bs) (b : Bs) : finP done (takeP 0 b) = if b = [] then some done else none := by
  cases b <;> simp [takeP, finP]
theorem takeP_short {n : Nat} {b : Bs} (h : b.length < 2) : takeP (n + 1) b = none := by
  match b, h with
  | [], _ => rfl
  | [_], _ => rfl
theorem finP_none (done : List Bs) : finP done none = none := rfl
theorem finP_step {done : List Bs} {n : Nat} {a c : Int} {b : Bs} (h1 : ¬ 4096 < a.toNat * 256 + c.toNat) (h2 : ¬ b.length < a.toNat * 256 + c.toNat) :
    finP done (takeP (n + 1) (a :: c :: b)) = finP (done ++ [b.take (a.toNat * 256 + c.toNat)]) (takeP n (b.drop (a.toNat * 256 + c.toNat))) := by
  rw [takeP, if_neg (by omega)]
  cases takeP n (b.drop (a.toNat * 256 + c.toNat)) with
  | none => rfl
  | some q =>
    obtain ⟨l, r⟩ := q
    cases r <;> simp [finP]
theorem takeP_big {n : Nat} {a c : Int} {b : Bs} (h : 4096 < a.toNat * 256 + c.toNat ∨ b.length < a.toNat * 256 + c.toNat) : takeP (n + 1) (a :: c :: b) = none := by
  rw [takeP, if_pos h]
/-- What joined pieces are taken as. -/
theorem takeP_join : ∀ (ps : List Bs) (r : Bs), (∀ p ∈ ps, p.length ≤ 4096) → takeP ps.length (ps.flatMap (fun p => ((p.length / 256 : Nat) : Int) :: ((p.length % 256 : Nat) : Int) :: p) ++ r) = some (ps, r) := by
  intro ps
  induction ps with
  | nil => intro r _; rfl
  | cons p ps ih =>
    intro r h
    have hp := h p (by simp)
    rw [List.flatMap_cons, List.length_cons]
    simp only [List.cons_append, List.append_assoc]
    have e : ((p.length / 256 : Nat) : Int).toNat * 256 + ((p.length % 256 : Nat) : Int).toNat = p.length := by
      rw [Int.toNat_natCast, Int.toNat_natCast]
      omega
    rw [takeP, e, if_neg (by rw [List.length_append]; omega), List.drop_left, List.take_left, ih r (fun q hq => h q (by simp [hq]))]
    rfl
theorem splitB_join {ps : List Bs} (h : fits ps = true) : splitB (joinB ps) = some ps := by
  simp only [fits, Bool.and_eq_true, decide_eq_true_eq, List.all_eq_true] at h
  have := takeP_join ps [] h.2
  rw [List.append_nil] at this
  rw [joinB, splitB, if_neg (by omega), Int.toNat_natCast, this]
  rfl
/-- And the other way round. -/
theorem takeP_back : ∀ (n : Nat) (b : Bs) (ps : List Bs) (r : Bs), (∀ x ∈ b, 0 ≤ x ∧ x < 256) → takeP n b = some (ps, r) → ps.length = n ∧ (∀ p ∈ ps, p.length ≤ 4096) ∧ b = ps.flatMap (fun p => ((p.length / 256 : Nat) : Int) :: ((p.length % 256 : Nat) : Int) :: p) ++ r := by
  intro n
  induction n with
  | zero => intro b ps r _ h; rw [takeP] at h; cases h; simp
  | succ n ih =>
    intro b ps r hb h
    match b, hb, h with
    | [], _, h => cases h
    | [_], _, h => cases h
    | a :: c :: b, hb, h =>
      have ha := hb a (by simp)
      have hc := hb c (by simp)
      rw [takeP] at h
      split at h
      · cases h
      · rename_i hn
        obtain ⟨s, hs⟩ : ∃ s, s = a.toNat * 256 + c.toNat := ⟨_, rfl⟩
        rw [← hs] at h hn
        cases hq : takeP n (b.drop s) with
        | none => rw [hq] at h; cases h
        | some q =>
          obtain ⟨l, r2⟩ := q
          rw [hq] at h
          simp only [Option.map_some, Option.some.injEq, Prod.mk.injEq] at h
          obtain ⟨rfl, rfl⟩ := h
          obtain ⟨h1, h2, h3⟩ := ih _ _ _ (fun x hx => hb x (by simp [List.mem_of_mem_drop hx])) hq
          have hl : (b.take s).length = s := by rw [List.length_take]; omega
          refine ⟨by simp [h1], ?_, ?_⟩
          · intro p hp
            rcases List.mem_cons.1 hp with rfl | hp
            · omega
            · exact h2 p hp
          · rw [List.flatMap_cons, hl]
            simp only [List.cons_append, List.append_assoc]
            rw [← h3, List.take_append_drop]
            congr 1
            · omega
            · congr 1
              omega
theorem splitB_back {b : Bs} {ps : List Bs} (hb : ∀ x ∈ b, 0 ≤ x ∧ x < 256) (h : splitB b = some ps) : b = joinB ps ∧ fits ps = true := by
  match b, hb, h with
  | [], _, h => cases h
  | k :: b, hb, h =>
    have hk := hb k (by simp)
    rw [splitB] at h
    split at h
    · cases h
    · cases hq : takeP k.toNat b with
      | none => rw [hq] at h; cases h
      | some q =>
        obtain ⟨l, r⟩ := q
        rw [hq] at h
        cases r with
        | cons x r => cases h
        | nil =>
          simp only [finP, List.nil_append, Option.some.injEq] at h
          subst h
          obtain ⟨h1, h2, h3⟩ := takeP_back _ _ _ _ (fun x hx => hb x (by simp [hx])) hq
          rw [List.append_nil] at h3
          refine ⟨?_, ?_⟩
          · rw [joinB, ← h3, h1]
            congr 1
            omega
          · simp only [fits, Bool.and_eq_true, decide_eq_true_eq, List.all_eq_true]
            exact ⟨by omega, h2⟩
end Go.Kd
namespace Go.St
open Go.Kd Go.Dr
/-- What a half's first block says: it is wrong; there is no header; epoch, count and end. -/
def hE (b : Bs) : Nat := getB ((b.drop 4).take 8)
def hC (b : Bs) : Nat := getB ((b.drop 12).take 4)
def hN (b : Bs) : Nat := getB ((b.drop 16).take 4)
def lookH (b : Bs) (h : Nat) : Option (Option (Nat × Nat × Nat)) :=
  if b.all (fun x => x == 0) then some none
  else if b.take 24 = head24 (hE b) (hC b) (hN b) ∧ 1 ≤ hN b ∧ hN b ≤ h then some (some (hE b, hC b, hN b)) else none
/-- A change out of bytes. -/
def rdChg (b : Bs) : Option Chg := match splitB b with
  | some [n] => if 1 ≤ n.length ∧ n.length ≤ 32 then some ⟨n, true, []⟩ else none
  | some [n, v] => if 1 ≤ n.length ∧ n.length ≤ 32 ∧ v.length ≤ 4000 then some ⟨n, false, v⟩ else none
  | _ => none
def rdChgs : List Bs → Option (List Chg)
  | [] => some []
  | b :: bs => (rdChg b).bind fun c => (rdChgs bs).map (c :: ·)
/-- The changes of a payload. -/
def rdPay (b : Bs) : Option (List Chg) := (splitB b).bind rdChgs
/-- So many records, behind k, out of these blocks: what they make of L. -/
def readR (e : Nat) : Nat → Nat → Bs → List (Bs × Bs) → Option (List (Bs × Bs))
  | 0, _, all, L => if all = [] then some L else none
  | c + 1, k, all, L =>
    if all = [] then none
    else if all.length - 8 < getB (all.take 4) then none
    else if (recH e (k + 1) ((all.drop 8).take (getB (all.take 4)))) = all.take 8 then
      match rdPay ((all.drop 8).take (getB (all.take 4))) with
      | none => none
      | some l => if 64 < (allC L l).length then none else readR e c (k + 1) (all.drop ((8 + getB (all.take 4) + 63) / 64 * 64)) (allC L l)
    else none
/-- A store: which half, its header, the names and values by rising names; did a write fail? -/
structure SP where
  half : Nat
  epoch : Nat
  count : Nat
  fin : Nat
  L : List (Bs × Bs)
  broken : Bool
/-- Blocks written from a place on: till one can't be. -/
def wrM : DM → Nat → List Bs → Bool × DM
  | m, _, [] => (true, m)
  | m, pos, b :: bs => if (writeM m pos b).1 = 0 then wrM (writeM m pos b).2 (pos + 1) bs else (false, (writeM m pos b).2)
def chunks (b : Bs) : List Bs := (List.range (b.length / 64)).map fun i => (b.drop (64 * i)).take 64
def putM (m : DM) (pos : Nat) (b : Bs) : Bool × DM :=
  if (wrM m pos (chunks b)).1 then ((syncM (wrM m pos (chunks b)).2).1 == 0, (syncM (wrM m pos (chunks b)).2).2) else (false, (wrM m pos (chunks b)).2)
/-- The bytes of a half's records. -/
def recsM (m : DM) (half fin : Nat) : Bs := (m.seen.drop ((half * (m.n / 2) + 1) * 64)).take ((fin - 1) * 64)
def readH (m : DM) (half : Nat) (x : Nat × Nat × Nat) : Int × Option SP × DM := match readR x.1 x.2.1 0 (recsM m half x.2.2) [] with
  | some L => (0, some ⟨half, x.1, x.2.1, x.2.2, L, false⟩, m)
  | none => (160, none, m)
/-- Open: an error's number, the store, the disk. -/
def openM (m : DM) : Int × Option SP × DM :=
  if m.n < 4 then (1, none, m) else if m.dead then (150, none, m) else
  match lookH (blockOf m.seen 0) (m.n / 2), lookH (blockOf m.seen (m.n / 2)) (m.n / 2) with
  | some none, some none => if (putM m 0 (headB 1 0 1)).1 then (0, some ⟨0, 1, 0, 1, [], false⟩, (putM m 0 (headB 1 0 1)).2) else (150, none, (putM m 0 (headB 1 0 1)).2)
  | some (some x), some (some y) => if x.1 = y.1 then (160, none, m) else if x.1 < y.1 then readH m 1 y else readH m 0 x
  | some none, some (some y) => readH m 1 y
  | some (some x), some none => readH m 0 x
  | _, _ => (160, none, m)
/-- A wrong change's error. -/
def badC : List Chg → Option Int
  | [] => none
  | c :: l => if c.name.length < 1 ∨ 32 < c.name.length ∨ (c.gone = true ∧ 0 < c.val.length) then some 1 else if 4000 < c.val.length then some 5 else badC l
def asC (L : List (Bs × Bs)) : List Chg := L.map fun x => ⟨x.1, false, x.2⟩
def finM (sp : SP) (m : DM) (next : List (Bs × Bs)) (half at_ e c : Nat) (b : Bs) : Int × SP × DM :=
  if (putM m (half * (m.n / 2) + at_) b).1 then
    if (putM (putM m (half * (m.n / 2) + at_) b).2 (half * (m.n / 2)) (headB e c (at_ + b.length / 64))).1 then
      (0, ⟨half, e, c, at_ + b.length / 64, next, false⟩, (putM (putM m (half * (m.n / 2) + at_) b).2 (half * (m.n / 2)) (headB e c (at_ + b.length / 64))).2)
    else (150, { sp with broken := true }, (putM (putM m (half * (m.n / 2) + at_) b).2 (half * (m.n / 2)) (headB e c (at_ + b.length / 64))).2)
  else (150, { sp with broken := true }, (putM m (half * (m.n / 2) + at_) b).2)
/-- Commit: an error's number, the store, the disk. -/
def commitM (sp : SP) (m : DM) (l : List Chg) : Int × SP × DM :=
  match badC l with
  | some e => (e, sp, m)
  | none =>
    if 64 < l.length then (4, sp, m)
    else if 64 < (allC sp.L l).length then (4, sp, m)
    else if sp.broken then (150, sp, m)
    else if l = [] then (0, sp, m)
    else if m.n / 2 < sp.fin + (recB sp.epoch (sp.count + 1) (payB l)).length / 64 then
      if sp.epoch = 18446744073709551615 then (7, sp, m)
      else if m.n / 2 < 1 + (recB (sp.epoch + 1) 1 (payB (asC (allC sp.L l)))).length / 64 then (4, sp, m)
      else finM sp m (allC sp.L l) (1 - sp.half) 1 (sp.epoch + 1) 1 (recB (sp.epoch + 1) 1 (payB (asC (allC sp.L l))))
    else finM sp m (allC sp.L l) sp.half sp.fin sp.epoch (sp.count + 1) (recB sp.epoch (sp.count + 1) (payB l))
end Go.St
namespace Go.St
open Go.Kd Go.Dr
theorem bs_irrefl (a : Bs) : ¬ a < a := List.lt_irrefl a
theorem bs_trans {a b c : Bs} (h : a < b) (k : b < c) : a < c := List.lt_trans h k
theorem bs_tri {a b : Bs} (h : ¬ a < b) (k : a ≠ b) : b < a := by
  rcases Decidable.em (b < a) with h1 | h1
  · exact h1
  · exact absurd (List.le_antisymm (List.not_lt.1 h1) (List.not_lt.1 h)) k
theorem mem_putL {n v : Bs} {x : Bs × Bs} : ∀ {L : List (Bs × Bs)}, x ∈ putL n v L → x = (n, v) ∨ (x ∈ L) := by
  intro L
  induction L with
  | nil => intro h; simp [putL] at h; exact .inl h
  | cons y L ih =>
    intro h
    obtain ⟨m, u⟩ := y
    rw [putL] at h
    split at h
    · rcases List.mem_cons.1 h with h | h
      · exact .inl h
      · exact .inr h
    · split at h
      · rcases List.mem_cons.1 h with h | h
        · exact .inl h
        · exact .inr (by simp [h])
      · rcases List.mem_cons.1 h with h | h
        · exact .inr (by simp [h])
        · rcases ih h with h | h
          · exact .inl h
          · exact .inr (by simp [h])
theorem sorted_putL {n v : Bs} : ∀ {L : List (Bs × Bs)}, Sorted L → Sorted (putL n v L) := by
  intro L
  induction L with
  | nil => intro _; simp [putL, Sorted]
  | cons y L ih =>
    intro h
    obtain ⟨m, u⟩ := y
    have h2 := List.pairwise_cons.1 h
    rw [putL]
    split
    · rename_i hlt
      refine List.pairwise_cons.2 ⟨fun x hx => ?_, h⟩
      rcases List.mem_cons.1 hx with rfl | hx
      · exact hlt
      · exact bs_trans hlt (h2.1 x hx)
    · rename_i hlt
      split
      · rename_i he
        subst he
        exact List.pairwise_cons.2 ⟨h2.1, h2.2⟩
      · rename_i he
        refine List.pairwise_cons.2 ⟨fun x hx => ?_, ih h2.2⟩
        rcases mem_putL hx with rfl | hx
        · exact bs_tri hlt he
        · exact h2.1 x hx
theorem sorted_delL {n : Bs} {L : List (Bs × Bs)} (h : Sorted L) : Sorted (delL n L) := List.Pairwise.filter _ h
theorem sorted_doC {L : List (Bs × Bs)} {c : Chg} (h : Sorted L) : Sorted (doC L c) := by
  unfold doC
  split
  · exact sorted_delL h
  · exact sorted_putL h
theorem sorted_allC : ∀ {l : List Chg} {L : List (Bs × Bs)}, Sorted L → Sorted (allC L l) := by
  intro l
  induction l with
  | nil => intro L h; exact h
  | cons c l ih => intro L h; exact ih (sorted_doC h)
/-- The greatest name goes behind the others. -/
theorem putL_last {n v : Bs} : ∀ {L : List (Bs × Bs)}, (∀ x ∈ L, x.1 < n) → putL n v L = L ++ [(n, v)] := by
  intro L
  induction L with
  | nil => intro _; rfl
  | cons y L ih =>
    intro h
    obtain ⟨m, u⟩ := y
    have h1 : m < n := h (m, u) (by simp)
    rw [putL, if_neg (fun h2 => bs_irrefl _ (bs_trans h1 h2)), if_neg (fun h2 => by rw [h2] at h1; exact bs_irrefl _ h1), ih (fun x hx => h x (by simp [hx]))]
    rfl
theorem allC_asC : ∀ (L A : List (Bs × Bs)), Sorted (A ++ L) → allC A (asC L) = A ++ L := by
  intro L
  induction L with
  | nil => intro A _; simp [asC, allC]
  | cons x L ih =>
    intro A h
    have h1 : putL x.1 x.2 A = A ++ [x] := putL_last fun y hy => by
      have := (List.pairwise_append.1 h).2.2 y hy x (by simp)
      exact this
    have h2 : allC A (asC (x :: L)) = allC (putL x.1 x.2 A) (asC L) := rfl
    rw [h2, h1, ih (A ++ [x]) (by simpa using h)]
    simp
/-- What a name's value is. -/
def look (n : Bs) (L : List (Bs × Bs)) : Option Bs := (L.find? fun x => decide (x.1 = n)).map (·.2)
/-- A change's sizes are right. -/
structure ChgOk (c : Chg) : Prop where
  n1 : 1 ≤ c.name.length
  n2 : c.name.length ≤ 32
  v : c.val.length ≤ 4000
  g : c.gone = true → c.val = []
theorem badC_none : ∀ {l : List Chg}, badC l = none ↔ ∀ c ∈ l, ChgOk c := by
  intro l
  induction l with
  | nil => simp [badC]
  | cons c l ih =>
    rw [badC]
    constructor
    · intro h
      split at h
      · cases h
      · rename_i h1
        split at h
        · cases h
        · rename_i h2
          intro x hx
          rcases List.mem_cons.1 hx with rfl | hx
          · refine ⟨by omega, by omega, by omega, fun hg => ?_⟩
            have : ¬ 0 < x.val.length := fun h0 => h1 (.inr (.inr ⟨hg, h0⟩))
            exact List.eq_nil_of_length_eq_zero (by omega)
          · exact (ih.1 h) x hx
    · intro h
      have hc := h c (by simp)
      have h1 := hc.n1
      have h2 := hc.n2
      have h3 := hc.v
      have h4 := hc.g
      rw [if_neg (fun hh => by
        rcases hh with hh | hh | ⟨hg, h0⟩
        · omega
        · omega
        · rw [h4 hg] at h0; simp at h0), if_neg (by omega)]
      exact ih.2 fun x hx => h x (by simp [hx])
theorem chgP_fits {c : Chg} (h : ChgOk c) : fits (chgP c) = true := by
  have := h.n2
  have := h.v
  unfold chgP
  split <;> simp [fits] <;> omega
theorem rdChg_back {c : Chg} (h : ChgOk c) : rdChg (joinB (chgP c)) = some c := by
  have h1 := h.n1
  have h2 := h.n2
  have h3 := h.v
  have h4 := h.g
  unfold rdChg
  rw [splitB_join (chgP_fits h)]
  unfold chgP
  cases hg : c.gone with
  | true =>
    simp only [if_true]
    rw [if_pos ⟨h1, h2⟩]
    have := h4 hg
    cases c
    simp_all
  | false =>
    simp only [Bool.false_eq_true, if_false]
    rw [if_pos ⟨h1, h2, h3⟩]
    cases c
    simp_all
theorem rdChgs_back : ∀ {l : List Chg}, (∀ c ∈ l, ChgOk c) → rdChgs (l.map fun c => joinB (chgP c)) = some l := by
  intro l
  induction l with
  | nil => intro _; rfl
  | cons c l ih =>
    intro h
    rw [List.map_cons, rdChgs, rdChg_back (h c (by simp)), ih (fun x hx => h x (by simp [hx]))]
    rfl
theorem chgJ_length {c : Chg} (h : ChgOk c) : (joinB (chgP c)).length ≤ 4037 := by
  have := h.n2
  have := h.v
  unfold chgP
  split <;> simp [joinB] <;> omega
theorem payB_fits {l : List Chg} (h : ∀ c ∈ l, ChgOk c) (hl : l.length ≤ 64) : fits (l.map fun c => joinB (chgP c)) = true := by
  simp only [fits, Bool.and_eq_true, decide_eq_true_eq, List.all_eq_true, List.length_map]
  refine ⟨hl, fun p hp => ?_⟩
  obtain ⟨c, hc, rfl⟩ := List.mem_map.1 hp
  have := chgJ_length (h c hc)
  omega
theorem rdPay_back {l : List Chg} (h : ∀ c ∈ l, ChgOk c) (hl : l.length ≤ 64) : rdPay (payB l) = some l := by
  unfold rdPay payB
  rw [splitB_join (payB_fits h hl)]
  exact rdChgs_back h
end Go.St
namespace Go.St
open Go.Kd Go.Dr
theorem rec_take8 (e k : Nat) (p r : Bs) : (recB e k p ++ r).take 8 = recH e k p := by
  rw [recB, List.append_assoc, List.append_assoc, List.take_left' (recH_length e k p)]
theorem rec_take4 (e k : Nat) (p r : Bs) : (recB e k p ++ r).take 4 = putB p.length 4 := by
  rw [recB, recH]
  simp only [List.append_assoc]
  rw [List.take_left' (putB_length _ _)]
theorem rec_pay (e k : Nat) (p r : Bs) : ((recB e k p ++ r).drop 8).take p.length = p := by
  rw [recB, List.append_assoc, List.append_assoc, List.drop_left' (recH_length e k p), List.take_left]
theorem rec_rest (e k : Nat) (p r : Bs) : (recB e k p ++ r).drop ((8 + p.length + 63) / 64 * 64) = r := List.drop_left' (recB_length e k p)
theorem recB_ne (e k : Nat) (p r : Bs) : recB e k p ++ r ≠ [] := fun h => by
  have := congrArg List.length h
  rw [List.length_append, recB_length] at this
  simp only [List.length_nil] at this
  omega
theorem readR_rec {e c k : Nat} {p r : Bs} {L : List (Bs × Bs)} {l : List Chg} (hp : rdPay p = some l) (hl : p.length < 4294967296) (h64 : (allC L l).length ≤ 64) : readR e (c + 1) k (recB e (k + 1) p ++ r) L = readR e c (k + 1) r (allC L l) := by
  rw [readR, if_neg (recB_ne _ _ _ _), rec_take4, getB_putB4 hl, if_neg (by rw [List.length_append, recB_length]; omega), rec_pay, rec_take8, if_pos rfl, hp]
  simp only
  rw [if_neg (by omega), rec_rest]
theorem readR_app {e : Nat} {p : Bs} {l : List Chg} (hp : rdPay p = some l) (hl : p.length < 4294967296) : ∀ (c k : Nat) (all : Bs) (L L1 : List (Bs × Bs)), all.length % 64 = 0 → readR e c k all L = some L1 → (allC L1 l).length ≤ 64 → readR e (c + 1) k (all ++ recB e (k + c + 1) p) L = some (allC L1 l) := by
  intro c
  induction c with
  | zero =>
    intro k all L L1 hm h h64
    rw [readR] at h
    split at h
    · rename_i ha
      subst ha
      cases h
      have := readR_rec (e := e) (c := 0) (k := k) (r := []) (L := L) hp hl h64
      rw [List.append_nil] at this
      rw [List.nil_append, Nat.add_zero, this, readR, if_pos rfl]
    · cases h
  | succ c ih =>
    intro k all L L1 hm h h64
    rw [readR] at h
    split at h
    · cases h
    · rename_i hne
      have hpos : 64 ≤ all.length := by
        have : all.length ≠ 0 := fun h0 => hne (List.eq_nil_of_length_eq_zero h0)
        omega
      split at h
      · cases h
      · rename_i hn
        split at h
        · rename_i hH
          split at h
          · cases h
          · rename_i l0 hl0
            split at h
            · cases h
            · rename_i h640
              have t4 : (all ++ recB e (k + (c + 1) + 1) p).take 4 = all.take 4 := by rw [List.take_append_of_le_length (by omega)]
              have t8 : (all ++ recB e (k + (c + 1) + 1) p).take 8 = all.take 8 := by rw [List.take_append_of_le_length (by omega)]
              obtain ⟨n, hn2⟩ : ∃ n, n = getB (all.take 4) := ⟨_, rfl⟩
              rw [← hn2] at h hn hH hl0
              have d8 : ((all ++ recB e (k + (c + 1) + 1) p).drop 8).take n = (all.drop 8).take n := by
                rw [List.drop_append_of_le_length (by omega), List.take_append_of_le_length (by rw [List.length_drop]; omega)]
              have dr : (all ++ recB e (k + (c + 1) + 1) p).drop ((8 + n + 63) / 64 * 64) = all.drop ((8 + n + 63) / 64 * 64) ++ recB e (k + 1 + c + 1) p := by
                rw [List.drop_append_of_le_length (by omega), show k + (c + 1) + 1 = k + 1 + c + 1 by omega]
              rw [readR, if_neg (fun h0 => hne (List.append_eq_nil_iff.1 h0).1), t4, ← hn2, if_neg (by rw [List.length_append]; omega), d8, t8, if_pos hH, hl0]
              simp only
              rw [if_neg h640, dr]
              exact ih _ _ _ _ (by rw [List.length_drop]; omega) h h64
        · cases h
theorem readR_one {e : Nat} {p : Bs} {l : List Chg} (hp : rdPay p = some l) (hl : p.length < 4294967296) (h64 : (allC [] l).length ≤ 64) : readR e 1 0 (recB e 1 p) [] = some (allC [] l) := by
  have := readR_app (e := e) hp hl 0 0 [] [] [] rfl (by simp [readR]) h64
  simpa using this
theorem payB_length {l : List Chg} (h : ∀ c ∈ l, ChgOk c) (hl : l.length ≤ 64) : (payB l).length < 4294967296 := by
  have key : ∀ l : List Chg, (∀ c ∈ l, ChgOk c) → ((l.map fun c => joinB (chgP c)).flatMap fun p => ((p.length / 256 : Nat) : Int) :: ((p.length % 256 : Nat) : Int) :: p).length ≤ l.length * 4039 := by
    intro l
    induction l with
    | nil => intro _; simp
    | cons c l ih =>
      intro h
      have h1 := ih fun x hx => h x (by simp [hx])
      have h2 := chgJ_length (h c (by simp))
      simp only [List.map_cons, List.flatMap_cons, List.length_append, List.length_cons, Nat.add_mul]
      omega
  have := key l h
  rw [payB, joinB, List.length_cons]
  have : l.length * 4039 ≤ 64 * 4039 := Nat.mul_le_mul_right _ hl
  omega
end Go.St
namespace Go.St
open Go.Kd Go.Dr
def seg (c : Bs) (a n : Nat) : Bs := (c.drop a).take n
theorem blockOf_seg (c : Bs) (k : Nat) : blockOf c k = seg c (k * 64) 64 := by
  rw [blockOf, seg, List.drop_take, Nat.add_sub_cancel_left]
theorem drop_past {a b : Bs} {k : Nat} (d : Nat) (h : a.length = k) : (a ++ b).drop (k + d) = b.drop d := by
  rw [← h, List.drop_append]
  simp
theorem flat64 : ∀ (bs : List Bs), (∀ b ∈ bs, b.length = 64) → bs.flatten.length = 64 * bs.length := by
  intro bs
  induction bs with
  | nil => intro _; rfl
  | cons y bs ih =>
    intro hb
    rw [List.flatten_cons, List.length_append, hb y (by simp), ih (fun x hx => hb x (by simp [hx])), List.length_cons]
    omega
theorem seg_lay_out {c b : Bs} {o a n : Nat} (ho : o + b.length ≤ c.length) (h : a + n ≤ o ∨ o + b.length ≤ a) : seg (lay c o b) a n = seg c a n := by
  unfold seg lay
  have hto : (c.take o).length = o := by rw [List.length_take]; omega
  rcases h with h | h
  · rw [List.append_assoc, List.drop_append_of_le_length (by omega), List.take_append_of_le_length (by rw [List.length_drop]; omega), List.drop_take, List.take_take, Nat.min_eq_left (by omega)]
  · have : (c.take o ++ b).length = o + b.length := by rw [List.length_append, hto]
    obtain ⟨d, hd⟩ : ∃ d, a = o + b.length + d := ⟨a - (o + b.length), by omega⟩
    rw [hd, drop_past d this, List.drop_drop]
theorem seg_lay_in {c b : Bs} {o : Nat} (ho : o ≤ c.length) : seg (lay c o b) o b.length = b := by
  unfold seg lay
  have hto : (c.take o).length = o := by rw [List.length_take]; omega
  rw [List.append_assoc, List.drop_left' hto, List.take_left]
theorem seg_add (c : Bs) (a n m : Nat) : seg c a (n + m) = seg c a n ++ seg c (a + n) m := by
  unfold seg
  rw [List.take_add, List.drop_drop]
theorem seg_length {c : Bs} {a n : Nat} (h : a + n ≤ c.length) : (seg c a n).length = n := by
  unfold seg
  rw [List.length_take, List.length_drop]
  omega
/-- Blocks at places one behind the other. -/
def posd : Nat → List Bs → List (Nat × Bs)
  | _, [] => []
  | p, b :: bs => (p, b) :: posd (p + 1) bs
theorem posd_length : ∀ (bs : List Bs) (p : Nat), (posd p bs).length = bs.length := by
  intro bs
  induction bs with
  | nil => intro p; rfl
  | cons b bs ih => intro p; simp [posd, ih]
theorem posd_take : ∀ (bs : List Bs) (p j : Nat), (posd p bs).take j = posd p (bs.take j) := by
  intro bs
  induction bs with
  | nil => intro p j; simp [posd]
  | cons b bs ih =>
    intro p j
    cases j with
    | zero => simp [posd]
    | succ j => simp [posd, ih]
theorem posd_append : ∀ (a b : List Bs) (p : Nat), posd p (a ++ b) = posd p a ++ posd (p + a.length) b := by
  intro a
  induction a with
  | nil => intro b p; simp [posd]
  | cons x a ih =>
    intro b p
    rw [List.cons_append, posd, posd, ih, List.length_cons, show p + 1 + a.length = p + (a.length + 1) by omega]
    rfl
theorem lay_lay {c a b : Bs} {o : Nat} (h : o + a.length + b.length ≤ c.length) : lay (lay c o a) (o + a.length) b = lay c o (a ++ b) := by
  have hto : (c.take o).length = o := by rw [List.length_take]; omega
  have h1 : (c.take o ++ a).length = o + a.length := by rw [List.length_append, hto]
  unfold lay
  rw [List.take_left' h1, List.length_append]
  have : (c.take o ++ a ++ c.drop (o + a.length)).drop (o + a.length + b.length) = c.drop (o + (a.length + b.length)) := by
    rw [drop_past b.length h1, List.drop_drop, Nat.add_assoc]
  rw [this]
  simp only [List.append_assoc]
theorem layW_posd : ∀ (bs : List Bs) (c : Bs) (p : Nat), (∀ b ∈ bs, b.length = 64) → p * 64 + 64 * bs.length ≤ c.length → layW c (posd p bs) = if bs = [] then c else lay c (p * 64) bs.flatten := by
  intro bs
  induction bs with
  | nil => intro c p _ _; rfl
  | cons b bs ih =>
    intro c p hb h
    have h64 := hb b (by simp)
    rw [List.length_cons] at h
    have hl : (lay c (p * 64) b).length = c.length := length_lay _ _ _ (by omega)
    have e : layW c (posd p (b :: bs)) = layW (lay c (p * 64) b) (posd (p + 1) bs) := rfl
    rw [e, ih _ _ (fun x hx => hb x (by simp [hx])) (by rw [hl]; omega)]
    have hfl := flat64 bs (fun x hx => hb x (by simp [hx]))
    by_cases h0 : bs = []
    · subst h0
      rw [if_pos rfl, if_neg (by simp)]
      simp
    · rw [if_neg h0, if_neg (by simp)]
      have := lay_lay (c := c) (a := b) (b := bs.flatten) (o := p * 64) (by omega)
      rw [h64] at this
      rw [show (p + 1) * 64 = p * 64 + 64 by omega, this]
      rfl
theorem chunks_length (b : Bs) : (chunks b).length = b.length / 64 := by simp [chunks]
theorem chunks_64 {b : Bs} : ∀ x ∈ chunks b, x.length = 64 := by
  intro x hx
  obtain ⟨i, hi, rfl⟩ := List.mem_map.1 hx
  have := List.mem_range.1 hi
  rw [List.length_take, List.length_drop]
  omega
theorem chunks_cons {a b : Bs} (h : a.length = 64) : chunks (a ++ b) = a :: chunks b := by
  unfold chunks
  rw [List.length_append, h, show (64 + b.length) / 64 = b.length / 64 + 1 by omega, List.range_succ_eq_map, List.map_cons, List.map_map]
  congr 1
  · rw [Nat.mul_zero, List.drop_zero, List.take_left' h]
  · refine List.map_congr_left fun i hi => ?_
    simp only [Function.comp]
    rw [show 64 * (i + 1) = 64 + 64 * i by omega, drop_past _ h]
theorem chunks_flat : ∀ (n : Nat) (b : Bs), b.length = 64 * n → (chunks b).flatten = b := by
  intro n
  induction n with
  | zero =>
    intro b h
    have h0 : b = [] := List.eq_nil_of_length_eq_zero (by omega)
    subst h0
    rfl
  | succ n ih =>
    intro b h
    have h1 : (b.take 64).length = 64 := by rw [List.length_take]; omega
    have e : b = b.take 64 ++ b.drop 64 := (List.take_append_drop 64 b).symm
    rw [e, chunks_cons h1, List.flatten_cons, ih (b.drop 64) (by rw [List.length_drop]; omega)]
theorem chunks_take {b : Bs} {j : Nat} (h : 64 * j ≤ b.length) : (chunks b).take j = chunks (b.take (64 * j)) := by
  unfold chunks
  rw [← List.map_take, List.take_range, List.length_take, Nat.min_eq_left (by omega), Nat.min_eq_left (a := 64 * j) (by omega), show 64 * j / 64 = j by omega]
  refine List.map_congr_left fun i hi => ?_
  have := List.mem_range.1 hi
  rw [List.drop_take, List.take_take, Nat.min_eq_left (by omega)]
end Go.St
namespace Go.St
open Go.Kd Go.Dr
theorem alive_lives {m : DM} (h : livesM m = true) : (aliveM m).dead = false := by
  unfold livesM at h
  unfold aliveM
  simp only [Bool.not_eq_true', Bool.or_eq_false_iff] at h
  rw [if_neg (by simp [h])]
theorem alive_dies {m : DM} (h : livesM m = false) : (aliveM m).dead = true := by
  unfold livesM at h
  unfold aliveM
  simp only [Bool.not_eq_false'] at h
  rw [if_pos h]
theorem argM_no {m : DM} {p : Nat} {b : Bs} (h : p < m.n) (hb : b.length = 64) : argM m (p : Int) b = false := by
  unfold argM
  simp [hb]
  omega
theorem posd_ok : ∀ {bs : List Bs} {p n : Nat}, (∀ b ∈ bs, b.length = 64) → p + bs.length ≤ n → ∀ x ∈ posd p bs, x.1 < n ∧ x.2.length = 64 := by
  intro bs
  induction bs with
  | nil => intro p n _ _ x hx; cases hx
  | cons b bs ih =>
    intro p n hb h x hx
    rw [List.length_cons] at h
    rcases List.mem_cons.1 hx with rfl | hx
    · exact ⟨by show p < n; omega, hb b (by simp)⟩
    · exact ih (fun y hy => hb y (by simp [hy])) (by omega) x hx
/-- Blocks written one behind the other: so many, and all of them where nothing died. -/
theorem wrM_out : ∀ (bs : List Bs) (m : DM) (p : Nat), m.Ok → m.dead = false → (∀ b ∈ bs, b.length = 64) → p + bs.length ≤ m.n →
    ∃ j, j ≤ bs.length ∧ (wrM m p bs).2.n = m.n ∧ (wrM m p bs).2.kept = m.kept ∧ (wrM m p bs).2.waits = m.waits ++ posd p (bs.take j) ∧ (wrM m p bs).2.seen = layW m.seen (posd p (bs.take j)) ∧ (wrM m p bs).2.Ok ∧
      ((wrM m p bs).1 = true → j = bs.length ∧ (wrM m p bs).2.dead = false) ∧ ((wrM m p bs).1 = false → (wrM m p bs).2.dead = true) := by
  intro bs
  induction bs with
  | nil =>
    intro m p ok hd _ _
    exact ⟨0, Nat.le_refl 0, rfl, rfl, by simp [posd, wrM], by simp [posd, wrM, layW], ok, fun _ => ⟨rfl, hd⟩, fun h => (by cases h)⟩
  | cons b bs ih =>
    intro m p ok hd hb h
    rw [List.length_cons] at h
    have hb1 := hb b (by simp)
    have ha := argM_no (m := m) (p := p) (b := b) (by omega) hb1
    obtain ⟨s1, s2, s3, s4⟩ := aliveM_same m
    cases hl : livesM m with
    | false =>
      have hw : writeM m (p : Int) b = (150, aliveM m) := by rw [writeM, ha, hl]; rfl
      have e : wrM m p (b :: bs) = (false, aliveM m) := by rw [wrM, hw]; rfl
      rw [e]
      exact ⟨0, by omega, s1, s2, by simp [posd, s4], by simp [posd, layW, s3], aliveM_ok ok, fun h => (by cases h), fun _ => alive_dies hl⟩
    | true =>
      obtain ⟨m1, hm1⟩ : ∃ m1, m1 = ({ aliveM m with seen := lay m.seen (p * 64) b, waits := m.waits ++ [(p, b)] } : DM) := ⟨_, rfl⟩
      have hw : writeM m (p : Int) b = (0, m1) := by rw [writeM, ha, hl, hm1]; simp
      have e : wrM m p (b :: bs) = wrM m1 (p + 1) bs := by rw [wrM, hw]; rfl
      have oka := aliveM_ok ok
      have ok1 : m1.Ok := by
        rw [hm1]
        exact ⟨oka.n1, oka.n2, oka.kl, by
          show (lay m.seen (p * 64) b).length = 64 * (aliveM m).n
          rw [length_lay _ _ _ (by rw [hb1, ok.sl]; omega), ok.sl, s1], oka.f1, oka.f2, fun x hx => by
          rcases List.mem_append.1 hx with hx | hx
          · show x.1 < (aliveM m).n ∧ _
            rw [s1]; exact ok.ws x hx
          · simp only [List.mem_singleton] at hx
            subst hx
            show p < (aliveM m).n ∧ b.length = 64
            rw [s1]; exact ⟨by omega, hb1⟩⟩
      have n1 : m1.n = m.n := by rw [hm1]; exact s1
      have k1 : m1.kept = m.kept := by rw [hm1]; exact s2
      have w1 : m1.waits = m.waits ++ [(p, b)] := by rw [hm1]
      have e1 : m1.seen = lay m.seen (p * 64) b := by rw [hm1]
      have d1 : m1.dead = false := by rw [hm1]; exact alive_lives hl
      obtain ⟨j, hj, h1, h2, h3, h4, h5, h6, h7⟩ := ih m1 (p + 1) ok1 d1 (fun x hx => hb x (by simp [hx])) (by rw [n1]; omega)
      rw [e]
      refine ⟨j + 1, by rw [List.length_cons]; omega, h1.trans n1, h2.trans k1, ?_, ?_, h5, fun h => ?_, h7⟩
      · rw [h3, w1, List.take_succ_cons, posd, List.append_assoc]
        rfl
      · rw [h4, e1, List.take_succ_cons, posd]
        rfl
      · obtain ⟨h8, h9⟩ := h6 h
        exact ⟨by rw [List.length_cons, h8], h9⟩
/-- A run of blocks put on a disk where nothing waits, and synced: it is kept; or the disk died, and a beginning of it waits. -/
theorem putM_out {m : DM} {p : Nat} {b : Bs} (ok : m.Ok) (hd : m.dead = false) (hw : m.waits = []) (hs : m.seen = m.kept) (hb : b.length % 64 = 0) (hb0 : b ≠ []) (hp : p + b.length / 64 ≤ m.n) :
    (putM m p b).2.n = m.n ∧ (putM m p b).2.Ok ∧
      (((putM m p b).1 = true ∧ (putM m p b).2.dead = false ∧ (putM m p b).2.waits = [] ∧ (putM m p b).2.kept = lay m.kept (p * 64) b ∧ (putM m p b).2.seen = lay m.kept (p * 64) b) ∨
       ((putM m p b).1 = false ∧ (putM m p b).2.dead = true ∧ (putM m p b).2.kept = m.kept ∧ ∃ j, 64 * j ≤ b.length ∧ (putM m p b).2.waits = posd p (chunks (b.take (64 * j))))) := by
  obtain ⟨j, hj, h1, h2, h3, h4, h5, h6, h7⟩ := wrM_out (chunks b) m p ok hd chunks_64 (by rw [chunks_length]; exact hp)
  rw [chunks_length] at hj h6
  have hj64 : 64 * j ≤ b.length := by omega
  rw [chunks_take hj64, hw, List.nil_append] at h3
  rw [chunks_take hj64, hs] at h4
  have hlen : 64 * (b.length / 64) = b.length := by omega
  have hlay : layW m.kept (posd p (chunks b)) = lay m.kept (p * 64) b := by
    rw [layW_posd _ _ _ chunks_64 (by rw [chunks_length, ok.kl]; omega), if_neg, chunks_flat (b.length / 64) b (by omega)]
    intro h0
    have := congrArg List.length h0
    rw [chunks_length] at this
    simp only [List.length_nil] at this
    have : b.length ≠ 0 := fun h => hb0 (List.eq_nil_of_length_eq_zero h)
    omega
  cases hr : (wrM m p (chunks b)).1 with
  | false =>
    have e : putM m p b = (false, (wrM m p (chunks b)).2) := by rw [putM, hr]; rfl
    rw [e]
    exact ⟨h1, h5, .inr ⟨rfl, h7 hr, h2, j, hj64, h3⟩⟩
  | true =>
    obtain ⟨hj2, hd2⟩ := h6 hr
    obtain ⟨m2, hm2⟩ : ∃ m2, m2 = (wrM m p (chunks b)).2 := ⟨_, rfl⟩
    have e : putM m p b = ((syncM m2).1 == 0, (syncM m2).2) := by rw [putM, hr, hm2]; rfl
    rw [← hm2] at h1 h2 h3 h4 h5 hd2
    have hfull : b.take (64 * j) = b := List.take_of_length_le (by omega)
    rw [hfull] at h3 h4
    obtain ⟨s1, s2, s3, s4⟩ := aliveM_same m2
    have oka := aliveM_ok h5
    cases hl : livesM m2 with
    | false =>
      have e2 : syncM m2 = (150, aliveM m2) := by rw [syncM, hl]; rfl
      rw [e, e2]
      exact ⟨s1.trans h1, oka, .inr ⟨rfl, alive_dies hl, s2.trans h2, j, hj64, by rw [hfull]; exact s4.trans h3⟩⟩
    | true =>
      have e2 : syncM m2 = (0, { aliveM m2 with kept := layW m2.kept m2.waits, waits := [] }) := by rw [syncM, hl]; rfl
      rw [e, e2]
      have hk : layW m2.kept m2.waits = lay m.kept (p * 64) b := by rw [h2, h3, hlay]
      refine ⟨s1.trans h1, ⟨oka.n1, oka.n2, ?_, oka.sl, oka.f1, oka.f2, fun x hx => by cases hx⟩, .inl ⟨rfl, alive_lives hl, rfl, hk, ?_⟩⟩
      · show (layW m2.kept m2.waits).length = 64 * (aliveM m2).n
        rw [s1]
        exact length_layW _ _ _ h5.kl h5.ws
      · show (aliveM m2).seen = _
        rw [s3, h4, hlay]
/-- What a crash keeps of a beginning that waits. -/
theorem layW_kept {c b : Bs} {p n j : Nat} {k : Int} (hc : c.length = 64 * n) (hj : 64 * j ≤ b.length) (hp : p + b.length / 64 ≤ n) :
    ∃ i, i ≤ j ∧ layW c ((posd p (chunks (b.take (64 * j)))).take k.toNat) = if i = 0 then c else lay c (p * 64) (b.take (64 * i)) := by
  have hl : (b.take (64 * j)).length = 64 * j := by rw [List.length_take]; omega
  refine ⟨min k.toNat j, by omega, ?_⟩
  have h1 : (posd p (chunks (b.take (64 * j)))).take k.toNat = posd p (chunks (b.take (64 * min k.toNat j))) := by
    rw [posd_take]
    congr 1
    rcases Nat.lt_or_ge k.toNat j with h | h
    · rw [Nat.min_eq_left (by omega), chunks_take (by rw [hl]; omega), List.take_take, Nat.min_eq_left (by omega)]
    · rw [Nat.min_eq_right h, List.take_of_length_le (by rw [chunks_length, hl]; omega)]
  have hl2 : (b.take (64 * min k.toNat j)).length = 64 * min k.toNat j := by rw [List.length_take]; omega
  rw [h1, layW_posd _ _ _ chunks_64 (by rw [chunks_length, hl2, hc]; omega)]
  by_cases h0 : min k.toNat j = 0
  · rw [if_pos h0, if_pos (by rw [h0, Nat.mul_zero, List.take_zero]; rfl)]
  · rw [if_neg h0, if_neg, chunks_flat (min k.toNat j) _ hl2]
    intro h
    have := congrArg List.length h
    rw [chunks_length, hl2] at this
    simp only [List.length_nil] at this
    omega
end Go.St
namespace Go.St
open Go.Kd Go.Dr
theorem getB_snoc' (l : Bs) (c : Int) : getB (l ++ [c]) = getB l * 256 + c.toNat := by simp [getB]
theorem putB_succ (n s : Nat) : putB n (s + 1) = putB (n / 256) s ++ [((n % 256 : Nat) : Int)] := by
  unfold putB
  rw [List.range_succ, List.map_append]
  congr 1
  · refine List.map_congr_left fun i hi => ?_
    have := List.mem_range.1 hi
    rw [show s + 1 - 1 - i = (s - 1 - i) + 1 by omega, Nat.pow_succ', ← Nat.div_div_eq_div_mul]
  · simp
theorem getB_putB : ∀ (s n : Nat), n < 256 ^ s → getB (putB n s) = n := by
  intro s
  induction s with
  | zero => intro n h; have : n = 0 := by simpa using h
            subst this; rfl
  | succ s ih =>
    intro n h
    rw [putB_succ, getB_snoc', ih (n / 256) (by rw [Nat.div_lt_iff_lt_mul (by decide), ← Nat.pow_succ]; exact h), Int.toNat_natCast]
    omega
theorem head_parts (e c n : Nat) : (headB e c n).take 24 = head24 e c n ∧ ((headB e c n).drop 4).take 8 = putB e 8 ∧ ((headB e c n).drop 12).take 4 = putB c 4 ∧ ((headB e c n).drop 16).take 4 = putB n 4 := by
  have l1 : headW.length = 4 := rfl
  have e0 : headB e c n = headW ++ (putB e 8 ++ (putB c 4 ++ (putB n 4 ++ (putB (S (headP e c n)) 4 ++ zeros 40)))) := by
    simp only [headB, head24, headP, List.append_assoc]
  refine ⟨?_, ?_, ?_, ?_⟩
  · rw [headB, List.take_left' (head24_length e c n)]
  · rw [e0, List.drop_left' l1, List.take_left' (putB_length _ _)]
  · rw [e0, show 12 = 4 + 8 from rfl, drop_past 8 l1, List.drop_left' (putB_length _ _), List.take_left' (putB_length _ _)]
  · rw [e0, show 16 = 4 + 12 from rfl, drop_past 12 l1, show 12 = 8 + 4 from rfl, drop_past 4 (putB_length _ _), List.drop_left' (putB_length _ _), List.take_left' (putB_length _ _)]
theorem head_ne (e c n : Nat) : (headB e c n).all (fun x => x == 0) = false := by
  simp [headB, head24, headP, headW]
theorem look_head {e c n h : Nat} (he : e < 18446744073709551616) (hc : c < 4294967296) (hn : n < 4294967296) (h1 : 1 ≤ n) (h2 : n ≤ h) : lookH (headB e c n) h = some (some (e, c, n)) := by
  obtain ⟨p0, p1, p2, p3⟩ := head_parts e c n
  have q1 : hE (headB e c n) = e := by rw [hE, p1, getB_putB 8 e (by simpa using he)]
  have q2 : hC (headB e c n) = c := by rw [hC, p2, getB_putB 4 c (by simpa using hc)]
  have q3 : hN (headB e c n) = n := by rw [hN, p3, getB_putB 4 n (by simpa using hn)]
  rw [lookH, head_ne, q1, q2, q3, p0]
  simp [h1, h2]
/-- The bytes of a disk that hold a store that is whole. -/
structure GoodK (n : Nat) (c : Bs) (sp : SP) : Prop where
  cl : c.length = 64 * n
  n4 : 4 ≤ n
  n2 : n ≤ 4096
  half : sp.half ≤ 1
  e64 : sp.epoch < 18446744073709551616
  f1 : 1 ≤ sp.fin
  f2 : sp.fin ≤ n / 2
  cnt : sp.count < sp.fin
  srt : Sorted sp.L
  chg : ∀ x ∈ asC sp.L, ChgOk x
  len : sp.L.length ≤ 64
  hd : seg c (sp.half * (n / 2) * 64) 64 = headB sp.epoch sp.count sp.fin
  recs : readR sp.epoch sp.count 0 (seg c ((sp.half * (n / 2) + 1) * 64) ((sp.fin - 1) * 64)) [] = some sp.L
  oth : ∃ o, lookH (seg c ((1 - sp.half) * (n / 2) * 64) 64) (n / 2) = some o ∧ ∀ x, o = some x → x.1 < sp.epoch
  brk : sp.broken = false
/-- Bytes laid elsewhere change nothing. -/
theorem GoodK.keep {n : Nat} {c : Bs} {sp : SP} (g : GoodK n c sp) {p : Nat} {b : Bs} (hp : p * 64 + b.length ≤ c.length)
    (h1 : p * 64 + b.length ≤ sp.half * (n / 2) * 64 ∨ (sp.half * (n / 2) + sp.fin) * 64 ≤ p * 64) (h2 : p * 64 + b.length ≤ (1 - sp.half) * (n / 2) * 64 ∨ (1 - sp.half) * (n / 2) * 64 + 64 ≤ p * 64) : GoodK n (lay c (p * 64) b) sp := by
  have f1 := g.f1
  refine ⟨by rw [length_lay _ _ _ hp, g.cl], g.n4, g.n2, g.half, g.e64, g.f1, g.f2, g.cnt, g.srt, g.chg, g.len, ?_, ?_, ?_, g.brk⟩
  · rw [seg_lay_out hp (by omega)]; exact g.hd
  · rw [seg_lay_out hp (by omega)]; exact g.recs
  · rw [seg_lay_out hp (by omega)]; exact g.oth
theorem chg_putL {n v : Bs} {L : List (Bs × Bs)} (h : ∀ x ∈ asC L, ChgOk x) (hc : ChgOk ⟨n, false, v⟩) : ∀ x ∈ asC (putL n v L), ChgOk x := by
  intro x hx
  obtain ⟨y, hy, rfl⟩ := List.mem_map.1 hx
  rcases mem_putL hy with rfl | hy
  · exact hc
  · exact h _ (List.mem_map.2 ⟨y, hy, rfl⟩)
theorem chg_delL {n : Bs} {L : List (Bs × Bs)} (h : ∀ x ∈ asC L, ChgOk x) : ∀ x ∈ asC (delL n L), ChgOk x := by
  intro x hx
  obtain ⟨y, hy, rfl⟩ := List.mem_map.1 hx
  exact h _ (List.mem_map.2 ⟨y, (List.mem_filter.1 hy).1, rfl⟩)
theorem chg_allC : ∀ {l : List Chg} {L : List (Bs × Bs)}, (∀ x ∈ asC L, ChgOk x) → (∀ x ∈ l, ChgOk x) → ∀ x ∈ asC (allC L l), ChgOk x := by
  intro l
  induction l with
  | nil => intro L h _; exact h
  | cons c l ih =>
    intro L h hl
    have hc := hl c (by simp)
    refine ih (L := doC L c) ?_ fun x hx => hl x (by simp [hx])
    unfold doC
    split
    · exact chg_delL h
    · exact chg_putL h ⟨hc.n1, hc.n2, hc.v, fun h => by cases h⟩
theorem half_cases {a : Nat} (h : a ≤ 1) : a = 0 ∨ a = 1 := by omega
theorem one_sub_mul {a h : Nat} (ha : a ≤ 1) : (1 - a) * h + a * h = h := by
  rcases half_cases ha with rfl | rfl <;> simp
/-- A record laid behind the others, and the header over the old one. -/
theorem GoodK.more {n : Nat} {c : Bs} {sp : SP} (g : GoodK n c sp) {l : List Chg} (hl : ∀ x ∈ l, ChgOk x) (h64 : l.length ≤ 64) (hn : (allC sp.L l).length ≤ 64)
    (hf : sp.fin + (recB sp.epoch (sp.count + 1) (payB l)).length / 64 ≤ n / 2) :
    GoodK n (lay (lay c ((sp.half * (n / 2) + sp.fin) * 64) (recB sp.epoch (sp.count + 1) (payB l))) (sp.half * (n / 2) * 64) (headB sp.epoch (sp.count + 1) (sp.fin + (recB sp.epoch (sp.count + 1) (payB l)).length / 64)))
      ⟨sp.half, sp.epoch, sp.count + 1, sp.fin + (recB sp.epoch (sp.count + 1) (payB l)).length / 64, allC sp.L l, false⟩ := by
  obtain ⟨b, hb⟩ : ∃ b, b = recB sp.epoch (sp.count + 1) (payB l) := ⟨_, rfl⟩
  rw [← hb] at hf ⊢
  have hbl : b.length % 64 = 0 := by rw [hb, recB_length]; omega
  have hb1 : 1 ≤ b.length / 64 := by rw [hb, recB_length]; omega
  obtain ⟨k, hk⟩ : ∃ k, k = b.length / 64 := ⟨_, rfl⟩
  have hbk : b.length = k * 64 := by omega
  rw [← hk] at hf hb1 ⊢
  obtain ⟨a, ha⟩ : ∃ a, a = sp.half * (n / 2) := ⟨_, rfl⟩
  have hal : a + n / 2 ≤ n := by
    rcases half_cases g.half with h | h <;> rw [ha, h] <;> simp <;> omega
  have f1 := g.f1
  have f2 := g.f2
  have n2 := g.n2
  have cl := g.cl
  have hh := headB_length sp.epoch (sp.count + 1) (sp.fin + k)
  rw [← ha]
  have c1l : (lay c ((a + sp.fin) * 64) b).length = 64 * n := by rw [length_lay _ _ _ (by omega), cl]
  have cnt := g.cnt
  have hd0 : a = 0 ∨ a = n / 2 := by rcases half_cases g.half with h | h <;> rw [ha, h] <;> simp
  have ho := one_sub_mul (h := n / 2) g.half
  rw [← ha] at ho
  have hx1 : (a + sp.fin) * 64 = a * 64 + sp.fin * 64 := by omega
  refine ⟨by rw [length_lay _ _ _ (by omega), c1l], g.n4, g.n2, g.half, g.e64, by show 1 ≤ sp.fin + k; omega, hf, by show sp.count + 1 < sp.fin + k; omega, sorted_allC g.srt, chg_allC g.chg hl, hn, ?_, ?_, ?_, rfl⟩
  · show seg _ (sp.half * (n / 2) * 64) 64 = _
    rw [← ha]
    have := seg_lay_in (c := lay c ((a + sp.fin) * 64) b) (b := headB sp.epoch (sp.count + 1) (sp.fin + k)) (o := a * 64) (by omega)
    rw [hh] at this
    exact this
  · show readR sp.epoch (sp.count + 1) 0 (seg _ ((sp.half * (n / 2) + 1) * 64) ((sp.fin + k - 1) * 64)) [] = _
    rw [← ha, seg_lay_out (by omega) (by omega), show (sp.fin + k - 1) * 64 = (sp.fin - 1) * 64 + k * 64 by omega, seg_add, seg_lay_out (by omega) (by omega), show (a + 1) * 64 + (sp.fin - 1) * 64 = (a + sp.fin) * 64 by omega, ← hbk, seg_lay_in (by omega), hb]
    have hr := g.recs
    rw [← ha] at hr
    have := readR_app (rdPay_back hl h64) (payB_length hl h64) sp.count 0 _ [] sp.L (by rw [seg_length (by omega)]; omega) hr hn
    rw [Nat.zero_add] at this
    exact this
  · show ∃ o, lookH (seg _ ((1 - sp.half) * (n / 2) * 64) 64) (n / 2) = some o ∧ ∀ x, o = some x → x.1 < sp.epoch
    obtain ⟨o, hoo, hx⟩ := g.oth
    obtain ⟨q, hq⟩ : ∃ q, q = (1 - sp.half) * (n / 2) := ⟨_, rfl⟩
    rw [← hq] at ho hoo ⊢
    refine ⟨o, ?_, hx⟩
    rw [seg_lay_out (by omega) (by omega), seg_lay_out (by omega) (by omega)]
    exact hoo
/-- All laid anew into the other half. -/
theorem GoodK.anew {n : Nat} {c : Bs} {sp : SP} (g : GoodK n c sp) {L : List (Bs × Bs)} (hs : Sorted L) (hl : ∀ x ∈ asC L, ChgOk x) (h64 : L.length ≤ 64) (he : sp.epoch + 1 < 18446744073709551616)
    (hf : 1 + (recB (sp.epoch + 1) 1 (payB (asC L))).length / 64 ≤ n / 2) :
    GoodK n (lay (lay c (((1 - sp.half) * (n / 2) + 1) * 64) (recB (sp.epoch + 1) 1 (payB (asC L)))) ((1 - sp.half) * (n / 2) * 64) (headB (sp.epoch + 1) 1 (1 + (recB (sp.epoch + 1) 1 (payB (asC L))).length / 64)))
      ⟨1 - sp.half, sp.epoch + 1, 1, 1 + (recB (sp.epoch + 1) 1 (payB (asC L))).length / 64, L, false⟩ := by
  obtain ⟨b, hb⟩ : ∃ b, b = recB (sp.epoch + 1) 1 (payB (asC L)) := ⟨_, rfl⟩
  rw [← hb] at hf ⊢
  have hbl : b.length % 64 = 0 := by rw [hb, recB_length]; omega
  have hb1 : 1 ≤ b.length / 64 := by rw [hb, recB_length]; omega
  obtain ⟨k, hk⟩ : ∃ k, k = b.length / 64 := ⟨_, rfl⟩
  have hbk : b.length = k * 64 := by omega
  rw [← hk] at hf hb1 ⊢
  have hlA : (asC L).length ≤ 64 := by rw [asC, List.length_map]; exact h64
  obtain ⟨a, ha⟩ : ∃ a, a = sp.half * (n / 2) := ⟨_, rfl⟩
  obtain ⟨q, hq⟩ : ∃ q, q = (1 - sp.half) * (n / 2) := ⟨_, rfl⟩
  have ho := one_sub_mul (h := n / 2) g.half
  have hhalf := half_cases g.half
  have hd0 : (a = 0 ∧ q = n / 2) ∨ (a = n / 2 ∧ q = 0) := by rcases hhalf with h | h <;> rw [ha, hq, h] <;> simp
  have hsub : (1 - (1 - sp.half)) * (n / 2) = a := by rcases hhalf with h | h <;> rw [ha, h] <;> simp
  have f1 := g.f1
  have f2 := g.f2
  have n2 := g.n2
  have cl := g.cl
  have hh := headB_length (sp.epoch + 1) 1 (1 + k)
  rw [← hq]
  have c1l : (lay c ((q + 1) * 64) b).length = 64 * n := by rw [length_lay _ _ _ (by omega), cl]
  refine ⟨by rw [length_lay _ _ _ (by omega), c1l], g.n4, g.n2, by show 1 - sp.half ≤ 1; omega, he, by show 1 ≤ 1 + k; omega, hf, by show 1 < 1 + k; omega, hs, hl, h64, ?_, ?_, ?_, rfl⟩
  · show seg _ ((1 - sp.half) * (n / 2) * 64) 64 = _
    rw [← hq]
    have := seg_lay_in (c := lay c ((q + 1) * 64) b) (b := headB (sp.epoch + 1) 1 (1 + k)) (o := q * 64) (by omega)
    rw [hh] at this
    exact this
  · show readR (sp.epoch + 1) 1 0 (seg _ (((1 - sp.half) * (n / 2) + 1) * 64) ((1 + k - 1) * 64)) [] = some L
    rw [← hq, seg_lay_out (by omega) (by omega), show (1 + k - 1) * 64 = b.length by omega, seg_lay_in (by omega), hb]
    have h1 : allC [] (asC L) = L := allC_asC L [] (by simpa using hs)
    have := readR_one (e := sp.epoch + 1) (rdPay_back hl hlA) (payB_length hl hlA) (by rw [h1]; exact h64)
    rw [h1] at this
    exact this
  · show ∃ o, lookH (seg _ ((1 - (1 - sp.half)) * (n / 2) * 64) 64) (n / 2) = some o ∧ ∀ x, o = some x → x.1 < sp.epoch + 1
    have hd := g.hd
    have cnt := g.cnt
    rw [hsub]
    rw [← ha] at hd
    refine ⟨some (sp.epoch, sp.count, sp.fin), ?_, fun x hx => by cases hx; show sp.epoch < sp.epoch + 1; omega⟩
    rw [seg_lay_out (by omega) (by omega), seg_lay_out (by omega) (by omega), hd]
    exact look_head g.e64 (by omega) (by omega) f1 f2
end Go.St
namespace Go.St
open Go.Kd Go.Dr
/-- A disk that lives, on which nothing waits, and that holds a store that is whole. -/
structure Good (m : DM) (sp : SP) : Prop where
  ok : m.Ok
  dead : m.dead = false
  wt : m.waits = []
  sk : m.seen = m.kept
  k : GoodK m.n m.kept sp
theorem open_good {m : DM} {sp : SP} (g : Good m sp) : openM m = (0, some sp, m) := by
  have k := g.k
  have cnt := k.cnt
  have f2 := k.f2
  have n2 := k.n2
  have hl := look_head (h := m.n / 2) k.e64 (show sp.count < 4294967296 by omega) (show sp.fin < 4294967296 by omega) k.f1 k.f2
  obtain ⟨o, ho, hx⟩ := k.oth
  have hd := k.hd
  have recs := k.recs
  have n4 := k.n4
  have brk := k.brk
  have hrec : recsM m sp.half sp.fin = seg m.kept ((sp.half * (m.n / 2) + 1) * 64) ((sp.fin - 1) * 64) := by rw [recsM, g.sk]; rfl
  have hread : readH m sp.half (sp.epoch, sp.count, sp.fin) = (0, some sp, m) := by
    unfold readH
    simp only
    rw [hrec, recs]
    cases sp
    simp only at brk
    subst brk
    rfl
  rw [openM, if_neg (by omega), g.dead]
  simp only [Bool.false_eq_true, if_false]
  rw [g.sk, blockOf_seg, blockOf_seg]
  rcases half_cases k.half with h | h
  · rw [h] at hd ho hread
    simp only [Nat.zero_mul, Nat.sub_zero, Nat.one_mul] at hd ho
    rw [Nat.zero_mul, hd, hl, ho]
    cases o with
    | none => exact hread
    | some y =>
      have := hx y rfl
      simp only
      rw [if_neg (by omega), if_neg (by omega)]
      exact hread
  · rw [h] at hd ho hread
    simp only [Nat.sub_self, Nat.zero_mul, Nat.one_mul] at hd ho
    rw [Nat.zero_mul, hd, hl, ho]
    cases o with
    | none => exact hread
    | some y =>
      have := hx y rfl
      simp only
      rw [if_neg (by omega), if_pos (by omega)]
      exact hread
theorem crash_kept {m : DM} {k : Int} : (crashM m k).kept = layW m.kept (m.waits.take k.toNat) := rfl
theorem crash_ok {m : DM} (h : m.Ok) (k : Int) : (crashM m k).Ok := by
  have hw : ∀ x ∈ m.waits.take k.toNat, x.1 < m.n ∧ x.2.length = 64 := fun x hx => h.ws x (List.mem_of_mem_take hx)
  exact ⟨h.n1, h.n2, length_layW _ _ _ h.kl hw, length_layW _ _ _ h.kl hw, by show (-1 : Int) ≤ -1; omega, by show (-1 : Int) ≤ _; omega, fun x hx => by cases hx⟩
theorem crash_good {m : DM} {sp : SP} (ok : m.Ok) (k : Int) (g : GoodK m.n (layW m.kept (m.waits.take k.toNat)) sp) : Good (crashM m k) sp := ⟨crash_ok ok k, rfl, rfl, rfl, g⟩
theorem crash_same {m : DM} {sp : SP} (g : Good m sp) (k : Int) : Good (crashM m k) sp := crash_good g.ok k (by rw [g.wt, List.take_nil]; exact g.k)
/-- The last part of a Commit. -/
theorem fin_out {m : DM} {sp : SP} (g : Good m sp) {next : List (Bs × Bs)} {half at_ e c : Nat} {b : Bs} (hb : b.length % 64 = 0) (hb0 : b ≠ []) (hh : half ≤ 1) (h1 : 1 ≤ at_) (hf : at_ + b.length / 64 ≤ m.n / 2)
    (hkeep : ∀ i, 64 * i ≤ b.length → GoodK m.n (lay m.kept ((half * (m.n / 2) + at_) * 64) (b.take (64 * i))) sp)
    (hnew : GoodK m.n (lay (lay m.kept ((half * (m.n / 2) + at_) * 64) b) (half * (m.n / 2) * 64) (headB e c (at_ + b.length / 64))) ⟨half, e, c, at_ + b.length / 64, next, false⟩) :
    ((finM sp m next half at_ e c b).1 = 0 ∧ Good (finM sp m next half at_ e c b).2.2 (finM sp m next half at_ e c b).2.1 ∧ (finM sp m next half at_ e c b).2.1.L = next) ∨
    ((finM sp m next half at_ e c b).1 = 150 ∧ ∀ k, ∃ sp', Good (crashM (finM sp m next half at_ e c b).2.2 k) sp' ∧ (sp'.L = sp.L ∨ sp'.L = next)) := by
  have ok := g.ok
  have hal : half * (m.n / 2) + m.n / 2 ≤ m.n := by rcases half_cases hh with h | h <;> rw [h] <;> simp <;> omega
  have hk0 : GoodK m.n m.kept sp := g.k
  obtain ⟨a1, a2, a3⟩ := putM_out (p := half * (m.n / 2) + at_) ok g.dead g.wt g.sk hb hb0 (by omega)
  obtain ⟨m1, hm1⟩ : ∃ m1, m1 = (putM m (half * (m.n / 2) + at_) b).2 := ⟨_, rfl⟩
  rw [← hm1] at a1 a2 a3
  rcases a3 with ⟨r1, d1, w1, k1, s1⟩ | ⟨r1, d1, k1, j, hj, w1⟩
  · have hhl := headB_length e c (at_ + b.length / 64)
    obtain ⟨hd, hhd⟩ : ∃ hd, hd = headB e c (at_ + b.length / 64) := ⟨_, rfl⟩
    rw [← hhd] at hhl hnew
    obtain ⟨b1, b2, b3⟩ := putM_out (m := m1) (p := half * (m.n / 2)) (b := hd) a2 d1 w1 (s1.trans k1.symm) (by omega) (fun h => by rw [h] at hhl; cases hhl) (by rw [a1]; omega)
    obtain ⟨m2, hm2⟩ : ∃ m2, m2 = (putM m1 (half * (m.n / 2)) hd).2 := ⟨_, rfl⟩
    rw [← hm2] at b1 b2 b3
    rcases b3 with ⟨r2, d2, w2, k2, s2⟩ | ⟨r2, d2, k2, j, hj, w2⟩
    · have e1 : finM sp m next half at_ e c b = (0, ⟨half, e, c, at_ + b.length / 64, next, false⟩, m2) := by rw [finM, r1, ← hm1, ← hhd, r2, ← hm2]; rfl
      rw [e1]
      exact .inl ⟨rfl, ⟨b2, d2, w2, s2.trans k2.symm, by rw [b1, a1, k2, k1]; exact hnew⟩, rfl⟩
    · have e1 : finM sp m next half at_ e c b = (150, { sp with broken := true }, m2) := by rw [finM, r1, ← hm1, ← hhd, r2, ← hm2]; rfl
      rw [e1]
      refine .inr ⟨rfl, fun k => ?_⟩
      obtain ⟨i, hi, he⟩ := layW_kept (c := m2.kept) (b := hd) (p := half * (m.n / 2)) (n := m.n) (j := j) (k := k) (by rw [b2.kl, b1, a1]) hj (by omega)
      rw [k2, k1] at he
      have hfull := hkeep (b.length / 64) (by omega)
      rw [List.take_of_length_le (by omega)] at hfull
      by_cases h0 : i = 0
      · rw [if_pos h0] at he
        exact ⟨sp, crash_good b2 k (by rw [w2, b1, a1, k2, k1, he]; exact hfull), .inl rfl⟩
      · have e2 : hd.take (64 * i) = hd := List.take_of_length_le (by rw [hhl]; omega)
        rw [if_neg h0, e2] at he
        exact ⟨_, crash_good b2 k (by rw [w2, b1, a1, k2, k1, he]; exact hnew), .inr rfl⟩
  · have e1 : finM sp m next half at_ e c b = (150, { sp with broken := true }, m1) := by rw [finM, r1, ← hm1]; rfl
    rw [e1]
    refine .inr ⟨rfl, fun k => ?_⟩
    obtain ⟨i, hi, he⟩ := layW_kept (c := m1.kept) (b := b) (p := half * (m.n / 2) + at_) (n := m.n) (j := j) (k := k) (by rw [a2.kl, a1]) hj (by omega)
    rw [k1] at he
    refine ⟨sp, crash_good a2 k ?_, .inl rfl⟩
    rw [w1, a1, k1, he]
    split
    · exact hk0
    · exact hkeep i (by omega)
theorem badC_err : ∀ {l : List Chg} {e : Int}, badC l = some e → e = 1 ∨ e = 5 := by
  intro l
  induction l with
  | nil => intro e h; cases h
  | cons c l ih =>
    intro e h
    rw [badC] at h
    split at h
    · cases h; exact .inl rfl
    · split at h
      · cases h; exact .inr rfl
      · exact ih h
/-- A Commit to a store that is whole: it is done; or the disk died, and whatever a crash keeps, the store is whole, as it was or as it is to be; or nothing is done. -/
theorem commit_good {m : DM} {sp : SP} (g : Good m sp) (l : List Chg) :
    ((commitM sp m l).1 = 0 ∧ Good (commitM sp m l).2.2 (commitM sp m l).2.1 ∧ (commitM sp m l).2.1.L = allC sp.L l) ∨
    ((commitM sp m l).1 = 150 ∧ ∀ k, ∃ sp', Good (crashM (commitM sp m l).2.2 k) sp' ∧ (sp'.L = sp.L ∨ sp'.L = allC sp.L l)) ∨
    ((commitM sp m l).1 ≠ 0 ∧ (commitM sp m l).1 ≠ 150 ∧ (commitM sp m l).2 = (sp, m)) := by
  have k := g.k
  have f1 := k.f1
  have f2 := k.f2
  have cl := k.cl
  have n2 := k.n2
  have hhalf := half_cases k.half
  have one := one_sub_mul (h := m.n / 2) k.half
  have hd0 : (sp.half * (m.n / 2) = 0 ∧ (1 - sp.half) * (m.n / 2) = m.n / 2) ∨ (sp.half * (m.n / 2) = m.n / 2 ∧ (1 - sp.half) * (m.n / 2) = 0) := by rcases hhalf with h | h <;> rw [h] <;> simp
  unfold commitM
  split
  · rename_i e he
    have := badC_err he
    exact .inr (.inr ⟨by show e ≠ 0; omega, by show e ≠ 150; omega, rfl⟩)
  · rename_i hbad
    have hch := badC_none.1 hbad
    split
    · exact .inr (.inr ⟨by simp, by simp, rfl⟩)
    · rename_i h64
      split
      · exact .inr (.inr ⟨by simp, by simp, rfl⟩)
      · rename_i hn64
        rw [k.brk]
        simp only [Bool.false_eq_true, if_false]
        split
        · rename_i h0
          subst h0
          exact .inl ⟨rfl, g, rfl⟩
        · have bl1 := recB_length sp.epoch (sp.count + 1) (payB l)
          have bl2 := recB_length (sp.epoch + 1) 1 (payB (asC (allC sp.L l)))
          split
          · split
            · exact .inr (.inr ⟨by simp, by simp, rfl⟩)
            · rename_i he
              split
              · exact .inr (.inr ⟨by simp, by simp, rfl⟩)
              · rename_i hf
                have e64 := k.e64
                have hlA : (asC (allC sp.L l)).length = (allC sp.L l).length := by rw [asC, List.length_map]
                rcases fin_out g (next := allC sp.L l) (half := 1 - sp.half) (at_ := 1) (e := sp.epoch + 1) (c := 1) (b := recB (sp.epoch + 1) 1 (payB (asC (allC sp.L l)))) (by omega) (fun h => by rw [h] at bl2; simp only [List.length_nil] at bl2; omega) (by omega) (Nat.le_refl 1) (by omega)
                  (fun i hi => k.keep (by rw [List.length_take]; omega) (by rw [List.length_take]; omega) (by rw [List.length_take]; omega))
                  (k.anew (sorted_allC k.srt) (chg_allC k.chg hch) (by omega) (by omega) (by omega)) with h | h
                · exact .inl h
                · exact .inr (.inl h)
          · rename_i hf
            rcases fin_out g (next := allC sp.L l) (half := sp.half) (at_ := sp.fin) (e := sp.epoch) (c := sp.count + 1) (b := recB sp.epoch (sp.count + 1) (payB l)) (by omega) (fun h => by rw [h] at bl1; simp only [List.length_nil] at bl1; omega) k.half f1 (by omega)
              (fun i hi => k.keep (by rw [List.length_take]; omega) (by rw [List.length_take]; omega) (by rw [List.length_take]; omega))
              (k.more hch (by omega) (by omega) (by omega)) with h | h
            · exact .inl h
            · exact .inr (.inl h)
end Go.St
namespace Go.St
open Go.Kd Go.Dr
theorem zs_all (n : Nat) : (zs n).all (fun x => x == 0) = true := by
  rw [List.all_eq_true]
  intro x hx
  rw [List.eq_of_mem_replicate hx]
  rfl
theorem seg_zs {n a k : Nat} (h : a + k ≤ n) : seg (zs n) a k = zs k := by
  unfold seg zs
  rw [List.drop_replicate, List.take_replicate, Nat.min_eq_left (by omega)]
theorem look_zs (h : Nat) (k : Nat) : lookH (zs k) h = some none := by rw [lookH, if_pos (zs_all k)]
def sp0 : SP := ⟨0, 1, 0, 1, [], false⟩
theorem fresh_k {n : Nat} (n4 : 4 ≤ n) (n2 : n ≤ 4096) : GoodK n (lay (zs (64 * n)) (0 * 64) (headB 1 0 1)) sp0 := by
  have hh := headB_length 1 0 1
  have hz : (zs (64 * n)).length = 64 * n := length_zs _
  refine ⟨by rw [length_lay _ _ _ (by omega), hz], n4, n2, by decide, by decide, by decide, by show 1 ≤ n / 2; omega, by decide, List.Pairwise.nil, (fun x hx => by cases hx), by decide, ?_, ?_, ?_, rfl⟩
  · show seg _ (0 * (n / 2) * 64) 64 = headB 1 0 1
    have := seg_lay_in (c := zs (64 * n)) (b := headB 1 0 1) (o := 0 * 64) (by omega)
    rw [hh] at this
    rw [show 0 * (n / 2) * 64 = 0 * 64 by simp]
    exact this
  · show readR 1 0 0 (seg _ _ ((1 - 1) * 64)) [] = some []
    rfl
  · refine ⟨none, ?_, fun x hx => by cases hx⟩
    show lookH (seg _ ((1 - 0) * (n / 2) * 64) 64) (n / 2) = some none
    rw [seg_lay_out (by omega) (by omega), seg_zs (by omega), look_zs]
theorem lives_nofuse {m : DM} (hd : m.dead = false) (hf : m.fuse = -1) : livesM m = true ∧ (aliveM m).fuse = -1 ∧ (aliveM m).dead = false := by
  have h1 : livesM m = true := by unfold livesM; rw [hd, hf]; rfl
  refine ⟨h1, ?_, alive_lives h1⟩
  unfold aliveM
  rw [hd, hf]
  rfl
theorem wrM_nofuse : ∀ (bs : List Bs) (m : DM) (p : Nat), m.dead = false → m.fuse = -1 → (∀ b ∈ bs, b.length = 64) → p + bs.length ≤ m.n → (wrM m p bs).1 = true ∧ (wrM m p bs).2.fuse = -1 ∧ (wrM m p bs).2.dead = false := by
  intro bs
  induction bs with
  | nil => intro m p hd hf _ _; exact ⟨rfl, hf, hd⟩
  | cons b bs ih =>
    intro m p hd hf hb h
    rw [List.length_cons] at h
    obtain ⟨h1, h2, h3⟩ := lives_nofuse hd hf
    have ha := argM_no (m := m) (p := p) (b := b) (by omega) (hb b (by simp))
    obtain ⟨m1, hm1⟩ : ∃ m1, m1 = ({ aliveM m with seen := lay m.seen (p * 64) b, waits := m.waits ++ [(p, b)] } : DM) := ⟨_, rfl⟩
    have hw : writeM m (p : Int) b = (0, m1) := by rw [writeM, ha, h1, hm1]; simp
    have e : wrM m p (b :: bs) = wrM m1 (p + 1) bs := by rw [wrM, hw]; rfl
    rw [e]
    exact ih m1 (p + 1) (by rw [hm1]; exact h3) (by rw [hm1]; exact h2) (fun x hx => hb x (by simp [hx])) (by rw [hm1]; show p + 1 + bs.length ≤ (aliveM m).n; rw [(aliveM_same m).1]; omega)
theorem putM_nofuse {m : DM} {p : Nat} {b : Bs} (hd : m.dead = false) (hf : m.fuse = -1) (hp : p + b.length / 64 ≤ m.n) : (putM m p b).1 = true ∧ (putM m p b).2.fuse = -1 ∧ (putM m p b).2.dead = false := by
  obtain ⟨h1, h2, h3⟩ := wrM_nofuse (chunks b) m p hd hf chunks_64 (by rw [chunks_length]; exact hp)
  obtain ⟨h4, h5, h6⟩ := lives_nofuse h3 h2
  obtain ⟨m2, hm2⟩ : ∃ m2, m2 = (wrM m p (chunks b)).2 := ⟨_, rfl⟩
  rw [← hm2] at h2 h3 h4 h5 h6
  have e : putM m p b = ((syncM m2).1 == 0, (syncM m2).2) := by rw [putM, h1, hm2]; rfl
  have e2 : syncM m2 = (0, { aliveM m2 with kept := layW m2.kept m2.waits, waits := [] }) := by rw [syncM, h4]; rfl
  rw [e, e2]
  exact ⟨rfl, h5, h6⟩
theorem putM_n {m : DM} {p : Nat} {b : Bs} (ok : m.Ok) (hd : m.dead = false) (hp : p + b.length / 64 ≤ m.n) : (putM m p b).2.n = m.n := by
  obtain ⟨j, hj, h1, -⟩ := wrM_out (chunks b) m p ok hd chunks_64 (by rw [chunks_length]; exact hp)
  unfold putM
  split
  · show (syncM _).2.n = _
    unfold syncM
    split
    · show (aliveM _).n = _
      rw [(aliveM_same _).1, h1]
    · show (aliveM _).n = _
      rw [(aliveM_same _).1, h1]
  · exact h1
/-- A fresh disk without a fuse is opened as a new store. -/
theorem open_fresh {m : DM} (ok : m.Ok) (n4 : 4 ≤ m.n) (hd : m.dead = false) (hf : m.fuse = -1) (hw : m.waits = []) (hk : m.kept = zs (64 * m.n)) (hs : m.seen = zs (64 * m.n)) :
    (openM m).1 = 0 ∧ (openM m).2.1 = some sp0 ∧ Good (openM m).2.2 sp0 ∧ (openM m).2.2.fuse = -1 ∧ (openM m).2.2.n = m.n := by
  have hh := headB_length 1 0 1
  have n2 := ok.n2
  obtain ⟨r1, r2, r3⟩ := putM_nofuse (m := m) (p := 0) (b := headB 1 0 1) hd hf (by omega)
  obtain ⟨a1, a2, a3⟩ := putM_out (m := m) (p := 0) (b := headB 1 0 1) ok hd hw (hs.trans hk.symm) (by omega) (fun h => by rw [h] at hh; cases hh) (by omega)
  have e : openM m = (0, some sp0, (putM m 0 (headB 1 0 1)).2) := by
    rw [openM, if_neg (by omega), hd, hs, blockOf_seg, blockOf_seg, seg_zs (by omega), seg_zs (by omega)]
    simp only [Bool.false_eq_true, if_false, look_zs]
    rw [r1]
    rfl
  rw [e]
  refine ⟨rfl, rfl, ?_, r2, a1⟩
  rcases a3 with ⟨-, b1, b2, b3, b4⟩ | ⟨b1, -⟩
  · exact ⟨a2, b1, b2, b4.trans b3.symm, by rw [a1, b3, hk]; exact fresh_k n4 n2⟩
  · rw [r1] at b1; cases b1
/-- Without a fuse no Commit finds the disk dead. -/
theorem commit_nofuse {m : DM} {sp : SP} (g : Good m sp) (hf : m.fuse = -1) (l : List Chg) : (commitM sp m l).1 ≠ 150 ∧ (commitM sp m l).2.2.fuse = -1 := by
  have k := g.k
  have f2 := k.f2
  have hhalf := half_cases k.half
  have hd0 : sp.half * (m.n / 2) + m.n / 2 ≤ m.n ∧ (1 - sp.half) * (m.n / 2) + m.n / 2 ≤ m.n := by rcases hhalf with h | h <;> rw [h] <;> simp <;> omega
  have key : ∀ (half at_ e c : Nat) (b : Bs), half * (m.n / 2) + m.n / 2 ≤ m.n → 1 ≤ at_ → at_ + b.length / 64 ≤ m.n / 2 → (finM sp m (allC sp.L l) half at_ e c b).1 ≠ 150 ∧ (finM sp m (allC sp.L l) half at_ e c b).2.2.fuse = -1 := by
    intro half at_ e c b h1 h2 h3
    obtain ⟨r1, r2, r3⟩ := putM_nofuse (m := m) (p := half * (m.n / 2) + at_) (b := b) g.dead hf (by omega)
    have hn := putM_n (m := m) (p := half * (m.n / 2) + at_) (b := b) g.ok g.dead (by omega)
    have hh := headB_length e c (at_ + b.length / 64)
    obtain ⟨s1, s2, s3⟩ := putM_nofuse (m := (putM m (half * (m.n / 2) + at_) b).2) (p := half * (m.n / 2)) (b := headB e c (at_ + b.length / 64)) r3 r2 (by rw [hn]; omega)
    unfold finM
    rw [r1, s1]
    exact ⟨by simp, s2⟩
  unfold commitM
  split
  · rename_i e he
    have := badC_err he
    exact ⟨by show e ≠ 150; omega, hf⟩
  · split
    · exact ⟨by simp, hf⟩
    · split
      · exact ⟨by simp, hf⟩
      · rw [k.brk]
        simp only [Bool.false_eq_true, if_false]
        split
        · exact ⟨by simp, hf⟩
        · split
          · split
            · exact ⟨by simp, hf⟩
            · split
              · exact ⟨by simp, hf⟩
              · exact key _ _ _ _ _ hd0.2 (Nat.le_refl 1) (by omega)
          · exact key _ _ _ _ _ hd0.1 k.f1 (by omega)
end Go.St
