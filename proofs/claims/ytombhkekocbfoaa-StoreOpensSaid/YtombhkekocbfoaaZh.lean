/- Joined: StI, StJ, StK, StL, SoA. -/
import Derived.Test.YtombhkekocbfoaaZg
import Derived.Test.YtombhkekocbfoaaZf
set_option linter.unusedVariables false
set_option linter.unusedSimpArgs false
namespace Go.St
open Go.Kd Go.Dr
/-- A disk that lives, on which nothing waits, and that holds a store that is whole. -/
structure Good (m : DM) (sp : SP) : Prop where
  ok : m.Ok
  dead : m.dead = false
  wt : m.waits = []
  sk : m.seen = m.kept
  k : GoodK m.n m.kept sp
theorem open_good {m : DM} {sp : SP} (g : Good m sp) : openM m = (0, some sp, m) := by
  have k := g.k
  have cnt := k.cnt
  have f2 := k.f2
  have n2 := k.n2
  have hl := look_head (h := m.n / 2) k.e64 (show sp.count < 4294967296 by omega) (show sp.fin < 4294967296 by omega) k.f1 k.f2
  obtain ⟨o, ho, hx⟩ := k.oth
  have hd := k.hd
  have recs := k.recs
  have n4 := k.n4
  have brk := k.brk
  have hrec : recsM m sp.half sp.fin = seg m.kept ((sp.half * (m.n / 2) + 1) * 64) ((sp.fin - 1) * 64) := by rw [recsM, g.sk]; rfl
  have hread : readH m sp.half (sp.epoch, sp.count, sp.fin) = (0, some sp, m) := by
    unfold readH
    simp only
    rw [hrec, recs]
    cases sp
    simp only at brk
    subst brk
    rfl
  rw [openM, if_neg (by omega), g.dead]
  simp only [Bool.false_eq_true, if_false]
  rw [g.sk, blockOf_seg, blockOf_seg]
  rcases half_cases k.half with h | h
  · rw [h] at hd ho hread
    simp only [Nat.zero_mul, Nat.sub_zero, Nat.one_mul] at hd ho
    rw [Nat.zero_mul, hd, hl, ho]
    cases o with
    | none => exact hread
    | some y =>
      have := hx y rfl
      simp only
      rw [if_neg (by omega), if_neg (by omega)]
      exact hread
  · rw [h] at hd ho hread
    simp only [Nat.sub_self, Nat.zero_mul, Nat.one_mul] at hd ho
    rw [Nat.zero_mul, hd, hl, ho]
    cases o with
    | none => exact hread
    | some y =>
      have := hx y rfl
      simp only
      rw [if_neg (by omega), if_pos (by omega)]
      exact hread
theorem crash_kept {m : DM} {k : Int} : (crashM m k).kept = layW m.kept (m.waits.take k.toNat) := rfl
theorem crash_ok {m : DM} (h : m.Ok) (k : Int) : (crashM m k).Ok := by
  have hw : ∀ x ∈ m.waits.take k.toNat, x.1 < m.n ∧ x.2.length = 64 := fun x hx => h.ws x (List.mem_of_mem_take hx)
  exact ⟨h.n1, h.n2, length_layW _ _ _ h.kl hw, length_layW _ _ _ h.kl hw, by show (-1 : Int) ≤ -1; omega, by show (-1 : Int) ≤ _; omega, fun x hx => by cases hx⟩
theorem crash_good {m : DM} {sp : SP} (ok : m.Ok) (k : Int) (g : GoodK m.n (layW m.kept (m.waits.take k.toNat)) sp) : Good (crashM m k) sp := ⟨crash_ok ok k, rfl, rfl, rfl, g⟩
theorem crash_same {m : DM} {sp : SP} (g : Good m sp) (k : Int) : Good (crashM m k) sp := crash_good g.ok k (by rw [g.wt, List.take_nil]; exact g.k)
/-- The last part of a Commit. -/
theorem fin_out {m : DM} {sp : SP} (g : Good m sp) {next : List (Bs × Bs)} {half at_ e c : Nat} {b : Bs} (hb : b.length % 64 = 0) (hb0 : b ≠ []) (hh : half ≤ 1) (h1 : 1 ≤ at_) (hf : at_ + b.length / 64 ≤ m.n / 2)
    (hkeep : ∀ i, 64 * i ≤ b.length → GoodK m.n (lay m.kept ((half * (m.n / 2) + at_) * 64) (b.take (64 * i))) sp)
    (hnew : GoodK m.n (lay (lay m.kept ((half * (m.n / 2) + at_) * 64) b) (half * (m.n / 2) * 64) (headB e c (at_ + b.length / 64))) ⟨half, e, c, at_ + b.length / 64, next, false⟩) :
    ((finM sp m next half at_ e c b).1 = 0 ∧ Good (finM sp m next half at_ e c b).2.2 (finM sp m next half at_ e c b).2.1 ∧ (finM sp m next half at_ e c b).2.1.L = next) ∨
    ((finM sp m next half at_ e c b).1 = 150 ∧ ∀ k, ∃ sp', Good (crashM (finM sp m next half at_ e c b).2.2 k) sp' ∧ (sp'.L = sp.L ∨ sp'.L = next)) := by
  have ok := g.ok
  have hal : half * (m.n / 2) + m.n / 2 ≤ m.n := by rcases half_cases hh with h | h <;> rw [h] <;> simp <;> omega
  have hk0 : GoodK m.n m.kept sp := g.k
  obtain ⟨a1, a2, a3⟩ := putM_out (p := half * (m.n / 2) + at_) ok g.dead g.wt g.sk hb hb0 (by omega)
  obtain ⟨m1, hm1⟩ : ∃ m1, m1 = (putM m (half * (m.n / 2) + at_) b).2 := ⟨_, rfl⟩
  rw [← hm1] at a1 a2 a3
  rcases a3 with ⟨r1, d1, w1, k1, s1⟩ | ⟨r1, d1, k1, j, hj, w1⟩
  · have hhl := headB_length e c (at_ + b.length / 64)
    obtain ⟨hd, hhd⟩ : ∃ hd, hd = headB e c (at_ + b.length / 64) := ⟨_, rfl⟩
    rw [← hhd] at hhl hnew
    obtain ⟨b1, b2, b3⟩ := putM_out (m := m1) (p := half * (m.n / 2)) (b := hd) a2 d1 w1 (s1.trans k1.symm) (by omega) (fun h => by rw [h] at hhl; cases hhl) (by rw [a1]; omega)
    obtain ⟨m2, hm2⟩ : ∃ m2, m2 = (putM m1 (half * (m.n / 2)) hd).2 := ⟨_, rfl⟩
    rw [← hm2] at b1 b2 b3
    rcases b3 with ⟨r2, d2, w2, k2, s2⟩ | ⟨r2, d2, k2, j, hj, w2⟩
    · have e1 : finM sp m next half at_ e c b = (0, ⟨half, e, c, at_ + b.length / 64, next, false⟩, m2) := by rw [finM, r1, ← hm1, ← hhd, r2, ← hm2]; rfl
      rw [e1]
      exact .inl ⟨rfl, ⟨b2, d2, w2, s2.trans k2.symm, by rw [b1, a1, k2, k1]; exact hnew⟩, rfl⟩
    · have e1 : finM sp m next half at_ e c b = (150, { sp with broken := true }, m2) := by rw [finM, r1, ← hm1, ← hhd, r2, ← hm2]; rfl
      rw [e1]
      refine .inr ⟨rfl, fun k => ?_⟩
      obtain ⟨i, hi, he⟩ := layW_kept (c := m2.kept) (b := hd) (p := half * (m.n / 2)) (n := m.n) (j := j) (k := k) (by rw [b2.kl, b1, a1]) hj (by omega)
      rw [k2, k1] at he
      have hfull := hkeep (b.length / 64) (by omega)
      rw [List.take_of_length_le (by omega)] at hfull
      by_cases h0 : i = 0
      · rw [if_pos h0] at he
        exact ⟨sp, crash_good b2 k (by rw [w2, b1, a1, k2, k1, he]; exact hfull), .inl rfl⟩
      · have e2 : hd.take (64 * i) = hd := List.take_of_length_le (by rw [hhl]; omega)
        rw [if_neg h0, e2] at he
        exact ⟨_, crash_good b2 k (by rw [w2, b1, a1, k2, k1, he]; exact hnew), .inr rfl⟩
  · have e1 : finM sp m next half at_ e c b = (150, { sp with broken := true }, m1) := by rw [finM, r1, ← hm1]; rfl
    rw [e1]
    refine .inr ⟨rfl, fun k => ?_⟩
    obtain ⟨i, hi, he⟩ := layW_kept (c := m1.kept) (b := b) (p := half * (m.n / 2) + at_) (n := m.n) (j := j) (k := k) (by rw [a2.kl, a1]) hj (by omega)
    rw [k1] at he
    refine ⟨sp, crash_good a2 k ?_, .inl rfl⟩
    rw [w1, a1, k1, he]
    split
    · exact hk0
    · exact hkeep i (by omega)
theorem badC_err : ∀ {l : List Chg} {e : Int}, badC l = some e → e = 1 ∨ e = 5 := by
  intro l
  induction l with
  | nil => intro e h; cases h
  | cons c l ih =>
    intro e h
    rw [badC] at h
    split at h
    · cases h; exact .inl rfl
    · split at h
      · cases h; exact .inr rfl
      · exact ih h
/-- A Commit to a store that is whole: it is done; or the disk died, and whatever a crash keeps, the store is whole, as it was or as it is to be; or nothing is done. -/
theorem commit_good {m : DM} {sp : SP} (g : Good m sp) (l : List Chg) :
    ((commitM sp m l).1 = 0 ∧ Good (commitM sp m l).2.2 (commitM sp m l).2.1 ∧ (commitM sp m l).2.1.L = allC sp.L l) ∨
    ((commitM sp m l).1 = 150 ∧ ∀ k, ∃ sp', Good (crashM (commitM sp m l).2.2 k) sp' ∧ (sp'.L = sp.L ∨ sp'.L = allC sp.L l)) ∨
    ((commitM sp m l).1 ≠ 0 ∧ (commitM sp m l).1 ≠ 150 ∧ (commitM sp m l).2 = (sp, m)) := by
  have k := g.k
  have f1 := k.f1
  have f2 := k.f2
  have cl := k.cl
  have n2 := k.n2
  have hhalf := half_cases k.half
  have one := one_sub_mul (h := m.n / 2) k.half
  have hd0 : (sp.half * (m.n / 2) = 0 ∧ (1 - sp.half) * (m.n / 2) = m.n / 2) ∨ (sp.half * (m.n / 2) = m.n / 2 ∧ (1 - sp.half) * (m.n / 2) = 0) := by rcases hhalf with h | h <;> rw [h] <;> simp
  unfold commitM
  split
  · rename_i e he
    have := badC_err he
    exact .inr (.inr ⟨by show e ≠ 0; omega, by show e ≠ 150; omega, rfl⟩)
  · rename_i hbad
    have hch := badC_none.1 hbad
    split
    · exact .inr (.inr ⟨by simp, by simp, rfl⟩)
    · rename_i h64
      split
      · exact .inr (.inr ⟨by simp, by simp, rfl⟩)
      · rename_i hn64
        rw [k.brk]
        simp only [Bool.false_eq_true, if_false]
        split
        · rename_i h0
          subst h0
          exact .inl ⟨rfl, g, rfl⟩
        · have bl1 := recB_length sp.epoch (sp.count + 1) (payB l)
          have bl2 := recB_length (sp.epoch + 1) 1 (payB (asC (allC sp.L l)))
          split
          · split
            · exact .inr (.inr ⟨by simp, by simp, rfl⟩)
            · rename_i he
              split
              · exact .inr (.inr ⟨by simp, by simp, rfl⟩)
              · rename_i hf
                have e64 := k.e64
                have hlA : (asC (allC sp.L l)).length = (allC sp.L l).length := by rw [asC, List.length_map]
                rcases fin_out g (next := allC sp.L l) (half := 1 - sp.half) (at_ := 1) (e := sp.epoch + 1) (c := 1) (b := recB (sp.epoch + 1) 1 (payB (asC (allC sp.L l)))) (by omega) (fun h => by rw [h] at bl2; simp only [List.length_nil] at bl2; omega) (by omega) (Nat.le_refl 1) (by omega)
                  (fun i hi => k.keep (by rw [List.length_take]; omega) (by rw [List.length_take]; omega) (by rw [List.length_take]; omega))
                  (k.anew (sorted_allC k.srt) (chg_allC k.chg hch) (by omega) (by omega) (by omega)) with h | h
                · exact .inl h
                · exact .inr (.inl h)
          · rename_i hf
            rcases fin_out g (next := allC sp.L l) (half := sp.half) (at_ := sp.fin) (e := sp.epoch) (c := sp.count + 1) (b := recB sp.epoch (sp.count + 1) (payB l)) (by omega) (fun h => by rw [h] at bl1; simp only [List.length_nil] at bl1; omega) k.half f1 (by omega)
              (fun i hi => k.keep (by rw [List.length_take]; omega) (by rw [List.length_take]; omega) (by rw [List.length_take]; omega))
              (k.more hch (by omega) (by omega) (by omega)) with h | h
            · exact .inl h
            · exact .inr (.inl h)
end Go.St
namespace Go.St
open Go.Kd Go.Dr
theorem zs_all (n : Nat) : (zs n).all (fun x => x == 0) = true := by
  rw [List.all_eq_true]
  intro x hx
  rw [List.eq_of_mem_replicate hx]
  rfl
theorem seg_zs {n a k : Nat} (h : a + k ≤ n) : seg (zs n) a k = zs k := by
  unfold seg zs
  rw [List.drop_replicate, List.take_replicate, Nat.min_eq_left (by omega)]
theorem look_zs (h : Nat) (k : Nat) : lookH (zs k) h = some none := by rw [lookH, if_pos (zs_all k)]
def sp0 : SP := ⟨0, 1, 0, 1, [], false⟩
theorem fresh_k {n : Nat} (n4 : 4 ≤ n) (n2 : n ≤ 4096) : GoodK n (lay (zs (64 * n)) (0 * 64) (headB 1 0 1)) sp0 := by
  have hh := headB_length 1 0 1
  have hz : (zs (64 * n)).length = 64 * n := length_zs _
  refine ⟨by rw [length_lay _ _ _ (by omega), hz], n4, n2, by decide, by decide, by decide, by show 1 ≤ n / 2; omega, by decide, List.Pairwise.nil, (fun x hx => by cases hx), by decide, ?_, ?_, ?_, rfl⟩
  · show seg _ (0 * (n / 2) * 64) 64 = headB 1 0 1
    have := seg_lay_in (c := zs (64 * n)) (b := headB 1 0 1) (o := 0 * 64) (by omega)
    rw [hh] at this
    rw [show 0 * (n / 2) * 64 = 0 * 64 by simp]
    exact this
  · show readR 1 0 0 (seg _ _ ((1 - 1) * 64)) [] = some []
    rfl
  · refine ⟨none, ?_, fun x hx => by cases hx⟩
    show lookH (seg _ ((1 - 0) * (n / 2) * 64) 64) (n / 2) = some none
    rw [seg_lay_out (by omega) (by omega), seg_zs (by omega), look_zs]
theorem lives_nofuse {m : DM} (hd : m.dead = false) (hf : m.fuse = -1) : livesM m = true ∧ (aliveM m).fuse = -1 ∧ (aliveM m).dead = false := by
  have h1 : livesM m = true := by unfold livesM; rw [hd, hf]; rfl
  refine ⟨h1, ?_, alive_lives h1⟩
  unfold aliveM
  rw [hd, hf]
  rfl
theorem wrM_nofuse : ∀ (bs : List Bs) (m : DM) (p : Nat), m.dead = false → m.fuse = -1 → (∀ b ∈ bs, b.length = 64) → p + bs.length ≤ m.n → (wrM m p bs).1 = true ∧ (wrM m p bs).2.fuse = -1 ∧ (wrM m p bs).2.dead = false := by
  intro bs
  induction bs with
  | nil => intro m p hd hf _ _; exact ⟨rfl, hf, hd⟩
  | cons b bs ih =>
    intro m p hd hf hb h
    rw [List.length_cons] at h
    obtain ⟨h1, h2, h3⟩ := lives_nofuse hd hf
    have ha := argM_no (m := m) (p := p) (b := b) (by omega) (hb b (by simp))
    obtain ⟨m1, hm1⟩ : ∃ m1, m1 = ({ aliveM m with seen := lay m.seen (p * 64) b, waits := m.waits ++ [(p, b)] } : DM) := ⟨_, rfl⟩
    have hw : writeM m (p : Int) b = (0, m1) := by rw [writeM, ha, h1, hm1]; simp
    have e : wrM m p (b :: bs) = wrM m1 (p + 1) bs := by rw [wrM, hw]; rfl
    rw [e]
    exact ih m1 (p + 1) (by rw [hm1]; exact h3) (by rw [hm1]; exact h2) (fun x hx => hb x (by simp [hx])) (by rw [hm1]; show p + 1 + bs.length ≤ (aliveM m).n; rw [(aliveM_same m).1]; omega)
theorem putM_nofuse {m : DM} {p : Nat} {b : Bs} (hd : m.dead = false) (hf : m.fuse = -1) (hp : p + b.length / 64 ≤ m.n) : (putM m p b).1 = true ∧ (putM m p b).2.fuse = -1 ∧ (putM m p b).2.dead = false := by
  obtain ⟨h1, h2, h3⟩ := wrM_nofuse (chunks b) m p hd hf chunks_64 (by rw [chunks_length]; exact hp)
  obtain ⟨h4, h5, h6⟩ := lives_nofuse h3 h2
  obtain ⟨m2, hm2⟩ : ∃ m2, m2 = (wrM m p (chunks b)).2 := ⟨_, rfl⟩
  rw [← hm2] at h2 h3 h4 h5 h6
  have e : putM m p b = ((syncM m2).1 == 0, (syncM m2).2) := by rw [putM, h1, hm2]; rfl
  have e2 : syncM m2 = (0, { aliveM m2 with kept := layW m2.kept m2.waits, waits := [] }) := by rw [syncM, h4]; rfl
  rw [e, e2]
  exact ⟨rfl, h5, h6⟩
theorem putM_n {m : DM} {p : Nat} {b : Bs} (ok : m.Ok) (hd : m.dead = false) (hp : p + b.length / 64 ≤ m.n) : (putM m p b).2.n = m.n := by
  obtain ⟨j, hj, h1, -⟩ := wrM_out (chunks b) m p ok hd chunks_64 (by rw [chunks_length]; exact hp)
  unfold putM
  split
  · show (syncM _).2.n = _
    unfold syncM
    split
    · show (aliveM _).n = _
      rw [(aliveM_same _).1, h1]
    · show (aliveM _).n = _
      rw [(aliveM_same _).1, h1]
  · exact h1
/-- A fresh disk without a fuse is opened as a new store. -/
theorem open_fresh {m : DM} (ok : m.Ok) (n4 : 4 ≤ m.n) (hd : m.dead = false) (hf : m.fuse = -1) (hw : m.waits = []) (hk : m.kept = zs (64 * m.n)) (hs : m.seen = zs (64 * m.n)) :
    (openM m).1 = 0 ∧ (openM m).2.1 = some sp0 ∧ Good (openM m).2.2 sp0 ∧ (openM m).2.2.fuse = -1 ∧ (openM m).2.2.n = m.n := by
  have hh := headB_length 1 0 1
  have n2 := ok.n2
  obtain ⟨r1, r2, r3⟩ := putM_nofuse (m := m) (p := 0) (b := headB 1 0 1) hd hf (by omega)
  obtain ⟨a1, a2, a3⟩ := putM_out (m := m) (p := 0) (b := headB 1 0 1) ok hd hw (hs.trans hk.symm) (by omega) (fun h => by rw [h] at hh; cases hh) (by omega)
  have e : openM m = (0, some sp0, (putM m 0 (headB 1 0 1)).2) := by
    rw [openM, if_neg (by omega), hd, hs, blockOf_seg, blockOf_seg, seg_zs (by omega), seg_zs (by omega)]
    simp only [Bool.false_eq_true, if_false, look_zs]
    rw [r1]
    rfl
  rw [e]
  refine ⟨rfl, rfl, ?_, r2, a1⟩
  rcases a3 with ⟨-, b1, b2, b3, b4⟩ | ⟨b1, -⟩
  · exact ⟨a2, b1, b2, b4.trans b3.symm, by rw [a1, b3, hk]; exact fresh_k n4 n2⟩
  · rw [r1] at b1; cases b1
/-- Without a fuse no Commit finds the disk dead. -/
theorem commit_nofuse {m : DM} {sp : SP} (g : Good m sp) (hf : m.fuse = -1) (l : List Chg) : (commitM sp m l).1 ≠ 150 ∧ (commitM sp m l).2.2.fuse = -1 := by
  have k := g.k
  have f2 := k.f2
  have hhalf := half_cases k.half
  have hd0 : sp.half * (m.n / 2) + m.n / 2 ≤ m.n ∧ (1 - sp.half) * (m.n / 2) + m.n / 2 ≤ m.n := by rcases hhalf with h | h <;> rw [h] <;> simp <;> omega
  have key : ∀ (half at_ e c : Nat) (b : Bs), half * (m.n / 2) + m.n / 2 ≤ m.n → 1 ≤ at_ → at_ + b.length / 64 ≤ m.n / 2 → (finM sp m (allC sp.L l) half at_ e c b).1 ≠ 150 ∧ (finM sp m (allC sp.L l) half at_ e c b).2.2.fuse = -1 := by
    intro half at_ e c b h1 h2 h3
    obtain ⟨r1, r2, r3⟩ := putM_nofuse (m := m) (p := half * (m.n / 2) + at_) (b := b) g.dead hf (by omega)
    have hn := putM_n (m := m) (p := half * (m.n / 2) + at_) (b := b) g.ok g.dead (by omega)
    have hh := headB_length e c (at_ + b.length / 64)
    obtain ⟨s1, s2, s3⟩ := putM_nofuse (m := (putM m (half * (m.n / 2) + at_) b).2) (p := half * (m.n / 2)) (b := headB e c (at_ + b.length / 64)) r3 r2 (by rw [hn]; omega)
    unfold finM
    rw [r1, s1]
    exact ⟨by simp, s2⟩
  unfold commitM
  split
  · rename_i e he
    have := badC_err he
    exact ⟨by show e ≠ 150; omega, hf⟩
  · split
    · exact ⟨by simp, hf⟩
    · split
      · exact ⟨by simp, hf⟩
      · rw [k.brk]
        simp only [Bool.false_eq_true, if_false]
        split
        · exact ⟨by simp, hf⟩
        · split
          · split
            · exact ⟨by simp, hf⟩
            · split
              · exact ⟨by simp, hf⟩
              · exact key _ _ _ _ _ hd0.2 (Nat.le_refl 1) (by omega)
          · exact key _ _ _ _ _ hd0.1 k.f1 (by omega)
end Go.St
namespace Go.St
open Go.Kd Go.Dr
def Byt (l : Bs) : Prop := ∀ x ∈ l, 0 ≤ x ∧ x < 256
theorem Byt.take {l : Bs} (h : Byt l) (n : Nat) : Byt (l.take n) := fun x hx => h x (List.mem_of_mem_take hx)
theorem Byt.drop {l : Bs} (h : Byt l) (n : Nat) : Byt (l.drop n) := fun x hx => h x (List.mem_of_mem_drop hx)
theorem Byt.append {a b : Bs} (h : Byt a) (k : Byt b) : Byt (a ++ b) := fun x hx => (List.mem_append.1 hx).elim (h x) (k x)
theorem byt_putB (n s : Nat) : Byt (putB n s) := fun y hy => by
  simp only [putB, List.mem_map] at hy
  obtain ⟨i, _, rfl⟩ := hy
  omega
theorem getB_lt' : ∀ (n : Nat) (l : Bs), l.length = n → Byt l → getB l < 256 ^ n := by
  intro n
  induction n with
  | zero => intro l h _; rw [List.eq_nil_of_length_eq_zero h]; decide
  | succ n ih =>
    intro l h hb
    rcases List.eq_nil_or_concat l with rfl | ⟨m, c, rfl⟩
    · cases h
    · rw [List.concat_eq_append] at h hb ⊢
      rw [getB_snoc']
      have h1 := ih m (by simpa using h) (fun x hx => hb x (by simp [hx]))
      have h2 := hb c (by simp)
      rw [Nat.pow_succ]
      omega
theorem putB_getB : ∀ (n : Nat) (l : Bs), l.length = n → Byt l → putB (getB l) n = l := by
  intro n
  induction n with
  | zero => intro l h _; rw [List.eq_nil_of_length_eq_zero h]; rfl
  | succ n ih =>
    intro l h hb
    rcases List.eq_nil_or_concat l with rfl | ⟨m, c, rfl⟩
    · cases h
    · rw [List.concat_eq_append] at h hb ⊢
      have h2 := hb c (by simp)
      rw [getB_snoc', putB_succ, show (getB m * 256 + c.toNat) / 256 = getB m by omega, ih m (by simpa using h) (fun x hx => hb x (by simp [hx]))]
      congr 2
      omega
theorem putB_inj {s a b : Nat} (ha : a < 256 ^ s) (hb : b < 256 ^ s) (h : putB a s = putB b s) : a = b := by
  rw [← getB_putB s a ha, h, getB_putB s b hb]
theorem S_set {l : Bs} {i : Nat} {y : Int} (hl : Byt l) (hi : i < l.length) (hy : 0 ≤ y ∧ y < 256) (hne : l[i]? ≠ some y) (hlen : l.length < 2147483647) : S (l.set i y) ≠ S l := by
  have e1 : l = l.take i ++ l[i] :: l.drop (i + 1) := by
    rw [← List.drop_eq_getElem_cons hi, List.take_append_drop]
  have e2 : l.set i y = l.take i ++ y :: l.drop (i + 1) := List.set_eq_take_append_cons_drop.trans (if_pos hi)
  have hx := hl l[i] (List.getElem_mem hi)
  have hxy : l[i] ≠ y := fun h => hne (by rw [List.getElem?_eq_getElem hi, h])
  rw [e2]
  conv => rhs; rw [e1]
  exact S_turn hy hx (fun h => hxy h.symm) (by rw [List.length_take]; omega)
theorem head_bytes {b : Bs} (hb : Byt b) (hl : 24 ≤ b.length) (h4 : b.take 4 = headW) : headP (hE b) (hC b) (hN b) = b.take 20 := by
  have hd : ∀ k, Byt (b.drop k) := fun k => hb.drop k
  have l8 : ((b.drop 4).take 8).length = 8 := by rw [List.length_take, List.length_drop]; omega
  have l12 : ((b.drop 12).take 4).length = 4 := by rw [List.length_take, List.length_drop]; omega
  have l16 : ((b.drop 16).take 4).length = 4 := by rw [List.length_take, List.length_drop]; omega
  unfold headP hE hC hN
  rw [putB_getB 8 _ l8 ((hd 4).take 8), putB_getB 4 _ l12 ((hd 12).take 4), putB_getB 4 _ l16 ((hd 16).take 4), ← h4]
  have e1 : b.take 12 = b.take 4 ++ (b.drop 4).take 8 := by rw [← List.take_add]
  have e2 : b.take 16 = b.take 12 ++ (b.drop 12).take 4 := by rw [← List.take_add]
  have e3 : b.take 20 = b.take 16 ++ (b.drop 16).take 4 := by rw [← List.take_add]
  rw [e3, e2, e1]
/-- A header of which one byte is another one is none. -/
theorem look_turn {b : Bs} {h : Nat} {x : Nat × Nat × Nat} {i : Nat} {y : Int} (hb : Byt b) (hl : b.length = 64) (hx : lookH b h = some (some x)) (hi : i < 24) (hy : 0 ≤ y ∧ y < 256) (hne : b[i]? ≠ some y) : lookH (b.set i y) h = none := by
  have hb' : Byt (b.set i y) := fun z hz => by
    rcases List.mem_or_eq_of_mem_set hz with hz | rfl
    · exact hb z hz
    · exact hy
  have h24 : b.take 24 = head24 (hE b) (hC b) (hN b) := by
    unfold lookH at hx
    split at hx
    · cases hx
    · split at hx
      · rename_i hh; exact hh.1
      · cases hx
  have h4 : b.take 4 = headW := by
    have := congrArg (fun l : Bs => l.take 4) h24
    simp only [List.take_take] at this
    rw [show min 4 24 = 4 from rfl] at this
    rw [this, head24, headP]
    rfl
  have hP := head_bytes hb (by omega) h4
  have h20 : (b.drop 20).take 4 = putB (S (b.take 20)) 4 := by
    have h1 := congrArg (fun l : Bs => l.drop 20) h24
    simp only [head24, List.drop_take] at h1
    rw [List.drop_left' (headP_length _ _ _), hP] at h1
    exact h1
  have hl' : (b.set i y).length = 64 := by rw [List.length_set, hl]
  have nz : (b.set i y).all (fun x => x == 0) = false := by
    have h0 : b[0]? = some 104 := by
      have := congrArg (fun l : Bs => l[0]?) h4
      simp only [List.getElem?_take] at this
      simpa [headW] using this
    have h1 : b[1]? = some 101 := by
      have := congrArg (fun l : Bs => l[1]?) h4
      simp only [List.getElem?_take] at this
      simpa [headW] using this
    rw [List.all_eq_false]
    by_cases hi0 : i = 0
    · refine ⟨101, List.mem_of_getElem? (i := 1) ?_, by decide⟩
      rw [List.getElem?_set, if_neg (by omega), h1]
    · refine ⟨104, List.mem_of_getElem? (i := 0) ?_, by decide⟩
      rw [List.getElem?_set, if_neg (by omega), h0]
  rw [lookH, nz]
  simp only [Bool.false_eq_true, if_false]
  refine if_neg fun hk => ?_
  have k24 := hk.1
  have k4 : (b.set i y).take 4 = headW := by
    have := congrArg (fun l : Bs => l.take 4) k24
    simp only [List.take_take] at this
    rw [show min 4 24 = 4 from rfl] at this
    rw [this, head24, headP]
    rfl
  have kP := head_bytes hb' (by omega) k4
  have k20 : ((b.set i y).drop 20).take 4 = putB (S ((b.set i y).take 20)) 4 := by
    have h1 := congrArg (fun l : Bs => l.drop 20) k24
    simp only [head24, List.drop_take] at h1
    rw [List.drop_left' (headP_length _ _ _), kP] at h1
    exact h1
  by_cases h20i : i < 20
  · have e20 : (b.set i y).drop 20 = b.drop 20 := List.drop_set_of_lt (by omega)
    rw [e20, h20, List.take_set] at k20
    refine S_set (l := b.take 20) (i := i) (y := y) (hb.take 20) (by rw [List.length_take]; omega) hy (by rw [List.getElem?_take, if_pos h20i]; exact hne) (by rw [List.length_take]; omega) ?_
    have a1 := S_lt (b.take 20)
    have a2 := S_lt ((b.take 20).set i y)
    exact (putB_inj (s := 4) (by omega) (by omega) k20).symm
  · have e1 : (b.set i y).take 20 = b.take 20 := List.take_set_of_le (by omega)
    rw [e1, ← h20] at k20
    have := congrArg (fun l : Bs => l[i - 20]?) k20
    simp only [List.getElem?_take, List.getElem?_drop] at this
    rw [if_pos (by omega), if_pos (by omega), show 20 + (i - 20) = i by omega, List.getElem?_set, if_pos rfl, if_pos (by omega)] at this
    exact hne this.symm
/-- The places of the records that count: of the sums, and of the payloads. -/
def plc : Nat → Bs → Nat → List Nat
  | 0, _, _ => []
  | c + 1, all, off => ((List.range (4 + getB (all.take 4))).map fun i => off + 4 + i) ++ plc c (all.drop ((8 + getB (all.take 4) + 63) / 64 * 64)) (off + (8 + getB (all.take 4) + 63) / 64 * 64)
theorem plc_ge : ∀ (c : Nat) (all : Bs) (off q : Nat), q ∈ plc c all off → off ≤ q := by
  intro c
  induction c with
  | zero => intro all off q h; cases h
  | succ c ih =>
    intro all off q h
    rw [plc] at h
    rcases List.mem_append.1 h with h | h
    · obtain ⟨i, _, rfl⟩ := List.mem_map.1 h
      omega
    · have := ih _ _ _ h
      omega
theorem readR_turn {e : Nat} {y : Int} (hy : 0 ≤ y ∧ y < 256) : ∀ (c k : Nat) (all : Bs) (L L1 : List (Bs × Bs)) (off q : Nat), Byt all → all.length < 1000000000 → all.length % 64 = 0 → readR e c k all L = some L1 → q ∈ plc c all off → all[q - off]? ≠ some y → readR e c k (all.set (q - off) y) L = none := by
  intro c
  induction c with
  | zero => intro k all L L1 off q _ _ _ _ h; cases h
  | succ c ih =>
    intro k all L L1 off q hb hlen hm h hq hne
    rw [readR] at h
    split at h
    · cases h
    · rename_i hnil
      have hpos : 64 ≤ all.length := by
        have : all.length ≠ 0 := fun h0 => hnil (List.eq_nil_of_length_eq_zero h0)
        omega
      split at h
      · cases h
      · rename_i hn
        split at h
        · rename_i hH
          obtain ⟨n, hn2⟩ : ∃ n, n = getB (all.take 4) := ⟨_, rfl⟩
          obtain ⟨j, hj⟩ : ∃ j, j = q - off := ⟨_, rfl⟩
          have hge := plc_ge _ _ _ _ hq
          rw [plc] at hq
          rw [← hj] at hne ⊢
          rw [← hn2] at h hn hH hq
          have hset_ne : (all.set j y) ≠ [] := fun h0 => by
            have := congrArg List.length h0
            rw [List.length_set] at this
            simp only [List.length_nil] at this
            omega
          have hH2 : ((all.drop 4).take 4) = putB (S (recT e (k + 1) ((all.drop 8).take n))) 4 ∧ all.take 4 = putB ((all.drop 8).take n).length 4 := by
            have h1 := congrArg (fun l : Bs => l.drop 4) hH
            have h2 := congrArg (fun l : Bs => l.take 4) hH
            simp only [List.drop_take, recH, List.take_take] at h1 h2
            rw [List.drop_left' (putB_length _ _)] at h1
            rw [List.take_left' (putB_length _ _), show min 4 8 = 4 from rfl] at h2
            exact ⟨h1.symm, h2.symm⟩
          have hpl : ((all.drop 8).take n).length = n := by rw [List.length_take, List.length_drop]; omega
          rcases List.mem_append.1 hq with hq | hq
          · -- in this record
            obtain ⟨i, hi, hqi⟩ := List.mem_map.1 hq
            have hi2 := List.mem_range.1 hi
            have hji : j = 4 + i := by omega
            have t4 : (all.set j y).take 4 = all.take 4 := List.take_set_of_le (by omega)
            rw [readR, if_neg hset_ne, t4, ← hn2, if_neg (by rw [List.length_set]; omega)]
            refine if_neg fun hH' => ?_
            have k1 : (((all.set j y).drop 4).take 4) = putB (S (recT e (k + 1) (((all.set j y).drop 8).take n))) 4 := by
              have h1 := congrArg (fun l : Bs => l.drop 4) hH'
              simp only [List.drop_take, recH] at h1
              rw [List.drop_left' (putB_length _ _)] at h1
              exact h1.symm
            by_cases h8 : j < 8
            · rw [show (all.set j y).drop 8 = all.drop 8 from List.drop_set_of_lt (by omega), ← hH2.1] at k1
              have := congrArg (fun l : Bs => l[j - 4]?) k1
              simp only [List.getElem?_take, List.getElem?_drop] at this
              rw [if_pos (by omega), if_pos (by omega), show 4 + (j - 4) = j by omega, List.getElem?_set, if_pos rfl, if_pos (by omega)] at this
              exact hne this.symm
            · have e1 : ((all.set j y).drop 4).take 4 = (all.drop 4).take 4 := by
                rw [List.drop_set, if_neg (by omega)]
                exact List.take_set_of_le (by omega)
              have e2 : ((all.set j y).drop 8).take n = ((all.drop 8).take n).set (j - 8) y := by
                rw [List.drop_set, if_neg (by omega), List.take_set]
              rw [e1, hH2.1, e2] at k1
              have hT : recT e (k + 1) (((all.drop 8).take n).set (j - 8) y) = (recT e (k + 1) ((all.drop 8).take n)).set (16 + (j - 8)) y := by
                unfold recT
                rw [List.length_set, List.set_append_right _ _ (by simp only [List.length_append, putB_length]; omega)]
                congr 2
                simp only [List.length_append, putB_length]
                omega
              have hTl : (recT e (k + 1) ((all.drop 8).take n)).length = 16 + n := by
                unfold recT
                simp only [List.length_append, putB_length, hpl]
              have hTb : Byt (recT e (k + 1) ((all.drop 8).take n)) := (((byt_putB _ _).append (byt_putB _ _)).append (byt_putB _ _)).append ((hb.drop 8).take n)
              refine S_set hTb (i := 16 + (j - 8)) (y := y) (by omega) hy ?_ (by omega) ?_
              · unfold recT
                rw [List.getElem?_append_right (by simp only [List.length_append, putB_length]; omega)]
                simp only [List.length_append, putB_length]
                rw [show 16 + (j - 8) - (8 + 4 + 4) = j - 8 by omega, List.getElem?_take, if_pos (by omega), List.getElem?_drop, show 8 + (j - 8) = j by omega]
                exact hne
              · rw [hT] at k1
                have a1 := S_lt (recT e (k + 1) ((all.drop 8).take n))
                have a2 := S_lt ((recT e (k + 1) ((all.drop 8).take n)).set (16 + (j - 8)) y)
                exact (putB_inj (s := 4) (by omega) (by omega) k1).symm
          · -- behind it
            have hge2 := plc_ge _ _ _ _ hq
            obtain ⟨z, hz⟩ : ∃ z, z = (8 + n + 63) / 64 * 64 := ⟨_, rfl⟩
            rw [← hz] at h hq hge2
            have hjz : z ≤ j := by omega
            have t4 : (all.set j y).take 4 = all.take 4 := List.take_set_of_le (by omega)
            have t8 : (all.set j y).take 8 = all.take 8 := List.take_set_of_le (by omega)
            have d8 : ((all.set j y).drop 8).take n = (all.drop 8).take n := by
              rw [List.drop_set, if_neg (by omega)]
              exact List.take_set_of_le (by omega)
            have dz : (all.set j y).drop z = (all.drop z).set (q - (off + z)) y := by
              rw [List.drop_set, if_neg (by omega)]
              congr 1
              omega
            rw [readR, if_neg hset_ne, t4, ← hn2, if_neg (by rw [List.length_set]; omega), d8, t8, if_pos hH]
            cases hp : rdPay ((all.drop 8).take n) with
            | none => rfl
            | some l =>
              rw [hp] at h
              simp only at h ⊢
              split at h
              · cases h
              · rename_i h64
                rw [if_neg h64, ← hz, dz]
                exact ih _ _ _ _ _ _ (hb.drop z) (by rw [List.length_drop]; omega) (by rw [List.length_drop]; omega) h hq (by rw [List.getElem?_drop, show z + (q - (off + z)) = j by omega]; exact hne)
        · cases h
end Go.St
namespace Go.St
open Go.Kd Go.Dr
/-- A name and a value that may stand in a store. -/
structure EntOk (x : Bs × Bs) : Prop where
  n1 : 1 ≤ x.1.length
  n2 : x.1.length ≤ 32
  v : x.2.length ≤ 4000
  nb : Byt x.1
  vb : Byt x.2
structure ChgB (c : Chg) : Prop where
  ok : ChgOk c
  nb : Byt c.name
  vb : Byt c.val
theorem takeP_byt : ∀ (n : Nat) (b : Bs) (ps : List Bs) (r : Bs), Byt b → takeP n b = some (ps, r) → (∀ p ∈ ps, Byt p) ∧ Byt r := by
  intro n
  induction n with
  | zero => intro b ps r hb h; rw [takeP] at h; cases h; exact ⟨by simp, hb⟩
  | succ n ih =>
    intro b ps r hb h
    match b, hb, h with
    | [], _, h => cases h
    | [_], _, h => cases h
    | a :: c :: b, hb, h =>
      have hb' : Byt b := fun x hx => hb x (by simp [hx])
      rw [takeP] at h
      split at h
      · cases h
      · cases hq : takeP n (b.drop (a.toNat * 256 + c.toNat)) with
        | none => rw [hq] at h; cases h
        | some q =>
          obtain ⟨l, r2⟩ := q
          rw [hq] at h
          simp only [Option.map_some, Option.some.injEq, Prod.mk.injEq] at h
          obtain ⟨rfl, rfl⟩ := h
          obtain ⟨h1, h2⟩ := ih _ _ _ (hb'.drop _) hq
          refine ⟨fun p hp => ?_, h2⟩
          rcases List.mem_cons.1 hp with rfl | hp
          · exact hb'.take _
          · exact h1 p hp
theorem splitB_byt {b : Bs} {ps : List Bs} (hb : Byt b) (h : splitB b = some ps) : ∀ p ∈ ps, Byt p := by
  match b, hb, h with
  | [], _, h => cases h
  | k :: b, hb, h =>
    rw [splitB] at h
    split at h
    · cases h
    · cases hq : takeP k.toNat b with
      | none => rw [hq] at h; cases h
      | some q =>
        obtain ⟨l, r⟩ := q
        rw [hq] at h
        cases r with
        | cons x r => cases h
        | nil =>
          simp only [finP, List.nil_append, Option.some.injEq] at h
          subst h
          exact (takeP_byt _ _ _ _ (fun x hx => hb x (by simp [hx])) hq).1
theorem rdChg_ok {b : Bs} {c : Chg} (hb : Byt b) (h : rdChg b = some c) : ChgB c := by
  unfold rdChg at h
  split at h
  · rename_i n hs
    have hp := splitB_byt hb hs
    split at h
    · rename_i hn
      cases h
      exact ⟨⟨hn.1, hn.2, by simp, fun _ => rfl⟩, hp n (by simp), fun x hx => by cases hx⟩
    · cases h
  · rename_i n v hs
    have hp := splitB_byt hb hs
    split at h
    · rename_i hn
      cases h
      exact ⟨⟨hn.1, hn.2.1, hn.2.2, fun h => by cases h⟩, hp n (by simp), hp v (by simp)⟩
    · cases h
  · cases h
theorem rdChgs_ok : ∀ {bs : List Bs} {l : List Chg}, (∀ b ∈ bs, Byt b) → rdChgs bs = some l → l.length = bs.length ∧ ∀ c ∈ l, ChgB c := by
  intro bs
  induction bs with
  | nil => intro l _ h; cases h; exact ⟨rfl, by simp⟩
  | cons b bs ih =>
    intro l hb h
    rw [rdChgs] at h
    cases hc : rdChg b with
    | none => rw [hc] at h; cases h
    | some c =>
      rw [hc] at h
      cases hl : rdChgs bs with
      | none => rw [hl] at h; cases h
      | some l2 =>
        rw [hl] at h
        cases h
        obtain ⟨h1, h2⟩ := ih (fun x hx => hb x (by simp [hx])) hl
        refine ⟨by simp [h1], fun x hx => ?_⟩
        rcases List.mem_cons.1 hx with rfl | hx
        · exact rdChg_ok (hb b (by simp)) hc
        · exact h2 x hx
theorem rdPay_ok {b : Bs} {l : List Chg} (hb : Byt b) (h : rdPay b = some l) : ∀ c ∈ l, ChgB c := by
  unfold rdPay at h
  cases hs : splitB b with
  | none => rw [hs] at h; cases h
  | some ps =>
    rw [hs] at h
    exact (rdChgs_ok (splitB_byt hb hs) h).2
theorem ent_putL {n v : Bs} {L : List (Bs × Bs)} (h : ∀ x ∈ L, EntOk x) (hc : EntOk (n, v)) : ∀ x ∈ putL n v L, EntOk x := fun x hx => by
  rcases mem_putL hx with rfl | hx
  · exact hc
  · exact h x hx
theorem ent_delL {n : Bs} {L : List (Bs × Bs)} (h : ∀ x ∈ L, EntOk x) : ∀ x ∈ delL n L, EntOk x := fun x hx => h x (List.mem_filter.1 hx).1
theorem ent_allC : ∀ {l : List Chg} {L : List (Bs × Bs)}, (∀ x ∈ L, EntOk x) → (∀ c ∈ l, ChgB c) → ∀ x ∈ allC L l, EntOk x := by
  intro l
  induction l with
  | nil => intro L h _; exact h
  | cons c l ih =>
    intro L h hl
    have hc := hl c (by simp)
    refine ih (L := doC L c) ?_ fun x hx => hl x (by simp [hx])
    unfold doC
    split
    · exact ent_delL h
    · exact ent_putL h ⟨hc.ok.n1, hc.ok.n2, hc.ok.v, hc.nb, hc.vb⟩
theorem readR_ok {e : Nat} : ∀ (c k : Nat) (all : Bs) (L L1 : List (Bs × Bs)), Byt all → all.length % 64 = 0 → Sorted L → (∀ x ∈ L, EntOk x) → L.length ≤ 64 → readR e c k all L = some L1 → Sorted L1 ∧ (∀ x ∈ L1, EntOk x) ∧ L1.length ≤ 64 ∧ 64 * c ≤ all.length := by
  intro c
  induction c with
  | zero =>
    intro k all L L1 _ _ hs he hl h
    rw [readR] at h
    split at h
    · cases h; exact ⟨hs, he, hl, by omega⟩
    · cases h
  | succ c ih =>
    intro k all L L1 hb hm hs he hl h
    rw [readR] at h
    split at h
    · cases h
    · rename_i hnil
      have hpos : 64 ≤ all.length := by
        have : all.length ≠ 0 := fun h0 => hnil (List.eq_nil_of_length_eq_zero h0)
        omega
      split at h
      · cases h
      · split at h
        · split at h
          · cases h
          · rename_i l hp
            split at h
            · cases h
            · rename_i h64
              have hch := rdPay_ok ((hb.drop 8).take _) hp
              obtain ⟨h1, h2, h3, h4⟩ := ih _ _ _ _ (hb.drop _) (by rw [List.length_drop]; omega) (sorted_allC hs) (ent_allC he hch) (by omega) h
              rw [List.length_drop] at h4
              exact ⟨h1, h2, h3, by omega⟩
        · cases h
/-- What a store says is in order. -/
structure SPB (n : Nat) (sp : SP) : Prop where
  half : sp.half ≤ 1
  e64 : sp.epoch < 18446744073709551616
  f1 : 1 ≤ sp.fin
  f2 : sp.fin ≤ n / 2
  cnt : sp.count < sp.fin
  srt : Sorted sp.L
  ent : ∀ x ∈ sp.L, EntOk x
  len : sp.L.length ≤ 64
theorem Byt.seg {l : Bs} (h : Byt l) (a n : Nat) : Byt (seg l a n) := (h.drop a).take n
theorem look_ok {b : Bs} {h : Nat} {x : Nat × Nat × Nat} (hb : Byt b) (hl : b.length = 64) (hx : lookH b h = some (some x)) : x.1 < 18446744073709551616 ∧ x.2.1 < 4294967296 ∧ 1 ≤ x.2.2 ∧ x.2.2 ≤ h := by
  unfold lookH at hx
  split at hx
  · cases hx
  · split at hx
    · rename_i hh
      cases hx
      refine ⟨?_, ?_, hh.2.1, hh.2.2⟩
      · have := getB_lt' 8 ((b.drop 4).take 8) (by rw [List.length_take, List.length_drop]; omega) ((hb.drop 4).take 8)
        exact this
      · have := getB_lt' 4 ((b.drop 12).take 4) (by rw [List.length_take, List.length_drop]; omega) ((hb.drop 12).take 4)
        exact this
    · cases hx
theorem readH_ok {m : DM} {half : Nat} {x : Nat × Nat × Nat} {sp : SP} (ok : m.Ok) (hb : Byt m.seen) (hh : half ≤ 1) (hx : x.1 < 18446744073709551616 ∧ x.2.1 < 4294967296 ∧ 1 ≤ x.2.2 ∧ x.2.2 ≤ m.n / 2) (h : (readH m half x).2.1 = some sp) : SPB m.n sp ∧ sp.broken = false ∧ (readH m half x).1 = 0 ∧ (readH m half x).2.2 = m := by
  unfold readH at h ⊢
  split at h
  · rename_i L hr
    simp only [Option.some.injEq] at h
    subst h
    have hal : half * (m.n / 2) + m.n / 2 ≤ m.n := by rcases half_cases hh with h | h <;> rw [h] <;> simp <;> omega
    have hsl := ok.sl
    have hlen : (recsM m half x.2.2).length = (x.2.2 - 1) * 64 := by
      rw [recsM, List.length_take, List.length_drop, hsl]
      omega
    have hbr : Byt (recsM m half x.2.2) := hb.seg _ _
    obtain ⟨h1, h2, h3, h4⟩ := readR_ok _ _ _ _ _ hbr (by rw [hlen]; omega) List.Pairwise.nil (by simp) (by simp) hr
    rw [hlen] at h4
    exact ⟨⟨hh, hx.1, hx.2.2.1, hx.2.2.2, by show x.2.1 < x.2.2; omega, h1, h2, h3⟩, rfl, rfl, rfl⟩
  · cases h
theorem blockOf_byt {l : Bs} (h : Byt l) (k : Nat) : Byt (blockOf l k) := (h.take _).drop _
theorem blockOf_len {m : DM} (ok : m.Ok) {k : Nat} (hk : k < m.n) : (blockOf m.seen k).length = 64 := by
  have := ok.sl
  rw [blockOf, List.length_drop, List.length_take]
  omega
/-- Whatever disk is opened. -/
theorem open_ok {m : DM} {sp : SP} (ok : m.Ok) (hb : Byt m.seen) (h : (openM m).2.1 = some sp) : SPB m.n sp ∧ sp.broken = false ∧ (openM m).1 = 0 := by
  unfold openM at h ⊢
  split at h
  · cases h
  · rename_i n4
    rw [if_neg n4]
    split at h
    · cases h
    · rename_i hdead
      rw [if_neg hdead]
      have l0 := blockOf_len ok (k := 0) (by omega)
      have l1 := blockOf_len ok (k := m.n / 2) (by omega)
      split at h
      · rename_i h0 h1
        split at h
        · rename_i hp
          rw [if_pos hp]
          simp only [Option.some.injEq] at h
          subst h
          exact ⟨⟨by decide, by decide, by decide, by show 1 ≤ m.n / 2; omega, by decide, List.Pairwise.nil, by simp, by simp⟩, rfl, rfl⟩
        · cases h
      · rename_i x y h0 h1
        have hx := look_ok (blockOf_byt hb 0) l0 h0
        have hy := look_ok (blockOf_byt hb _) l1 h1
        split at h
        · cases h
        · rename_i hne
          rw [if_neg hne]
          split at h
          · rename_i hlt
            rw [if_pos hlt]
            obtain ⟨a, b, c, d⟩ := readH_ok ok hb (Nat.le_refl 1) hy h
            exact ⟨a, b, c⟩
          · rename_i hlt
            rw [if_neg hlt]
            obtain ⟨a, b, c, d⟩ := readH_ok ok hb (by omega) hx h
            exact ⟨a, b, c⟩
      · rename_i y h0 h1
        have hy := look_ok (blockOf_byt hb _) l1 h1
        obtain ⟨a, b, c, d⟩ := readH_ok ok hb (Nat.le_refl 1) hy h
        exact ⟨a, b, c⟩
      · rename_i x h0 h1
        have hx := look_ok (blockOf_byt hb 0) l0 h0
        obtain ⟨a, b, c, d⟩ := readH_ok ok hb (by omega) hx h
        exact ⟨a, b, c⟩
      · cases h
end Go.St
namespace Go.Proofs.Ytombhkekocbfoaa
open Go.RowKit Go.Dr Go.Kd Go.St
section
variable {w : World}
set_option maxRecDepth 100000 in
set_option maxHeartbeats 2000000 in
theorem put8_b {n s : Nat} (h1 : 1 ≤ s) (h8 : s = 8) :
    Calls Try.prog 67 #[.int .u64 n, .int .i64 s] w fun e w' => ∃ b, e = .returned (.tuple #[.slice (some ⟨b, 0, none⟩) s s, .bool true]) ∧ w'.blk b = some (.cells (ints .u8 (putB n s)) 5) ∧ w.heap.size ≤ b ∧ Fr [] w w' := by
  have d1 : decide ((s : Int) < 1) = false := by rw [decide_eq_false_iff_not]; omega
  have d2 : decide ((s : Int) > 8) = false := by rw [decide_eq_false_iff_not]; omega
  have d3 : decide ((s : Int) < 8) = false := by rw [decide_eq_false_iff_not]; omega
  have m0 : (0 : Int) ≤ s := by omega
  have m1 : (s : Int) ≤ 281474976710656 := by omega
  have m8 : s ≤ 8 := by omega
  clear h8
  go_enter Try.func67, Try.ntmps67
  go_wp2_with fail
  refine OwB.named (Q := fun X => Code.wp _ _ _ _ X) (show OwB w [(w.heap.size, .cells (ints .u8 (rowP n s 0)) 5)] _ from (by rw [rowP_zero]; exact (OwB.start w).allocN (.cells (ints .u8 (zs s)) 5) w.heap.size rfl)) ?_
  intro V hV
  obtain ⟨b, hb⟩ : ∃ b, b = w.heap.size := ⟨_, rfl⟩
  rw [← hb] at hV ⊢
  have HB := Lib.hid hb
  clear hb
  go_loopw [29] (fun iv wy => ∃ i : Nat, i ≤ s ∧ iv = .int .i64 (i : Int) ∧ Hid (OwB w [(b, .cells (ints .u8 (rowP n s i)) 5)] wy)) (fun iv _ => (s - intOf iv).toNat)
  case atStart => exact ⟨0, by omega, rfl, Lib.hid hV⟩
  case round =>
    clear hV
    obtain ⟨i, hi9, rfl, hO⟩ := hrel
    have f0 := hO.out.nth 0 rfl
    have t0 := hO.out.lt 0 rfl
    obtain ⟨U, hU⟩ : ∃ U, U = rowP n s i := ⟨_, rfl⟩
    have lU : U.length = s := by rw [hU, length_rowP]
    rw [← hU] at f0
    have HU := Lib.hid hU
    clear hU
    by_cases hlt : i < s
    · have hd : decide ((i : Int) < (s : Int)) = true := by rw [decide_eq_true_eq]; omega
      have w2 : IntKind.i64.wrap ((s : Int) - 1) = s - 1 := by rw [IntKind.wrap_i64]; omega
      have w3 : IntKind.i64.wrap ((s : Int) - 1 - i) = ((s - 1 - i : Nat) : Int) := by rw [IntKind.wrap_i64]; omega
      have w4 : IntKind.i64.wrap (8 * (i : Int)) = 8 * i := by rw [IntKind.wrap_i64]; omega
      have hj : s - 1 - i < s := by omega
      obtain ⟨j, hj2⟩ : ∃ j, j = s - 1 - i := ⟨_, rfl⟩
      rw [← hj2] at w3 hj
      have HJ := Lib.hid hj2
      clear hj2
      go_wp2
      go_roundw
      case rel =>
        refine ⟨i + 1, by omega, by simp, Lib.hid ?_⟩
        have hn2 := hO.out.set 0 (.cells (ints .u8 (rowP n s (i + 1))) 5) rfl
        have ev : U.set j ((n : Int) / 2 ^ (8 * i) % 256) = rowP n s (i + 1) := by
          rw [HU.out, HJ.out, ← rowP_succ hlt, show ((n : Int) / 2 ^ (8 * i) % 256) = ((n / 256 ^ i % 256 : Nat) : Int) from by rw [← pow_256]; norm_cast]
        rw [ev]
        exact hn2
      case measure => simp [intOf]; omega
    · obtain rfl : i = s := by omega
      have hd : decide ((i : Int) < (i : Int)) = false := by simp
      go_wp2
      refine bodyPost_ret (results_tmp2 rfl _ _ _) rfl ⟨b, rfl, ?_, by rw [HB.out]; exact Nat.le_refl _, hO.out.fr⟩
      rw [HU.out, rowP_full] at f0
      exact f0
set_option maxRecDepth 100000 in
set_option maxHeartbeats 2000000 in
theorem num_b {n s : Nat} (h : s = 8 ∨ (s = 4 ∧ n < 4294967296)) :
    Calls Try.prog 54 #[.int .u64 n, .int .i64 s] w fun e w' => ∃ b, e = .returned (.slice (some ⟨b, 0, none⟩) s s) ∧ w'.blk b = some (.cells (ints .u8 (putB n s)) 5) ∧ w.heap.size ≤ b ∧ Fr [] w w' := by
  have hp : Calls Try.prog 67 #[.int .u64 n, .int .i64 s] w fun e w' => ∃ b, e = .returned (.tuple #[.slice (some ⟨b, 0, none⟩) s s, .bool true]) ∧ w'.blk b = some (.cells (ints .u8 (putB n s)) 5) ∧ w.heap.size ≤ b ∧ Fr [] w w' := by
    rcases h with h | ⟨h, hn⟩
    · exact put8_b (by omega) h
    · exact put_b (by omega) (by omega) (by subst h; exact hn)
  have HP := Lib.hid hp
  clear hp h
  go_enter Try.func54, Try.ntmps54
  go_wp2_with fail
  refine HP.out.mono ?_
  rintro e w1 ⟨b, rfl, g, hl, F⟩
  have G := Lib.hid g
  have HF := Lib.hid F
  clear g F
  go_wp2_with fail
  exact bodyPost_ret (results_tmp rfl _ _ _) rfl ⟨b, rfl, G.out, hl, HF.out⟩
theorem take_flat_succ {ls : List Bs} {k : Nat} {l : Bs} (h : ls[k]? = some l) : (ls.take (k + 1)).flatten = (ls.take k).flatten ++ l := by
  rw [List.take_add_one, h]
  simp
theorem flat_le : ∀ (ls : List Bs) (k : Nat) (l : Bs), ls[k]? = some l → (ls.take k).flatten.length + l.length ≤ ls.flatten.length := by
  intro ls k l h
  have h1 := congrArg List.length (take_flat_succ h)
  have h2 : ls.flatten = (ls.take (k + 1)).flatten ++ (ls.drop (k + 1)).flatten := by
    rw [← List.flatten_append, List.take_append_drop]
  have h3 := congrArg List.length h2
  rw [List.length_append] at h1 h3
  omega
set_option maxRecDepth 100000 in
set_option maxHeartbeats 2000000 in
theorem total_f {p : Option Addr} {n cap : Nat} {ls : List Bs} (T : Sll w p n cap ls) (hb : ∀ l ∈ ls, isBytes l) (hl : ls.flatten.length ≤ 1000000000) (hn : n ≤ 1000000000) :
    Calls Try.prog 55 #[.slice p n cap] w fun e w' => e = .returned (.int .u64 (Go.St.S ls.flatten : Nat)) ∧ Fr [] w w' := by
  have HS := Lib.hid T
  have HN := Lib.hid T.len
  have HB := Lib.hid hb
  have HLL := Lib.hid hl
  clear T hb hl
  go_enter Try.func55, Try.ntmps55
  go_wp2_with fail
  go_loopw [3, 4, 11] (fun sv iv kv wy => ∃ k : Nat, k ≤ n ∧ kv = .int .i64 (k : Int) ∧ iv = .int .u64 ((ls.take k).flatten.length : Nat) ∧ sv = .int .u64 (Go.St.S (ls.take k).flatten : Nat) ∧ wy = w) (fun _ _ kv _ => (n - intOf kv).toNat)
  case atStart => exact ⟨0, by omega, rfl, rfl, rfl, rfl⟩
  case round =>
    obtain ⟨k, hk, rfl, rfl, rfl, rfl⟩ := hrel
    by_cases hlt : k < n
    · have hd : decide ((k : Int) < (n : Int)) = true := by rw [decide_eq_true_eq]; omega
      obtain ⟨b, off, cs, TT, fr, q2, m2, c2, l2, rfl, f00, hs, hc, hl2, S2⟩ := HS.out.at hlt
      have hc2 := (Array.getElem?_eq_some_iff.1 hc).2
      have hby := HB.out l2 (List.mem_of_getElem? hl2)
      have hfl := flat_le ls k l2 hl2
      have htf := take_flat_succ hl2
      have hm2 := S2.len
      obtain ⟨A, hA⟩ : ∃ A, A = (ls.take k).flatten := ⟨_, rfl⟩
      rw [← hA] at hfl htf ⊢
      have t0 := World.at_lt f00
      have hAl : A.length + m2 ≤ 1000000000 := by have := HLL.out; omega
      have HTF := Lib.hid htf
      have HS2 := Lib.hid S2
      have HBY := Lib.hid hby
      have HM2 := Lib.hid hm2
      have wk : IntKind.i64.wrap ((k : Int) + 1) = ((k + 1 : Nat) : Int) := by rw [IntKind.wrap_i64]; omega
      have hkk : k + 1 ≤ n := hlt
      clear hA hfl htf S2 hby hm2 hl2
      go_wp2_with fail
      go_loopw [3, 4, 17] (fun sv iv jv wy => ∃ j : Nat, j ≤ m2 ∧ jv = .int .i64 (j : Int) ∧ iv = .int .u64 ((A ++ l2.take j).length : Nat) ∧ sv = .int .u64 (Go.St.S (A ++ l2.take j) : Nat) ∧ wy = wr) (fun _ _ jv _ => (m2 - intOf jv).toNat)
      case atStart => exact ⟨0, by omega, rfl, by simp, by simp, rfl⟩
      case round =>
        obtain ⟨j, hj, rfl, rfl, rfl, rfl⟩ := hrel
        by_cases hlt2 : j < m2
        · have hd2 : decide ((j : Int) < (m2 : Int)) = true := by rw [decide_eq_true_eq]; omega
          obtain ⟨bb, off2, cs2, T2, fr2, rfl, fc2, hs2, hx2⟩ := HS2.out.out (by omega)
          have hcell : cs2[off2 + j]? = some (.int .u8 (el l2 j)) := by
            have := congrArg (fun l : List Value => l[j]?) hx2
            have hlen := HM2.out
            simp only [Array.getElem?_toList, List.getElem?_map] at this
            rw [Array.getElem?_extract_of_lt (by omega), ← Array.getElem?_eq_getElem] at this
            rw [this, List.getElem?_eq_getElem (by omega), el, List.getD_eq_getElem?_getD, List.getElem?_eq_getElem (by omega)]
            rfl
          have hel := el_byte HBY.out (i := j) (by rw [HM2.out]; exact hlt2)
          obtain ⟨y, hy⟩ : ∃ y : Nat, el l2 j = (y : Int) := ⟨(el l2 j).toNat, by omega⟩
          have hy256 : y < 256 := by omega
          have hsn : l2.take (j + 1) = l2.take j ++ [(y : Int)] := by rw [take_el (by rw [HM2.out]; exact hlt2), hy]
          rw [hy] at hcell
          replace hcell := (Array.getElem?_eq_some_iff.1 hcell).2
          obtain ⟨X, hX⟩ : ∃ X, X = A ++ l2.take j := ⟨_, rfl⟩
          have hXl : X.length = A.length + j := by rw [hX, List.length_append, List.length_take, HM2.out]; omega
          have hnew : A ++ l2.take (j + 1) = X ++ [(y : Int)] := by rw [hsn, ← List.append_assoc, hX]
          rw [← hX]
          have HNEW := Lib.hid hnew
          have hSl := Go.St.S_lt X
          obtain ⟨s0, hs0⟩ : ∃ s0, s0 = Go.St.S X := ⟨_, rfl⟩
          rw [← hs0] at hSl ⊢
          obtain ⟨i0, hi0⟩ : ∃ i0, i0 = X.length := ⟨_, rfl⟩
          rw [← hi0] at hXl ⊢
          have hi0l : i0 ≤ 1000000000 := by omega
          have HXL := Lib.hid hXl
          have HS0 := Lib.hid hs0
          have HI0 := Lib.hid hi0
          have hmul : (i0 + 1) * y ≤ 1000000001 * 255 := Nat.mul_le_mul (by omega) (by omega)
          obtain ⟨z, hz⟩ : ∃ z, z = (i0 + 1) * y := ⟨_, rfl⟩
          rw [← hz] at hmul
          have w1 : IntKind.u64.wrap ((i0 : Int) + 1) = ((i0 + 1 : Nat) : Int) := by rw [IntKind.wrap_u64]; omega
          have w2 : IntKind.u64.wrap (y : Int) = (y : Int) := by rw [IntKind.wrap_u64]; omega
          have w3 : IntKind.u64.wrap (((i0 : Int) + 1) * (y : Int)) = (z : Int) := by
            have : ((i0 : Int) + 1) * (y : Int) = (z : Int) := by rw [hz]; norm_cast
            rw [this, IntKind.wrap_u64]; omega
          have w4 : IntKind.u64.wrap ((s0 : Int) + (z : Int)) = ((s0 + z : Nat) : Int) := by rw [IntKind.wrap_u64]; omega
          have wj : IntKind.i64.wrap ((j : Int) + 1) = ((j + 1 : Nat) : Int) := by rw [IntKind.wrap_i64]; omega
          have HZ := Lib.hid hz
          have tc2 := World.at_lt fc2
          have ic : off2 + j < cs2.size := by omega
          have w5 : ((s0 : Int) + (z : Int)).tmod 2147483647 = (((s0 + z) % 2147483647 : Nat) : Int) := by
            rw [show ((s0 : Int) + (z : Int)) = ((s0 + z : Nat) : Int) from by norm_cast]
            rfl
          have w4b : IntKind.u64.wrap ((s0 : Int) + (z : Int)) = (s0 : Int) + (z : Int) := by rw [IntKind.wrap_u64]; omega
          clear hx2 hX hnew hs0 hi0 hz hy hsn hel hXl w4
          go_wp2_with fail
          go_roundw
          case rel =>
            refine ⟨j + 1, hlt2, by first | rfl | simp, ?_, ?_, trivial⟩
            · rw [HNEW.out, List.length_append, ← HI0.out]; first | rfl | simp
            · rw [HNEW.out, Go.St.S_snoc, ← HI0.out, ← HS0.out, Int.toNat_natCast, ← HZ.out]
              first | rfl | simp
          case measure => simp [intOf]; omega
        · obtain rfl : j = m2 := by omega
          have hd2 : decide ((j : Int) < (j : Int)) = false := by simp
          have htk : l2.take j = l2 := List.take_of_length_le (by rw [HM2.out]; exact Nat.le_refl _)
          rw [htk, ← HTF.out]
          clear htk
          go_wp2_with fail
          go_roundw
          case rel => exact ⟨k + 1, hkk, by first | rfl | simp, rfl, rfl, trivial⟩
          case measure => simp [intOf]; omega
    · obtain rfl : k = n := by omega
      have hd : decide ((k : Int) < (k : Int)) = false := by simp
      have htk : ls.take k = ls := List.take_of_length_le (by rw [HN.out]; exact Nat.le_refl _)
      rw [htk]
      have HF := Lib.hid (Fr.refl [] wr)
      clear htk
      go_wp2_with fail
      exact bodyPost_ret (results_tmp rfl _ _ _) rfl ⟨rfl, HF.out⟩
end
end Go.Proofs.Ytombhkekocbfoaa
