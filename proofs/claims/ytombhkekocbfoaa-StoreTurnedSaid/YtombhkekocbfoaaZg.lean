/- Joined: StK, StL, SoA, GnG, GnH, GnK, GnY, SoB. -/
import Derived.Test.YtombhkekocbfoaaZf
import Derived.Test.YtombhkekocbfoaaZe
import Derived.Lib.SlBytesConst
set_option linter.unusedVariables false
set_option linter.unusedSimpArgs false
namespace Go.St
open Go.Kd Go.Dr
def Byt (l : Bs) : Prop := ∀ x ∈ l, 0 ≤ x ∧ x < 256
theorem Byt.take {l : Bs} (h : Byt l) (n : Nat) : Byt (l.take n) := fun x hx => h x (List.mem_of_mem_take hx)
theorem Byt.drop {l : Bs} (h : Byt l) (n : Nat) : Byt (l.drop n) := fun x hx => h x (List.mem_of_mem_drop hx)
theorem Byt.append {a b : Bs} (h : Byt a) (k : Byt b) : Byt (a ++ b) := fun x hx => (List.mem_append.1 hx).elim (h x) (k x)
theorem byt_putB (n s : Nat) : Byt (putB n s) := fun y hy => by
  simp only [putB, List.mem_map] at hy
  obtain ⟨i, _, rfl⟩ := hy
  omega
theorem getB_lt' : ∀ (n : Nat) (l : Bs), l.length = n → Byt l → getB l < 256 ^ n := by
  intro n
  induction n with
  | zero => intro l h _; rw [List.eq_nil_of_length_eq_zero h]; decide
  | succ n ih =>
    intro l h hb
    rcases List.eq_nil_or_concat l with rfl | ⟨m, c, rfl⟩
    · cases h
    · rw [List.concat_eq_append] at h hb ⊢
      rw [getB_snoc']
      have h1 := ih m (by simpa using h) (fun x hx => hb x (by simp [hx]))
      have h2 := hb c (by simp)
      rw [Nat.pow_succ]
      omega
theorem putB_getB : ∀ (n : Nat) (l : Bs), l.length = n → Byt l → putB (getB l) n = l := by
  intro n
  induction n with
  | zero => intro l h _; rw [List.eq_nil_of_length_eq_zero h]; rfl
  | succ n ih =>
    intro l h hb
    rcases List.eq_nil_or_concat l with rfl | ⟨m, c, rfl⟩
    · cases h
    · rw [List.concat_eq_append] at h hb ⊢
      have h2 := hb c (by simp)
      rw [getB_snoc', putB_succ, show (getB m * 256 + c.toNat) / 256 = getB m by omega, ih m (by simpa using h) (fun x hx => hb x (by simp [hx]))]
      congr 2
      omega
theorem putB_inj {s a b : Nat} (ha : a < 256 ^ s) (hb : b < 256 ^ s) (h : putB a s = putB b s) : a = b := by
  rw [← getB_putB s a ha, h, getB_putB s b hb]
theorem S_set {l : Bs} {i : Nat} {y : Int} (hl : Byt l) (hi : i < l.length) (hy : 0 ≤ y ∧ y < 256) (hne : l[i]? ≠ some y) (hlen : l.length < 2147483647) : S (l.set i y) ≠ S l := by
  have e1 : l = l.take i ++ l[i] :: l.drop (i + 1) := by
    rw [← List.drop_eq_getElem_cons hi, List.take_append_drop]
  have e2 : l.set i y = l.take i ++ y :: l.drop (i + 1) := List.set_eq_take_append_cons_drop.trans (if_pos hi)
  have hx := hl l[i] (List.getElem_mem hi)
  have hxy : l[i] ≠ y := fun h => hne (by rw [List.getElem?_eq_getElem hi, h])
  rw [e2]
  conv => rhs; rw [e1]
  exact S_turn hy hx (fun h => hxy h.symm) (by rw [List.length_take]; omega)
theorem head_bytes {b : Bs} (hb : Byt b) (hl : 24 ≤ b.length) (h4 : b.take 4 = headW) : headP (hE b) (hC b) (hN b) = b.take 20 := by
  have hd : ∀ k, Byt (b.drop k) := fun k => hb.drop k
  have l8 : ((b.drop 4).take 8).length = 8 := by rw [List.length_take, List.length_drop]; omega
  have l12 : ((b.drop 12).take 4).length = 4 := by rw [List.length_take, List.length_drop]; omega
  have l16 : ((b.drop 16).take 4).length = 4 := by rw [List.length_take, List.length_drop]; omega
  unfold headP hE hC hN
  rw [putB_getB 8 _ l8 ((hd 4).take 8), putB_getB 4 _ l12 ((hd 12).take 4), putB_getB 4 _ l16 ((hd 16).take 4), ← h4]
  have e1 : b.take 12 = b.take 4 ++ (b.drop 4).take 8 := by rw [← List.take_add]
  have e2 : b.take 16 = b.take 12 ++ (b.drop 12).take 4 := by rw [← List.take_add]
  have e3 : b.take 20 = b.take 16 ++ (b.drop 16).take 4 := by rw [← List.take_add]
  rw [e3, e2, e1]
/-- A header of which one byte is another one is none. -/
theorem look_turn {b : Bs} {h : Nat} {x : Nat × Nat × Nat} {i : Nat} {y : Int} (hb : Byt b) (hl : b.length = 64) (hx : lookH b h = some (some x)) (hi : i < 24) (hy : 0 ≤ y ∧ y < 256) (hne : b[i]? ≠ some y) : lookH (b.set i y) h = none := by
  have hb' : Byt (b.set i y) := fun z hz => by
    rcases List.mem_or_eq_of_mem_set hz with hz | rfl
    · exact hb z hz
    · exact hy
  have h24 : b.take 24 = head24 (hE b) (hC b) (hN b) := by
    unfold lookH at hx
    split at hx
    · cases hx
    · split at hx
      · rename_i hh; exact hh.1
      · cases hx
  have h4 : b.take 4 = headW := by
    have := congrArg (fun l : Bs => l.take 4) h24
    simp only [List.take_take] at this
    rw [show min 4 24 = 4 from rfl] at this
    rw [this, head24, headP]
    rfl
  have hP := head_bytes hb (by omega) h4
  have h20 : (b.drop 20).take 4 = putB (S (b.take 20)) 4 := by
    have h1 := congrArg (fun l : Bs => l.drop 20) h24
    simp only [head24, List.drop_take] at h1
    rw [List.drop_left' (headP_length _ _ _), hP] at h1
    exact h1
  have hl' : (b.set i y).length = 64 := by rw [List.length_set, hl]
  have nz : (b.set i y).all (fun x => x == 0) = false := by
    have h0 : b[0]? = some 104 := by
      have := congrArg (fun l : Bs => l[0]?) h4
      simp only [List.getElem?_take] at this
      simpa [headW] using this
    have h1 : b[1]? = some 101 := by
      have := congrArg (fun l : Bs => l[1]?) h4
      simp only [List.getElem?_take] at this
      simpa [headW] using this
    rw [List.all_eq_false]
    by_cases hi0 : i = 0
    · refine ⟨101, List.mem_of_getElem? (i := 1) ?_, by decide⟩
      rw [List.getElem?_set, if_neg (by omega), h1]
    · refine ⟨104, List.mem_of_getElem? (i := 0) ?_, by decide⟩
      rw [List.getElem?_set, if_neg (by omega), h0]
  rw [lookH, nz]
  simp only [Bool.false_eq_true, if_false]
  refine if_neg fun hk => ?_
  have k24 := hk.1
  have k4 : (b.set i y).take 4 = headW := by
    have := congrArg (fun l : Bs => l.take 4) k24
    simp only [List.take_take] at this
    rw [show min 4 24 = 4 from rfl] at this
    rw [this, head24, headP]
    rfl
  have kP := head_bytes hb' (by omega) k4
  have k20 : ((b.set i y).drop 20).take 4 = putB (S ((b.set i y).take 20)) 4 := by
    have h1 := congrArg (fun l : Bs => l.drop 20) k24
    simp only [head24, List.drop_take] at h1
    rw [List.drop_left' (headP_length _ _ _), kP] at h1
    exact h1
  by_cases h20i : i < 20
  · have e20 : (b.set i y).drop 20 = b.drop 20 := List.drop_set_of_lt (by omega)
    rw [e20, h20, List.take_set] at k20
    refine S_set (l := b.take 20) (i := i) (y := y) (hb.take 20) (by rw [List.length_take]; omega) hy (by rw [List.getElem?_take, if_pos h20i]; exact hne) (by rw [List.length_take]; omega) ?_
    have a1 := S_lt (b.take 20)
    have a2 := S_lt ((b.take 20).set i y)
    exact (putB_inj (s := 4) (by omega) (by omega) k20).symm
  · have e1 : (b.set i y).take 20 = b.take 20 := List.take_set_of_le (by omega)
    rw [e1, ← h20] at k20
    have := congrArg (fun l : Bs => l[i - 20]?) k20
    simp only [List.getElem?_take, List.getElem?_drop] at this
    rw [if_pos (by omega), if_pos (by omega), show 20 + (i - 20) = i by omega, List.getElem?_set, if_pos rfl, if_pos (by omega)] at this
    exact hne this.symm
/-- The places of the records that count: of the sums, and of the payloads. -/
def plc : Nat → Bs → Nat → List Nat
  | 0, _, _ => []
  | c + 1, all, off => ((List.range (4 + getB (all.take 4))).map fun i => off + 4 + i) ++ plc c (all.drop ((8 + getB (all.take 4) + 63) / 64 * 64)) (off + (8 + getB (all.take 4) + 63) / 64 * 64)
theorem plc_ge : ∀ (c : Nat) (all : Bs) (off q : Nat), q ∈ plc c all off → off ≤ q := by
  intro c
  induction c with
  | zero => intro all off q h; cases h
  | succ c ih =>
    intro all off q h
    rw [plc] at h
    rcases List.mem_append.1 h with h | h
    · obtain ⟨i, _, rfl⟩ := List.mem_map.1 h
      omega
    · have := ih _ _ _ h
      omega
theorem readR_turn {e : Nat} {y : Int} (hy : 0 ≤ y ∧ y < 256) : ∀ (c k : Nat) (all : Bs) (L L1 : List (Bs × Bs)) (off q : Nat), Byt all → all.length < 1000000000 → all.length % 64 = 0 → readR e c k all L = some L1 → q ∈ plc c all off → all[q - off]? ≠ some y → readR e c k (all.set (q - off) y) L = none := by
  intro c
  induction c with
  | zero => intro k all L L1 off q _ _ _ _ h; cases h
  | succ c ih =>
    intro k all L L1 off q hb hlen hm h hq hne
    rw [readR] at h
    split at h
    · cases h
    · rename_i hnil
      have hpos : 64 ≤ all.length := by
        have : all.length ≠ 0 := fun h0 => hnil (List.eq_nil_of_length_eq_zero h0)
        omega
      split at h
      · cases h
      · rename_i hn
        split at h
        · rename_i hH
          obtain ⟨n, hn2⟩ : ∃ n, n = getB (all.take 4) := ⟨_, rfl⟩
          obtain ⟨j, hj⟩ : ∃ j, j = q - off := ⟨_, rfl⟩
          have hge := plc_ge _ _ _ _ hq
          rw [plc] at hq
          rw [← hj] at hne ⊢
          rw [← hn2] at h hn hH hq
          have hset_ne : (all.set j y) ≠ [] := fun h0 => by
            have := congrArg List.length h0
            rw [List.length_set] at this
            simp only [List.length_nil] at this
            omega
          have hH2 : ((all.drop 4).take 4) = putB (S (recT e (k + 1) ((all.drop 8).take n))) 4 ∧ all.take 4 = putB ((all.drop 8).take n).length 4 := by
            have h1 := congrArg (fun l : Bs => l.drop 4) hH
            have h2 := congrArg (fun l : Bs => l.take 4) hH
            simp only [List.drop_take, recH, List.take_take] at h1 h2
            rw [List.drop_left' (putB_length _ _)] at h1
            rw [List.take_left' (putB_length _ _), show min 4 8 = 4 from rfl] at h2
            exact ⟨h1.symm, h2.symm⟩
          have hpl : ((all.drop 8).take n).length = n := by rw [List.length_take, List.length_drop]; omega
          rcases List.mem_append.1 hq with hq | hq
          · -- in this record
            obtain ⟨i, hi, hqi⟩ := List.mem_map.1 hq
            have hi2 := List.mem_range.1 hi
            have hji : j = 4 + i := by omega
            have t4 : (all.set j y).take 4 = all.take 4 := List.take_set_of_le (by omega)
            rw [readR, if_neg hset_ne, t4, ← hn2, if_neg (by rw [List.length_set]; omega)]
            refine if_neg fun hH' => ?_
            have k1 : (((all.set j y).drop 4).take 4) = putB (S (recT e (k + 1) (((all.set j y).drop 8).take n))) 4 := by
              have h1 := congrArg (fun l : Bs => l.drop 4) hH'
              simp only [List.drop_take, recH] at h1
              rw [List.drop_left' (putB_length _ _)] at h1
              exact h1.symm
            by_cases h8 : j < 8
            · rw [show (all.set j y).drop 8 = all.drop 8 from List.drop_set_of_lt (by omega), ← hH2.1] at k1
              have := congrArg (fun l : Bs => l[j - 4]?) k1
              simp only [List.getElem?_take, List.getElem?_drop] at this
              rw [if_pos (by omega), if_pos (by omega), show 4 + (j - 4) = j by omega, List.getElem?_set, if_pos rfl, if_pos (by omega)] at this
              exact hne this.symm
            · have e1 : ((all.set j y).drop 4).take 4 = (all.drop 4).take 4 := by
                rw [List.drop_set, if_neg (by omega)]
                exact List.take_set_of_le (by omega)
              have e2 : ((all.set j y).drop 8).take n = ((all.drop 8).take n).set (j - 8) y := by
                rw [List.drop_set, if_neg (by omega), List.take_set]
              rw [e1, hH2.1, e2] at k1
              have hT : recT e (k + 1) (((all.drop 8).take n).set (j - 8) y) = (recT e (k + 1) ((all.drop 8).take n)).set (16 + (j - 8)) y := by
                unfold recT
                rw [List.length_set, List.set_append_right _ _ (by simp only [List.length_append, putB_length]; omega)]
                congr 2
                simp only [List.length_append, putB_length]
                omega
              have hTl : (recT e (k + 1) ((all.drop 8).take n)).length = 16 + n := by
                unfold recT
                simp only [List.length_append, putB_length, hpl]
              have hTb : Byt (recT e (k + 1) ((all.drop 8).take n)) := (((byt_putB _ _).append (byt_putB _ _)).append (byt_putB _ _)).append ((hb.drop 8).take n)
              refine S_set hTb (i := 16 + (j - 8)) (y := y) (by omega) hy ?_ (by omega) ?_
              · unfold recT
                rw [List.getElem?_append_right (by simp only [List.length_append, putB_length]; omega)]
                simp only [List.length_append, putB_length]
                rw [show 16 + (j - 8) - (8 + 4 + 4) = j - 8 by omega, List.getElem?_take, if_pos (by omega), List.getElem?_drop, show 8 + (j - 8) = j by omega]
                exact hne
              · rw [hT] at k1
                have a1 := S_lt (recT e (k + 1) ((all.drop 8).take n))
                have a2 := S_lt ((recT e (k + 1) ((all.drop 8).take n)).set (16 + (j - 8)) y)
                exact (putB_inj (s := 4) (by omega) (by omega) k1).symm
          · -- behind it
            have hge2 := plc_ge _ _ _ _ hq
            obtain ⟨z, hz⟩ : ∃ z, z = (8 + n + 63) / 64 * 64 := ⟨_, rfl⟩
            rw [← hz] at h hq hge2
            have hjz : z ≤ j := by omega
            have t4 : (all.set j y).take 4 = all.take 4 := List.take_set_of_le (by omega)
            have t8 : (all.set j y).take 8 = all.take 8 := List.take_set_of_le (by omega)
            have d8 : ((all.set j y).drop 8).take n = (all.drop 8).take n := by
              rw [List.drop_set, if_neg (by omega)]
              exact List.take_set_of_le (by omega)
            have dz : (all.set j y).drop z = (all.drop z).set (q - (off + z)) y := by
              rw [List.drop_set, if_neg (by omega)]
              congr 1
              omega
            rw [readR, if_neg hset_ne, t4, ← hn2, if_neg (by rw [List.length_set]; omega), d8, t8, if_pos hH]
            cases hp : rdPay ((all.drop 8).take n) with
            | none => rfl
            | some l =>
              rw [hp] at h
              simp only at h ⊢
              split at h
              · cases h
              · rename_i h64
                rw [if_neg h64, ← hz, dz]
                exact ih _ _ _ _ _ _ (hb.drop z) (by rw [List.length_drop]; omega) (by rw [List.length_drop]; omega) h hq (by rw [List.getElem?_drop, show z + (q - (off + z)) = j by omega]; exact hne)
        · cases h
end Go.St
namespace Go.St
open Go.Kd Go.Dr
/-- A name and a value that may stand in a store. -/
structure EntOk (x : Bs × Bs) : Prop where
  n1 : 1 ≤ x.1.length
  n2 : x.1.length ≤ 32
  v : x.2.length ≤ 4000
  nb : Byt x.1
  vb : Byt x.2
structure ChgB (c : Chg) : Prop where
  ok : ChgOk c
  nb : Byt c.name
  vb : Byt c.val
theorem takeP_byt : ∀ (n : Nat) (b : Bs) (ps : List Bs) (r : Bs), Byt b → takeP n b = some (ps, r) → (∀ p ∈ ps, Byt p) ∧ Byt r := by
  intro n
  induction n with
  | zero => intro b ps r hb h; rw [takeP] at h; cases h; exact ⟨by simp, hb⟩
  | succ n ih =>
    intro b ps r hb h
    match b, hb, h with
    | [], _, h => cases h
    | [_], _, h => cases h
    | a :: c :: b, hb, h =>
      have hb' : Byt b := fun x hx => hb x (by simp [hx])
      rw [takeP] at h
      split at h
      · cases h
      · cases hq : takeP n (b.drop (a.toNat * 256 + c.toNat)) with
        | none => rw [hq] at h; cases h
        | some q =>
          obtain ⟨l, r2⟩ := q
          rw [hq] at h
          simp only [Option.map_some, Option.some.injEq, Prod.mk.injEq] at h
          obtain ⟨rfl, rfl⟩ := h
          obtain ⟨h1, h2⟩ := ih _ _ _ (hb'.drop _) hq
          refine ⟨fun p hp => ?_, h2⟩
          rcases List.mem_cons.1 hp with rfl | hp
          · exact hb'.take _
          · exact h1 p hp
theorem splitB_byt {b : Bs} {ps : List Bs} (hb : Byt b) (h : splitB b = some ps) : ∀ p ∈ ps, Byt p := by
  match b, hb, h with
  | [], _, h => cases h
  | k :: b, hb, h =>
    rw [splitB] at h
    split at h
    · cases h
    · cases hq : takeP k.toNat b with
      | none => rw [hq] at h; cases h
      | some q =>
        obtain ⟨l, r⟩ := q
        rw [hq] at h
        cases r with
        | cons x r => cases h
        | nil =>
          simp only [finP, List.nil_append, Option.some.injEq] at h
          subst h
          exact (takeP_byt _ _ _ _ (fun x hx => hb x (by simp [hx])) hq).1
theorem rdChg_ok {b : Bs} {c : Chg} (hb : Byt b) (h : rdChg b = some c) : ChgB c := by
  unfold rdChg at h
  split at h
  · rename_i n hs
    have hp := splitB_byt hb hs
    split at h
    · rename_i hn
      cases h
      exact ⟨⟨hn.1, hn.2, by simp, fun _ => rfl⟩, hp n (by simp), fun x hx => by cases hx⟩
    · cases h
  · rename_i n v hs
    have hp := splitB_byt hb hs
    split at h
    · rename_i hn
      cases h
      exact ⟨⟨hn.1, hn.2.1, hn.2.2, fun h => by cases h⟩, hp n (by simp), hp v (by simp)⟩
    · cases h
  · cases h
theorem rdChgs_ok : ∀ {bs : List Bs} {l : List Chg}, (∀ b ∈ bs, Byt b) → rdChgs bs = some l → l.length = bs.length ∧ ∀ c ∈ l, ChgB c := by
  intro bs
  induction bs with
  | nil => intro l _ h; cases h; exact ⟨rfl, by simp⟩
  | cons b bs ih =>
    intro l hb h
    rw [rdChgs] at h
    cases hc : rdChg b with
    | none => rw [hc] at h; cases h
    | some c =>
      rw [hc] at h
      cases hl : rdChgs bs with
      | none => rw [hl] at h; cases h
      | some l2 =>
        rw [hl] at h
        cases h
        obtain ⟨h1, h2⟩ := ih (fun x hx => hb x (by simp [hx])) hl
        refine ⟨by simp [h1], fun x hx => ?_⟩
        rcases List.mem_cons.1 hx with rfl | hx
        · exact rdChg_ok (hb b (by simp)) hc
        · exact h2 x hx
theorem rdPay_ok {b : Bs} {l : List Chg} (hb : Byt b) (h : rdPay b = some l) : ∀ c ∈ l, ChgB c := by
  unfold rdPay at h
  cases hs : splitB b with
  | none => rw [hs] at h; cases h
  | some ps =>
    rw [hs] at h
    exact (rdChgs_ok (splitB_byt hb hs) h).2
theorem ent_putL {n v : Bs} {L : List (Bs × Bs)} (h : ∀ x ∈ L, EntOk x) (hc : EntOk (n, v)) : ∀ x ∈ putL n v L, EntOk x := fun x hx => by
  rcases mem_putL hx with rfl | hx
  · exact hc
  · exact h x hx
theorem ent_delL {n : Bs} {L : List (Bs × Bs)} (h : ∀ x ∈ L, EntOk x) : ∀ x ∈ delL n L, EntOk x := fun x hx => h x (List.mem_filter.1 hx).1
theorem ent_allC : ∀ {l : List Chg} {L : List (Bs × Bs)}, (∀ x ∈ L, EntOk x) → (∀ c ∈ l, ChgB c) → ∀ x ∈ allC L l, EntOk x := by
  intro l
  induction l with
  | nil => intro L h _; exact h
  | cons c l ih =>
    intro L h hl
    have hc := hl c (by simp)
    refine ih (L := doC L c) ?_ fun x hx => hl x (by simp [hx])
    unfold doC
    split
    · exact ent_delL h
    · exact ent_putL h ⟨hc.ok.n1, hc.ok.n2, hc.ok.v, hc.nb, hc.vb⟩
theorem readR_ok {e : Nat} : ∀ (c k : Nat) (all : Bs) (L L1 : List (Bs × Bs)), Byt all → all.length % 64 = 0 → Sorted L → (∀ x ∈ L, EntOk x) → L.length ≤ 64 → readR e c k all L = some L1 → Sorted L1 ∧ (∀ x ∈ L1, EntOk x) ∧ L1.length ≤ 64 ∧ 64 * c ≤ all.length := by
  intro c
  induction c with
  | zero =>
    intro k all L L1 _ _ hs he hl h
    rw [readR] at h
    split at h
    · cases h; exact ⟨hs, he, hl, by omega⟩
    · cases h
  | succ c ih =>
    intro k all L L1 hb hm hs he hl h
    rw [readR] at h
    split at h
    · cases h
    · rename_i hnil
      have hpos : 64 ≤ all.length := by
        have : all.length ≠ 0 := fun h0 => hnil (List.eq_nil_of_length_eq_zero h0)
        omega
      split at h
      · cases h
      · split at h
        · split at h
          · cases h
          · rename_i l hp
            split at h
            · cases h
            · rename_i h64
              have hch := rdPay_ok ((hb.drop 8).take _) hp
              obtain ⟨h1, h2, h3, h4⟩ := ih _ _ _ _ (hb.drop _) (by rw [List.length_drop]; omega) (sorted_allC hs) (ent_allC he hch) (by omega) h
              rw [List.length_drop] at h4
              exact ⟨h1, h2, h3, by omega⟩
        · cases h
/-- What a store says is in order. -/
structure SPB (n : Nat) (sp : SP) : Prop where
  half : sp.half ≤ 1
  e64 : sp.epoch < 18446744073709551616
  f1 : 1 ≤ sp.fin
  f2 : sp.fin ≤ n / 2
  cnt : sp.count < sp.fin
  srt : Sorted sp.L
  ent : ∀ x ∈ sp.L, EntOk x
  len : sp.L.length ≤ 64
theorem Byt.seg {l : Bs} (h : Byt l) (a n : Nat) : Byt (seg l a n) := (h.drop a).take n
theorem look_ok {b : Bs} {h : Nat} {x : Nat × Nat × Nat} (hb : Byt b) (hl : b.length = 64) (hx : lookH b h = some (some x)) : x.1 < 18446744073709551616 ∧ x.2.1 < 4294967296 ∧ 1 ≤ x.2.2 ∧ x.2.2 ≤ h := by
  unfold lookH at hx
  split at hx
  · cases hx
  · split at hx
    · rename_i hh
      cases hx
      refine ⟨?_, ?_, hh.2.1, hh.2.2⟩
      · have := getB_lt' 8 ((b.drop 4).take 8) (by rw [List.length_take, List.length_drop]; omega) ((hb.drop 4).take 8)
        exact this
      · have := getB_lt' 4 ((b.drop 12).take 4) (by rw [List.length_take, List.length_drop]; omega) ((hb.drop 12).take 4)
        exact this
    · cases hx
theorem readH_ok {m : DM} {half : Nat} {x : Nat × Nat × Nat} {sp : SP} (ok : m.Ok) (hb : Byt m.seen) (hh : half ≤ 1) (hx : x.1 < 18446744073709551616 ∧ x.2.1 < 4294967296 ∧ 1 ≤ x.2.2 ∧ x.2.2 ≤ m.n / 2) (h : (readH m half x).2.1 = some sp) : SPB m.n sp ∧ sp.broken = false ∧ (readH m half x).1 = 0 ∧ (readH m half x).2.2 = m := by
  unfold readH at h ⊢
  split at h
  · rename_i L hr
    simp only [Option.some.injEq] at h
    subst h
    have hal : half * (m.n / 2) + m.n / 2 ≤ m.n := by rcases half_cases hh with h | h <;> rw [h] <;> simp <;> omega
    have hsl := ok.sl
    have hlen : (recsM m half x.2.2).length = (x.2.2 - 1) * 64 := by
      rw [recsM, List.length_take, List.length_drop, hsl]
      omega
    have hbr : Byt (recsM m half x.2.2) := hb.seg _ _
    obtain ⟨h1, h2, h3, h4⟩ := readR_ok _ _ _ _ _ hbr (by rw [hlen]; omega) List.Pairwise.nil (by simp) (by simp) hr
    rw [hlen] at h4
    exact ⟨⟨hh, hx.1, hx.2.2.1, hx.2.2.2, by show x.2.1 < x.2.2; omega, h1, h2, h3⟩, rfl, rfl, rfl⟩
  · cases h
theorem blockOf_byt {l : Bs} (h : Byt l) (k : Nat) : Byt (blockOf l k) := (h.take _).drop _
theorem blockOf_len {m : DM} (ok : m.Ok) {k : Nat} (hk : k < m.n) : (blockOf m.seen k).length = 64 := by
  have := ok.sl
  rw [blockOf, List.length_drop, List.length_take]
  omega
/-- Whatever disk is opened. -/
theorem open_ok {m : DM} {sp : SP} (ok : m.Ok) (hb : Byt m.seen) (h : (openM m).2.1 = some sp) : SPB m.n sp ∧ sp.broken = false ∧ (openM m).1 = 0 := by
  unfold openM at h ⊢
  split at h
  · cases h
  · rename_i n4
    rw [if_neg n4]
    split at h
    · cases h
    · rename_i hdead
      rw [if_neg hdead]
      have l0 := blockOf_len ok (k := 0) (by omega)
      have l1 := blockOf_len ok (k := m.n / 2) (by omega)
      split at h
      · rename_i h0 h1
        split at h
        · rename_i hp
          rw [if_pos hp]
          simp only [Option.some.injEq] at h
          subst h
          exact ⟨⟨by decide, by decide, by decide, by show 1 ≤ m.n / 2; omega, by decide, List.Pairwise.nil, by simp, by simp⟩, rfl, rfl⟩
        · cases h
      · rename_i x y h0 h1
        have hx := look_ok (blockOf_byt hb 0) l0 h0
        have hy := look_ok (blockOf_byt hb _) l1 h1
        split at h
        · cases h
        · rename_i hne
          rw [if_neg hne]
          split at h
          · rename_i hlt
            rw [if_pos hlt]
            obtain ⟨a, b, c, d⟩ := readH_ok ok hb (Nat.le_refl 1) hy h
            exact ⟨a, b, c⟩
          · rename_i hlt
            rw [if_neg hlt]
            obtain ⟨a, b, c, d⟩ := readH_ok ok hb (by omega) hx h
            exact ⟨a, b, c⟩
      · rename_i y h0 h1
        have hy := look_ok (blockOf_byt hb _) l1 h1
        obtain ⟨a, b, c, d⟩ := readH_ok ok hb (Nat.le_refl 1) hy h
        exact ⟨a, b, c⟩
      · rename_i x h0 h1
        have hx := look_ok (blockOf_byt hb 0) l0 h0
        obtain ⟨a, b, c, d⟩ := readH_ok ok hb (by omega) hx h
        exact ⟨a, b, c⟩
      · cases h
end Go.St
namespace Go.Proofs.Ytombhkekocbfoaa
open Go.RowKit Go.Dr Go.Kd Go.St
section
variable {w : World}
set_option maxRecDepth 100000 in
set_option maxHeartbeats 2000000 in
theorem put8_b {n s : Nat} (h1 : 1 ≤ s) (h8 : s = 8) :
    Calls Try.prog 67 #[.int .u64 n, .int .i64 s] w fun e w' => ∃ b, e = .returned (.tuple #[.slice (some ⟨b, 0, none⟩) s s, .bool true]) ∧ w'.blk b = some (.cells (ints .u8 (putB n s)) 5) ∧ w.heap.size ≤ b ∧ Fr [] w w' := by
  have d1 : decide ((s : Int) < 1) = false := by rw [decide_eq_false_iff_not]; omega
  have d2 : decide ((s : Int) > 8) = false := by rw [decide_eq_false_iff_not]; omega
  have d3 : decide ((s : Int) < 8) = false := by rw [decide_eq_false_iff_not]; omega
  have m0 : (0 : Int) ≤ s := by omega
  have m1 : (s : Int) ≤ 281474976710656 := by omega
  have m8 : s ≤ 8 := by omega
  clear h8
  go_enter Try.func67, Try.ntmps67
  go_wp2_with fail
  refine OwB.named (Q := fun X => Code.wp _ _ _ _ X) (show OwB w [(w.heap.size, .cells (ints .u8 (rowP n s 0)) 5)] _ from (by rw [rowP_zero]; exact (OwB.start w).allocN (.cells (ints .u8 (zs s)) 5) w.heap.size rfl)) ?_
  intro V hV
  obtain ⟨b, hb⟩ : ∃ b, b = w.heap.size := ⟨_, rfl⟩
  rw [← hb] at hV ⊢
  have HB := Lib.hid hb
  clear hb
  go_loopw [29] (fun iv wy => ∃ i : Nat, i ≤ s ∧ iv = .int .i64 (i : Int) ∧ Hid (OwB w [(b, .cells (ints .u8 (rowP n s i)) 5)] wy)) (fun iv _ => (s - intOf iv).toNat)
  case atStart => exact ⟨0, by omega, rfl, Lib.hid hV⟩
  case round =>
    clear hV
    obtain ⟨i, hi9, rfl, hO⟩ := hrel
    have f0 := hO.out.nth 0 rfl
    have t0 := hO.out.lt 0 rfl
    obtain ⟨U, hU⟩ : ∃ U, U = rowP n s i := ⟨_, rfl⟩
    have lU : U.length = s := by rw [hU, length_rowP]
    rw [← hU] at f0
    have HU := Lib.hid hU
    clear hU
    by_cases hlt : i < s
    · have hd : decide ((i : Int) < (s : Int)) = true := by rw [decide_eq_true_eq]; omega
      have w2 : IntKind.i64.wrap ((s : Int) - 1) = s - 1 := by rw [IntKind.wrap_i64]; omega
      have w3 : IntKind.i64.wrap ((s : Int) - 1 - i) = ((s - 1 - i : Nat) : Int) := by rw [IntKind.wrap_i64]; omega
      have w4 : IntKind.i64.wrap (8 * (i : Int)) = 8 * i := by rw [IntKind.wrap_i64]; omega
      have hj : s - 1 - i < s := by omega
      obtain ⟨j, hj2⟩ : ∃ j, j = s - 1 - i := ⟨_, rfl⟩
      rw [← hj2] at w3 hj
      have HJ := Lib.hid hj2
      clear hj2
      go_wp2
      go_roundw
      case rel =>
        refine ⟨i + 1, by omega, by simp, Lib.hid ?_⟩
        have hn2 := hO.out.set 0 (.cells (ints .u8 (rowP n s (i + 1))) 5) rfl
        have ev : U.set j ((n : Int) / 2 ^ (8 * i) % 256) = rowP n s (i + 1) := by
          rw [HU.out, HJ.out, ← rowP_succ hlt, show ((n : Int) / 2 ^ (8 * i) % 256) = ((n / 256 ^ i % 256 : Nat) : Int) from by rw [← pow_256]; norm_cast]
        rw [ev]
        exact hn2
      case measure => simp [intOf]; omega
    · obtain rfl : i = s := by omega
      have hd : decide ((i : Int) < (i : Int)) = false := by simp
      go_wp2
      refine bodyPost_ret (results_tmp2 rfl _ _ _) rfl ⟨b, rfl, ?_, by rw [HB.out]; exact Nat.le_refl _, hO.out.fr⟩
      rw [HU.out, rowP_full] at f0
      exact f0
set_option maxRecDepth 100000 in
set_option maxHeartbeats 2000000 in
theorem num_b {n s : Nat} (h : s = 8 ∨ (s = 4 ∧ n < 4294967296)) :
    Calls Try.prog 54 #[.int .u64 n, .int .i64 s] w fun e w' => ∃ b, e = .returned (.slice (some ⟨b, 0, none⟩) s s) ∧ w'.blk b = some (.cells (ints .u8 (putB n s)) 5) ∧ w.heap.size ≤ b ∧ Fr [] w w' := by
  have hp : Calls Try.prog 67 #[.int .u64 n, .int .i64 s] w fun e w' => ∃ b, e = .returned (.tuple #[.slice (some ⟨b, 0, none⟩) s s, .bool true]) ∧ w'.blk b = some (.cells (ints .u8 (putB n s)) 5) ∧ w.heap.size ≤ b ∧ Fr [] w w' := by
    rcases h with h | ⟨h, hn⟩
    · exact put8_b (by omega) h
    · exact put_b (by omega) (by omega) (by subst h; exact hn)
  have HP := Lib.hid hp
  clear hp h
  go_enter Try.func54, Try.ntmps54
  go_wp2_with fail
  refine HP.out.mono ?_
  rintro e w1 ⟨b, rfl, g, hl, F⟩
  have G := Lib.hid g
  have HF := Lib.hid F
  clear g F
  go_wp2_with fail
  exact bodyPost_ret (results_tmp rfl _ _ _) rfl ⟨b, rfl, G.out, hl, HF.out⟩
theorem take_flat_succ {ls : List Bs} {k : Nat} {l : Bs} (h : ls[k]? = some l) : (ls.take (k + 1)).flatten = (ls.take k).flatten ++ l := by
  rw [List.take_add_one, h]
  simp
theorem flat_le : ∀ (ls : List Bs) (k : Nat) (l : Bs), ls[k]? = some l → (ls.take k).flatten.length + l.length ≤ ls.flatten.length := by
  intro ls k l h
  have h1 := congrArg List.length (take_flat_succ h)
  have h2 : ls.flatten = (ls.take (k + 1)).flatten ++ (ls.drop (k + 1)).flatten := by
    rw [← List.flatten_append, List.take_append_drop]
  have h3 := congrArg List.length h2
  rw [List.length_append] at h1 h3
  omega
set_option maxRecDepth 100000 in
set_option maxHeartbeats 2000000 in
theorem total_f {p : Option Addr} {n cap : Nat} {ls : List Bs} (T : Sll w p n cap ls) (hb : ∀ l ∈ ls, isBytes l) (hl : ls.flatten.length ≤ 1000000000) (hn : n ≤ 1000000000) :
    Calls Try.prog 55 #[.slice p n cap] w fun e w' => e = .returned (.int .u64 (Go.St.S ls.flatten : Nat)) ∧ Fr [] w w' := by
  have HS := Lib.hid T
  have HN := Lib.hid T.len
  have HB := Lib.hid hb
  have HLL := Lib.hid hl
  clear T hb hl
  go_enter Try.func55, Try.ntmps55
  go_wp2_with fail
  go_loopw [3, 4, 11] (fun sv iv kv wy => ∃ k : Nat, k ≤ n ∧ kv = .int .i64 (k : Int) ∧ iv = .int .u64 ((ls.take k).flatten.length : Nat) ∧ sv = .int .u64 (Go.St.S (ls.take k).flatten : Nat) ∧ wy = w) (fun _ _ kv _ => (n - intOf kv).toNat)
  case atStart => exact ⟨0, by omega, rfl, rfl, rfl, rfl⟩
  case round =>
    obtain ⟨k, hk, rfl, rfl, rfl, rfl⟩ := hrel
    by_cases hlt : k < n
    · have hd : decide ((k : Int) < (n : Int)) = true := by rw [decide_eq_true_eq]; omega
      obtain ⟨b, off, cs, TT, fr, q2, m2, c2, l2, rfl, f00, hs, hc, hl2, S2⟩ := HS.out.at hlt
      have hc2 := (Array.getElem?_eq_some_iff.1 hc).2
      have hby := HB.out l2 (List.mem_of_getElem? hl2)
      have hfl := flat_le ls k l2 hl2
      have htf := take_flat_succ hl2
      have hm2 := S2.len
      obtain ⟨A, hA⟩ : ∃ A, A = (ls.take k).flatten := ⟨_, rfl⟩
      rw [← hA] at hfl htf ⊢
      have t0 := World.at_lt f00
      have hAl : A.length + m2 ≤ 1000000000 := by have := HLL.out; omega
      have HTF := Lib.hid htf
      have HS2 := Lib.hid S2
      have HBY := Lib.hid hby
      have HM2 := Lib.hid hm2
      have wk : IntKind.i64.wrap ((k : Int) + 1) = ((k + 1 : Nat) : Int) := by rw [IntKind.wrap_i64]; omega
      have hkk : k + 1 ≤ n := hlt
      clear hA hfl htf S2 hby hm2 hl2
      go_wp2_with fail
      go_loopw [3, 4, 17] (fun sv iv jv wy => ∃ j : Nat, j ≤ m2 ∧ jv = .int .i64 (j : Int) ∧ iv = .int .u64 ((A ++ l2.take j).length : Nat) ∧ sv = .int .u64 (Go.St.S (A ++ l2.take j) : Nat) ∧ wy = wr) (fun _ _ jv _ => (m2 - intOf jv).toNat)
      case atStart => exact ⟨0, by omega, rfl, by simp, by simp, rfl⟩
      case round =>
        obtain ⟨j, hj, rfl, rfl, rfl, rfl⟩ := hrel
        by_cases hlt2 : j < m2
        · have hd2 : decide ((j : Int) < (m2 : Int)) = true := by rw [decide_eq_true_eq]; omega
          obtain ⟨bb, off2, cs2, T2, fr2, rfl, fc2, hs2, hx2⟩ := HS2.out.out (by omega)
          have hcell : cs2[off2 + j]? = some (.int .u8 (el l2 j)) := by
            have := congrArg (fun l : List Value => l[j]?) hx2
            have hlen := HM2.out
            simp only [Array.getElem?_toList, List.getElem?_map] at this
            rw [Array.getElem?_extract_of_lt (by omega), ← Array.getElem?_eq_getElem] at this
            rw [this, List.getElem?_eq_getElem (by omega), el, List.getD_eq_getElem?_getD, List.getElem?_eq_getElem (by omega)]
            rfl
          have hel := el_byte HBY.out (i := j) (by rw [HM2.out]; exact hlt2)
          obtain ⟨y, hy⟩ : ∃ y : Nat, el l2 j = (y : Int) := ⟨(el l2 j).toNat, by omega⟩
          have hy256 : y < 256 := by omega
          have hsn : l2.take (j + 1) = l2.take j ++ [(y : Int)] := by rw [take_el (by rw [HM2.out]; exact hlt2), hy]
          rw [hy] at hcell
          replace hcell := (Array.getElem?_eq_some_iff.1 hcell).2
          obtain ⟨X, hX⟩ : ∃ X, X = A ++ l2.take j := ⟨_, rfl⟩
          have hXl : X.length = A.length + j := by rw [hX, List.length_append, List.length_take, HM2.out]; omega
          have hnew : A ++ l2.take (j + 1) = X ++ [(y : Int)] := by rw [hsn, ← List.append_assoc, hX]
          rw [← hX]
          have HNEW := Lib.hid hnew
          have hSl := Go.St.S_lt X
          obtain ⟨s0, hs0⟩ : ∃ s0, s0 = Go.St.S X := ⟨_, rfl⟩
          rw [← hs0] at hSl ⊢
          obtain ⟨i0, hi0⟩ : ∃ i0, i0 = X.length := ⟨_, rfl⟩
          rw [← hi0] at hXl ⊢
          have hi0l : i0 ≤ 1000000000 := by omega
          have HXL := Lib.hid hXl
          have HS0 := Lib.hid hs0
          have HI0 := Lib.hid hi0
          have hmul : (i0 + 1) * y ≤ 1000000001 * 255 := Nat.mul_le_mul (by omega) (by omega)
          obtain ⟨z, hz⟩ : ∃ z, z = (i0 + 1) * y := ⟨_, rfl⟩
          rw [← hz] at hmul
          have w1 : IntKind.u64.wrap ((i0 : Int) + 1) = ((i0 + 1 : Nat) : Int) := by rw [IntKind.wrap_u64]; omega
          have w2 : IntKind.u64.wrap (y : Int) = (y : Int) := by rw [IntKind.wrap_u64]; omega
          have w3 : IntKind.u64.wrap (((i0 : Int) + 1) * (y : Int)) = (z : Int) := by
            have : ((i0 : Int) + 1) * (y : Int) = (z : Int) := by rw [hz]; norm_cast
            rw [this, IntKind.wrap_u64]; omega
          have w4 : IntKind.u64.wrap ((s0 : Int) + (z : Int)) = ((s0 + z : Nat) : Int) := by rw [IntKind.wrap_u64]; omega
          have wj : IntKind.i64.wrap ((j : Int) + 1) = ((j + 1 : Nat) : Int) := by rw [IntKind.wrap_i64]; omega
          have HZ := Lib.hid hz
          have tc2 := World.at_lt fc2
          have ic : off2 + j < cs2.size := by omega
          have w5 : ((s0 : Int) + (z : Int)).tmod 2147483647 = (((s0 + z) % 2147483647 : Nat) : Int) := by
            rw [show ((s0 : Int) + (z : Int)) = ((s0 + z : Nat) : Int) from by norm_cast]
            rfl
          have w4b : IntKind.u64.wrap ((s0 : Int) + (z : Int)) = (s0 : Int) + (z : Int) := by rw [IntKind.wrap_u64]; omega
          clear hx2 hX hnew hs0 hi0 hz hy hsn hel hXl w4
          go_wp2_with fail
          go_roundw
          case rel =>
            refine ⟨j + 1, hlt2, by first | rfl | simp, ?_, ?_, trivial⟩
            · rw [HNEW.out, List.length_append, ← HI0.out]; first | rfl | simp
            · rw [HNEW.out, Go.St.S_snoc, ← HI0.out, ← HS0.out, Int.toNat_natCast, ← HZ.out]
              first | rfl | simp
          case measure => simp [intOf]; omega
        · obtain rfl : j = m2 := by omega
          have hd2 : decide ((j : Int) < (j : Int)) = false := by simp
          have htk : l2.take j = l2 := List.take_of_length_le (by rw [HM2.out]; exact Nat.le_refl _)
          rw [htk, ← HTF.out]
          clear htk
          go_wp2_with fail
          go_roundw
          case rel => exact ⟨k + 1, hkk, by first | rfl | simp, rfl, rfl, trivial⟩
          case measure => simp [intOf]; omega
    · obtain rfl : k = n := by omega
      have hd : decide ((k : Int) < (k : Int)) = false := by simp
      have htk : ls.take k = ls := List.take_of_length_le (by rw [HN.out]; exact Nat.le_refl _)
      rw [htk]
      have HF := Lib.hid (Fr.refl [] wr)
      clear htk
      go_wp2_with fail
      exact bodyPost_ret (results_tmp rfl _ _ _) rfl ⟨rfl, HF.out⟩
end
end Go.Proofs.Ytombhkekocbfoaa
namespace Go
open Go.Dr Go.Kd

/-! ### A world without memory -/
def World.void (w : World) : World := { w with heap := #[] }
theorem World.void_fr (w : World) : Fr [] w.void w := ⟨rfl, rfl, rfl, Nat.zero_le _, fun k hk _ => by simp [World.void] at hk⟩
theorem World.void_size (w : World) : w.void.heap.size = 0 := rfl
/-- Blocks that are held, new or old. -/
theorem OwB.hold (w : World) : OwB w.void [] w := ⟨.nil _, List.nodup_nil, (fun p hp => by cases hp), w.void_fr⟩
theorem OwB.weak {w0 w1 w : World} {L : List (Nat × Obj)} (h : OwB w0 L w) (h1 : Fr [] w1 w) (hs : w1.heap.size ≤ w0.heap.size) : OwB w1 L w := ⟨h.has, h.nd, fun p hp => Nat.le_trans hs (h.lo p hp), h1⟩

/-! ### What a call that makes terms leaves alone -/
/-- The types of a table, of its list's cells, of bytes, of slices of bytes. -/
structure TTy where
  tT : Nat
  lT : Nat
  bT : Nat
  sT : Nat
  h1 : bT ≠ tT
  h2 : bT ≠ lT
  h3 : sT ≠ tT
  h4 : sT ≠ lT
  /-- May maps turn? -/
  mp : Bool
/-- A table doesn't consist of it. -/
def other (t : TTy) : Obj → Prop
  | .cells _ T _ => T ≠ t.tT ∧ T ≠ t.lT
  | .map .. => t.mp = false
  | _ => True
structure FrT (t : TTy) (lo : Nat) (w w' : World) : Prop where
  os : w'.os = w.os
  tape : w'.tape = w.tape
  output : w'.output = w.output
  size : w.heap.size ≤ w'.heap.size
  at_ : ∀ k o, w.blk k = some o → (k < lo ∨ other t o) → w'.blk k = some o
/-- Bytes, and slices of them, stay. -/
def Stay (t : TTy) (w w' : World) : Prop := ∀ k cs T fr, w.blk k = some (.cells cs T fr) → (T = t.bT ∨ T = t.sT) → w'.blk k = some (.cells cs T fr)
section
variable {t : TTy} {lo : Nat} {w w' w1 w0 : World} {L : List (Nat × Obj)}
theorem FrT.of (F : Fr [] w w') : FrT t lo w w' := ⟨F.os, F.tape, F.output, F.size, fun k o h _ => F.get h (by simp)⟩
theorem FrT.refl (w : World) : FrT t lo w w := .of (Fr.refl _ _)
theorem FrT.trans (h : FrT t lo w w1) (k : FrT t lo w1 w') : FrT t lo w w' :=
  ⟨k.os.trans h.os, k.tape.trans h.tape, k.output.trans h.output, Nat.le_trans h.size k.size, fun i o ho hc => k.at_ i o (h.at_ i o ho hc) hc⟩
theorem FrT.get (h : FrT t lo w w') {k : Nat} {o : Obj} (ho : w.blk k = some o) (hc : k < lo ∨ other t o) : w'.blk k = some o := h.at_ k o ho hc
theorem FrT.fr (h : FrT t lo w w') (hl : w.heap.size ≤ lo) : Fr [] w w' := ⟨h.os, h.tape, h.output, h.size, fun k hk _ => by
  have e : w.blk k = some w.heap[k] := Array.getElem?_eq_getElem hk
  rw [e]; exact h.at_ k _ e (.inl (by omega))⟩
/-- Seen from an older world, all whose blocks are older than the tables. -/
theorem FrT.fr2 (h : FrT t lo w w') (F : Fr [] w0 w) (hl : w0.heap.size ≤ lo) : Fr [] w0 w' := ⟨h.os.trans F.os, h.tape.trans F.tape, h.output.trans F.output, Nat.le_trans F.size h.size, fun k hk hn => by
  have e0 := F.at_ k hk hn
  have e : w0.blk k = some w0.heap[k] := Array.getElem?_eq_getElem hk
  rw [e] at e0 ⊢
  exact h.at_ k _ e0 (.inl (by omega))⟩
/-- A write to what is new. -/
theorem FrT.put (h : FrT t lo w w') {b : Nat} (o : Obj) (hb : w.heap.size ≤ b) : FrT t lo w (w'.put b o) :=
  ⟨h.os, h.tape, h.output, by simpa using h.size, fun k o' ho hc => by
    have := World.at_lt ho
    rw [World.at_put_other _ _ _ _ (by omega)]
    exact h.at_ k o' ho hc⟩
theorem FrT.drew (h : FrT t lo w w') : FrT t lo w w'.drew := ⟨h.os, h.tape, h.output, h.size, h.at_⟩
theorem FrT.alloc (h : FrT t lo w w') (o : Obj) : FrT t lo w (w'.alloc o) := h.trans (.of ((Fr.refl [] w').alloc o))
/-- Only blocks of a table, or new ones, have turned. -/
theorem FrT.turn {fp : List Nat} (F : Fr fp w w') (h : ∀ b ∈ fp, lo ≤ b ∧ ∀ o, w.blk b = some o → ¬ other t o) : FrT t lo w w' :=
  ⟨F.os, F.tape, F.output, F.size, fun k o ho hc => F.get ho fun hm => by
    have := h k hm
    rcases hc with hc | hc
    · omega
    · exact this.2 o ho hc⟩
theorem OwB.callT (h : OwB w0 L w) (F : FrT t lo w w') (hL : ∀ q ∈ L, q.1 < lo ∨ other t q.2) (hl : w0.heap.size ≤ lo) : OwB w0 L w' :=
  ⟨fun q hq => F.get (h.has q hq) (hL q hq), h.nd, h.lo, F.fr2 h.fr hl⟩
theorem Has.after (h : Has L w) (hL : ∀ q ∈ L, q.1 < lo ∨ other t q.2) (F : FrT t lo w w') : Has L w' := fun q hq => F.get (h q hq) (hL q hq)
theorem Has.stay (h : Has L w) (hL : ∀ q ∈ L, ∃ cs T fr, q.2 = .cells cs T fr ∧ (T = t.bT ∨ T = t.sT)) (F : Stay t w w') : Has L w' := fun q hq => by
  obtain ⟨cs, T, fr, h1, h2⟩ := hL q hq
  rw [h1]
  exact F _ _ _ _ (by rw [← h1]; exact h q hq) h2
theorem Stay.refl (w : World) : Stay t w w := fun _ _ _ _ h _ => h
theorem Stay.trans (h : Stay t w w1) (k : Stay t w1 w') : Stay t w w' := fun i cs T fr h1 h2 => k i cs T fr (h i cs T fr h1 h2) h2
theorem Stay.of (F : Fr [] w w') : Stay t w w' := fun _ _ _ _ h _ => F.get h (by simp)
theorem FrT.stay (h : FrT t lo w w') : Stay t w w' := fun k cs T fr h1 h2 => h.get h1 (.inr (by
  rcases h2 with rfl | rfl
  · exact ⟨t.h1, t.h2⟩
  · exact ⟨t.h3, t.h4⟩))
theorem Stay.put {b : Nat} {cs cs' : Array Value} {T : TypeId} {fr fr' : Nat × Nat} (hb : w.blk b = some (.cells cs T fr)) (h1 : T ≠ t.bT) (h2 : T ≠ t.sT) (o : Obj) : Stay t w (w.put b o) := fun k cs2 T2 fr2 h3 h4 => by
  rw [World.at_put_other _ _ _ _ (fun e => by
    subst e
    rw [hb] at h3
    simp only [Option.some.injEq, Obj.cells.injEq] at h3
    rcases h4 with h4 | h4
    · exact h1 (h3.2.1.trans h4)
    · exact h2 (h3.2.1.trans h4))]
  exact h3
/-- What holds also behind whatever leaves bytes and slices of them. -/
def After (t : TTy) (w : World) (φ : World → Prop) : Prop := ∀ w', Stay t w w' → φ w'
theorem After.now {φ : World → Prop} (h : After t w φ) : φ w := h w (.refl w)
theorem After.step {φ : World → Prop} (h : After t w φ) (F : Stay t w w') : After t w' φ := fun w2 G => h w2 (F.trans G)
theorem BldV.svStay {e sz : Nat} {p : Option Addr} {n cap : Nat} {vs : List Value} (h : BldV w0 L e sz w p n cap vs) (he : e = t.bT ∨ e = t.sT) (F : Stay t w w') : Sv sz w' p n cap vs := by
  have hl := h.len
  rcases h.row.2 with ⟨hv, h0⟩ | ⟨g, c, cur, hv, _, hg, hnc, hcm, hcs, ht⟩
  · simp only [Value.slice.injEq] at hv
    obtain ⟨rfl, _, rfl⟩ := hv
    exact ⟨hl, by omega, .inl h0, fun _ => rfl, by simp⟩
  · simp only [Value.slice.injEq] at hv
    obtain ⟨rfl, _, rfl⟩ := hv
    refine ⟨hl, hnc, .inr ⟨g, 0, cur, e, (0, 0), rfl, F _ _ _ _ (by rw [World.blk_heap]; exact hg) he, ?_, ?_⟩, by simp, trivial⟩
    · rw [hcs, Nat.zero_add]; exact Nat.mul_le_mul_right _ hnc
    · rw [Array.toList_extract, List.extract_eq_take_drop]
      simpa using ht
theorem Bld.slStay {k : IntKind} {e : Nat} {p : Option Addr} {n cap : Nat} {l : List Int} (h : Bld w0 L k e w p n cap l) (he : e = t.bT ∨ e = t.sT) (F : Stay t w w') : Sl k w' p n cap l := by
  have hl := h.len
  rcases h.row.2 with ⟨hv, h0⟩ | ⟨g, c, cur, hv, _, hg, hnc, hcm, hcs, ht⟩
  · simp only [Value.slice.injEq] at hv
    obtain ⟨rfl, _, rfl⟩ := hv
    exact ⟨hl, by omega, .inl h0, fun _ => rfl, by simp⟩
  · simp only [Value.slice.injEq] at hv
    obtain ⟨rfl, _, rfl⟩ := hv
    refine Sl.of (F _ _ _ _ (by rw [World.blk_heap]; exact hg) he) (by rw [hcs]; omega) ?_ hnc
    rw [Array.toList_extract, List.extract_eq_take_drop]
    simpa using ht
end

/-! ### Rows that are kept among the others -/
theorem Has.of_append {A B : List (Nat × Obj)} {w : World} (h : Has (A ++ B) w) : Has A w ∧ Has B w := ⟨fun q hq => h q (by simp [hq]), fun q hq => h q (by simp [hq])⟩
section
variable {w0 w w1 : World} {L : List (Nat × Obj)} {e e' sz : Nat} {p p' : Option Addr} {n cap n' cap' : Nat} {vs : List Value} {k : IntKind} {l : List Int}
/-- A row that a callee has made joins the call's own blocks; it reads as it does as long as these stand. -/
theorem BldV.join (h : BldV w0 L e sz w p n cap vs) (B : Bld w [] k e' w1 p' n' cap' l) :
    ∃ M, BldV w0 (M ++ L) e sz w1 p n cap vs ∧ (∀ x ∈ M, ∃ cs fr, x.2 = .cells cs e' fr) ∧ ∀ w', Has M w' → Sl k w' p' n' cap' l := by
  have hl := B.len
  rcases B.row.2 with ⟨hv, h0⟩ | ⟨g, c, cur, hv, _, hg, hnc, hcm, hcs, ht⟩
  · simp only [Value.slice.injEq] at hv
    obtain ⟨rfl, _, rfl⟩ := hv
    exact ⟨[], h.call B.own.fr, by simp, fun w' _ => ⟨hl, by omega, .inl h0, fun _ => rfl, by simp⟩⟩
  · simp only [Value.slice.injEq] at hv
    obtain ⟨rfl, _, rfl⟩ := hv
    refine ⟨[(g, .cells cur e' (0, 0))], h.add B.own.fr (by rw [World.blk_heap]; exact hg) (B.new g rfl).1, fun x hx => ?_, fun w' hw' => ?_⟩
    · simp only [List.mem_singleton] at hx
      subst hx
      exact ⟨_, _, rfl⟩
    · refine Sl.of (hw'.nth 0 rfl) (by rw [hcs]; omega) ?_ hnc
      rw [Array.toList_extract, List.extract_eq_take_drop]
      simpa using ht
end

/-! ### A table's keys -/
def goodT (t : Tm) : Prop := fits t.2 = true ∧ (∀ l ∈ t.2, isBytes l) ∧ 1 ≤ t.1 ∧ t.1 ≤ 8
def keysT : List Tm → Nat → List (ByteArray × Value)
  | [], _ => []
  | t :: T, i => (strB (txt t), .int .i64 ((i + 1 : Nat) : Int)) :: keysT T (i + 1)
theorem isBytes_join {ps : List Bs} (hf : fits ps = true) (hb : ∀ l ∈ ps, isBytes l) : isBytes (joinB ps) := by
  simp only [fits, Bool.and_eq_true, decide_eq_true_eq, List.all_eq_true] at hf
  intro x hx
  simp only [joinB, List.mem_cons, List.mem_flatMap] at hx
  rcases hx with rfl | ⟨p, hp, rfl | rfl | hx⟩
  · omega
  · have := hf.2 p hp; omega
  · omega
  · exact hb p hp x hx
theorem isBytes_txt {t : Tm} (h : goodT t) : isBytes (txt t) := by
  intro x hx
  simp only [txt, List.mem_append, List.mem_singleton] at hx
  rcases hx with hx | rfl
  · exact isBytes_join h.1 h.2.1 x hx
  · have := h.2.2; omega
theorem strB_txt {t u : Tm} (ht : goodT t) (hu : goodT u) : (strB (txt t) = strB (txt u)) ↔ txt t = txt u :=
  ⟨fun h => strB_inj (isBytes_txt ht) (isBytes_txt hu) h, fun h => by rw [h]⟩
theorem findS_keysT {t : Tm} (ht : goodT t) : ∀ (T : List Tm) (i j : Nat), (∀ u ∈ T, goodT u) →
    findS (strB (txt t)) (keysT T i) j = (T.findIdx? (fun u => txt u == txt t)).map fun n => (j + n, Value.int .i64 ((i + n + 1 : Nat) : Int)) := by
  intro T
  induction T with
  | nil => intro i j _; rfl
  | cons u T ih =>
    intro i j hT
    rw [keysT, findS, List.findIdx?_cons]
    by_cases he : txt t = txt u
    · rw [if_pos (by rw [he]), show (txt u == txt t) = true by rw [he]; exact beq_self_eq_true _]
      simp
    · rw [if_neg (fun h => he ((strB_txt ht (hT u (by simp))).1 h)), show (txt u == txt t) = false by rw [beq_eq_false_iff_ne]; exact fun h => he h.symm, ih (i + 1) (j + 1) (fun v hv => hT v (by simp [hv]))]
      simp only [Bool.false_eq_true, if_false, Option.map_map]
      congr 1
      funext n
      simp only [Function.comp]
      rw [show j + 1 + n = j + (n + 1) by omega, show i + 1 + n + 1 = i + (n + 1) + 1 by omega]
theorem keysT_append (t : Tm) : ∀ (T : List Tm) (i : Nat), keysT (T ++ [t]) i = keysT T i ++ [(strB (txt t), .int .i64 ((i + T.length + 1 : Nat) : Int))] := by
  intro T
  induction T with
  | nil => intro i; rfl
  | cons u T ih =>
    intro i
    rw [List.cons_append, keysT, ih, keysT, List.cons_append, List.length_cons, show i + 1 + T.length + 1 = i + (T.length + 1) + 1 by omega]

theorem BldV.block {w0 w : World} {L : List (Nat × Obj)} {e sz : Nat} {p : Option Addr} {n cap : Nat} {vs : List Value} (h : BldV w0 L e sz w p n cap vs) {g : Nat} (hg : p.map (·.block) = some g) : ∃ cs fr, w.blk g = some (.cells cs e fr) := by
  rcases h.row.2 with ⟨hv, _⟩ | ⟨g', c, cur, hv, _, hg', _⟩
  · simp only [Value.slice.injEq] at hv
    rw [hv.1] at hg; cases hg
  · simp only [Value.slice.injEq] at hv
    rw [hv.1] at hg
    simp only [Option.map_some, Option.some.injEq] at hg
    subst hg
    exact ⟨cur, _, (World.blk_heap w g').trans hg'⟩
/-! ### A table -/
/-- The three cells of a term. -/
def Cell3 (t : TTy) (w : World) (vs : List Value) (i : Nat) (u : Tm) : Prop :=
  vs[3 * i]? = some (.int .i64 u.1) ∧ ∃ (q : Option Addr) (m c : Nat) (q2 : Option Addr) (m2 c2 : Nat), vs[3 * i + 1]? = some (.slice q m c) ∧ vs[3 * i + 2]? = some (.slice q2 m2 c2) ∧ After t w fun w' => Sll w' q m c u.2
structure Tab (t : TTy) (lo tb : Nat) (w : World) (T : List Tm) : Prop where
  ex : ∃ (w0 : World) (mb : Nat) (p : Option Addr) (cap : Nat) (vs : List Value) (es : Array MapEntry) (clock : Nat), w0.heap.size = 0 ∧
    BldV w0 [(tb, .cells #[.slice p T.length cap, .map (some mb)] t.tT), (mb, .map es clock)] t.lT 3 w p T.length cap vs ∧ lo ≤ tb ∧ lo ≤ mb ∧ (∀ g, p.map (·.block) = some g → lo ≤ g) ∧
    es.toList.map (fun e => (e.key, e.val)) = (keysT T 0).map (fun p => (Value.string p.1, p.2)) ∧ (∀ u ∈ vs, u.oneCell' = true) ∧ ∀ i u, T[i]? = some u → Cell3 t w vs i u
  good : ∀ u ∈ T, goodT u
  len : T.length ≤ 65535
theorem Tab.fr0 {t : TTy} {lo tb : Nat} {w w' : World} {T : List Tm} (h : Tab t lo tb w T) (F : Fr [] w w') : Tab t lo tb w' T := by
  obtain ⟨w0, mb, p, cap, vs, es, clock, h0, B, h1, h2, h3, h4, h5, h6⟩ := h.ex
  refine ⟨⟨w0, mb, p, cap, vs, es, clock, h0, B.call F, h1, h2, h3, h4, h5, fun i u hu => ?_⟩, h.good, h.len⟩
  obtain ⟨a, q, m, c, q2, m2, c2, b, d, e⟩ := h6 i u hu
  exact ⟨a, q, m, c, q2, m2, c2, b, d, e.step (.of F)⟩
/-- A box of the caller's own is written. -/
theorem Tab.put {t : TTy} {lo tb : Nat} {w : World} {T : List Tm} (h : Tab t lo tb w T) {b : Nat} {cs : Array Value} {T' : TypeId} {fr : Nat × Nat} (hb : w.blk b = some (.cells cs T' fr)) (h1 : T' ≠ t.bT ∧ T' ≠ t.sT ∧ T' ≠ t.tT ∧ T' ≠ t.lT) (o : Obj) : Tab t lo tb (w.put b o) T := by
  obtain ⟨w0, mb, p, cap, vs, es, clock, h0, B, k1, k2, k3, k4, k5, k6⟩ := h.ex
  have n1 : b ≠ tb := fun e => by
    have := B.own.nth 0 rfl
    rw [← e, hb] at this
    simp only [Option.some.injEq, Obj.cells.injEq] at this
    exact h1.2.2.1 this.2.1
  have n2 : b ≠ mb := fun e => by
    have := B.own.nth 1 rfl
    rw [← e, hb] at this
    simp at this
  have n3 : ∀ g, p.map (·.block) = some g → g ≠ b := fun g hg e => by
    rcases B.row.2 with ⟨hv, _⟩ | ⟨g', c, cur, hv, _, hg', _⟩
    · simp only [Value.slice.injEq] at hv
      rw [hv.1] at hg; cases hg
    · simp only [Value.slice.injEq] at hv
      rw [hv.1] at hg
      simp only [Option.map_some, Option.some.injEq] at hg
      subst hg
      subst e
      have := (World.blk_heap w g').trans hg'
      rw [hb] at this
      simp only [Option.some.injEq, Obj.cells.injEq] at this
      exact h1.2.2.2 this.2.1
  refine ⟨⟨w0, mb, p, cap, vs, es, clock, h0, ⟨⟨?_, B.own.nd, B.own.lo, ?_⟩, ?_, B.new⟩, k1, k2, k3, k4, k5, fun i u hu => ?_⟩, h.good, h.len⟩
  · exact B.own.has.put b o (fun q hq => by
      simp only [List.mem_cons, List.not_mem_nil, or_false] at hq
      rcases hq with rfl | rfl
      · exact Ne.symm n1
      · exact Ne.symm n2)
  · exact B.own.fr.put b o (fun hlt => by omega)
  · exact ((Fr.refl [b] w).put b o (by simp)).owns B.row (fun g hg hgb => by
      rw [List.mem_singleton] at hgb
      exact n3 g (by cases p with | none => cases hg | some q => simpa [Value.ownBlock] using hg) hgb)
  · obtain ⟨a, q, m, c, q2, m2, c2, d, e, f⟩ := k6 i u hu
    exact ⟨a, q, m, c, q2, m2, c2, d, e, f.step (.put (fr' := fr) (cs' := cs) hb h1.1 h1.2.1 o)⟩
theorem Tab.new {t : TTy} {tb mb : Nat} {w0 w : World} (h : OwB w0 [(tb, .cells #[.slice none 0 0, .map (some mb)] t.tT), (mb, .map #[] 0)] w) : Tab t w0.heap.size tb w [] := by
  refine ⟨⟨w.void, mb, none, 0, [], #[], 0, rfl, BldV.nil (h.weak w.void_fr (Nat.zero_le _)), h.low 0 rfl, h.low 1 rfl, (fun g hg => by cases hg), rfl, by simp, fun i t ht => by simp at ht⟩, by simp, by simp⟩
/-- Only the table's own blocks, and new ones, have turned. -/
theorem FrT.ofTab {t : TTy} {lo tb mb : Nat} {w0 w w' : World} {L : List (Nat × Obj)} {p : Option Addr} {n cap : Nat} {vs : List Value} {cs : Array Value} {es : Array MapEntry} {clock : Nat} (B : BldV w0 L t.lT 3 w p n cap vs) (ht : w.blk tb = some (.cells cs t.tT)) (hm : w.blk mb = some (.map es clock))
    (hmp : t.mp = true)
    (h1 : lo ≤ tb) (h2 : lo ≤ mb) (h3 : ∀ g, p.map (·.block) = some g → lo ≤ g) (F : Fr ((p.map (·.block)).toList ++ [tb, mb]) w w') : FrT t lo w w' := by
  refine FrT.turn F fun b hb => ?_
  simp only [List.mem_append, List.mem_cons, List.not_mem_nil, or_false, Option.mem_toList] at hb
  rcases hb with hb | rfl | rfl
  · obtain ⟨cs, fr, h⟩ := B.block hb
    refine ⟨h3 b hb, fun o ho => ?_⟩
    rw [h] at ho
    injection ho with ho
    subst ho
    exact fun hh => hh.2 rfl
  · refine ⟨h1, fun o ho => ?_⟩
    rw [ht] at ho
    injection ho with ho
    subst ho
    exact fun hh => hh.1 rfl
  · refine ⟨h2, fun o ho => ?_⟩
    rw [hm] at ho
    injection ho with ho
    subst ho
    show ¬ (t.mp = false)
    rw [hmp]
    decide
theorem Tab.mono {t : TTy} {lo lo' tb : Nat} {w : World} {T : List Tm} (h : Tab t lo tb w T) (hl : lo' ≤ lo) : Tab t lo' tb w T := by
  obtain ⟨w0, mb, p, cap, vs, es, clock, h0, B, h1, h2, h3, h4⟩ := h.ex
  exact ⟨⟨w0, mb, p, cap, vs, es, clock, h0, B, Nat.le_trans hl h1, Nat.le_trans hl h2, fun g hg => Nat.le_trans hl (h3 g hg), h4⟩, h.good, h.len⟩
theorem Tab.lower {t : TTy} {lo tb : Nat} {w : World} {T : List Tm} (h : Tab t lo tb w T) : lo ≤ tb := by
  obtain ⟨w0, mb, p, cap, vs, es, clock, h0, B, h1, _⟩ := h.ex
  exact h1
theorem Tab.lt {t : TTy} {lo tb : Nat} {w : World} {T : List Tm} (h : Tab t lo tb w T) : tb < w.heap.size := by
  obtain ⟨w0, mb, p, cap, vs, es, clock, h0, B, h1, _⟩ := h.ex
  exact B.own.lt 0 rfl
end Go
namespace Go
open Go.Dr
theorem flatMap_part {α β : Type} (f : α → List β) (m : Nat) : ∀ (xs : List α) (j : Nat) (x : α), (∀ x ∈ xs, (f x).length = m) → xs[j]? = some x → ((xs.flatMap f).drop (j * m)).take m = f x := by
  intro xs
  induction xs with
  | nil => intro j x _ h; simp at h
  | cons y xs ih =>
    intro j x hm h
    have hy := hm y (by simp)
    cases j with
    | zero =>
      simp only [List.getElem?_cons_zero, Option.some.injEq] at h
      subst h
      rw [Nat.zero_mul, List.drop_zero, List.flatMap_cons, List.take_append_of_le_length (by omega), List.take_of_length_le (by omega)]
    | succ j =>
      rw [List.flatMap_cons, List.drop_append, List.drop_eq_nil_of_le (by rw [hy, Nat.add_mul]; omega), List.nil_append, hy, show (j + 1) * m - m = j * m by rw [Nat.add_mul]; omega]
      exact ih j x (fun z hz => hm z (by simp [hz])) (by simpa using h)
theorem Sv.elem {sz : Nat} {w : World} {p : Option Addr} {n cap : Nat} {vs : List Value} (h : Sv sz w p n cap vs) {j : Nat} (hj : j < n) :
    ∃ b off cs T fr, p = some ⟨b, off, none⟩ ∧ w.blk b = some (.cells cs T fr) ∧ off + n * sz ≤ cs.size ∧ off + j * sz + sz ≤ cs.size ∧ cs.extract (off + j * sz) (off + j * sz + sz) = ((vs.drop (j * sz)).take sz).toArray := by
  obtain ⟨b, off, cs, T, fr, hp, hb, hs, hat⟩ := h.at hj
  have h1 : (j + 1) * sz ≤ n * sz := Nat.mul_le_mul_right _ hj
  rw [Nat.add_mul, Nat.one_mul] at h1
  have hl := h.len
  refine ⟨b, off, cs, T, fr, hp, hb, hs, by omega, ?_⟩
  apply Array.ext_getElem?
  intro i
  rcases Nat.lt_or_ge i sz with hi | hi
  · rw [Array.getElem?_extract_of_lt (by omega), ← Array.getElem?_eq_getElem, hat i hi]
    simp [List.getElem?_take, List.getElem?_drop, hi]
  · rw [Array.getElem?_eq_none (by simp only [Array.size_extract]; omega), Array.getElem?_eq_none (by simp; omega)]
end Go
namespace Go
open Go.Dr
section
variable {w : World} {e sz : Nat} {p : Option Addr} {n : Nat} {vs : List Value}
theorem wpList_grow {P : Program} {ops : Array Oper} {rest : List Oper} {o : Oper} {a : Act} {Q : Exit → Act → World → Prop} (hgd : o.guard = none) (s x : Operand) (t tx : TypeId)
    (ho : o.op = .call { callee := .builtin .append, args := #[s, x], argTypes := #[t, tx] }) {i : TypeInfo} {z : Value} {bytes : Nat}
    (ht : P.underlying t = some (.slice e)) (hi : P.info? e = some i) (hz : i.zero = some z) (hsz : i.size = sz) (h0 : 0 < sz) (hby : i.bytes = bytes) (hzs : z.cells.size = sz)
    (hs : a.eval s = .slice p n n) (B : Src P sz t (.slice p n n) n vs w) {v : Value} (hx : a.eval x = v) {m : Nat} {l2 : List Value} (S : Apd P t tx e i z v m l2 w) (hm : 0 < m)
    (hbig : (n + m) * bytes ≤ 140737488355328) (h63 : n + m ≤ 4611686018427387904)
    (h : ∀ p' cap' w', BldV w [] e sz w' p' (n + m) cap' (vs ++ l2) → wpList P ops Q rest (a.put o.dst (.slice p' (n + m) cap')) w') : wpList P ops Q (o :: rest) a w := by
  refine wpList_plain hgd fun K hK => ?_
  subst hsz hby
  have h63' : n + m ≤ maxLen := by unfold maxLen; omega
  have hmb : (m : Int) * i.bytes ≤ 281474976710656 := by
    have h1 : m * i.bytes ≤ (n + m) * i.bytes := Nat.mul_le_mul_right _ (Nat.le_add_left _ _)
    have h2 : ((m * i.bytes : Nat) : Int) ≤ 140737488355328 := by omega
    rw [Int.natCast_mul] at h2
    omega
  have hr := S.grow o.type p n n vs B.cellsD (by omega) (by omega) (growslice_fits (by omega) hbig) hmb
  have hge := grownCap_ge w (n + m) n e
  have hcm : grownCap w (n + m) n e ≤ maxLen := grownCap_le_maxLen w (n + m) n e h63'
  have hlen : (vs ++ l2).length = (n + m) * i.size := by rw [List.length_append, B.newsLen, S.len, Nat.add_mul]
  unfold Oper.wp execOp
  simp only [ho, resolve, invoke, builtin, Sem.run_bind, Sem.run_pure, Result.andThen_ok, List.map_toArray, List.map_cons, List.map_nil, hs, hx, hr]
  refine hK _ _ (h _ _ _ ⟨(OwB.start w).call ((Fr.refl [] w).drew.alloc _), ⟨hlen, .inr ⟨w.heap.size, _, _, rfl, Nat.zero_le _, heap_alloc_new w.drew _, hge, hcm, ?_, ?_⟩⟩, fun g hg => ⟨by simp at hg; omega, by simp⟩⟩)
  · simp only [Array.size_append, List.size_toArray, size_zeroCells, hzs, hlen, ← Nat.add_mul]
    congr 1
    omega
  · simp only [Array.toList_append]
    rw [← hlen]
    exact List.take_left
end
end Go
namespace Go
theorem World.freeze_at {w : World} {b : Nat} {C : Array Value} {e : TypeId} (k : Nat) (h : w.blk b = some (.cells C e)) : w.freeze ⟨b, k, none⟩ 1 = w.put b (.cells C e (k, k + 1)) := by
  unfold World.freeze World.put
  rw [if_neg (by decide)]
  congr 1
  apply Array.ext
  · simp
  · intro i h1 h2
    have hb := Array.getElem?_eq_some_iff.1 h
    rw [Array.getElem_modify, Array.getElem_setIfInBounds]
    by_cases hi : b = i
    · subst hi
      rw [if_pos rfl, if_pos rfl, hb.2]
      rfl
    · rw [if_neg hi, if_neg hi]
/-- '[]byte("..")' of a constant, its row laid anywhere. -/
theorem run_convert_mark {P : Program} {w : World} {b : Nat} {C : Array Value} {t e : TypeId} (n c : Nat) (h : w.blk b = some (.cells C e)) (ht : P.underlying t = some (.slice e)) (he : P.underlying e = some (.int .u8)) :
    (convert t t (.slice (some ⟨b, 0, none⟩) n c)).run P w = .ok (.slice (some ⟨b, 0, none⟩) n c) (w.put b (.cells C e (C.size, C.size + 1))) := by
  have hsh : w.shape? b = some (e, C.size) := by
    unfold World.shape?
    rw [show w.heap[b]? = some (.cells C e) from h]
  simp [convert, run_underlying ht, run_underlying he, markStringish, hsh]
  exact World.freeze_at _ h
end Go
namespace Go.Dr
section
variable {P : Program} {ops : Array Oper} {Q : Exit → Act → World → Prop} {S : World → Prop} {N : Nat}
theorem drawn_wpOp {fuel : Nat} {listed : Array Bool} {a : Act} {w : World} (i : Nat) (o : Oper) (ho : ops[i]? = some o)
    (h : ∀ K : Act → World → Prop, (∀ a' w', S w' ∧ wpAnyS P .any ops (NoP Q) S N fuel (listed.setIfInBounds i true) a' w' → K a' w') →
      wpList P ops (Exit.then K fun e a w => e = .outgrown ∧ Q e a w) [o] a w) :
    wpOp P ops (NoP Q) i (fun a' w' => (N ≤ i ∨ S w') ∧ wpAnyS P .any ops (NoP Q) S N fuel (listed.setIfInBounds i true) a' w') a w := by
  have h1 : wpList P ops (Exit.then (fun a' w' => (N ≤ i ∨ S w') ∧ wpAnyS P .any ops (NoP Q) S N fuel (listed.setIfInBounds i true) a' w') (NoP Q)) [o] a w :=
    wpList_imp (fun e a w h => by
      cases e <;> first | exact h | exact h.2 | (exact absurd h.1 (by simp))) _ _ _ (h (fun a' w' => (N ≤ i ∨ S w') ∧ wpAnyS P .any ops (NoP Q) S N fuel (listed.setIfInBounds i true) a' w') (fun _ _ h => ⟨.inr h.1, h.2⟩))
  unfold wpOp
  simp only [ho]
  unfold wpList at h1
  split
  · rename_i hw
    rw [if_pos hw] at h1
    rcases h1 with h1 | ⟨ha, a', w', hl⟩
    · left
      revert h1
      unfold Oper.wp
      generalize (execOp a.eval o).run P w = r
      intro h1
      cases r with
      | ok n w' =>
        cases n <;> simp only [Oper.upon] at h1 ⊢
        case value v => exact h1
        case skip => exact h1
        case defer d => exact h1
        case enter f args =>
          refine Calls.mono h1 (fun e w'' he => ?_)
          cases e <;> exact he
        case row row args => exact Rows.mono h1 (fun v w'' he => he)
      | halt x w' => cases x <;> simp only [Oper.upon] at h1 ⊢ <;> exact h1
    · exact .inr ⟨ha, a', w', hl⟩
  · rename_i hw
    rw [if_neg hw] at h1
    exact h1
/-- Three may come up now. -/
theorem drawn_next3 (i j l : Nat) {o u v : Oper} {fuel : Nat} {listed : Array Bool} {a : Act} {w : World} (ho : ops[i]? = some o) (hu : ops[j]? = some u) (hv : ops[l]? = some v) (hr : Region.ready .any ops listed = [i, j, l])
    (h : ∀ K : Act → World → Prop, (∀ a' w', S w' ∧ wpAnyS P .any ops (NoP Q) S N fuel (listed.setIfInBounds i true) a' w' → K a' w') →
      wpList P ops (Exit.then K fun e a w => e = .outgrown ∧ Q e a w) [o] a w)
    (k : ∀ K : Act → World → Prop, (∀ a' w', S w' ∧ wpAnyS P .any ops (NoP Q) S N fuel (listed.setIfInBounds j true) a' w' → K a' w') →
      wpList P ops (Exit.then K fun e a w => e = .outgrown ∧ Q e a w) [u] a w)
    (m : ∀ K : Act → World → Prop, (∀ a' w', S w' ∧ wpAnyS P .any ops (NoP Q) S N fuel (listed.setIfInBounds l true) a' w' → K a' w') →
      wpList P ops (Exit.then K fun e a w => e = .outgrown ∧ Q e a w) [v] a w) : wpAnyS P .any ops (NoP Q) S N (fuel + 1) listed a w := by
  refine ⟨fun h0 => (by rw [h0] at hr; cases hr), fun t hl => ?_⟩
  rw [hr] at hl
  rcases List.mem_cons.1 hl with rfl | hl
  · exact drawn_wpOp _ _ ho h
  rcases List.mem_cons.1 hl with rfl | hl
  · exact drawn_wpOp _ _ hu k
  rcases List.mem_cons.1 hl with rfl | hl
  · exact drawn_wpOp _ _ hv m
  · cases hl
end
end Go.Dr
namespace Go.Proofs.Ytombhkekocbfoaa
open Go.RowKit Go.Dr Go.Kd Go.St
section
variable {w0 w : World} {L : List (Nat × Obj)} {p : Option Addr} {n cap : Nat} {l : List Int} {ops : Array Oper} {rest : List Oper} {o : Oper} {a : Act} {Q : Exit → Act → World → Prop}
theorem Bld.subL {L' : List (Nat × Obj)} {k : IntKind} {e : Nat} (B : Bld w0 L k e w p n cap l) (hs : L'.Sublist L) : Bld w0 L' k e w p n cap l := ⟨B.own.sub hs, B.row, fun g hg => ⟨(B.new g hg).1, fun hm => (B.new g hg).2 ((hs.map Prod.fst).subset hm)⟩⟩
theorem bldOfV (B : BldV w0 L 5 1 w p n cap (l.map (Value.int .u8))) : Bld w0 L .u8 5 w p n cap l := ⟨B.own, B.row, B.new⟩
/-- An append of bytes to a full slice. -/
theorem wpList_grow22 (hgd : o.guard = none) (s x : Operand) (ho : o.op = .call { callee := .builtin .append, args := #[s, x], argTypes := #[22, 22] })
    (hs : a.eval s = .slice p n n) (S0 : Sl .u8 w p n n l) {q : Option Addr} {m c : Nat} {l2 : List Int} (hx : a.eval x = .slice q m c) (S : Sl .u8 w q m c l2) (hm : 0 < m) (hbig : n + m ≤ 140737488355328)
    (h : ∀ p' cap' w', Bld w [] .u8 5 w' p' (n + m) cap' (l ++ l2) → wpList Try.prog ops Q rest (a.put o.dst (.slice p' (n + m) cap')) w') : wpList Try.prog ops Q (o :: rest) a w := by
  obtain ⟨i, hi, hz, hs1, hb1⟩ := info_parts info5
  exact wpList_grow hgd s x 22 22 ho Try.underlying22 hi hz hs1 (by omega) hb1 rfl hs (S0.src Try.underlying22) hx (Apd.ofSrc Try.underlying22 hi hz (by rw [hs1]; exact S.src Try.underlying22)) hm (by omega) (by omega) fun p' cap' w' B => h p' cap' w' (bldOfV (by rw [List.map_append]; exact B))
/-- of zeros. -/
theorem wpList_app22z (hgd : o.guard = none) (s x : Operand) (ho : o.op = .call { callee := .builtin .append, args := #[s, x], argTypes := #[22, 3] })
    (hs : a.eval s = .slice p n cap) (B : Bld w0 L .u8 5 w p n cap l) (m : Nat) (hx : a.eval x = .int .i64 m) (hbig : n + m ≤ 140737488355328)
    (h : ∀ p' cap' w', Bld w0 L .u8 5 w' p' (n + m) cap' (l ++ zs m) → wpList Try.prog ops Q rest (a.put o.dst (.slice p' (n + m) cap')) w') : wpList Try.prog ops Q (o :: rest) a w := by
  obtain ⟨i, hi, hz, hs1, hb1⟩ := info_parts info5
  have e : (Builtin.zeroCells (Value.int .u8 0).cells m).toList = (zs m).map (Value.int .u8) := by
    apply List.ext_getElem?
    intro j
    by_cases hj : j < m
    · simp [Builtin.zeroCells, Value.cells, zs, hj, Nat.mod_one]
    · rw [List.getElem?_eq_none (by simp [Builtin.zeroCells, Value.cells]; omega), List.getElem?_eq_none (by simp [zs]; omega)]
  have A := Apd.ofZeros (P := Try.prog) (w := w) Try.underlying22 Try.underlying3 hi hz (by rw [hs1]; rfl) (by simp [Value.cells, Value.oneCell']) m (by omega) (by rw [hb1]; omega)
  rw [e] at A
  exact wpList_apd hgd s x 22 3 ho Try.underlying22 hi hz hs1 hb1 rfl hs B hx A (by omega) (by omega) h
end
section
variable {w : World}
theorem isBytes_putB (k s : Nat) : isBytes (putB k s) := byt_putB k s
theorem byt_headP (e c n : Nat) : isBytes (headP e c n) := by
  have h0 : Byt headW := by intro x hx; simp [headW] at hx; omega
  exact ((h0.append (byt_putB _ _)).append (byt_putB _ _)).append (byt_putB _ _)
set_option maxRecDepth 100000 in
set_option maxHeartbeats 4000000 in
theorem hbytes_f {e c n : Nat} (hc : c < 4294967296) (hn : n < 4294967296) :
    Calls Try.prog 34 #[.agg #[.int .u64 (e : Int), .int .u32 (c : Int), .int .u32 (n : Int)]] w fun en w' => ∃ q m cp, en = .returned (.slice q m cp) ∧ Bld w [] .u8 5 w' q m cp (headB e c n) := by
  obtain ⟨xs, hxs⟩ : ∃ xs : Array Value, xs = #[.int .u64 (e : Int), .int .u32 (c : Int), .int .u32 (n : Int)] := ⟨_, rfl⟩
  have hsz : xs.size = 3 := by rw [hxs]; rfl
  have hon : ones xs.toList = true := by rw [hxs]; rfl
  have x0 : ∃ h : 0 < xs.size, xs[0] = .int .u64 (e : Int) := Array.getElem?_eq_some_iff.1 (by rw [hxs]; rfl)
  have x1 : ∃ h : 1 < xs.size, xs[1] = .int .u32 (c : Int) := Array.getElem?_eq_some_iff.1 (by rw [hxs]; rfl)
  have x2 : ∃ h : 2 < xs.size, xs[2] = .int .u32 (n : Int) := Array.getElem?_eq_some_iff.1 (by rw [hxs]; rfl)
  obtain ⟨x0', x0⟩ := x0
  obtain ⟨x1', x1⟩ := x1
  obtain ⟨x2', x2⟩ := x2
  rw [← hxs]
  clear hxs
  have wc : IntKind.u64.wrap (c : Int) = (c : Int) := by rw [IntKind.wrap_u64]; omega
  have wn : IntKind.u64.wrap (n : Int) = (n : Int) := by rw [IntKind.wrap_u64]; omega
  have hconv : (convert 22 22 (.slice (some ⟨w.heap.size + 1, 0, none⟩) 4 4)).run Try.prog ((w.alloc (.cells xs 73)).alloc (.cells #[.int .u8 104, .int .u8 101, .int .u8 97, .int .u8 100] 5)) =
      .ok (.slice (some ⟨w.heap.size + 1, 0, none⟩) 4 4) ((w.alloc (.cells xs 73)).alloc (.cells #[.int .u8 104, .int .u8 101, .int .u8 97, .int .u8 100] 5 (4, 5))) := by
    have := Lib.run_convert_bytes_const (P := Try.prog) (w.alloc (.cells xs 73)) 22 5 #[.int .u8 104, .int .u8 101, .int .u8 97, .int .u8 100] 4 4 Try.underlying22 Try.underlying5
    rw [World.size_alloc] at this
    exact this
  go_enter Try.func34, Try.ntmps34
  go_wp2_with fail
  refine OwB.named (Q := fun X => Calls Try.prog 54 _ X _) (((OwB.start w).allocN (.cells xs 73) w.heap.size rfl).allocN (.cells (ints .u8 headW) 5 (4, 5)) (w.heap.size + 1) (by simp)) ?_
  clear hconv
  intro V hV
  generalize w.heap.size + 1 = b2 at hV ⊢
  generalize w.heap.size = b1 at hV ⊢
  have HV := Lib.hid hV
  clear hV
  refine (num_b (n := e) (s := 8) (.inl rfl)).mono ?_
  rintro en w1 ⟨b8, rfl, g8, l8, F1⟩
  have HV1 := Lib.hid (HV.out.call F1)
  have G8 := Lib.hid g8
  clear g8 l8 F1 HV
  go_wp2_with (refine wpList_grow22 rfl _ _ rfl rfl (Sl.whole (HV1.out.nth 0 rfl) rfl) rfl (Sl.whole G8.out (putB_length _ _)) (by omega) (by omega) ?_)
  intro q3 c3 W3 B3
  have HB3 := Lib.hid (B3.lift HV1.out)
  clear B3 G8 HV1
  have f1 := HB3.out.own.nth 1 rfl
  have t1 := World.at_lt f1
  go_upto_region 2 with (fail)
  refine drawn_begin 11 (fun w' => w'.blk b1 = some (.cells xs 73)) (by kernel_rfl) ?_
  refine drawn_reads (fuel := 5) [0, 1, 2, 3, 6, 7, 8] rfl (by kernel_rfl) f1 ?_
  repeat (first | (refine rowK_step2 rfl rfl (fun K hK => ?_); go_wp2) | (refine rowK_step rfl (fun K hK => ?_); go_simp; refine hK _ ?_; clear hK K))
  refine rowK_nil ⟨fun w' e1 => ?_, ?_⟩
  · clear f1 t1
    have t1 := World.at_lt e1
    repeat (first | (refine rowWp_step2 rfl rfl (fun K hK => ?_); go_wp2) | (refine rowWp_step rfl (fun K hK => ?_); go_simp; refine hK _ ?_; clear hK K))
    exact rowWp_nil rfl
  refine drawn_next 4 (fuel := 4) rfl (by kernel_rfl) ?_
  intro K hK
  go_wp2_with fail
  refine (num_b (n := c) (s := 4) (.inr ⟨rfl, hc⟩)).mono ?_
  rintro en w2 ⟨b4, rfl, g4, l4, F2⟩
  have HB4 := Lib.hid (HB3.out.call ((Fr.refl [] _).drew.trans F2))
  have G4 := Lib.hid g4
  clear g4 l4 F2 HB3 f1 t1
  have f1 := HB4.out.own.nth 1 rfl
  have t1 := World.at_lt f1
  go_wp2_with fail
  refine ⟨f1, ?_⟩
  refine drawn_next 5 (fuel := 3) rfl (by kernel_rfl) ?_
  intro K hK
  refine wpList_app47 rfl _ _ rfl rfl HB4.out rfl (Sl.whole G4.out (putB_length _ _)) (by omega) ?_
  intro q5 c5 W5 B5
  have HB5 := Lib.hid B5
  clear B5 G4 HB4 f1 t1
  have f1 := HB5.out.own.nth 1 rfl
  have t1 := World.at_lt f1
  refine wpList_nil ?_
  refine hK _ _ ⟨f1, ?_⟩
  refine drawn_next 9 (fuel := 2) rfl (by kernel_rfl) ?_
  intro K hK
  go_wp2_with fail
  refine (num_b (n := n) (s := 4) (.inr ⟨rfl, hn⟩)).mono ?_
  rintro en w6 ⟨b6, rfl, g6, l6, F6⟩
  have HB6 := Lib.hid (HB5.out.call F6)
  have G6 := Lib.hid g6
  clear g6 l6 F6 HB5 f1 t1
  have f1 := HB6.out.own.nth 1 rfl
  have t1 := World.at_lt f1
  go_wp2_with fail
  refine ⟨f1, ?_⟩
  refine drawn_next 10 (fuel := 1) rfl (by kernel_rfl) ?_
  intro K hK
  refine wpList_app47 rfl _ _ rfl rfl HB6.out rfl (Sl.whole G6.out (putB_length _ _)) (by omega) ?_
  intro q7 c7 W7 B7
  have e20 : headW ++ putB e 8 ++ putB c 4 ++ putB n 4 = headP e c n := rfl
  rw [e20] at B7
  have f1 := B7.own.nth 1 rfl
  have HB7 := Lib.hid (Bld.subL (L' := []) B7 (List.nil_sublist _))
  clear B7 G6 HB6 t1 e20
  refine wpList_nil ?_
  refine hK _ _ ⟨f1, ?_⟩
  clear f1
  refine drawn_end rfl (by kernel_rfl) ?_
  intro K hK
  have hPl := headP_length e c n
  have hPb := byt_headP e c n
  obtain ⟨P, hP⟩ : ∃ P, P = headP e c n := ⟨_, rfl⟩
  rw [← hP] at hPl hPb HB7
  have HPE := Lib.hid hP
  clear hP
  go_wp2_with fail
  have HB8 := Lib.hid (HB7.out.call ((Fr.refl [] _).alloc (.cells #[.slice q7 (4 + 8 + 4 + 4) c7] 22)))
  refine named_world (A := fun X => Bld w [] .u8 5 X q7 20 c7 P ∧ Sll X (some ⟨W7.heap.size, 0, none⟩) 1 1 [P]) (Q := fun X => Calls Try.prog 55 _ X _) ⟨HB8.out, Sll.of (Sv.one (World.at_alloc_new _ _ _ rfl)) (.cons HB8.out.sl .nil)⟩ ?_
  rintro U ⟨hBU, hSU⟩
  have HBU := Lib.hid hBU
  clear HB8 HB7 hBU
  refine (total_f hSU (by intro l hl; simp only [List.mem_singleton] at hl; rw [hl]; exact hPb) (by simp [hPl]) (by omega)).mono ?_
  clear hSU
  rintro en w8 ⟨rfl, F8⟩
  have HB9 := Lib.hid (HBU.out.call F8)
  clear F8 HBU
  rw [show [P].flatten = P by simp]
  have hS := S_lt P
  obtain ⟨s0, hs0⟩ : ∃ s0, s0 = Go.St.S P := ⟨_, rfl⟩
  rw [← hs0] at hS ⊢
  have HS0 := Lib.hid hs0
  clear hs0
  go_wp2_with fail
  refine (num_b (n := s0) (s := 4) (.inr ⟨rfl, by omega⟩)).mono ?_
  rintro en w9 ⟨b9, rfl, g9, l9, F9⟩
  have HB10 := Lib.hid (HB9.out.call F9)
  have G9 := Lib.hid g9
  clear g9 l9 F9 HB9
  go_wp2_with (refine wpList_app47 rfl _ _ rfl rfl HB10.out rfl (Sl.whole G9.out (putB_length _ _)) (by omega) ?_)
  intro q10 c10 W10 B10
  have HB11 := Lib.hid B10
  clear B10 HB10 G9
  have w40 : IntKind.i64.wrap (64 - 24) = ((40 : Nat) : Int) := by rfl
  go_wp2_with (refine wpList_app22z rfl _ _ rfl rfl HB11.out 40 (by first | rfl | go_simp) (by omega) ?_)
  intro q12 c12 W12 B12
  have HB13 := Lib.hid B12
  clear B12 HB11
  go_wp2_with fail
  refine bodyPost_ret (results_tmp rfl _ _ _) rfl ⟨q12, 64, c12, rfl, ?_⟩
  have h := HB13.out
  rw [HS0.out, HPE.out] at h
  exact h
end
end Go.Proofs.Ytombhkekocbfoaa
