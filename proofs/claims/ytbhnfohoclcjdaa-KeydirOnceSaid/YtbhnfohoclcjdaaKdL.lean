/- The plain law of terms, of the free suite and of keys that are checked; no program in sight. -/
import GoSem.Core.World
set_option linter.unusedVariables false
set_option linter.unusedSimpArgs false
namespace Go.Kd

/-! ### Bytes -/
abbrev Bs := List Int
def putB (n size : Nat) : Bs := (List.range size).map fun i => ((n / 256 ^ (size - 1 - i) % 256 : Nat) : Int)
def getB (l : Bs) : Nat := l.foldl (fun n c => n * 256 + c.toNat) 0
def fits (ps : List Bs) : Bool := decide (ps.length ≤ 64) && ps.all fun p => decide (p.length ≤ 4096)
def joinB (ps : List Bs) : Bs := (ps.length : Int) :: ps.flatMap fun p => ((p.length / 256 : Nat) : Int) :: ((p.length % 256 : Nat) : Int) :: p
def zeros (n : Nat) : Bs := List.replicate n 0

/-! ### Terms -/
abbrev Tm := Int × List Bs
def nameB (n : Nat) : Bs := [116, 101, 114, 109] ++ (putB n 4 ++ zeros 24)
def numB (b : Bs) (most : Nat) : Nat :=
  if b.length < 32 then 0
  else if getB ((b.drop 4).take 4) < 1 ∨ most < getB ((b.drop 4).take 4) ∨ b.take 32 ≠ nameB (getB ((b.drop 4).take 4)) then 0
  else getB ((b.drop 4).take 4)
def txt (t : Tm) : Bs := joinB t.2 ++ [t.1]
def makeT (T : List Tm) (t : Tm) : List Tm × Bs × Bool :=
  if fits t.2 = false ∨ t.1 < 1 ∨ 8 < t.1 then (T, zeros 32, false)
  else match T.findIdx? (fun u => txt u == txt t) with
    | some i => (T, nameB (i + 1), true)
    | none => if 65535 ≤ T.length then (T, zeros 32, false) else (T ++ [t], nameB (T.length + 1), true)
def ofT (T : List Tm) (k : Bs) : Option Tm := if numB k T.length = 0 then none else T[numB k T.length - 1]?

/-! ### The free suite -/
def signF (T : List Tm) (secret text : Bs) : List Tm × Bs :=
  if 4096 < text.length then (T, zeros 64) else ((makeT T (6, [secret, text])).1, (makeT T (6, [secret, text])).2.1 ++ zeros 32)
def verifyF (T : List Tm) (signer text sig : Bs) : Bool :=
  if 4096 < text.length then false
  else match ofT T (sig.take 32) with
    | some (6, [a, b]) => decide (sig.drop 32 = zeros 32) && decide (b = text) && (match ofT T signer with | some (5, [c]) => decide (c = a) | _ => false)
    | _ => false

/-! ### Objects -/
structure Ob where
  server : Int
  n : Int
  key : Bs
  frm : Int
  til : Int
  sig : Bs
  vs : List (Int × Bs)
def objText (x : Ob) : Bs := joinB [[107, 101, 121], putB x.server.toNat 1, putB x.n.toNat 1, x.key, putB x.frm.toNat 4, putB x.til.toNat 4]
def vouchText (x : Ob) (notary : Int) : Bs := joinB [[118, 111, 117, 99, 104], [notary], objText x]
/-- Which notaries' vouches count. -/
def vouchers (T : List Tm) (first : List Bs) (x : Ob) : List Int :=
  ((x.vs.filter fun v => decide (v.1 < 4) && decide (v.1 ≠ x.server) && decide (first.getD v.1.toNat [] ≠ zeros 32) && verifyF T (first.getD v.1.toNat []) (vouchText x v.1) v.2).map Prod.fst).eraseDups
/-- The first key that doesn't follow: none; or the last key. -/
def chainF (T : List Tm) (first : List Bs) (need : Nat) (server : Int) : List Ob → Nat → Bs → Option Bs
  | [], _, key => some key
  | x :: l, i, key =>
    if x.server ≠ server ∨ x.n ≠ (i : Int) + 1 ∨ verifyF T key (objText x) x.sig = false ∨ (vouchers T first x).length < need then none
    else chainF T first need server l (i + 1) x.key
def checkF (T : List Tm) (first : List Bs) (highest : List Int) (need : Nat) (server : Int) (chain : List Ob) (now : Int) : Bs × Int × Int :=
  if 4 ≤ server ∨ 4 < chain.length then (zeros 32, 0, 200)
  else match chainF T first need server chain 0 (first.getD server.toNat []) with
    | none => (zeros 32, 0, 200)
    | some key =>
      if (chain.length : Int) < highest.getD server.toNat 0 then (zeros 32, 0, 210)
      else match chain.getLast? with
        | some x => if now < x.frm ∨ x.til ≤ now then (zeros 32, 0, 201) else (key, chain.length, 0)
        | none => (key, chain.length, 0)

/-! ### The examples -/
def key1 (n : Int) : Bs := n :: zeros 31
def ali1 : List Tm × Bs × Bool := makeT [] (5, [key1 1])
def ali2 : List Tm × Bs × Bool := makeT ali1.1 (5, [key1 2])
def aliX : Ob := ⟨0, 1, key1 9, 5, 7, zeros 64, []⟩
def ali3 : List Tm × Bs := signF ali2.1 (key1 1) (objText aliX)
def aliY : Ob := { aliX with sig := ali3.2 }
def aliC : List Bs := [ali1.2.1, ali2.2.1, zeros 32, zeros 32]
theorem alive_one : checkF ali3.1 aliC [0, 0, 0, 0] 0 0 [] 0 = (ali1.2.1, 0, 0) := by decide
theorem alive_two : (checkF ali3.1 aliC [0, 0, 0, 0] 0 0 [aliY] 4).2.2 = 201 := by decide
theorem alive_three : checkF ali3.1 aliC [0, 0, 0, 0] 0 0 [aliY] 5 = (key1 9, 1, 0) := by decide
theorem alive_four : (checkF ali3.1 aliC [0, 0, 0, 0] 0 1 [aliY] 5).2.2 = 200 := by decide

/-! ### KeydirFree -/
def free1 : List Tm × Bs × Bool := makeT [] (1, [key1 200])
def free2 (by_ : Bs) : List Tm × Bs × Bool := makeT free1.1 (1, [by_])
def free3 (by_ : Bs) : List Tm × Bs × Bool := makeT (free2 by_).1 (5, [free1.2.1])
def free4 (by_ : Bs) (x : Ob) : List Tm × Bs := signF (free3 by_).1 (free2 by_).2.1 (objText x)
def freeC (by_ : Bs) : List Bs := [(free3 by_).2.1, zeros 32, zeros 32, zeros 32]
def freeE (by_ : Bs) (x : Ob) (now : Int) : Int := (checkF (free4 by_ x).1 (freeC by_) [0, 0, 0, 0] 0 0 [{ x with sig := (free4 by_ x).2 }] now).2.2
theorem putB_length (n size : Nat) : (putB n size).length = size := by simp [putB]
theorem objText_length (x : Ob) (h : x.key.length = 32) : (objText x).length = 58 := by
  simp [objText, joinB, h, putB_length]
theorem free2_same : free2 (key1 200) = (free1.1, free1.2.1, true) := by decide
theorem txt_ne {by_ : Bs} (h : by_.length = 32) (hn : by_ ≠ key1 200) : (txt (1, [key1 200]) == txt (1, [by_])) = false := by
  rw [beq_eq_false_iff_ne]
  intro e
  apply hn
  have e2 : ((key1 200).length : Int) = by_.length := by rw [h]; rfl
  simp only [txt, joinB, List.flatMap_cons, List.flatMap_nil, List.append_nil, List.cons_append, List.cons.injEq, List.length_cons, List.length_nil] at e
  exact (List.append_cancel_right e.2.2.2).symm
theorem nameB_length (n : Nat) : (nameB n).length = 32 := by simp [nameB, putB, zeros]
theorem nameB_sig (n : Nat) (r : Bs) : (nameB n ++ r).take 32 = nameB n := by
  rw [List.take_append_of_le_length (by rw [nameB_length]; exact Nat.le_refl 32)]
  exact List.take_of_length_le (by rw [nameB_length]; exact Nat.le_refl 32)
theorem nameB_four (n : Nat) (r : Bs) : ((nameB n ++ r).drop 4).take 4 = putB n 4 := by
  simp [nameB, putB, List.range, List.range.loop]
theorem getB_putB4 {n : Nat} (h : n < 4294967296) : getB (putB n 4) = n := by
  simp [getB, putB, List.range, List.range.loop]
  omega
theorem numB_name {n most : Nat} (r : Bs) (h0 : 0 < n) (h : n ≤ most) (hm : most < 4294967296) : numB (nameB n ++ r) most = n := by
  unfold numB
  have hl : ¬ (nameB n ++ r).length < 32 := by rw [List.length_append, nameB_length]; omega
  rw [if_neg hl, nameB_four, getB_putB4 (by omega), nameB_sig, if_neg (by simp; omega)]
theorem ofT_name {T : List Tm} {n : Nat} {t : Tm} (r : Bs) (h0 : 0 < n) (ht : T[n - 1]? = some t) (hm : T.length < 4294967296) : ofT T (nameB n ++ r) = some t := by
  have hl := (List.getElem?_eq_some_iff.1 ht).1
  unfold ofT
  rw [numB_name r h0 (by omega) hm, if_neg (by omega), ht]
theorem ofT_name' {T : List Tm} {n : Nat} {t : Tm} (h0 : 0 < n) (ht : T[n - 1]? = some t) (hm : T.length < 4294967296) : ofT T (nameB n) = some t := by
  have := ofT_name [] h0 ht hm
  rwa [List.append_nil] at this
theorem makeT_new {T : List Tm} {t : Tm} (hf : fits t.2 = true) (h1 : 1 ≤ t.1) (h8 : t.1 ≤ 8) (hn : ∀ u ∈ T, (txt u == txt t) = false) (hl : T.length < 65535) : makeT T t = (T ++ [t], nameB (T.length + 1), true) := by
  unfold makeT
  rw [if_neg (by rw [hf]; simp; omega)]
  have : T.findIdx? (fun u => txt u == txt t) = none := List.findIdx?_eq_none_iff.2 hn
  rw [this]
  simp only [if_neg (show ¬ 65535 ≤ T.length by omega)]
theorem length_parts_le : ∀ ps : List Bs, (∀ p ∈ ps, p.length ≤ 4096) → (ps.flatMap fun p => ((p.length / 256 : Nat) : Int) :: ((p.length % 256 : Nat) : Int) :: p).length ≤ ps.length * 4098
  | [], _ => by simp
  | p :: ps, h => by
    have h1 := length_parts_le ps (fun q hq => h q (by simp [hq]))
    have h2 := h p (by simp)
    simp only [List.flatMap_cons, List.length_append, List.length_cons] at h1 ⊢
    omega
theorem length_joinB_le {ps : List Bs} (h : fits ps = true) : (joinB ps).length ≤ 262273 := by
  simp only [fits, Bool.and_eq_true, decide_eq_true_eq, List.all_eq_true] at h
  have := length_parts_le ps h.2
  simp only [joinB, List.length_cons]
  omega
theorem makeT_len (T : List Tm) (t : Tm) : (makeT T t).2.1.length = 32 := by
  have h : ∀ n, (nameB n).length = 32 := fun n => by simp [nameB, putB, zeros]
  unfold makeT
  split
  · rfl
  · split
    · exact h _
    · split
      · rfl
      · exact h _
theorem makeT_old {T : List Tm} {t : Tm} {i : Nat} (hf : fits t.2 = true) (h1 : 1 ≤ t.1) (h8 : t.1 ≤ 8) (h : T.findIdx? (fun u => txt u == txt t) = some i) : makeT T t = (T, nameB (i + 1), true) := by
  unfold makeT
  rw [if_neg (by rw [hf]; simp; omega), h]
theorem makeT_full {T : List Tm} {t : Tm} (hf : fits t.2 = true) (h1 : 1 ≤ t.1) (h8 : t.1 ≤ 8) (h : T.findIdx? (fun u => txt u == txt t) = none) (hl : 65535 ≤ T.length) : makeT T t = (T, zeros 32, false) := by
  unfold makeT
  rw [if_neg (by rw [hf]; simp; omega), h]
  simp only [if_pos hl]
theorem makeT_more {T : List Tm} {t : Tm} (hf : fits t.2 = true) (h1 : 1 ≤ t.1) (h8 : t.1 ≤ 8) (h : T.findIdx? (fun u => txt u == txt t) = none) (hl : T.length < 65535) : makeT T t = (T ++ [t], nameB (T.length + 1), true) := by
  unfold makeT
  rw [if_neg (by rw [hf]; simp; omega), h]
  simp only [if_neg (show ¬ 65535 ≤ T.length by omega)]
theorem nameB_ne {m n : Nat} (hm : m < 4294967296) (hn : n < 4294967296) (h : m ≠ n) : nameB m ≠ nameB n := by
  intro e
  apply h
  have h1 := nameB_four m []
  have h2 := nameB_four n []
  rw [e] at h1
  rw [← getB_putB4 hm, ← getB_putB4 hn, ← h1, ← h2]
theorem txt_count {s t : Tm} (h : s.2.length ≠ t.2.length) : (txt s == txt t) = false := by
  rw [beq_eq_false_iff_ne]
  intro e
  simp only [txt, joinB, List.cons_append, List.cons.injEq] at e
  omega
theorem txt_kind {s t : Tm} (h : s.1 ≠ t.1) : (txt s == txt t) = false := by
  rw [beq_eq_false_iff_ne]
  intro e
  have := congrArg List.getLast? e
  simp only [txt, List.getLast?_append, List.getLast?_singleton, Option.some_or, Option.some.injEq] at this
  exact h this
theorem checkF_one {T : List Tm} {first : List Bs} {x : Ob} {now : Int} (h1 : x.server = 0) (h2 : x.n = 1) (hv : x.vs = []) :
    (checkF T first [0, 0, 0, 0] 0 0 [x] now).2.2 = if verifyF T (first.getD 0 []) (objText x) x.sig = false then 200 else if now < x.frm ∨ x.til ≤ now then 201 else 0 := by
  unfold checkF
  rw [if_neg (by simp)]
  simp only [chainF, h1, h2, vouchers, hv]
  by_cases h : verifyF T (first.getD 0 []) (objText x) x.sig = false
  · simp at h
    simp [h]
  · simp at h
    simp [h]
    split <;> rfl
theorem free_law {by_ : Bs} {x : Ob} {now : Int} (h1 : x.server = 0) (h2 : x.n = 1) (hv : x.vs = []) (hk : x.key.length = 32) (hb : by_.length = 32) :
    freeE by_ x now = if by_ = key1 200 then (if now < x.frm ∨ x.til ≤ now then 201 else 0) else 200 := by
  have htl : ¬ 4096 < (objText x).length := by rw [objText_length x hk]; omega
  have hfit : ∀ s : Bs, s.length = 32 → fits [s, objText x] = true := by
    intro s hs
    simp [fits, objText_length x hk, hs]
  unfold freeE
  rw [checkF_one (x := { x with sig := (free4 by_ x).2 }) h1 h2 hv]
  show (if verifyF _ _ (objText x) (free4 by_ x).2 = false then (200 : Int) else if now < x.frm ∨ x.til ≤ now then 201 else 0) = _
  have f1 : free1 = ([(1, [key1 200])], nameB 1, true) := by decide
  by_cases hs : by_ = key1 200
  · rw [if_pos hs]
    have f2 : free2 by_ = ([(1, [key1 200])], nameB 1, true) := by rw [hs]; decide
    have f3 : free3 by_ = ([(1, [key1 200]), (5, [nameB 1])], nameB 2, true) := by unfold free3; rw [f2, f1]; decide
    have f4 : free4 by_ x = ([(1, [key1 200]), (5, [nameB 1]), (6, [nameB 1, objText x])], nameB 3 ++ zeros 32) := by
      unfold free4 signF
      rw [f3, f2, if_neg htl, makeT_new (hfit _ (nameB_length 1)) (by simp) (by simp) (by
        intro u hu
        simp only [List.mem_cons, List.not_mem_nil, or_false] at hu
        rcases hu with rfl | rfl <;> exact txt_count (by simp)) (by simp)]
      rfl
    have hc : (freeC by_).getD 0 [] = nameB 2 := by unfold freeC; rw [f3]; rfl
    rw [if_neg]
    rw [hc, f4]
    unfold verifyF
    rw [if_neg htl, nameB_sig, ofT_name' (n := 3) (t := (6, [nameB 1, objText x])) (by omega) rfl (by simp), ofT_name' (n := 2) (t := (5, [nameB 1])) (by omega) rfl (by simp)]
    simp [nameB_length]
  · rw [if_neg hs]
    have f2 : free2 by_ = ([(1, [key1 200]), (1, [by_])], nameB 2, true) := by
      unfold free2
      rw [f1, makeT_new (by simp [fits, hb]) (by simp) (by simp) (by
        intro u hu
        simp only [List.mem_cons, List.not_mem_nil, or_false] at hu
        subst hu
        exact txt_ne hb hs) (by simp)]
      rfl
    have f3 : free3 by_ = ([(1, [key1 200]), (1, [by_]), (5, [nameB 1])], nameB 3, true) := by
      unfold free3
      rw [f2, f1, makeT_new (by simp [fits, nameB_length]) (by simp) (by simp) (by
        intro u hu
        simp only [List.mem_cons, List.not_mem_nil, or_false] at hu
        rcases hu with rfl | rfl <;> exact txt_kind (by simp)) (by simp)]
      rfl
    have f4 : free4 by_ x = ([(1, [key1 200]), (1, [by_]), (5, [nameB 1]), (6, [nameB 2, objText x])], nameB 4 ++ zeros 32) := by
      unfold free4 signF
      rw [f3, f2, if_neg htl, makeT_new (hfit _ (nameB_length 2)) (by simp) (by simp) (by
        intro u hu
        simp only [List.mem_cons, List.not_mem_nil, or_false] at hu
        rcases hu with rfl | rfl | rfl <;> exact txt_count (by simp)) (by simp)]
      rfl
    have hc : (freeC by_).getD 0 [] = nameB 3 := by unfold freeC; rw [f3]; rfl
    rw [if_pos]
    rw [hc, f4]
    unfold verifyF
    rw [if_neg htl, nameB_sig, ofT_name' (n := 4) (t := (6, [nameB 2, objText x])) (by omega) rfl (by simp), ofT_name' (n := 3) (t := (5, [nameB 1])) (by omega) rfl (by simp)]
    have := nameB_ne (m := 1) (n := 2) (by omega) (by omega) (by omega)
    simp [this]
end Go.Kd
