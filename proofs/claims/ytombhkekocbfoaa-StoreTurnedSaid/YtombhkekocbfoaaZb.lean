/- Joined: GnB. -/
import Derived.Test.YtombhkekocbfoaaZa
import Derived.Deep.DeepCutAuto
import Derived.ChangeKeysEq
import Derived.Deep.AppendSrc
import Derived.Deep.QuietTactic
import Derived.BigQuiet
import Derived.StillTail
set_option linter.unusedVariables false
set_option linter.unusedSimpArgs false
namespace Go
section
variable {P : Program} {fn : Func} {R : Ending → World → Prop} {a : Act} {w : World}
/-- Is the type a struct or an array of so many cells? -/
def aggB (P : Program) (ty : TypeId) (n : Nat) : Bool :=
  (match P.underlying ty with | some (.struct _) => true | some (.array _ _) => true | _ => false) && (P.info? ty).map (·.size) == some n
theorem run_loadVar_agg {ty b : Nat} {cs : Array Value} {T : TypeId} {fr : Nat × Nat} (hb : w.blk b = some (.cells cs T fr)) (h : aggB P ty cs.size = true) :
    (loadVar ty ⟨b, 0, none⟩).run P w = .ok (.agg cs) w := by
  unfold aggB at h
  rw [Bool.and_eq_true] at h
  obtain ⟨h1, h2⟩ := h
  cases hu : P.underlying ty with
  | none => rw [hu] at h1; cases h1
  | some d =>
    rw [hu] at h1
    exact run_loadVar_row w b T ty cs fr d hb hu (by cases d <;> first | rfl | cases h1) (by simpa using h2)
/-- What lies there, as the call's result. -/
def cellRet (P : Program) (ty : TypeId) (o : Option Obj) (K : Value → Prop) : Prop :=
  match o with
  | some (.cells cs _ _) => aggB P ty cs.size = true ∧ K (.agg cs)
  | _ => False
theorem ret_cell {p ty b : Nat} (h : fn.results = #[.cell p ty]) (hp : a.tmps.getD p undef = .pointer (some ⟨b, 0, none⟩)) (hd : a.defers = [])
    (hR : cellRet P ty (w.blk b) (fun v => R (.returned v) w)) : bodyPost P fn R .ret a w := by
  unfold cellRet at hR
  split at hR
  · rename_i cs T fr hb
    refine bodyPost_ret (v := .agg cs) ?_ hd hR.2
    have hp' : a.tmps[p]?.getD undef = .pointer (some ⟨b, 0, none⟩) := by simpa using hp
    simp [results, h, hp', asAddr, run_loadVar_agg hb hR.1]
  · exact hR.elim
theorem ret_cell_tmp {p ty b u : Nat} (h : fn.results = #[.cell p ty, .tmp u]) (hp : a.tmps.getD p undef = .pointer (some ⟨b, 0, none⟩)) (hd : a.defers = [])
    (hR : cellRet P ty (w.blk b) (fun v => R (.returned (.tuple #[v, a.tmps.getD u undef])) w)) : bodyPost P fn R .ret a w := by
  unfold cellRet at hR
  split at hR
  · rename_i cs T fr hb
    refine bodyPost_ret (v := .tuple #[.agg cs, a.tmps.getD u undef]) ?_ hd hR.2
    have hp' : a.tmps[p]?.getD undef = .pointer (some ⟨b, 0, none⟩) := by simpa using hp
    simp [results, h, hp', asAddr, run_loadVar_agg hb hR.1]
  · exact hR.elim
end
attribute [go_sem] cellRet
theorem run_index_ints {P : Program} {t e n : Nat} (ht : P.underlying t = some (.array n e)) (h1 : ∀ w, (isAgg e).run P w = .ok false w) (h2 : ∀ w, (sizeOf e).run P w = .ok 1 w)
    (w : World) (k : IntKind) (l : List Int) (ki : IntKind) (i : Int) (h0 : 0 ≤ i) (hi : i < n) (hl : l.length = n) :
    (Instr.index t (.agg (ints k l)) (.int ki i)).run P w = .ok (.int k (el l i.toNat)) w := by
  have hh : 0 ≤ i ∧ i < (n : Int) := ⟨h0, hi⟩
  have hb : (ints k l)[i.toNat]? = some (.int k (el l i.toNat)) := getElem?_ints k l _ (by omega)
  simp [Instr.index, run_underlying ht, asIntOf, hh, part, h1, h2, hb, go_sem]
end Go
namespace Go
theorem run_eqItems_ints {P : Program} {e : TypeId} (d : Nat) (k ke : IntKind) (hue : P.underlying e = some (.int ke)) (h1 : ∀ w, (isAgg e).run P w = .ok false w) (a b : List Int) (hab : a.length = b.length) (w : World) :
    ∀ (is : List Nat), (∀ i ∈ is, i < a.length) → (Op.eqItems (d + 1) e 1 (ints k a) (ints k b) is).run P w = .ok (is.all fun i => el a i == el b i) w
  | [], _ => by simp [Op.eqItems]
  | i :: is, h => by
    have hi := h i (by simp)
    have ih := run_eqItems_ints d k ke hue h1 a b hab w is (fun j hj => h j (by simp [hj]))
    have pa : (part e (ints k a) (i * 1)).run P w = .ok (.int k (el a i)) w := by
      simp only [part, Sem.run_bind, h1, Result.andThen_ok, Bool.false_eq_true, ↓reduceIte, Nat.mul_one, getElem?_ints k a i hi, Sem.run_pure]
    have pb : (part e (ints k b) (i * 1)).run P w = .ok (.int k (el b i)) w := by
      simp only [part, Sem.run_bind, h1, Result.andThen_ok, Bool.false_eq_true, ↓reduceIte, Nat.mul_one, getElem?_ints k b i (by omega), Sem.run_pure]
    simp only [Op.eqItems, Sem.run_bind, pa, pb, Result.andThen_ok, run_equalIn_int w d e k ke (el a i) (el b i) hue, List.all_cons]
    cases hq : (el a i == el b i)
    · simp
    · simp only [Bool.not_true, Bool.false_eq_true, ↓reduceIte, ih, Bool.true_and]
theorem run_eq_ints {P : Program} {t e n : Nat} {i : TypeInfo} (d : Nat) (k ke : IntKind) (hu : P.underlying t = some (.array n e)) (hi : P.info? e = some i) (hc : P.cellsOf e = 1) (hue : P.underlying e = some (.int ke))
    (h1 : ∀ w, (isAgg e).run P w = .ok false w) (a b : List Int) (ha : a.length = n) (hb : b.length = n) (w : World) :
    (Op.equalIn (d + 2) t (.agg (ints k a)) (.agg (ints k b))).run P w = .ok (decide (a = b)) w := by
  rw [run_equalIn_array w (d + 1) _ _ hu hi, hc, run_eqItems_ints d k ke hue h1 a b (by omega) w _ (fun i hi => by rw [List.mem_range] at hi; omega)]
  congr 1
  rw [Bool.eq_iff_iff]
  simp only [List.all_eq_true, List.mem_range, beq_iff_eq, decide_eq_true_eq]
  constructor
  · intro h
    exact el_ext (by omega) (fun k hk => h k (by omega))
  · intro h j _
    rw [h]
end Go
namespace Go
open Go.Dr
structure OwB (w0 : World) (L : List (Nat × Obj)) (w : World) : Prop where
  has : Has L w
  nd : (L.map Prod.fst).Nodup
  lo : ∀ p ∈ L, w0.heap.size ≤ p.1
  fr : Fr [] w0 w
variable {w0 w w' V wz : World} {L : List (Nat × Obj)} {b : Nat} {o o' : Obj}
theorem OwB.start (w : World) : OwB w [] w := ⟨.nil _, List.nodup_nil, (fun p hp => by cases hp), Fr.refl _ _⟩
theorem OwB.fresh (h : OwB w0 L V) (hb : V.heap.size ≤ b) : b ∉ L.map Prod.fst := fun hm => by
  obtain ⟨p, hp, rfl⟩ := List.mem_map.1 hm
  have := World.at_lt (h.has p hp)
  omega
theorem OwB.room (h : OwB w0 L w) (hb : w.blk b = some o) (hn : b ∉ L.map Prod.fst) (hl : w0.heap.size ≤ b) : OwB w0 ((b, o) :: L) w :=
  ⟨.cons hb h.has, List.nodup_cons.2 ⟨hn, h.nd⟩, (fun p hp => (List.mem_cons.1 hp).elim (fun e => e ▸ hl) (h.lo p)), h.fr⟩
theorem OwB.alloc (h : OwB w0 L w) (o : Obj) : OwB w0 ((w.heap.size, o) :: L) (w.alloc o) :=
  have h1 : OwB w0 L (w.alloc o) := ⟨h.has.alloc o, h.nd, h.lo, h.fr.alloc o⟩
  h1.room (World.at_alloc_new _ _ _ rfl) (h.fresh (Nat.le_refl _)) h.fr.size
theorem OwB.allocN (h : OwB w0 L w) (o : Obj) (a : Nat) (ha : a = w.heap.size) : OwB w0 ((a, o) :: L) (w.alloc o) := ha ▸ h.alloc o
theorem OwB.named {Q : World → Prop} (h : OwB w0 L V) (k : ∀ V', OwB w0 L V' → Q V') : Q V := k V h
theorem OwB.call (h : OwB w0 L w) (F : Fr [] w w') : OwB w0 L w' := ⟨h.has.fr0 F, h.nd, h.lo, h.fr.trans F⟩
theorem OwB.drew (h : OwB w0 L w) : OwB w0 L w.drew := ⟨h.has.drew, h.nd, h.lo, h.fr.drew⟩
theorem OwB.nth (h : OwB w0 L w) (i : Nat) (hi : L[i]? = some (b, o)) : w.blk b = some o := h.has.nth i hi
theorem OwB.lt (h : OwB w0 L w) (i : Nat) (hi : L[i]? = some (b, o)) : b < w.heap.size := World.at_lt (h.nth i hi)
theorem OwB.low (h : OwB w0 L w) (i : Nat) (hi : L[i]? = some (b, o)) : w0.heap.size ≤ b := h.lo (b, o) (List.mem_of_getElem? hi)
theorem OwB.ne (h : OwB w0 L w) (i j : Nat) {c : Nat} (hi : L[i]? = some (b, o)) (hj : L[j]? = some (c, o')) (hij : i ≠ j) : b ≠ c := by
  obtain ⟨hi', hi⟩ := List.getElem?_eq_some_iff.1 hi
  obtain ⟨hj', hj⟩ := List.getElem?_eq_some_iff.1 hj
  intro e
  have h1 : (L.map Prod.fst)[i]'(by simpa using hi') = (L.map Prod.fst)[j]'(by simpa using hj') := by simp [hi, hj, e]
  have h2 := List.pairwise_iff_getElem.1 h.nd
  rcases Nat.lt_or_gt_of_ne hij with hl | hl
  · exact h2 i j (by simpa using hi') (by simpa using hj') hl h1
  · exact h2 j i (by simpa using hj') (by simpa using hi') hl h1.symm
theorem map_fst_set (L : List (Nat × Obj)) (i : Nat) (hi : L[i]? = some (b, o)) : (L.set i (b, o')).map Prod.fst = L.map Prod.fst := by
  apply List.ext_getElem?
  intro j
  rw [List.getElem?_map, List.getElem?_map, List.getElem?_set]
  by_cases h : i = j
  · subst h
    obtain ⟨hi', hi⟩ := List.getElem?_eq_some_iff.1 hi
    simp [hi']
    rw [hi]
  · simp [h]
theorem OwB.set (h : OwB w0 L w) (i : Nat) (o' : Obj) (hi : L[i]? = some (b, o)) : OwB w0 (L.set i (b, o')) (w.put b o') := by
  have hlt := h.lt i hi
  have hlo := h.low i hi
  refine ⟨fun p hp => ?_, by rw [map_fst_set L i hi]; exact h.nd, fun p hp => ?_, h.fr.put b o' fun hb => by omega⟩
  · obtain ⟨j, hj, rfl⟩ := List.getElem_of_mem hp
    rw [List.length_set] at hj
    rw [List.getElem_set]
    by_cases hij : i = j
    · rw [if_pos hij]; exact World.at_put_same _ _ _ hlt
    · rw [if_neg hij]
      have hj' : L[j]? = some (L[j].1, L[j].2) := List.getElem?_eq_getElem hj
      rw [World.at_put_other _ _ _ _ (h.ne i j hi hj' hij)]
      exact h.nth j hj'
  · obtain ⟨j, hj, rfl⟩ := List.getElem_of_mem hp
    rw [List.length_set] at hj
    rw [List.getElem_set]
    by_cases hij : i = j
    · rw [if_pos hij]; exact hlo
    · rw [if_neg hij]; exact h.lo _ (List.getElem_mem hj)
theorem OwB.take (h : OwB w0 ((b, o) :: L) w) : OwB w0 L w := ⟨h.has.tail, (List.nodup_cons.1 h.nd).2, fun p hp => h.lo p (List.mem_cons_of_mem _ hp), h.fr⟩
/-- An operation that was listed ahead. -/
theorem after_on {ds : Array Edge} {L : Nat → Bool} (hd : ∀ e ∈ ds, Region.binds .any e = true → L e.on = true) {j : Nat} (h : (ds.any fun e => e.on == j && Region.binds .any e) = true) : L j = true := by
  rw [Array.any_eq_true'] at h
  obtain ⟨e, he, hb⟩ := h
  simp only [Bool.and_eq_true, beq_iff_eq] at hb
  rw [← hb.1]
  exact hd e he hb.2
end Go
namespace Go
theorem OwB.cast {w0 w : World} {L L' : List (Nat × Obj)} (e : L = L') (h : OwB w0 L' w) : OwB w0 L w := e ▸ h
theorem OwB.drop {w0 w : World} {L : List (Nat × Obj)} (h : OwB w0 L w) (i : Nat) : OwB w0 (L.eraseIdx i) w :=
  ⟨fun p hp => h.has p (List.mem_of_mem_eraseIdx hp), by
    exact h.nd.sublist ((List.eraseIdx_sublist L i).map Prod.fst), fun p hp => h.lo p (List.mem_of_mem_eraseIdx hp), h.fr⟩
end Go
namespace Go
theorem foldl_put (off : Nat) : ∀ (xs : List Value) (s : Nat) (base : Array Value), off + s + xs.length ≤ base.size →
    ((xs.zipIdx s).foldl (fun cs x => cs.setIfInBounds (off + x.2) x.1) base).size = base.size ∧
    ∀ j, ((xs.zipIdx s).foldl (fun cs x => cs.setIfInBounds (off + x.2) x.1) base)[j]? = if off + s ≤ j ∧ j < off + s + xs.length then xs[j - (off + s)]? else base[j]?
  | [], s, base, _ => ⟨rfl, fun j => by
    simp only [List.zipIdx_nil, List.foldl_nil, List.length_nil]
    rw [if_neg (by omega)]⟩
  | x :: xs, s, base, h => by
    simp only [List.zipIdx_cons, List.foldl_cons]
    simp only [List.length_cons] at h
    obtain ⟨h1, h2⟩ := foldl_put off xs (s + 1) (base.setIfInBounds (off + s) x) (by simp; omega)
    refine ⟨by rw [h1]; simp, fun j => ?_⟩
    rw [h2 j]
    simp only [List.length_cons]
    by_cases hj : j = off + s
    · subst hj
      rw [if_neg (by omega), if_pos (by omega), Array.getElem?_setIfInBounds_self_of_lt (by omega)]
      simp
    · by_cases hj2 : off + s ≤ j ∧ j < off + s + (xs.length + 1)
      · rw [if_pos (by omega), if_pos hj2]
        rw [show j - (off + s) = (j - (off + (s + 1))) + 1 from by omega, List.getElem?_cons_succ]
      · rw [if_neg (by omega), if_neg hj2, Array.getElem?_setIfInBounds_ne (by omega)]
theorem foldl_spl (off : Nat) (xs : List Value) (base : Array Value) (h : off + xs.length ≤ base.size) :
    (xs.zipIdx 0).foldl (fun cs x => cs.setIfInBounds (off + x.2) x.1) base = spl base off xs := by
  apply Array.ext_getElem?
  intro j
  rw [(foldl_put off xs 0 base (by omega)).2 j, getElem?_spl base off xs h j]
  simp only [Nat.add_zero]
  by_cases h1 : j < off
  · rw [if_neg (by omega), if_pos h1]
  · by_cases h2 : j < off + xs.length
    · rw [if_pos (by omega), if_neg h1, if_pos h2]
    · rw [if_neg (by omega), if_neg h1, if_neg h2]
@[go_sem] theorem foldl_zip (base : Array Value) (k : IntKind) (l : List Int) (off n : Nat) (hn : n = l.length) (h : off + l.length ≤ base.size) :
    Array.foldl (fun cs x => cs.setIfInBounds (off + x.snd) x.fst) base (ints k l).zipIdx 0 n = spl base off (l.map (Value.int k)) := by
  subst hn
  rw [← foldl_spl off _ base (by simpa using h)]
  rw [show l.length = (ints k l).zipIdx.size from by simp [ints], ← Array.foldl_toList]
  simp [ints]
@[go_sem] theorem foldl_zip0 (base : Array Value) (k : IntKind) (l : List Int) (n : Nat) (hn : n = l.length) (h : l.length ≤ base.size) :
    Array.foldl (fun cs x => cs.setIfInBounds x.snd x.fst) base (ints k l).zipIdx 0 n = spl base 0 (l.map (Value.int k)) := by
  rw [← foldl_zip base k l 0 n hn (by omega)]
  simp only [Nat.zero_add]
attribute [go_sem] size_spl
@[go_sem] theorem toArray_ints2 (k : IntKind) (a b : List Int) : (a.map (Value.int k) ++ b.map (Value.int k)).toArray = ints k (a ++ b) := by simp [ints]
@[go_sem] theorem pair_spl (c1 c2 : List Int) (h1 : c1.length = 5) (h2 : c2.length = 5) :
    spl (spl #[.int .u64 0, .int .u64 0, .int .u64 0, .int .u64 0, .int .u64 0, .int .u64 0, .int .u64 0, .int .u64 0, .int .u64 0, .int .u64 0] 0 (c1.map (Value.int .u64))) 5 (c2.map (Value.int .u64)) = ints .u64 (c1 ++ c2) := by
  rw [show (#[.int .u64 0, .int .u64 0, .int .u64 0, .int .u64 0, .int .u64 0, .int .u64 0, .int .u64 0, .int .u64 0, .int .u64 0, .int .u64 0] : Array Value) = ints .u64 (zs 10) from rfl, spl_ints, spl_ints]
  congr 1
  simp only [lay, h1, h2, zs, List.take_zero, List.nil_append]
  rw [List.take_append_of_le_length (by omega), List.take_of_length_le (by omega), List.drop_of_length_le (by simp [h1]), List.append_nil]
end Go
namespace Go.Dr
variable {P : Program} {fn : Func} {R : Ending → World → Prop} {a : Act} {w : World}
theorem ret_cell2 {p q ty tz b c : Nat} (h : fn.results = #[.cell p ty, .cell q tz]) (hp : a.tmps.getD p undef = .pointer (some ⟨b, 0, none⟩)) (hq : a.tmps.getD q undef = .pointer (some ⟨c, 0, none⟩)) (hd : a.defers = [])
    (hR : cellRet P ty (w.blk b) (fun v => cellRet P tz (w.blk c) (fun u => R (.returned (.tuple #[v, u])) w))) : bodyPost P fn R .ret a w := by
  unfold cellRet at hR
  split at hR
  · rename_i cs T fr hb
    obtain ⟨h1, hR⟩ := hR
    split at hR
    · rename_i ds T2 fr2 hc
      refine bodyPost_ret (v := .tuple #[.agg cs, .agg ds]) ?_ hd hR.2
      have hp' : a.tmps[p]?.getD undef = .pointer (some ⟨b, 0, none⟩) := by simpa using hp
      have hq' : a.tmps[q]?.getD undef = .pointer (some ⟨c, 0, none⟩) := by simpa using hq
      simp [results, h, hp', hq', asAddr, run_loadVar_agg hb h1, run_loadVar_agg hc hR.1]
    · exact hR.elim
  · exact hR.elim
theorem cellRet_of {ty T : Nat} {o : Option Obj} {cs : Array Value} {K : Value → Prop} (hb : o = some (.cells cs T)) (h : aggB P ty cs.size = true) (hK : K (.agg cs)) : cellRet P ty o K := by
  rw [hb]; exact ⟨h, hK⟩
theorem aggB_ints {ty n : Nat} {k : IntKind} {l : List Int} (hl : l.length = n) (h : aggB P ty n = true) : aggB P ty (ints k l).size = true := by rw [size_ints, hl]; exact h
end Go.Dr
namespace Go.Dr
section
variable {P : Program} {ops : Array Oper} {Q : Exit → Act → World → Prop} {S : World → Prop} {N : Nat}
/-- Every one from M on waits itself for each below M that is not listed. -/
def relB (ops : Array Oper) (M : Nat) (l0 : Array Bool) : Bool :=
  (List.range M).all fun i => l0.getD i false || (List.range (ops.size - M)).all fun t => waitsB .any ops (M + t) i
theorem relB_head {M : Nat} {l0 listed : Array Bool} (hT : relB ops M l0 = true) (hl : ∀ k, l0.getD k false = true → listed.getD k false = true) {i j : Nat} (hi : i < M) (hun : listed.getD i false = false) (hj : j ∈ Region.ready .any ops listed) : j < M := by
  rcases Nat.lt_or_ge j M with h | h
  · exact h
  · exfalso
    obtain ⟨_, o, ho, hall⟩ := mem_ready.1 hj
    have hjs : j < ops.size := (Array.getElem?_eq_some_iff.1 ho).1
    have h1 := List.all_eq_true.1 hT i (List.mem_range.2 hi)
    rw [Bool.or_eq_true] at h1
    rcases h1 with h1 | h1
    · rw [hl i h1] at hun; cases hun
    · have h2 := List.all_eq_true.1 h1 (j - M) (List.mem_range.2 (by omega))
      rw [show M + (j - M) = j from by omega] at h2
      obtain ⟨o', ho', e, he, hb, hon⟩ := waitsB_spec h2
      obtain rfl : o' = o := Option.some.inj (ho'.symm.trans ho)
      have := hall e he hb
      rw [hon, hun] at this; cases this

/-- Each operation waits only for ones ahead of it in the text. -/
def backB2 (ops : Array Oper) : Bool :=
  (List.range ops.size).all fun j => match ops[j]? with
    | some o => o.after.all fun e => !Region.binds .any e || decide (e.on < j)
    | none => true
theorem backB2_spec (h : backB2 ops = true) {j : Nat} {o : Oper} (ho : ops[j]? = some o) : ∀ e ∈ o.after, Region.binds .any e = true → e.on < j := by
  intro e he hb
  have h1 := List.all_eq_true.1 h j (List.mem_range.2 (Array.getElem?_eq_some_iff.1 ho).1)
  rw [ho] at h1
  have := (Array.all_eq_true_iff_forall_mem.1 h1) e he
  rw [hb] at this
  simpa using this
theorem drawn_inv_go2 {M : Nat} {l0 : Array Bool} (I : (Nat → Bool) → Act → World → Prop) {rest : Nat} (hT : relB ops M l0 = true) (hA : backB2 ops = true) (hNs : M ≤ ops.size) (hS : ∀ L a w, I L a w → S w)
    (step : ∀ (i : Nat) (o : Oper) (L : Nat → Bool) (a : Act) (w : World), ops[i]? = some o → i < M → L i = false → (∀ e ∈ o.after, Region.binds .any e = true → L e.on = true) → I L a w →
      ∀ K : Act → World → Prop, (∀ a' w', I (fun j => j == i || L j) a' w' → K a' w') → wpList P ops (Exit.then K fun e a w => e = .outgrown ∧ Q e a w) [o] a w)
    (fin : ∀ (a : Act) (w : World), I (fun j => decide (j < M)) a w → wpAnyS P .any ops (NoP Q) S N rest (Array.replicate M true ++ Array.replicate (ops.size - M) false) a w) :
    ∀ (m : Nat) (listed : Array Bool) (a : Act) (w : World), listed.size = ops.size → noTail M listed → closedL .any ops listed → (∀ k, l0.getD k false = true → listed.getD k false = true) → toCome listed M = m → I (fun j => listed.getD j false) a w →
      wpAnyS P .any ops (NoP Q) S N (rest + m) listed a w := by
  intro m
  induction m with
  | zero =>
    intro listed a w hsz hno hc hl0 hm hI
    have hall : ∀ j, j < M → listed.getD j false = true := by
      intro j hj
      cases h : listed.getD j false with
      | true => rfl
      | false =>
        have h1 : j ∈ (List.range M).filter fun j => !listed.getD j false := List.mem_filter.2 ⟨List.mem_range.2 hj, by simp [h]⟩
        have h2 : (List.range M).filter (fun j => !listed.getD j false) = [] := List.eq_nil_of_length_eq_zero hm
        rw [h2] at h1; cases h1
    have he : listed = Array.replicate M true ++ Array.replicate (ops.size - M) false := by
      refine Array.ext (by simp; omega) fun j h1 h2 => ?_
      by_cases hj : j < M
      · have := hall j hj
        rw [Array.getElem_append_left (by simpa using hj)]
        simpa [h1] using this
      · have := hno j (by omega)
        rw [Array.getElem_append_right (by simpa using Nat.le_of_not_lt hj)]
        simpa [h1] using this
    have hI' : I (fun j => decide (j < M)) a w := by
      have : (fun j => listed.getD j false) = fun j => decide (j < M) := by
        funext j
        by_cases hj : j < M
        · rw [hall j hj, decide_eq_true hj]
        · rw [hno j (by omega), decide_eq_false hj]
      rwa [this] at hI
    rw [he]
    exact fin a w hI'
  | succ m ih =>
    intro listed a w hsz hno hc hl0 hm hI
    have hex : ∃ i, i < M ∧ listed.getD i false = false := by
      have : (List.range M).filter (fun j => !listed.getD j false) ≠ [] := fun h => by
        unfold toCome at hm; rw [h] at hm; cases hm
      obtain ⟨i, hi⟩ := List.exists_mem_of_ne_nil _ this
      obtain ⟨h1, h2⟩ := List.mem_filter.1 hi
      exact ⟨i, List.mem_range.1 h1, by simpa using h2⟩
    refine ⟨fun h0 => ?_, fun i hi => ?_⟩
    · exfalso
      obtain ⟨i, hiN, hiu⟩ := hex
      have key : ∀ (n i : Nat), i < n → i < M → listed.getD i false = false → False := by
        intro n
        induction n with
        | zero => intro i h; exact absurd h (Nat.not_lt_zero _)
        | succ n ihn =>
          intro i hin hiN hiu
          have hio : i < ops.size := by omega
          have ho : ops[i]? = some ops[i] := Array.getElem?_eq_getElem hio
          by_cases hall : ∀ e ∈ ops[i].after, Region.binds .any e = true → listed.getD e.on false = true
          · have : i ∈ Region.ready .any ops listed := mem_ready.2 ⟨by
              have h2 : i < listed.size := by omega
              simpa [h2] using hiu, _, ho, hall⟩
            rw [h0] at this; cases this
          · have hex2 : ∃ e, e ∈ ops[i].after ∧ Region.binds .any e = true ∧ listed.getD e.on false = false := by
              refine Classical.byContradiction fun hn => hall fun e he hbe => ?_
              cases h : listed.getD e.on false with
              | true => rfl
              | false => exact (hn ⟨e, he, hbe, h⟩).elim
            obtain ⟨e, he, hbe, heu⟩ := hex2
            have := backB2_spec hA ho e he hbe
            exact ihn e.on (by omega) (by omega) heu
      exact key (i + 1) i (Nat.lt_succ_self i) hiN hiu
    · obtain ⟨hiu, o, ho, hall⟩ := mem_ready.1 hi
      have hiu' := getD_both' hiu
      obtain ⟨i0, hi0, hu0⟩ := hex
      have hiN : i < M := relB_head hT hl0 hi0 hu0 hi
      have h := step i o _ a w ho hiN hiu' hall hI (fun a' w' => (N ≤ i ∨ S w') ∧ wpAnyS P .any ops (NoP Q) S N (rest + m) (listed.setIfInBounds i true) a' w') (fun a' w' hI' => by
        refine ⟨.inr (hS _ _ _ hI'), ih _ a' w' (by simpa using hsz) (noTail_set hno hiN) (closedL_set hc hi) (fun k hk => ?_) ?_ ?_⟩
        · by_cases hik : i = k
          · subst hik
            have h2 : i < listed.size := by omega
            simp [h2]
          · rw [getD_set_ne false hik]; exact hl0 k hk
        · have := toCome_set hiN (by omega) hiu'
          omega
        · have : (fun j => (listed.setIfInBounds i true).getD j false) = fun j => j == i || listed.getD j false := by
            funext j
            by_cases hji : i = j
            · subst hji
              have h2 : i < listed.size := by omega
              simp [h2]
            · rw [getD_set_ne false hji, show (j == i) = false from by simpa using Ne.symm hji]
              simp
          rw [this]
          exact hI')
      have h1 : wpList P ops (Exit.then (fun a' w' => (N ≤ i ∨ S w') ∧ wpAnyS P .any ops (NoP Q) S N (rest + m) (listed.setIfInBounds i true) a' w') (NoP Q)) [o] a w :=
        wpList_imp (fun e a w h => by
          cases e <;> first | exact h | exact h.2 | (exact absurd h.1 (by simp))) _ _ _ h
      unfold wpOp
      simp only [ho]
      unfold wpList at h1
      split
      · rename_i hw
        rw [if_pos hw] at h1
        rcases h1 with h1 | ⟨ha, a', w', hl⟩
        · left
          revert h1
          unfold Oper.wp
          generalize (execOp a.eval o).run P w = r
          intro h1
          cases r with
          | ok n w' =>
            cases n <;> simp only [Oper.upon] at h1 ⊢
            case value v => exact h1
            case skip => exact h1
            case defer d => exact h1
            case enter f args =>
              refine Calls.mono h1 (fun e w'' he => ?_)
              cases e <;> exact he
            case row row args => exact Rows.mono h1 (fun v w'' he => he)
          | halt x w' => cases x <;> simp only [Oper.upon] at h1 ⊢ <;> exact h1
        · exact .inr ⟨ha, a', w', hl⟩
      · rename_i hw
        rw [if_neg hw] at h1
        exact h1

/-- What is checked of the region: the head's M, listed so far. -/
def parB2 (ops : Array Oper) (M : Nat) (listed : Array Bool) (m : Nat) : Bool :=
  relB ops M listed && backB2 ops && decide (M ≤ ops.size) && decide (listed.size = ops.size) && ((List.range (listed.size - M)).all fun i => !listed.getD (M + i) false) && closedB .any ops listed && decide (toCome listed M = m)
/-- THE REGION WITH MANY WRITERS, IN WHATEVER ORDER: an invariant I over what is listed, over a value for each slot of ds. -/
theorem drawn_inv2 (M : Nat) (ds : List Nat) (I : (Nat → Bool) → (Nat → Value) → World → Prop) (s : Nat → Value) (m : Nat) {rest : Nat} {listed : Array Bool} {b : Act} {w : World}
    (chk : parB2 ops M listed m = true) (hS : ∀ L s w, I L s w → S w) (ha : fill s ds b = b) (hI : I (fun j => listed.getD j false) s w)
    (step : ∀ (i : Nat) (o : Oper) (L : Nat → Bool) (s : Nat → Value) (w : World), ops[i]? = some o → i < M → L i = false → (∀ e ∈ o.after, Region.binds .any e = true → L e.on = true) → I L s w →
      ∀ K : Act → World → Prop, (∀ a' w', (∃ s', a' = fill s' ds b ∧ I (fun j => j == i || L j) s' w') → K a' w') → wpList P ops (Exit.then K fun e a w => e = .outgrown ∧ Q e a w) [o] (fill s ds b) w)
    (fin : ∀ (s : Nat → Value) (w : World), I (fun j => decide (j < M)) s w → wpAnyS P .any ops (NoP Q) S N rest (Array.replicate M true ++ Array.replicate (ops.size - M) false) (fill s ds b) w) :
    wpAnyS P .any ops (NoP Q) S N (rest + m) listed b w := by
  simp only [parB2, Bool.and_eq_true, decide_eq_true_eq] at chk
  obtain ⟨⟨⟨⟨⟨⟨h1, h2⟩, h3⟩, h4⟩, h5⟩, h6⟩, h7⟩ := chk
  refine drawn_inv_go2 (fun L a w => ∃ s, a = fill s ds b ∧ I L s w) h1 h2 h3 (fun L a w h => ?_) (fun i o L a w ho hi hL hd h K hK => ?_) (fun a w h => ?_) m listed b w h4 (fun t ht => ?_) (closedB_spec h6) (fun _ h => h) h7 ⟨s, ha.symm, hI⟩
  · obtain ⟨s, _, h⟩ := h; exact hS _ _ _ h
  · obtain ⟨s, rfl, h⟩ := h
    exact step i o L s w ho hi hL hd h K (fun a' w' h' => hK _ _ h')
  · obtain ⟨s, rfl, h⟩ := h
    exact fin s w h
  · by_cases hlt : t < listed.size
    · have := List.all_eq_true.1 h5 (t - M) (List.mem_range.2 (by omega))
      rw [show M + (t - M) = t from by omega] at this
      simpa using this
    · simp [Array.getElem?_eq_none (Nat.le_of_not_lt hlt)]
end
end Go.Dr
namespace Go
open Go.Dr

/-! ### What is appended -/
/-- Appending x yields so many elements, these cells. -/
structure Apd (P : Program) (t tx : TypeId) (e : TypeId) (i : TypeInfo) (z : Value) (x : Value) (m : Nat) (news : List Value) (w : World) : Prop where
  len : news.length = m * i.size
  one : ∀ u ∈ news, u.oneCell' = true
  room : ∀ ty g n cap, n + m ≤ cap → (Builtin.append_ #[t, tx] ty #[.slice (some ⟨g, 0, none⟩) n cap, x]).run P w = ((storeCells ⟨g, n * i.size, none⟩ news).run P w).andThen fun _ w' => .ok (.slice (some ⟨g, 0, none⟩) (n + m) cap) w'
  none : m = 0 → ∀ ty, (Builtin.append_ #[t, tx] ty #[.slice none 0 0, x]).run P w = .ok (.slice none 0 0) w
  grow : ∀ ty base n cap (olds : List Value), (Builtin.firstCells i.size n (.slice base n cap)).run P w.drew = .ok olds.toArray w.drew → cap < n + m → ((n + m : Nat) : Int) ≤ 9223372036854775807 → Builtin.nextslicecap (n + m) cap * i.bytes ≤ 281474976710656 → (m : Int) * i.bytes ≤ 281474976710656 →
    (Builtin.append_ #[t, tx] ty #[.slice base n cap, x]).run P w = .ok (.slice (some ⟨w.heap.size, 0, Option.none⟩) (n + m) (grownCap w (n + m) cap e)) (w.drew.alloc (.cells ((olds ++ news).toArray ++ Builtin.zeroCells z.cells (grownCap w (n + m) cap e - (n + m))) e))
section
variable {P : Program} {w : World} {t tx e : TypeId} {i : TypeInfo} {z : Value}
theorem Apd.ofSrc (ht : P.underlying t = some (.slice e)) (hi : P.info? e = some i) (hz : i.zero = some z) {x : Value} {m : Nat} {news : List Value} (hs : Src P i.size tx x m news w) : Apd P t tx e i z x m news w := by
  refine ⟨hs.newsLen, hs.one, fun ty g n cap hr => ?_, fun h0 ty => ?_, fun ty base n cap olds hold hg h63 hfit _ => run_append_grow_src w t tx ty e i z ht hi hz base n cap olds hold x m news hs hg h63 hfit⟩
  · rcases hs.kind with ⟨e', hk⟩ | hk <;> simp [Builtin.append_, run_underlying ht, run_underlying hk, sizeOf, typeInfo, hi, hs.len, hr, hs.cells, Addr.add_lit]
  · subst h0
    rcases hs.kind with ⟨e', hk⟩ | hk <;> simp [Builtin.append_, run_underlying ht, run_underlying hk, sizeOf, typeInfo, hi, hs.len, hs.cells]
theorem zeroCells_none (c : Array Value) : Builtin.zeroCells c 0 = #[] := by simp [Builtin.zeroCells]
theorem Apd.ofZeros (ht : P.underlying t = some (.slice e)) (htn : P.underlying tx = some (.int .i64)) (hi : P.info? e = some i) (hz : i.zero = some z) (hzs : z.cells.size = i.size) (h1 : ∀ u ∈ z.cells, u.oneCell' = true) (m : Nat) (hm : (m : Int) ≤ 9223372036854775807) (hmb : (m : Int) * i.bytes ≤ 281474976710656) :
    Apd P t tx e i z (.int .i64 m) m (Builtin.zeroCells z.cells m).toList w := by
  have hw : IntKind.i64.wrap (m : Int) = m := by rw [IntKind.wrap_i64]; omega
  have h0 : ¬ ((m : Int) < 0) := by omega
  have hb : ¬ (281474976710656 < (m : Int) * (i.bytes : Int)) := by omega
  have hz0 : m * i.size = 0 → Builtin.zeroCells z.cells m = #[] := fun h => by
    apply Array.eq_empty_of_size_eq_zero
    rw [size_zeroCells, hzs, h]
  refine ⟨by rw [Array.length_toList, size_zeroCells, hzs], fun u hu => ?_, fun ty g n cap hr => ?_, fun hm0 ty => ?_, fun ty base n cap olds hold hg h63 hfit _ => ?_⟩
  · simp only [Builtin.zeroCells, Array.toList_map, List.mem_map, Array.mem_toList_iff, Array.mem_range] at hu
    obtain ⟨j, hj, rfl⟩ := hu
    have hp : 0 < z.cells.size := by
      rcases Nat.eq_zero_or_pos z.cells.size with h | h
      · rw [h] at hj; simp at hj
      · exact h
    have hlt := Nat.mod_lt j hp
    rw [getElem!_pos z.cells (j % z.cells.size) hlt]
    exact h1 _ (Array.getElem_mem hlt)
  · by_cases hzz : m * i.size = 0
    · simp [Builtin.append_, run_underlying ht, run_underlying htn, sizeOf, typeInfo, hi, hw, h0, hb, hr, hzz, hz0 hzz, Addr.add_lit, asInt, asIntOf]
    · simp [Builtin.append_, run_underlying ht, run_underlying htn, sizeOf, typeInfo, zeroValue, hz, hi, hw, h0, hb, hr, hzz, Addr.add_lit, asInt, asIntOf]
  · subst hm0
    have hw0 : IntKind.i64.wrap 0 = 0 := by rw [IntKind.wrap_i64]; omega
    simp [Builtin.append_, run_underlying ht, run_underlying htn, sizeOf, typeInfo, hi, hw0, asInt, asIntOf]
  · have hn : ¬ (n + m ≤ cap) := by omega
    have h63' : ¬ (9223372036854775807 < ((n : Int) + (m : Int))) := by omega
    have h48' : ¬ (281474976710656 < Builtin.nextslicecap (n + m) cap * i.bytes) := by omega
    by_cases hzz : m * i.size = 0
    · simp [Builtin.append_, run_underlying ht, run_underlying htn, sizeOf, typeInfo, zeroValue, hi, hz, hw, h0, hb, hn, h63', h48', Question.forced, hold, newRow, grownCap, hzz, hz0 hzz, asInt, asIntOf]
    · simp [Builtin.append_, run_underlying ht, run_underlying htn, sizeOf, typeInfo, zeroValue, hi, hz, hw, h0, hb, hn, h63', h48', Question.forced, hold, newRow, grownCap, hzz, asInt, asIntOf]
      congr 2
      apply Array.ext'
      simp [List.append_assoc]

/-- append onto a row of the call's own. -/
theorem run_apd (ht : P.underlying t = some (.slice e)) (hi : P.info? e = some i) (hz : i.zero = some z) (hzs : z.cells.size = i.size) (hsz : 0 < i.size) {ty : TypeId} {p : Option Addr} {n cap : Nat} {xs : List Value}
    (hown : OwnsR w e i.size p n cap xs) {x : Value} {m : Nat} {news : List Value} (S : Apd P t tx e i z x m news w) (h63 : n + m ≤ 4611686018427387904) (hbytes : (n + m) * i.bytes ≤ 140737488355328) :
    ∃ p' cap' w', (Builtin.append_ #[t, tx] ty #[.slice p n cap, x]).run P w = .ok (.slice p' (n + m) cap') w' ∧ OwnsR w' e i.size p' (n + m) cap' (xs ++ news) ∧ w.grownBy w' (p.map (·.block)) ∧
      (∀ g, p'.map (·.block) = some g → p.map (·.block) = some g ∨ w.heap.size ≤ g) := by
  have h63' : n + m ≤ maxLen := by unfold maxLen; omega
  have hmb : (m : Int) * i.bytes ≤ 281474976710656 := by
    have h1 : m * i.bytes ≤ (n + m) * i.bytes := Nat.mul_le_mul_right _ (Nat.le_add_left _ _)
    have h2 : ((m * i.bytes : Nat) : Int) ≤ 140737488355328 := by omega
    rw [Int.natCast_mul] at h2
    omega
  have hlen : (xs ++ news).length = (n + m) * i.size := by rw [List.length_append, hown.1, S.len, Nat.add_mul]
  have grown : ∀ (old : Nat), old < n + m → ∀ (row : Option Nat),
      OwnsR (w.drew.alloc (.cells ((xs ++ news).toArray ++ Builtin.zeroCells z.cells (grownCap w (n + m) old e - (n + m))) e)) e i.size (some ⟨w.heap.size, 0, none⟩) (n + m) (grownCap w (n + m) old e) (xs ++ news) ∧
      w.grownBy (w.drew.alloc (.cells ((xs ++ news).toArray ++ Builtin.zeroCells z.cells (grownCap w (n + m) old e - (n + m))) e)) row := by
    intro old ho row
    have hge := grownCap_ge w (n + m) old e
    have hcm : grownCap w (n + m) old e ≤ maxLen := grownCap_le_maxLen w (n + m) old e h63'
    refine ⟨⟨hlen, .inr ⟨w.heap.size, _, _, rfl, Nat.zero_le _, heap_alloc_new w.drew _, hge, hcm, ?_, ?_⟩⟩, ⟨rfl, rfl, rfl, by simp, fun b hb _ => World.at_alloc_lt w.drew _ b hb⟩⟩
    · simp only [Array.size_append, List.size_toArray, size_zeroCells, hzs, hlen, ← Nat.add_mul]
      congr 1
      omega
    · simp only [Array.toList_append]
      rw [← hlen]
      exact List.take_left
  rcases hown.2 with ⟨hv, h0⟩ | ⟨g, cap2, cur, hv, _, hg, hnc, hcm, hcs, htake⟩
  · simp only [Value.slice.injEq] at hv
    obtain ⟨rfl, _, rfl⟩ := hv
    subst h0
    have hx : xs = [] := List.eq_nil_of_length_eq_zero (by simpa using hown.1)
    subst hx
    by_cases hm : m = 0
    · have hn : news = [] := List.eq_nil_of_length_eq_zero (by simp [S.len, hm])
      have hr := S.none hm ty
      subst hn hm
      exact ⟨none, 0, w, hr, World.ownsRow_nil w 0 e i.size, ⟨rfl, rfl, rfl, Nat.le_refl _, fun _ _ _ => rfl⟩, by simp⟩
    · have hgr := grown 0 (by omega) none
      have hr := S.grow ty none 0 0 [] (by simp [Builtin.firstCells]) (by omega) (by omega) (growslice_fits (by omega) hbytes) hmb
      exact ⟨_, _, _, hr, hgr.1, hgr.2, fun g hg => .inr (by simp at hg; omega)⟩
  · simp only [Value.slice.injEq] at hv
    obtain ⟨rfl, _, rfl⟩ := hv
    by_cases hroom : n + m ≤ cap
    · have hfit : n * i.size + news.length ≤ cur.size := by rw [S.len, hcs, ← Nat.add_mul]; exact Nat.mul_le_mul_right _ hroom
      have hst := run_storeCells_at P g (n * i.size) e news 0 cur w hg (by simpa using hfit) S.one
      simp only [Nat.add_zero] at hst
      have hr := S.room ty g n cap hroom
      rw [hst] at hr
      refine ⟨_, _, _, hr, ⟨hlen, .inr ⟨g, cap, _, rfl, Nat.zero_le _, setRow_heap w g cur _ e _ hg, hroom, hcm, ?_, ?_⟩⟩, ⟨rfl, rfl, rfl, by simp, fun k _ hk => setRow_other w g k _ (fun e => hk (by simp [e]))⟩, fun g' hg' => .inl hg'⟩
      · simp only [List.size_toArray, List.length_append, List.length_take, List.length_drop, Array.length_toList]
        omega
      · rw [htake, ← hlen]
        exact List.take_left
    · have holds : ∀ j u, xs[j]? = some u → w.cell? ((⟨g, 0, none⟩ : Addr).add j) = some u := hown.cells (g := g) rfl
      have hgr := grown cap (by omega) (some g)
      have hr := S.grow ty (some ⟨g, 0, none⟩) n cap xs (run_firstCells_some w.drew i.size n _ n cap xs hown.1 (by simpa using holds)) (by omega) (by omega) (growslice_fits (by omega) hbytes) hmb
      exact ⟨_, _, _, hr, hgr.1, hgr.2, fun g' hg' => .inr (by simp at hg'; omega)⟩
end

/-! ### A slice that reads as a list -/
structure Sl (k : IntKind) (w : World) (p : Option Addr) (n cap : Nat) (l : List Int) : Prop where
  len : l.length = n
  cap_ : n ≤ cap
  row : n = 0 ∨ ∃ b off cs T fr, p = some ⟨b, off, none⟩ ∧ w.blk b = some (.cells cs T fr) ∧ off + n ≤ cs.size ∧ (cs.extract off (off + n)).toList = l.map (Value.int k)
  nil : p = none → cap = 0
  mid : True
section
variable {k : IntKind} {w w' : World} {p : Option Addr} {n cap : Nat} {l : List Int}
theorem Sl.fr {fp : List Nat} (h : Sl k w p n cap l) (F : Fr fp w w') (hn : ∀ b, p.map (·.block) = some b → b ∉ fp) : Sl k w' p n cap l := by
  refine ⟨h.len, h.cap_, ?_, h.nil, h.mid⟩
  rcases h.row with h0 | ⟨b, off, cs, T, fr, rfl, hb, hs, hl⟩
  · exact .inl h0
  · exact .inr ⟨b, off, cs, T, fr, rfl, F.get hb (hn b rfl), hs, hl⟩
theorem Sl.fr0 (h : Sl k w p n cap l) (F : Fr [] w w') : Sl k w' p n cap l := h.fr F fun _ _ => by simp
theorem Sl.out (h : Sl k w p n cap l) (h0 : 0 < n) : ∃ b off cs T fr, p = some ⟨b, off, none⟩ ∧ w.blk b = some (.cells cs T fr) ∧ off + n ≤ cs.size ∧ (cs.extract off (off + n)).toList = l.map (Value.int k) := by
  rcases h.row with h1 | h1
  · omega
  · exact h1
theorem Sl.of {b off : Nat} {cs : Array Value} {T : TypeId} {fr : Nat × Nat} (hb : w.blk b = some (.cells cs T fr)) (hs : off + n ≤ cs.size) (hl : (cs.extract off (off + n)).toList = l.map (Value.int k)) (hc : n ≤ cap) : Sl k w (some ⟨b, off, none⟩) n cap l := by
  refine ⟨?_, hc, .inr ⟨b, off, cs, T, fr, rfl, hb, hs, hl⟩, by simp, trivial⟩
  have := congrArg List.length hl
  simp only [Array.length_toList, Array.size_extract, List.length_map] at this
  omega
theorem Sl.ofInts {b off : Nat} {A : List Int} {T : TypeId} {fr : Nat × Nat} (hb : w.blk b = some (.cells (ints k A) T fr)) (hs : off + n ≤ A.length) (hl : (A.drop off).take n = l) (hc : n ≤ cap) : Sl k w (some ⟨b, off, none⟩) n cap l := by
  refine Sl.of hb (by rw [size_ints]; exact hs) ?_ hc
  rw [extract_ints, toList_ints, ← hl, List.drop_take, Nat.add_sub_cancel_left]
theorem Sl.ofRow {b o : Nat} {T : List Int} {r : Array Value} {e : TypeId} {fr : Nat × Nat} (hb : w.blk b = some (.cells (rowR k T r) e fr)) (ho : o + n ≤ T.length) (hc : n ≤ cap) : Sl k w (some ⟨b, o, none⟩) n cap ((T.drop o).take n) := by
  refine Sl.of hb (by rw [size_rowR]; omega) ?_ hc
  rw [rowR, Array.toList_extract, List.extract_eq_take_drop, Array.toList_append, toList_ints, List.drop_append_of_le_length (by rw [List.length_map]; omega), Nat.add_sub_cancel_left, List.take_append_of_le_length (by rw [List.length_drop, List.length_map]; omega), ← List.map_drop, ← List.map_take]
/-- A part of it: from i on, so many. -/
theorem Sl.part (h : Sl k w p n cap l) {i j c : Nat} (hij : i ≤ j) (hj : j ≤ n) (hc1 : j ≤ c) (hc2 : c ≤ cap) : Sl k w (if c = i then p else p.map (·.add i)) (j - i) (c - i) ((l.take j).drop i) := by
  have hmid : True := trivial
  refine ⟨by rw [List.length_drop, List.length_take, h.len]; omega, by omega, ?_, ?_, hmid⟩
  · by_cases h0 : j - i = 0
    · exact .inl h0
    · obtain ⟨b, off, cs, T, fr, rfl, hb, hs, hl⟩ := h.out (by omega)
      refine .inr ⟨b, off + i, cs, T, fr, by rw [if_neg (by omega)]; simp [Addr.add_mid], hb, by omega, ?_⟩
      have e : (cs.extract (off + i) (off + i + (j - i))).toList = (((cs.extract off (off + n)).toList.take j).drop i) := by
        simp only [Array.toList_extract, List.extract_eq_take_drop]
        rw [List.take_take, Nat.min_eq_left (by omega), List.drop_take, List.drop_drop]
        congr 1
        omega
      rw [e, hl, ← List.map_take, ← List.map_drop]
  · intro hp
    split at hp
    · rw [h.nil hp] at hc2; omega
    · rw [Option.map_eq_none_iff] at hp
      rw [h.nil hp] at hc2; omega
theorem Sl.front (h : Sl k w p n cap l) {j : Nat} (hj : j ≤ n) : Sl k w p j cap (l.take j) := by
  have h1 := h.part (i := 0) (j := j) (c := cap) (by omega) hj (by have := h.cap_; omega) (Nat.le_refl _)
  have e : (if cap = 0 then p else p.map (·.add 0)) = p := by
    split
    · rfl
    · cases hp : p with
      | none => rfl
      | some a =>
        simp [Addr.add_zero']
  rw [e] at h1
  exact h1
/-- An element of it. -/
theorem Sl.at (h : Sl k w p n cap l) {j : Nat} (hj : j < n) : ∃ b off cs T fr, p = some ⟨b, off, none⟩ ∧ w.blk b = some (.cells cs T fr) ∧ off + j < cs.size ∧ cs[off + j]? = some (.int k (el l j)) := by
  obtain ⟨b, off, cs, T, fr, hp, hb, hs, hl⟩ := h.out (by omega)
  refine ⟨b, off, cs, T, fr, hp, hb, by omega, ?_⟩
  have e : (cs.extract off (off + n)).toList[j]? = cs[off + j]? := by
    rw [Array.getElem?_toList, Array.getElem?_extract_of_lt (by omega)]
    exact (Array.getElem?_eq_getElem (by omega)).symm
  rw [← e, hl, List.getElem?_map]
  have hlt : j < l.length := by rw [h.len]; exact hj
  rw [List.getElem?_eq_getElem hlt]
  simp [el, hlt]
theorem Sl.src {P : Program} {t e' : TypeId} (h : Sl k w p n cap l) (hk : P.underlying t = some (.slice e')) : Src P 1 t (.slice p n cap) n (l.map (Value.int k)) w := by
  rcases Nat.eq_zero_or_pos n with rfl | h0
  · have hl : l = [] := List.eq_nil_of_length_eq_zero h.len
    subst hl
    cases p with
    | none => rw [h.nil rfl]; exact Src.ofNil w hk 0
    | some a => exact Src.ofSlice w hk a 0 cap [] rfl (by simp) (by simp)
  · obtain ⟨b, off, cs, T, fr, rfl, hb, hs, hl⟩ := h.out h0
    refine Src.ofSlice w hk _ n cap _ (by rw [List.length_map, h.len, Nat.mul_one]) ?_ (fun u hu => by obtain ⟨x, _, rfl⟩ := List.mem_map.1 hu; rfl)
    intro j u hu
    have hj : j < n := by have := (List.getElem?_eq_some_iff.1 hu).1; rw [List.length_map, h.len] at this; exact this
    rw [Addr.add_mid, World.cell?_at, hb]
    rw [← hl, Array.getElem?_toList, Array.getElem?_extract_of_lt (by omega)] at hu
    show cs[off + j]? = some u
    rw [Array.getElem?_eq_getElem (by omega)]; exact hu
end

/-! ### A slice of the call's own that grows -/
/-- Beside the call's other blocks (L), one row of its own: read as l. -/
structure Bld (w0 : World) (L : List (Nat × Obj)) (k : IntKind) (e : Nat) (w : World) (p : Option Addr) (n cap : Nat) (l : List Int) : Prop where
  own : OwB w0 L w
  row : OwnsR w e 1 p n cap (l.map (Value.int k))
  new : ∀ g, p.map (·.block) = some g → w0.heap.size ≤ g ∧ g ∉ L.map Prod.fst
section
variable {w0 w w' : World} {L : List (Nat × Obj)} {k : IntKind} {e : Nat} {p : Option Addr} {n cap : Nat} {l : List Int}
theorem Bld.len (h : Bld w0 L k e w p n cap l) : l.length = n := by have := h.row.1; simpa using this
theorem Bld.nil (h : OwB w0 L w) : Bld w0 L k e w none 0 0 [] := ⟨h, World.ownsRow_nil w 0 e 1, fun g hg => by cases hg⟩
theorem Bld.call (h : Bld w0 L k e w p n cap l) (F : Fr [] w w') : Bld w0 L k e w' p n cap l := ⟨h.own.call F, F.owns h.row fun _ _ => by simp, h.new⟩
theorem Bld.room {b : Nat} (h : Bld w0 L k e w (some ⟨b, 0, none⟩) n cap l) : ∃ r, OwB w0 ((b, .cells (rowR k l r) e (0, 0)) :: L) w ∧ cap = n + r.size := by
  obtain ⟨r, hb, hc, hn, _⟩ := OwnsR.out h.row
  exact ⟨r, h.own.room hb (h.new b rfl).2 (h.new b rfl).1, by rw [hc, hn]⟩
theorem Bld.of {b : Nat} {r : Array Value} (h : OwB w0 ((b, .cells (rowR k l r) e (0, 0)) :: L) w) (hm : l.length + r.size ≤ maxLen) : Bld w0 L k e w (some ⟨b, 0, none⟩) l.length (l.length + r.size) l :=
  ⟨h.take, OwnsR.mk' (h.nth 0 rfl) hm, fun g hg => by
    simp only [Option.map_some, Option.some.injEq] at hg
    subst hg
    exact ⟨h.low 0 rfl, (List.nodup_cons.1 h.nd).1⟩⟩
theorem Bld.made (h : OwB w0 L w) (c : Nat) (hc : c ≤ maxLen) : Bld w0 L k e (w.alloc (.cells (ints k (zs c)) e)) (some ⟨w.heap.size, 0, none⟩) 0 c [] := by
  have h1 := h.alloc (.cells (ints k (zs c)) e)
  have e1 : rowR k [] (ints k (zs c)) = ints k (zs c) := by simp [rowR, ints]
  have h2 := Bld.of (k := k) (l := []) (r := ints k (zs c)) (by rw [e1]; exact h1) (by rw [size_ints, length_zs]; simpa using hc)
  rw [size_ints, length_zs] at h2
  simpa using h2
theorem Bld.sl (h : Bld w0 L k e w p n cap l) : Sl k w p n cap l := by
  have hl := h.len
  rcases h.row.2 with ⟨hv, h0⟩ | ⟨g, c, cur, hv, _, hg, hnc, hcm, hcs, ht⟩
  · simp only [Value.slice.injEq] at hv
    obtain ⟨rfl, _, rfl⟩ := hv
    exact ⟨hl, by omega, .inl h0, fun _ => rfl, by simp⟩
  · simp only [Value.slice.injEq] at hv
    obtain ⟨rfl, _, rfl⟩ := hv
    refine Sl.of hg (by rw [hcs]; omega) ?_ hnc
    rw [Array.toList_extract, List.extract_eq_take_drop]
    simpa using ht
theorem Bld.cap_le (h : Bld w0 L k e w p n cap l) : n ≤ cap ∧ cap ≤ maxLen := by
  rcases h.row.2 with ⟨hv, h0⟩ | ⟨g, c, cur, hv, _, hg, hnc, hcm, hcs, ht⟩
  · simp only [Value.slice.injEq] at hv
    omega
  · simp only [Value.slice.injEq] at hv
    omega
/-- An append onto it. -/
theorem wpList_apd {P : Program} {ops : Array Oper} {rest : List Oper} {o : Oper} {a : Act} {Q : Exit → Act → World → Prop} (hgd : o.guard = none) (s x : Operand) (t tx : TypeId)
    (ho : o.op = .call { callee := .builtin .append, args := #[s, x], argTypes := #[t, tx] }) {i : TypeInfo} {z : Value} {bytes : Nat}
    (ht : P.underlying t = some (.slice e)) (hi : P.info? e = some i) (hz : i.zero = some z) (hsz : i.size = 1) (hby : i.bytes = bytes) (hzs : z.cells.size = 1)
    (hs : a.eval s = .slice p n cap) (B : Bld w0 L k e w p n cap l) {v : Value} (hx : a.eval x = v) {m : Nat} {l2 : List Int} (S : Apd P t tx e i z v m (l2.map (Value.int k)) w)
    (hbig : (n + m) * bytes ≤ 140737488355328) (h63 : n + m ≤ 4611686018427387904)
    (h : ∀ p' cap' w', Bld w0 L k e w' p' (n + m) cap' (l ++ l2) → wpList P ops Q rest (a.put o.dst (.slice p' (n + m) cap')) w') : wpList P ops Q (o :: rest) a w := by
  refine wpList_plain hgd fun K hK => ?_
  have hrow := B.row
  rw [← hsz] at hrow
  obtain ⟨p', cap', w', hr, h2, h3, h4⟩ := run_apd (w := w) (ty := o.type) ht hi hz (by rw [hzs, hsz]) (by omega) hrow S h63 (by rw [hby]; exact hbig)
  unfold Oper.wp execOp
  simp only [ho, resolve, invoke, builtin, Sem.run_bind, Sem.run_pure, Result.andThen_ok, List.map_toArray, List.map_cons, List.map_nil, hs, hx, hr]
  refine hK _ _ (h p' cap' w' ⟨?_, ?_, fun g hg => ?_⟩)
  · refine ⟨fun q hq => ?_, B.own.nd, B.own.lo, B.own.fr.seq ((Fr.refl (p.map (·.block)).toList w).grown h3 fun g hg _ => by simp [hg]) fun b hb hlt => ?_⟩
    · have hq2 := B.own.has q hq
      exact (h3.block q.1 (World.at_lt hq2) (fun e => (B.new q.1 e.symm).2 (List.mem_map_of_mem hq))).trans hq2
    · have hb' : p.map (·.block) = some b := by
        cases hp : p.map (·.block) with
        | none => rw [hp] at hb; cases hb
        | some c => rw [hp] at hb; simp only [Option.toList_some, List.mem_singleton] at hb; rw [hb]
      have := (B.new b hb').1
      omega
  · rw [hsz] at h2
    rw [List.map_append]
    exact h2
  · rcases h4 g hg with h5 | h5
    · exact B.new g h5
    · exact ⟨Nat.le_trans B.own.fr.size h5, B.own.fresh h5⟩
end
end Go
namespace Go
section
variable {P : Program} {ops : Array Oper} {md : Region.Mode} {C : World → Prop}
def wpAnyLQ (P : Program) (md : Region.Mode) (ops : Array Oper) (C : World → Prop) (n : Nat) (L : Array Bool → Act → Prop) : Nat → Array Bool → Act → Prop
  | 0, listed, a => L listed a
  | f + 1, listed, a =>
    Region.ready md ops listed ≠ [] ∧ ∀ i ∈ Region.ready md ops listed, i < n ∧ qOp P ops C i (wpAnyLQ P md ops C n L f (listed.setIfInBounds i true)) a
theorem wpAny_of_headQ {n g : Nat} {L : Array Bool → Act → Prop} {Q' : Exit → Act → World → Prop} (hL : ∀ listed a w, C w → L listed a → wpAny P md ops Q' g listed a w) :
    ∀ (f : Nat) (listed : Array Bool) (a : Act) (w : World), C w → wpAnyLQ P md ops C n L f listed a → wpAny P md ops Q' (f + g) listed a w
  | 0, listed, a, w, hw, h => by rw [Nat.zero_add]; exact hL _ _ _ hw h
  | f + 1, listed, a, w, hw, h => by
    rw [show f + 1 + g = (f + g) + 1 by omega]
    exact ⟨fun h0 => absurd h0 h.1, fun i hi => wpOp_of_qOp hw (fun a' w' hw' h' => wpAny_of_headQ hL f _ a' w' hw' h') (h.2 i hi).2⟩
theorem wpAnyLQ_first {n i : Nat} {oi : Oper} {v : Value} {L : Array Bool → Act → Prop} (hi : ops[i]? = some oi) (hsel : ∀ (j : Nat) (o : Oper) cs b, ops[j]? = some o → o.op ≠ .select cs b)
    (hs : Region.sinkB md ops n = true) (hc : Region.chainB md ops n = true) (hn : n < ops.size) (hin : i < n)
    (hdone : ∀ listed a, L listed a → ∀ j ∈ Region.ready md ops listed, n ≤ j) :
    ∀ (f : Nat) (listed : Array Bool) (a : Act), HeadInv md ops n listed →
      (∀ j oj, ops[j]? = some oj → j ≠ i → listed.getD j true = false → (∀ e ∈ oj.after, Region.binds md e = true → e.on ≠ i) → oi.apart ops oj = true) →
      i ∈ Region.ready md ops listed → YieldsIn P ops C oi v a →
      wpAnyLQ P md ops C n L f (listed.setIfInBounds i true) (a.put oi.dst v) → wpAnyLQ P md ops C n L (f + 1) listed a := by
  intro f
  induction f with
  | zero =>
    intro listed a inv _ hr hy H
    have hun := (mem_ready.1 hr).1
    refine ⟨fun h => (by rw [h] at hr; cases hr), fun j hj => ?_⟩
    have hjn : j < n := by
      rcases Nat.lt_or_ge j n with h | h
      · exact h
      · exact absurd hj (tail_waits hs hc hn inv _ i rfl hin hun j h)
    refine ⟨hjn, ?_⟩
    by_cases hji : j = i
    · subst hji; exact hy.qOp hi H
    · have := hdone _ _ H j (ready_mono hj hji)
      omega
  | succ f ih =>
    intro listed a inv hfree hr hy H
    have hun := (mem_ready.1 hr).1
    refine ⟨fun h => (by rw [h] at hr; cases hr), fun j hj => ?_⟩
    have hjn : j < n := by
      rcases Nat.lt_or_ge j n with h | h
      · exact h
      · exact absurd hj (tail_waits hs hc hn inv _ i rfl hin hun j h)
    refine ⟨hjn, ?_⟩
    by_cases hji : j = i
    · subst hji; exact hy.qOp hi H
    · have h1 := (H.2 j (ready_mono hj hji)).2
      obtain ⟨hjun, oj, hoj, hall⟩ := mem_ready.1 hj
      have hnot : ∀ e ∈ oj.after, Region.binds md e = true → e.on ≠ i := fun e he hb heq => by
        have h1 := hall e he hb
        rw [heq, getD_both hun] at h1
        cases h1
      have h2 := qOp_put hoj (hfree j oj hoj hji hjun hnot) (fun cs b => hsel i oi cs b hi) (fun cs b => hsel j oj cs b hoj) hy h1
      have hfree' : ∀ k ok, ops[k]? = some ok → k ≠ i → (listed.setIfInBounds j true).getD k true = false →
          (∀ e ∈ ok.after, Region.binds md e = true → e.on ≠ i) → oi.apart ops ok = true := fun k ok hk hki hun hno => by
        refine hfree k ok hk hki ?_ hno
        by_cases hjk : j = k
        · subst hjk; exact hjun
        · rw [getD_set_ne true hjk] at hun; exact hun
      refine qOp_mono (fun a' h3 => ih (listed.setIfInBounds j true) a' (inv.set hj hjn) hfree' (ready_mono hr (Ne.symm hji)) h3.1 ?_) h2
      rw [Array.setIfInBounds_comm _ _ hji]
      exact h3.2
theorem wpAnyLQ_lex {n g : Nat} {Lq : Act → Prop} (hsel : Region.noSelect ops = true) (hs : Region.sinkB md ops n = true) (hc : Region.chainB md ops n = true) (hn : n < ops.size) :
    ∀ (l : List Oper) (k : Nat) (listed : Array Bool) (a : Act), (∀ j, j < l.length → l[j]? = ops[k + j]?) → k + l.length = n → HeadInv md ops n listed →
    Region.lexHead md ops g l.length k listed = true → wpQuiet P ops C Lq l a →
    wpAnyLQ P md ops C n (fun listed' a' => Region.seqB md ops g n listed' = true ∧ Lq a') l.length listed a
  | [], k, listed, a, _, hk, _, hB, h => by
    have : k = n := by simpa using hk
    subst this
    exact ⟨by simpa [Region.lexHead] using hB, h⟩
  | o :: l, k, listed, a, hl, hk, inv, hB, h => by
    have h0 : ops[k]? = some o := by simpa using (hl 0 (by simp)).symm
    simp only [List.length_cons, Region.lexHead, Bool.and_eq_true] at hB
    obtain ⟨⟨hr, hf⟩, hB'⟩ := hB
    have hkn : k < n := by simp only [List.length_cons] at hk; omega
    have hr' : k ∈ Region.ready md ops listed := by simpa using hr
    have hst : qOp P ops C k (wpQuiet P ops C Lq l) a := by unfold qOp; simp only [h0]; exact h
    obtain ⟨v, hy, hK⟩ := yieldsIn_of_qOp h0 hst
    exact wpAnyLQ_first h0 (Region.noSelect_spec hsel) hs hc hn hkn (fun listed' a' hL => seqB_ready hL.1) l.length listed a inv (Region.free_spec h0 hf) hr' hy
      (wpAnyLQ_lex hsel hs hc hn l (k + 1) _ _ (fun j hj => by have := hl (j + 1) (by simp; omega); simpa [Nat.add_assoc, Nat.add_comm 1 j] using this) (by simp only [List.length_cons] at hk; omega) (inv.set hr' hkn) hB' hK)
theorem wp_region_quiet_tail {id : Nat} {Q : Exit → Act → World → Prop} {a : Act} {w : World} {l : List Oper} (n : Nat) (hm : P.follows .mixedOrders = true) (hB : Region.lexTailB .any l.toArray n = true) (hC : C w.drew)
    (h : wpQuiet P l.toArray C (fun a' => ∀ w', C w' → wpList P l.toArray Q (l.drop n) a' w') (l.take n) a) : (Code.region id l.toArray true).wp P Q a w := by
  simp only [Region.lexTailB, Bool.and_eq_true, decide_eq_true_eq] at hB
  obtain ⟨⟨⟨⟨hsel, hn⟩, hs⟩, hc⟩, hlex⟩ := hB
  have hn' : n < l.length := by simpa using hn
  have htl : (l.take n).length = n := by simp; omega
  have hdl : (l.drop n).length = l.toArray.size - n := by simp
  have inv0 : HeadInv .any l.toArray n (Array.replicate l.toArray.size false) :=
    ⟨by simp, fun j oj _ hl => (by rw [getD_replicate_false] at hl; cases hl), fun t _ ht => getD_in (by simpa using ht) (getD_replicate_false _ _)⟩
  have H := wpAnyLQ_lex (md := .any) (g := l.toArray.size - n) hsel hs hc hn (l.take n) 0 _ a (fun j hj => by
    have hj' : j < n := by rw [htl] at hj; exact hj
    simp [hj']) (by simpa using htl) inv0 (by rw [htl]; exact hlex) h
  refine wp_region_any hm ?_
  have := wpAny_of_headQ (Q' := Q) (g := l.toArray.size - n) (fun listed a' w' hw' hL => by
    have := wpAny_of_seq (md := .any) (Q' := Q) (l.drop n) n listed a' w' (fun j => by simp [List.getElem?_drop]) (by rw [hdl]; exact hL.1) (hL.2 w' hw')
    rwa [hdl] at this) _ _ _ _ hC H
  rw [htl, show n + (l.toArray.size - n) = l.toArray.size by omega] at this
  exact this
theorem wp_region_quiet_all {id : Nat} {Q : Exit → Act → World → Prop} {a : Act} {w : World} {l : List Oper} (hm : P.follows .mixedOrders = true) (hB : Region.lexB .any l.toArray = true) (hC : C w.drew)
    (h : wpQuiet P l.toArray C (fun a' => ∀ w', C w' → Q .normal a' w') l a) : (Code.region id l.toArray true).wp P Q a w :=
  wp_region_quiet (C := C) hm hB hC (by simpa using h)
end
end Go
namespace Go
theorem OwB.sub {w0 w : World} {L L' : List (Nat × Obj)} (h : OwB w0 L w) (hs : L'.Sublist L) : OwB w0 L' w :=
  ⟨fun p hp => h.has p (hs.subset hp), (hs.map Prod.fst).nodup h.nd, fun p hp => h.lo p (hs.subset hp), h.fr⟩
/-- A world with these own blocks. -/
structure OwnW (w0 : World) (L : List (Nat × Obj)) where
  w : World
  h : OwB w0 L w
theorem OwnW.nth {w0 : World} {L L' : List (Nat × Obj)} (x : OwnW w0 L) (hL : L = L') (i : Nat) {b : Nat} {o : Obj} (hi : L'[i]? = some (b, o)) : x.w.blk b = some o := by
  subst hL; exact x.h.nth i hi
/-- The class of such worlds. -/
def OwnC (w0 : World) (L : List (Nat × Obj)) : World → Prop := fun w' => ∃ x : OwnW w0 L, w' = x.w
theorem OwnC.of {w0 w : World} {L : List (Nat × Obj)} (h : OwB w0 L w) : ∃ x : OwnW w0 L, w = x.w := ⟨⟨w, h⟩, rfl⟩
/-- A callee that keeps what is there, and has one result. -/
theorem Calls.own_of {P : Program} {f : FuncId} {args : Array Value} {w0 : World} {L : List (Nat × Obj)} {x : OwnW w0 L} {v : Value}
    (h : Calls P f args x.w fun e w' => e = .returned v ∧ Fr [] x.w w') : Calls P f args x.w fun e w'' => e = .returned v ∧ ∃ y : OwnW w0 L, w'' = y.w :=
  h.mono fun _ w' ⟨he, hf⟩ => ⟨he, ⟨w', x.h.call hf⟩, rfl⟩
section
variable {P : Program} {w0 : World} {L : List (Nat × Obj)}
theorem wp_region_own_tail {id : Nat} {Q : Exit → Act → World → Prop} {a : Act} {w : World} {l : List Oper} (n : Nat) (hm : P.follows .mixedOrders = true) (hB : Region.lexTailB .any l.toArray n = true) (hC : OwB w0 L w)
    (h : wpQuiet P l.toArray (fun w' => ∃ x : OwnW w0 L, w' = x.w) (fun a' => ∀ w', (∃ x : OwnW w0 L, w' = x.w) → wpList P l.toArray Q (l.drop n) a' w') (l.take n) a) : (Code.region id l.toArray true).wp P Q a w :=
  wp_region_quiet_tail n hm hB (OwnC.of hC.drew) h
theorem wp_region_own {id : Nat} {Q : Exit → Act → World → Prop} {a : Act} {w : World} {l : List Oper} (hm : P.follows .mixedOrders = true) (hB : Region.lexB .any l.toArray = true) (hC : OwB w0 L w)
    (h : wpQuiet P l.toArray (fun w' => ∃ x : OwnW w0 L, w' = x.w) (fun a' => ∀ w', (∃ x : OwnW w0 L, w' = x.w) → Q .normal a' w') l a) : (Code.region id l.toArray true).wp P Q a w :=
  wp_region_quiet_all hm hB (OwnC.of hC.drew) h
end
end Go
namespace Go.Dr
/-- What is made: its number, its slot, what it is, the blocks that are its own. -/
structure Ev where
  idx : Nat
  slot : Nat
  prop : Value → World → Prop
  own : Value → List Nat
structure Ev.Inv (evs : List Ev) (row : List Nat) (w0 : World) (L : Nat → Bool) (s : Nat → Value) (w : World) : Prop where
  fr : Fr [] w0 w
  row : ∀ i ∈ row, L i = true
  ev : ∀ e ∈ evs, L e.idx = true → e.prop (s e.slot) w ∧ ∀ b ∈ e.own (s e.slot), w0.heap.size ≤ b ∧ b < w.heap.size
  apart : ∀ e ∈ evs, ∀ e' ∈ evs, e.idx ≠ e'.idx → L e.idx = true → L e'.idx = true → ∀ b ∈ e.own (s e.slot), b ∉ e'.own (s e'.slot)
structure Ev.ok (evs : List Ev) : Prop where
  idx : (evs.map (·.idx)).Nodup
  slot : (evs.map (·.slot)).Nodup
  still : ∀ e ∈ evs, ∀ v w w', Fr [] w w' → e.prop v w → e.prop v w'
theorem Ev.Inv.start {evs : List Ev} {row : List Nat} {w0 : World} {L : Nat → Bool} {s : Nat → Value} (hr : ∀ i ∈ row, L i = true) (he : ∀ i ∈ evs.map (·.idx), L i = false) : Ev.Inv evs row w0 L s w0 := by
  have hne : ∀ e ∈ evs, L e.idx = true → False := fun e h h2 => by rw [he e.idx (List.mem_map_of_mem h)] at h2; cases h2
  exact ⟨Fr.refl _ _, hr, fun e h h2 => (hne e h h2).elim, fun e h _ _ _ h2 => (hne e h h2).elim⟩
theorem Ev.Inv.did {evs : List Ev} {row : List Nat} {w0 w w' : World} {L : Nat → Bool} {s : Nat → Value} (h : Ev.Inv evs row w0 L s w) (ok : Ev.ok evs) (e : Ev) (hm : e ∈ evs) {v : Value} (F : Fr [] w w') (hp : e.prop v w') (hn : ∀ b ∈ e.own v, w.heap.size ≤ b ∧ b < w'.heap.size) :
    Ev.Inv evs row w0 (fun j => j == e.idx || L j) (set1 s e.slot v) w' := by
  have hs : ∀ e' ∈ evs, e'.idx ≠ e.idx → set1 s e.slot v e'.slot = s e'.slot := fun e' h' hne =>
    set1_other s v fun h2 => hne (by rw [inj_of_map ok.slot e' h' e hm h2])
  have hL : ∀ e' ∈ evs, e'.idx ≠ e.idx → (e'.idx == e.idx || L e'.idx) = true → L e'.idx = true := fun e' _ hne h2 => by
    rw [show (e'.idx == e.idx) = false from by simpa using hne, Bool.false_or] at h2; exact h2
  have he : ∀ e' ∈ evs, e'.idx = e.idx → e' = e := fun e' h' h2 => inj_of_map ok.idx e' h' e hm h2
  refine ⟨h.fr.trans F, fun i hi => by rw [h.row i hi, Bool.or_true], fun e' h' h2 => ?_, fun e1 h1 e2 h2 hne l1 l2 b hb => ?_⟩
  · by_cases hi : e'.idx = e.idx
    · obtain rfl := he e' h' hi
      rw [set1_same]
      exact ⟨hp, fun b hb => ⟨Nat.le_trans h.fr.size (hn b hb).1, (hn b hb).2⟩⟩
    · rw [hs e' h' hi]
      obtain ⟨g1, g2⟩ := h.ev e' h' (hL e' h' hi h2)
      exact ⟨ok.still e' h' _ _ _ F g1, fun b hb => ⟨(g2 b hb).1, Nat.lt_of_lt_of_le (g2 b hb).2 F.size⟩⟩
  · by_cases hi1 : e1.idx = e.idx
    · obtain rfl := he e1 h1 hi1
      rw [set1_same] at hb
      have hi2 : e2.idx ≠ e1.idx := fun h => hne h.symm
      rw [hs e2 h2 hi2]
      intro hb2
      have := ((h.ev e2 h2 (hL e2 h2 hi2 l2)).2 b hb2).2
      have := (hn b hb).1
      omega
    · rw [hs e1 h1 hi1] at hb
      by_cases hi2 : e2.idx = e.idx
      · obtain rfl := he e2 h2 hi2
        rw [set1_same]
        intro hb2
        have := ((h.ev e1 h1 (hL e1 h1 hi1 l1)).2 b hb).2
        have := (hn b hb2).1
        omega
      · rw [hs e2 h2 hi2]
        exact h.apart e1 h1 e2 h2 hne (hL e1 h1 hi1 l1) (hL e2 h2 hi2 l2) b hb
/-- No block of its own. -/
def noOwn : Value → List Nat := fun _ => []
/-- The block that it points to. -/
def ptrOwn : Value → List Nat
  | .pointer (some a) => [a.block]
  | .slice (some a) _ _ => [a.block]
  | _ => []
def Ev.Still (e : Ev) : Prop := ∀ v w w', Fr [] w w' → e.prop v w → e.prop v w'
theorem Ev.ok.of {evs : List Ev} (hi : (evs.map (·.idx)).Nodup) (hs : (evs.map (·.slot)).Nodup) (h : ∀ e ∈ evs, e.Still) : Ev.ok evs := ⟨hi, hs, h⟩
/-- A call with one value. -/
def evVal (i d : Nat) (v0 : Value) : Ev := ⟨i, d, fun v _ => v = v0, noOwn⟩
/-- A call whose value meets something. -/
def evSome (i d : Nat) (p : Value → Prop) : Ev := ⟨i, d, fun v _ => p v, noOwn⟩
/-- A room. -/
def evRoom (i d : Nat) (cs : Array Value) (T : TypeId) : Ev := ⟨i, d, fun v w => ∃ b, v = .pointer (some ⟨b, 0, none⟩) ∧ w.blk b = some (.cells cs T), ptrOwn⟩
/-- A row that is made. -/
def evRow (i d n : Nat) (cs : Array Value) (T : TypeId) : Ev := ⟨i, d, fun v w => ∃ b, v = .slice (some ⟨b, 0, none⟩) n n ∧ w.blk b = some (.cells cs T), ptrOwn⟩
theorem evVal_still (i d : Nat) (v0 : Value) : (evVal i d v0).Still := fun _ _ _ _ h => h
theorem evSome_still (i d : Nat) (p : Value → Prop) : (evSome i d p).Still := fun _ _ _ _ h => h
theorem evRoom_still (i d : Nat) (cs : Array Value) (T : TypeId) : (evRoom i d cs T).Still := fun _ _ _ F ⟨b, h1, h2⟩ => ⟨b, h1, F.get h2 (by simp)⟩
theorem evRow_still (i d n : Nat) (cs : Array Value) (T : TypeId) : (evRow i d n cs T).Still := fun _ _ _ F ⟨b, h1, h2⟩ => ⟨b, h1, F.get h2 (by simp)⟩
section
variable {evs : List Ev} {row : List Nat} {w0 w w' : World} {L : Nat → Bool} {s : Nat → Value}
theorem Ev.Inv.val (h : Ev.Inv evs row w0 L s w) (ok : Ev.ok evs) (i d : Nat) (v0 : Value) (hm : evVal i d v0 ∈ evs) (F : Fr [] w w') : Ev.Inv evs row w0 (fun j => j == i || L j) (set1 s d v0) w' :=
  h.did ok _ hm F rfl (fun b hb => by cases hb)
theorem Ev.Inv.some (h : Ev.Inv evs row w0 L s w) (ok : Ev.ok evs) (i d : Nat) (p : Value → Prop) (hm : evSome i d p ∈ evs) {v : Value} (F : Fr [] w w') (hv : p v) : Ev.Inv evs row w0 (fun j => j == i || L j) (set1 s d v) w' :=
  h.did ok _ hm F hv (fun b hb => by cases hb)
theorem Ev.Inv.room (h : Ev.Inv evs row w0 L s w) (ok : Ev.ok evs) (i d : Nat) (cs : Array Value) (T : TypeId) (hm : evRoom i d cs T ∈ evs) : Ev.Inv evs row w0 (fun j => j == i || L j) (set1 s d (.pointer (Option.some ⟨w.heap.size, 0, none⟩))) (w.alloc (.cells cs T)) :=
  h.did ok _ hm ((Fr.refl [] w).alloc _) ⟨w.heap.size, rfl, World.at_alloc_new _ _ _ rfl⟩ (fun b hb => by
    obtain rfl : b = w.heap.size := by simpa [evRoom, ptrOwn] using hb
    exact ⟨Nat.le_refl _, by simp⟩)
theorem Ev.Inv.rowMade (h : Ev.Inv evs row w0 L s w) (ok : Ev.ok evs) (i d n : Nat) (cs : Array Value) (T : TypeId) (hm : evRow i d n cs T ∈ evs) : Ev.Inv evs row w0 (fun j => j == i || L j) (set1 s d (.slice (Option.some ⟨w.heap.size, 0, none⟩) n n)) (w.alloc (.cells cs T)) :=
  h.did ok _ hm ((Fr.refl [] w).alloc _) ⟨w.heap.size, rfl, World.at_alloc_new _ _ _ rfl⟩ (fun b hb => by
    obtain rfl : b = w.heap.size := by simpa [evRow, ptrOwn] using hb
    exact ⟨Nat.le_refl _, by simp⟩)
end
end Go.Dr
