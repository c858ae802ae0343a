/- A function's own blocks: what they hold, that they are apart, new since the call; the rest is as it was. Results that lie in two cells; pairs of numbers. A part of a region that draws its order: what comes behind waits for the whole part. Calls and rooms in whatever order, and one store into each room, as soon as room and value are there. A scope with one label; rows of bytes: their numbers, bits; contracts by name. The code's points in memory: four numbers and a word. The curve's small functions. A point that is set. What a point of the code says: four numbers; one that is not set says (0, 1, 1, 0). The document's points in memory; contracts whose results are named. -/
import Derived.Test.YtakhmmnklkckpaaZa
import Derived.Test.YtakhmmnklkckpaaZc
import Derived.ScopeJumps
namespace Go
open Go.Dr
structure OwB (w0 : World) (L : List (Nat × Obj)) (w : World) : Prop where
  has : Has L w
  nd : (L.map Prod.fst).Nodup
  lo : ∀ p ∈ L, w0.heap.size ≤ p.1
  fr : Fr [] w0 w
variable {w0 w w' V wz : World} {L : List (Nat × Obj)} {b : Nat} {o o' : Obj}
theorem OwB.start (w : World) : OwB w [] w := ⟨.nil _, List.nodup_nil, (fun p hp => by cases hp), Fr.refl _ _⟩
theorem OwB.fresh (h : OwB w0 L V) (hb : V.heap.size ≤ b) : b ∉ L.map Prod.fst := fun hm => by
  obtain ⟨p, hp, rfl⟩ := List.mem_map.1 hm
  have := World.at_lt (h.has p hp)
  omega
theorem OwB.room (h : OwB w0 L w) (hb : w.blk b = some o) (hn : b ∉ L.map Prod.fst) (hl : w0.heap.size ≤ b) : OwB w0 ((b, o) :: L) w :=
  ⟨.cons hb h.has, List.nodup_cons.2 ⟨hn, h.nd⟩, (fun p hp => (List.mem_cons.1 hp).elim (fun e => e ▸ hl) (h.lo p)), h.fr⟩
theorem OwB.alloc (h : OwB w0 L w) (o : Obj) : OwB w0 ((w.heap.size, o) :: L) (w.alloc o) :=
  have h1 : OwB w0 L (w.alloc o) := ⟨h.has.alloc o, h.nd, h.lo, h.fr.alloc o⟩
  h1.room (World.at_alloc_new _ _ _ rfl) (h.fresh (Nat.le_refl _)) h.fr.size
theorem OwB.allocN (h : OwB w0 L w) (o : Obj) (a : Nat) (ha : a = w.heap.size) : OwB w0 ((a, o) :: L) (w.alloc o) := ha ▸ h.alloc o
theorem OwB.named {Q : World → Prop} (h : OwB w0 L V) (k : ∀ V', OwB w0 L V' → Q V') : Q V := k V h
theorem OwB.call (h : OwB w0 L w) (F : Fr [] w w') : OwB w0 L w' := ⟨h.has.fr0 F, h.nd, h.lo, h.fr.trans F⟩
theorem OwB.drew (h : OwB w0 L w) : OwB w0 L w.drew := ⟨h.has.drew, h.nd, h.lo, h.fr.drew⟩
theorem OwB.nth (h : OwB w0 L w) (i : Nat) (hi : L[i]? = some (b, o)) : w.blk b = some o := h.has.nth i hi
theorem OwB.lt (h : OwB w0 L w) (i : Nat) (hi : L[i]? = some (b, o)) : b < w.heap.size := World.at_lt (h.nth i hi)
theorem OwB.low (h : OwB w0 L w) (i : Nat) (hi : L[i]? = some (b, o)) : w0.heap.size ≤ b := h.lo (b, o) (List.mem_of_getElem? hi)
theorem OwB.ne (h : OwB w0 L w) (i j : Nat) {c : Nat} (hi : L[i]? = some (b, o)) (hj : L[j]? = some (c, o')) (hij : i ≠ j) : b ≠ c := by
  obtain ⟨hi', hi⟩ := List.getElem?_eq_some_iff.1 hi
  obtain ⟨hj', hj⟩ := List.getElem?_eq_some_iff.1 hj
  intro e
  have h1 : (L.map Prod.fst)[i]'(by simpa using hi') = (L.map Prod.fst)[j]'(by simpa using hj') := by simp [hi, hj, e]
  have h2 := List.pairwise_iff_getElem.1 h.nd
  rcases Nat.lt_or_gt_of_ne hij with hl | hl
  · exact h2 i j (by simpa using hi') (by simpa using hj') hl h1
  · exact h2 j i (by simpa using hj') (by simpa using hi') hl h1.symm
theorem map_fst_set (L : List (Nat × Obj)) (i : Nat) (hi : L[i]? = some (b, o)) : (L.set i (b, o')).map Prod.fst = L.map Prod.fst := by
  apply List.ext_getElem?
  intro j
  rw [List.getElem?_map, List.getElem?_map, List.getElem?_set]
  by_cases h : i = j
  · subst h
    obtain ⟨hi', hi⟩ := List.getElem?_eq_some_iff.1 hi
    simp [hi']
    rw [hi]
  · simp [h]
theorem OwB.set (h : OwB w0 L w) (i : Nat) (o' : Obj) (hi : L[i]? = some (b, o)) : OwB w0 (L.set i (b, o')) (w.put b o') := by
  have hlt := h.lt i hi
  have hlo := h.low i hi
  refine ⟨fun p hp => ?_, by rw [map_fst_set L i hi]; exact h.nd, fun p hp => ?_, h.fr.put b o' fun hb => by omega⟩
  · obtain ⟨j, hj, rfl⟩ := List.getElem_of_mem hp
    rw [List.length_set] at hj
    rw [List.getElem_set]
    by_cases hij : i = j
    · rw [if_pos hij]; exact World.at_put_same _ _ _ hlt
    · rw [if_neg hij]
      have hj' : L[j]? = some (L[j].1, L[j].2) := List.getElem?_eq_getElem hj
      rw [World.at_put_other _ _ _ _ (h.ne i j hi hj' hij)]
      exact h.nth j hj'
  · obtain ⟨j, hj, rfl⟩ := List.getElem_of_mem hp
    rw [List.length_set] at hj
    rw [List.getElem_set]
    by_cases hij : i = j
    · rw [if_pos hij]; exact hlo
    · rw [if_neg hij]; exact h.lo _ (List.getElem_mem hj)
theorem OwB.take (h : OwB w0 ((b, o) :: L) w) : OwB w0 L w := ⟨h.has.tail, (List.nodup_cons.1 h.nd).2, fun p hp => h.lo p (List.mem_cons_of_mem _ hp), h.fr⟩
/-- An operation that was listed ahead. -/
theorem after_on {ds : Array Edge} {L : Nat → Bool} (hd : ∀ e ∈ ds, Region.binds .any e = true → L e.on = true) {j : Nat} (h : (ds.any fun e => e.on == j && Region.binds .any e) = true) : L j = true := by
  rw [Array.any_eq_true'] at h
  obtain ⟨e, he, hb⟩ := h
  simp only [Bool.and_eq_true, beq_iff_eq] at hb
  rw [← hb.1]
  exact hd e he hb.2
end Go
namespace Go.Proofs.Ytakhmmnklkckpaa
@[go_sem] theorem len_bytesF (x : Fp) : (bytesF x).length = 32 := length_bytesF x
@[go_sem] theorem len_digs (n : Nat) : (digs n).length = 16 := length_digs n
end Go.Proofs.Ytakhmmnklkckpaa
namespace Go
theorem OwB.cast {w0 w : World} {L L' : List (Nat × Obj)} (e : L = L') (h : OwB w0 L' w) : OwB w0 L w := e ▸ h
theorem OwB.drop {w0 w : World} {L : List (Nat × Obj)} (h : OwB w0 L w) (i : Nat) : OwB w0 (L.eraseIdx i) w :=
  ⟨fun p hp => h.has p (List.mem_of_mem_eraseIdx hp), by
    exact h.nd.sublist ((List.eraseIdx_sublist L i).map Prod.fst), fun p hp => h.lo p (List.mem_of_mem_eraseIdx hp), h.fr⟩
end Go
namespace Go
theorem foldl_put (off : Nat) : ∀ (xs : List Value) (s : Nat) (base : Array Value), off + s + xs.length ≤ base.size →
    ((xs.zipIdx s).foldl (fun cs x => cs.setIfInBounds (off + x.2) x.1) base).size = base.size ∧
    ∀ j, ((xs.zipIdx s).foldl (fun cs x => cs.setIfInBounds (off + x.2) x.1) base)[j]? = if off + s ≤ j ∧ j < off + s + xs.length then xs[j - (off + s)]? else base[j]?
  | [], s, base, _ => ⟨rfl, fun j => by
    simp only [List.zipIdx_nil, List.foldl_nil, List.length_nil]
    rw [if_neg (by omega)]⟩
  | x :: xs, s, base, h => by
    simp only [List.zipIdx_cons, List.foldl_cons]
    simp only [List.length_cons] at h
    obtain ⟨h1, h2⟩ := foldl_put off xs (s + 1) (base.setIfInBounds (off + s) x) (by simp; omega)
    refine ⟨by rw [h1]; simp, fun j => ?_⟩
    rw [h2 j]
    simp only [List.length_cons]
    by_cases hj : j = off + s
    · subst hj
      rw [if_neg (by omega), if_pos (by omega), Array.getElem?_setIfInBounds_self_of_lt (by omega)]
      simp
    · by_cases hj2 : off + s ≤ j ∧ j < off + s + (xs.length + 1)
      · rw [if_pos (by omega), if_pos hj2]
        rw [show j - (off + s) = (j - (off + (s + 1))) + 1 from by omega, List.getElem?_cons_succ]
      · rw [if_neg (by omega), if_neg hj2, Array.getElem?_setIfInBounds_ne (by omega)]
theorem foldl_spl (off : Nat) (xs : List Value) (base : Array Value) (h : off + xs.length ≤ base.size) :
    (xs.zipIdx 0).foldl (fun cs x => cs.setIfInBounds (off + x.2) x.1) base = spl base off xs := by
  apply Array.ext_getElem?
  intro j
  rw [(foldl_put off xs 0 base (by omega)).2 j, getElem?_spl base off xs h j]
  simp only [Nat.add_zero]
  by_cases h1 : j < off
  · rw [if_neg (by omega), if_pos h1]
  · by_cases h2 : j < off + xs.length
    · rw [if_pos (by omega), if_neg h1, if_pos h2]
    · rw [if_neg (by omega), if_neg h1, if_neg h2]
@[go_sem] theorem foldl_zip (base : Array Value) (k : IntKind) (l : List Int) (off n : Nat) (hn : n = l.length) (h : off + l.length ≤ base.size) :
    Array.foldl (fun cs x => cs.setIfInBounds (off + x.snd) x.fst) base (ints k l).zipIdx 0 n = spl base off (l.map (Value.int k)) := by
  subst hn
  rw [← foldl_spl off _ base (by simpa using h)]
  rw [show l.length = (ints k l).zipIdx.size from by simp [ints], ← Array.foldl_toList]
  simp [ints]
@[go_sem] theorem foldl_zip0 (base : Array Value) (k : IntKind) (l : List Int) (n : Nat) (hn : n = l.length) (h : l.length ≤ base.size) :
    Array.foldl (fun cs x => cs.setIfInBounds x.snd x.fst) base (ints k l).zipIdx 0 n = spl base 0 (l.map (Value.int k)) := by
  rw [← foldl_zip base k l 0 n hn (by omega)]
  simp only [Nat.zero_add]
attribute [go_sem] size_spl
@[go_sem] theorem toArray_ints2 (k : IntKind) (a b : List Int) : (a.map (Value.int k) ++ b.map (Value.int k)).toArray = ints k (a ++ b) := by simp [ints]
@[go_sem] theorem pair_spl (c1 c2 : List Int) (h1 : c1.length = 5) (h2 : c2.length = 5) :
    spl (spl #[.int .u64 0, .int .u64 0, .int .u64 0, .int .u64 0, .int .u64 0, .int .u64 0, .int .u64 0, .int .u64 0, .int .u64 0, .int .u64 0] 0 (c1.map (Value.int .u64))) 5 (c2.map (Value.int .u64)) = ints .u64 (c1 ++ c2) := by
  rw [show (#[.int .u64 0, .int .u64 0, .int .u64 0, .int .u64 0, .int .u64 0, .int .u64 0, .int .u64 0, .int .u64 0, .int .u64 0, .int .u64 0] : Array Value) = ints .u64 (zs 10) from rfl, spl_ints, spl_ints]
  congr 1
  simp only [lay, h1, h2, zs, List.take_zero, List.nil_append]
  rw [List.take_append_of_le_length (by omega), List.take_of_length_le (by omega), List.drop_of_length_le (by simp [h1]), List.append_nil]
end Go
namespace Go.Dr
variable {P : Program} {fn : Func} {R : Ending → World → Prop} {a : Act} {w : World}
theorem ret_cell2 {p q ty tz b c : Nat} (h : fn.results = #[.cell p ty, .cell q tz]) (hp : a.tmps.getD p undef = .pointer (some ⟨b, 0, none⟩)) (hq : a.tmps.getD q undef = .pointer (some ⟨c, 0, none⟩)) (hd : a.defers = [])
    (hR : cellRet P ty (w.blk b) (fun v => cellRet P tz (w.blk c) (fun u => R (.returned (.tuple #[v, u])) w))) : bodyPost P fn R .ret a w := by
  unfold cellRet at hR
  split at hR
  · rename_i cs T fr hb
    obtain ⟨h1, hR⟩ := hR
    split at hR
    · rename_i ds T2 fr2 hc
      refine bodyPost_ret (v := .tuple #[.agg cs, .agg ds]) ?_ hd hR.2
      have hp' : a.tmps[p]?.getD undef = .pointer (some ⟨b, 0, none⟩) := by simpa using hp
      have hq' : a.tmps[q]?.getD undef = .pointer (some ⟨c, 0, none⟩) := by simpa using hq
      simp [results, h, hp', hq', asAddr, run_loadVar_agg hb h1, run_loadVar_agg hc hR.1]
    · exact hR.elim
  · exact hR.elim
theorem cellRet_of {ty T : Nat} {o : Option Obj} {cs : Array Value} {K : Value → Prop} (hb : o = some (.cells cs T)) (h : aggB P ty cs.size = true) (hK : K (.agg cs)) : cellRet P ty o K := by
  rw [hb]; exact ⟨h, hK⟩
theorem aggB_ints {ty n : Nat} {k : IntKind} {l : List Int} (hl : l.length = n) (h : aggB P ty n = true) : aggB P ty (ints k l).size = true := by rw [size_ints, hl]; exact h
end Go.Dr
namespace Go.Proofs.Ytakhmmnklkckpaa
open Go.RowKit Go.Dr
/-- A pair of numbers of the code. -/
@[go_sem] def pr (x z : List Int) : Value := .agg (ints .u64 (x ++ z))
/-- The bytes of 121665. -/
def k24 : List Int := [65, 219, 1, 0, 0, 0, 0, 0, 0, 0, 0, 0, 0, 0, 0, 0, 0, 0, 0, 0, 0, 0, 0, 0, 0, 0, 0, 0, 0, 0, 0, 0]
theorem byt_k24 : Byt k24 := fun y hy => by
  simp only [k24, List.mem_cons, List.not_mem_nil, or_false] at hy
  omega
theorem from_k24 : fromB k24 = toFp 121665 := by kernel_rfl
theorem of_k24 {w : World} : Calls Try.prog 27 #[.agg (ints .u8 k24)] w fun e w' => ∃ c, e = .returned (fe c) ∧ Is c (toFp 121665) ∧ Fr [] w w' := from_k24 ▸ of_b rfl byt_k24
end Go.Proofs.Ytakhmmnklkckpaa
namespace Go.Dr
section
variable {P : Program} {ops : Array Oper} {Q : Exit → Act → World → Prop} {S : World → Prop} {N : Nat}
/-- Every one from M on waits itself for each below M that is not listed. -/
def relB (ops : Array Oper) (M : Nat) (l0 : Array Bool) : Bool :=
  (List.range M).all fun i => l0.getD i false || (List.range (ops.size - M)).all fun t => waitsB .any ops (M + t) i
theorem relB_head {M : Nat} {l0 listed : Array Bool} (hT : relB ops M l0 = true) (hl : ∀ k, l0.getD k false = true → listed.getD k false = true) {i j : Nat} (hi : i < M) (hun : listed.getD i false = false) (hj : j ∈ Region.ready .any ops listed) : j < M := by
  rcases Nat.lt_or_ge j M with h | h
  · exact h
  · exfalso
    obtain ⟨_, o, ho, hall⟩ := mem_ready.1 hj
    have hjs : j < ops.size := (Array.getElem?_eq_some_iff.1 ho).1
    have h1 := List.all_eq_true.1 hT i (List.mem_range.2 hi)
    rw [Bool.or_eq_true] at h1
    rcases h1 with h1 | h1
    · rw [hl i h1] at hun; cases hun
    · have h2 := List.all_eq_true.1 h1 (j - M) (List.mem_range.2 (by omega))
      rw [show M + (j - M) = j from by omega] at h2
      obtain ⟨o', ho', e, he, hb, hon⟩ := waitsB_spec h2
      obtain rfl : o' = o := Option.some.inj (ho'.symm.trans ho)
      have := hall e he hb
      rw [hon, hun] at this; cases this

/-- Each operation waits only for ones ahead of it in the text. -/
def backB2 (ops : Array Oper) : Bool :=
  (List.range ops.size).all fun j => match ops[j]? with
    | some o => o.after.all fun e => !Region.binds .any e || decide (e.on < j)
    | none => true
theorem backB2_spec (h : backB2 ops = true) {j : Nat} {o : Oper} (ho : ops[j]? = some o) : ∀ e ∈ o.after, Region.binds .any e = true → e.on < j := by
  intro e he hb
  have h1 := List.all_eq_true.1 h j (List.mem_range.2 (Array.getElem?_eq_some_iff.1 ho).1)
  rw [ho] at h1
  have := (Array.all_eq_true_iff_forall_mem.1 h1) e he
  rw [hb] at this
  simpa using this
theorem drawn_inv_go2 {M : Nat} {l0 : Array Bool} (I : (Nat → Bool) → Act → World → Prop) {rest : Nat} (hT : relB ops M l0 = true) (hA : backB2 ops = true) (hNs : M ≤ ops.size) (hS : ∀ L a w, I L a w → S w)
    (step : ∀ (i : Nat) (o : Oper) (L : Nat → Bool) (a : Act) (w : World), ops[i]? = some o → i < M → L i = false → (∀ e ∈ o.after, Region.binds .any e = true → L e.on = true) → I L a w →
      ∀ K : Act → World → Prop, (∀ a' w', I (fun j => j == i || L j) a' w' → K a' w') → wpList P ops (Exit.then K fun e a w => e = .outgrown ∧ Q e a w) [o] a w)
    (fin : ∀ (a : Act) (w : World), I (fun j => decide (j < M)) a w → wpAnyS P .any ops (NoP Q) S N rest (Array.replicate M true ++ Array.replicate (ops.size - M) false) a w) :
    ∀ (m : Nat) (listed : Array Bool) (a : Act) (w : World), listed.size = ops.size → noTail M listed → closedL .any ops listed → (∀ k, l0.getD k false = true → listed.getD k false = true) → toCome listed M = m → I (fun j => listed.getD j false) a w →
      wpAnyS P .any ops (NoP Q) S N (rest + m) listed a w := by
  intro m
  induction m with
  | zero =>
    intro listed a w hsz hno hc hl0 hm hI
    have hall : ∀ j, j < M → listed.getD j false = true := by
      intro j hj
      cases h : listed.getD j false with
      | true => rfl
      | false =>
        have h1 : j ∈ (List.range M).filter fun j => !listed.getD j false := List.mem_filter.2 ⟨List.mem_range.2 hj, by simp [h]⟩
        have h2 : (List.range M).filter (fun j => !listed.getD j false) = [] := List.eq_nil_of_length_eq_zero hm
        rw [h2] at h1; cases h1
    have he : listed = Array.replicate M true ++ Array.replicate (ops.size - M) false := by
      refine Array.ext (by simp; omega) fun j h1 h2 => ?_
      by_cases hj : j < M
      · have := hall j hj
        rw [Array.getElem_append_left (by simpa using hj)]
        simpa [h1] using this
      · have := hno j (by omega)
        rw [Array.getElem_append_right (by simpa using Nat.le_of_not_lt hj)]
        simpa [h1] using this
    have hI' : I (fun j => decide (j < M)) a w := by
      have : (fun j => listed.getD j false) = fun j => decide (j < M) := by
        funext j
        by_cases hj : j < M
        · rw [hall j hj, decide_eq_true hj]
        · rw [hno j (by omega), decide_eq_false hj]
      rwa [this] at hI
    rw [he]
    exact fin a w hI'
  | succ m ih =>
    intro listed a w hsz hno hc hl0 hm hI
    have hex : ∃ i, i < M ∧ listed.getD i false = false := by
      have : (List.range M).filter (fun j => !listed.getD j false) ≠ [] := fun h => by
        unfold toCome at hm; rw [h] at hm; cases hm
      obtain ⟨i, hi⟩ := List.exists_mem_of_ne_nil _ this
      obtain ⟨h1, h2⟩ := List.mem_filter.1 hi
      exact ⟨i, List.mem_range.1 h1, by simpa using h2⟩
    refine ⟨fun h0 => ?_, fun i hi => ?_⟩
    · exfalso
      obtain ⟨i, hiN, hiu⟩ := hex
      have key : ∀ (n i : Nat), i < n → i < M → listed.getD i false = false → False := by
        intro n
        induction n with
        | zero => intro i h; exact absurd h (Nat.not_lt_zero _)
        | succ n ihn =>
          intro i hin hiN hiu
          have hio : i < ops.size := by omega
          have ho : ops[i]? = some ops[i] := Array.getElem?_eq_getElem hio
          by_cases hall : ∀ e ∈ ops[i].after, Region.binds .any e = true → listed.getD e.on false = true
          · have : i ∈ Region.ready .any ops listed := mem_ready.2 ⟨by
              have h2 : i < listed.size := by omega
              simpa [h2] using hiu, _, ho, hall⟩
            rw [h0] at this; cases this
          · have hex2 : ∃ e, e ∈ ops[i].after ∧ Region.binds .any e = true ∧ listed.getD e.on false = false := by
              refine Classical.byContradiction fun hn => hall fun e he hbe => ?_
              cases h : listed.getD e.on false with
              | true => rfl
              | false => exact (hn ⟨e, he, hbe, h⟩).elim
            obtain ⟨e, he, hbe, heu⟩ := hex2
            have := backB2_spec hA ho e he hbe
            exact ihn e.on (by omega) (by omega) heu
      exact key (i + 1) i (Nat.lt_succ_self i) hiN hiu
    · obtain ⟨hiu, o, ho, hall⟩ := mem_ready.1 hi
      have hiu' := getD_both' hiu
      obtain ⟨i0, hi0, hu0⟩ := hex
      have hiN : i < M := relB_head hT hl0 hi0 hu0 hi
      have h := step i o _ a w ho hiN hiu' hall hI (fun a' w' => (N ≤ i ∨ S w') ∧ wpAnyS P .any ops (NoP Q) S N (rest + m) (listed.setIfInBounds i true) a' w') (fun a' w' hI' => by
        refine ⟨.inr (hS _ _ _ hI'), ih _ a' w' (by simpa using hsz) (noTail_set hno hiN) (closedL_set hc hi) (fun k hk => ?_) ?_ ?_⟩
        · by_cases hik : i = k
          · subst hik
            have h2 : i < listed.size := by omega
            simp [h2]
          · rw [getD_set_ne false hik]; exact hl0 k hk
        · have := toCome_set hiN (by omega) hiu'
          omega
        · have : (fun j => (listed.setIfInBounds i true).getD j false) = fun j => j == i || listed.getD j false := by
            funext j
            by_cases hji : i = j
            · subst hji
              have h2 : i < listed.size := by omega
              simp [h2]
            · rw [getD_set_ne false hji, show (j == i) = false from by simpa using Ne.symm hji]
              simp
          rw [this]
          exact hI')
      have h1 : wpList P ops (Exit.then (fun a' w' => (N ≤ i ∨ S w') ∧ wpAnyS P .any ops (NoP Q) S N (rest + m) (listed.setIfInBounds i true) a' w') (NoP Q)) [o] a w :=
        wpList_imp (fun e a w h => by
          cases e <;> first | exact h | exact h.2 | (exact absurd h.1 (by simp))) _ _ _ h
      unfold wpOp
      simp only [ho]
      unfold wpList at h1
      split
      · rename_i hw
        rw [if_pos hw] at h1
        rcases h1 with h1 | ⟨ha, a', w', hl⟩
        · left
          revert h1
          unfold Oper.wp
          generalize (execOp a.eval o).run P w = r
          intro h1
          cases r with
          | ok n w' =>
            cases n <;> simp only [Oper.upon] at h1 ⊢
            case value v => exact h1
            case skip => exact h1
            case defer d => exact h1
            case enter f args =>
              refine Calls.mono h1 (fun e w'' he => ?_)
              cases e <;> exact he
            case row row args => exact Rows.mono h1 (fun v w'' he => he)
          | halt x w' => cases x <;> simp only [Oper.upon] at h1 ⊢ <;> exact h1
        · exact .inr ⟨ha, a', w', hl⟩
      · rename_i hw
        rw [if_neg hw] at h1
        exact h1

/-- What is checked of the region: the head's M, listed so far. -/
def parB2 (ops : Array Oper) (M : Nat) (listed : Array Bool) (m : Nat) : Bool :=
  relB ops M listed && backB2 ops && decide (M ≤ ops.size) && decide (listed.size = ops.size) && ((List.range (listed.size - M)).all fun i => !listed.getD (M + i) false) && closedB .any ops listed && decide (toCome listed M = m)
/-- THE REGION WITH MANY WRITERS, IN WHATEVER ORDER: an invariant I over what is listed, over a value for each slot of ds. -/
theorem drawn_inv2 (M : Nat) (ds : List Nat) (I : (Nat → Bool) → (Nat → Value) → World → Prop) (s : Nat → Value) (m : Nat) {rest : Nat} {listed : Array Bool} {b : Act} {w : World}
    (chk : parB2 ops M listed m = true) (hS : ∀ L s w, I L s w → S w) (ha : fill s ds b = b) (hI : I (fun j => listed.getD j false) s w)
    (step : ∀ (i : Nat) (o : Oper) (L : Nat → Bool) (s : Nat → Value) (w : World), ops[i]? = some o → i < M → L i = false → (∀ e ∈ o.after, Region.binds .any e = true → L e.on = true) → I L s w →
      ∀ K : Act → World → Prop, (∀ a' w', (∃ s', a' = fill s' ds b ∧ I (fun j => j == i || L j) s' w') → K a' w') → wpList P ops (Exit.then K fun e a w => e = .outgrown ∧ Q e a w) [o] (fill s ds b) w)
    (fin : ∀ (s : Nat → Value) (w : World), I (fun j => decide (j < M)) s w → wpAnyS P .any ops (NoP Q) S N rest (Array.replicate M true ++ Array.replicate (ops.size - M) false) (fill s ds b) w) :
    wpAnyS P .any ops (NoP Q) S N (rest + m) listed b w := by
  simp only [parB2, Bool.and_eq_true, decide_eq_true_eq] at chk
  obtain ⟨⟨⟨⟨⟨⟨h1, h2⟩, h3⟩, h4⟩, h5⟩, h6⟩, h7⟩ := chk
  refine drawn_inv_go2 (fun L a w => ∃ s, a = fill s ds b ∧ I L s w) h1 h2 h3 (fun L a w h => ?_) (fun i o L a w ho hi hL hd h K hK => ?_) (fun a w h => ?_) m listed b w h4 (fun t ht => ?_) (closedB_spec h6) (fun _ h => h) h7 ⟨s, ha.symm, hI⟩
  · obtain ⟨s, _, h⟩ := h; exact hS _ _ _ h
  · obtain ⟨s, rfl, h⟩ := h
    exact step i o L s w ho hi hL hd h K (fun a' w' h' => hK _ _ h')
  · obtain ⟨s, rfl, h⟩ := h
    exact fin s w h
  · by_cases hlt : t < listed.size
    · have := List.all_eq_true.1 h5 (t - M) (List.mem_range.2 (by omega))
      rw [show M + (t - M) = t from by omega] at this
      simpa using this
    · simp [Array.getElem?_eq_none (Nat.le_of_not_lt hlt)]
end
end Go.Dr
namespace Go.Dr
/-- A room: its number, its slot, what it is when new, its store's number, what it is then. -/
structure Par3 where
  calls : List (Nat × Nat × (Value → Prop))
  rooms : List (Nat × Nat × Obj × Nat × Obj)
  row : List Nat
structure Par3.Inv (p : Par3) (w0 : World) (L : Nat → Bool) (s : Nat → Value) (w : World) : Prop where
  fr : Fr [] w0 w
  row : ∀ i ∈ p.row, L i = true
  call : ∀ c ∈ p.calls, L c.1 = true → c.2.2 (s c.2.1)
  room : ∀ c ∈ p.rooms, L c.1 = true → ∃ b, s c.2.1 = .pointer (some ⟨b, 0, none⟩) ∧ w0.heap.size ≤ b ∧ w.blk b = some (if L c.2.2.2.1 then c.2.2.2.2 else c.2.2.1)
  apart : ∀ c ∈ p.rooms, ∀ d ∈ p.rooms, c.1 ≠ d.1 → L c.1 = true → L d.1 = true → s c.2.1 ≠ s d.2.1
  late : ∀ c ∈ p.rooms, L c.2.2.2.1 = true → L c.1 = true
structure Par3.ok (p : Par3) : Prop where
  n1 : (p.calls.map (·.1)).Nodup
  n2 : (p.rooms.map (·.1)).Nodup
  n3 : (p.rooms.map (·.2.2.2.1)).Nodup
  d12 : ∀ c ∈ p.calls, ∀ r ∈ p.rooms, c.1 ≠ r.1
  d13 : ∀ c ∈ p.calls, ∀ r ∈ p.rooms, c.1 ≠ r.2.2.2.1
  d23 : ∀ c ∈ p.rooms, ∀ r ∈ p.rooms, c.1 ≠ r.2.2.2.1
  s1 : (p.calls.map (·.2.1)).Nodup
  s2 : (p.rooms.map (·.2.1)).Nodup
  s12 : ∀ c ∈ p.calls, ∀ r ∈ p.rooms, c.2.1 ≠ r.2.1
def Par3.okB (ci cs ri rs rj : List Nat) : Bool :=
  decide ci.Nodup && decide ri.Nodup && decide rj.Nodup && (ci.all fun x => ri.all fun y => x != y) && (ci.all fun x => rj.all fun y => x != y) && (ri.all fun x => rj.all fun y => x != y) && decide cs.Nodup && decide rs.Nodup && (cs.all fun x => rs.all fun y => x != y)
theorem all_ne {l m : List Nat} (h : (l.all fun x => m.all fun y => x != y) = true) {x y : Nat} (hx : x ∈ l) (hy : y ∈ m) : x ≠ y := by
  have := List.all_eq_true.1 (List.all_eq_true.1 h x hx) y hy
  simpa using this
theorem Par3.ok_of {p : Par3} (h : Par3.okB (p.calls.map (·.1)) (p.calls.map (·.2.1)) (p.rooms.map (·.1)) (p.rooms.map (·.2.1)) (p.rooms.map (·.2.2.2.1)) = true) : p.ok := by
  simp only [Par3.okB, Bool.and_eq_true, decide_eq_true_eq] at h
  obtain ⟨⟨⟨⟨⟨⟨⟨⟨h1, h2⟩, h3⟩, h4⟩, h5⟩, h6⟩, h7⟩, h8⟩, h9⟩ := h
  exact ⟨h1, h2, h3, fun c hc r hr => all_ne h4 (List.mem_map_of_mem hc) (List.mem_map_of_mem (f := fun x => x.1) hr), fun c hc r hr => all_ne h5 (List.mem_map_of_mem hc) (List.mem_map_of_mem (f := fun x => x.2.2.2.1) hr),
    fun c hc r hr => all_ne h6 (List.mem_map_of_mem (f := fun x => x.1) hc) (List.mem_map_of_mem (f := fun x => x.2.2.2.1) hr), h7, h8, fun c hc r hr => all_ne h9 (List.mem_map_of_mem (f := fun x => x.2.1) hc) (List.mem_map_of_mem (f := fun x => x.2.1) hr)⟩
variable {p : Par3} {w0 w w' : World} {L : Nat → Bool} {s : Nat → Value}
theorem Par3.Inv.start (hrow : ∀ i ∈ p.row, L i = true) (hc : ∀ i ∈ p.calls.map (·.1), L i = false) (hr : ∀ i ∈ p.rooms.map (·.1), L i = false) (hs : ∀ i ∈ p.rooms.map (·.2.2.2.1), L i = false) : p.Inv w0 L s w0 :=
  ⟨Fr.refl _ _, hrow, fun c hm h => (by rw [hc _ (List.mem_map_of_mem hm)] at h; cases h), fun c hm h => (by rw [hr _ (List.mem_map_of_mem hm)] at h; cases h), fun c hm _ _ _ h => (by rw [hr _ (List.mem_map_of_mem hm)] at h; cases h),
    fun c hm h => (by rw [hs _ (List.mem_map_of_mem (f := fun x => x.2.2.2.1) hm)] at h; cases h)⟩
theorem or_off {i j : Nat} {L : Nat → Bool} (h : i ≠ j) : (i == j || L i) = L i := by rw [show (i == j) = false from by simpa using h, Bool.false_or]
theorem Par3.Inv.called (h : p.Inv w0 L s w) (ok : p.ok) (c : Nat × Nat × (Value → Prop)) (hm : c ∈ p.calls) {v : Value} (F : Fr [] w w') (hv : c.2.2 v) : p.Inv w0 (fun j => j == c.1 || L j) (set1 s c.2.1 v) w' := by
  have e1 : ∀ r ∈ p.rooms, (r.1 == c.1 || L r.1) = L r.1 := fun r hr => or_off (ok.d12 c hm r hr).symm
  have e2 : ∀ r ∈ p.rooms, (r.2.2.2.1 == c.1 || L r.2.2.2.1) = L r.2.2.2.1 := fun r hr => or_off (ok.d13 c hm r hr).symm
  have e3 : ∀ r ∈ p.rooms, set1 s c.2.1 v r.2.1 = s r.2.1 := fun r hr => set1_other _ _ (ok.s12 c hm r hr).symm
  refine ⟨h.fr.trans F, fun i hi => by simp [h.row i hi], fun d hd e => ?_, fun d hd e => ?_, fun d hd g hg hne e e' => ?_, fun d hd e => ?_⟩
  · by_cases hdc : d.1 = c.1
    · obtain rfl : d = c := inj_of_map ok.n1 d hd c hm hdc
      rw [set1_same]; exact hv
    · simp only [or_off hdc] at e
      rw [set1_other _ _ (fun e' => hdc (by rw [inj_of_map (f := fun x => x.2.1) ok.s1 d hd c hm e']))]
      exact h.call d hd e
  · simp only [e1 d hd] at e
    obtain ⟨b, k1, k2, k3⟩ := h.room d hd e
    simp only [e2 d hd, e3 d hd]
    exact ⟨b, k1, k2, F.get k3 (by simp)⟩
  · simp only [e1 d hd] at e
    simp only [e1 g hg] at e'
    rw [e3 d hd, e3 g hg]
    exact h.apart d hd g hg hne e e'
  · simp only [e2 d hd] at e
    simp only [e1 d hd]
    exact h.late d hd e
theorem Par3.Inv.made (h : p.Inv w0 L s w) (ok : p.ok) (c : Nat × Nat × Obj × Nat × Obj) (hm : c ∈ p.rooms) (hc : L c.1 = false) : p.Inv w0 (fun j => j == c.1 || L j) (set1 s c.2.1 (.pointer (some ⟨w.heap.size, 0, none⟩))) (w.alloc c.2.2.1) := by
  have e2 : ∀ r ∈ p.rooms, (r.2.2.2.1 == c.1 || L r.2.2.2.1) = L r.2.2.2.1 := fun r hr => or_off (ok.d23 c hm r hr).symm
  have other : ∀ d ∈ p.rooms, d.1 ≠ c.1 → set1 s c.2.1 (.pointer (some ⟨w.heap.size, 0, none⟩)) d.2.1 = s d.2.1 := fun d hd hne => set1_other _ _ fun e => hne (by rw [inj_of_map (f := fun x => x.2.1) ok.s2 d hd c hm e])
  have less : ∀ d ∈ p.rooms, L d.1 = true → s d.2.1 ≠ .pointer (some ⟨w.heap.size, 0, none⟩) := fun d hd e e' => by
    obtain ⟨b, e1, e2, e3⟩ := h.room d hd e
    have := World.at_lt e3
    rw [e1] at e'
    injection e' with e'
    injection e' with e'
    injection e' with e' _
    omega
  refine ⟨h.fr.alloc _, fun i hi => by simp [h.row i hi], fun d hd e => ?_, fun d hd e => ?_, fun d hd g hg hne e1 e2 => ?_, fun d hd e => ?_⟩
  · simp only [or_off (ok.d12 d hd c hm)] at e
    rw [set1_other _ _ (ok.s12 d hd c hm)]
    exact h.call d hd e
  · simp only [e2 d hd]
    by_cases hdc : d.1 = c.1
    · obtain rfl : d = c := inj_of_map ok.n2 d hd c hm hdc
      have hl : L d.2.2.2.1 = false := by
        cases hq : L d.2.2.2.1
        · rfl
        · rw [h.late d hd hq] at hc; cases hc
      rw [hl, if_neg Bool.false_ne_true]
      exact ⟨_, set1_same _ _ _, h.fr.size, World.at_alloc_new _ _ _ rfl⟩
    · simp only [or_off hdc] at e
      obtain ⟨b, e1, e2, e3⟩ := h.room d hd e
      rw [other d hd hdc]
      exact ⟨b, e1, e2, by rw [World.at_alloc_lt _ _ _ (World.at_lt e3)]; exact e3⟩
  · by_cases hdc : d.1 = c.1
    · obtain rfl : d = c := inj_of_map ok.n2 d hd c hm hdc
      rw [set1_same, other g hg (Ne.symm hne)]
      simp only [or_off (Ne.symm hne)] at e2
      exact (less g hg e2).symm
    · simp only [or_off hdc] at e1
      rw [other d hd hdc]
      by_cases hgc : g.1 = c.1
      · obtain rfl : g = c := inj_of_map ok.n2 g hg c hm hgc
        rw [set1_same]
        exact less d hd e1
      · simp only [or_off hgc] at e2
        rw [other g hg hgc]
        exact h.apart d hd g hg hne e1 e2
  · simp only [e2 d hd] at e
    simp [h.late d hd e]
theorem Par3.Inv.stored (h : p.Inv w0 L s w) (ok : p.ok) (c : Nat × Nat × Obj × Nat × Obj) (hm : c ∈ p.rooms) (hc : L c.1 = true) {b : Nat} (hb : s c.2.1 = .pointer (some ⟨b, 0, none⟩)) : p.Inv w0 (fun j => j == c.2.2.2.1 || L j) s (w.put b c.2.2.2.2) := by
  obtain ⟨b', k1, k2, k3⟩ := h.room c hm hc
  have hbb : b' = b := by
    rw [k1] at hb
    injection hb with e'
    injection e' with e'
    injection e' with e' _
  subst hbb
  have e1 : ∀ r ∈ p.rooms, (r.1 == c.2.2.2.1 || L r.1) = L r.1 := fun r hr => or_off (ok.d23 r hr c hm)
  refine ⟨h.fr.put _ _ fun hn => by omega, fun i hi => by simp [h.row i hi], fun d hd e => ?_, fun d hd e => ?_, fun d hd g hg hne e e' => ?_, fun d hd e => ?_⟩
  · simp only [or_off (ok.d13 d hd c hm)] at e
    exact h.call d hd e
  · simp only [e1 d hd] at e
    by_cases hdc : d.1 = c.1
    · obtain rfl : d = c := inj_of_map ok.n2 d hd c hm hdc
      refine ⟨b', k1, k2, ?_⟩
      rw [World.at_put_same _ _ _ (World.at_lt k3)]
      simp
    · obtain ⟨b2, m1, m2, m3⟩ := h.room d hd e
      have hne : b2 ≠ b' := fun hq => h.apart d hd c hm hdc e hc (by rw [m1, k1, hq])
      have hj : d.2.2.2.1 ≠ c.2.2.2.1 := fun hq => hdc (by rw [inj_of_map (f := fun x => x.2.2.2.1) ok.n3 d hd c hm hq])
      refine ⟨b2, m1, m2, ?_⟩
      rw [World.at_put_other _ _ _ _ hne.symm, m3]
      simp only [or_off hj]
  · simp only [e1 d hd] at e
    simp only [e1 g hg] at e'
    exact h.apart d hd g hg hne e e'
  · simp only [e1 d hd]
    by_cases hj : d.2.2.2.1 = c.2.2.2.1
    · obtain rfl : d = c := inj_of_map (f := fun x => x.2.2.2.1) ok.n3 d hd c hm hj
      exact hc
    · simp only [or_off hj] at e
      exact h.late d hd e
end Go.Dr
namespace Go
section
variable {P : Program} {a : Act} {w : World} {Q : Exit → Act → World → Prop}
/-- A scope with one label: what holds there, by a falling number that the state tells. -/
theorem wp_scope_label {c rest : Code} (l : Nat) (J : Nat → Act → World → Prop) (μ : Act → World → Nat) (hf : findLabel c l = some (Code.skip.seq rest)) (hμ : ∀ j a w, J j a w → μ a w = j)
    (pass : ∀ j a w, J j a w → rest.wp P (Exit.jump l (fun a' w' => ∃ j', j' < j ∧ J j' a' w') Q) a w)
    (first : (∀ j a w, J j a w → rest.wp P (Exit.jump l (fun a' w' => ∃ j, J j a' w') Q) a w) → c.wp P (Exit.jump l (fun a' w' => ∃ j, J j a' w') Q) a w) : (Code.scope c).wp P Q a w := by
  have up : ∀ (R R' : Act → World → Prop), (∀ a w, R a w → R' a w) → ∀ e a w, Exit.jump l R Q e a w → Exit.jump l R' Q e a w := fun R R' h e a w he => by
    cases e <;> first | exact he | exact ⟨he.1, h _ _ he.2⟩
  refine wp_scope_jumps l (fun a w => ∃ j, J j a w) μ hf (first fun j a w hj => wp_mono (pass j a w hj) (up _ _ fun a w ⟨j', _, h⟩ => ⟨j', h⟩)) ?_
  rintro a w ⟨j, hj⟩
  exact wp_seq (wp_skip (wp_mono (pass j a w hj) (up _ _ fun a' w' ⟨j', hl, h⟩ => ⟨⟨j', h⟩, by rw [hμ _ _ _ h, hμ _ _ _ hj]; exact hl⟩)))
end
theorem pair_zero_arr (c : List Int) (h : c.length = 5) :
    ((((((spl #[.int .u64 0, .int .u64 0, .int .u64 0, .int .u64 0, .int .u64 0, .int .u64 0, .int .u64 0, .int .u64 0, .int .u64 0, .int .u64 0] 0 (c.map (Value.int .u64))).toList.set 5 (.int .u64 0)).set 6 (.int .u64 0)).set 7 (.int .u64 0)).set 8 (.int .u64 0)).set 9 (.int .u64 0)).toArray = ints .u64 (c ++ zs 5) := by
  obtain ⟨a, b, d, e, f, rfl⟩ : ∃ a b d e f, c = [a, b, d, e, f] := by
    match c, h with
    | [a, b, d, e, f], _ => exact ⟨a, b, d, e, f, rfl⟩
  rw [show (#[.int .u64 0, .int .u64 0, .int .u64 0, .int .u64 0, .int .u64 0, .int .u64 0, .int .u64 0, .int .u64 0, .int .u64 0, .int .u64 0] : Array Value) = ints .u64 (zs 10) from rfl, spl_ints]
  simp [ints, lay, zs, List.replicate]
@[go_sem] theorem pair_zero (c : List Int) (h : c.length = 5) :
    (((((spl #[.int .u64 0, .int .u64 0, .int .u64 0, .int .u64 0, .int .u64 0, .int .u64 0, .int .u64 0, .int .u64 0, .int .u64 0, .int .u64 0] 0 (c.map (Value.int .u64))).toList.set 5 (.int .u64 0)).set 6 (.int .u64 0)).set 7 (.int .u64 0)).set 8 (.int .u64 0)).set 9 (.int .u64 0) = c.map (Value.int .u64) ++ (zs 5).map (Value.int .u64) := by
  have := congrArg Array.toList (pair_zero_arr c h)
  simpa [ints] using this
theorem arr_of {tm : Array Value} {n : Nat} (h : tm.size = n) : tm = ((List.range n).map fun i => tm.getD i undef).toArray := by
  apply Array.ext
  · simp [h]
  · intro i h1 h2
    simp [h1]
end Go
namespace Go.Proofs.Ytakhmmnklkckpaa
open Go.RowKit Go.Dr
section
variable {w : World}
theorem small_n {y : Fp} (n : Nat) (hn : n ≤ 1099511627776) (h : toFp (n : Int) = y) : Calls Try.prog 76 #[.int .i64 n] w fun e w' => e = .returned (dF y) ∧ Fr [] w w' := h ▸ small_f n hn
theorem rof_n {b : List Int} {X : Fp} (hX : fromB b = X) (hlb : b.length = 32) (hb : Byt b) : Calls Try.prog 29 #[.agg (ints .u8 b)] w fun e w' => e = .returned (dF X) ∧ Fr [] w w' := hX ▸ rof_b hlb hb
theorem of_n {b : List Int} {X : Fp} (hX : fromB b = X) (hlb : b.length = 32) (hb : Byt b) : Calls Try.prog 27 #[.agg (ints .u8 b)] w fun e w' => ∃ c, e = .returned (fe c) ∧ Is c X ∧ Fr [] w w' := hX ▸ of_b hlb hb
/-- The secret as it is used: as the document has it. -/
def clD (S : List Int) : List Int := (S.set 0 ((el S 0).tdiv 8 % 256 * 8 % 256)).set 31 (((el (S.set 0 ((el S 0).tdiv 8 % 256 * 8 % 256)) 31).tmod 64 + 64) % 256)
def kbit (C : List Int) (i : Nat) : Bool := decide (el C (i / 8) / 2 ^ (i % 8) % 2 = 1)
theorem byt_el {l : List Int} (h : Byt l) (i : Nat) : 0 ≤ el l i ∧ el l i < 256 := by
  unfold el
  rw [List.getD_eq_getElem?_getD]
  cases hi : l[i]? with
  | none => simp
  | some x => exact h x (List.mem_of_getElem? hi)
theorem byt_set {l : List Int} (h : Byt l) (i : Nat) {x : Int} (hx : 0 ≤ x ∧ x < 256) : Byt (l.set i x) := fun y hy => by
  rcases List.mem_or_eq_of_mem_set hy with hy | rfl
  · exact h y hy
  · exact hx
theorem byt_clD {S : List Int} (h : Byt S) : Byt (clD S) := byt_set (byt_set h 0 (by omega)) 31 (by omega)
theorem length_clD (S : List Int) : (clD S).length = S.length := by simp [clD]
theorem div_pow_range {x : Int} (h : 0 ≤ x ∧ x < 256) (k : Nat) : 0 ≤ x / 2 ^ k ∧ x / 2 ^ k < 256 := by
  have hp : (0 : Int) < 2 ^ k := Int.pow_pos (by omega)
  refine ⟨Int.ediv_nonneg h.1 (by omega), ?_⟩
  exact Int.lt_of_le_of_lt (Int.ediv_le_self _ h.1) h.2
end
def ptr (b : Nat) : Value := .pointer (some ⟨b, 0, none⟩)
theorem all_bytes {p : Int → Bool} (h : ((List.range 256).all fun n => p (n : Int)) = true) {x : Int} (hx : 0 ≤ x ∧ x < 256) : p x = true := by
  have := List.all_eq_true.1 h x.toNat (List.mem_range.2 (by omega))
  rwa [Int.toNat_of_nonneg hx.1] at this
theorem and127 {x : Int} (hx : 0 ≤ x ∧ x < 256) : bits BinOp.and IntKind.u8 x 127 = x % 128 :=
  eq_of_beq (all_bytes (p := fun x => bits BinOp.and IntKind.u8 x 127 == x % 128) (by kernel_rfl) hx)
theorem of_one {w : World} : Calls Try.prog 27 #[.agg (ints .u8 (b1 1))] w fun e w' => ∃ c, e = .returned (fe c) ∧ Is c 1 ∧ Fr [] w w' := by
  have := of_1 (w := w) (n := 1) (by decide)
  rwa [toFp_one] at this
theorem is_zs5 : Is (zs 5) 0 := is_zero
end Go.Proofs.Ytakhmmnklkckpaa
namespace Go
open Go.Dr
/-- The cells of a point. -/
def ptC (x y z t : List Int) (s : Bool) : Array Value := ints .u64 (x ++ y ++ z ++ t) ++ #[.bool s]
section
variable {x y z t : List Int} {s : Bool}
@[go_sem] theorem size_ptC (hx : x.length = 5) (hy : y.length = 5) (hz : z.length = 5) (ht : t.length = 5) : (ptC x y z t s).size = 21 := by simp [ptC, size_ints, hx, hy, hz, ht]
theorem toList_ptC : (ptC x y z t s).toList = x.map (Value.int .u64) ++ (y.map (Value.int .u64) ++ (z.map (Value.int .u64) ++ (t.map (Value.int .u64) ++ [.bool s]))) := by simp [ptC, ints]
@[go_sem] theorem ptC_0 (hx : x.length = 5) (_hy : y.length = 5) (_hz : z.length = 5) (_ht : t.length = 5) : (ptC x y z t s).extract 0 5 = ints .u64 x := by
  apply Array.ext'
  rw [Array.toList_extract, toList_ptC]
  simp [List.extract, ints, hx]
@[go_sem] theorem ptC_1 (hx : x.length = 5) (hy : y.length = 5) (_hz : z.length = 5) (_ht : t.length = 5) : (ptC x y z t s).extract 5 10 = ints .u64 y := by
  apply Array.ext'
  rw [Array.toList_extract, toList_ptC]
  simp [List.extract, ints, hx, hy]
@[go_sem] theorem ptC_2 (hx : x.length = 5) (hy : y.length = 5) (hz : z.length = 5) (_ht : t.length = 5) : (ptC x y z t s).extract 10 15 = ints .u64 z := by
  apply Array.ext'
  rw [Array.toList_extract, toList_ptC]
  simp [List.extract, ints, hx, hy, hz, List.take_append, List.drop_append]
@[go_sem] theorem ptC_3 (hx : x.length = 5) (hy : y.length = 5) (hz : z.length = 5) (ht : t.length = 5) : (ptC x y z t s).extract 15 20 = ints .u64 t := by
  apply Array.ext'
  rw [Array.toList_extract, toList_ptC]
  have h1 : List.drop 15 (x.map (Value.int .u64)) = [] := List.drop_of_length_le (by simp [hx])
  have h2 : List.drop 10 (y.map (Value.int .u64)) = [] := List.drop_of_length_le (by simp [hy])
  simp [List.extract, ints, hx, hy, hz, ht, List.drop_append, h1, h2]
@[go_sem] theorem ptC_all (hx : x.length = 5) (hy : y.length = 5) (hz : z.length = 5) (ht : t.length = 5) : (ptC x y z t s).extract 0 21 = ptC x y z t s := by
  have := size_ptC (s := s) hx hy hz ht
  rw [← this, Array.extract_size]
@[go_sem] theorem ptC_20 (hx : x.length = 5) (hy : y.length = 5) (hz : z.length = 5) (ht : t.length = 5) : (ptC x y z t s)[20]? = some (.bool s) := by
  rw [← Array.getElem?_toList, toList_ptC]
  simp [hx, hy, hz, ht]
@[go_sem] theorem ptC_20' (hx : x.length = 5) (hy : y.length = 5) (hz : z.length = 5) (ht : t.length = 5) (h : 20 < (ptC x y z t s).size) : (ptC x y z t s)[20]'h = .bool s := by
  have := ptC_20 (s := s) hx hy hz ht
  rw [Array.getElem?_eq_getElem h] at this
  exact Option.some.inj this
@[go_sem] theorem ones_ptC : ones (ptC x y z t s).toList = true := by
  rw [toList_ptC]
  simp [ones, Value.oneCell']
@[go_sem] theorem len_ptC (hx : x.length = 5) (hy : y.length = 5) (hz : z.length = 5) (ht : t.length = 5) : (ptC x y z t s).toList.length = 21 := by
  rw [Array.length_toList, size_ptC hx hy hz ht]
@[go_sem] theorem lit_zs5 : (#[.int .u64 0, .int .u64 0, .int .u64 0, .int .u64 0, .int .u64 0] : Array Value) = ints .u64 (zs 5) := rfl
@[go_sem] theorem len_zs5 : (zs 5).length = 5 := rfl
theorem spl_app (A B : Array Value) (o : Nat) (xs : List Value) (h : o + xs.length ≤ A.size) : spl (A ++ B) o xs = spl A o xs ++ B := by
  apply Array.ext_getElem?
  intro i
  rw [getElem?_spl _ _ _ (by rw [Array.size_append]; omega)]
  by_cases h1 : i < A.size
  · have e1 : (A ++ B)[i]? = A[i]? := Array.getElem?_append_left h1
    have e2 : (spl A o xs ++ B)[i]? = (spl A o xs)[i]? := Array.getElem?_append_left (by rw [size_spl _ _ _ h]; exact h1)
    rw [e1, e2, getElem?_spl _ _ _ h]
  · have e1 : (A ++ B)[i]? = B[i - A.size]? := Array.getElem?_append_right (by omega)
    have e2 : (spl A o xs ++ B)[i]? = B[i - A.size]? := by rw [Array.getElem?_append_right (by rw [size_spl _ _ _ h]; omega), size_spl _ _ _ h]
    rw [if_neg (by omega), if_neg (by omega), e1, e2]
theorem lay_four (hx : x.length = 5) (hy : y.length = 5) (hz : z.length = 5) (ht : t.length = 5) : lay (lay (lay (lay (zs 20) 0 x) 5 y) 10 z) 15 t = x ++ y ++ z ++ t := by
  obtain ⟨x0, x1, x2, x3, x4, rfl⟩ : ∃ a b d e f, x = [a, b, d, e, f] := by
    match x, hx with
    | [a, b, d, e, f], _ => exact ⟨a, b, d, e, f, rfl⟩
  obtain ⟨y0, y1, y2, y3, y4, rfl⟩ : ∃ a b d e f, y = [a, b, d, e, f] := by
    match y, hy with
    | [a, b, d, e, f], _ => exact ⟨a, b, d, e, f, rfl⟩
  obtain ⟨z0, z1, z2, z3, z4, rfl⟩ : ∃ a b d e f, z = [a, b, d, e, f] := by
    match z, hz with
    | [a, b, d, e, f], _ => exact ⟨a, b, d, e, f, rfl⟩
  obtain ⟨t0, t1, t2, t3, t4, rfl⟩ : ∃ a b d e f, t = [a, b, d, e, f] := by
    match t, ht with
    | [a, b, d, e, f], _ => exact ⟨a, b, d, e, f, rfl⟩
  simp [lay, zs, List.replicate]
@[go_sem] theorem pt_build (hx : x.length = 5) (hy : y.length = 5) (hz : z.length = 5) (ht : t.length = 5) (s' : Bool) :
    ((spl (spl (spl (spl #[.int .u64 0, .int .u64 0, .int .u64 0, .int .u64 0, .int .u64 0, .int .u64 0, .int .u64 0, .int .u64 0, .int .u64 0, .int .u64 0, .int .u64 0, .int .u64 0, .int .u64 0, .int .u64 0, .int .u64 0, .int .u64 0, .int .u64 0, .int .u64 0, .int .u64 0, .int .u64 0, .bool s'] 0 (x.map (Value.int .u64))) 5 (y.map (Value.int .u64))) 10 (z.map (Value.int .u64))) 15 (t.map (Value.int .u64))).toList.set 20 (.bool s)) = (ptC x y z t s).toList := by
  rw [show (#[.int .u64 0, .int .u64 0, .int .u64 0, .int .u64 0, .int .u64 0, .int .u64 0, .int .u64 0, .int .u64 0, .int .u64 0, .int .u64 0, .int .u64 0, .int .u64 0, .int .u64 0, .int .u64 0, .int .u64 0, .int .u64 0, .int .u64 0, .int .u64 0, .int .u64 0, .int .u64 0, .bool s'] : Array Value) = ints .u64 (zs 20) ++ #[.bool s'] from rfl]
  have l0 : (zs 20).length = 20 := rfl
  have l1 : (lay (zs 20) 0 x).length = 20 := by rw [length_lay _ _ _ (by omega)]; rfl
  have l2 : (lay (lay (zs 20) 0 x) 5 y).length = 20 := by rw [length_lay _ _ _ (by omega), l1]
  have l3 : (lay (lay (lay (zs 20) 0 x) 5 y) 10 z).length = 20 := by rw [length_lay _ _ _ (by omega), l2]
  rw [spl_app _ _ _ _ (by simp [size_ints, hx, l0]), spl_ints, spl_app _ _ _ _ (by simp [size_ints, hy, l1]), spl_ints, spl_app _ _ _ _ (by simp [size_ints, hz, l2]), spl_ints, spl_app _ _ _ _ (by simp [size_ints, ht, l3]), spl_ints, lay_four hx hy hz ht]
  unfold ptC
  have hl : (ints .u64 (x ++ y ++ z ++ t)).toList.length = 20 := by simp [ints, hx, hy, hz, ht]
  rw [Array.toList_append, Array.toList_append, List.set_append_right _ _ (by omega), hl]
  rfl
@[go_sem] theorem pt_size (hx : x.length = 5) (hy : y.length = 5) (hz : z.length = 5) (ht : t.length = 5) (s' : Bool) :
    (spl (spl (spl (spl #[.int .u64 0, .int .u64 0, .int .u64 0, .int .u64 0, .int .u64 0, .int .u64 0, .int .u64 0, .int .u64 0, .int .u64 0, .int .u64 0, .int .u64 0, .int .u64 0, .int .u64 0, .int .u64 0, .int .u64 0, .int .u64 0, .int .u64 0, .int .u64 0, .int .u64 0, .int .u64 0, .bool s'] 0 (x.map (Value.int .u64))) 5 (y.map (Value.int .u64))) 10 (z.map (Value.int .u64))) 15 (t.map (Value.int .u64))).size = 21 := by
  have h := congrArg List.length (pt_build (s := true) hx hy hz ht s')
  rw [List.length_set, Array.length_toList, Array.length_toList, size_ptC hx hy hz ht] at h
  exact h
end
end Go
namespace Go.Proofs.Ytakhmmnklkckpaa
open Go.RowKit Go.Dr

section
variable {w : World}
/-- The bytes of the code's d. -/
def dB : List Int := [163, 120, 89, 19, 202, 77, 235, 117, 171, 216, 65, 65, 77, 10, 112, 0, 152, 232, 121, 119, 121, 64, 199, 140, 115, 254, 111, 43, 238, 108, 3, 82]
theorem byt_dB : Byt dB := fun y hy => by
  simp only [dB, List.mem_cons, List.not_mem_nil, or_false] at hy
  omega
/-- The curve's number d. -/
def dE : Fp := toFp 37095705934669439343138083508754565189542113879843219016388785533085940283555
theorem from_dB : fromB dB = dE := by kernel_rfl
theorem of_dB : Calls Try.prog 27 #[.agg (ints .u8 dB)] w fun e w' => ∃ c, e = .returned (fe c) ∧ Is c dE ∧ Fr [] w w' := from_dB ▸ of_b rfl byt_dB
theorem of_two : Calls Try.prog 27 #[.agg (ints .u8 (b1 2))] w fun e w' => ∃ c, e = .returned (fe c) ∧ Is c (toFp 2) ∧ Fr [] w w' := of_1 (by decide)
set_option maxRecDepth 100000 in
set_option maxHeartbeats 8000000 in
theorem one_f : Calls Try.prog 100 #[] w fun e w' => ∃ c, e = .returned (fe c) ∧ Is c 1 ∧ Fr [] w w' := by
  go_enter Try.func100, Try.ntmps100
  go_wp2_with fail
  refine (of_one).mono ?_
  rintro e w2 ⟨c4, rfl, k5, F3⟩
  have nc4 := k5.len
  have Hc4 := Lib.hid k5
  clear k5
  have h6 : OwB w [(w.heap.size, .cells (ints .u64 (List.replicate 5 0)) 28)] w2 := (((OwB.start w).allocN (.cells (ints .u64 (List.replicate 5 0)) 28) w.heap.size rfl)).call F3
  clear F3
  simp only []
  generalize w.heap.size = bk1 at h6 ⊢
  obtain ⟨L7, hL7⟩ : ∃ L : List (Nat × Obj), L = [(bk1, .cells (ints .u64 (List.replicate 5 0)) 28)] := ⟨_, rfl⟩
  rw [← hL7] at h6
  have HL7 := Lib.hid hL7
  clear hL7
  have s8 := h6
  rw [HL7.out] at s8
  have f9 := s8.nth 0 rfl
  have t10 := s8.lt 0 rfl
  clear s8
  go_wp2_with fail
  clear f9 t10
  have s11 := h6
  rw [HL7.out] at s11
  refine OwB.named (Q := fun X => bodyPost _ _ _ _ _ X) (show OwB w [(bk1, .cells (ints .u64 c4) 28)] _ from (s11.set 0 (.cells (ints .u64 c4) 28) rfl)) ?_
  intro V13 h12
  clear s11 h6
  obtain ⟨L14, hL14⟩ : ∃ L : List (Nat × Obj), L = [(bk1, .cells (ints .u64 c4) 28)] := ⟨_, rfl⟩
  rw [← hL14] at h12
  have HL14 := Lib.hid hL14
  clear hL14
  have s15 := h12
  rw [HL14.out] at s15
  refine ret_cell rfl rfl rfl ?_
  refine cellRet_of (s15.nth 0 rfl) (aggB_ints nc4 (by kernel_rfl)) ?_
  exact ⟨c4, rfl, Hc4.out, s15.fr⟩

set_option maxRecDepth 100000 in
set_option maxHeartbeats 8000000 in
theorem factor_f : Calls Try.prog 84 #[] w fun e w' => ∃ c, e = .returned (fe c) ∧ Is c dE ∧ Fr [] w w' := by
  go_enter Try.func84, Try.ntmps84
  go_wp2_with fail
  refine (of_dB).mono ?_
  rintro e w2 ⟨c4, rfl, k5, F3⟩
  have nc4 := k5.len
  have Hc4 := Lib.hid k5
  clear k5
  have h6 : OwB w [(w.heap.size, .cells (ints .u64 (List.replicate 5 0)) 28)] w2 := (((OwB.start w).allocN (.cells (ints .u64 (List.replicate 5 0)) 28) w.heap.size rfl)).call F3
  clear F3
  simp only []
  generalize w.heap.size = bk1 at h6 ⊢
  obtain ⟨L7, hL7⟩ : ∃ L : List (Nat × Obj), L = [(bk1, .cells (ints .u64 (List.replicate 5 0)) 28)] := ⟨_, rfl⟩
  rw [← hL7] at h6
  have HL7 := Lib.hid hL7
  clear hL7
  have s8 := h6
  rw [HL7.out] at s8
  have f9 := s8.nth 0 rfl
  have t10 := s8.lt 0 rfl
  clear s8
  go_wp2_with fail
  clear f9 t10
  have s11 := h6
  rw [HL7.out] at s11
  refine OwB.named (Q := fun X => bodyPost _ _ _ _ _ X) (show OwB w [(bk1, .cells (ints .u64 c4) 28)] _ from (s11.set 0 (.cells (ints .u64 c4) 28) rfl)) ?_
  intro V13 h12
  clear s11 h6
  obtain ⟨L14, hL14⟩ : ∃ L : List (Nat × Obj), L = [(bk1, .cells (ints .u64 c4) 28)] := ⟨_, rfl⟩
  rw [← hL14] at h12
  have HL14 := Lib.hid hL14
  clear hL14
  have s15 := h12
  rw [HL14.out] at s15
  refine ret_cell rfl rfl rfl ?_
  refine cellRet_of (s15.nth 0 rfl) (aggB_ints nc4 (by kernel_rfl)) ?_
  exact ⟨c4, rfl, Hc4.out, s15.fr⟩

set_option maxRecDepth 100000 in
set_option maxHeartbeats 8000000 in
theorem small2_f : Calls Try.prog 83 #[.int .i64 2] w fun e w' => ∃ c, e = .returned (fe c) ∧ Is c (toFp 2) ∧ Fr [] w w' := by
  go_enter Try.func83, Try.ntmps83
  go_wp2_with fail
  refine (of_two).mono ?_
  rintro e w2 ⟨c4, rfl, k5, F3⟩
  have nc4 := k5.len
  have Hc4 := Lib.hid k5
  clear k5
  have h6 : OwB w [(w.heap.size, .cells (ints .u64 (List.replicate 5 0)) 28)] w2 := (((OwB.start w).allocN (.cells (ints .u64 (List.replicate 5 0)) 28) w.heap.size rfl)).call F3
  clear F3
  simp only []
  generalize w.heap.size = bk1 at h6 ⊢
  obtain ⟨L7, hL7⟩ : ∃ L : List (Nat × Obj), L = [(bk1, .cells (ints .u64 (List.replicate 5 0)) 28)] := ⟨_, rfl⟩
  rw [← hL7] at h6
  have HL7 := Lib.hid hL7
  clear hL7
  have s8 := h6
  rw [HL7.out] at s8
  have f9 := s8.nth 0 rfl
  have t10 := s8.lt 0 rfl
  clear s8
  go_wp2_with fail
  clear f9 t10
  have s11 := h6
  rw [HL7.out] at s11
  refine OwB.named (Q := fun X => bodyPost _ _ _ _ _ X) (show OwB w [(bk1, .cells (ints .u64 c4) 28)] _ from (s11.set 0 (.cells (ints .u64 c4) 28) rfl)) ?_
  intro V13 h12
  clear s11 h6
  obtain ⟨L14, hL14⟩ : ∃ L : List (Nat × Obj), L = [(bk1, .cells (ints .u64 c4) 28)] := ⟨_, rfl⟩
  rw [← hL14] at h12
  have HL14 := Lib.hid hL14
  clear hL14
  have s15 := h12
  rw [HL14.out] at s15
  refine ret_cell rfl rfl rfl ?_
  refine cellRet_of (s15.nth 0 rfl) (aggB_ints nc4 (by kernel_rfl)) ?_
  exact ⟨c4, rfl, Hc4.out, s15.fr⟩

end
end Go.Proofs.Ytakhmmnklkckpaa
namespace Go.Proofs.Ytakhmmnklkckpaa
open Go.RowKit Go.Dr

section
variable {w : World}
set_option maxRecDepth 100000 in
set_option maxHeartbeats 8000000 in
theorem whole_true (x y z t : List Int) (nx : x.length = 5) (ny : y.length = 5) (nz : z.length = 5) (nt : t.length = 5) : Calls Try.prog 82 #[.agg (ptC x y z t true)] w fun e w' => e = .returned (.agg (ptC x y z t true)) ∧ Fr [] w w' := by
  go_enter Try.func82, Try.ntmps82
  go_wp2_with fail
  refine OwB.named (Q := fun X => bodyPost _ _ _ _ _ X) (show OwB w [(w.heap.size + 1, .cells (ptC x y z t true) 49), (w.heap.size, .cells (ptC x y z t true) 49)] _ from (((OwB.start w).allocN (.cells (ptC x y z t true) 49) w.heap.size rfl).allocN (.cells (ptC x y z t true) 49) (w.heap.size + 1) (by simp))) ?_
  intro V4 h3
  generalize w.heap.size + 1 = bk2 at h3 ⊢
  generalize w.heap.size = bk1 at h3 ⊢
  obtain ⟨L5, hL5⟩ : ∃ L : List (Nat × Obj), L = [(bk2, .cells (ptC x y z t true) 49), (bk1, .cells (ptC x y z t true) 49)] := ⟨_, rfl⟩
  rw [← hL5] at h3
  have HL5 := Lib.hid hL5
  clear hL5
  have s6 := h3
  rw [HL5.out] at s6
  refine ret_cell rfl rfl rfl ?_
  refine cellRet_of (s6.nth 0 rfl) (by rw [size_ptC nx ny nz nt]; kernel_rfl) ?_
  exact ⟨rfl, s6.fr⟩

set_option maxRecDepth 100000 in
set_option maxHeartbeats 8000000 in
theorem whole_false (x y z t : List Int) (nx : x.length = 5) (ny : y.length = 5) (nz : z.length = 5) (nt : t.length = 5) : Calls Try.prog 82 #[.agg (ptC x y z t false)] w fun e w' => ∃ y z, e = .returned (.agg (ptC (zs 5) y z (zs 5) true)) ∧ Is y 1 ∧ Is z 1 ∧ Fr [] w w' := by
  have HZ5 := Lib.hid is_zs5
  go_enter Try.func82, Try.ntmps82
  go_wp2_with fail
  refine (one_f).mono ?_
  rintro e w3 ⟨c5, rfl, k6, F4⟩
  have nc5 := k6.len
  have Hc5 := Lib.hid k6
  clear k6
  have h7 : OwB w [(w.heap.size + 1, .cells (ptC (zs 5) (zs 5) (zs 5) (zs 5) false) 49), (w.heap.size, .cells (ptC x y z t false) 49)] w3 := ((((OwB.start w).allocN (.cells (ptC x y z t false) 49) w.heap.size rfl).allocN (.cells (ptC (zs 5) (zs 5) (zs 5) (zs 5) false) 49) (w.heap.size + 1) (by simp))).call F4
  clear F4
  simp only []
  generalize w.heap.size + 1 = bk2 at h7 ⊢
  generalize w.heap.size = bk1 at h7 ⊢
  obtain ⟨L8, hL8⟩ : ∃ L : List (Nat × Obj), L = [(bk2, .cells (ptC (zs 5) (zs 5) (zs 5) (zs 5) false) 49), (bk1, .cells (ptC x y z t false) 49)] := ⟨_, rfl⟩
  rw [← hL8] at h7
  have HL8 := Lib.hid hL8
  clear hL8
  go_wp2_with fail
  refine (one_f).mono ?_
  rintro e w9 ⟨c11, rfl, k12, F10⟩
  have nc11 := k12.len
  have Hc11 := Lib.hid k12
  clear k12
  have s14 := h7
  rw [HL8.out] at s14
  have h13 : OwB w [(bk2, .cells (ptC (zs 5) (zs 5) (zs 5) (zs 5) false) 49), (bk1, .cells (ptC x y z t false) 49)] w9 := (s14).call F10
  clear F10
  simp only []
  clear s14 h7
  obtain ⟨L15, hL15⟩ : ∃ L : List (Nat × Obj), L = [(bk2, .cells (ptC (zs 5) (zs 5) (zs 5) (zs 5) false) 49), (bk1, .cells (ptC x y z t false) 49)] := ⟨_, rfl⟩
  rw [← hL15] at h13
  have HL15 := Lib.hid hL15
  clear hL15
  have s16 := h13
  rw [HL15.out] at s16
  have f17 := s16.nth 0 rfl
  have t18 := s16.lt 0 rfl
  clear s16
  go_wp2_with fail
  clear f17 t18
  have s19 := h13
  rw [HL15.out] at s19
  refine OwB.named (Q := fun X => bodyPost _ _ _ _ _ X) (show OwB w [(bk2, .cells (ptC (zs 5) c5 c11 (zs 5) true) 49), (bk1, .cells (ptC x y z t false) 49)] _ from (s19.set 0 (.cells (ptC (zs 5) c5 c11 (zs 5) true) 49) rfl)) ?_
  intro V21 h20
  clear s19 h13
  obtain ⟨L22, hL22⟩ : ∃ L : List (Nat × Obj), L = [(bk2, .cells (ptC (zs 5) c5 c11 (zs 5) true) 49), (bk1, .cells (ptC x y z t false) 49)] := ⟨_, rfl⟩
  rw [← hL22] at h20
  have HL22 := Lib.hid hL22
  clear hL22
  have s23 := h20
  rw [HL22.out] at s23
  refine ret_cell rfl rfl rfl ?_
  refine cellRet_of (s23.nth 0 rfl) (by rw [size_ptC len_zs5 nc5 nc11 len_zs5]; kernel_rfl) ?_
  exact ⟨c5, c11, rfl, Hc5.out, Hc11.out, s23.fr⟩

end
end Go.Proofs.Ytakhmmnklkckpaa
namespace Go.Proofs.Ytakhmmnklkckpaa
open Go.RowKit Go.Dr
structure CpOk (x y z t : List Int) (s : Bool) (X Y Z T : Fp) : Prop where
  nx : x.length = 5
  ny : y.length = 5
  nz : z.length = 5
  nt : t.length = 5
  set : s = true → Is x X ∧ Is y Y ∧ Is z Z ∧ Is t T
  not : s = false → X = 0 ∧ Y = 1 ∧ Z = 1 ∧ T = 0
theorem CpOk.mk' {x y z t : List Int} {X Y Z T : Fp} (hx : Is x X) (hy : Is y Y) (hz : Is z Z) (ht : Is t T) : CpOk x y z t true X Y Z T :=
  ⟨hx.len, hy.len, hz.len, ht.len, fun _ => ⟨hx, hy, hz, ht⟩, fun h => by cases h⟩
theorem CpOk.zero : CpOk (zs 5) (zs 5) (zs 5) (zs 5) false 0 1 1 0 := ⟨rfl, rfl, rfl, rfl, (fun h => by cases h), fun _ => ⟨rfl, rfl, rfl, rfl⟩⟩
section
variable {w : World} {x y z t : List Int} {s : Bool} {X Y Z T : Fp}
theorem whole_f (h : CpOk x y z t s X Y Z T) : Calls Try.prog 82 #[.agg (ptC x y z t s)] w fun e w' => ∃ a b c d, e = .returned (.agg (ptC a b c d true)) ∧ Is a X ∧ Is b Y ∧ Is c Z ∧ Is d T ∧ Fr [] w w' := by
  cases s with
  | true =>
    obtain ⟨h1, h2, h3, h4⟩ := h.set rfl
    exact (whole_true x y z t h.nx h.ny h.nz h.nt).mono fun e w' ⟨he, hF⟩ => ⟨x, y, z, t, he, h1, h2, h3, h4, hF⟩
  | false =>
    obtain ⟨rfl, rfl, rfl, rfl⟩ := h.not rfl
    exact (whole_false x y z t h.nx h.ny h.nz h.nt).mono fun e w' ⟨b, c, he, hb, hc, hF⟩ => ⟨_, b, c, _, he, is_zs5, hb, hc, is_zs5, hF⟩
end
end Go.Proofs.Ytakhmmnklkckpaa
namespace Go.Proofs.Ytakhmmnklkckpaa
open Go.RowKit Go.Dr
/-- The cells of a point of the document. -/
def dpC (X Y Z : Fp) : Array Value := ints .i64 (digs X.val ++ digs Y.val ++ digs Z.val)
section
variable {X Y Z : Fp}
@[go_sem] theorem size_dpC : (dpC X Y Z).size = 48 := by simp [dpC, size_ints, length_digs]
@[go_sem] theorem dpC_0 : (dpC X Y Z).extract 0 16 = ints .i64 (digs X.val) := by
  rw [dpC, extract_ints]
  congr 1
@[go_sem] theorem dpC_1 : (dpC X Y Z).extract 16 32 = ints .i64 (digs Y.val) := by
  rw [dpC, extract_ints]
  congr 1
@[go_sem] theorem dpC_2 : (dpC X Y Z).extract 32 48 = ints .i64 (digs Z.val) := by
  rw [dpC, extract_ints]
  congr 1
@[go_sem] theorem dpC_all : (dpC X Y Z).extract 0 48 = dpC X Y Z := by
  have := @size_dpC X Y Z
  rw [← this, Array.extract_size]
@[go_sem] theorem ones_dpC : ones (dpC X Y Z).toList = true := by rw [dpC, toList_ints]; exact ones_map_int _ _
@[go_sem] theorem len_dpC : (dpC X Y Z).toList.length = 48 := by rw [Array.length_toList, size_dpC]
@[go_sem] theorem d_build : spl (spl (spl #[.int .i64 0, .int .i64 0, .int .i64 0, .int .i64 0, .int .i64 0, .int .i64 0, .int .i64 0, .int .i64 0, .int .i64 0, .int .i64 0, .int .i64 0, .int .i64 0, .int .i64 0, .int .i64 0, .int .i64 0, .int .i64 0, .int .i64 0, .int .i64 0, .int .i64 0, .int .i64 0, .int .i64 0, .int .i64 0, .int .i64 0, .int .i64 0, .int .i64 0, .int .i64 0, .int .i64 0, .int .i64 0, .int .i64 0, .int .i64 0, .int .i64 0, .int .i64 0, .int .i64 0, .int .i64 0, .int .i64 0, .int .i64 0, .int .i64 0, .int .i64 0, .int .i64 0, .int .i64 0, .int .i64 0, .int .i64 0, .int .i64 0, .int .i64 0, .int .i64 0, .int .i64 0, .int .i64 0, .int .i64 0] 0 ((digs X.val).map (Value.int .i64))) 16 ((digs Y.val).map (Value.int .i64))) 32 ((digs Z.val).map (Value.int .i64)) = dpC X Y Z := by
  rw [show (#[.int .i64 0, .int .i64 0, .int .i64 0, .int .i64 0, .int .i64 0, .int .i64 0, .int .i64 0, .int .i64 0, .int .i64 0, .int .i64 0, .int .i64 0, .int .i64 0, .int .i64 0, .int .i64 0, .int .i64 0, .int .i64 0, .int .i64 0, .int .i64 0, .int .i64 0, .int .i64 0, .int .i64 0, .int .i64 0, .int .i64 0, .int .i64 0, .int .i64 0, .int .i64 0, .int .i64 0, .int .i64 0, .int .i64 0, .int .i64 0, .int .i64 0, .int .i64 0, .int .i64 0, .int .i64 0, .int .i64 0, .int .i64 0, .int .i64 0, .int .i64 0, .int .i64 0, .int .i64 0, .int .i64 0, .int .i64 0, .int .i64 0, .int .i64 0, .int .i64 0, .int .i64 0, .int .i64 0, .int .i64 0] : Array Value) = ints .i64 (zs 48) from rfl, spl_ints, spl_ints, spl_ints, dpC]
  congr 1
end
section
variable {w : World} {a b : List Int} {x y z : Fp}
theorem mul_n (ha : Is a x) (hb : Is b y) (h : x * y = z) : Calls Try.prog 36 #[fe a, fe b] w fun e w' => ∃ c, e = .returned (fe c) ∧ Is c z ∧ Fr [] w w' := h ▸ mul_f ha hb
theorem rmul_n (h : x * y = z) : Calls Try.prog 37 #[dF x, dF y] w fun e w' => e = .returned (dF z) ∧ Fr [] w w' := h ▸ rmul_f x y
theorem rneg_n (h : -x = z) : Calls Try.prog 35 #[dF x] w fun e w' => e = .returned (dF z) ∧ Fr [] w w' := h ▸ rneg_f x
theorem rinv_n (h : inv x = z) : Calls Try.prog 41 #[dF x] w fun e w' => e = .returned (dF z) ∧ Fr [] w w' := h ▸ rinv_f x
theorem inv_n (ha : Is a x) (h : inv x = z) : Calls Try.prog 40 #[fe a] w fun e w' => ∃ c, e = .returned (fe c) ∧ Is c z ∧ Fr [] w w' := h ▸ inv_f ha
theorem root_nm {c : List Int} {x rf : Fp} {ro : Bool} (ho : ro = rootOk x) (hf : rf = rootF x) (hc : Is c x) : Calls Try.prog 38 #[fe c] w fun e w' => ∃ c, e = .returned (.tuple #[fe c, .bool ro]) ∧ Is c rf ∧ Fr [] w w' := by
  rw [ho, hf]; exact root_walk _ _ hc
theorem rroot_nm {x rf : Fp} {ro : Bool} (ho : ro = rootOk x) (hf : rf = rootF x) : Calls Try.prog 39 #[dF x] w fun e w' => e = .returned (.tuple #[dF rf, .bool ro]) ∧ Fr [] w w' := by
  rw [ho, hf]; exact rroot_walk _
/-- The code's bytes of a point, of its two numbers. -/
def encC (x y : Fp) : List Int := (bytesF y).set 31 (bits BinOp.or IntKind.u8 (el (bytesF y) 31) (bits BinOp.and IntKind.u8 (el (bytesF x) 0) 1 * 128 % 256))
end
end Go.Proofs.Ytakhmmnklkckpaa
