/- Joined: GnD. -/
import Derived.Test.YtombhkekocbfoaaZb
set_option linter.unusedVariables false
set_option linter.unusedSimpArgs false
namespace Go
open Go.Dr

/-! ### A struct's cells, segment by segment -/
theorem seg_get {A C : List Value} {v : Value} {i : Nat} (h : A.length = i) : (A ++ v :: C).toArray[i]? = some v := by
  subst h; simp
theorem seg_get' {A C : List Value} {v : Value} {i : Nat} (h : A.length = i) (hi : i < (A ++ v :: C).toArray.size) : (A ++ v :: C).toArray[i] = v := by
  have := seg_get (C := C) (v := v) h
  rw [Array.getElem?_eq_getElem hi] at this
  exact Option.some.inj this
theorem seg_ext {A B C : List Value} {i j : Nat} (hA : A.length = i) (hB : i + B.length = j) : (A ++ (B ++ C)).toArray.extract i j = B.toArray := by
  subst hA hB
  apply Array.ext'
  simp
theorem seg_set {A C : List Value} {v u : Value} {i : Nat} (h : A.length = i) : (A ++ v :: C).toArray.setIfInBounds i u = (A ++ u :: C).toArray := by
  subst h
  apply Array.ext'
  simp
theorem seg_spl {A B B' C : List Value} {i : Nat} (hA : A.length = i) (hB : B.length = B'.length) : spl (A ++ (B ++ C)).toArray i B' = (A ++ (B' ++ C)).toArray := by
  subst hA
  apply Array.ext'
  simp [spl, hB]
  exact List.take_of_length_le (by omega)
theorem seg_el {A C : List Value} {k : IntKind} {l : List Int} {i j : Nat} (h : A.length = i) (hj : j < l.length) : (A ++ (l.map (Value.int k) ++ C)).toArray[i + j]? = some (.int k (el l j)) := by
  subst h
  simp [el, hj, List.getElem?_append]
theorem seg_put {A C : List Value} {k : IntKind} {l : List Int} {i j : Nat} {x : Int} (h : A.length = i) (hj : j < l.length) : (A ++ (l.map (Value.int k) ++ C)).toArray.setIfInBounds (i + j) (.int k x) = (A ++ ((l.set j x).map (Value.int k) ++ C)).toArray := by
  subst h
  apply Array.ext'
  simp [List.set_append, hj, List.map_set]
theorem seg_all {l : List Value} {n : Nat} (h : l.length = n) : l.toArray.extract 0 n = l.toArray := by
  subst h
  apply Array.ext'
  simp

/-! ### A row of values, and room behind it -/
def rowV (vs : List Value) (r : Array Value) : Array Value := vs.toArray ++ r
theorem size_rowV (vs : List Value) (r : Array Value) : (rowV vs r).size = vs.length + r.size := by simp [rowV]
theorem getElem?_rowV (vs : List Value) (r : Array Value) (i : Nat) (h : i < vs.length) : (rowV vs r)[i]? = some vs[i] := by
  rw [rowV, Array.getElem?_append_left (by simpa using h)]; simp [h]
theorem getElem_rowV (vs : List Value) (r : Array Value) (i : Nat) (hi : i < (rowV vs r).size) (h : i < vs.length) : (rowV vs r)[i] = vs[i] := by
  have := getElem?_rowV vs r i h
  rw [Array.getElem?_eq_getElem hi] at this
  exact Option.some.inj this
attribute [go_sem] size_rowV

/-! ### A slice whose cells are these values -/
/-- n elements of sz cells each. -/
structure Sv (sz : Nat) (w : World) (p : Option Addr) (n cap : Nat) (vs : List Value) : Prop where
  len : vs.length = n * sz
  cap_ : n ≤ cap
  row : n = 0 ∨ ∃ b off cs T fr, p = some ⟨b, off, none⟩ ∧ w.blk b = some (.cells cs T fr) ∧ off + n * sz ≤ cs.size ∧ (cs.extract off (off + n * sz)).toList = vs
  nil : p = none → cap = 0
  mid : True
section
variable {sz : Nat} {w w' : World} {p : Option Addr} {n cap : Nat} {vs : List Value}
theorem Sv.fr {fp : List Nat} (h : Sv sz w p n cap vs) (F : Fr fp w w') (hn : ∀ b, p.map (·.block) = some b → b ∉ fp) : Sv sz w' p n cap vs := by
  refine ⟨h.len, h.cap_, ?_, h.nil, h.mid⟩
  rcases h.row with h0 | ⟨b, off, cs, T, fr, rfl, hb, hs, hl⟩
  · exact .inl h0
  · exact .inr ⟨b, off, cs, T, fr, rfl, F.get hb (hn b rfl), hs, hl⟩
theorem Sv.fr0 (h : Sv sz w p n cap vs) (F : Fr [] w w') : Sv sz w' p n cap vs := h.fr F fun _ _ => by simp
theorem Sv.ofNil (w : World) : Sv sz w none 0 0 [] := ⟨by simp, Nat.le_refl 0, .inl rfl, fun _ => rfl, by simp⟩
/-- Element j's cells lie there. -/
theorem Sv.at (h : Sv sz w p n cap vs) {j : Nat} (hj : j < n) : ∃ b off cs T fr, p = some ⟨b, off, none⟩ ∧ w.blk b = some (.cells cs T fr) ∧ off + n * sz ≤ cs.size ∧ ∀ i, i < sz → cs[off + j * sz + i]? = vs[j * sz + i]? := by
  rcases h.row with h0 | ⟨b, off, cs, T, fr, hp, hb, hs, hl⟩
  · omega
  · refine ⟨b, off, cs, T, fr, hp, hb, hs, fun i hi => ?_⟩
    have hlt : j * sz + i < n * sz := by
      have h1 : (j + 1) * sz ≤ n * sz := Nat.mul_le_mul_right _ hj
      rw [Nat.add_mul] at h1; omega
    rw [← hl, Array.getElem?_toList, Array.getElem?_extract_of_lt (by omega), Nat.add_assoc]
    exact Array.getElem?_eq_getElem (by omega)
theorem Sv.at1 (h : Sv 1 w p n cap vs) {j : Nat} (hj : j < n) (hj2 : j < vs.length) : ∃ b off cs T fr, p = some ⟨b, off, none⟩ ∧ w.blk b = some (.cells cs T fr) ∧ off + j < cs.size ∧ cs[off + j]? = some vs[j] := by
  obtain ⟨b, off, cs, T, fr, hp, hb, hs, hat⟩ := h.at hj
  have := hat 0 (by omega)
  rw [Nat.mul_one, Nat.add_zero, Nat.add_zero, List.getElem?_eq_getElem hj2] at this
  exact ⟨b, off, cs, T, fr, hp, hb, (Array.getElem?_eq_some_iff.1 this).1, this⟩
theorem Sv.src {P : Program} {t e' : TypeId} (h : Sv sz w p n cap vs) (hk : P.underlying t = some (.slice e')) (h1 : ∀ u ∈ vs, u.oneCell' = true) : Src P sz t (.slice p n cap) n vs w := by
  rcases Nat.eq_zero_or_pos n with rfl | h0
  · have hl : vs = [] := List.eq_nil_of_length_eq_zero (by simpa using h.len)
    subst hl
    cases p with
    | none => rw [h.nil rfl]; exact Src.ofNil w hk 0
    | some a => exact Src.ofSlice w hk a 0 cap [] (by simp) (by simp) (by simp)
  · rcases h.row with h2 | ⟨b, off, cs, T, fr, rfl, hb, hs, hl⟩
    · omega
    · refine Src.ofSlice w hk _ n cap _ h.len ?_ h1
      intro j u hu
      have hj : j < n * sz := by have := (List.getElem?_eq_some_iff.1 hu).1; rw [h.len] at this; exact this
      rw [Addr.add_mid, World.cell?_at, hb]
      rw [← hl, Array.getElem?_toList, Array.getElem?_extract_of_lt (by omega)] at hu
      show cs[off + j]? = some u
      rw [Array.getElem?_eq_getElem (by omega)]; exact hu
end

/-! ### A row of the call's own that grows -/
structure BldV (w0 : World) (L : List (Nat × Obj)) (e sz : Nat) (w : World) (p : Option Addr) (n cap : Nat) (vs : List Value) : Prop where
  own : OwB w0 L w
  row : OwnsR w e sz p n cap vs
  new : ∀ g, p.map (·.block) = some g → w0.heap.size ≤ g ∧ g ∉ L.map Prod.fst
section
variable {w0 w w' : World} {L : List (Nat × Obj)} {e sz : Nat} {p : Option Addr} {n cap : Nat} {vs : List Value}
theorem BldV.len (h : BldV w0 L e sz w p n cap vs) : vs.length = n * sz := h.row.1
theorem BldV.nil (h : OwB w0 L w) : BldV w0 L e sz w none 0 0 [] := ⟨h, World.ownsRow_nil w 0 e sz, fun g hg => by cases hg⟩
theorem BldV.call (h : BldV w0 L e sz w p n cap vs) (F : Fr [] w w') : BldV w0 L e sz w' p n cap vs := ⟨h.own.call F, F.owns h.row fun _ _ => by simp, h.new⟩
theorem BldV.room {b : Nat} (h : BldV w0 L e sz w (some ⟨b, 0, none⟩) n cap vs) : ∃ r, OwB w0 ((b, .cells (rowV vs r) e (0, 0)) :: L) w ∧ cap * sz = vs.length + r.size ∧ n ≤ cap ∧ cap ≤ maxLen := by
  have hl := h.row.1
  rcases h.row.2 with ⟨hv, _⟩ | ⟨g, c, cur, hv, _, hg, hnc, hcm, hcs, ht⟩
  · cases hv
  · simp only [Value.slice.injEq, Option.some.injEq, Addr.mk.injEq, and_true, true_and] at hv
    obtain ⟨rfl, rfl⟩ := hv
    refine ⟨cur.extract (n * sz) cur.size, h.own.room ?_ (h.new b rfl).2 (h.new b rfl).1, ?_, hnc, hcm⟩
    · rw [World.blk_heap, hg]
      congr 2
      rw [rowV]
      apply Array.ext'
      rw [Array.toList_append, ← ht, Array.toList_extract, List.extract_eq_take_drop]
      rw [List.take_of_length_le (l := cur.toList.drop (n * sz)) (by simp)]
      simp [List.take_append_drop]
    · have h1 : n * sz ≤ cap * sz := Nat.mul_le_mul_right _ hnc
      simp only [Array.size_extract]; omega
theorem BldV.of {b : Nat} {r : Array Value} (h : OwB w0 ((b, .cells (rowV vs r) e (0, 0)) :: L) w) (hl : vs.length = n * sz) (hc : cap * sz = vs.length + r.size) (hn : n ≤ cap) (hm : cap ≤ maxLen) : BldV w0 L e sz w (some ⟨b, 0, none⟩) n cap vs :=
  ⟨h.take, ⟨hl, .inr ⟨b, cap, rowV vs r, rfl, Nat.zero_le _, h.nth 0 rfl, hn, hm, by rw [size_rowV, hc], by rw [rowV, Array.toList_append, ← hl]; simp⟩⟩, fun g hg => by
    simp only [Option.map_some, Option.some.injEq] at hg
    subst hg
    exact ⟨h.low 0 rfl, (List.nodup_cons.1 h.nd).1⟩⟩
theorem BldV.sv (h : BldV w0 L e sz w p n cap vs) : Sv sz w p n cap vs := by
  have hl := h.len
  rcases h.row.2 with ⟨hv, h0⟩ | ⟨g, c, cur, hv, _, hg, hnc, hcm, hcs, ht⟩
  · simp only [Value.slice.injEq] at hv
    obtain ⟨rfl, _, rfl⟩ := hv
    exact ⟨hl, by omega, .inl h0, fun _ => rfl, by simp⟩
  · simp only [Value.slice.injEq] at hv
    obtain ⟨rfl, _, rfl⟩ := hv
    refine ⟨hl, hnc, .inr ⟨g, 0, cur, e, (0, 0), rfl, hg, ?_, ?_⟩, by simp, trivial⟩
    · rw [hcs, Nat.zero_add]; exact Nat.mul_le_mul_right _ hnc
    · rw [Array.toList_extract, List.extract_eq_take_drop]
      simpa using ht
theorem BldV.some_of (h : BldV w0 L e sz w p n cap vs) (h0 : 0 < n) : ∃ g, p = some ⟨g, 0, none⟩ := h.row.some_of h0
theorem wpList_apdV2 {P : Program} {ops : Array Oper} {rest : List Oper} {o : Oper} {a : Act} {Q : Exit → Act → World → Prop} (hgd : o.guard = none) (s x : Operand) (t tx : TypeId)
    (ho : o.op = .call { callee := .builtin .append, args := #[s, x], argTypes := #[t, tx] }) {i : TypeInfo} {z : Value} {bytes : Nat}
    (ht : P.underlying t = some (.slice e)) (hi : P.info? e = some i) (hz : i.zero = some z) (hsz : i.size = sz) (h0 : 0 < sz) (hby : i.bytes = bytes) (hzs : z.cells.size = sz)
    (hs : a.eval s = .slice p n cap) (B : BldV w0 L e sz w p n cap vs) {v : Value} (hx : a.eval x = v) {m : Nat} {l2 : List Value} (S : Apd P t tx e i z v m l2 w)
    (hbig : (n + m) * bytes ≤ 140737488355328) (h63 : n + m ≤ 4611686018427387904)
    (h : ∀ p' cap' w', BldV w0 L e sz w' p' (n + m) cap' (vs ++ l2) → (∀ g, p'.map (·.block) = some g → p.map (·.block) = some g ∨ w.heap.size ≤ g) → Fr (p.map (·.block)).toList w w' → wpList P ops Q rest (a.put o.dst (.slice p' (n + m) cap')) w') : wpList P ops Q (o :: rest) a w := by
  refine wpList_plain hgd fun K hK => ?_
  have hrow := B.row
  rw [← hsz] at hrow
  obtain ⟨p', cap', w', hr, h2, h3, h4⟩ := run_apd (w := w) (ty := o.type) ht hi hz (by rw [hzs, hsz]) (by omega) hrow S h63 (by rw [hby]; exact hbig)
  unfold Oper.wp execOp
  simp only [ho, resolve, invoke, builtin, Sem.run_bind, Sem.run_pure, Result.andThen_ok, List.map_toArray, List.map_cons, List.map_nil, hs, hx, hr]
  refine hK _ _ (h p' cap' w' ⟨?_, ?_, fun g hg => ?_⟩ h4 ((Fr.refl (p.map (·.block)).toList w).grown h3 fun g hg _ => by simp [hg]))
  · refine ⟨fun q hq => ?_, B.own.nd, B.own.lo, B.own.fr.seq ((Fr.refl (p.map (·.block)).toList w).grown h3 fun g hg _ => by simp [hg]) fun b hb hlt => ?_⟩
    · have hq2 := B.own.has q hq
      exact (h3.block q.1 (World.at_lt hq2) (fun e => (B.new q.1 e.symm).2 (List.mem_map_of_mem hq))).trans hq2
    · have hb' : p.map (·.block) = some b := by
        cases hp : p.map (·.block) with
        | none => rw [hp] at hb; cases hb
        | some c => rw [hp] at hb; simp only [Option.toList_some, List.mem_singleton] at hb; rw [hb]
      have := (B.new b hb').1
      omega
  · rw [hsz] at h2
    exact h2
  · rcases h4 g hg with h5 | h5
    · exact B.new g h5
    · exact ⟨Nat.le_trans B.own.fr.size h5, B.own.fresh h5⟩
theorem wpList_apdV {P : Program} {ops : Array Oper} {rest : List Oper} {o : Oper} {a : Act} {Q : Exit → Act → World → Prop} (hgd : o.guard = none) (s x : Operand) (t tx : TypeId)
    (ho : o.op = .call { callee := .builtin .append, args := #[s, x], argTypes := #[t, tx] }) {i : TypeInfo} {z : Value} {bytes : Nat}
    (ht : P.underlying t = some (.slice e)) (hi : P.info? e = some i) (hz : i.zero = some z) (hsz : i.size = sz) (h0 : 0 < sz) (hby : i.bytes = bytes) (hzs : z.cells.size = sz)
    (hs : a.eval s = .slice p n cap) (B : BldV w0 L e sz w p n cap vs) {v : Value} (hx : a.eval x = v) {m : Nat} {l2 : List Value} (S : Apd P t tx e i z v m l2 w)
    (hbig : (n + m) * bytes ≤ 140737488355328) (h63 : n + m ≤ 4611686018427387904)
    (h : ∀ p' cap' w', BldV w0 L e sz w' p' (n + m) cap' (vs ++ l2) → wpList P ops Q rest (a.put o.dst (.slice p' (n + m) cap')) w') : wpList P ops Q (o :: rest) a w :=
  wpList_apdV2 hgd s x t tx ho ht hi hz hsz h0 hby hzs hs B hx S hbig h63 fun p' cap' w' B' _ _ => h p' cap' w' B'
end
end Go
