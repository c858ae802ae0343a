/- Joined: DdH, DdJ, DdI. -/
import Derived.Test.YtbhnfohoclcjdaaGreatZw
import Derived.Test.YtbhnfohoclcjdaaGreatZs
import Derived.Test.YtbhnfohoclcjdaaGreatZr
set_option linter.unusedVariables false
set_option linter.unusedSimpArgs false
namespace Go.Proofs.YtbhnfohoclcjdaaGreat
open Go.RowKit Go.Dr Go.Kd
/-- A link: the object and its vouches, by whom it is signed, the notaries, their secrets. -/
structure Lk where
  y : Oe
  by_ : Int
  np : Option Addr
  nn : Nat
  nc : Nat
  nb : List Int
  sp : Option Addr
  sn : Nat
  sc : Nat
  sb : List Int
def lkC (k : Lk) : List Value := (oeC k.y).toList ++ [.int .u8 k.by_, .slice k.np k.nn k.nc, .slice k.sp k.sn k.sc]
def lksL (l : List Lk) : List Value := l.flatMap lkC
/-- Bytes that come in. -/
def By (w : World) (p : Option Addr) (n : Nat) (l : List Int) : Prop := l.length = n ∧ (n = 0 ∨ ∃ b off cs T fr, p = some ⟨b, off, none⟩ ∧ w.blk b = some (.cells cs T fr) ∧ ∀ j x, l[j]? = some x → cs[off + j]? = some (.int .u8 x))
theorem By.fr0 {w w' : World} {p : Option Addr} {n : Nat} {l : List Int} (h : By w p n l) (F : Fr [] w w') : By w' p n l :=
  ⟨h.1, h.2.imp id fun ⟨b, off, cs, T, fr, h1, h2, h3⟩ => ⟨b, off, cs, T, fr, h1, F.get h2 (by simp), h3⟩⟩
structure LkOk (w : World) (k : Lk) : Prop where
  ok : ObK k.y.x
  vs : Lw 65 w k.y.p k.y.n k.y.c (vsL k.y.x.vs)
  vok : ∀ v ∈ k.y.x.vs, VcOk v
  len : k.y.x.vs.length = k.y.n
  b0 : 0 ≤ k.by_
  b1 : k.by_ < 256
  ns : By w k.np k.nn k.nb
  ss : By w k.sp k.sn k.sb
  nbb : isBytes k.nb
  sbb : isBytes k.sb
theorem lkC_len {w : World} {k : Lk} (h : LkOk w k) : (lkC k).length = 104 := by
  unfold lkC oeC
  rw [List.length_append, Array.length_toList, List.size_toArray, cObject_length _ _ _ _ _ _ _ h.ok.kl h.ok.sl]
  rfl
/-- One of the links. -/
theorem lks_at {w : World} {p : Option Addr} {n c : Nat} {l : List Lk} (S : Sv 104 w p n c (lksL l)) (hl : l.length = n) (hk : ∀ k ∈ l, LkOk w k) {i : Nat} (hi : i < n) :
    ∃ k b off cs T fr, l[i]? = some k ∧ p = some ⟨b, off, none⟩ ∧ w.blk b = some (.cells cs T fr) ∧ off + i * 104 + 104 ≤ cs.size ∧
      cs.extract (off + i * 104) (off + i * 104 + 101) = oeC k.y ∧ cs[off + i * 104 + 100]? = some (.slice k.y.p k.y.n k.y.c) ∧ cs[off + i * 104 + 101]? = some (.int .u8 k.by_) ∧ cs[off + i * 104 + 102]? = some (.slice k.np k.nn k.nc) ∧ cs[off + i * 104 + 103]? = some (.slice k.sp k.sn k.sc) := by
  obtain ⟨b, off, cs, T, fr, hp, hb, h1, h2, h3⟩ := S.elem hi
  have hlt : i < l.length := by omega
  have hm := hk l[i] (List.getElem_mem hlt)
  rw [lksL, flatMap_part lkC 104 l i l[i] (fun k hk' => lkC_len (hk k hk')) (List.getElem?_eq_getElem hlt)] at h3
  have sz : (oeC l[i].y).size = 101 := by
    unfold oeC
    rw [List.size_toArray, cObject_length _ _ _ _ _ _ _ hm.ok.kl hm.ok.sl]
  have szl : (oeC l[i].y).toList.length = 101 := by rw [Array.length_toList, sz]
  have at' : ∀ j, j < 104 → cs[off + i * 104 + j]? = (lkC l[i])[j]? := fun j hj => by
    have := congrArg (fun a : Array Value => a[j]?) h3
    simp only [List.getElem?_toArray] at this
    rw [Array.getElem?_extract_of_lt (by omega), ← Array.getElem?_eq_getElem] at this
    exact this
  refine ⟨l[i], b, off, cs, T, fr, List.getElem?_eq_getElem hlt, hp, hb, h2, ?_, ?_, ?_, ?_, ?_⟩
  · have e : cs.extract (off + i * 104) (off + i * 104 + 101) = (cs.extract (off + i * 104) (off + i * 104 + 104)).extract 0 101 := by
      rw [Array.extract_extract, Nat.min_eq_left (by omega)]
      rfl
    rw [e, h3]
    apply Array.ext'
    rw [Array.toList_extract]
    simp [lkC, List.extract, List.take_of_length_le, szl]
  · rw [at' 100 (by omega), lkC, List.getElem?_append_left (by omega)]
    have := cObject_get_vs (.int .u8 l[i].y.x.server) (.int .u8 l[i].y.x.n) l[i].y.x.key (.int .u32 l[i].y.x.frm) (.int .u32 l[i].y.x.til) l[i].y.x.sig (.slice l[i].y.p l[i].y.n l[i].y.c) hm.ok.kl hm.ok.sl
    rw [Array.getElem?_toList]
    exact this
  · rw [at' 101 (by omega), lkC, List.getElem?_append_right (by omega), szl]; rfl
  · rw [at' 102 (by omega), lkC, List.getElem?_append_right (by omega), szl]; rfl
  · rw [at' 103 (by omega), lkC, List.getElem?_append_right (by omega), szl]; rfl
/-- One of the bytes. -/
theorem By.at {w : World} {p : Option Addr} {n : Nat} {l : List Int} (h : By w p n l) {i : Nat} (hi : i < n) :
    ∃ b off cs T fr, p = some ⟨b, off, none⟩ ∧ w.blk b = some (.cells cs T fr) ∧ off + i < cs.size ∧ cs[off + i]? = some (.int .u8 (el l i)) ∧ l[i]? = some (el l i) := by
  have hl := h.1
  have e : l[i]? = some (el l i) := by rw [el, List.getD_eq_getElem?_getD, List.getElem?_eq_getElem (by omega)]; rfl
  rcases h.2 with h0 | ⟨b, off, cs, T, fr, h1, h2, h3⟩
  · omega
  · exact ⟨b, off, cs, T, fr, h1, h2, (Array.getElem?_eq_some_iff.1 (h3 _ _ e)).1, h3 _ _ e, e⟩
end Go.Proofs.YtbhnfohoclcjdaaGreat
namespace Go.Proofs.YtbhnfohoclcjdaaGreat
open Go.ChangeShapes Go.WideShapes Go.ChangeAt Go.RowKit Go.Dr Go.Kd
theorem cells23 : Tryz.prog.cellsOf 23 = 1 := by kernel_rfl
theorem cells46 : Tryz.prog.cellsOf 46 = 1 := by kernel_rfl
theorem cells48 : Tryz.prog.cellsOf 48 = 101 := by kernel_rfl
theorem cells49 : Tryz.prog.cellsOf 49 = 1 := by kernel_rfl
theorem cells51 : Tryz.prog.cellsOf 51 = 104 := by kernel_rfl
theorem cells105 : Tryz.prog.cellsOf 105 = 65 := by kernel_rfl
theorem wf_u32 {n : Int} (h : (Lit.int .u32 n).wf = true) : 0 ≤ n ∧ n ≤ 4294967295 := by
  simp [Lit.wf, IntKind.min, IntKind.max, IntKind.signed, IntKind.bits] at h; omega
/-- Rows of structs whose cells are read one by one. -/
theorem row_of {α : Type} {sz : Nat} (hz : 0 < sz) {w : World} {a : Addr} {len cap : Nat} {C : α → List Value} {O : α → Prop} (d : α) (hlc : len ≤ cap) (hC : ∀ x, O x → (C x).length = sz)
    (key : ∀ i, i < len → ∃ x, O x ∧ ∀ j v, (C x)[j]? = some v → w.cell? (a.add (i * sz + j)) = some v) :
    ∃ l : List α, l.length = len ∧ (∀ x ∈ l, O x) ∧ Lw sz w (some a) len cap (l.flatMap C) := by
  obtain ⟨f, hf'⟩ := Classical.axiomOfChoice (r := fun (i : Nat) (b : α) => i < len → O b ∧ ∀ j v, (C b)[j]? = some v → w.cell? (a.add (i * sz + j)) = some v)
    (fun i => by
      by_cases hi : i < len
      · obtain ⟨o, h⟩ := key i hi; exact ⟨o, fun _ => h⟩
      · exact ⟨d, fun h => absurd h hi⟩)
  have okl : ∀ x ∈ (List.range len).map f, O x := fun x hx => by
    obtain ⟨i, hi, rfl⟩ := List.mem_map.1 hx
    exact (hf' i (List.mem_range.1 hi)).1
  have hlen : ((List.range len).map f).length = len := by simp
  refine ⟨(List.range len).map f, hlen, okl, ?_⟩
  rcases Nat.eq_zero_or_pos len with h0 | h0
  · subst h0
    exact .inr ⟨rfl, rfl, a, rfl⟩
  have szc : ∀ i, i < len → (C (f i)).length = sz := fun i hi => hC _ (hf' i hi).1
  have cell : ∀ i, i < len → ∀ j, j < sz → w.cell? (a.add (i * sz + j)) = (C (f i))[j]? := fun i hi j hj => by
    have h1 : (C (f i))[j]? = some ((C (f i))[j]'(by rw [szc i hi]; exact hj)) := List.getElem?_eq_getElem _
    rw [(hf' i hi).2 j _ h1, ← h1]
  have hfirst := cell 0 h0 0 hz
  rw [List.getElem?_eq_getElem (by rw [szc 0 h0]; exact hz)] at hfirst
  rw [show 0 * sz + 0 = 0 by omega] at hfirst
  obtain ⟨b, off, spot⟩ := a
  have hspot : spot = none := by
    unfold World.cell? at hfirst
    rw [Addr.add_zero'] at hfirst
    split at hfirst
    · cases spot with
      | none => rfl
      | some s => simp at hfirst
    · cases hfirst
  subst hspot
  have hlast := cell (len - 1) (by omega) (sz - 1) (by omega)
  rw [List.getElem?_eq_getElem (by rw [szc (len - 1) (by omega)]; omega), Addr.add_mid, World.cell?_at] at hlast
  cases hb : w.blk b with
  | none => rw [hb] at hlast; cases hlast
  | some ob =>
    rw [hb] at hlast
    cases ob with
    | cells cs T fr =>
      have hsz : off + ((len - 1) * sz + (sz - 1)) < cs.size := (Array.getElem?_eq_some_iff.1 hlast).1
      have hmul : len * sz = (len - 1) * sz + sz := by rw [← Nat.succ_mul]; congr 1; omega
      have hL : ((List.range len).map f).flatMap C = ((List.range len).map f).flatMap C := rfl
      have hfl : (((List.range len).map f).flatMap C).length = len * sz := by
        have : ∀ l : List α, (∀ x ∈ l, O x) → (l.flatMap C).length = l.length * sz := by
          intro l
          induction l with
          | nil => intro _; simp
          | cons x l ih =>
            intro hx
            rw [List.flatMap_cons, List.length_append, hC x (hx x (by simp)), ih (fun y hy => hx y (by simp [hy])), List.length_cons, Nat.add_mul]
            omega
        rw [this _ okl, hlen]
      refine .inl (.inr ⟨_, rfl, hfl, hlc, .inr ⟨b, off, cs, T, fr, rfl, hb, by omega, ?_⟩, by simp, fun x hx => ⟨b, off, by simpa using hx.symm⟩⟩)
      apply List.ext_getElem?
      intro k
      rcases Nat.lt_or_ge k (len * sz) with hk | hk
      · have hi : k / sz < len := Nat.div_lt_of_lt_mul (by rw [Nat.mul_comm]; exact hk)
        have hj : k % sz < sz := Nat.mod_lt _ hz
        have hkk : k / sz * sz + k % sz = k := by rw [Nat.mul_comm]; exact Nat.div_add_mod k sz
        have h2 := cell (k / sz) hi (k % sz) hj
        rw [Addr.add_mid, World.cell?_at, hb] at h2
        have h3 : cs[off + (k / sz * sz + k % sz)]? = (C (f (k / sz)))[k % sz]? := h2
        rw [hkk] at h3
        rw [Array.getElem?_toList, Array.getElem?_extract_of_lt (by omega), ← Array.getElem?_eq_getElem, h3]
        have h4 := flatMap_part C sz ((List.range len).map f) (k / sz) (f (k / sz)) (fun y hy => hC y (okl y hy)) (by simp [hi])
        have h5 : (((List.range len).map f).flatMap C)[k]? = (((((List.range len).map f).flatMap C).drop (k / sz * sz)).take sz)[k % sz]? := by
          rw [List.getElem?_take, if_pos hj, List.getElem?_drop, hkk]
        rw [h5, h4]
      · rw [List.getElem?_eq_none (by rw [Array.length_toList, Array.size_extract]; omega), List.getElem?_eq_none (by omega)]
    | _ => cases hlast
section
variable {H : Type} {enc : TypeId × Value → H} {w : World} {base : Nat} {spare : Nat → Bool} {held : Bool}
theorem vouch_of_trod {fuel : Nat} {cs : List Value} {x : DataW H × List MemPlace} (h : DataW.trod enc Tryz.prog w base spare held fuel 105 cs = some x) : ∃ v : Int × List Int, VcOk v ∧ cs = vcC v := by
  obtain ⟨xs, m, rfl, _, hl, hxl, hf⟩ := DataW.trod_struct Tryz.underlying105 h
  rw [cells105] at hl
  have hs : xs.length = 2 := hxl
  have h0 : DataW.trod enc Tryz.prog w base spare held m 5 ((cs.drop 0).take (Tryz.prog.cellsOf 5)) = xs[0]? := hf 0 _ rfl
  have h1 : DataW.trod enc Tryz.prog w base spare held m 45 ((cs.drop 1).take (Tryz.prog.cellsOf 45)) = xs[1]? := hf 1 _ rfl
  rw [cells5] at h0
  rw [cells45] at h1
  rw [List.getElem?_eq_getElem (by omega)] at h0 h1
  obtain ⟨n0, p0, _, q0⟩ := DataW.trod_int Tryz.underlying5 h0
  obtain ⟨a1, p1, l1, b1⟩ := trod_bytes Tryz.underlying45 cells45 h1
  have w0 := wf_u8 q0
  refine ⟨⟨n0, a1⟩, ⟨w0.1, by show n0 < 256; omega, l1, b1⟩, ?_⟩
  have e : cs = cs.drop 0 := rfl
  rw [e, drop_split cs 0 1, drop_split cs (0 + 1) 64]
  rw [show 0 + 1 = 1 from rfl, show 1 + 64 = 65 from rfl, p0, p1, List.drop_of_length_le (by omega)]
  simp [vcC]
theorem lw_of_trod {fuel : Nat} {v : Value} {x : DataW H × List MemPlace} (hf : DataW.trod enc Tryz.prog w base spare held fuel 46 [v] = some x) :
    ∃ p n c vs, v = .slice p n c ∧ Lw 65 w p n c (vsL vs) ∧ (∀ x ∈ vs, VcOk x) ∧ vs.length = n := by
  rcases Go.Deep.open_slice Tryz.underlying46 hf with ⟨hcs, _⟩ | ⟨a, len, cap, m, n, D, Pl, hcs, _, hlc, hcm, hmm, _, hel⟩
  · simp only [List.cons.injEq, and_true] at hcs
    exact ⟨none, 0, 0, [], hcs, .inl (.inl ⟨rfl, rfl, rfl, rfl⟩), by simp, rfl⟩
  · simp only [List.cons.injEq, and_true] at hcs
    have hle : len ≤ m := by rw [hmm]; split <;> omega
    obtain ⟨l, h1, h2, h3⟩ := row_of (sz := 65) (by omega) (C := vcC) (O := VcOk) (0, []) hlc (fun x hx => vcC_len hx) (w := w) (a := a) fun i hi => by
      obtain ⟨cs, hc, ht⟩ := hel i (by omega)
      rw [cells105] at hc
      obtain ⟨hl4, hcell⟩ := cellsN hc
      obtain ⟨b, hb, rfl⟩ := vouch_of_trod ht
      refine ⟨b, hb, fun j v hv => ?_⟩
      have := hcell j v hv
      rwa [Go.Deep.add_add] at this
    exact ⟨some a, len, cap, l, hcs, h3, h2, h1⟩
theorem object_of_trod {fuel : Nat} {cs : List Value} {x : DataW H × List MemPlace} (h : DataW.trod enc Tryz.prog w base spare held fuel 48 cs = some x) :
    ∃ y : Oe, ObK y.x ∧ Lw 65 w y.p y.n y.c (vsL y.x.vs) ∧ (∀ v ∈ y.x.vs, VcOk v) ∧ y.x.vs.length = y.n ∧ cs = (oeC y).toList := by
  obtain ⟨xs, m, rfl, _, hl, hxl, hf⟩ := DataW.trod_struct Tryz.underlying48 h
  rw [cells48] at hl
  have hs : xs.length = 7 := hxl
  have h0 : DataW.trod enc Tryz.prog w base spare held m 5 ((cs.drop 0).take (Tryz.prog.cellsOf 5)) = xs[0]? := hf 0 _ rfl
  have h1 : DataW.trod enc Tryz.prog w base spare held m 5 ((cs.drop 1).take (Tryz.prog.cellsOf 5)) = xs[1]? := hf 1 _ rfl
  have h2 : DataW.trod enc Tryz.prog w base spare held m 34 ((cs.drop 2).take (Tryz.prog.cellsOf 34)) = xs[2]? := hf 2 _ rfl
  have h3 : DataW.trod enc Tryz.prog w base spare held m 23 ((cs.drop 34).take (Tryz.prog.cellsOf 23)) = xs[3]? := hf 3 _ rfl
  have h4 : DataW.trod enc Tryz.prog w base spare held m 23 ((cs.drop 35).take (Tryz.prog.cellsOf 23)) = xs[4]? := hf 4 _ rfl
  have h5 : DataW.trod enc Tryz.prog w base spare held m 45 ((cs.drop 36).take (Tryz.prog.cellsOf 45)) = xs[5]? := hf 5 _ rfl
  have h6 : DataW.trod enc Tryz.prog w base spare held m 46 ((cs.drop 100).take (Tryz.prog.cellsOf 46)) = xs[6]? := hf 6 _ rfl
  rw [cells5] at h0 h1
  rw [cells34] at h2
  rw [cells23] at h3 h4
  rw [cells45] at h5
  rw [cells46] at h6
  rw [List.getElem?_eq_getElem (by omega)] at h0 h1 h2 h3 h4 h5 h6
  obtain ⟨n0, p0, _, q0⟩ := DataW.trod_int Tryz.underlying5 h0
  obtain ⟨n1, p1, _, q1⟩ := DataW.trod_int Tryz.underlying5 h1
  obtain ⟨a2, p2, l2, b2⟩ := trod_bytes Tryz.underlying34 cells34 h2
  obtain ⟨n3, p3, _, q3⟩ := DataW.trod_int Tryz.underlying23 h3
  obtain ⟨n4, p4, _, q4⟩ := DataW.trod_int Tryz.underlying23 h4
  obtain ⟨a5, p5, l5, b5⟩ := trod_bytes Tryz.underlying45 cells45 h5
  have w0 := wf_u8 q0
  have w1 := wf_u8 q1
  have w3 := wf_u32 q3
  have w4 := wf_u32 q4
  have e6 : (cs.drop 100).take 1 = [cs[100]'(by omega)] := by
    rw [List.take_one, List.head?_drop, List.getElem?_eq_getElem (by omega)]; rfl
  rw [e6] at h6
  obtain ⟨p, n, c, vs, hv, hLw, hok, hlen⟩ := lw_of_trod h6
  refine ⟨⟨⟨n0, n1, a2, n3, n4, a5, vs⟩, p, n, c⟩, ⟨w0.1, by show n0 < 256; omega, w1.1, by show n1 < 256; omega, w3.1, by show n3 < 4294967296; omega, w4.1, by show n4 < 4294967296; omega, l2, l5, b2, b5⟩, hLw, hok, hlen, ?_⟩
  have e : cs = cs.drop 0 := rfl
  rw [e, drop_split cs 0 1, drop_split cs (0 + 1) 1, drop_split cs (0 + 1 + 1) 32, drop_split cs (0 + 1 + 1 + 32) 1, drop_split cs (0 + 1 + 1 + 32 + 1) 1, drop_split cs (0 + 1 + 1 + 32 + 1 + 1) 64, drop_split cs (0 + 1 + 1 + 32 + 1 + 1 + 64) 1]
  rw [show 0 + 1 = 1 from rfl, show 1 + 1 = 2 from rfl, show 2 + 32 = 34 from rfl, show 34 + 1 = 35 from rfl, show 35 + 1 = 36 from rfl, show 36 + 64 = 100 from rfl, show 100 + 1 = 101 from rfl, p0, p1, p2, p3, p4, p5, e6, hv, List.drop_of_length_le (by omega)]
  simp [oeC, cObject]
theorem by_of_trod {fuel : Nat} {v : Value} {x : DataW H × List MemPlace} (hf : DataW.trod enc Tryz.prog w base spare held fuel 49 [v] = some x) : ∃ p n c l, v = .slice p n c ∧ By w p n l ∧ isBytes l := by
  rcases Go.Deep.open_slice Tryz.underlying49 hf with ⟨hcs, _⟩ | ⟨a, len, cap, m, n, D, Pl, hcs, _, hlc, hcm, hmm, _, hel⟩
  · simp only [List.cons.injEq, and_true] at hcs
    exact ⟨none, 0, 0, [], hcs, ⟨rfl, .inl rfl⟩, by simp [isBytes]⟩
  · simp only [List.cons.injEq, and_true] at hcs
    have hle : len ≤ m := by rw [hmm]; split <;> omega
    obtain ⟨l, h1, h2, h3⟩ := row_of (sz := 1) (by omega) (C := fun x : Int => [Value.int .u8 x]) (O := fun x => 0 ≤ x ∧ x < 256) 0 hlc (fun x hx => rfl) (w := w) (a := a) fun i hi => by
      obtain ⟨cs, hc, ht⟩ := hel i (by omega)
      rw [cells5] at hc
      obtain ⟨hl4, hcell⟩ := cellsN hc
      obtain ⟨y, hy, _, q⟩ := DataW.trod_int Tryz.underlying5 ht
      subst hy
      have := wf_u8 q
      refine ⟨y, ⟨this.1, by omega⟩, fun j v hv => ?_⟩
      have := hcell j v hv
      rwa [Go.Deep.add_add] at this
    refine ⟨some a, len, cap, l, hcs, ⟨h1, ?_⟩, h2⟩
    rcases Nat.eq_zero_or_pos len with h0 | h0
    · exact .inl h0
    · right
      rcases (h3.sv h0).row with h4 | ⟨b, off, cs, T, fr, hp, hb, hs, hx⟩
      · omega
      · refine ⟨b, off, cs, T, fr, hp, hb, fun j x hj => ?_⟩
        have hjl : j < len := by have := (List.getElem?_eq_some_iff.1 hj).1; omega
        have e1 : l.flatMap (fun x : Int => [Value.int .u8 x]) = l.map (Value.int .u8) := by
          clear hj h1 h2 h3 hx
          induction l with
          | nil => rfl
          | cons y l ih => rw [List.flatMap_cons, ih]; rfl
        have h5 := congrArg (fun l : List Value => l[j]?) hx
        rw [e1] at h5
        simp only [Array.getElem?_toList, List.getElem?_map, hj, Option.map_some] at h5
        rw [Array.getElem?_extract_of_lt (by omega), ← Array.getElem?_eq_getElem] at h5
        exact h5
theorem link_of_trod {fuel : Nat} {cs : List Value} {x : DataW H × List MemPlace} (h : DataW.trod enc Tryz.prog w base spare held fuel 51 cs = some x) : ∃ k : Lk, LkOk w k ∧ cs = lkC k := by
  obtain ⟨xs, m, rfl, _, hl, hxl, hf⟩ := DataW.trod_struct Tryz.underlying51 h
  rw [cells51] at hl
  have hs : xs.length = 4 := hxl
  have h0 : DataW.trod enc Tryz.prog w base spare held m 48 ((cs.drop 0).take (Tryz.prog.cellsOf 48)) = xs[0]? := hf 0 _ rfl
  have h1 : DataW.trod enc Tryz.prog w base spare held m 5 ((cs.drop 101).take (Tryz.prog.cellsOf 5)) = xs[1]? := hf 1 _ rfl
  have h2 : DataW.trod enc Tryz.prog w base spare held m 49 ((cs.drop 102).take (Tryz.prog.cellsOf 49)) = xs[2]? := hf 2 _ rfl
  have h3 : DataW.trod enc Tryz.prog w base spare held m 49 ((cs.drop 103).take (Tryz.prog.cellsOf 49)) = xs[3]? := hf 3 _ rfl
  rw [cells48] at h0
  rw [cells5] at h1
  rw [cells49] at h2 h3
  rw [List.getElem?_eq_getElem (by omega)] at h0 h1 h2 h3
  obtain ⟨y, oy, ly, vy, ey, p0⟩ := object_of_trod h0
  obtain ⟨n1, p1, _, q1⟩ := DataW.trod_int Tryz.underlying5 h1
  have w1 := wf_u8 q1
  have e2 : (cs.drop 102).take 1 = [cs[102]'(by omega)] := by
    rw [List.take_one, List.head?_drop, List.getElem?_eq_getElem (by omega)]; rfl
  have e3 : (cs.drop 103).take 1 = [cs[103]'(by omega)] := by
    rw [List.take_one, List.head?_drop, List.getElem?_eq_getElem (by omega)]; rfl
  rw [e2] at h2
  rw [e3] at h3
  obtain ⟨np, nn, nc, nb, hv2, hb2, bb2⟩ := by_of_trod h2
  obtain ⟨sp, sn, sc, sb, hv3, hb3, bb3⟩ := by_of_trod h3
  refine ⟨⟨y, n1, np, nn, nc, nb, sp, sn, sc, sb⟩, ⟨oy, ly, vy, ey, w1.1, by show n1 < 256; omega, hb2, hb3, bb2, bb3⟩, ?_⟩
  have e : cs = cs.drop 0 := rfl
  rw [e, drop_split cs 0 101, drop_split cs (0 + 101) 1, drop_split cs (0 + 101 + 1) 1, drop_split cs (0 + 101 + 1 + 1) 1]
  rw [show 0 + 101 = 101 from rfl, show 101 + 1 = 102 from rfl, show 102 + 1 = 103 from rfl, show 103 + 1 = 104 from rfl, p0, p1, e2, e3, hv2, hv3, List.drop_of_length_le (by omega)]
  simp [lkC]
set_option maxRecDepth 100000 in
theorem open22 {r : Reach} {b0 : Nat} {v : Value} {d : DataW H} {ps : List MemPlace} (hval : Value.okWide Tryz.prog w r b0 22 v) (hd : DataW.Trod enc Tryz.prog w base spare held 22 v d ps) :
    ∃ p n c ls, v = .slice p n c ∧ Lw 104 w p n c (lksL ls) ∧ (∀ k ∈ ls, LkOk w k) ∧ ls.length = n := by
  unfold Value.okWide at hval
  rw [Tryz.underlying22] at hval
  obtain ⟨p, N0, c, rfl⟩ := slice_cell hval Tryz.underlying22
  obtain ⟨fuel, hf⟩ := hd
  rcases Go.Deep.open_slice Tryz.underlying22 hf with ⟨hcs, _⟩ | ⟨a, len, cap, m, n, D, Pl, hcs, _, hlc, hcm, hmm, _, hel⟩
  · replace hcs : [Value.slice p N0 c] = [.slice none 0 0] := hcs
    simp only [List.cons.injEq, and_true] at hcs
    exact ⟨none, 0, 0, [], hcs, .inl (.inl ⟨rfl, rfl, rfl, rfl⟩), by simp, rfl⟩
  · replace hcs : [Value.slice p N0 c] = [.slice (some a) len cap] := hcs
    simp only [List.cons.injEq, and_true] at hcs
    have hle : len ≤ m := by rw [hmm]; split <;> omega
    obtain ⟨l, h1, h2, h3⟩ := row_of (sz := 104) (by omega) (C := lkC) (O := LkOk w) ⟨⟨⟨0, 0, [], 0, 0, [], []⟩, none, 0, 0⟩, 0, none, 0, 0, [], none, 0, 0, []⟩ hlc (fun x hx => lkC_len hx) (w := w) (a := a) fun i hi => by
      obtain ⟨cs, hc, ht⟩ := hel i (by omega)
      rw [cells51] at hc
      obtain ⟨hl4, hcell⟩ := cellsN hc
      obtain ⟨b, hb, rfl⟩ := link_of_trod ht
      refine ⟨b, hb, fun j v hv => ?_⟩
      have := hcell j v hv
      rwa [Go.Deep.add_add] at this
    exact ⟨some a, len, cap, l, hcs, h3, h2, h1⟩
set_option maxRecDepth 100000 in
theorem open23 {r : Reach} {b0 : Nat} {v : Value} (hval : Value.okWide Tryz.prog w r b0 23 v) : ∃ n : Nat, v = .int .u32 (n : Int) ∧ n < 4294967296 := by
  unfold Value.okWide at hval
  rw [Tryz.underlying23] at hval
  obtain ⟨a, ha, hh⟩ := int_cell hval Tryz.underlying23
  have := has_u32 hh
  obtain ⟨n, rfl⟩ := Int.eq_ofNat_of_zero_le this.1
  exact ⟨n, ha, by omega⟩
end
end Go.Proofs.YtbhnfohoclcjdaaGreat
namespace Go.Proofs.YtbhnfohoclcjdaaGreat
open Go.RowKit Go.Dr Go.Kd
theorem fields38 : (Tryz.prog.fieldsOf 38).toList.map (fun f => (f.name == "_", f.type, f.offset)) = [(false, 35, 0), (false, 36, 128), (false, 5, 132)] := by kernel_rfl
theorem und38 : Tryz.prog.underlying 38 = some (.struct (Tryz.prog.fieldsOf 38)) := by kernel_rfl
theorem stood38 : Tryz.prog.stoodInHeld 38 = false := by kernel_rfl
theorem exInfo34 : ∃ i, Tryz.prog.info? 34 = some i := by
  cases h : Tryz.prog.info? 34 with
  | none => exact absurd h (by
      have : (Tryz.prog.info? 34).isSome = true := by kernel_rfl
      intro e
      rw [e] at this
      cases this)
  | some i => exact ⟨i, rfl⟩
theorem cells34' : Tryz.prog.cellsOf 34 = 32 := by kernel_rfl
theorem run_eqItems_refl {P : Program} {e : TypeId} {d sz : Nat} {xs : Array Value} {w : World} : ∀ (is : List Nat), (∀ i ∈ is, ∃ v, (part e xs (i * sz)).run P w = .ok v w ∧ (Op.equalIn d e v v).run P w = .ok true w) → (Op.eqItems d e sz xs xs is).run P w = .ok true w
  | [], _ => by simp [Op.eqItems]
  | i :: is, h => by
    obtain ⟨v, h1, h2⟩ := h i (by simp)
    have ih := run_eqItems_refl is (fun j hj => h j (by simp [hj]))
    simp only [Op.eqItems, Sem.run_bind, h1, h2, Result.andThen_ok, Bool.not_true, Bool.false_eq_true, ↓reduceIte, ih]
theorem part_arr {t n : Nat} {xs : Array Value} {o : Nat} {a : List Int} {w : World} (h1 : ∀ w, (isAgg t).run Tryz.prog w = .ok true w) (h2 : ∀ w, (sizeOf t).run Tryz.prog w = .ok n w) (h : xs.extract o (o + n) = ints .u8 a) (hs : o + n ≤ xs.size) : (part t xs o).run Tryz.prog w = .ok (.agg (ints .u8 a)) w := by
  simp [part, h1, h2, h, hs]
theorem ext_ints (l : List Int) (a b : Nat) : (ints .u8 l).extract a b = ints .u8 ((l.take b).drop a) := by
  apply Array.ext'
  simp [ints, List.extract, List.map_take, List.map_drop, List.drop_take]
theorem eq35 {l : List Int} (hl : l.length = 128) (w : World) : (Op.equalIn 9999 35 (.agg (ints .u8 l)) (.agg (ints .u8 l))).run Tryz.prog w = .ok true w := by
  obtain ⟨i, hi⟩ := exInfo34
  rw [run_equalIn_array w 9998 _ _ Tryz.underlying35 hi, cells34']
  refine run_eqItems_refl _ fun j hj => ?_
  rw [List.mem_range] at hj
  have hlen : ((l.take (j * 32 + 32)).drop (j * 32)).length = 32 := by rw [List.length_drop, List.length_take]; omega
  refine ⟨_, part_key (a := (l.take (j * 32 + 32)).drop (j * 32)) (ext_ints _ _ _) (by rw [size_ints]; omega), ?_⟩
  rw [eq34 _ _ hlen hlen w 9996]
  simp
theorem eq36 {l : List Int} (hl : l.length = 4) (w : World) : (Op.equalIn 9999 36 (.agg (ints .u8 l)) (.agg (ints .u8 l))).run Tryz.prog w = .ok true w := by
  obtain ⟨_, hi⟩ := exInfo5
  rw [run_eq_ints 9997 .u8 .u8 Tryz.underlying36 hi (by kernel_rfl) Tryz.underlying5 (fun w => by kernel_rfl) l l hl hl w]
  simp
theorem eq38 {C : List Int} (hC : C.length = 133) (w : World) : (Op.equalIn 10000 38 (.agg (ints .u8 C)) (.agg (ints .u8 C))).run Tryz.prog w = .ok true w := by
  rw [run_equalIn_agg (w := w) (P := Tryz.prog) 9999 38 _ _ und38 stood38]
  obtain ⟨fs, hfs⟩ : ∃ fs, fs = (Tryz.prog.fieldsOf 38).toList := ⟨_, rfl⟩
  have hf := fields38
  rw [← hfs] at hf ⊢
  clear hfs
  have hsz : (ints .u8 C).size = 133 := by rw [size_ints, hC]
  have g2 : (ints .u8 C)[132]? = some (.int .u8 (el C 132)) := getElem?_ints .u8 C 132 (by omega)
  rcases fs with _ | ⟨f0, _ | ⟨f1, _ | ⟨f2, _ | ⟨f3, fs⟩⟩⟩⟩ <;> simp only [List.map_nil, List.map_cons, List.cons.injEq, Prod.mk.injEq, reduceCtorEq, and_true, and_false, List.nil_eq] at hf
  obtain ⟨⟨n0, t0, o0⟩, ⟨n1, t1, o1⟩, n2, t2, o2⟩ := hf
  have p0 : (part 35 (ints .u8 C) 0).run Tryz.prog w = .ok (.agg (ints .u8 ((C.take 128).drop 0))) w := part_arr (n := 128) (fun w => by kernel_rfl) (fun w => by kernel_rfl) (ext_ints _ _ _) (by omega)
  have p1 : (part 36 (ints .u8 C) 128).run Tryz.prog w = .ok (.agg (ints .u8 ((C.take 132).drop 128))) w := part_arr (n := 4) (fun w => by kernel_rfl) (fun w => by kernel_rfl) (ext_ints _ _ _) (by omega)
  refine eqFields_pass n0 (by rw [t0, o0]; exact p0) (by rw [t0, o0]; exact p0) (by rw [t0]; exact eq35 (by rw [List.drop_zero, List.length_take]; omega) w) ?_
  refine eqFields_pass n1 (by rw [t1, o1]; exact p1) (by rw [t1, o1]; exact p1) (by rw [t1]; exact eq36 (by rw [List.length_drop, List.length_take]; omega) w) ?_
  refine eqFields_pass n2 (by rw [t2, o2]; exact part_u8 g2) (by rw [t2, o2]; exact part_u8 g2) (by rw [t2]; rw [run_equalIn_int w 9998 5 .u8 .u8 _ _ Tryz.underlying5]; simp) ?_
  simp [Op.eqFields]
end Go.Proofs.YtbhnfohoclcjdaaGreat
