/- Joined: DcO, DcP, PkA, DcQ, DcR, DcS. -/
import Derived.Test.YtbhnfohoclcjdaaGreatZp
import Derived.Test.YtbhnfohoclcjdaaGreatRows
import Derived.ProofKit
import Derived.OpenShut
import Derived.Deep.Slices
import Derived.Test.YtbhnfohoclcjdaaGreatZj
set_option linter.unusedVariables false
set_option linter.unusedSimpArgs false
namespace Go.Proofs.YtbhnfohoclcjdaaGreat
open Go.ChangeShapes Go.WideShapes Go.ChangeAt Go.RowKit Go.Dr Go.Kd
theorem own : ownKnob Tryz.prog.godebug = none := by kernel_rfl
theorem laidOut : laidOutB Tryz.prog = true := by kernel_rfl
theorem Fr.below {W W' : World} (h : Fr [] W W') : Below W.heap.size W W' :=
  ⟨h.os, h.tape, h.output, h.size, fun k hk => h.at_ k hk (by simp)⟩
/-- A cell of a number's type. -/
theorem int_cell {P : Program} {w : World} {r : Reach} {base u : Nat} {v : Value} {k : IntKind} (h : Cell.okWide P w r base u v) (hu : P.underlying u = some (.int k)) : ∃ n, v = .int k n ∧ k.has n := by
  unfold Cell.okWide at h
  rw [hu] at h
  cases v <;> simp only [Cell.ok, hu] at h <;> first | exact h.elim | skip
  obtain ⟨rfl, h⟩ := h
  exact ⟨_, rfl, h⟩
theorem slice_cell {P : Program} {w : World} {r : Reach} {base u e : Nat} {v : Value} (h : Cell.okWide P w r base u v) (hu : P.underlying u = some (.slice e)) : ∃ p n c, v = .slice p n c := by
  unfold Cell.okWide at h
  rw [hu] at h
  cases v <;> simp only [Cell.ok, hu] at h <;> first | exact h.elim | exact ⟨_, _, _, rfl⟩ | skip
theorem has_u8 {n : Int} (h : IntKind.u8.has n) : 0 ≤ n ∧ n < 256 := by
  simp only [IntKind.has, IntKind.min, IntKind.max, IntKind.signed, IntKind.bits] at h
  simp at h
  omega
theorem has_u32 {n : Int} (h : IntKind.u32.has n) : 0 ≤ n ∧ n < 4294967296 := by
  simp only [IntKind.has, IntKind.min, IntKind.max, IntKind.signed, IntKind.bits] at h
  simp at h
  omega
/-- Cells of bytes. -/
theorem row_bytes : ∀ (L : List Value), (∀ v ∈ L, ∃ n, v = .int .u8 n ∧ 0 ≤ n ∧ n < 256) → ∃ l : List Int, L = l.map (Value.int .u8) ∧ isBytes l
  | [], _ => ⟨[], rfl, by simp [isBytes]⟩
  | v :: L, h => by
    obtain ⟨l, hl, hb⟩ := row_bytes L (fun u hu => h u (by simp [hu]))
    obtain ⟨n, rfl, h0, h1⟩ := h v (by simp)
    refine ⟨n :: l, by rw [hl]; rfl, fun x hx => ?_⟩
    rcases List.mem_cons.1 hx with rfl | hx
    · exact ⟨h0, h1⟩
    · exact hb x hx
theorem cells5 : Tryz.prog.cellsOf 5 = 1 := by kernel_rfl
theorem cells34 : Tryz.prog.cellsOf 34 = 32 := by kernel_rfl
theorem cells45 : Tryz.prog.cellsOf 45 = 64 := by kernel_rfl
theorem cells63 : Tryz.prog.cellsOf 63 = 1 := by kernel_rfl
theorem cells65 : Tryz.prog.cellsOf 65 = 162 := by kernel_rfl
theorem cells66 : Tryz.prog.cellsOf 66 = 1 := by kernel_rfl
theorem cells68 : Tryz.prog.cellsOf 68 = 165 := by kernel_rfl
theorem cells4 : Tryz.prog.cellsOf 4 = 1 := by kernel_rfl
theorem wf_u8 {n : Int} (h : (Lit.int .u8 n).wf = true) : 0 ≤ n ∧ n ≤ 255 := by
  simp [Lit.wf, IntKind.min, IntKind.max, IntKind.signed, IntKind.bits] at h; omega
theorem wf_u16 {n : Int} (h : (Lit.int .u16 n).wf = true) : 0 ≤ n ∧ n ≤ 65535 := by
  simp [Lit.wf, IntKind.min, IntKind.max, IntKind.signed, IntKind.bits] at h; omega
theorem drop_split {α : Type} (cs : List α) (a n : Nat) : cs.drop a = (cs.drop a).take n ++ cs.drop (a + n) := by
  rw [← List.drop_drop]; exact (List.take_append_drop n _).symm
section
variable {H : Type} {enc : TypeId × Value → H} {w : World} {base : Nat} {spare : Nat → Bool} {held : Bool}
theorem trod_bytes {t n fuel : Nat} {cs : List Value} {x : DataW H × List MemPlace} (ht : Tryz.prog.underlying t = some (.array n 5)) (hc : Tryz.prog.cellsOf t = n) (h : DataW.trod enc Tryz.prog w base spare held fuel t cs = some x) :
    ∃ l : List Int, cs = l.map (Value.int .u8) ∧ l.length = n ∧ isBytes l := by
  obtain ⟨xs, m, rfl, _, hl, hxl, hf⟩ := DataW.trod_array ht h
  rw [hc] at hl
  obtain ⟨l, h1, h2⟩ := row_bytes cs (fun v hv => by
    obtain ⟨i, hi, rfl⟩ := List.getElem_of_mem hv
    have h3 := hf i (by omega)
    rw [cells5, Nat.mul_one, List.take_one, List.head?_drop, List.getElem?_eq_getElem hi] at h3
    obtain ⟨y, hy⟩ : ∃ y, xs[i]? = some y := ⟨_, List.getElem?_eq_getElem (by omega)⟩
    rw [hy] at h3
    obtain ⟨n, p, _, q⟩ := DataW.trod_int Tryz.underlying5 h3
    simp only [Option.toList_some, List.cons.injEq, and_true] at p
    have := wf_u8 q
    exact ⟨n, p, this.1, by omega⟩)
  exact ⟨l, h1, by rw [h1, List.length_map] at hl; exact hl, h2⟩
theorem bundle_of_trod {fuel : Nat} {cs : List Value} {x : DataW H × List MemPlace} (h : DataW.trod enc Tryz.prog w base spare held fuel 65 cs = some x) : ∃ b : Bn, BnOk b ∧ cs = (bnC b).toList := by
  obtain ⟨xs, m, rfl, _, hl, hxl, hf⟩ := DataW.trod_struct Tryz.underlying65 h
  rw [cells65] at hl
  have hs : xs.length = 6 := hxl
  have h0 : DataW.trod enc Tryz.prog w base spare held m 5 ((cs.drop 0).take (Tryz.prog.cellsOf 5)) = xs[0]? := hf 0 _ rfl
  have h1 : DataW.trod enc Tryz.prog w base spare held m 34 ((cs.drop 1).take (Tryz.prog.cellsOf 34)) = xs[1]? := hf 1 _ rfl
  have h2 : DataW.trod enc Tryz.prog w base spare held m 34 ((cs.drop 33).take (Tryz.prog.cellsOf 34)) = xs[2]? := hf 2 _ rfl
  have h3 : DataW.trod enc Tryz.prog w base spare held m 63 ((cs.drop 65).take (Tryz.prog.cellsOf 63)) = xs[3]? := hf 3 _ rfl
  have h4 : DataW.trod enc Tryz.prog w base spare held m 34 ((cs.drop 66).take (Tryz.prog.cellsOf 34)) = xs[4]? := hf 4 _ rfl
  have h5 : DataW.trod enc Tryz.prog w base spare held m 45 ((cs.drop 98).take (Tryz.prog.cellsOf 45)) = xs[5]? := hf 5 _ rfl
  rw [cells5] at h0
  rw [cells34] at h1 h2 h4
  rw [cells63] at h3
  rw [cells45] at h5
  rw [List.getElem?_eq_getElem (by omega)] at h0 h1 h2 h3 h4 h5
  obtain ⟨n0, p0, _, q0⟩ := DataW.trod_int Tryz.underlying5 h0
  obtain ⟨a1, p1, l1, b1⟩ := trod_bytes Tryz.underlying34 cells34 h1
  obtain ⟨a2, p2, l2, b2⟩ := trod_bytes Tryz.underlying34 cells34 h2
  obtain ⟨n3, p3, _, q3⟩ := DataW.trod_int Tryz.underlying63 h3
  obtain ⟨a4, p4, l4, b4⟩ := trod_bytes Tryz.underlying34 cells34 h4
  obtain ⟨a5, p5, l5, b5⟩ := trod_bytes Tryz.underlying45 cells45 h5
  have w0 := wf_u8 q0
  have w3 := wf_u16 q3
  refine ⟨⟨n0, a1, a2, n3, a4, a5⟩, ⟨w0.1, by show n0 < 256; omega, w3.1, by show n3 < 65536; omega, l1, l2, l4, l5, b1, b2, b4, b5⟩, ?_⟩
  have e : cs = cs.drop 0 := rfl
  rw [e, drop_split cs 0 1, drop_split cs (0 + 1) 32, drop_split cs (0 + 1 + 32) 32, drop_split cs (0 + 1 + 32 + 32) 1, drop_split cs (0 + 1 + 32 + 32 + 1) 32, drop_split cs (0 + 1 + 32 + 32 + 1 + 32) 64]
  rw [show 0 + 1 = 1 from rfl, show 1 + 32 = 33 from rfl, show 33 + 32 = 65 from rfl, show 65 + 1 = 66 from rfl, show 66 + 32 = 98 from rfl, p0, p1, p2, p3, p4, p5, List.drop_of_length_le (by omega)]
  simp [cBundle]
theorem cellsN {a : Addr} {cs : List Value} {n : Nat} (h : w.cells? base a n = some cs) : cs.length = n ∧ ∀ i v, cs[i]? = some v → w.cell? (a.add i) = some v := by
  unfold World.cells? at h
  split at h
  · have hl := mapM_some_length h
    refine ⟨by simpa using hl, fun i v hv => ?_⟩
    have hi : i < n := by
      have := (List.getElem?_eq_some_iff.1 hv).1
      simp only [List.length_range] at hl; omega
    have := mapM_some_get h i i (by simp [hi])
    rw [this]; exact hv
  · cases h
theorem lf_of_trod {fuel : Nat} {v : Value} {x : DataW H × List MemPlace} (hf : DataW.trod enc Tryz.prog w base spare held fuel 66 [v] = some x) (hm : ∀ a n c, v = .slice (some a) n c → a.spot = none) :
    ∃ p n c ls, v = .slice p n c ∧ Lf w p n c (bnsL ls) ∧ (∀ x ∈ ls, BnOk x) ∧ ls.length = n := by
  rcases Go.Deep.open_slice Tryz.underlying66 hf with ⟨hcs, _⟩ | ⟨a, len, cap, m, n, D, Pl, hcs, _, hlc, hcm, hmm, _, hel⟩
  · simp only [List.cons.injEq, and_true] at hcs
    exact ⟨none, 0, 0, [], hcs, .inl ⟨rfl, rfl, rfl, rfl⟩, by simp, rfl⟩
  · simp only [List.cons.injEq, and_true] at hcs
    have hle : len ≤ m := by rw [hmm]; split <;> omega
    have key : ∀ i, i < len → ∃ b : Bn, BnOk b ∧ ∀ j v, (bnC b).toList[j]? = some v → w.cell? (a.add (i * 162 + j)) = some v := fun i hi => by
      obtain ⟨cs, hc, ht⟩ := hel i (by omega)
      rw [cells65] at hc
      obtain ⟨hl4, hcell⟩ := cellsN hc
      obtain ⟨b, hb, rfl⟩ := bundle_of_trod ht
      refine ⟨b, hb, fun j v hv => ?_⟩
      have := hcell j v hv
      rwa [Go.Deep.add_add] at this
    obtain ⟨f, hf'⟩ := Classical.axiomOfChoice (r := fun (i : Nat) (b : Bn) => i < len → BnOk b ∧ ∀ j v, (bnC b).toList[j]? = some v → w.cell? (a.add (i * 162 + j)) = some v)
      (fun i => by
        by_cases hi : i < len
        · obtain ⟨o, h⟩ := key i hi; exact ⟨o, fun _ => h⟩
        · exact ⟨⟨0, [], [], 0, [], []⟩, fun h => absurd h hi⟩)
    obtain ⟨b, off, spot⟩ := a
    have hspot : spot = none := hm _ _ _ hcs
    subst hspot
    have okl : ∀ x ∈ (List.range len).map f, BnOk x := fun x hx => by
      obtain ⟨i, hi, rfl⟩ := List.mem_map.1 hx
      exact (hf' i (List.mem_range.1 hi)).1
    have hlen : ((List.range len).map f).length = len := by simp
    refine ⟨some ⟨b, off, none⟩, len, cap, (List.range len).map f, hcs, .inr ⟨_, rfl, ?_⟩, okl, hlen⟩
    refine ⟨by rw [bnsL_length okl, hlen], hlc, ?_, by simp, fun x hx => ⟨b, off, by simpa using hx.symm⟩⟩
    rcases Nat.eq_zero_or_pos len with h0 | h0
    · exact .inl h0
    · right
      have sz : ∀ i, i < len → (bnC (f i)).size = 162 := fun i hi => bnC_size (hf' i hi).1
      have cell : ∀ i, i < len → ∀ j, j < 162 → w.cell? ((⟨b, off, none⟩ : Addr).add (i * 162 + j)) = (bnC (f i))[j]? := fun i hi j hj => by
        have h1 : (bnC (f i)).toList[j]? = some ((bnC (f i))[j]'(by rw [sz i hi]; exact hj)) := by
          rw [Array.getElem?_toList]; exact Array.getElem?_eq_getElem _
        rw [(hf' i hi).2 j _ h1, ← h1, Array.getElem?_toList]
      have hlast := cell (len - 1) (by omega) 161 (by omega)
      rw [Array.getElem?_eq_getElem (by rw [sz (len - 1) (by omega)]; omega), Addr.add_mid, World.cell?_at] at hlast
      cases hb : w.blk b with
      | none => rw [hb] at hlast; cases hlast
      | some ob =>
        rw [hb] at hlast
        cases ob with
        | cells cs T fr =>
          have hsz : off + ((len - 1) * 162 + 161) < cs.size := (Array.getElem?_eq_some_iff.1 hlast).1
          have hmul : len * 162 = (len - 1) * 162 + 162 := by rw [← Nat.succ_mul]; congr 1; omega
          refine ⟨b, off, cs, T, fr, rfl, hb, by omega, ?_⟩
          apply List.ext_getElem?
          intro k
          rcases Nat.lt_or_ge k (len * 162) with hk | hk
          · have hi : k / 162 < len := Nat.div_lt_of_lt_mul (by rw [Nat.mul_comm]; exact hk)
            have hj : k % 162 < 162 := Nat.mod_lt _ (by omega)
            have hkk : k / 162 * 162 + k % 162 = k := by rw [Nat.mul_comm]; exact Nat.div_add_mod k 162
            have h2 := cell (k / 162) hi (k % 162) hj
            rw [Addr.add_mid, World.cell?_at, hb] at h2
            have h3 : cs[off + (k / 162 * 162 + k % 162)]? = (bnC (f (k / 162)))[k % 162]? := h2
            rw [hkk] at h3
            rw [Array.getElem?_toList, Array.getElem?_extract_of_lt (by omega), ← Array.getElem?_eq_getElem, h3]
            have h4 := flatMap_part (fun x => (bnC x).toList) 162 ((List.range len).map f) (k / 162) (f (k / 162)) (fun y hy => by rw [Array.length_toList, bnC_size (okl y hy)]) (by simp [hi])
            have h5 : (bnsL ((List.range len).map f))[k]? = (((bnsL ((List.range len).map f)).drop (k / 162 * 162)).take 162)[k % 162]? := by
              rw [List.getElem?_take, if_pos hj, List.getElem?_drop, hkk]
            rw [h5, bnsL, h4, Array.getElem?_toList]
          · rw [List.getElem?_eq_none (by rw [Array.length_toList, Array.size_extract]; omega), List.getElem?_eq_none (by rw [bnsL_length okl, hlen]; exact hk)]
        | _ => cases hlast
set_option maxRecDepth 100000 in
theorem types68 : Tryz.prog.cellTypes Tryz.prog.depth 68 = some (4 :: ((5 :: (List.replicate 32 5 ++ (List.replicate 32 5 ++ (63 :: (List.replicate 32 5 ++ List.replicate 64 5))))) ++ [66, 63])) := by kernel_rfl
set_option maxRecDepth 100000 in
theorem spot_of {r : Reach} {b0 : Nat} {v : Value} (h : Cell.okWide Tryz.prog w r b0 66 v) : ∀ a n c, v = .slice (some a) n c → a.spot = none := fun a n c e => by
  subst e
  unfold Cell.okWide at h
  rw [Tryz.underlying66] at h
  simp only [Cell.ok, Tryz.underlying66] at h
  exact h.2.2.2.1
set_option maxRecDepth 100000 in
theorem open66 {r : Reach} {b0 : Nat} {v : Value} {d : DataW H} {ps : List MemPlace} (hval : Value.okWide Tryz.prog w r b0 66 v) (hd : DataW.Trod enc Tryz.prog w base spare held 66 v d ps) :
    ∃ p n c ls, v = .slice p n c ∧ Lf w p n c (bnsL ls) ∧ (∀ x ∈ ls, BnOk x) ∧ ls.length = n := by
  unfold Value.okWide at hval
  rw [Tryz.underlying66] at hval
  obtain ⟨p, n, c, rfl⟩ := slice_cell hval Tryz.underlying66
  obtain ⟨fuel, hf⟩ := hd
  exact lf_of_trod hf (spot_of hval)
set_option maxRecDepth 100000 in
theorem open5 {r : Reach} {b0 : Nat} {v : Value} (hval : Value.okWide Tryz.prog w r b0 5 v) : ∃ n : Nat, v = .int .u8 (n : Int) ∧ n < 256 := by
  unfold Value.okWide at hval
  rw [Tryz.underlying5] at hval
  obtain ⟨a, ha, hh⟩ := int_cell hval Tryz.underlying5
  have := has_u8 hh
  obtain ⟨n, rfl⟩ := Int.eq_ofNat_of_zero_le this.1
  exact ⟨n, ha, by omega⟩
set_option maxRecDepth 100000 in
theorem open68 {r : Reach} {b0 : Nat} {v : Value} {d : DataW H} {ps : List MemPlace} (hval : Value.okWide Tryz.prog w r b0 68 v) (hd : DataW.Trod enc Tryz.prog w base spare held 68 v d ps) :
    ∃ hs f p n c last ls, v = .agg (shC hs f p n c last) ∧ BnOk f ∧ 0 ≤ last ∧ last < 65536 ∧ Lf w p n c (bnsL ls) ∧ (∀ x ∈ ls, BnOk x) ∧ ls.length = n := by
  unfold Value.okWide at hval
  rw [Tryz.underlying68] at hval
  obtain ⟨cs, rfl, hsz, ts, hts, _, hc⟩ := hval
  rw [cells68] at hsz
  rw [types68, Option.some.injEq] at hts
  subst hts
  obtain ⟨fuel, hf⟩ := hd
  have hL : cs.toList.length = 165 := by simpa using hsz
  have hf' : DataW.trod enc Tryz.prog w base spare held fuel 68 cs.toList = some (d, ps) := hf
  obtain ⟨xs, m, rfl, _, hl, hxl, hx⟩ := DataW.trod_struct Tryz.underlying68 hf'
  have hs4 : xs.length = 4 := hxl
  have h0 : DataW.trod enc Tryz.prog w base spare held m 4 ((cs.toList.drop 0).take (Tryz.prog.cellsOf 4)) = xs[0]? := hx 0 _ rfl
  have h1 : DataW.trod enc Tryz.prog w base spare held m 65 ((cs.toList.drop 1).take (Tryz.prog.cellsOf 65)) = xs[1]? := hx 1 _ rfl
  have h2 : DataW.trod enc Tryz.prog w base spare held m 66 ((cs.toList.drop 163).take (Tryz.prog.cellsOf 66)) = xs[2]? := hx 2 _ rfl
  have h3 : DataW.trod enc Tryz.prog w base spare held m 63 ((cs.toList.drop 164).take (Tryz.prog.cellsOf 63)) = xs[3]? := hx 3 _ rfl
  rw [cells4] at h0
  rw [cells65] at h1
  rw [cells66] at h2
  rw [cells63] at h3
  rw [List.getElem?_eq_getElem (by omega)] at h0 h1 h2 h3
  obtain ⟨hb, p0, _⟩ := DataW.trod_bool Tryz.underlying4 h0
  obtain ⟨f, okf, p1⟩ := bundle_of_trod h1
  obtain ⟨n3, p3, _, q3⟩ := DataW.trod_int Tryz.underlying63 h3
  have w3 := wf_u16 q3
  have e2 : (cs.toList.drop 163).take 1 = [cs[163]'(by omega)] := by
    rw [List.take_one, List.head?_drop, Array.getElem?_toList, Array.getElem?_eq_getElem (by omega)]; rfl
  rw [e2] at h2
  obtain ⟨u, hu, hok⟩ := hc 163 (cs[163]'(by omega)) (Array.getElem?_eq_getElem (by omega))
  have hu66 : u = 66 := by
    have : (4 :: ((5 :: (List.replicate 32 5 ++ (List.replicate 32 5 ++ (63 :: (List.replicate 32 5 ++ List.replicate 64 5))))) ++ [66, 63]) : List Nat)[163 % (4 :: ((5 :: (List.replicate 32 5 ++ (List.replicate 32 5 ++ (63 :: (List.replicate 32 5 ++ List.replicate 64 5))))) ++ [66, 63]) : List Nat).length]? = some 66 := by kernel_rfl
    rw [this] at hu
    injection hu with hu
    exact hu.symm
  subst hu66
  obtain ⟨p, n, c, ls, hv, hLf, hok2, hlen⟩ := lf_of_trod h2 (spot_of hok)
  refine ⟨hb, f, p, n, c, n3, ls, ?_, okf, w3.1, by omega, hLf, hok2, hlen⟩
  congr 1
  apply Array.ext'
  have e : cs.toList = cs.toList.drop 0 := rfl
  rw [e, drop_split cs.toList 0 1, drop_split cs.toList (0 + 1) 162, drop_split cs.toList (0 + 1 + 162) 1, drop_split cs.toList (0 + 1 + 162 + 1) 1]
  rw [show 0 + 1 = 1 from rfl, show 1 + 162 = 163 from rfl, show 163 + 1 = 164 from rfl, p0, p1, e2, hv, p3, List.drop_of_length_le (by omega)]
  simp [cShelf]
end
end Go.Proofs.YtbhnfohoclcjdaaGreat
namespace Go.Proofs.YtbhnfohoclcjdaaGreat
open Go.ChangeShapes Go.WideShapes Go.ChangeAt Go.RowKit Go.Dr
theorem and_true' {a b : Bool} (h : a = true) (k : b = true) : (a && b) = true := by rw [h, k]; rfl
theorem mapsRowedFact : (mapsRowed Tryz.pinned.checked.prog) = true := by kernel_rfl
theorem mayEnterFact : (Tryz.pinned.checked.prog.mayEnter) = true := by kernel_rfl
theorem liftsFact : ((Rows.keydirStocksRow.lifted == Tryz.pinned.checked.prog.liftsFinal)) = true := by kernel_rfl
theorem makeFact : ((Tryz.pinned.checked.prog.make == some Rows.keydirStocksRow.make)) = true := by kernel_rfl
end Go.Proofs.YtbhnfohoclcjdaaGreat
namespace Go.Proofs.YtbhnfohoclcjdaaGreat
open Go.RowKit Go.Dr Go.Kd
section
variable {w0 w : World} {L : List (Nat × Obj)} {p : Option Addr} {n cap : Nat} {vs : List Value}
set_option maxRecDepth 100000 in
set_option maxHeartbeats 2000000 in
theorem wsig_f {i wb : Nat} {k : List Int} (B : BldV w0 L 49 1 w p n cap vs) (hi : L[i]? = some (wb, .cells #[.slice p n cap, .bool false] 160)) (hn : n ≤ 1000) (hk : k.length = 64) :
    Calls Tryz.prog 100 #[.pointer (some ⟨wb, 0, none⟩), .agg (ints .u8 k)] w fun e w' => e = .returned (.tuple #[]) ∧ ∃ b p' cap', BldV w0 ((b, .cells (ints .u8 k) 45) :: L.set i (wb, .cells #[.slice p' (n + 1) cap', .bool false] 160)) 49 1 w' p' (n + 1) cap' (vs ++ [.slice (some ⟨b, 0, none⟩) 64 64]) := by
  obtain ⟨wA, hwA⟩ : ∃ wA, wA = w.alloc (.cells (ints .u8 k) 45) := ⟨_, rfl⟩
  obtain ⟨b, hb⟩ : ∃ b, b = w.heap.size := ⟨_, rfl⟩
  have B2 : BldV w0 ((b, .cells (ints .u8 k) 45) :: L) 49 1 wA p n cap vs := by
    rw [hwA, hb]
    exact B.add ((Fr.refl [] w).alloc _) (World.at_alloc_new _ _ _ rfl) (Nat.le_refl _)
  have hi2 : ((b, .cells (ints .u8 k) 45) :: L)[i + 1]? = some (wb, .cells #[.slice p n cap, .bool false] 160) := hi
  have f1 := B2.own.nth (i + 1) hi2
  have t1 := B2.own.lt (i + 1) hi2
  have HB2 := Lib.hid B2
  have HI2 := Lib.hid hi2
  clear B hi B2 hi2
  go_enter Tryz.func100, Tryz.ntmps100
  go_upto_region 1 with (fail)
  rw [← hwA, ← hb]
  clear hwA hb
  refine drawn_begin 8 (fun w' => w'.blk wb = some (.cells #[.slice p n cap, .bool false] 160)) (by kernel_rfl) ?_
  refine drawn_reads (fuel := 5) [0, 1, 2, 3, 4, 5] rfl (by kernel_rfl) (by go_simp) ?_
  repeat (refine rowK_step rfl (fun K hK => ?_); go_simp; refine hK _ ?_; clear hK K)
  refine rowK_nil ⟨fun w' e1 => ?_, ?_⟩
  · repeat (refine rowWp_step rfl (fun K hK => ?_); go_simp; refine hK _ ?_; clear hK K)
    exact rowWp_nil rfl
  refine drawn_next 6 (fuel := 4) rfl (by kernel_rfl) ?_
  intro K hK
  go_wp2
  refine ⟨by go_simp, ?_⟩
  refine drawn_next 7 (fuel := 3) rfl (by kernel_rfl) ?_
  intro K hK
  refine wpList_app86 rfl _ _ rfl rfl (HB2.out.call (((Fr.refl [] wA).alloc (.cells #[.slice (some ⟨b, 0, none⟩) 64 64] 49)).drew)) rfl (Sv.one (v := .slice (some ⟨b, 0, none⟩) 64 64) (T := 49) (fr := (0, 0)) (show (wA.alloc (.cells #[.slice (some ⟨b, 0, none⟩) 64 64] 49)).blk wA.heap.size = _ from World.at_alloc_new _ _ _ rfl)) (by simp [Value.oneCell']) (by omega) ?_
  intro p3 c3 W3 B3
  have f3 := B3.own.nth (i + 1) HI2.out
  have t3 := B3.own.lt (i + 1) HI2.out
  have HB3 := Lib.hid B3
  clear B3 f1 t1
  refine wpList_nil ?_
  refine hK _ _ ⟨f3, ?_⟩
  refine drawn_end rfl (by kernel_rfl) ?_
  intro K hK
  go_wp2_with fail
  have B4 := HB3.out.set (i + 1) (.cells #[.slice p3 (n + 1) c3, .bool false] 160) HI2.out
  exact bodyPost_end (results_none rfl _ _ _) rfl ⟨rfl, b, p3, c3, B4⟩
end
def bunB (x : Bn) : Bs := joinB [putB x.device.toNat 1, x.agree, x.signer, putB x.id.toNat 2, x.once, x.sig]
theorem bunB_length {x : Bn} (h : BnOk x) : (bunB x).length = 176 := by
  simp [bunB, joinB, h.al, h.sl, h.ol, h.gl, putB_length]
theorem isBytes_putB (k s : Nat) : isBytes (putB k s) := fun y hy => by
  simp only [putB, List.mem_map] at hy
  obtain ⟨i, _, rfl⟩ := hy
  omega
theorem isBytes_bunB {x : Bn} (h : BnOk x) : isBytes (bunB x) := by
  refine isBytes_join (by simp [fits, putB_len, h.al, h.sl, h.ol, h.gl]) ?_
  intro l hl
  simp only [List.mem_cons, List.not_mem_nil, or_false] at hl
  rcases hl with rfl | rfl | rfl | rfl | rfl | rfl
  · exact isBytes_putB _ _
  · exact h.ab
  · exact h.sb
  · exact isBytes_putB _ _
  · exact h.ob
  · exact h.gb
section
variable {w : World}
set_option maxRecDepth 100000 in
set_option maxHeartbeats 2000000 in
theorem pbundle_f {x : Bn} (hx : BnOk x) : Calls Tryz.prog 64 #[.agg (bnC x)] w fun e w' => ∃ q m c, e = .returned (.tuple #[.slice q m c, .bool true]) ∧ Bld w [] .u8 5 w' q m c (bunB x) := by
  obtain ⟨d, hd⟩ := Int.eq_ofNat_of_zero_le hx.d0
  obtain ⟨i, hi⟩ := Int.eq_ofNat_of_zero_le hx.i0
  have d1 : d < 256 := by have := hx.d1; omega
  have i1 : i < 65536 := by have := hx.i1; omega
  have la := hx.al
  have ls := hx.sl
  have lo := hx.ol
  have lg := hx.gl
  obtain ⟨xs, hxs⟩ : ∃ xs, xs = bnC x := ⟨_, rfl⟩
  have hsz : xs.size = 162 := by rw [hxs, List.size_toArray, cBundle_length _ _ _ _ _ _ hx.al hx.sl hx.ol hx.gl]
  have x0 : xs[0]? = some (.int .u8 (d : Int)) := by rw [hxs, ← hd]; exact cBundle_get_device _ _ _ _ _ _ hx.al hx.sl hx.ol hx.gl
  have x1 : xs.extract 1 33 = ints .u8 x.agree := by rw [hxs]; exact cBundle_ext_agree _ _ _ _ _ _ hx.al hx.sl hx.ol hx.gl
  have x2 : xs.extract 33 65 = ints .u8 x.signer := by rw [hxs]; exact cBundle_ext_signer _ _ _ _ _ _ hx.al hx.sl hx.ol hx.gl
  have x3 : xs[65]? = some (.int .u16 (i : Int)) := by rw [hxs, ← hi]; exact cBundle_get_id _ _ _ _ _ _ hx.al hx.sl hx.ol hx.gl
  have x4 : xs.extract 66 98 = ints .u8 x.once := by rw [hxs]; exact cBundle_ext_once _ _ _ _ _ _ hx.al hx.sl hx.ol hx.gl
  have x5 : xs.extract 98 162 = ints .u8 x.sig := by rw [hxs]; exact cBundle_ext_sig _ _ _ _ _ _ hx.al hx.sl hx.ol hx.gl
  have e9 : bunB x = joinB [putB d 1, x.agree, x.signer, putB i 2, x.once, x.sig] := by simp only [bunB, hd, hi, Int.toNat_natCast]
  rw [← hxs]
  have HX := Lib.hid hxs
  have HE := Lib.hid e9
  clear hxs e9 hd hi
  generalize x.agree = ag at la x1 HE
  generalize x.signer = sg at ls x2 HE
  generalize x.once = on at lo x4 HE
  generalize x.sig = gg at lg x5 HE
  replace x0 := (Array.getElem?_eq_some_iff.1 x0).2
  replace x3 := (Array.getElem?_eq_some_iff.1 x3).2
  go_enter Tryz.func64, Tryz.ntmps64
  go_upto_region 2 with (fail)
  refine named_world (A := fun X => OwB w [(w.heap.size + 1, .cells #[.slice none 0 0, .bool false] 160), (w.heap.size, .cells xs 65)] X) (Q := fun X => Code.wp _ _ _ _ X) (((OwB.start w).allocN _ w.heap.size rfl).allocN _ (w.heap.size + 1) (by simp)) ?_
  intro V hO
  generalize w.heap.size + 1 = b3 at *
  generalize w.heap.size = b0 at *
  have f0 := hO.nth 1 rfl
  have t0 := World.at_lt f0
  have B : BldV w [(b3, .cells #[.slice none 0 0, .bool false] 160), (b0, .cells xs 65)] 49 1 V none 0 0 [] := BldV.nil hO
  clear hO
  have HB := Lib.hid B
  clear B
  go_wp2_with fail
  refine (num_f (i := 0) (k := d) (s := 1) HB.out rfl (by omega) (by omega) (by omega) (by omega)).mono ?_
  rintro e w1 ⟨rfl, c1, p1, k1, B⟩
  clear f0 t0
  have f0 := B.own.nth 2 rfl
  have t0 := B.own.lt 2 rfl
  clear HB
  have HB := Lib.hid B
  clear B
  go_wp2_with fail
  refine (key_f (i := 1) (k := ag) HB.out rfl (by omega) la).mono ?_
  clear f0 t0
  rintro e w2 ⟨rfl, c2, p2, k2, B⟩
  have f0 := B.own.nth 3 rfl
  have t0 := B.own.lt 3 rfl
  clear HB
  have HB := Lib.hid B
  clear B
  go_wp2_with fail
  refine (key_f (i := 2) (k := sg) HB.out rfl (by omega) ls).mono ?_
  clear f0 t0
  rintro e w3 ⟨rfl, c3, p3, k3, B⟩
  have f0 := B.own.nth 4 rfl
  have t0 := B.own.lt 4 rfl
  clear HB
  have HB := Lib.hid B
  clear B
  go_wp2_with fail
  refine (num_f (i := 3) (k := i) (s := 2) HB.out rfl (by omega) (by omega) (by omega) (by omega)).mono ?_
  clear f0 t0
  rintro e w4 ⟨rfl, c4, p4, k4, B⟩
  have f0 := B.own.nth 5 rfl
  have t0 := B.own.lt 5 rfl
  clear HB
  have HB := Lib.hid B
  clear B
  go_wp2_with fail
  refine (key_f (i := 4) (k := on) HB.out rfl (by omega) lo).mono ?_
  clear f0 t0
  rintro e w5 ⟨rfl, c5, p5, k5, B⟩
  have f0 := B.own.nth 6 rfl
  have t0 := B.own.lt 6 rfl
  clear HB
  have HB := Lib.hid B
  clear B
  go_wp2_with fail
  refine (wsig_f (i := 5) (k := gg) HB.out rfl (by omega) lg).mono ?_
  clear f0 t0
  rintro e w6 ⟨rfl, c6, p6, k6, B⟩
  have f0 := B.own.nth 6 rfl
  have S : Sll w6 p6 6 k6 [putB d 1, ag, sg, putB i 2, on, gg] :=
    Sll.of B.sv (.cons (Sl.whole (B.own.nth 5 rfl) (putB_len _ _)) (.cons (Sl.whole (B.own.nth 4 rfl) la) (.cons (Sl.whole (B.own.nth 3 rfl) ls) (.cons (Sl.whole (B.own.nth 2 rfl) (putB_len _ _)) (.cons (Sl.whole (B.own.nth 1 rfl) lo) (.cons (Sl.whole (B.own.nth 0 rfl) lg) .nil))))))
  have F := Lib.hid B.own.fr
  have HS := Lib.hid S
  clear HB B S
  go_wp2_with fail
  refine (done_f f0 HS.out (by simp [fits, putB_len, la, ls, lo, lg])).mono ?_
  rintro e w7 ⟨q, m, c, rfl, B⟩
  have HB := Lib.hid B
  clear B f0
  go_wp2_with fail
  rw [HE.out]
  exact bodyPost_ret (results_tmp2 rfl _ _ _) rfl ⟨q, m, c, rfl, HB.out.lift ((OwB.start w).call F.out)⟩
end
end Go.Proofs.YtbhnfohoclcjdaaGreat
namespace Go.Proofs.YtbhnfohoclcjdaaGreat
open Go.RowKit Go.Dr Go.Kd
/-- The secret of a number. -/
def secB (n : Int) : List Int := (n % 6) :: 1 :: Kd.zeros 30
theorem key_secB {n : Int} : Key32 (secB n) := ⟨rfl, fun v hv => by
  simp only [secB, List.mem_cons, Kd.zeros, List.mem_replicate] at hv
  omega⟩
/-- What is known of a server's last key. -/
def seeF (C : List Int) (sv hi : Int) : List Int := if sv < 4 then C.set (128 + sv.toNat) (max (el C (128 + sv.toNat)) hi) else C
theorem seeF_len (C : List Int) (sv hi : Int) : (seeF C sv hi).length = C.length := by
  unfold seeF; split
  · rw [List.length_set]
  · rfl
theorem set_el (C : List Int) (i : Nat) : C.set i (el C i) = C := by
  apply List.ext_getElem?
  intro j
  rw [List.getElem?_set]
  split
  · rename_i h
    subst h
    split
    · rename_i h2
      rw [List.getElem?_eq_getElem h2]
      simp [el, List.getD_eq_getElem?_getD, List.getElem?_eq_getElem h2]
    · rename_i h2
      rw [List.getElem?_eq_none (by omega)]
  · rfl
theorem spl38 {D : List Int} (h : D.length = 133) : spl Tryz.zeroCells38 0 (D.map (Value.int .u8)) = ints .u8 D := by
  have hz : Tryz.zeroCells38 = ints .u8 (zs 133) := by kernel_rfl
  rw [hz, spl_ints]
  congr 1
  unfold lay
  rw [List.take_zero, List.nil_append, Nat.zero_add, h, List.drop_of_length_le (by rw [length_zs]; omega), List.append_nil]
section
variable {w : World}
set_option maxRecDepth 100000 in
set_option maxHeartbeats 2000000 in
theorem secret_f {n : Int} (h0 : 0 ≤ n) (h1 : n < 256) : Calls Tryz.prog 10 #[.int .u8 n] w fun e w' => e = .returned (.agg (ints .u8 (secB n))) ∧ Fr [] w w' := by
  have hO := (OwB.start w).allocN (.cells (ints .u8 (secB n)) 34) w.heap.size rfl
  have HO := Lib.hid hO
  have hm : n.tmod 6 = n % 6 := Int.tmod_eq_emod_of_nonneg h0
  clear hO
  go_enter Tryz.func10, Tryz.ntmps10
  go_wp2_with fail
  refine ret_cell rfl rfl rfl ?_
  go_simp
  exact ⟨by kernel_rfl, rfl, HO.out.fr⟩
set_option maxRecDepth 100000 in
set_option maxHeartbeats 2000000 in
theorem see_f {C : List Int} {sv hi : Int} (hC : C.length = 133) (h0 : 0 ≤ sv) :
    Calls Tryz.prog 12 #[.agg (ints .u8 C), .int .u8 sv, .int .u8 hi] w fun e w' => e = .returned (.agg (ints .u8 (seeF C sv hi))) ∧ Fr [] w w' := by
  obtain ⟨s, rfl⟩ := Int.eq_ofNat_of_zero_le h0
  have sC : (ints .u8 C).size = 133 := by rw [size_ints, hC]
  have z38 : Tryz.zeroCells38.size = 133 := by kernel_rfl
  obtain ⟨sv, hsv⟩ : ∃ sv : Int, sv = (s : Int) := ⟨_, rfl⟩
  by_cases h4 : s < 4
  · have d4 : decide ((s : Int) < 4) = true := by rw [decide_eq_true_eq]; omega
    have s133 : 128 + s < 133 := by omega
    have e9 : seeF C (s : Int) hi = C.set (128 + s) (max (el C (128 + s)) hi) := by unfold seeF; rw [if_pos (by omega)]; rfl
    have E9 := Lib.hid e9
    clear e9 hsv
    go_enter Tryz.func12, Tryz.ntmps12
    go_upto_region 3 with (fail)
    obtain ⟨DA, hDA⟩ : ∃ DA, DA = ints .u8 (seeF C (s : Int) hi) := ⟨_, rfl⟩
    have sD : DA.size = 133 := by rw [hDA, size_ints, seeF_len, hC]
    have aD : DA.extract 0 133 = DA := by rw [← sD]; exact Array.extract_size
    have oD : ones DA.toList = true := by rw [hDA, toList_ints]; exact List.all_eq_true.2 (fun v hv => by obtain ⟨x, _, rfl⟩ := List.mem_map.1 hv; rfl)
    have HDA := Lib.hid hDA
    refine named_world (A := fun X => OwB w [(w.heap.size + 1, .cells Tryz.zeroCells38 38), (w.heap.size, .cells DA 38)] X) (Q := fun X => Code.wp _ _ _ _ X) (by rw [hDA, E9.out]; exact ((OwB.start w).allocN _ w.heap.size rfl).allocN _ (w.heap.size + 1) (by simp)) ?_
    clear hDA
    intro V hV
    generalize w.heap.size + 1 = b6 at hV ⊢
    generalize w.heap.size = b3 at hV ⊢
    have f6 := hV.nth 0 rfl
    have f3 := hV.nth 1 rfl
    have t6 := World.at_lt f6
    have t3 := World.at_lt f3
    have HV := Lib.hid hV
    clear hV
    go_wp2_with fail
    refine ret_cell rfl rfl rfl ?_
    go_simp
    exact ⟨by kernel_rfl, by rw [HDA.out], (HV.out.set 0 _ rfl).fr⟩
  · have d4 : decide ((s : Int) < 4) = false := by rw [decide_eq_false_iff_not]; omega
    have e9 : seeF C (s : Int) hi = C := by unfold seeF; rw [if_neg (by omega)]
    have E9 := Lib.hid e9
    clear e9 hsv
    go_enter Tryz.func12, Tryz.ntmps12
    go_upto_region 3 with (fail)
    obtain ⟨DA, hDA⟩ : ∃ DA, DA = ints .u8 (seeF C (s : Int) hi) := ⟨_, rfl⟩
    have sD : DA.size = 133 := by rw [hDA, size_ints, seeF_len, hC]
    have aD : DA.extract 0 133 = DA := by rw [← sD]; exact Array.extract_size
    have oD : ones DA.toList = true := by rw [hDA, toList_ints]; exact List.all_eq_true.2 (fun v hv => by obtain ⟨x, _, rfl⟩ := List.mem_map.1 hv; rfl)
    have HDA := Lib.hid hDA
    refine named_world (A := fun X => OwB w [(w.heap.size + 1, .cells Tryz.zeroCells38 38), (w.heap.size, .cells DA 38)] X) (Q := fun X => Code.wp _ _ _ _ X) (by rw [hDA, E9.out]; exact ((OwB.start w).allocN _ w.heap.size rfl).allocN _ (w.heap.size + 1) (by simp)) ?_
    clear hDA
    intro V hV
    generalize w.heap.size + 1 = b6 at hV ⊢
    generalize w.heap.size = b3 at hV ⊢
    have f6 := hV.nth 0 rfl
    have f3 := hV.nth 1 rfl
    have t6 := World.at_lt f6
    have t3 := World.at_lt f3
    have HV := Lib.hid hV
    clear hV
    go_wp2_with fail
    refine ret_cell rfl rfl rfl ?_
    go_simp
    exact ⟨by kernel_rfl, by rw [HDA.out], (HV.out.set 0 _ rfl).fr⟩
set_option maxRecDepth 100000 in
set_option maxHeartbeats 2000000 in
theorem dsee_f {C : List Int} {sv hi : Int} (hC : C.length = 133) (h0 : 0 ≤ sv) :
    Calls Tryz.prog 13 #[.agg (ints .u8 C), .int .u8 sv, .int .u8 hi] w fun e w' => e = .returned (.agg (ints .u8 (seeF C sv hi))) ∧ Fr [] w w' := by
  obtain ⟨s, rfl⟩ := Int.eq_ofNat_of_zero_le h0
  have sC : (ints .u8 C).size = 133 := by rw [size_ints, hC]
  have z38 : Tryz.zeroCells38.size = 133 := by kernel_rfl
  obtain ⟨sv, hsv⟩ : ∃ sv : Int, sv = (s : Int) := ⟨_, rfl⟩
  by_cases h4 : s < 4
  · have d4 : decide ((s : Int) < 4) = true := by rw [decide_eq_true_eq]; omega
    have s133 : 128 + s < 133 := by omega
    by_cases hlt : el C (128 + s) < hi
    · have dl : decide (el C (128 + s) < hi) = true := decide_eq_true hlt
      have e9 : seeF C (s : Int) hi = C.set (128 + s) hi := by unfold seeF; rw [if_pos (by omega), Int.toNat_natCast, Int.max_eq_right (by omega)]
      have E9 := Lib.hid e9
      clear e9 hsv hlt
      go_enter Tryz.func13, Tryz.ntmps13
      go_upto_region 3 with (fail)
      obtain ⟨DA, hDA⟩ : ∃ DA, DA = ints .u8 (seeF C (s : Int) hi) := ⟨_, rfl⟩
      have sD : DA.size = 133 := by rw [hDA, size_ints, seeF_len, hC]
      have aD : DA.extract 0 133 = DA := by rw [← sD]; exact Array.extract_size
      have oD : ones DA.toList = true := by rw [hDA, toList_ints]; exact List.all_eq_true.2 (fun v hv => by obtain ⟨x, _, rfl⟩ := List.mem_map.1 hv; rfl)
      have HDA := Lib.hid hDA
      refine named_world (A := fun X => OwB w [(w.heap.size + 1, .cells Tryz.zeroCells38 38), (w.heap.size, .cells DA 38)] X) (Q := fun X => Code.wp _ _ _ _ X) (by rw [hDA, E9.out]; exact ((OwB.start w).allocN _ w.heap.size rfl).allocN _ (w.heap.size + 1) (by simp)) ?_
      clear hDA
      intro V hV
      generalize w.heap.size + 1 = b6 at hV ⊢
      generalize w.heap.size = b3 at hV ⊢
      have f6 := hV.nth 0 rfl
      have f3 := hV.nth 1 rfl
      have t6 := World.at_lt f6
      have t3 := World.at_lt f3
      have HV := Lib.hid hV
      clear hV
      go_wp2_with fail
      refine ret_cell rfl rfl rfl ?_
      go_simp
      exact ⟨by kernel_rfl, by rw [HDA.out], (HV.out.set 0 _ rfl).fr⟩
    · have dl : decide (el C (128 + s) < hi) = false := decide_eq_false hlt
      have e9 : seeF C (s : Int) hi = C := by unfold seeF; rw [if_pos (by omega), Int.toNat_natCast, Int.max_eq_left (by omega)]; exact set_el C _
      have E9 := Lib.hid e9
      clear e9 hsv hlt
      go_enter Tryz.func13, Tryz.ntmps13
      go_upto_region 3 with (fail)
      obtain ⟨DA, hDA⟩ : ∃ DA, DA = ints .u8 (seeF C (s : Int) hi) := ⟨_, rfl⟩
      have sD : DA.size = 133 := by rw [hDA, size_ints, seeF_len, hC]
      have aD : DA.extract 0 133 = DA := by rw [← sD]; exact Array.extract_size
      have oD : ones DA.toList = true := by rw [hDA, toList_ints]; exact List.all_eq_true.2 (fun v hv => by obtain ⟨x, _, rfl⟩ := List.mem_map.1 hv; rfl)
      have HDA := Lib.hid hDA
      refine named_world (A := fun X => OwB w [(w.heap.size + 1, .cells Tryz.zeroCells38 38), (w.heap.size, .cells DA 38)] X) (Q := fun X => Code.wp _ _ _ _ X) (by rw [hDA, E9.out]; exact ((OwB.start w).allocN _ w.heap.size rfl).allocN _ (w.heap.size + 1) (by simp)) ?_
      clear hDA
      intro V hV
      generalize w.heap.size + 1 = b6 at hV ⊢
      generalize w.heap.size = b3 at hV ⊢
      have f6 := hV.nth 0 rfl
      have f3 := hV.nth 1 rfl
      have t6 := World.at_lt f6
      have t3 := World.at_lt f3
      have HV := Lib.hid hV
      clear hV
      go_wp2_with fail
      refine ret_cell rfl rfl rfl ?_
      go_simp
      exact ⟨by kernel_rfl, by rw [HDA.out], (HV.out.set 0 _ rfl).fr⟩
  · have d4 : decide ((s : Int) < 4) = false := by rw [decide_eq_false_iff_not]; omega
    have e9 : seeF C (s : Int) hi = C := by unfold seeF; rw [if_neg (by omega)]
    have E9 := Lib.hid e9
    clear e9 hsv
    go_enter Tryz.func13, Tryz.ntmps13
    go_upto_region 3 with (fail)
    obtain ⟨DA, hDA⟩ : ∃ DA, DA = ints .u8 (seeF C (s : Int) hi) := ⟨_, rfl⟩
    have sD : DA.size = 133 := by rw [hDA, size_ints, seeF_len, hC]
    have aD : DA.extract 0 133 = DA := by rw [← sD]; exact Array.extract_size
    have oD : ones DA.toList = true := by rw [hDA, toList_ints]; exact List.all_eq_true.2 (fun v hv => by obtain ⟨x, _, rfl⟩ := List.mem_map.1 hv; rfl)
    have HDA := Lib.hid hDA
    refine named_world (A := fun X => OwB w [(w.heap.size + 1, .cells Tryz.zeroCells38 38), (w.heap.size, .cells DA 38)] X) (Q := fun X => Code.wp _ _ _ _ X) (by rw [hDA, E9.out]; exact ((OwB.start w).allocN _ w.heap.size rfl).allocN _ (w.heap.size + 1) (by simp)) ?_
    clear hDA
    intro V hV
    generalize w.heap.size + 1 = b6 at hV ⊢
    generalize w.heap.size = b3 at hV ⊢
    have f6 := hV.nth 0 rfl
    have f3 := hV.nth 1 rfl
    have t6 := World.at_lt f6
    have t3 := World.at_lt f3
    have HV := Lib.hid hV
    clear hV
    go_wp2_with fail
    refine ret_cell rfl rfl rfl ?_
    go_simp
    exact ⟨by kernel_rfl, by rw [HDA.out], (HV.out.set 0 _ rfl).fr⟩
end
end Go.Proofs.YtbhnfohoclcjdaaGreat
namespace Go.Proofs.YtbhnfohoclcjdaaGreat
open Go.RowKit Go.Dr Go.Kd
/-- A slice of structs, nil or not. -/
def Lg (sz : Nat) (w : World) (p : Option Addr) (n cap : Nat) (vs : List Value) : Prop := (p = none ∧ n = 0 ∧ cap = 0 ∧ vs = []) ∨ ∃ a, p = some a ∧ Sv sz w (some a) n cap vs
/-- A vouch's cells. -/
abbrev vcC (v : Int × Bs) : List Value := .int .u8 v.1 :: v.2.map (Value.int .u8)
def vsL (vs : List (Int × Bs)) : List Value := vs.flatMap vcC
/-- A vouch that may be. -/
structure VcOk (v : Int × Bs) : Prop where
  n0 : 0 ≤ v.1
  n1 : v.1 < 256
  sl : v.2.length = 64
  sb : isBytes v.2
theorem vcC_len {v : Int × Bs} (h : VcOk v) : (vcC v).length = 65 := by rw [List.length_cons, List.length_map, h.sl]
theorem vcC_one (v : Int × Bs) : ∀ u ∈ vcC v, u.oneCell' = true := fun u hu => by
  rcases List.mem_cons.1 hu with rfl | hu
  · rfl
  · obtain ⟨x, _, rfl⟩ := List.mem_map.1 hu; rfl
theorem vsL_one (vs : List (Int × Bs)) : ∀ u ∈ vsL vs, u.oneCell' = true := fun u hu => by
  obtain ⟨v, _, hv⟩ := List.mem_flatMap.1 hu
  exact vcC_one v u hv
theorem vsL_append (a b : List (Int × Bs)) : vsL (a ++ b) = vsL a ++ vsL b := List.flatMap_append
theorem vsL_len {vs : List (Int × Bs)} (h : ∀ v ∈ vs, VcOk v) : (vsL vs).length = vs.length * 65 := by
  induction vs with
  | nil => rfl
  | cons v vs ih =>
    rw [vsL, List.flatMap_cons, List.length_append, vcC_len (h v (by simp)), show (List.flatMap vcC vs).length = vs.length * 65 from ih (fun y hy => h y (by simp [hy])), List.length_cons, Nat.add_mul]
    omega
theorem info105 : (Tryz.prog.info? 105).map (fun i => (i.zero.map (·.cells.size), i.size, i.bytes)) = some (some 65, 65, 65) := by kernel_rfl
theorem info105_parts : ∃ i z, Tryz.prog.info? 105 = some i ∧ i.zero = some z ∧ z.cells.size = 65 ∧ i.size = 65 ∧ i.bytes = 65 := by
  have h := info105
  cases hi : Tryz.prog.info? 105 with
  | none => rw [hi] at h; cases h
  | some i =>
    rw [hi] at h
    simp only [Option.map_some, Option.some.injEq, Prod.mk.injEq] at h
    obtain ⟨h1, h2, h3⟩ := h
    cases hz : i.zero with
    | none => rw [hz] at h1; cases h1
    | some z =>
      rw [hz] at h1
      simp only [Option.map_some, Option.some.injEq] at h1
      exact ⟨i, z, rfl, hz, h1, h2, h3⟩
section
variable {sz : Nat} {w w' w0 : World} {L : List (Nat × Obj)} {p : Option Addr} {n c e : Nat} {vs : List Value}
theorem Lg.fr0 (h : Lg sz w p n c vs) (F : Fr [] w w') : Lg sz w' p n c vs := h.imp id fun ⟨a, h1, h2⟩ => ⟨a, h1, h2.fr F (by simp)⟩
theorem Lg.sv (h : Lg sz w p n c vs) : Sv sz w p n c vs := by
  rcases h with ⟨rfl, rfl, rfl, rfl⟩ | ⟨a, rfl, S⟩
  · exact ⟨by simp, Nat.le_refl _, .inl rfl, fun _ => rfl, by simp⟩
  · exact S
theorem lgOfSv (S : Sv sz w p n c vs) : Lg sz w p n c vs := by
  cases p with
  | some a => exact .inr ⟨a, rfl, S⟩
  | none =>
    have h1 := S.nil rfl
    have h2 := S.cap_
    have h3 := S.len
    have h4 : n = 0 := by omega
    subst h4
    exact .inl ⟨rfl, rfl, h1, List.eq_nil_of_length_eq_zero (by omega)⟩
theorem BldV.lg (B : BldV w0 L e sz w p n c vs) : Lg sz w p n c vs := lgOfSv B.sv
end
section
variable {w0 w : World} {L : List (Nat × Obj)} {p : Option Addr} {n cap : Nat} {vs : List Value} {ops : Array Oper} {rest : List Oper} {o : Oper} {a : Act} {Q : Exit → Act → World → Prop}
/-- []api.Vouch: append of a slice. -/
theorem wpList_app46 (hgd : o.guard = none) (s x : Operand) (ho : o.op = .call { callee := .builtin .append, args := #[s, x], argTypes := #[46, 46] })
    (hs : a.eval s = .slice p n cap) (B : BldV w0 L 105 65 w p n cap vs) {q : Option Addr} {m c : Nat} {us : List Value} (hx : a.eval x = .slice q m c) (S : Sv 65 w q m c us) (h1 : ∀ u ∈ us, u.oneCell' = true) (hbig : n + m ≤ 1000000)
    (h : ∀ p' cap' w', BldV w0 L 105 65 w' p' (n + m) cap' (vs ++ us) → Fr (p.map (·.block)).toList w w' → wpList Tryz.prog ops Q rest (a.put o.dst (.slice p' (n + m) cap')) w') : wpList Tryz.prog ops Q (o :: rest) a w := by
  obtain ⟨i, z, hi, hz, hzs, hs1, hb1⟩ := info105_parts
  exact wpList_apdV2 hgd s x 46 46 ho Tryz.underlying46 hi hz hs1 (by omega) hb1 hzs hs B hx (Apd.ofSrc Tryz.underlying46 hi hz (by rw [hs1]; exact S.src Tryz.underlying46 h1)) (by omega) (by omega) fun p' cap' w' B' _ F => h p' cap' w' B' F
end
section
variable {w : World}
set_option maxRecDepth 100000 in
set_option maxHeartbeats 2000000 in
theorem vclone_s {a : Addr} {n cap : Nat} {vs : List Value} (S : Sv 65 w (some a) n cap vs) (h1 : ∀ u ∈ vs, u.oneCell' = true) (hn : n ≤ 100000) :
    Calls Tryz.prog 43 #[.slice (some a) n cap] w fun e w' => ∃ q c, e = .returned (.slice q n c) ∧ BldV w [] 105 65 w' q n c vs := by
  have HS := Lib.hid S
  have H1 := Lib.hid h1
  have hq : (binOp .eql 46 (.slice (some a) n cap) (.slice none 0 0)).run Tryz.prog w = .ok (.bool false) w := by
    exact Lib.run_eql_slice_nil w 46 105 (some a) n cap 0 0 Tryz.underlying46
  clear S h1
  go_enter Tryz.func43, Tryz.ntmps43
  have hO : OwB w [(w.heap.size, .cells #[] 105)] (w.alloc (.cells #[] 105)) := (OwB.start w).alloc _
  have B : BldV w [] 105 65 (w.alloc (.cells #[] 105)) (some ⟨w.heap.size, 0, none⟩) 0 0 [] := BldV.of (r := #[]) hO rfl rfl (Nat.le_refl 0) (by simp [maxLen])
  have HB := Lib.hid B
  clear hO B
  go_wp2_with (refine wpList_app46 rfl _ _ rfl rfl HB.out rfl (HS.out.fr0 HB.out.own.fr) H1.out (by omega) ?_)
  intro q c W B2 _
  have HB2 := Lib.hid B2
  clear B2
  go_wp2_with fail
  exact bodyPost_ret (results_tmp rfl _ _ _) rfl ⟨q, c, rfl, HB2.out⟩
theorem vclone_f {p : Option Addr} {n cap : Nat} {vs : List Value} (h : Lg 65 w p n cap vs) (h1 : ∀ u ∈ vs, u.oneCell' = true) (hn : n ≤ 100000) :
    Calls Tryz.prog 43 #[.slice p n cap] w fun e w' => ∃ q c, e = .returned (.slice q n c) ∧ BldV w [] 105 65 w' q n c vs := by
  rcases h with ⟨rfl, rfl, rfl, rfl⟩ | ⟨a, rfl, S⟩
  · exact clone0_f.mono fun e w' ⟨h1, h2⟩ => ⟨none, 0, h1, BldV.nil ((OwB.start w).call h2)⟩
  · exact vclone_s S h1 hn
end
/-- A slice of structs; or an empty one that points wherever. -/
def Lw (sz : Nat) (w : World) (p : Option Addr) (n cap : Nat) (vs : List Value) : Prop := Lg sz w p n cap vs ∨ (n = 0 ∧ vs = [] ∧ ∃ a, p = some a)
section
variable {sz : Nat} {w w' : World} {p : Option Addr} {n cap : Nat} {vs : List Value}
theorem Lg.lw (h : Lg sz w p n cap vs) : Lw sz w p n cap vs := .inl h
theorem Lw.fr0 (h : Lw sz w p n cap vs) (F : Fr [] w w') : Lw sz w' p n cap vs := h.imp (fun h => h.fr0 F) id
theorem Lw.sv (h : Lw sz w p n cap vs) (hn : 0 < n) : Sv sz w p n cap vs := by
  rcases h with h | ⟨h, _⟩
  · exact h.sv
  · omega
theorem Lw.src {P : Program} {t e' : TypeId} (h : Lw sz w p n cap vs) (hk : P.underlying t = some (.slice e')) (h1 : ∀ u ∈ vs, u.oneCell' = true) : Src P sz t (.slice p n cap) n vs w := by
  rcases h with h | ⟨rfl, rfl, a, rfl⟩
  · exact h.sv.src hk h1
  · exact Src.ofSlice w hk a 0 cap [] (by simp) (by simp) (by simp)
end
section
variable {w0 w : World} {L : List (Nat × Obj)} {p : Option Addr} {n cap : Nat} {vs : List Value} {ops : Array Oper} {rest : List Oper} {o : Oper} {a : Act} {Q : Exit → Act → World → Prop}
/-- []api.Vouch: append of a slice. -/
theorem wpList_app46w (hgd : o.guard = none) (s x : Operand) (ho : o.op = .call { callee := .builtin .append, args := #[s, x], argTypes := #[46, 46] })
    (hs : a.eval s = .slice p n cap) (B : BldV w0 L 105 65 w p n cap vs) {q : Option Addr} {m c : Nat} {us : List Value} (hx : a.eval x = .slice q m c) (S : Lw 65 w q m c us) (h1 : ∀ u ∈ us, u.oneCell' = true) (hbig : n + m ≤ 1000000)
    (h : ∀ p' cap' w', BldV w0 L 105 65 w' p' (n + m) cap' (vs ++ us) → Fr (p.map (·.block)).toList w w' → wpList Tryz.prog ops Q rest (a.put o.dst (.slice p' (n + m) cap')) w') : wpList Tryz.prog ops Q (o :: rest) a w := by
  obtain ⟨i, z, hi, hz, hzs, hs1, hb1⟩ := info105_parts
  exact wpList_apdV2 hgd s x 46 46 ho Tryz.underlying46 hi hz hs1 (by omega) hb1 hzs hs B hx (Apd.ofSrc Tryz.underlying46 hi hz (by rw [hs1]; exact S.src Tryz.underlying46 h1)) (by omega) (by omega) fun p' cap' w' B' _ F => h p' cap' w' B' F
end
section
variable {w : World}
set_option maxRecDepth 100000 in
set_option maxHeartbeats 2000000 in
theorem vclone_e {a : Addr} {n cap : Nat} {vs : List Value} (S : Lw 65 w (some a) n cap vs) (h1 : ∀ u ∈ vs, u.oneCell' = true) (hn : n ≤ 100000) :
    Calls Tryz.prog 43 #[.slice (some a) n cap] w fun e w' => ∃ q c, e = .returned (.slice q n c) ∧ BldV w [] 105 65 w' q n c vs := by
  have HS := Lib.hid S
  have H1 := Lib.hid h1
  have hq : (binOp .eql 46 (.slice (some a) n cap) (.slice none 0 0)).run Tryz.prog w = .ok (.bool false) w := by
    exact Lib.run_eql_slice_nil w 46 105 (some a) n cap 0 0 Tryz.underlying46
  clear S h1
  go_enter Tryz.func43, Tryz.ntmps43
  have hO : OwB w [(w.heap.size, .cells #[] 105)] (w.alloc (.cells #[] 105)) := (OwB.start w).alloc _
  have B : BldV w [] 105 65 (w.alloc (.cells #[] 105)) (some ⟨w.heap.size, 0, none⟩) 0 0 [] := BldV.of (r := #[]) hO rfl rfl (Nat.le_refl 0) (by simp [maxLen])
  have HB := Lib.hid B
  clear hO B
  go_wp2_with (refine wpList_app46w rfl _ _ rfl rfl HB.out rfl (HS.out.fr0 HB.out.own.fr) H1.out (by omega) ?_)
  intro q c W B2 _
  have HB2 := Lib.hid B2
  clear B2
  go_wp2_with fail
  exact bodyPost_ret (results_tmp rfl _ _ _) rfl ⟨q, c, rfl, HB2.out⟩
theorem vclone_w {p : Option Addr} {n cap : Nat} {vs : List Value} (h : Lw 65 w p n cap vs) (h1 : ∀ u ∈ vs, u.oneCell' = true) (hn : n ≤ 100000) :
    Calls Tryz.prog 43 #[.slice p n cap] w fun e w' => ∃ q c, e = .returned (.slice q n c) ∧ BldV w [] 105 65 w' q n c vs := by
  cases p with
  | none =>
    rcases h with h | ⟨_, _, a, e⟩
    · exact vclone_f h h1 hn
    · cases e
  | some a => exact vclone_e h h1 hn
end
end Go.Proofs.YtbhnfohoclcjdaaGreat
namespace Go.Proofs.YtbhnfohoclcjdaaGreat
open Go.RowKit Go.Dr Go.Kd
/-- A row of vouches in a block of their own type. -/
structure Vr (w : World) (p : Option Addr) (n c : Nat) (vs : List Value) : Prop where
  lg : Lg 65 w p n c vs
  ty : ∀ g, p.map (·.block) = some g → ∃ cs fr, w.blk g = some (.cells cs 105 fr)
section
variable {t : TTy} {lo : Nat} {w w' w0 : World} {L : List (Nat × Obj)} {p : Option Addr} {n c : Nat} {vs : List Value}
theorem Sv.keep {sz : Nat} (S : Sv sz w p n c vs) (h : ∀ g o, p.map (·.block) = some g → w.blk g = some o → w'.blk g = some o) : Sv sz w' p n c vs := by
  refine ⟨S.len, S.cap_, ?_, S.nil, S.mid⟩
  rcases S.row with h0 | ⟨b, off, cs, T, fr, rfl, hb, hs, hl⟩
  · exact .inl h0
  · exact .inr ⟨b, off, cs, T, fr, rfl, h b _ rfl hb, hs, hl⟩
theorem Vr.keep (h : Vr w p n c vs) (k : ∀ g cs fr, w.blk g = some (.cells cs 105 fr) → w'.blk g = some (.cells cs 105 fr)) : Vr w' p n c vs := by
  refine ⟨?_, fun g hg => by obtain ⟨cs, fr, e⟩ := h.ty g hg; exact ⟨cs, fr, k _ _ _ e⟩⟩
  rcases h.lg with h1 | ⟨a, rfl, S⟩
  · exact .inl h1
  · exact .inr ⟨a, rfl, Sv.keep S fun g o hg ho => by
      obtain ⟨cs, fr, e⟩ := h.ty g hg
      rw [ho] at e
      cases e
      exact k _ _ _ ho⟩
theorem Vr.frT (h : Vr w p n c vs) (F : FrT t lo w w') (h1 : (105 : TypeId) ≠ t.tT) (h2 : (105 : TypeId) ≠ t.lT) : Vr w' p n c vs := h.keep fun g cs fr e => F.get e (.inr ⟨h1, h2⟩)
theorem Vr.fr0 (h : Vr w p n c vs) (F : Fr [] w w') : Vr w' p n c vs := h.keep fun g cs fr e => F.get e (by simp)
theorem Vr.put (h : Vr w p n c vs) {b : Nat} {cs : Array Value} {T : TypeId} {fr : Nat × Nat} (hb : w.blk b = some (.cells cs T fr)) (hT : T ≠ 105) (o : Obj) : Vr (w.put b o) p n c vs := h.keep fun g cs2 fr2 e => by
  have hne : g ≠ b := fun e2 => by
    subst e2
    rw [hb] at e
    cases e
    exact hT rfl
  rw [World.at_put_other _ _ _ _ hne.symm]
  exact e
theorem Vr.drew (h : Vr w p n c vs) : Vr w.drew p n c vs := h.keep fun g cs fr e => e
theorem Vr.ofBld (B : BldV w0 L 105 65 w p n c vs) : Vr w p n c vs := ⟨BldV.lg B, fun g hg => B.block hg⟩
end
/-- A row that a call leaves alone. -/
structure ObK (x : Ob) : Prop where
  s0 : 0 ≤ x.server
  s1 : x.server < 256
  n0 : 0 ≤ x.n
  n1 : x.n < 256
  f0 : 0 ≤ x.frm
  f1 : x.frm < 4294967296
  t0 : 0 ≤ x.til
  t1 : x.til < 4294967296
  kl : x.key.length = 32
  sl : x.sig.length = 64
  kb : isBytes x.key
  sb : isBytes x.sig
/-- An object, its vouches in a slice. -/
abbrev oC (x : Ob) (v : Value) : Array Value := (cObject (.int .u8 x.server) (.int .u8 x.n) x.key (.int .u32 x.frm) (.int .u32 x.til) x.sig v).toArray
theorem objText_vs (x : Ob) (l : List (Int × Bs)) : objText { x with vs := l } = objText x := rfl
section
variable {w : World}
theorem otext_v {x : Ob} {v : Value} (h : ObK x) (hv : v.oneCell' = true) : Calls Tryz.prog 44 #[.agg (oC x v)] w fun e w' => ∃ q m c, e = .returned (.slice q m c) ∧ Bld w [] .u8 5 w' q m c (objText x) := by
  obtain ⟨server, n, key, frm, til, sig, vs⟩ := x
  obtain ⟨s0, s1, n0, n1, f0, f1, t0, t1, kl, sl, kb, sb⟩ := h
  simp only at *
  obtain ⟨s, rfl⟩ := Int.eq_ofNat_of_zero_le s0
  obtain ⟨m, rfl⟩ := Int.eq_ofNat_of_zero_le n0
  obtain ⟨f, rfl⟩ := Int.eq_ofNat_of_zero_le f0
  obtain ⟨t, rfl⟩ := Int.eq_ofNat_of_zero_le t0
  exact otext_f (by omega) (by omega) (by omega) (by omega) kl sl hv
theorem ObK.ok {x : Ob} (h : ObK x) : ObOk { x with vs := [] } := ⟨h.s0, h.s1, h.n0, h.n1, h.f0, h.f1, h.t0, h.t1, h.kl, h.sl, h.kb, h.sb, rfl⟩
theorem isBytes_objK {x : Ob} (h : ObK x) : isBytes (objText x) := (isBytes_obj h.ok : isBytes (objText { x with vs := [] }))
set_option maxRecDepth 100000 in
set_option maxHeartbeats 2000000 in
theorem ksign_v {lo tb : Nat} {T : List Tm} {k : List Int} {x : Ob} {p : Option Addr} {n cap : Nat} {vs : List Value} (h : TabP lo tb w T) (hk : k.length = 32) (hb : isBytes k) (hx : ObK x) (hv : Lw 65 w p n cap vs) (hv1 : ∀ u ∈ vs, u.oneCell' = true) (hn : n ≤ 100000) :
    Calls Tryz.prog 14 #[SU tb, .agg (ints .u8 k), .agg (oC x (.slice p n cap))] w fun e w' => ∃ q c, e = .returned (.agg (oC { x with sig := (signF T k (objText x)).2 } (.slice q n c))) ∧ Vr w' q n c vs ∧ TabP lo tb w' (signF T k (objText x)).1 ∧ FrP lo w w' := by
  have H := Lib.hid h
  have HB := Lib.hid hb
  obtain ⟨xs, hxs⟩ : ∃ xs, xs = oC x (.slice p n cap) := ⟨_, rfl⟩
  have hsz : xs.size = 101 := by rw [hxs, List.size_toArray, cObject_length _ _ _ _ _ _ _ hx.kl hx.sl]
  have x6 : xs[100]? = some (.slice p n cap) := by rw [hxs]; exact cObject_get_vs _ _ _ _ _ _ _ hx.kl hx.sl
  replace x6 := (Array.getElem?_eq_some_iff.1 x6).2
  have xset : ∀ v : Value, xs.setIfInBounds 100 v = oC x v := fun v => by rw [hxs]; exact cObject_set_vs _ _ _ _ _ _ _ _ hx.kl hx.sl
  have xall : xs.extract 0 101 = xs := by rw [← hsz]; exact Array.extract_size
  rw [← hxs]
  have c1 : ∀ (v : Value), v.oneCell' = true → ∀ W : World, Calls Tryz.prog 44 #[.agg (oC x v)] W fun e w' => ∃ q m c, e = .returned (.slice q m c) ∧ Bld W [] .u8 5 w' q m c (objText x) := fun v hv W => otext_v hx hv
  have C1 := Lib.hid c1
  clear c1
  have HX := Lib.hid hxs
  have HO := Lib.hid hx
  have HV := Lib.hid hv
  have HV1' := Lib.hid hv1
  have Xset := Lib.hid xset
  clear h hb hxs hx hv hv1 xset
  go_enter Tryz.func14, Tryz.ntmps14
  go_wp2_with fail
  have hz : Tryz.zeroCells48.size = 101 := by kernel_rfl
  refine named_world (A := fun X => OwB w [(w.heap.size + 1 + 1 + 1, .cells Tryz.zeroCells48 48), (w.heap.size + 1 + 1, .cells xs 48), (w.heap.size + 1, .cells (ints .u8 k) 34), (w.heap.size, .cells #[.pointer (some ⟨tb, 0, none⟩)] 27)] X) (Q := fun X => Calls Tryz.prog 43 _ X _) (((((OwB.start w).allocN _ w.heap.size rfl).allocN _ (w.heap.size + 1) (by simp)).allocN _ (w.heap.size + 1 + 1) (by simp)).allocN _ (w.heap.size + 1 + 1 + 1) (by simp)) ?_
  intro V hV
  generalize w.heap.size + 1 + 1 + 1 = b6 at hV ⊢
  generalize w.heap.size + 1 + 1 = b5 at hV ⊢
  generalize w.heap.size + 1 = b4 at hV ⊢
  generalize w.heap.size = b3 at hV ⊢
  refine (vclone_w (HV.out.fr0 hV.fr) HV1'.out hn).mono ?_
  rintro e V1 ⟨q0, c0, rfl, B1⟩
  have hV1 := hV.call B1.own.fr
  have HR := Lib.hid (Vr.ofBld B1)
  clear hV B1
  have f5 := hV1.nth 1 rfl
  have t5 := World.at_lt f5
  have HV1 := Lib.hid hV1
  clear hV1
  have hsz0 : (oC x (.slice q0 n c0)).size = 101 := by rw [List.size_toArray, cObject_length _ _ _ _ _ _ _ HO.out.kl HO.out.sl]
  obtain ⟨ys0, hy0⟩ : ∃ ys0, ys0 = oC x (.slice q0 n c0) := ⟨_, rfl⟩
  rw [← hy0] at hsz0
  replace xset := (Xset.out (.slice q0 n c0)).trans hy0.symm
  have HY0 := Lib.hid hy0
  have yall0 : ys0.extract 0 101 = ys0 := by rw [← hsz0]; exact Array.extract_size
  have c1 : ∀ W : World, Calls Tryz.prog 44 #[.agg ys0] W fun e w' => ∃ q m c, e = .returned (.slice q m c) ∧ Bld W [] .u8 5 w' q m c (objText x) := fun W => by rw [hy0]; exact C1.out _ rfl W
  have C2 := Lib.hid c1
  clear c1 hy0
  go_upto_region 2 with (fail)
  refine named_world (A := fun X => OwB w [(b6, .cells Tryz.zeroCells48 48), (b5, .cells ys0 48), (b4, .cells (ints .u8 k) 34), (b3, .cells #[.pointer (some ⟨tb, 0, none⟩)] 27)] X ∧ Vr X q0 n c0 vs) (Q := fun X => Code.wp _ _ _ _ X) ⟨HV1.out.set 1 _ rfl, HR.out.put f5 (by decide) _⟩ ?_
  clear f5 t5 HV1 HR
  rintro U ⟨hU, hR⟩
  have HR := Lib.hid hR
  clear hR
  have f5 := hU.nth 1 rfl
  have f4 := hU.nth 2 rfl
  have f3 := hU.nth 3 rfl
  have t5 := World.at_lt f5
  have t4 := World.at_lt f4
  have t3 := World.at_lt f3
  have HU := Lib.hid hU
  clear hU
  refine drawn_begin 5 (fun w' => w'.blk b3 = some (.cells #[.pointer (some ⟨tb, 0, none⟩)] 27) ∧ w'.blk b4 = some (.cells (ints .u8 k) 34) ∧ w'.blk b5 = some (.cells ys0 48)) (by kernel_rfl) ?_
  refine drawn_reads (fuel := 4) [0, 1, 2] rfl (by kernel_rfl) ⟨f3, f4, f5⟩ ?_
  repeat (first | (refine rowK_step2 rfl rfl (fun K hK => ?_); go_wp2) | (refine rowK_step rfl (fun K hK => ?_); go_simp; refine hK _ ?_; clear hK K))
  refine rowK_nil ⟨fun w' e1 => ?_, ?_⟩
  · obtain ⟨e1, e2, e3⟩ := e1
    clear f3 f4 f5
    repeat (first | (refine rowWp_step2 rfl rfl (fun K hK => ?_); go_wp2) | (refine rowWp_step rfl (fun K hK => ?_); go_simp; refine hK _ ?_; clear hK K))
    exact rowWp_nil rfl
  refine drawn_next 3 (fuel := 3) rfl (by kernel_rfl) ?_
  intro K hK
  go_wp2_with fail
  refine (C2.out _).mono ?_
  rintro e U1 ⟨q, m, c, rfl, hB⟩
  have hU1 := HU.out.drew.call hB.own.fr
  have hBf := hB.own.fr
  clear f3 f4 f5 t3 t4 t5
  have f5 := hU1.nth 1 rfl
  have f4 := hU1.nth 2 rfl
  have f3 := hU1.nth 3 rfl
  have t5 := World.at_lt f5
  have t4 := World.at_lt f4
  have t3 := World.at_lt f3
  have HU1 := Lib.hid hU1
  have HBt := Lib.hid hB
  clear hU1 hB
  go_wp2_with fail
  refine ⟨⟨f3, f4, f5⟩, ?_⟩
  refine drawn_next 4 (fuel := 2) rfl (by kernel_rfl) ?_
  intro K hK
  go_wp2_with fail
  refine (sign_f (H.out.fr0 HU1.out.fr) hk HB.out HBt.out.sl (isBytes_objK HO.out)).mono ?_
  rintro e U2 ⟨rfl, hT, F⟩
  have l6 := HU1.out.low 0 rfl
  have l5 := HU1.out.low 1 rfl
  have n65 := HU1.out.ne 0 1 rfl rfl (by decide)
  have n56 := n65.symm
  have FF := (FrT.of (t := TT) (lo := lo) HU1.out.fr).trans F
  have f6 := F.get (HU1.out.nth 0 rfl) (.inr ⟨by decide, by decide⟩)
  replace f5 := F.get f5 (.inr ⟨by decide, by decide⟩)
  replace f4 := F.get f4 (.inr ⟨by decide, by decide⟩)
  replace f3 := F.get f3 (.inr ⟨by decide, by decide⟩)
  clear t3 t4 t5
  have t6 := World.at_lt f6
  have t5 := World.at_lt f5
  have HT := Lib.hid hT
  have HF := Lib.hid FF
  have hsl := signF_len T k (objText x)
  obtain ⟨s2, hs2⟩ : ∃ s2, s2 = (signF T k (objText x)).2 := ⟨_, rfl⟩
  rw [← hs2] at hsl ⊢
  have HS2 := Lib.hid hs2
  have HR3 := Lib.hid (((HR.out.drew).fr0 hBf).frT F (by decide) (by decide))
  obtain ⟨ys, hys⟩ : ∃ ys, ys = oC { x with sig := s2 } (.slice q0 n c0) := ⟨_, rfl⟩
  have xspl : spl ys0 36 (s2.map (Value.int .u8)) = ys := by rw [HY0.out, hys]; exact cObject_spl_sig _ _ _ _ _ _ _ _ HO.out.kl HO.out.sl hsl
  have hszy : ys.size = 101 := by rw [hys, List.size_toArray, cObject_length _ _ _ _ _ _ _ HO.out.kl hsl]
  have yall : ys.extract 0 101 = ys := by rw [← hszy]; exact Array.extract_size
  have yones : ones ys.toList = true := by rw [hys]; exact List.all_eq_true.2 (cObject_one _ _ _ _ _ _ _ rfl rfl rfl rfl rfl)
  have HY := Lib.hid hys
  clear hT F FF hs2 hys
  go_wp2_with fail
  refine ⟨⟨f3, f4, f5⟩, ?_⟩
  refine drawn_end rfl (by kernel_rfl) ?_
  intro K hK
  go_wp2_with fail
  refine ret_cell rfl rfl rfl ?_
  go_simp
  exact ⟨by kernel_rfl, q0, c0, by rw [HY.out, HS2.out], ((HR3.out.put f5 (by decide) _).put (by rw [World.at_put_other _ _ _ _ n56]; exact f6) (by decide) _), (HT.out.put f5 (by decide) _).put (by rw [World.at_put_other _ _ _ _ n56]; exact f6) (by decide) _, (HF.out.put _ l5).put _ l6⟩
end
end Go.Proofs.YtbhnfohoclcjdaaGreat
