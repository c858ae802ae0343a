/- Joined: KdU, KdV, KeA, KeB, KeC. -/
import Derived.Test.YtbhnfohoclcjdaaGreatZi
set_option linter.unusedVariables false
set_option linter.unusedSimpArgs false
namespace Go
section
variable {P : Program} {fn : Func} {R : Ending → World → Prop} {a : Act} {w : World}
theorem ret_cell2_tmp {p q ty tz b c u : Nat} (h : fn.results = #[.cell p ty, .cell q tz, .tmp u]) (hp : a.tmps.getD p undef = .pointer (some ⟨b, 0, none⟩)) (hq : a.tmps.getD q undef = .pointer (some ⟨c, 0, none⟩)) (hd : a.defers = [])
    (hR : cellRet P ty (w.blk b) (fun v => cellRet P tz (w.blk c) (fun x => R (.returned (.tuple #[v, x, a.tmps.getD u undef])) w))) : bodyPost P fn R .ret a w := by
  unfold cellRet at hR
  split at hR
  · rename_i cs T fr hb
    obtain ⟨h1, hR⟩ := hR
    split at hR
    · rename_i ds T2 fr2 hc
      refine bodyPost_ret (v := .tuple #[.agg cs, .agg ds, a.tmps.getD u undef]) ?_ hd hR.2
      have hp' : a.tmps[p]?.getD undef = .pointer (some ⟨b, 0, none⟩) := by simpa using hp
      have hq' : a.tmps[q]?.getD undef = .pointer (some ⟨c, 0, none⟩) := by simpa using hq
      simp [results, h, hp', hq', asAddr, run_loadVar_agg hb h1, run_loadVar_agg hc hR.1]
    · exact hR.elim
  · exact hR.elim
end
end Go
namespace Go.Proofs.YtbhnfohoclcjdaaGreat
open Go.RowKit Go.Dr Go.Kd
theorem info59 : (Tryz.prog.info? 65).map (fun i => (i.zero.map (·.cells.size), i.size, i.bytes)) = some (some 162, 162, 164) := by kernel_rfl
theorem info59_parts : ∃ i z, Tryz.prog.info? 65 = some i ∧ i.zero = some z ∧ z.cells.size = 162 ∧ i.size = 162 ∧ i.bytes = 164 := by
  have h := info59
  cases hi : Tryz.prog.info? 65 with
  | none => rw [hi] at h; cases h
  | some i =>
    rw [hi] at h
    simp only [Option.map_some, Option.some.injEq, Prod.mk.injEq] at h
    cases hz : i.zero with
    | none => rw [hz] at h; cases h.1
    | some z =>
      rw [hz] at h
      simp only [Option.map_some, Option.some.injEq] at h
      exact ⟨i, z, rfl, hz, h.1, h.2.1, h.2.2⟩
section
variable {w0 w : World} {L : List (Nat × Obj)} {p : Option Addr} {n cap : Nat} {vs : List Value} {ops : Array Oper} {rest : List Oper} {o : Oper} {a : Act} {Q : Exit → Act → World → Prop}
/-- []api.Bundle: append of a slice. -/
theorem wpList_app60 (hgd : o.guard = none) (s x : Operand) (ho : o.op = .call { callee := .builtin .append, args := #[s, x], argTypes := #[66, 66] })
    (hs : a.eval s = .slice p n cap) (B : BldV w0 L 65 162 w p n cap vs) {q : Option Addr} {m c : Nat} {us : List Value} (hx : a.eval x = .slice q m c) (S : Sv 162 w q m c us) (h1 : ∀ u ∈ us, u.oneCell' = true) (hbig : n + m ≤ 1000000)
    (h : ∀ p' cap' w', BldV w0 L 65 162 w' p' (n + m) cap' (vs ++ us) → wpList Tryz.prog ops Q rest (a.put o.dst (.slice p' (n + m) cap')) w') : wpList Tryz.prog ops Q (o :: rest) a w := by
  obtain ⟨i, z, hi, hz, hzs, hs1, hb1⟩ := info59_parts
  exact wpList_apdV hgd s x 66 66 ho Tryz.underlying66 hi hz hs1 (by omega) hb1 hzs hs B hx (Apd.ofSrc Tryz.underlying66 hi hz (by rw [hs1]; exact S.src Tryz.underlying66 h1)) (by omega) (by omega) h
end
/-- All but the first. -/
theorem sv_rest {sz : Nat} {w : World} {g m c : Nat} {u us : List Value} (S : Sv sz w (some ⟨g, 0, none⟩) m c (u ++ us)) (hu : u.length = sz) (hm : 0 < m) : Sv sz w (if c = 1 then some ⟨g, 0, none⟩ else some ⟨g, sz, none⟩) (m - 1) (c - 1) us := by
  have hl := S.len
  have hc := S.cap_
  have hsm : sz ≤ m * sz := Nat.le_mul_of_pos_left _ hm
  have hl2 : us.length = (m - 1) * sz := by rw [List.length_append] at hl; rw [Nat.sub_mul]; omega
  refine ⟨hl2, by omega, ?_, ?_, ?_⟩
  · rcases Nat.eq_zero_or_pos (m - 1) with h0 | h0
    · exact .inl h0
    · rcases S.row with h | ⟨b, off, cs, T, fr, hp, hb, hs, hx⟩
      · omega
      · simp only [Option.some.injEq, Addr.mk.injEq, and_true] at hp
        obtain ⟨rfl, rfl⟩ := hp
        refine .inr ⟨g, sz, cs, T, fr, by rw [if_neg (by omega)], hb, ?_, ?_⟩
        · rw [Nat.sub_mul]; omega
        · have e : (cs.extract sz (sz + (m - 1) * sz)).toList = ((cs.extract 0 (0 + m * sz)).toList).drop sz := by
            simp only [Array.toList_extract, List.extract_eq_take_drop, Nat.zero_add, List.drop_zero, Nat.sub_zero]
            rw [List.drop_take]
            congr 1
            rw [Nat.sub_mul]; omega
          rw [e, hx, ← hu, List.drop_left]
  · intro h; split at h <;> cases h
  · intro a ha
    split at ha
    · exact ⟨g, 0, by simpa using ha.symm⟩
    · exact ⟨g, sz, by simpa using ha.symm⟩
section
variable {w : World}
set_option maxRecDepth 100000 in
set_option maxHeartbeats 2000000 in
theorem bclone_f {a : Addr} {n cap : Nat} {vs : List Value} (S : Sv 162 w (some a) n cap vs) (h1 : ∀ u ∈ vs, u.oneCell' = true) (hn : n ≤ 100000) :
    Calls Tryz.prog 60 #[.slice (some a) n cap] w fun e w' => ∃ q c, e = .returned (.slice q n c) ∧ BldV w [] 65 162 w' q n c vs := by
  have HS := Lib.hid S
  have H1 := Lib.hid h1
  have hq : (binOp .eql 66 (.slice (some a) n cap) (.slice none 0 0)).run Tryz.prog w = .ok (.bool false) w := by
    exact Lib.run_eql_slice_nil w 66 65 (some a) n cap 0 0 Tryz.underlying66
  clear S h1
  go_enter Tryz.func60, Tryz.ntmps60
  have hO : OwB w [(w.heap.size, .cells #[] 65)] (w.alloc (.cells #[] 65)) := (OwB.start w).alloc _
  have B : BldV w [] 65 162 (w.alloc (.cells #[] 65)) (some ⟨w.heap.size, 0, none⟩) 0 0 [] := BldV.of (r := #[]) hO rfl rfl (Nat.le_refl 0) (by simp [maxLen])
  have HB := Lib.hid B
  clear hO B
  go_wp2_with (refine wpList_app60 rfl _ _ rfl rfl HB.out rfl (HS.out.fr0 HB.out.own.fr) H1.out (by omega) ?_)
  intro q c W B2
  have HB2 := Lib.hid B2
  clear B2
  go_wp2_with fail
  exact bodyPost_ret (results_tmp rfl _ _ _) rfl ⟨q, c, rfl, HB2.out⟩
set_option maxRecDepth 100000 in
set_option maxHeartbeats 2000000 in
/-- The first of those that are left. -/
theorem claim_f {has last : Value} {fall u : List Value} {us : List Value} {a : Addr} {n cap : Nat} (hf : fall.length = 162) (hfo : ∀ v ∈ fall, v.oneCell' = true) (ho : has.oneCell' = true) (hl : last.oneCell' = true) (S : Sv 162 w (some a) (n + 1) cap (u ++ us)) (hu : u.length = 162) (h1 : ∀ v ∈ u ++ us, v.oneCell' = true) (hn : n ≤ 1000) :
    Calls Tryz.prog 31 #[.agg (cShelf has fall (.slice (some a) (n + 1) cap) last).toArray] w fun e w' => ∃ q c, e = .returned (.tuple #[.agg (cShelf has fall (.slice q n c) last).toArray, .agg u.toArray, .bool true]) ∧ Sv 162 w' q n c us ∧ Fr [] w w' := by
  obtain ⟨m, hm⟩ : ∃ m, m = n + 1 := ⟨_, rfl⟩
  rw [← hm] at S ⊢
  obtain ⟨xs, hxs⟩ : ∃ xs, xs = (cShelf has fall (.slice (some a) m cap) last).toArray := ⟨_, rfl⟩
  have hsz : xs.size = 165 := by rw [hxs, List.size_toArray, cShelf_length _ _ _ _ hf]
  have x1 : xs[163]? = some (.slice (some a) m cap) := by rw [hxs]; exact cShelf_get_left _ _ _ _ hf
  replace x1 := (Array.getElem?_eq_some_iff.1 x1).2
  have HXS := Lib.hid hxs
  rw [← hxs]
  have HS := Lib.hid S
  have H1 := Lib.hid h1
  have HM := Lib.hid hm
  have hm0 : decide ((m : Int) > 0) = true := by rw [decide_eq_true_eq]; omega
  have hm1 : decide (0 < m) = true := by rw [decide_eq_true_eq]; omega
  clear hxs S h1 hm
  go_enter Tryz.func31, Tryz.ntmps31
  go_wp2_with fail
  refine named_world (A := fun X => OwB w [(w.heap.size + 1 + 1, .cells Tryz.zeroCells65 65), (w.heap.size + 1, .cells Tryz.zeroCells68 68), (w.heap.size, .cells xs 68)] X) (Q := fun X => Calls Tryz.prog 60 _ X _) ((((OwB.start w).allocN _ w.heap.size rfl).allocN _ (w.heap.size + 1) (by simp)).allocN _ (w.heap.size + 1 + 1) (by simp)) ?_
  intro V hV
  generalize w.heap.size + 1 + 1 = b3 at hV ⊢
  generalize w.heap.size + 1 = b2 at hV ⊢
  generalize w.heap.size = b1 at hV ⊢
  have HV := Lib.hid hV
  clear hV
  refine (bclone_f (HS.out.fr0 HV.out.fr) H1.out (by have := HM.out; omega)).mono ?_
  rintro e W ⟨q, c, rfl, B⟩
  obtain ⟨g, rfl⟩ := B.row.some_of (by have := HM.out; omega)
  have hSv := B.sv
  obtain ⟨r, hO, hcz, hnc, hcm⟩ := B.room
  have hgl := hO.low 0 rfl
  have hall := (HV.out.merge hO)
  have HO := Lib.hid (OwB.call HV.out B.own.fr)
  have hgb := hO.nth 0 rfl
  have hg1 : g ≠ b1 := by have := HV.out.lt 2 rfl; omega
  have hg2 : g ≠ b2 := by have := HV.out.lt 1 rfl; omega
  have hg3 : g ≠ b3 := by have := HV.out.lt 0 rfl; omega
  have f1 := HO.out.nth 2 rfl
  have f2 := HO.out.nth 1 rfl
  have f3 := HO.out.nth 0 rfl
  have n12 := HO.out.ne 2 1 rfl rfl (by decide)
  have n13 := HO.out.ne 2 0 rfl rfl (by decide)
  have n23 := HO.out.ne 1 0 rfl rfl (by decide)
  have n21 := n12.symm
  have n31 := n13.symm
  have n32 := n23.symm
  have hext : (rowV (u ++ us) r).extract 0 162 = u.toArray := by
    apply Array.ext'
    rw [rowV]
    simp [hu]
  have hrs : 162 ≤ (rowV (u ++ us) r).size := by rw [size_rowV, List.length_append]; omega
  have t1 := World.at_lt f1
  have t2 := World.at_lt f2
  have t3 := World.at_lt f3
  have tg := World.at_lt hgb
  generalize rowV (u ++ us) r = cs at hgb hext hrs
  obtain ⟨ys, hys⟩ : ∃ ys, ys = (cShelf has fall (.slice (some ⟨g, 0, none⟩) m c) last).toArray := ⟨_, rfl⟩
  have hszy : ys.size = 165 := by rw [hys, List.size_toArray, cShelf_length _ _ _ _ hf]
  have y1 : ys[163]? = some (.slice (some ⟨g, 0, none⟩) m c) := by rw [hys]; exact cShelf_get_left _ _ _ _ hf
  replace y1 := (Array.getElem?_eq_some_iff.1 y1).2
  have xset : xs.setIfInBounds 163 (.slice (some ⟨g, 0, none⟩) m c) = ys := by rw [HXS.out, hys]; exact cShelf_set_left _ _ _ _ _ hf
  have HYS := Lib.hid hys
  have HSv := Lib.hid hSv
  have hmc : m ≤ c := hnc
  clear hys hSv B hO hall hcz hnc hcm
  have usz : u.toArray.size = 162 := by simpa using hu
  have uone : ones u = true := List.all_eq_true.2 (fun v hv => H1.out v (by simp [hv]))
  have hg1' := hg1.symm
  have hm2 : 0 < m := by have := HM.out; omega
  obtain ⟨zs, hzs⟩ : ∃ zs, zs = (cShelf has fall (.slice (if c = 1 then some ⟨g, 0, none⟩ else some ⟨g, 162, none⟩) (m - 1) (c - 1)) last).toArray := ⟨_, rfl⟩
  have hszz : zs.size = 165 := by rw [hzs, List.size_toArray, cShelf_length _ _ _ _ hf]
  have zset : ys.setIfInBounds 163 (.slice (if c = 1 then some ⟨g, 0, none⟩ else some ⟨g, 162, none⟩) (m - 1) (c - 1)) = zs := by rw [HYS.out, hzs]; exact cShelf_set_left _ _ _ _ _ hf
  have zones : ones zs.toList = true := by rw [hzs]; exact List.all_eq_true.2 (cShelf_one _ _ _ _ ho hfo rfl hl)
  have HZS := Lib.hid hzs
  have hc1 : decide ((1 : Int) ≤ (m : Int)) = true := by rw [decide_eq_true_eq]; omega
  clear hzs
  go_upto_region 5 with (fail)
  have hz59 : Tryz.zeroCells65.size = 162 := by kernel_rfl
  have hz62 : Tryz.zeroCells68.size = 165 := by kernel_rfl
  have zall : zs.extract 0 165 = zs := by rw [← hszz]; exact Array.extract_size
  have uall : u.toArray.extract 0 162 = u.toArray := by
    apply Array.ext'
    simp
    rw [← hu]
    exact List.take_length
  generalize hqq : (if c = 1 then some (⟨g, 0, none⟩ : Addr) else some ⟨g, 162, none⟩) = qq at HZS ⊢
  have HQQ := Lib.hid hqq
  clear hqq zset
  refine named_world (A := fun X => OwB w [(W.heap.size, .cells u.toArray 65), (b3, .cells Tryz.zeroCells65 65), (b2, .cells Tryz.zeroCells68 68), (b1, .cells zs 68)] X ∧ Fr [b1, b2, b3] W X) (Q := fun X => Code.wp _ _ _ _ X) ⟨((HO.out.set 2 _ rfl).allocN _ W.heap.size (by simp)), ((Fr.refl [b1, b2, b3] W).put b1 _ (by simp)).alloc _⟩ ?_
  rintro U ⟨hU, hFU⟩
  have hgW := tg
  clear f1 f2 f3 t1 t2 t3 tg hgb
  have n52 : W.heap.size ≠ b2 := hU.ne 0 2 rfl rfl (by decide)
  have n53 : W.heap.size ≠ b3 := hU.ne 0 1 rfl rfl (by decide)
  generalize W.heap.size = b5 at hU n52 n53 ⊢
  have f5 := hU.nth 0 rfl
  have f1 := hU.nth 3 rfl
  have f2 := hU.nth 2 rfl
  have f3 := hU.nth 1 rfl
  have t5 := World.at_lt f5
  have t1 := World.at_lt f1
  have t2 := World.at_lt f2
  have t3 := World.at_lt f3
  have n25 := n52.symm
  have n35 := n53.symm
  have l2 := hU.low 2 rfl
  have l3 := hU.low 1 rfl
  have HU := Lib.hid hU
  have HFU := Lib.hid hFU
  clear hU hFU
  refine drawn_begin 3 (fun w' => w'.blk b1 = some (.cells zs 68) ∧ w'.blk b5 = some (.cells u.toArray 65)) (by kernel_rfl) ?_
  refine drawn_reads (fuel := 3) [0, 1] rfl (by kernel_rfl) ⟨f1, f5⟩ ?_
  repeat (first | (refine rowK_step2 rfl rfl (fun K hK => ?_); go_wp2) | (refine rowK_step rfl (fun K hK => ?_); go_simp; refine hK _ ?_; clear hK K))
  refine rowK_nil ⟨fun w' e1 => ?_, ?_⟩
  · obtain ⟨e1, e2⟩ := e1
    clear f1 f5
    repeat (first | (refine rowWp_step2 rfl rfl (fun K hK => ?_); go_wp2) | (refine rowWp_step rfl (fun K hK => ?_); go_simp; refine hK _ ?_; clear hK K))
    exact rowWp_nil rfl
  refine drawn_next 2 (fuel := 2) rfl (by kernel_rfl) ?_
  intro K hK
  go_wp2_with fail
  refine ⟨⟨by go_simp, by go_simp⟩, ?_⟩
  refine drawn_end rfl (by kernel_rfl) ?_
  intro K hK
  go_wp2_with fail
  refine ret_cell2_tmp rfl rfl rfl rfl ?_
  go_simp
  have hmn : m - 1 = n := by have := HM.out; omega
  have hrest := sv_rest HSv.out hu hm2
  rw [HQQ.out, hmn] at hrest
  refine ⟨by kernel_rfl, by kernel_rfl, qq, c - 1, by rw [HZS.out, hmn], hrest.fr (((HFU.out.put b2 _ (by simp)).put b3 _ (by simp)).drew) (fun x hx => ?_), ((HU.out.fr.put b2 _ (fun h => by omega)).put b3 _ (fun h => by omega)).drew⟩
  have hxg : x = g := by
    rw [← HQQ.out] at hx
    split at hx
    · simpa using hx.symm
    · simpa using hx.symm
  subst hxg
  simp [hg1, hg2, hg3]
end
end Go.Proofs.YtbhnfohoclcjdaaGreat
namespace Go.Proofs.YtbhnfohoclcjdaaGreat
open Go.RowKit Go.Dr Go.Kd
/-- What a cache with two first keys holds. -/
def twoC (a b : List Int) : List Int := a ++ (b ++ zs 69)
theorem twoC_length {a b : List Int} (ha : a.length = 32) (hb : b.length = 32) : (twoC a b).length = 133 := by simp [twoC, ha, hb, zs]
theorem firstC_two {a b : List Int} (ha : a.length = 32) (hb : b.length = 32) : firstC (twoC a b) = [a, b, Kd.zeros 32, Kd.zeros 32] := by
  have e1 : (twoC a b).drop 32 = b ++ zs 69 := by unfold twoC; rw [← ha, List.drop_left]
  have e2 : (twoC a b).drop 64 = zs 69 := by rw [show 64 = 32 + 32 from rfl, ← List.drop_drop, e1, ← hb, List.drop_left]
  have e3 : (twoC a b).drop 96 = zs 37 := by rw [show 96 = 64 + 32 from rfl, ← List.drop_drop, e2]; rfl
  have h0 : (twoC a b).take 32 = a := by unfold twoC; rw [← ha, List.take_left]
  have h1 : (b ++ zs 69).take 32 = b := by rw [← hb, List.take_left]
  simp only [firstC, List.map_cons, List.map_nil, Nat.mul_zero, Nat.mul_one, Nat.reduceMul, List.drop_zero, h0, e1, e2, e3, h1]
  rfl
theorem highC_two {a b : List Int} (ha : a.length = 32) (hb : b.length = 32) : highC (twoC a b) = [0, 0, 0, 0] := by
  unfold highC
  rw [show 128 = 32 + (32 + 64) from rfl, ← List.drop_drop, ← List.drop_drop]
  unfold twoC
  rw [← ha, List.drop_left, ha, ← hb, List.drop_left]
  rfl
theorem needC_two {a b : List Int} (ha : a.length = 32) (hb : b.length = 32) : needC (twoC a b) = 0 := by
  unfold needC
  rw [el, twoC, List.getD_eq_getElem?_getD, List.getElem?_append_right (by omega), ha, List.getElem?_append_right (by omega), hb]
  rfl
theorem twoC_bytes {a b : List Int} (ha : isBytes a) (hb : isBytes b) : isBytes (twoC a b) := by
  intro x hx
  simp only [twoC, List.mem_append, zs, List.mem_replicate] at hx
  rcases hx with hx | hx | ⟨_, rfl⟩
  · exact ha x hx
  · exact hb x hx
  · omega
theorem two36 {a b : List Int} (ha : a.length = 32) (hb : b.length = 32) : spl (spl Tryz.zeroCells35 0 (a.map (Value.int .u8))) 32 (b.map (Value.int .u8)) = ints .u8 (a ++ (b ++ zs 64)) := by
  have h : Tryz.zeroCells35 = ints .u8 (zs 128) := by kernel_rfl
  rw [h, spl_ints, spl_ints]
  congr 1
  unfold lay
  rw [List.take_zero, List.nil_append, Nat.zero_add, ha, hb, List.take_append_of_le_length (by omega), List.take_of_length_le (by omega), List.append_assoc, List.drop_append, List.drop_eq_nil_of_le (by omega), ha, List.nil_append]
  rfl
theorem two39 {a b : List Int} (ha : a.length = 32) (hb : b.length = 32) : spl Tryz.zeroCells38 0 ((a ++ (b ++ zs 64)).map (Value.int .u8)) = ints .u8 (twoC a b) := by
  have h : Tryz.zeroCells38 = ints .u8 (zs 133) := by kernel_rfl
  rw [h, spl_ints]
  congr 1
  unfold lay twoC
  rw [List.take_zero, List.nil_append, Nat.zero_add, List.length_append, List.length_append, ha, hb, List.append_assoc, List.append_assoc]
  rfl
theorem ex_two : checkF ali3.1 aliC [0, 0, 0, 0] 0 0 [aliY] 4 = (Kd.zeros 32, 0, 201) := by decide
theorem ex_four : checkF ali3.1 aliC [0, 0, 0, 0] 0 1 [aliY] 5 = (Kd.zeros 32, 0, 200) := by decide
theorem E44 : ElemT Tryz.prog 43 48 101 136 Tryz.zeroCells48 := ⟨Tryz.underlying43, by kernel_rfl, by kernel_rfl⟩
@[go_sem] theorem one44 (w : World) (Y : Array Value) (h : Y.size = 101) : (buildOneK 43 #[(0, .agg Y)]).run Tryz.prog w = .ok (.slice (some ⟨w.heap.size, 0, none⟩) 1 1) (w.alloc (.cells Y 48)) :=
  E44.buildOne (by omega) (by omega) w (.agg Y) h
theorem E60 : ElemT Tryz.prog 66 65 162 164 Tryz.zeroCells65 := ⟨Tryz.underlying66, by kernel_rfl, by kernel_rfl⟩
@[go_sem] theorem one60 (w : World) (Y : Array Value) (h : Y.size = 162) : (buildOneK 66 #[(0, .agg Y)]).run Tryz.prog w = .ok (.slice (some ⟨w.heap.size, 0, none⟩) 1 1) (w.alloc (.cells Y 65)) :=
  E60.buildOne (by omega) (by omega) w (.agg Y) h
theorem ob_aliX : ObOk aliX := by
  refine ⟨by decide, by decide, by decide, by decide, by decide, by decide, by decide, by decide, by decide, by decide, ?_, ?_, rfl⟩
  · intro x hx
    simp only [aliX, key1, Kd.zeros, List.mem_cons, List.mem_replicate] at hx
    omega
  · intro x hx
    simp only [aliX, Kd.zeros, List.mem_replicate] at hx
    omega
theorem byt_makeT {T : List Tm} {t : Tm} : isBytes (makeT T t).2.1 := by
  have hz : ∀ n, isBytes (Kd.zeros n) := fun n x hx => by
    simp only [Kd.zeros, List.mem_replicate] at hx
    omega
  unfold makeT
  split
  · exact hz _
  · split
    · exact byt_nameB _
    · split
      · exact hz _
      · exact byt_nameB _
theorem byt_signF {T : List Tm} {k t : List Int} : isBytes (signF T k t).2 := by
  have hz : ∀ n, isBytes (Kd.zeros n) := fun n x hx => by
    simp only [Kd.zeros, List.mem_replicate] at hx
    omega
  unfold signF
  split
  · exact hz _
  · intro x hx
    rcases List.mem_append.1 hx with hx | hx
    · exact byt_makeT x hx
    · exact hz _ x hx
theorem ob_sig {x : Ob} (h : ObOk x) {s : Bs} (hl : s.length = 64) (hb : isBytes s) : ObOk { x with sig := s } := ⟨h.s0, h.s1, h.n0, h.n1, h.f0, h.f1, h.t0, h.t1, h.kl, hl, h.kb, hb, h.vs⟩
theorem sv_one {sz : Nat} {w : World} {g : Nat} {Y : Array Value} {T : TypeId} (hg : w.blk g = some (.cells Y T)) (hY : Y.size = sz) : Sv sz w (some ⟨g, 0, none⟩) 1 1 Y.toList :=
  ⟨by simpa using hY, Nat.le_refl 1, .inr ⟨g, 0, Y, T, (0, 0), rfl, hg, by omega, by rw [Nat.zero_add, Nat.one_mul, ← hY, Array.extract_size]⟩, by simp, fun a ha => ⟨g, 0, by simpa using ha.symm⟩⟩
section
variable {w : World}
set_option maxRecDepth 100000 in
set_option maxHeartbeats 2000000 in
theorem alive_f : Calls Tryz.prog 6 #[] w fun e w' => e = .returned (.bool true) ∧ Fr [] w w' := by
  go_enter Tryz.func6, Tryz.ntmps6
  go_wp2_with fail
  refine free_f.mono ?_
  rintro e w1 ⟨tb, rfl, hT, F⟩
  have HT := Lib.hid hT
  have HF := Lib.hid F
  clear hT F
  go_upto_region 2 with (fail)
  refine named_world (A := fun X => OwB w [(w1.heap.size, .cells #[.pointer (some ⟨tb, 0, none⟩)] 27)] X ∧ TabP w.heap.size tb X []) (Q := fun X => Code.wp _ _ _ _ X) ⟨((OwB.start w).call HF.out).alloc _, HT.out.fr0 ((Fr.refl [] w1).alloc _)⟩ ?_
  rintro V ⟨hV, hT⟩
  generalize w1.heap.size = b1 at hV ⊢
  have f1 := hV.nth 0 rfl
  have t1 := World.at_lt f1
  have HV := Lib.hid hV
  have HTV := Lib.hid hT
  clear hV hT
  obtain ⟨T1, hT1⟩ : ∃ T1, T1 = ali1.1 := ⟨_, rfl⟩
  obtain ⟨a1, ha1⟩ : ∃ a1, a1 = ali1.2.1 := ⟨_, rfl⟩
  obtain ⟨T2, hT2⟩ : ∃ T2, T2 = ali2.1 := ⟨_, rfl⟩
  obtain ⟨a2, ha2⟩ : ∃ a2, a2 = ali2.2.1 := ⟨_, rfl⟩
  have la1 : a1.length = 32 := by rw [ha1]; exact makeT_len _ _
  have la2 : a2.length = 32 := by rw [ha2]; exact makeT_len _ _
  have kb : ∀ n : Int, 0 ≤ n → n < 256 → isBytes (key1 n) := fun n h0 h1 x hx => by
    simp only [key1, List.mem_cons, Kd.zeros, List.mem_replicate] at hx
    rcases hx with rfl | ⟨_, rfl⟩
    · exact ⟨h0, h1⟩
    · omega
  have c1 : ∀ W : World, TabP w.heap.size tb W [] → Calls Tryz.prog 9 #[SU tb, .agg (ints .u8 (key1 1))] W fun e w' => e = .returned (.agg (ints .u8 a1)) ∧ TabP w.heap.size tb w' T1 ∧ FrP w.heap.size W w' := fun W h => by
    rw [ha1, hT1]; exact signer_f h rfl (kb 1 (by omega) (by omega))
  have c2 : ∀ W : World, TabP w.heap.size tb W T1 → Calls Tryz.prog 9 #[SU tb, .agg (ints .u8 (key1 2))] W fun e w' => e = .returned (.agg (ints .u8 a2)) ∧ TabP w.heap.size tb w' T2 ∧ FrP w.heap.size W w' := fun W h => by
    rw [ha2, hT2]; rw [hT1] at h; exact signer_f h rfl (kb 2 (by omega) (by omega))
  obtain ⟨c128, hc128⟩ : ∃ c, c = a1 ++ (a2 ++ zs 64) := ⟨_, rfl⟩
  obtain ⟨C, hC⟩ : ∃ C, C = twoC a1 a2 := ⟨_, rfl⟩
  have e36 : spl (spl Tryz.zeroCells35 0 (a1.map (Value.int .u8))) 32 (a2.map (Value.int .u8)) = ints .u8 c128 := by rw [hc128]; exact two36 la1 la2
  have e39 : spl Tryz.zeroCells38 0 (c128.map (Value.int .u8)) = ints .u8 C := by rw [hc128, hC]; exact two39 la1 la2
  have l128 : c128.length = 128 := by rw [hc128, List.length_append, List.length_append, la1, la2]; rfl
  have z39 : Tryz.zeroCells38.size = 133 := by kernel_rfl
  have z36 : Tryz.zeroCells35.size = 128 := by kernel_rfl
  have lC : C.length = 133 := by rw [hC]; exact twoC_length la1 la2
  have HC := Lib.hid hC
  clear hc128 hC
  have C1 := Lib.hid c1
  have C2 := Lib.hid c2
  have HT1 := Lib.hid hT1
  have HA1 := Lib.hid ha1
  have HT2 := Lib.hid hT2
  have HA2 := Lib.hid ha2
  have HKB := Lib.hid kb
  clear c1 c2 hT1 ha1 hT2 ha2 kb
  go_cut [2, 20, 21, 22, 23, 24, 25, 26, 27] (fun v2 _ _ _ _ _ _ _ _ wy => ∃ b2, v2 = .pointer (some ⟨b2, 0, none⟩) ∧ Hid (OwB w [(b2, .cells (ints .u8 C) 38), (b1, .cells #[.pointer (some ⟨tb, 0, none⟩)] 27)] wy) ∧ Hid (TabP w.heap.size tb wy T2))
  case first =>
    refine drawn_begin 9 (fun w' => w'.blk b1 = some (.cells #[.pointer (some ⟨tb, 0, none⟩)] 27)) (by kernel_rfl) ?_
    refine drawn_reads (fuel := 6) [0, 1, 3, 4] rfl (by kernel_rfl) f1 ?_
    repeat (first | (refine rowK_step2 rfl rfl (fun K hK => ?_); go_wp2) | (refine rowK_step rfl (fun K hK => ?_); go_simp; refine hK _ ?_; clear hK K))
    refine rowK_nil ⟨fun w' e1 => ?_, ?_⟩
    · clear f1
      repeat (first | (refine rowWp_step2 rfl rfl (fun K hK => ?_); go_wp2) | (refine rowWp_step rfl (fun K hK => ?_); go_simp; refine hK _ ?_; clear hK K))
      exact rowWp_nil rfl
    refine drawn_next2 2 8 (fuel := 5) rfl rfl (by kernel_rfl) ?_ ?_
    · intro K hK
      go_wp2_with fail
      change Calls Tryz.prog 9 #[SU tb, .agg (ints .u8 (key1 1))] _ _
      refine (C1.out _ (HTV.out.fr0 (Fr.refl [] V).drew)).mono ?_
      rintro e V1 ⟨rfl, hT, F⟩
      have hV1 := HV.out.drew.callT F (by simp [other, TT]) (Nat.le_refl _)
      clear f1 t1
      have f1 := hV1.nth 0 rfl
      have t1 := World.at_lt f1
      have HV1 := Lib.hid hV1
      have HTV1 := Lib.hid hT
      clear hV1 hT
      clear F
      go_wp2_with fail
      refine ⟨f1, ?_⟩
      refine drawn_next2 5 8 (fuel := 4) rfl rfl (by kernel_rfl) ?_ ?_
      · intro K hK
        go_wp2_with fail
        change Calls Tryz.prog 9 #[SU tb, .agg (ints .u8 (key1 2))] _ _
        refine (C2.out _ HTV1.out).mono ?_
        rintro e V2 ⟨rfl, hT, F⟩
        have hV2 := HV1.out.callT F (by simp [other, TT]) (Nat.le_refl _)
        clear f1 t1
        have f1 := hV2.nth 0 rfl
        have t1 := World.at_lt f1
        have HV2 := Lib.hid hV2
        have HTV2 := Lib.hid hT
        clear hV2 hT
        clear F
        go_wp2_with fail
        refine ⟨f1, ?_⟩
        refine drawn_reads (fuel := 2) [6, 7] rfl (by kernel_rfl) f1 ?_
        repeat (first | (refine rowK_step2 rfl rfl (fun K hK => ?_); go_wp2) | (refine rowK_step rfl (fun K hK => ?_); go_simp; refine hK _ ?_; clear hK K))
        refine rowK_nil ⟨fun w' e1 => ?_, ?_⟩
        · clear f1
          repeat (first | (refine rowWp_step2 rfl rfl (fun K hK => ?_); go_wp2) | (refine rowWp_step rfl (fun K hK => ?_); go_simp; refine hK _ ?_; clear hK K))
          exact rowWp_nil rfl
        refine drawn_next 8 (fuel := 1) rfl (by kernel_rfl) ?_
        intro K hK
        go_wp2_with fail
        refine ⟨by go_simp, ?_⟩
        refine drawn_end rfl (by kernel_rfl) ?_
        intro K hK
        go_wp2_with fail
        go_meet
        case rel => exact ⟨V2.heap.size, rfl, Lib.hid (HV2.out.allocN _ V2.heap.size rfl), Lib.hid (HTV2.out.fr0 ((Fr.refl [] V2).alloc _))⟩
      · intro K hK
        go_wp2_with fail
        refine ⟨by go_simp, ?_⟩
        refine named_world (A := fun X => OwB w [(V1.heap.size, .cells Tryz.zeroCells38 38), (b1, .cells #[.pointer (some ⟨tb, 0, none⟩)] 27)] X ∧ TabP w.heap.size tb X T1) (Q := fun X => Go.Dr.wpAnyS Tryz.prog .any _ _ _ _ _ _ _ X) (by first | exact ⟨(HV1.out.allocN _ V1.heap.size rfl).drew, (HTV1.out.fr0 (((Fr.refl [] V1).alloc _).drew))⟩ | exact ⟨HV1.out.allocN _ V1.heap.size rfl, HTV1.out.fr0 ((Fr.refl [] V1).alloc _)⟩) ?_
        rintro V2 ⟨hV2, hT⟩
        generalize V1.heap.size = b2 at hV2 ⊢
        clear f1 t1
        have f1 := hV2.nth 1 rfl
        have t1 := World.at_lt f1
        have HV2 := Lib.hid hV2
        have HTV2 := Lib.hid hT
        clear hV2 hT
        refine drawn_next 5 (fuel := 3) rfl (by kernel_rfl) ?_
        intro K hK
        go_wp2_with fail
        change Calls Tryz.prog 9 #[SU tb, .agg (ints .u8 (key1 2))] _ _
        refine (C2.out _ HTV2.out).mono ?_
        rintro e V3 ⟨rfl, hT, F⟩
        have hV3 := HV2.out.callT F (by simp [other, TT]) (Nat.le_refl _)
        clear f1 t1
        have f1 := hV3.nth 1 rfl
        have t1 := World.at_lt f1
        have HV3 := Lib.hid hV3
        have HTV3 := Lib.hid hT
        clear hV3 hT
        clear F
        go_wp2_with fail
        refine ⟨f1, ?_⟩
        refine drawn_reads (fuel := 1) [6, 7] rfl (by kernel_rfl) f1 ?_
        repeat (first | (refine rowK_step2 rfl rfl (fun K hK => ?_); go_wp2) | (refine rowK_step rfl (fun K hK => ?_); go_simp; refine hK _ ?_; clear hK K))
        refine rowK_nil ⟨fun w' e1 => ?_, ?_⟩
        · clear f1
          repeat (first | (refine rowWp_step2 rfl rfl (fun K hK => ?_); go_wp2) | (refine rowWp_step rfl (fun K hK => ?_); go_simp; refine hK _ ?_; clear hK K))
          exact rowWp_nil rfl
        have f2 := HV3.out.nth 0 rfl
        have t2 := World.at_lt f2
        refine drawn_end rfl (by kernel_rfl) ?_
        intro K hK
        go_wp2_with fail
        go_meet
        case rel => exact ⟨b2, rfl, Lib.hid (HV3.out.set 0 _ rfl), Lib.hid (HTV3.out.put f2 (by decide) _)⟩
    · intro K hK
      go_wp2_with fail
      refine ⟨by go_simp, ?_⟩
      refine named_world (A := fun X => OwB w [(V.heap.size, .cells Tryz.zeroCells38 38), (b1, .cells #[.pointer (some ⟨tb, 0, none⟩)] 27)] X ∧ TabP w.heap.size tb X []) (Q := fun X => Go.Dr.wpAnyS Tryz.prog .any _ _ _ _ _ _ _ X) (by first | exact ⟨(HV.out.allocN _ V.heap.size rfl).drew, (HTV.out.fr0 (((Fr.refl [] V).alloc _).drew))⟩ | exact ⟨HV.out.allocN _ V.heap.size rfl, HTV.out.fr0 ((Fr.refl [] V).alloc _)⟩) ?_
      rintro V1 ⟨hV1, hT⟩
      generalize V.heap.size = b2 at hV1 ⊢
      clear f1 t1
      have f1 := hV1.nth 1 rfl
      have t1 := World.at_lt f1
      have HV1 := Lib.hid hV1
      have HTV1 := Lib.hid hT
      clear hV1 hT
      refine drawn_next 2 (fuel := 4) rfl (by kernel_rfl) ?_
      intro K hK
      go_wp2_with fail
      change Calls Tryz.prog 9 #[SU tb, .agg (ints .u8 (key1 1))] _ _
      refine (C1.out _ HTV1.out).mono ?_
      rintro e V2 ⟨rfl, hT, F⟩
      have hV2 := HV1.out.callT F (by simp [other, TT]) (Nat.le_refl _)
      clear f1 t1
      have f1 := hV2.nth 1 rfl
      have t1 := World.at_lt f1
      have HV2 := Lib.hid hV2
      have HTV2 := Lib.hid hT
      clear hV2 hT
      clear F
      go_wp2_with fail
      refine ⟨f1, ?_⟩
      refine drawn_next 5 (fuel := 3) rfl (by kernel_rfl) ?_
      intro K hK
      go_wp2_with fail
      change Calls Tryz.prog 9 #[SU tb, .agg (ints .u8 (key1 2))] _ _
      refine (C2.out _ HTV2.out).mono ?_
      rintro e V3 ⟨rfl, hT, F⟩
      have hV3 := HV2.out.callT F (by simp [other, TT]) (Nat.le_refl _)
      clear f1 t1
      have f1 := hV3.nth 1 rfl
      have t1 := World.at_lt f1
      have HV3 := Lib.hid hV3
      have HTV3 := Lib.hid hT
      clear hV3 hT
      clear F
      go_wp2_with fail
      refine ⟨f1, ?_⟩
      refine drawn_reads (fuel := 1) [6, 7] rfl (by kernel_rfl) f1 ?_
      repeat (first | (refine rowK_step2 rfl rfl (fun K hK => ?_); go_wp2) | (refine rowK_step rfl (fun K hK => ?_); go_simp; refine hK _ ?_; clear hK K))
      refine rowK_nil ⟨fun w' e1 => ?_, ?_⟩
      · clear f1
        repeat (first | (refine rowWp_step2 rfl rfl (fun K hK => ?_); go_wp2) | (refine rowWp_step rfl (fun K hK => ?_); go_simp; refine hK _ ?_; clear hK K))
        exact rowWp_nil rfl
      have f2 := HV3.out.nth 0 rfl
      have t2 := World.at_lt f2
      refine drawn_end rfl (by kernel_rfl) ?_
      intro K hK
      go_wp2_with fail
      go_meet
      case rel => exact ⟨b2, rfl, Lib.hid (HV3.out.set 0 _ rfl), Lib.hid (HTV3.out.put f2 (by decide) _)⟩
  case rest =>
    obtain ⟨b2, rfl, hO, hT⟩ := hcut
    obtain ⟨T3, hT3⟩ : ∃ T3, T3 = ali3.1 := ⟨_, rfl⟩
    obtain ⟨Y, hY⟩ : ∃ Y, Y = obC aliY := ⟨_, rfl⟩
    have obY : ObOk aliY := ob_sig ob_aliX (signF_len _ _ _) byt_signF
    have szY : Y.size = 101 := by rw [hY, List.size_toArray, cObject_length _ _ _ _ _ _ _ obY.kl obY.sl]
    have oneY : ones Y.toList = true := by rw [hY]; exact List.all_eq_true.2 (cObject_one _ _ _ _ _ _ _ rfl rfl rfl rfl rfl)
    have c3 : ∀ W : World, TabP w.heap.size tb W T2 → Calls Tryz.prog 14 #[SU tb, .agg (ints .u8 (key1 1)), .agg (obC aliX)] W fun e w' => e = .returned (.agg Y) ∧ TabP w.heap.size tb w' T3 ∧ FrP w.heap.size W w' := fun W h => by
      rw [hT3, hY]; rw [HT2.out] at h; exact ksign_f h rfl (HKB.out 1 (by omega) (by omega)) ob_aliX
    have aC : firstC C = aliC := by rw [HC.out, firstC_two la1 la2, HA1.out, HA2.out]; rfl
    have hC0 : highC C = [0, 0, 0, 0] := by rw [HC.out, highC_two la1 la2]
    have nC : needC C = 0 := by rw [HC.out, needC_two la1 la2]
    have bC : isBytes C := by rw [HC.out, HA1.out, HA2.out]; exact twoC_bytes byt_makeT byt_makeT
    have c4 : ∀ W : World, TabP w.heap.size tb W T3 → Calls Tryz.prog 19 #[SU tb, .agg (ints .u8 C), .int .u8 0, .slice none 0 0, .int .u32 0] W fun e w' => e = .returned (.tuple #[.agg (ints .u8 a1), .int .u8 0, .int .i64 0]) ∧ Fr [] W w' := fun W h => by
      have := check_f (server := 0) (now := 0) (xs := []) h lC bC (by omega) (by omega) (Sv.ofNil W) rfl (by simp) (by omega)
      rw [aC, hC0, nC, hT3, show (((0 : Nat) : Int)) = 0 from rfl, alive_one, ← HA1.out] at this
      exact this
    have c5 : ∀ (W : World) (g : Nat), W.blk g = some (.cells Y 48) → TabP w.heap.size tb W T3 → Calls Tryz.prog 19 #[SU tb, .agg (ints .u8 C), .int .u8 0, .slice (some ⟨g, 0, none⟩) 1 1, .int .u32 4] W fun e w' => e = .returned (.tuple #[.agg (ints .u8 (Kd.zeros 32)), .int .u8 0, .int .i64 201]) ∧ Fr [] W w' := fun W g hg h => by
      have := check_f (server := 0) (now := 4) (xs := [aliY]) h lC bC (by omega) (by omega) (by rw [List.flatMap_cons, List.flatMap_nil, List.append_nil, ← hY]; exact sv_one hg szY) rfl (by intro x hx; rw [List.mem_singleton] at hx; rw [hx]; exact obY) (by decide)
      rw [aC, hC0, nC, hT3, show (((0 : Nat) : Int)) = 0 from rfl, show (((4 : Nat) : Int)) = 4 from rfl, ex_two] at this
      exact this
    have c6 : ∀ (W : World) (g : Nat), W.blk g = some (.cells Y 48) → TabP w.heap.size tb W T3 → Calls Tryz.prog 19 #[SU tb, .agg (ints .u8 C), .int .u8 0, .slice (some ⟨g, 0, none⟩) 1 1, .int .u32 5] W fun e w' => e = .returned (.tuple #[.agg (ints .u8 (key1 9)), .int .u8 1, .int .i64 0]) ∧ Fr [] W w' := fun W g hg h => by
      have := check_f (server := 0) (now := 5) (xs := [aliY]) h lC bC (by omega) (by omega) (by rw [List.flatMap_cons, List.flatMap_nil, List.append_nil, ← hY]; exact sv_one hg szY) rfl (by intro x hx; rw [List.mem_singleton] at hx; rw [hx]; exact obY) (by decide)
      rw [aC, hC0, nC, hT3, show (((0 : Nat) : Int)) = 0 from rfl, show (((5 : Nat) : Int)) = 5 from rfl, alive_three] at this
      exact this
    have c7 : ∀ (W : World) (g : Nat), W.blk g = some (.cells Y 48) → TabP w.heap.size tb W T3 → Calls Tryz.prog 19 #[SU tb, .agg (ints .u8 C), .int .u8 1, .slice (some ⟨g, 0, none⟩) 1 1, .int .u32 5] W fun e w' => e = .returned (.tuple #[.agg (ints .u8 (Kd.zeros 32)), .int .u8 0, .int .i64 200]) ∧ Fr [] W w' := fun W g hg h => by
      have := check_f (server := 1) (now := 5) (xs := [aliY]) h lC bC (by omega) (by omega) (by rw [List.flatMap_cons, List.flatMap_nil, List.append_nil, ← hY]; exact sv_one hg szY) rfl (by intro x hx; rw [List.mem_singleton] at hx; rw [hx]; exact obY) (by decide)
      rw [aC, hC0, nC, hT3, show (((1 : Nat) : Int)) = 1 from rfl, show (((5 : Nat) : Int)) = 5 from rfl, ex_four] at this
      exact this
    obtain ⟨Ub, hUb⟩ : ∃ Ub, Ub = Tryz.zeroCells65.setIfInBounds 65 (.int .u16 1) := ⟨_, rfl⟩
    obtain ⟨Zf, hZf⟩ : ∃ Zf : Option Addr → Nat → Array Value, Zf = fun q c => (cShelf (.bool true) Tryz.zeroCells65.toList (.slice q 0 c) (.int .u16 0)).toArray := ⟨_, rfl⟩
    have h59 : Tryz.zeroCells65.toList.length = 162 := by kernel_rfl
    have ho59 : ∀ v ∈ Tryz.zeroCells65.toList, v.oneCell' = true := List.all_eq_true.1 (show Tryz.zeroCells65.toList.all (·.oneCell') = true by kernel_rfl)
    have szU : Ub.size = 162 := by rw [hUb, Array.size_setIfInBounds]; exact h59
    have oneU : ones Ub.toList = true := by rw [hUb]; kernel_rfl
    have u65 : Ub[65]? = some (.int .u16 1) := by rw [hUb]; kernel_rfl
    replace u65 := (Array.getElem?_eq_some_iff.1 u65).2
    have szZ : ∀ q c, (Zf q c).size = 165 := fun q c => by rw [hZf]; show ((cShelf _ _ _ _).toArray).size = 165; rw [List.size_toArray, cShelf_length _ _ _ _ h59]
    have oneZ : ∀ q c, ones (Zf q c).toList = true := fun q c => by rw [hZf]; exact List.all_eq_true.2 (cShelf_one _ _ _ _ rfl ho59 rfl rfl)
    have getZ : ∀ q c, (Zf q c)[163]? = some (.slice q 0 c) := fun q c => by rw [hZf]; exact cShelf_get_left _ _ _ _ h59
    have c8 : ∀ (W : World) (g : Nat), W.blk g = some (.cells Ub 65) → Calls Tryz.prog 31 #[.agg (cShelf (.bool true) Tryz.zeroCells65.toList (.slice (some ⟨g, 0, none⟩) 1 1) (.int .u16 0)).toArray] W fun e w' => ∃ q c, e = .returned (.tuple #[.agg (Zf q c), .agg Ub, .bool true]) ∧ Fr [] W w' := fun W g hg => by
      refine (claim_f (n := 0) (us := []) (u := Ub.toList) h59 ho59 rfl rfl (by rw [List.append_nil]; exact sv_one hg szU) (by simpa using szU) (by rw [List.append_nil]; exact List.all_eq_true.1 oneU) (by omega)).mono ?_
      rintro e w' ⟨q, c, rfl, _, F⟩
      exact ⟨q, c, by rw [hZf], F⟩
    have C8 := Lib.hid c8
    have tC : List.take 32 C = a1 := by rw [HC.out, twoC, ← la1, List.take_left]
    have C3 := Lib.hid c3
    have C4 := Lib.hid c4
    have C5 := Lib.hid c5
    have C6 := Lib.hid c6
    have C7 := Lib.hid c7
    have HY := Lib.hid hY
    have HAC := Lib.hid aC
    clear c3 c4 c5 c6 c7 c8 hZf hY obY aC hC0 nC bC hT3 e36 e39 l128 z36 z39
    have f1 := hO.out.nth 1 rfl
    have t1 := World.at_lt f1
    go_wp2_with fail
    refine Eq.mp (congrArg (fun X => Calls Tryz.prog 14 #[SU tb, .agg (ints .u8 (key1 1)), .agg X] _ _) (show obC aliX = _ from by kernel_rfl)) ?_
    refine (C3.out _ hT.out).mono ?_
    rintro e W3 ⟨rfl, hT3, F⟩
    have hO3 := hO.out.callT F (by simp [other, TT]) (Nat.le_refl _)
    have HO3 := Lib.hid hO3
    have HT3 := Lib.hid hT3
    clear f1 t1 hO3 hT3 F hO hT
    have f1 := HO3.out.nth 1 rfl
    have f2 := HO3.out.nth 0 rfl
    have t1 := World.at_lt f1
    have t2 := World.at_lt f2
    have ct : List.take 133 C = C := List.take_of_length_le (by omega)
    have yall : Y.extract 0 101 = Y := by rw [← szY]; exact Array.extract_size
    go_wp2_with fail
    refine named_world (A := fun X => OwB w [(W3.heap.size, .cells Y 48), (b2, .cells (ints .u8 C) 38), (b1, .cells #[.pointer (some ⟨tb, 0, none⟩)] 27)] X ∧ TabP w.heap.size tb X T3) (Q := fun X => Calls _ _ _ X _) ⟨HO3.out.allocN _ W3.heap.size rfl, HT3.out.fr0 ((Fr.refl [] W3).alloc _)⟩ ?_
    rintro W4 ⟨hO4, hT4⟩
    clear f1 f2 t1 t2
    generalize W3.heap.size = b3 at hO4 ⊢
    refine (C4.out W4 hT4).mono ?_
    rintro e U4 ⟨rfl, F4⟩
    have HO4 := Lib.hid (hO4.call F4)
    have HT4 := Lib.hid (hT4.fr0 F4)
    clear hO4 hT4 F4
    have f1 := HO4.out.nth 2 rfl
    have f2 := HO4.out.nth 1 rfl
    have f3 := HO4.out.nth 0 rfl
    have t1 := World.at_lt f1
    have t2 := World.at_lt f2
    have t3 := World.at_lt f3
    go_wp2_with fail
    refine named_world (A := fun X => OwB w [(U4.heap.size + 1, .cells Y 48), (U4.heap.size, .cells (ints .u8 a1) 34), (b3, .cells Y 48), (b2, .cells (ints .u8 C) 38), (b1, .cells #[.pointer (some ⟨tb, 0, none⟩)] 27)] X ∧ TabP w.heap.size tb X T3) (Q := fun X => Calls _ _ _ X _) ⟨(HO4.out.allocN _ U4.heap.size rfl).allocN _ (U4.heap.size + 1) (by simp), (HT4.out.fr0 ((Fr.refl [] U4).alloc _)).fr0 ((Fr.refl [] _).alloc _)⟩ ?_
    rintro W5 ⟨hO, hT⟩
    clear f1 f2 f3 t1 t2 t3
    generalize U4.heap.size + 1 = g at hO ⊢
    generalize U4.heap.size = b4 at hO ⊢
    refine (C5.out W5 g (hO.nth 0 rfl) hT).mono ?_
    rintro e U5 ⟨rfl, F⟩
    have HO5 := Lib.hid (hO.take.call F)
    have HT5 := Lib.hid (hT.fr0 F)
    clear hO hT F
    have f1 := HO5.out.nth 3 rfl
    have f2 := HO5.out.nth 2 rfl
    have f3 := HO5.out.nth 1 rfl
    have t1 := World.at_lt f1
    have t2 := World.at_lt f2
    have t3 := World.at_lt f3
    go_wp2_with fail
    refine named_world (A := fun X => OwB w [(U5.heap.size + 1, .cells Y 48), (U5.heap.size, .cells (ints .u8 (Kd.zeros 32)) 34), (b4, .cells (ints .u8 a1) 34), (b3, .cells Y 48), (b2, .cells (ints .u8 C) 38), (b1, .cells #[.pointer (some ⟨tb, 0, none⟩)] 27)] X ∧ TabP w.heap.size tb X T3) (Q := fun X => Calls _ _ _ X _) ⟨(HO5.out.allocN _ U5.heap.size rfl).allocN _ (U5.heap.size + 1) (by simp), (HT5.out.fr0 ((Fr.refl [] U5).alloc _)).fr0 ((Fr.refl [] _).alloc _)⟩ ?_
    rintro W6 ⟨hO, hT⟩
    clear f1 f2 f3 t1 t2 t3
    generalize U5.heap.size + 1 = g at hO ⊢
    generalize U5.heap.size = b7 at hO ⊢
    refine (C6.out W6 g (hO.nth 0 rfl) hT).mono ?_
    rintro e U6 ⟨rfl, F⟩
    have HO6 := Lib.hid (hO.take.call F)
    have HT6 := Lib.hid (hT.fr0 F)
    clear hO hT F
    have f1 := HO6.out.nth 4 rfl
    have f2 := HO6.out.nth 3 rfl
    have f3 := HO6.out.nth 2 rfl
    have t1 := World.at_lt f1
    have t2 := World.at_lt f2
    have t3 := World.at_lt f3
    go_wp2_with fail
    refine named_world (A := fun X => OwB w [(U6.heap.size + 1, .cells Y 48), (U6.heap.size, .cells (ints .u8 (key1 9)) 34), (b7, .cells (ints .u8 (Kd.zeros 32)) 34), (b4, .cells (ints .u8 a1) 34), (b3, .cells Y 48), (b2, .cells (ints .u8 C) 38), (b1, .cells #[.pointer (some ⟨tb, 0, none⟩)] 27)] X ∧ TabP w.heap.size tb X T3) (Q := fun X => Calls _ _ _ X _) ⟨(HO6.out.allocN _ U6.heap.size rfl).allocN _ (U6.heap.size + 1) (by simp), (HT6.out.fr0 ((Fr.refl [] U6).alloc _)).fr0 ((Fr.refl [] _).alloc _)⟩ ?_
    rintro W7 ⟨hO, hT⟩
    clear f1 f2 f3 t1 t2 t3
    generalize U6.heap.size + 1 = g at hO ⊢
    generalize U6.heap.size = b10 at hO ⊢
    refine (C7.out W7 g (hO.nth 0 rfl) hT).mono ?_
    rintro e U7 ⟨rfl, F⟩
    have HO7 := Lib.hid (hO.take.call F)
    have HT7 := Lib.hid (hT.fr0 F)
    clear hO hT F
    have f1 := HO7.out.nth 5 rfl
    have f2 := HO7.out.nth 4 rfl
    have f3 := HO7.out.nth 3 rfl
    have t1 := World.at_lt f1
    have t2 := World.at_lt f2
    have t3 := World.at_lt f3
    go_wp2_with fail
    rw [← hUb]
    refine named_world (A := fun X => OwB w [(U7.heap.size + 1, .cells Ub 65), (U7.heap.size, .cells (ints .u8 (Kd.zeros 32)) 34), (b10, .cells (ints .u8 (key1 9)) 34), (b7, .cells (ints .u8 (Kd.zeros 32)) 34), (b4, .cells (ints .u8 a1) 34), (b3, .cells Y 48), (b2, .cells (ints .u8 C) 38), (b1, .cells #[.pointer (some ⟨tb, 0, none⟩)] 27)] X) (Q := fun X => Calls _ _ _ X _) ((HO7.out.allocN _ U7.heap.size rfl).allocN _ (U7.heap.size + 1) (by simp)) ?_
    intro W8 hO
    clear f1 f2 f3 t1 t2 t3
    generalize U7.heap.size + 1 = g at hO ⊢
    generalize U7.heap.size = b13 at hO ⊢
    refine Eq.mp (congrArg (fun X => Calls Tryz.prog 31 #[.agg X] _ _) (show (cShelf (.bool true) Tryz.zeroCells65.toList (.slice (some ⟨g, 0, none⟩) 1 1) (.int .u16 0)).toArray = _ from by kernel_rfl)) ?_
    refine (C8.out W8 g (hO.nth 0 rfl)).mono ?_
    rintro e U8 ⟨q, c, rfl, F⟩
    have hO8 := hO.call F
    have HO8 := Lib.hid hO8
    have f2 := hO8.nth 6 rfl
    have f4 := hO8.nth 4 rfl
    have f10 := hO8.nth 2 rfl
    have t2 := World.at_lt f2
    have t4 := World.at_lt f4
    have t10 := World.at_lt f10
    have sz1 := szZ q c
    have one1 := oneZ q c
    have get0 := getZ q c
    generalize Zf q c = Z at sz1 one1 get0 ⊢
    have get1 := (Array.getElem?_eq_some_iff.1 get0).2
    have h9 : (key1 9 == [9, 0, 0, 0, 0, 0, 0, 0, 0, 0, 0, 0, 0, 0, 0, 0, 0, 0, 0, 0, 0, 0, 0, 0, 0, 0, 0, 0, 0, 0, 0, 0]) = true := by decide
    have lk9 : (key1 9).length = 32 := rfl
    clear hO hO8 F szZ oneZ getZ
    go_wp2_with fail
    exact bodyPost_ret (results_tmp rfl _ _ _) rfl ⟨rfl, (HO8.out.fr.alloc _).alloc _⟩
end
end Go.Proofs.YtbhnfohoclcjdaaGreat
namespace Go.Proofs.YtbhnfohoclcjdaaGreat
open Go.RowKit Go.Dr Go.Kd
/-- A bundle's values. -/
structure Bn where
  device : Int
  agree : Bs
  signer : Bs
  id : Int
  once : Bs
  sig : Bs
abbrev bnC (x : Bn) : Array Value := (cBundle (.int .u8 x.device) x.agree x.signer (.int .u16 x.id) x.once x.sig).toArray
structure BnOk (x : Bn) : Prop where
  d0 : 0 ≤ x.device
  d1 : x.device < 256
  i0 : 0 ≤ x.id
  i1 : x.id < 65536
  al : x.agree.length = 32
  sl : x.signer.length = 32
  ol : x.once.length = 32
  gl : x.sig.length = 64
  ab : isBytes x.agree
  sb : isBytes x.signer
  ob : isBytes x.once
  gb : isBytes x.sig
def bunText (x : Bn) : Bs := joinB [[111, 110, 99, 101], putB x.device.toNat 1, x.agree, x.signer, putB x.id.toNat 2, x.once]
theorem bunText_length {x : Bn} (h : BnOk x) : (bunText x).length = 116 := by
  simp [bunText, joinB, h.al, h.sl, h.ol, putB_length]
theorem isBytes_bun {x : Bn} (h : BnOk x) : isBytes (bunText x) := by
  have hp : ∀ k s, isBytes (putB k s) := fun k s y hy => by
    simp only [putB, List.mem_map] at hy
    obtain ⟨i, _, rfl⟩ := hy
    omega
  refine isBytes_join (by simp [fits, putB_len, h.al, h.sl, h.ol]) ?_
  intro l hl
  simp only [List.mem_cons, List.not_mem_nil, or_false] at hl
  rcases hl with rfl | rfl | rfl | rfl | rfl | rfl
  · intro y hy; simp only [List.mem_cons, List.not_mem_nil, or_false] at hy; omega
  · exact hp _ _
  · exact h.ab
  · exact h.sb
  · exact hp _ _
  · exact h.ob
section
variable {w : World}
set_option maxRecDepth 100000 in
set_option maxHeartbeats 2000000 in
theorem btext_f {x : Bn} (hx : BnOk x) : Calls Tryz.prog 99 #[.agg (bnC x)] w fun e w' => ∃ q m c, e = .returned (.slice q m c) ∧ Bld w [] .u8 5 w' q m c (bunText x) := by
  obtain ⟨d, hd⟩ := Int.eq_ofNat_of_zero_le hx.d0
  obtain ⟨i, hi⟩ := Int.eq_ofNat_of_zero_le hx.i0
  have d1 : d < 256 := by have := hx.d1; omega
  have i1 : i < 65536 := by have := hx.i1; omega
  have la := hx.al
  have ls := hx.sl
  have lo := hx.ol
  obtain ⟨xs, hxs⟩ : ∃ xs, xs = bnC x := ⟨_, rfl⟩
  have hsz : xs.size = 162 := by rw [hxs, List.size_toArray, cBundle_length _ _ _ _ _ _ hx.al hx.sl hx.ol hx.gl]
  have x0 : xs[0]? = some (.int .u8 (d : Int)) := by rw [hxs, ← hd]; exact cBundle_get_device _ _ _ _ _ _ hx.al hx.sl hx.ol hx.gl
  have x1 : xs.extract 1 33 = ints .u8 x.agree := by rw [hxs]; exact cBundle_ext_agree _ _ _ _ _ _ hx.al hx.sl hx.ol hx.gl
  have x2 : xs.extract 33 65 = ints .u8 x.signer := by rw [hxs]; exact cBundle_ext_signer _ _ _ _ _ _ hx.al hx.sl hx.ol hx.gl
  have x3 : xs[65]? = some (.int .u16 (i : Int)) := by rw [hxs, ← hi]; exact cBundle_get_id _ _ _ _ _ _ hx.al hx.sl hx.ol hx.gl
  have x4 : xs.extract 66 98 = ints .u8 x.once := by rw [hxs]; exact cBundle_ext_once _ _ _ _ _ _ hx.al hx.sl hx.ol hx.gl
  have e9 : bunText x = joinB [[111, 110, 99, 101], putB d 1, x.agree, x.signer, putB i 2, x.once] := by simp only [bunText, hd, hi, Int.toNat_natCast]
  rw [← hxs]
  have HX := Lib.hid hxs
  have HE := Lib.hid e9
  clear hxs e9 hd hi
  generalize x.agree = ag at la x1 HE
  generalize x.signer = sg at ls x2 HE
  generalize x.once = on at lo x4 HE
  replace x0 := (Array.getElem?_eq_some_iff.1 x0).2
  replace x3 := (Array.getElem?_eq_some_iff.1 x3).2
  have hconv : (convert 49 49 (.slice (some ⟨w.heap.size + 1, 0, none⟩) 4 4)).run Tryz.prog ((w.alloc (.cells xs 65)).alloc (.cells #[.int .u8 111, .int .u8 110, .int .u8 99, .int .u8 101] 5)) =
      .ok (.slice (some ⟨w.heap.size + 1, 0, none⟩) 4 4) ((w.alloc (.cells xs 65)).alloc (.cells #[.int .u8 111, .int .u8 110, .int .u8 99, .int .u8 101] 5 (4, 5))) := by
    have := Lib.run_convert_bytes_const (P := Tryz.prog) (w.alloc (.cells xs 65)) 49 5 #[.int .u8 111, .int .u8 110, .int .u8 99, .int .u8 101] 4 4 Tryz.underlying49 Tryz.underlying5
    rw [World.size_alloc] at this
    exact this
  go_enter Tryz.func99, Tryz.ntmps99
  go_wp2_with fail
  have hO := ((((OwB.start w).allocN (.cells xs 65) w.heap.size rfl).allocN (.cells #[.int .u8 111, .int .u8 110, .int .u8 99, .int .u8 101] 5 (4, 5)) (w.heap.size + 1) (by simp)).allocN (.cells #[.slice (some ⟨w.heap.size + 1, 0, none⟩) 4 4] 49) (w.heap.size + 1 + 1) (by simp)).allocN (.cells #[.slice (some ⟨w.heap.size + 1 + 1, 0, none⟩) 1 1, .bool false] 160) (w.heap.size + 1 + 1 + 1) (by simp)
  refine OwB.named (Q := fun X => Calls Tryz.prog 85 _ X _) hO ?_
  clear hO hconv
  intro V hO
  generalize w.heap.size + 1 + 1 + 1 = b3 at *
  generalize w.heap.size + 1 + 1 = b2 at *
  generalize w.heap.size + 1 = b1 at *
  generalize w.heap.size = b0 at *
  have B := BldV.of (sz := 1) (n := 1) (cap := 1) (vs := [.slice (some ⟨b1, 0, none⟩) 4 4]) (r := #[]) (L := [(b3, .cells #[.slice (some ⟨b2, 0, none⟩) 1 1, .bool false] 160), (b1, .cells (ints .u8 [111, 110, 99, 101]) 5 (4, 5)), (b0, .cells xs 65)]) hO.swap rfl rfl (Nat.le_refl 1) (by simp [maxLen])
  clear hO
  have HB := Lib.hid B
  clear B
  refine (num_f (i := 0) (k := d) (s := 1) HB.out rfl (by omega) (by omega) (by omega) (by omega)).mono ?_
  rintro e w1 ⟨rfl, c1, p1, k1, B⟩
  have f0 := B.own.nth 3 rfl
  have t0 := B.own.lt 3 rfl
  clear HB
  have HB := Lib.hid B
  clear B
  go_wp2_with fail
  refine (key_f (i := 1) (k := ag) HB.out rfl (by omega) la).mono ?_
  clear f0 t0
  rintro e w2 ⟨rfl, c2, p2, k2, B⟩
  have f0 := B.own.nth 4 rfl
  have t0 := B.own.lt 4 rfl
  clear HB
  have HB := Lib.hid B
  clear B
  go_wp2_with fail
  refine (key_f (i := 2) (k := sg) HB.out rfl (by omega) ls).mono ?_
  clear f0 t0
  rintro e w3 ⟨rfl, c3, p3, k3, B⟩
  have f0 := B.own.nth 5 rfl
  have t0 := B.own.lt 5 rfl
  clear HB
  have HB := Lib.hid B
  clear B
  go_wp2_with fail
  refine (num_f (i := 3) (k := i) (s := 2) HB.out rfl (by omega) (by omega) (by omega) (by omega)).mono ?_
  clear f0 t0
  rintro e w4 ⟨rfl, c4, p4, k4, B⟩
  have f0 := B.own.nth 6 rfl
  have t0 := B.own.lt 6 rfl
  clear HB
  have HB := Lib.hid B
  clear B
  go_wp2_with fail
  refine (key_f (i := 4) (k := on) HB.out rfl (by omega) lo).mono ?_
  clear f0 t0
  rintro e w5 ⟨rfl, c5, p5, k5, B⟩
  have f0 := B.own.nth 5 rfl
  have S : Sll w5 p5 6 k5 [[111, 110, 99, 101], putB d 1, ag, sg, putB i 2, on] :=
    Sll.of B.sv (.cons (Sl.whole (B.own.nth 6 rfl) rfl) (.cons (Sl.whole (B.own.nth 4 rfl) (putB_len _ _)) (.cons (Sl.whole (B.own.nth 3 rfl) la) (.cons (Sl.whole (B.own.nth 2 rfl) ls) (.cons (Sl.whole (B.own.nth 1 rfl) (putB_len _ _)) (.cons (Sl.whole (B.own.nth 0 rfl) lo) .nil))))))
  have F := Lib.hid B.own.fr
  have HS := Lib.hid S
  clear HB B S
  go_wp2_with fail
  refine (done_f f0 HS.out (by simp [fits, putB_len, la, ls, lo])).mono ?_
  rintro e w6 ⟨q, m, c, rfl, B⟩
  have HB := Lib.hid B
  clear B f0
  go_wp2_with fail
  rw [HE.out]
  exact bodyPost_ret (results_tmp rfl _ _ _) rfl ⟨q, m, c, rfl, HB.out.lift ((OwB.start w).call F.out)⟩
end
end Go.Proofs.YtbhnfohoclcjdaaGreat
namespace Go.Proofs.YtbhnfohoclcjdaaGreat
open Go.RowKit Go.Dr Go.Kd
section
variable {w : World}
set_option maxRecDepth 100000 in
set_option maxHeartbeats 2000000 in
theorem public_f {lo tb : Nat} {T : List Tm} {k : List Int} (h : TabP lo tb w T) (hk : k.length = 32) (hb : isBytes k) :
    Calls Tryz.prog 53 #[SU tb, .agg (ints .u8 k)] w fun e w' => e = .returned (.agg (ints .u8 (makeT T (2, [k])).2.1)) ∧ TabP lo tb w' (makeT T (2, [k])).1 ∧ FrP lo w w' := by
  have H := Lib.hid h
  have HB := Lib.hid hb
  clear h hb
  go_enter Tryz.func53, Tryz.ntmps53
  go_wp2_with fail
  refine named_world (A := fun X => OwB w [(w.heap.size + 1 + 1, .cells (ints .u8 (zs 32)) 34), (w.heap.size + 1, .cells (ints .u8 k) 34), (w.heap.size, .cells #[.pointer (some ⟨tb, 0, none⟩)] 27)] X) (Q := fun X => Code.wp _ _ _ _ X) ((((OwB.start w).allocN _ w.heap.size rfl).allocN _ (w.heap.size + 1) (by simp)).allocN _ (w.heap.size + 1 + 1) (by simp)) ?_
  intro V hV
  generalize w.heap.size + 1 + 1 = b4 at hV ⊢
  generalize w.heap.size + 1 = b3 at hV ⊢
  generalize w.heap.size = b2 at hV ⊢
  have f2 := hV.nth 2 rfl
  have f3 := hV.nth 1 rfl
  have t2 := World.at_lt f2
  have t3 := World.at_lt f3
  have HV := Lib.hid hV
  clear hV
  refine drawn_begin 4 (fun w' => w'.blk b2 = some (.cells #[.pointer (some ⟨tb, 0, none⟩)] 27) ∧ w'.blk b3 = some (.cells (ints .u8 k) 34)) (by kernel_rfl) ?_
  refine drawn_reads (fuel := 3) [0, 1] rfl (by kernel_rfl) ⟨f2, f3⟩ ?_
  repeat (first | (refine rowK_step2 rfl rfl (fun K hK => ?_); go_wp2) | (refine rowK_step rfl (fun K hK => ?_); go_simp; refine hK _ ?_; clear hK K))
  refine rowK_nil ⟨fun w' e1 => ?_, ?_⟩
  · obtain ⟨e1, e2⟩ := e1
    clear f2 f3
    repeat (first | (refine rowWp_step2 rfl rfl (fun K hK => ?_); go_wp2) | (refine rowWp_step rfl (fun K hK => ?_); go_simp; refine hK _ ?_; clear hK K))
    exact rowWp_nil rfl
  refine drawn_next 2 (fuel := 2) rfl (by kernel_rfl) ?_
  intro K hK
  go_wp2_with fail
  refine ⟨⟨by go_simp, by go_simp⟩, ?_⟩
  refine drawn_next 3 (fuel := 1) rfl (by kernel_rfl) ?_
  intro K hK
  go_wp2_with fail
  refine named_world (A := fun X => OwB w [(V.heap.size, .cells #[.slice (some ⟨b3, 0, none⟩) 32 32] 49), (b4, .cells (ints .u8 (zs 32)) 34), (b3, .cells (ints .u8 k) 34), (b2, .cells #[.pointer (some ⟨tb, 0, none⟩)] 27)] X) (Q := fun X => Calls Tryz.prog 40 _ X _) (HV.out.allocN _ V.heap.size rfl).drew ?_
  intro V5 hV5
  clear f2 f3 t2 t3
  generalize V.heap.size = bx at hV5 ⊢
  refine (mk_f (H.out.fr0 hV5.fr) (sll_one (hV5.nth 2 rfl) (hV5.nth 0 rfl) hk) (good_one (by decide) (by decide) hk HB.out)).mono ?_
  rintro e w1 ⟨rfl, hT, F⟩
  have f4 := F.get (hV5.nth 1 rfl) (.inr ⟨by decide, by decide⟩)
  have f3 := F.get (hV5.nth 2 rfl) (.inr ⟨by decide, by decide⟩)
  have f2 := F.get (hV5.nth 3 rfl) (.inr ⟨by decide, by decide⟩)
  have l4 := hV5.low 1 rfl
  have t4 := World.at_lt f4
  have HT := Lib.hid hT
  have HF := Lib.hid ((FrT.of hV5.fr).trans F)
  have hk2 := makeT_len T (2, [k])
  generalize hke : (makeT T (2, [k])).2.1 = k2 at hk2 ⊢
  have HKE := Lib.hid hke
  clear hT F hV5 hke
  go_wp2_with fail
  refine ⟨⟨f2, f3⟩, ?_⟩
  refine drawn_end rfl (by kernel_rfl) ?_
  intro K hK
  go_wp2_with fail
  refine ret_cell rfl rfl rfl ?_
  go_simp
  exact ⟨by kernel_rfl, by rw [HKE.out], HT.out.put f4 (by decide) _, HF.out.put _ l4⟩
theorem verify_s {lo tb : Nat} {T : List Tm} {k t s : List Int} {p : Option Addr} {n cap : Nat} (h : TabP lo tb w T) (hk : k.length = 32) (hb : isBytes k) (S : Sl .u8 w p n cap t) (ht : isBytes t) (hs : s.length = 64) (hsb : isBytes s) :
    Calls Tryz.prog 48 #[SU tb, .agg (ints .u8 k), .slice p n cap, .agg (ints .u8 s)] w fun e w' => e = .returned (.bool (verifyF T k t s)) ∧ Fr [] w w' := by
  have e : s = s.take 32 ++ s.drop 32 := (List.take_append_drop 32 s).symm
  rw [e]
  exact verify_f h hk hb S ht (by rw [List.length_take]; omega) (by rw [List.length_drop]; omega) (fun y hy => hsb y (List.mem_of_mem_take hy))
set_option maxRecDepth 100000 in
set_option maxHeartbeats 2000000 in
theorem acheck_f {lo tb : Nat} {T : List Tm} {x : Bn} (h : TabP lo tb w T) (hx : BnOk x) :
    Calls Tryz.prog 61 #[SU tb, .agg (bnC x)] w fun e w' => e = .returned (.bool (verifyF T x.signer (bunText x) x.sig)) ∧ Fr [] w w' := by
  have H := Lib.hid h
  obtain ⟨xs, hxs⟩ : ∃ xs, xs = bnC x := ⟨_, rfl⟩
  have hsz : xs.size = 162 := by rw [hxs, List.size_toArray, cBundle_length _ _ _ _ _ _ hx.al hx.sl hx.ol hx.gl]
  have xall : xs.extract 0 162 = xs := by rw [← hsz]; exact Array.extract_size
  have x2 : xs.extract 33 65 = ints .u8 x.signer := by rw [hxs]; exact cBundle_ext_signer _ _ _ _ _ _ hx.al hx.sl hx.ol hx.gl
  have x5 : xs.extract 98 162 = ints .u8 x.sig := by rw [hxs]; exact cBundle_ext_sig _ _ _ _ _ _ hx.al hx.sl hx.ol hx.gl
  have c1 : ∀ W : World, Calls Tryz.prog 99 #[.agg xs] W fun e w' => ∃ q m c, e = .returned (.slice q m c) ∧ Bld W [] .u8 5 w' q m c (bunText x) := fun W => by rw [hxs]; exact btext_f hx
  have C1 := Lib.hid c1
  have HX := Lib.hid hx
  rw [← hxs]
  clear h hx hxs c1
  go_enter Tryz.func61, Tryz.ntmps61
  go_upto_region 1 with (fail)
  refine named_world (A := fun X => OwB w [(w.heap.size + 1, .cells xs 65), (w.heap.size, .cells #[.pointer (some ⟨tb, 0, none⟩)] 27)] X) (Q := fun X => Code.wp _ _ _ _ X) (((OwB.start w).allocN _ w.heap.size rfl).allocN _ (w.heap.size + 1) (by simp)) ?_
  intro V hV
  generalize w.heap.size + 1 = b3 at hV ⊢
  generalize w.heap.size = b2 at hV ⊢
  have f3 := hV.nth 0 rfl
  have f2 := hV.nth 1 rfl
  have t3 := World.at_lt f3
  have t2 := World.at_lt f2
  have HV := Lib.hid hV
  clear hV
  refine drawn_begin 8 (fun w' => w'.blk b2 = some (.cells #[.pointer (some ⟨tb, 0, none⟩)] 27) ∧ w'.blk b3 = some (.cells xs 65)) (by kernel_rfl) ?_
  refine drawn_reads (fuel := 3) [0, 1, 2, 3, 5, 6] rfl (by kernel_rfl) ⟨f2, f3⟩ ?_
  repeat (first | (refine rowK_step2 rfl rfl (fun K hK => ?_); go_wp2) | (refine rowK_step rfl (fun K hK => ?_); go_simp; refine hK _ ?_; clear hK K))
  refine rowK_nil ⟨fun w' e1 => ?_, ?_⟩
  · obtain ⟨e1, e2⟩ := e1
    clear f2 f3
    repeat (first | (refine rowWp_step2 rfl rfl (fun K hK => ?_); go_wp2) | (refine rowWp_step rfl (fun K hK => ?_); go_simp; refine hK _ ?_; clear hK K))
    exact rowWp_nil rfl
  refine drawn_next 4 (fuel := 2) rfl (by kernel_rfl) ?_
  intro K hK
  go_wp2_with fail
  refine (C1.out _).mono ?_
  rintro e V1 ⟨q, m, c, rfl, hB⟩
  have hV1 := HV.out.drew.call hB.own.fr
  clear f2 f3 t2 t3
  have f3 := hV1.nth 0 rfl
  have f2 := hV1.nth 1 rfl
  have HV1 := Lib.hid hV1
  have HBt := Lib.hid hB
  clear hV1 hB
  go_wp2_with fail
  refine ⟨⟨f2, f3⟩, ?_⟩
  refine drawn_next 7 (fuel := 1) rfl (by kernel_rfl) ?_
  intro K hK
  go_wp2_with fail
  refine (verify_s (H.out.fr0 HV1.out.fr) HX.out.sl HX.out.sb HBt.out.sl (isBytes_bun HX.out) HX.out.gl HX.out.gb).mono ?_
  rintro e V2 ⟨rfl, F⟩
  have hV2 := HV1.out.call F
  clear f2 f3
  have f3 := hV2.nth 0 rfl
  have f2 := hV2.nth 1 rfl
  have HV2 := Lib.hid hV2
  clear hV2 F
  go_wp2_with fail
  refine ⟨⟨f2, f3⟩, ?_⟩
  refine drawn_end rfl (by kernel_rfl) ?_
  intro K hK
  go_wp2_with fail
  exact bodyPost_ret (results_tmp rfl _ _ _) rfl ⟨rfl, HV2.out.fr⟩
end
end Go.Proofs.YtbhnfohoclcjdaaGreat
namespace Go.Proofs.YtbhnfohoclcjdaaGreat
open Go.RowKit Go.Dr Go.Kd
section
variable {w : World}
set_option maxRecDepth 100000 in
set_option maxHeartbeats 2000000 in
theorem rput_b {n s : Nat} (h1 : 1 ≤ s) (h8 : s < 8) (hn : n < 256 ^ s) :
    Calls Tryz.prog 96 #[.int .u64 n, .int .i64 s] w fun e w' => ∃ b, e = .returned (.tuple #[.slice (some ⟨b, 0, none⟩) s s, .bool true]) ∧ w'.blk b = some (.cells (ints .u8 (putB n s)) 5) ∧ w.heap.size ≤ b ∧ Fr [] w w' := by
  have hn64 : n < 18446744073709551616 := Nat.lt_of_lt_of_le hn (Nat.le_trans (Nat.pow_le_pow_right (by omega) (by omega : s ≤ 8)) (by decide))
  go_enter Tryz.func96, Tryz.ntmps96
  have d1 : decide ((s : Int) < 1) = false := by rw [decide_eq_false_iff_not]; omega
  have d2 : decide ((s : Int) > 8) = false := by rw [decide_eq_false_iff_not]; omega
  have m0 : (0 : Int) ≤ s := by omega
  have m1 : (s : Int) ≤ 281474976710656 := by omega
  have w1 : IntKind.i64.wrap ((s : Int) - 1) = (s : Int) - 1 := by rw [IntKind.wrap_i64]; omega
  go_wp2_with fail
  refine OwB.named (Q := fun X => Code.wp _ _ _ _ X) (show OwB w [(w.heap.size, .cells (ints .u8 (rowP n s 0)) 5)] _ from (by rw [rowP_zero]; exact (OwB.start w).allocN (.cells (ints .u8 (zs s)) 5) w.heap.size rfl)) ?_
  intro V hV
  obtain ⟨b, hb⟩ : ∃ b, b = w.heap.size := ⟨_, rfl⟩
  rw [← hb] at hV ⊢
  have HB := Lib.hid hb
  clear hb w1
  go_loopw [0, 7] (fun nv iv wy => ∃ (j : Nat) (k : Int) (m : Nat), j ≤ s ∧ Hid (k = (s : Int) - 1 - j) ∧ iv = .int .i64 k ∧ nv = .int .u64 (m : Int) ∧ Hid (m = n / 256 ^ j) ∧ Hid (OwB w [(b, .cells (ints .u8 (rowP n s j)) 5)] wy)) (fun _ iv _ => (intOf iv + 1).toNat)
  case atStart => exact ⟨0, _, n, by omega, Lib.hid (by simp), rfl, rfl, Lib.hid (by simp), Lib.hid hV⟩
  case round =>
    clear hV
    obtain ⟨j, k, m, hj, hk, rfl, rfl, hm, hO⟩ := hrel
    have f0 := hO.out.nth 0 rfl
    have t0 := hO.out.lt 0 rfl
    obtain ⟨U, hU⟩ : ∃ U, U = rowP n s j := ⟨_, rfl⟩
    have lU : U.length = s := by rw [hU, length_rowP]
    rw [← hU] at f0
    have HU := Lib.hid hU
    clear hU
    have hm64 : m < 18446744073709551616 := by rw [hm.out]; exact Nat.lt_of_le_of_lt (Nat.div_le_self _ _) hn64
    by_cases hlt : j < s
    · have hd : decide (k ≥ 0) = true := by rw [decide_eq_true_eq, hk.out]; omega
      have hd2 : decide (0 ≤ k) = true := by rw [decide_eq_true_eq, hk.out]; omega
      obtain ⟨q, hq⟩ : ∃ q : Nat, k = (q : Int) := ⟨s - 1 - j, by rw [hk.out]; omega⟩
      have hqs : q < s := by have := hk.out; omega
      have hqe : q = s - 1 - j := by have := hk.out; omega
      subst hq
      have w3 : IntKind.i64.wrap ((q : Int) - 1) = (q : Int) - 1 := by rw [IntKind.wrap_i64]; omega
      have w4 : IntKind.u8.wrap ((m : Int) % 256) = (m : Int) % 256 := by rw [IntKind.wrap_u8]; omega
      have w5 : IntKind.u64.wrap ((m : Int) / 256) = (m : Int) / 256 := by rw [IntKind.wrap_u64, Int.emod_eq_of_lt] <;> omega
      have HQ := Lib.hid hqe
      clear hqe
      go_wp2
      go_roundw
      case rel =>
        refine ⟨j + 1, (q : Int) - 1, m / 256, by omega, Lib.hid (by have := HQ.out; omega), rfl, by simp, Lib.hid (by rw [hm.out, Nat.div_div_eq_div_mul, Nat.pow_succ]), Lib.hid ?_⟩
        have hn2 := hO.out.set 0 (.cells (ints .u8 (rowP n s (j + 1))) 5) rfl
        have ev : U.set q ((m : Int) % 256) = rowP n s (j + 1) := by
          rw [HU.out, HQ.out, ← rowP_succ hlt, ← hm.out]
          try rfl
        rw [ev]
        exact hn2
      case measure => simp [intOf]
    · obtain rfl : j = s := by omega
      have hd : decide (k ≥ 0) = false := by rw [decide_eq_false_iff_not, hk.out]; omega
      have hd2 : decide (0 ≤ k) = false := by rw [decide_eq_false_iff_not, hk.out]; omega
      have hm0 : m = 0 := by rw [hm.out]; exact Nat.div_eq_of_lt hn
      have hmd : ((m : Int) != 0) = false := by rw [hm0]; rfl
      clear hm0
      go_wp2
      refine bodyPost_ret (results_tmp2 rfl _ _ _) rfl ⟨b, rfl, ?_, by rw [HB.out]; exact Nat.le_refl _, hO.out.fr⟩
      rw [HU.out, rowP_full] at f0
      exact f0
set_option maxRecDepth 100000 in
set_option maxHeartbeats 2000000 in
theorem rnum_b {n s : Nat} (h1 : 1 ≤ s) (h8 : s < 8) (hn : n < 256 ^ s) :
    Calls Tryz.prog 58 #[.int .i64 n, .int .i64 s] w fun e w' => ∃ b, e = .returned (.slice (some ⟨b, 0, none⟩) s s) ∧ w'.blk b = some (.cells (ints .u8 (putB n s)) 5) ∧ w.heap.size ≤ b ∧ Fr [] w w' := by
  have hn64 : n < 18446744073709551616 := Nat.lt_of_lt_of_le hn (Nat.le_trans (Nat.pow_le_pow_right (by omega) (by omega : s ≤ 8)) (by decide))
  have w1 : IntKind.u64.wrap (n : Int) = n := by rw [IntKind.wrap_u64, Int.emod_eq_of_lt] <;> omega
  go_enter Tryz.func58, Tryz.ntmps58
  go_wp2_with fail
  refine (rput_b h1 h8 hn).mono ?_
  rintro e w1 ⟨b, rfl, hb, hs, F⟩
  have HB := Lib.hid hb
  have HF := Lib.hid F
  clear hb F
  go_wp2_with fail
  exact bodyPost_ret (results_tmp rfl _ _ _) rfl ⟨b, rfl, HB.out, hs, HF.out⟩
theorem putB_two {m : Nat} (hm : m ≤ 4096) : putB m 2 = [((m / 256 : Nat) : Int), ((m % 256 : Nat) : Int)] := by
  simp [putB, List.range, List.range.loop]
  omega
set_option maxRecDepth 100000 in
set_option maxHeartbeats 2000000 in
theorem rjoin_f {p : Option Addr} {n cap : Nat} {ls : List (List Int)} (S : Sll w p n cap ls) (hf : fits ls = true) :
    Calls Tryz.prog 67 #[.slice p n cap] w fun e w' => ∃ q m c, e = .returned (.tuple #[.slice q m c, .bool true]) ∧ Bld w [] .u8 5 w' q m c (joinB ls) := by
  have HS := Lib.hid S
  have HN := Lib.hid S.len
  have hf1 : n ≤ 64 := by
    simp only [fits, Bool.and_eq_true, decide_eq_true_eq] at hf
    rw [HN.out] at hf
    exact hf.1
  have hf2 : ∀ l ∈ ls, l.length ≤ 4096 := by
    simp only [fits, Bool.and_eq_true, decide_eq_true_eq, List.all_eq_true] at hf
    exact hf.2
  have HF := Lib.hid hf2
  clear S hf hf2
  go_enter Tryz.func67, Tryz.ntmps67
  have d1 : decide ((n : Int) > 64) = false := by rw [decide_eq_false_iff_not]; omega
  have w1 : IntKind.u8.wrap (n : Int) = n := by rw [IntKind.wrap_u8, Int.emod_eq_of_lt] <;> omega
  go_wp2_with fail
  have hB0 : Bld w [] .u8 5 (w.alloc (.cells #[.int .u8 (n : Int)] 5)) (some ⟨w.heap.size, 0, none⟩) 1 1 (joinP ls 0) := by
    have h1 := Bld.of (k := .u8) (e := 5) (l := [(n : Int)]) (r := #[]) ((OwB.start w).allocN (.cells #[.int .u8 (n : Int)] 5) w.heap.size rfl) (by simp [maxLen])
    have e : joinP ls 0 = [(n : Int)] := by unfold joinP; rw [HN.out]; rfl
    rw [e]
    exact h1
  have HB0 := Lib.hid hB0
  clear hB0
  go_loopw [4, 5] (fun v iv wy => ∃ (i : Nat) (q : Option Addr) (m c : Nat), i ≤ n ∧ iv = .int .i64 (i : Int) ∧ v = .slice q m c ∧ m ≤ 1 + 4098 * i ∧ Hid (Bld w [] .u8 5 wy q m c (joinP ls i))) (fun _ iv _ => (n - intOf iv).toNat)
  case atStart => exact ⟨0, _, 1, 1, by omega, rfl, rfl, by omega, HB0⟩
  case round =>
    clear HB0
    obtain ⟨i, q, m, c, hi9, rfl, rfl, hm, hO⟩ := hrel
    by_cases hlt : i < n
    · have hd : decide ((i : Int) < (n : Int)) = true := by rw [decide_eq_true_eq]; omega
      obtain ⟨b, off, cs, T, fr, q2, m2, c2, l2, rfl, f00, hs, hc, hl, S2⟩ := HS.out.at hlt
      have f0 := hO.out.own.fr.get f00 (by simp)
      have hc2 := (Array.getElem?_eq_some_iff.1 hc).2
      have hl2 := HF.out l2 (List.mem_of_getElem? hl)
      have hm2 := S2.len
      have d2 : decide ((m2 : Int) > 4096) = false := by rw [decide_eq_false_iff_not]; omega
      have HL := Lib.hid hl
      have HS2 := Lib.hid S2
      have HM2 := Lib.hid hm2
      have F00 := Lib.hid f00
      clear hl S2 hm2 hl2 f00
      have hml : m2 ≤ 4096 := by rw [← HM2.out]; exact HF.out l2 (List.mem_of_getElem? HL.out)
      go_wp2_with fail
      refine (rnum_b (n := m2) (s := 2) (by omega) (by omega) (by omega)).mono ?_
      rintro e w3 ⟨b3, rfl, hb3, hs3, F3⟩
      have HO3 := Lib.hid (hO.out.call F3)
      have HB3 := Lib.hid hb3
      clear f0 hb3 F3 hs3
      have f0 := HO3.out.own.fr.get F00.out (by simp)
      go_wp2_with (refine wpList_app47 rfl _ _ rfl rfl HO3.out rfl (Sl.whole HB3.out (putB_len _ _)) (by omega) ?_)
      intro q3 c3 W3 hB3
      have HB4 := Lib.hid hB3
      have f1 := hB3.own.fr.get F00.out (by simp)
      clear hB3 f0
      go_wp2_with (refine wpList_app47 rfl _ _ rfl rfl HB4.out rfl (HS2.out.fr0 HB4.out.own.fr) (by omega) ?_)
      intro q4 c4 W4 hB4
      have HB5 := Lib.hid hB4
      clear hB4 f1
      go_wp2_with fail
      go_roundw
      case rel =>
        refine ⟨i + 1, q4, m + 2 + m2, c4, by omega, by simp, rfl, by omega, ?_⟩
        rw [joinP_succ HL.out, HM2.out, ← putB_two hml, List.append_assoc]
        exact HB5
      case measure => simp [intOf]; omega
    · obtain rfl : i = n := by omega
      have hd : decide ((i : Int) < (i : Int)) = false := by simp
      have ev := joinP_full HN.out
      rw [ev] at hO
      go_wp2_with fail
      exact bodyPost_ret (results_tmp2 rfl _ _ _) rfl ⟨q, m, c, rfl, hO.out⟩
set_option maxRecDepth 100000 in
set_option maxHeartbeats 2000000 in
theorem rall_f {p : Option Addr} {n cap : Nat} {ls : List (List Int)} (S : Sll w p n cap ls) (hf : fits ls = true) :
    Calls Tryz.prog 57 #[.slice p n cap] w fun e w' => ∃ q m c, e = .returned (.slice q m c) ∧ Bld w [] .u8 5 w' q m c (joinB ls) := by
  have HS := Lib.hid S
  clear S
  go_enter Tryz.func57, Tryz.ntmps57
  go_wp2_with fail
  refine (rjoin_f HS.out hf).mono ?_
  rintro e w1 ⟨q, m, c, rfl, B⟩
  have HB := Lib.hid B
  clear B
  go_wp2_with fail
  exact bodyPost_ret (results_tmp rfl _ _ _) rfl ⟨q, m, c, rfl, HB.out⟩
end
end Go.Proofs.YtbhnfohoclcjdaaGreat
