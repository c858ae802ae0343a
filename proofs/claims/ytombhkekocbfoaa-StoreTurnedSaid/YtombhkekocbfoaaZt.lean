/- Joined: SoTb, SoTc, SoTd, SoTe. -/
import Derived.Test.YtombhkekocbfoaaZs
set_option linter.unusedVariables false
set_option linter.unusedSimpArgs false
namespace Go.Proofs.Ytombhkekocbfoaa
open Go.RowKit Go.Dr Go.Kd Go.St
theorem bits_xor (z y : Nat) (hz : z < 256) (hy : y < 256) : bits .xor .u8 (z : Int) (y : Int) = ((z ^^^ y : Nat) : Int) := by
  show IntKind.u8.wrap ((BitVec.ofInt 8 (z : Int) ^^^ BitVec.ofInt 8 (y : Int)).toNat : Int) = _
  rw [BitVec.toNat_xor, BitVec.ofInt_natCast, BitVec.ofInt_natCast, BitVec.toNat_ofNat, BitVec.toNat_ofNat, Nat.mod_eq_of_lt (by omega), Nat.mod_eq_of_lt (by omega)]
  have := Nat.xor_lt_two_pow (n := 8) hz hy
  rw [IntKind.wrap_u8]
  omega
theorem xor_ne {z y : Nat} (hy : 0 < y) : z ^^^ y ≠ z := fun h => by
  have h2 := congrArg (z ^^^ ·) h
  simp only [← Nat.xor_assoc, Nat.xor_self, Nat.zero_xor] at h2
  omega
/-- The block of a place, with that byte another one, laid back. -/
theorem lay_turn {l : Bs} {p : Nat} {y : Int} (hp : p / 64 * 64 + 64 ≤ l.length) : lay l (p / 64 * 64) ((seg l (p / 64 * 64) 64).set (p % 64) y) = l.set p y := by
  have hs : (seg l (p / 64 * 64) 64).length = 64 := seg_length hp
  have e : l.set p y = l.take (p / 64 * 64) ++ ((seg l (p / 64 * 64) 64).set (p % 64) y ++ l.drop (p / 64 * 64 + 64)) := by
    have h1 : l = l.take (p / 64 * 64) ++ (seg l (p / 64 * 64) 64 ++ l.drop (p / 64 * 64 + 64)) := by
      unfold seg
      rw [← List.drop_drop, List.take_append_drop, List.take_append_drop]
    have hlt : (l.take (p / 64 * 64)).length = p / 64 * 64 := by rw [List.length_take]; omega
    conv => lhs; rw [h1]
    rw [List.set_append_right _ _ (by rw [hlt]; omega), hlt, List.set_append_left _ _ (by rw [hs]; omega), show p - p / 64 * 64 = p % 64 by omega]
  rw [e, lay, List.length_set, hs, List.append_assoc]
section
variable {w : World}
set_option maxRecDepth 100000 in
set_option maxHeartbeats 8000000 in
theorem t37_f {Q : Exit → Act → World → Prop} {tm : Array Value} {w0 W : World} {d k5 c3 c5 y : Nat} {q3 q5 : Option Addr} {at_ : Int} {m : DM} {sp : SP} {fp : List Nat} (sz : tm.size = 231)
    (s1 : tm.getD 1 undef = .int .i64 at_) (s2 : tm.getD 2 undef = .int .u8 (y : Int)) (s7 : tm.getD 7 undef = .pointer (some ⟨d, 0, none⟩)) (s14 : tm.getD 14 undef = .slice q3 2048 c3) (s15 : tm.getD 15 undef = .slice q5 k5 c5)
    (hat : 0 ≤ at_ ∧ at_ ≤ 9223372036854775807) (hy : 0 < y ∧ y < 256) (D : DiskAt W d m fp) (G : Go.St.Good m sp) (hf : m.fuse = -1) (hb : BytM m) (hn : m.n = 32) (SI : Sl .u8 W q3 2048 c3 m.kept) (SP : Sl .i64 W q5 k5 c5 ((PL m sp).map fun x : Nat => (x : Int))) (hk5 : 0 < k5 ∧ k5 ≤ 100000)
    (hlo : ∀ k ∈ fp, w0.heap.size ≤ k) (F0 : Fr [] w0 W) (HQ : TEnd w0 Q) : t37.wp Try.prog Q ⟨tm, []⟩ W := by
  obtain ⟨u, rfl⟩ := frm6_of sz
  have a1 : u 1 = _ := s1
  have a2 : u 2 = _ := s2
  have a7 : u 7 = _ := s7
  have a14 : u 14 = _ := s14
  have a15 : u 15 = _ := s15
  have HQ := Lib.hid HQ
  have HD := Lib.hid D
  have HG := Lib.hid G
  have HFZ := Lib.hid hf
  have HB := Lib.hid hb
  have HN := Lib.hid hn
  have HSI := Lib.hid SI
  have HLO := Lib.hid hlo
  have HF0 := Lib.hid F0
  obtain ⟨hat0, hat1⟩ := hat
  obtain ⟨hy0, hy1⟩ := hy
  obtain ⟨hk0, hk1⟩ := hk5
  -- the place
  obtain ⟨j, hj⟩ : ∃ j, j = (at_ % (k5 : Int)).toNat := ⟨_, rfl⟩
  have hm1 := Int.emod_nonneg at_ (show (k5 : Int) ≠ 0 by omega)
  have hm2 := Int.emod_lt_of_pos at_ (show (0 : Int) < (k5 : Int) by omega)
  have hrem : at_.tmod (k5 : Int) = (j : Int) := by rw [Int.tmod_eq_emod_of_nonneg hat0]; omega
  have hjk : j < k5 := by omega
  have hk5n : (k5 : Int) ≠ 0 := by omega
  have hpl : (PL m sp).length = k5 := by have := SP.len; rwa [List.length_map] at this
  obtain ⟨p, hp⟩ : ∃ p, (PL m sp)[j]? = some p := ⟨_, List.getElem?_eq_getElem (by omega)⟩
  have hpm := List.mem_of_getElem? hp
  have hplt := pl_lt G hpm
  rw [hn] at hplt
  obtain ⟨b5, o5, cs5, T5, fr5, rfl, fb5, hs5, hc5⟩ := SP.at hjk
  have hel : el ((PL m sp).map fun x : Nat => (x : Int)) j = (p : Int) := by
    rw [el, List.getD_eq_getElem?_getD, List.getElem?_map, hp]; rfl
  rw [hel] at hc5
  obtain ⟨hc5', hc5⟩ := Array.getElem?_eq_some_iff.1 hc5
  have HPM := Lib.hid hpm
  -- the block
  obtain ⟨pb, hpb⟩ : ∃ pb, pb = p / 64 := ⟨_, rfl⟩
  obtain ⟨pm, hpm2⟩ : ∃ pm, pm = p % 64 := ⟨_, rfl⟩
  have hq1 : (p : Int).tdiv 64 = (pb : Int) := by rw [Int.tdiv_eq_ediv_of_nonneg (by omega)]; omega
  have hq2 : (p : Int).tmod 64 = (pm : Int) := by rw [Int.tmod_eq_emod_of_nonneg (by omega)]; omega
  have hpb31 : pb ≤ 31 := by omega
  have hpm63 : pm < 64 := by omega
  have HPB := Lib.hid hpb
  have HPMD := Lib.hid hpm2
  obtain ⟨b3, o3, cs3, T3, fr3, rfl, fb3, hs3, hx3⟩ := SI.out (by omega)
  have hcap := SI.cap_
  have hkl := G.ok.kl
  rw [hn] at hkl
  have HKL := Lib.hid hkl
  have qa : (0 : Int) ≤ (pb : Int) * 64 := by omega
  have qb : (pb : Int) * 64 ≤ (pb : Int) * 64 + 64 := by omega
  have qc : (pb : Int) * 64 + 64 ≤ (c3 : Int) := by omega
  have qd : ¬ c3 = pb * 64 := by omega
  have qe : ((pb : Int) * 64).toNat = pb * 64 := by omega
  have qf : ((pb : Int) * 64 + 64).toNat = pb * 64 + 64 := by omega
  have hS1 : ∀ X : World, Fr [] W X → Sl .u8 X (some ⟨b3, o3 + pb * 64, none⟩) 64 (c3 - pb * 64) (seg m.kept (pb * 64) 64) := fun X F => by
    have h := (HSI.out.fr0 F).part (i := pb * 64) (j := pb * 64 + 64) (c := c3) (by omega) (by omega) (by omega) (Nat.le_refl _)
    rw [if_neg qd, List.drop_take, Nat.add_sub_cancel_left] at h
    simpa [Addr.add_mid, seg] using h
  have HS1 := Lib.hid hS1
  have hB0 : Bld W [] .u8 5 (W.alloc (.cells #[] 5)) (some ⟨W.heap.size, 0, none⟩) 0 0 [] := Bld.made (OwB.start W) 0 (by decide)
  have HB0 := Lib.hid hB0
  have HS1L := Lib.hid (show (seg m.kept (pb * 64) 64).length = 64 from seg_length (by rw [hkl]; omega))
  have HSB := Lib.hid (show isBytes (seg m.kept (pb * 64) 64) from fun x hx => hb.1 x (List.mem_of_mem_drop (List.mem_of_mem_take hx)))
  have t5 := World.at_lt fb5
  clear hf hb D G SI SP hlo F0 s1 s2 s7 s14 s15 sz hpm hpl hp hel hpb hpm2 hx3 hS1 hB0 hj hm1 hm2 hkl fb3
  conv => arg 2; whnf
  unfold frm6
  rw [a1, a2, a7, a14, a15]
  clear a1 a2 a7 a14 a15
  go_wp2_with (refine wpList_app47 rfl _ _ rfl rfl HB0.out rfl (HS1.out _ ((Fr.refl [] W).alloc _)) (by omega) ?_)
  intro q6 c6 W6 B6
  have hW6 := Bld.wr B6
  obtain ⟨g, og, csg, Tg, z, rfl, fg, hz, ⟨z0', z0⟩, hsg, hxg⟩ := hW6.at HSB.out hpm63
  have hgn : W.heap.size ≤ g := (B6.new g rfl).1
  have hcg := hW6.1
  have HF6 := Lib.hid B6.own.fr
  have hzp : m.kept[p]? = some (z : Int) := by
    have h1 := congrArg (fun l : List Value => l[pm]?) hxg
    simp only [Array.getElem?_toList, List.getElem?_map] at h1
    rw [Array.getElem?_extract_of_lt (by omega), z0, Go.St.seg_get hpm63, HPB.out, HPMD.out, show p / 64 * 64 + p % 64 = p by omega] at h1
    cases hk : m.kept[p]? with
    | none => rw [hk] at h1; cases h1
    | some v =>
      rw [hk] at h1
      simp only [Option.map_some, Option.some.injEq, Value.int.injEq, true_and] at h1
      rw [h1]
  have hxor := bits_xor z y hz hy1
  obtain ⟨Y, hY⟩ : ∃ Y, Y = z ^^^ y := ⟨_, rfl⟩
  rw [← hY] at hxor
  have hY256 : Y < 256 := by rw [hY]; exact Nat.xor_lt_two_pow (n := 8) hz hy1
  have hYz : Y ≠ z := by rw [hY]; exact xor_ne hy0
  have HZP := Lib.hid hzp
  have HWS := Lib.hid (wrl_set fg hsg hxg hcg hpm63 (Y : Int))
  have tg := World.at_lt fg
  clear hW6 B6 hzp hY hxg fb5 t5 hc5
  go_wp2_with fail
  obtain ⟨B', hB'⟩ : ∃ B', B' = (seg m.kept (pb * 64) 64).set pm (Y : Int) := ⟨_, rfl⟩
  have hB'l : B'.length = 64 := by rw [hB', List.length_set]; exact HS1L.out
  have hB'b : isBytes B' := by rw [hB']; exact isBytes_set HSB.out (by omega)
  have hws := HWS.out
  rw [← hB'] at hws
  have HBE := Lib.hid hB'
  refine named_world (A := fun U => BytesAt U (.slice (some ⟨g, og, none⟩) 64 c6) g B' ∧ Fr [] W U) (Q := fun X => Calls Try.prog 17 _ X _) ⟨by
    rcases hws.2 with h0 | ⟨b', o', c', T', e, hb, hs, hx⟩
    · cases h0
    · cases e
      exact ⟨og, (0, 0), c6, c', T', by rw [hB'l], hb, by rw [hB'l]; exact hs, by rw [hB'l]; exact hcg, by rw [hB'l]; exact Array.ext' (by rw [hx, toList_ints])⟩, HF6.out.put g _ (fun hl => by omega)⟩ ?_
  rintro U ⟨hBA, FU⟩
  have hgf : g ∉ fp := fun h => by have := HD.out.lt g h; omega
  have hlive := lives_nofuse HG.out.dead HFZ.out
  have harg := argM_no (m := m) (p := pb) (b := B') (by rw [HN.out]; omega) hB'l
  have hwr : writeM m (pb : Int) B' = (0, { aliveM m with seen := lay m.seen (pb * 64) B', waits := m.waits ++ [(pb, B')] }) := by
    unfold writeM
    rw [harg, hlive.1]
    simp
  refine (write_any (HD.out.fr0 FU) (pb : Int) _ g B' hBA hgf (by rw [hB'l]; decide) (by rw [HG.out.wt]; decide)).mono ?_
  rintro en w7 ⟨rfl, fp7, D7, F7, N7⟩
  rw [hwr] at D7 ⊢
  obtain ⟨m2, hm2⟩ : ∃ m2, m2 = { aliveM m with seen := lay m.seen (pb * 64) B', waits := m.waits ++ [(pb, B')] } := ⟨_, rfl⟩
  simp only at D7 ⊢
  rw [← hm2] at D7
  have hn2 : m2.n = 32 := by rw [hm2]; exact (aliveM_same m).1.trans HN.out
  have hd2 : m2.dead = false := by rw [hm2]; exact hlive.2.2
  have hs2 : m2.seen = m.kept.set p (Y : Int) := by
    rw [hm2]
    show lay m.seen (pb * 64) B' = _
    rw [HG.out.sk, HBE.out, HPB.out, HPMD.out]
    exact lay_turn (by rw [HKL.out]; omega)
  have hw2 : m2.waits.length = 1 := by rw [hm2]; show (m.waits ++ [(pb, B')]).length = 1; rw [HG.out.wt]; rfl
  have hb2 : isBytes m2.seen := by rw [hs2]; exact isBytes_set HB.out.1 (by omega)
  have hop := turned_open HG.out HB.out.1 HPM.out (y := (Y : Int)) (by omega) (by rw [HZP.out]; intro h; injection h with h; omega) (hn2.trans HN.out.symm) hd2 hs2
  have HOP := Lib.hid hop
  have HD7 := Lib.hid D7
  have HB2 := Lib.hid hb2
  have HF7 := Lib.hid (show Fr [] w0 w7 from (HF0.out.trans FU).seq F7 (fun k hk hl => by have := HLO.out k hk; omega))
  have HN7 := Lib.hid (show ∀ k ∈ fp7, w0.heap.size ≤ k from fun k hk => by
    rcases N7 k hk with h | h
    · exact HLO.out k h
    · exact Nat.le_trans (HF0.out.trans FU).size h)
  clear hwr hlive harg hm2 hs2 hb2 hop D7 F7 N7 hws hB' hBA FU fg tg
  go_wp2_with fail
  refine (open_f HD7.out (by rw [hn2]; decide) HB2.out (by rw [hw2]; decide)).mono ?_
  intro en w8 hO
  rw [HOP.out] at hO
  obtain ⟨fp8, rfl, D8, F8, N8⟩ := hO
  have HF8 := Lib.hid (HF7.out.seq F8 (fun k hk hl => by have := HN7.out k hk; omega))
  clear D8 F8 N8
  go_wp2_with fail
  exact HQ.out _ _ rfl HF8.out
end
end Go.Proofs.Ytombhkekocbfoaa
namespace Go.Proofs.Ytombhkekocbfoaa
open Go.RowKit Go.Dr Go.Kd Go.St
theorem info3 : (Try.prog.info? 3).map (fun i => (i.zero, i.size, i.bytes)) = some (some (.int .i64 0), 1, 8) := by kernel_rfl
section
variable {w0 w : World} {L : List (Nat × Obj)} {p : Option Addr} {n cap : Nat} {l : List Int} {ops : Array Oper} {rest : List Oper} {o : Oper} {a : Act} {Q : Exit → Act → World → Prop}
/-- []int: append of a slice. -/
theorem wpList_app45 (hgd : o.guard = none) (s x : Operand) (ho : o.op = .call { callee := .builtin .append, args := #[s, x], argTypes := #[45, 45] })
    (hs : a.eval s = .slice p n cap) (B : Bld w0 L .i64 3 w p n cap l) {q : Option Addr} {m c : Nat} {l2 : List Int} (hx : a.eval x = .slice q m c) (S : Sl .i64 w q m c l2) (hbig : n + m ≤ 17592186044416)
    (h : ∀ p' cap' w', Bld w0 L .i64 3 w' p' (n + m) cap' (l ++ l2) → wpList Try.prog ops Q rest (a.put o.dst (.slice p' (n + m) cap')) w') : wpList Try.prog ops Q (o :: rest) a w := by
  obtain ⟨i, hi, hz, hs1, hb1⟩ := info_parts info3
  exact wpList_apd hgd s x 45 45 ho Try.underlying45 hi hz hs1 hb1 rfl hs B hx (Apd.ofSrc Try.underlying45 hi hz (by rw [hs1]; exact S.src Try.underlying45)) (by omega) (by omega) h
end
def nat_ints (l : List Nat) : List Int := l.map fun (x : Nat) => (x : Int)
theorem nat_ints_snoc (l : List Nat) (x : Nat) : nat_ints (l ++ [x]) = nat_ints l ++ [(x : Int)] := by simp [nat_ints]
/-- Between two records: the places so far. -/
structure RecI (W wy : World) (m : DM) (sp : SP) (k F : Nat) (q : Option Addr) (n c : Nat) : Prop where
  ex : ∃ (pls : List Nat) (x : Nat) (L' : List (Bs × Bs)), Bld W [] .i64 3 wy q n c (nat_ints pls) ∧ F = (sp.half * (m.n / 2) + 1) * 64 + x ∧ x % 64 = 0 ∧ x ≤ (sp.fin - 1) * 64 ∧ pls ++ plc (sp.count - k) ((recsM m sp.half sp.fin).drop x) F = PL m sp ∧ readR sp.epoch (sp.count - k) k ((recsM m sp.half sp.fin).drop x) L' = some sp.L
  kc : k ≤ sp.count
theorem plc_succ (c : Nat) (all : Bs) (off : Nat) : plc (c + 1) all off = ((List.range (4 + getB (all.take 4))).map fun i => off + 4 + i) ++ plc c (all.drop ((8 + getB (all.take 4) + 63) / 64 * 64)) (off + (8 + getB (all.take 4) + 63) / 64 * 64) := rfl
section
variable {w : World}
set_option maxRecDepth 100000 in
set_option maxHeartbeats 8000000 in
theorem t27_f {Q : Exit → Act → World → Prop} {tm : Array Value} {w0 W : World} {d r s t k5 c3 c5 y : Nat} {q3 q5 : Option Addr} {at_ : Int} {m : DM} {sp : SP} {fp rfp : List Nat} {pl0 : List Nat} (sz : tm.size = 231)
    (s1 : tm.getD 1 undef = .int .i64 at_) (s2 : tm.getD 2 undef = .int .u8 (y : Int)) (s7 : tm.getD 7 undef = .pointer (some ⟨d, 0, none⟩)) (s11 : tm.getD 11 undef = .pointer (some ⟨t, 0, none⟩)) (s14 : tm.getD 14 undef = .slice q3 2048 c3) (s15 : tm.getD 15 undef = .slice q5 k5 c5)
    (hat : 0 ≤ at_ ∧ at_ ≤ 9223372036854775807) (hy : 0 < y ∧ y < 256) {Wb : World} (T : TG w0 Wb d r s t m sp fp rfp) (SI : Sl .u8 Wb q3 2048 c3 m.kept) (B : Bld Wb [] .i64 3 W q5 k5 c5 (nat_ints pl0)) (hpl : pl0 = hdPl m 0 ++ hdPl m 1)
    (HQ : TEnd w0 Q) : t27.wp Try.prog Q ⟨tm, []⟩ W := by
  obtain ⟨u, rfl⟩ := frm6_of sz
  have a1 : u 1 = _ := s1
  have a2 : u 2 = _ := s2
  have a7 : u 7 = _ := s7
  have a11 : u 11 = _ := s11
  have a14 : u 14 = _ := s14
  have a15 : u 15 = _ := s15
  have HQ := Lib.hid HQ
  have HT := Lib.hid T
  have HSI := Lib.hid SI
  have HB := Lib.hid B
  have HPL := Lib.hid hpl
  have HPLL := Lib.hid (pl_len T.G)
  have HRL := Lib.hid (recs_len T.G)
  have HRR := Lib.hid (recs_read T.G)
  have hkh := T.G.k.half
  have hk1 := T.G.k.f1
  have hk2 := T.G.k.f2
  have hk3 := T.G.k.cnt
  have hn := T.n
  have HN := Lib.hid hn
  rw [hn] at hk2
  obtain ⟨⟨q, nL, c, ft, C⟩, -, -⟩ := T.P.T2
  obtain ⟨half, hhalf⟩ : ∃ half, half = sp.half := ⟨_, rfl⟩
  obtain ⟨cnt, hcnt⟩ : ∃ cnt, cnt = sp.count := ⟨_, rfl⟩
  obtain ⟨fin, hfin⟩ : ∃ fin, fin = sp.fin := ⟨_, rfl⟩
  have HNM := Lib.hid (And.intro hhalf (And.intro hcnt hfin))
  rw [← hhalf] at hkh ft
  rw [← hcnt] at hk3 ft
  rw [← hfin] at hk1 hk2 hk3 ft
  obtain ⟨SC, hSC⟩ : ∃ SC, SC = dsC r half sp.epoch cnt fin q nL c sp.broken := ⟨_, rfl⟩
  rw [← hSC] at ft
  have szC : SC.size = 7 := by rw [hSC]; rfl
  obtain ⟨x1', x1⟩ := Array.getElem?_eq_some_iff.1 (show SC[1]? = some (.int .i64 half) by rw [hSC]; rfl)
  obtain ⟨x3', x3⟩ := Array.getElem?_eq_some_iff.1 (show SC[3]? = some (.int .i64 cnt) by rw [hSC]; rfl)
  have HFT := Lib.hid ft
  replace ft := B.own.fr.get ft (by simp)
  have tt := World.at_lt ft
  clear T SI B hpl C hSC hhalf hcnt hfin s1 s2 s7 s11 s14 s15 sz hn
  conv => arg 2; whnf
  unfold frm6
  rw [a1, a2, a7, a11, a14, a15]
  clear a1 a2 a7 a11 a14 a15
  obtain ⟨F0, hF0⟩ : ∃ F0, F0 = (half * 16 + 1) * 64 := ⟨_, rfl⟩
  have hFi : 1024 * (half : Int) + 64 = (F0 : Int) := by omega
  have hF0b : F0 ≤ 1088 := by omega
  have HF0 := Lib.hid hF0
  have hI0 : RecI Wb W m sp 0 F0 q5 k5 c5 := ⟨⟨pl0, 0, [], HB.out, by rw [hF0, HN.out, ← HNM.out.1]; omega, rfl, Nat.zero_le _, by
    rw [List.drop_zero, Nat.sub_zero, hF0, HPL.out, PL, HN.out, ← HNM.out.1], by rw [List.drop_zero, Nat.sub_zero]; exact HRR.out⟩, Nat.zero_le _⟩
  have HI0 := Lib.hid hI0
  clear hF0 hI0
  go_upto_region 28 with (fail)
  rename_i K37 h37 Kb hb2
  have H37 := Lib.hid h37
  clear h37
  go_wp2_with fail
  go_loopw [15, 18, 19] (fun v fv kv wy => ∃ (k F : Nat) (q5 : Option Addr) (n5 c5 : Nat), k ≤ cnt ∧ F ≤ 2048 ∧ n5 ≤ 5000 ∧ v = .slice q5 n5 c5 ∧ fv = .int .i64 (F : Int) ∧ kv = .int .i64 (k : Int) ∧ Hid (RecI Wb wy m sp k F q5 n5 c5 ∧ Fr [] Wb wy)) (fun _ _ kv _ => (cnt - intOf kv).toNat)
  case atStart => exact ⟨0, F0, q5, k5, c5, Nat.zero_le _, by omega, by
    obtain ⟨pls, x, L', h1, -, -, -, h2, -⟩ := HI0.out.ex
    have h3 := h1.len
    have h4 := congrArg List.length h2
    have h5 := HPLL.out
    rw [HN.out] at h5
    rw [List.length_append] at h4
    rw [nat_ints, List.length_map] at h3
    omega, rfl, rfl, rfl, Lib.hid ⟨HI0.out, HB.out.own.fr⟩⟩
  case round =>
    obtain ⟨k, F, q5, n5, c5, hkc, hF, hn5, rfl, rfl, rfl, hW⟩ := hrel
    have f1 := hW.out.2.get HFT.out (by simp)
    have t1 := World.at_lt f1
    by_cases hlt : k < cnt
    · have hd : decide ((k : Int) < (cnt : Int)) = true := by rw [decide_eq_true_eq]; omega
      have kk : (k : Int) < (cnt : Int) := by omega
      obtain ⟨pls, x, L', hB, hFx, hx64, hxf, hpc, hrd⟩ := hW.out.1.ex
      obtain ⟨c1, hc1⟩ : ∃ c1, sp.count - k = c1 + 1 := ⟨sp.count - k - 1, by have := HNM.out.2.1; omega⟩
      have hc1' : sp.count - (k + 1) = c1 := by omega
      rw [hc1] at hpc hrd
      obtain ⟨rest, hrest⟩ : ∃ rest, rest = (recsM m sp.half sp.fin).drop x := ⟨_, rfl⟩
      rw [← hrest] at hpc hrd
      have hrl : rest.length = (fin - 1) * 64 - x := by rw [hrest, List.length_drop, HRL.out, HNM.out.2.2]
      rw [← HNM.out.2.2] at hxf
      obtain ⟨hr64, hr8, L2, hrd2⟩ := readR_step (by rw [hrl]; omega) hrd
      have hF0' := HF0.out
      have hFx' : F = F0 + x := by rw [hFx, hF0', HN.out, ← HNM.out.1]
      have hFe : F0 + (fin - 1) * 64 ≤ 2048 := by omega
      have hbyt : ∀ j, j < 4 → ∃ y : Nat, y < 256 ∧ el rest j = (y : Int) ∧ m.kept[F + j]? = some (y : Int) := fun j hj => by
        have h1 : rest[j]? = m.kept[F + j]? := by
          have hrec : recsM m sp.half sp.fin = seg m.kept ((sp.half * (m.n / 2) + 1) * 64) ((sp.fin - 1) * 64) := by rw [recsM, HT.out.G.sk]; rfl
          rw [hrest, List.getElem?_drop, hrec, Go.St.seg_get (by rw [← HNM.out.2.2]; omega), hFx]
          congr 1
          omega
        have h2 : rest[j]? = some (rest[j]'(by omega)) := List.getElem?_eq_getElem _
        have h3 := HT.out.b.1 _ (List.mem_of_getElem? (h1 ▸ h2))
        refine ⟨(rest[j]'(by omega)).toNat, by omega, ?_, ?_⟩
        · rw [el, List.getD_eq_getElem?_getD, h2]
          show rest[j]'(by omega) = _
          omega
        · rw [← h1, h2]
          congr 1
          omega
      obtain ⟨y0, b0, el0, kp0⟩ := hbyt 0 (by omega)
      obtain ⟨y1, b1, el1, kp1⟩ := hbyt 1 (by omega)
      obtain ⟨y2, b2, el2, kp2⟩ := hbyt 2 (by omega)
      obtain ⟨y3, b3, el3, kp3⟩ := hbyt 3 (by omega)
      have hg : getB (rest.take 4) = y0 * 16777216 + y1 * 65536 + y2 * 256 + y3 := by
        rw [take_el (B := rest) (i := 3) (by omega), take_el (B := rest) (i := 2) (by omega), take_el (B := rest) (i := 1) (by omega), take_el (B := rest) (i := 0) (by omega), getB_snoc', getB_snoc', getB_snoc', getB_snoc', el0, el1, el2, el3]
        simp only [Int.toNat_natCast, List.take_zero, getB, List.foldl_nil]
        omega
      obtain ⟨g, hgg⟩ : ∃ g, g = getB (rest.take 4) := ⟨_, rfl⟩
      rw [plc_succ] at hpc
      rw [← hgg] at hg hr8 hrd2 hpc
      have hgi := four_cast hg
      obtain ⟨bi, oi, csi, Ti, fri, rfl, fbi, hsi, hxi⟩ := (HSI.out.fr0 hW.out.2).out (by omega)
      have hcell : ∀ j (v : Nat), F + j < 2048 → m.kept[F + j]? = some (v : Int) → ∃ h : oi + (F + j) < csi.size, csi[oi + (F + j)] = .int .u8 (v : Int) := fun j v hj hv => by
        have := congrArg (fun l : List Value => l[F + j]?) hxi
        simp only [Array.getElem?_toList, List.getElem?_map] at this
        rw [Array.getElem?_extract_of_lt (by omega), hv] at this
        exact ⟨by omega, by simpa using this⟩
      obtain ⟨g0', g0⟩ := hcell 0 y0 (by omega) kp0
      obtain ⟨g1', g1⟩ := hcell 1 y1 (by omega) kp1
      obtain ⟨g2', g2⟩ := hcell 2 y2 (by omega) kp2
      obtain ⟨g3', g3⟩ := hcell 3 y3 (by omega) kp3
      replace g0' : oi + F < csi.size := g0'
      replace g0 : csi[oi + F] = .int .u8 (y0 : Int) := g0
      have HBB := Lib.hid hB
      have HPC := Lib.hid hpc
      have HRD2 := Lib.hid hrd2
      have HRST := Lib.hid hrest
      have HFX := Lib.hid hFx
      have HFX' := Lib.hid hFx'
      have hFg : F + 8 + g ≤ 2048 := by omega
      have HGG := Lib.hid hgi
      have HC1 := Lib.hid (And.intro hc1 hc1')
      have hr8' : 8 + g ≤ (fin - 1) * 64 - x := by omega
      have HFW := Lib.hid hW.out.2
      have ti := World.at_lt fbi
      clear hB hpc hrd hrd2 hrest hrl hFx hbyt el0 el1 el2 el3 kp0 kp1 kp2 kp3 hg hgg hgi hxi hcell hr8 hc1 hc1' hW hF0' hFx'
      go_upto_region 31 with (fail)
      refine drawn_begin 29 (fun w' => w'.blk bi = some (.cells csi Ti fri)) (by kernel_rfl) ?_
      refine drawn_reads (fuel := 1) [0, 1, 2, 3, 4, 5, 6, 7, 8, 9, 10, 11, 12, 13, 14, 15, 16, 17, 18, 19, 20, 21, 22, 23, 24, 25, 26, 27, 28] rfl (by kernel_rfl) fbi ?_
      repeat (first | (refine rowK_step2 rfl rfl (fun K hK => ?_); go_wp2) | (refine rowK_step rfl (fun K hK => ?_); go_simp; refine hK _ ?_; clear hK K))
      refine rowK_nil ⟨fun w' e1 => ?_, ?_⟩
      · clear fbi ti f1 t1
        have ti := World.at_lt e1
        repeat (first | (refine rowWp_step2 rfl rfl (fun K hK => ?_); go_wp2) | (refine rowWp_step rfl (fun K hK => ?_); go_simp; refine hK _ ?_; clear hK K))
        exact rowWp_nil rfl
      refine drawn_end rfl (by kernel_rfl) ?_
      intro K hK
      clear fbi ti f1 t1
      go_upto_region 32 with (fail)
      rw [← HGG.out]
      clear g0 g1 g2 g3 g0' g1' g2' g3' b0 b1 b2 b3
      have HW1 := Lib.hid (show Bld Wb [] .i64 3 wr.drew q5 n5 c5 (nat_ints (pls ++ (List.range 0).map fun t => F + 4 + t)) ∧ Fr [] Wb wr.drew from ⟨by
        simp only [List.range_zero, List.map_nil, List.append_nil]
        exact HBB.out.call (Fr.refl [] wr).drew, HFW.out.drew⟩)
      go_wp2_with fail
      go_loopw [15, 21] (fun v iv wy => ∃ (i : Nat) (q6 : Option Addr) (n6 c6 : Nat), 4 ≤ i ∧ i ≤ 8 + g ∧ n6 = n5 + (i - 4) ∧ v = .slice q6 n6 c6 ∧ iv = .int .i64 (i : Int) ∧ Hid (Bld Wb [] .i64 3 wy q6 n6 c6 (nat_ints (pls ++ (List.range (i - 4)).map fun t => F + 4 + t)) ∧ Fr [] Wb wy)) (fun _ iv _ => (8 + g - intOf iv).toNat)
      case atStart => exact ⟨4, q5, n5, c5, by omega, by omega, by omega, rfl, rfl, HW1⟩
      case round =>
        obtain ⟨i, q6, n6, c6, hi4, hig, hn6, rfl, rfl, hW2⟩ := hrel
        have HN6 := Lib.hid hn6
        have hn6b : n6 ≤ 10000 := by omega
        clear hn6
        by_cases hlg : i < 8 + g
        · have hd3 : decide ((i : Int) < 8 + (g : Int)) = true := by rw [decide_eq_true_eq]; omega
          have ki3 : (i : Int) < 8 + (g : Int) := by omega
          have hbS : ∀ (X : World) (b : Nat), X.blk b = some (.cells #[.int .i64 ((F : Int) + (i : Int))] 3) → Sl .i64 X (some ⟨b, 0, none⟩) 1 1 [(F : Int) + (i : Int)] := fun X b h => Sl.whole (A := [(F : Int) + (i : Int)]) (T := 3) (fr := (0, 0)) h rfl
          have HBS := Lib.hid hbS
          clear hbS
          go_wp2_with (refine wpList_app45 rfl _ _ rfl rfl (hW2.out.1.call ((Fr.refl [] _).alloc _)) rfl (HBS.out _ _ (World.at_alloc_new _ _ _ rfl)) (by omega) ?_)
          intro q7 c7 W7 B7
          have HB7 := Lib.hid B7
          have HL7 := Lib.hid (show nat_ints (pls ++ (List.range (i - 4)).map fun t => F + 4 + t) ++ [(F : Int) + (i : Int)] = nat_ints (pls ++ (List.range (i + 1 - 4)).map fun t => F + 4 + t) by
            rw [show i + 1 - 4 = (i - 4) + 1 by omega, List.range_succ, List.map_append, ← List.append_assoc, List.map_cons, List.map_nil, nat_ints_snoc, show F + 4 + (i - 4) = F + i by omega]
            push_cast
            rfl)
          clear B7
          go_wp2_with fail
          go_roundw
          case rel => exact ⟨i + 1, q7, n6 + 1, c7, by omega, hlg, by have := HN6.out; omega, rfl, by first | rfl | simp, Lib.hid ⟨by rw [← HL7.out]; exact HB7.out, HB7.out.own.fr⟩⟩
          case measure => simp [intOf]; omega
        · obtain rfl : i = 8 + g := by omega
          have hd3 : decide (((8 + g : Nat) : Int) < 8 + (g : Int)) = false := by rw [decide_eq_false_iff_not]; omega
          go_wp2_with fail
          obtain ⟨X, hX⟩ : ∃ X, X = (8 + g + 63) / 64 * 64 := ⟨_, rfl⟩
          have hXb : X ≤ (fin - 1) * 64 - x := by omega
          have hXi : (F : Int) + (8 + (g : Int) + 63) / 64 * 64 = ((F + X : Nat) : Int) := by omega
          have hX64 : X % 64 = 0 := by omega
          have hn65 : n6 ≤ 5000 := by
            have h1 := congrArg List.length HPC.out
            have h2 := HBB.out.len
            have h3 := HPLL.out
            have h4 := HN6.out
            rw [HN.out] at h3
            rw [nat_ints, List.length_map] at h2
            rw [List.length_append, List.length_append, List.length_map, List.length_range] at h1
            omega
          go_roundw
          case rel =>
            refine ⟨k + 1, F + X, q6, n6, c6, hlt, by have := HFX'.out; omega, hn65, rfl, by rw [hXi], by first | rfl | simp, Lib.hid ⟨⟨⟨_, x + X, L2, hW2.out.1, ?_, by omega, ?_, ?_, ?_⟩, ?_⟩, hW2.out.2⟩⟩
            · rw [HFX.out]; omega
            · rw [← HNM.out.2.2]; omega
            · have h := HPC.out
              rw [← List.append_assoc] at h
              rw [HC1.out.2, ← h, HRST.out, List.drop_drop, show 8 + g - 4 = 4 + g by omega, hX]
            · have h := HRD2.out
              rw [HRST.out, List.drop_drop, ← hX] at h
              rw [HC1.out.2]
              exact h
            · rw [← HNM.out.2.1]; omega
          case measure => simp [intOf]; omega
    · obtain rfl : k = cnt := by omega
      have hd : decide ((k : Int) < (k : Int)) = false := by simp
      go_wp2_with fail
      refine H37.out _ _ ?_
      obtain ⟨⟨pls, x, L', h1, h2, h3, h3', h4, h5⟩, h6⟩ := hW.out.1
      have hpl : pls = PL m sp := by
        rw [HNM.out.2.1, Nat.sub_self] at h4
        rw [← h4]
        simp [plc]
      have hsl := h1.sl
      rw [hpl] at hsl
      have hk5 : n5 = (PL m sp).length := by rw [← hpl, ← h1.len, nat_ints, List.length_map]
      have := HPLL.out
      have := pl_pos HT.out.G
      exact Eq.mp (congrArg (fun c => Code.wp Try.prog c _ _ _) (show t37 = _ from by kernel_rfl)) (t37_f rfl rfl rfl rfl rfl rfl hat hy (HT.out.P.T.disk.fr0 hW.out.2) HT.out.G HT.out.f HT.out.b HT.out.n (HSI.out.fr0 hW.out.2) hsl (by omega) (fun k hk => HT.out.P.lo k (by simp [hk])) (HT.out.P.fr.trans hW.out.2) HQ.out)
end
end Go.Proofs.Ytombhkekocbfoaa
namespace Go.Proofs.Ytombhkekocbfoaa
open Go.RowKit Go.Dr Go.Kd Go.St
/-- The places of the halves below. -/
def hdsTo (m : DM) (a : Nat) : List Nat := (if 0 < a then hdPl m 0 else []) ++ (if 1 < a then hdPl m 1 else [])
theorem hdsTo_len (m : DM) (a : Nat) : (hdsTo m a).length ≤ 48 := by
  have h1 := hdPl_len m 0
  have h2 := hdPl_len m 1
  unfold hdsTo
  rw [List.length_append]
  split <;> split <;> simp <;> omega
section
variable {w : World}
set_option maxRecDepth 100000 in
set_option maxHeartbeats 8000000 in
theorem t19_f {Q : Exit → Act → World → Prop} {tm : Array Value} {w0 W : World} {d r s t c3 y : Nat} {q3 : Option Addr} {at_ : Int} {m : DM} {sp : SP} {fp rfp : List Nat} (sz : tm.size = 231)
    (s1 : tm.getD 1 undef = .int .i64 at_) (s2 : tm.getD 2 undef = .int .u8 (y : Int)) (s7 : tm.getD 7 undef = .pointer (some ⟨d, 0, none⟩)) (s11 : tm.getD 11 undef = .pointer (some ⟨t, 0, none⟩)) (s14 : tm.getD 14 undef = .slice q3 2048 c3)
    (hat : 0 ≤ at_ ∧ at_ ≤ 9223372036854775807) (hy : 0 < y ∧ y < 256) (T : TG w0 W d r s t m sp fp rfp) (SI : Sl .u8 W q3 2048 c3 m.kept)
    (HQ : TEnd w0 Q) : t19.wp Try.prog Q ⟨tm, []⟩ W := by
  obtain ⟨u, rfl⟩ := frm6_of sz
  have a1 : u 1 = _ := s1
  have a2 : u 2 = _ := s2
  have a7 : u 7 = _ := s7
  have a11 : u 11 = _ := s11
  have a14 : u 14 = _ := s14
  have HQ := Lib.hid HQ
  have HT := Lib.hid T
  have HSI := Lib.hid SI
  have HN := Lib.hid T.n
  have HHD : ∀ a, a ≤ 1 → hdPl m a = if el m.kept (a * 1024) = 0 then [] else (List.range 24).map fun i => a * 1024 + i := fun a ha => by
    unfold hdPl
    rw [HN.out, show a * (32 / 2) * 64 = a * 1024 by omega]
  have HHD := Lib.hid HHD
  have hkb : ∀ a, a ≤ 1 → ∃ v : Nat, v < 256 ∧ el m.kept (a * 1024) = (v : Int) ∧ ∀ X, Fr [] W X → ∃ bi oi csi Ti fri, q3 = some ⟨bi, oi, none⟩ ∧ X.blk bi = some (.cells csi Ti fri) ∧ ∃ h : oi + a * 1024 < csi.size, csi[oi + a * 1024] = .int .u8 (v : Int) := fun a ha => by
    have hl := HSI.out.len
    have hb := el_byte T.b.1 (i := a * 1024) (by omega)
    refine ⟨(el m.kept (a * 1024)).toNat, by omega, by omega, fun X F => ?_⟩
    obtain ⟨bi, oi, csi, Ti, fri, e1, e2, e3, e4⟩ := (HSI.out.fr0 F).at (j := a * 1024) (by omega)
    obtain ⟨h1, h2⟩ := Array.getElem?_eq_some_iff.1 e4
    exact ⟨bi, oi, csi, Ti, fri, e1, e2, h1, by rw [h2]; congr 1; omega⟩
  have HKB := Lib.hid hkb
  clear T SI s1 s2 s7 s11 s14 sz hkb
  conv => arg 2; whnf
  unfold frm6
  rw [a1, a2, a7, a11, a14]
  clear a1 a2 a7 a11 a14
  go_upto_region 20 with (fail)
  rename_i K27 h27 Kb hb2
  have H27 := Lib.hid h27
  clear h27
  go_wp2_with fail
  go_loopw [15, 16] (fun v av wy => ∃ (a : Nat) (q5 : Option Addr) (n5 c5 : Nat), a ≤ 2 ∧ n5 ≤ 48 ∧ v = .slice q5 n5 c5 ∧ av = .int .i64 (a : Int) ∧ Hid (Bld W [] .i64 3 wy q5 n5 c5 (nat_ints (hdsTo m a)))) (fun _ av _ => (2 - intOf av).toNat)
  case atStart => exact ⟨0, none, 0, 0, by omega, by omega, rfl, rfl, Lib.hid (Bld.nil (OwB.start W))⟩
  case round =>
    obtain ⟨a, q5, n5, c5, ha2, hn5, rfl, rfl, hW⟩ := hrel
    by_cases hlt : a < 2
    · have hd : decide ((a : Int) < 2) = true := by rw [decide_eq_true_eq]; omega
      have ka : (a : Int) < 2 := by omega
      obtain ⟨v, hv256, hel, hcell⟩ := HKB.out a (by omega)
      have HEL := Lib.hid hel
      have HCE := Lib.hid hcell
      obtain ⟨A, hA⟩ : ∃ A, A = a * 1024 := ⟨_, rfl⟩
      have hAi : 1024 * (a : Int) = (A : Int) := by omega
      have hAb : A ≤ 1024 := by omega
      have HAE := Lib.hid hA
      have HPL := Lib.hid (show hdsTo m (a + 1) = hdsTo m a ++ hdPl m a from by
        have : a = 0 ∨ a = 1 := by omega
        rcases this with h | h <;> subst h <;> simp [hdsTo])
      have HHA := Lib.hid (HHD.out a (by omega))
      have hWl := hW.out.len
      rw [nat_ints, List.length_map] at hWl
      have HWL := Lib.hid hWl
      rw [← hA] at hel
      clear hcell hA hel hWl
      go_wp2_with fail
      go_loopw [15, 17] (fun v' iv wy => ∃ (i : Nat) (q6 : Option Addr) (n6 c6 : Nat), i ≤ 24 ∧ n6 = n5 + i ∧ v' = .slice q6 n6 c6 ∧ iv = .int .i64 (i : Int) ∧ (v = 0 → i = 0) ∧ Hid (Bld W [] .i64 3 wy q6 n6 c6 (nat_ints (hdsTo m a ++ (List.range i).map fun t => A + t)))) (fun _ iv _ => (24 - intOf iv).toNat)
      case atStart => exact ⟨0, q5, n5, c5, by omega, rfl, rfl, rfl, (fun _ => rfl), Lib.hid (by simp only [List.range_zero, List.map_nil, List.append_nil]; exact hW.out)⟩
      case round =>
        obtain ⟨i, q6, n6, c6, hi24, hn6, rfl, rfl, hv0, hW2⟩ := hrel
        have HN6 := Lib.hid hn6
        have hn6b : n6 ≤ 100 := by omega
        have HV0 := Lib.hid hv0
        obtain ⟨bi, oi, csi, Ti, fri, rfl, fbi, hci', hci⟩ := HCE.out wr hW2.out.own.fr
        obtain ⟨hca', hca⟩ : ∃ h : oi + A < csi.size, csi[oi + A] = .int .u8 (v : Int) := by
          rw [HAE.out]
          exact ⟨hci', hci⟩
        have ti := World.at_lt fbi
        clear hn6 hv0 hci' hci
        have HOUT : (v = 0 ∧ i = 0) ∨ (v ≠ 0 ∧ i = 24) → Hid (Bld W [] .i64 3 wr q6 n6 c6 (nat_ints (hdsTo m (a + 1)))) := fun h => Lib.hid (by
          have h2 := hW2.out
          rw [HPL.out, HHA.out]
          rcases h with ⟨h0, h1⟩ | ⟨h0, h1⟩
          · rw [if_pos (by rw [HEL.out, h0]; rfl), List.append_nil]
            rw [h1] at h2
            simpa using h2
          · rw [if_neg (by rw [HEL.out]; omega)]
            rw [h1, HAE.out] at h2
            exact h2)
        have HOUT := Lib.hid HOUT
        by_cases hl24 : i < 24
        · have hd2 : decide ((i : Int) < 24) = true := by rw [decide_eq_true_eq]; omega
          have ki : (i : Int) < 24 := by omega
          by_cases hvz : v = 0
          · have hi0 : i = 0 := HV0.out hvz
            have dv : ((v : Int) != 0) = false := by rw [hvz]; rfl
            have dv2 : (v : Int) = 0 := by omega
            have HR := Lib.hid (HOUT.out (.inl ⟨hvz, hi0⟩))
            have hn62 : n6 ≤ 48 := by
              have h := HR.out.out.len
              rw [nat_ints, List.length_map] at h
              have := hdsTo_len m (a + 1)
              omega
            clear hvz hi0 HOUT
            go_wp2_with fail
            go_roundw
            case rel => exact ⟨a + 1, q6, n6, c6, by omega, hn62, rfl, by first | rfl | simp, HR.out⟩
            case measure => simp [intOf]; omega
          · have dv : ((v : Int) != 0) = true := by rw [bne_iff_ne]; omega
            have dv2 : ¬ (v : Int) = 0 := by omega
            have hbS : ∀ (X : World) (b : Nat), X.blk b = some (.cells #[.int .i64 ((A : Int) + (i : Int))] 3) → Sl .i64 X (some ⟨b, 0, none⟩) 1 1 [(A : Int) + (i : Int)] := fun X b h => Sl.whole (A := [(A : Int) + (i : Int)]) (T := 3) (fr := (0, 0)) h rfl
            have HBS := Lib.hid hbS
            clear hbS HOUT
            go_wp2_with (refine wpList_app45 rfl _ _ rfl rfl (hW2.out.call ((Fr.refl [] _).alloc _)) rfl (HBS.out _ _ (World.at_alloc_new _ _ _ rfl)) (by omega) ?_)
            intro q7 c7 W7 B7
            have HB7 := Lib.hid B7
            have HL7 := Lib.hid (show nat_ints (hdsTo m a ++ (List.range i).map fun t => A + t) ++ [(A : Int) + (i : Int)] = nat_ints (hdsTo m a ++ (List.range (i + 1)).map fun t => A + t) by
              rw [List.range_succ, List.map_append, ← List.append_assoc, List.map_cons, List.map_nil, nat_ints_snoc]
              push_cast
              rfl)
            clear B7
            go_wp2_with fail
            go_roundw
            case rel => exact ⟨i + 1, q7, n6 + 1, c7, hl24, by have := HN6.out; omega, rfl, by first | rfl | simp, (fun h => absurd h hvz), Lib.hid (by rw [← HL7.out]; exact HB7.out)⟩
            case measure => simp [intOf]; omega
        · have hi24' : i = 24 := by omega
          have hd2 : decide ((i : Int) < 24) = false := by rw [decide_eq_false_iff_not]; omega
          have ki : ¬ (i : Int) < 24 := by omega
          have hvz : v ≠ 0 := fun h => by have := HV0.out h; omega
          have HR := Lib.hid (HOUT.out (.inr ⟨hvz, hi24'⟩))
          have hn62 : n6 ≤ 48 := by
            have h := HR.out.out.len
            rw [nat_ints, List.length_map] at h
            have := hdsTo_len m (a + 1)
            omega
          clear hi24' HOUT
          go_wp2_with fail
          go_roundw
          case rel => exact ⟨a + 1, q6, n6, c6, by omega, hn62, rfl, by first | rfl | simp, HR.out⟩
          case measure => simp [intOf]; omega
    · obtain rfl : a = 2 := by omega
      have hd : decide (((2 : Nat) : Int) < 2) = false := by decide
      go_wp2_with fail
      refine H27.out _ _ ?_
      exact Eq.mp (congrArg (fun c => Code.wp Try.prog c _ _ _) (show t27 = _ from by kernel_rfl)) (t27_f rfl rfl rfl rfl rfl rfl rfl hat hy HT.out HSI.out hW.out (by simp [hdsTo]) HQ.out)
end
end Go.Proofs.Ytombhkekocbfoaa
namespace Go.Proofs.Ytombhkekocbfoaa
open Go.RowKit Go.Dr Go.Kd Go.St
/-- The bytes that the document's disk keeps. -/
theorem RefAt.kept' {w : World} {r : Nat} {m : DM} {fp : List Nat} (R : RefAt w r m fp) : ∃ C kb, w.blk r = some (.cells C 48 (0, 0)) ∧ C.size = 6 ∧ (∃ h : 1 < C.size, C[1] = .slice (some ⟨kb, 0, none⟩) (64 * m.n) (64 * m.n)) ∧ Sl .u8 w (some ⟨kb, 0, none⟩) (64 * m.n) (64 * m.n) m.kept := by
  obtain ⟨kb, pa, ca, pb, cb, bs, D, rfl, ok⟩ := R
  exact ⟨_, kb, D.hr, rfl, ⟨by simp, rfl⟩, Sl.whole D.hk (show m.kept.length = 64 * m.n from ok.kl)⟩
section
variable {w : World}
set_option maxRecDepth 100000 in
set_option maxHeartbeats 8000000 in
theorem t16_f {Q : Exit → Act → World → Prop} {tm : Array Value} {w0 W : World} {p : Option Addr} {n cap d r i s t : Nat} {at_ y : Int} {m : DM} {sp : SP} {fp rfp : List Nat} (hat : -9223372036854775808 ≤ at_ ∧ at_ ≤ 9223372036854775807) (hy : 0 ≤ y ∧ y ≤ 255) (Y : TI p n cap at_ y w0 d r i tm W s t m sp fp rfp) (HQ : TEnd w0 Q) : t16.wp Try.prog Q ⟨tm, []⟩ W := by
  obtain ⟨sz, s0, s1, s2, s7, s8, s9, s11, s13, T⟩ := Y
  obtain ⟨u, rfl⟩ := frm6_of sz
  have a1 : u 1 = _ := s1
  have a2 : u 2 = _ := s2
  have a7 : u 7 = _ := s7
  have a8 : u 8 = _ := s8
  have a11 : u 11 = _ := s11
  have HQ := Lib.hid HQ
  have HT := Lib.hid T
  have hkl := T.G.ok.kl
  rw [T.n] at hkl
  have HKL := Lib.hid hkl
  clear T s0 s1 s2 s7 s8 s9 s11 s13 sz hkl
  conv => arg 2; whnf
  unfold frm6
  rw [a1, a2, a7, a8, a11]
  clear a1 a2 a7 a8 a11
  go_wp2_with fail
  refine (kept_any HT.out.P.T.disk).mono ?_
  rintro en w1 ⟨v, bb, rfl, B1, F1, -⟩
  obtain ⟨q3, c3, rfl, S3⟩ := B1.sl
  rw [HKL.out] at S3 ⊢
  have HS3 := Lib.hid S3
  have HT1 := Lib.hid (HT.out.fr0 F1)
  clear B1 F1 S3
  obtain ⟨RC, kb, fr1, szR, ⟨y1', y1⟩, SK⟩ := HT1.out.P.T2.disk.kept'
  have HSK := Lib.hid SK
  have tr := World.at_lt fr1
  clear SK
  go_upto_region 17 with (fail)
  rename_i K19 h19 Kc hc2
  have H19 := Lib.hid h19
  clear h19
  go_wp2_with fail
  refine (bytes_f HS3.out HSK.out HT1.out.b.1 HT1.out.b.1).mono ?_
  rintro en w2 ⟨rfl, F2⟩
  rw [show decide (m.kept = m.kept) = true from decide_eq_true rfl]
  have HT2 := Lib.hid (HT1.out.fr0 F2)
  have HS4 := Lib.hid (HS3.out.fr0 F2)
  have HSK2 := Lib.hid (HSK.out.fr0 F2)
  have fr2 := F2.get fr1 (by simp)
  clear F2 fr1 tr
  have tr := World.at_lt fr2
  by_cases hneg : at_ < 0
  · have d1 : decide (at_ < 0) = true := decide_eq_true hneg
    go_wp2_with fail
    refine (bytes_f HS4.out HSK2.out HT1.out.b.1 HT1.out.b.1).mono ?_
    rintro en w3 ⟨rfl, F3⟩
    rw [show decide (m.kept = m.kept) = true from decide_eq_true rfl]
    have HF3 := Lib.hid (HT2.out.P.fr.trans F3)
    clear F3
    go_wp2_with fail
    exact HQ.out _ _ rfl HF3.out
  have d1 : decide (at_ < 0) = false := decide_eq_false hneg
  by_cases hy0 : y = 0
  · have d2 : (y == 0) = true := by rw [hy0]; rfl
    go_wp2_with fail
    refine (bytes_f HS4.out HSK2.out HT1.out.b.1 HT1.out.b.1).mono ?_
    rintro en w3 ⟨rfl, F3⟩
    rw [show decide (m.kept = m.kept) = true from decide_eq_true rfl]
    have HF3 := Lib.hid (HT2.out.P.fr.trans F3)
    clear F3
    go_wp2_with fail
    exact HQ.out _ _ rfl HF3.out
  have d2 : (y == 0) = false := by rw [beq_eq_false_iff_ne]; exact hy0
  obtain ⟨yn, hyn⟩ : ∃ yn : Nat, y = (yn : Int) := ⟨y.toNat, by omega⟩
  have HYN := Lib.hid hyn
  clear hyn
  go_wp2_with fail
  refine H19.out _ _ ?_
  exact Eq.mp (congrArg (fun c => Code.wp Try.prog c _ _ _) (show t19 = _ from by kernel_rfl)) (t19_f (y := yn) rfl rfl (congrArg (Value.int .u8) HYN.out) rfl rfl rfl (by omega) (by have := HYN.out; omega) HT2.out HS4.out HQ.out)
set_option maxRecDepth 100000 in
set_option maxHeartbeats 8000000 in
theorem t9_f {Q : Exit → Act → World → Prop} {tm : Array Value} {w0 W : World} {p : Option Addr} {n cap d r s t : Nat} {at_ y : Int} {m : DM} {sp : SP} {fp rfp : List Nat} {ls : List (StI w)} (L : Stps w p n cap ls) (hn9 : n ≤ 9223372036854775807) (F0 : Fr [] w w0) (hat : -9223372036854775808 ≤ at_ ∧ at_ ≤ 9223372036854775807) (hy : 0 ≤ y ∧ y ≤ 255) (sz : tm.size = 231)
    (s0 : tm.getD 0 undef = .slice p n cap) (s1 : tm.getD 1 undef = .int .i64 at_) (s2 : tm.getD 2 undef = .int .u8 y) (s7 : tm.getD 7 undef = .pointer (some ⟨d, 0, none⟩)) (s8 : tm.getD 8 undef = .pointer (some ⟨r, 0, none⟩)) (s9 : tm.getD 9 undef = .pointer (some ⟨s, 0, none⟩)) (s11 : tm.getD 11 undef = .pointer (some ⟨t, 0, none⟩))
    (T : TG w0 W d r s t m sp fp rfp) (HQ : TEnd w0 Q) : t9.wp Try.prog Q ⟨tm, []⟩ W := by
  obtain ⟨u, rfl⟩ := frm6_of sz
  have a0 : u 0 = _ := s0
  have a1 : u 1 = _ := s1
  have a2 : u 2 = _ := s2
  have a7 : u 7 = _ := s7
  have a8 : u 8 = _ := s8
  have a9 : u 9 = _ := s9
  have a11 : u 11 = _ := s11
  have HQ := Lib.hid HQ
  have HT := Lib.hid T
  have HL := Lib.hid L
  have HF0 := Lib.hid F0
  have HAT := Lib.hid hat
  have HY := Lib.hid hy
  clear T L F0 hat hy s0 s1 s2 s7 s8 s9 s11 sz
  conv => arg 2; whnf
  unfold frm6
  rw [a0, a1, a2, a7, a8, a9, a11]
  clear a0 a1 a2 a7 a8 a9 a11
  go_wp2_with fail
  rename_i K16 h16
  have H16 := Lib.hid h16
  clear h16
  refine wp_loop (fun A W' => A.defers = [] ∧ ∃ i m sp fp rfp, i ≤ n ∧ TI p n cap at_ y w0 d r i A.tmps W' s t m sp fp rfp) (fun A _ => (n - intOf (A.tmps.getD 13 undef)).toNat) ⟨rfl, 0, m, sp, fp, rfp, Nat.zero_le _, rfl, rfl, rfl, rfl, rfl, rfl, rfl, rfl, rfl, HT.out⟩ ?_
  rintro ⟨tm', df⟩ W' ⟨hdf, i, m', sp', fp', rfp', hin, Y⟩
  have hdf : df = [] := hdf
  subst hdf
  refine Eq.mp (congrArg (fun c => Code.wp Try.prog c _ _ _) (show tRnd = _ from by kernel_rfl)) (tRnd_f HL.out HF0.out Y hin hn9 ?_ ?_ ?_)
  · intro tm2 W2 m2 sp2 fp2 rfp2 hlt Y2
    refine ⟨⟨rfl, i + 1, m2, sp2, fp2, rfp2, hlt, Y2⟩, ?_⟩
    show (n - intOf (tm2.getD 13 undef)).toNat < (n - intOf (tm'.getD 13 undef)).toNat
    rw [Y2.s13, Y.s13]
    simp only [intOf]
    omega
  · intro tm2 W2 Y2
    refine H16.out _ _ ?_
    exact Eq.mp (congrArg (fun c => Code.wp Try.prog c _ _ _) (show t16 = _ from by kernel_rfl)) (t16_f HAT.out HY.out Y2 HQ.out)
  · intro tm2 W2 h4 F
    exact HQ.out tm2 W2 h4 F
set_option maxRecDepth 100000 in
set_option maxHeartbeats 8000000 in
theorem storeTurned_walk {p : Option Addr} {n cap : Nat} {ls : List (StI w)} (L : Stps w p n cap ls) (hn9 : n ≤ 9223372036854775807) {at_ y : Int} (hat : -9223372036854775808 ≤ at_ ∧ at_ ≤ 9223372036854775807) (hy : 0 ≤ y ∧ y ≤ 255) :
    Calls Try.prog 6 #[.slice p n cap, .int .i64 at_, .int .u8 y] w fun e w' => e = .returned (.bool true) ∧ Fr [] w w' := by
  have HL := Lib.hid L
  have HAT := Lib.hid hat
  have HYY := Lib.hid hy
  clear L hat hy
  go_enter Try.func6, Try.ntmps6
  go_wp2_with fail
  refine (alive_f (w := w)).mono ?_
  rintro en w0 ⟨rfl, F0⟩
  have HF0 := Lib.hid F0
  clear F0
  go_wp2_with fail
  refine (new_m 32 w0).mono ?_
  rintro en w1 ⟨d, fp, rfl, D1, F1, N1⟩
  have HD1 := Lib.hid D1
  have HF1 := Lib.hid F1
  have HN1 := Lib.hid N1
  clear D1 F1 N1
  go_wp2_with fail
  refine (rnew_any 32 w1).mono ?_
  rintro en w2 ⟨r, rfp, rfl, R2, F2, N2⟩
  obtain ⟨m0, hm0⟩ : ∃ m0, m0 = newM 32 := ⟨_, rfl⟩
  have hB : Both w0 w2 d r m0 m0 fp rfp := by
    rw [hm0]
    exact ⟨HD1.out.fr0 F2, R2, fun k hk hk' => by
      have := HD1.out.lt k hk
      rcases N2 k hk' with h | h
      · cases h
      · omega, HF1.out.trans F2, HN1.out, fun k hk => by
      rcases N2 k hk with h | h
      · cases h
      · exact .inr (Nat.le_trans HF1.out.size h)⟩
  have hs0 : SeenM m0 := by rw [hm0]; exact SeenM.new 32
  have hy0 : BytM m0 := by rw [hm0]; exact BytM.new 32
  have hw0 : m0.waits.length = 0 := by rw [hm0]; rfl
  have hn32 : m0.n = 32 := by rw [hm0]; rfl
  obtain ⟨m1, hop, hG, hf1, hn1, hb1⟩ := good_fresh 32 (by decide) (by rw [← hm0]; exact hB.D.ok)
  rw [← hm0] at hop hn1
  rw [hn32] at hn1
  have HB := Lib.hid hB
  have HS := Lib.hid hs0
  have HY := Lib.hid hy0
  have HOP := Lib.hid hop
  have HG := Lib.hid (And.intro hG (And.intro hf1 (And.intro hn1 hb1)))
  have HOE := Lib.hid (show TEnd w0 (bodyPost Try.prog Try.f6 fun e w' => e = .returned (.bool true) ∧ Fr [] w w') from fun tm' W' h4 F => bodyPost_ret (results_tmp rfl tm' _ _) rfl ⟨by rw [h4], HF0.out.trans F⟩)
  clear hB hs0 hy0 hm0 R2 F2 N2 HD1 HF1 HN1 hop hG hf1 hn1 hb1
  go_wp2_with fail
  refine (open_fv (av := rfp) HB.out.D (fun k hk => HB.out.R.lt k hk) (by omega) HY.out.2.1 (by omega)).mono ?_
  intro en w3 hO
  rw [HOP.out] at hO
  obtain ⟨-, s, fp3, rfl, T3, F3, N3, hsl⟩ := hO
  have HB3 := Lib.hid (HB.out.disk T3.disk F3 N3)
  have HT3 := Lib.hid T3
  have HF3 := Lib.hid F3
  have HN3 := Lib.hid N3
  clear T3 F3 N3
  go_wp2_with fail
  refine (dopen_f (av := s :: fp3) HB3.out.R (fun k hk => by
    rcases List.mem_cons.1 hk with rfl | hk
    · exact HT3.out.slt
    · exact HB3.out.D.lt k hk) (by omega) HY.out.2.1 HS.out (by omega)).mono ?_
  intro en w4 hO
  rw [HOP.out] at hO
  obtain ⟨-, t, rfp4, rfl, T4, F4, N4, htl⟩ := hO
  have HPL := Lib.hid (HB.out.open_ HT3.out HF3.out HN3.out hsl T4 F4 N4 htl)
  clear T4 F4 N4
  go_upto_region 7 with (fail)
  rename_i K9 h9 Kc hc2
  have H9 := Lib.hid h9
  clear h9
  go_wp2_with fail
  refine H9.out _ _ ?_
  exact Eq.mp (congrArg (fun c => Code.wp Try.prog c _ _ _) (show t9 = _ from by kernel_rfl)) (t9_f HL.out hn9 HF0.out HAT.out HYY.out rfl rfl rfl rfl rfl rfl rfl rfl ⟨HPL.out, HG.out.1, HG.out.2.1, HG.out.2.2.2, HG.out.2.2.1⟩ HOE.out)
end
end Go.Proofs.Ytombhkekocbfoaa
