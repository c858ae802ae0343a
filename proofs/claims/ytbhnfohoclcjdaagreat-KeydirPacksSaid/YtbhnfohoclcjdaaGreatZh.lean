/- Joined: KdN, KdO, KdP. -/
import Derived.Test.YtbhnfohoclcjdaaGreatZg
import Derived.Deep.DeepCutAuto
set_option linter.unusedVariables false
set_option linter.unusedSimpArgs false
namespace Go.Proofs.YtbhnfohoclcjdaaGreat
open Go.RowKit Go.Dr Go.Kd
theorem info127 : (Tryz.prog.info? 201).map (fun i => (i.zero, i.size, i.bytes)) = some (some (.slice none 0 0), 1, 24) := by kernel_rfl
theorem E124 : ElemT Tryz.prog 198 201 1 24 #[.slice none 0 0] := ⟨Tryz.underlying198, by kernel_rfl, rfl⟩
@[go_sem] theorem one124 (w : World) (q : Option Addr) (m c : Nat) : (buildOneK 198 #[(0, .slice q m c)]).run Tryz.prog w = .ok (.slice (some ⟨w.heap.size, 0, none⟩) 1 1) (w.alloc (.cells #[.slice q m c] 201)) :=
  E124.buildOne (by omega) (by omega) w (.slice q m c) rfl
section
variable {w0 w : World} {L : List (Nat × Obj)} {p : Option Addr} {n cap : Nat} {vs : List Value} {ops : Array Oper} {rest : List Oper} {o : Oper} {a : Act} {Q : Exit → Act → World → Prop}
/-- [][]int: append of a slice of slices. -/
theorem wpList_app124 (hgd : o.guard = none) (s x : Operand) (ho : o.op = .call { callee := .builtin .append, args := #[s, x], argTypes := #[198, 198] })
    (hs : a.eval s = .slice p n cap) (B : BldV w0 L 201 1 w p n cap vs) {q : Option Addr} {m c : Nat} {us : List Value} (hx : a.eval x = .slice q m c) (S : Sv 1 w q m c us) (h1 : ∀ u ∈ us, u.oneCell' = true) (hbig : n + m ≤ 1000000)
    (h : ∀ p' cap' w', BldV w0 L 201 1 w' p' (n + m) cap' (vs ++ us) → wpList Tryz.prog ops Q rest (a.put o.dst (.slice p' (n + m) cap')) w') : wpList Tryz.prog ops Q (o :: rest) a w := by
  obtain ⟨i, hi, hz, hs1, hb1⟩ := info_parts info127
  exact wpList_apdV hgd s x 198 198 ho Tryz.underlying198 hi hz hs1 (by omega) hb1 rfl hs B hx (Apd.ofSrc Tryz.underlying198 hi hz (by rw [hs1]; exact S.src Tryz.underlying198 h1)) (by omega) (by omega) h
end
theorem run_zero3 (w : World) : (zeroValue 3).run Tryz.prog w = .ok (.int .i64 0) w := by
  have h : Tryz.t3.zero = some (.int .i64 0) := by kernel_rfl
  simp [zeroValue, h, go_sem]
theorem info126 : (Tryz.prog.info? 200).map (fun i => (i.zero, i.size, i.bytes)) = some (some (.agg #[.int .i64 0, .slice none 0 0, .slice none 0 0]), 3, 56) := by kernel_rfl
theorem E114 : ElemT Tryz.prog 136 200 3 56 #[.int .i64 0, .slice none 0 0, .slice none 0 0] := ⟨Tryz.underlying136, by kernel_rfl, rfl⟩
@[go_sem] theorem one114 (w : World) (x y z : Value) : (buildOneK 136 #[(0, .agg #[x, y, z])]).run Tryz.prog w = .ok (.slice (some ⟨w.heap.size, 0, none⟩) 1 1) (w.alloc (.cells #[x, y, z] 200)) :=
  E114.buildOne (by omega) (by omega) w (.agg #[x, y, z]) rfl
section
variable {w0 w : World} {L : List (Nat × Obj)} {p : Option Addr} {n cap : Nat} {vs : List Value} {ops : Array Oper} {rest : List Oper} {o : Oper} {a : Act} {Q : Exit → Act → World → Prop}
/-- The list of terms: append. -/
theorem wpList_app114 (hgd : o.guard = none) (s x : Operand) (ho : o.op = .call { callee := .builtin .append, args := #[s, x], argTypes := #[136, 136] })
    (hs : a.eval s = .slice p n cap) (B : BldV w0 L 200 3 w p n cap vs) {q : Option Addr} {m c : Nat} {us : List Value} (hx : a.eval x = .slice q m c) (S : Sv 3 w q m c us) (h1 : ∀ u ∈ us, u.oneCell' = true) (hbig : n + m ≤ 1000000)
    (h : ∀ p' cap' w', BldV w0 L 200 3 w' p' (n + m) cap' (vs ++ us) → (∀ g, p'.map (·.block) = some g → p.map (·.block) = some g ∨ w.heap.size ≤ g) → Fr (p.map (·.block)).toList w w' → wpList Tryz.prog ops Q rest (a.put o.dst (.slice p' (n + m) cap')) w') : wpList Tryz.prog ops Q (o :: rest) a w := by
  obtain ⟨i, hi, hz, hs1, hb1⟩ := info_parts info126
  exact wpList_apdV2 hgd s x 136 136 ho Tryz.underlying136 hi hz hs1 (by omega) hb1 rfl hs B hx (Apd.ofSrc Tryz.underlying136 hi hz (by rw [hs1]; exact S.src Tryz.underlying136 h1)) (by omega) (by omega) h
end
section
variable {w : World}
set_option maxRecDepth 100000 in
set_option maxHeartbeats 2000000 in
theorem make_f {lo tb : Nat} {T : List Tm} {q : Option Addr} {m c : Nat} {ps : List (List Int)} {kind : Int} (h : TabP lo tb w T) (S : Sll w q m c ps) (hg : goodT (kind, ps)) :
    Calls Tryz.prog 80 #[.pointer (some ⟨tb, 0, none⟩), .int .i64 kind, .slice q m c] w fun e w' => e = .returned (.tuple #[.agg (ints .u8 (makeT T (kind, ps)).2.1), .bool (makeT T (kind, ps)).2.2]) ∧ TabP lo tb w' (makeT T (kind, ps)).1 ∧ FrP lo w w' := by
  have hT := h.len
  have HH := Lib.hid h
  have HGT := Lib.hid h.good
  have HG := Lib.hid hg
  obtain ⟨w0, mb, p, cap, vs, es, clock, h0, B, h1, h2, h3, h4, h5, h6⟩ := h.ex
  replace B : BldV w0 [(tb, .cells #[.slice p T.length cap, .map (some mb)] 138), (mb, .map es clock)] 200 3 w p T.length cap vs := B
  have H3 := Lib.hid h3
  have H4 := Lib.hid h4
  have H5 := Lib.hid h5
  have H6 := Lib.hid h6
  have hk1 := hg.2.2.1
  have hk2 := hg.2.2.2
  have hfit := Lib.hid hg.1
  have HS := Lib.hid S
  obtain ⟨n, hn⟩ : ∃ n, n = T.length := ⟨_, rfl⟩
  rw [← hn] at hT B
  have HB := Lib.hid B
  have HN := Lib.hid hn
  clear hn h B h4 h5 h6 h3 S hg
  have d1 : decide (kind < 1) = false := by rw [decide_eq_false_iff_not]; omega
  have d2 : decide (kind > 8) = false := by rw [decide_eq_false_iff_not]; omega
  go_enter Tryz.func80, Tryz.ntmps80
  go_wp2_with fail
  refine named_world (A := fun X => OwB w [(w.heap.size, .cells (ints .u8 (zs 32)) 34)] X) (Q := fun X => Calls Tryz.prog 65 _ X _) ((OwB.start w).alloc _) ?_
  intro V hV
  have hft := HB.out.own.nth 0 rfl
  have hrb : w.heap.size ≠ tb := by have := World.at_lt hft; omega
  generalize hrb0 : w.heap.size = rb at hV hrb ⊢
  have hrl : w.heap.size ≤ rb := by omega
  have HFT := Lib.hid hft
  have HV := Lib.hid hV
  clear hrb0 hft hV
  refine (join_f (HS.out.fr0 HV.out.fr) hfit.out).mono ?_
  rintro e w1 ⟨q1, m1, c1, rfl, hJ⟩
  have HJ := Lib.hid hJ
  clear hJ
  have hm1 : m1 ≤ 270000 := by have h1 := length_joinB_le hfit.out; have h2 := HJ.out.len; omega
  have w5 : IntKind.u8.wrap kind = kind := by rw [IntKind.wrap_u8, Int.emod_eq_of_lt] <;> omega
  go_wp2_with (refine wpList_app47 rfl _ _ rfl rfl (HJ.out.call ((Fr.refl [] w1).alloc (.cells #[.int .u8 kind] 5))) rfl (l2 := [kind]) (Sl.of (World.at_alloc_new _ _ _ rfl) (by simp) (by simp) (Nat.le_refl 1)) (by omega) ?_)
  intro q2 c2 W2 hB2
  obtain ⟨M, hO3, hM, hK⟩ := HV.out.join hB2
  have HO3 := Lib.hid hO3
  have HM := Lib.hid hM
  have HK := Lib.hid hK
  clear hB2 hO3 hM hK HV HJ
  obtain ⟨tx, htx⟩ : ∃ tx, tx = txt (kind, ps) := ⟨_, rfl⟩
  have HK : Hid (∀ w', Has M w' → Sl .u8 w' q2 (m1 + 1) c2 tx) := by rw [htx]; exact HK
  have HTX := Lib.hid htx
  clear htx
  go_upto_region 5 with (fail)
  obtain ⟨fi, hfi⟩ : ∃ fi, T.findIdx? (fun u => txt u == tx) = fi := ⟨_, rfl⟩
  have hfs : findS (strB tx) (keysT T 0) 0 = fi.map fun n => (0 + n, Value.int .i64 ((0 + n + 1 : Nat) : Int)) := by
    rw [HTX.out, findS_keysT HG.out T 0 0 HGT.out, ← HTX.out, hfi]
  have hMap : MapS W2.drew mb (keysT T 0) := ⟨es, clock, HO3.out.fr.get (HB.out.own.nth 1 rfl) (by simp), H4.out⟩
  have hl := hMap.look (P := Tryz.prog) (z := .int .i64 0) Tryz.underlying135 Tryz.underlying9 (run_zero3 _) (strB tx) true
  rw [hfs] at hl
  have hconv : (convert 49 9 (.slice q2 (m1 + 1) c2)).run Tryz.prog W2.drew = .ok (.string (strB tx)) W2.drew := conv47 (HK.out _ ((Has.of_append HO3.out.drew.has).1))
  have ft := HO3.out.fr.get HFT.out (by simp)
  have fr := HO3.out.mem (b := rb) (List.mem_append_right _ (List.mem_singleton.2 rfl))
  have tt := World.at_lt ft
  have tr := World.at_lt fr
  have HFI := Lib.hid hfi
  have HFS := Lib.hid hfs
  clear hfi hfs hMap
  cases fi with
  | some i =>
    simp only [Option.map_some, Option.getD_some, Option.isSome_some, if_true] at hl
    obtain ⟨i1, hi1⟩ : ∃ i1, i1 = i + 1 := ⟨_, rfl⟩
    rw [show ((0 + i + 1 : Nat) : Int) = (i1 : Int) by omega] at hl
    have HI1 := Lib.hid hi1
    clear hi1
    have hne : Nonempty Unit := ⟨()⟩
    refine wp_region_quiet_all (C := fun w' => ∃ _ : Unit, w' = W2.drew) (by kernel_rfl) (by kernel_rfl) ⟨(), rfl⟩ ?_
    repeat (go_big_quiet_step (fail))
    refine wpQuiet_nil ?_
    intro _ hw'
    obtain ⟨_, rfl⟩ := hw'
    clear hl hconv
    have hilt : i < n := by
      have := (List.findIdx?_eq_some_iff_findIdx_eq.1 HFI.out).1
      rw [HN.out]; exact this
    go_wp2_with fail
    refine (name_f (n := i1) (by have := HI1.out; omega)).mono ?_
    rintro e w3 ⟨rfl, F3⟩
    have HO5 := Lib.hid (HO3.out.drew.call F3)
    have ft := HO5.out.fr.get HFT.out (by simp)
    have fr := HO5.out.mem (b := rb) (List.mem_append_right _ (List.mem_singleton.2 rfl))
    have tt := World.at_lt ft
    have tr := World.at_lt fr
    clear F3
    go_wp2_with fail
    refine ret_cell_tmp rfl rfl rfl ?_
    go_simp
    have hlay : lay (zs 32) 0 (nameB i1) = nameB i1 := by simp [lay, zs, nameB_length]
    rw [hlay, makeT_old hfit.out hk1 hk2 (show T.findIdx? (fun u => txt u == txt (kind, ps)) = some i by rw [← HTX.out]; exact HFI.out), ← HI1.out]
    have FE : Fr [] w (w3.put rb (.cells (ints .u8 (nameB i1)) 34)) := HO5.out.fr.put rb _ (fun hb => by omega)
    exact ⟨by kernel_rfl, ⟨rfl, rfl⟩, HH.out.fr0 FE, .of FE⟩
  | none =>
    simp only [Option.map_none, Option.getD_none, Option.isSome_none, if_true] at hl
    have hne : Nonempty Unit := ⟨()⟩
    by_cases hful : 65535 ≤ n
    · have d3 : decide ((n : Int) ≥ 65535) = true := by rw [decide_eq_true_eq]; omega
      refine wp_region_quiet_all (C := fun w' => ∃ _ : Unit, w' = W2.drew) (by kernel_rfl) (by kernel_rfl) ⟨(), rfl⟩ ?_
      repeat (go_big_quiet_step (fail))
      refine wpQuiet_nil ?_
      intro _ hw'
      obtain ⟨_, rfl⟩ := hw'
      clear hl hconv
      go_wp2_with fail
      refine ret_cell_tmp rfl rfl rfl ?_
      go_simp
      rw [makeT_full hfit.out hk1 hk2 (show T.findIdx? (fun u => txt u == txt (kind, ps)) = none by rw [← HTX.out]; exact HFI.out) (by rw [← HN.out]; exact hful)]
      have FE : Fr [] w (W2.put rb (.cells (ints .u8 (Kd.zeros 32)) 34)).drew := (HO3.out.fr.put rb _ (fun hb => by omega)).drew
      exact ⟨by kernel_rfl, ⟨rfl, rfl⟩, HH.out.fr0 FE, .of FE⟩
    · have d3 : decide ((n : Int) ≥ 65535) = false := by rw [decide_eq_false_iff_not]; omega
      refine wp_region_quiet_all (C := fun w' => ∃ _ : Unit, w' = W2.drew) (by kernel_rfl) (by kernel_rfl) ⟨(), rfl⟩ ?_
      repeat (go_big_quiet_step (fail))
      refine wpQuiet_nil ?_
      intro _ hw'
      obtain ⟨_, rfl⟩ := hw'
      clear hl hconv
      go_wp2_with fail
      refine named_world (A := fun X => OwB w ((W2.heap.size, .cells #[.int .i64 kind, .slice none 0 0, .slice none 0 0] 200) :: (M ++ [(rb, .cells (ints .u8 (zs 32)) 34)])) X) (Q := fun X => Code.wp _ _ _ _ X) (HO3.out.alloc _).drew ?_
      intro V6 hO6
      have hxt : W2.heap.size ≠ tb := by omega
      generalize W2.heap.size = xb at hO6 hxt ⊢
      obtain ⟨L, hL⟩ : ∃ L, L = M ++ [(rb, Obj.cells (ints .u8 (zs 32)) 34)] := ⟨_, rfl⟩
      rw [← hL] at hO6
      have HO6 := Lib.hid hO6
      have HL := Lib.hid hL
      have hmm := HS.out.len
      clear hL hO6 ft fr tt tr
      go_loopw [60] (fun iv wy => ∃ (i : Nat) (q9 : Option Addr) (c9 : Nat) (us : List Value) (q8 : Option Addr) (c8 : Nat) (ns : List Value) (N9 N8 M9 : List (Nat × Obj)), i ≤ m ∧ iv = .int .i64 (i : Int) ∧
        Hid (OwB w (N9 ++ (N8 ++ (M9 ++ ((xb, .cells #[.int .i64 kind, .slice q9 i c9, .slice q8 i c8] 200) :: L)))) wy) ∧ Hid (Parked N9 49 1 q9 i c9 us) ∧ Hid (Parked N8 201 1 q8 i c8 ns) ∧ Hid (∀ x ∈ M9, ∃ cs fr, x.2 = .cells cs 5 fr) ∧ Hid (∀ w', Has M9 w' → Sls w' us (ps.take i))) (fun iv _ => (m - intOf iv).toNat)
      case atStart => exact ⟨0, none, 0, [], none, 0, [], [], [], [], by omega, rfl, HO6, Lib.hid (Parked.nil _ _), Lib.hid (Parked.nil _ _), Lib.hid (by simp), Lib.hid (fun _ _ => .nil)⟩
      case round =>
        obtain ⟨i, q9, c9, us, q8, c8, ns, N9, N8, M9, hi9, rfl, hO, hP9, hP8, hM9, hU⟩ := hrel
        by_cases hlt : i < m
        · have d4 : decide ((i : Int) < (m : Int)) = true := by rw [decide_eq_true_eq]; omega
          obtain ⟨b, off, cs, TT, fr, q3, m3, c3, l3, rfl, f00, hs, hc, hl, S3⟩ := HS.out.at hlt
          have f0 := hO.out.fr.get f00 (by simp)
          have hc2 := (Array.getElem?_eq_some_iff.1 hc).2
          have HS3 := Lib.hid S3
          have hl2 := Lib.hid hl
          clear S3 hl f00
          go_wp2_with fail
          clear f0 hc hc2 hs
          have HF := Lib.hid (show l3.length ≤ 4096 from by
            have := hfit.out
            simp only [fits, Bool.and_eq_true, decide_eq_true_eq, List.all_eq_true] at this
            exact this.2 l3 (List.mem_of_getElem? hl2.out))
          have hm3 : m3 ≤ 4096 := by rw [← HS3.out.len]; exact HF.out
          have hm64 : m ≤ 64 := by
            have := hfit.out
            simp only [fits, Bool.and_eq_true, decide_eq_true_eq] at this
            omega
          have fx := hO.out.mem (b := xb) (o := .cells #[.int .i64 kind, .slice q9 i c9, .slice q8 i c8] 200) (by simp)
          have tx0 := World.at_lt fx
          refine drawn_begin 7 (fun w' => w'.blk xb = some (.cells #[.int .i64 kind, .slice q9 i c9, .slice q8 i c8] 200)) (by kernel_rfl) ?_
          refine drawn_reads (fuel := 6) [0, 1, 3] rfl (by kernel_rfl) (by go_simp) ?_
          repeat (refine rowK_step rfl (fun K hK => ?_); go_simp; refine hK _ ?_; clear hK K)
          refine rowK_nil ⟨fun w' e1 => ?_, ?_⟩
          · repeat (refine rowWp_step rfl (fun K hK => ?_); go_simp; refine hK _ ?_; clear hK K)
            exact rowWp_nil rfl
          refine drawn_next 2 (fuel := 5) rfl (by kernel_rfl) ?_
          intro K hK
          go_wp2_with fail
          refine ⟨by go_simp, ?_⟩
          have hBe : Bld wr.drew [] .u8 5 (wr.drew.alloc (.cells #[] 5)) (some ⟨wr.drew.heap.size, 0, none⟩) 0 0 [] := Bld.made (OwB.start wr.drew) 0 (by simp [maxLen])
          have HBe := Lib.hid hBe
          clear hBe
          refine drawn_next 4 (fuel := 4) rfl (by kernel_rfl) ?_
          intro K hK
          refine wpList_app47 rfl _ _ rfl rfl HBe.out rfl (HS3.out.fr0 (hO.out.fr.drew.trans HBe.out.own.fr)) (by omega) ?_
          intro q4 c4 W4 hB4
          rw [Nat.zero_add, List.nil_append] at hB4
          rw [Nat.zero_add]
          obtain ⟨M2, hO2, hM2, hK2⟩ := hO.out.drew.join hB4
          have fx2 := hO2.mem (b := xb) (o := .cells #[.int .i64 kind, .slice q9 i c9, .slice q8 i c8] 200) (by simp)
          have HO2 := Lib.hid hO2
          have HM2 := Lib.hid hM2
          have HK2 := Lib.hid hK2
          clear hO2 hM2 hK2 hB4 HBe
          refine wpList_nil ?_
          refine hK _ _ ⟨fx2, ?_⟩
          clear hK K fx tx0
          refine drawn_next 5 (fuel := 3) rfl (by kernel_rfl) ?_
          intro K hK
          have tx2 := World.at_lt fx2
          go_wp2_with fail
          refine ⟨by go_simp, ?_⟩
          refine drawn_next 6 (fuel := 2) rfl (by kernel_rfl) ?_
          intro K hK
          refine wpList_app86 rfl _ _ rfl rfl ((hP9.out.take (HO2.out.perm (List.perm_append_comm_assoc _ _ _))).call ((Fr.refl [] W4).alloc (.cells #[.slice q4 m3 c4] 49))) rfl (Sv.one (v := .slice q4 m3 c4) (T := 49) (fr := (0, 0)) (World.at_alloc_new _ _ _ rfl)) (by simp [Value.oneCell']) (by omega) ?_
          intro q5 c5 W5 B5
          have fx5 := B5.own.mem (b := xb) (o := .cells #[.int .i64 kind, .slice q9 i c9, .slice q8 i c8] 200) (by simp)
          obtain ⟨N5, hO5, hP5⟩ := B5.park
          have HO5 := Lib.hid hO5
          have HP5 := Lib.hid hP5
          clear hO5 hP5 B5
          refine wpList_nil ?_
          refine hK _ _ ⟨fx5, ?_⟩
          clear hK K fx2 tx2
          have tx5 := World.at_lt fx5
          refine drawn_end rfl (by kernel_rfl) ?_
          intro K hK
          go_wp2_with fail
          have hO6 : OwB w (N5 ++ (M2 ++ (N8 ++ (M9 ++ ((xb, .cells #[.int .i64 kind, .slice q5 (i + 1) c5, .slice q8 i c8] 200) :: L))))) (W5.put xb (.cells #[.int .i64 kind, .slice q5 (i + 1) c5, .slice q8 i c8] 200)) := by
            have h := HO5.out
            rw [← List.append_assoc, ← List.append_assoc, ← List.append_assoc] at h ⊢
            exact h.set_mid _
          refine named_world (A := fun X => OwB w (N5 ++ (M2 ++ (N8 ++ (M9 ++ ((xb, .cells #[.int .i64 kind, .slice q5 (i + 1) c5, .slice q8 i c8] 200) :: L))))) X) (Q := fun X => Code.wp _ _ _ _ X) hO6 ?_
          clear hO6 fx5 tx5 HO5 HO2 hO hP9
          intro V7 hO7
          have HO7 := Lib.hid hO7
          clear hO7
          have fx := HO7.out.mem (b := xb) (o := .cells #[.int .i64 kind, .slice q5 (i + 1) c5, .slice q8 i c8] 200) (by simp)
          have ft := HO7.out.fr.get HFT.out (by simp)
          have tx0 := World.at_lt fx
          have tt := World.at_lt ft
          refine drawn_begin 11 (fun w' => w'.blk xb = some (.cells #[.int .i64 kind, .slice q5 (i + 1) c5, .slice q8 i c8] 200) ∧ w'.blk tb = some (.cells #[.slice p n cap, .map (some mb)] 138)) (by kernel_rfl) ?_
          refine drawn_reads (fuel := 5) [0, 1, 2, 3, 4, 5, 6, 7] rfl (by kernel_rfl) ⟨fx, ft⟩ ?_
          repeat (refine rowK_step rfl (fun K hK => ?_); go_simp; refine hK _ ?_; clear hK K)
          refine rowK_nil ⟨fun w' e1 => ?_, ?_⟩
          · obtain ⟨e1, e2⟩ := e1
            repeat (refine rowWp_step rfl (fun K hK => ?_); go_simp; refine hK _ ?_; clear hK K)
            exact rowWp_nil rfl
          refine drawn_next 8 (fuel := 4) rfl (by kernel_rfl) ?_
          intro K hK
          go_wp2_with fail
          refine (in_f (HS3.out.fr0 HO7.out.fr.drew) (HG.out.2.1 l3 (List.mem_of_getElem? hl2.out)) (by omega) (by omega)).mono ?_
          rintro e W8 ⟨q7, m7, c7, rfl, F8⟩
          have HO8 := Lib.hid (HO7.out.drew.call F8)
          clear fx ft tx0 tt F8
          have fx := HO8.out.mem (b := xb) (o := .cells #[.int .i64 kind, .slice q5 (i + 1) c5, .slice q8 i c8] 200) (by simp)
          have ft := HO8.out.fr.get HFT.out (by simp)
          have tx0 := World.at_lt fx
          have tt := World.at_lt ft
          go_wp2_with fail
          refine ⟨⟨fx, ft⟩, ?_⟩
          refine drawn_next 9 (fuel := 3) rfl (by kernel_rfl) ?_
          intro K hK
          go_wp2_with fail
          refine ⟨⟨by go_simp, by go_simp⟩, ?_⟩
          refine drawn_next 10 (fuel := 2) rfl (by kernel_rfl) ?_
          intro K hK
          refine wpList_app124 rfl _ _ rfl rfl ((hP8.out.take (HO8.out.perm (((List.perm_append_comm_assoc M2 N8 _).append_left N5).trans (List.perm_append_comm_assoc N5 N8 _)))).call ((Fr.refl [] W8).alloc (.cells #[.slice q7 m7 c7] 201))) rfl (Sv.one (v := .slice q7 m7 c7) (T := 201) (fr := (0, 0)) (World.at_alloc_new _ _ _ rfl)) (by simp [Value.oneCell']) (by omega) ?_
          intro q9' c9' W9 B9
          clear fx ft tx0 tt
          have fx := B9.own.mem (b := xb) (o := .cells #[.int .i64 kind, .slice q5 (i + 1) c5, .slice q8 i c8] 200) (by simp)
          have ft := B9.own.fr.get HFT.out (by simp)
          obtain ⟨N7, hO9, hP7⟩ := B9.park
          have HO9 := Lib.hid hO9
          have HP7 := Lib.hid hP7
          clear hO9 hP7 B9
          refine wpList_nil ?_
          refine hK _ _ ⟨⟨fx, ft⟩, ?_⟩
          clear hK K
          have tx0 := World.at_lt fx
          have tt := World.at_lt ft
          refine drawn_end rfl (by kernel_rfl) ?_
          intro K hK
          go_wp2_with fail
          go_roundw
          case rel =>
            refine ⟨i + 1, q5, c5, us ++ [.slice q4 m3 c4], q9', c9', ns ++ [.slice q7 m7 c7], N5, N7, M2 ++ M9, by omega, by simp, ?_, HP5, HP7, ?_, ?_⟩
            · have h := HO9.out
              rw [← List.append_assoc, ← List.append_assoc, ← List.append_assoc] at h
              have h2 := h.set_mid (.cells #[.int .i64 kind, .slice q5 (i + 1) c5, .slice q9' (i + 1) c9'] 200)
              refine Lib.hid (h2.perm ?_)
              simp only [List.append_assoc]
              exact List.perm_append_comm_assoc _ _ _
            · refine Lib.hid fun x hx => ?_
              rcases List.mem_append.1 hx with h | h
              · exact HM2.out x h
              · exact hM9.out x h
            · refine Lib.hid fun w' hw' => ?_
              have h2 := Has.of_append hw'
              rw [List.take_add_one, hl2.out]
              exact (hU.out w' h2.2).append (.cons (HK2.out w' h2.1) .nil)
          case measure => simp [intOf]; omega
        · obtain rfl : i = m := by omega
          have hd : decide ((i : Int) < (i : Int)) = false := by simp
          go_wp2_with fail
          obtain ⟨New, hNew⟩ : ∃ New, New = N9 ++ (N8 ++ (M9 ++ ((xb, .cells #[.int .i64 kind, .slice q9 i c9, .slice q8 i c8] 200) :: L))) := ⟨_, rfl⟩
          have HON : Hid (OwB w New wr) := by rw [hNew]; exact hO
          have HNew := Lib.hid hNew
          have fx := hO.out.mem (b := xb) (o := .cells #[.int .i64 kind, .slice q9 i c9, .slice q8 i c8] 200) (by simp)
          have ft := hO.out.fr.get HFT.out (by simp)
          have tx0 := World.at_lt fx
          have tt := World.at_lt ft
          clear hNew
          refine drawn_begin 8 (fun w' => w'.blk xb = some (.cells #[.int .i64 kind, .slice q9 i c9, .slice q8 i c8] 200) ∧ w'.blk tb = some (.cells #[.slice p n cap, .map (some mb)] 138)) (by kernel_rfl) ?_
          refine drawn_reads (fuel := 5) [0, 1, 2, 3, 4, 5] rfl (by kernel_rfl) ⟨fx, ft⟩ ?_
          repeat (refine rowK_step rfl (fun K hK => ?_); go_simp; refine hK _ ?_; clear hK K)
          refine rowK_nil ⟨fun w' e1 => ?_, ?_⟩
          · obtain ⟨e1, e2⟩ := e1
            repeat (refine rowWp_step rfl (fun K hK => ?_); go_simp; refine hK _ ?_; clear hK K)
            exact rowWp_nil rfl
          refine drawn_next 6 (fuel := 4) rfl (by kernel_rfl) ?_
          intro K hK
          go_wp2_with fail
          refine ⟨⟨by go_simp, by go_simp⟩, ?_⟩
          refine drawn_next 7 (fuel := 3) rfl (by kernel_rfl) ?_
          intro K hK
          refine wpList_app114 rfl _ _ rfl rfl ((HB.out.merge HON.out.drew).call ((Fr.refl [] wr.drew).alloc (.cells #[.int .i64 kind, .slice q9 i c9, .slice q8 i c8] 200))) rfl (us := [.int .i64 kind, .slice q9 i c9, .slice q8 i c8]) ⟨rfl, Nat.le_refl 1, .inr ⟨wr.drew.heap.size, 0, _, _, (0, 0), rfl, World.at_alloc_new _ _ _ rfl, by simp, by simp⟩, by simp, fun a ha => ⟨_, _, (by simpa using ha.symm)⟩⟩ (by simp [Value.oneCell']) (by omega) ?_
          intro p5 c5 W5 B5 hp5 F5
          generalize hn1 : n + 1 = n1 at B5 ⊢
          have HN1 := Lib.hid hn1
          have hn1b : n1 ≤ 65535 := by omega
          clear hn1
          have ftb := HB.out.own.nth 0 rfl
          have FP : Fr ((p.map (·.block)).toList ++ [tb, mb]) w W5 := (HON.out.fr.mono (fp' := (p.map (·.block)).toList ++ [tb, mb]) (by simp)).seq (((Fr.refl ((p.map (·.block)).toList) wr).drew.alloc _).seq F5 (fun k hk _ => hk)) (fun k hk _ => List.mem_append_left _ hk)
          have h3' : ∀ g, p5.map (·.block) = some g → lo ≤ g := fun g hg => by
            rcases hp5 g hg with h | h
            · exact H3.out g h
            · have h8 := HON.out.fr.size
              have h9 := World.at_lt ftb
              have h10 : wr.heap.size ≤ g := by simp at h; omega
              omega
          have H3' := Lib.hid h3'
          have HFP := Lib.hid FP
          clear fx ft tx0 tt ftb h3' FP F5 hp5
          have fx := B5.own.mem (b := xb) (o := .cells #[.int .i64 kind, .slice q9 i c9, .slice q8 i c8] 200) (List.mem_append_left _ (by rw [HNew.out]; simp))
          have ft := B5.own.mem (b := tb) (o := .cells #[.slice p n cap, .map (some mb)] 138) (by simp)
          have HB5 := Lib.hid B5
          clear B5
          refine wpList_nil ?_
          refine hK _ _ ⟨⟨fx, ft⟩, ?_⟩
          clear hK K
          have tx0 := World.at_lt fx
          have tt := World.at_lt ft
          refine drawn_end rfl (by kernel_rfl) ?_
          intro K hK
          go_wp2_with fail
          refine named_world (A := fun X => BldV w0 (New ++ [(tb, .cells #[.slice p5 n1 c5, .map (some mb)] 138), (mb, .map es clock)]) 200 3 X p5 n1 c5 (vs ++ [.int .i64 kind, .slice q9 i c9, .slice q8 i c8]) ∧ Fr ((p.map (·.block)).toList ++ [tb, mb]) w X) (Q := fun X => Code.wp _ _ _ _ X) ⟨HB5.out.set_mid _, HFP.out.put _ _ (fun _ => by simp)⟩ ?_
          rintro V9 ⟨hB9, hF9⟩
          have HB9 := Lib.hid hB9
          have HF9 := Lib.hid hF9
          clear hB9 hF9 HB5 HFP fx ft tx0 tt
          have ft := HB9.out.own.mem (b := tb) (o := .cells #[.slice p5 n1 c5, .map (some mb)] 138) (by simp)
          have fm := HB9.out.own.mem (b := mb) (o := .map es clock) (by simp)
          have tt := World.at_lt ft
          have tm := World.at_lt fm
          have hML : Has M V9 := fun x hx => HB9.out.own.has x (List.mem_append_left _ (by rw [HNew.out, HL.out]; simp [hx]))
          have hconv : (convert 49 9 (.slice q2 (m1 + 1) c2)).run Tryz.prog V9.drew = .ok (.string (strB tx)) V9.drew := conv47 (HK.out _ hML)
          have hupd := run_mapAdd (P := Tryz.prog) (w := V9.drew) (es := es) (clock := clock) fm H4.out Tryz.underlying135 Tryz.underlying9 (strB tx) (.int .i64 (n1 : Int)) (by simpa using HFS.out)
          have hmt : mb ≠ tb := HB9.out.own.ne (New.length + 1) New.length (by rw [List.getElem?_append_right (by omega)]; simp; rfl) (by rw [List.getElem?_append_right (by omega)]; simp; rfl) (by omega)
          clear hML
          refine drawn_head 11 (by kernel_rfl) rfl rfl (by kernel_rfl) ?_
          change rowK _ _ _ [0, 1, 2, 3, 4, 5, 6, 7, 8, 9, 10] _ _
          repeat (refine rowK_step rfl (fun K hK => ?_); go_simp; refine hK _ ?_; clear hK K)
          refine rowK_nil ?_
          intro K hK
          go_wp2_with fail
          refine named_world (A := fun X => BldV w0 (New ++ [(tb, .cells #[.slice p5 n1 c5, .map (some mb)] 138), (mb, .map (es.push { key := .string (strB tx), val := .int .i64 (n1 : Int), born := clock }) (clock + 1))]) 200 3 X p5 n1 c5 (vs ++ [.int .i64 kind, .slice q9 i c9, .slice q8 i c8]) ∧ Fr ((p.map (·.block)).toList ++ [tb, mb]) w X) (Q := fun X => Calls Tryz.prog 118 _ X _) ⟨by
            have h := HB9.out
            rw [show New ++ [(tb, Obj.cells #[.slice p5 n1 c5, .map (some mb)] 138), (mb, .map es clock)] = (New ++ [(tb, Obj.cells #[.slice p5 n1 c5, .map (some mb)] 138)]) ++ (mb, .map es clock) :: [] by simp] at h
            have h2 := (h.set_mid (.map (es.push { key := .string (strB tx), val := .int .i64 (n1 : Int), born := clock }) (clock + 1))).call (Fr.refl [] _).drew
            simpa using h2, (HF9.out.put _ _ (fun _ => by simp)).drew⟩ ?_
          rintro V10 ⟨hB10, hF10⟩
          have HB10 := Lib.hid hB10
          have HF10 := Lib.hid hF10
          clear hB10 hF10 HB9 HF9 ft fm tt tm hconv hupd hmt
          refine (name_f (n := n1) (by omega)).mono ?_
          rintro e W11 ⟨rfl, F11⟩
          have HB11 := Lib.hid (HB10.out.call F11)
          have HF11 := Lib.hid (HF10.out.seq F11 (by simp))
          clear F11 HB10 HF10
          have fr := HB11.out.own.mem (b := rb) (o := .cells (ints .u8 (zs 32)) 34) (List.mem_append_left _ (by rw [HNew.out, HL.out]; simp))
          have tr := World.at_lt fr
          go_wp2_with fail
          refine ret_cell_tmp rfl rfl rfl ?_
          go_simp
          have hlay : lay (zs 32) 0 (nameB n1) = nameB n1 := by simp [lay, zs, nameB_length]
          rw [hlay, makeT_more hfit.out hk1 hk2 (show T.findIdx? (fun u => txt u == txt (kind, ps)) = none by rw [← HTX.out]; exact HFI.out) (by rw [← HN.out]; omega), ← HN.out, HN1.out]
          have hFE := HF11.out.put rb (.cells (ints .u8 (nameB n1)) 34) (fun hb => by omega)
          have B12 : BldV w0 ((N9 ++ (N8 ++ (M9 ++ ((xb, .cells #[.int .i64 kind, .slice q9 i c9, .slice q8 i c8] 200) :: M)))) ++ (rb, .cells (ints .u8 (nameB n1)) 34) :: [(tb, .cells #[.slice p5 n1 c5, .map (some mb)] 138), (mb, .map (es.push { key := .string (strB tx), val := .int .i64 (n1 : Int), born := clock }) (clock + 1))]) 200 3 (W11.put rb (.cells (ints .u8 (nameB n1)) 34)) p5 n1 c5 (vs ++ [.int .i64 kind, .slice q9 i c9, .slice q8 i c8]) := by
            have h := HB11.out
            rw [HNew.out, HL.out] at h
            rw [show (N9 ++ (N8 ++ (M9 ++ ((xb, Obj.cells #[.int .i64 kind, .slice q9 i c9, .slice q8 i c8] 200) :: (M ++ [(rb, .cells (ints .u8 (zs 32)) 34)]))))) ++ [(tb, .cells #[.slice p5 n1 c5, .map (some mb)] 138), (mb, .map (es.push { key := .string (strB tx), val := .int .i64 (n1 : Int), born := clock }) (clock + 1))] = (N9 ++ (N8 ++ (M9 ++ ((xb, .cells #[.int .i64 kind, .slice q9 i c9, .slice q8 i c8] 200) :: M)))) ++ (rb, .cells (ints .u8 (zs 32)) 34) :: [(tb, .cells #[.slice p5 n1 c5, .map (some mb)] 138), (mb, .map (es.push { key := .string (strB tx), val := .int .i64 (n1 : Int), born := clock }) (clock + 1))] by simp] at h
            exact h.set_mid _
          have hlen := HB.out.len
          have FT : FrT TT lo w (W11.put rb (.cells (ints .u8 (nameB n1)) 34)) := FrT.ofTab HB.out (HB.out.own.nth 0 rfl) (HB.out.own.nth 1 rfl) rfl h1 h2 H3.out hFE
          refine ⟨by kernel_rfl, ⟨rfl, rfl⟩, ⟨⟨w0, mb, p5, c5, vs ++ [.int .i64 kind, .slice q9 i c9, .slice q8 i c8], es.push { key := .string (strB tx), val := .int .i64 (n1 : Int), born := clock }, clock + 1, h0, ?_, h1, h2, H3'.out, ?_, ?_, ?_⟩, ?_, ?_⟩, FT⟩
          · have e : (T ++ [(kind, ps)]).length = n1 := by rw [List.length_append, ← HN.out]; exact HN1.out
            rw [e]
            exact B12.sub ((List.sublist_cons_self _ _).trans (List.sublist_append_right _ _))
          · rw [keysT_append, Array.toList_push, List.map_append, List.map_append, H4.out, ← HTX.out]
            have e : 0 + T.length + 1 = n1 := by rw [← HN.out, ← HN1.out]; omega
            rw [e]
            rfl
          · intro u hu
            simp only [List.mem_append, List.mem_cons, List.not_mem_nil, or_false] at hu
            rcases hu with hu | rfl | rfl | rfl
            · exact H5.out u hu
            · rfl
            · rfl
            · rfl
          · intro j u hu
            rcases Nat.lt_or_ge j n with hj | hj
            · rw [List.getElem?_append_left (by rw [← HN.out]; exact hj)] at hu
              obtain ⟨a, q, m, c, q2, m2, c2, b, d, e⟩ := H6.out j u hu
              exact ⟨by rw [List.getElem?_append_left (by omega)]; exact a, q, m, c, q2, m2, c2, by rw [List.getElem?_append_left (by omega)]; exact b, by rw [List.getElem?_append_left (by omega)]; exact d, e.step FT.stay⟩
            · rw [List.getElem?_append_right (by rw [← HN.out]; exact hj), ← HN.out] at hu
              obtain rfl : j = n := by
                have := (List.getElem?_eq_some_iff.1 hu).1
                simp at this
                omega
              rw [Nat.sub_self] at hu
              simp only [List.getElem?_cons_zero, Option.some.injEq] at hu
              subst hu
              have hw := B12.own
              rw [List.append_assoc] at hw
              refine ⟨by rw [List.getElem?_append_right (by omega), show 3 * j - vs.length = 0 by omega]; rfl, q9, i, c9, q8, i, c8, by rw [List.getElem?_append_right (by omega), show 3 * j + 1 - vs.length = 1 by omega]; rfl, by rw [List.getElem?_append_right (by omega), show 3 * j + 2 - vs.length = 2 by omega]; rfl, fun w' G => ?_⟩
              have hS := hU.out w' (Has.stay (fun x hx => hw.has x (by simp [hx])) (fun x hx => by obtain ⟨cs, fr, h⟩ := hM9.out x hx; exact ⟨cs, 5, fr, h, .inl rfl⟩) G)
              rw [List.take_of_length_le (by omega)] at hS
              exact Sll.of ((hP9.out.take hw).svStay (.inr rfl) G) hS
          · intro u hu
            rcases List.mem_append.1 hu with hu | hu
            · exact HGT.out u hu
            · rw [List.mem_singleton] at hu
              subst hu
              exact HG.out
          · rw [List.length_append, ← HN.out]; simp; have := HN1.out; omega
end
end Go.Proofs.YtbhnfohoclcjdaaGreat
namespace Go.Proofs.YtbhnfohoclcjdaaGreat
open Go.RowKit Go.Dr Go.Kd
/-- The free suite of a table, as a value. -/
abbrev SU (tb : Nat) : Value := .agg #[.pointer (some ⟨tb, 0, none⟩)]
section
variable {w : World}
set_option maxRecDepth 100000 in
set_option maxHeartbeats 2000000 in
theorem new_f : Calls Tryz.prog 38 #[] w fun e w' => ∃ tb, e = .returned (.pointer (some ⟨tb, 0, none⟩)) ∧ TabP w.heap.size tb w' [] ∧ Fr [] w w' := by
  go_enter Tryz.func38, Tryz.ntmps38
  have hO := ((OwB.start w).allocN (.map #[] 0) w.heap.size rfl).allocN (.cells #[.slice none 0 0, .map (some w.heap.size)] 138) (w.heap.size + 1) (by simp)
  have HO := Lib.hid hO
  clear hO
  have hmk : (Instr.makeMap 135 none).run Tryz.prog w = .ok (.map (some w.heap.size)) (w.alloc (.map #[] 0)) := by
    simp [Instr.makeMap, go_sem]
  go_wp2_with fail
  exact bodyPost_ret (results_tmp rfl _ _ _) rfl ⟨w.heap.size + 1, rfl, Tab.new (t := TT) HO.out, HO.out.fr⟩
set_option maxRecDepth 100000 in
set_option maxHeartbeats 2000000 in
theorem free_f : Calls Tryz.prog 7 #[] w fun e w' => ∃ tb, e = .returned (SU tb) ∧ TabP w.heap.size tb w' [] ∧ Fr [] w w' := by
  go_enter Tryz.func7, Tryz.ntmps7
  go_wp2_with fail
  have hO := (OwB.start w).allocN (.cells #[.pointer none] 27) w.heap.size rfl
  refine new_f.mono ?_
  rintro e w1 ⟨tb, rfl, hT, F⟩
  have hlo := hT.lower
  have hlt := hT.lt
  rw [World.size_alloc] at hlo
  have f0 := F.get (hO.nth 0 rfl) (by simp)
  have t0 := World.at_lt f0
  have HT := Lib.hid hT
  have HF := Lib.hid ((hO.call F).fr)
  clear hT F hO
  go_wp2_with fail
  refine ret_cell rfl rfl rfl ?_
  go_simp
  exact ⟨by kernel_rfl, (HT.out.put f0 (by decide) _).mono (by simp), HF.out.put _ _ (fun h => by omega)⟩
set_option maxRecDepth 100000 in
set_option maxHeartbeats 2000000 in
theorem mk_f {lo tb : Nat} {T : List Tm} {q : Option Addr} {m c : Nat} {ps : List (List Int)} {kind : Int} (h : TabP lo tb w T) (S : Sll w q m c ps) (hg : goodT (kind, ps)) :
    Calls Tryz.prog 40 #[SU tb, .int .i64 kind, .slice q m c] w fun e w' => e = .returned (.agg (ints .u8 (makeT T (kind, ps)).2.1)) ∧ TabP lo tb w' (makeT T (kind, ps)).1 ∧ FrP lo w w' := by
  have H := Lib.hid h
  have HS := Lib.hid S
  have HG := Lib.hid hg
  clear h S hg
  go_enter Tryz.func40, Tryz.ntmps40
  go_wp2_with fail
  refine named_world (A := fun X => OwB w [(w.heap.size + 1, .cells (ints .u8 (zs 32)) 34), (w.heap.size, .cells #[.pointer (some ⟨tb, 0, none⟩)] 27)] X) (Q := fun X => Calls Tryz.prog 80 _ X _) (((OwB.start w).allocN _ w.heap.size rfl).allocN _ (w.heap.size + 1) (by simp)) ?_
  intro V hV
  generalize w.heap.size + 1 = b6 at hV ⊢
  generalize w.heap.size = b3 at hV ⊢
  refine (make_f (H.out.fr0 hV.fr) (HS.out.fr0 hV.fr) HG.out).mono ?_
  rintro e w1 ⟨rfl, hT, F⟩
  have f6 := F.get (hV.nth 0 rfl) (.inr ⟨by decide, by decide⟩)
  have f3 := F.get (hV.nth 1 rfl) (.inr ⟨by decide, by decide⟩)
  have n36 := hV.ne 0 1 rfl rfl (by decide)
  have l6 := hV.low 0 rfl
  have t6 := World.at_lt f6
  have HT := Lib.hid hT
  have HF := Lib.hid ((FrT.of hV.fr).trans F)
  have hk := makeT_len T (kind, ps)
  generalize hke : (makeT T (kind, ps)).2.1 = k at hk ⊢
  have HKE := Lib.hid hke
  clear hT F hV hke
  go_wp2_with fail
  refine ret_cell rfl rfl rfl ?_
  go_simp
  exact ⟨by kernel_rfl, by rw [HKE.out], (HT.out.put f6 (by decide) _).fr0 ((Fr.refl [] _).alloc _), (HF.out.put _ l6).alloc _⟩
/-- A term of one part, of a secret that lies in a box. -/
theorem sll_one {V : World} {b bx : Nat} {k : List Int} {T1 T2 : TypeId} (h1 : V.blk b = some (.cells (ints .u8 k) T1)) (h2 : V.blk bx = some (.cells #[.slice (some ⟨b, 0, none⟩) 32 32] T2)) (hk : k.length = 32) : Sll V (some ⟨bx, 0, none⟩) 1 1 [k] :=
  Sll.of (Sv.one h2) (.cons (Sl.whole h1 hk) .nil)
theorem good_one {kind : Int} {k : List Int} (h1 : 1 ≤ kind) (h8 : kind ≤ 8) (hk : k.length = 32) (hb : isBytes k) : goodT (kind, [k]) :=
  ⟨by simp [fits, hk], by simpa using hb, h1, h8⟩
set_option maxRecDepth 100000 in
set_option maxHeartbeats 2000000 in
theorem fresh_f {lo tb : Nat} {T : List Tm} {k : List Int} (h : TabP lo tb w T) (hk : k.length = 32) (hb : isBytes k) :
    Calls Tryz.prog 52 #[SU tb, .agg (ints .u8 k)] w fun e w' => e = .returned (.agg (ints .u8 (makeT T (1, [k])).2.1)) ∧ TabP lo tb w' (makeT T (1, [k])).1 ∧ FrP lo w w' := by
  have H := Lib.hid h
  have HB := Lib.hid hb
  clear h hb
  go_enter Tryz.func52, Tryz.ntmps52
  go_wp2_with fail
  refine named_world (A := fun X => OwB w [(w.heap.size + 1 + 1, .cells (ints .u8 (zs 32)) 34), (w.heap.size + 1, .cells (ints .u8 k) 34), (w.heap.size, .cells #[.pointer (some ⟨tb, 0, none⟩)] 27)] X) (Q := fun X => Code.wp _ _ _ _ X) ((((OwB.start w).allocN _ w.heap.size rfl).allocN _ (w.heap.size + 1) (by simp)).allocN _ (w.heap.size + 1 + 1) (by simp)) ?_
  intro V hV
  generalize w.heap.size + 1 + 1 = b4 at hV ⊢
  generalize w.heap.size + 1 = b3 at hV ⊢
  generalize w.heap.size = b2 at hV ⊢
  have f2 := hV.nth 2 rfl
  have f3 := hV.nth 1 rfl
  have t2 := World.at_lt f2
  have t3 := World.at_lt f3
  have HV := Lib.hid hV
  clear hV
  refine drawn_begin 4 (fun w' => w'.blk b2 = some (.cells #[.pointer (some ⟨tb, 0, none⟩)] 27) ∧ w'.blk b3 = some (.cells (ints .u8 k) 34)) (by kernel_rfl) ?_
  refine drawn_reads (fuel := 3) [0, 1] rfl (by kernel_rfl) ⟨f2, f3⟩ ?_
  repeat (first | (refine rowK_step2 rfl rfl (fun K hK => ?_); go_wp2) | (refine rowK_step rfl (fun K hK => ?_); go_simp; refine hK _ ?_; clear hK K))
  refine rowK_nil ⟨fun w' e1 => ?_, ?_⟩
  · obtain ⟨e1, e2⟩ := e1
    clear f2 f3
    repeat (first | (refine rowWp_step2 rfl rfl (fun K hK => ?_); go_wp2) | (refine rowWp_step rfl (fun K hK => ?_); go_simp; refine hK _ ?_; clear hK K))
    exact rowWp_nil rfl
  refine drawn_next 2 (fuel := 2) rfl (by kernel_rfl) ?_
  intro K hK
  go_wp2_with fail
  refine ⟨⟨by go_simp, by go_simp⟩, ?_⟩
  refine drawn_next 3 (fuel := 1) rfl (by kernel_rfl) ?_
  intro K hK
  go_wp2_with fail
  refine named_world (A := fun X => OwB w [(V.heap.size, .cells #[.slice (some ⟨b3, 0, none⟩) 32 32] 49), (b4, .cells (ints .u8 (zs 32)) 34), (b3, .cells (ints .u8 k) 34), (b2, .cells #[.pointer (some ⟨tb, 0, none⟩)] 27)] X) (Q := fun X => Calls Tryz.prog 40 _ X _) (HV.out.allocN _ V.heap.size rfl).drew ?_
  intro V5 hV5
  clear f2 f3 t2 t3
  generalize V.heap.size = bx at hV5 ⊢
  refine (mk_f (H.out.fr0 hV5.fr) (sll_one (hV5.nth 2 rfl) (hV5.nth 0 rfl) hk) (good_one (by decide) (by decide) hk HB.out)).mono ?_
  rintro e w1 ⟨rfl, hT, F⟩
  have f4 := F.get (hV5.nth 1 rfl) (.inr ⟨by decide, by decide⟩)
  have f3 := F.get (hV5.nth 2 rfl) (.inr ⟨by decide, by decide⟩)
  have f2 := F.get (hV5.nth 3 rfl) (.inr ⟨by decide, by decide⟩)
  have l4 := hV5.low 1 rfl
  have t4 := World.at_lt f4
  have HT := Lib.hid hT
  have HF := Lib.hid ((FrT.of hV5.fr).trans F)
  have hk2 := makeT_len T (1, [k])
  generalize hke : (makeT T (1, [k])).2.1 = k2 at hk2 ⊢
  have HKE := Lib.hid hke
  clear hT F hV5 hke
  go_wp2_with fail
  refine ⟨⟨f2, f3⟩, ?_⟩
  refine drawn_end rfl (by kernel_rfl) ?_
  intro K hK
  go_wp2_with fail
  refine ret_cell rfl rfl rfl ?_
  go_simp
  exact ⟨by kernel_rfl, by rw [HKE.out], HT.out.put f4 (by decide) _, HF.out.put _ l4⟩
set_option maxRecDepth 100000 in
set_option maxHeartbeats 2000000 in
theorem signer_f {lo tb : Nat} {T : List Tm} {k : List Int} (h : TabP lo tb w T) (hk : k.length = 32) (hb : isBytes k) :
    Calls Tryz.prog 9 #[SU tb, .agg (ints .u8 k)] w fun e w' => e = .returned (.agg (ints .u8 (makeT T (5, [k])).2.1)) ∧ TabP lo tb w' (makeT T (5, [k])).1 ∧ FrP lo w w' := by
  have H := Lib.hid h
  have HB := Lib.hid hb
  clear h hb
  go_enter Tryz.func9, Tryz.ntmps9
  go_wp2_with fail
  refine named_world (A := fun X => OwB w [(w.heap.size + 1 + 1, .cells (ints .u8 (zs 32)) 34), (w.heap.size + 1, .cells (ints .u8 k) 34), (w.heap.size, .cells #[.pointer (some ⟨tb, 0, none⟩)] 27)] X) (Q := fun X => Code.wp _ _ _ _ X) ((((OwB.start w).allocN _ w.heap.size rfl).allocN _ (w.heap.size + 1) (by simp)).allocN _ (w.heap.size + 1 + 1) (by simp)) ?_
  intro V hV
  generalize w.heap.size + 1 + 1 = b4 at hV ⊢
  generalize w.heap.size + 1 = b3 at hV ⊢
  generalize w.heap.size = b2 at hV ⊢
  have f2 := hV.nth 2 rfl
  have f3 := hV.nth 1 rfl
  have t2 := World.at_lt f2
  have t3 := World.at_lt f3
  have HV := Lib.hid hV
  clear hV
  refine drawn_begin 4 (fun w' => w'.blk b2 = some (.cells #[.pointer (some ⟨tb, 0, none⟩)] 27) ∧ w'.blk b3 = some (.cells (ints .u8 k) 34)) (by kernel_rfl) ?_
  refine drawn_reads (fuel := 3) [0, 1] rfl (by kernel_rfl) ⟨f2, f3⟩ ?_
  repeat (first | (refine rowK_step2 rfl rfl (fun K hK => ?_); go_wp2) | (refine rowK_step rfl (fun K hK => ?_); go_simp; refine hK _ ?_; clear hK K))
  refine rowK_nil ⟨fun w' e1 => ?_, ?_⟩
  · obtain ⟨e1, e2⟩ := e1
    clear f2 f3
    repeat (first | (refine rowWp_step2 rfl rfl (fun K hK => ?_); go_wp2) | (refine rowWp_step rfl (fun K hK => ?_); go_simp; refine hK _ ?_; clear hK K))
    exact rowWp_nil rfl
  refine drawn_next 2 (fuel := 2) rfl (by kernel_rfl) ?_
  intro K hK
  go_wp2_with fail
  refine ⟨⟨by go_simp, by go_simp⟩, ?_⟩
  refine drawn_next 3 (fuel := 1) rfl (by kernel_rfl) ?_
  intro K hK
  go_wp2_with fail
  refine named_world (A := fun X => OwB w [(V.heap.size, .cells #[.slice (some ⟨b3, 0, none⟩) 32 32] 49), (b4, .cells (ints .u8 (zs 32)) 34), (b3, .cells (ints .u8 k) 34), (b2, .cells #[.pointer (some ⟨tb, 0, none⟩)] 27)] X) (Q := fun X => Calls Tryz.prog 40 _ X _) (HV.out.allocN _ V.heap.size rfl).drew ?_
  intro V5 hV5
  clear f2 f3 t2 t3
  generalize V.heap.size = bx at hV5 ⊢
  refine (mk_f (H.out.fr0 hV5.fr) (sll_one (hV5.nth 2 rfl) (hV5.nth 0 rfl) hk) (good_one (by decide) (by decide) hk HB.out)).mono ?_
  rintro e w1 ⟨rfl, hT, F⟩
  have f4 := F.get (hV5.nth 1 rfl) (.inr ⟨by decide, by decide⟩)
  have f3 := F.get (hV5.nth 2 rfl) (.inr ⟨by decide, by decide⟩)
  have f2 := F.get (hV5.nth 3 rfl) (.inr ⟨by decide, by decide⟩)
  have l4 := hV5.low 1 rfl
  have t4 := World.at_lt f4
  have HT := Lib.hid hT
  have HF := Lib.hid ((FrT.of hV5.fr).trans F)
  have hk2 := makeT_len T (5, [k])
  generalize hke : (makeT T (5, [k])).2.1 = k2 at hk2 ⊢
  have HKE := Lib.hid hke
  clear hT F hV5 hke
  go_wp2_with fail
  refine ⟨⟨f2, f3⟩, ?_⟩
  refine drawn_end rfl (by kernel_rfl) ?_
  intro K hK
  go_wp2_with fail
  refine ret_cell rfl rfl rfl ?_
  go_simp
  exact ⟨by kernel_rfl, by rw [HKE.out], HT.out.put f4 (by decide) _, HF.out.put _ l4⟩
end
end Go.Proofs.YtbhnfohoclcjdaaGreat
namespace Go.Proofs.YtbhnfohoclcjdaaGreat
open Go.RowKit Go.Dr Go.Kd
section
variable {w : World}
theorem sll_two {V : World} {b bx : Nat} {k l : List Int} {q : Option Addr} {m c : Nat} {T1 T2 : TypeId} (h1 : V.blk b = some (.cells (ints .u8 k) T1)) (h3 : Sl .u8 V q m c l) (h2 : V.blk bx = some (.cells #[.slice (some ⟨b, 0, none⟩) 32 32, .slice q m c] T2)) (hk : k.length = 32) : Sll V (some ⟨bx, 0, none⟩) 2 2 [k, l] :=
  Sll.of (vs := [.slice (some ⟨b, 0, none⟩) 32 32, .slice q m c]) ⟨rfl, Nat.le_refl 2, .inr ⟨bx, 0, _, T2, (0, 0), rfl, h2, by simp, by simp⟩, by simp, fun a ha => ⟨_, _, (by simpa using ha.symm)⟩⟩ (.cons (Sl.whole h1 hk) (.cons h3 .nil))
theorem good_two {kind : Int} {k l : List Int} (h1 : 1 ≤ kind) (h8 : kind ≤ 8) (hk : k.length = 32) (hb : isBytes k) (hl : l.length ≤ 4096) (hb2 : isBytes l) : goodT (kind, [k, l]) :=
  ⟨by simp [fits, hk, hl], by simp only [List.mem_cons, List.not_mem_nil, or_false]; rintro x (rfl | rfl) <;> assumption, h1, h8⟩
set_option maxRecDepth 100000 in
set_option maxHeartbeats 2000000 in
theorem sign_f {lo tb : Nat} {T : List Tm} {k t : List Int} {p : Option Addr} {n cap : Nat} (h : TabP lo tb w T) (hk : k.length = 32) (hb : isBytes k) (S : Sl .u8 w p n cap t) (ht : isBytes t) :
    Calls Tryz.prog 27 #[SU tb, .agg (ints .u8 k), .slice p n cap] w fun e w' => e = .returned (.agg (ints .u8 (signF T k t).2)) ∧ TabP lo tb w' (signF T k t).1 ∧ FrP lo w w' := by
  have H := Lib.hid h
  have HB := Lib.hid hb
  have HS := Lib.hid S
  have HT := Lib.hid ht
  have HN := Lib.hid S.len
  clear h hb S ht
  go_enter Tryz.func27, Tryz.ntmps27
  go_upto_if 11 with (fail)
  refine named_world (A := fun X => OwB w [(w.heap.size + 1 + 1, .cells (ints .u8 (zs 64)) 45), (w.heap.size + 1, .cells (ints .u8 k) 34), (w.heap.size, .cells #[.pointer (some ⟨tb, 0, none⟩)] 27)] X) (Q := fun X => Code.wp _ _ _ _ X) ((((OwB.start w).allocN _ w.heap.size rfl).allocN _ (w.heap.size + 1) (by simp)).allocN _ (w.heap.size + 1 + 1) (by simp)) ?_
  intro V hV
  generalize w.heap.size + 1 + 1 = b6 at hV ⊢
  generalize w.heap.size + 1 = b4 at hV ⊢
  generalize w.heap.size = b3 at hV ⊢
  have f3 := hV.nth 2 rfl
  have f4 := hV.nth 1 rfl
  have f6 := hV.nth 0 rfl
  have l6 := hV.low 0 rfl
  have t3 := World.at_lt f3
  have t6 := World.at_lt f6
  have t4 := World.at_lt f4
  by_cases hn : 4096 < n
  · have d : decide (4096 < (n : Int)) = true := by rw [decide_eq_true_eq]; omega
    have e9 : signF T k t = (T, Kd.zeros 64) := by unfold signF; rw [if_pos (by rw [HN.out]; exact hn)]
    have HE := Lib.hid e9
    have HV := Lib.hid hV
    clear e9 hV
    go_wp2_with fail
    refine ret_cell rfl rfl rfl ?_
    go_simp
    rw [HE.out]
    have F := HV.out.fr.put b6 (.cells (ints .u8 (Kd.zeros 64)) 45) (fun h => by omega)
    exact ⟨by kernel_rfl, rfl, H.out.fr0 F, .of F⟩
  · have d : decide (4096 < (n : Int)) = false := by rw [decide_eq_false_iff_not]; omega
    obtain ⟨k2, hk2e⟩ : ∃ k2, k2 = (makeT T (6, [k, t])).2.1 := ⟨_, rfl⟩
    have hk2 : k2.length = 32 := by rw [hk2e]; exact makeT_len _ _
    have e9 : signF T k t = ((makeT T (6, [k, t])).1, k2 ++ Kd.zeros 32) := by unfold signF; rw [if_neg (by rw [HN.out]; exact hn), hk2e]
    have HE := Lib.hid e9
    have HKE := Lib.hid hk2e
    have hg := good_two (kind := 6) (by decide) (by decide) hk HB.out (by rw [HN.out]; omega) HT.out
    have HG := Lib.hid hg
    have HV := Lib.hid hV
    clear e9 hV hk2e hg
    go_upto_region 6 with (fail)
    refine named_world (A := fun X => OwB w [(V.heap.size, .cells (ints .u8 (zs 64)) 45), (b6, .cells (ints .u8 (zs 64)) 45), (b4, .cells (ints .u8 k) 34), (b3, .cells #[.pointer (some ⟨tb, 0, none⟩)] 27)] X) (Q := fun X => Code.wp _ _ _ _ X) (HV.out.allocN _ V.heap.size rfl) ?_
    intro U hU
    clear f3 f4 f6 t3 t4 t6
    generalize V.heap.size = b7 at hU ⊢
    have l7 := hU.low 0 rfl
    have HU := Lib.hid hU
    clear hU HV
    go_cut [8, 19, 20, 21, 22, 23] (fun v8 _ _ _ _ _ wy => ∃ b8, v8 = .pointer (some ⟨b8, 0, none⟩) ∧ wy.blk b8 = some (.cells (ints .u8 k2) 34) ∧ wy.blk b7 = some (.cells (ints .u8 (zs 64)) 45) ∧ wy.blk b6 = some (.cells (ints .u8 (zs 64)) 45) ∧ b8 ≠ b7 ∧ b8 ≠ b6 ∧ b7 ≠ b6 ∧ Hid (TabP lo tb wy (makeT T (6, [k, t])).1) ∧ Hid (FrP lo w wy))
    case first =>
      have f3 := HU.out.nth 3 rfl
      have f4 := HU.out.nth 2 rfl
      have t3 := World.at_lt f3
      have t4 := World.at_lt f4
      refine drawn_begin 6 (fun w' => w'.blk b3 = some (.cells #[.pointer (some ⟨tb, 0, none⟩)] 27) ∧ w'.blk b4 = some (.cells (ints .u8 k) 34)) (by kernel_rfl) ?_
      refine drawn_reads (fuel := 4) [0, 1, 2] rfl (by kernel_rfl) ⟨f3, f4⟩ ?_
      repeat (first | (refine rowK_step2 rfl rfl (fun K hK => ?_); go_wp2) | (refine rowK_step rfl (fun K hK => ?_); go_simp; refine hK _ ?_; clear hK K))
      refine rowK_nil ⟨fun w' e1 => ?_, ?_⟩
      · obtain ⟨e1, e2⟩ := e1
        clear f3 f4
        repeat (first | (refine rowWp_step2 rfl rfl (fun K hK => ?_); go_wp2) | (refine rowWp_step rfl (fun K hK => ?_); go_simp; refine hK _ ?_; clear hK K))
        exact rowWp_nil rfl
      refine drawn_next2 3 5 (fuel := 3) rfl rfl (by kernel_rfl) ?_ ?_
      · intro K hK
        go_wp2_with fail
        refine ⟨⟨by go_simp, by go_simp⟩, ?_⟩
        refine named_world (A := fun X => OwB w [(U.heap.size, .cells #[.slice (some ⟨b4, 0, none⟩) 32 32, .slice p n cap] 49), (b7, .cells (ints .u8 (zs 64)) 45), (b6, .cells (ints .u8 (zs 64)) 45), (b4, .cells (ints .u8 k) 34), (b3, .cells #[.pointer (some ⟨tb, 0, none⟩)] 27)] X) (Q := fun X => Go.Dr.wpAnyS Tryz.prog .any _ _ _ _ _ _ _ X) (by first | exact (HU.out.allocN _ U.heap.size rfl).drew | exact HU.out.drew.allocN _ U.heap.size rfl | exact HU.out.allocN _ U.heap.size rfl) ?_
        intro U1 hU1
        clear f3 f4 t3 t4
        generalize U.heap.size = bx at hU1 ⊢
        have f3 := hU1.nth 4 rfl
        have f4 := hU1.nth 3 rfl
        have t3 := World.at_lt f3
        have t4 := World.at_lt f4
        have HU1 := Lib.hid hU1
        clear hU1
        refine drawn_next2 4 5 (fuel := 2) rfl rfl (by kernel_rfl) ?_ ?_
        · intro K hK
          go_wp2_with fail
          refine (mk_f (H.out.fr0 HU1.out.fr) (sll_two (HU1.out.nth 3 rfl) (HS.out.fr0 HU1.out.fr) (HU1.out.nth 0 rfl) hk) HG.out).mono ?_
          rintro e w1 ⟨rfl, hT1, F⟩
          rw [← HKE.out]
          clear f3 f4 t3 t4
          have f3 := F.get (HU1.out.nth 4 rfl) (.inr ⟨by decide, by decide⟩)
          have f4 := F.get (HU1.out.nth 3 rfl) (.inr ⟨by decide, by decide⟩)
          have f6 := F.get (HU1.out.nth 2 rfl) (.inr ⟨by decide, by decide⟩)
          have f7 := F.get (HU1.out.nth 1 rfl) (.inr ⟨by decide, by decide⟩)
          have n76 := HU1.out.ne 1 2 rfl rfl (by decide)
          have t3 := World.at_lt f3
          have t4 := World.at_lt f4
          have t6 := World.at_lt f6
          have t7 := World.at_lt f7
          have HT1 := Lib.hid hT1
          have HF1 := Lib.hid ((FrT.of HU1.out.fr).trans F)
          clear hT1 F
          go_wp2_with fail
          refine ⟨⟨f3, f4⟩, ?_⟩
          refine drawn_next 5 (fuel := 1) rfl (by kernel_rfl) ?_
          intro K hK
          go_wp2_with fail
          refine ⟨⟨by go_simp, by go_simp⟩, ?_⟩
          refine drawn_end rfl (by kernel_rfl) ?_
          intro K hK
          go_wp2_with fail
          go_meet
          case rel => exact ⟨w1.heap.size, rfl, by go_simp, by go_simp, by go_simp, by omega, by omega, n76, Lib.hid (HT1.out.fr0 ((Fr.refl [] _).alloc _)), Lib.hid (HF1.out.alloc _)⟩
        · intro K hK
          go_wp2_with fail
          refine ⟨⟨by go_simp, by go_simp⟩, ?_⟩
          refine named_world (A := fun X => OwB w [(U1.heap.size, .cells (ints .u8 (zs 32)) 34), (bx, .cells #[.slice (some ⟨b4, 0, none⟩) 32 32, .slice p n cap] 49), (b7, .cells (ints .u8 (zs 64)) 45), (b6, .cells (ints .u8 (zs 64)) 45), (b4, .cells (ints .u8 k) 34), (b3, .cells #[.pointer (some ⟨tb, 0, none⟩)] 27)] X) (Q := fun X => Go.Dr.wpAnyS Tryz.prog .any _ _ _ _ _ _ _ X) (by first | exact (HU1.out.allocN _ U1.heap.size rfl).drew | exact HU1.out.drew.allocN _ U1.heap.size rfl | exact HU1.out.allocN _ U1.heap.size rfl) ?_
          intro U2 hU2
          clear f3 f4 t3 t4
          generalize U1.heap.size = b8 at hU2 ⊢
          have f3 := hU2.nth 5 rfl
          have f4 := hU2.nth 4 rfl
          have t3 := World.at_lt f3
          have t4 := World.at_lt f4
          have HU2 := Lib.hid hU2
          clear hU2
          refine drawn_next 4 (fuel := 1) rfl (by kernel_rfl) ?_
          intro K hK
          go_wp2_with fail
          refine (mk_f (H.out.fr0 HU2.out.fr) (sll_two (HU2.out.nth 4 rfl) (HS.out.fr0 HU2.out.fr) (HU2.out.nth 1 rfl) hk) HG.out).mono ?_
          rintro e w1 ⟨rfl, hT1, F⟩
          rw [← HKE.out]
          clear f3 f4 t3 t4
          have f3 := F.get (HU2.out.nth 5 rfl) (.inr ⟨by decide, by decide⟩)
          have f4 := F.get (HU2.out.nth 4 rfl) (.inr ⟨by decide, by decide⟩)
          have f6 := F.get (HU2.out.nth 3 rfl) (.inr ⟨by decide, by decide⟩)
          have f7 := F.get (HU2.out.nth 2 rfl) (.inr ⟨by decide, by decide⟩)
          have n76 := HU2.out.ne 2 3 rfl rfl (by decide)
          have t3 := World.at_lt f3
          have t4 := World.at_lt f4
          have t6 := World.at_lt f6
          have t7 := World.at_lt f7
          have f8 := F.get (HU2.out.nth 0 rfl) (.inr ⟨by decide, by decide⟩)
          have n87 := HU2.out.ne 0 2 rfl rfl (by decide)
          have n86 := HU2.out.ne 0 3 rfl rfl (by decide)
          have n83 := HU2.out.ne 0 5 rfl rfl (by decide)
          have n84 := HU2.out.ne 0 4 rfl rfl (by decide)
          have l8 := HU2.out.low 0 rfl
          have t8 := World.at_lt f8
          have HT1 := Lib.hid hT1
          have HF1 := Lib.hid ((FrT.of HU2.out.fr).trans F)
          clear hT1 F
          go_wp2_with fail
          refine ⟨⟨f3, f4⟩, ?_⟩
          refine drawn_end rfl (by kernel_rfl) ?_
          intro K hK
          go_wp2_with fail
          go_meet
          case rel => exact ⟨b8, rfl, by go_simp, by go_simp, by go_simp, n87, n86, n76, Lib.hid (HT1.out.put f8 (by decide) _), Lib.hid (HF1.out.put _ l8)⟩
      · intro K hK
        go_wp2_with fail
        refine ⟨⟨by go_simp, by go_simp⟩, ?_⟩
        refine named_world (A := fun X => OwB w [(U.heap.size, .cells (ints .u8 (zs 32)) 34), (b7, .cells (ints .u8 (zs 64)) 45), (b6, .cells (ints .u8 (zs 64)) 45), (b4, .cells (ints .u8 k) 34), (b3, .cells #[.pointer (some ⟨tb, 0, none⟩)] 27)] X) (Q := fun X => Go.Dr.wpAnyS Tryz.prog .any _ _ _ _ _ _ _ X) (by first | exact (HU.out.allocN _ U.heap.size rfl).drew | exact HU.out.drew.allocN _ U.heap.size rfl | exact HU.out.allocN _ U.heap.size rfl) ?_
        intro U1 hU1
        clear f3 f4 t3 t4
        generalize U.heap.size = b8 at hU1 ⊢
        have f3 := hU1.nth 4 rfl
        have f4 := hU1.nth 3 rfl
        have t3 := World.at_lt f3
        have t4 := World.at_lt f4
        have HU1 := Lib.hid hU1
        clear hU1
        refine drawn_next 3 (fuel := 2) rfl (by kernel_rfl) ?_
        intro K hK
        go_wp2_with fail
        refine ⟨⟨by go_simp, by go_simp⟩, ?_⟩
        refine named_world (A := fun X => OwB w [(U1.heap.size, .cells #[.slice (some ⟨b4, 0, none⟩) 32 32, .slice p n cap] 49), (b8, .cells (ints .u8 (zs 32)) 34), (b7, .cells (ints .u8 (zs 64)) 45), (b6, .cells (ints .u8 (zs 64)) 45), (b4, .cells (ints .u8 k) 34), (b3, .cells #[.pointer (some ⟨tb, 0, none⟩)] 27)] X) (Q := fun X => Go.Dr.wpAnyS Tryz.prog .any _ _ _ _ _ _ _ X) (by first | exact (HU1.out.allocN _ U1.heap.size rfl).drew | exact HU1.out.drew.allocN _ U1.heap.size rfl | exact HU1.out.allocN _ U1.heap.size rfl) ?_
        intro U2 hU2
        clear f3 f4 t3 t4
        generalize U1.heap.size = bx at hU2 ⊢
        have f3 := hU2.nth 5 rfl
        have f4 := hU2.nth 4 rfl
        have t3 := World.at_lt f3
        have t4 := World.at_lt f4
        have HU2 := Lib.hid hU2
        clear hU2
        refine drawn_next 4 (fuel := 1) rfl (by kernel_rfl) ?_
        intro K hK
        go_wp2_with fail
        refine (mk_f (H.out.fr0 HU2.out.fr) (sll_two (HU2.out.nth 4 rfl) (HS.out.fr0 HU2.out.fr) (HU2.out.nth 0 rfl) hk) HG.out).mono ?_
        rintro e w1 ⟨rfl, hT1, F⟩
        rw [← HKE.out]
        clear f3 f4 t3 t4
        have f3 := F.get (HU2.out.nth 5 rfl) (.inr ⟨by decide, by decide⟩)
        have f4 := F.get (HU2.out.nth 4 rfl) (.inr ⟨by decide, by decide⟩)
        have f6 := F.get (HU2.out.nth 3 rfl) (.inr ⟨by decide, by decide⟩)
        have f7 := F.get (HU2.out.nth 2 rfl) (.inr ⟨by decide, by decide⟩)
        have n76 := HU2.out.ne 2 3 rfl rfl (by decide)
        have t3 := World.at_lt f3
        have t4 := World.at_lt f4
        have t6 := World.at_lt f6
        have t7 := World.at_lt f7
        have f8 := F.get (HU2.out.nth 1 rfl) (.inr ⟨by decide, by decide⟩)
        have n87 := HU2.out.ne 1 2 rfl rfl (by decide)
        have n86 := HU2.out.ne 1 3 rfl rfl (by decide)
        have n83 := HU2.out.ne 1 5 rfl rfl (by decide)
        have n84 := HU2.out.ne 1 4 rfl rfl (by decide)
        have l8 := HU2.out.low 1 rfl
        have t8 := World.at_lt f8
        have HT1 := Lib.hid hT1
        have HF1 := Lib.hid ((FrT.of HU2.out.fr).trans F)
        clear hT1 F
        go_wp2_with fail
        refine ⟨⟨f3, f4⟩, ?_⟩
        refine drawn_end rfl (by kernel_rfl) ?_
        intro K hK
        go_wp2_with fail
        go_meet
        case rel => exact ⟨b8, rfl, by go_simp, by go_simp, by go_simp, n87, n86, n76, Lib.hid (HT1.out.put f8 (by decide) _), Lib.hid (HF1.out.put _ l8)⟩
    case rest =>
      obtain ⟨b8, rfl, f8, f7, f6, n87, n86, n76, HTb, HF⟩ := hcut
      have t6 := World.at_lt f6
      have t7 := World.at_lt f7
      have t8 := World.at_lt f8
      go_upto_region 7 with (fail)
      refine drawn_head 2 (by kernel_rfl) rfl rfl (by kernel_rfl) ?_
      change rowK _ _ _ [0, 1] _ _
      repeat (first | (refine rowK_step2 rfl rfl (fun K hK => ?_); go_wp2) | (refine rowK_step rfl (fun K hK => ?_); go_simp; refine hK _ ?_; clear hK K))
      refine rowK_nil ?_
      intro K hK
      go_wp2_with fail
      refine ret_cell rfl rfl rfl ?_
      go_simp
      have hl : lay (zs 64) 0 k2 = k2 ++ Kd.zeros 32 := by simp [lay, zs, Kd.zeros, hk2]
      rw [hl, HE.out]
      exact ⟨by kernel_rfl, rfl, ((HTb.out.put f7 (by decide) _).put (by rw [World.at_put_other _ _ _ _ n76]; exact f6) (by decide) _).fr0 (Fr.refl [] _).drew, ((HF.out.put _ l7).put _ l6).drew⟩
end
end Go.Proofs.YtbhnfohoclcjdaaGreat
