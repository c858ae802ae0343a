/- A term is made. -/
import Derived.Test.YtbhnfohoclcjdaaKdM
set_option linter.unusedVariables false
set_option linter.unusedSimpArgs false
namespace Go.Proofs.Ytbhnfohoclcjdaa
open Go.RowKit Go.Dr Go.Kd
theorem info127 : (Try.prog.info? 127).map (fun i => (i.zero, i.size, i.bytes)) = some (some (.slice none 0 0), 1, 24) := by kernel_rfl
theorem E124 : ElemT Try.prog 124 127 1 24 #[.slice none 0 0] := ⟨Try.underlying124, by kernel_rfl, rfl⟩
@[go_sem] theorem one124 (w : World) (q : Option Addr) (m c : Nat) : (buildOneK 124 #[(0, .slice q m c)]).run Try.prog w = .ok (.slice (some ⟨w.heap.size, 0, none⟩) 1 1) (w.alloc (.cells #[.slice q m c] 127)) :=
  E124.buildOne (by omega) (by omega) w (.slice q m c) rfl
section
variable {w0 w : World} {L : List (Nat × Obj)} {p : Option Addr} {n cap : Nat} {vs : List Value} {ops : Array Oper} {rest : List Oper} {o : Oper} {a : Act} {Q : Exit → Act → World → Prop}
/-- [][]int: append of a slice of slices. -/
theorem wpList_app124 (hgd : o.guard = none) (s x : Operand) (ho : o.op = .call { callee := .builtin .append, args := #[s, x], argTypes := #[124, 124] })
    (hs : a.eval s = .slice p n cap) (B : BldV w0 L 127 1 w p n cap vs) {q : Option Addr} {m c : Nat} {us : List Value} (hx : a.eval x = .slice q m c) (S : Sv 1 w q m c us) (h1 : ∀ u ∈ us, u.oneCell' = true) (hbig : n + m ≤ 1000000)
    (h : ∀ p' cap' w', BldV w0 L 127 1 w' p' (n + m) cap' (vs ++ us) → wpList Try.prog ops Q rest (a.put o.dst (.slice p' (n + m) cap')) w') : wpList Try.prog ops Q (o :: rest) a w := by
  obtain ⟨i, hi, hz, hs1, hb1⟩ := info_parts info127
  exact wpList_apdV hgd s x 124 124 ho Try.underlying124 hi hz hs1 (by omega) hb1 rfl hs B hx (Apd.ofSrc Try.underlying124 hi hz (by rw [hs1]; exact S.src Try.underlying124 h1)) (by omega) (by omega) h
end
theorem run_zero3 (w : World) : (zeroValue 3).run Try.prog w = .ok (.int .i64 0) w := by
  have h : Try.t3.zero = some (.int .i64 0) := by kernel_rfl
  simp [zeroValue, h, go_sem]
theorem info126 : (Try.prog.info? 126).map (fun i => (i.zero, i.size, i.bytes)) = some (some (.agg #[.int .i64 0, .slice none 0 0, .slice none 0 0]), 3, 56) := by kernel_rfl
theorem E114 : ElemT Try.prog 114 126 3 56 #[.int .i64 0, .slice none 0 0, .slice none 0 0] := ⟨Try.underlying114, by kernel_rfl, rfl⟩
@[go_sem] theorem one114 (w : World) (x y z : Value) : (buildOneK 114 #[(0, .agg #[x, y, z])]).run Try.prog w = .ok (.slice (some ⟨w.heap.size, 0, none⟩) 1 1) (w.alloc (.cells #[x, y, z] 126)) :=
  E114.buildOne (by omega) (by omega) w (.agg #[x, y, z]) rfl
section
variable {w0 w : World} {L : List (Nat × Obj)} {p : Option Addr} {n cap : Nat} {vs : List Value} {ops : Array Oper} {rest : List Oper} {o : Oper} {a : Act} {Q : Exit → Act → World → Prop}
/-- The list of terms: append. -/
theorem wpList_app114 (hgd : o.guard = none) (s x : Operand) (ho : o.op = .call { callee := .builtin .append, args := #[s, x], argTypes := #[114, 114] })
    (hs : a.eval s = .slice p n cap) (B : BldV w0 L 126 3 w p n cap vs) {q : Option Addr} {m c : Nat} {us : List Value} (hx : a.eval x = .slice q m c) (S : Sv 3 w q m c us) (h1 : ∀ u ∈ us, u.oneCell' = true) (hbig : n + m ≤ 1000000)
    (h : ∀ p' cap' w', BldV w0 L 126 3 w' p' (n + m) cap' (vs ++ us) → (∀ g, p'.map (·.block) = some g → p.map (·.block) = some g ∨ w.heap.size ≤ g) → Fr (p.map (·.block)).toList w w' → wpList Try.prog ops Q rest (a.put o.dst (.slice p' (n + m) cap')) w') : wpList Try.prog ops Q (o :: rest) a w := by
  obtain ⟨i, hi, hz, hs1, hb1⟩ := info_parts info126
  exact wpList_apdV2 hgd s x 114 114 ho Try.underlying114 hi hz hs1 (by omega) hb1 rfl hs B hx (Apd.ofSrc Try.underlying114 hi hz (by rw [hs1]; exact S.src Try.underlying114 h1)) (by omega) (by omega) h
end
section
variable {w : World}
set_option maxRecDepth 100000 in
set_option maxHeartbeats 2000000 in
theorem make_f {lo tb : Nat} {T : List Tm} {q : Option Addr} {m c : Nat} {ps : List (List Int)} {kind : Int} (h : TabP lo tb w T) (S : Sll w q m c ps) (hg : goodT (kind, ps)) :
    Calls Try.prog 34 #[.pointer (some ⟨tb, 0, none⟩), .int .i64 kind, .slice q m c] w fun e w' => e = .returned (.tuple #[.agg (ints .u8 (makeT T (kind, ps)).2.1), .bool (makeT T (kind, ps)).2.2]) ∧ TabP lo tb w' (makeT T (kind, ps)).1 ∧ FrP lo w w' := by
  have hT := h.len
  have HH := Lib.hid h
  have HGT := Lib.hid h.good
  have HG := Lib.hid hg
  obtain ⟨w0, mb, p, cap, vs, es, clock, h0, B, h1, h2, h3, h4, h5, h6⟩ := h.ex
  replace B : BldV w0 [(tb, .cells #[.slice p T.length cap, .map (some mb)] 116), (mb, .map es clock)] 126 3 w p T.length cap vs := B
  have H3 := Lib.hid h3
  have H4 := Lib.hid h4
  have H5 := Lib.hid h5
  have H6 := Lib.hid h6
  have hk1 := hg.2.2.1
  have hk2 := hg.2.2.2
  have hfit := Lib.hid hg.1
  have HS := Lib.hid S
  obtain ⟨n, hn⟩ : ∃ n, n = T.length := ⟨_, rfl⟩
  rw [← hn] at hT B
  have HB := Lib.hid B
  have HN := Lib.hid hn
  clear hn h B h4 h5 h6 h3 S hg
  have d1 : decide (kind < 1) = false := by rw [decide_eq_false_iff_not]; omega
  have d2 : decide (kind > 8) = false := by rw [decide_eq_false_iff_not]; omega
  go_enter Try.func34, Try.ntmps34
  go_wp2_with fail
  refine named_world (A := fun X => OwB w [(w.heap.size, .cells (ints .u8 (zs 32)) 23)] X) (Q := fun X => Calls Try.prog 50 _ X _) ((OwB.start w).alloc _) ?_
  intro V hV
  have hft := HB.out.own.nth 0 rfl
  have hrb : w.heap.size ≠ tb := by have := World.at_lt hft; omega
  generalize hrb0 : w.heap.size = rb at hV hrb ⊢
  have hrl : w.heap.size ≤ rb := by omega
  have HFT := Lib.hid hft
  have HV := Lib.hid hV
  clear hrb0 hft hV
  refine (join_f (HS.out.fr0 HV.out.fr) hfit.out).mono ?_
  rintro e w1 ⟨q1, m1, c1, rfl, hJ⟩
  have HJ := Lib.hid hJ
  clear hJ
  have hm1 : m1 ≤ 270000 := by have h1 := length_joinB_le hfit.out; have h2 := HJ.out.len; omega
  have w5 : IntKind.u8.wrap kind = kind := by rw [IntKind.wrap_u8, Int.emod_eq_of_lt] <;> omega
  go_wp2_with (refine wpList_app47 rfl _ _ rfl rfl (HJ.out.call ((Fr.refl [] w1).alloc (.cells #[.int .u8 kind] 5))) rfl (l2 := [kind]) (Sl.of (World.at_alloc_new _ _ _ rfl) (by simp) (by simp) (Nat.le_refl 1)) (by omega) ?_)
  intro q2 c2 W2 hB2
  obtain ⟨M, hO3, hM, hK⟩ := HV.out.join hB2
  have HO3 := Lib.hid hO3
  have HM := Lib.hid hM
  have HK := Lib.hid hK
  clear hB2 hO3 hM hK HV HJ
  obtain ⟨tx, htx⟩ : ∃ tx, tx = txt (kind, ps) := ⟨_, rfl⟩
  have HK : Hid (∀ w', Has M w' → Sl .u8 w' q2 (m1 + 1) c2 tx) := by rw [htx]; exact HK
  have HTX := Lib.hid htx
  clear htx
  go_upto_region 5 with (fail)
  obtain ⟨fi, hfi⟩ : ∃ fi, T.findIdx? (fun u => txt u == tx) = fi := ⟨_, rfl⟩
  have hfs : findS (strB tx) (keysT T 0) 0 = fi.map fun n => (0 + n, Value.int .i64 ((0 + n + 1 : Nat) : Int)) := by
    rw [HTX.out, findS_keysT HG.out T 0 0 HGT.out, ← HTX.out, hfi]
  have hMap : MapS W2.drew mb (keysT T 0) := ⟨es, clock, HO3.out.fr.get (HB.out.own.nth 1 rfl) (by simp), H4.out⟩
  have hl := hMap.look (P := Try.prog) (z := .int .i64 0) Try.underlying113 Try.underlying9 (run_zero3 _) (strB tx) true
  rw [hfs] at hl
  have hconv : (convert 47 9 (.slice q2 (m1 + 1) c2)).run Try.prog W2.drew = .ok (.string (strB tx)) W2.drew := conv47 (HK.out _ ((Has.of_append HO3.out.drew.has).1))
  have ft := HO3.out.fr.get HFT.out (by simp)
  have fr := HO3.out.mem (b := rb) (List.mem_append_right _ (List.mem_singleton.2 rfl))
  have tt := World.at_lt ft
  have tr := World.at_lt fr
  have HFI := Lib.hid hfi
  have HFS := Lib.hid hfs
  clear hfi hfs hMap
  cases fi with
  | some i =>
    simp only [Option.map_some, Option.getD_some, Option.isSome_some, if_true] at hl
    obtain ⟨i1, hi1⟩ : ∃ i1, i1 = i + 1 := ⟨_, rfl⟩
    rw [show ((0 + i + 1 : Nat) : Int) = (i1 : Int) by omega] at hl
    have HI1 := Lib.hid hi1
    clear hi1
    have hne : Nonempty Unit := ⟨()⟩
    refine wp_region_quiet_all (C := fun w' => ∃ _ : Unit, w' = W2.drew) (by kernel_rfl) (by kernel_rfl) ⟨(), rfl⟩ ?_
    repeat (go_big_quiet_step (fail))
    refine wpQuiet_nil ?_
    intro _ hw'
    obtain ⟨_, rfl⟩ := hw'
    clear hl hconv
    have hilt : i < n := by
      have := (List.findIdx?_eq_some_iff_findIdx_eq.1 HFI.out).1
      rw [HN.out]; exact this
    go_wp2_with fail
    refine (name_f (n := i1) (by have := HI1.out; omega)).mono ?_
    rintro e w3 ⟨rfl, F3⟩
    have HO5 := Lib.hid (HO3.out.drew.call F3)
    have ft := HO5.out.fr.get HFT.out (by simp)
    have fr := HO5.out.mem (b := rb) (List.mem_append_right _ (List.mem_singleton.2 rfl))
    have tt := World.at_lt ft
    have tr := World.at_lt fr
    clear F3
    go_wp2_with fail
    refine ret_cell_tmp rfl rfl rfl ?_
    go_simp
    have hlay : lay (zs 32) 0 (nameB i1) = nameB i1 := by simp [lay, zs, nameB_length]
    rw [hlay, makeT_old hfit.out hk1 hk2 (show T.findIdx? (fun u => txt u == txt (kind, ps)) = some i by rw [← HTX.out]; exact HFI.out), ← HI1.out]
    have FE : Fr [] w (w3.put rb (.cells (ints .u8 (nameB i1)) 23)) := HO5.out.fr.put rb _ (fun hb => by omega)
    exact ⟨by kernel_rfl, ⟨rfl, rfl⟩, HH.out.fr0 FE, .of FE⟩
  | none =>
    simp only [Option.map_none, Option.getD_none, Option.isSome_none, if_true] at hl
    have hne : Nonempty Unit := ⟨()⟩
    by_cases hful : 65535 ≤ n
    · have d3 : decide ((n : Int) ≥ 65535) = true := by rw [decide_eq_true_eq]; omega
      refine wp_region_quiet_all (C := fun w' => ∃ _ : Unit, w' = W2.drew) (by kernel_rfl) (by kernel_rfl) ⟨(), rfl⟩ ?_
      repeat (go_big_quiet_step (fail))
      refine wpQuiet_nil ?_
      intro _ hw'
      obtain ⟨_, rfl⟩ := hw'
      clear hl hconv
      go_wp2_with fail
      refine ret_cell_tmp rfl rfl rfl ?_
      go_simp
      rw [makeT_full hfit.out hk1 hk2 (show T.findIdx? (fun u => txt u == txt (kind, ps)) = none by rw [← HTX.out]; exact HFI.out) (by rw [← HN.out]; exact hful)]
      have FE : Fr [] w (W2.put rb (.cells (ints .u8 (Kd.zeros 32)) 23)).drew := (HO3.out.fr.put rb _ (fun hb => by omega)).drew
      exact ⟨by kernel_rfl, ⟨rfl, rfl⟩, HH.out.fr0 FE, .of FE⟩
    · have d3 : decide ((n : Int) ≥ 65535) = false := by rw [decide_eq_false_iff_not]; omega
      refine wp_region_quiet_all (C := fun w' => ∃ _ : Unit, w' = W2.drew) (by kernel_rfl) (by kernel_rfl) ⟨(), rfl⟩ ?_
      repeat (go_big_quiet_step (fail))
      refine wpQuiet_nil ?_
      intro _ hw'
      obtain ⟨_, rfl⟩ := hw'
      clear hl hconv
      go_wp2_with fail
      refine named_world (A := fun X => OwB w ((W2.heap.size, .cells #[.int .i64 kind, .slice none 0 0, .slice none 0 0] 126) :: (M ++ [(rb, .cells (ints .u8 (zs 32)) 23)])) X) (Q := fun X => Code.wp _ _ _ _ X) (HO3.out.alloc _).drew ?_
      intro V6 hO6
      have hxt : W2.heap.size ≠ tb := by omega
      generalize W2.heap.size = xb at hO6 hxt ⊢
      obtain ⟨L, hL⟩ : ∃ L, L = M ++ [(rb, Obj.cells (ints .u8 (zs 32)) 23)] := ⟨_, rfl⟩
      rw [← hL] at hO6
      have HO6 := Lib.hid hO6
      have HL := Lib.hid hL
      have hmm := HS.out.len
      clear hL hO6 ft fr tt tr
      go_loopw [60] (fun iv wy => ∃ (i : Nat) (q9 : Option Addr) (c9 : Nat) (us : List Value) (q8 : Option Addr) (c8 : Nat) (ns : List Value) (N9 N8 M9 : List (Nat × Obj)), i ≤ m ∧ iv = .int .i64 (i : Int) ∧
        Hid (OwB w (N9 ++ (N8 ++ (M9 ++ ((xb, .cells #[.int .i64 kind, .slice q9 i c9, .slice q8 i c8] 126) :: L)))) wy) ∧ Hid (Parked N9 47 1 q9 i c9 us) ∧ Hid (Parked N8 127 1 q8 i c8 ns) ∧ Hid (∀ x ∈ M9, ∃ cs fr, x.2 = .cells cs 5 fr) ∧ Hid (∀ w', Has M9 w' → Sls w' us (ps.take i))) (fun iv _ => (m - intOf iv).toNat)
      case atStart => exact ⟨0, none, 0, [], none, 0, [], [], [], [], by omega, rfl, HO6, Lib.hid (Parked.nil _ _), Lib.hid (Parked.nil _ _), Lib.hid (by simp), Lib.hid (fun _ _ => .nil)⟩
      case round =>
        obtain ⟨i, q9, c9, us, q8, c8, ns, N9, N8, M9, hi9, rfl, hO, hP9, hP8, hM9, hU⟩ := hrel
        by_cases hlt : i < m
        · have d4 : decide ((i : Int) < (m : Int)) = true := by rw [decide_eq_true_eq]; omega
          obtain ⟨b, off, cs, TT, fr, q3, m3, c3, l3, rfl, f00, hs, hc, hl, S3⟩ := HS.out.at hlt
          have f0 := hO.out.fr.get f00 (by simp)
          have hc2 := (Array.getElem?_eq_some_iff.1 hc).2
          have HS3 := Lib.hid S3
          have hl2 := Lib.hid hl
          clear S3 hl f00
          go_wp2_with fail
          clear f0 hc hc2 hs
          have HF := Lib.hid (show l3.length ≤ 4096 from by
            have := hfit.out
            simp only [fits, Bool.and_eq_true, decide_eq_true_eq, List.all_eq_true] at this
            exact this.2 l3 (List.mem_of_getElem? hl2.out))
          have hm3 : m3 ≤ 4096 := by rw [← HS3.out.len]; exact HF.out
          have hm64 : m ≤ 64 := by
            have := hfit.out
            simp only [fits, Bool.and_eq_true, decide_eq_true_eq] at this
            omega
          have fx := hO.out.mem (b := xb) (o := .cells #[.int .i64 kind, .slice q9 i c9, .slice q8 i c8] 126) (by simp)
          have tx0 := World.at_lt fx
          refine drawn_begin 7 (fun w' => w'.blk xb = some (.cells #[.int .i64 kind, .slice q9 i c9, .slice q8 i c8] 126)) (by kernel_rfl) ?_
          refine drawn_reads (fuel := 6) [0, 1, 3] rfl (by kernel_rfl) (by go_simp) ?_
          repeat (refine rowK_step rfl (fun K hK => ?_); go_simp; refine hK _ ?_; clear hK K)
          refine rowK_nil ⟨fun w' e1 => ?_, ?_⟩
          · repeat (refine rowWp_step rfl (fun K hK => ?_); go_simp; refine hK _ ?_; clear hK K)
            exact rowWp_nil rfl
          refine drawn_next 2 (fuel := 5) rfl (by kernel_rfl) ?_
          intro K hK
          go_wp2_with fail
          refine ⟨by go_simp, ?_⟩
          have hBe : Bld wr.drew [] .u8 5 (wr.drew.alloc (.cells #[] 5)) (some ⟨wr.drew.heap.size, 0, none⟩) 0 0 [] := Bld.made (OwB.start wr.drew) 0 (by simp [maxLen])
          have HBe := Lib.hid hBe
          clear hBe
          refine drawn_next 4 (fuel := 4) rfl (by kernel_rfl) ?_
          intro K hK
          refine wpList_app47 rfl _ _ rfl rfl HBe.out rfl (HS3.out.fr0 (hO.out.fr.drew.trans HBe.out.own.fr)) (by omega) ?_
          intro q4 c4 W4 hB4
          rw [Nat.zero_add, List.nil_append] at hB4
          rw [Nat.zero_add]
          obtain ⟨M2, hO2, hM2, hK2⟩ := hO.out.drew.join hB4
          have fx2 := hO2.mem (b := xb) (o := .cells #[.int .i64 kind, .slice q9 i c9, .slice q8 i c8] 126) (by simp)
          have HO2 := Lib.hid hO2
          have HM2 := Lib.hid hM2
          have HK2 := Lib.hid hK2
          clear hO2 hM2 hK2 hB4 HBe
          refine wpList_nil ?_
          refine hK _ _ ⟨fx2, ?_⟩
          clear hK K fx tx0
          refine drawn_next 5 (fuel := 3) rfl (by kernel_rfl) ?_
          intro K hK
          have tx2 := World.at_lt fx2
          go_wp2_with fail
          refine ⟨by go_simp, ?_⟩
          refine drawn_next 6 (fuel := 2) rfl (by kernel_rfl) ?_
          intro K hK
          refine wpList_app86 rfl _ _ rfl rfl ((hP9.out.take (HO2.out.perm (List.perm_append_comm_assoc _ _ _))).call ((Fr.refl [] W4).alloc (.cells #[.slice q4 m3 c4] 47))) rfl (Sv.one (v := .slice q4 m3 c4) (T := 47) (fr := (0, 0)) (World.at_alloc_new _ _ _ rfl)) (by simp [Value.oneCell']) (by omega) ?_
          intro q5 c5 W5 B5
          have fx5 := B5.own.mem (b := xb) (o := .cells #[.int .i64 kind, .slice q9 i c9, .slice q8 i c8] 126) (by simp)
          obtain ⟨N5, hO5, hP5⟩ := B5.park
          have HO5 := Lib.hid hO5
          have HP5 := Lib.hid hP5
          clear hO5 hP5 B5
          refine wpList_nil ?_
          refine hK _ _ ⟨fx5, ?_⟩
          clear hK K fx2 tx2
          have tx5 := World.at_lt fx5
          refine drawn_end rfl (by kernel_rfl) ?_
          intro K hK
          go_wp2_with fail
          have hO6 : OwB w (N5 ++ (M2 ++ (N8 ++ (M9 ++ ((xb, .cells #[.int .i64 kind, .slice q5 (i + 1) c5, .slice q8 i c8] 126) :: L))))) (W5.put xb (.cells #[.int .i64 kind, .slice q5 (i + 1) c5, .slice q8 i c8] 126)) := by
            have h := HO5.out
            rw [← List.append_assoc, ← List.append_assoc, ← List.append_assoc] at h ⊢
            exact h.set_mid _
          refine named_world (A := fun X => OwB w (N5 ++ (M2 ++ (N8 ++ (M9 ++ ((xb, .cells #[.int .i64 kind, .slice q5 (i + 1) c5, .slice q8 i c8] 126) :: L))))) X) (Q := fun X => Code.wp _ _ _ _ X) hO6 ?_
          clear hO6 fx5 tx5 HO5 HO2 hO hP9
          intro V7 hO7
          have HO7 := Lib.hid hO7
          clear hO7
          have fx := HO7.out.mem (b := xb) (o := .cells #[.int .i64 kind, .slice q5 (i + 1) c5, .slice q8 i c8] 126) (by simp)
          have ft := HO7.out.fr.get HFT.out (by simp)
          have tx0 := World.at_lt fx
          have tt := World.at_lt ft
          refine drawn_begin 11 (fun w' => w'.blk xb = some (.cells #[.int .i64 kind, .slice q5 (i + 1) c5, .slice q8 i c8] 126) ∧ w'.blk tb = some (.cells #[.slice p n cap, .map (some mb)] 116)) (by kernel_rfl) ?_
          refine drawn_reads (fuel := 5) [0, 1, 2, 3, 4, 5, 6, 7] rfl (by kernel_rfl) ⟨fx, ft⟩ ?_
          repeat (refine rowK_step rfl (fun K hK => ?_); go_simp; refine hK _ ?_; clear hK K)
          refine rowK_nil ⟨fun w' e1 => ?_, ?_⟩
          · obtain ⟨e1, e2⟩ := e1
            repeat (refine rowWp_step rfl (fun K hK => ?_); go_simp; refine hK _ ?_; clear hK K)
            exact rowWp_nil rfl
          refine drawn_next 8 (fuel := 4) rfl (by kernel_rfl) ?_
          intro K hK
          go_wp2_with fail
          refine (in_f (HS3.out.fr0 HO7.out.fr.drew) (HG.out.2.1 l3 (List.mem_of_getElem? hl2.out)) (by omega) (by omega)).mono ?_
          rintro e W8 ⟨q7, m7, c7, rfl, F8⟩
          have HO8 := Lib.hid (HO7.out.drew.call F8)
          clear fx ft tx0 tt F8
          have fx := HO8.out.mem (b := xb) (o := .cells #[.int .i64 kind, .slice q5 (i + 1) c5, .slice q8 i c8] 126) (by simp)
          have ft := HO8.out.fr.get HFT.out (by simp)
          have tx0 := World.at_lt fx
          have tt := World.at_lt ft
          go_wp2_with fail
          refine ⟨⟨fx, ft⟩, ?_⟩
          refine drawn_next 9 (fuel := 3) rfl (by kernel_rfl) ?_
          intro K hK
          go_wp2_with fail
          refine ⟨⟨by go_simp, by go_simp⟩, ?_⟩
          refine drawn_next 10 (fuel := 2) rfl (by kernel_rfl) ?_
          intro K hK
          refine wpList_app124 rfl _ _ rfl rfl ((hP8.out.take (HO8.out.perm (((List.perm_append_comm_assoc M2 N8 _).append_left N5).trans (List.perm_append_comm_assoc N5 N8 _)))).call ((Fr.refl [] W8).alloc (.cells #[.slice q7 m7 c7] 127))) rfl (Sv.one (v := .slice q7 m7 c7) (T := 127) (fr := (0, 0)) (World.at_alloc_new _ _ _ rfl)) (by simp [Value.oneCell']) (by omega) ?_
          intro q9' c9' W9 B9
          clear fx ft tx0 tt
          have fx := B9.own.mem (b := xb) (o := .cells #[.int .i64 kind, .slice q5 (i + 1) c5, .slice q8 i c8] 126) (by simp)
          have ft := B9.own.fr.get HFT.out (by simp)
          obtain ⟨N7, hO9, hP7⟩ := B9.park
          have HO9 := Lib.hid hO9
          have HP7 := Lib.hid hP7
          clear hO9 hP7 B9
          refine wpList_nil ?_
          refine hK _ _ ⟨⟨fx, ft⟩, ?_⟩
          clear hK K
          have tx0 := World.at_lt fx
          have tt := World.at_lt ft
          refine drawn_end rfl (by kernel_rfl) ?_
          intro K hK
          go_wp2_with fail
          go_roundw
          case rel =>
            refine ⟨i + 1, q5, c5, us ++ [.slice q4 m3 c4], q9', c9', ns ++ [.slice q7 m7 c7], N5, N7, M2 ++ M9, by omega, by simp, ?_, HP5, HP7, ?_, ?_⟩
            · have h := HO9.out
              rw [← List.append_assoc, ← List.append_assoc, ← List.append_assoc] at h
              have h2 := h.set_mid (.cells #[.int .i64 kind, .slice q5 (i + 1) c5, .slice q9' (i + 1) c9'] 126)
              refine Lib.hid (h2.perm ?_)
              simp only [List.append_assoc]
              exact List.perm_append_comm_assoc _ _ _
            · refine Lib.hid fun x hx => ?_
              rcases List.mem_append.1 hx with h | h
              · exact HM2.out x h
              · exact hM9.out x h
            · refine Lib.hid fun w' hw' => ?_
              have h2 := Has.of_append hw'
              rw [List.take_add_one, hl2.out]
              exact (hU.out w' h2.2).append (.cons (HK2.out w' h2.1) .nil)
          case measure => simp [intOf]; omega
        · obtain rfl : i = m := by omega
          have hd : decide ((i : Int) < (i : Int)) = false := by simp
          go_wp2_with fail
          obtain ⟨New, hNew⟩ : ∃ New, New = N9 ++ (N8 ++ (M9 ++ ((xb, .cells #[.int .i64 kind, .slice q9 i c9, .slice q8 i c8] 126) :: L))) := ⟨_, rfl⟩
          have HON : Hid (OwB w New wr) := by rw [hNew]; exact hO
          have HNew := Lib.hid hNew
          have fx := hO.out.mem (b := xb) (o := .cells #[.int .i64 kind, .slice q9 i c9, .slice q8 i c8] 126) (by simp)
          have ft := hO.out.fr.get HFT.out (by simp)
          have tx0 := World.at_lt fx
          have tt := World.at_lt ft
          clear hNew
          refine drawn_begin 8 (fun w' => w'.blk xb = some (.cells #[.int .i64 kind, .slice q9 i c9, .slice q8 i c8] 126) ∧ w'.blk tb = some (.cells #[.slice p n cap, .map (some mb)] 116)) (by kernel_rfl) ?_
          refine drawn_reads (fuel := 5) [0, 1, 2, 3, 4, 5] rfl (by kernel_rfl) ⟨fx, ft⟩ ?_
          repeat (refine rowK_step rfl (fun K hK => ?_); go_simp; refine hK _ ?_; clear hK K)
          refine rowK_nil ⟨fun w' e1 => ?_, ?_⟩
          · obtain ⟨e1, e2⟩ := e1
            repeat (refine rowWp_step rfl (fun K hK => ?_); go_simp; refine hK _ ?_; clear hK K)
            exact rowWp_nil rfl
          refine drawn_next 6 (fuel := 4) rfl (by kernel_rfl) ?_
          intro K hK
          go_wp2_with fail
          refine ⟨⟨by go_simp, by go_simp⟩, ?_⟩
          refine drawn_next 7 (fuel := 3) rfl (by kernel_rfl) ?_
          intro K hK
          refine wpList_app114 rfl _ _ rfl rfl ((HB.out.merge HON.out.drew).call ((Fr.refl [] wr.drew).alloc (.cells #[.int .i64 kind, .slice q9 i c9, .slice q8 i c8] 126))) rfl (us := [.int .i64 kind, .slice q9 i c9, .slice q8 i c8]) ⟨rfl, Nat.le_refl 1, .inr ⟨wr.drew.heap.size, 0, _, _, (0, 0), rfl, World.at_alloc_new _ _ _ rfl, by simp, by simp⟩, by simp, fun a ha => ⟨_, _, (by simpa using ha.symm)⟩⟩ (by simp [Value.oneCell']) (by omega) ?_
          intro p5 c5 W5 B5 hp5 F5
          generalize hn1 : n + 1 = n1 at B5 ⊢
          have HN1 := Lib.hid hn1
          have hn1b : n1 ≤ 65535 := by omega
          clear hn1
          have ftb := HB.out.own.nth 0 rfl
          have FP : Fr ((p.map (·.block)).toList ++ [tb, mb]) w W5 := (HON.out.fr.mono (fp' := (p.map (·.block)).toList ++ [tb, mb]) (by simp)).seq (((Fr.refl ((p.map (·.block)).toList) wr).drew.alloc _).seq F5 (fun k hk _ => hk)) (fun k hk _ => List.mem_append_left _ hk)
          have h3' : ∀ g, p5.map (·.block) = some g → lo ≤ g := fun g hg => by
            rcases hp5 g hg with h | h
            · exact H3.out g h
            · have h8 := HON.out.fr.size
              have h9 := World.at_lt ftb
              have h10 : wr.heap.size ≤ g := by simp at h; omega
              omega
          have H3' := Lib.hid h3'
          have HFP := Lib.hid FP
          clear fx ft tx0 tt ftb h3' FP F5 hp5
          have fx := B5.own.mem (b := xb) (o := .cells #[.int .i64 kind, .slice q9 i c9, .slice q8 i c8] 126) (List.mem_append_left _ (by rw [HNew.out]; simp))
          have ft := B5.own.mem (b := tb) (o := .cells #[.slice p n cap, .map (some mb)] 116) (by simp)
          have HB5 := Lib.hid B5
          clear B5
          refine wpList_nil ?_
          refine hK _ _ ⟨⟨fx, ft⟩, ?_⟩
          clear hK K
          have tx0 := World.at_lt fx
          have tt := World.at_lt ft
          refine drawn_end rfl (by kernel_rfl) ?_
          intro K hK
          go_wp2_with fail
          refine named_world (A := fun X => BldV w0 (New ++ [(tb, .cells #[.slice p5 n1 c5, .map (some mb)] 116), (mb, .map es clock)]) 126 3 X p5 n1 c5 (vs ++ [.int .i64 kind, .slice q9 i c9, .slice q8 i c8]) ∧ Fr ((p.map (·.block)).toList ++ [tb, mb]) w X) (Q := fun X => Code.wp _ _ _ _ X) ⟨HB5.out.set_mid _, HFP.out.put _ _ (fun _ => by simp)⟩ ?_
          rintro V9 ⟨hB9, hF9⟩
          have HB9 := Lib.hid hB9
          have HF9 := Lib.hid hF9
          clear hB9 hF9 HB5 HFP fx ft tx0 tt
          have ft := HB9.out.own.mem (b := tb) (o := .cells #[.slice p5 n1 c5, .map (some mb)] 116) (by simp)
          have fm := HB9.out.own.mem (b := mb) (o := .map es clock) (by simp)
          have tt := World.at_lt ft
          have tm := World.at_lt fm
          have hML : Has M V9 := fun x hx => HB9.out.own.has x (List.mem_append_left _ (by rw [HNew.out, HL.out]; simp [hx]))
          have hconv : (convert 47 9 (.slice q2 (m1 + 1) c2)).run Try.prog V9.drew = .ok (.string (strB tx)) V9.drew := conv47 (HK.out _ hML)
          have hupd := run_mapAdd (P := Try.prog) (w := V9.drew) (es := es) (clock := clock) fm H4.out Try.underlying113 Try.underlying9 (strB tx) (.int .i64 (n1 : Int)) (by simpa using HFS.out)
          have hmt : mb ≠ tb := HB9.out.own.ne (New.length + 1) New.length (by rw [List.getElem?_append_right (by omega)]; simp; rfl) (by rw [List.getElem?_append_right (by omega)]; simp; rfl) (by omega)
          clear hML
          refine drawn_head 11 (by kernel_rfl) rfl rfl (by kernel_rfl) ?_
          change rowK _ _ _ [0, 1, 2, 3, 4, 5, 6, 7, 8, 9, 10] _ _
          repeat (refine rowK_step rfl (fun K hK => ?_); go_simp; refine hK _ ?_; clear hK K)
          refine rowK_nil ?_
          intro K hK
          go_wp2_with fail
          refine named_world (A := fun X => BldV w0 (New ++ [(tb, .cells #[.slice p5 n1 c5, .map (some mb)] 116), (mb, .map (es.push { key := .string (strB tx), val := .int .i64 (n1 : Int), born := clock }) (clock + 1))]) 126 3 X p5 n1 c5 (vs ++ [.int .i64 kind, .slice q9 i c9, .slice q8 i c8]) ∧ Fr ((p.map (·.block)).toList ++ [tb, mb]) w X) (Q := fun X => Calls Try.prog 51 _ X _) ⟨by
            have h := HB9.out
            rw [show New ++ [(tb, Obj.cells #[.slice p5 n1 c5, .map (some mb)] 116), (mb, .map es clock)] = (New ++ [(tb, Obj.cells #[.slice p5 n1 c5, .map (some mb)] 116)]) ++ (mb, .map es clock) :: [] by simp] at h
            have h2 := (h.set_mid (.map (es.push { key := .string (strB tx), val := .int .i64 (n1 : Int), born := clock }) (clock + 1))).call (Fr.refl [] _).drew
            simpa using h2, (HF9.out.put _ _ (fun _ => by simp)).drew⟩ ?_
          rintro V10 ⟨hB10, hF10⟩
          have HB10 := Lib.hid hB10
          have HF10 := Lib.hid hF10
          clear hB10 hF10 HB9 HF9 ft fm tt tm hconv hupd hmt
          refine (name_f (n := n1) (by omega)).mono ?_
          rintro e W11 ⟨rfl, F11⟩
          have HB11 := Lib.hid (HB10.out.call F11)
          have HF11 := Lib.hid (HF10.out.seq F11 (by simp))
          clear F11 HB10 HF10
          have fr := HB11.out.own.mem (b := rb) (o := .cells (ints .u8 (zs 32)) 23) (List.mem_append_left _ (by rw [HNew.out, HL.out]; simp))
          have tr := World.at_lt fr
          go_wp2_with fail
          refine ret_cell_tmp rfl rfl rfl ?_
          go_simp
          have hlay : lay (zs 32) 0 (nameB n1) = nameB n1 := by simp [lay, zs, nameB_length]
          rw [hlay, makeT_more hfit.out hk1 hk2 (show T.findIdx? (fun u => txt u == txt (kind, ps)) = none by rw [← HTX.out]; exact HFI.out) (by rw [← HN.out]; omega), ← HN.out, HN1.out]
          have hFE := HF11.out.put rb (.cells (ints .u8 (nameB n1)) 23) (fun hb => by omega)
          have B12 : BldV w0 ((N9 ++ (N8 ++ (M9 ++ ((xb, .cells #[.int .i64 kind, .slice q9 i c9, .slice q8 i c8] 126) :: M)))) ++ (rb, .cells (ints .u8 (nameB n1)) 23) :: [(tb, .cells #[.slice p5 n1 c5, .map (some mb)] 116), (mb, .map (es.push { key := .string (strB tx), val := .int .i64 (n1 : Int), born := clock }) (clock + 1))]) 126 3 (W11.put rb (.cells (ints .u8 (nameB n1)) 23)) p5 n1 c5 (vs ++ [.int .i64 kind, .slice q9 i c9, .slice q8 i c8]) := by
            have h := HB11.out
            rw [HNew.out, HL.out] at h
            rw [show (N9 ++ (N8 ++ (M9 ++ ((xb, Obj.cells #[.int .i64 kind, .slice q9 i c9, .slice q8 i c8] 126) :: (M ++ [(rb, .cells (ints .u8 (zs 32)) 23)]))))) ++ [(tb, .cells #[.slice p5 n1 c5, .map (some mb)] 116), (mb, .map (es.push { key := .string (strB tx), val := .int .i64 (n1 : Int), born := clock }) (clock + 1))] = (N9 ++ (N8 ++ (M9 ++ ((xb, .cells #[.int .i64 kind, .slice q9 i c9, .slice q8 i c8] 126) :: M)))) ++ (rb, .cells (ints .u8 (zs 32)) 23) :: [(tb, .cells #[.slice p5 n1 c5, .map (some mb)] 116), (mb, .map (es.push { key := .string (strB tx), val := .int .i64 (n1 : Int), born := clock }) (clock + 1))] by simp] at h
            exact h.set_mid _
          have hlen := HB.out.len
          have FT : FrT TT lo w (W11.put rb (.cells (ints .u8 (nameB n1)) 23)) := FrT.ofTab HB.out (HB.out.own.nth 0 rfl) (HB.out.own.nth 1 rfl) h1 h2 H3.out hFE
          refine ⟨by kernel_rfl, ⟨rfl, rfl⟩, ⟨⟨w0, mb, p5, c5, vs ++ [.int .i64 kind, .slice q9 i c9, .slice q8 i c8], es.push { key := .string (strB tx), val := .int .i64 (n1 : Int), born := clock }, clock + 1, h0, ?_, h1, h2, H3'.out, ?_, ?_, ?_⟩, ?_, ?_⟩, FT⟩
          · have e : (T ++ [(kind, ps)]).length = n1 := by rw [List.length_append, ← HN.out]; exact HN1.out
            rw [e]
            exact B12.sub ((List.sublist_cons_self _ _).trans (List.sublist_append_right _ _))
          · rw [keysT_append, Array.toList_push, List.map_append, List.map_append, H4.out, ← HTX.out]
            have e : 0 + T.length + 1 = n1 := by rw [← HN.out, ← HN1.out]; omega
            rw [e]
            rfl
          · intro u hu
            simp only [List.mem_append, List.mem_cons, List.not_mem_nil, or_false] at hu
            rcases hu with hu | rfl | rfl | rfl
            · exact H5.out u hu
            · rfl
            · rfl
            · rfl
          · intro j u hu
            rcases Nat.lt_or_ge j n with hj | hj
            · rw [List.getElem?_append_left (by rw [← HN.out]; exact hj)] at hu
              obtain ⟨a, q, m, c, q2, m2, c2, b, d, e⟩ := H6.out j u hu
              exact ⟨by rw [List.getElem?_append_left (by omega)]; exact a, q, m, c, q2, m2, c2, by rw [List.getElem?_append_left (by omega)]; exact b, by rw [List.getElem?_append_left (by omega)]; exact d, e.step FT.stay⟩
            · rw [List.getElem?_append_right (by rw [← HN.out]; exact hj), ← HN.out] at hu
              obtain rfl : j = n := by
                have := (List.getElem?_eq_some_iff.1 hu).1
                simp at this
                omega
              rw [Nat.sub_self] at hu
              simp only [List.getElem?_cons_zero, Option.some.injEq] at hu
              subst hu
              have hw := B12.own
              rw [List.append_assoc] at hw
              refine ⟨by rw [List.getElem?_append_right (by omega), show 3 * j - vs.length = 0 by omega]; rfl, q9, i, c9, q8, i, c8, by rw [List.getElem?_append_right (by omega), show 3 * j + 1 - vs.length = 1 by omega]; rfl, by rw [List.getElem?_append_right (by omega), show 3 * j + 2 - vs.length = 2 by omega]; rfl, fun w' G => ?_⟩
              have hS := hU.out w' (Has.stay (fun x hx => hw.has x (by simp [hx])) (fun x hx => by obtain ⟨cs, fr, h⟩ := hM9.out x hx; exact ⟨cs, 5, fr, h, .inl rfl⟩) G)
              rw [List.take_of_length_le (by omega)] at hS
              exact Sll.of ((hP9.out.take hw).svStay (.inr rfl) G) hS
          · intro u hu
            rcases List.mem_append.1 hu with hu | hu
            · exact HGT.out u hu
            · rw [List.mem_singleton] at hu
              subst hu
              exact HG.out
          · rw [List.length_append, ← HN.out]; simp; have := HN1.out; omega
end
end Go.Proofs.Ytbhnfohoclcjdaa
