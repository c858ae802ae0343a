/- Joined: DcD. -/
import Derived.Test.YtbhnfohoclcjdaaGreatZo
set_option linter.unusedVariables false
set_option linter.unusedSimpArgs false
namespace Go.Proofs.YtbhnfohoclcjdaaGreat
open Go.RowKit Go.Dr Go.Kd
theorem flat_inj : ∀ ps qs : List Bs, ps.length = qs.length → (ps.flatMap fun p => ((p.length / 256 : Nat) : Int) :: ((p.length % 256 : Nat) : Int) :: p) = (qs.flatMap fun p => ((p.length / 256 : Nat) : Int) :: ((p.length % 256 : Nat) : Int) :: p) → ps = qs
  | [], [], _, _ => rfl
  | [], _ :: _, h, _ => by simp at h
  | _ :: _, [], h, _ => by simp at h
  | p :: ps, q :: qs, h, e => by
    simp only [List.flatMap_cons, List.cons_append, List.cons.injEq] at e
    have hl : p.length = q.length := by omega
    obtain ⟨e1, e2⟩ := List.append_inj e.2.2 hl
    rw [e1, flat_inj ps qs (by simpa using h) e2]
theorem txt_inj {s t : Tm} (h : txt s = txt t) : s = t := by
  simp only [txt] at h
  obtain ⟨h1, h2⟩ := List.append_inj' h rfl
  simp only [joinB, List.cons.injEq] at h1
  have h3 := flat_inj s.2 t.2 (by omega) h1.2
  simp only [List.cons.injEq, and_true] at h2
  exact Prod.ext h2 h3
theorem txt_beq (s t : Tm) : (txt s == txt t) = decide (s = t) := by
  by_cases h : s = t
  · rw [h]; simp
  · rw [decide_eq_false h, beq_eq_false_iff_ne]; exact fun e => h (txt_inj e)
theorem info155 : (Tryz.prog.info? 155).map (fun i => (i.zero, i.size, i.bytes)) = some (some (.agg #[.int .i64 0, .slice none 0 0]), 2, 32) := by kernel_rfl
theorem E96 : ElemT Tryz.prog 96 155 2 32 #[.int .i64 0, .slice none 0 0] := ⟨Tryz.underlying96, by kernel_rfl, rfl⟩
@[go_sem] theorem one96 (w : World) (x y : Value) : (buildOneK 96 #[(0, .agg #[x, y])]).run Tryz.prog w = .ok (.slice (some ⟨w.heap.size, 0, none⟩) 1 1) (w.alloc (.cells #[x, y] 155)) :=
  E96.buildOne (by omega) (by omega) w (.agg #[x, y]) rfl
section
variable {w0 w : World} {L : List (Nat × Obj)} {p : Option Addr} {n cap : Nat} {vs : List Value} {ops : Array Oper} {rest : List Oper} {o : Oper} {a : Act} {Q : Exit → Act → World → Prop}
/-- The list of terms: append. -/
theorem wpList_app96 (hgd : o.guard = none) (s x : Operand) (ho : o.op = .call { callee := .builtin .append, args := #[s, x], argTypes := #[96, 96] })
    (hs : a.eval s = .slice p n cap) (B : BldV w0 L 155 2 w p n cap vs) {q : Option Addr} {m c : Nat} {us : List Value} (hx : a.eval x = .slice q m c) (S : Sv 2 w q m c us) (h1 : ∀ u ∈ us, u.oneCell' = true) (hbig : n + m ≤ 1000000)
    (h : ∀ p' cap' w', BldV w0 L 155 2 w' p' (n + m) cap' (vs ++ us) → (∀ g, p'.map (·.block) = some g → p.map (·.block) = some g ∨ w.heap.size ≤ g) → Fr (p.map (·.block)).toList w w' → wpList Tryz.prog ops Q rest (a.put o.dst (.slice p' (n + m) cap')) w') : wpList Tryz.prog ops Q (o :: rest) a w := by
  obtain ⟨i, hi, hz, hs1, hb1⟩ := info_parts info155
  exact wpList_apdV2 hgd s x 96 96 ho Tryz.underlying96 hi hz hs1 (by omega) hb1 rfl hs B hx (Apd.ofSrc Tryz.underlying96 hi hz (by rw [hs1]; exact S.src Tryz.underlying96 h1)) (by omega) (by omega) h
end
section
variable {w : World}
set_option maxRecDepth 100000 in
set_option maxHeartbeats 2000000 in
theorem dmake_f {lo tb : Nat} {T : List Tm} {q : Option Addr} {m c : Nat} {ps : List (List Int)} {kind : Int} (h : DTabP lo tb w T) (S : Sll w q m c ps) (hg : goodT (kind, ps)) :
    Calls Tryz.prog 42 #[.pointer (some ⟨tb, 0, none⟩), .int .i64 kind, .slice q m c] w fun e w' => e = .returned (.tuple #[.agg (ints .u8 (makeT T (kind, ps)).2.1), .bool (makeT T (kind, ps)).2.2]) ∧ DTabP lo tb w' (makeT T (kind, ps)).1 ∧ FrD lo w w' := by
  have hT := h.len
  have HH := Lib.hid h
  have HGT := Lib.hid h.good
  have HG := Lib.hid hg
  obtain ⟨w0, p, cap, vs, h0, B, h1, h3, h5, h6⟩ := h.ex
  replace B : BldV w0 [(tb, .cells #[.slice p T.length cap] 98)] 155 2 w p T.length cap vs := B
  have H3 := Lib.hid h3
  have H5 := Lib.hid h5
  have H6 := Lib.hid h6
  have hk1 := hg.2.2.1
  have hk2 := hg.2.2.2
  have hfit := Lib.hid hg.1
  have HS := Lib.hid S
  have hm64 : m ≤ 64 := by
    have h1 := hg.1
    simp only [fits, Bool.and_eq_true, decide_eq_true_eq] at h1
    rw [← S.len]; exact h1.1
  have H9 : Hid (∀ l ∈ ps, l.length ≤ 4096) := Lib.hid (by
    have h1 := hg.1
    simp only [fits, Bool.and_eq_true, decide_eq_true_eq, List.all_eq_true] at h1
    exact h1.2)
  obtain ⟨n, hn⟩ : ∃ n, n = T.length := ⟨_, rfl⟩
  rw [← hn] at hT B
  have HB := Lib.hid B
  have HN := Lib.hid hn
  clear hn h B h5 h6 h3 S hg
  have dk1 : decide (kind < 1) = false := by rw [decide_eq_false_iff_not]; simp at hk1; omega
  have dk8 : decide (kind > 8) = false := by rw [decide_eq_false_iff_not]; simp at hk2; omega
  have dk8' : decide (8 < kind) = false := dk8
  go_enter Tryz.func42, Tryz.ntmps42
  go_wp2_with fail
  refine named_world (A := fun X => OwB w [(w.heap.size, .cells (ints .u8 (zs 32)) 33)] X) (Q := fun X => Calls _ _ _ X _) ((OwB.start w).allocN _ w.heap.size rfl) ?_
  intro V hV
  generalize w.heap.size = rb at hV ⊢
  refine (rjoin_f (HS.out.fr0 hV.fr) hfit.out).mono ?_
  rintro e V1 ⟨jq, jm, jc, rfl, hJ⟩
  have HV1 := Lib.hid (hV.call hJ.own.fr)
  clear hV hJ
  go_wp2_with fail
  go_loopw [10] (fun iv wy => ∃ i : Nat, i ≤ n ∧ iv = .int .i64 (i : Int) ∧ Hid (∀ j u, j < i → T[j]? = some u → u ≠ (kind, ps)) ∧ Hid (OwB w [(rb, .cells (ints .u8 (zs 32)) 33)] wy)) (fun iv _ => (n - intOf iv).toNat)
  case atStart => exact ⟨0, by omega, rfl, Lib.hid (fun j u hj => by omega), HV1⟩
  case round =>
    clear HV1
    obtain ⟨i, hi9, rfl, hno, hO⟩ := hrel
    have ft : wr.blk tb = some (.cells #[.slice p n cap] 98) := hO.out.fr.get (HB.out.own.nth 0 rfl) (by simp)
    have tt := World.at_lt ft
    by_cases hlt : i < n
    · have hd : decide ((i : Int) < (n : Int)) = true := by rw [decide_eq_true_eq]; omega
      obtain ⟨u, hu⟩ : ∃ u, T[i]? = some u := ⟨T[i]'(by rw [← HN.out]; exact hlt), List.getElem?_eq_getElem _⟩
      obtain ⟨b2, o2, cs2, T2, fr2, hp2, f2, hs2, hss2, hx2⟩ := HB.out.sv.elem (j := i) hlt
      obtain ⟨hc1, q9, m9, c9, hc2, hA⟩ := H6.out i u hu
      rw [two_cells hc1 hc2] at hx2
      have k0 := el_ext (i := 0) hx2 hss2 (by omega)
      have k1 := el_ext (i := 1) hx2 hss2 (by omega)
      rw [Nat.add_zero] at k0
      replace k0 : cs2[o2 + i * 2]? = some (.int .i64 u.1) := k0
      replace k1 : cs2[o2 + i * 2 + 1]? = some (.slice q9 m9 c9) := k1
      obtain ⟨k0a, k0b⟩ := Array.getElem?_eq_some_iff.1 k0
      obtain ⟨k1a, k1b⟩ := Array.getElem?_eq_some_iff.1 k1
      subst hp2
      have f2' := hO.out.fr.get f2 (by simp)
      have t2 := World.at_lt f2'
      have HU := Lib.hid hu
      have hgu := HGT.out u (List.mem_of_getElem? hu)
      have hAl := hA wr (.of hO.out.fr)
      have hm9 : m9 ≤ 64 := by
        have h1 := hgu.1
        simp only [fits, Bool.and_eq_true, decide_eq_true_eq] at h1
        rw [← hAl.len]; exact h1.1
      obtain ⟨y, hy⟩ : ∃ y, y = decide (u.2 = ps) := ⟨_, rfl⟩
      have c83 : Calls Tryz.prog 83 #[.slice q9 m9 c9, .slice q m c] wr fun e w' => e = .returned (.bool y) ∧ Fr [] wr w' := by
        rw [hy]
        exact lists_f hAl (HS.out.fr0 hO.out.fr) hgu.2.1 HG.out.2.1 (by omega) (by omega)
      have C83 := Lib.hid c83
      have HY := Lib.hid hy
      obtain ⟨t, ht⟩ : ∃ t : Bool, t = decide (u = (kind, ps)) := ⟨_, rfl⟩
      have HTT := Lib.hid ht
      have wi : IntKind.i64.wrap ((i : Int) + 1) = ((i + 1 : Nat) : Int) := by rw [IntKind.wrap_i64]; omega
      clear hc1 hc2 hx2 k0 k1 f2 hu hgu hA hAl hy c83 ht
      go_upto_region 7 with (fail)
      go_cut [39, 40, 41, 42, 43, 44, 45, 46, 47, 48, 49, 50, 51, 52, 53, 54, 55, 56, 57, 58, 59, 60] (fun _ _ _ _ _ _ _ _ _ _ _ _ _ _ _ _ _ _ _ _ _ v60 wy => v60 = .bool t ∧ Hid (OwB w [(rb, .cells (ints .u8 (zs 32)) 33)] wy))
      case first =>
        by_cases hk : u.1 = kind
        · have dk : (u.1 == kind) = true := by simp [hk]
          have HK := Lib.hid hk
          clear hk
          go_wp2_with fail
          refine C83.out.mono ?_
          rintro e W1 ⟨rfl, F1⟩
          have HO1 := Lib.hid (hO.out.call F1)
          clear F1
          go_wp2_with fail
          go_meet
          case rel =>
            refine ⟨?_, HO1⟩
            rw [HTT.out, HY.out]
            have e : (u = (kind, ps)) ↔ u.2 = ps := ⟨fun h => by rw [h], fun h => Prod.ext HK.out h⟩
            by_cases h : u.2 = ps <;> simp [e, h]
        · have dk : (u.1 == kind) = false := by simp [hk]
          go_wp2_with fail
          go_meet
          case rel => exact ⟨by rw [HTT.out, decide_eq_false (fun h => hk (by rw [h]))], hO⟩
      case rest =>
        obtain ⟨rfl, hO1⟩ := hcut
        clear ft tt f2' t2
        cases t with
        | false =>
          have hne : u ≠ (kind, ps) := of_decide_eq_false HTT.out.symm
          have HNE := Lib.hid hne
          clear hne
          go_wp2_with fail
          go_roundw
          case rel =>
            refine ⟨i + 1, by omega, by first | rfl | simp, Lib.hid fun j v hj hv => ?_, hO1⟩
            rcases Nat.lt_or_ge j i with h | h
            · exact hno.out j v h hv
            · obtain rfl : j = i := by omega
              rw [HU.out] at hv
              simp only [Option.some.injEq] at hv
              rw [← hv]; exact HNE.out
          case measure => simp [intOf]; omega
        | true =>
          have heq : u = (kind, ps) := of_decide_eq_true HTT.out.symm
          have hfi : T.findIdx? (fun v => txt v == txt (kind, ps)) = some i := by
            rw [List.findIdx?_eq_some_iff_getElem]
            obtain ⟨hil, hiu⟩ := List.getElem?_eq_some_iff.1 HU.out
            refine ⟨hil, by rw [hiu, heq]; simp, fun j hj => ?_⟩
            rw [txt_beq]
            have := hno.out j T[j] hj (List.getElem?_eq_getElem (by omega))
            simp [this]
          have hmk := makeT_old hfit.out hk1 hk2 hfi
          have HMK := Lib.hid hmk
          clear heq hfi hmk
          go_wp2_with fail
          refine (dname_f (n := i + 1) (by omega)).mono ?_
          rintro e W2 ⟨rfl, F2⟩
          have HO2 := Lib.hid (hO1.out.call F2)
          have f0 := HO2.out.nth 0 rfl
          have t0 := World.at_lt f0
          clear F2
          go_wp2_with fail
          refine ret_cell_tmp rfl rfl rfl ?_
          go_simp
          have hlay : lay (zs 32) 0 (nameB (i + 1)) = nameB (i + 1) := by simp [lay, zs, nameB_length]
          rw [hlay, HMK.out]
          have hF := (HO2.out.set 0 (.cells (ints .u8 (nameB (i + 1))) 33) rfl).fr
          exact ⟨by kernel_rfl, ⟨rfl, rfl⟩, HH.out.fr0 hF, .of hF⟩
    · obtain rfl : i = n := by omega
      have hd : decide ((i : Int) < (i : Int)) = false := by simp
      have hfi : T.findIdx? (fun v => txt v == txt (kind, ps)) = none := by
        rw [List.findIdx?_eq_none_iff]
        intro v hv
        obtain ⟨j, hj, rfl⟩ := List.getElem_of_mem hv
        rw [txt_beq]
        have := hno.out j T[j] (by rw [HN.out]; exact hj) (List.getElem?_eq_getElem hj)
        simp [this]
      have HFI := Lib.hid hfi
      clear hfi
      by_cases hfull : 65535 ≤ i
      · have d1 : decide ((65535 : Int) ≤ (i : Int)) = true := by rw [decide_eq_true_eq]; omega
        have d2 : decide ((i : Int) ≥ 65535) = true := d1
        have hmk := makeT_full hfit.out hk1 hk2 HFI.out (by rw [← HN.out]; exact hfull)
        have HMK := Lib.hid hmk
        have f0 := hO.out.nth 0 rfl
        have t0 := World.at_lt f0
        clear hmk
        go_wp2_with fail
        refine ret_cell_tmp rfl rfl rfl ?_
        go_simp
        rw [HMK.out]
        have hF := (hO.out.set 0 (.cells #[.int .u8 0, .int .u8 0, .int .u8 0, .int .u8 0, .int .u8 0, .int .u8 0, .int .u8 0, .int .u8 0, .int .u8 0, .int .u8 0, .int .u8 0, .int .u8 0, .int .u8 0, .int .u8 0, .int .u8 0, .int .u8 0, .int .u8 0, .int .u8 0, .int .u8 0, .int .u8 0, .int .u8 0, .int .u8 0, .int .u8 0, .int .u8 0, .int .u8 0, .int .u8 0, .int .u8 0, .int .u8 0, .int .u8 0, .int .u8 0, .int .u8 0, .int .u8 0] 33) rfl).fr
        exact ⟨by kernel_rfl, ⟨rfl, rfl⟩, HH.out.fr0 hF, .of hF⟩
      · have d1 : decide ((65535 : Int) ≤ (i : Int)) = false := by rw [decide_eq_false_iff_not]; omega
        have d2 : decide ((i : Int) ≥ 65535) = false := d1
        have hmk := makeT_more hfit.out hk1 hk2 HFI.out (by rw [← HN.out]; omega)
        rw [← HN.out] at hmk
        have HMK := Lib.hid hmk
        have HO0 : Hid (BldV w ([] ++ [(rb, .cells (ints .u8 (zs 32)) 33)]) 49 1 wr none 0 0 []) := Lib.hid (BldV.nil hO.out)
        clear hmk
        go_upto_region 13 with (fail)
        clear ft tt hO
        go_loopw [11, 12] (fun v iv wy => ∃ (j : Nat) (q9 : Option Addr) (c9 : Nat) (us : List Value) (M : List (Nat × Obj)), j ≤ m ∧ iv = .int .i64 (j : Int) ∧ v = .slice q9 j c9 ∧ Hid (BldV w (M ++ [(rb, .cells (ints .u8 (zs 32)) 33)]) 49 1 wy q9 j c9 us) ∧ Hid (∀ x ∈ M, ∃ cs fr, x.2 = .cells cs 5 fr) ∧ Hid (∀ w', Has M w' → Sls w' us (ps.take j))) (fun _ iv _ => (m - intOf iv).toNat)
        case atStart => exact ⟨0, none, 0, [], [], by omega, rfl, rfl, HO0, Lib.hid (by simp), Lib.hid (fun _ _ => .nil)⟩
        case round =>
          clear HO0
          obtain ⟨j, q9, c9, us, M, hj9, rfl, rfl, hO, hM, hU⟩ := hrel
          by_cases hlt : j < m
          · have d3 : decide ((j : Int) < (m : Int)) = true := by rw [decide_eq_true_eq]; omega
            obtain ⟨b, off, cs, T3, fr, q3, m3, c3, l3, rfl, f0, hs, hc, hl, S3⟩ := (HS.out.fr0 hO.out.own.fr).at hlt
            have hc2 := (Array.getElem?_eq_some_iff.1 hc).2
            have HS3 := Lib.hid S3
            have hl2 := Lib.hid hl
            have t0 := World.at_lt f0
            clear S3 hl
            have HNil : Hid (Bld wr [] .u8 5 wr none 0 0 []) := Lib.hid (Bld.nil (OwB.start wr))
            have HF := Lib.hid (H9.out l3 (List.mem_of_getElem? hl2.out))
            have hm3 : m3 ≤ 4096 := by rw [← HS3.out.len]; exact HF.out
            have wj : IntKind.i64.wrap ((j : Int) + 1) = ((j + 1 : Nat) : Int) := by rw [IntKind.wrap_i64]; omega
            go_upto_region 16 with (fail)
            go_wp2_with (refine wpList_app47 rfl _ _ rfl rfl HNil.out rfl HS3.out (by omega) ?_)
            intro q4 c4 W4 hB4
            obtain ⟨M2, hB5, hM2, hK2⟩ := hO.out.join hB4
            have HB5 := Lib.hid hB5
            have HM2 := Lib.hid hM2
            have HK2 := Lib.hid hK2
            clear hB4 hB5 hM2 hK2 HNil f0 t0 hc hc2
            go_wp2_with (refine wpList_app86 rfl _ _ rfl rfl (HB5.out.call ((Fr.refl [] W4).alloc (.cells #[.slice q4 m3 c4] 49))) rfl (Sv.one (v := .slice q4 m3 c4) (T := 49) (fr := (0, 0)) (World.at_alloc_new _ _ _ rfl)) (by simp [Value.oneCell']) (by omega) ?_)
            intro q5 c5 W5 B5
            have HB6 := Lib.hid B5
            clear B5 HB5
            go_wp2_with fail
            go_roundw
            case rel =>
              refine ⟨j + 1, q5, c5, us ++ [.slice q4 m3 c4], M2 ++ M, by omega, by first | rfl | simp, rfl, ?_, ?_, ?_⟩
              · rw [List.append_assoc]; exact HB6
              · refine Lib.hid fun x hx => ?_
                rcases List.mem_append.1 hx with h | h
                · exact HM2.out x h
                · exact hM.out x h
              · refine Lib.hid fun w' hw' => ?_
                have h2 := Has.of_append hw'
                rw [List.take_add_one, hl2.out]
                exact (hU.out w' h2.2).append (.cons (HK2.out w' h2.1) .nil)
            case measure => simp [intOf]; omega
          · obtain rfl : j = m := by omega
            have hd : decide ((j : Int) < (j : Int)) = false := by simp
            obtain ⟨N9, hO9, hP9⟩ := hO.out.park
            have HON := Lib.hid hO9
            have HP9 := Lib.hid hP9
            have ft : wr.blk tb = some (.cells #[.slice p i cap] 98) := hO9.fr.get (HB.out.own.nth 0 rfl) (by simp)
            have tt := World.at_lt ft
            obtain ⟨New, hNew⟩ : ∃ New, New = N9 ++ (M ++ [(rb, .cells (ints .u8 (zs 32)) 33)]) := ⟨_, rfl⟩
            rw [← hNew] at HON
            have HNew := Lib.hid hNew
            clear hO9 hP9 hO hNew
            go_upto_region 17 with (fail)
            go_wp2_with (refine wpList_app96 rfl _ _ rfl rfl ((HB.out.merge HON.out).call ((Fr.refl [] wr).alloc (.cells #[.int .i64 kind, .slice q9 j c9] 155))) rfl (us := [.int .i64 kind, .slice q9 j c9]) ⟨rfl, Nat.le_refl 1, .inr ⟨wr.heap.size, 0, _, _, (0, 0), rfl, World.at_alloc_new _ _ _ rfl, by simp, by simp⟩, by simp, fun a ha => ⟨_, _, (by simpa using ha.symm)⟩⟩ (by simp [Value.oneCell']) (by omega) ?_)
            intro p5 c5 W5 B5 hp5 F5
            obtain ⟨n1, hn1⟩ : ∃ n1, n1 = i + 1 := ⟨_, rfl⟩
            rw [← hn1] at B5 ⊢
            have HN1 := Lib.hid hn1
            have hn1b : n1 ≤ 65535 := by omega
            clear hn1
            have ftb := HB.out.own.nth 0 rfl
            have FP : Fr ((p.map (·.block)).toList ++ [tb]) w W5 := (HON.out.fr.mono (fp' := (p.map (·.block)).toList ++ [tb]) (by simp)).seq (((Fr.refl ((p.map (·.block)).toList) wr).alloc _).seq F5 (fun k hk _ => hk)) (fun k hk _ => List.mem_append_left _ hk)
            have h3' : ∀ g, p5.map (·.block) = some g → lo ≤ g := fun g hg => by
              obtain ⟨ga, hga, rfl⟩ := Option.map_eq_some_iff.1 hg
              rcases hp5 ga hga with ⟨a2, h, h'⟩ | h
              · exact H3.out _ (by rw [h, ← h']; rfl)
              · have h8 := HON.out.fr.size
                have h9 := World.at_lt ftb
                omega
            have H3' := Lib.hid h3'
            have HFP := Lib.hid FP
            clear ft tt ftb h3' FP F5 hp5
            have ft := B5.own.mem (b := tb) (o := .cells #[.slice p i cap] 98) (by simp)
            have tt := World.at_lt ft
            have HB5 := Lib.hid B5
            clear B5
            go_upto_region 18 with (fail)
            refine named_world (A := fun X => BldV w0 (New ++ [(tb, .cells #[.slice p5 n1 c5] 98)]) 155 2 X p5 n1 c5 (vs ++ [.int .i64 kind, .slice q9 j c9]) ∧ Fr ((p.map (·.block)).toList ++ [tb]) w X) (Q := fun X => Code.wp _ _ _ _ X) ⟨HB5.out.set_mid _, HFP.out.put _ _ (fun _ => by simp)⟩ ?_
            rintro V9 ⟨hB9, hF9⟩
            have HB9 := Lib.hid hB9
            have HF9 := Lib.hid hF9
            clear hB9 hF9 HB5 HFP ft tt
            have ft := HB9.out.own.mem (b := tb) (o := .cells #[.slice p5 n1 c5] 98) (by simp)
            have tt := World.at_lt ft
            go_wp2_with fail
            refine (dname_f (n := n1) (by omega)).mono ?_
            rintro e W11 ⟨rfl, F11⟩
            have HB11 := Lib.hid (HB9.out.call F11)
            have HF11 := Lib.hid (HF9.out.seq F11 (by simp))
            clear F11 HB9 HF9 ft tt
            have fr := HB11.out.own.mem (b := rb) (o := .cells (ints .u8 (zs 32)) 33) (List.mem_append_left _ (by rw [HNew.out]; simp))
            have tr := World.at_lt fr
            have hrb : w.heap.size ≤ rb := HON.out.lo (rb, .cells (ints .u8 (zs 32)) 33) (by rw [HNew.out]; simp)
            go_wp2_with fail
            refine ret_cell_tmp rfl rfl rfl ?_
            go_simp
            have hlay : lay (zs 32) 0 (nameB n1) = nameB n1 := by simp [lay, zs, nameB_length]
            rw [hlay, HMK.out, ← HN1.out]
            have hFE := HF11.out.put rb (.cells (ints .u8 (nameB n1)) 33) (fun hb => by omega)
            have B12 : BldV w0 ((N9 ++ M) ++ (rb, .cells (ints .u8 (nameB n1)) 33) :: [(tb, .cells #[.slice p5 n1 c5] 98)]) 155 2 (W11.put rb (.cells (ints .u8 (nameB n1)) 33)) p5 n1 c5 (vs ++ [.int .i64 kind, .slice q9 j c9]) := by
              have h := HB11.out
              rw [HNew.out, show (N9 ++ (M ++ [(rb, Obj.cells (ints .u8 (zs 32)) 33)])) ++ [(tb, Obj.cells #[.slice p5 n1 c5] 98)] = (N9 ++ M) ++ (rb, .cells (ints .u8 (zs 32)) 33) :: [(tb, .cells #[.slice p5 n1 c5] 98)] by simp] at h
              exact h.set_mid _
            have hlen := HB.out.len
            have FT : FrT DT lo w (W11.put rb (.cells (ints .u8 (nameB n1)) 33)) := FrT.ofDTab (t := DT) HB.out (HB.out.own.nth 0 rfl) h1 H3.out hFE
            refine ⟨by kernel_rfl, ⟨rfl, rfl⟩, ⟨⟨w0, p5, c5, vs ++ [.int .i64 kind, .slice q9 j c9], h0, ?_, h1, H3'.out, ?_, ?_⟩, ?_, ?_⟩, FT⟩
            · have e : (T ++ [(kind, ps)]).length = n1 := by rw [List.length_append, ← HN.out, HN1.out]; rfl
              rw [e]
              exact B12.sub ((List.sublist_cons_self _ _).trans (List.sublist_append_right _ _))
            · intro u hu
              simp only [List.mem_append, List.mem_cons, List.not_mem_nil, or_false] at hu
              rcases hu with hu | rfl | rfl
              · exact H5.out u hu
              · rfl
              · rfl
            · intro v u hu
              rcases Nat.lt_or_ge v i with hv | hv
              · rw [List.getElem?_append_left (by rw [← HN.out]; exact hv)] at hu
                obtain ⟨a, q, m, c, b, e⟩ := H6.out v u hu
                exact ⟨by rw [List.getElem?_append_left (by omega)]; exact a, q, m, c, by rw [List.getElem?_append_left (by omega)]; exact b, e.step FT.stay⟩
              · rw [List.getElem?_append_right (by rw [← HN.out]; exact hv), ← HN.out] at hu
                obtain rfl : v = i := by
                  have := (List.getElem?_eq_some_iff.1 hu).1
                  simp at this
                  omega
                rw [Nat.sub_self] at hu
                simp only [List.getElem?_cons_zero, Option.some.injEq] at hu
                subst hu
                have hw := B12.own
                rw [List.append_assoc] at hw
                refine ⟨by rw [List.getElem?_append_right (by omega), show 2 * v - vs.length = 0 by omega]; rfl, q9, j, c9, by rw [List.getElem?_append_right (by omega), show 2 * v + 1 - vs.length = 1 by omega]; rfl, fun w' G => ?_⟩
                have hS := hU.out w' (Has.stay (fun x hx => hw.has x (by simp [hx])) (fun x hx => by obtain ⟨cs, fr, h⟩ := hM.out x hx; exact ⟨cs, 5, fr, h, .inl rfl⟩) G)
                rw [List.take_of_length_le (by have := HS.out.len; omega)] at hS
                exact Sll.of ((HP9.out.take hw).svStay (.inr rfl) G) hS
            · intro u hu
              rcases List.mem_append.1 hu with hu | hu
              · exact HGT.out u hu
              · rw [List.mem_singleton] at hu
                subst hu
                exact HG.out
            · rw [List.length_append, ← HN.out]; simp; have := HN1.out; omega
end
end Go.Proofs.YtbhnfohoclcjdaaGreat
