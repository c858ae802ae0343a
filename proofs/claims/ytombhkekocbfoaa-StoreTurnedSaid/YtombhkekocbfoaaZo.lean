/- Joined: SoZg, SoZh, SoZi, SoZj, SoZk. -/
import Derived.Test.YtombhkekocbfoaaZn
set_option linter.unusedVariables false
set_option linter.unusedSimpArgs false
namespace Go.Proofs.Ytombhkekocbfoaa
open Go.RowKit Go.Dr Go.Kd Go.St
theorem cast_add {a nb x : Nat} (h : nb = x) : (a : Int) + (nb : Int) = ((a + x : Nat) : Int) := by subst h; push_cast; rfl
section
variable {w : World}
set_option maxRecDepth 100000 in
set_option maxHeartbeats 8000000 in
theorem dOne_f {Q : Exit → Act → World → Prop} {tm : Array Value} {W : World} {r t half e c f i a n n2 d cp : Nat} {q q2 : Option Addr} {L : List (Bs × Bs)} {rest : Bs} {R : Option (List (Bs × Bs))} {av : List Nat}
    (hs : tm.size = 267) (h17 : tm.getD 17 undef = .pointer (some ⟨t, 0, none⟩)) (h18 : tm.getD 18 undef = .int .i64 (a : Int)) {k : Nat} (hk : k = i + 1) (h19 : tm.getD 19 undef = .int .i64 (k : Int)) (h20 : tm.getD 20 undef = .slice q2 n2 cp)
    (S : Sl .u8 W q2 n2 cp rest) (hb : isBytes rest) (hn64 : 64 ≤ n2) (hn : n2 ≤ 70000) (ha : a ≤ 4096) (hq2 : ∀ g, q2.map (·.block) = some g → g ≠ t)
    (ft : W.blk t = some (.cells (dsC r half e c f q n d false) 56 (0, 0))) (C : ChsA W (t :: av) q n d (asC L)) (hS : Sorted L) (hE : ∀ x ∈ L, EntOk x) (hL : L.length ≤ 64) (hav : ∀ b ∈ t :: av, b < W.heap.size)
    (hR : readR e (c - i) i rest L = R) (hic : i < c) (hc : c < 4294967296) (he : e < 18446744073709551616)
    (hret : ∀ tm' W', R = none → tm'.getD 2 undef = .pointer none → tm'.getD 3 undef = .int .i64 160 → Fr [t] W W' → Q .ret ⟨tm', []⟩ W')
    (hnext : ∀ tm' W' (g : Nat) L' q' n' d', tm'.size = 267 → tm'.getD 0 undef = tm.getD 0 undef → tm'.getD 4 undef = tm.getD 4 undef → tm'.getD 17 undef = tm.getD 17 undef → tm'.getD 19 undef = tm.getD 19 undef → tm'.getD 18 undef = .int .i64 ((a + (8 + g + 63) / 64 : Nat) : Int) → g + 8 ≤ n2 →
      W'.blk t = some (.cells (dsC r half e c f q' n' d' false) 56 (0, 0)) → ChsA W' (t :: av) q' n' d' (asC L') → Sorted L' → (∀ x ∈ L', EntOk x) → L'.length ≤ 64 → readR e (c - (i + 1)) (i + 1) (rest.drop ((8 + g + 63) / 64 * 64)) L' = R → Fr [t] W W' → Q .normal ⟨tm', []⟩ W') :
    (behind 3 dB1).wp Try.prog Q ⟨tm, []⟩ W := by
  have HRET := Lib.hid hret
  have HB := Lib.hid hb
  have HS := Lib.hid S
  have HC := Lib.hid C
  have HFT := Lib.hid ft
  have HSO := Lib.hid hS
  have HE := Lib.hid hE
  have HAV := Lib.hid hav
  have HR := Lib.hid hR
  have HQ2 := Lib.hid hq2
  have HLN := Lib.hid S.len
  have HK := Lib.hid hk
  have hkb : k < 4294967296 := by omega
  obtain ⟨x0, hx0⟩ : ∃ x, x = tm.getD 0 undef := ⟨_, rfl⟩
  obtain ⟨x4, hx4⟩ : ∃ x, x = tm.getD 4 undef := ⟨_, rfl⟩
  rw [← hx0, ← hx4, h17, h19] at hnext
  have HNEXT := Lib.hid hnext
  obtain ⟨u, rfl⟩ := frm_of hs
  have e0 : u 0 = x0 := hx0.symm
  have e4 : u 4 = x4 := hx4.symm
  have e17 : u 17 = _ := h17
  have e18 : u 18 = _ := h18
  have e19 : u 19 = _ := h19
  have e20 : u 20 = _ := h20
  clear hk hret hnext hb S C ft hS hE hav hR hq2 h17 h18 h19 h20 hs hx0 hx4
  conv => arg 2; whnf
  unfold frm22
  rw [e0, e4, e17, e18, e19, e20]
  clear e0 e4 e17 e18 e19 e20
  go_upto_region 39 with (fail)
  refine Eq.mp (congrArg (fun c => Code.wp Try.prog c _ _ _) (show d39 = _ from by kernel_rfl)) (d39_f (rest := rest) rfl rfl HS.out HB.out hn64 hn ?_)
  intro tm' W1 hs' s0 s4 s17 s18 s19 s20 s24 F1
  obtain ⟨v, rfl⟩ := frm_of hs'
  have e0 : v 0 = x0 := s0
  have e4 : v 4 = x4 := s4
  have e17 : v 17 = .pointer (some ⟨t, 0, none⟩) := s17
  have e18 : v 18 = .int .i64 (a : Int) := s18
  have e19 : v 19 = .int .i64 (k : Int) := s19
  have e20 : v 20 = .slice q2 n2 cp := s20
  have e24 : v 24 = .int .i64 ((getB (rest.take 4) : Nat) : Int) := s24
  unfold frm22
  rw [e0, e4, e17, e18, e19, e20, e24]
  have HF1 := Lib.hid F1
  clear e0 e4 e17 e18 e19 e20 e24 s0 s4 s17 s18 s19 s20 s24 hs' F1
  obtain ⟨g, hg⟩ : ∃ g, g = getB (rest.take 4) := ⟨_, rfl⟩
  rw [← hg]
  have HG := Lib.hid hg
  have HNE := Lib.hid (show ¬ rest = [] from fun h => by have := HLN.out; rw [h] at this; simp at this; omega)
  clear hg
  by_cases hgn : n2 < g + 8
  · have dg : decide ((n2 : Int) - 8 < (g : Int)) = true := by rw [decide_eq_true_eq]; omega
    have HRN := Lib.hid (show R = none by rw [← HR.out, show c - i = (c - i - 1) + 1 by omega, readR, if_neg HNE.out, ← HG.out, HLN.out, if_pos (by omega)])
    go_wp2_with fail
    exact HRET.out _ _ HRN.out rfl rfl (HF1.out.mono (by simp))
  have dg : decide ((n2 : Int) - 8 < (g : Int)) = false := by rw [decide_eq_false_iff_not]; omega
  obtain ⟨SC, hSC⟩ : ∃ SC, SC = dsC r half e c f q n d false := ⟨_, rfl⟩
  have f1 := HF1.out.get HFT.out (by simp)
  rw [← hSC] at f1
  have szC : SC.size = 7 := by rw [hSC]; rfl
  have x2 := Array.getElem?_eq_some_iff.1 (show SC[2]? = some (.int .u64 e) by rw [hSC]; rfl)
  obtain ⟨x2', x2⟩ := x2
  have x5 := Array.getElem?_eq_some_iff.1 (show SC[5]? = some (.slice q n d) by rw [hSC]; rfl)
  obtain ⟨x5', x5⟩ := x5
  have HSC := Lib.hid hSC
  have HS1 := Lib.hid (HS.out.fr0 HF1.out)
  obtain ⟨bb, off, cs, TT, fr, rfl, fb, hs2, hx⟩ := HS1.out.out (by omega)
  have hcp := HS1.out.cap_
  have k8 : (8 : Int) ≤ 8 + (g : Int) := by omega
  have k8c : 8 + (g : Int) ≤ (cp : Int) := by omega
  have k8d : (8 : Int) ≤ (cp : Int) := by omega
  have k8n : (8 + (g : Int)).toNat = 8 + g := by omega
  have c8 : ¬ cp = 8 := by omega
  have SP1 : Sl .u8 W1 (some ⟨bb, off + 8, none⟩) g (cp - 8) ((rest.drop 8).take g) := by
    have h := HS1.out.part (i := 8) (j := 8 + g) (c := cp) (by omega) (by omega) (by omega) (Nat.le_refl _)
    rw [if_neg c8, List.drop_take, Nat.add_sub_cancel_left] at h
    simpa [Addr.add_mid] using h
  have hPB : isBytes ((rest.drop 8).take g) := fun x hx => HB.out x (List.mem_of_mem_drop (List.mem_of_mem_take hx))
  have hPL := SP1.len
  obtain ⟨P, hPe⟩ : ∃ P, P = (rest.drop 8).take g := ⟨_, rfl⟩
  rw [← hPe] at SP1 hPB hPL
  have HPE := Lib.hid hPe
  have HPB := Lib.hid hPB
  have HSP := Lib.hid SP1
  have HPL := Lib.hid hPL
  have t1 := World.at_lt f1
  have tb := World.at_lt fb
  have HFB := Lib.hid fb
  have HF1' := Lib.hid f1
  obtain ⟨X8, hX8⟩ : ∃ X8, X8 = strB (rest.take 8) := ⟨_, rfl⟩
  have hcv : ∀ W : World, W.blk bb = some (.cells cs TT fr) → (convert 22 9 (.slice (some ⟨bb, off, none⟩) 8 cp)).run Try.prog W = .ok (.string X8) W := fun W hW => by
    rw [hX8]
    exact conv47 (sl_pre hW hs2 hx HLN.out (by omega) hcp)
  have HCV := Lib.hid hcv
  have HX8 := Lib.hid hX8
  clear hcv hX8 hSC hx hPe hPB SP1 hPL
  go_upto_region 42 with (fail)
  refine drawn_begin 10 (fun w' => w'.blk t = some (.cells SC 56) ∧ w'.blk bb = some (.cells cs TT fr)) (by kernel_rfl) ?_
  refine drawn_reads (fuel := 2) [0, 1, 2, 3, 4, 5, 6, 7, 8] rfl (by kernel_rfl) ⟨f1, fb⟩ ?_
  repeat (first | (refine rowK_step2 rfl rfl (fun K hK => ?_); go_wp2) | (refine rowK_step rfl (fun K hK => ?_); go_simp; refine hK _ ?_; clear hK K))
  refine rowK_nil ⟨fun w' e1 => ?_, ?_⟩
  · obtain ⟨e1, e2⟩ := e1
    clear f1 t1 fb tb
    have t1 := World.at_lt e1
    have tb := World.at_lt e2
    repeat (first | (refine rowWp_step2 rfl rfl (fun K hK => ?_); go_wp2) | (refine rowWp_step rfl (fun K hK => ?_); go_simp; refine hK _ ?_; clear hK K))
    exact rowWp_nil rfl
  refine drawn_next 9 (fuel := 1) rfl (by kernel_rfl) ?_
  intro K hK
  go_wp2_with fail
  refine (drec_f (k := k) he hkb (HSP.out.fr0 (Fr.refl [] W1).drew) HPB.out (by omega)).mono ?_
  rintro en w6 ⟨q6, m6, c6, rfl, B6⟩
  have F6 : Fr [] W1 w6 := (Fr.refl [] W1).drew.trans B6.own.fr
  have hrl : 8 ≤ m6 := by rw [← B6.len]; simp [recB, recH_length]
  have hm6 : m6 = (8 + g + 63) / 64 * 64 := by rw [← B6.len, recB_length, HPL.out]
  have hcp6 := B6.sl.cap_
  have ht8 : (recB e k P).take 8 = recH e k P := by
    rw [recB, List.append_assoc, List.take_append_of_le_length (by rw [recH_length]; exact Nat.le_refl 8), List.take_of_length_le (by rw [recH_length]; exact Nat.le_refl 8)]
  obtain ⟨b6, o6, cs6, T6, fr6, rfl, fc6, h6, hx6⟩ := B6.sl.out (by omega)
  obtain ⟨Y8, hY8⟩ : ∃ Y8, Y8 = strB (recH e k P) := ⟨_, rfl⟩
  have hcv6 : ∀ W : World, W.blk b6 = some (.cells cs6 T6 fr6) → (convert 22 9 (.slice (some ⟨b6, o6, none⟩) 8 c6)).run Try.prog W = .ok (.string Y8) W := fun W hW => by
    rw [hY8, ← ht8]
    exact conv47 (sl_pre hW h6 hx6 B6.len hrl hcp6)
  have HCV6 := Lib.hid hcv6
  have HY8 := Lib.hid hY8
  have HF6 := Lib.hid F6
  have HM6 := Lib.hid hm6
  have HFC6 := Lib.hid fc6
  have f6 := F6.get f1 (by simp)
  have f6b := F6.get fb (by simp)
  clear B6 F6 ht8 h6 hx6 hY8 hcv6 f1 t1 fb tb hm6 fc6
  have t6 := World.at_lt f6
  go_wp2_with fail
  refine ⟨⟨f6, f6b⟩, ?_⟩
  refine drawn_end rfl (by kernel_rfl) ?_
  intro K hK
  clear f6 t6 f6b
  go_wp2_with fail
  refine (dchanges_f (HSP.out.fr0 HF6.out) HPB.out (by omega)).mono ?_
  intro en w7 hU
  have hstep : R = if recH e k P = rest.take 8 then (match rdPay P with
      | none => none
      | some l => if 64 < (allC L l).length then none else readR e (c - (i + 1)) (i + 1) (rest.drop ((8 + g + 63) / 64 * 64)) (allC L l)) else none := by
    rw [← HR.out, HK.out, show c - i = (c - (i + 1)) + 1 by omega, readR, if_neg HNE.out, ← HG.out, HLN.out, if_neg (by omega), ← HPE.out]
    split <;> (cases rdPay P <;> rfl)
  have HST := Lib.hid hstep
  clear hstep
  cases ho : rdPay P with
  | none =>
    rw [ho] at hU
    obtain ⟨rfl, F7⟩ := hU
    have HRN := Lib.hid (show R = none from HST.out.trans (by rw [ho]; split <;> rfl))
    have HF7 := Lib.hid (HF1.out.trans (HF6.out.trans F7))
    clear ho F7
    go_upto_region 44 with (fail)
    refine drawn_begin 10 (fun w' => w'.os = w'.os) (by kernel_rfl) ?_
    refine drawn_reads (fuel := 1) [0, 1, 2, 3, 4, 5, 6, 7, 8, 9] rfl (by kernel_rfl) rfl ?_
    repeat (first | (refine rowK_step2 rfl rfl (fun K hK => ?_); go_wp2) | (refine rowK_step rfl (fun K hK => ?_); go_simp; refine hK _ ?_; clear hK K))
    refine rowK_nil ⟨fun w' => ?_, ?_⟩
    · repeat (first | (refine rowWp_step2 rfl rfl (fun K hK => ?_); go_wp2) | (refine rowWp_step rfl (fun K hK => ?_); go_simp; refine hK _ ?_; clear hK K))
      exact rowWp_nil rfl
    refine drawn_end rfl (by kernel_rfl) ?_
    intro K hK
    go_wp2_with fail
    exact HRET.out _ _ HRN.out rfl rfl ((HF7.out.drew).mono (by simp))
  | some l =>
    rw [ho] at hU
    obtain ⟨q7, c7, w7', rfl, G7, F7⟩ := hU
    have HST2 := Lib.hid (HST.out.trans (by rw [ho]))
    have HOK := Lib.hid (rdPay_ok HPB.out ho)
    have hl64 := rdPay_len HPB.out ho
    have HA7 := Lib.hid (G7.away (av := t :: av) (fun b hb => Nat.lt_of_lt_of_le (HAV.out b hb) (HF1.out.trans (HF6.out.trans F7)).size))
    have HF7 := Lib.hid (HF6.out.trans (F7.trans G7.own.fr))
    have HF67 := Lib.hid (F7.trans G7.own.fr)
    obtain ⟨nl, hnl⟩ : ∃ nl, nl = l.length := ⟨_, rfl⟩
    rw [← hnl] at hl64 HA7 ⊢
    have fb7 := HF7.out.get HFB.out (by simp)
    have f67 := HF67.out.get HFC6.out (by simp)
    have hcv := HCV.out
    have hcv6 := HCV6.out
    have tb := World.at_lt fb7
    have t6 := World.at_lt f67
    have HNL := Lib.hid hnl
    clear ho G7 F7 hnl
    have k86 : (8 : Int) ≤ (c6 : Int) := by omega
    obtain ⟨y, hy⟩ : ∃ y : Bool, y = decide (recH e k P = rest.take 8) := ⟨_, rfl⟩
    have hbR : isBytes (recH e k P) := Byt.append (byt_putB _ _) (byt_putB _ _)
    have hbe : (Y8.toList == X8.toList) = y := by
      rw [HY8.out, HX8.out, beq_str hbR (fun x hx => HB.out x (List.mem_of_mem_take hx)), hy]
    have HYY := Lib.hid hy
    clear hy hbR
    go_upto_region 44 with (fail)
    refine drawn_begin 10 (fun w' => w'.blk bb = some (.cells cs TT fr) ∧ w'.blk b6 = some (.cells cs6 T6 fr6)) (by kernel_rfl) ?_
    refine drawn_reads (fuel := 1) [0, 1, 2, 3, 4, 5, 6, 7, 8, 9] rfl (by kernel_rfl) ⟨fb7, f67⟩ ?_
    repeat (first | (refine rowK_step2 rfl rfl (fun K hK => ?_); go_wp2) | (refine rowK_step rfl (fun K hK => ?_); go_simp; refine hK _ ?_; clear hK K))
    refine rowK_nil ⟨fun w' e1 => ?_, ?_⟩
    · obtain ⟨e1, e2⟩ := e1
      clear fb7 f67 tb t6 hcv hcv6
      have hcv := HCV.out w' e1
      have hcv6 := HCV6.out w' e2
      have tb := World.at_lt e1
      have t6 := World.at_lt e2
      repeat (first | (refine rowWp_step2 rfl rfl (fun K hK => ?_); go_wp2) | (refine rowWp_step rfl (fun K hK => ?_); go_simp; refine hK _ ?_; clear hK K))
      exact rowWp_nil rfl
    refine drawn_end rfl (by kernel_rfl) ?_
    intro K hK
    clear hbe hcv hcv6 fb7 f67 tb t6
    cases y with
    | false =>
      have HRN := Lib.hid (HST2.out.trans (if_neg (of_decide_eq_false HYY.out.symm)))
      go_wp2_with fail
      exact HRET.out _ _ HRN.out rfl rfl ((HF1.out.trans HF7.out).drew.mono (by simp))
    | true =>
      have HRN := Lib.hid (HST2.out.trans (if_pos (of_decide_eq_true HYY.out.symm)))
      have f17 := HF7.out.drew.get HF1'.out (by simp)
      have t17 := World.at_lt f17
      go_wp2_with fail
      have hCL : (asC L).length = n := HC.out.chs.len
      have hLL : L.length = n := by rw [← hCL, asC, List.length_map]
      have hFW : Fr [] W w7.drew := (HF1.out.trans HF7.out).drew
      have HFW := Lib.hid hFW
      refine (dall_f (av := t :: av) (fun b hb => Nat.lt_of_lt_of_le (HAV.out b hb) hFW.size) (HC.out.fr0 hFW) (fun x hx => (HE.out x hx).nb) HSO.out (by omega) (HA7.out.fr0 (Fr.refl [] w7).drew) (fun c hc => (HOK.out c hc).nb) (by omega)).mono ?_
      rintro en w8 ⟨q8, k8, c8, rfl, C8, F8⟩
      have hk8 : (asC (allC L l)).length = k8 := C8.chs.len
      rw [asC, List.length_map] at hk8
      have HK8 := Lib.hid hk8
      have HC8 := Lib.hid C8
      have HFW8 := Lib.hid (hFW.trans F8)
      have f18 := F8.get f17 (by simp)
      have HF18 := Lib.hid f18
      have hk8b : k8 ≤ 10000 := by
        have := allC_le l L
        have := HNL.out
        omega
      have HSET := Lib.hid (show SC.setIfInBounds 5 (.slice q8 k8 c8) = dsC r half e c f q8 k8 c8 false from by rw [HSC.out]; rfl)
      clear C8 F8 hk8 f17 t17 hCL hLL hFW
      have t18 := World.at_lt f18
      obtain ⟨nb, hnb⟩ : ∃ nb, nb = (8 + g + 63) / 64 := ⟨_, rfl⟩
      have hq6 : (m6 : Int).tdiv 64 = (nb : Int) := by
        have := HM6.out
        rw [Int.tdiv_eq_ediv_of_nonneg (by omega)]
        omega
      have hnbb : nb ≤ 100000 := by omega
      have HNB := Lib.hid hnb
      clear hnb
      by_cases h64 : 64 < k8
      · have d64 : decide ((64 : Int) < (k8 : Int)) = true := by rw [decide_eq_true_eq]; omega
        have HRN2 := Lib.hid (HRN.out.trans (if_pos (by rw [HK8.out]; exact h64)))
        go_wp2_with fail
        exact HRET.out _ _ HRN2.out rfl rfl ((HFW8.out.mono (by simp)).put t _ (fun _ => by simp))
      have d64 : decide ((64 : Int) < (k8 : Int)) = false := by rw [decide_eq_false_iff_not]; omega
      have HRN2 := Lib.hid (HRN.out.trans (if_neg (by rw [HK8.out]; exact h64)))
      go_wp2_with fail
      rw [HSET.out]
      refine HNEXT.out _ _ g (allC L l) q8 k8 c8 rfl rfl rfl rfl rfl (congrArg (Value.int .i64) (cast_add HNB.out)) (by omega) (World.at_put_same _ _ _ t18) ?_ (sorted_allC HSO.out) (ent_allC HE.out HOK.out) (by rw [HK8.out]; omega) HRN2.out.symm ((HFW8.out.mono (by simp)).put t _ (fun _ => by simp))
      exact HC8.out.fr ((Fr.refl (t :: av) w8).put t _ (fun _ => by simp)) (fun k hk => .inl hk)
end
end Go.Proofs.Ytombhkekocbfoaa
namespace Go.Proofs.Ytombhkekocbfoaa
open Go.RowKit Go.Dr Go.Kd Go.St
/-- Between two records, as the document's Open has it. -/
structure DRd (w : World) (r t half e c f h : Nat) (m : DM) (av : List Nat) (R : Option (List (Bs × Bs))) (i a : Nat) (tm : Array Value) (W : World) : Prop where
  sz : tm.size = 267
  s0 : tm.getD 0 undef = .pointer (some ⟨r, 0, none⟩)
  s4 : tm.getD 4 undef = .int .i64 (h : Int)
  s17 : tm.getD 17 undef = .pointer (some ⟨t, 0, none⟩)
  s18 : tm.getD 18 undef = .int .i64 (a : Int)
  s19 : tm.getD 19 undef = .int .i64 ((i + 1 : Nat) : Int)
  ic : i ≤ c
  a1 : 1 ≤ a
  af : a ≤ f
  ex : ∃ L q n d, W.blk t = some (.cells (dsC r half e c f q n d false) 56 (0, 0)) ∧ ChsA W (t :: av) q n d (asC L) ∧ Sorted L ∧ (∀ x ∈ L, EntOk x) ∧ L.length ≤ 64 ∧ readR e (c - i) i ((recsM m half f).drop (64 * (a - 1))) L = R
  fr : Fr [t] w W
section
variable {w : World}
set_option maxRecDepth 100000 in
set_option maxHeartbeats 8000000 in
theorem dRnd_f {Q : Exit → Act → World → Prop} {tm : Array Value} {W : World} {r t half e c f h i a : Nat} {m : DM} {fp av : List Nat} {R : Option (List (Bs × Bs))} (I : DRd w r t half e c f h m av R i a tm W)
    (D : RefAt w r m fp) (htf : t ∉ fp) (hav : ∀ b ∈ t :: av, b < w.heap.size) (hh : h = m.n / 2) (hN1 : m.n ≤ 1024) (hmb : isBytes m.seen) (hsk : m.seen = layW m.kept m.waits) (hwl : m.waits.length ≤ 1000000) (hdd : m.dead = false)
    (hhalf : half ≤ 1) (hfh : f ≤ h) (hc : c < 4294967296) (he : e < 18446744073709551616)
    (hret : ∀ tm' W', R = none → tm'.getD 2 undef = .pointer none → tm'.getD 3 undef = .int .i64 160 → Fr [t] w W' → Q .ret ⟨tm', []⟩ W')
    (hnext : ∀ tm' W' a', DRd w r t half e c f h m av R (i + 1) a' tm' W' → Q .normal ⟨tm', []⟩ W')
    (hout : ∀ tm' W', i = c → DRd w r t half e c f h m av R i a tm' W' → Q (.exit 0) ⟨tm', []⟩ W') :
    dRnd.wp Try.prog Q ⟨tm, []⟩ W := by
  obtain ⟨sz, s0, s4, s17, s18, s19, ic, a1, af, ⟨L, q, n, d, ft, C, hS, hE, hL, hR⟩, F0⟩ := I
  obtain ⟨u, rfl⟩ := frm_of sz
  have e0 : u 0 = _ := s0
  have e4 : u 4 = _ := s4
  have e17 : u 17 = _ := s17
  have e18 : u 18 = _ := s18
  have e19 : u 19 = _ := s19
  obtain ⟨k, hk⟩ : ∃ k, k = i + 1 := ⟨_, rfl⟩
  rw [← hk] at e19
  have HRET := Lib.hid hret
  have HNEXT := Lib.hid hnext
  have HOUT := Lib.hid hout
  have HD := Lib.hid D
  have HC := Lib.hid C
  have HFT := Lib.hid ft
  have HSO := Lib.hid hS
  have HE := Lib.hid hE
  have HAV := Lib.hid hav
  have HR := Lib.hid hR
  have HF0 := Lib.hid F0
  have HMB := Lib.hid hmb
  have HSK := Lib.hid hsk
  have HDD := Lib.hid hdd
  have HTF := Lib.hid htf
  have HK := Lib.hid hk
  have HH := Lib.hid hh
  have HSL := Lib.hid D.ok.sl
  have hh2 : h ≤ 512 := by omega
  obtain ⟨P, hP⟩ : ∃ P, P = half * h := ⟨_, rfl⟩
  have hmul : (half : Int) * (h : Int) = (P : Int) := by subst hP; push_cast; rfl
  have hPb : P ≤ h := by
    rcases Nat.le_one_iff_eq_zero_or_eq_one.1 hhalf with h | h <;> subst h <;> omega
  have HMUL := Lib.hid hmul
  have HP := Lib.hid hP
  clear hP hmul
  obtain ⟨N, hN⟩ : ∃ N, N = m.n := ⟨_, rfl⟩
  have hN2 : 2 * h ≤ N := by omega
  have HN := Lib.hid hN
  have hki : k = i + 1 := hk
  have hkc : k ≤ c + 1 := by omega
  clear hret hnext hout D C hS hE hav hR F0 hmb hsk hdd htf hk hh hN s0 s4 s17 s18 s19 sz
  conv => arg 2; whnf
  unfold frm22
  rw [e0, e4, e17, e18, e19]
  clear e0 e4 e17 e18 e19
  obtain ⟨SC, hSC⟩ : ∃ SC, SC = dsC r half e c f q n d false := ⟨_, rfl⟩
  rw [← hSC] at ft
  have szC : SC.size = 7 := by rw [hSC]; rfl
  obtain ⟨x1', x1⟩ := Array.getElem?_eq_some_iff.1 (show SC[1]? = some (.int .i64 half) by rw [hSC]; rfl)
  obtain ⟨x3', x3⟩ := Array.getElem?_eq_some_iff.1 (show SC[3]? = some (.int .i64 c) by rw [hSC]; rfl)
  obtain ⟨x4', x4⟩ := Array.getElem?_eq_some_iff.1 (show SC[4]? = some (.int .i64 f) by rw [hSC]; rfl)
  have tt := World.at_lt ft
  have HSC := Lib.hid hSC
  clear hSC hkc
  by_cases hlt : i < c
  · have hkc1 : k ≤ c := by omega
    have hd : decide ((k : Int) ≤ (c : Int)) = true := by rw [decide_eq_true_eq]; omega
    clear hki
    by_cases haf : f ≤ a
    · have hd2 : decide ((f : Int) ≤ (a : Int)) = true := by rw [decide_eq_true_eq]; omega
      have HRN := Lib.hid (show R = none by
        rw [← HR.out, show a = f by omega, show c - i = (c - i - 1) + 1 by omega, readR, if_pos]
        exact List.drop_of_length_le (by rw [recsM, List.length_take]; omega))
      go_wp2_with fail
      exact HRET.out _ _ HRN.out rfl rfl HF0.out
    have hd2 : decide ((f : Int) ≤ (a : Int)) = false := by rw [decide_eq_false_iff_not]; omega
    go_upto_region 34 with (fail)
    rename_i K3 h3 K39 h39 Kb hb2
    have H3 := Lib.hid h3
    have H39 := Lib.hid h39
    clear h3 h39
    obtain ⟨ACC, hACC⟩ : ∃ ACC : Nat → Bs, ACC = fun j => (m.seen.drop ((P + a) * 64)).take ((j - a) * 64) := ⟨_, rfl⟩
    have HAC := Lib.hid hACC
    have HDW := Lib.hid (HD.out.frame HF0.out (fun k hk hm => by
      rw [List.mem_singleton] at hm
      subst hm
      exact HTF.out hk))
    clear hACC
    go_wp2_with fail
    go_loopw [20, 21] (fun v jv wy => ∃ (j : Nat) (q2 : Option Addr) (cp : Nat), a ≤ j ∧ j ≤ f ∧ v = .slice q2 ((j - a) * 64) cp ∧ jv = .int .i64 (j : Int) ∧ Hid (Bld W [] .u8 5 wy q2 ((j - a) * 64) cp (ACC j))) (fun _ jv _ => (f - intOf jv).toNat)
    case atStart => exact ⟨a, none, 0, Nat.le_refl _, af, by rw [Nat.sub_self], rfl, Lib.hid (by rw [HAC.out]; simp only [Nat.sub_self, Nat.zero_mul, List.take_zero]; exact Bld.nil (OwB.start W))⟩
    case round =>
      obtain ⟨j, q2, cp, haj, hjf, rfl, rfl, hW⟩ := hrel
      have f1 := hW.out.own.fr.get ft (by simp)
      have t1 := World.at_lt f1
      by_cases hlj : j < f
      · have hd3 : decide ((j : Int) < (f : Int)) = true := by rw [decide_eq_true_eq]; omega
        have hmul := HMUL.out
        go_wp2_with fail
        clear hmul
        refine (rread_any (HDW.out.fr0 hW.out.own.fr) ((P : Int) + (j : Int)) HSK.out hwl).mono ?_
        rintro en w2 ⟨v, rfl, hv, F2⟩
        have hpi : (P : Int) + (j : Int) = ((P + j : Nat) : Int) := by omega
        have hnn := HN.out
        have hrd : readM m ((P + j : Nat) : Int) = (0, blockOf m.seen (P + j)) := by
          unfold readM
          rw [show noBlock m ((P + j : Nat) : Int) = false by simp [noBlock]; omega, HDD.out]
          rfl
        rw [hpi, hrd] at hv ⊢
        have hbk : (blockOf m.seen (P + j)).length = 64 := by
          have := HSL.out
          simp [blockOf]; omega
        have hvs : ∃ q3 c3, v = .slice q3 64 c3 ∧ Sl .u8 w2 q3 64 c3 (blockOf m.seen (P + j)) := by
          rcases hv with ⟨_, h⟩ | ⟨bb, B, _⟩
          · have h2 : blockOf m.seen (P + j) = [] := h
            rw [h2] at hbk
            cases hbk
          · obtain ⟨q2, c2, h1, h2⟩ := B.sl
            have h3 : (blockOf m.seen (P + j)).length = 64 := hbk
            rw [show ((0 : Int), blockOf m.seen (P + j)).2 = blockOf m.seen (P + j) from rfl, h3] at h1 h2
            exact ⟨q2, c2, h1, h2⟩
        obtain ⟨q3, c3, rfl, S3⟩ := hvs
        have hacc : ACC (j + 1) = ACC j ++ blockOf m.seen (P + j) := by
          rw [HAC.out]
          have h := seg_step (l := m.seen) (a := P + a) (i := j - a) (by have := HSL.out; omega)
          rw [show P + a + (j - a) = P + j by omega, show j - a + 1 = j + 1 - a by omega] at h
          exact h
        have HACJ := Lib.hid hacc
        have HS3 := Lib.hid S3
        have HW2 := Lib.hid (hW.out.call F2)
        have hjb : (j - a) * 64 ≤ 70000 := by omega
        clear hpi hrd hv hbk hacc S3 hW F2 f1 t1 hnn
        go_wp2_with (refine wpList_app47 rfl _ _ rfl rfl HW2.out rfl HS3.out (by omega) ?_)
        intro q5 c5 W5 B5
        have HB5 := Lib.hid B5
        clear B5 HW2 HS3
        go_wp2_with fail
        have ez : (j - a) * 64 + 64 = (j + 1 - a) * 64 := by omega
        go_roundw
        case rel => exact ⟨j + 1, q5, c5, by omega, hlj, by rw [ez], by first | rfl | simp, Lib.hid (by rw [HACJ.out, ← ez]; exact HB5.out)⟩
        case measure => simp [intOf]; omega
      · obtain rfl : j = f := by omega
        have hd3 : decide ((j : Int) < (j : Int)) = false := by simp
        go_wp2_with fail
        refine H39.out _ _ ?_
        have hrest : (recsM m half j).drop (64 * (a - 1)) = ACC j := by
          rw [HAC.out, recsM, ← HH.out, ← HP.out, List.drop_take, List.drop_drop]
          congr 2 <;> omega
        obtain ⟨n2, hn2⟩ : ∃ n2, n2 = (j - a) * 64 := ⟨_, rfl⟩
        have hb := hW.out
        rw [← hn2] at hb ⊢
        have HHB := Lib.hid hb
        have hbl : ∀ g, q2.map (·.block) = some g → g ≠ t := fun g hg e => by
          have h1 := (HHB.out.new g hg).1
          have h2 := World.at_lt HFT.out
          omega
        have hfr := HHB.out.own.fr
        refine Eq.mp (congrArg (fun c => Code.wp Try.prog c _ _ _) (show behind 3 dB1 = _ from by kernel_rfl)) (dOne_f (r := r) (t := t) (half := half) (e := e) (c := c) (f := j) (i := i) (a := a) (n := n) (n2 := n2) (d := d) (cp := cp) (q := q) (q2 := q2) (L := L) (rest := ACC j) (R := R) (av := av) rfl rfl rfl HK.out rfl rfl HHB.out.sl ?_ (by omega) (by omega) (by omega) hbl (hfr.get HFT.out (by simp)) (HC.out.fr0 hfr) HSO.out HE.out hL (fun b hb => Nat.lt_of_lt_of_le (HAV.out b hb) (Nat.le_trans HF0.out.size hfr.size)) (by rw [← hrest]; exact HR.out) hlt hc he ?_ ?_)
        · intro x hx
          rw [HAC.out] at hx
          exact HMB.out x (List.mem_of_mem_drop (List.mem_of_mem_take hx))
        · intro tm' W' hRN h2 h3 F
          exact HRET.out tm' W' hRN h2 h3 ((HF0.out.seq hfr (by simp)).seq F (fun k hk _ => hk))
        · intro tm' W' g L' q' n' d' z0 z1 z2 z3 z4 z5 hg ft' C' hS' hE' hL' hR' F'
          obtain ⟨v, rfl⟩ := frm_of z0
          have e0 : v 0 = .pointer (some ⟨r, 0, none⟩) := z1
          have e4 : v 4 = .int .i64 (h : Int) := z2
          have e17 : v 17 = .pointer (some ⟨t, 0, none⟩) := z3
          have e19 : v 19 = .int .i64 (k : Int) := z4
          have e18 : v 18 = .int .i64 ((a + (8 + g + 63) / 64 : Nat) : Int) := z5
          obtain ⟨a', ha'⟩ : ∃ a', a' = a + (8 + g + 63) / 64 := ⟨_, rfl⟩
          have hrest2 : (ACC j).drop ((8 + g + 63) / 64 * 64) = (recsM m half j).drop (64 * (a' - 1)) := by
            rw [← hrest, List.drop_drop]
            congr 1
            omega
          rw [hrest2] at hR'
          rw [← ha'] at e18
          have HRR := Lib.hid hR'
          have HA' := Lib.hid (show 1 ≤ a' ∧ a' ≤ j by omega)
          have HF' := Lib.hid ((HF0.out.seq hfr (by simp)).seq F' (fun k hk _ => hk))
          have HI := Lib.hid (show ∃ L q n d, W'.blk t = some (.cells (dsC r half e c j q n d false) 56 (0, 0)) ∧ ChsA W' (t :: av) q n d (asC L) ∧ Sorted L ∧ (∀ x ∈ L, EntOk x) ∧ L.length ≤ 64 ∧ readR e (c - (i + 1)) (i + 1) ((recsM m half j).drop (64 * (a' - 1))) L = R from ⟨L', q', n', d', ft', C', hS', hE', hL', HRR.out⟩)
          refine H3.out _ _ ?_
          clear hrest hn2 hb hbl hfr z0 z1 z2 z3 z4 z5 ft' C' hS' hE' hL' hR' F' ha' hrest2
          unfold frm22
          rw [e0, e4, e17, e18, e19]
          clear e0 e4 e17 e18 e19
          go_wp2_with fail
          refine HNEXT.out _ _ a' ⟨rfl, rfl, rfl, rfl, rfl, ?_, hlt, HA'.out.1, HA'.out.2, HI.out, HF'.out⟩
          have := HK.out
          subst this
          exact congrArg (Value.int .i64) (by push_cast; rfl)
  · have hkc1 : ¬ k ≤ c := by omega
    have hd : decide ((k : Int) ≤ (c : Int)) = false := by rw [decide_eq_false_iff_not]; omega
    have HIC := Lib.hid (show i = c by omega)
    clear hki
    go_wp2_with fail
    refine HOUT.out _ _ HIC.out ⟨rfl, rfl, rfl, rfl, rfl, ?_, ic, a1, af, ⟨L, q, n, d, HFT.out, HC.out, HSO.out, HE.out, hL, HR.out⟩, HF0.out⟩
    exact congrArg (fun x : Nat => Value.int .i64 (x : Int)) HK.out
end
end Go.Proofs.Ytombhkekocbfoaa
namespace Go.Proofs.Ytombhkekocbfoaa
open Go.RowKit Go.Dr Go.Kd Go.St
section
variable {w : World}
set_option maxRecDepth 100000 in
set_option maxHeartbeats 8000000 in
theorem d27_f {Q : Exit → Act → World → Prop} {tm : Array Value} {W : World} {r t half e c f h : Nat} {m : DM} {fp av : List Nat} {R : Option (List (Bs × Bs))}
    (sz : tm.size = 267) (s0 : tm.getD 0 undef = .pointer (some ⟨r, 0, none⟩)) (s4 : tm.getD 4 undef = .int .i64 (h : Int)) (s17 : tm.getD 17 undef = .pointer (some ⟨t, 0, none⟩))
    (ft : W.blk t = some (.cells (dsC r half e c f none 0 0 false) 56 (0, 0))) (hR : readR e c 0 (recsM m half f) [] = R)
    (D : RefAt W r m fp) (htf : t ∉ fp) (hav : ∀ b ∈ t :: av, b < W.heap.size) (hh : h = m.n / 2) (hN1 : m.n ≤ 1024) (hmb : isBytes m.seen) (hsk : m.seen = layW m.kept m.waits) (hwl : m.waits.length ≤ 1000000) (hdd : m.dead = false)
    (hhalf : half ≤ 1) (hf1 : 1 ≤ f) (hfh : f ≤ h) (hc : c < 4294967296) (he : e < 18446744073709551616)
    (hret : ∀ tm' W', R = none → tm'.getD 2 undef = .pointer none → tm'.getD 3 undef = .int .i64 160 → Fr [t] W W' → Q .ret ⟨tm', []⟩ W')
    (hok : ∀ tm' W' L q n d, R = some L → tm'.getD 2 undef = .pointer (some ⟨t, 0, none⟩) → tm'.getD 3 undef = .int .i64 0 → W'.blk t = some (.cells (dsC r half e c f q n d false) 56 (0, 0)) → ChsA W' (t :: av) q n d (asC L) → Fr [t] W W' → Q .ret ⟨tm', []⟩ W') :
    d27.wp Try.prog Q ⟨tm, []⟩ W := by
  obtain ⟨u, rfl⟩ := frm_of sz
  have e0 : u 0 = _ := s0
  have e4 : u 4 = _ := s4
  have e17 : u 17 = _ := s17
  have HRET := Lib.hid hret
  have HOK := Lib.hid hok
  have HD := Lib.hid D
  have HFT := Lib.hid ft
  have HAV := Lib.hid hav
  have HR := Lib.hid hR
  have HMB := Lib.hid hmb
  have HSK := Lib.hid hsk
  have HDD := Lib.hid hdd
  have HTF := Lib.hid htf
  have HH := Lib.hid hh
  have HSL := Lib.hid D.ok.sl
  have hh2 : h ≤ 512 := by omega
  clear hret hok D hav hR hmb hsk hdd htf hh s0 s4 s17 sz ft
  conv => arg 2; whnf
  unfold frm22
  rw [e0, e4, e17]
  clear e0 e4 e17
  go_wp2_with fail
  rename_i K50 h50
  have H50 := Lib.hid h50
  have HLW := Lib.hid (show ∀ b ∈ t :: av, b < W.heap.size from HAV.out)
  clear h50
  refine wp_loop (fun A W' => A.defers = [] ∧ ∃ i a, DRd W r t half e c f h m av R i a A.tmps W') (fun A _ => (c + 1 - intOf (A.tmps.getD 19 undef)).toNat)
    ⟨rfl, 0, 1, rfl, rfl, rfl, rfl, rfl, rfl, Nat.zero_le _, Nat.le_refl _, hf1, ⟨[], none, 0, 0, HFT.out, ⟨[], ⟨rfl, Nat.le_refl _, .inl rfl, fun _ => rfl, by simp⟩, .nil, (fun u hu => by cases hu), fun h => absurd h (by omega)⟩, List.Pairwise.nil, (fun x hx => by cases hx), Nat.zero_le _, HR.out⟩, Fr.refl _ _⟩ ?_
  rintro ⟨tm', df⟩ W' ⟨hdf, i, a, I⟩
  have hdf : df = [] := hdf
  subst hdf
  refine Eq.mp (congrArg (fun c => Code.wp Try.prog c _ _ _) (show dRnd = _ from by kernel_rfl)) (dRnd_f I HD.out HTF.out HAV.out HH.out hN1 HMB.out HSK.out hwl HDD.out hhalf hfh hc he ?_ ?_ ?_)
  · intro tm2 W2 h1 h2 h3 F
    exact HRET.out tm2 W2 h1 h2 h3 F
  · intro tm2 W2 a' I2
    refine ⟨⟨rfl, i + 1, a', I2⟩, ?_⟩
    have h1 := I2.ic
    show (c + 1 - intOf (tm2.getD 19 undef)).toNat < (c + 1 - intOf (tm'.getD 19 undef)).toNat
    rw [I2.s19, I.s19]
    simp only [intOf]
    omega
  · intro tm2 W2 hic I2
    obtain ⟨v, rfl⟩ := frm_of I2.sz
    have e0 : v 0 = _ := I2.s0
    have e4 : v 4 = _ := I2.s4
    have e17 : v 17 = _ := I2.s17
    have e18 : v 18 = _ := I2.s18
    obtain ⟨L, q, n, d, ft, C, hS, hE, hL, hR⟩ := I2.ex
    have af := I2.af
    have a1 := I2.a1
    have HF2 := Lib.hid I2.fr
    have HFT2 := Lib.hid ft
    have HC2 := Lib.hid C
    have HR2 := Lib.hid (show readR e 0 c ((recsM m half f).drop (64 * (a - 1))) L = R by rw [hic, Nat.sub_self] at hR; exact hR)
    have hlen : (recsM m half f).length = (f - 1) * 64 := by
      have := HSL.out
      have := HH.out
      rw [recsM, List.length_take, List.length_drop]
      rcases Nat.le_one_iff_eq_zero_or_eq_one.1 hhalf with h | h <;> subst h <;> omega
    have HLEN := Lib.hid hlen
    refine H50.out _ _ ?_
    clear I I2 hS hE hL hR C hlen
    unfold frm22
    rw [e0, e4, e17, e18]
    clear e0 e4 e17 e18
    obtain ⟨SC, hSC⟩ : ∃ SC, SC = dsC r half e c f q n d false := ⟨_, rfl⟩
    rw [← hSC] at ft
    have szC : SC.size = 7 := by rw [hSC]; rfl
    obtain ⟨x4', x4⟩ := Array.getElem?_eq_some_iff.1 (show SC[4]? = some (.int .i64 f) by rw [hSC]; rfl)
    have tt := World.at_lt ft
    clear hSC
    by_cases haf : a = f
    · have HRL := Lib.hid (show R = some L by
        rw [← HR2.out, readR, if_pos]
        exact List.drop_of_length_le (by rw [HLEN.out, haf]; omega))
      have d0 : ((a : Int) == (f : Int)) = true := by rw [haf]; exact beq_self_eq_true _
      clear haf
      go_wp2_with fail
      exact HOK.out _ _ L q n d HRL.out rfl rfl HFT2.out HC2.out HF2.out
    · have HRL := Lib.hid (show R = none by
        rw [← HR2.out, readR, if_neg]
        intro h
        have := congrArg List.length h
        rw [List.length_drop, HLEN.out] at this
        simp at this
        omega)
      have d0 : ((a : Int) == (f : Int)) = false := by rw [beq_eq_false_iff_ne]; omega
      go_wp2_with fail
      exact HRET.out _ _ HRL.out rfl rfl HF2.out
end
end Go.Proofs.Ytombhkekocbfoaa
namespace Go.Proofs.Ytombhkekocbfoaa
open Go.RowKit Go.Dr Go.Kd Go.St
theorem readH_none {m : DM} {half : Nat} {x : Nat × Nat × Nat} (h : readR x.1 x.2.1 0 (recsM m half x.2.2) [] = none) : readH m half x = (160, none, m) := by rw [readH, h]
theorem readH_some {m : DM} {half : Nat} {x : Nat × Nat × Nat} {L : List (Bs × Bs)} (h : readR x.1 x.2.1 0 (recsM m half x.2.2) [] = some L) : readH m half x = (0, some ⟨half, x.1, x.2.1, x.2.2, L, false⟩, m) := by rw [readH, h]
/-- What stands behind Open's choice. -/
structure DEnd (r t : Nat) (m : DM) (av : List Nat) (W : World) (Q : Exit → Act → World → Prop) : Prop where
  no : ∀ tm' W', openM m = (160, none, m) → tm'.getD 2 undef = .pointer none → tm'.getD 3 undef = .int .i64 160 → Fr [t] W W' → Q .ret ⟨tm', []⟩ W'
  ok : ∀ tm' W' sp q n d, openM m = (0, some sp, m) → tm'.getD 2 undef = .pointer (some ⟨t, 0, none⟩) → tm'.getD 3 undef = .int .i64 0 → W'.blk t = some (.cells (dsC r sp.half sp.epoch sp.count sp.fin q n d sp.broken) 56 (0, 0)) → ChsA W' (t :: av) q n d (asC sp.L) → Fr [t] W W' → Q .ret ⟨tm', []⟩ W'
structure DIn (r t h : Nat) (m : DM) (fp av : List Nat) (W : World) : Prop where
  d : RefAt W r m fp
  tf : t ∉ fp
  av_ : ∀ b ∈ t :: av, b < W.heap.size
  hh : h = m.n / 2
  n1 : m.n ≤ 1024
  mb : isBytes m.seen
  sk : m.seen = layW m.kept m.waits
  wl : m.waits.length ≤ 1000000
  dd : m.dead = false
section
variable {w : World}
theorem DIn.put {r t h : Nat} {m : DM} {fp av : List Nat} {W : World} (I : DIn r t h m fp av W) (o : Obj) (ht : t < W.heap.size) : DIn r t h m fp av (W.put t o) :=
  ⟨I.d.frame ((Fr.refl [t] W).put t o (fun _ => by simp)) (fun k hk hm => by rw [List.mem_singleton] at hm; subst hm; exact I.tf hk), I.tf, fun b hb => Nat.lt_of_lt_of_le (I.av_ b hb) ((Fr.refl [t] W).put t o (fun _ => by simp)).size, I.hh, I.n1, I.mb, I.sk, I.wl, I.dd⟩
theorem DEnd.put {r t : Nat} {m : DM} {av : List Nat} {W : World} {Q : Exit → Act → World → Prop} (E : DEnd r t m av W Q) (o : Obj) : DEnd r t m av (W.put t o) Q :=
  have F : Fr [t] W (W.put t o) := (Fr.refl [t] W).put t o (fun _ => by simp)
  ⟨fun tm' W' h1 h2 h3 F2 => E.no tm' W' h1 h2 h3 (F.seq F2 fun k hk _ => hk), fun tm' W' sp q n d h1 h2 h3 h4 h5 F2 => E.ok tm' W' sp q n d h1 h2 h3 h4 h5 (F.seq F2 fun k hk _ => hk)⟩
theorem d27_g {Q : Exit → Act → World → Prop} {tm : Array Value} {W : World} {r t half e c f h b : Nat} {m : DM} {fp av : List Nat}
    (sz : tm.size = 267) (s0 : tm.getD 0 undef = .pointer (some ⟨r, 0, none⟩)) (s4 : tm.getD 4 undef = .int .i64 (h : Int)) (s17 : tm.getD 17 undef = .pointer (some ⟨t, 0, none⟩))
    (ft : W.blk t = some (.cells (dsC r half e c f none 0 0 false) 56 (0, 0))) (ho : openM m = readH m half (e, c, f)) (hl : lookH (blockOf m.seen b) h = some (some (e, c, f))) (hb : b < m.n)
    (I : DIn r t h m fp av W) (hhalf : half ≤ 1) (E : DEnd r t m av W Q) : d27.wp Try.prog Q ⟨tm, []⟩ W := by
  have hbyt : isBytes (blockOf m.seen b) := fun x hx => I.mb x (by
    unfold blockOf at hx
    exact List.mem_of_mem_take (List.mem_of_mem_drop hx))
  have hlen : (blockOf m.seen b).length = 64 := by
    have := I.d.ok.sl
    simp [blockOf]; omega
  obtain ⟨k1, k2, k3, k4⟩ := look_ok hbyt hlen hl
  refine d27_f (R := readR e c 0 (recsM m half f) []) sz s0 s4 s17 ft rfl I.d I.tf I.av_ I.hh I.n1 I.mb I.sk I.wl I.dd hhalf k3 k4 k2 k1 (fun tm' W' hR h2 h3 F => ?_) (fun tm' W' L q n d hR h2 h3 h4 h5 F => ?_)
  · exact E.no tm' W' (ho.trans (readH_none hR)) h2 h3 F
  · exact E.ok tm' W' _ q n d (ho.trans (readH_some hR)) h2 h3 h4 h5 F
theorem openM_two {m : DM} {h : Nat} (hn : ¬ m.n < 4) (hd : m.dead = false) (hh : h = m.n / 2) {x y : Nat × Nat × Nat} (h0 : lookH (blockOf m.seen 0) h = some (some x)) (h1 : lookH (blockOf m.seen h) h = some (some y)) : openM m = if x.1 = y.1 then (160, none, m) else if x.1 < y.1 then readH m 1 y else readH m 0 x := by
  rw [openM, if_neg hn, hd, ← hh, h0, h1]; rfl
theorem openM_fst {m : DM} {h : Nat} (hn : ¬ m.n < 4) (hd : m.dead = false) (hh : h = m.n / 2) {x : Nat × Nat × Nat} (h0 : lookH (blockOf m.seen 0) h = some (some x)) (h1 : lookH (blockOf m.seen h) h = some none) : openM m = readH m 0 x := by
  rw [openM, if_neg hn, hd, ← hh, h0, h1]; rfl
theorem openM_snd {m : DM} {h : Nat} (hn : ¬ m.n < 4) (hd : m.dead = false) (hh : h = m.n / 2) {y : Nat × Nat × Nat} (h0 : lookH (blockOf m.seen 0) h = some none) (h1 : lookH (blockOf m.seen h) h = some (some y)) : openM m = readH m 1 y := by
  rw [openM, if_neg hn, hd, ← hh, h0, h1]; rfl
set_option maxRecDepth 100000 in
set_option maxHeartbeats 8000000 in
theorem d17_f {Q : Exit → Act → World → Prop} {tm : Array Value} {W : World} {r t h e0 c0 n0 e1 c1 n1 : Nat} {k0 k1 : Int} {m : DM} {fp av : List Nat}
    (sz : tm.size = 267) (s0 : tm.getD 0 undef = .pointer (some ⟨r, 0, none⟩)) (s4 : tm.getD 4 undef = .int .i64 (h : Int)) (s9 : tm.getD 9 undef = .int .u64 (e0 : Int)) (s10 : tm.getD 10 undef = .int .i64 (c0 : Int)) (s11 : tm.getD 11 undef = .int .i64 (n0 : Int)) (s12 : tm.getD 12 undef = .int .i64 k0)
    (s13 : tm.getD 13 undef = .int .u64 (e1 : Int)) (s14 : tm.getD 14 undef = .int .i64 (c1 : Int)) (s15 : tm.getD 15 undef = .int .i64 (n1 : Int)) (s16 : tm.getD 16 undef = .int .i64 k1) (s17 : tm.getD 17 undef = .pointer (some ⟨t, 0, none⟩))
    (ft : W.blk t = some (.cells (dsC r 0 1 0 1 none 0 0 false) 56 (0, 0))) (hn4 : ¬ m.n < 4)
    (hz0 : (lookH (blockOf m.seen 0) h = some none ∧ k0 = 0) ∨ (lookH (blockOf m.seen 0) h = some (some (e0, c0, n0)) ∧ k0 = 1))
    (hz1 : (lookH (blockOf m.seen h) h = some none ∧ k1 = 0) ∨ (lookH (blockOf m.seen h) h = some (some (e1, c1, n1)) ∧ k1 = 1)) (hne : ¬ (k0 = 0 ∧ k1 = 0))
    (I : DIn r t h m fp av W) (E : DEnd r t m av W Q) : d17.wp Try.prog Q ⟨tm, []⟩ W := by
  obtain ⟨u, rfl⟩ := frm_of sz
  have a0 : u 0 = _ := s0
  have a4 : u 4 = _ := s4
  have a9 : u 9 = _ := s9
  have a10 : u 10 = _ := s10
  have a11 : u 11 = _ := s11
  have a12 : u 12 = _ := s12
  have a13 : u 13 = _ := s13
  have a14 : u 14 = _ := s14
  have a15 : u 15 = _ := s15
  have a16 : u 16 = _ := s16
  have a17 : u 17 = _ := s17
  have HI := Lib.hid I
  have HE := Lib.hid E
  have HFT := Lib.hid ft
  have HHN := Lib.hid (show h < m.n ∧ 0 < m.n by have := I.hh; omega)
  clear I E s0 s4 s9 s10 s11 s12 s13 s14 s15 s16 s17 sz
  conv => arg 2; whnf
  unfold frm22
  rw [a0, a4, a9, a10, a11, a12, a13, a14, a15, a16, a17]
  clear a0 a4 a9 a10 a11 a12 a13 a14 a15 a16 a17
  obtain ⟨SC, hSC⟩ : ∃ SC, SC = dsC r 0 1 0 1 none 0 0 false := ⟨_, rfl⟩
  rw [← hSC] at ft
  have szC : SC.size = 7 := by rw [hSC]; rfl
  have tt := World.at_lt ft
  have HSC := Lib.hid hSC
  clear hSC
  have HPUT : ∀ (half e c f : Nat), ∀ S' : Array Value, S' = dsC r half e c f none 0 0 false → (W.put t (.cells S' 56)).blk t = some (.cells (dsC r half e c f none 0 0 false) 56 (0, 0)) := fun half e c f S' h => by rw [h]; exact World.at_put_same _ _ _ tt
  have HPUT := Lib.hid HPUT
  rcases hz0 with ⟨l0, rfl⟩ | ⟨l0, rfl⟩ <;> rcases hz1 with ⟨l1, rfl⟩ | ⟨l1, rfl⟩
  · exact absurd ⟨rfl, rfl⟩ hne
  · have HO := Lib.hid (openM_snd hn4 HI.out.dd HI.out.hh l0 l1)
    have HL := Lib.hid l1
    clear l0 l1
    go_upto_region 22 with (fail)
    rename_i K27 h27 Kc hc2
    have H27 := Lib.hid h27
    clear h27
    go_wp2_with fail
    refine H27.out _ _ ?_
    refine Eq.mp (congrArg (fun c => Code.wp Try.prog c _ _ _) (show d27 = _ from by kernel_rfl)) (d27_g (b := h) rfl rfl rfl rfl (HPUT.out 1 e1 c1 n1 _ (by rw [HSC.out]; rfl)) HO.out HL.out (by have := HHN.out; omega) (HI.out.put _ tt) (by decide) (HE.out.put _))
  · have HO := Lib.hid (openM_fst hn4 HI.out.dd HI.out.hh l0 l1)
    have HL := Lib.hid l0
    clear l0 l1
    go_upto_region 22 with (fail)
    rename_i K27 h27 Kc hc2
    have H27 := Lib.hid h27
    clear h27
    go_wp2_with fail
    refine H27.out _ _ ?_
    refine Eq.mp (congrArg (fun c => Code.wp Try.prog c _ _ _) (show d27 = _ from by kernel_rfl)) (d27_g (b := 0) rfl rfl rfl rfl (HPUT.out 0 e0 c0 n0 _ (by rw [HSC.out]; rfl)) HO.out HL.out (by have := HHN.out; omega) (HI.out.put _ tt) (by decide) (HE.out.put _))
  · by_cases hee : e0 = e1
    · subst hee
      have HO := Lib.hid ((openM_two hn4 HI.out.dd HI.out.hh l0 l1).trans (if_pos rfl))
      have hqe : ((e0 : Int) == (e0 : Int)) = true := by simp
      clear l0 l1
      go_wp2_with fail
      exact HE.out.no _ _ HO.out rfl rfl (Fr.refl _ _)
    have hqe : ((e0 : Int) == (e1 : Int)) = false := by rw [beq_eq_false_iff_ne]; omega
    by_cases hlt : e0 < e1
    · have dlt : decide ((e0 : Int) < (e1 : Int)) = true := by rw [decide_eq_true_eq]; omega
      have HO := Lib.hid ((openM_two hn4 HI.out.dd HI.out.hh l0 l1).trans ((if_neg hee).trans (if_pos hlt)))
      have HL := Lib.hid l1
      clear l0 l1
      go_upto_region 22 with (fail)
      rename_i K27 h27 Kc hc2
      have H27 := Lib.hid h27
      clear h27
      go_wp2_with fail
      refine H27.out _ _ ?_
      refine Eq.mp (congrArg (fun c => Code.wp Try.prog c _ _ _) (show d27 = _ from by kernel_rfl)) (d27_g (b := h) rfl rfl rfl rfl (HPUT.out 1 e1 c1 n1 _ (by rw [HSC.out]; rfl)) HO.out HL.out (by have := HHN.out; omega) (HI.out.put _ tt) (by decide) (HE.out.put _))
    · have dlt : decide ((e0 : Int) < (e1 : Int)) = false := by rw [decide_eq_false_iff_not]; omega
      have HO := Lib.hid ((openM_two hn4 HI.out.dd HI.out.hh l0 l1).trans ((if_neg hee).trans (if_neg hlt)))
      have HL := Lib.hid l0
      clear l0 l1
      go_upto_region 22 with (fail)
      rename_i K27 h27 Kc hc2
      have H27 := Lib.hid h27
      clear h27
      go_wp2_with fail
      refine H27.out _ _ ?_
      refine Eq.mp (congrArg (fun c => Code.wp Try.prog c _ _ _) (show d27 = _ from by kernel_rfl)) (d27_g (b := 0) rfl rfl rfl rfl (HPUT.out 0 e0 c0 n0 _ (by rw [HSC.out]; rfl)) HO.out HL.out (by have := HHN.out; omega) (HI.out.put _ tt) (by decide) (HE.out.put _))
end
end Go.Proofs.Ytombhkekocbfoaa
namespace Go.Proofs.Ytombhkekocbfoaa
open Go.RowKit Go.Dr Go.Kd Go.St
theorem DLookR.out {o : Option (Option (Nat × Nat × Nat))} {e c n : Nat} {st : Int} (h : DLookR o e c n st) : (o = none ∧ st = -1) ∨ (o = some none ∧ st = 0) ∨ (o = some (some (e, c, n)) ∧ st = 1) := by
  cases o with
  | none => exact .inl ⟨rfl, h⟩
  | some x => cases x with
    | none => exact .inr (.inl ⟨rfl, h⟩)
    | some x => exact .inr (.inr ⟨by rw [h.2], h.1⟩)
theorem openM_no0 {m : DM} {h : Nat} (hn : ¬ m.n < 4) (hd : m.dead = false) (hh : h = m.n / 2) (h0 : lookH (blockOf m.seen 0) h = none) : openM m = (160, none, m) := by
  rw [openM, if_neg hn, hd, ← hh, h0]; rfl
theorem openM_no1 {m : DM} {h : Nat} (hn : ¬ m.n < 4) (hd : m.dead = false) (hh : h = m.n / 2) (h1 : lookH (blockOf m.seen h) h = none) : openM m = (160, none, m) := by
  rw [openM, if_neg hn, hd, ← hh, h1]
  cases h2 : lookH (blockOf m.seen 0) h with
  | none => rfl
  | some x => cases x <;> rfl
theorem chunks_one {b : Bs} (h : b.length = 64) : chunks b = [b] := by
  have := chunks_cons (a := b) (b := []) h
  rw [List.append_nil] at this
  rw [this]; rfl
theorem putM_one (m : DM) {b : Bs} (h : b.length = 64) : putM m 0 b = if (writeM m 0 b).1 = 0 then ((syncM (writeM m 0 b).2).1 == 0, (syncM (writeM m 0 b).2).2) else (false, (writeM m 0 b).2) := by
  have hw : wrM m 0 (chunks b) = if (writeM m 0 b).1 = 0 then (true, (writeM m 0 b).2) else (false, (writeM m 0 b).2) := by rw [chunks_one h]; rfl
  rw [putM, hw]
  split <;> rfl
theorem chsA_nil (w : World) (av : List Nat) : ChsA w av none 0 0 [] := ⟨[], ⟨rfl, Nat.le_refl _, .inl rfl, fun _ => rfl, by simp⟩, .nil, (fun u hu => by cases hu), fun h => absurd h (by omega)⟩
theorem openM_new {m : DM} {h : Nat} (hn : ¬ m.n < 4) (hd : m.dead = false) (hh : h = m.n / 2) (h0 : lookH (blockOf m.seen 0) h = some none) (h1 : lookH (blockOf m.seen h) h = some none) : openM m = if (putM m 0 (headB 1 0 1)).1 then (0, some ⟨0, 1, 0, 1, [], false⟩, (putM m 0 (headB 1 0 1)).2) else (150, none, (putM m 0 (headB 1 0 1)).2) := by
  rw [openM, if_neg hn, hd, ← hh, h0, h1]; rfl
section
variable {w : World}
set_option maxRecDepth 100000 in
set_option maxHeartbeats 8000000 in
theorem dopen_f {r : Nat} {m : DM} {fp av : List Nat} (D : RefAt w r m fp) (hav : ∀ k ∈ av, k < w.heap.size) (hN1 : m.n ≤ 1024) (hmb : isBytes m.seen) (hsk : m.seen = layW m.kept m.waits) (hwl : m.waits.length + 1 ≤ 1000000) :
    Calls Try.prog 22 #[.pointer (some ⟨r, 0, none⟩)] w fun en w' => DOpenR w r fp av en w' (openM m) := by
  have HD := Lib.hid D
  have HMB := Lib.hid hmb
  have HSK := Lib.hid hsk
  have HSL := Lib.hid D.ok.sl
  have HF0 := Lib.hid (Fr.refl fp w)
  have HN0 := Lib.hid (show News w fp fp from fun k hk => .inl hk)
  have HFP := Lib.hid (show ∀ k ∈ fp, k < w.heap.size from fun k hk => RefAt.lt D k hk)
  have HAV := Lib.hid hav
  obtain ⟨R, fr, szR, ⟨y0', y0⟩, hrf⟩ := D.hd
  clear D hmb hsk hav
  obtain ⟨RR, hRR⟩ : ∃ RR, RR = openM m := ⟨_, rfl⟩
  rw [← hRR]
  have HR := Lib.hid hRR
  have HFR := Lib.hid fr
  have tr := World.at_lt fr
  clear hRR
  go_enter Try.func22, Try.ntmps22
  by_cases hn4 : m.n < 4
  · have hd : decide ((m.n : Int) < 4) = true := by rw [decide_eq_true_eq]; omega
    have HR1 := Lib.hid (HR.out.trans (show openM m = (1, none, m) by rw [openM, if_pos hn4]))
    go_wp2_with fail
    refine bodyPost_ret (results_tmp2 rfl _ _ _) rfl ?_
    rw [HR1.out]
    exact ⟨fp, rfl, HD.out, HF0.out, HN0.out⟩
  have hd4 : decide ((m.n : Int) < 4) = false := by rw [decide_eq_false_iff_not]; omega
  obtain ⟨h, hh⟩ : ∃ h, h = m.n / 2 := ⟨_, rfl⟩
  have hq : (m.n : Int).tdiv 2 = (h : Int) := by rw [Int.tdiv_eq_ediv_of_nonneg (by omega)]; omega
  have hh2 : 2 ≤ h := by omega
  have hh3 : 2 * h ≤ m.n := by omega
  have HH := Lib.hid hh
  clear hh
  go_wp2_with fail
  refine (rread_any HD.out 0 HSK.out (by omega)).mono ?_
  rintro en w2 ⟨v, rfl, hv, F2⟩
  have HF2 := Lib.hid F2
  clear F2 fr tr
  cases hdd : m.dead with
  | true =>
    have hrd : ∀ k : Nat, k < m.n → readM m (k : Int) = (150, []) := fun k hk => by
      unfold readM
      rw [show noBlock m (k : Int) = false by simp [noBlock] <;> omega, hdd]
      rfl
    have hr0 : readM m 0 = (150, []) := hrd 0 (by omega)
    rw [hr0]
    have HR1 := Lib.hid (HR.out.trans (show openM m = (150, none, m) by rw [openM, if_neg hn4, hdd]; try rfl))
    have HRD := Lib.hid (hrd h (by omega))
    clear hv hrd hdd hr0
    go_wp2_with fail
    refine (rread_any (HD.out.fr0 HF2.out) (h : Int) HSK.out (by omega)).mono ?_
    rintro en w3 ⟨v3, rfl, hv3, F3⟩
    rw [HRD.out]
    have HF3 := Lib.hid (HF2.out.trans F3)
    clear hv3 F3
    go_wp2_with fail
    refine bodyPost_ret (results_tmp2 rfl _ _ _) rfl ?_
    rw [HR1.out]
    exact ⟨fp, rfl, HD.out.fr0 HF3.out, HF3.out.mono (by simp), HN0.out⟩
  | false =>
    have hrd : ∀ k : Nat, k < m.n → readM m (k : Int) = (0, blockOf m.seen k) := fun k hk => by
      unfold readM
      rw [show noBlock m (k : Int) = false by simp [noBlock] <;> omega, hdd]; try rfl
    have hr0 : readM m 0 = (0, blockOf m.seen 0) := hrd 0 (by omega)
    rw [hr0] at hv ⊢
    have hblk : ∀ k : Nat, k < m.n → (blockOf m.seen k).length = 64 := fun k hk => by
      have := HSL.out
      simp [blockOf]; omega
    have hbyt : ∀ k : Nat, isBytes (blockOf m.seen k) := fun k x hx => HMB.out x (by
      unfold blockOf at hx
      exact List.mem_of_mem_take (List.mem_of_mem_drop hx))
    have hvs : ∀ (W : World) (v : Value) (k lo : Nat), k < m.n → ((v = .slice none 0 0 ∧ ((0 : Int), blockOf m.seen k).2 = []) ∨ ∃ bb, BytesAt W v bb ((0 : Int), blockOf m.seen k).2 ∧ lo ≤ bb) → ∃ q2 c2, v = .slice q2 64 c2 ∧ Sl .u8 W q2 64 c2 (blockOf m.seen k) := by
      intro W v k lo hk hv
      have hbk := hblk k hk
      rcases hv with ⟨_, h⟩ | ⟨bb, B, _⟩
      · have h2 : blockOf m.seen k = [] := h
        rw [h2] at hbk
        cases hbk
      · obtain ⟨q2, c2, h1, h2⟩ := B.sl
        rw [hbk] at h1 h2
        exact ⟨q2, c2, h1, h2⟩
    obtain ⟨q2, c2, rfl, S2⟩ := hvs _ _ _ _ (by omega) hv
    have HVS := Lib.hid hvs
    have HBY := Lib.hid hbyt
    have HS2 := Lib.hid S2
    have HRD := Lib.hid hrd
    have HDD := Lib.hid hdd
    clear hv hrd hdd hblk hvs hbyt S2 hr0
    go_wp2_with fail
    refine (rread_any (HD.out.fr0 HF2.out) (h : Int) HSK.out (by omega)).mono ?_
    rintro en w3 ⟨v3, rfl, hv3, F3⟩
    rw [HRD.out h (by omega)] at hv3 ⊢
    obtain ⟨q3, c3, rfl, S3⟩ := HVS.out _ _ _ _ (by omega) hv3
    have HS3 := Lib.hid S3
    have HF3 := Lib.hid (HF2.out.trans F3)
    have HS2' := Lib.hid (HS2.out.fr0 F3)
    clear hv3 F3 S3 HS2 HF2
    go_wp2_with fail
    refine (dlook_f HS2'.out (HBY.out 0) rfl (by omega)).mono ?_
    rintro en w4 ⟨e0, c0, n0, k0, rfl, hL0, F4⟩
    have HF4 := Lib.hid (HF3.out.trans F4)
    have HS3' := Lib.hid (HS3.out.fr0 F4)
    have HL0 := Lib.hid hL0
    clear F4 HS3 HS2' HF3 hL0
    go_wp2_with fail
    refine (dlook_f HS3'.out (HBY.out h) rfl (by omega)).mono ?_
    rintro en w5 ⟨e1, c1, n1, k1, rfl, hL1, F5⟩
    have HF5 := Lib.hid (HF4.out.trans F5)
    have HL1 := Lib.hid hL1
    clear F5 HS3' HF4 hL1
    rcases HL0.out.out with ⟨hn0, rfl⟩ | hz0
    · have HR1 := Lib.hid (HR.out.trans (openM_no0 hn4 HDD.out HH.out hn0))
      go_wp2_with fail
      refine bodyPost_ret (results_tmp2 rfl _ _ _) rfl ?_
      rw [HR1.out]
      exact ⟨fp, rfl, HD.out.fr0 HF5.out, HF5.out.mono (by simp), HN0.out⟩
    have kb0 : 0 ≤ k0 ∧ k0 ≤ 1 := by rcases hz0 with ⟨_, h⟩ | ⟨_, h⟩ <;> omega
    obtain ⟨kb0, kb0'⟩ := kb0
    have dk0 : decide (k0 < 0) = false := by rw [decide_eq_false_iff_not]; omega
    have HZ0 := Lib.hid hz0
    clear hz0
    rcases HL1.out.out with ⟨hn1, rfl⟩ | hz1
    · have HR1 := Lib.hid (HR.out.trans (openM_no1 hn4 HDD.out HH.out hn1))
      go_wp2_with fail
      refine bodyPost_ret (results_tmp2 rfl _ _ _) rfl ?_
      rw [HR1.out]
      exact ⟨fp, rfl, HD.out.fr0 HF5.out, HF5.out.mono (by simp), HN0.out⟩
    have kb1 : 0 ≤ k1 ∧ k1 ≤ 1 := by rcases hz1 with ⟨_, h⟩ | ⟨_, h⟩ <;> omega
    obtain ⟨kb1, kb1'⟩ := kb1
    have dk1 : decide (k1 < 0) = false := by rw [decide_eq_false_iff_not]; omega
    have HZ1 := Lib.hid hz1
    clear hz1
    go_upto_region 13 with (fail)
    obtain ⟨t, ht⟩ : ∃ t, t = w5.heap.size := ⟨_, rfl⟩
    obtain ⟨SC, hSC⟩ : ∃ SC : Array Value, SC = #[.pointer (some ⟨r, 0, none⟩), .int .i64 0, .int .u64 1, .int .i64 0, .int .i64 1, .slice none 0 0, .bool false] := ⟨_, rfl⟩
    rw [← ht]
    refine OwB.named (L := [(t, .cells SC 56)]) (Q := fun X => Code.wp _ _ _ _ X) (by rw [hSC]; exact ((OwB.start w).call HF5.out).allocN _ t ht) ?_
    intro X hX
    have htl : w.heap.size ≤ t := by rw [ht]; exact HF5.out.size
    have HX := Lib.hid hX
    have HTL := Lib.hid htl
    have htf : t ∉ fp := fun h => by have := HFP.out t h; omega
    have HTF := Lib.hid htf
    have HSC := Lib.hid hSC
    have szC : SC.size = 7 := by rw [hSC]; rfl
    clear hX ht hSC htl htf
    by_cases hA : k0 = 0 ∧ k1 = 0
    · obtain ⟨rfl, rfl⟩ := hA
      have hl0 : lookH (blockOf m.seen 0) h = some none := by rcases HZ0.out with ⟨h, -⟩ | ⟨-, h⟩ <;> first | exact h | cases h
      have hl1 : lookH (blockOf m.seen h) h = some none := by rcases HZ1.out with ⟨h, -⟩ | ⟨-, h⟩ <;> first | exact h | cases h
      have HRN := Lib.hid (HR.out.trans (openM_new hn4 HDD.out HH.out hl0 hl1))
      clear hl0 hl1
      go_wp2_with fail
      refine (dhead_f (e := 1) (c := 0) (n := 1) (by omega) (by omega) (by omega)).mono ?_
      rintro en w6 ⟨q6, c6, rfl, B6⟩
      have HX6 := Lib.hid (HX.out.call B6.own.fr)
      have HS6 := Lib.hid B6.sl
      have HB6 := Lib.hid B6
      clear B6
      go_wp2_with fail
      obtain ⟨bb, off, cs, TT, fr6, rfl, fc6, -, -⟩ := HS6.out.out (by omega)
      have hbf : bb ∉ fp := fun h => by
        have h1 := (HB6.out.new bb rfl).1
        have h2 := HFP.out bb h
        have h3 := HX.out.fr.size
        omega
      have herr := writeM_err (m := m) (a := 0) (b := headB 1 0 1) (by omega) (headB_length _ _ _)
      have hput := putM_one m (headB_length 1 0 1)
      refine (rwrite_any (HD.out.fr0 HX6.out.fr) 0 _ bb (headB 1 0 1) (bytesAt_sl HS6.out (by omega)) hbf (by rw [headB_length]; decide) (by omega)).mono ?_
      rintro en w7 ⟨rfl, fp7, D7, F7, N7⟩
      obtain ⟨W, hW⟩ : ∃ W, W = writeM m 0 (headB 1 0 1) := ⟨_, rfl⟩
      rw [show ((0 : Nat) : Int) = 0 from rfl] at herr
      rw [← hW] at D7 herr hput ⊢
      have hw7 : W.2.waits.length ≤ m.waits.length + 1 := by rw [hW]; exact writeM_wl _ _ _
      have ft7 := F7.get (HX6.out.nth 0 rfl) HTF.out
      obtain ⟨E, hE⟩ : ∃ E, E = W.1 := ⟨_, rfl⟩
      rw [← hE] at herr hput ⊢
      have HD7 := Lib.hid D7
      have HN7 := Lib.hid (show News w fp fp7 from fun k hk => by
        rcases N7 k hk with h | h
        · exact .inl h
        · exact .inr (Nat.le_trans HX6.out.fr.size h))
      have HF7 := Lib.hid ((HX6.out.fr.mono (fp' := fp) (by simp)).seq F7 fun k hk _ => hk)
      have HFT := Lib.hid ft7
      have HPU := Lib.hid hput
      have HTL7 := Lib.hid (show t ∉ fp7 from fun h => by
        rcases N7 t h with h1 | h1
        · exact HTF.out h1
        · have := HX6.out.lt 0 rfl; omega)
      clear D7 F7 N7 hW hE hput fc6 hbf ft7
      rcases herr with rfl | rfl
      · go_wp2_with fail
        refine (rsync_any HD7.out (by omega)).mono ?_
        rintro en w8 ⟨rfl, fp8, D8, F8, N8⟩
        have herr := syncM_err W.2
        obtain ⟨E, hE⟩ : ∃ E, E = (syncM W.2).1 := ⟨_, rfl⟩
        rw [← hE] at herr ⊢
        have HEE := Lib.hid hE
        have hput := HPU.out.trans (if_pos (by trivial))
        rw [← hE] at hput
        have HPU := Lib.hid hput
        have HF8 := Lib.hid (HF7.out.seq F8 fun k hk hl => by
          rcases HN7.out k hk with h | h
          · exact h
          · omega)
        have HN8 := Lib.hid (show News w fp fp8 from fun k hk => HN7.out k (N8 k hk))
        have HD8 := Lib.hid D8
        have HFT8 := Lib.hid (F8.get HFT.out HTL7.out)
        have HTL8 := Lib.hid (show t ∉ fp8 from fun h => HTL7.out (N8 t h))
        clear hE hput D8 F8 N8 HFT
        rcases herr with rfl | rfl
        · have HR1 := Lib.hid (HRN.out.trans (if_pos (by rw [HPU.out]; rfl)))
          go_wp2_with fail
          refine bodyPost_ret (results_tmp2 rfl _ _ _) rfl ?_
          rw [HR1.out, HPU.out]
          exact ⟨rfl, t, fp8, rfl, ⟨⟨none, 0, 0, by rw [← show SC = dsC r 0 1 0 1 none 0 0 false from HSC.out]; exact HFT8.out, chsA_nil _ _⟩, HTL8.out, HD8.out⟩, HF8.out, HN8.out, HTL.out⟩
        · have HR1 := Lib.hid (HRN.out.trans (if_neg (by rw [HPU.out]; simp)))
          go_wp2_with fail
          refine bodyPost_ret (results_tmp2 rfl _ _ _) rfl ?_
          rw [HR1.out, HPU.out]
          exact ⟨fp8, rfl, HD8.out, HF8.out, HN8.out⟩
      · have hput := HPU.out.trans (if_neg (by decide))
        have HPU := Lib.hid hput
        have HR1 := Lib.hid (HRN.out.trans (if_neg (by rw [hput]; simp)))
        clear hput
        go_wp2_with fail
        refine bodyPost_ret (results_tmp2 rfl _ _ _) rfl ?_
        rw [HR1.out, HPU.out]
        exact ⟨fp7, rfl, HD7.out, HF7.out, HN7.out⟩
    have hd13 : (k0 + k1 == 0) = false := by rw [beq_eq_false_iff_ne]; omega
    rename_i K17 h17 Kc hc2
    have H17 := Lib.hid h17
    clear h17
    have HFX := Lib.hid (show ∀ W', Fr [t] X W' → Fr fp w W' ∧ RefAt W' r m fp from fun W' F => ⟨(HX.out.fr.mono (fp' := fp) (by simp)).seq F (fun k hk hl => by
      rw [List.mem_singleton] at hk
      subst hk
      have := HTL.out
      omega), (HD.out.fr0 HX.out.fr).frame F (fun k hk hm => by
      rw [List.mem_singleton] at hm
      subst hm
      exact HTF.out hk)⟩)
    have HAV' := Lib.hid (show ∀ b ∈ t :: (av ++ fp), b < X.heap.size from fun b hb => by
      rcases List.mem_cons.1 hb with rfl | hb
      · exact HX.out.lt 0 rfl
      · refine Nat.lt_of_lt_of_le ?_ HX.out.fr.size
        rcases List.mem_append.1 hb with h | h
        · exact HAV.out b h
        · exact HFP.out b h)
    have hft : X.blk t = some (.cells (dsC r 0 1 0 1 none 0 0 false) 56 (0, 0)) := by
      rw [← show SC = dsC r 0 1 0 1 none 0 0 false from HSC.out]
      exact HX.out.nth 0 rfl
    have HFT := Lib.hid hft
    clear hft
    go_wp2_with fail
    refine H17.out _ _ ?_
    refine Eq.mp (congrArg (fun c => Code.wp Try.prog c _ _ _) (show d17 = _ from by kernel_rfl)) (d17_f (av := av ++ fp) (fp := fp) (m := m) rfl rfl rfl rfl rfl rfl rfl rfl rfl rfl rfl rfl HFT.out hn4 HZ0.out HZ1.out hA ⟨HD.out.fr0 HX.out.fr, HTF.out, HAV'.out, HH.out, hN1, HMB.out, HSK.out, by omega, HDD.out⟩ ⟨?_, ?_⟩)
    · intro tm' W' ho h2 h3 F
      refine bodyPost_ret (results_tmp2 rfl tm' _ _) rfl ?_
      rw [h2, h3, HR.out.trans ho]
      exact ⟨fp, rfl, (HFX.out W' F).2, (HFX.out W' F).1, HN0.out⟩
    · intro tm' W' sp q n d ho h2 h3 h4 h5 F
      refine bodyPost_ret (results_tmp2 rfl tm' _ _) rfl ?_
      rw [h2, h3, HR.out.trans ho]
      exact ⟨rfl, t, fp, rfl, ⟨⟨q, n, d, h4, h5⟩, HTF.out, (HFX.out W' F).2⟩, (HFX.out W' F).1, HN0.out, HTL.out⟩
end
end Go.Proofs.Ytombhkekocbfoaa
