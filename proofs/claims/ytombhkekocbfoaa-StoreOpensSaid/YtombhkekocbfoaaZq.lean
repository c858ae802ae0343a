/- Joined: SoM, SoZg, SoZh, SoZi. -/
import Derived.Test.YtombhkekocbfoaaZm
import Derived.Test.YtombhkekocbfoaaZp
set_option linter.unusedVariables false
set_option linter.unusedSimpArgs false
namespace Go.Proofs.Ytombhkekocbfoaa
open Go.RowKit Go.Dr Go.Kd Go.St
section
variable {w : World}
theorem DiskAt.fr0 {w w' : World} {d : Nat} {m : DM} {fp : List Nat} (D : DiskAt w d m fp) (F : Fr [] w w') : DiskAt w' d m fp := by
  obtain ⟨kb, sb, p, cap, D, e, ok⟩ := D
  exact ⟨kb, sb, p, cap, ⟨F.get D.hd (by simp), F.get D.hk (by simp), F.get D.hs (by simp), F.owns D.hw (by simp), D.ne1, D.ne2, D.ne3, D.nw⟩, e, ok⟩
/-- What read answers: the store's map holds what the records make. -/
def ReadR (s d hs half e c f : Nat) (br : Bool) (fp : List Nat) (o : Option (List (Bs × Bs))) (en : Ending) (w' : World) : Prop := match o with
  | some L => ∃ mb, en = .returned (.bool true) ∧ w'.blk s = some (.cells (stC d hs half e c f mb br) 75) ∧ MapAt w' mb L fp
  | none => en = .returned (.bool false)
/-- Between two records: what is left, and what the store's map holds. -/
structure RdI (s d hs half e c f : Nat) (br : Bool) (fp : List Nat) (R : Option (List (Bs × Bs))) (w w' : World) (k : Nat) (q : Option Addr) (n cp : Nat) : Prop where
  fr : Fr [s] w w'
  ex : ∃ (mb : Nat) (L : List (Bs × Bs)) (rest : Bs), w'.blk s = some (.cells (stC d hs half e c f mb br) 75) ∧ MapAt w' mb L fp ∧ Sl .u8 w' q n cp rest ∧ (∀ g, q.map (·.block) = some g → g ≠ s) ∧ readR e (c - k) k rest L = R ∧ Sorted L ∧ (∀ x ∈ L, Byt x.1) ∧ isBytes rest ∧ n % 64 = 0 ∧ n ≤ 70000
theorem rdPay_len {b : Bs} {l : List Chg} (hb : Byt b) (h : rdPay b = some l) : l.length ≤ 64 := by
  unfold rdPay at h
  cases ho : splitB b with
  | none => rw [ho] at h; cases h
  | some ls =>
    rw [ho] at h
    rw [(rdChgs_ok (splitB_byt hb ho) h).1]
    exact splitB_len ho
theorem MapAt.len {w : World} {b : Nat} {L : List (Bs × Bs)} {fp : List Nat} (h : MapAt w b L fp) : ∃ es ck, w.blk b = some (.map es ck) ∧ es.size = L.length := by
  obtain ⟨-, kvs, g, hm, hr, -⟩ := h
  obtain ⟨es, ck, h1, h2, -⟩ := hm.ex
  refine ⟨es, ck, h1, ?_⟩
  have h3 := congrArg List.length h2
  simp only [List.length_map, Array.length_toList] at h3
  rw [h3, hr.len]
theorem Sl.out_of {w : World} {s : Nat} {cs0 : Array Value} {T0 : TypeId} {fr0 : Nat × Nat} {q : Option Addr} {m d : Nat} {v : Bs} (h : Sl .u8 w q m d v) (h0 : 0 < m) (hs : w.blk s = some (.cells cs0 T0 fr0)) (hno : ∀ u ∈ cs0.toList, ∀ x, u ≠ .int .u8 x) : ∀ k, q.map (·.block) = some k → k ≠ s := by
  obtain ⟨bb, off, cs, T, fr, rfl, fc, hs', hx'⟩ := h.out h0
  intro k hk e
  simp only [Option.map_some, Option.some.injEq] at hk
  subst hk e
  rw [hs] at fc
  cases fc
  have h1 := congrArg (fun l => l[0]?) hx'
  simp only [Array.getElem?_toList, List.getElem?_map] at h1
  rw [Array.getElem?_extract_of_lt (by omega)] at h1
  have hv : v[0]? = some (v[0]'(by rw [h.len]; exact h0)) := List.getElem?_eq_getElem _
  rw [hv] at h1
  simp only [Option.map_some, Option.some.injEq] at h1
  exact hno _ (by rw [Array.mem_toList_iff]; exact Array.getElem_mem _) _ h1
/-- A store's cells are turned: the map stays. -/
theorem MapAt.put {w : World} {b s : Nat} {L : List (Bs × Bs)} {fp : List Nat} {o : Obj} {cs0 : Array Value} {T0 : TypeId} {fr0 : Nat × Nat} (h : MapAt w b L fp) (hs : w.blk s = some (.cells cs0 T0 fr0)) (hno : ∀ u ∈ cs0.toList, ∀ x, u ≠ .int .u8 x) : MapAt (w.put s o) b L fp := by
  obtain ⟨hb, kvs, g, hm, hr, hv⟩ := h
  obtain ⟨es, ck, h1, h2⟩ := hm.ex
  have hne : b ≠ s := fun e => by subst e; rw [hs] at h1; cases h1
  refine ⟨hb, kvs, g, ⟨es, ck, (World.at_put_other _ _ _ _ hne.symm).trans h1, h2⟩, hr, fun x hx => ?_⟩
  obtain ⟨q, m, d, h3, h4, h5⟩ := hv x hx
  refine ⟨q, m, d, h3, ?_, h5⟩
  rcases Nat.eq_zero_or_pos m with h0 | h0
  · subst h0; exact sl_zero h4
  · have h6 := Sl.out_of h4 h0 hs hno
    obtain ⟨bb, off, cs, T, fr, rfl, fc, hs', hx'⟩ := h4.out h0
    exact Sl.of ((World.at_put_other _ _ _ _ (h6 bb rfl).symm).trans fc) hs' hx' h4.cap_
theorem _root_.Go.Sl.put2 {w : World} {s : Nat} {o : Obj} {b off m d : Nat} {v : Bs} (h : Sl .u8 w (some ⟨b, off, none⟩) m d v) (hne : b ≠ s) : Sl .u8 (w.put s o) (some ⟨b, off, none⟩) m d v := by
  rcases Nat.eq_zero_or_pos m with h0 | h0
  · subst h0; exact sl_zero h
  · obtain ⟨bb, off, cs, T, fr, e, fc, hs', hx'⟩ := h.out h0
    cases e
    exact Sl.of ((World.at_put_other _ _ _ _ hne.symm).trans fc) hs' hx' h.cap_
theorem stC_no {d hs half e c f mb : Nat} {br : Bool} : ∀ u ∈ (stC d hs half e c f mb br).toList, ∀ x, u ≠ .int .u8 x := by
  intro u hu x e
  subst e
  simp [stC] at hu
theorem seg_step {l : Bs} {a i : Nat} (h : 64 * (a + i + 1) ≤ l.length) : (l.drop (a * 64)).take ((i + 1) * 64) = (l.drop (a * 64)).take (i * 64) ++ blockOf l (a + i) := by
  rw [Nat.add_mul, Nat.one_mul, List.take_add, List.drop_drop, blockOf, List.drop_take]
  congr 2
  · omega
  · congr 1; omega
set_option maxRecDepth 100000 in
set_option maxHeartbeats 8000000 in
theorem read_f {s d half e c f mb : Nat} {br : Bool} {m : DM} {fp gp : List Nat} (hst : w.blk s = some (.cells (stC d (m.n / 2) half e c f mb br) 75 (0, 0))) (hsf : s ∉ fp) (D : DiskAt w d m fp) (hN1 : m.n ≤ 1024) (hd : m.dead = false) (hh : half ≤ 1) (hf1 : 1 ≤ f) (hf2 : f ≤ m.n / 2) {L : List (Bs × Bs)} (M : MapAt w mb L gp) (hfp : ∀ k ∈ gp, k < w.heap.size) (hS : Sorted L) (hLb : ∀ x ∈ L, Byt x.1) (hmb : isBytes m.seen) (hc : c < 4294967296) (he : e < 18446744073709551616) :
    Calls Try.prog 35 #[.pointer (some ⟨s, 0, none⟩)] w fun en w' => ReadR s d (m.n / 2) half e c f br gp (readR e c 0 (recsM m half f) L) en w' ∧ Fr [s] w w' := by
  have hN : m.n ≤ 4096 := by obtain ⟨_, _, _, _, _, _, ok⟩ := D; exact ok.n2
  have hsl : m.seen.length = 64 * m.n := by obtain ⟨_, _, _, _, _, _, ok⟩ := D; exact ok.sl
  have HMA := Lib.hid M
  have HFP := Lib.hid hfp
  have HSO := Lib.hid hS
  have HLB := Lib.hid hLb
  have HMB := Lib.hid hmb
  clear M hfp hS hLb hmb
  obtain ⟨R, hR⟩ : ∃ R, R = readR e c 0 (recsM m half f) L := ⟨_, rfl⟩
  rw [← hR]
  have HR := Lib.hid hR
  clear hR
  have HD := Lib.hid D
  have HSL := Lib.hid hsl
  have HDE := Lib.hid hd
  obtain ⟨SC, hSC⟩ : ∃ SC, SC = stC d (m.n / 2) half e c f mb br := ⟨_, rfl⟩
  rw [← hSC] at hst
  obtain ⟨hs, hhs⟩ : ∃ hs, hs = m.n / 2 := ⟨_, rfl⟩
  rw [← hhs] at hSC hf2 ⊢
  have szC : SC.size = 8 := by rw [hSC]; rfl
  have x0 := Array.getElem?_eq_some_iff.1 (show SC[0]? = some (.pointer (some ⟨d, 0, none⟩)) by rw [hSC]; rfl)
  have x1 := Array.getElem?_eq_some_iff.1 (show SC[1]? = some (.int .i64 hs) by rw [hSC]; rfl)
  have x2 := Array.getElem?_eq_some_iff.1 (show SC[2]? = some (.int .i64 half) by rw [hSC]; rfl)
  have x5 := Array.getElem?_eq_some_iff.1 (show SC[5]? = some (.int .u32 f) by rw [hSC]; rfl)
  obtain ⟨x0', x0⟩ := x0
  obtain ⟨x1', x1⟩ := x1
  obtain ⟨x2', x2⟩ := x2
  obtain ⟨x5', x5⟩ := x5
  have HSS := Lib.hid hst
  have HSC := Lib.hid hSC
  have HHS := Lib.hid hhs
  have hs2 : 2 * hs ≤ m.n := by omega
  have wf : IntKind.i64.wrap (f : Int) = (f : Int) := by rw [IntKind.wrap_i64]; omega
  have hhb : half * hs ≤ hs := by
    rcases Nat.le_one_iff_eq_zero_or_eq_one.1 hh with h | h <;> subst h <;> omega
  obtain ⟨P, hP⟩ : ∃ P, half * hs = P := ⟨_, rfl⟩
  have hPb : P ≤ hs := by omega
  obtain ⟨ACC, hACC⟩ : ∃ ACC : Nat → Bs, ACC = fun i => (m.seen.drop ((P + 1) * 64)).take ((i - 1) * 64) := ⟨_, rfl⟩
  have HAC := Lib.hid hACC
  clear hst hSC D hsl hhs hACC hhb hd
  go_enter Try.func35, Try.ntmps35
  go_wp2_with fail
  go_loopw [3, 4] (fun v iv wy => ∃ (i : Nat) (q : Option Addr) (cp : Nat), 1 ≤ i ∧ i ≤ f ∧ v = .slice q ((i - 1) * 64) cp ∧ iv = .int .i64 (i : Int) ∧ Hid (Bld w [] .u8 5 wy q ((i - 1) * 64) cp (ACC i))) (fun _ iv _ => (f - intOf iv).toNat)
  case atStart => exact ⟨1, none, 0, by omega, hf1, rfl, rfl, Lib.hid (by rw [HAC.out]; exact Bld.nil (OwB.start w))⟩
  case round =>
    obtain ⟨i, q, cp, hi1, hif, rfl, rfl, hW⟩ := hrel
    have f1 := hW.out.own.fr.get HSS.out (by simp)
    have t1 := World.at_lt f1
    by_cases hlt : i < f
    · have hd : decide ((i : Int) < (f : Int)) = true := by rw [decide_eq_true_eq]; omega
      go_upto_region 5 with (fail)
      refine drawn_begin 20 (fun w' => w'.blk s = some (.cells SC 75)) (by kernel_rfl) ?_
      refine drawn_reads (fuel := 6) [0, 1, 2, 3, 4, 5, 6, 7, 8, 9, 10, 11, 12, 13, 14] rfl (by kernel_rfl) f1 ?_
      repeat (first | (refine rowK_step2 rfl rfl (fun K hK => ?_); go_wp2) | (refine rowK_step rfl (fun K hK => ?_); go_simp; refine hK _ ?_; clear hK K))
      refine rowK_nil ⟨fun w' e1 => ?_, ?_⟩
      · clear f1 t1
        have t1 := World.at_lt e1
        repeat (first | (refine rowWp_step2 rfl rfl (fun K hK => ?_); go_wp2) | (refine rowWp_step rfl (fun K hK => ?_); go_simp; refine hK _ ?_; clear hK K))
        exact rowWp_nil rfl
      refine drawn_next 15 (fuel := 5) rfl (by kernel_rfl) ?_
      intro K hK
      go_wp2_with fail
      refine (read_any (diskAt_drew (HD.out.fr0 hW.out.own.fr)) _).mono ?_
      rintro en w2 ⟨v, rfl, hv, F2⟩
      have hpi : ((half : Int) * hs + i) = ((P + i : Nat) : Int) := by subst hP; push_cast; rfl
      have hrd : readM m ((P + i : Nat) : Int) = (0, blockOf m.seen (P + i)) := by
        unfold readM
        rw [show noBlock m ((P + i : Nat) : Int) = false by simp [noBlock]; omega, HDE.out]
        rfl
      rw [hpi] at hv ⊢
      rw [hrd] at hv ⊢
      have hbk : (blockOf m.seen (P + i)).length = 64 := by
        have := HSL.out
        simp [blockOf]; omega
      have hvs : ∃ q2 c2, v = .slice q2 64 c2 ∧ Sl .u8 w2 q2 64 c2 (blockOf m.seen (P + i)) := by
        rcases hv with ⟨_, h⟩ | ⟨bb, B, _⟩
        · have h2 : blockOf m.seen (P + i) = [] := h
          rw [h2] at hbk
          cases hbk
        · obtain ⟨q2, c2, h1, h2⟩ := B.sl
          have h3 : (blockOf m.seen (P + i)).length = 64 := hbk
          rw [show ((0 : Int), blockOf m.seen (P + i)).2 = blockOf m.seen (P + i) from rfl, h3] at h1 h2
          exact ⟨q2, c2, h1, h2⟩
      obtain ⟨q2, c2, rfl, S2⟩ := hvs
      have hacc : ACC (i + 1) = ACC i ++ blockOf m.seen (P + i) := by
        rw [HAC.out]
        have h := seg_step (l := m.seen) (a := P + 1) (i := i - 1) (by have := HSL.out; omega)
        rw [show P + 1 + (i - 1) = P + i by omega, show i - 1 + 1 = i + 1 - 1 by omega] at h
        exact h
      have HACI := Lib.hid hacc
      have HS2 := Lib.hid S2
      have HW := Lib.hid (hW.out.call ((Fr.refl [] wr).drew.trans F2))
      have f2 := (((Fr.refl [] wr).drew).trans F2).get f1 (by simp)
      clear hpi hrd hv hbk hacc S2 hW F2 f1 t1
      have t2 := World.at_lt f2
      go_wp2_with fail
      refine ⟨f2, ?_⟩
      refine drawn_next 16 (fuel := 4) rfl (by kernel_rfl) ?_
      intro K hK
      go_wp2_with fail
      refine ⟨f2, ?_⟩
      refine drawn_reads (fuel := 2) [17, 18] rfl (by kernel_rfl) f2 ?_
      repeat (first | (refine rowK_step2 rfl rfl (fun K hK => ?_); go_wp2) | (refine rowK_step rfl (fun K hK => ?_); go_simp; refine hK _ ?_; clear hK K))
      refine rowK_nil ⟨fun w' e1 => ?_, ?_⟩
      · repeat (first | (refine rowWp_step2 rfl rfl (fun K hK => ?_); go_wp2) | (refine rowWp_step rfl (fun K hK => ?_); go_simp; refine hK _ ?_; clear hK K))
        exact rowWp_nil rfl
      refine drawn_next 19 (fuel := 1) rfl (by kernel_rfl) ?_
      intro K hK
      go_wp2_with fail
      refine ⟨f2, ?_⟩
      refine drawn_end rfl (by kernel_rfl) ?_
      intro K hK
      go_wp2_with (refine wpList_app47 rfl _ _ rfl rfl HW.out rfl HS2.out (by omega) ?_)
      intro q5 c5 W5 B5
      have HB5 := Lib.hid B5
      clear B5 HW HS2 f2 t2
      go_wp2_with fail
      have ez : (i - 1) * 64 + 64 = (i + 1 - 1) * 64 := by omega
      go_roundw
      case rel =>
        exact ⟨i + 1, q5, c5, by omega, hlt, by rw [ez], by first | rfl | simp, Lib.hid (by rw [HACI.out, ← ez]; exact HB5.out)⟩
      case measure => simp [intOf]; omega
    · obtain rfl : i = f := by omega
      have hd : decide ((i : Int) < (i : Int)) = false := by simp
      have hrec : ACC i = recsM m half i := by rw [HAC.out, recsM, ← HHS.out, hP]
      have HRE := Lib.hid hrec
      obtain ⟨z, hz⟩ : ∃ z, z = (i - 1) * 64 := ⟨_, rfl⟩
      have hSA := hW.out.sl
      have hFA := hW.out.own.fr
      have hqs : ∀ g, q.map (·.block) = some g → g ≠ s := fun g hg e => by
        have h1 := (hW.out.new g hg).1
        have h2 := World.at_lt HSS.out
        omega
      have HSA := Lib.hid hSA
      have HFA := Lib.hid hFA
      have HQS := Lib.hid hqs
      clear hrec hSA hFA hqs hW
      have hisb : isBytes (recsM m half i) := fun x hx => HMB.out x (List.mem_of_mem_drop (List.mem_of_mem_take hx))
      have HI0 := Lib.hid (show RdI s d hs half e c i br gp R w wr 0 q ((i - 1) * 64) cp from ⟨HFA.out.mono (by simp), mb, L, recsM m half i, by rw [← HSC.out]; exact HFA.out.get HSS.out (by simp), HMA.out.fr0 HFA.out, by rw [← HRE.out]; exact HSA.out, HQS.out, HR.out.symm, HSO.out, HLB.out, hisb, by omega, by omega⟩)
      clear hisb
      go_wp2_with fail
      go_loopw [3, 7] (fun v kv wy => ∃ (k : Nat) (q : Option Addr) (n cp : Nat), k ≤ c ∧ v = .slice q n cp ∧ kv = .int .u32 (k : Int) ∧ Hid (RdI s d hs half e c i br gp R w wy k q n cp)) (fun _ kv _ => (c - intOf kv).toNat)
      case atStart => exact ⟨0, q, _, cp, by omega, rfl, rfl, HI0.out⟩
      case round =>
        obtain ⟨k, q2, n2, cp2, hkc, rfl, rfl, hW⟩ := hrel
        obtain ⟨mb2, L2, rest, fs, M2, S2, hq2, hR2, hs2', hb2, hB2, hn64, hnb⟩ := hW.out.ex
        have HF2 := Lib.hid hW.out.fr
        obtain ⟨SC2, hSC2⟩ : ∃ SC2, SC2 = stC d hs half e c i mb2 br := ⟨_, rfl⟩
        rw [← hSC2] at fs
        have szC2 : SC2.size = 8 := by rw [hSC2]; rfl
        have y4 := Array.getElem?_eq_some_iff.1 (show SC2[4]? = some (.int .u32 c) by rw [hSC2]; rfl)
        obtain ⟨y4', y4⟩ := y4
        have y3 := Array.getElem?_eq_some_iff.1 (show SC2[3]? = some (.int .u64 e) by rw [hSC2]; rfl)
        obtain ⟨y3', y3⟩ := y3
        have ts := World.at_lt fs
        have HM2 := Lib.hid M2
        have HS2 := Lib.hid S2
        have HQ2 := Lib.hid hq2
        have HR2 := Lib.hid hR2
        have HSo2 := Lib.hid hs2'
        have HBy2 := Lib.hid hb2
        have HB2 := Lib.hid hB2
        have HSC2 := Lib.hid hSC2
        have hlen : rest.length = n2 := S2.len
        have HLN := Lib.hid hlen
        clear M2 S2 hq2 hR2 hs2' hb2 hB2 hSC2 hW hlen
        by_cases hlt2 : k < c
        · have hd2 : decide ((k : Int) < (c : Int)) = true := by rw [decide_eq_true_eq]; omega
          by_cases hn0 : n2 = 0
          · have hr0 : rest = [] := List.eq_nil_of_length_eq_zero (by rw [HLN.out]; exact hn0)
            have hRn : R = none := by
              rw [← HR2.out, hr0, show c - k = (c - k - 1) + 1 by omega, readR, if_pos rfl]
            have HRN := Lib.hid hRn
            have d0 : ((n2 : Int) == 0) = true := by rw [hn0]; rfl
            clear hr0 hRn
            go_wp2_with fail
            refine bodyPost_ret (results_tmp rfl _ _ _) rfl ?_
            rw [HRN.out]
            exact ⟨rfl, HF2.out⟩
          · obtain ⟨bb, off, cs, TT, fr3, rfl, fc, hs3, hx3⟩ := HS2.out.out (by omega)
            have hcp := HS2.out.cap_
            have d0 : ((n2 : Int) == 0) = false := by rw [beq_eq_false_iff_ne]; omega
            have k4 : (4 : Int) ≤ (cp2 : Int) := by omega
            have s4 := sl_pre fc hs3 hx3 HLN.out (k := 4) (by omega) hcp
            have HS4 := Lib.hid s4
            have hb4 : isBytes (rest.take 4) := fun x hx => HB2.out x (List.mem_of_mem_take hx)
            have hl4 : (rest.take 4).length = 4 := by rw [List.length_take, HLN.out]; omega
            have hv4 : getV (rest.take 4) = getB (rest.take 4) := getV_of (by omega) (by omega)
            have hg4 : getB (rest.take 4) < 4294967296 := getB_lt 4 _ hl4 hb4
            have HV4 := Lib.hid hv4
            have HB4 := Lib.hid hb4
            obtain ⟨g, hg⟩ : ∃ g, g = getB (rest.take 4) := ⟨_, rfl⟩
            rw [← hg] at hg4
            have HG := Lib.hid hg
            have s8 : ∀ W : World, W.blk bb = some (.cells cs TT fr3) → Sl .u8 W (some ⟨bb, off, none⟩) 8 cp2 (rest.take 8) := fun W hW => sl_pre hW hs3 hx3 HLN.out (by omega) hcp
            have hcv : ∀ W : World, W.blk bb = some (.cells cs TT fr3) → (convert 22 9 (.slice (some ⟨bb, off, none⟩) 8 cp2)).run Try.prog W = .ok (.string (strB (rest.take 8))) W := fun W hW => conv47 (s8 W hW)
            have HCV := Lib.hid hcv
            have HFC := Lib.hid fc
            clear s4 hb4 hl4 hv4 fc hs3 hx3 hg s8 hcv
            go_wp2_with fail
            refine (get_f HS4.out HB4.out).mono ?_
            rintro en w4 ⟨rfl, F4⟩
            rw [HV4.out, ← HG.out]
            have HF4 := Lib.hid (HF2.out.trans (F4.mono (by simp)))
            have f4 := F4.get fs (by simp)
            have F4' := F4
            have FF4 := Lib.hid F4
            clear F4 fs ts
            have t4 := World.at_lt f4
            have f4b := F4'.get HFC.out (by simp)
            by_cases hgn : n2 < g + 8
            · have wd : IntKind.u64.wrap ((n2 : Int) - 8) = ((n2 - 8 : Nat) : Int) := by rw [IntKind.wrap_u64]; omega
              have dg : decide (((n2 - 8 : Nat) : Int) < (g : Int)) = true := by rw [decide_eq_true_eq]; omega
              have hRn : R = none := by
                have hne : ¬ rest = [] := fun h => hn0 (by rw [← HLN.out, h]; rfl)
                rw [← HR2.out, show c - k = (c - k - 1) + 1 by omega, readR, if_neg hne, ← HG.out, HLN.out, if_pos (by omega)]
              have HRN := Lib.hid hRn
              clear hRn
              go_wp2_with fail
              refine bodyPost_ret (results_tmp rfl _ _ _) rfl ?_
              rw [HRN.out]
              exact ⟨rfl, HF4.out⟩
            · have wd : IntKind.u64.wrap ((n2 : Int) - 8) = ((n2 - 8 : Nat) : Int) := by rw [IntKind.wrap_u64]; omega
              have dg : decide (((n2 - 8 : Nat) : Int) < (g : Int)) = false := by rw [decide_eq_false_iff_not]; omega
              have wg : IntKind.u64.wrap (8 + (g : Int)) = ((8 + g : Nat) : Int) := by rw [IntKind.wrap_u64]; omega
              have kg : ((8 + g : Nat) : Int) ≤ (cp2 : Int) := by omega
              have k8 : (8 : Int) ≤ ((8 + g : Nat) : Int) := by omega
              have k8c : (8 : Int) ≤ (cp2 : Int) := by omega
              have wk : IntKind.u32.wrap ((k : Int) + 1) = ((k + 1 : Nat) : Int) := by rw [IntKind.wrap_u32]; omega
              have HCV := Lib.hid HCV.out
              have hcv := HCV.out
              obtain ⟨X8, hX8⟩ : ∃ X8, X8 = strB (rest.take 8) := ⟨_, rfl⟩
              rw [← hX8] at hcv
              have HX8 := Lib.hid hX8
              clear hX8 F4'
              go_upto_region 16 with (fail)
              refine drawn_begin 14 (fun w' => w'.blk s = some (.cells SC2 75) ∧ w'.blk bb = some (.cells cs TT fr3)) (by kernel_rfl) ?_
              refine drawn_reads (fuel := 4) [0, 1, 2, 3, 4, 5, 6, 7, 11, 12, 13] rfl (by kernel_rfl) ⟨f4, f4b⟩ ?_
              repeat (first | (refine rowK_step2 rfl rfl (fun K hK => ?_); go_wp2) | (refine rowK_step rfl (fun K hK => ?_); go_simp; refine hK _ ?_; clear hK K))
              refine rowK_nil ⟨fun w' e1 => ?_, ?_⟩
              · obtain ⟨e1, e2⟩ := e1
                clear f4 f4b t4 hcv
                have hcv := HCV.out w' e2
                rw [← HX8.out] at hcv
                have t4 := World.at_lt e1
                repeat (first | (refine rowWp_step2 rfl rfl (fun K hK => ?_); go_wp2) | (refine rowWp_step rfl (fun K hK => ?_); go_simp; refine hK _ ?_; clear hK K))
                exact rowWp_nil rfl
              refine drawn_next 8 (fuel := 3) rfl (by kernel_rfl) ?_
              intro K hK
              go_wp2_with fail
              have c8 : ¬ cp2 = 8 := by omega
              have SP1 : Sl .u8 w4 (some ⟨bb, off + 8, none⟩) g (cp2 - 8) ((rest.drop 8).take g) := by
                have h := ((HS2.out.fr0 FF4.out)).part (i := 8) (j := 8 + g) (c := cp2) (by omega) (by omega) (by omega) (Nat.le_refl _)
                rw [if_neg c8, List.drop_take, Nat.add_sub_cancel_left] at h
                simpa [Addr.add_mid] using h
              have hPB : isBytes ((rest.drop 8).take g) := fun x hx => HB2.out x (List.mem_of_mem_drop (List.mem_of_mem_take hx))
              have hPL := SP1.len
              obtain ⟨P, hPe⟩ : ∃ P, P = (rest.drop 8).take g := ⟨_, rfl⟩
              rw [← hPe] at SP1 hPB hPL
              have HPE := Lib.hid hPe
              have HPB' := Lib.hid hPB
              have HS1' := Lib.hid SP1
              refine (record_f (k := k + 1) (by omega) (SP1.fr0 (Fr.refl [] w4).drew) hPB (by omega)).mono ?_
              rintro en w6 ⟨q6, m6, c6, rfl, B6⟩
              have F6 : Fr [] w4 w6 := (Fr.refl [] w4).drew.trans B6.own.fr
              have hrl : 8 ≤ m6 := by rw [← B6.len]; simp [recB, recH_length]
              have hcp6 := B6.sl.cap_
              have ht8 : (recB e (k + 1) P).take 8 = recH e (k + 1) P := by
                rw [recB, List.append_assoc, List.take_append_of_le_length (by rw [recH_length]; exact Nat.le_refl 8), List.take_of_length_le (by rw [recH_length]; exact Nat.le_refl 8)]
              have S6 : Sl .u8 w6 q6 8 c6 (recH e (k + 1) P) := by
                obtain ⟨b6, o6, cs6, T6, fr6, e6, fc6, h6, hx6⟩ := B6.sl.out (by omega)
                subst e6
                rw [← ht8]
                exact sl_pre fc6 h6 hx6 B6.len hrl hcp6
              have hcv6 := conv47 S6
              have f6 := F6.get f4 (by simp)
              have f6b := F6.get f4b (by simp)
              have k86 : (8 : Int) ≤ (c6 : Int) := by omega
              obtain ⟨Y8, hY8⟩ : ∃ Y8, Y8 = strB (recH e (k + 1) P) := ⟨_, rfl⟩
              rw [← hY8] at hcv6
              have HY8 := Lib.hid hY8
              have HF6 := Lib.hid F6
              have HFF := Lib.hid (HF4.out.trans (F6.mono (by simp)))
              clear F6 ht8 S6 B6 hY8 f4 f4b t4 SP1
              have t6 := World.at_lt f6
              go_wp2_with fail
              refine ⟨⟨f6, f6b⟩, ?_⟩
              refine drawn_next 9 (fuel := 2) rfl (by kernel_rfl) ?_
              intro K hK
              go_wp2_with fail
              refine ⟨⟨f6, f6b⟩, ?_⟩
              refine drawn_next 10 (fuel := 1) rfl (by kernel_rfl) ?_
              intro K hK
              go_wp2_with fail
              refine ⟨⟨f6, f6b⟩, ?_⟩
              refine drawn_end rfl (by kernel_rfl) ?_
              intro K hK
              obtain ⟨y, hy⟩ : ∃ y : Bool, y = decide (recH e (k + 1) P = rest.take 8) := ⟨_, rfl⟩
              have hbR : isBytes (recH e (k + 1) P) := Byt.append (byt_putB _ _) (byt_putB _ _)
              have hbe : (Y8.toList == X8.toList) = y := by
                rw [HY8.out, HX8.out, beq_str hbR (fun x hx => HB2.out x (List.mem_of_mem_take hx)), hy]
              have HYY := Lib.hid hy
              clear hy hcv hcv6 hbR
              have hne : ¬ rest = [] := fun h => hn0 (by rw [← HLN.out, h]; rfl)
              have hstep : R = if recH e (k + 1) P = rest.take 8 then (match rdPay P with
                  | none => none
                  | some l => if 64 < (allC L2 l).length then none else readR e (c - (k + 1)) (k + 1) (rest.drop ((8 + g + 63) / 64 * 64)) (allC L2 l)) else none := by
                rw [← HR2.out, show c - k = (c - (k + 1)) + 1 by omega, readR, if_neg hne, ← HG.out, HLN.out, if_neg (by omega), ← HPE.out]
                split <;> (cases rdPay P <;> rfl)
              have HST := Lib.hid hstep
              clear hne hstep
              cases y with
              | false =>
                have HRN := Lib.hid (HST.out.trans (if_neg (of_decide_eq_false HYY.out.symm)))
                go_wp2_with fail
                refine bodyPost_ret (results_tmp rfl _ _ _) rfl ?_
                rw [HRN.out]
                exact ⟨rfl, HFF.out⟩
              | true =>
                have HRS := Lib.hid (HST.out.trans (if_pos (of_decide_eq_true HYY.out.symm)))
                have HSP := Lib.hid (HS1'.out.fr0 HF6.out)
                go_wp2_with fail
                refine (unpack_f HSP.out HPB'.out (by omega)).mono ?_
                intro en w7 hU
                have hmap : MapAt w6 mb2 L2 gp := (HM2.out.fr0 (FF4.out.trans HF6.out))
                cases ho : rdPay P with
                | none =>
                  rw [ho] at hU
                  obtain ⟨rfl, F7⟩ := hU
                  have HRN := Lib.hid (HRS.out.trans (by rw [ho]))
                  have HM7 := Lib.hid (hmap.fr0 F7)
                  have f7 := F7.get f6 (by simp)
                  have HF7 := Lib.hid (HFF.out.trans (F7.mono (by simp)))
                  clear ho hmap F7 f6 f6b t6
                  have t7 := World.at_lt f7
                  have y6 := Array.getElem?_eq_some_iff.1 (show SC2[6]? = some (.map (some mb2)) by rw [HSC2.out]; rfl)
                  obtain ⟨y6', y6⟩ := y6
                  go_wp2_with fail
                  refine (apply_f HM7.out (fun k hk => Nat.lt_of_lt_of_le (HFP.out k hk) HF7.out.size) (l := []) ⟨[], ⟨rfl, Nat.le_refl _, .inl rfl, fun _ => rfl, by simp⟩, .nil⟩ (by simp) HSo2.out HBy2.out (by omega)).mono ?_
                  rintro en w8 ⟨b8, rfl, M8, F8, l8⟩
                  have f8 := F8.get f7 (by simp)
                  have HF8 := Lib.hid (fun o => (HF7.out.trans (F8.mono (by simp))).put s o (fun _ => by simp))
                  clear f7 t7 M8 F8 l8
                  have t8 := World.at_lt f8
                  go_wp2_with fail
                  refine bodyPost_ret (results_tmp rfl _ _ _) rfl ?_
                  rw [HRN.out]
                  exact ⟨rfl, HF8.out _⟩
                | some l =>
                  rw [ho] at hU
                  obtain ⟨q7, c7, rfl, C7, F7⟩ := hU
                  have F7' := Lib.hid F7
                  have HRL := Lib.hid (HRS.out.trans (by rw [ho]))
                  have HM7 := Lib.hid (hmap.fr0 F7)
                  have f7 := F7.get f6 (by simp)
                  have HF7 := Lib.hid (HFF.out.trans (F7.mono (by simp)))
                  clear hmap F7 f6 f6b t6
                  have t7 := World.at_lt f7
                  have y6 := Array.getElem?_eq_some_iff.1 (show SC2[6]? = some (.map (some mb2)) by rw [HSC2.out]; rfl)
                  obtain ⟨y6', y6⟩ := y6
                  have HOK := Lib.hid (rdPay_ok HPB'.out ho)
                  have hl64 := rdPay_len HPB'.out ho
                  clear ho
                  go_wp2_with fail
                  refine (apply_f HM7.out (fun k hk => Nat.lt_of_lt_of_le (HFP.out k hk) HF7.out.size) C7 HOK.out HSo2.out HBy2.out hl64).mono ?_
                  rintro en w8 ⟨b8, rfl, M8, F8, l8⟩
                  have f8 := F8.get f7 (by simp)
                  have nb1 : b8 ≠ s := by omega
                  have nb2 : s ≠ b8 := nb1.symm
                  obtain ⟨es, ck, hes, hez⟩ := M8.len
                  obtain ⟨z, hz⟩ : ∃ z, z = (allC L2 l).length := ⟨_, rfl⟩
                  rw [← hz] at hez
                  have HZ := Lib.hid hz
                  have hput : MapAt (w8.put s (.cells (stC d hs half e c i b8 br) 75)) b8 (allC L2 l) gp := M8.put f8 (by rw [HSC2.out]; exact stC_no)
                  have HM8 := Lib.hid hput
                  have HF8 := Lib.hid ((HF7.out.trans (F8.mono (by simp))).put s (.cells (stC d hs half e c i b8 br) 75) (fun _ => by simp))
                  have HB8 := Lib.hid (show Sl .u8 (w8.put s (.cells (stC d hs half e c i b8 br) 75)) (some ⟨bb, off, none⟩) n2 cp2 rest from (((HS2.out.fr0 FF4.out).fr0 HF6.out).fr0 (F7'.out.trans F8)).put2 (HQ2.out bb rfl))
                  have hset : SC2.setIfInBounds 6 (.map (some b8)) = stC d hs half e c i b8 br := by rw [HSC2.out]; rfl
                  have HSET := Lib.hid hset
                  clear hset
                  have t8 := World.at_lt f8
                  have tes := World.at_lt hes
                  have hln : ∀ W : World, W.blk b8 = some (.map es ck) → (Builtin.len_ #[70] 3 #[.map (some b8)]).run Try.prog W = .ok (.int .i64 (es.size : Int)) W := fun W hW => run_len_map W 70 3 b8 es ck (by kernel_rfl) hW
                  clear f7 t7 M8 F8 l8 hz hput C7
                  by_cases h64 : 64 < z
                  · have d64 : decide ((64 : Int) < (es.size : Int)) = true := by rw [decide_eq_true_eq]; omega
                    have HRN := Lib.hid (HRL.out.trans (if_pos (by rw [← HZ.out]; exact h64)))
                    go_wp2_with fail
                    refine bodyPost_ret (results_tmp rfl _ _ _) rfl ?_
                    rw [HRN.out]
                    rw [HSET.out]
                    exact ⟨rfl, HF8.out⟩
                  · have d64 : decide ((64 : Int) < (es.size : Int)) = false := by rw [decide_eq_false_iff_not]; omega
                    have HRN := Lib.hid (HRL.out.trans (if_neg (by rw [← HZ.out]; exact h64)))
                    go_wp2_with fail
                    go_roundw
                    case rel =>
                      rw [HSET.out, show 8 + g + 64 - 1 = 8 + g + 63 by omega]
                      obtain ⟨Z, hZ⟩ : ∃ Z, Z = (8 + g + 63) / 64 * 64 := ⟨_, rfl⟩
                      have hZn : Z ≤ n2 := by omega
                      have SP := HB8.out.part (i := Z) (j := n2) (c := cp2) hZn (Nat.le_refl _) hcp (Nat.le_refl _)
                      rw [List.take_of_length_le (Nat.le_of_eq HLN.out)] at SP
                      have hpe : (if cp2 = Z then some (⟨bb, off, none⟩ : Addr) else some ⟨bb, off + Z, none⟩) = if cp2 = Z then some (⟨bb, off, none⟩ : Addr) else (some (⟨bb, off, none⟩ : Addr)).map (·.add Z) := by
                        simp [Addr.add_mid]
                      rw [← hZ, hpe]
                      refine ⟨k + 1, _, _, _, by omega, rfl, by first | rfl | simp, Lib.hid ⟨HF8.out, b8, allC L2 l, rest.drop Z, World.at_put_same _ _ _ t8, HM8.out, SP, ?_, ?_, sorted_allC HSo2.out, byt_allC HBy2.out (fun c hc => (HOK.out c hc).nb), (fun x hx => HB2.out x (List.mem_of_mem_drop hx)), by omega, by omega⟩⟩
                      · intro g' hg'
                        have : g' = bb := by
                          split at hg'
                          · simpa using hg'.symm
                          · simpa [Addr.add_mid] using hg'.symm
                        subst this
                        exact HQ2.out g' rfl
                      · rw [HRN.out, hZ]
                    case measure => simp [intOf]; omega
        · obtain rfl : k = c := by omega
          have hd2 : decide ((k : Int) < (k : Int)) = false := by simp
          have hR0 : R = if rest = [] then some L2 else none := by rw [← HR2.out, Nat.sub_self, readR]
          have HR0 := Lib.hid hR0
          clear hR0
          by_cases hn0 : n2 = 0
          · have hr0 : rest = [] := List.eq_nil_of_length_eq_zero (by rw [HLN.out]; exact hn0)
            have HR1 := Lib.hid (HR0.out.trans (if_pos hr0))
            have d0 : ((n2 : Int) == 0) = true := by rw [hn0]; rfl
            clear hr0
            go_wp2_with fail
            refine bodyPost_ret (results_tmp rfl _ _ _) rfl ?_
            rw [HR1.out]
            exact ⟨⟨mb2, rfl, by rw [← HSC2.out]; exact fs, HM2.out⟩, HF2.out⟩
          · have hr0 : ¬ rest = [] := fun h => hn0 (by rw [← HLN.out, h]; rfl)
            have HR1 := Lib.hid (HR0.out.trans (if_neg hr0))
            have d0 : ((n2 : Int) == 0) = false := by rw [beq_eq_false_iff_ne]; omega
            clear hr0
            go_wp2_with fail
            refine bodyPost_ret (results_tmp rfl _ _ _) rfl ?_
            rw [HR1.out]
            exact ⟨rfl, HF2.out⟩
end
end Go.Proofs.Ytombhkekocbfoaa
namespace Go.Proofs.Ytombhkekocbfoaa
open Go.RowKit Go.Dr Go.Kd Go.St
theorem cast_add {a nb x : Nat} (h : nb = x) : (a : Int) + (nb : Int) = ((a + x : Nat) : Int) := by subst h; push_cast; rfl
section
variable {w : World}
set_option maxRecDepth 100000 in
set_option maxHeartbeats 8000000 in
theorem dOne_f {Q : Exit → Act → World → Prop} {tm : Array Value} {W : World} {r t half e c f i a n n2 d cp : Nat} {q q2 : Option Addr} {L : List (Bs × Bs)} {rest : Bs} {R : Option (List (Bs × Bs))} {av : List Nat}
    (hs : tm.size = 267) (h17 : tm.getD 17 undef = .pointer (some ⟨t, 0, none⟩)) (h18 : tm.getD 18 undef = .int .i64 (a : Int)) {k : Nat} (hk : k = i + 1) (h19 : tm.getD 19 undef = .int .i64 (k : Int)) (h20 : tm.getD 20 undef = .slice q2 n2 cp)
    (S : Sl .u8 W q2 n2 cp rest) (hb : isBytes rest) (hn64 : 64 ≤ n2) (hn : n2 ≤ 70000) (ha : a ≤ 4096) (hq2 : ∀ g, q2.map (·.block) = some g → g ≠ t)
    (ft : W.blk t = some (.cells (dsC r half e c f q n d false) 56 (0, 0))) (C : ChsA W (t :: av) q n d (asC L)) (hS : Sorted L) (hE : ∀ x ∈ L, EntOk x) (hL : L.length ≤ 64) (hav : ∀ b ∈ t :: av, b < W.heap.size)
    (hR : readR e (c - i) i rest L = R) (hic : i < c) (hc : c < 4294967296) (he : e < 18446744073709551616)
    (hret : ∀ tm' W', R = none → tm'.getD 2 undef = .pointer none → tm'.getD 3 undef = .int .i64 160 → Fr [t] W W' → Q .ret ⟨tm', []⟩ W')
    (hnext : ∀ tm' W' (g : Nat) L' q' n' d', tm'.size = 267 → tm'.getD 0 undef = tm.getD 0 undef → tm'.getD 4 undef = tm.getD 4 undef → tm'.getD 17 undef = tm.getD 17 undef → tm'.getD 19 undef = tm.getD 19 undef → tm'.getD 18 undef = .int .i64 ((a + (8 + g + 63) / 64 : Nat) : Int) → g + 8 ≤ n2 →
      W'.blk t = some (.cells (dsC r half e c f q' n' d' false) 56 (0, 0)) → ChsA W' (t :: av) q' n' d' (asC L') → Sorted L' → (∀ x ∈ L', EntOk x) → L'.length ≤ 64 → readR e (c - (i + 1)) (i + 1) (rest.drop ((8 + g + 63) / 64 * 64)) L' = R → Fr [t] W W' → Q .normal ⟨tm', []⟩ W') :
    (behind 3 dB1).wp Try.prog Q ⟨tm, []⟩ W := by
  have HRET := Lib.hid hret
  have HB := Lib.hid hb
  have HS := Lib.hid S
  have HC := Lib.hid C
  have HFT := Lib.hid ft
  have HSO := Lib.hid hS
  have HE := Lib.hid hE
  have HAV := Lib.hid hav
  have HR := Lib.hid hR
  have HQ2 := Lib.hid hq2
  have HLN := Lib.hid S.len
  have HK := Lib.hid hk
  have hkb : k < 4294967296 := by omega
  obtain ⟨x0, hx0⟩ : ∃ x, x = tm.getD 0 undef := ⟨_, rfl⟩
  obtain ⟨x4, hx4⟩ : ∃ x, x = tm.getD 4 undef := ⟨_, rfl⟩
  rw [← hx0, ← hx4, h17, h19] at hnext
  have HNEXT := Lib.hid hnext
  obtain ⟨u, rfl⟩ := frm_of hs
  have e0 : u 0 = x0 := hx0.symm
  have e4 : u 4 = x4 := hx4.symm
  have e17 : u 17 = _ := h17
  have e18 : u 18 = _ := h18
  have e19 : u 19 = _ := h19
  have e20 : u 20 = _ := h20
  clear hk hret hnext hb S C ft hS hE hav hR hq2 h17 h18 h19 h20 hs hx0 hx4
  conv => arg 2; whnf
  unfold frm22
  rw [e0, e4, e17, e18, e19, e20]
  clear e0 e4 e17 e18 e19 e20
  go_upto_region 39 with (fail)
  refine Eq.mp (congrArg (fun c => Code.wp Try.prog c _ _ _) (show d39 = _ from by kernel_rfl)) (d39_f (rest := rest) rfl rfl HS.out HB.out hn64 hn ?_)
  intro tm' W1 hs' s0 s4 s17 s18 s19 s20 s24 F1
  obtain ⟨v, rfl⟩ := frm_of hs'
  have e0 : v 0 = x0 := s0
  have e4 : v 4 = x4 := s4
  have e17 : v 17 = .pointer (some ⟨t, 0, none⟩) := s17
  have e18 : v 18 = .int .i64 (a : Int) := s18
  have e19 : v 19 = .int .i64 (k : Int) := s19
  have e20 : v 20 = .slice q2 n2 cp := s20
  have e24 : v 24 = .int .i64 ((getB (rest.take 4) : Nat) : Int) := s24
  unfold frm22
  rw [e0, e4, e17, e18, e19, e20, e24]
  have HF1 := Lib.hid F1
  clear e0 e4 e17 e18 e19 e20 e24 s0 s4 s17 s18 s19 s20 s24 hs' F1
  obtain ⟨g, hg⟩ : ∃ g, g = getB (rest.take 4) := ⟨_, rfl⟩
  rw [← hg]
  have HG := Lib.hid hg
  have HNE := Lib.hid (show ¬ rest = [] from fun h => by have := HLN.out; rw [h] at this; simp at this; omega)
  clear hg
  by_cases hgn : n2 < g + 8
  · have dg : decide ((n2 : Int) - 8 < (g : Int)) = true := by rw [decide_eq_true_eq]; omega
    have HRN := Lib.hid (show R = none by rw [← HR.out, show c - i = (c - i - 1) + 1 by omega, readR, if_neg HNE.out, ← HG.out, HLN.out, if_pos (by omega)])
    go_wp2_with fail
    exact HRET.out _ _ HRN.out rfl rfl (HF1.out.mono (by simp))
  have dg : decide ((n2 : Int) - 8 < (g : Int)) = false := by rw [decide_eq_false_iff_not]; omega
  obtain ⟨SC, hSC⟩ : ∃ SC, SC = dsC r half e c f q n d false := ⟨_, rfl⟩
  have f1 := HF1.out.get HFT.out (by simp)
  rw [← hSC] at f1
  have szC : SC.size = 7 := by rw [hSC]; rfl
  have x2 := Array.getElem?_eq_some_iff.1 (show SC[2]? = some (.int .u64 e) by rw [hSC]; rfl)
  obtain ⟨x2', x2⟩ := x2
  have x5 := Array.getElem?_eq_some_iff.1 (show SC[5]? = some (.slice q n d) by rw [hSC]; rfl)
  obtain ⟨x5', x5⟩ := x5
  have HSC := Lib.hid hSC
  have HS1 := Lib.hid (HS.out.fr0 HF1.out)
  obtain ⟨bb, off, cs, TT, fr, rfl, fb, hs2, hx⟩ := HS1.out.out (by omega)
  have hcp := HS1.out.cap_
  have k8 : (8 : Int) ≤ 8 + (g : Int) := by omega
  have k8c : 8 + (g : Int) ≤ (cp : Int) := by omega
  have k8d : (8 : Int) ≤ (cp : Int) := by omega
  have k8n : (8 + (g : Int)).toNat = 8 + g := by omega
  have c8 : ¬ cp = 8 := by omega
  have SP1 : Sl .u8 W1 (some ⟨bb, off + 8, none⟩) g (cp - 8) ((rest.drop 8).take g) := by
    have h := HS1.out.part (i := 8) (j := 8 + g) (c := cp) (by omega) (by omega) (by omega) (Nat.le_refl _)
    rw [if_neg c8, List.drop_take, Nat.add_sub_cancel_left] at h
    simpa [Addr.add_mid] using h
  have hPB : isBytes ((rest.drop 8).take g) := fun x hx => HB.out x (List.mem_of_mem_drop (List.mem_of_mem_take hx))
  have hPL := SP1.len
  obtain ⟨P, hPe⟩ : ∃ P, P = (rest.drop 8).take g := ⟨_, rfl⟩
  rw [← hPe] at SP1 hPB hPL
  have HPE := Lib.hid hPe
  have HPB := Lib.hid hPB
  have HSP := Lib.hid SP1
  have HPL := Lib.hid hPL
  have t1 := World.at_lt f1
  have tb := World.at_lt fb
  have HFB := Lib.hid fb
  have HF1' := Lib.hid f1
  obtain ⟨X8, hX8⟩ : ∃ X8, X8 = strB (rest.take 8) := ⟨_, rfl⟩
  have hcv : ∀ W : World, W.blk bb = some (.cells cs TT fr) → (convert 22 9 (.slice (some ⟨bb, off, none⟩) 8 cp)).run Try.prog W = .ok (.string X8) W := fun W hW => by
    rw [hX8]
    exact conv47 (sl_pre hW hs2 hx HLN.out (by omega) hcp)
  have HCV := Lib.hid hcv
  have HX8 := Lib.hid hX8
  clear hcv hX8 hSC hx hPe hPB SP1 hPL
  go_upto_region 42 with (fail)
  refine drawn_begin 10 (fun w' => w'.blk t = some (.cells SC 56) ∧ w'.blk bb = some (.cells cs TT fr)) (by kernel_rfl) ?_
  refine drawn_reads (fuel := 2) [0, 1, 2, 3, 4, 5, 6, 7, 8] rfl (by kernel_rfl) ⟨f1, fb⟩ ?_
  repeat (first | (refine rowK_step2 rfl rfl (fun K hK => ?_); go_wp2) | (refine rowK_step rfl (fun K hK => ?_); go_simp; refine hK _ ?_; clear hK K))
  refine rowK_nil ⟨fun w' e1 => ?_, ?_⟩
  · obtain ⟨e1, e2⟩ := e1
    clear f1 t1 fb tb
    have t1 := World.at_lt e1
    have tb := World.at_lt e2
    repeat (first | (refine rowWp_step2 rfl rfl (fun K hK => ?_); go_wp2) | (refine rowWp_step rfl (fun K hK => ?_); go_simp; refine hK _ ?_; clear hK K))
    exact rowWp_nil rfl
  refine drawn_next 9 (fuel := 1) rfl (by kernel_rfl) ?_
  intro K hK
  go_wp2_with fail
  refine (drec_f (k := k) he hkb (HSP.out.fr0 (Fr.refl [] W1).drew) HPB.out (by omega)).mono ?_
  rintro en w6 ⟨q6, m6, c6, rfl, B6⟩
  have F6 : Fr [] W1 w6 := (Fr.refl [] W1).drew.trans B6.own.fr
  have hrl : 8 ≤ m6 := by rw [← B6.len]; simp [recB, recH_length]
  have hm6 : m6 = (8 + g + 63) / 64 * 64 := by rw [← B6.len, recB_length, HPL.out]
  have hcp6 := B6.sl.cap_
  have ht8 : (recB e k P).take 8 = recH e k P := by
    rw [recB, List.append_assoc, List.take_append_of_le_length (by rw [recH_length]; exact Nat.le_refl 8), List.take_of_length_le (by rw [recH_length]; exact Nat.le_refl 8)]
  obtain ⟨b6, o6, cs6, T6, fr6, rfl, fc6, h6, hx6⟩ := B6.sl.out (by omega)
  obtain ⟨Y8, hY8⟩ : ∃ Y8, Y8 = strB (recH e k P) := ⟨_, rfl⟩
  have hcv6 : ∀ W : World, W.blk b6 = some (.cells cs6 T6 fr6) → (convert 22 9 (.slice (some ⟨b6, o6, none⟩) 8 c6)).run Try.prog W = .ok (.string Y8) W := fun W hW => by
    rw [hY8, ← ht8]
    exact conv47 (sl_pre hW h6 hx6 B6.len hrl hcp6)
  have HCV6 := Lib.hid hcv6
  have HY8 := Lib.hid hY8
  have HF6 := Lib.hid F6
  have HM6 := Lib.hid hm6
  have HFC6 := Lib.hid fc6
  have f6 := F6.get f1 (by simp)
  have f6b := F6.get fb (by simp)
  clear B6 F6 ht8 h6 hx6 hY8 hcv6 f1 t1 fb tb hm6 fc6
  have t6 := World.at_lt f6
  go_wp2_with fail
  refine ⟨⟨f6, f6b⟩, ?_⟩
  refine drawn_end rfl (by kernel_rfl) ?_
  intro K hK
  clear f6 t6 f6b
  go_wp2_with fail
  refine (dchanges_f (HSP.out.fr0 HF6.out) HPB.out (by omega)).mono ?_
  intro en w7 hU
  have hstep : R = if recH e k P = rest.take 8 then (match rdPay P with
      | none => none
      | some l => if 64 < (allC L l).length then none else readR e (c - (i + 1)) (i + 1) (rest.drop ((8 + g + 63) / 64 * 64)) (allC L l)) else none := by
    rw [← HR.out, HK.out, show c - i = (c - (i + 1)) + 1 by omega, readR, if_neg HNE.out, ← HG.out, HLN.out, if_neg (by omega), ← HPE.out]
    split <;> (cases rdPay P <;> rfl)
  have HST := Lib.hid hstep
  clear hstep
  cases ho : rdPay P with
  | none =>
    rw [ho] at hU
    obtain ⟨rfl, F7⟩ := hU
    have HRN := Lib.hid (show R = none from HST.out.trans (by rw [ho]; split <;> rfl))
    have HF7 := Lib.hid (HF1.out.trans (HF6.out.trans F7))
    clear ho F7
    go_upto_region 44 with (fail)
    refine drawn_begin 10 (fun w' => w'.os = w'.os) (by kernel_rfl) ?_
    refine drawn_reads (fuel := 1) [0, 1, 2, 3, 4, 5, 6, 7, 8, 9] rfl (by kernel_rfl) rfl ?_
    repeat (first | (refine rowK_step2 rfl rfl (fun K hK => ?_); go_wp2) | (refine rowK_step rfl (fun K hK => ?_); go_simp; refine hK _ ?_; clear hK K))
    refine rowK_nil ⟨fun w' => ?_, ?_⟩
    · repeat (first | (refine rowWp_step2 rfl rfl (fun K hK => ?_); go_wp2) | (refine rowWp_step rfl (fun K hK => ?_); go_simp; refine hK _ ?_; clear hK K))
      exact rowWp_nil rfl
    refine drawn_end rfl (by kernel_rfl) ?_
    intro K hK
    go_wp2_with fail
    exact HRET.out _ _ HRN.out rfl rfl ((HF7.out.drew).mono (by simp))
  | some l =>
    rw [ho] at hU
    obtain ⟨q7, c7, w7', rfl, G7, F7⟩ := hU
    have HST2 := Lib.hid (HST.out.trans (by rw [ho]))
    have HOK := Lib.hid (rdPay_ok HPB.out ho)
    have hl64 := rdPay_len HPB.out ho
    have HA7 := Lib.hid (G7.away (av := t :: av) (fun b hb => Nat.lt_of_lt_of_le (HAV.out b hb) (HF1.out.trans (HF6.out.trans F7)).size))
    have HF7 := Lib.hid (HF6.out.trans (F7.trans G7.own.fr))
    have HF67 := Lib.hid (F7.trans G7.own.fr)
    obtain ⟨nl, hnl⟩ : ∃ nl, nl = l.length := ⟨_, rfl⟩
    rw [← hnl] at hl64 HA7 ⊢
    have fb7 := HF7.out.get HFB.out (by simp)
    have f67 := HF67.out.get HFC6.out (by simp)
    have hcv := HCV.out
    have hcv6 := HCV6.out
    have tb := World.at_lt fb7
    have t6 := World.at_lt f67
    have HNL := Lib.hid hnl
    clear ho G7 F7 hnl
    have k86 : (8 : Int) ≤ (c6 : Int) := by omega
    obtain ⟨y, hy⟩ : ∃ y : Bool, y = decide (recH e k P = rest.take 8) := ⟨_, rfl⟩
    have hbR : isBytes (recH e k P) := Byt.append (byt_putB _ _) (byt_putB _ _)
    have hbe : (Y8.toList == X8.toList) = y := by
      rw [HY8.out, HX8.out, beq_str hbR (fun x hx => HB.out x (List.mem_of_mem_take hx)), hy]
    have HYY := Lib.hid hy
    clear hy hbR
    go_upto_region 44 with (fail)
    refine drawn_begin 10 (fun w' => w'.blk bb = some (.cells cs TT fr) ∧ w'.blk b6 = some (.cells cs6 T6 fr6)) (by kernel_rfl) ?_
    refine drawn_reads (fuel := 1) [0, 1, 2, 3, 4, 5, 6, 7, 8, 9] rfl (by kernel_rfl) ⟨fb7, f67⟩ ?_
    repeat (first | (refine rowK_step2 rfl rfl (fun K hK => ?_); go_wp2) | (refine rowK_step rfl (fun K hK => ?_); go_simp; refine hK _ ?_; clear hK K))
    refine rowK_nil ⟨fun w' e1 => ?_, ?_⟩
    · obtain ⟨e1, e2⟩ := e1
      clear fb7 f67 tb t6 hcv hcv6
      have hcv := HCV.out w' e1
      have hcv6 := HCV6.out w' e2
      have tb := World.at_lt e1
      have t6 := World.at_lt e2
      repeat (first | (refine rowWp_step2 rfl rfl (fun K hK => ?_); go_wp2) | (refine rowWp_step rfl (fun K hK => ?_); go_simp; refine hK _ ?_; clear hK K))
      exact rowWp_nil rfl
    refine drawn_end rfl (by kernel_rfl) ?_
    intro K hK
    clear hbe hcv hcv6 fb7 f67 tb t6
    cases y with
    | false =>
      have HRN := Lib.hid (HST2.out.trans (if_neg (of_decide_eq_false HYY.out.symm)))
      go_wp2_with fail
      exact HRET.out _ _ HRN.out rfl rfl ((HF1.out.trans HF7.out).drew.mono (by simp))
    | true =>
      have HRN := Lib.hid (HST2.out.trans (if_pos (of_decide_eq_true HYY.out.symm)))
      have f17 := HF7.out.drew.get HF1'.out (by simp)
      have t17 := World.at_lt f17
      go_wp2_with fail
      have hCL : (asC L).length = n := HC.out.chs.len
      have hLL : L.length = n := by rw [← hCL, asC, List.length_map]
      have hFW : Fr [] W w7.drew := (HF1.out.trans HF7.out).drew
      have HFW := Lib.hid hFW
      refine (dall_f (av := t :: av) (fun b hb => Nat.lt_of_lt_of_le (HAV.out b hb) hFW.size) (HC.out.fr0 hFW) (fun x hx => (HE.out x hx).nb) HSO.out (by omega) (HA7.out.fr0 (Fr.refl [] w7).drew) (fun c hc => (HOK.out c hc).nb) (by omega)).mono ?_
      rintro en w8 ⟨q8, k8, c8, rfl, C8, F8⟩
      have hk8 : (asC (allC L l)).length = k8 := C8.chs.len
      rw [asC, List.length_map] at hk8
      have HK8 := Lib.hid hk8
      have HC8 := Lib.hid C8
      have HFW8 := Lib.hid (hFW.trans F8)
      have f18 := F8.get f17 (by simp)
      have HF18 := Lib.hid f18
      have hk8b : k8 ≤ 10000 := by
        have := allC_le l L
        have := HNL.out
        omega
      have HSET := Lib.hid (show SC.setIfInBounds 5 (.slice q8 k8 c8) = dsC r half e c f q8 k8 c8 false from by rw [HSC.out]; rfl)
      clear C8 F8 hk8 f17 t17 hCL hLL hFW
      have t18 := World.at_lt f18
      obtain ⟨nb, hnb⟩ : ∃ nb, nb = (8 + g + 63) / 64 := ⟨_, rfl⟩
      have hq6 : (m6 : Int).tdiv 64 = (nb : Int) := by
        have := HM6.out
        rw [Int.tdiv_eq_ediv_of_nonneg (by omega)]
        omega
      have hnbb : nb ≤ 100000 := by omega
      have HNB := Lib.hid hnb
      clear hnb
      by_cases h64 : 64 < k8
      · have d64 : decide ((64 : Int) < (k8 : Int)) = true := by rw [decide_eq_true_eq]; omega
        have HRN2 := Lib.hid (HRN.out.trans (if_pos (by rw [HK8.out]; exact h64)))
        go_wp2_with fail
        exact HRET.out _ _ HRN2.out rfl rfl ((HFW8.out.mono (by simp)).put t _ (fun _ => by simp))
      have d64 : decide ((64 : Int) < (k8 : Int)) = false := by rw [decide_eq_false_iff_not]; omega
      have HRN2 := Lib.hid (HRN.out.trans (if_neg (by rw [HK8.out]; exact h64)))
      go_wp2_with fail
      rw [HSET.out]
      refine HNEXT.out _ _ g (allC L l) q8 k8 c8 rfl rfl rfl rfl rfl (congrArg (Value.int .i64) (cast_add HNB.out)) (by omega) (World.at_put_same _ _ _ t18) ?_ (sorted_allC HSO.out) (ent_allC HE.out HOK.out) (by rw [HK8.out]; omega) HRN2.out.symm ((HFW8.out.mono (by simp)).put t _ (fun _ => by simp))
      exact HC8.out.fr ((Fr.refl (t :: av) w8).put t _ (fun _ => by simp)) (fun k hk => .inl hk)
end
end Go.Proofs.Ytombhkekocbfoaa
namespace Go.Proofs.Ytombhkekocbfoaa
open Go.RowKit Go.Dr Go.Kd Go.St
/-- Between two records, as the document's Open has it. -/
structure DRd (w : World) (r t half e c f h : Nat) (m : DM) (av : List Nat) (R : Option (List (Bs × Bs))) (i a : Nat) (tm : Array Value) (W : World) : Prop where
  sz : tm.size = 267
  s0 : tm.getD 0 undef = .pointer (some ⟨r, 0, none⟩)
  s4 : tm.getD 4 undef = .int .i64 (h : Int)
  s17 : tm.getD 17 undef = .pointer (some ⟨t, 0, none⟩)
  s18 : tm.getD 18 undef = .int .i64 (a : Int)
  s19 : tm.getD 19 undef = .int .i64 ((i + 1 : Nat) : Int)
  ic : i ≤ c
  a1 : 1 ≤ a
  af : a ≤ f
  ex : ∃ L q n d, W.blk t = some (.cells (dsC r half e c f q n d false) 56 (0, 0)) ∧ ChsA W (t :: av) q n d (asC L) ∧ Sorted L ∧ (∀ x ∈ L, EntOk x) ∧ L.length ≤ 64 ∧ readR e (c - i) i ((recsM m half f).drop (64 * (a - 1))) L = R
  fr : Fr [t] w W
section
variable {w : World}
set_option maxRecDepth 100000 in
set_option maxHeartbeats 8000000 in
theorem dRnd_f {Q : Exit → Act → World → Prop} {tm : Array Value} {W : World} {r t half e c f h i a : Nat} {m : DM} {fp av : List Nat} {R : Option (List (Bs × Bs))} (I : DRd w r t half e c f h m av R i a tm W)
    (D : RefAt w r m fp) (htf : t ∉ fp) (hav : ∀ b ∈ t :: av, b < w.heap.size) (hh : h = m.n / 2) (hN1 : m.n ≤ 1024) (hmb : isBytes m.seen) (hsk : m.seen = layW m.kept m.waits) (hwl : m.waits.length ≤ 1000000) (hdd : m.dead = false)
    (hhalf : half ≤ 1) (hfh : f ≤ h) (hc : c < 4294967296) (he : e < 18446744073709551616)
    (hret : ∀ tm' W', R = none → tm'.getD 2 undef = .pointer none → tm'.getD 3 undef = .int .i64 160 → Fr [t] w W' → Q .ret ⟨tm', []⟩ W')
    (hnext : ∀ tm' W' a', DRd w r t half e c f h m av R (i + 1) a' tm' W' → Q .normal ⟨tm', []⟩ W')
    (hout : ∀ tm' W', i = c → DRd w r t half e c f h m av R i a tm' W' → Q (.exit 0) ⟨tm', []⟩ W') :
    dRnd.wp Try.prog Q ⟨tm, []⟩ W := by
  obtain ⟨sz, s0, s4, s17, s18, s19, ic, a1, af, ⟨L, q, n, d, ft, C, hS, hE, hL, hR⟩, F0⟩ := I
  obtain ⟨u, rfl⟩ := frm_of sz
  have e0 : u 0 = _ := s0
  have e4 : u 4 = _ := s4
  have e17 : u 17 = _ := s17
  have e18 : u 18 = _ := s18
  have e19 : u 19 = _ := s19
  obtain ⟨k, hk⟩ : ∃ k, k = i + 1 := ⟨_, rfl⟩
  rw [← hk] at e19
  have HRET := Lib.hid hret
  have HNEXT := Lib.hid hnext
  have HOUT := Lib.hid hout
  have HD := Lib.hid D
  have HC := Lib.hid C
  have HFT := Lib.hid ft
  have HSO := Lib.hid hS
  have HE := Lib.hid hE
  have HAV := Lib.hid hav
  have HR := Lib.hid hR
  have HF0 := Lib.hid F0
  have HMB := Lib.hid hmb
  have HSK := Lib.hid hsk
  have HDD := Lib.hid hdd
  have HTF := Lib.hid htf
  have HK := Lib.hid hk
  have HH := Lib.hid hh
  have HSL := Lib.hid D.ok.sl
  have hh2 : h ≤ 512 := by omega
  obtain ⟨P, hP⟩ : ∃ P, P = half * h := ⟨_, rfl⟩
  have hmul : (half : Int) * (h : Int) = (P : Int) := by subst hP; push_cast; rfl
  have hPb : P ≤ h := by
    rcases Nat.le_one_iff_eq_zero_or_eq_one.1 hhalf with h | h <;> subst h <;> omega
  have HMUL := Lib.hid hmul
  have HP := Lib.hid hP
  clear hP hmul
  obtain ⟨N, hN⟩ : ∃ N, N = m.n := ⟨_, rfl⟩
  have hN2 : 2 * h ≤ N := by omega
  have HN := Lib.hid hN
  have hki : k = i + 1 := hk
  have hkc : k ≤ c + 1 := by omega
  clear hret hnext hout D C hS hE hav hR F0 hmb hsk hdd htf hk hh hN s0 s4 s17 s18 s19 sz
  conv => arg 2; whnf
  unfold frm22
  rw [e0, e4, e17, e18, e19]
  clear e0 e4 e17 e18 e19
  obtain ⟨SC, hSC⟩ : ∃ SC, SC = dsC r half e c f q n d false := ⟨_, rfl⟩
  rw [← hSC] at ft
  have szC : SC.size = 7 := by rw [hSC]; rfl
  obtain ⟨x1', x1⟩ := Array.getElem?_eq_some_iff.1 (show SC[1]? = some (.int .i64 half) by rw [hSC]; rfl)
  obtain ⟨x3', x3⟩ := Array.getElem?_eq_some_iff.1 (show SC[3]? = some (.int .i64 c) by rw [hSC]; rfl)
  obtain ⟨x4', x4⟩ := Array.getElem?_eq_some_iff.1 (show SC[4]? = some (.int .i64 f) by rw [hSC]; rfl)
  have tt := World.at_lt ft
  have HSC := Lib.hid hSC
  clear hSC hkc
  by_cases hlt : i < c
  · have hkc1 : k ≤ c := by omega
    have hd : decide ((k : Int) ≤ (c : Int)) = true := by rw [decide_eq_true_eq]; omega
    clear hki
    by_cases haf : f ≤ a
    · have hd2 : decide ((f : Int) ≤ (a : Int)) = true := by rw [decide_eq_true_eq]; omega
      have HRN := Lib.hid (show R = none by
        rw [← HR.out, show a = f by omega, show c - i = (c - i - 1) + 1 by omega, readR, if_pos]
        exact List.drop_of_length_le (by rw [recsM, List.length_take]; omega))
      go_wp2_with fail
      exact HRET.out _ _ HRN.out rfl rfl HF0.out
    have hd2 : decide ((f : Int) ≤ (a : Int)) = false := by rw [decide_eq_false_iff_not]; omega
    go_upto_region 34 with (fail)
    rename_i K3 h3 K39 h39 Kb hb2
    have H3 := Lib.hid h3
    have H39 := Lib.hid h39
    clear h3 h39
    obtain ⟨ACC, hACC⟩ : ∃ ACC : Nat → Bs, ACC = fun j => (m.seen.drop ((P + a) * 64)).take ((j - a) * 64) := ⟨_, rfl⟩
    have HAC := Lib.hid hACC
    have HDW := Lib.hid (HD.out.frame HF0.out (fun k hk hm => by
      rw [List.mem_singleton] at hm
      subst hm
      exact HTF.out hk))
    clear hACC
    go_wp2_with fail
    go_loopw [20, 21] (fun v jv wy => ∃ (j : Nat) (q2 : Option Addr) (cp : Nat), a ≤ j ∧ j ≤ f ∧ v = .slice q2 ((j - a) * 64) cp ∧ jv = .int .i64 (j : Int) ∧ Hid (Bld W [] .u8 5 wy q2 ((j - a) * 64) cp (ACC j))) (fun _ jv _ => (f - intOf jv).toNat)
    case atStart => exact ⟨a, none, 0, Nat.le_refl _, af, by rw [Nat.sub_self], rfl, Lib.hid (by rw [HAC.out]; simp only [Nat.sub_self, Nat.zero_mul, List.take_zero]; exact Bld.nil (OwB.start W))⟩
    case round =>
      obtain ⟨j, q2, cp, haj, hjf, rfl, rfl, hW⟩ := hrel
      have f1 := hW.out.own.fr.get ft (by simp)
      have t1 := World.at_lt f1
      by_cases hlj : j < f
      · have hd3 : decide ((j : Int) < (f : Int)) = true := by rw [decide_eq_true_eq]; omega
        have hmul := HMUL.out
        go_wp2_with fail
        clear hmul
        refine (rread_any (HDW.out.fr0 hW.out.own.fr) ((P : Int) + (j : Int)) HSK.out hwl).mono ?_
        rintro en w2 ⟨v, rfl, hv, F2⟩
        have hpi : (P : Int) + (j : Int) = ((P + j : Nat) : Int) := by omega
        have hnn := HN.out
        have hrd : readM m ((P + j : Nat) : Int) = (0, blockOf m.seen (P + j)) := by
          unfold readM
          rw [show noBlock m ((P + j : Nat) : Int) = false by simp [noBlock]; omega, HDD.out]
          rfl
        rw [hpi, hrd] at hv ⊢
        have hbk : (blockOf m.seen (P + j)).length = 64 := by
          have := HSL.out
          simp [blockOf]; omega
        have hvs : ∃ q3 c3, v = .slice q3 64 c3 ∧ Sl .u8 w2 q3 64 c3 (blockOf m.seen (P + j)) := by
          rcases hv with ⟨_, h⟩ | ⟨bb, B, _⟩
          · have h2 : blockOf m.seen (P + j) = [] := h
            rw [h2] at hbk
            cases hbk
          · obtain ⟨q2, c2, h1, h2⟩ := B.sl
            have h3 : (blockOf m.seen (P + j)).length = 64 := hbk
            rw [show ((0 : Int), blockOf m.seen (P + j)).2 = blockOf m.seen (P + j) from rfl, h3] at h1 h2
            exact ⟨q2, c2, h1, h2⟩
        obtain ⟨q3, c3, rfl, S3⟩ := hvs
        have hacc : ACC (j + 1) = ACC j ++ blockOf m.seen (P + j) := by
          rw [HAC.out]
          have h := seg_step (l := m.seen) (a := P + a) (i := j - a) (by have := HSL.out; omega)
          rw [show P + a + (j - a) = P + j by omega, show j - a + 1 = j + 1 - a by omega] at h
          exact h
        have HACJ := Lib.hid hacc
        have HS3 := Lib.hid S3
        have HW2 := Lib.hid (hW.out.call F2)
        have hjb : (j - a) * 64 ≤ 70000 := by omega
        clear hpi hrd hv hbk hacc S3 hW F2 f1 t1 hnn
        go_wp2_with (refine wpList_app47 rfl _ _ rfl rfl HW2.out rfl HS3.out (by omega) ?_)
        intro q5 c5 W5 B5
        have HB5 := Lib.hid B5
        clear B5 HW2 HS3
        go_wp2_with fail
        have ez : (j - a) * 64 + 64 = (j + 1 - a) * 64 := by omega
        go_roundw
        case rel => exact ⟨j + 1, q5, c5, by omega, hlj, by rw [ez], by first | rfl | simp, Lib.hid (by rw [HACJ.out, ← ez]; exact HB5.out)⟩
        case measure => simp [intOf]; omega
      · obtain rfl : j = f := by omega
        have hd3 : decide ((j : Int) < (j : Int)) = false := by simp
        go_wp2_with fail
        refine H39.out _ _ ?_
        have hrest : (recsM m half j).drop (64 * (a - 1)) = ACC j := by
          rw [HAC.out, recsM, ← HH.out, ← HP.out, List.drop_take, List.drop_drop]
          congr 2 <;> omega
        obtain ⟨n2, hn2⟩ : ∃ n2, n2 = (j - a) * 64 := ⟨_, rfl⟩
        have hb := hW.out
        rw [← hn2] at hb ⊢
        have HHB := Lib.hid hb
        have hbl : ∀ g, q2.map (·.block) = some g → g ≠ t := fun g hg e => by
          have h1 := (HHB.out.new g hg).1
          have h2 := World.at_lt HFT.out
          omega
        have hfr := HHB.out.own.fr
        refine Eq.mp (congrArg (fun c => Code.wp Try.prog c _ _ _) (show behind 3 dB1 = _ from by kernel_rfl)) (dOne_f (r := r) (t := t) (half := half) (e := e) (c := c) (f := j) (i := i) (a := a) (n := n) (n2 := n2) (d := d) (cp := cp) (q := q) (q2 := q2) (L := L) (rest := ACC j) (R := R) (av := av) rfl rfl rfl HK.out rfl rfl HHB.out.sl ?_ (by omega) (by omega) (by omega) hbl (hfr.get HFT.out (by simp)) (HC.out.fr0 hfr) HSO.out HE.out hL (fun b hb => Nat.lt_of_lt_of_le (HAV.out b hb) (Nat.le_trans HF0.out.size hfr.size)) (by rw [← hrest]; exact HR.out) hlt hc he ?_ ?_)
        · intro x hx
          rw [HAC.out] at hx
          exact HMB.out x (List.mem_of_mem_drop (List.mem_of_mem_take hx))
        · intro tm' W' hRN h2 h3 F
          exact HRET.out tm' W' hRN h2 h3 ((HF0.out.seq hfr (by simp)).seq F (fun k hk _ => hk))
        · intro tm' W' g L' q' n' d' z0 z1 z2 z3 z4 z5 hg ft' C' hS' hE' hL' hR' F'
          obtain ⟨v, rfl⟩ := frm_of z0
          have e0 : v 0 = .pointer (some ⟨r, 0, none⟩) := z1
          have e4 : v 4 = .int .i64 (h : Int) := z2
          have e17 : v 17 = .pointer (some ⟨t, 0, none⟩) := z3
          have e19 : v 19 = .int .i64 (k : Int) := z4
          have e18 : v 18 = .int .i64 ((a + (8 + g + 63) / 64 : Nat) : Int) := z5
          obtain ⟨a', ha'⟩ : ∃ a', a' = a + (8 + g + 63) / 64 := ⟨_, rfl⟩
          have hrest2 : (ACC j).drop ((8 + g + 63) / 64 * 64) = (recsM m half j).drop (64 * (a' - 1)) := by
            rw [← hrest, List.drop_drop]
            congr 1
            omega
          rw [hrest2] at hR'
          rw [← ha'] at e18
          have HRR := Lib.hid hR'
          have HA' := Lib.hid (show 1 ≤ a' ∧ a' ≤ j by omega)
          have HF' := Lib.hid ((HF0.out.seq hfr (by simp)).seq F' (fun k hk _ => hk))
          have HI := Lib.hid (show ∃ L q n d, W'.blk t = some (.cells (dsC r half e c j q n d false) 56 (0, 0)) ∧ ChsA W' (t :: av) q n d (asC L) ∧ Sorted L ∧ (∀ x ∈ L, EntOk x) ∧ L.length ≤ 64 ∧ readR e (c - (i + 1)) (i + 1) ((recsM m half j).drop (64 * (a' - 1))) L = R from ⟨L', q', n', d', ft', C', hS', hE', hL', HRR.out⟩)
          refine H3.out _ _ ?_
          clear hrest hn2 hb hbl hfr z0 z1 z2 z3 z4 z5 ft' C' hS' hE' hL' hR' F' ha' hrest2
          unfold frm22
          rw [e0, e4, e17, e18, e19]
          clear e0 e4 e17 e18 e19
          go_wp2_with fail
          refine HNEXT.out _ _ a' ⟨rfl, rfl, rfl, rfl, rfl, ?_, hlt, HA'.out.1, HA'.out.2, HI.out, HF'.out⟩
          have := HK.out
          subst this
          exact congrArg (Value.int .i64) (by push_cast; rfl)
  · have hkc1 : ¬ k ≤ c := by omega
    have hd : decide ((k : Int) ≤ (c : Int)) = false := by rw [decide_eq_false_iff_not]; omega
    have HIC := Lib.hid (show i = c by omega)
    clear hki
    go_wp2_with fail
    refine HOUT.out _ _ HIC.out ⟨rfl, rfl, rfl, rfl, rfl, ?_, ic, a1, af, ⟨L, q, n, d, HFT.out, HC.out, HSO.out, HE.out, hL, HR.out⟩, HF0.out⟩
    exact congrArg (fun x : Nat => Value.int .i64 (x : Int)) HK.out
end
end Go.Proofs.Ytombhkekocbfoaa
namespace Go.Proofs.Ytombhkekocbfoaa
open Go.RowKit Go.Dr Go.Kd Go.St
section
variable {w : World}
set_option maxRecDepth 100000 in
set_option maxHeartbeats 8000000 in
theorem d27_f {Q : Exit → Act → World → Prop} {tm : Array Value} {W : World} {r t half e c f h : Nat} {m : DM} {fp av : List Nat} {R : Option (List (Bs × Bs))}
    (sz : tm.size = 267) (s0 : tm.getD 0 undef = .pointer (some ⟨r, 0, none⟩)) (s4 : tm.getD 4 undef = .int .i64 (h : Int)) (s17 : tm.getD 17 undef = .pointer (some ⟨t, 0, none⟩))
    (ft : W.blk t = some (.cells (dsC r half e c f none 0 0 false) 56 (0, 0))) (hR : readR e c 0 (recsM m half f) [] = R)
    (D : RefAt W r m fp) (htf : t ∉ fp) (hav : ∀ b ∈ t :: av, b < W.heap.size) (hh : h = m.n / 2) (hN1 : m.n ≤ 1024) (hmb : isBytes m.seen) (hsk : m.seen = layW m.kept m.waits) (hwl : m.waits.length ≤ 1000000) (hdd : m.dead = false)
    (hhalf : half ≤ 1) (hf1 : 1 ≤ f) (hfh : f ≤ h) (hc : c < 4294967296) (he : e < 18446744073709551616)
    (hret : ∀ tm' W', R = none → tm'.getD 2 undef = .pointer none → tm'.getD 3 undef = .int .i64 160 → Fr [t] W W' → Q .ret ⟨tm', []⟩ W')
    (hok : ∀ tm' W' L q n d, R = some L → tm'.getD 2 undef = .pointer (some ⟨t, 0, none⟩) → tm'.getD 3 undef = .int .i64 0 → W'.blk t = some (.cells (dsC r half e c f q n d false) 56 (0, 0)) → ChsA W' (t :: av) q n d (asC L) → Fr [t] W W' → Q .ret ⟨tm', []⟩ W') :
    d27.wp Try.prog Q ⟨tm, []⟩ W := by
  obtain ⟨u, rfl⟩ := frm_of sz
  have e0 : u 0 = _ := s0
  have e4 : u 4 = _ := s4
  have e17 : u 17 = _ := s17
  have HRET := Lib.hid hret
  have HOK := Lib.hid hok
  have HD := Lib.hid D
  have HFT := Lib.hid ft
  have HAV := Lib.hid hav
  have HR := Lib.hid hR
  have HMB := Lib.hid hmb
  have HSK := Lib.hid hsk
  have HDD := Lib.hid hdd
  have HTF := Lib.hid htf
  have HH := Lib.hid hh
  have HSL := Lib.hid D.ok.sl
  have hh2 : h ≤ 512 := by omega
  clear hret hok D hav hR hmb hsk hdd htf hh s0 s4 s17 sz ft
  conv => arg 2; whnf
  unfold frm22
  rw [e0, e4, e17]
  clear e0 e4 e17
  go_wp2_with fail
  rename_i K50 h50
  have H50 := Lib.hid h50
  have HLW := Lib.hid (show ∀ b ∈ t :: av, b < W.heap.size from HAV.out)
  clear h50
  refine wp_loop (fun A W' => A.defers = [] ∧ ∃ i a, DRd W r t half e c f h m av R i a A.tmps W') (fun A _ => (c + 1 - intOf (A.tmps.getD 19 undef)).toNat)
    ⟨rfl, 0, 1, rfl, rfl, rfl, rfl, rfl, rfl, Nat.zero_le _, Nat.le_refl _, hf1, ⟨[], none, 0, 0, HFT.out, ⟨[], ⟨rfl, Nat.le_refl _, .inl rfl, fun _ => rfl, by simp⟩, .nil, (fun u hu => by cases hu), fun h => absurd h (by omega)⟩, List.Pairwise.nil, (fun x hx => by cases hx), Nat.zero_le _, HR.out⟩, Fr.refl _ _⟩ ?_
  rintro ⟨tm', df⟩ W' ⟨hdf, i, a, I⟩
  have hdf : df = [] := hdf
  subst hdf
  refine Eq.mp (congrArg (fun c => Code.wp Try.prog c _ _ _) (show dRnd = _ from by kernel_rfl)) (dRnd_f I HD.out HTF.out HAV.out HH.out hN1 HMB.out HSK.out hwl HDD.out hhalf hfh hc he ?_ ?_ ?_)
  · intro tm2 W2 h1 h2 h3 F
    exact HRET.out tm2 W2 h1 h2 h3 F
  · intro tm2 W2 a' I2
    refine ⟨⟨rfl, i + 1, a', I2⟩, ?_⟩
    have h1 := I2.ic
    show (c + 1 - intOf (tm2.getD 19 undef)).toNat < (c + 1 - intOf (tm'.getD 19 undef)).toNat
    rw [I2.s19, I.s19]
    simp only [intOf]
    omega
  · intro tm2 W2 hic I2
    obtain ⟨v, rfl⟩ := frm_of I2.sz
    have e0 : v 0 = _ := I2.s0
    have e4 : v 4 = _ := I2.s4
    have e17 : v 17 = _ := I2.s17
    have e18 : v 18 = _ := I2.s18
    obtain ⟨L, q, n, d, ft, C, hS, hE, hL, hR⟩ := I2.ex
    have af := I2.af
    have a1 := I2.a1
    have HF2 := Lib.hid I2.fr
    have HFT2 := Lib.hid ft
    have HC2 := Lib.hid C
    have HR2 := Lib.hid (show readR e 0 c ((recsM m half f).drop (64 * (a - 1))) L = R by rw [hic, Nat.sub_self] at hR; exact hR)
    have hlen : (recsM m half f).length = (f - 1) * 64 := by
      have := HSL.out
      have := HH.out
      rw [recsM, List.length_take, List.length_drop]
      rcases Nat.le_one_iff_eq_zero_or_eq_one.1 hhalf with h | h <;> subst h <;> omega
    have HLEN := Lib.hid hlen
    refine H50.out _ _ ?_
    clear I I2 hS hE hL hR C hlen
    unfold frm22
    rw [e0, e4, e17, e18]
    clear e0 e4 e17 e18
    obtain ⟨SC, hSC⟩ : ∃ SC, SC = dsC r half e c f q n d false := ⟨_, rfl⟩
    rw [← hSC] at ft
    have szC : SC.size = 7 := by rw [hSC]; rfl
    obtain ⟨x4', x4⟩ := Array.getElem?_eq_some_iff.1 (show SC[4]? = some (.int .i64 f) by rw [hSC]; rfl)
    have tt := World.at_lt ft
    clear hSC
    by_cases haf : a = f
    · have HRL := Lib.hid (show R = some L by
        rw [← HR2.out, readR, if_pos]
        exact List.drop_of_length_le (by rw [HLEN.out, haf]; omega))
      have d0 : ((a : Int) == (f : Int)) = true := by rw [haf]; exact beq_self_eq_true _
      clear haf
      go_wp2_with fail
      exact HOK.out _ _ L q n d HRL.out rfl rfl HFT2.out HC2.out HF2.out
    · have HRL := Lib.hid (show R = none by
        rw [← HR2.out, readR, if_neg]
        intro h
        have := congrArg List.length h
        rw [List.length_drop, HLEN.out] at this
        simp at this
        omega)
      have d0 : ((a : Int) == (f : Int)) = false := by rw [beq_eq_false_iff_ne]; omega
      go_wp2_with fail
      exact HRET.out _ _ HRL.out rfl rfl HF2.out
end
end Go.Proofs.Ytombhkekocbfoaa
