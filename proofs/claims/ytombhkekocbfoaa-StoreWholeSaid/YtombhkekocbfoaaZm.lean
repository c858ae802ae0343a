/- Joined: SoJ, SoK, SoM, SoIt. -/
import Derived.Test.YtombhkekocbfoaaZl
import Derived.Test.YtombhkekocbfoaaZk
import Derived.Test.YtombhkekocbfoaaZg
import Derived.Shelf.SlIter.Nil
import Derived.Shelf.SortM.Plain
import Derived.Shelf.SortM.SortNone
import Derived.Ground.GgzProg
import Derived.Ground.SlgmProg
import Derived.Test.YtombhkekocbfoaaProg
set_option linter.unusedVariables false
set_option linter.unusedSimpArgs false
namespace Go.Proofs.Ytombhkekocbfoaa
open Go.RowKit Go.Dr Go.Kd Go.St
theorem bytesAt_sl {w : World} {bb off n cap : Nat} {l : Bs} (S : Sl .u8 w (some ⟨bb, off, none⟩) n cap l) (h : 0 < n) : BytesAt w (.slice (some ⟨bb, off, none⟩) n cap) bb l := by
  obtain ⟨b, o, cs, T, fr, e, fc, hs, hx⟩ := S.out h
  cases e
  have hl := S.len
  subst hl
  exact ⟨off, fr, cap, cs, T, rfl, fc, hs, S.cap_, by apply Array.ext'; rw [hx, toList_ints]⟩
theorem BytesAt.sl {w : World} {bb : Nat} {v : Value} {l : Bs} (B : BytesAt w v bb l) : ∃ q c, v = .slice q l.length c ∧ Sl .u8 w q l.length c l := by
  obtain ⟨off, fr, cap, cs, T, rfl, fc, hs, hc, hx⟩ := B
  exact ⟨_, _, rfl, Sl.of fc hs (by rw [hx, toList_ints]) hc⟩
/-- A store's cells. -/
def stC (d hs half e c f mb : Nat) (br : Bool) : Array Value := #[.pointer (some ⟨d, 0, none⟩), .int .i64 hs, .int .i64 half, .int .u64 e, .int .u32 c, .int .u32 f, .map (some mb), .bool br]
theorem diskAt_drew {w : World} {d : Nat} {m : DM} {fp : List Nat} (D : DiskAt w d m fp) : DiskAt w.drew d m fp := by
  obtain ⟨kb, sb, p, cap, D, e, ok⟩ := D
  exact ⟨kb, sb, p, cap, ⟨D.hd, D.hk, D.hs, D.hw, D.ne1, D.ne2, D.ne3, D.nw⟩, e, ok⟩
theorem wrM_drop {m : DM} {pos i : Nat} {bs : List Bs} {x : Bs} {M : DM} {k : Nat} (h : wrM m pos bs = wrM M k (bs.drop i)) (hx : bs[i]? = some x) :
    wrM m pos bs = if (writeM M k x).1 = 0 then wrM (writeM M k x).2 (k + 1) (bs.drop (i + 1)) else (false, (writeM M k x).2) := by
  obtain ⟨hi, he⟩ := List.getElem?_eq_some_iff.1 hx
  rw [h, List.drop_eq_getElem_cons hi, wrM, he]
theorem chunks_at {b : Bs} {k i : Nat} (h : b.length = 64 * k) (hi : i < k) : (chunks b)[i]? = some ((b.take (64 * i + 64)).drop (64 * i)) := by
  rw [chunks, List.getElem?_map, List.getElem?_range (by omega), Option.map_some, List.drop_take, show 64 * i + 64 - 64 * i = 64 by omega]
theorem writeM_n (m : DM) (a : Int) (b : Bs) : (writeM m a b).2.n = m.n := by
  unfold writeM
  have := (aliveM_same m).1
  split
  · rfl
  · split <;> exact this
theorem writeM_wl (m : DM) (a : Int) (b : Bs) : (writeM m a b).2.waits.length ≤ m.waits.length + 1 := by
  unfold writeM
  have := (aliveM_same m).2.2.2
  split
  · show m.waits.length ≤ _; omega
  · split
    · simp
    · show (aliveM m).waits.length ≤ _; rw [this]; omega
theorem writeM_err {m : DM} {a : Nat} {b : Bs} (h : a < m.n) (hb : b.length = 64) : (writeM m a b).1 = 0 ∨ (writeM m a b).1 = 150 := by
  unfold writeM
  rw [show argM m a b = false by simp [argM, hb]; omega]
  simp only [Bool.false_eq_true, if_false]
  split
  · exact .inl rfl
  · exact .inr rfl
theorem syncM_err (m : DM) : (syncM m).1 = 0 ∨ (syncM m).1 = 150 := by
  unfold syncM
  split
  · exact .inl rfl
  · exact .inr rfl
/-- write's answer. -/
def PutE (y : Bool) (E : Int) : Prop := match y with
  | true => E = 0
  | false => E = 150
section
variable {w : World}
set_option maxRecDepth 100000 in
set_option maxHeartbeats 8000000 in
theorem write_f {s d hs half e c f mb at_ pos k : Nat} {br : Bool} {fr : Nat × Nat} {m : DM} {fp : List Nat} (hst : w.blk s = some (.cells (stC d hs half e c f mb br) 75 fr)) (hsf : s ∉ fp) (D : DiskAt w d m fp)
    {p : Option Addr} {n cap h2 : Nat} {b : Bs} (S : Sl .u8 w p n cap b) (hpf : ∀ g, p.map (·.block) = some g → g ∉ fp) (hn : n = 64 * k) (hk : k ≤ 4096) (hpos : h2 * hs + at_ = pos) (hp : pos + k ≤ m.n) (hsb : hs ≤ 4096) (hhb : h2 ≤ 1) (hab : at_ ≤ 4096) (hwl : m.waits.length + k ≤ 1000000) :
    Calls Try.prog 33 #[.pointer (some ⟨s, 0, none⟩), .int .i64 (h2 : Int), .int .i64 (at_ : Int), .slice p n cap] w fun en w' => ∃ E : Int, en = .returned (.int .i64 E) ∧ PutE (putM m pos b).1 E ∧ ∃ fp', DiskAt w' d (putM m pos b).2 fp' ∧ Fr fp w w' ∧ News w fp fp' := by
  subst hn
  have HST := Lib.hid hst
  have HSF := Lib.hid hsf
  have HS := Lib.hid S
  have HP := Lib.hid hpf
  have HL := Lib.hid S.len
  have hN : m.n ≤ 4096 := by obtain ⟨_, _, _, _, _, _, ok⟩ := D; exact ok.n2
  obtain ⟨SC, hSC⟩ : ∃ SC, SC = stC d hs half e c f mb br := ⟨_, rfl⟩
  have z := congrArg Array.size hSC
  simp only [stC] at z
  rw [← hSC] at hst
  have szC : SC.size = 8 := by rw [hSC]; rfl
  have x0 := Array.getElem?_eq_some_iff.1 (show SC[0]? = some (.pointer (some ⟨d, 0, none⟩)) by rw [hSC]; rfl)
  have x1 := Array.getElem?_eq_some_iff.1 (show SC[1]? = some (.int .i64 hs) by rw [hSC]; rfl)
  obtain ⟨x0', x0⟩ := x0
  obtain ⟨x1', x1⟩ := x1
  have HSS := Lib.hid hst
  have HSZ := Lib.hid z
  clear hst hsf S hpf hSC HST z
  have HD := Lib.hid (show ∃ mi fpi, wrM m pos (chunks b) = wrM mi (pos + 0) ((chunks b).drop 0) ∧ DiskAt w d mi fpi ∧ Fr fp w w ∧ News w fp fpi ∧ mi.n = m.n ∧ mi.waits.length ≤ m.waits.length + 0 from ⟨m, fp, rfl, D, Fr.refl _ _, fun k hk => .inl hk, rfl, Nat.le_refl _⟩)
  clear D
  go_enter Try.func33, Try.ntmps33
  go_wp2_with fail
  go_loopw [9] (fun iv wy => ∃ i : Nat, i ≤ k ∧ iv = .int .i64 ((64 * i : Nat) : Int) ∧ Hid (∃ mi fpi, wrM m pos (chunks b) = wrM mi (pos + i) ((chunks b).drop i) ∧ DiskAt wy d mi fpi ∧ Fr fp w wy ∧ News w fp fpi ∧ mi.n = m.n ∧ mi.waits.length ≤ m.waits.length + i)) (fun iv _ => (64 * k - intOf iv).toNat)
  case atStart => exact ⟨0, by omega, rfl, HD.out⟩
  case round =>
    obtain ⟨i, hin, rfl, hW⟩ := hrel
    obtain ⟨j, hj⟩ : ∃ j, j = 64 * i := ⟨_, rfl⟩
    rw [← hj]
    by_cases hlt : i < k
    · have hd : decide ((j : Int) < ((64 * k : Nat) : Int)) = true := by rw [decide_eq_true_eq]; omega
      obtain ⟨mi, fpi, e1, D1, F1, N1, n1, l1⟩ := hW.out
      have f1 := F1.get HSS.out HSF.out
      have t1 := World.at_lt f1
      obtain ⟨bb, off, cs, TT, fr2, rfl, fc0, hs2, hx⟩ := HS.out.out (by omega)
      have hcap := HS.out.cap_
      have q0 : (0 : Int) ≤ 64 * (i : Int) := by omega
      have q1 : 64 * (i : Int) + 64 ≤ (cap : Int) := by omega
      have q2 : 64 * (i : Int) ≤ 64 * (i : Int) + 64 := by omega
      have q3 : ¬ cap = 64 * i := by omega
      have q4 : (64 * (i : Int) + 64).toNat = 64 * i + 64 := by omega
      clear fc0 hs2 hx hcap
      have HE := Lib.hid e1
      have HD1 := Lib.hid D1
      have HF1 := Lib.hid F1
      have HN1 := Lib.hid N1
      clear hW e1 D1 F1 N1
      go_upto_region 4 with (fail)
      refine drawn_begin 21 (fun w' => w'.blk s = some (.cells SC 75 fr)) (by kernel_rfl) ?_
      refine drawn_reads (fuel := 2) [0, 1, 2, 3, 4, 5, 6, 7, 8, 9, 10, 11, 12, 13, 14, 15, 16, 17, 18, 19] rfl (by kernel_rfl) f1 ?_
      repeat (first | (refine rowK_step2 rfl rfl (fun K hK => ?_); go_wp2) | (refine rowK_step rfl (fun K hK => ?_); go_simp; refine hK _ ?_; clear hK K))
      refine rowK_nil ⟨fun w' e1 => ?_, ?_⟩
      · clear f1 t1
        have t1 := World.at_lt e1
        repeat (first | (refine rowWp_step2 rfl rfl (fun K hK => ?_); go_wp2) | (refine rowWp_step rfl (fun K hK => ?_); go_simp; refine hK _ ?_; clear hK K))
        exact rowWp_nil rfl
      refine drawn_next 20 (fuel := 1) rfl (by kernel_rfl) ?_
      intro K hK
      go_wp2_with fail
      have hpi : ((h2 : Int) * hs + at_ + i) = ((pos + i : Nat) : Int) := by subst hpos; push_cast; rfl
      rw [hpi]
      obtain ⟨x, hx⟩ : ∃ x, x = (b.take (64 * i + 64)).drop (64 * i) := ⟨_, rfl⟩
      have hxi : (chunks b)[i]? = some x := by rw [hx]; exact chunks_at (k := k) (by rw [HL.out]) hlt
      have hbf : bb ∉ fp := HP.out bb rfl
      obtain ⟨bx, ox, csx, Tx, frx, ex, fcx, -, -⟩ := HS.out.out (by omega)
      cases ex
      have hbl := World.at_lt fcx
      have hbn : bb ∉ fpi := fun h => by rcases HN1.out bb h with h | h; exact hbf h; omega
      have Sx : Sl .u8 wr (some ⟨bb, off + 64 * i, none⟩) 64 (cap - 64 * i) x := by
        have h := (sl_fr HS.out HF1.out fun g hg => HP.out g hg).part (i := 64 * i) (j := 64 * i + 64) (c := cap) (by omega) (by omega) (by omega) (Nat.le_refl _)
        rw [hx]
        rw [if_neg q3, show 64 * i + 64 - 64 * i = 64 by omega] at h
        simpa [Addr.add_mid] using h
      have hx64 : x.length = 64 := Sx.len
      have hstep := wrM_drop HE.out hxi
      have herr := writeM_err (m := mi) (a := pos + i) (b := x) (by omega) hx64
      have hn2 := writeM_n mi ((pos + i : Nat) : Int) x
      have hl2 := writeM_wl mi ((pos + i : Nat) : Int) x
      refine (write_any (diskAt_drew HD1.out) ((pos + i : Nat) : Int) _ bb x (bytesAt_sl (Sx.fr0 (Fr.refl [] wr).drew) (by omega)) hbn (by omega) (by omega)).mono ?_
      rintro en w2 ⟨rfl, fp2, D2, F2, N2⟩
      obtain ⟨W, hW⟩ : ∃ W, W = writeM mi ((pos + i : Nat) : Int) x := ⟨_, rfl⟩
      rw [← hW] at D2 hstep herr hn2 hl2 ⊢
      have F3 : Fr fp w w2 := HF1.out.seq ((Fr.refl fpi wr).drew.trans F2) (fun k hk hl => by rcases HN1.out k hk with h | h; exact h; omega)
      have N3 : News w fp fp2 := fun k hk => by
        rcases N2 k hk with h | h
        · exact HN1.out k h
        · exact .inr (Nat.le_trans HF1.out.size h)
      have f2 := F3.get HSS.out HSF.out
      have HD2 := Lib.hid D2
      have HF3 := Lib.hid F3
      have HN3 := Lib.hid N3
      have HST := Lib.hid hstep
      have HN2 := Lib.hid hn2
      have HL2 := Lib.hid hl2
      obtain ⟨E, hE⟩ : ∃ E, E = W.1 := ⟨_, rfl⟩
      rw [← hE] at herr ⊢
      have HEE := Lib.hid hE
      clear hpi hx hxi hbf fcx hbl hbn Sx hx64 hstep hn2 hl2 D2 F2 N2 F3 N3 hW hE f1 t1 HD1 HF1 HN1
      have t2 := World.at_lt f2
      go_wp2_with fail
      refine ⟨f2, ?_⟩
      refine drawn_end rfl (by kernel_rfl) ?_
      intro K hK
      rcases herr with rfl | rfl
      · go_wp2_with fail
        go_roundw
        case rel =>
          exact ⟨i + 1, hlt, by first | rfl | (congr 1; push_cast; omega) | simp, Lib.hid ⟨W.2, fp2, by rw [HST.out, ← HEE.out, if_pos rfl, Nat.add_assoc], HD2.out, HF3.out, HN3.out, by rw [HN2.out, n1], by have := HL2.out; omega⟩⟩
        case measure => simp [intOf]; omega
      · go_wp2_with fail
        refine bodyPost_ret (results_tmp rfl _ _ _) rfl ?_
        have hput : putM m pos b = (false, W.2) := by
          have h : wrM m pos (chunks b) = (false, W.2) := by rw [HST.out, ← HEE.out]; rfl
          rw [putM, h, if_neg (by simp)]
        rw [hput]
        exact ⟨150, rfl, rfl, fp2, HD2.out, HF3.out, HN3.out⟩
    · obtain rfl : i = k := by omega
      have hd : decide ((j : Int) < ((64 * i : Nat) : Int)) = false := by rw [decide_eq_false_iff_not]; omega
      obtain ⟨mi, fpi, e1, D1, F1, N1, n1, l1⟩ := hW.out
      have f1 := F1.get HSS.out HSF.out
      have t1 := World.at_lt f1
      have e2 : wrM m pos (chunks b) = (true, mi) := by rw [e1, List.drop_of_length_le (by rw [chunks_length, HL.out]; omega)]; rfl
      have hput : putM m pos b = ((syncM mi).1 == 0, (syncM mi).2) := by rw [putM, e2, if_pos rfl]
      have HPU := Lib.hid hput
      have HD1 := Lib.hid D1
      have HF1 := Lib.hid F1
      have HN1 := Lib.hid N1
      have hse := syncM_err mi
      have HSE := Lib.hid hse
      clear hW e1 D1 F1 N1 e2 hput hse
      go_wp2_with fail
      refine (sync_any HD1.out (by omega)).mono ?_
      rintro en w2 ⟨rfl, fp2, D2, F2, N2⟩
      go_wp2_with fail
      refine bodyPost_ret (results_tmp rfl _ _ _) rfl ?_
      rw [HPU.out]
      refine ⟨_, rfl, by rcases HSE.out with h | h <;> rw [h] <;> rfl, fp2, D2, HF1.out.seq F2 (fun k hk hl => by rcases HN1.out k hk with h | h; exact h; omega), fun k hk => by
        rcases N2 k hk with h | h
        · exact HN1.out k h
        · exact .inr (Nat.le_trans HF1.out.size h)⟩
end
end Go.Proofs.Ytombhkekocbfoaa
namespace Go.St
open Go.Kd Go.Dr
/-- What a name says. -/
def getL (n : Bs) (L : List (Bs × Bs)) : Option Bs := (L.find? fun x => decide (x.1 = n)).map (·.2)
theorem getL_none {n : Bs} {L : List (Bs × Bs)} (h : ∀ x ∈ L, x.1 ≠ n) : getL n L = none := by
  unfold getL
  rw [List.find?_eq_none.2 fun x hx => by simpa using h x hx]
  rfl
theorem getL_some : ∀ {L : List (Bs × Bs)} {x : Bs × Bs}, Sorted L → x ∈ L → getL x.1 L = some x.2 := by
  intro L
  induction L with
  | nil => intro x _ h; cases h
  | cons y L ih =>
    intro x hs hx
    have h2 := List.pairwise_cons.1 hs
    unfold getL
    rw [List.find?_cons]
    rcases List.mem_cons.1 hx with rfl | hx
    · simp
    · have hne : ¬ y.1 = x.1 := fun e => by
        have h3 := h2.1 x hx
        rw [e] at h3
        exact bs_irrefl _ h3
      simp only [hne, decide_false]
      exact ih h2.2 hx
end Go.St
namespace Go.Proofs.Ytombhkekocbfoaa
open Go.RowKit Go.Dr Go.Kd Go.St
theorem MapAt.look {w : World} {b : Nat} {L : List (Bs × Bs)} {fp : List Nat} (h : MapAt w b L fp) (hs : Sorted L) (hb : ∀ x ∈ L, Byt x.1) {n : Bs} (hn : Byt n) :
    ∃ q m d, (Instr.lookup 70 (.map (some b)) (.string (strB n)) true).run Try.prog w = .ok (.tuple #[.slice q m d, .bool (getL n L).isSome]) w ∧ (Instr.lookup 70 (.map (some b)) (.string (strB n)) false).run Try.prog w = .ok (.slice q m d) w ∧ Sl .u8 w q m d ((getL n L).getD []) := by
  obtain ⟨-, kvs, g, hm, hr, hv⟩ := h
  have hl := fun ok => hm.s.look (P := Try.prog) (z := .slice none 0 0) Try.underlying70 Try.underlying9 (by kernel_rfl) (strB n) ok
  cases hf : findS (strB n) kvs 0 with
  | none =>
    have h1 := getL_none ((rep_none hr hb hn).1 hf)
    refine ⟨none, 0, 0, ?_, ?_, ?_⟩
    · rw [hl true, hf, h1]; rfl
    · rw [hl false, hf]; rfl
    · rw [h1]; exact sl_nil w
  | some z =>
    obtain ⟨j, a⟩ := z
    obtain ⟨-, hj⟩ := findS_some hf
    obtain ⟨x, hx, hxe⟩ := List.mem_map.1 (hr.perm.mem_iff.1 (List.mem_of_getElem? hj))
    simp only [Prod.mk.injEq] at hxe
    have hxn : x.1 = n := strB_inj (hb x hx) hn hxe.1
    obtain ⟨q, m, d, h3, h4, -⟩ := hv x hx
    have h5 : a = .slice q m d := by rw [← hxe.2, h3]
    have h6 := getL_some hs hx
    rw [hxn] at h6
    refine ⟨q, m, d, ?_, ?_, ?_⟩
    · rw [hl true, hf, h6, h5]; rfl
    · rw [hl false, hf, h5]; rfl
    · rw [h6]; exact h4
/-- A store, as it lies. -/
structure StAt (w : World) (s d : Nat) (sp : SP) (m : DM) (fp : List Nat) : Prop where
  ex : ∃ mb, w.blk s = some (.cells (stC d (m.n / 2) sp.half sp.epoch sp.count sp.fin mb sp.broken) 75 (0, 0)) ∧ s ∉ fp ∧ DiskAt w d m fp ∧ MapAt w mb sp.L fp
section
variable {w : World}
set_option maxRecDepth 100000 in
set_option maxHeartbeats 2000000 in
theorem epoch_f {s d : Nat} {sp : SP} {m : DM} {fp : List Nat} (T : StAt w s d sp m fp) : Calls Try.prog 24 #[.pointer (some ⟨s, 0, none⟩)] w fun en w' => en = .returned (.int .u64 (sp.epoch : Int)) ∧ w' = w := by
  obtain ⟨mb, f0, -⟩ := T.ex
  unfold stC at f0
  have t0 := World.at_lt f0
  clear T
  go_enter Try.func24, Try.ntmps24
  go_wp2_with fail
  exact bodyPost_ret (results_tmp rfl _ _ _) rfl ⟨rfl, rfl⟩
set_option maxRecDepth 100000 in
set_option maxHeartbeats 2000000 in
theorem get_sf {s d : Nat} {sp : SP} {m : DM} {fp : List Nat} (T : StAt w s d sp m fp) (hs : Sorted sp.L) (hb : ∀ x ∈ sp.L, Byt x.1) (h4 : ∀ x ∈ sp.L, x.2.length ≤ 4000) {n : Bs} (hn : Byt n) :
    Calls Try.prog 12 #[.pointer (some ⟨s, 0, none⟩), .string (strB n)] w fun en w' => ∃ q m c, en = .returned (.tuple #[.slice q m c, .bool (getL n sp.L).isSome]) ∧ Bld w [] .u8 5 w' q m c ((getL n sp.L).getD []) := by
  obtain ⟨mb, f0, -, -, M⟩ := T.ex
  unfold stC at f0
  have t0 := World.at_lt f0
  obtain ⟨q, m1, c, hl, -, S⟩ := M.look hs hb hn
  have hlen : m1 ≤ 4000 := by
    rw [← S.len]
    cases hg : getL n sp.L with
    | none => simp
    | some v =>
      unfold getL at hg
      cases hf : sp.L.find? (fun x => decide (x.1 = n)) with
      | none => rw [hf] at hg; cases hg
      | some x =>
        rw [hf] at hg
        cases hg
        exact h4 x (List.mem_of_find?_eq_some hf)
  have HS := Lib.hid S
  obtain ⟨g, hg⟩ : ∃ g, g = getL n sp.L := ⟨_, rfl⟩
  rw [← hg] at hl HS ⊢
  obtain ⟨X, hX⟩ : ∃ X, X = strB n := ⟨_, rfl⟩
  rw [← hX] at hl ⊢
  clear T M S hg hX hs hb h4
  go_enter Try.func12, Try.ntmps12
  go_wp2_with fail
  refine (clone_f HS.out (by omega)).mono ?_
  rintro en w2 ⟨q2, c2, rfl, B⟩
  have HB := Lib.hid B
  clear B
  go_wp2_with fail
  exact bodyPost_ret (results_tmp2 rfl _ _ _) rfl ⟨_, _, _, rfl, HB.out⟩
end
end Go.Proofs.Ytombhkekocbfoaa
namespace Go.Proofs.Ytombhkekocbfoaa
open Go.RowKit Go.Dr Go.Kd Go.St
section
variable {w : World}
theorem DiskAt.fr0 {w w' : World} {d : Nat} {m : DM} {fp : List Nat} (D : DiskAt w d m fp) (F : Fr [] w w') : DiskAt w' d m fp := by
  obtain ⟨kb, sb, p, cap, D, e, ok⟩ := D
  exact ⟨kb, sb, p, cap, ⟨F.get D.hd (by simp), F.get D.hk (by simp), F.get D.hs (by simp), F.owns D.hw (by simp), D.ne1, D.ne2, D.ne3, D.nw⟩, e, ok⟩
/-- What read answers: the store's map holds what the records make. -/
def ReadR (s d hs half e c f : Nat) (br : Bool) (fp : List Nat) (o : Option (List (Bs × Bs))) (en : Ending) (w' : World) : Prop := match o with
  | some L => ∃ mb, en = .returned (.bool true) ∧ w'.blk s = some (.cells (stC d hs half e c f mb br) 75) ∧ MapAt w' mb L fp
  | none => en = .returned (.bool false)
/-- Between two records: what is left, and what the store's map holds. -/
structure RdI (s d hs half e c f : Nat) (br : Bool) (fp : List Nat) (R : Option (List (Bs × Bs))) (w w' : World) (k : Nat) (q : Option Addr) (n cp : Nat) : Prop where
  fr : Fr [s] w w'
  ex : ∃ (mb : Nat) (L : List (Bs × Bs)) (rest : Bs), w'.blk s = some (.cells (stC d hs half e c f mb br) 75) ∧ MapAt w' mb L fp ∧ Sl .u8 w' q n cp rest ∧ (∀ g, q.map (·.block) = some g → g ≠ s) ∧ readR e (c - k) k rest L = R ∧ Sorted L ∧ (∀ x ∈ L, Byt x.1) ∧ isBytes rest ∧ n % 64 = 0 ∧ n ≤ 70000
theorem rdPay_len {b : Bs} {l : List Chg} (hb : Byt b) (h : rdPay b = some l) : l.length ≤ 64 := by
  unfold rdPay at h
  cases ho : splitB b with
  | none => rw [ho] at h; cases h
  | some ls =>
    rw [ho] at h
    rw [(rdChgs_ok (splitB_byt hb ho) h).1]
    exact splitB_len ho
theorem MapAt.len {w : World} {b : Nat} {L : List (Bs × Bs)} {fp : List Nat} (h : MapAt w b L fp) : ∃ es ck, w.blk b = some (.map es ck) ∧ es.size = L.length := by
  obtain ⟨-, kvs, g, hm, hr, -⟩ := h
  obtain ⟨es, ck, h1, h2, -⟩ := hm.ex
  refine ⟨es, ck, h1, ?_⟩
  have h3 := congrArg List.length h2
  simp only [List.length_map, Array.length_toList] at h3
  rw [h3, hr.len]
theorem Sl.out_of {w : World} {s : Nat} {cs0 : Array Value} {T0 : TypeId} {fr0 : Nat × Nat} {q : Option Addr} {m d : Nat} {v : Bs} (h : Sl .u8 w q m d v) (h0 : 0 < m) (hs : w.blk s = some (.cells cs0 T0 fr0)) (hno : ∀ u ∈ cs0.toList, ∀ x, u ≠ .int .u8 x) : ∀ k, q.map (·.block) = some k → k ≠ s := by
  obtain ⟨bb, off, cs, T, fr, rfl, fc, hs', hx'⟩ := h.out h0
  intro k hk e
  simp only [Option.map_some, Option.some.injEq] at hk
  subst hk e
  rw [hs] at fc
  cases fc
  have h1 := congrArg (fun l => l[0]?) hx'
  simp only [Array.getElem?_toList, List.getElem?_map] at h1
  rw [Array.getElem?_extract_of_lt (by omega)] at h1
  have hv : v[0]? = some (v[0]'(by rw [h.len]; exact h0)) := List.getElem?_eq_getElem _
  rw [hv] at h1
  simp only [Option.map_some, Option.some.injEq] at h1
  exact hno _ (by rw [Array.mem_toList_iff]; exact Array.getElem_mem _) _ h1
/-- A store's cells are turned: the map stays. -/
theorem MapAt.put {w : World} {b s : Nat} {L : List (Bs × Bs)} {fp : List Nat} {o : Obj} {cs0 : Array Value} {T0 : TypeId} {fr0 : Nat × Nat} (h : MapAt w b L fp) (hs : w.blk s = some (.cells cs0 T0 fr0)) (hno : ∀ u ∈ cs0.toList, ∀ x, u ≠ .int .u8 x) : MapAt (w.put s o) b L fp := by
  obtain ⟨hb, kvs, g, hm, hr, hv⟩ := h
  obtain ⟨es, ck, h1, h2⟩ := hm.ex
  have hne : b ≠ s := fun e => by subst e; rw [hs] at h1; cases h1
  refine ⟨hb, kvs, g, ⟨es, ck, (World.at_put_other _ _ _ _ hne.symm).trans h1, h2⟩, hr, fun x hx => ?_⟩
  obtain ⟨q, m, d, h3, h4, h5⟩ := hv x hx
  refine ⟨q, m, d, h3, ?_, h5⟩
  rcases Nat.eq_zero_or_pos m with h0 | h0
  · subst h0; exact sl_zero h4
  · have h6 := Sl.out_of h4 h0 hs hno
    obtain ⟨bb, off, cs, T, fr, rfl, fc, hs', hx'⟩ := h4.out h0
    exact Sl.of ((World.at_put_other _ _ _ _ (h6 bb rfl).symm).trans fc) hs' hx' h4.cap_
theorem _root_.Go.Sl.put2 {w : World} {s : Nat} {o : Obj} {b off m d : Nat} {v : Bs} (h : Sl .u8 w (some ⟨b, off, none⟩) m d v) (hne : b ≠ s) : Sl .u8 (w.put s o) (some ⟨b, off, none⟩) m d v := by
  rcases Nat.eq_zero_or_pos m with h0 | h0
  · subst h0; exact sl_zero h
  · obtain ⟨bb, off, cs, T, fr, e, fc, hs', hx'⟩ := h.out h0
    cases e
    exact Sl.of ((World.at_put_other _ _ _ _ hne.symm).trans fc) hs' hx' h.cap_
theorem stC_no {d hs half e c f mb : Nat} {br : Bool} : ∀ u ∈ (stC d hs half e c f mb br).toList, ∀ x, u ≠ .int .u8 x := by
  intro u hu x e
  subst e
  simp [stC] at hu
theorem seg_step {l : Bs} {a i : Nat} (h : 64 * (a + i + 1) ≤ l.length) : (l.drop (a * 64)).take ((i + 1) * 64) = (l.drop (a * 64)).take (i * 64) ++ blockOf l (a + i) := by
  rw [Nat.add_mul, Nat.one_mul, List.take_add, List.drop_drop, blockOf, List.drop_take]
  congr 2
  · omega
  · congr 1; omega
set_option maxRecDepth 100000 in
set_option maxHeartbeats 8000000 in
theorem read_f {s d half e c f mb : Nat} {br : Bool} {m : DM} {fp : List Nat} (hst : w.blk s = some (.cells (stC d (m.n / 2) half e c f mb br) 75 (0, 0))) (hsf : s ∉ fp) (D : DiskAt w d m fp) (hN1 : m.n ≤ 1024) (hd : m.dead = false) (hh : half ≤ 1) (hf1 : 1 ≤ f) (hf2 : f ≤ m.n / 2) {L : List (Bs × Bs)} (M : MapAt w mb L fp) (hfp : ∀ k ∈ fp, k < w.heap.size) (hS : Sorted L) (hLb : ∀ x ∈ L, Byt x.1) (hmb : isBytes m.seen) (hc : c < 4294967296) (he : e < 18446744073709551616) :
    Calls Try.prog 35 #[.pointer (some ⟨s, 0, none⟩)] w fun en w' => ReadR s d (m.n / 2) half e c f br fp (readR e c 0 (recsM m half f) L) en w' ∧ Fr [s] w w' := by
  have hN : m.n ≤ 4096 := by obtain ⟨_, _, _, _, _, _, ok⟩ := D; exact ok.n2
  have hsl : m.seen.length = 64 * m.n := by obtain ⟨_, _, _, _, _, _, ok⟩ := D; exact ok.sl
  have HMA := Lib.hid M
  have HFP := Lib.hid hfp
  have HSO := Lib.hid hS
  have HLB := Lib.hid hLb
  have HMB := Lib.hid hmb
  clear M hfp hS hLb hmb
  obtain ⟨R, hR⟩ : ∃ R, R = readR e c 0 (recsM m half f) L := ⟨_, rfl⟩
  rw [← hR]
  have HR := Lib.hid hR
  clear hR
  have HD := Lib.hid D
  have HSL := Lib.hid hsl
  have HDE := Lib.hid hd
  obtain ⟨SC, hSC⟩ : ∃ SC, SC = stC d (m.n / 2) half e c f mb br := ⟨_, rfl⟩
  rw [← hSC] at hst
  obtain ⟨hs, hhs⟩ : ∃ hs, hs = m.n / 2 := ⟨_, rfl⟩
  rw [← hhs] at hSC hf2 ⊢
  have szC : SC.size = 8 := by rw [hSC]; rfl
  have x0 := Array.getElem?_eq_some_iff.1 (show SC[0]? = some (.pointer (some ⟨d, 0, none⟩)) by rw [hSC]; rfl)
  have x1 := Array.getElem?_eq_some_iff.1 (show SC[1]? = some (.int .i64 hs) by rw [hSC]; rfl)
  have x2 := Array.getElem?_eq_some_iff.1 (show SC[2]? = some (.int .i64 half) by rw [hSC]; rfl)
  have x5 := Array.getElem?_eq_some_iff.1 (show SC[5]? = some (.int .u32 f) by rw [hSC]; rfl)
  obtain ⟨x0', x0⟩ := x0
  obtain ⟨x1', x1⟩ := x1
  obtain ⟨x2', x2⟩ := x2
  obtain ⟨x5', x5⟩ := x5
  have HSS := Lib.hid hst
  have HSC := Lib.hid hSC
  have HHS := Lib.hid hhs
  have hs2 : 2 * hs ≤ m.n := by omega
  have wf : IntKind.i64.wrap (f : Int) = (f : Int) := by rw [IntKind.wrap_i64]; omega
  have hhb : half * hs ≤ hs := by
    rcases Nat.le_one_iff_eq_zero_or_eq_one.1 hh with h | h <;> subst h <;> omega
  obtain ⟨P, hP⟩ : ∃ P, half * hs = P := ⟨_, rfl⟩
  have hPb : P ≤ hs := by omega
  obtain ⟨ACC, hACC⟩ : ∃ ACC : Nat → Bs, ACC = fun i => (m.seen.drop ((P + 1) * 64)).take ((i - 1) * 64) := ⟨_, rfl⟩
  have HAC := Lib.hid hACC
  clear hst hSC D hsl hhs hACC hhb hd
  go_enter Try.func35, Try.ntmps35
  go_wp2_with fail
  go_loopw [3, 4] (fun v iv wy => ∃ (i : Nat) (q : Option Addr) (cp : Nat), 1 ≤ i ∧ i ≤ f ∧ v = .slice q ((i - 1) * 64) cp ∧ iv = .int .i64 (i : Int) ∧ Hid (Bld w [] .u8 5 wy q ((i - 1) * 64) cp (ACC i))) (fun _ iv _ => (f - intOf iv).toNat)
  case atStart => exact ⟨1, none, 0, by omega, hf1, rfl, rfl, Lib.hid (by rw [HAC.out]; exact Bld.nil (OwB.start w))⟩
  case round =>
    obtain ⟨i, q, cp, hi1, hif, rfl, rfl, hW⟩ := hrel
    have f1 := hW.out.own.fr.get HSS.out (by simp)
    have t1 := World.at_lt f1
    by_cases hlt : i < f
    · have hd : decide ((i : Int) < (f : Int)) = true := by rw [decide_eq_true_eq]; omega
      go_upto_region 5 with (fail)
      refine drawn_begin 20 (fun w' => w'.blk s = some (.cells SC 75)) (by kernel_rfl) ?_
      refine drawn_reads (fuel := 6) [0, 1, 2, 3, 4, 5, 6, 7, 8, 9, 10, 11, 12, 13, 14] rfl (by kernel_rfl) f1 ?_
      repeat (first | (refine rowK_step2 rfl rfl (fun K hK => ?_); go_wp2) | (refine rowK_step rfl (fun K hK => ?_); go_simp; refine hK _ ?_; clear hK K))
      refine rowK_nil ⟨fun w' e1 => ?_, ?_⟩
      · clear f1 t1
        have t1 := World.at_lt e1
        repeat (first | (refine rowWp_step2 rfl rfl (fun K hK => ?_); go_wp2) | (refine rowWp_step rfl (fun K hK => ?_); go_simp; refine hK _ ?_; clear hK K))
        exact rowWp_nil rfl
      refine drawn_next 15 (fuel := 5) rfl (by kernel_rfl) ?_
      intro K hK
      go_wp2_with fail
      refine (read_any (diskAt_drew (HD.out.fr0 hW.out.own.fr)) _).mono ?_
      rintro en w2 ⟨v, rfl, hv, F2⟩
      have hpi : ((half : Int) * hs + i) = ((P + i : Nat) : Int) := by subst hP; push_cast; rfl
      have hrd : readM m ((P + i : Nat) : Int) = (0, blockOf m.seen (P + i)) := by
        unfold readM
        rw [show noBlock m ((P + i : Nat) : Int) = false by simp [noBlock]; omega, HDE.out]
        rfl
      rw [hpi] at hv ⊢
      rw [hrd] at hv ⊢
      have hbk : (blockOf m.seen (P + i)).length = 64 := by
        have := HSL.out
        simp [blockOf]; omega
      have hvs : ∃ q2 c2, v = .slice q2 64 c2 ∧ Sl .u8 w2 q2 64 c2 (blockOf m.seen (P + i)) := by
        rcases hv with ⟨_, h⟩ | ⟨bb, B, _⟩
        · have h2 : blockOf m.seen (P + i) = [] := h
          rw [h2] at hbk
          cases hbk
        · obtain ⟨q2, c2, h1, h2⟩ := B.sl
          have h3 : (blockOf m.seen (P + i)).length = 64 := hbk
          rw [show ((0 : Int), blockOf m.seen (P + i)).2 = blockOf m.seen (P + i) from rfl, h3] at h1 h2
          exact ⟨q2, c2, h1, h2⟩
      obtain ⟨q2, c2, rfl, S2⟩ := hvs
      have hacc : ACC (i + 1) = ACC i ++ blockOf m.seen (P + i) := by
        rw [HAC.out]
        have h := seg_step (l := m.seen) (a := P + 1) (i := i - 1) (by have := HSL.out; omega)
        rw [show P + 1 + (i - 1) = P + i by omega, show i - 1 + 1 = i + 1 - 1 by omega] at h
        exact h
      have HACI := Lib.hid hacc
      have HS2 := Lib.hid S2
      have HW := Lib.hid (hW.out.call ((Fr.refl [] wr).drew.trans F2))
      have f2 := (((Fr.refl [] wr).drew).trans F2).get f1 (by simp)
      clear hpi hrd hv hbk hacc S2 hW F2 f1 t1
      have t2 := World.at_lt f2
      go_wp2_with fail
      refine ⟨f2, ?_⟩
      refine drawn_next 16 (fuel := 4) rfl (by kernel_rfl) ?_
      intro K hK
      go_wp2_with fail
      refine ⟨f2, ?_⟩
      refine drawn_reads (fuel := 2) [17, 18] rfl (by kernel_rfl) f2 ?_
      repeat (first | (refine rowK_step2 rfl rfl (fun K hK => ?_); go_wp2) | (refine rowK_step rfl (fun K hK => ?_); go_simp; refine hK _ ?_; clear hK K))
      refine rowK_nil ⟨fun w' e1 => ?_, ?_⟩
      · repeat (first | (refine rowWp_step2 rfl rfl (fun K hK => ?_); go_wp2) | (refine rowWp_step rfl (fun K hK => ?_); go_simp; refine hK _ ?_; clear hK K))
        exact rowWp_nil rfl
      refine drawn_next 19 (fuel := 1) rfl (by kernel_rfl) ?_
      intro K hK
      go_wp2_with fail
      refine ⟨f2, ?_⟩
      refine drawn_end rfl (by kernel_rfl) ?_
      intro K hK
      go_wp2_with (refine wpList_app47 rfl _ _ rfl rfl HW.out rfl HS2.out (by omega) ?_)
      intro q5 c5 W5 B5
      have HB5 := Lib.hid B5
      clear B5 HW HS2 f2 t2
      go_wp2_with fail
      have ez : (i - 1) * 64 + 64 = (i + 1 - 1) * 64 := by omega
      go_roundw
      case rel =>
        exact ⟨i + 1, q5, c5, by omega, hlt, by rw [ez], by first | rfl | simp, Lib.hid (by rw [HACI.out, ← ez]; exact HB5.out)⟩
      case measure => simp [intOf]; omega
    · obtain rfl : i = f := by omega
      have hd : decide ((i : Int) < (i : Int)) = false := by simp
      have hrec : ACC i = recsM m half i := by rw [HAC.out, recsM, ← HHS.out, hP]
      have HRE := Lib.hid hrec
      obtain ⟨z, hz⟩ : ∃ z, z = (i - 1) * 64 := ⟨_, rfl⟩
      have hSA := hW.out.sl
      have hFA := hW.out.own.fr
      have hqs : ∀ g, q.map (·.block) = some g → g ≠ s := fun g hg e => by
        have h1 := (hW.out.new g hg).1
        have h2 := World.at_lt HSS.out
        omega
      have HSA := Lib.hid hSA
      have HFA := Lib.hid hFA
      have HQS := Lib.hid hqs
      clear hrec hSA hFA hqs hW
      have hisb : isBytes (recsM m half i) := fun x hx => HMB.out x (List.mem_of_mem_drop (List.mem_of_mem_take hx))
      have HI0 := Lib.hid (show RdI s d hs half e c i br fp R w wr 0 q ((i - 1) * 64) cp from ⟨HFA.out.mono (by simp), mb, L, recsM m half i, by rw [← HSC.out]; exact HFA.out.get HSS.out (by simp), HMA.out.fr0 HFA.out, by rw [← HRE.out]; exact HSA.out, HQS.out, HR.out.symm, HSO.out, HLB.out, hisb, by omega, by omega⟩)
      clear hisb
      go_wp2_with fail
      go_loopw [3, 7] (fun v kv wy => ∃ (k : Nat) (q : Option Addr) (n cp : Nat), k ≤ c ∧ v = .slice q n cp ∧ kv = .int .u32 (k : Int) ∧ Hid (RdI s d hs half e c i br fp R w wy k q n cp)) (fun _ kv _ => (c - intOf kv).toNat)
      case atStart => exact ⟨0, q, _, cp, by omega, rfl, rfl, HI0.out⟩
      case round =>
        obtain ⟨k, q2, n2, cp2, hkc, rfl, rfl, hW⟩ := hrel
        obtain ⟨mb2, L2, rest, fs, M2, S2, hq2, hR2, hs2', hb2, hB2, hn64, hnb⟩ := hW.out.ex
        have HF2 := Lib.hid hW.out.fr
        obtain ⟨SC2, hSC2⟩ : ∃ SC2, SC2 = stC d hs half e c i mb2 br := ⟨_, rfl⟩
        rw [← hSC2] at fs
        have szC2 : SC2.size = 8 := by rw [hSC2]; rfl
        have y4 := Array.getElem?_eq_some_iff.1 (show SC2[4]? = some (.int .u32 c) by rw [hSC2]; rfl)
        obtain ⟨y4', y4⟩ := y4
        have y3 := Array.getElem?_eq_some_iff.1 (show SC2[3]? = some (.int .u64 e) by rw [hSC2]; rfl)
        obtain ⟨y3', y3⟩ := y3
        have ts := World.at_lt fs
        have HM2 := Lib.hid M2
        have HS2 := Lib.hid S2
        have HQ2 := Lib.hid hq2
        have HR2 := Lib.hid hR2
        have HSo2 := Lib.hid hs2'
        have HBy2 := Lib.hid hb2
        have HB2 := Lib.hid hB2
        have HSC2 := Lib.hid hSC2
        have hlen : rest.length = n2 := S2.len
        have HLN := Lib.hid hlen
        clear M2 S2 hq2 hR2 hs2' hb2 hB2 hSC2 hW hlen
        by_cases hlt2 : k < c
        · have hd2 : decide ((k : Int) < (c : Int)) = true := by rw [decide_eq_true_eq]; omega
          by_cases hn0 : n2 = 0
          · have hr0 : rest = [] := List.eq_nil_of_length_eq_zero (by rw [HLN.out]; exact hn0)
            have hRn : R = none := by
              rw [← HR2.out, hr0, show c - k = (c - k - 1) + 1 by omega, readR, if_pos rfl]
            have HRN := Lib.hid hRn
            have d0 : ((n2 : Int) == 0) = true := by rw [hn0]; rfl
            clear hr0 hRn
            go_wp2_with fail
            refine bodyPost_ret (results_tmp rfl _ _ _) rfl ?_
            rw [HRN.out]
            exact ⟨rfl, HF2.out⟩
          · obtain ⟨bb, off, cs, TT, fr3, rfl, fc, hs3, hx3⟩ := HS2.out.out (by omega)
            have hcp := HS2.out.cap_
            have d0 : ((n2 : Int) == 0) = false := by rw [beq_eq_false_iff_ne]; omega
            have k4 : (4 : Int) ≤ (cp2 : Int) := by omega
            have s4 := sl_pre fc hs3 hx3 HLN.out (k := 4) (by omega) hcp
            have HS4 := Lib.hid s4
            have hb4 : isBytes (rest.take 4) := fun x hx => HB2.out x (List.mem_of_mem_take hx)
            have hl4 : (rest.take 4).length = 4 := by rw [List.length_take, HLN.out]; omega
            have hv4 : getV (rest.take 4) = getB (rest.take 4) := getV_of (by omega) (by omega)
            have hg4 : getB (rest.take 4) < 4294967296 := getB_lt 4 _ hl4 hb4
            have HV4 := Lib.hid hv4
            have HB4 := Lib.hid hb4
            obtain ⟨g, hg⟩ : ∃ g, g = getB (rest.take 4) := ⟨_, rfl⟩
            rw [← hg] at hg4
            have HG := Lib.hid hg
            have s8 : ∀ W : World, W.blk bb = some (.cells cs TT fr3) → Sl .u8 W (some ⟨bb, off, none⟩) 8 cp2 (rest.take 8) := fun W hW => sl_pre hW hs3 hx3 HLN.out (by omega) hcp
            have hcv : ∀ W : World, W.blk bb = some (.cells cs TT fr3) → (convert 22 9 (.slice (some ⟨bb, off, none⟩) 8 cp2)).run Try.prog W = .ok (.string (strB (rest.take 8))) W := fun W hW => conv47 (s8 W hW)
            have HCV := Lib.hid hcv
            have HFC := Lib.hid fc
            clear s4 hb4 hl4 hv4 fc hs3 hx3 hg s8 hcv
            go_wp2_with fail
            refine (get_f HS4.out HB4.out).mono ?_
            rintro en w4 ⟨rfl, F4⟩
            rw [HV4.out, ← HG.out]
            have HF4 := Lib.hid (HF2.out.trans (F4.mono (by simp)))
            have f4 := F4.get fs (by simp)
            have F4' := F4
            have FF4 := Lib.hid F4
            clear F4 fs ts
            have t4 := World.at_lt f4
            have f4b := F4'.get HFC.out (by simp)
            by_cases hgn : n2 < g + 8
            · have wd : IntKind.u64.wrap ((n2 : Int) - 8) = ((n2 - 8 : Nat) : Int) := by rw [IntKind.wrap_u64]; omega
              have dg : decide (((n2 - 8 : Nat) : Int) < (g : Int)) = true := by rw [decide_eq_true_eq]; omega
              have hRn : R = none := by
                have hne : ¬ rest = [] := fun h => hn0 (by rw [← HLN.out, h]; rfl)
                rw [← HR2.out, show c - k = (c - k - 1) + 1 by omega, readR, if_neg hne, ← HG.out, HLN.out, if_pos (by omega)]
              have HRN := Lib.hid hRn
              clear hRn
              go_wp2_with fail
              refine bodyPost_ret (results_tmp rfl _ _ _) rfl ?_
              rw [HRN.out]
              exact ⟨rfl, HF4.out⟩
            · have wd : IntKind.u64.wrap ((n2 : Int) - 8) = ((n2 - 8 : Nat) : Int) := by rw [IntKind.wrap_u64]; omega
              have dg : decide (((n2 - 8 : Nat) : Int) < (g : Int)) = false := by rw [decide_eq_false_iff_not]; omega
              have wg : IntKind.u64.wrap (8 + (g : Int)) = ((8 + g : Nat) : Int) := by rw [IntKind.wrap_u64]; omega
              have kg : ((8 + g : Nat) : Int) ≤ (cp2 : Int) := by omega
              have k8 : (8 : Int) ≤ ((8 + g : Nat) : Int) := by omega
              have k8c : (8 : Int) ≤ (cp2 : Int) := by omega
              have wk : IntKind.u32.wrap ((k : Int) + 1) = ((k + 1 : Nat) : Int) := by rw [IntKind.wrap_u32]; omega
              have HCV := Lib.hid HCV.out
              have hcv := HCV.out
              obtain ⟨X8, hX8⟩ : ∃ X8, X8 = strB (rest.take 8) := ⟨_, rfl⟩
              rw [← hX8] at hcv
              have HX8 := Lib.hid hX8
              clear hX8 F4'
              go_upto_region 16 with (fail)
              refine drawn_begin 14 (fun w' => w'.blk s = some (.cells SC2 75) ∧ w'.blk bb = some (.cells cs TT fr3)) (by kernel_rfl) ?_
              refine drawn_reads (fuel := 4) [0, 1, 2, 3, 4, 5, 6, 7, 11, 12, 13] rfl (by kernel_rfl) ⟨f4, f4b⟩ ?_
              repeat (first | (refine rowK_step2 rfl rfl (fun K hK => ?_); go_wp2) | (refine rowK_step rfl (fun K hK => ?_); go_simp; refine hK _ ?_; clear hK K))
              refine rowK_nil ⟨fun w' e1 => ?_, ?_⟩
              · obtain ⟨e1, e2⟩ := e1
                clear f4 f4b t4 hcv
                have hcv := HCV.out w' e2
                rw [← HX8.out] at hcv
                have t4 := World.at_lt e1
                repeat (first | (refine rowWp_step2 rfl rfl (fun K hK => ?_); go_wp2) | (refine rowWp_step rfl (fun K hK => ?_); go_simp; refine hK _ ?_; clear hK K))
                exact rowWp_nil rfl
              refine drawn_next 8 (fuel := 3) rfl (by kernel_rfl) ?_
              intro K hK
              go_wp2_with fail
              have c8 : ¬ cp2 = 8 := by omega
              have SP1 : Sl .u8 w4 (some ⟨bb, off + 8, none⟩) g (cp2 - 8) ((rest.drop 8).take g) := by
                have h := ((HS2.out.fr0 FF4.out)).part (i := 8) (j := 8 + g) (c := cp2) (by omega) (by omega) (by omega) (Nat.le_refl _)
                rw [if_neg c8, List.drop_take, Nat.add_sub_cancel_left] at h
                simpa [Addr.add_mid] using h
              have hPB : isBytes ((rest.drop 8).take g) := fun x hx => HB2.out x (List.mem_of_mem_drop (List.mem_of_mem_take hx))
              have hPL := SP1.len
              obtain ⟨P, hPe⟩ : ∃ P, P = (rest.drop 8).take g := ⟨_, rfl⟩
              rw [← hPe] at SP1 hPB hPL
              have HPE := Lib.hid hPe
              have HPB' := Lib.hid hPB
              have HS1' := Lib.hid SP1
              refine (record_f (k := k + 1) (by omega) (SP1.fr0 (Fr.refl [] w4).drew) hPB (by omega)).mono ?_
              rintro en w6 ⟨q6, m6, c6, rfl, B6⟩
              have F6 : Fr [] w4 w6 := (Fr.refl [] w4).drew.trans B6.own.fr
              have hrl : 8 ≤ m6 := by rw [← B6.len]; simp [recB, recH_length]
              have hcp6 := B6.sl.cap_
              have ht8 : (recB e (k + 1) P).take 8 = recH e (k + 1) P := by
                rw [recB, List.append_assoc, List.take_append_of_le_length (by rw [recH_length]; exact Nat.le_refl 8), List.take_of_length_le (by rw [recH_length]; exact Nat.le_refl 8)]
              have S6 : Sl .u8 w6 q6 8 c6 (recH e (k + 1) P) := by
                obtain ⟨b6, o6, cs6, T6, fr6, e6, fc6, h6, hx6⟩ := B6.sl.out (by omega)
                subst e6
                rw [← ht8]
                exact sl_pre fc6 h6 hx6 B6.len hrl hcp6
              have hcv6 := conv47 S6
              have f6 := F6.get f4 (by simp)
              have f6b := F6.get f4b (by simp)
              have k86 : (8 : Int) ≤ (c6 : Int) := by omega
              obtain ⟨Y8, hY8⟩ : ∃ Y8, Y8 = strB (recH e (k + 1) P) := ⟨_, rfl⟩
              rw [← hY8] at hcv6
              have HY8 := Lib.hid hY8
              have HF6 := Lib.hid F6
              have HFF := Lib.hid (HF4.out.trans (F6.mono (by simp)))
              clear F6 ht8 S6 B6 hY8 f4 f4b t4 SP1
              have t6 := World.at_lt f6
              go_wp2_with fail
              refine ⟨⟨f6, f6b⟩, ?_⟩
              refine drawn_next 9 (fuel := 2) rfl (by kernel_rfl) ?_
              intro K hK
              go_wp2_with fail
              refine ⟨⟨f6, f6b⟩, ?_⟩
              refine drawn_next 10 (fuel := 1) rfl (by kernel_rfl) ?_
              intro K hK
              go_wp2_with fail
              refine ⟨⟨f6, f6b⟩, ?_⟩
              refine drawn_end rfl (by kernel_rfl) ?_
              intro K hK
              obtain ⟨y, hy⟩ : ∃ y : Bool, y = decide (recH e (k + 1) P = rest.take 8) := ⟨_, rfl⟩
              have hbR : isBytes (recH e (k + 1) P) := Byt.append (byt_putB _ _) (byt_putB _ _)
              have hbe : (Y8.toList == X8.toList) = y := by
                rw [HY8.out, HX8.out, beq_str hbR (fun x hx => HB2.out x (List.mem_of_mem_take hx)), hy]
              have HYY := Lib.hid hy
              clear hy hcv hcv6 hbR
              have hne : ¬ rest = [] := fun h => hn0 (by rw [← HLN.out, h]; rfl)
              have hstep : R = if recH e (k + 1) P = rest.take 8 then (match rdPay P with
                  | none => none
                  | some l => if 64 < (allC L2 l).length then none else readR e (c - (k + 1)) (k + 1) (rest.drop ((8 + g + 63) / 64 * 64)) (allC L2 l)) else none := by
                rw [← HR2.out, show c - k = (c - (k + 1)) + 1 by omega, readR, if_neg hne, ← HG.out, HLN.out, if_neg (by omega), ← HPE.out]
                split <;> (cases rdPay P <;> rfl)
              have HST := Lib.hid hstep
              clear hne hstep
              cases y with
              | false =>
                have HRN := Lib.hid (HST.out.trans (if_neg (of_decide_eq_false HYY.out.symm)))
                go_wp2_with fail
                refine bodyPost_ret (results_tmp rfl _ _ _) rfl ?_
                rw [HRN.out]
                exact ⟨rfl, HFF.out⟩
              | true =>
                have HRS := Lib.hid (HST.out.trans (if_pos (of_decide_eq_true HYY.out.symm)))
                have HSP := Lib.hid (HS1'.out.fr0 HF6.out)
                go_wp2_with fail
                refine (unpack_f HSP.out HPB'.out (by omega)).mono ?_
                intro en w7 hU
                have hmap : MapAt w6 mb2 L2 fp := (HM2.out.fr0 (FF4.out.trans HF6.out))
                cases ho : rdPay P with
                | none =>
                  rw [ho] at hU
                  obtain ⟨rfl, F7⟩ := hU
                  have HRN := Lib.hid (HRS.out.trans (by rw [ho]))
                  have HM7 := Lib.hid (hmap.fr0 F7)
                  have f7 := F7.get f6 (by simp)
                  have HF7 := Lib.hid (HFF.out.trans (F7.mono (by simp)))
                  clear ho hmap F7 f6 f6b t6
                  have t7 := World.at_lt f7
                  have y6 := Array.getElem?_eq_some_iff.1 (show SC2[6]? = some (.map (some mb2)) by rw [HSC2.out]; rfl)
                  obtain ⟨y6', y6⟩ := y6
                  go_wp2_with fail
                  refine (apply_f HM7.out (fun k hk => Nat.lt_of_lt_of_le (HFP.out k hk) HF7.out.size) (l := []) ⟨[], ⟨rfl, Nat.le_refl _, .inl rfl, fun _ => rfl, by simp⟩, .nil⟩ (by simp) HSo2.out HBy2.out (by omega)).mono ?_
                  rintro en w8 ⟨b8, rfl, M8, F8, l8⟩
                  have f8 := F8.get f7 (by simp)
                  have HF8 := Lib.hid (fun o => (HF7.out.trans (F8.mono (by simp))).put s o (fun _ => by simp))
                  clear f7 t7 M8 F8 l8
                  have t8 := World.at_lt f8
                  go_wp2_with fail
                  refine bodyPost_ret (results_tmp rfl _ _ _) rfl ?_
                  rw [HRN.out]
                  exact ⟨rfl, HF8.out _⟩
                | some l =>
                  rw [ho] at hU
                  obtain ⟨q7, c7, rfl, C7, F7⟩ := hU
                  have F7' := Lib.hid F7
                  have HRL := Lib.hid (HRS.out.trans (by rw [ho]))
                  have HM7 := Lib.hid (hmap.fr0 F7)
                  have f7 := F7.get f6 (by simp)
                  have HF7 := Lib.hid (HFF.out.trans (F7.mono (by simp)))
                  clear hmap F7 f6 f6b t6
                  have t7 := World.at_lt f7
                  have y6 := Array.getElem?_eq_some_iff.1 (show SC2[6]? = some (.map (some mb2)) by rw [HSC2.out]; rfl)
                  obtain ⟨y6', y6⟩ := y6
                  have HOK := Lib.hid (rdPay_ok HPB'.out ho)
                  have hl64 := rdPay_len HPB'.out ho
                  clear ho
                  go_wp2_with fail
                  refine (apply_f HM7.out (fun k hk => Nat.lt_of_lt_of_le (HFP.out k hk) HF7.out.size) C7 HOK.out HSo2.out HBy2.out hl64).mono ?_
                  rintro en w8 ⟨b8, rfl, M8, F8, l8⟩
                  have f8 := F8.get f7 (by simp)
                  have nb1 : b8 ≠ s := by omega
                  have nb2 : s ≠ b8 := nb1.symm
                  obtain ⟨es, ck, hes, hez⟩ := M8.len
                  obtain ⟨z, hz⟩ : ∃ z, z = (allC L2 l).length := ⟨_, rfl⟩
                  rw [← hz] at hez
                  have HZ := Lib.hid hz
                  have hput : MapAt (w8.put s (.cells (stC d hs half e c i b8 br) 75)) b8 (allC L2 l) fp := M8.put f8 (by rw [HSC2.out]; exact stC_no)
                  have HM8 := Lib.hid hput
                  have HF8 := Lib.hid ((HF7.out.trans (F8.mono (by simp))).put s (.cells (stC d hs half e c i b8 br) 75) (fun _ => by simp))
                  have HB8 := Lib.hid (show Sl .u8 (w8.put s (.cells (stC d hs half e c i b8 br) 75)) (some ⟨bb, off, none⟩) n2 cp2 rest from (((HS2.out.fr0 FF4.out).fr0 HF6.out).fr0 (F7'.out.trans F8)).put2 (HQ2.out bb rfl))
                  have hset : SC2.setIfInBounds 6 (.map (some b8)) = stC d hs half e c i b8 br := by rw [HSC2.out]; rfl
                  have HSET := Lib.hid hset
                  clear hset
                  have t8 := World.at_lt f8
                  have tes := World.at_lt hes
                  have hln : ∀ W : World, W.blk b8 = some (.map es ck) → (Builtin.len_ #[70] 3 #[.map (some b8)]).run Try.prog W = .ok (.int .i64 (es.size : Int)) W := fun W hW => run_len_map W 70 3 b8 es ck (by kernel_rfl) hW
                  clear f7 t7 M8 F8 l8 hz hput C7
                  by_cases h64 : 64 < z
                  · have d64 : decide ((64 : Int) < (es.size : Int)) = true := by rw [decide_eq_true_eq]; omega
                    have HRN := Lib.hid (HRL.out.trans (if_pos (by rw [← HZ.out]; exact h64)))
                    go_wp2_with fail
                    refine bodyPost_ret (results_tmp rfl _ _ _) rfl ?_
                    rw [HRN.out]
                    rw [HSET.out]
                    exact ⟨rfl, HF8.out⟩
                  · have d64 : decide ((64 : Int) < (es.size : Int)) = false := by rw [decide_eq_false_iff_not]; omega
                    have HRN := Lib.hid (HRL.out.trans (if_neg (by rw [← HZ.out]; exact h64)))
                    go_wp2_with fail
                    go_roundw
                    case rel =>
                      rw [HSET.out, show 8 + g + 64 - 1 = 8 + g + 63 by omega]
                      obtain ⟨Z, hZ⟩ : ∃ Z, Z = (8 + g + 63) / 64 * 64 := ⟨_, rfl⟩
                      have hZn : Z ≤ n2 := by omega
                      have SP := HB8.out.part (i := Z) (j := n2) (c := cp2) hZn (Nat.le_refl _) hcp (Nat.le_refl _)
                      rw [List.take_of_length_le (Nat.le_of_eq HLN.out)] at SP
                      have hpe : (if cp2 = Z then some (⟨bb, off, none⟩ : Addr) else some ⟨bb, off + Z, none⟩) = if cp2 = Z then some (⟨bb, off, none⟩ : Addr) else (some (⟨bb, off, none⟩ : Addr)).map (·.add Z) := by
                        simp [Addr.add_mid]
                      rw [← hZ, hpe]
                      refine ⟨k + 1, _, _, _, by omega, rfl, by first | rfl | simp, Lib.hid ⟨HF8.out, b8, allC L2 l, rest.drop Z, World.at_put_same _ _ _ t8, HM8.out, SP, ?_, ?_, sorted_allC HSo2.out, byt_allC HBy2.out (fun c hc => (HOK.out c hc).nb), (fun x hx => HB2.out x (List.mem_of_mem_drop hx)), by omega, by omega⟩⟩
                      · intro g' hg'
                        have : g' = bb := by
                          split at hg'
                          · simpa using hg'.symm
                          · simpa [Addr.add_mid] using hg'.symm
                        subst this
                        exact HQ2.out g' rfl
                      · rw [HRN.out, hZ]
                    case measure => simp [intOf]; omega
        · obtain rfl : k = c := by omega
          have hd2 : decide ((k : Int) < (k : Int)) = false := by simp
          have hR0 : R = if rest = [] then some L2 else none := by rw [← HR2.out, Nat.sub_self, readR]
          have HR0 := Lib.hid hR0
          clear hR0
          by_cases hn0 : n2 = 0
          · have hr0 : rest = [] := List.eq_nil_of_length_eq_zero (by rw [HLN.out]; exact hn0)
            have HR1 := Lib.hid (HR0.out.trans (if_pos hr0))
            have d0 : ((n2 : Int) == 0) = true := by rw [hn0]; rfl
            clear hr0
            go_wp2_with fail
            refine bodyPost_ret (results_tmp rfl _ _ _) rfl ?_
            rw [HR1.out]
            exact ⟨⟨mb2, rfl, by rw [← HSC2.out]; exact fs, HM2.out⟩, HF2.out⟩
          · have hr0 : ¬ rest = [] := fun h => hn0 (by rw [← HLN.out, h]; rfl)
            have HR1 := Lib.hid (HR0.out.trans (if_neg hr0))
            have d0 : ((n2 : Int) == 0) = false := by rw [beq_eq_false_iff_ne]; omega
            clear hr0
            go_wp2_with fail
            refine bodyPost_ret (results_tmp rfl _ _ _) rfl ?_
            rw [HR1.out]
            exact ⟨rfl, HF2.out⟩
end
end Go.Proofs.Ytombhkekocbfoaa
namespace Go.Proofs
open Go.RowKit Go.Maps Go.Sort Go.Shelf
def Try.keys60_ren : Go.Shelf.Ren := ⟨fun | 7 => 60 | 10 => 72 | n => n, fun | 23 => 70 | 26 => 9 | 3 => 22 | 28 => 115 | 0 => 0 | 27 => 114 | 33 => 128 | 4 => 4 | n => n, fun | n => n⟩
theorem Try.keys60 : Go.Proofs.SlLaysZ.n7 Try.prog Try.keys60_ren := {
  mixed := by kernel_rfl
  f7 := ⟨Try.f60.name, by decide, Try.func60.trans (congrArg some (by kernel_rfl))⟩
  f10 := ⟨Try.f72.name, by decide, Try.func72.trans (congrArg some (by kernel_rfl))⟩
  t0 := Try.underlying0
  a0 := Try.isAgg0
  z0 := Try.sizeOf0
  v0 := Try.zeroValue0
  t4 := Try.underlying4
  a4 := Try.isAgg4
  z4 := Try.sizeOf4
  v4 := Try.zeroValue4
  t23 := Try.underlying70
  a23 := Try.isAgg70
  z23 := Try.sizeOf70
  v23 := Try.zeroValue70
  t26 := Try.underlying9
  a26 := Try.isAgg9
  z26 := Try.sizeOf9
  v26 := Try.zeroValue9
  t27 := Try.underlying114
  a27 := Try.isAgg114
  z27 := Try.sizeOf114
  v27 := Try.zeroValue114
  t28 := Try.underlying115
  a28 := Try.isAgg115
  z28 := Try.sizeOf115
  v28 := Try.zeroValue115
  t33 := Try.underlying128
  a33 := Try.isAgg128
  z33 := Try.sizeOf128
  v33 := Try.zeroValue128 }
def Try.sorted59_ren : Go.Shelf.Ren := ⟨fun | 6 => 59 | 8 => 70 | 9 => 71 | 11 => 75 | 13 => 77 | 12 => 76 | 23 => 87 | 24 => 88 | 14 => 78 | 15 => 79 | 16 => 80 | 17 => 81 | 18 => 82 | 19 => 83 | 20 => 84 | 21 => 85 | 22 => 86 | 25 => 89 | 26 => 90 | 27 => 91 | 28 => 92 | 29 => 93 | 30 => 94 | 31 => 95 | n => n, fun | 26 => 9 | 28 => 115 | 24 => 112 | 0 => 0 | 3 => 3 | 37 => 67 | 48 => 71 | 50 => 54 | 4 => 4 | 40 => 135 | 39 => 134 | 45 => 140 | 5 => 5 | 9 => 9 | 51 => 144 | 55 => 147 | 57 => 149 | 58 => 150 | 33 => 128 | n => n, fun | n => n⟩
theorem Try.sorted59 : Go.Proofs.SlLaysZ.n6 Try.prog Try.sorted59_ren := {
  mixed := by kernel_rfl
  f6 := ⟨Try.f59.name, by decide, Try.func59.trans (congrArg some (by kernel_rfl))⟩
  f8 := ⟨Try.f70.name, by decide, Try.func70.trans (congrArg some (by kernel_rfl))⟩
  f11 := ⟨Try.f75.name, by decide, Try.func75.trans (congrArg some (by kernel_rfl))⟩
  t0 := Try.underlying0
  a0 := Try.isAgg0
  z0 := Try.sizeOf0
  v0 := Try.zeroValue0
  t24 := Try.underlying112
  a24 := Try.isAgg112
  z24 := Try.sizeOf112
  v24 := Try.zeroValue112
  t26 := Try.underlying9
  a26 := Try.isAgg9
  z26 := Try.sizeOf9
  v26 := Try.zeroValue9
  t28 := Try.underlying115
  a28 := Try.isAgg115
  z28 := Try.sizeOf115
  v28 := Try.zeroValue115
  i26 := by kernel_rfl }
def Try.sort71_ren : Go.Shelf.Ren := ⟨fun | 6 => 71 | 8 => 77 | 9 => 76 | 19 => 87 | 20 => 88 | 21 => 78 | 22 => 79 | 23 => 80 | 24 => 81 | 25 => 82 | 26 => 83 | 27 => 84 | 28 => 85 | 29 => 86 | 36 => 89 | 31 => 90 | 32 => 91 | 37 => 92 | 38 => 93 | 39 => 94 | 41 => 95 | n => n, fun | 27 => 112 | 29 => 9 | 3 => 3 | 32 => 67 | 26 => 112 | 0 => 0 | 44 => 71 | 46 => 54 | 4 => 4 | 36 => 135 | 35 => 134 | 41 => 140 | 5 => 5 | 9 => 9 | 53 => 144 | 57 => 147 | 63 => 149 | 64 => 150 | n => n, fun | n => n⟩
theorem Try.sort71 : Go.Proofs.SlLaysM.n6 Try.prog Try.sort71_ren := {
  mixed := by kernel_rfl
  f6 := ⟨Try.f71.name, by decide, Try.func71.trans (congrArg some (by kernel_rfl))⟩
  f8 := Try.func77.trans (congrArg some (by kernel_rfl))
  f9 := ⟨Try.f76.name, by decide, Try.func76.trans (congrArg some (by kernel_rfl))⟩
  f19 := Try.func87.trans (congrArg some (by kernel_rfl))
  f20 := Try.func88.trans (congrArg some (by kernel_rfl))
  f21 := ⟨Try.f78.name, by decide, Try.func78.trans (congrArg some (by kernel_rfl))⟩
  f22 := ⟨Try.f79.name, by decide, Try.func79.trans (congrArg some (by kernel_rfl))⟩
  f23 := ⟨Try.f80.name, by decide, Try.func80.trans (congrArg some (by kernel_rfl))⟩
  f24 := ⟨Try.f81.name, by decide, Try.func81.trans (congrArg some (by kernel_rfl))⟩
  f25 := ⟨Try.f82.name, by decide, Try.func82.trans (congrArg some (by kernel_rfl))⟩
  f26 := ⟨Try.f83.name, by decide, Try.func83.trans (congrArg some (by kernel_rfl))⟩
  f27 := ⟨Try.f84.name, by decide, Try.func84.trans (congrArg some (by kernel_rfl))⟩
  f28 := ⟨Try.f85.name, by decide, Try.func85.trans (congrArg some (by kernel_rfl))⟩
  f29 := ⟨Try.f86.name, by decide, Try.func86.trans (congrArg some (by kernel_rfl))⟩
  f31 := Try.func90.trans (congrArg some (by kernel_rfl))
  f32 := Try.func91.trans (congrArg some (by kernel_rfl))
  f36 := ⟨Try.f89.name, by decide, Try.func89.trans (congrArg some (by kernel_rfl))⟩
  f37 := ⟨Try.f92.name, by decide, Try.func92.trans (congrArg some (by kernel_rfl))⟩
  f38 := ⟨Try.f93.name, by decide, Try.func93.trans (congrArg some (by kernel_rfl))⟩
  f39 := ⟨Try.f94.name, by decide, Try.func94.trans (congrArg some (by kernel_rfl))⟩
  f41 := ⟨Try.f95.name, by decide, Try.func95.trans (congrArg some (by kernel_rfl))⟩
  t0 := Try.underlying0
  a0 := Try.isAgg0
  z0 := Try.sizeOf0
  v0 := Try.zeroValue0
  t3 := Try.underlying3
  a3 := Try.isAgg3
  z3 := Try.sizeOf3
  v3 := Try.zeroValue3
  t4 := Try.underlying4
  a4 := Try.isAgg4
  z4 := Try.sizeOf4
  v4 := Try.zeroValue4
  t5 := Try.underlying5
  a5 := Try.isAgg5
  z5 := Try.sizeOf5
  v5 := Try.zeroValue5
  t9 := Try.underlying9
  a9 := Try.isAgg9
  z9 := Try.sizeOf9
  v9 := Try.zeroValue9
  t26 := Try.underlying112
  a26 := Try.isAgg112
  z26 := Try.sizeOf112
  v26 := Try.zeroValue112
  t27 := Try.underlying112
  a27 := Try.isAgg112
  z27 := Try.sizeOf112
  v27 := Try.zeroValue112
  t29 := Try.underlying9
  a29 := Try.isAgg9
  z29 := Try.sizeOf9
  v29 := Try.zeroValue9
  t32 := Try.underlying67
  a32 := Try.isAgg67
  z32 := Try.sizeOf67
  v32 := Try.zeroValue67
  t35 := Try.underlying134
  a35 := Try.isAgg134
  z35 := Try.sizeOf134
  v35 := Try.zeroValue134
  t36 := Try.underlying135
  a36 := Try.isAgg135
  z36 := Try.sizeOf135
  v36 := Try.zeroValue135
  t41 := Try.underlying140
  a41 := Try.isAgg140
  z41 := Try.sizeOf140
  v41 := Try.zeroValue140
  t44 := Try.underlying71
  a44 := Try.isAgg71
  z44 := Try.sizeOf71
  v44 := Try.zeroValue71
  t46 := Try.underlying54
  a46 := Try.isAgg54
  z46 := Try.sizeOf54
  v46 := Try.zeroValue54
  t53 := Try.underlying144
  a53 := Try.isAgg144
  z53 := Try.sizeOf144
  v53 := Try.zeroValue144
  t57 := Try.underlying147
  a57 := Try.isAgg147
  z57 := Try.sizeOf147
  v57 := Try.zeroValue147
  t63 := Try.underlying149
  a63 := Try.isAgg149
  z63 := Try.sizeOf149
  v63 := Try.zeroValue149
  t64 := Try.underlying150
  a64 := Try.isAgg150
  z64 := Try.sizeOf150
  v64 := Try.zeroValue150 }
/-- slices.Sort's two contracts at this dump, at the fence that asks nothing. -/
theorem Try.sorts59 (m : Nat) : AnyZ.SortsIn Try.prog Try.sorted59_ren Fence.wide m :=
  ⟨fun blk off cap ss W hH hblk hsz => callsIn_wide.2 (AnyM.slices_Sort_string Try.sort71 blk off cap ss W hH hblk hsz),
   fun p cap W => callsIn_wide.2 (AnyM.slices_Sort_string_none Try.sort71 p cap W)⟩

/-- **maps.Keys[map[string][]byte,string,[]byte], at whatever map, the nil one too:** a function value over ONE NEW BLOCK, which holds the map. -/
theorem Try.maps_Keys_60 (mb : Option Nat) (W : World) : CallsIn Fence.wide 5 Try.prog 60 #[.map mb] W fun e w' => e = .returned (.func (.func 72) #[] #[.pointer (some ⟨W.heap.size, 0, none⟩)]) ∧ w' = W.alloc (.cells #[.map mb] 70) :=
  AnyZ.keys_in Try.keys60 Fence.wide 5 trivial rfl mb W

set_option maxHeartbeats 1000000 in
/-- **slices.Sorted[string] AT WHAT maps.Keys[map[string][]byte,string,[]byte] HANDED BACK FOR A MAP THAT IS NOT nil** ('w': the world AHEAD of maps.Keys' call): A NEW SLICE THAT HOLDS THE MAP's KEYS, SORTED; nil just where it has none; nothing that lay before has turned. -/
theorem Try.slices_Sorted_keys_59_60 {H : Type} (b nn : Nat) (D0 : DataW H) (R : Value → Option (DataW H × List MemPlace)) (w : World) (hown : w.ownsMap Try.prog 9 R b nn D0) (hmax : Maps.size D0 ≤ maxLen) (hbytes : Maps.size D0 * 16 ≤ 140737488355328) :
    CallsIn Fence.wide 5 Try.prog 59 #[.func (.func 72) #[] #[.pointer (some ⟨w.heap.size, 0, none⟩)]] (w.alloc (.cells #[.map (some b)] 70)) fun e w' => ∃ (v : Value) (ss : List (List UInt8)), e = .returned v ∧ ss.Perm (strKeys D0) ∧
      w'.ownsRow (w.alloc (.cells #[.map (some b)] 70)).heap.size 9 1 v ss.length ((ss.mergeSort (fun x y => decide (x ≤ y))).map encStr) ∧ (v = .slice none 0 0 ↔ ss = []) ∧ Below (w.alloc (.cells #[.map (some b)] 70)).heap.size (w.alloc (.cells #[.map (some b)] 70)) w' := by
  have hbl := hown.lt
  have hseq : SeqGives Fence.wide 2 Try.prog 72 #[.pointer (some ⟨w.heap.size, 0, none⟩)] encStr (fun ss => ss.Perm (strKeys D0)) (Maps.size D0) (w.alloc (.cells #[.map (some b)] 70)) :=
    AnyZ.keys_gives (ρ := Try.keys60_ren) { Try.keys60 with } Fence.wide _ trivial rfl (by omega) w.heap.size b nn D0 _ (by simp) (by simp) (by
      obtain ⟨es, clock, hb, Ft, hs, hD⟩ := hown
      exact ⟨es, clock, (Below.heap_alloc _ _ b hbl).trans hb, Ft, hs, hD⟩)
  exact AnyZ.sorted_in Try.sorted59 Fence.wide 5 trivial trivial trivial trivial rfl (by omega) (Try.sorts59 _) (enters_of Try.func71 (by kernel_rfl) rfl) 72 #[.pointer (some ⟨w.heap.size, 0, none⟩)] trivial (enters_of Try.func72 (by kernel_rfl) rfl) _ _ hmax hbytes _ hseq

end Go.Proofs
