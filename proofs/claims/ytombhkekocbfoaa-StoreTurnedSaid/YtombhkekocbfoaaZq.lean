/- Joined: SoQ, SoR, SoZl. -/
import Derived.Test.YtombhkekocbfoaaZp
import Derived.Test.YtombhkekocbfoaaZf
import Derived.Test.YtombhkekocbfoaaZh
import Derived.Test.YtombhkekocbfoaaZo
set_option linter.unusedVariables false
set_option linter.unusedSimpArgs false
namespace Go.St
open Go.Kd Go.Dr
theorem payB_len {l : List Chg} (h : ∀ c ∈ l, ChgOk c) (hl : l.length ≤ 64) : (payB l).length ≤ 300000 := by
  have key : ∀ l : List Chg, (∀ c ∈ l, ChgOk c) → ((l.map fun c => joinB (chgP c)).flatMap fun p => ((p.length / 256 : Nat) : Int) :: ((p.length % 256 : Nat) : Int) :: p).length ≤ l.length * 4039 := by
    intro l
    induction l with
    | nil => intro _; simp
    | cons c l ih =>
      intro h
      have h1 := ih fun x hx => h x (by simp [hx])
      have h2 := chgJ_length (h c (by simp))
      simp only [List.map_cons, List.flatMap_cons, List.length_append, List.length_cons, Nat.add_mul]
      omega
  have := key l h
  rw [payB, joinB, List.length_cons]
  have : l.length * 4039 ≤ 64 * 4039 := Nat.mul_le_mul_right _ hl
  omega
theorem byt_payB {l : List Chg} (h : ∀ c ∈ l, ChgB c) (hl : l.length ≤ 64) : Byt (payB l) := by
  refine isBytes_join (payB_fits (fun c hc => (h c hc).ok) hl) fun p hp => ?_
  obtain ⟨c, hc, rfl⟩ := List.mem_map.1 hp
  refine isBytes_join (chgP_fits (h c hc).ok) fun q hq => ?_
  unfold chgP at hq
  split at hq
  · rw [List.mem_singleton] at hq
    subst hq
    exact (h c hc).nb
  · rcases List.mem_cons.1 hq with rfl | hq
    · exact (h c hc).nb
    · rw [List.mem_singleton] at hq
      subst hq
      exact (h c hc).vb
theorem wrM_n : ∀ (bs : List Bs) (m : DM) (p : Nat), (wrM m p bs).2.n = m.n := by
  intro bs
  induction bs with
  | nil => intro m p; rfl
  | cons b bs ih =>
    intro m p
    rw [wrM]
    split
    · rw [ih]; exact Go.Proofs.Ytombhkekocbfoaa.writeM_n m p b
    · exact Go.Proofs.Ytombhkekocbfoaa.writeM_n m p b
theorem wrM_wl : ∀ (bs : List Bs) (m : DM) (p : Nat), (wrM m p bs).2.waits.length ≤ m.waits.length + bs.length := by
  intro bs
  induction bs with
  | nil => intro m p; exact Nat.le_refl _
  | cons b bs ih =>
    intro m p
    have h := Go.Proofs.Ytombhkekocbfoaa.writeM_wl m p b
    rw [wrM, List.length_cons]
    split
    · exact Nat.le_trans (ih _ _) (by omega)
    · show (writeM m p b).2.waits.length ≤ _
      omega
theorem syncM_n (m : DM) : (syncM m).2.n = m.n ∧ (syncM m).2.waits.length ≤ m.waits.length := by
  unfold syncM
  have := aliveM_same m
  split
  · exact ⟨this.1, Nat.zero_le _⟩
  · exact ⟨this.1, by rw [this.2.2.2]; exact Nat.le_refl _⟩
theorem putM_nn (m : DM) (p : Nat) (b : Bs) : (putM m p b).2.n = m.n ∧ (putM m p b).2.waits.length ≤ m.waits.length + b.length / 64 := by
  have h1 := wrM_n (chunks b) m p
  have h2 := wrM_wl (chunks b) m p
  rw [chunks_length] at h2
  unfold putM
  split
  · have h3 := syncM_n (wrM m p (chunks b)).2
    exact ⟨h3.1.trans h1, Nat.le_trans h3.2 h2⟩
  · exact ⟨h1, h2⟩
theorem badC_cons (c : Chg) (l : List Chg) : badC (c :: l) = if c.name.length < 1 ∨ 32 < c.name.length ∨ (c.gone = true ∧ 0 < c.val.length) then some 1 else if 4000 < c.val.length then some 5 else badC l := rfl
end Go.St
namespace Go.Proofs.Ytombhkekocbfoaa
open Go.RowKit Go.Dr Go.Kd Go.St
theorem sl_put10 {w : World} {b : Nat} {o : Obj} {q : Option Addr} {m d : Nat} {v : Bs} (S : Sl .u8 w q m d v) (hn : ∀ g, q.map (·.block) = some g → g ≠ b) : Sl .u8 (w.put b o) q m d v := by
  rcases Nat.eq_zero_or_pos m with h0 | h0
  · subst h0; exact sl_zero S
  · obtain ⟨bb, off, cs, T, fr, rfl, fc, hs', hx'⟩ := S.out h0
    exact Sl.of ((World.at_put_other _ _ _ _ (hn bb rfl).symm).trans fc) hs' hx' S.cap_
theorem asC_ok {L : List (Bs × Bs)} (h : ∀ x ∈ L, EntOk x) : ∀ c ∈ asC L, ChgB c := fun c hc => by
  obtain ⟨x, hx, rfl⟩ := List.mem_map.1 hc
  have := h x hx
  exact ⟨⟨this.n1, this.n2, this.v, fun h => by cases h⟩, this.nb, this.vb⟩
/-- What Commit answers. -/
def CommR (w : World) (s d : Nat) (fp av : List Nat) (en : Ending) (w' : World) (o : Int × SP × DM) : Prop :=
  ∃ fp', en = .returned (.int .i64 o.1) ∧ StAv w' s d o.2.1 o.2.2 fp' av ∧ Fr (s :: fp) w w' ∧ News w fp fp'
section
variable {w : World}
set_option maxRecDepth 100000 in
set_option maxHeartbeats 8000000 in
theorem commit_f {s d : Nat} {sp : SP} {m : DM} {fp av : List Nat} (T : StAv w s d sp m fp av) (hav : ∀ k ∈ av, k < w.heap.size) (K : SPB m.n sp) (hN1 : m.n ≤ 1024) (hwl : m.waits.length ≤ 500000) {p : Option Addr} {n cap : Nat} {l : List Chg} (C : Chs w p n cap l) (hB : ∀ c ∈ l, Byt c.name ∧ Byt c.val) (hn : n ≤ 1000000) :
    Calls Try.prog 11 #[.pointer (some ⟨s, 0, none⟩), .slice p n cap] w fun en w' => CommR w s d fp av en w' (commitM sp m l) := by
  have HAV := Lib.hid hav
  clear hav
  have HT := Lib.hid T
  have HC := Lib.hid C
  have HL := Lib.hid C.len
  have HB := Lib.hid hB
  have HK := Lib.hid K
  obtain ⟨RR, hRR⟩ : ∃ RR, RR = commitM sp m l := ⟨_, rfl⟩
  rw [← hRR]
  have HR := Lib.hid hRR
  clear hRR T C hB K
  go_enter Try.func11, Try.ntmps11
  go_wp2_with fail
  go_loopw [14] (fun iv wy => ∃ i : Nat, i ≤ n ∧ iv = .int .i64 (i : Int) ∧ Hid (Fr [] w wy ∧ badC l = badC (l.drop i))) (fun iv _ => (n - intOf iv).toNat)
  case atStart => exact ⟨0, by omega, rfl, Lib.hid ⟨Fr.refl _ _, rfl⟩⟩
  case round =>
    obtain ⟨i, hin, rfl, hW⟩ := hrel
    have HF := Lib.hid hW.out.1
    have HT1 : Hid (∀ o : Obj, StAv (wr.alloc o) s d sp m fp av ∧ Fr (s :: fp) w (wr.alloc o)) := Lib.hid fun o => by
      have F1 := hW.out.1.alloc o
      obtain ⟨mb, f0, hs, D, M⟩ := HT.out.ex
      exact ⟨⟨mb, F1.get f0 (by simp), hs, D.fr0 F1, M.fr0 F1⟩, F1.mono (by simp)⟩
    by_cases hlt : i < n
    · have hd : decide ((i : Int) < (n : Int)) = true := by rw [decide_eq_true_eq]; omega
      obtain ⟨x, q2, m2, d2, b, off, cs, TT, fr, hx, rfl, fb, hsz, hext, S2⟩ := (HC.out.fr0 hW.out.1).at hlt
      obtain ⟨B, hBe⟩ : ∃ B : Array Value, B = #[.string (strB x.name), .slice q2 m2 d2, .bool x.gone] := ⟨_, rfl⟩
      rw [← hBe] at hext
      have szB : B.size = 3 := by rw [hBe]; rfl
      have onB : ones B.toList = true := by rw [hBe]; rfl
      have alB : B.extract 0 3 = B := by rw [← szB]; exact Array.extract_size
      obtain ⟨X, hX⟩ : ∃ X, X = strB x.name := ⟨_, rfl⟩
      rw [← hX] at hBe
      have hXs : X.size = x.name.length := by rw [hX, strB_size]
      obtain ⟨z, hz⟩ : ∃ z, z = x.name.length := ⟨_, rfl⟩
      rw [← hz] at hXs
      have x0 := Array.getElem?_eq_some_iff.1 (show B[0]? = some (.string X) by rw [hBe]; rfl)
      have x1 := Array.getElem?_eq_some_iff.1 (show B[1]? = some (.slice q2 m2 d2) by rw [hBe]; rfl)
      obtain ⟨g, hg⟩ : ∃ g, g = x.gone := ⟨_, rfl⟩
      have x2 := Array.getElem?_eq_some_iff.1 (show B[2]? = some (.bool g) by rw [hBe, hg]; rfl)
      obtain ⟨x0', x0⟩ := x0
      obtain ⟨x1', x1⟩ := x1
      obtain ⟨x2', x2⟩ := x2
      have hm2 : x.val.length = m2 := S2.len
      have hdr : l.drop i = x :: l.drop (i + 1) := by
        obtain ⟨h1, h2⟩ := List.getElem?_eq_some_iff.1 hx
        rw [List.drop_eq_getElem_cons h1, h2]
      have hbad := hW.out.2
      rw [hdr, badC_cons, ← hg, ← hz, hm2] at hbad
      have HBD := Lib.hid hbad
      have tb := World.at_lt fb
      clear hBe hX hz hg hm2 hdr hbad S2 hx hW
      go_upto_region 4 with (fail)
      refine named_world (A := fun X => X.blk wr.heap.size = some (.cells B 32) ∧ (StAv X s d sp m fp av ∧ Fr (s :: fp) w X) ∧ Fr [] w X) (Q := fun X => Code.wp _ _ _ _ X) ⟨World.at_alloc_new _ _ _ rfl, HT1.out _, HF.out.alloc _⟩ ?_
      rintro U ⟨f6, hTU, FU⟩
      have HTU := Lib.hid hTU
      have HFU := Lib.hid FU
      obtain ⟨b6, hb6⟩ : ∃ b6, b6 = wr.heap.size := ⟨_, rfl⟩
      rw [← hb6] at f6 ⊢
      clear hb6 hTU FU fb tb
      have t6 := World.at_lt f6
      by_cases z1 : z < 1
      · have d1 : decide ((X.size : Int) < 1) = true := by rw [decide_eq_true_eq]; omega
        have HRE := Lib.hid (HR.out.trans (show commitM sp m l = (1, sp, m) by rw [commitM, HBD.out, if_pos (.inl z1)]))
        go_wp2_with fail
        refine bodyPost_ret (results_tmp rfl _ _ _) rfl ?_
        rw [HRE.out]
        exact ⟨fp, rfl, HTU.out.1, HTU.out.2, fun k hk => .inl hk⟩
      have d1 : decide ((X.size : Int) < 1) = false := by rw [decide_eq_false_iff_not]; omega
      by_cases z2 : 32 < z
      · have d2 : decide ((32 : Int) < (X.size : Int)) = true := by rw [decide_eq_true_eq]; omega
        have HRE := Lib.hid (HR.out.trans (show commitM sp m l = (1, sp, m) by rw [commitM, HBD.out, if_pos (.inr (.inl z2))]))
        go_wp2_with fail
        refine bodyPost_ret (results_tmp rfl _ _ _) rfl ?_
        rw [HRE.out]
        exact ⟨fp, rfl, HTU.out.1, HTU.out.2, fun k hk => .inl hk⟩
      have d2 : decide ((32 : Int) < (X.size : Int)) = false := by rw [decide_eq_false_iff_not]; omega
      have hgo : (¬ (g = true ∧ 0 < m2)) → badC l = if 4000 < m2 then some 5 else badC (l.drop (i + 1)) := fun h => by
        rw [HBD.out, if_neg]
        intro h2
        rcases h2 with h2 | h2 | h2
        · exact z1 h2
        · exact z2 h2
        · exact h h2
      have HGO := Lib.hid hgo
      clear hgo
      have hxs1 := Lib.hid hXs
      cases g with
      | true =>
        by_cases z3 : 0 < m2
        · have d3 : decide ((0 : Int) < (m2 : Int)) = true := by rw [decide_eq_true_eq]; omega
          have HRE := Lib.hid (HR.out.trans (show commitM sp m l = (1, sp, m) by rw [commitM, HBD.out, if_pos (.inr (.inr ⟨rfl, z3⟩))]))
          go_wp2_with fail
          refine bodyPost_ret (results_tmp rfl _ _ _) rfl ?_
          rw [HRE.out]
          exact ⟨fp, rfl, HTU.out.1, HTU.out.2, fun k hk => .inl hk⟩
        · have d3 : decide ((0 : Int) < (m2 : Int)) = false := by rw [decide_eq_false_iff_not]; omega
          have d4 : decide ((4000 : Int) < (m2 : Int)) = false := by rw [decide_eq_false_iff_not]; omega
          have HN := Lib.hid ((HGO.out (fun h => z3 h.2)).trans (if_neg (by omega)))
          go_wp2_with fail
          go_roundw
          case rel => exact ⟨i + 1, hlt, by first | rfl | simp, Lib.hid ⟨HFU.out, HN.out⟩⟩
          case measure => simp [intOf]; omega
      | false =>
        by_cases z4 : 4000 < m2
        · have d4 : decide ((4000 : Int) < (m2 : Int)) = true := by rw [decide_eq_true_eq]; omega
          have HRE := Lib.hid (HR.out.trans (show commitM sp m l = (5, sp, m) by rw [commitM, HGO.out (by simp), if_pos z4]))
          go_wp2_with fail
          refine bodyPost_ret (results_tmp rfl _ _ _) rfl ?_
          rw [HRE.out]
          exact ⟨fp, rfl, HTU.out.1, HTU.out.2, fun k hk => .inl hk⟩
        · have d4 : decide ((4000 : Int) < (m2 : Int)) = false := by rw [decide_eq_false_iff_not]; omega
          have HN := Lib.hid ((HGO.out (by simp)).trans (if_neg z4))
          go_wp2_with fail
          go_roundw
          case rel => exact ⟨i + 1, hlt, by first | rfl | simp, Lib.hid ⟨HFU.out, HN.out⟩⟩
          case measure => simp [intOf]; omega
    · obtain rfl : i = n := by omega
      have hd : decide ((i : Int) < (i : Int)) = false := by simp
      have hbn : badC l = none := by rw [hW.out.2, List.drop_of_length_le (by rw [HL.out]; exact Nat.le_refl _)]; rfl
      have HOK := Lib.hid (show ∀ c ∈ l, ChgB c from fun c hc => ⟨badC_none.1 hbn c hc, (HB.out c hc).1, (HB.out c hc).2⟩)
      have HFw := Lib.hid hW.out.1
      have HRC := Lib.hid (HR.out.trans (show commitM sp m l = if 64 < l.length then (4, sp, m)
          else if 64 < (allC sp.L l).length then (4, sp, m)
          else if sp.broken then (150, sp, m)
          else if l = [] then (0, sp, m)
          else if m.n / 2 < sp.fin + (recB sp.epoch (sp.count + 1) (payB l)).length / 64 then
            if sp.epoch = 18446744073709551615 then (7, sp, m)
            else if m.n / 2 < 1 + (recB (sp.epoch + 1) 1 (payB (asC (allC sp.L l)))).length / 64 then (4, sp, m)
            else finM sp m (allC sp.L l) (1 - sp.half) 1 (sp.epoch + 1) 1 (recB (sp.epoch + 1) 1 (payB (asC (allC sp.L l))))
          else finM sp m (allC sp.L l) sp.half sp.fin sp.epoch (sp.count + 1) (recB sp.epoch (sp.count + 1) (payB l)) by rw [commitM, hbn]))
      obtain ⟨mb, f0, hsf, D, M⟩ := HT.out.ex
      have HSF := Lib.hid hsf
      have HD := Lib.hid (D.fr0 hW.out.1)
      have HM := Lib.hid (M.fr0 hW.out.1)
      have hlow := DiskAt.lt D
      have HLOW := Lib.hid hlow
      have f1 := hW.out.1.get f0 (by simp)
      have HF1 := Lib.hid f1
      have HCw := Lib.hid (HC.out.fr0 hW.out.1)
      have HTW := Lib.hid (show ∀ W, Fr [] wr W → StAv W s d sp m fp av ∧ Fr (s :: fp) w W from fun W F => ⟨⟨mb, F.get f1 (by simp), hsf, (D.fr0 hW.out.1).fr0 F, (M.fr0 hW.out.1).fr0 F⟩, (hW.out.1.trans F).mono (by simp)⟩)
      obtain ⟨hs, hhs⟩ : ∃ hs, hs = m.n / 2 := ⟨_, rfl⟩
      obtain ⟨half, hhalf⟩ : ∃ half, half = sp.half := ⟨_, rfl⟩
      obtain ⟨e, he⟩ : ∃ e, e = sp.epoch := ⟨_, rfl⟩
      obtain ⟨c, hc⟩ : ∃ c, c = sp.count := ⟨_, rfl⟩
      obtain ⟨f, hf⟩ : ∃ f, f = sp.fin := ⟨_, rfl⟩
      obtain ⟨br, hbr⟩ : ∃ br, br = sp.broken := ⟨_, rfl⟩
      have HNAMES := Lib.hid (show hs = m.n / 2 ∧ half = sp.half ∧ e = sp.epoch ∧ c = sp.count ∧ f = sp.fin ∧ br = sp.broken from ⟨hhs, hhalf, he, hc, hf, hbr⟩)
      have k1 := HK.out.half
      have k2 := HK.out.e64
      have k3 := HK.out.f1
      have k4 := HK.out.f2
      have k5 := HK.out.cnt
      rw [← hhs, ← hhalf, ← he, ← hc, ← hf, ← hbr] at f1
      rw [← hhs] at k4
      rw [← hhalf] at k1
      rw [← he] at k2
      rw [← hf] at k3 k4 k5
      rw [← hc] at k5
      have k6 : 2 * hs ≤ m.n := by omega
      obtain ⟨SC, hSC⟩ : ∃ SC, SC = stC d hs half e c f mb br := ⟨_, rfl⟩
      rw [← hSC] at f1
      have HSC := Lib.hid hSC
      have szC : SC.size = 8 := by rw [hSC]; rfl
      have x1 := Array.getElem?_eq_some_iff.1 (show SC[1]? = some (.int .i64 hs) by rw [hSC]; rfl)
      have x2 := Array.getElem?_eq_some_iff.1 (show SC[2]? = some (.int .i64 half) by rw [hSC]; rfl)
      have x3 := Array.getElem?_eq_some_iff.1 (show SC[3]? = some (.int .u64 e) by rw [hSC]; rfl)
      have x4 := Array.getElem?_eq_some_iff.1 (show SC[4]? = some (.int .u32 c) by rw [hSC]; rfl)
      have x5 := Array.getElem?_eq_some_iff.1 (show SC[5]? = some (.int .u32 f) by rw [hSC]; rfl)
      have x6 := Array.getElem?_eq_some_iff.1 (show SC[6]? = some (.map (some mb)) by rw [hSC]; rfl)
      have x7 := Array.getElem?_eq_some_iff.1 (show SC[7]? = some (.bool br) by rw [hSC]; rfl)
      obtain ⟨x1', x1⟩ := x1
      obtain ⟨x2', x2⟩ := x2
      obtain ⟨x3', x3⟩ := x3
      obtain ⟨x4', x4⟩ := x4
      obtain ⟨x5', x5⟩ := x5
      obtain ⟨x6', x6⟩ := x6
      obtain ⟨x7', x7⟩ := x7
      have t1 := World.at_lt f1
      have hl : l.length = i := HL.out
      clear hbn f0 D M hlow hhs hhalf he hc hf hbr hSC hW hsf
      by_cases h64 : 64 < i
      · have d64 : decide ((64 : Int) < (i : Int)) = true := by rw [decide_eq_true_eq]; omega
        have HRE := Lib.hid (HRC.out.trans (if_pos (by rw [hl]; exact h64)))
        clear hl
        go_wp2_with fail
        refine bodyPost_ret (results_tmp rfl _ _ _) rfl ?_
        rw [HRE.out]
        exact ⟨fp, rfl, (HTW.out _ (Fr.refl [] _)).1, (HTW.out _ (Fr.refl [] _)).2, fun k hk => .inl hk⟩
      have d64 : decide ((64 : Int) < (i : Int)) = false := by rw [decide_eq_false_iff_not]; omega
      have HRC := Lib.hid (HRC.out.trans (if_neg (by rw [hl]; exact h64)))
      have HLI := Lib.hid hl
      have HI64 := Lib.hid (show i ≤ 64 by omega)
      clear hl
      go_wp2_with fail
      refine (apply_f HM.out (fun k hk => Nat.lt_of_lt_of_le ((List.mem_append.1 hk).elim (HAV.out k) (HLOW.out k)) HFw.out.size) HCw.out HOK.out HK.out.srt (fun x hx => (HK.out.ent x hx).nb) (by omega)).mono ?_
      rintro en w2 ⟨b7, rfl, M2, F2, l2⟩
      have HM2 := Lib.hid M2
      have HF2 := Lib.hid F2
      have HLO7 := Lib.hid (Nat.le_trans HFw.out.size l2)
      obtain ⟨es, ck, hes, hez⟩ := M2.len
      obtain ⟨z, hz⟩ : ∃ z, z = (allC sp.L l).length := ⟨_, rfl⟩
      rw [← hz] at hez
      have HZ := Lib.hid hz
      have hln : (Builtin.len_ #[70] 3 #[.map (some b7)]).run Try.prog w2 = .ok (.int .i64 (es.size : Int)) w2 := run_len_map w2 70 3 b7 es ck (by kernel_rfl) hes
      have f2 := F2.get f1 (by simp)
      have t2 := World.at_lt f2
      clear f1 t1 M2 F2 l2 hz hes
      by_cases h642 : 64 < z
      · have d642 : decide ((64 : Int) < (es.size : Int)) = true := by rw [decide_eq_true_eq]; omega
        have HRE := Lib.hid (HRC.out.trans (if_pos (by rw [← HZ.out]; exact h642)))
        go_wp2_with fail
        refine bodyPost_ret (results_tmp rfl _ _ _) rfl ?_
        rw [HRE.out]
        exact ⟨fp, rfl, (HTW.out _ HF2.out).1, (HTW.out _ HF2.out).2, fun k hk => .inl hk⟩
      have d642 : decide ((64 : Int) < (es.size : Int)) = false := by rw [decide_eq_false_iff_not]; omega
      have HRC := Lib.hid (HRC.out.trans (if_neg (by rw [← HZ.out]; exact h642)))
      cases br with
      | true =>
        have HRE := Lib.hid (HRC.out.trans (if_pos HNAMES.out.2.2.2.2.2.symm))
        go_wp2_with fail
        refine bodyPost_ret (results_tmp rfl _ _ _) rfl ?_
        rw [HRE.out]
        exact ⟨fp, rfl, (HTW.out _ HF2.out).1, (HTW.out _ HF2.out).2, fun k hk => .inl hk⟩
      | false =>
        have HRC := Lib.hid (HRC.out.trans (if_neg (by rw [← HNAMES.out.2.2.2.2.2]; simp)))
        by_cases hn0 : i = 0
        · have dn : ((i : Int) == 0) = true := by rw [hn0]; rfl
          have HRE := Lib.hid (HRC.out.trans (if_pos (List.eq_nil_of_length_eq_zero (HLI.out.trans hn0))))
          go_wp2_with fail
          refine bodyPost_ret (results_tmp rfl _ _ _) rfl ?_
          rw [HRE.out]
          exact ⟨fp, rfl, (HTW.out _ HF2.out).1, (HTW.out _ HF2.out).2, fun k hk => .inl hk⟩
        have dn : ((i : Int) == 0) = false := by rw [beq_eq_false_iff_ne]; omega
        have HRC := Lib.hid (HRC.out.trans (if_neg (fun h => hn0 (by rw [← HLI.out, h]; rfl))))
        go_upto_region 18 with (fail)
        clear hln hez
        refine drawn_begin 25 (fun w' => w'.blk s = some (.cells SC 75)) (by kernel_rfl) ?_
        refine drawn_reads (fuel := 4) [0, 1, 2, 3, 4, 5, 6, 7, 8, 9, 10, 11, 12, 13, 14, 15, 16, 17, 18, 19, 20, 21] rfl (by kernel_rfl) f2 ?_
        have wc : IntKind.u32.wrap ((c : Int) + 1) = ((c + 1 : Nat) : Int) := by rw [IntKind.wrap_u32]; omega
        have wf : IntKind.i64.wrap (f : Int) = (f : Int) := by rw [IntKind.wrap_i64]; omega
        repeat (first | (refine rowK_step2 rfl rfl (fun K hK => ?_); go_wp2) | (refine rowK_step rfl (fun K hK => ?_); go_simp; refine hK _ ?_; clear hK K))
        refine rowK_nil ⟨fun w' e1 => ?_, ?_⟩
        · clear f2 t2
          have t2 := World.at_lt e1
          repeat (first | (refine rowWp_step2 rfl rfl (fun K hK => ?_); go_wp2) | (refine rowWp_step rfl (fun K hK => ?_); go_simp; refine hK _ ?_; clear hK K))
          exact rowWp_nil rfl
        refine drawn_next 22 (fuel := 3) rfl (by kernel_rfl) ?_
        intro K hK
        go_wp2_with fail
        have f3 := ((Fr.refl [] w2).alloc (.cells #[.int .u64 0, .int .u32 0, .int .u32 0] 73)).drew.get f2 (by simp)
        refine ⟨f3, ?_⟩
        refine drawn_reads (fuel := 1) [23, 24] rfl (by kernel_rfl) f3 ?_
        repeat (first | (refine rowK_step2 rfl rfl (fun K hK => ?_); go_wp2) | (refine rowK_step rfl (fun K hK => ?_); go_simp; refine hK _ ?_; clear hK K))
        refine rowK_nil ⟨fun w' e1 => ?_, ?_⟩
        · repeat (first | (refine rowWp_step2 rfl rfl (fun K hK => ?_); go_wp2) | (refine rowWp_step rfl (fun K hK => ?_); go_simp; refine hK _ ?_; clear hK K))
          exact rowWp_nil rfl
        refine drawn_end rfl (by kernel_rfl) ?_
        intro K hK
        -- TAIL
        go_wp2_with fail
        obtain ⟨b10, hb10⟩ : ∃ b10, b10 = w2.heap.size := ⟨_, rfl⟩
        rw [← hb10]
        refine named_world (A := fun X => X.blk b10 = some (.cells #[.int .u64 e, .int .u32 ((c + 1 : Nat) : Int), .int .u32 0] 73) ∧ Fr [] w2 X) (Q := fun X => Code.wp _ _ _ _ X) ⟨by rw [hb10]; exact World.at_alloc_new _ _ _ rfl, ((Fr.refl [] w2).alloc _).drew⟩ ?_
        rintro X ⟨f10, FX⟩
        have HL10 := Lib.hid (show w2.heap.size ≤ b10 by omega)
        obtain ⟨c1, hc1⟩ : ∃ c1, c1 = c + 1 := ⟨_, rfl⟩
        rw [← hc1] at f10
        have hcb : c1 < 4294967296 := by omega
        have HC1 := Lib.hid hc1
        obtain ⟨XB, hXB⟩ : ∃ XB : Array Value, XB = #[.int .u64 e, .int .u32 (c1 : Int), .int .u32 0] := ⟨_, rfl⟩
        rw [← hXB] at f10
        have HXB := Lib.hid hXB
        have szX : XB.size = 3 := by rw [hXB]; rfl
        have y0 := Array.getElem?_eq_some_iff.1 (show XB[0]? = some (.int .u64 e) by rw [hXB]; rfl)
        have y1 := Array.getElem?_eq_some_iff.1 (show XB[1]? = some (.int .u32 (c1 : Int)) by rw [hXB]; rfl)
        obtain ⟨y0', y0⟩ := y0
        obtain ⟨y1', y1⟩ := y1
        have HFX := Lib.hid FX
        have t10 := World.at_lt f10
        have fs := FX.get f2 (by simp)
        have ts := World.at_lt fs
        have HF10 := Lib.hid f10
        have HNE := Lib.hid (show b10 ≠ s from fun h => by have := HL10.out; rw [h] at this; omega)
        have HXB0 := Lib.hid hXB
        clear hb10 hc1 hXB FX f2 t2 wc wf f3
        refine drawn_begin 7 (fun w' => w'.blk b10 = some (.cells XB 73)) (by kernel_rfl) ?_
        refine drawn_reads (fuel := 3) [0, 1, 2, 3, 4] rfl (by kernel_rfl) f10 ?_
        repeat (first | (refine rowK_step2 rfl rfl (fun K hK => ?_); go_wp2) | (refine rowK_step rfl (fun K hK => ?_); go_simp; refine hK _ ?_; clear hK K))
        refine rowK_nil ⟨fun w' e1 => ?_, ?_⟩
        · clear f10 t10 fs ts
          have t10 := World.at_lt e1
          repeat (first | (refine rowWp_step2 rfl rfl (fun K hK => ?_); go_wp2) | (refine rowWp_step rfl (fun K hK => ?_); go_simp; refine hK _ ?_; clear hK K))
          exact rowWp_nil rfl
        refine drawn_next 5 (fuel := 2) rfl (by kernel_rfl) ?_
        intro K hK
        go_wp2_with fail
        refine (pack_f ((HCw.out.fr0 (HF2.out.trans HFX.out)).fr0 (Fr.refl [] X).drew) HOK.out HI64.out).mono ?_
        rintro en w5 ⟨q5, m5, c5, rfl, B5⟩
        have F5 : Fr [] X w5 := (Fr.refl [] X).drew.trans B5.own.fr
        have HB5 := Lib.hid B5
        have HF5 := Lib.hid F5
        have hPb := byt_payB HOK.out (by rw [HLI.out]; exact HI64.out)
        have hPl := payB_len (fun c hc => (HOK.out c hc).ok) (by rw [HLI.out]; exact HI64.out)
        rw [B5.len] at hPl
        obtain ⟨PP, hPP⟩ : ∃ PP, PP = payB l := ⟨_, rfl⟩
        rw [← hPP] at HB5 hPb
        have HPP := Lib.hid hPP
        have HPB := Lib.hid hPb
        have f10 := F5.get HF10.out (by simp)
        have t10 := World.at_lt f10
        have fs := F5.get fs (by simp)
        have ts := World.at_lt fs
        clear B5 F5 hPb hPP
        go_wp2_with fail
        refine ⟨f10, ?_⟩
        refine drawn_next 6 (fuel := 1) rfl (by kernel_rfl) ?_
        intro K hK
        go_wp2_with fail
        refine (record_f hcb HB5.out.sl HPB.out (by omega)).mono ?_
        rintro en w6 ⟨q6, m6, c6, rfl, B6⟩
        obtain ⟨kk, hkk⟩ : ∃ kk, m6 = 64 * kk := ⟨(8 + PP.length + 63) / 64, by rw [← B6.len, recB_length]; omega⟩
        have hkl : (recB e c1 PP).length / 64 = kk := by rw [B6.len, hkk]; omega
        have hkb : kk ≤ 10000 := by
          have := B6.len
          rw [recB_length] at this
          have := HB5.out.len
          omega
        have HB6 := Lib.hid B6
        have HF6 := Lib.hid B6.own.fr
        have HKK := Lib.hid hkk
        have hq : (m6 : Int).tdiv 64 = (kk : Int) := by rw [Int.tdiv_eq_ediv_of_nonneg (by omega)]; omega
        have HRF := HRC.out
        rw [← HPP.out, ← HNAMES.out.1, ← HNAMES.out.2.2.1, ← HNAMES.out.2.2.2.1, ← HNAMES.out.2.2.2.2.1, ← HC1.out, hkl] at HRF
        have HRD := Lib.hid HRF
        have f10 := B6.own.fr.get f10 (by simp)
        have t10 := World.at_lt f10
        have fs := B6.own.fr.get fs (by simp)
        have ts := World.at_lt fs
        have HFA0 := Lib.hid (HF2.out.trans (HFX.out.trans (HF5.out.trans B6.own.fr)))
        have HFA20 := Lib.hid (HFX.out.trans (HF5.out.trans B6.own.fr))
        have HQS0 := Lib.hid B6.sl
        have HT105 := Lib.hid (World.at_lt (HF5.out.get HF10.out (by simp)))
        have HQN0 := Lib.hid (show ∀ g, q6.map (·.block) = some g → g ∉ fp ∧ g ≠ b10 from fun g hg => by
          have h1 := (B6.new g hg).1
          have h2 := HT105.out
          have h3 := HF5.out.size
          have h4 := HFX.out.size
          have h5 := HF2.out.size
          have h6 := HFw.out.size
          refine ⟨fun h => ?_, fun h => ?_⟩
          · have := HLOW.out _ h; omega
          · omega)
        have HRL0 := Lib.hid hkl
        clear hkl HRF B6 hkk
        go_wp2_with fail
        refine ⟨f10, ?_⟩
        refine drawn_end rfl (by kernel_rfl) ?_
        intro K hK
        by_cases hfit : hs < f + kk
        · have dfit : decide ((hs : Int) < (f : Int) + (kk : Int)) = true := by rw [decide_eq_true_eq]; omega
          have HRF := Lib.hid (HRD.out.trans (if_pos hfit))
          by_cases hmax : e = 18446744073709551615
          · have HRE := Lib.hid (HRF.out.trans (if_pos hmax))
            have hqm : ((e : Int) == 18446744073709551615) = true := by rw [hmax]; rfl
            have HF9 := Lib.hid (HF2.out.trans (HFX.out.trans (HF5.out.trans HF6.out)))
            clear hmax
            go_wp2_with fail
            refine bodyPost_ret (results_tmp rfl _ _ _) rfl ?_
            rw [HRE.out]
            exact ⟨fp, rfl, (HTW.out _ HF9.out).1, (HTW.out _ HF9.out).2, fun k hk => .inl hk⟩
          have hqm : ((e : Int) == 18446744073709551615) = false := by rw [beq_eq_false_iff_ne]; omega
          have HRF := Lib.hid (HRF.out.trans (if_neg hmax))
          have we : IntKind.u64.wrap ((e : Int) + 1) = ((e + 1 : Nat) : Int) := by rw [IntKind.wrap_u64]; omega
          have wh : IntKind.i64.wrap (1 - (half : Int)) = ((1 - half : Nat) : Int) := by rw [IntKind.wrap_i64]; omega
          go_upto_region 23 with (fail)
          clear dfit hqm
          refine drawn_begin 11 (fun w' => w'.blk s = some (.cells SC 75)) (by kernel_rfl) ?_
          refine drawn_reads (fuel := 1) [0, 1, 2, 3, 4, 5, 6, 7, 8, 9, 10] rfl (by kernel_rfl) fs ?_
          repeat (first | (refine rowK_step2 rfl rfl (fun K hK => ?_); go_wp2) | (refine rowK_step rfl (fun K hK => ?_); go_simp; refine hK _ ?_; clear hK K))
          refine rowK_nil ⟨fun w' e1 => ?_, ?_⟩
          · clear fs ts f10 t10
            have ts := World.at_lt e1
            repeat (first | (refine rowWp_step2 rfl rfl (fun K hK => ?_); go_wp2) | (refine rowWp_step rfl (fun K hK => ?_); go_simp; refine hK _ ?_; clear hK K))
            exact rowWp_nil rfl
          refine drawn_end rfl (by kernel_rfl) ?_
          intro K hK
          go_wp2_with fail
          obtain ⟨e1, he1⟩ : ∃ e1, e1 = e + 1 := ⟨_, rfl⟩
          obtain ⟨H, hH⟩ : ∃ H, H = 1 - half := ⟨_, rfl⟩
          have hH1 : H ≤ 1 := by omega
          have he1b : e1 < 18446744073709551616 := by omega
          rw [← hH]
          have HFA := HFA0.out
          refine named_world (A := fun X => X.blk b10 = some (.cells #[.int .u64 (e1 : Int), .int .u32 1, .int .u32 0] 73) ∧ X.blk s = some (.cells SC 75) ∧ Fr [] wr X ∧ Fr [] w2 X) (Q := fun X => Code.wp _ _ _ _ X) ⟨by rw [he1]; exact World.at_put_same _ _ _ t10, (World.at_put_other _ _ _ _ HNE.out).trans fs, (HFA.put _ _ (fun h => by have := HL10.out; have := HF2.out.size; omega)).drew, (HFA20.out.put _ _ (fun h => by have := HL10.out; omega)).drew⟩ ?_
          rintro X2 ⟨f10, fs, FX2, FX22⟩
          have HF10 := Lib.hid f10
          have HFS2 := Lib.hid fs
          have HFX2 := Lib.hid FX2
          have HFX22 := Lib.hid FX22
          obtain ⟨XC, hXC⟩ : ∃ XC : Array Value, XC = #[.int .u64 (e1 : Int), .int .u32 1, .int .u32 0] := ⟨_, rfl⟩
          rw [← hXC] at f10
          have szC2 : XC.size = 3 := by rw [hXC]; rfl
          have z0 := Array.getElem?_eq_some_iff.1 (show XC[0]? = some (.int .u64 (e1 : Int)) by rw [hXC]; rfl)
          obtain ⟨z0', z0⟩ := z0
          have HXQ := Lib.hid hXC
          have t10 := World.at_lt f10
          have ts := World.at_lt fs
          have HHH := Lib.hid hH
          have HE1 := Lib.hid he1
          have HGX := Lib.hid f10
          clear HFA FX2 FX22 hXC hH he1 we wh
          refine drawn_begin 6 (fun w' => w'.blk b10 = some (.cells XC 73)) (by kernel_rfl) ?_
          refine drawn_reads (fuel := 4) [0, 1, 2] rfl (by kernel_rfl) f10 ?_
          repeat (first | (refine rowK_step2 rfl rfl (fun K hK => ?_); go_wp2) | (refine rowK_step rfl (fun K hK => ?_); go_simp; refine hK _ ?_; clear hK K))
          refine rowK_nil ⟨fun w' e1 => ?_, ?_⟩
          · clear f10 t10 fs ts
            have t10 := World.at_lt e1
            repeat (first | (refine rowWp_step2 rfl rfl (fun K hK => ?_); go_wp2) | (refine rowWp_step rfl (fun K hK => ?_); go_simp; refine hK _ ?_; clear hK K))
            exact rowWp_nil rfl
          refine drawn_next 3 (fuel := 3) rfl (by kernel_rfl) ?_
          intro K hK
          go_wp2_with fail
          have HSO := Lib.hid (show Sorted (allC sp.L l) from sorted_allC HK.out.srt)
          have HEN := Lib.hid (show ∀ x ∈ allC sp.L l, EntOk x from ent_allC HK.out.ent HOK.out)
          have HN64 := Lib.hid (show (allC sp.L l).length ≤ 64 by rw [← HZ.out]; omega)
          refine (list_f ((HM2.out.fr0 HFX22.out).fr0 (Fr.refl [] X2).drew) HSO.out HEN.out HN64.out).mono ?_
          rintro en w7 ⟨q7, c7, rfl, G7⟩
          have F7 : Fr [] X2 w7 := (Fr.refl [] X2).drew.trans G7.gch.own.fr
          have HG7 := Lib.hid G7.gch.chs
          have HF7 := Lib.hid F7
          obtain ⟨n7, hn7⟩ : ∃ n7, n7 = (allC sp.L l).length := ⟨_, rfl⟩
          rw [← hn7] at HG7 ⊢
          have HNN7 := Lib.hid hn7
          have f10 := F7.get HGX.out (by simp)
          have t10 := World.at_lt f10
          clear G7 F7 hn7
          go_wp2_with fail
          refine ⟨f10, ?_⟩
          refine drawn_next 4 (fuel := 2) rfl (by kernel_rfl) ?_
          intro K hK
          go_wp2_with fail
          have hasc : ∀ c ∈ asC (allC sp.L l), ChgB c := asC_ok HEN.out
          have HASC := Lib.hid hasc
          have HAL := Lib.hid (show (asC (allC sp.L l)).length ≤ 64 by rw [asC, List.length_map]; exact HN64.out)
          clear hasc
          refine (pack_f HG7.out HASC.out (by rw [HNN7.out]; exact HN64.out)).mono ?_
          rintro en w8 ⟨q8, m8, c8, rfl, B8⟩
          have hPb := byt_payB HASC.out HAL.out
          have hPl := payB_len (fun c hc => (HASC.out c hc).ok) HAL.out
          rw [B8.len] at hPl
          obtain ⟨P2, hP2⟩ : ∃ P2, P2 = payB (asC (allC sp.L l)) := ⟨_, rfl⟩
          have HB8 := Lib.hid B8
          rw [← hP2] at HB8 hPb
          have HP2 := Lib.hid hP2
          have HPB2 := Lib.hid hPb
          have HF8' := Lib.hid B8.own.fr
          have f10 := B8.own.fr.get f10 (by simp)
          have t10 := World.at_lt f10
          have HT10 := Lib.hid t10
          clear B8 hPb hP2
          go_wp2_with fail
          refine ⟨f10, ?_⟩
          refine drawn_next 5 (fuel := 1) rfl (by kernel_rfl) ?_
          intro K hK
          go_wp2_with fail
          have hr := record_f (e := e1) (k := 1) (by omega) HB8.out.sl HPB2.out (by omega)
          rw [show ((1 : Nat) : Int) = 1 from rfl] at hr
          refine hr.mono ?_
          clear hr
          rintro en wq ⟨qq, mq, cq, rfl, Bq⟩
          obtain ⟨k2', hk2⟩ : ∃ k2', mq = 64 * k2' := ⟨(8 + P2.length + 63) / 64, by rw [← Bq.len, recB_length]; omega⟩
          have hkl : (recB e1 1 P2).length / 64 = k2' := by rw [Bq.len, hk2]; omega
          have hkb2 : k2' ≤ 10000 := by
            have := Bq.len
            rw [recB_length] at this
            have := HB8.out.len
            omega
          have HQS := Lib.hid Bq.sl
          have HQN := Lib.hid (show ∀ g, qq.map (·.block) = some g → g ∉ fp ∧ g ≠ b10 from fun g hg => by
            have h1 := (Bq.new g hg).1
            have h2 := HT10.out
            have h3 := HF8'.out.size
            have h4 := HF7.out.size
            have h5 := HFX2.out.size
            have h6 := HFw.out.size
            refine ⟨fun h => ?_, fun h => ?_⟩
            · have := HLOW.out _ h; omega
            · omega)
          have HFA := Lib.hid (HFX2.out.trans (HF7.out.trans (HF8'.out.trans Bq.own.fr)))
          have HFA2 := Lib.hid (HFX22.out.trans (HF7.out.trans (HF8'.out.trans Bq.own.fr)))
          have HKK := Lib.hid hk2
          have HRL := Lib.hid hkl
          have hq2 : (mq : Int).tdiv 64 = (k2' : Int) := by rw [Int.tdiv_eq_ediv_of_nonneg (by omega)]; omega
          have hr2 := HRF.out
          rw [← HNAMES.out.2.1, ← HHH.out, ← HE1.out, ← HP2.out, hkl] at hr2
          have HRF := Lib.hid hr2
          have f10 := Bq.own.fr.get f10 (by simp)
          have t10 := World.at_lt f10
          have fs := (HF7.out.trans (HF8'.out.trans Bq.own.fr)).get HFS2.out (by simp)
          have ts := World.at_lt fs
          clear hkl hr2 Bq hk2
          go_wp2_with fail
          refine ⟨f10, ?_⟩
          refine drawn_end rfl (by kernel_rfl) ?_
          intro K hK
          by_cases hfit2 : hs < 1 + k2'
          · have dfit2 : decide ((hs : Int) < 1 + (k2' : Int)) = true := by rw [decide_eq_true_eq]; omega
            have HRE := Lib.hid (HRF.out.trans (if_pos hfit2))
            go_wp2_with fail
            refine bodyPost_ret (results_tmp rfl _ _ _) rfl ?_
            rw [HRE.out]
            exact ⟨fp, rfl, (HTW.out _ HFA.out).1, (HTW.out _ HFA.out).2, fun k hk => .inl hk⟩
          have dfit2 : decide ((hs : Int) < 1 + (k2' : Int)) = false := by rw [decide_eq_false_iff_not]; omega
          have HRF := Lib.hid (HRF.out.trans (if_neg hfit2))
          have hAk : 1 + k2' ≤ hs := by omega
          have wk : IntKind.u32.wrap (1 + (k2' : Int)) = ((1 + k2' : Nat) : Int) := by rw [IntKind.wrap_u32]; omega
          obtain ⟨fi, hfi⟩ : ∃ fi, fi = 1 + k2' := ⟨_, rfl⟩
          rw [← hfi] at wk
          have HFI := Lib.hid hfi
          have hfi2 : fi ≤ hs := by omega
          have hfi3 : fi < 4294967296 := by omega
          have hHh : H * hs ≤ hs := by
            have : H = 0 ∨ H = 1 := by omega
            rcases this with h | h <;> rw [h] <;> omega
          obtain ⟨pos2, hpos2⟩ : ∃ pos2, pos2 = H * hs := ⟨_, rfl⟩
          obtain ⟨pos, hpos⟩ : ∃ pos, pos = H * hs + 1 := ⟨_, rfl⟩
          have hpk : pos + k2' ≤ m.n := by omega
          have hpk2 : pos2 + 1 ≤ m.n := by omega
          obtain ⟨M1, hM1⟩ : ∃ M1, M1 = (putM m pos (recB e1 1 P2)).2 := ⟨_, rfl⟩
          obtain ⟨M2, hM2'⟩ : ∃ M2, M2 = (putM M1 pos2 (headB e1 1 fi)).2 := ⟨_, rfl⟩
          have hfin : RR = if (putM m pos (recB e1 1 P2)).1 then (if (putM M1 pos2 (headB e1 1 fi)).1 then (0, ⟨H, e1, 1, fi, allC sp.L l, false⟩, M2) else (150, { sp with broken := true }, M2)) else (150, { sp with broken := true }, M1) := by
            rw [HRF.out, finM, ← HNAMES.out.1, HRL.out, ← hfi, ← hpos, ← hpos2, ← hM1, ← hM2']
          have HFIN := Lib.hid hfin
          have HM1E := Lib.hid hM1
          have HM2E := Lib.hid hM2'
          have HPOS := Lib.hid hpos
          have HPOS2 := Lib.hid hpos2
          have hn1 := putM_nn m pos (recB e1 1 P2)
          rw [← hM1, HRL.out] at hn1
          have hn2 := putM_nn M1 pos2 (headB e1 1 fi)
          rw [← hM2', headB_length] at hn2
          have HNN1 := Lib.hid hn1
          have HNN2 := Lib.hid hn2
          clear hfi hfin hM1 hM2' hn1 hn2 hpos hpos2
          go_upto_region 28 with (fail)
          obtain ⟨XF, hXF⟩ : ∃ XF : Array Value, XF = #[.int .u64 (e1 : Int), .int .u32 1, .int .u32 (fi : Int)] := ⟨_, rfl⟩
          refine named_world (A := fun X => X.blk b10 = some (.cells XF 73) ∧ X.blk s = some (.cells SC 75) ∧ Sl .u8 X qq mq cq (recB e1 1 P2) ∧ Fr [] wr X ∧ Fr [] w2 X) (Q := fun X => Code.wp _ _ _ _ X) ⟨by rw [World.at_put_same _ _ _ t10, hXF]; congr 2; rw [HXQ.out]; rfl, (World.at_put_other _ _ _ _ HNE.out).trans fs, sl_put10 HQS.out fun g hg => (HQN.out g hg).2, HFA.out.put _ _ (fun h => by have := HL10.out; have := HF2.out.size; omega), HFA2.out.put _ _ (fun h => by have := HL10.out; omega)⟩ ?_
          rintro U ⟨g10, gs, gq, FU, FU2⟩
          have szF : XF.size = 3 := by rw [hXF]; rfl
          have hexF : XF.extract 0 3 = #[.int .u64 (e1 : Int), .int .u32 1, .int .u32 (fi : Int)] := by rw [hXF]; rfl
          have onF : ones XF.toList = true := by rw [hXF]; rfl
          have alF : XF.extract 0 3 = XF := by rw [← szF]; exact Array.extract_size
          have HXF := Lib.hid hXF
          have HG10 := Lib.hid g10
          have HGS := Lib.hid gs
          have HGQ := Lib.hid gq
          have HFU := Lib.hid FU
          have HFU2 := Lib.hid FU2
          have HALF := Lib.hid alF
          clear hXF f10 t10 fs ts g10 gs gq FU FU2 alF wk
          go_wp2_with fail
          have hw := write_f (s := s) (d := d) (hs := hs) (half := half) (e := e) (c := c) (f := f) (mb := mb) (br := false) (fr := (0, 0)) (m := m) (fp := fp) (h2 := H) (at_ := 1) (pos := pos) (k := k2') (by rw [← HSC.out]; exact HGS.out) HSF.out (HD.out.fr0 HFU.out) HGQ.out (fun g hg => (HQN.out g hg).1) HKK.out (by omega) HPOS.out.symm hpk (by omega) (by omega) (by omega) (by omega)
          rw [show ((1 : Nat) : Int) = 1 from rfl] at hw
          refine hw.mono ?_
          clear hw
          rintro en w9 ⟨E9, rfl, hE9, fp9, D9, F9, N9⟩
          rw [← HM1E.out] at D9
          have gs9 := F9.get HGS.out HSF.out
          have hg10f : b10 ∉ fp := fun h => by have := HLOW.out _ h; have := HL10.out; have := HF2.out.size; have := HFw.out.size; omega
          have g10' := F9.get HG10.out hg10f
          have HGS9 := Lib.hid gs9
          have HG109 := Lib.hid g10'
          have HD9 := Lib.hid D9
          have HF9 := Lib.hid F9
          have HN9 := Lib.hid N9
          have hs9 : s ∉ fp9 := fun h => by
            rcases N9 s h with h | h
            · exact HSF.out h
            · have := World.at_lt HGS.out; omega
          have HS9 := Lib.hid hs9
          have HNW9 := Lib.hid (show News w fp fp9 from fun k hk => by
            rcases N9 k hk with h | h
            · exact .inl h
            · exact .inr (Nat.le_trans (HFw.out.trans HFU.out).size h))
          have HFW9 := Lib.hid (show Fr (s :: fp) w w9 from (((HFw.out.trans HFU.out).mono (fp' := fp) (by simp)).seq F9 (fun k hk hl => hk)).mono (fun k hk _ => List.mem_cons_of_mem _ hk))
          have HMB9 := Lib.hid ((HM.out.fr0 HFU.out).frv F9 N9)
          have HM79 := Lib.hid ((HM2.out.fr0 HFU2.out).frv F9 N9)
          have HLT9 := Lib.hid (DiskAt.lt D9)
          clear D9 F9 N9 hs9 hg10f
          cases hp1 : (putM m pos (recB e1 1 P2)).1 with
          | false =>
            have HRE := Lib.hid (HFIN.out.trans (if_neg (by rw [hp1]; simp)))
            rw [hp1] at hE9
            obtain rfl : E9 = 150 := hE9
            have t9 := World.at_lt gs9
            clear hp1 g10'
            go_wp2_with fail
            refine bodyPost_ret (results_tmp rfl _ _ _) rfl ?_
            rw [HRE.out]
            refine ⟨fp9, rfl, ⟨mb, ?_, HS9.out, HD9.out.frs HS9.out ((Fr.refl [s] _).put s _ (fun _ => by simp)), HMB9.out.put HGS9.out (by rw [HSC.out]; exact stC_no)⟩, HFW9.out.put s _ (fun _ => by simp), HNW9.out⟩
            rw [World.at_put_same _ _ _ (World.at_lt HGS9.out), show (M1).n = m.n from HNN1.out.1]
            obtain ⟨e1', e2', e3', e4', e5', e6'⟩ := HNAMES.out
            rw [HSC.out, e1', e2', e3', e4', e5']
            rfl
          | true =>
            have HR9 := Lib.hid (HFIN.out.trans (if_pos hp1))
            rw [hp1] at hE9
            obtain rfl : E9 = 0 := hE9
            have t10 := World.at_lt g10'
            have t9 := World.at_lt gs9
            clear hp1
            go_wp2_with fail
            have hb := hbytes_f (w := w9) (e := e1) (c := 1) (n := fi) (by omega) hfi3
            rw [show ((1 : Nat) : Int) = 1 from rfl] at hb
            refine hb.mono ?_
            clear hb
            rintro en w10 ⟨q8, m8, c8, rfl, B8⟩
            obtain rfl : m8 = 64 := by rw [← B8.len, headB_length]
            have HB8 := Lib.hid B8
            have HF8 := Lib.hid B8.own.fr
            have gs10 := B8.own.fr.get HGS9.out (by simp)
            have HGS10 := Lib.hid gs10
            clear B8 g10' gs9 t10 t9
            go_wp2_with fail
            have hpf : ∀ g, q8.map (·.block) = some g → g ∉ fp9 := fun g hg hgf => by
              have := (HB8.out.new g hg).1
              have := HLT9.out g hgf
              omega
            have hw := write_f (s := s) (d := d) (hs := hs) (half := half) (e := e) (c := c) (f := f) (mb := mb) (br := false) (fr := (0, 0)) (m := M1) (fp := fp9) (h2 := H) (at_ := 0) (pos := pos2) (k := 1) (by rw [← HSC.out]; exact HGS10.out) HS9.out (HD9.out.fr0 HF8.out) HB8.out.sl hpf rfl (by omega) HPOS2.out.symm (by rw [HNN1.out.1]; exact hpk2) (by omega) (by omega) (by omega) (by have := HNN1.out.2; omega)
            rw [show ((0 : Nat) : Int) = 0 from rfl] at hw
            refine hw.mono ?_
            clear hw hpf
            rintro en w11 ⟨E11, rfl, hE11, fp11, D11, F11, N11⟩
            rw [← HM2E.out] at D11
            have gs11 := F11.get HGS10.out HS9.out
            have HGS11 := Lib.hid gs11
            have hb10n : b10 ∉ fp9 := fun h => by
              rcases HN9.out b10 h with h | h
              · have := HLOW.out _ h; have := HL10.out; have := HF2.out.size; have := HFw.out.size; omega
              · have := World.at_lt HG10.out; omega
            have g11 := F11.get (HF8.out.get HG109.out (by simp)) hb10n
            have HG11 := Lib.hid g11
            have HD11 := Lib.hid D11
            have hs11 : s ∉ fp11 := fun h => by
              rcases N11 s h with h | h
              · exact HS9.out h
              · have := World.at_lt HGS10.out; omega
            have HS11 := Lib.hid hs11
            have HNW11 := Lib.hid (show News w fp fp11 from fun k hk => by
              rcases N11 k hk with h | h
              · exact HNW9.out k h
              · exact .inr (Nat.le_trans (HFW9.out.size) (Nat.le_trans HF8.out.size h)))
            have HFW11 := Lib.hid (show Fr (s :: fp) w w11 from (HFW9.out.seq (HF8.out.mono (fp' := fp9) (by simp)) (fun k hk hl => by
              rcases HNW9.out k hk with h | h
              · exact List.mem_cons_of_mem _ h
              · omega)).seq F11 (fun k hk hl => by
              rcases HNW9.out k hk with h | h
              · exact List.mem_cons_of_mem _ h
              · omega))
            have HMB11 := Lib.hid ((HMB9.out.fr0 HF8.out).frv F11 N11)
            have HM711 := Lib.hid ((HM79.out.fr0 HF8.out).frv F11 N11)
            clear D11 F11 N11 hs11 hb10n gs10
            cases hp2 : (putM M1 pos2 (headB e1 1 fi)).1 with
            | false =>
              have HRE := Lib.hid (HR9.out.trans (if_neg (by rw [hp2]; simp)))
              rw [hp2] at hE11
              obtain rfl : E11 = 150 := hE11
              have t11 := World.at_lt gs11
              clear hp2 g11
              go_wp2_with fail
              refine bodyPost_ret (results_tmp rfl _ _ _) rfl ?_
              rw [HRE.out]
              refine ⟨fp11, rfl, ⟨mb, ?_, HS11.out, HD11.out.frs HS11.out ((Fr.refl [s] _).put s _ (fun _ => by simp)), HMB11.out.put HGS11.out (by rw [HSC.out]; exact stC_no)⟩, HFW11.out.put s _ (fun _ => by simp), HNW11.out⟩
              rw [World.at_put_same _ _ _ (World.at_lt HGS11.out), show (M2).n = m.n from HNN2.out.1.trans HNN1.out.1]
              obtain ⟨e1', e2', e3', e4', e5', e6'⟩ := HNAMES.out
              rw [HSC.out, e1', e2', e3', e4', e5']
              rfl
            | true =>
              have HRE := Lib.hid (HR9.out.trans (if_pos hp2))
              rw [hp2] at hE11
              obtain rfl : E11 = 0 := hE11
              have t11 := World.at_lt gs11
              have t10 := World.at_lt g11
              have nsb : s ≠ b10 := HNE.out.symm
              have nbs : b10 ≠ s := HNE.out
              have alF := HALF.out
              clear hp2 hexF
              go_upto_region 31 with (fail)
              refine drawn_begin 12 (fun w' => w'.blk b10 = some (.cells XF 73)) (by kernel_rfl) ?_
              refine drawn_reads (fuel := 7) [0, 1, 2, 3, 4, 5, 6, 7] rfl (by kernel_rfl) g11 ?_
              repeat (first | (refine rowK_step2 rfl rfl (fun K hK => ?_); go_wp2) | (refine rowK_step rfl (fun K hK => ?_); go_simp; refine hK _ ?_; clear hK K))
              refine rowK_nil ⟨fun w' e1 => ?_, ?_⟩
              · clear g11 t10 gs11 t11
                have t10 := World.at_lt e1
                repeat (first | (refine rowWp_step2 rfl rfl (fun K hK => ?_); go_wp2) | (refine rowWp_step rfl (fun K hK => ?_); go_simp; refine hK _ ?_; clear hK K))
                exact rowWp_nil rfl
              refine drawn_next 8 (fuel := 6) rfl (by kernel_rfl) ?_
              intro K hK
              go_wp2_with fail
              have g12 := fun o => (World.at_put_other w11 s b10 o nsb).trans g11
              refine ⟨g12 _, ?_⟩
              refine drawn_reads (fuel := 4) [9, 10] rfl (by kernel_rfl) (g12 _) ?_
              repeat (first | (refine rowK_step2 rfl rfl (fun K hK => ?_); go_wp2) | (refine rowK_step rfl (fun K hK => ?_); go_simp; refine hK _ ?_; clear hK K))
              refine rowK_nil ⟨fun w' e1 => ?_, ?_⟩
              · repeat (first | (refine rowWp_step2 rfl rfl (fun K hK => ?_); go_wp2) | (refine rowWp_step rfl (fun K hK => ?_); go_simp; refine hK _ ?_; clear hK K))
                exact rowWp_nil rfl
              refine drawn_next 11 (fuel := 3) rfl (by kernel_rfl) ?_
              intro K hK
              go_wp2_with fail
              refine ⟨g12 _, ?_⟩
              clear g12 g11 alF
              refine drawn_end rfl (by kernel_rfl) ?_
              intro K hK
              go_wp2_with fail
              refine bodyPost_ret (results_tmp rfl _ _ _) rfl ?_
              rw [HRE.out]
              refine ⟨fp11, rfl, ⟨b7, ?_, HS11.out, HD11.out.frs HS11.out (((Fr.refl [s] _).put s _ (fun _ => by simp)).drew), (HM711.out.put HGS11.out (by rw [HSC.out]; exact stC_no)).fr0 (Fr.refl [] _).drew⟩, (HFW11.out.put s _ (fun _ => by simp)).drew, HNW11.out⟩
              refine (World.at_put_same _ _ _ (World.at_lt HGS11.out)).trans ?_
              rw [show M2.n = m.n from HNN2.out.1.trans HNN1.out.1, ← HNAMES.out.1, HSC.out, HXF.out]
              rfl
        · have dfit : decide ((hs : Int) < (f : Int) + (kk : Int)) = false := by rw [decide_eq_false_iff_not]; omega
          have hr2 := HRD.out.trans (if_neg hfit)
          rw [← HNAMES.out.2.1] at hr2
          have HRF := Lib.hid hr2
          have HFA := HFA0
          have HFA2 := HFA20
          have HQS := HQS0
          have HQN := HQN0
          have HRL := HRL0
          have HXQ := HXB0
          clear hr2
          have hAk : f + kk ≤ hs := by omega
          have wk : IntKind.u32.wrap ((f : Int) + (kk : Int)) = ((f + kk : Nat) : Int) := by rw [IntKind.wrap_u32]; omega
          obtain ⟨fi, hfi⟩ : ∃ fi, fi = f + kk := ⟨_, rfl⟩
          rw [← hfi] at wk
          have HFI := Lib.hid hfi
          have hfi2 : fi ≤ hs := by omega
          have hfi3 : fi < 4294967296 := by omega
          have hHh : half * hs ≤ hs := by
            have : half = 0 ∨ half = 1 := by omega
            rcases this with h | h <;> rw [h] <;> omega
          obtain ⟨pos2, hpos2⟩ : ∃ pos2, pos2 = half * hs := ⟨_, rfl⟩
          obtain ⟨pos, hpos⟩ : ∃ pos, pos = half * hs + f := ⟨_, rfl⟩
          have hpk : pos + kk ≤ m.n := by omega
          have hpk2 : pos2 + 1 ≤ m.n := by omega
          obtain ⟨M1, hM1⟩ : ∃ M1, M1 = (putM m pos (recB e c1 PP)).2 := ⟨_, rfl⟩
          obtain ⟨M2, hM2'⟩ : ∃ M2, M2 = (putM M1 pos2 (headB e c1 fi)).2 := ⟨_, rfl⟩
          have hfin : RR = if (putM m pos (recB e c1 PP)).1 then (if (putM M1 pos2 (headB e c1 fi)).1 then (0, ⟨half, e, c1, fi, allC sp.L l, false⟩, M2) else (150, { sp with broken := true }, M2)) else (150, { sp with broken := true }, M1) := by
            rw [HRF.out, finM, ← HNAMES.out.1, HRL.out, ← hfi, ← hpos, ← hpos2, ← hM1, ← hM2']
          have HFIN := Lib.hid hfin
          have HM1E := Lib.hid hM1
          have HM2E := Lib.hid hM2'
          have HPOS := Lib.hid hpos
          have HPOS2 := Lib.hid hpos2
          have hn1 := putM_nn m pos (recB e c1 PP)
          rw [← hM1, HRL.out] at hn1
          have hn2 := putM_nn M1 pos2 (headB e c1 fi)
          rw [← hM2', headB_length] at hn2
          have HNN1 := Lib.hid hn1
          have HNN2 := Lib.hid hn2
          clear hfi hfin hM1 hM2' hn1 hn2 hpos hpos2
          go_upto_region 28 with (fail)
          obtain ⟨XF, hXF⟩ : ∃ XF : Array Value, XF = #[.int .u64 (e : Int), .int .u32 (c1 : Int), .int .u32 (fi : Int)] := ⟨_, rfl⟩
          refine named_world (A := fun X => X.blk b10 = some (.cells XF 73) ∧ X.blk s = some (.cells SC 75) ∧ Sl .u8 X q6 m6 c6 (recB e c1 PP) ∧ Fr [] wr X ∧ Fr [] w2 X) (Q := fun X => Code.wp _ _ _ _ X) ⟨by rw [World.at_put_same _ _ _ t10, hXF]; congr 2; rw [HXQ.out]; rfl, (World.at_put_other _ _ _ _ HNE.out).trans fs, sl_put10 HQS.out fun g hg => (HQN.out g hg).2, HFA.out.put _ _ (fun h => by have := HL10.out; have := HF2.out.size; omega), HFA2.out.put _ _ (fun h => by have := HL10.out; omega)⟩ ?_
          rintro U ⟨g10, gs, gq, FU, FU2⟩
          have szF : XF.size = 3 := by rw [hXF]; rfl
          have hexF : XF.extract 0 3 = #[.int .u64 (e : Int), .int .u32 (c1 : Int), .int .u32 (fi : Int)] := by rw [hXF]; rfl
          have onF : ones XF.toList = true := by rw [hXF]; rfl
          have alF : XF.extract 0 3 = XF := by rw [← szF]; exact Array.extract_size
          have HXF := Lib.hid hXF
          have HG10 := Lib.hid g10
          have HGS := Lib.hid gs
          have HGQ := Lib.hid gq
          have HFU := Lib.hid FU
          have HFU2 := Lib.hid FU2
          have HALF := Lib.hid alF
          clear hXF f10 t10 fs ts g10 gs gq FU FU2 alF wk
          go_wp2_with fail
          have hw := write_f (s := s) (d := d) (hs := hs) (half := half) (e := e) (c := c) (f := f) (mb := mb) (br := false) (fr := (0, 0)) (m := m) (fp := fp) (h2 := half) (at_ := f) (pos := pos) (k := kk) (by rw [← HSC.out]; exact HGS.out) HSF.out (HD.out.fr0 HFU.out) HGQ.out (fun g hg => (HQN.out g hg).1) HKK.out (by omega) HPOS.out.symm hpk (by omega) (by omega) (by omega) (by omega)

          refine hw.mono ?_
          clear hw
          rintro en w9 ⟨E9, rfl, hE9, fp9, D9, F9, N9⟩
          rw [← HM1E.out] at D9
          have gs9 := F9.get HGS.out HSF.out
          have hg10f : b10 ∉ fp := fun h => by have := HLOW.out _ h; have := HL10.out; have := HF2.out.size; have := HFw.out.size; omega
          have g10' := F9.get HG10.out hg10f
          have HGS9 := Lib.hid gs9
          have HG109 := Lib.hid g10'
          have HD9 := Lib.hid D9
          have HF9 := Lib.hid F9
          have HN9 := Lib.hid N9
          have hs9 : s ∉ fp9 := fun h => by
            rcases N9 s h with h | h
            · exact HSF.out h
            · have := World.at_lt HGS.out; omega
          have HS9 := Lib.hid hs9
          have HNW9 := Lib.hid (show News w fp fp9 from fun k hk => by
            rcases N9 k hk with h | h
            · exact .inl h
            · exact .inr (Nat.le_trans (HFw.out.trans HFU.out).size h))
          have HFW9 := Lib.hid (show Fr (s :: fp) w w9 from (((HFw.out.trans HFU.out).mono (fp' := fp) (by simp)).seq F9 (fun k hk hl => hk)).mono (fun k hk _ => List.mem_cons_of_mem _ hk))
          have HMB9 := Lib.hid ((HM.out.fr0 HFU.out).frv F9 N9)
          have HM79 := Lib.hid ((HM2.out.fr0 HFU2.out).frv F9 N9)
          have HLT9 := Lib.hid (DiskAt.lt D9)
          clear D9 F9 N9 hs9 hg10f
          cases hp1 : (putM m pos (recB e c1 PP)).1 with
          | false =>
            have HRE := Lib.hid (HFIN.out.trans (if_neg (by rw [hp1]; simp)))
            rw [hp1] at hE9
            obtain rfl : E9 = 150 := hE9
            have t9 := World.at_lt gs9
            clear hp1 g10'
            go_wp2_with fail
            refine bodyPost_ret (results_tmp rfl _ _ _) rfl ?_
            rw [HRE.out]
            refine ⟨fp9, rfl, ⟨mb, ?_, HS9.out, HD9.out.frs HS9.out ((Fr.refl [s] _).put s _ (fun _ => by simp)), HMB9.out.put HGS9.out (by rw [HSC.out]; exact stC_no)⟩, HFW9.out.put s _ (fun _ => by simp), HNW9.out⟩
            rw [World.at_put_same _ _ _ (World.at_lt HGS9.out), show (M1).n = m.n from HNN1.out.1]
            obtain ⟨e1', e2', e3', e4', e5', e6'⟩ := HNAMES.out
            rw [HSC.out, e1', e2', e3', e4', e5']
            rfl
          | true =>
            have HR9 := Lib.hid (HFIN.out.trans (if_pos hp1))
            rw [hp1] at hE9
            obtain rfl : E9 = 0 := hE9
            have t10 := World.at_lt g10'
            have t9 := World.at_lt gs9
            clear hp1
            go_wp2_with fail
            have hb := hbytes_f (w := w9) (e := e) (c := c1) (n := fi) (by omega) hfi3
  
            refine hb.mono ?_
            clear hb
            rintro en w10 ⟨q8, m8, c8, rfl, B8⟩
            obtain rfl : m8 = 64 := by rw [← B8.len, headB_length]
            have HB8 := Lib.hid B8
            have HF8 := Lib.hid B8.own.fr
            have gs10 := B8.own.fr.get HGS9.out (by simp)
            have HGS10 := Lib.hid gs10
            clear B8 g10' gs9 t10 t9
            go_wp2_with fail
            have hpf : ∀ g, q8.map (·.block) = some g → g ∉ fp9 := fun g hg hgf => by
              have := (HB8.out.new g hg).1
              have := HLT9.out g hgf
              omega
            have hw := write_f (s := s) (d := d) (hs := hs) (half := half) (e := e) (c := c) (f := f) (mb := mb) (br := false) (fr := (0, 0)) (m := M1) (fp := fp9) (h2 := half) (at_ := 0) (pos := pos2) (k := 1) (by rw [← HSC.out]; exact HGS10.out) HS9.out (HD9.out.fr0 HF8.out) HB8.out.sl hpf rfl (by omega) HPOS2.out.symm (by rw [HNN1.out.1]; exact hpk2) (by omega) (by omega) (by omega) (by have := HNN1.out.2; omega)
            rw [show ((0 : Nat) : Int) = 0 from rfl] at hw
            refine hw.mono ?_
            clear hw hpf
            rintro en w11 ⟨E11, rfl, hE11, fp11, D11, F11, N11⟩
            rw [← HM2E.out] at D11
            have gs11 := F11.get HGS10.out HS9.out
            have HGS11 := Lib.hid gs11
            have hb10n : b10 ∉ fp9 := fun h => by
              rcases HN9.out b10 h with h | h
              · have := HLOW.out _ h; have := HL10.out; have := HF2.out.size; have := HFw.out.size; omega
              · have := World.at_lt HG10.out; omega
            have g11 := F11.get (HF8.out.get HG109.out (by simp)) hb10n
            have HG11 := Lib.hid g11
            have HD11 := Lib.hid D11
            have hs11 : s ∉ fp11 := fun h => by
              rcases N11 s h with h | h
              · exact HS9.out h
              · have := World.at_lt HGS10.out; omega
            have HS11 := Lib.hid hs11
            have HNW11 := Lib.hid (show News w fp fp11 from fun k hk => by
              rcases N11 k hk with h | h
              · exact HNW9.out k h
              · exact .inr (Nat.le_trans (HFW9.out.size) (Nat.le_trans HF8.out.size h)))
            have HFW11 := Lib.hid (show Fr (s :: fp) w w11 from (HFW9.out.seq (HF8.out.mono (fp' := fp9) (by simp)) (fun k hk hl => by
              rcases HNW9.out k hk with h | h
              · exact List.mem_cons_of_mem _ h
              · omega)).seq F11 (fun k hk hl => by
              rcases HNW9.out k hk with h | h
              · exact List.mem_cons_of_mem _ h
              · omega))
            have HMB11 := Lib.hid ((HMB9.out.fr0 HF8.out).frv F11 N11)
            have HM711 := Lib.hid ((HM79.out.fr0 HF8.out).frv F11 N11)
            clear D11 F11 N11 hs11 hb10n gs10
            cases hp2 : (putM M1 pos2 (headB e c1 fi)).1 with
            | false =>
              have HRE := Lib.hid (HR9.out.trans (if_neg (by rw [hp2]; simp)))
              rw [hp2] at hE11
              obtain rfl : E11 = 150 := hE11
              have t11 := World.at_lt gs11
              clear hp2 g11
              go_wp2_with fail
              refine bodyPost_ret (results_tmp rfl _ _ _) rfl ?_
              rw [HRE.out]
              refine ⟨fp11, rfl, ⟨mb, ?_, HS11.out, HD11.out.frs HS11.out ((Fr.refl [s] _).put s _ (fun _ => by simp)), HMB11.out.put HGS11.out (by rw [HSC.out]; exact stC_no)⟩, HFW11.out.put s _ (fun _ => by simp), HNW11.out⟩
              rw [World.at_put_same _ _ _ (World.at_lt HGS11.out), show (M2).n = m.n from HNN2.out.1.trans HNN1.out.1]
              obtain ⟨e1', e2', e3', e4', e5', e6'⟩ := HNAMES.out
              rw [HSC.out, e1', e2', e3', e4', e5']
              rfl
            | true =>
              have HRE := Lib.hid (HR9.out.trans (if_pos hp2))
              rw [hp2] at hE11
              obtain rfl : E11 = 0 := hE11
              have t11 := World.at_lt gs11
              have t10 := World.at_lt g11
              have nsb : s ≠ b10 := HNE.out.symm
              have nbs : b10 ≠ s := HNE.out
              have alF := HALF.out
              clear hp2 hexF
              go_upto_region 31 with (fail)
              refine drawn_begin 12 (fun w' => w'.blk b10 = some (.cells XF 73)) (by kernel_rfl) ?_
              refine drawn_reads (fuel := 7) [0, 1, 2, 3, 4, 5, 6, 7] rfl (by kernel_rfl) g11 ?_
              repeat (first | (refine rowK_step2 rfl rfl (fun K hK => ?_); go_wp2) | (refine rowK_step rfl (fun K hK => ?_); go_simp; refine hK _ ?_; clear hK K))
              refine rowK_nil ⟨fun w' e1 => ?_, ?_⟩
              · clear g11 t10 gs11 t11
                have t10 := World.at_lt e1
                repeat (first | (refine rowWp_step2 rfl rfl (fun K hK => ?_); go_wp2) | (refine rowWp_step rfl (fun K hK => ?_); go_simp; refine hK _ ?_; clear hK K))
                exact rowWp_nil rfl
              refine drawn_next 8 (fuel := 6) rfl (by kernel_rfl) ?_
              intro K hK
              go_wp2_with fail
              have g12 := fun o => (World.at_put_other w11 s b10 o nsb).trans g11
              refine ⟨g12 _, ?_⟩
              refine drawn_reads (fuel := 4) [9, 10] rfl (by kernel_rfl) (g12 _) ?_
              repeat (first | (refine rowK_step2 rfl rfl (fun K hK => ?_); go_wp2) | (refine rowK_step rfl (fun K hK => ?_); go_simp; refine hK _ ?_; clear hK K))
              refine rowK_nil ⟨fun w' e1 => ?_, ?_⟩
              · repeat (first | (refine rowWp_step2 rfl rfl (fun K hK => ?_); go_wp2) | (refine rowWp_step rfl (fun K hK => ?_); go_simp; refine hK _ ?_; clear hK K))
                exact rowWp_nil rfl
              refine drawn_next 11 (fuel := 3) rfl (by kernel_rfl) ?_
              intro K hK
              go_wp2_with fail
              refine ⟨g12 _, ?_⟩
              clear g12 g11 alF
              refine drawn_end rfl (by kernel_rfl) ?_
              intro K hK
              go_wp2_with fail
              refine bodyPost_ret (results_tmp rfl _ _ _) rfl ?_
              rw [HRE.out]
              refine ⟨fp11, rfl, ⟨b7, ?_, HS11.out, HD11.out.frs HS11.out (((Fr.refl [s] _).put s _ (fun _ => by simp)).drew), (HM711.out.put HGS11.out (by rw [HSC.out]; exact stC_no)).fr0 (Fr.refl [] _).drew⟩, (HFW11.out.put s _ (fun _ => by simp)).drew, HNW11.out⟩
              refine (World.at_put_same _ _ _ (World.at_lt HGS11.out)).trans ?_
              rw [show M2.n = m.n from HNN2.out.1.trans HNN1.out.1, ← HNAMES.out.1, HSC.out, HXF.out]
              rfl
end
end Go.Proofs.Ytombhkekocbfoaa
namespace Go.Proofs.Ytombhkekocbfoaa
open Go.RowKit Go.Dr Go.Kd Go.St
theorem DiskAt.ok' {w : World} {d : Nat} {m : DM} {fp : List Nat} (D : DiskAt w d m fp) : m.Ok := by
  obtain ⟨_, _, _, _, _, _, ok⟩ := D
  exact ok
theorem StAv.fr0 {w w' : World} {s d : Nat} {sp : SP} {m : DM} {fp av : List Nat} (T : StAv w s d sp m fp av) (F : Fr [] w w') : StAv w' s d sp m fp av := by
  obtain ⟨mb, f0, hs, D, M⟩ := T.ex
  exact ⟨mb, F.get f0 (by simp), hs, D.fr0 F, M.fr0 F⟩
theorem StAt.fr0 {w w' : World} {s d : Nat} {sp : SP} {m : DM} {fp : List Nat} (T : StAt w s d sp m fp) (F : Fr [] w w') : StAt w' s d sp m fp := (T.av.fr0 F).st
theorem StAv.disk {w : World} {s d : Nat} {sp : SP} {m : DM} {fp av : List Nat} (T : StAv w s d sp m fp av) : DiskAt w d m fp := by
  obtain ⟨mb, f0, hs, D, M⟩ := T.ex
  exact D
theorem StAv.lt {w : World} {s d : Nat} {sp : SP} {m : DM} {fp av : List Nat} (T : StAv w s d sp m fp av) : s < w.heap.size := by
  obtain ⟨mb, f0, hs, D, M⟩ := T.ex
  exact World.at_lt f0
/-- One change in a slice. -/
theorem chs_one {W : World} {b : Nat} {fr : Nat × Nat} {q : Option Addr} {m c cap : Nat} {x : Chg} (hb : W.blk b = some (.cells #[.string (strB x.name), .slice q m c, .bool x.gone] 32 fr)) (S : Sl .u8 W q m c x.val) (hc : 1 ≤ cap) : Chs W (some ⟨b, 0, none⟩) 1 cap [x] :=
  ⟨[.string (strB x.name), .slice q m c, .bool x.gone], ⟨rfl, hc, .inr ⟨b, 0, _, 32, fr, rfl, hb, by simp, by simp⟩, (fun h => by cases h), trivial⟩, .cons S .nil⟩
theorem commitM_n (sp : SP) (m : DM) (l : List Chg) : (commitM sp m l).2.2.n = m.n := by
  have key : ∀ (L : List (Bs × Bs)) (half at_ e c : Nat) (b : Bs), (finM sp m L half at_ e c b).2.2.n = m.n := by
    intro L half at_ e c b
    unfold finM
    split
    · split
      · exact (putM_nn _ _ _).1.trans (putM_nn _ _ _).1
      · exact (putM_nn _ _ _).1.trans (putM_nn _ _ _).1
    · exact (putM_nn _ _ _).1
  unfold commitM
  split
  · rfl
  · split
    · rfl
    · split
      · rfl
      · split
        · rfl
        · split
          · rfl
          · split
            · split
              · rfl
              · split
                · rfl
                · exact key _ _ _ _ _ _
            · exact key _ _ _ _ _ _
theorem good_fresh (b : Int) (hb : 4 ≤ b) (ok : (newM b).Ok) : ∃ m1, openM (newM b) = (0, some sp0, m1) ∧ Go.St.Good m1 sp0 ∧ m1.fuse = -1 ∧ m1.n = (newM b).n ∧ BytM m1 := by
  obtain ⟨h1, h2, h3, h4, h5⟩ := open_fresh (m := newM b) ok (by show 4 ≤ (max 1 (min b 4096)).toNat; omega) rfl rfl rfl rfl rfl
  exact ⟨(openM (newM b)).2.2, Prod.ext h1 (Prod.ext h2 rfl), h3, h4, h5, (BytM.new b).openM⟩
section
variable {w : World}
set_option maxRecDepth 100000 in
set_option maxHeartbeats 4000000 in
theorem alive_f : Calls Try.prog 8 #[] w fun e w' => e = .returned (.bool true) ∧ Fr [] w w' := by
  go_enter Try.func8, Try.ntmps8
  go_wp2_with fail
  refine (new_m 8 w).mono ?_
  rintro en w1 ⟨d, fp, rfl, D1, F1, N1⟩
  obtain ⟨m1, hop, G1, hf1, hn1, hb1⟩ := good_fresh 8 (by decide) D1.ok'
  have hn1 : m1.n = 8 := hn1
  have HD1 := Lib.hid D1
  have HF1 := Lib.hid F1
  have HOP := Lib.hid hop
  have HN1 := Lib.hid N1
  clear D1 F1 N1 hop
  go_wp2_with fail
  refine (open_f HD1.out (by decide) (byt_zs _) (by decide)).mono ?_
  intro en w2 hO
  rw [HOP.out] at hO
  obtain ⟨-, s, fp1, rfl, T2, F2, N2, L2⟩ := hO
  have HFp : ∀ k ∈ fp1, w.heap.size ≤ k := fun k hk => by
    rcases N2 k hk with h | h
    · rcases HN1.out k h with h | h
      · cases h
      · exact h
    · exact Nat.le_trans HF1.out.size h
  have HF2 := Lib.hid (show Fr [] w w2 from HF1.out.seq F2 fun k hk hl => by
    rcases HN1.out k hk with h | h
    · exact h
    · omega)
  have HFP := Lib.hid HFp
  have HT2 := Lib.hid T2
  have HLs := Lib.hid (Nat.le_trans HF1.out.size L2)
  clear T2 F2 N2 L2 HFp
  go_wp2_with fail
  refine (epoch_f HT2.out).mono ?_
  rintro en w3 ⟨rfl, rfl⟩
  rw [show ((sp0.epoch : Nat) : Int) = 1 from rfl]
  have hconv := Lib.run_convert_bytes_const (P := Try.prog) w3 22 5 #[.int .u8 120] 1 1 Try.underlying22 Try.underlying5
  go_wp2_with fail
  have hone := commit_one (n := [97]) (v := [120]) G1 hf1 ⟨by decide, by decide, by decide, by simp⟩ (by rw [recB_length, pay_one, hn1]; decide)
  have hK1 := good_spb G1 hb1
  have hcl : ∀ c ∈ [(⟨[97], false, [120]⟩ : Chg)], Byt c.name ∧ Byt c.val := fun c hc => by
    rw [List.mem_singleton] at hc
    subst hc
    exact ⟨by unfold Byt; decide, by unfold Byt; decide⟩
  have hg2 : Go.St.Good (commitM sp0 m1 [⟨[97], false, [120]⟩]).2.2 (commitM sp0 m1 [⟨[97], false, [120]⟩]).2.1 := by
    rcases commit_good G1 [⟨[97], false, [120]⟩] with ⟨-, h, -⟩ | ⟨h, -⟩ | ⟨h, -⟩
    · exact h
    · rw [hone.1] at h; cases h
    · exact absurd hone.1 h
  have hb2 := hb1.commit hK1 hcl
  have hn2 := commitM_n sp0 m1 [⟨[97], false, [120]⟩]
  refine named_world (A := fun X => StAv X s d sp0 m1 fp1 [] ∧ Chs X (some ⟨w3.heap.size + 1, 0, none⟩) 1 1 [⟨[97], false, [120]⟩] ∧ Fr [] w3 X) (Q := fun X => Calls Try.prog 11 _ X _) ⟨(HT2.out.fr0 (((Fr.refl [] w3).alloc _).alloc _)).av, chs_one (q := some ⟨w3.heap.size, 0, none⟩) (m := 1) (c := 1) (World.at_alloc_new _ _ _ (by simp)) (Sl.of (b := w3.heap.size) (off := 0) (cs := #[.int .u8 120]) (T := 5) (fr := (1, 2)) ((World.at_alloc_lt _ _ _ (by simp)).trans (World.at_alloc_new _ _ _ rfl)) (by decide) rfl (by decide)) (by decide), ((Fr.refl [] w3).alloc _).alloc _⟩ ?_
  rintro X ⟨TX, CX, FX⟩
  have HFX := Lib.hid (HF2.out.trans FX)
  have hc5 := commit_f TX (by simp) hK1 (by rw [hn1]; decide) (by rw [G1.wt]; decide) CX hcl (by decide)
  obtain ⟨cm, hcm⟩ : ∃ cm, cm = commitM sp0 m1 [⟨[97], false, [120]⟩] := ⟨_, rfl⟩
  rw [← hcm] at hc5 hone hg2 hb2 hn2
  have HONE := Lib.hid hone
  have HG2 := Lib.hid hg2
  have HB2 := Lib.hid hb2
  have HN2 := Lib.hid (hn2.trans hn1)
  refine hc5.mono ?_
  clear hc5 hone hg2 hb2 hn2 hcm hK1 hcl TX CX FX hconv
  rintro en w5 ⟨fp2, rfl, T5, F5, N5⟩
  rw [HONE.out.1]
  have HT5 := Lib.hid T5
  have HFP5 := Lib.hid (show ∀ k ∈ fp2, w.heap.size ≤ k from fun k hk => by
    rcases N5 k hk with h | h
    · exact HFP.out k h
    · exact Nat.le_trans HFX.out.size h)
  have HF5 := Lib.hid (show Fr [] w w5 from HFX.out.seq F5 fun k hk hl => by
    rcases List.mem_cons.1 hk with rfl | h
    · have := HLs.out; omega
    · have := HFP.out k h; omega)
  clear T5 F5 N5
  go_wp2_with fail
  refine (crash_any HT5.out.disk 0 (by rw [HG2.out.wt]; decide)).mono ?_
  rintro en w6 ⟨rfl, fp3, D6, F6, N6⟩
  have hg3 := crash_same HG2.out 0
  have hb3 := HB2.out.crash 0
  have hn3 : (crashM cm.2.2 0).n = 8 := HN2.out
  have hop3 := open_good hg3
  have hk3 := good_spb hg3 hb3
  obtain ⟨m3, hm3⟩ : ∃ m3, m3 = crashM cm.2.2 0 := ⟨_, rfl⟩
  obtain ⟨sp3, hsp3⟩ : ∃ sp3, sp3 = cm.2.1 := ⟨_, rfl⟩
  rw [← hm3] at D6 hb3 hn3 hop3 hk3 hg3
  rw [← hsp3] at hop3 hk3
  have hL3 : sp3.L = [([97], [120])] := by rw [hsp3]; exact HONE.out.2
  have HD6 := Lib.hid D6
  have HOP3 := Lib.hid hop3
  have HK3 := Lib.hid hk3
  have HB3 := Lib.hid hb3
  have HL3 := Lib.hid hL3
  have HWT := Lib.hid hg3.wt
  have HFP6 := Lib.hid (show ∀ k ∈ fp3, w.heap.size ≤ k from fun k hk => by
    rcases N6 k hk with h | h
    · exact HFP5.out k h
    · exact Nat.le_trans HF5.out.size h)
  have HF6 := Lib.hid (show Fr [] w w6 from HF5.out.seq F6 fun k hk hl => by have := HFP5.out k hk; omega)
  clear D6 F6 N6 hop3 hk3 hb3 hL3 hg3 hm3 hsp3
  go_wp2_with fail
  refine (open_f HD6.out (by omega) HB3.out.2.1 (by rw [HWT.out]; decide)).mono ?_
  intro en w7 hO
  rw [HOP3.out] at hO
  obtain ⟨-, s2, fp4, rfl, T7, F7, N7, L7⟩ := hO
  have HT7 := Lib.hid T7
  have HF7 := Lib.hid (show Fr [] w w7 from HF6.out.seq F7 fun k hk hl => by have := HFP6.out k hk; omega)
  clear T7 F7 N7 L7
  go_wp2_with fail
  have hs97 : (⟨#[97]⟩ : ByteArray) = strB [97] := by kernel_rfl
  rw [hs97]
  refine (get_sf HT7.out HK3.out.srt (fun x hx => (HK3.out.ent x hx).nb) (fun x hx => (HK3.out.ent x hx).v) (n := [97]) (by intro x hx; rw [List.mem_singleton] at hx; omega)).mono ?_
  rintro en w8 ⟨q8, n8, c8, rfl, B8⟩
  rw [HL3.out] at B8 ⊢
  have hget : getL [97] [([97], [120])] = some [120] := by rfl
  rw [hget] at B8 ⊢
  have HT8 := Lib.hid (HT7.out.fr0 B8.own.fr)
  have HF8 := Lib.hid (HF7.out.trans B8.own.fr)
  have hcv := conv47 B8.sl
  obtain ⟨Y, hY⟩ : ∃ Y, Y = strB [120] := ⟨_, rfl⟩
  have hYe : Y.toList = [120] := by rw [hY]; kernel_rfl
  rw [show strB ((some [120] : Option Bs).getD []) = Y from hY.symm] at hcv
  clear hget B8 hY hs97
  go_wp2_with fail
  refine (all_sf HT8.out HK3.out.srt HK3.out.ent HK3.out.len).mono ?_
  rintro en w9 ⟨q9, c9, rfl, G9⟩
  have HF9 := Lib.hid (HF8.out.trans G9.gch.own.fr)
  rw [HL3.out]
  clear G9
  go_wp2_with fail
  exact bodyPost_ret (results_tmp rfl _ _ _) rfl ⟨rfl, HF9.out⟩
end
end Go.Proofs.Ytombhkekocbfoaa
namespace Go.St
open Go.Kd Go.Dr
def SeenM (m : DM) : Prop := m.seen = layW m.kept m.waits
theorem layW_snoc' (c : List Int) (ws : List (Nat × List Int)) (x : Nat × List Int) : layW c (ws ++ [x]) = lay (layW c ws) (x.1 * 64) x.2 := by simp [layW]
theorem SeenM.new (b : Int) : SeenM (newM b) := rfl
theorem SeenM.alive {m : DM} (h : SeenM m) : SeenM (aliveM m) := by
  obtain ⟨h1, h2, h3, h4⟩ := aliveM_same m
  unfold SeenM
  rw [h2, h3, h4]; exact h
theorem SeenM.write {m : DM} (h : SeenM m) (a : Int) (b : List Int) : SeenM (writeM m a b).2 := by
  obtain ⟨h1, h2, h3, h4⟩ := aliveM_same m
  unfold writeM
  split
  · exact h
  · split
    · show lay m.seen (a.toNat * 64) b = layW (aliveM m).kept (m.waits ++ [(a.toNat, b)])
      rw [h2, layW_snoc', ← show m.seen = layW m.kept m.waits from h]
    · exact h.alive
theorem SeenM.sync {m : DM} (h : SeenM m) : SeenM (syncM m).2 := by
  obtain ⟨h1, h2, h3, h4⟩ := aliveM_same m
  unfold syncM
  split
  · show (aliveM m).seen = layW m.kept m.waits
    rw [h3]; exact h
  · exact h.alive
theorem SeenM.crash (m : DM) (k : Int) : SeenM (crashM m k) := rfl
theorem SeenM.fuse {m : DM} (h : SeenM m) (n : Int) : SeenM (fuseM m n) := h
theorem SeenM.wr : ∀ {bs : List Bs} {m : DM} {p : Nat}, SeenM m → SeenM (wrM m p bs).2 := by
  intro bs
  induction bs with
  | nil => intro m p h; exact h
  | cons b bs ih =>
    intro m p h
    rw [wrM]
    split
    · exact ih (h.write _ _)
    · exact h.write _ _
theorem SeenM.put {m : DM} (h : SeenM m) {p : Nat} {b : Bs} : SeenM (putM m p b).2 := by
  unfold putM
  split
  · exact h.wr.sync
  · exact h.wr
theorem syncM_wl (m : DM) : (syncM m).2.waits.length ≤ m.waits.length := by
  obtain ⟨h1, h2, h3, h4⟩ := aliveM_same m
  unfold syncM
  split
  · simp
  · rw [h4]; exact Nat.le_refl _
end Go.St
namespace Go.Proofs.Ytombhkekocbfoaa
open Go.RowKit Go.Dr Go.Kd Go.St
/-- Two disks, the code's and the document's, made behind w0. -/
structure Both (w0 w : World) (d r : Nat) (m m2 : DM) (fp rfp : List Nat) : Prop where
  D : DiskAt w d m fp
  R : RefAt w r m2 rfp
  dis : ∀ k ∈ fp, k ∉ rfp
  fr : Fr [] w0 w
  nd : News w0 [] fp
  nr : News w0 [] rfp
section
variable {w0 w w' : World} {d r : Nat} {m m2 m' : DM} {fp rfp fp' rfp' : List Nat}
theorem Both.fr0 (B : Both w0 w d r m m2 fp rfp) (F : Fr [] w w') : Both w0 w' d r m m2 fp rfp :=
  ⟨B.D.frame F (fun _ _ h => by cases h), B.R.frame F (fun _ _ h => by cases h), B.dis, B.fr.trans F, B.nd, B.nr⟩
theorem Both.disk (B : Both w0 w d r m m2 fp rfp) (D' : DiskAt w' d m' fp') (F : Fr fp w w') (N : News w fp fp') : Both w0 w' d r m' m2 fp' rfp :=
  ⟨D', B.R.frame F (fun k hk h => B.dis k h hk), fun k hk hk' => by
    rcases N k hk with h | h
    · exact B.dis k h hk'
    · have := B.R.lt k hk'; omega, B.nd.fr B.fr F, B.nd.trans N B.fr.size, B.nr⟩
theorem Both.ref (B : Both w0 w d r m m2 fp rfp) (R' : RefAt w' r m' rfp') (F : Fr rfp w w') (N : News w rfp rfp') : Both w0 w' d r m m' fp rfp' :=
  ⟨B.D.frame F (fun k hk h => B.dis k hk h), R', fun k hk hk' => by
    rcases N k hk' with h | h
    · exact B.dis k hk h
    · have := B.D.lt k hk; omega, B.nr.fr B.fr F, B.nd, B.nr.trans N B.fr.size⟩
theorem News.sub {w : World} {fp fp' : List Nat} (h : ∀ k ∈ fp', k ∈ fp) : News w fp fp' := fun k hk => .inl (h k hk)
/-- The document's fuse, set by hand. -/
theorem RefAt.setFuse (R : RefAt w r m fp) (n : Int) (hn : -1 ≤ n ∧ n ≤ 9223372036854775807) : ∃ C, w.blk r = some (.cells C 48 (0, 0)) ∧ C.size = 6 ∧ RefAt (w.put r (.cells (C.setIfInBounds 4 (.int .i64 n)) 48 (0, 0))) r { m with fuse := n } fp ∧ Fr fp w (w.put r (.cells (C.setIfInBounds 4 (.int .i64 n)) 48 (0, 0))) := by
  obtain ⟨kb, pa, ca, pb, cb, bs, D, rfl, ok⟩ := R
  refine ⟨_, D.hr, rfl, ⟨kb, pa, ca, pb, cb, bs, D.flags n m.dead, rfl, ⟨ok.n1, ok.n2, ok.kl, ok.sl, hn.1, hn.2, ok.ws⟩⟩, (Fr.refl _ _).put _ _ (fun _ => by simp [rfpOf])⟩
end
end Go.Proofs.Ytombhkekocbfoaa
