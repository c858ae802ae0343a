/- Joined: SoZl, SoZm, SoZn, SoZo, SoT, SoW. -/
import Derived.Test.YtombhkekocbfoaaZr
import Derived.Test.YtombhkekocbfoaaZs
import Derived.Test.YtombhkekocbfoaaZp
import Derived.Test.YtombhkekocbfoaaRows
import Derived.Test.YtombhkekocbfoaaZb
import Derived.Test.YtombhkekocbfoaaZf
import Derived.Test.YtombhkekocbfoaaZh
import Derived.ProofKit
import Derived.OpenShut
import Derived.SizedLaws
import Derived.Deep.Slices
import Derived.Test.YtombhkekocbfoaaZk
set_option linter.unusedVariables false
set_option linter.unusedSimpArgs false
namespace Go.St
open Go.Kd Go.Dr
def SeenM (m : DM) : Prop := m.seen = layW m.kept m.waits
theorem layW_snoc' (c : List Int) (ws : List (Nat × List Int)) (x : Nat × List Int) : layW c (ws ++ [x]) = lay (layW c ws) (x.1 * 64) x.2 := by simp [layW]
theorem SeenM.new (b : Int) : SeenM (newM b) := rfl
theorem SeenM.alive {m : DM} (h : SeenM m) : SeenM (aliveM m) := by
  obtain ⟨h1, h2, h3, h4⟩ := aliveM_same m
  unfold SeenM
  rw [h2, h3, h4]; exact h
theorem SeenM.write {m : DM} (h : SeenM m) (a : Int) (b : List Int) : SeenM (writeM m a b).2 := by
  obtain ⟨h1, h2, h3, h4⟩ := aliveM_same m
  unfold writeM
  split
  · exact h
  · split
    · show lay m.seen (a.toNat * 64) b = layW (aliveM m).kept (m.waits ++ [(a.toNat, b)])
      rw [h2, layW_snoc', ← show m.seen = layW m.kept m.waits from h]
    · exact h.alive
theorem SeenM.sync {m : DM} (h : SeenM m) : SeenM (syncM m).2 := by
  obtain ⟨h1, h2, h3, h4⟩ := aliveM_same m
  unfold syncM
  split
  · show (aliveM m).seen = layW m.kept m.waits
    rw [h3]; exact h
  · exact h.alive
theorem SeenM.crash (m : DM) (k : Int) : SeenM (crashM m k) := rfl
theorem SeenM.fuse {m : DM} (h : SeenM m) (n : Int) : SeenM (fuseM m n) := h
theorem SeenM.wr : ∀ {bs : List Bs} {m : DM} {p : Nat}, SeenM m → SeenM (wrM m p bs).2 := by
  intro bs
  induction bs with
  | nil => intro m p h; exact h
  | cons b bs ih =>
    intro m p h
    rw [wrM]
    split
    · exact ih (h.write _ _)
    · exact h.write _ _
theorem SeenM.put {m : DM} (h : SeenM m) {p : Nat} {b : Bs} : SeenM (putM m p b).2 := by
  unfold putM
  split
  · exact h.wr.sync
  · exact h.wr
theorem syncM_wl (m : DM) : (syncM m).2.waits.length ≤ m.waits.length := by
  obtain ⟨h1, h2, h3, h4⟩ := aliveM_same m
  unfold syncM
  split
  · simp
  · rw [h4]; exact Nat.le_refl _
end Go.St
namespace Go.Proofs.Ytombhkekocbfoaa
open Go.RowKit Go.Dr Go.Kd Go.St
/-- Two disks, the code's and the document's, made behind w0. -/
structure Both (w0 w : World) (d r : Nat) (m m2 : DM) (fp rfp : List Nat) : Prop where
  D : DiskAt w d m fp
  R : RefAt w r m2 rfp
  dis : ∀ k ∈ fp, k ∉ rfp
  fr : Fr [] w0 w
  nd : News w0 [] fp
  nr : News w0 [] rfp
section
variable {w0 w w' : World} {d r : Nat} {m m2 m' : DM} {fp rfp fp' rfp' : List Nat}
theorem Both.fr0 (B : Both w0 w d r m m2 fp rfp) (F : Fr [] w w') : Both w0 w' d r m m2 fp rfp :=
  ⟨B.D.frame F (fun _ _ h => by cases h), B.R.frame F (fun _ _ h => by cases h), B.dis, B.fr.trans F, B.nd, B.nr⟩
theorem Both.disk (B : Both w0 w d r m m2 fp rfp) (D' : DiskAt w' d m' fp') (F : Fr fp w w') (N : News w fp fp') : Both w0 w' d r m' m2 fp' rfp :=
  ⟨D', B.R.frame F (fun k hk h => B.dis k h hk), fun k hk hk' => by
    rcases N k hk with h | h
    · exact B.dis k h hk'
    · have := B.R.lt k hk'; omega, B.nd.fr B.fr F, B.nd.trans N B.fr.size, B.nr⟩
theorem Both.ref (B : Both w0 w d r m m2 fp rfp) (R' : RefAt w' r m' rfp') (F : Fr rfp w w') (N : News w rfp rfp') : Both w0 w' d r m m' fp rfp' :=
  ⟨B.D.frame F (fun k hk h => B.dis k hk h), R', fun k hk hk' => by
    rcases N k hk' with h | h
    · exact B.dis k hk h
    · have := B.D.lt k hk; omega, B.nr.fr B.fr F, B.nd, B.nr.trans N B.fr.size⟩
theorem News.sub {w : World} {fp fp' : List Nat} (h : ∀ k ∈ fp', k ∈ fp) : News w fp fp' := fun k hk => .inl (h k hk)
/-- The document's fuse, set by hand. -/
theorem RefAt.setFuse (R : RefAt w r m fp) (n : Int) (hn : -1 ≤ n ∧ n ≤ 9223372036854775807) : ∃ C, w.blk r = some (.cells C 48 (0, 0)) ∧ C.size = 6 ∧ RefAt (w.put r (.cells (C.setIfInBounds 4 (.int .i64 n)) 48 (0, 0))) r { m with fuse := n } fp ∧ Fr fp w (w.put r (.cells (C.setIfInBounds 4 (.int .i64 n)) 48 (0, 0))) := by
  obtain ⟨kb, pa, ca, pb, cb, bs, D, rfl, ok⟩ := R
  refine ⟨_, D.hr, rfl, ⟨kb, pa, ca, pb, cb, bs, D.flags n m.dead, rfl, ⟨ok.n1, ok.n2, ok.kl, ok.sl, hn.1, hn.2, ok.ws⟩⟩, (Fr.refl _ _).put _ _ (fun _ => by simp [rfpOf])⟩
end
end Go.Proofs.Ytombhkekocbfoaa
namespace Go.Proofs.Ytombhkekocbfoaa
open Go.RowKit Go.Dr Go.Kd Go.St
noncomputable def o4 : Code := Try.f4.body.getD .skip
noncomputable def o13 : Code := behind 6 o4
noncomputable def o18 : Code := behind 7 o4
noncomputable def o22 : Code := behind 10 o4
set_option maxRecDepth 100000 in
/-- StoreOpens' frame, written out. -/
def frm4 (u : Nat → Value) : Array Value := (u 0 :: u 1 :: u 2 :: u 3 :: u 4 :: u 5 :: u 6 :: u 7 :: u 8 :: u 9 :: u 10 :: u 11 :: u 12 :: u 13 :: u 14 :: u 15 :: u 16 :: u 17 :: u 18 :: u 19 :: u 20 :: u 21 :: u 22 :: u 23 :: u 24 :: u 25 :: u 26 :: u 27 :: u 28 :: u 29 :: u 30 :: u 31 :: u 32 :: u 33 :: u 34 :: u 35 :: u 36 :: u 37 :: u 38 :: u 39 :: u 40 :: u 41 :: u 42 :: u 43 :: u 44 :: u 45 :: u 46 :: u 47 :: u 48 :: u 49 :: u 50 :: u 51 :: u 52 :: u 53 :: u 54 :: u 55 :: u 56 :: u 57 :: u 58 :: u 59 :: u 60 :: u 61 :: u 62 :: u 63 :: u 64 :: u 65 :: u 66 :: u 67 :: u 68 :: u 69 :: u 70 :: u 71 :: u 72 :: u 73 :: u 74 :: u 75 :: u 76 :: u 77 :: u 78 :: u 79 :: u 80 :: u 81 :: u 82 :: u 83 :: u 84 :: u 85 :: u 86 :: u 87 :: u 88 :: u 89 :: u 90 :: u 91 :: u 92 :: u 93 :: u 94 :: u 95 :: u 96 :: u 97 :: u 98 :: u 99 :: u 100 :: u 101 :: u 102 :: u 103 :: u 104 :: u 105 :: u 106 :: u 107 :: u 108 :: u 109 :: u 110 :: u 111 :: u 112 :: u 113 :: u 114 :: u 115 :: []).toArray
set_option maxRecDepth 100000 in
theorem frm4_of {tm : Array Value} (h : tm.size = 116) : ∃ u : Nat → Value, tm = frm4 u := ⟨fun i => tm.getD i undef, arr_fun h⟩
/-- StoreOpens' end. -/
def OEnd (w : World) (Q : Exit → Act → World → Prop) : Prop := ∀ (tm' : Array Value) (W' : World), tm'.getD 6 undef = .bool true → Fr [] w W' → Q .ret ⟨tm', []⟩ W'
section
variable {w : World}
set_option maxRecDepth 100000 in
set_option maxHeartbeats 8000000 in
theorem o22_no {Q : Exit → Act → World → Prop} {tm : Array Value} {W : World} {E : Int} (sz : tm.size = 116) (s105 : tm.getD 105 undef = undef) (s12 : tm.getD 12 undef = .int .i64 E) (hE : E ≠ 0) (F0 : Fr [] w W) (HQ : OEnd w Q) : o22.wp Try.prog Q ⟨tm, []⟩ W := by
  obtain ⟨u, rfl⟩ := frm4_of sz
  have a12 : u 12 = _ := s12
  have a105 : u 105 = _ := s105
  have HQ := Lib.hid HQ
  have HF := Lib.hid F0
  have hd : (E == 0) = false := by rw [beq_eq_false_iff_ne]; exact hE
  have hd2 : (E != 0) = true := by rw [bne_iff_ne]; exact hE
  clear s12 sz F0 hE s105
  conv => arg 2; whnf
  unfold frm4
  rw [a12, a105]
  clear a12 a105
  go_wp2_with fail
  refine (open_nil (w := W)).mono ?_
  rintro en W1 ⟨rfl, hW1⟩
  subst hW1
  go_upto_region 23 with (fail)
  refine drawn_begin 25 (fun w' => w'.os = w'.os) (by kernel_rfl) ?_
  refine drawn_reads (fuel := 4) [0, 1, 2, 3, 4, 5, 6, 7, 8, 9, 10, 11, 12, 13, 14, 15, 16, 17, 18, 19, 20, 21, 22, 23, 24] rfl (by kernel_rfl) rfl ?_
  repeat (first | (refine rowK_step2 rfl rfl (fun K hK => ?_); go_wp2) | (refine rowK_step rfl (fun K hK => ?_); go_simp; refine hK _ ?_; clear hK K) | (refine rowK_step rfl (fun K hK => ?_); go_simp; refine ⟨by simp [undef], hK _ ?_⟩; clear hK K))
  refine rowK_nil ⟨fun w' => ?_, ?_⟩
  · repeat (first | (refine rowWp_step2 rfl rfl (fun K hK => ?_); go_wp2) | (refine rowWp_step rfl (fun K hK => ?_); go_simp; refine hK _ ?_; clear hK K) | (refine rowWp_step rfl (fun K hK => ?_); go_simp; refine ⟨by simp [undef], hK _ ?_⟩; clear hK K))
    exact rowWp_nil rfl
  refine drawn_end rfl (by kernel_rfl) ?_
  intro K hK
  go_wp2_with fail
  exact HQ.out _ _ rfl HF.out.drew
set_option maxRecDepth 100000 in
set_option maxHeartbeats 8000000 in
theorem o22_yes {Q : Exit → Act → World → Prop} {tm : Array Value} {W : World} {s t d r : Nat} {sp : SP} {m m2 : DM} {fp av rfp av2 : List Nat} (sz : tm.size = 116) (s11 : tm.getD 11 undef = .pointer (some ⟨s, 0, none⟩)) (s12 : tm.getD 12 undef = .int .i64 0) (s13 : tm.getD 13 undef = .pointer (some ⟨t, 0, none⟩))
    (T : StAv W s d sp m fp av) (T2 : DSt W t r sp m2 rfp av2) (hS : Sorted sp.L) (hE : ∀ x ∈ sp.L, EntOk x) (hL : sp.L.length ≤ 64) (F0 : Fr [] w W) (HQ : OEnd w Q) : o22.wp Try.prog Q ⟨tm, []⟩ W := by
  obtain ⟨u, rfl⟩ := frm4_of sz
  have a11 : u 11 = _ := s11
  have a12 : u 12 = _ := s12
  have a13 : u 13 = _ := s13
  have HQ := Lib.hid HQ
  have HF := Lib.hid F0
  have HT := Lib.hid T.st
  have HSO := Lib.hid hS
  have HEN := Lib.hid hE
  obtain ⟨q, n, c, ft, C⟩ := T2.ex
  have HC := Lib.hid C.chs
  obtain ⟨SC, hSC⟩ : ∃ SC, SC = dsC r sp.half sp.epoch sp.count sp.fin q n c sp.broken := ⟨_, rfl⟩
  rw [← hSC] at ft
  have szC : SC.size = 7 := by rw [hSC]; rfl
  obtain ⟨ep, hep⟩ : ∃ ep, ep = sp.epoch := ⟨_, rfl⟩
  have HEP := Lib.hid hep
  obtain ⟨x2', x2⟩ := Array.getElem?_eq_some_iff.1 (show SC[2]? = some (.int .u64 (ep : Int)) by rw [hSC, hep]; rfl)
  obtain ⟨x5', x5⟩ := Array.getElem?_eq_some_iff.1 (show SC[5]? = some (.slice q n c) by rw [hSC]; rfl)
  have tt := World.at_lt ft
  have HFT := Lib.hid ft
  clear s11 s12 s13 sz F0 hS hE T T2 C hSC hep
  conv => arg 2; whnf
  unfold frm4
  rw [a11, a12, a13]
  clear a11 a12 a13
  go_wp2_with fail
  refine (open_nil (w := W)).mono ?_
  rintro en W1 ⟨rfl, hW1⟩
  subst hW1
  go_upto_region 23 with (fail)
  refine drawn_begin 25 (fun w' => w'.blk t = some (.cells SC 56)) (by kernel_rfl) ?_
  refine drawn_reads (fuel := 14) [0, 1, 2, 3, 4, 5, 6, 7, 8, 9, 10, 12, 13, 14, 15] rfl (by kernel_rfl) ft ?_
  repeat (first | (refine rowK_step2 rfl rfl (fun K hK => ?_); go_wp2) | (refine rowK_step rfl (fun K hK => ?_); go_simp; refine hK _ ?_; clear hK K))
  refine rowK_nil ⟨fun w' e1 => ?_, ?_⟩
  · clear ft tt
    have tt := World.at_lt e1
    repeat (first | (refine rowWp_step2 rfl rfl (fun K hK => ?_); go_wp2) | (refine rowWp_step rfl (fun K hK => ?_); go_simp; refine hK _ ?_; clear hK K))
    exact rowWp_nil rfl
  refine drawn_next 11 (fuel := 13) rfl (by kernel_rfl) ?_
  intro K hK
  go_wp2_with fail
  refine (all_sf (HT.out.fr0 (Fr.refl [] _).drew) HSO.out HEN.out hL).mono ?_
  rintro en w2 ⟨q1, c1, rfl, G1⟩
  have F2 : Fr [] W1 w2 := (Fr.refl [] W1).drew.trans G1.gch.own.fr
  have f2 := F2.get ft (by simp)
  have t2 := World.at_lt f2
  have HC1 := Lib.hid G1.gch.chs
  have HF2 := Lib.hid F2
  obtain ⟨n1, hn1⟩ : ∃ n1, n1 = sp.L.length := ⟨_, rfl⟩
  rw [← hn1] at HC1 hL ⊢
  clear G1 F2 ft tt hn1
  go_wp2_with fail
  refine ⟨f2, ?_⟩
  refine drawn_next 16 (fuel := 12) rfl (by kernel_rfl) ?_
  intro K hK
  go_wp2_with fail
  have hby : ∀ c ∈ asC sp.L, Byt c.name ∧ Byt c.val := fun c hc => by
    obtain ⟨x, hx, rfl⟩ := List.mem_map.1 hc
    exact ⟨(HEN.out x hx).nb, (HEN.out x hx).vb⟩
  refine (same_f HC1.out (HC.out.fr0 HF2.out) hby hby (by omega)).mono ?_
  rintro en w3 ⟨b, rfl, F3, hr⟩
  obtain rfl : b = true := hr.2 rfl
  have f3 := F3.get f2 (by simp)
  have t3 := World.at_lt f3
  have HF3 := Lib.hid (HF2.out.trans F3)
  clear F3 f2 t2 hr hby
  go_wp2_with fail
  refine ⟨f3, ?_⟩
  refine drawn_reads (fuel := 6) [17, 18, 20, 21, 22, 23] rfl (by kernel_rfl) f3 ?_
  repeat (first | (refine rowK_step2 rfl rfl (fun K hK => ?_); go_wp2) | (refine rowK_step rfl (fun K hK => ?_); go_simp; refine hK _ ?_; clear hK K))
  refine rowK_nil ⟨fun w' e1 => ?_, ?_⟩
  · clear f3 t3
    have tt := World.at_lt e1
    repeat (first | (refine rowWp_step2 rfl rfl (fun K hK => ?_); go_wp2) | (refine rowWp_step rfl (fun K hK => ?_); go_simp; refine hK _ ?_; clear hK K))
    exact rowWp_nil rfl
  refine drawn_next 19 (fuel := 5) rfl (by kernel_rfl) ?_
  intro K hK
  go_wp2_with fail
  refine (epoch_f (HT.out.fr0 HF3.out)).mono ?_
  rintro en w4 ⟨rfl, hw4⟩
  rw [← HEP.out]
  subst hw4
  go_wp2_with fail
  refine ⟨f3, ?_⟩
  have hbe : ((ep : Int) == (ep : Int)) = true := beq_self_eq_true _
  refine drawn_next 24 (fuel := 4) rfl (by kernel_rfl) ?_
  intro K hK
  go_wp2_with fail
  refine ⟨f3, ?_⟩
  refine drawn_end rfl (by kernel_rfl) ?_
  intro K hK
  go_wp2_with fail
  exact HQ.out _ _ rfl (HF.out.trans HF3.out)
end
end Go.Proofs.Ytombhkekocbfoaa
namespace Go.St
open Go.Kd Go.Dr
theorem openM_err {m : DM} (h : (openM m).2.1 = none) : (openM m).1 ≠ 0 := by
  have key : ∀ (half : Nat) (x : Nat × Nat × Nat), (readH m half x).2.1 = none → (readH m half x).1 ≠ 0 := by
    intro half x hx
    unfold readH at hx ⊢
    split at hx
    · cases hx
    · simp
  unfold openM at h ⊢
  split at h
  · rw [if_pos (by assumption)]; simp
  · rw [if_neg (by assumption)]
    split at h
    · rw [if_pos (by assumption)]; simp
    · rw [if_neg (by assumption)]
      split at h
      · split at h
        · cases h
        · rw [if_neg (by assumption)]; simp
      · split at h
        · rw [if_pos (by assumption)]; simp
        · rw [if_neg (by assumption)]
          split at h
          · rw [if_pos (by assumption)]; exact key _ _ h
          · rw [if_neg (by assumption)]; exact key _ _ h
      · exact key _ _ h
      · exact key _ _ h
      · simp
end Go.St
namespace Go.Proofs.Ytombhkekocbfoaa
open Go.RowKit Go.Dr Go.Kd Go.St
theorem StAv.turnR {w w' : World} {s d : Nat} {sp : SP} {m : DM} {fp av : List Nat} (T : StAv w s d sp m fp av) (F : Fr av w w') (hs : s ∉ av) (hf : ∀ k ∈ fp, k ∉ av) : StAv w' s d sp m fp av := by
  obtain ⟨mb, f0, hsf, D, M⟩ := T.ex
  exact ⟨mb, F.get f0 hs, hsf, D.frame F hf, M.fr (F.mono fun k hk _ => List.mem_append_left _ hk) fun k hk => .inl hk⟩
section
variable {w : World}
set_option maxRecDepth 100000 in
set_option maxHeartbeats 8000000 in
theorem o18_f {Q : Exit → Act → World → Prop} {tm : Array Value} {W : World} {d r : Nat} {m : DM} {fp rfp : List Nat} (sz : tm.size = 116) (s105 : tm.getD 105 undef = undef) (s7 : tm.getD 7 undef = .pointer (some ⟨d, 0, none⟩)) (s8 : tm.getD 8 undef = .pointer (some ⟨r, 0, none⟩))
    (B : Both w W d r m m fp rfp) (hs : SeenM m) (hb : BytM m) (hn : m.n ≤ 40) (hwl : m.waits.length ≤ 1000) (HQ : OEnd w Q) : o18.wp Try.prog Q ⟨tm, []⟩ W := by
  obtain ⟨u, rfl⟩ := frm4_of sz
  have a7 : u 7 = _ := s7
  have a8 : u 8 = _ := s8
  have a105 : u 105 = _ := s105
  have HQ := Lib.hid HQ
  have HB := Lib.hid B
  have HS := Lib.hid hs
  have HBY := Lib.hid hb
  clear s7 s8 s105 sz B hs hb
  conv => arg 2; whnf
  unfold frm4
  rw [a7, a8, a105]
  clear a7 a8 a105
  go_wp2_with fail
  refine (open_fv (av := rfp) HB.out.D (fun k hk => HB.out.R.lt k hk) (by omega) HBY.out.2.1 (by omega)).mono ?_
  intro en W1 hO
  have herr := fun h => openM_err (m := m) h
  have hspb := fun sp h => (open_ok (sp := sp) HB.out.D.ok HBY.out.2.1 h).1
  obtain ⟨om, hom⟩ : ∃ om, om = openM m := ⟨_, rfl⟩
  rw [← hom] at hO herr hspb
  have HOM := Lib.hid hom
  clear hom
  obtain ⟨E, o, m'⟩ := om
  cases o with
  | none =>
    have hE : E ≠ 0 := herr rfl
    obtain ⟨fp', rfl, D1, F1, N1⟩ := hO
    have HB1 := Lib.hid (HB.out.disk D1 F1 N1)
    have hEE : (E == E) = true := beq_self_eq_true _
    have hE0 : (E == 0) = false := by rw [beq_eq_false_iff_ne]; exact hE
    have hE1 : (E != 0) = true := by rw [bne_iff_ne]; exact hE
    have hE2 : (E != E) = false := by simp
    have HE := Lib.hid hE
    clear D1 F1 N1 herr hspb hE
    go_wp2_with fail
    refine (dopen_f (av := []) HB1.out.R (fun k hk => by cases hk) (by omega) HBY.out.2.1 HS.out (by omega)).mono ?_
    intro en W2 hO2
    rw [← HOM.out] at hO2
    obtain ⟨rfp', rfl, R2, F2, N2⟩ := hO2
    have HB2 := Lib.hid (HB1.out.ref R2 F2 N2)
    clear R2 F2 N2
    go_upto_region 20 with (fail)
    rename_i K22 h22 Kc hc2
    have H22 := Lib.hid h22
    clear h22
    go_wp2_with fail
    refine H22.out _ _ ?_
    exact Eq.mp (congrArg (fun c => Code.wp Try.prog c _ _ _) (show o22 = _ from by kernel_rfl)) (o22_no (E := E) rfl rfl rfl HE.out HB2.out.fr HQ.out)
  | some sp =>
    have hK := hspb sp rfl
    obtain ⟨rfl, s, fp', rfl, T1, F1, N1, hsl⟩ := hO
    have HB1 := Lib.hid (HB.out.disk T1.disk F1 N1)
    have HT1 := Lib.hid T1
    have HK := Lib.hid hK
    have HSR := Lib.hid (show s ∉ rfp from fun h => by have := HB.out.R.lt s h; omega)
    clear T1 F1 N1 herr hspb hK
    go_wp2_with fail
    refine (dopen_f (av := []) HB1.out.R (fun k hk => by cases hk) (by omega) HBY.out.2.1 HS.out (by omega)).mono ?_
    intro en W2 hO2
    rw [← HOM.out] at hO2
    obtain ⟨-, t, rfp', rfl, T2, F2, N2, htl⟩ := hO2
    have HT1' := Lib.hid (HT1.out.turnR F2 HSR.out HB1.out.dis)
    have HB2 := Lib.hid (HB1.out.ref T2.disk F2 N2)
    have HT2 := Lib.hid T2
    clear T2 F2 N2
    go_upto_region 20 with (fail)
    rename_i K22 h22 Kc hc2
    have H22 := Lib.hid h22
    clear h22
    go_wp2_with fail
    refine H22.out _ _ ?_
    exact Eq.mp (congrArg (fun c => Code.wp Try.prog c _ _ _) (show o22 = _ from by kernel_rfl)) (o22_yes rfl rfl rfl rfl HT1'.out HT2.out HK.out.srt HK.out.ent HK.out.len HB2.out.fr HQ.out)
set_option maxRecDepth 100000 in
set_option maxHeartbeats 8000000 in
theorem o13_f {Q : Exit → Act → World → Prop} {tm : Array Value} {W : World} {d r : Nat} {m : DM} {fp rfp : List Nat} (dead : Bool) (sz : tm.size = 116) (s105 : tm.getD 105 undef = undef) (s2 : tm.getD 2 undef = .bool dead) (s7 : tm.getD 7 undef = .pointer (some ⟨d, 0, none⟩)) (s8 : tm.getD 8 undef = .pointer (some ⟨r, 0, none⟩))
    (B : Both w W d r m m fp rfp) (hs : SeenM m) (hb : BytM m) (hn : m.n ≤ 40) (hwl : m.waits.length ≤ 1000) (HQ : OEnd w Q) : o13.wp Try.prog Q ⟨tm, []⟩ W := by
  obtain ⟨u, rfl⟩ := frm4_of sz
  have a2 : u 2 = _ := s2
  have a7 : u 7 = _ := s7
  have a8 : u 8 = _ := s8
  have a105 : u 105 = _ := s105
  have HQ := Lib.hid HQ
  have HB := Lib.hid B
  have HS := Lib.hid hs
  have HBY := Lib.hid hb
  clear s2 s7 s8 s105 sz B hs hb
  conv => arg 2; whnf
  unfold frm4
  rw [a2, a7, a8, a105]
  clear a2 a7 a8 a105
  go_upto_region 13 with (fail)
  rename_i K18 h18 Kc hc2
  have H18 := Lib.hid h18
  clear h18
  cases dead with
  | false =>
    go_wp2_with fail
    refine H18.out _ _ ?_
    exact Eq.mp (congrArg (fun c => Code.wp Try.prog c _ _ _) (show o18 = _ from by kernel_rfl)) (o18_f rfl rfl rfl rfl HB.out HS.out HBY.out hn hwl HQ.out)
  | true =>
    go_wp2_with fail
    refine (fuse_any HB.out.D 0 (by omega)).mono ?_
    rintro en W1 ⟨rfl, D1, F1⟩
    have D1 : DiskAt W1 d { m with fuse := 0 } fp := D1
    have B1 := HB.out.disk D1 F1 (fun k hk => .inl hk)
    obtain ⟨C, fC, szC, R2, F2⟩ := B1.R.setFuse 0 (by omega)
    have HB2 := Lib.hid (B1.ref R2 F2 (fun k hk => .inl hk))
    have tC := World.at_lt fC
    clear D1 F1 B1 R2 F2
    obtain ⟨m1, hm1⟩ : ∃ m1, m1 = { m with fuse := 0 } := ⟨_, rfl⟩
    rw [← hm1] at HB2
    have HS1 := Lib.hid (show SeenM m1 by rw [hm1]; exact HS.out)
    have HY1 := Lib.hid (show BytM m1 by rw [hm1]; exact HBY.out)
    have hn1 : m1.n = m.n := by rw [hm1]
    have hw1 : m1.waits = m.waits := by rw [hm1]
    have HN1 := Lib.hid hn1
    have HW1 := Lib.hid hw1
    clear hm1 hn1 hw1
    go_wp2_with fail
    refine (sync_any HB2.out.D (by rw [HW1.out]; omega)).mono ?_
    rintro en W3 ⟨rfl, fp3, D3, F3, N3⟩
    have HB3 := Lib.hid (HB2.out.disk D3 F3 N3)
    clear D3 F3 N3 fC tC
    go_wp2_with fail
    refine (rsync_any HB3.out.R (by rw [HW1.out]; omega)).mono ?_
    rintro en W4 ⟨rfl, rfp4, R4, F4, N4⟩
    have HB4 := Lib.hid (HB3.out.ref R4 F4 (News.sub N4))
    clear R4 F4 N4
    go_wp2_with fail
    refine H18.out _ _ ?_
    exact Eq.mp (congrArg (fun c => Code.wp Try.prog c _ _ _) (show o18 = _ from by kernel_rfl)) (o18_f rfl rfl rfl rfl HB4.out HS1.out.sync HY1.out.sync (by rw [(syncM_n m1).1, HN1.out]; exact hn) (Nat.le_trans (syncM_wl m1) (by rw [HW1.out]; exact hwl)) HQ.out)
end
end Go.Proofs.Ytombhkekocbfoaa
namespace Go.Proofs.Ytombhkekocbfoaa
open Go.RowKit Go.Dr Go.Kd Go.St
theorem part_of {cs : List Value} {l : Bs} {off n i k : Nat} (hx : (cs.drop off).take n = l.map (Value.int .u8)) (hk : k ≤ n - i) : (cs.drop (off + i)).take k = ((l.drop i).take k).map (Value.int .u8) := by
  rw [List.map_take, List.map_drop, ← hx, List.drop_take, List.drop_drop, List.take_take, Nat.min_eq_left hk]
section
variable {w : World}
set_option maxRecDepth 100000 in
set_option maxHeartbeats 8000000 in
theorem storeOpens_walk {blocks : Int} (hbl : -9223372036854775808 ≤ blocks ∧ blocks ≤ 9223372036854775807) {p : Option Addr} {n cap : Nat} {l : Bs} (S : Sl .u8 w p n cap l) (hl : isBytes l) (hn : n ≤ 140737488355328) (dead : Bool) :
    Calls Try.prog 4 #[.int .i64 blocks, .slice p n cap, .bool dead] w fun e w' => e = .returned (.bool true) ∧ Fr [] w w' := by
  have HS := Lib.hid S
  have HL := Lib.hid hl
  have HLN := Lib.hid S.len
  clear S hl
  go_enter Try.func4, Try.ntmps4
  go_wp2_with fail
  refine (alive_f (w := w)).mono ?_
  rintro en w0 ⟨rfl, F0⟩
  have HF0 := Lib.hid F0
  clear F0
  obtain ⟨bm, hbm⟩ : ∃ bm : Int, bm = min blocks 40 := ⟨_, rfl⟩
  obtain ⟨b0, hb0⟩ : ∃ b0 : Int, b0 = max 0 bm := ⟨_, rfl⟩
  have hb1 : 0 ≤ b0 ∧ b0 ≤ 40 := by omega
  go_wp2_with fail
  rw [show max 0 (min blocks 40) = b0 from by rw [hb0, hbm]]
  clear hb0 hbm
  refine (new_m b0 w0).mono ?_
  rintro en w1 ⟨d, fp, rfl, D1, F1, N1⟩
  have HD1 := Lib.hid D1
  have HF1 := Lib.hid F1
  have HN1 := Lib.hid N1
  clear D1 F1 N1
  go_wp2_with fail
  refine (rnew_any b0 w1).mono ?_
  rintro en w2 ⟨r, rfp, rfl, R2, F2, N2⟩
  obtain ⟨m0, hm0⟩ : ∃ m0, m0 = newM b0 := ⟨_, rfl⟩
  have HD1 := Lib.hid HD1.out
  have hB : Both w0 w2 d r m0 m0 fp rfp := by
    rw [hm0]
    exact ⟨HD1.out.fr0 F2, R2, fun k hk hk' => by
      have := HD1.out.lt k hk
      rcases N2 k hk' with h | h
      · cases h
      · omega, HF1.out.trans F2, HN1.out, fun k hk => by
      rcases N2 k hk with h | h
      · cases h
      · exact .inr (Nat.le_trans HF1.out.size h)⟩
  have hs0 : SeenM m0 := by rw [hm0]; exact SeenM.new b0
  have hy0 : BytM m0 := by rw [hm0]; exact BytM.new b0
  have hw0 : m0.waits = [] := by rw [hm0]; rfl
  obtain ⟨n0, hn0⟩ : ∃ n0, n0 = m0.n := ⟨_, rfl⟩
  have hn40 : n0 ≤ 40 := by rw [hn0, hm0]; simp only [newM]; omega
  have HI := Lib.hid (show Both w0 w2 d r m0 m0 fp rfp ∧ SeenM m0 ∧ BytM m0 ∧ m0.n = n0 ∧ m0.waits.length ≤ 0 from ⟨hB, hs0, hy0, hn0.symm, by rw [hw0]; exact Nat.le_refl 0⟩)
  clear hB hs0 hy0 hw0 hn0 hm0 R2 F2 N2 HD1 HF1 HN1
  go_upto_region 6 with (fail)
  rename_i K13 h13 Kb hb2
  have H13 := Lib.hid h13
  have HOE := Lib.hid (show OEnd w0 (bodyPost Try.prog Try.f4 fun e w' => e = .returned (.bool true) ∧ Fr [] w w') from fun tm' W' h6 F => bodyPost_ret (results_tmp rfl tm' _ _) rfl ⟨by rw [h6], HF0.out.trans F⟩)
  clear h13
  go_wp2_with fail
  go_loopw [9] (fun iv wy => ∃ (i : Nat) (m : DM) (fp rfp : List Nat), i ≤ 40 ∧ iv = .int .i64 (i : Int) ∧ Hid (Both w0 wy d r m m fp rfp ∧ SeenM m ∧ BytM m ∧ m.n = n0 ∧ m.waits.length ≤ i)) (fun iv _ => (40 - intOf iv).toNat)
  case atStart => exact ⟨0, m0, fp, rfp, by omega, rfl, HI⟩
  case round =>
    obtain ⟨i, m, fp1, rfp1, hi40, rfl, hW⟩ := hrel
    have hmn := hW.out.2.2.2.1
    go_wp2_with fail
    refine (blocks_any hW.out.1.D).mono ?_
    rintro en wa ⟨rfl, hwa⟩
    subst hwa
    rw [hmn]
    have HMN := Lib.hid hmn
    clear hmn
    by_cases hlt : i < n0
    · have hd : decide ((i : Int) < (n0 : Int)) = true := by rw [decide_eq_true_eq]; omega
      by_cases hl2 : 64 * i < n
      · have hd2 : decide (64 * (i : Int) < (n : Int)) = true := by rw [decide_eq_true_eq]; omega
        have kk : 64 * (i : Int) < (n : Int) := by omega
        have ki : (i : Int) < (n0 : Int) := by omega
        go_upto_region 10 with (fail)
        obtain ⟨g, hg⟩ : ∃ g, g = wr.heap.size := ⟨_, rfl⟩
        rw [← hg]
        refine named_world (A := fun X => X.blk g = some (.cells (ints .u8 (zs 64)) 5 (0, 0)) ∧ Fr [] wr X) (Q := fun X => Code.wp _ _ _ _ X) ⟨World.at_alloc_new _ _ _ hg, (Fr.refl _ _).alloc _⟩ ?_
        rintro Y ⟨fg, FY⟩
        have SY := HS.out.fr0 (HF0.out.trans (hW.out.1.fr.trans FY))
        have HB1 := Lib.hid (hW.out.1.fr0 FY)
        have hgf : g ∉ fp1 := fun h => by have := hW.out.1.D.lt g h; omega
        have hgr : g ∉ rfp1 := fun h => by have := hW.out.1.R.lt g h; omega
        have hgn : wr.heap.size ≤ g := by omega
        have hg0 : w0.heap.size ≤ g := Nat.le_trans hW.out.1.fr.size hgn
        obtain ⟨bb, off, cs, TT, fr, rfl, fb, hs2, hx⟩ := SY.out (by omega)
        obtain ⟨b', o', cs', T', fr', e', fb0, -, -⟩ := HS.out.out (by omega)
        cases e'
        have hne : bb ≠ g := fun e => by
          have h1 := World.at_lt fb0
          have h2 := HF0.out.size
          have h3 := hW.out.1.fr.size
          omega
        have hne' := hne.symm
        have hcap := HS.out.cap_
        have q0 : (0 : Int) ≤ 64 * (i : Int) := by omega
        have q1 : 64 * (i : Int) ≤ (n : Int) := by omega
        have q2 : (n : Int) ≤ (cap : Int) := by omega
        have q3 : ¬ cap = 64 * i := by omega
        have q4 : (64 * (i : Int)).toNat = 64 * i := by omega
        obtain ⟨k, hk⟩ : ∃ k, Nat.min (n - 64 * i) 64 = k := ⟨_, rfl⟩
        have hk2 : k ≤ 64 ∧ k ≤ n - 64 * i := by rw [← hk]; exact ⟨Nat.min_le_right _ _, Nat.min_le_left _ _⟩
        obtain ⟨hk3, hk4⟩ := hk2
        have hfit : off + 64 * i + k ≤ cs.size := by omega
        have hsz : (ints .u8 (zs 64)).size = 64 := by rw [size_ints, length_zs]
        have hV := part_of (cs := cs.toList) (l := l) (off := off) (n := n) (i := 64 * i) (k := k) (by rw [← hx, Array.toList_extract, List.extract_eq_take_drop, Nat.add_sub_cancel_left]) hk4
        have hon : ones ((cs.toList.drop (off + 64 * i)).take k) = true := by rw [hV]; exact ones_map_int _ _
        have HV := Lib.hid hV
        obtain ⟨X, hX⟩ : ∃ X, X = (l.drop (64 * i)).take k := ⟨_, rfl⟩
        have hXl : X.length ≤ 64 := by rw [hX, List.length_take]; omega
        have hlay : spl (ints .u8 (zs 64)) 0 (X.map (Value.int .u8)) = ints .u8 (lay (zs 64) 0 X) := by
          have h := spl_in .u8 (zs 64) #[] 0 X (by rw [length_zs]; omega)
          simpa using h
        have hbX : isBytes X := fun x hx => HL.out x (by rw [hX] at hx; exact List.mem_of_mem_drop (List.mem_of_mem_take hx))
        have HXE := Lib.hid hX
        have HLAY := Lib.hid hlay
        have HBX := Lib.hid (show isBytes (lay (zs 64) 0 X) from byt_lay (byt_zs 64) hbX 0)
        have HXL := Lib.hid (show (lay (zs 64) 0 X).length = 64 by rw [length_lay _ _ _ (by rw [length_zs]; omega), length_zs])
        clear hV hX hXl hlay hbX
        have HG := Lib.hid hg
        have HFY := Lib.hid FY
        have HSY := Lib.hid SY
        have tg := World.at_lt fg
        have tb := World.at_lt fb
        clear hx hg FY SY fb0
        go_upto_region 11 with (fail)
        obtain ⟨Z, hZ⟩ : ∃ Z, Z = lay (zs 64) 0 X := ⟨_, rfl⟩
        have hZl : Z.length = 64 := by rw [hZ]; exact HXL.out
        have hZb : isBytes Z := by rw [hZ]; exact HBX.out
        refine named_world (A := fun U => U.blk g = some (.cells (ints .u8 Z) 5 (0, 0)) ∧ Fr [] wr U) (Q := fun X => Code.wp _ _ _ _ X) ⟨by
          rw [World.at_put_same _ _ _ tg, HV.out, ← HXE.out, HLAY.out, ← hZ], HFY.out.put g _ (fun hl => by omega)⟩ ?_
        rintro U ⟨fU, FU⟩
        have HBU := Lib.hid (hW.out.1.fr0 FU)
        have HZL := Lib.hid hZl
        have HZB := Lib.hid hZb
        have hwl := hW.out.2.2.2.2
        have HFU := Lib.hid fU
        have hbt : BytesAt U (.slice (some ⟨g, 0, none⟩) 64 64) g Z := bytesAt_sl (Sl.whole fU hZl) (by omega)
        have HBT := Lib.hid hbt
        clear fg fb tg tb hon hsz hZ hZl hZb fU hbt
        go_wp2_with fail
        refine (write_any HBU.out.D (i : Int) _ g Z HBT.out hgf (by rw [HZL.out]; decide) (by omega)).mono ?_
        rintro en w3 ⟨rfl, fp3, D3, F3, N3⟩
        have HB3 := Lib.hid (HBU.out.disk D3 F3 N3)
        have HBT3 := Lib.hid (show BytesAt w3 (.slice (some ⟨g, 0, none⟩) 64 64) g Z from bytesAt_sl (Sl.whole (F3.get HFU.out hgf) HZL.out) (by omega))
        clear D3 F3 N3
        go_wp2_with fail
        refine (rwrite_any HB3.out.R (i : Int) _ g Z HBT3.out hgr (by rw [HZL.out]; decide) (by omega)).mono ?_
        rintro en w4 ⟨rfl, rfp4, R4, F4, N4⟩
        have HB4 := Lib.hid (HB3.out.ref R4 F4 N4)
        clear R4 F4 N4
        go_wp2_with fail
        go_roundw
        case rel => exact ⟨i + 1, _, fp3, rfp4, by omega, by first | rfl | simp, Lib.hid ⟨HB4.out, hW.out.2.1.write _ _, hW.out.2.2.1.write HZB.out, (writeM_n _ _ _).trans hW.out.2.2.2.1, by have := writeM_wl m (i : Int) Z; omega⟩⟩
        case measure => simp [intOf]; omega
      · have hd2 : decide (64 * (i : Int) < (n : Int)) = false := by rw [decide_eq_false_iff_not]; omega
        have kk : ¬ 64 * (i : Int) < (n : Int) := by omega
        have ki : (i : Int) < (n0 : Int) := by omega
        go_wp2_with fail
        refine H13.out _ _ ?_
        exact Eq.mp (congrArg (fun c => Code.wp Try.prog c _ _ _) (show o13 = _ from by kernel_rfl)) (o13_f dead rfl rfl rfl rfl rfl hW.out.1 hW.out.2.1 hW.out.2.2.1 (by rw [HMN.out]; exact hn40) (by have := hW.out.2.2.2.2; omega) HOE.out)
    · have hd : decide ((i : Int) < (n0 : Int)) = false := by rw [decide_eq_false_iff_not]; omega
      have ki : ¬ (i : Int) < (n0 : Int) := by omega
      go_wp2_with fail
      refine H13.out _ _ ?_
      exact Eq.mp (congrArg (fun c => Code.wp Try.prog c _ _ _) (show o13 = _ from by kernel_rfl)) (o13_f dead rfl rfl rfl rfl rfl hW.out.1 hW.out.2.1 hW.out.2.2.1 (by rw [HMN.out]; exact hn40) (by have := hW.out.2.2.2.2; omega) HOE.out)
end
end Go.Proofs.Ytombhkekocbfoaa
namespace Go.Proofs.Ytombhkekocbfoaa
open Go.ChangeShapes Go.WideShapes Go.ChangeAt Go.RowKit Go.Dr Go.Kd Go.St
theorem own : ownKnob Try.prog.godebug = none := by kernel_rfl
theorem laidOut : laidOutB Try.prog = true := by kernel_rfl
theorem Fr.below {W W' : World} (h : Fr [] W W') : Below W.heap.size W W' :=
  ⟨h.os, h.tape, h.output, h.size, fun k hk => h.at_ k hk (by simp)⟩
theorem cells5 : Try.prog.cellsOf 5 = 1 := by kernel_rfl
theorem bytes5 : Try.prog.bytesOf 5 = 1 := by kernel_rfl
theorem wf_u8 {n : Int} (h : (Lit.int .u8 n).wf = true) : 0 ≤ n ∧ n ≤ 255 := by
  simp [Lit.wf, IntKind.min, IntKind.max, IntKind.signed, IntKind.bits] at h; omega
theorem slice_cell {P : Program} {w : World} {r : Reach} {base u e : Nat} {v : Value} (h : Cell.okWide P w r base u v) (hu : P.underlying u = some (.slice e)) : ∃ p n c, v = .slice p n c := by
  unfold Cell.okWide at h
  rw [hu] at h
  cases v <;> simp only [Cell.ok, hu] at h <;> first | exact h.elim | exact ⟨_, _, _, rfl⟩ | skip
/-- Every text is some bytes. -/
theorem str_all (s : ByteArray) : ∃ n : List Int, (∀ x ∈ n, 0 ≤ x ∧ x < 256) ∧ s = strB n := by
  refine ⟨s.data.toList.map fun b => (b.toNat : Int), fun x hx => ?_, ?_⟩
  · obtain ⟨b, -, rfl⟩ := List.mem_map.1 hx
    have := b.toNat_lt
    omega
  · obtain ⟨d⟩ := s
    unfold strB
    congr 1
    apply Array.ext'
    simp only [List.map_map]
    refine (List.map_id _).symm.trans (List.map_congr_left fun b _ => ?_)
    simp [Function.comp]
section
variable {H : Type} {enc : TypeId × Value → H} {w : World} {base : Nat} {spare : Nat → Bool} {held : Bool}
/-- Cells that are there, one behind the other. -/
theorem cellsN {a : Addr} {cs : List Value} {n : Nat} (h : w.cells? base a n = some cs) : cs.length = n ∧ ∀ i v, cs[i]? = some v → w.cell? (a.add i) = some v := by
  unfold World.cells? at h
  split at h
  · have hl := mapM_some_length h
    refine ⟨by simpa using hl, fun i v hv => ?_⟩
    have hi : i < n := by
      have := (List.getElem?_eq_some_iff.1 hv).1
      simp only [List.length_range] at hl; omega
    have := mapM_some_get h i i (by simp [hi])
    rw [this]; exact hv
  · cases h

set_option maxRecDepth 100000 in
theorem spot_of22 {r : Reach} {b0 : Nat} {v : Value} (h : Cell.okWide Try.prog w r b0 22 v) : ∀ a n c, v = .slice (some a) n c → a.spot = none := fun a n c e => by
  subst e
  unfold Cell.okWide at h
  rw [Try.underlying22] at h
  simp only [Cell.ok, Try.underlying22] at h
  exact h.2.2.2.1
set_option maxRecDepth 100000 in
theorem open22 {r : Reach} {b0 : Nat} {v : Value} {d : DataW H} {ps : List MemPlace} (hval : Value.okWide Try.prog w r b0 22 v) (hd : DataW.Trod enc Try.prog w base spare held 22 v d ps) :
    ∃ p n c l, v = .slice p n c ∧ Sl .u8 w p n c l ∧ isBytes l ∧ (n = 0 ∨ ∃ es sp, d = .slice es sp ∧ es.length = n) := by
  unfold Value.okWide at hval
  rw [Try.underlying22] at hval
  obtain ⟨p, N0, c, rfl⟩ := slice_cell hval Try.underlying22
  obtain ⟨fuel, hf⟩ := hd
  have hsp := spot_of22 hval
  rcases Go.Deep.open_slice Try.underlying22 hf with ⟨hcs, _⟩ | ⟨a, len, cap, m, n, D, Pl, hcs, _, hlc, hcm, hmm, hx0, hel⟩
  · replace hcs : [Value.slice p N0 c] = [.slice none 0 0] := hcs
    simp only [List.cons.injEq, and_true] at hcs
    exact ⟨none, 0, 0, [], hcs, ⟨rfl, Nat.le_refl 0, .inl rfl, fun _ => rfl, by simp⟩, by simp [isBytes], .inl rfl⟩
  · replace hcs : [Value.slice p N0 c] = [.slice (some a) len cap] := hcs
    simp only [List.cons.injEq, and_true] at hcs
    have hle : len ≤ m := by rw [hmm]; split <;> omega
    have hspot : a.spot = none := hsp _ _ _ hcs
    obtain ⟨b, off, spot⟩ := a
    replace hspot : spot = none := hspot
    subst hspot
    have key : ∀ i, i < len → ∃ x : Int, (0 ≤ x ∧ x < 256) ∧ w.cell? ⟨b, off + i, none⟩ = some (.int .u8 x) := fun i hi => by
      obtain ⟨cs, hc, ht⟩ := hel i (by omega)
      rw [cells5] at hc
      obtain ⟨hl4, hcell⟩ := cellsN hc
      obtain ⟨y, hy, _, q⟩ := DataW.trod_int Try.underlying5 ht
      subst hy
      have := wf_u8 q
      refine ⟨y, ⟨this.1, by omega⟩, ?_⟩
      have h := hcell 0 _ rfl
      rw [Go.Deep.add_add, Addr.add_mid] at h
      simpa using h
    obtain ⟨f, hf'⟩ := Classical.axiomOfChoice (r := fun (i : Nat) (x : Int) => i < len → (0 ≤ x ∧ x < 256) ∧ w.cell? ⟨b, off + i, none⟩ = some (.int .u8 x)) (fun i => by
      by_cases hi : i < len
      · obtain ⟨x, h⟩ := key i hi; exact ⟨x, fun _ => h⟩
      · exact ⟨0, fun h => absurd h hi⟩)
    refine ⟨some ⟨b, off, none⟩, len, cap, (List.range len).map f, hcs, ⟨by simp, hlc, ?_, by simp, by simp⟩, fun x hx => ?_, .inr ⟨_, _, congrArg Prod.fst hx0, by simp⟩⟩
    · rcases Nat.eq_zero_or_pos len with h0 | h0
      · exact .inl h0
      · right
        have hb := (hf' 0 h0).2
        rw [World.cell?_at] at hb
        cases hbl : w.blk b with
        | none => rw [hbl] at hb; simp at hb
        | some o =>
          cases o with
          | cells cs T fr =>
            have hall : ∀ i, i < len → cs[off + i]? = some (.int .u8 (f i)) := fun i hi => by
              have h := (hf' i hi).2
              rw [World.cell?_at, hbl] at h
              exact h
            have hlast := (Array.getElem?_eq_some_iff.1 (hall (len - 1) (by omega))).1
            refine ⟨b, off, cs, T, fr, rfl, hbl, by omega, ?_⟩
            apply List.ext_getElem?
            intro k
            rcases Nat.lt_or_ge k len with hk | hk
            · rw [Array.getElem?_toList, Array.getElem?_extract_of_lt (by omega), ← Array.getElem?_eq_getElem, hall k hk]
              simp [hk]
            · rw [List.getElem?_eq_none (by rw [Array.length_toList, Array.size_extract]; omega), List.getElem?_eq_none (by simp; omega)]
          | _ => rw [hbl] at hb; simp at hb
    · obtain ⟨i, hi, rfl⟩ := List.mem_map.1 hx
      exact (hf' i (List.mem_range.1 hi)).1
end
theorem and_true' {a b : Bool} (h : a = true) (k : b = true) : (a && b) = true := by rw [h, k]; rfl
theorem mapsRowedFact : (mapsRowed Try.pinned.checked.prog) = true := by kernel_rfl
theorem mayEnterFact : (Try.pinned.checked.prog.mayEnter) = true := by kernel_rfl
theorem liftsFact : ((Rows.storeOwnRow.lifted == Try.pinned.checked.prog.liftsFinal)) = true := by kernel_rfl
theorem makeFact : ((Try.pinned.checked.prog.make == some Rows.storeOwnRow.make)) = true := by kernel_rfl
end Go.Proofs.Ytombhkekocbfoaa
namespace Go.Proofs.Ytombhkekocbfoaa
open Go.ChangeShapes Go.WideShapes Go.ChangeAt Go.RowKit Go.Dr Go.Kd Go.St
theorem cells32 : Try.prog.cellsOf 32 = 3 := by kernel_rfl
theorem cells62 : Try.prog.cellsOf 62 = 4 := by kernel_rfl
theorem cells9 : Try.prog.cellsOf 9 = 1 := by kernel_rfl
theorem cells22 : Try.prog.cellsOf 22 = 1 := by kernel_rfl
theorem cells33 : Try.prog.cellsOf 33 = 1 := by kernel_rfl
theorem cells4 : Try.prog.cellsOf 4 = 1 := by kernel_rfl
theorem cells3 : Try.prog.cellsOf 3 = 1 := by kernel_rfl
theorem wf_i64' {n : Int} (h : (Lit.int .i64 n).wf = true) : -9223372036854775808 ≤ n ∧ n ≤ 9223372036854775807 := by
  simp [Lit.wf, IntKind.min, IntKind.max, IntKind.signed, IntKind.bits] at h; omega
/-- Rows of structs whose cells are read one by one. -/
theorem sv_of {α : Type} {sz : Nat} (hz : 0 < sz) {w : World} {a : Addr} {len cap : Nat} {C : α → List Value} {O : α → Prop} (d : α) (hlc : len ≤ cap) (hC : ∀ x, O x → (C x).length = sz)
    (key : ∀ i, i < len → ∃ x, O x ∧ ∀ j v, (C x)[j]? = some v → w.cell? (a.add (i * sz + j)) = some v) :
    ∃ l : List α, l.length = len ∧ (∀ x ∈ l, O x) ∧ Sv sz w (some a) len cap (l.flatMap C) := by
  obtain ⟨f, hf'⟩ := Classical.axiomOfChoice (r := fun (i : Nat) (b : α) => i < len → O b ∧ ∀ j v, (C b)[j]? = some v → w.cell? (a.add (i * sz + j)) = some v)
    (fun i => by
      by_cases hi : i < len
      · obtain ⟨o, h⟩ := key i hi; exact ⟨o, fun _ => h⟩
      · exact ⟨d, fun h => absurd h hi⟩)
  have okl : ∀ x ∈ (List.range len).map f, O x := fun x hx => by
    obtain ⟨i, hi, rfl⟩ := List.mem_map.1 hx
    exact (hf' i (List.mem_range.1 hi)).1
  have hlen : ((List.range len).map f).length = len := by simp
  refine ⟨(List.range len).map f, hlen, okl, ?_⟩
  rcases Nat.eq_zero_or_pos len with h0 | h0
  · subst h0
    exact ⟨by simp, hlc, .inl rfl, (fun h => by cases h), trivial⟩
  have szc : ∀ i, i < len → (C (f i)).length = sz := fun i hi => hC _ (hf' i hi).1
  have cell : ∀ i, i < len → ∀ j, j < sz → w.cell? (a.add (i * sz + j)) = (C (f i))[j]? := fun i hi j hj => by
    have h1 : (C (f i))[j]? = some ((C (f i))[j]'(by rw [szc i hi]; exact hj)) := List.getElem?_eq_getElem _
    rw [(hf' i hi).2 j _ h1, ← h1]
  have hfirst := cell 0 h0 0 hz
  rw [List.getElem?_eq_getElem (by rw [szc 0 h0]; exact hz)] at hfirst
  rw [show 0 * sz + 0 = 0 by omega] at hfirst
  obtain ⟨b, off, spot⟩ := a
  have hspot : spot = none := by
    unfold World.cell? at hfirst
    rw [Addr.add_zero'] at hfirst
    split at hfirst
    · cases spot with
      | none => rfl
      | some s => simp at hfirst
    · cases hfirst
  subst hspot
  have hlast := cell (len - 1) (by omega) (sz - 1) (by omega)
  rw [List.getElem?_eq_getElem (by rw [szc (len - 1) (by omega)]; omega), Addr.add_mid, World.cell?_at] at hlast
  cases hb : w.blk b with
  | none => rw [hb] at hlast; cases hlast
  | some ob =>
    rw [hb] at hlast
    cases ob with
    | cells cs T fr =>
      have hsz : off + ((len - 1) * sz + (sz - 1)) < cs.size := (Array.getElem?_eq_some_iff.1 hlast).1
      have hmul : len * sz = (len - 1) * sz + sz := by rw [← Nat.succ_mul]; congr 1; omega
      have flat : ∀ l : List α, (∀ x ∈ l, O x) → (l.flatMap C).length = l.length * sz := by
        intro l
        induction l with
        | nil => intro _; simp
        | cons x l ih =>
          intro hx
          rw [List.flatMap_cons, List.length_append, hC x (hx x (by simp)), ih (fun y hy => hx y (by simp [hy])), List.length_cons, Nat.add_mul]
          omega
      have hfl : (((List.range len).map f).flatMap C).length = len * sz := by rw [flat _ okl, hlen]
      refine ⟨hfl, hlc, .inr ⟨b, off, cs, T, fr, rfl, hb, by omega, ?_⟩, (fun h => by cases h), trivial⟩
      apply List.ext_getElem?
      intro k
      rcases Nat.lt_or_ge k (len * sz) with hk | hk
      · have hi : k / sz < len := Nat.div_lt_of_lt_mul (by rw [Nat.mul_comm]; exact hk)
        have hj : k % sz < sz := Nat.mod_lt _ hz
        have hkk : k / sz * sz + k % sz = k := by rw [Nat.mul_comm]; exact Nat.div_add_mod k sz
        have h2 := cell (k / sz) hi (k % sz) hj
        rw [Addr.add_mid, World.cell?_at, hb] at h2
        have h3 : cs[off + (k / sz * sz + k % sz)]? = (C (f (k / sz)))[k % sz]? := h2
        rw [hkk] at h3
        rw [Array.getElem?_toList, Array.getElem?_extract_of_lt (by omega), ← Array.getElem?_eq_getElem, h3]
        have part : ∀ (l : List α) (i : Nat) (x : α), (∀ y ∈ l, O y) → l[i]? = some x → ((l.flatMap C).drop (i * sz)).take sz = C x := by
          intro l
          induction l with
          | nil => intro i x _ h; simp at h
          | cons y l ih =>
            intro i x ho h
            have hy := hC y (ho y (by simp))
            cases i with
            | zero =>
              simp only [List.getElem?_cons_zero, Option.some.injEq] at h
              subst h
              rw [Nat.zero_mul, List.drop_zero, List.flatMap_cons, ← hy, List.take_left]
            | succ i =>
              rw [List.getElem?_cons_succ] at h
              rw [List.flatMap_cons, show (i + 1) * sz = (C y).length + i * sz by rw [hy, Nat.add_mul]; omega, List.drop_append, List.drop_of_length_le (by omega), Nat.add_sub_cancel_left, List.nil_append]
              exact ih i x (fun z hz => ho z (by simp [hz])) h
        have h4 := part ((List.range len).map f) (k / sz) (f (k / sz)) okl (by simp [hi])
        have h5 : (((List.range len).map f).flatMap C)[k]? = (((((List.range len).map f).flatMap C).drop (k / sz * sz)).take sz)[k % sz]? := by
          rw [List.getElem?_take, if_pos hj, List.getElem?_drop, hkk]
        rw [h5, h4]
      · rw [List.getElem?_eq_none (by rw [Array.length_toList, Array.size_extract]; omega), List.getElem?_eq_none (by omega)]
    | _ => cases hlast
/-- A change as it lies. -/
structure ChI (w : World) where
  c : Chg
  q : Option Addr
  m : Nat
  d : Nat
  s : Sl .u8 w q m d c.val
  nb : Byt c.name
  vb : Byt c.val
def chI {w : World} (x : ChI w) : List Value := [.string (strB x.c.name), .slice x.q x.m x.d, .bool x.c.gone]
theorem chV_of {w : World} : ∀ l : List (ChI w), ChV w (l.flatMap chI) (l.map (·.c))
  | [] => .nil
  | x :: l => .cons x.s (chV_of l)
/-- A step as it lies: its changes. -/
structure StI (w : World) where
  l : List Chg
  q : Option Addr
  m : Nat
  d : Nat
  fuse : Int
  crash : Bool
  keep : Int
  c : Chs w q m d l
  b : ∀ c ∈ l, Byt c.name ∧ Byt c.val
  f1 : -9223372036854775808 ≤ fuse ∧ fuse ≤ 9223372036854775807
  k1 : -9223372036854775808 ≤ keep ∧ keep ≤ 9223372036854775807
  len : m ≤ 9223372036854775807
def stI {w : World} (x : StI w) : List Value := [.slice x.q x.m x.d, .int .i64 x.fuse, .bool x.crash, .int .i64 x.keep]
section
variable {H : Type} {enc : TypeId × Value → H} {w : World} {base : Nat} {spare : Nat → Bool} {held : Bool}
set_option maxRecDepth 100000 in
/-- Bytes that lie in a struct. -/
theorem bytes_of_trod {fuel : Nat} {cs : List Value} {x : DataW H × List MemPlace} (hf : DataW.trod enc Try.prog w base spare held fuel 22 cs = some x) :
    ∃ p n c l, cs = [.slice p n c] ∧ Sl .u8 w p n c l ∧ isBytes l := by
  rcases Go.Deep.open_slice Try.underlying22 hf with ⟨hcs, _⟩ | ⟨a, len, cap, m, n, D, Pl, hcs, _, hlc, hcm, hmm, _, hel⟩
  · exact ⟨none, 0, 0, [], hcs, ⟨rfl, Nat.le_refl 0, .inl rfl, fun _ => rfl, trivial⟩, by simp [isBytes]⟩
  · have hle : len ≤ m := by rw [hmm]; split <;> omega
    obtain ⟨l, h1, h2, h3⟩ := sv_of (sz := 1) (by omega) (C := fun x : Int => [Value.int .u8 x]) (O := fun x => 0 ≤ x ∧ x < 256) 0 hlc (fun x hx => rfl) (w := w) (a := a) fun i hi => by
      obtain ⟨cs, hc, ht⟩ := hel i (by omega)
      rw [cells5] at hc
      obtain ⟨hl4, hcell⟩ := cellsN hc
      obtain ⟨y, hy, _, q⟩ := DataW.trod_int Try.underlying5 ht
      subst hy
      have := wf_u8 q
      refine ⟨y, ⟨this.1, by omega⟩, fun j v hv => ?_⟩
      have := hcell j v hv
      rwa [Go.Deep.add_add] at this
    refine ⟨some a, len, cap, l, hcs, ⟨h1, hlc, ?_, (fun h => by cases h), trivial⟩, h2⟩
    rcases h3.row with h0 | ⟨b, off, cs, T, fr, e, hb, hs, hx⟩
    · exact .inl h0
    · refine .inr ⟨b, off, cs, T, fr, e, hb, by omega, ?_⟩
      rw [Nat.mul_one] at hx
      rw [hx]
      clear hx h1 h2 h3
      induction l with
      | nil => rfl
      | cons x l ih => simp [ih]
theorem drop_split (cs : List Value) (a b : Nat) : cs.drop a = (cs.drop a).take b ++ cs.drop (a + b) := by
  rw [← List.drop_drop, List.take_append_drop]
set_option maxRecDepth 100000 in
theorem change_of_trod {fuel : Nat} {cs : List Value} {x : DataW H × List MemPlace} (h : DataW.trod enc Try.prog w base spare held fuel 32 cs = some x) :
    ∃ y : ChI w, cs = chI y := by
  obtain ⟨xs, m, rfl, _, hl, hxl, hf⟩ := DataW.trod_struct Try.underlying32 h
  rw [cells32] at hl
  have hs : xs.length = 3 := hxl
  have h0 : DataW.trod enc Try.prog w base spare held m 9 ((cs.drop 0).take (Try.prog.cellsOf 9)) = xs[0]? := hf 0 _ rfl
  have h1 : DataW.trod enc Try.prog w base spare held m 22 ((cs.drop 1).take (Try.prog.cellsOf 22)) = xs[1]? := hf 1 _ rfl
  have h2 : DataW.trod enc Try.prog w base spare held m 4 ((cs.drop 2).take (Try.prog.cellsOf 4)) = xs[2]? := hf 2 _ rfl
  rw [cells9] at h0
  rw [cells22] at h1
  rw [cells4] at h2
  rw [List.getElem?_eq_getElem (by omega)] at h0 h1 h2
  obtain ⟨s0, p0, _, _⟩ := DataW.trod_string Try.underlying9 h0
  obtain ⟨p, n, c, l, p1, S1, b1⟩ := bytes_of_trod h1
  obtain ⟨g, p2, _⟩ := DataW.trod_bool Try.underlying4 h2
  obtain ⟨nm, hnm, hs0⟩ := str_all s0
  refine ⟨⟨⟨nm, g, l⟩, p, n, c, S1, hnm, b1⟩, ?_⟩
  have e : cs = cs.drop 0 := rfl
  rw [e, drop_split cs 0 1, drop_split cs (0 + 1) 1, drop_split cs (0 + 1 + 1) 1]
  rw [show 0 + 1 = 1 from rfl, show 1 + 1 = 2 from rfl, show 2 + 1 = 3 from rfl, p0, p1, p2, List.drop_of_length_le (by omega), hs0]
  rfl
set_option maxRecDepth 100000 in
theorem changes_of_trod {fuel : Nat} {cs : List Value} {x : DataW H × List MemPlace} (hf : DataW.trod enc Try.prog w base spare held fuel 33 cs = some x) :
    ∃ p n c l, cs = [.slice p n c] ∧ Chs w p n c l ∧ (∀ x ∈ l, Byt x.name ∧ Byt x.val) ∧ n ≤ 9223372036854775807 := by
  rcases Go.Deep.open_slice Try.underlying33 hf with ⟨hcs, _⟩ | ⟨a, len, cap, m, n, D, Pl, hcs, _, hlc, hcm, hmm, _, hel⟩
  · exact ⟨none, 0, 0, [], hcs, ⟨[], ⟨rfl, Nat.le_refl 0, .inl rfl, fun _ => rfl, trivial⟩, .nil⟩, by simp, by omega⟩
  · have hle : len ≤ m := by rw [hmm]; split <;> omega
    have key : ∀ i, i < len → ∃ x : ChI w, True ∧ ∀ j v, (chI x)[j]? = some v → w.cell? (a.add (i * 3 + j)) = some v := fun i hi => by
      obtain ⟨cs, hc, ht⟩ := hel i (by omega)
      rw [cells32] at hc
      obtain ⟨hl4, hcell⟩ := cellsN hc
      obtain ⟨y, rfl⟩ := change_of_trod ht
      refine ⟨y, trivial, fun j v hv => ?_⟩
      have := hcell j v hv
      rwa [Go.Deep.add_add] at this
    obtain ⟨l, h1, -, h3⟩ := sv_of (sz := 3) (by omega) (C := chI) (O := fun _ => True) ⟨⟨[], false, []⟩, none, 0, 0, ⟨rfl, Nat.le_refl 0, .inl rfl, fun _ => rfl, trivial⟩, by simp [Byt], by simp [Byt]⟩ hlc (fun x _ => rfl) key
    refine ⟨some a, len, cap, l.map (·.c), hcs, ⟨_, h3, chV_of l⟩, fun x hx => ?_, by unfold maxLen at hcm; omega⟩
    obtain ⟨y, _, rfl⟩ := List.mem_map.1 hx
    exact ⟨y.nb, y.vb⟩
set_option maxRecDepth 100000 in
theorem step_of_trod {fuel : Nat} {cs : List Value} {x : DataW H × List MemPlace} (h : DataW.trod enc Try.prog w base spare held fuel 62 cs = some x) :
    ∃ y : StI w, cs = stI y := by
  obtain ⟨xs, m, rfl, _, hl, hxl, hf⟩ := DataW.trod_struct Try.underlying62 h
  rw [cells62] at hl
  have hs : xs.length = 4 := hxl
  have h0 : DataW.trod enc Try.prog w base spare held m 33 ((cs.drop 0).take (Try.prog.cellsOf 33)) = xs[0]? := hf 0 _ rfl
  have h1 : DataW.trod enc Try.prog w base spare held m 3 ((cs.drop 1).take (Try.prog.cellsOf 3)) = xs[1]? := hf 1 _ rfl
  have h2 : DataW.trod enc Try.prog w base spare held m 4 ((cs.drop 2).take (Try.prog.cellsOf 4)) = xs[2]? := hf 2 _ rfl
  have h3 : DataW.trod enc Try.prog w base spare held m 3 ((cs.drop 3).take (Try.prog.cellsOf 3)) = xs[3]? := hf 3 _ rfl
  rw [cells33] at h0
  rw [cells3] at h1 h3
  rw [cells4] at h2
  rw [List.getElem?_eq_getElem (by omega)] at h0 h1 h2 h3
  obtain ⟨p, n, c, l, p0, C0, b0, n0⟩ := changes_of_trod h0
  obtain ⟨n1, p1, _, q1⟩ := DataW.trod_int Try.underlying3 h1
  obtain ⟨g, p2, _⟩ := DataW.trod_bool Try.underlying4 h2
  obtain ⟨n3, p3, _, q3⟩ := DataW.trod_int Try.underlying3 h3
  refine ⟨⟨l, p, n, c, n1, g, n3, C0, b0, wf_i64' q1, wf_i64' q3, n0⟩, ?_⟩
  have e : cs = cs.drop 0 := rfl
  rw [e, drop_split cs 0 1, drop_split cs (0 + 1) 1, drop_split cs (0 + 1 + 1) 1, drop_split cs (0 + 1 + 1 + 1) 1]
  rw [show 0 + 1 = 1 from rfl, show 1 + 1 = 2 from rfl, show 2 + 1 = 3 from rfl, show 3 + 1 = 4 from rfl, p0, p1, p2, p3, List.drop_of_length_le (by omega)]
  rfl
set_option maxRecDepth 100000 in
theorem open33 {r : Reach} {b0 : Nat} {v : Value} {d : DataW H} {ps : List MemPlace} (hval : Value.okWide Try.prog w r b0 33 v) (hd : DataW.Trod enc Try.prog w base spare held 33 v d ps) :
    ∃ p n c l, v = .slice p n c ∧ Chs w p n c l ∧ (∀ x ∈ l, Byt x.name ∧ Byt x.val) ∧ n ≤ 9223372036854775807 := by
  unfold Value.okWide at hval
  rw [Try.underlying33] at hval
  obtain ⟨p, N0, c, rfl⟩ := slice_cell hval Try.underlying33
  obtain ⟨fuel, hf⟩ := hd
  obtain ⟨p', n', c', l, h1, h2, h3, h4⟩ := changes_of_trod hf
  replace h1 : [Value.slice p N0 c] = [.slice p' n' c'] := h1
  simp only [List.cons.injEq, and_true] at h1
  exact ⟨p', n', c', l, h1, h2, h3, h4⟩
/-- Steps, as they lie. -/
def Stps (w : World) (p : Option Addr) (n cap : Nat) (l : List (StI w)) : Prop := Sv 4 w p n cap (l.flatMap stI) ∧ l.length = n
set_option maxRecDepth 100000 in
theorem openSteps {r : Reach} {b0 : Nat} {v : Value} {d : DataW H} {ps : List MemPlace} (hval : Value.okWide Try.prog w r b0 59 v) (hd : DataW.Trod enc Try.prog w base spare held 59 v d ps) :
    ∃ p n c, ∃ l : List (StI w), v = .slice p n c ∧ Stps w p n c l ∧ n ≤ 9223372036854775807 := by
  unfold Value.okWide at hval
  rw [Try.underlying59] at hval
  obtain ⟨p, N0, c, rfl⟩ := slice_cell hval Try.underlying59
  obtain ⟨fuel, hf⟩ := hd
  rcases Go.Deep.open_slice Try.underlying59 hf with ⟨hcs, _⟩ | ⟨a, len, cap, m, n, D, Pl, hcs, _, hlc, hcm, hmm, _, hel⟩
  · replace hcs : [Value.slice p N0 c] = [.slice none 0 0] := hcs
    simp only [List.cons.injEq, and_true] at hcs
    exact ⟨none, 0, 0, [], hcs, ⟨⟨rfl, Nat.le_refl 0, .inl rfl, fun _ => rfl, trivial⟩, rfl⟩, by omega⟩
  · replace hcs : [Value.slice p N0 c] = [.slice (some a) len cap] := hcs
    simp only [List.cons.injEq, and_true] at hcs
    have hle : len ≤ m := by rw [hmm]; split <;> omega
    have key : ∀ i, i < len → ∃ x : StI w, True ∧ ∀ j v, (stI x)[j]? = some v → w.cell? (a.add (i * 4 + j)) = some v := fun i hi => by
      obtain ⟨cs, hc, ht⟩ := hel i (by omega)
      rw [cells62] at hc
      obtain ⟨hl4, hcell⟩ := cellsN hc
      obtain ⟨y, rfl⟩ := step_of_trod ht
      refine ⟨y, trivial, fun j v hv => ?_⟩
      have := hcell j v hv
      rwa [Go.Deep.add_add] at this
    obtain ⟨l, h1, -, h3⟩ := sv_of (sz := 4) (by omega) (C := stI) (O := fun _ => True) ⟨[], none, 0, 0, 0, false, 0, ⟨[], ⟨rfl, Nat.le_refl 0, .inl rfl, fun _ => rfl, trivial⟩, .nil⟩, by simp, by omega, by omega, by omega⟩ hlc (fun x _ => rfl) key
    exact ⟨some a, len, cap, l, hcs, ⟨h3, h1⟩, by unfold maxLen at hcm; omega⟩
end
end Go.Proofs.Ytombhkekocbfoaa
