/- Joined: StM, SoR, DcA, SoS. -/
import Derived.Test.YtombhkekocbfoaaZh
import Derived.Test.YtombhkekocbfoaaZo
import Derived.Test.YtombhkekocbfoaaZf
set_option linter.unusedVariables false
set_option linter.unusedSimpArgs false
namespace Go.St
open Go.Kd Go.Dr
def BytM (m : DM) : Prop := Byt m.kept ∧ Byt m.seen ∧ ∀ x ∈ m.waits, Byt x.2
theorem byt_zs (n : Nat) : Byt (zs n) := fun x hx => by
  have h : x = 0 := List.eq_of_mem_replicate (by simpa [zs] using hx)
  subst h
  decide
theorem byt_lay {c b : Bs} (hc : Byt c) (hb : Byt b) (o : Nat) : Byt (lay c o b) := by
  unfold lay
  exact ((hc.take _).append hb).append (hc.drop _)
theorem byt_layW : ∀ {ws : List (Nat × Bs)} {c : Bs}, Byt c → (∀ x ∈ ws, Byt x.2) → Byt (layW c ws) := by
  intro ws
  induction ws with
  | nil => intro c h _; exact h
  | cons x ws ih =>
    intro c h hx
    exact ih (byt_lay h (hx x (by simp)) _) fun y hy => hx y (by simp [hy])
theorem BytM.new (b : Int) : BytM (newM b) := ⟨byt_zs _, byt_zs _, fun x hx => by cases hx⟩
theorem BytM.alive {m : DM} (h : BytM m) : BytM (aliveM m) := by
  obtain ⟨h1, h2, h3⟩ := h
  obtain ⟨-, e1, e2, e3⟩ := aliveM_same m
  exact ⟨by rw [e1]; exact h1, by rw [e2]; exact h2, by rw [e3]; exact h3⟩
theorem BytM.write {m : DM} (h : BytM m) {a : Int} {b : Bs} (hb : Byt b) : BytM (writeM m a b).2 := by
  unfold writeM
  split
  · exact h
  · split
    · refine ⟨h.alive.1, byt_lay h.2.1 hb _, fun x hx => ?_⟩
      rcases List.mem_append.1 hx with hx | hx
      · exact h.2.2 x hx
      · rw [List.mem_singleton] at hx
        subst hx
        exact hb
    · exact h.alive
theorem BytM.wr : ∀ {bs : List Bs} {m : DM} {p : Nat}, BytM m → (∀ b ∈ bs, Byt b) → BytM (wrM m p bs).2 := by
  intro bs
  induction bs with
  | nil => intro m p h _; exact h
  | cons b bs ih =>
    intro m p h hb
    rw [wrM]
    split
    · exact ih (h.write (hb b (by simp))) fun x hx => hb x (by simp [hx])
    · exact h.write (hb b (by simp))
theorem BytM.sync {m : DM} (h : BytM m) : BytM (syncM m).2 := by
  unfold syncM
  split
  · exact ⟨byt_layW h.1 h.2.2, h.alive.2.1, fun x hx => by cases hx⟩
  · exact h.alive
theorem BytM.put {m : DM} (h : BytM m) {p : Nat} {b : Bs} (hb : Byt b) : BytM (putM m p b).2 := by
  have hc : ∀ x ∈ chunks b, Byt x := fun x hx => by
    obtain ⟨i, -, rfl⟩ := List.mem_map.1 hx
    exact (hb.drop _).take _
  unfold putM
  split
  · exact (h.wr hc).sync
  · exact h.wr hc
theorem BytM.crash {m : DM} (h : BytM m) (k : Int) : BytM (crashM m k) := by
  have : Byt (layW m.kept (m.waits.take k.toNat)) := byt_layW h.1 fun x hx => h.2.2 x (List.mem_of_mem_take hx)
  exact ⟨this, this, fun x hx => by cases hx⟩
theorem BytM.fuse {m : DM} (h : BytM m) (n : Int) : BytM (fuseM m n) := h
theorem byt_zeros (n : Nat) : Byt (zeros n) := fun x hx => by
  have h : x = 0 := List.eq_of_mem_replicate (by simpa [zeros] using hx)
  subst h
  decide
theorem byt_headB (e c n : Nat) : Byt (headB e c n) := by
  have h0 : Byt headW := by intro x hx; simp only [headW, List.mem_cons, List.not_mem_nil, or_false] at hx; omega
  exact (((((h0.append (byt_putB _ _)).append (byt_putB _ _)).append (byt_putB _ _))).append (byt_putB _ _)).append (byt_zeros _)
theorem byt_recB {e k : Nat} {p : Bs} (hp : Byt p) : Byt (recB e k p) := (((byt_putB _ _).append (byt_putB _ _)).append hp).append (byt_zeros _)
theorem byt_joinB {ps : List Bs} (h1 : ps.length ≤ 255) (h : ∀ p ∈ ps, Byt p ∧ p.length ≤ 65535) : Byt (joinB ps) := by
  intro x hx
  rw [joinB] at hx
  rcases List.mem_cons.1 hx with rfl | hx
  · omega
  · obtain ⟨p, hp, hx⟩ := List.mem_flatMap.1 hx
    obtain ⟨h2, h3⟩ := h p hp
    rcases List.mem_cons.1 hx with rfl | hx
    · omega
    · rcases List.mem_cons.1 hx with rfl | hx
      · omega
      · exact h2 x hx
theorem chgP_byt {c : Chg} (h : ChgB c) : ∀ p ∈ chgP c, Byt p ∧ p.length ≤ 4000 := by
  intro p hp
  have := h.ok.n2
  have := h.ok.v
  unfold chgP at hp
  split at hp
  · rw [List.mem_singleton] at hp
    subst hp
    exact ⟨h.nb, by omega⟩
  · rcases List.mem_cons.1 hp with rfl | hp
    · exact ⟨h.nb, by omega⟩
    · rw [List.mem_singleton] at hp
      subst hp
      exact ⟨h.vb, by omega⟩
theorem byt_payB' {l : List Chg} (h : ∀ c ∈ l, ChgB c) (hl : l.length ≤ 64) : Byt (payB l) := by
  refine byt_joinB (by rw [List.length_map]; omega) fun p hp => ?_
  obtain ⟨c, hc, rfl⟩ := List.mem_map.1 hp
  refine ⟨byt_joinB ?_ fun q hq => ⟨(chgP_byt (h c hc) q hq).1, by have := (chgP_byt (h c hc) q hq).2; omega⟩, by have := chgJ_length (h c hc).ok; omega⟩
  unfold chgP
  split <;> simp
theorem BytM.openM {m : DM} (h : BytM m) : BytM (openM m).2.2 := by
  have hr : ∀ half x, (readH m half x).2.2 = m := by
    intro half x
    unfold readH
    split <;> rfl
  unfold Go.St.openM
  split
  · exact h
  · split
    · exact h
    · split
      · split
        · exact h.put (byt_headB _ _ _)
        · exact h.put (byt_headB _ _ _)
      · split
        · exact h
        · split
          · rw [hr]; exact h
          · rw [hr]; exact h
      · rw [hr]; exact h
      · rw [hr]; exact h
      · exact h
theorem asC_chgB {L : List (Bs × Bs)} (h : ∀ x ∈ L, EntOk x) : ∀ c ∈ asC L, ChgB c := fun c hc => by
  obtain ⟨x, hx, rfl⟩ := List.mem_map.1 hc
  have := h x hx
  exact ⟨⟨this.n1, this.n2, this.v, fun h => by cases h⟩, this.nb, this.vb⟩
theorem BytM.commit {m : DM} (h : BytM m) {sp : SP} (K : SPB m.n sp) {l : List Chg} (hl : ∀ c ∈ l, Byt c.name ∧ Byt c.val) : BytM (commitM sp m l).2.2 := by
  have key : ∀ (half at_ e c : Nat) (L : List (Bs × Bs)) (b : Bs), Byt b → BytM (finM sp m L half at_ e c b).2.2 := by
    intro half at_ e c L b hb
    unfold finM
    split
    · split
      · exact (h.put hb).put (byt_headB _ _ _)
      · exact (h.put hb).put (byt_headB _ _ _)
    · exact h.put hb
  unfold commitM
  split
  · exact h
  · rename_i hbad
    have hc : ∀ c ∈ l, ChgB c := fun c hc => ⟨badC_none.1 hbad c hc, (hl c hc).1, (hl c hc).2⟩
    split
    · exact h
    · rename_i h64
      split
      · exact h
      · rename_i hn64
        split
        · exact h
        · split
          · exact h
          · split
            · split
              · exact h
              · split
                · exact h
                · exact key _ _ _ _ _ _ (byt_recB (byt_payB' (asC_chgB (ent_allC K.ent hc)) (by rw [asC, List.length_map]; omega)))
            · exact key _ _ _ _ _ _ (byt_recB (byt_payB' hc (by omega)))
/-- A store's own bounds hold behind a commit. -/
theorem commit_spb {m : DM} {sp : SP} (g : Good m sp) (hb : BytM m) (K : SPB m.n sp) {l : List Chg} (hl : ∀ c ∈ l, Byt c.name ∧ Byt c.val) (h0 : (commitM sp m l).1 = 0) : SPB (commitM sp m l).2.2.n (commitM sp m l).2.1 := by
  have g2 : Good (commitM sp m l).2.2 (commitM sp m l).2.1 := by
    rcases commit_good g l with ⟨-, h, -⟩ | ⟨h, -⟩ | ⟨h, -⟩
    · exact h
    · rw [h0] at h; cases h
    · exact absurd h0 h
  exact (open_ok (sp := (commitM sp m l).2.1) g2.ok (hb.commit K hl).2.1 (by rw [open_good g2])).1
theorem good_spb {m : DM} {sp : SP} (g : Good m sp) (hb : BytM m) : SPB m.n sp := (open_ok g.ok hb.2.1 (by rw [open_good g])).1
theorem commit_one {m : DM} (g : Good m sp0) (hf : m.fuse = -1) {n v : Bs} (hc : ChgOk ⟨n, false, v⟩) (hr : 1 + (recB 1 1 (payB [⟨n, false, v⟩])).length / 64 ≤ m.n / 2) :
    (commitM sp0 m [⟨n, false, v⟩]).1 = 0 ∧ (commitM sp0 m [⟨n, false, v⟩]).2.1.L = [(n, v)] := by
  have h150 := commit_nofuse g hf [⟨n, false, v⟩]
  have hg := commit_good g [⟨n, false, v⟩]
  have hb : badC [⟨n, false, v⟩] = none := badC_none.2 fun c hc' => by
    rw [List.mem_singleton] at hc'
    subst hc'
    exact hc
  have hL : allC sp0.L [⟨n, false, v⟩] = [(n, v)] := rfl
  have e : commitM sp0 m [⟨n, false, v⟩] = finM sp0 m [(n, v)] 0 1 1 1 (recB 1 1 (payB [⟨n, false, v⟩])) := by
    rw [commitM, hb]
    simp only [hL, List.length_singleton]
    rw [if_neg (by decide), if_neg (by decide), if_neg (by simp [sp0]), if_neg (by simp), if_neg (show ¬ (m.n / 2 < sp0.fin + (recB sp0.epoch (sp0.count + 1) (payB [⟨n, false, v⟩])).length / 64) by show ¬ (m.n / 2 < 1 + (recB 1 1 (payB [⟨n, false, v⟩])).length / 64); omega)]
    rfl
  have h3 : (commitM sp0 m [⟨n, false, v⟩]).1 = 0 ∨ (commitM sp0 m [⟨n, false, v⟩]).1 = 150 := by
    rw [e]
    unfold finM
    split
    · split
      · exact .inl rfl
      · exact .inr rfl
    · exact .inr rfl
  rcases hg with ⟨h1, -, h2⟩ | ⟨h1, -⟩ | ⟨h1, h2, -⟩
  · exact ⟨h1, h2⟩
  · exact absurd h1 h150.1
  · rcases h3 with h3 | h3
    · exact absurd h3 h1
    · exact absurd h3 h2
theorem pay_one (n v : Bs) : (payB [⟨n, false, v⟩]).length = n.length + v.length + 8 := by
  simp [payB, joinB, chgP]
  omega
end Go.St
namespace Go.Proofs.Ytombhkekocbfoaa
open Go.RowKit Go.Dr Go.Kd Go.St
theorem DiskAt.ok' {w : World} {d : Nat} {m : DM} {fp : List Nat} (D : DiskAt w d m fp) : m.Ok := by
  obtain ⟨_, _, _, _, _, _, ok⟩ := D
  exact ok
theorem StAv.fr0 {w w' : World} {s d : Nat} {sp : SP} {m : DM} {fp av : List Nat} (T : StAv w s d sp m fp av) (F : Fr [] w w') : StAv w' s d sp m fp av := by
  obtain ⟨mb, f0, hs, D, M⟩ := T.ex
  exact ⟨mb, F.get f0 (by simp), hs, D.fr0 F, M.fr0 F⟩
theorem StAt.fr0 {w w' : World} {s d : Nat} {sp : SP} {m : DM} {fp : List Nat} (T : StAt w s d sp m fp) (F : Fr [] w w') : StAt w' s d sp m fp := (T.av.fr0 F).st
theorem StAv.disk {w : World} {s d : Nat} {sp : SP} {m : DM} {fp av : List Nat} (T : StAv w s d sp m fp av) : DiskAt w d m fp := by
  obtain ⟨mb, f0, hs, D, M⟩ := T.ex
  exact D
theorem StAv.lt {w : World} {s d : Nat} {sp : SP} {m : DM} {fp av : List Nat} (T : StAv w s d sp m fp av) : s < w.heap.size := by
  obtain ⟨mb, f0, hs, D, M⟩ := T.ex
  exact World.at_lt f0
/-- One change in a slice. -/
theorem chs_one {W : World} {b : Nat} {fr : Nat × Nat} {q : Option Addr} {m c cap : Nat} {x : Chg} (hb : W.blk b = some (.cells #[.string (strB x.name), .slice q m c, .bool x.gone] 32 fr)) (S : Sl .u8 W q m c x.val) (hc : 1 ≤ cap) : Chs W (some ⟨b, 0, none⟩) 1 cap [x] :=
  ⟨[.string (strB x.name), .slice q m c, .bool x.gone], ⟨rfl, hc, .inr ⟨b, 0, _, 32, fr, rfl, hb, by simp, by simp⟩, (fun h => by cases h), trivial⟩, .cons S .nil⟩
theorem commitM_n (sp : SP) (m : DM) (l : List Chg) : (commitM sp m l).2.2.n = m.n := by
  have key : ∀ (L : List (Bs × Bs)) (half at_ e c : Nat) (b : Bs), (finM sp m L half at_ e c b).2.2.n = m.n := by
    intro L half at_ e c b
    unfold finM
    split
    · split
      · exact (putM_nn _ _ _).1.trans (putM_nn _ _ _).1
      · exact (putM_nn _ _ _).1.trans (putM_nn _ _ _).1
    · exact (putM_nn _ _ _).1
  unfold commitM
  split
  · rfl
  · split
    · rfl
    · split
      · rfl
      · split
        · rfl
        · split
          · rfl
          · split
            · split
              · rfl
              · split
                · rfl
                · exact key _ _ _ _ _ _
            · exact key _ _ _ _ _ _
theorem good_fresh (b : Int) (hb : 4 ≤ b) (ok : (newM b).Ok) : ∃ m1, openM (newM b) = (0, some sp0, m1) ∧ Go.St.Good m1 sp0 ∧ m1.fuse = -1 ∧ m1.n = (newM b).n ∧ BytM m1 := by
  obtain ⟨h1, h2, h3, h4, h5⟩ := open_fresh (m := newM b) ok (by show 4 ≤ (max 1 (min b 4096)).toNat; omega) rfl rfl rfl rfl rfl
  exact ⟨(openM (newM b)).2.2, Prod.ext h1 (Prod.ext h2 rfl), h3, h4, h5, (BytM.new b).openM⟩
section
variable {w : World}
set_option maxRecDepth 100000 in
set_option maxHeartbeats 4000000 in
theorem alive_f : Calls Try.prog 8 #[] w fun e w' => e = .returned (.bool true) ∧ Fr [] w w' := by
  go_enter Try.func8, Try.ntmps8
  go_wp2_with fail
  refine (new_m 8 w).mono ?_
  rintro en w1 ⟨d, fp, rfl, D1, F1, N1⟩
  obtain ⟨m1, hop, G1, hf1, hn1, hb1⟩ := good_fresh 8 (by decide) D1.ok'
  have hn1 : m1.n = 8 := hn1
  have HD1 := Lib.hid D1
  have HF1 := Lib.hid F1
  have HOP := Lib.hid hop
  have HN1 := Lib.hid N1
  clear D1 F1 N1 hop
  go_wp2_with fail
  refine (open_f HD1.out (by decide) (byt_zs _) (by decide)).mono ?_
  intro en w2 hO
  rw [HOP.out] at hO
  obtain ⟨-, s, fp1, rfl, T2, F2, N2, L2⟩ := hO
  have HFp : ∀ k ∈ fp1, w.heap.size ≤ k := fun k hk => by
    rcases N2 k hk with h | h
    · rcases HN1.out k h with h | h
      · cases h
      · exact h
    · exact Nat.le_trans HF1.out.size h
  have HF2 := Lib.hid (show Fr [] w w2 from HF1.out.seq F2 fun k hk hl => by
    rcases HN1.out k hk with h | h
    · exact h
    · omega)
  have HFP := Lib.hid HFp
  have HT2 := Lib.hid T2
  have HLs := Lib.hid (Nat.le_trans HF1.out.size L2)
  clear T2 F2 N2 L2 HFp
  go_wp2_with fail
  refine (epoch_f HT2.out).mono ?_
  rintro en w3 ⟨rfl, rfl⟩
  rw [show ((sp0.epoch : Nat) : Int) = 1 from rfl]
  have hconv := Lib.run_convert_bytes_const (P := Try.prog) w3 22 5 #[.int .u8 120] 1 1 Try.underlying22 Try.underlying5
  go_wp2_with fail
  have hone := commit_one (n := [97]) (v := [120]) G1 hf1 ⟨by decide, by decide, by decide, by simp⟩ (by rw [recB_length, pay_one, hn1]; decide)
  have hK1 := good_spb G1 hb1
  have hcl : ∀ c ∈ [(⟨[97], false, [120]⟩ : Chg)], Byt c.name ∧ Byt c.val := fun c hc => by
    rw [List.mem_singleton] at hc
    subst hc
    exact ⟨by unfold Byt; decide, by unfold Byt; decide⟩
  have hg2 : Go.St.Good (commitM sp0 m1 [⟨[97], false, [120]⟩]).2.2 (commitM sp0 m1 [⟨[97], false, [120]⟩]).2.1 := by
    rcases commit_good G1 [⟨[97], false, [120]⟩] with ⟨-, h, -⟩ | ⟨h, -⟩ | ⟨h, -⟩
    · exact h
    · rw [hone.1] at h; cases h
    · exact absurd hone.1 h
  have hb2 := hb1.commit hK1 hcl
  have hn2 := commitM_n sp0 m1 [⟨[97], false, [120]⟩]
  refine named_world (A := fun X => StAv X s d sp0 m1 fp1 [] ∧ Chs X (some ⟨w3.heap.size + 1, 0, none⟩) 1 1 [⟨[97], false, [120]⟩] ∧ Fr [] w3 X) (Q := fun X => Calls Try.prog 11 _ X _) ⟨(HT2.out.fr0 (((Fr.refl [] w3).alloc _).alloc _)).av, chs_one (q := some ⟨w3.heap.size, 0, none⟩) (m := 1) (c := 1) (World.at_alloc_new _ _ _ (by simp)) (Sl.of (b := w3.heap.size) (off := 0) (cs := #[.int .u8 120]) (T := 5) (fr := (1, 2)) ((World.at_alloc_lt _ _ _ (by simp)).trans (World.at_alloc_new _ _ _ rfl)) (by decide) rfl (by decide)) (by decide), ((Fr.refl [] w3).alloc _).alloc _⟩ ?_
  rintro X ⟨TX, CX, FX⟩
  have HFX := Lib.hid (HF2.out.trans FX)
  have hc5 := commit_f TX (by simp) hK1 (by rw [hn1]; decide) (by rw [G1.wt]; decide) CX hcl (by decide)
  obtain ⟨cm, hcm⟩ : ∃ cm, cm = commitM sp0 m1 [⟨[97], false, [120]⟩] := ⟨_, rfl⟩
  rw [← hcm] at hc5 hone hg2 hb2 hn2
  have HONE := Lib.hid hone
  have HG2 := Lib.hid hg2
  have HB2 := Lib.hid hb2
  have HN2 := Lib.hid (hn2.trans hn1)
  refine hc5.mono ?_
  clear hc5 hone hg2 hb2 hn2 hcm hK1 hcl TX CX FX hconv
  rintro en w5 ⟨fp2, rfl, T5, F5, N5⟩
  rw [HONE.out.1]
  have HT5 := Lib.hid T5
  have HFP5 := Lib.hid (show ∀ k ∈ fp2, w.heap.size ≤ k from fun k hk => by
    rcases N5 k hk with h | h
    · exact HFP.out k h
    · exact Nat.le_trans HFX.out.size h)
  have HF5 := Lib.hid (show Fr [] w w5 from HFX.out.seq F5 fun k hk hl => by
    rcases List.mem_cons.1 hk with rfl | h
    · have := HLs.out; omega
    · have := HFP.out k h; omega)
  clear T5 F5 N5
  go_wp2_with fail
  refine (crash_any HT5.out.disk 0 (by rw [HG2.out.wt]; decide)).mono ?_
  rintro en w6 ⟨rfl, fp3, D6, F6, N6⟩
  have hg3 := crash_same HG2.out 0
  have hb3 := HB2.out.crash 0
  have hn3 : (crashM cm.2.2 0).n = 8 := HN2.out
  have hop3 := open_good hg3
  have hk3 := good_spb hg3 hb3
  obtain ⟨m3, hm3⟩ : ∃ m3, m3 = crashM cm.2.2 0 := ⟨_, rfl⟩
  obtain ⟨sp3, hsp3⟩ : ∃ sp3, sp3 = cm.2.1 := ⟨_, rfl⟩
  rw [← hm3] at D6 hb3 hn3 hop3 hk3 hg3
  rw [← hsp3] at hop3 hk3
  have hL3 : sp3.L = [([97], [120])] := by rw [hsp3]; exact HONE.out.2
  have HD6 := Lib.hid D6
  have HOP3 := Lib.hid hop3
  have HK3 := Lib.hid hk3
  have HB3 := Lib.hid hb3
  have HL3 := Lib.hid hL3
  have HWT := Lib.hid hg3.wt
  have HFP6 := Lib.hid (show ∀ k ∈ fp3, w.heap.size ≤ k from fun k hk => by
    rcases N6 k hk with h | h
    · exact HFP5.out k h
    · exact Nat.le_trans HF5.out.size h)
  have HF6 := Lib.hid (show Fr [] w w6 from HF5.out.seq F6 fun k hk hl => by have := HFP5.out k hk; omega)
  clear D6 F6 N6 hop3 hk3 hb3 hL3 hg3 hm3 hsp3
  go_wp2_with fail
  refine (open_f HD6.out (by omega) HB3.out.2.1 (by rw [HWT.out]; decide)).mono ?_
  intro en w7 hO
  rw [HOP3.out] at hO
  obtain ⟨-, s2, fp4, rfl, T7, F7, N7, L7⟩ := hO
  have HT7 := Lib.hid T7
  have HF7 := Lib.hid (show Fr [] w w7 from HF6.out.seq F7 fun k hk hl => by have := HFP6.out k hk; omega)
  clear T7 F7 N7 L7
  go_wp2_with fail
  have hs97 : (⟨#[97]⟩ : ByteArray) = strB [97] := by kernel_rfl
  rw [hs97]
  refine (get_sf HT7.out HK3.out.srt (fun x hx => (HK3.out.ent x hx).nb) (fun x hx => (HK3.out.ent x hx).v) (n := [97]) (by intro x hx; rw [List.mem_singleton] at hx; omega)).mono ?_
  rintro en w8 ⟨q8, n8, c8, rfl, B8⟩
  rw [HL3.out] at B8 ⊢
  have hget : getL [97] [([97], [120])] = some [120] := by rfl
  rw [hget] at B8 ⊢
  have HT8 := Lib.hid (HT7.out.fr0 B8.own.fr)
  have HF8 := Lib.hid (HF7.out.trans B8.own.fr)
  have hcv := conv47 B8.sl
  obtain ⟨Y, hY⟩ : ∃ Y, Y = strB [120] := ⟨_, rfl⟩
  have hYe : Y.toList = [120] := by rw [hY]; kernel_rfl
  rw [show strB ((some [120] : Option Bs).getD []) = Y from hY.symm] at hcv
  clear hget B8 hY hs97
  go_wp2_with fail
  refine (all_sf HT8.out HK3.out.srt HK3.out.ent HK3.out.len).mono ?_
  rintro en w9 ⟨q9, c9, rfl, G9⟩
  have HF9 := Lib.hid (HF8.out.trans G9.gch.own.fr)
  rw [HL3.out]
  clear G9
  go_wp2_with fail
  exact bodyPost_ret (results_tmp rfl _ _ _) rfl ⟨rfl, HF9.out⟩
end
end Go.Proofs.Ytombhkekocbfoaa
namespace Go.Proofs.Ytombhkekocbfoaa
open Go.RowKit Go.Dr Go.Kd
section
variable {w : World}
set_option maxRecDepth 100000 in
set_option maxHeartbeats 2000000 in
theorem bytes_f {p q : Option Addr} {n c m d : Nat} {A B : List Int} (S : Sl .u8 w p n c A) (R : Sl .u8 w q m d B) (hA : isBytes A) (hB : isBytes B) :
    Calls Try.prog 14 #[.slice p n c, .slice q m d] w fun e w' => e = .returned (.bool (decide (A = B))) ∧ Fr [] w w' := by
  have h1 := conv47 S
  have h2 := conv47 R
  obtain ⟨y, hy⟩ : ∃ y, ((strB A).toList == (strB B).toList) = y := ⟨_, rfl⟩
  rw [← beq_str hA hB, hy]
  have HF := Lib.hid (Fr.refl [] w)
  clear S R
  go_enter Try.func14, Try.ntmps14
  go_wp2_with fail
  exact bodyPost_ret (results_tmp rfl _ _ _) rfl ⟨by simp [hy], HF.out⟩
end
end Go.Proofs.Ytombhkekocbfoaa
namespace Go.Proofs.Ytombhkekocbfoaa
open Go.RowKit Go.Dr Go.Kd Go.St
theorem StAt.av0 {w w' : World} {s d : Nat} {sp : SP} {m : DM} {fp av : List Nat} (T : StAt w s d sp m fp) (hL : sp.L = []) (F : Fr [] w w') (hav : ∀ k ∈ av, w.heap.size ≤ k) : StAv w' s d sp m fp av := by
  obtain ⟨mb, f0, hs, D, M⟩ := T.ex
  obtain ⟨hb, kvs, g, hm, hr, hv⟩ := M
  refine ⟨mb, F.get f0 (by simp), hs, D.fr0 F, fun h => ?_, kvs, g, hm.fr F (by simp), hr, by rw [hL]; simp⟩
  rcases List.mem_append.1 h with h | h
  · have := hav _ h; have := hm.lt; omega
  · exact hb h
theorem DiskAt.frl {w w' : World} {d : Nat} {m : DM} {fp av : List Nat} (D : DiskAt w d m fp) (hs : ∀ k ∈ fp, k ∉ av) (F : Fr av w w') : DiskAt w' d m fp := by
  obtain ⟨kb, sb, p, cap, D, rfl, ok⟩ := D
  exact ⟨kb, sb, p, cap, ⟨F.get D.hd (hs _ (by simp [fpOf])), F.get D.hk (hs _ (by simp [fpOf])), F.get D.hs (hs _ (by simp [fpOf])), F.owns D.hw (fun g hg => hs _ (by unfold fpOf; simp only [List.mem_cons, Option.mem_toList]; exact .inr (.inr (.inr (by cases p with | none => cases hg | some a => simpa [Value.ownBlock] using hg))))), D.ne1, D.ne2, D.ne3, D.nw⟩, rfl, ok⟩
theorem StAv.turn {w w' : World} {s d : Nat} {sp : SP} {m : DM} {fp av : List Nat} (T : StAv w s d sp m fp av) (F : Fr av w w') (hs : s ∉ av) (hf : ∀ k ∈ fp, k ∉ av) : StAv w' s d sp m fp av := by
  obtain ⟨mb, f0, hsf, D, M⟩ := T.ex
  exact ⟨mb, F.get f0 hs, hsf, D.frl hf F, M.fr (F.mono fun k hk _ => List.mem_append_left _ hk) fun k hk => .inl hk⟩
/-- One byte of a slice is turned. -/
theorem wrl_set {W : World} {b off n c : Nat} {cs : Array Value} {T : TypeId} {l : Bs} (hb : W.blk b = some (.cells cs T (0, 0))) (hs : off + n ≤ cs.size) (hx : (cs.extract off (off + n)).toList = l.map (Value.int .u8)) (hc : n ≤ c) {i : Nat} (hi : i < n) (y : Int) :
    WrL (W.put b (.cells (cs.setIfInBounds (off + i) (.int .u8 y)) T)) (some ⟨b, off, none⟩) n c (l.set i y) := by
  have hll : l.length = n := by
    have := congrArg List.length hx
    simp only [Array.length_toList, Array.size_extract, List.length_map] at this
    omega
  refine ⟨hc, .inr ⟨b, off, _, T, rfl, World.at_put_same _ _ _ (World.at_lt hb), by rw [Array.size_setIfInBounds]; exact hs, ?_⟩⟩
  apply List.ext_getElem?
  intro j
  have hj := congrArg (fun l => l[j]?) hx
  simp only [Array.getElem?_toList, List.getElem?_map] at hj ⊢
  by_cases hjn : j < n
  · rw [Array.getElem?_extract_of_lt (by omega)] at hj
    rw [Array.getElem?_extract_of_lt (by rw [Array.size_setIfInBounds]; omega), List.getElem?_set]
    by_cases hij : i = j
    · subst hij
      rw [if_pos rfl, if_pos (by omega)]
      simp
    · rw [if_neg hij, ← hj]
      rw [Array.getElem_setIfInBounds (by omega), if_neg (by omega)]
  · rw [Array.getElem?_eq_none (by rw [Array.size_extract, Array.size_setIfInBounds]; omega), List.getElem?_eq_none (by rw [List.length_set]; omega)]
    rfl
/-- A byte of a slice that may be written. -/
theorem WrL.at {w : World} {q : Option Addr} {n c : Nat} {l : Bs} (h : WrL w q n c l) (hl : isBytes l) {i : Nat} (hi : i < n) :
    ∃ (b off : Nat) (cs : Array Value) (T : TypeId) (y : Nat), q = some ⟨b, off, none⟩ ∧ w.blk b = some (.cells cs T (0, 0)) ∧ y < 256 ∧ (∃ h : off + i < cs.size, cs[off + i] = .int .u8 (y : Int)) ∧ off + n ≤ cs.size ∧ (cs.extract off (off + n)).toList = l.map (Value.int .u8) := by
  rcases h.2 with h0 | ⟨b, off, cs, T, rfl, hb, hs, hx⟩
  · omega
  have hll : l.length = n := by
    have := congrArg List.length hx
    simp only [Array.length_toList, Array.size_extract, List.length_map] at this
    omega
  have hj := congrArg (fun l => l[i]?) hx
  simp only [Array.getElem?_toList, List.getElem?_map] at hj
  rw [Array.getElem?_extract_of_lt (by omega), List.getElem?_eq_getElem (by omega)] at hj
  have hm := hl _ (List.getElem_mem (by omega : i < l.length))
  refine ⟨b, off, cs, T, (l[i]'(by omega)).toNat, rfl, hb, by omega, ⟨by omega, ?_⟩, hs, hx⟩
  simp only [Option.map_some, Option.some.injEq] at hj
  rw [hj, show (((l[i]'(by omega)).toNat : Nat) : Int) = l[i]'(by omega) by omega]
theorem isBytes_set {l : Bs} (h : isBytes l) {i : Nat} {y : Int} (hy : 0 ≤ y ∧ y < 256) : isBytes (l.set i y) := fun x hx => by
  rcases List.mem_or_eq_of_mem_set hx with h1 | h1
  · exact h x h1
  · rw [h1]; exact hy
/-- The one change that a row of changes holds: its value lies apart from the row, and is new. -/
theorem GchN.one {w0 w : World} {q : Option Addr} {c : Nat} {x : Chg} (G : GchN w0 [] w q 1 c [x]) : ∃ g cur qv mv cv, q = some ⟨g, 0, none⟩ ∧ w.blk g = some (.cells cur 32 (0, 0)) ∧ (∃ h : 1 < cur.size, cur[1] = .slice qv mv cv) ∧ (∃ lv, isBytes lv ∧ WrL w qv mv cv lv) ∧ (∀ a, qv = some a → w0.heap.size ≤ a.block) ∧ (0 < mv → ∀ b, qv.map (·.block) = some b → b ≠ g) ∧ w0.heap.size ≤ g ∧ x.val.length = mv := by
  obtain ⟨us, M, B, S, N⟩ := G.ex
  have hlen := B.len
  have hS := (S w B.own.has.of_append.1).1
  have hWv := (S w B.own.has.of_append.1).2
  cases us with
  | nil => cases hlen
  | cons u0 us =>
    have hS2 : ∀ W, Has M W → ∃ q' m' d', u0 :: us = [.string (strB x.name), .slice q' m' d', .bool x.gone] ∧ Sl .u8 W q' m' d' x.val := fun W hW => by
      have h := (S W hW).1
      cases h with
      | cons h1 h2 => cases h2; exact ⟨_, _, _, rfl, h1⟩
    obtain ⟨qv, mv, cv, hus, hsl⟩ := hS2 w B.own.has.of_append.1
    rcases B.row.2 with ⟨_, h0⟩ | ⟨g, cap, cur, hv, _, hg, hnc, hcm, hcs, ht⟩
    · cases h0
    · simp only [Value.slice.injEq] at hv
      obtain ⟨rfl, _, _⟩ := hv
      have hnew := B.new g rfl
      refine ⟨g, cur, qv, mv, cv, rfl, hg, ?_, hWv (.slice qv mv cv) (by rw [hus]; simp) qv mv cv rfl, fun a ha => N (.slice qv mv cv) (by rw [hus]; simp) a mv cv (by rw [ha]), fun h0 b hb e => ?_, hnew.1, hsl.len⟩
      · rw [hus] at ht
        have h4 := congrArg (fun l => l[1]?) ht
        rw [List.getElem?_take, if_pos (by omega), Array.getElem?_toList] at h4
        exact Array.getElem?_eq_some_iff.1 h4
      · subst e
        obtain ⟨q', m', d', hus2, hsl2⟩ := hS2 (w.put b (.cells #[] 32)) fun y hy => by
          refine (World.at_put_other _ _ _ _ fun e => hnew.2 ?_).trans (B.own.has.of_append.1 y hy)
          rw [List.map_append]
          exact List.mem_append_left _ (List.mem_map.2 ⟨y, hy, e.symm⟩)
        rw [hus] at hus2
        simp only [List.cons.injEq, Value.slice.injEq, and_true, true_and] at hus2
        obtain ⟨rfl, rfl, rfl⟩ := hus2
        obtain ⟨bb, off, cs, T, fr, rfl, fc, hs', hx'⟩ := hsl2.out h0
        simp only [Option.map_some, Option.some.injEq] at hb
        subst hb
        rw [World.at_put_same _ _ _ (World.at_lt hg)] at fc
        cases fc
        simp at hs'
        omega
section
variable {w : World}
set_option maxRecDepth 100000 in
set_option maxHeartbeats 8000000 in
theorem storeOwn_walk {nm : Bs} (hnm : Byt nm) {p : Option Addr} {n cap : Nat} {l : Bs} (S : Sl .u8 w p n cap l) (hl : isBytes l) (hn : n ≤ 140737488355328) :
    Calls Try.prog 3 #[.string (strB nm), .slice p n cap] w fun e w' => e = .returned (.bool true) ∧ Fr [] w w' := by
  have HS := Lib.hid S
  have HB := Lib.hid hl
  have HNM := Lib.hid hnm
  have HL := Lib.hid S.len
  obtain ⟨X, hX⟩ : ∃ X, X = strB nm := ⟨_, rfl⟩
  rw [← hX]
  have HX := Lib.hid hX
  clear S hl hnm hX
  go_enter Try.func3, Try.ntmps3
  go_wp2_with fail
  refine (alive_f (w := w)).mono ?_
  rintro en w0 ⟨rfl, F0⟩
  have HF0 := Lib.hid F0
  clear F0
  go_wp2_with fail
  refine (new_m 512 w0).mono ?_
  rintro en w1 ⟨d, fp, rfl, D1, F1, N1⟩
  obtain ⟨m1, hop, G1, hf1, hn1, hb1⟩ := good_fresh 512 (by decide) D1.ok'
  have hn1 : m1.n = 512 := hn1
  have HD1 := Lib.hid D1
  have HF1 := Lib.hid F1
  have HOP := Lib.hid hop
  have HN1 := Lib.hid N1
  clear D1 F1 N1 hop
  go_wp2_with fail
  refine (open_f HD1.out (by decide) (byt_zs _) (by decide)).mono ?_
  intro en w2 hO
  rw [HOP.out] at hO
  obtain ⟨-, s, fp1, rfl, T2, F2, N2, L2⟩ := hO
  have HFp : ∀ k ∈ fp1, w0.heap.size ≤ k := fun k hk => by
    rcases N2 k hk with h | h
    · rcases HN1.out k h with h | h
      · cases h
      · exact h
    · exact Nat.le_trans HF1.out.size h
  have HF2 := Lib.hid (show Fr [] w0 w2 from HF1.out.seq F2 fun k hk hl => by
    rcases HN1.out k hk with h | h
    · exact h
    · omega)
  have HFP := Lib.hid HFp
  have HT2 := Lib.hid T2
  have HLs := Lib.hid (Nat.le_trans HF1.out.size L2)
  clear T2 F2 N2 L2 HFp
  have hB0 : Bld w2 [] .u8 5 (w2.alloc (.cells #[] 5)) (some ⟨w2.heap.size, 0, none⟩) 0 0 [] := Bld.made (OwB.start w2) 0 (by decide)
  have HB0 := Lib.hid hB0
  clear hB0
  go_wp2_with (refine wpList_app47 rfl _ _ rfl rfl HB0.out rfl (HS.out.fr0 ((HF0.out.trans HF2.out).trans ((Fr.refl [] w2).alloc _))) (by omega) ?_)
  intro q3 c3 W3 B3
  have HB3 := Lib.hid B3
  have HWB3 := Lib.hid (Bld.wr B3)
  have hav : ∀ k ∈ (q3.map (·.block)).toList, w2.heap.size ≤ k := fun k hk => (B3.new k (by simpa using hk)).1
  have HAV := Lib.hid hav
  have HTX := Lib.hid (HT2.out.av0 (av := (q3.map (·.block)).toList) rfl B3.own.fr hav)
  clear B3 HB0 hav
  go_wp2_with fail
  have hK1 := good_spb G1 hb1
  have hcl : ∀ c ∈ [(⟨nm, false, l⟩ : Chg)], Byt c.name ∧ Byt c.val := fun c hc => by
    rw [List.mem_singleton] at hc
    subst hc
    exact ⟨HNM.out, HB.out⟩
  have hn2 := commitM_n sp0 m1 [⟨nm, false, l⟩]
  have hone : ChgOk ⟨nm, false, l⟩ → (commitM sp0 m1 [⟨nm, false, l⟩]).1 = 0 := fun h => (commit_one (n := nm) (v := l) G1 hf1 h (by
    have h2 := h.n2
    have h3 := h.v
    rw [recB_length, pay_one, hn1]
    simp only at h2 h3
    omega)).1
  have hgood : (commitM sp0 m1 [⟨nm, false, l⟩]).1 = 0 → (commitM sp0 m1 [⟨nm, false, l⟩]).2.1.L = [(nm, l)] := fun h => by
    rcases commit_good G1 [⟨nm, false, l⟩] with ⟨-, -, h2⟩ | ⟨h2, -⟩ | ⟨h2, -⟩
    · exact h2
    · rw [h] at h2; cases h2
    · exact absurd h h2
  have hspb : (commitM sp0 m1 [⟨nm, false, l⟩]).1 = 0 → SPB (commitM sp0 m1 [⟨nm, false, l⟩]).2.2.n (commitM sp0 m1 [⟨nm, false, l⟩]).2.1 := fun h => commit_spb G1 hb1 hK1 hcl h
  refine named_world (A := fun Y => StAv Y s d sp0 m1 fp1 (q3.map (·.block)).toList ∧ Chs Y (some ⟨W3.heap.size, 0, none⟩) 1 1 [⟨nm, false, l⟩] ∧ Fr [] W3 Y ∧ Sl .u8 Y q3 n c3 l) (Q := fun Y => Calls Try.prog 11 _ Y _) ⟨HTX.out.fr0 ((Fr.refl [] W3).alloc _), chs_one (q := q3) (m := n) (c := c3) (by rw [HX.out]; exact World.at_alloc_new _ _ _ rfl) (HB3.out.sl.fr0 ((Fr.refl [] W3).alloc _)) (by decide), (Fr.refl [] W3).alloc _, HB3.out.sl.fr0 ((Fr.refl [] W3).alloc _)⟩ ?_
  rintro Y ⟨TY, CY, FY, SY⟩
  have HFY := Lib.hid (HB3.out.own.fr.trans FY)
  have HFYs := Lib.hid FY
  have hc5 := commit_f TY (fun k hk => by
    rw [Option.mem_toList] at hk
    have := HB3.out
    have h2 : k < W3.heap.size := by
      rcases this.row.2 with ⟨hv, _⟩ | ⟨g, _, _, hv, _, hg, _⟩
      · simp only [Value.slice.injEq] at hv
        rw [hv.1] at hk
        cases hk
      · simp only [Value.slice.injEq] at hv
        rw [hv.1] at hk
        simp only [Option.map_some, Option.mem_def, Option.some.injEq] at hk
        subst hk
        exact World.at_lt hg
    exact Nat.lt_of_lt_of_le h2 FY.size) hK1 (by rw [hn1]; decide) (by rw [G1.wt]; decide) CY hcl (by decide)
  have hs2 : s < w2.heap.size := HT2.out.av.lt
  have hfp2 := DiskAt.lt HT2.out.av.disk
  have HS2 := Lib.hid hs2
  have HFP2 := Lib.hid hfp2
  have HSY := Lib.hid SY
  obtain ⟨cm, hcm⟩ : ∃ cm, cm = commitM sp0 m1 [⟨nm, false, l⟩] := ⟨_, rfl⟩
  rw [← hcm] at hc5 hone hgood hspb hn2
  have HONE := Lib.hid hone
  have HGOOD := Lib.hid hgood
  have HSPB := Lib.hid hspb
  refine hc5.mono ?_
  clear hc5 hone hgood hspb hn2 hcm hK1 hcl TY CY FY SY hs2 hfp2
  rintro en w5 ⟨fp2, rfl, T5, F5, N5⟩
  have HT5 := Lib.hid T5
  have HF5 := Lib.hid (show Fr [] w0 w5 from ((HF2.out.trans HFY.out).seq F5 fun k hk hl => by
    rcases List.mem_cons.1 hk with rfl | h
    · have := HLs.out; omega
    · have := HFP.out k h; omega))
  have HF25 := Lib.hid (show Fr (s :: fp1) w2 w5 from (HFY.out.mono (by simp)).seq F5 (fun k hk hl => hk))
  have HSV := Lib.hid (sl_fr HSY.out F5 fun g hg hgf => by
    have h1 := HAV.out g (by simpa using hg)
    rcases List.mem_cons.1 hgf with rfl | h
    · have := HS2.out; omega
    · have := HFP2.out g h; omega)
  have HWR0 := Lib.hid ((HWB3.out.fr HFYs.out (fun _ _ => by simp)).fr F5 fun g hg hgf => by
    have h1 := HAV.out g (by simpa using hg)
    rcases List.mem_cons.1 hgf with rfl | h
    · have := HS2.out; omega
    · have := HFP2.out g h; omega)
  have HFP5 := Lib.hid (show ∀ k ∈ fp2, k ∉ (q3.map (·.block)).toList from fun k hk hkv => by
    have h1 := HAV.out k hkv
    have h3 : k < Y.heap.size := by
      have hkk : q3.map (·.block) = some k := by simpa using hkv
      rcases HB3.out.row.2 with ⟨hv, _⟩ | ⟨g, _, _, hv, _, hg, _⟩
      · simp only [Value.slice.injEq] at hv
        rw [hv.1] at hkk
        cases hkk
      · simp only [Value.slice.injEq] at hv
        rw [hv.1] at hkk
        simp only [Option.map_some, Option.some.injEq] at hkk
        subst hkk
        exact Nat.lt_of_lt_of_le (World.at_lt hg) HFYs.out.size
    rcases N5 k hk with h | h
    · have := HFP2.out k h; omega
    · omega)
  have HSV5 := Lib.hid (show s ∉ (q3.map (·.block)).toList from fun h => by
    have h1 := HAV.out s h
    have := HS2.out
    omega)
  clear T5 F5 N5
  obtain ⟨E, hE⟩ : ∃ E, E = cm.1 := ⟨_, rfl⟩
  rw [← hE]
  have hXs : X.size = nm.length := by rw [HX.out, strB_size]
  have HXs := Lib.hid hXs
  by_cases hE0 : E = 0
  · have hcm0 : cm.1 = 0 := by rw [← hE]; exact hE0
    have hL := HGOOD.out hcm0
    have hK := HSPB.out hcm0
    obtain ⟨sp3, hsp3⟩ : ∃ sp3, sp3 = cm.2.1 := ⟨_, rfl⟩
    obtain ⟨m3, hm3⟩ : ∃ m3, m3 = cm.2.2 := ⟨_, rfl⟩
    have hT5 := HT5.out
    rw [← hsp3, ← hm3] at hT5
    rw [← hsp3] at hL
    rw [← hsp3, ← hm3] at hK
    have HT := Lib.hid hT5
    have HLL := Lib.hid hL
    have HK := Lib.hid hK
    subst hE0
    clear hE hcm0 hL hK hT5 hsp3 hm3 hXs
    -- LOOPS
    have HWR := Lib.hid (HWR0.out)
    go_wp2_with fail
    go_loopw [8] (fun iv wy => ∃ i : Nat, i ≤ n ∧ iv = .int .i64 (i : Int) ∧ Hid (∃ l', WrL wy q3 n c3 l' ∧ isBytes l' ∧ Fr (q3.map (·.block)).toList w5 wy)) (fun iv _ => (n - intOf iv).toNat)
    case atStart => exact ⟨0, by omega, rfl, Lib.hid ⟨l, HWR.out, HB.out, Fr.refl _ _⟩⟩
    case round =>
      obtain ⟨i, hin, rfl, hW⟩ := hrel
      by_cases hlt : i < n
      · have hd : decide ((i : Int) < (n : Int)) = true := by rw [decide_eq_true_eq]; omega
        obtain ⟨l', S', hb', F'⟩ := hW.out
        obtain ⟨bb, off, cs, TT, y, rfl, hbk, hyb, ⟨hat1, hat⟩, hs3, hx3⟩ := S'.at hb' hlt
        have hcap := S'.1
        have tb := World.at_lt hbk
        have ki : (i : Int) < (n : Int) := by omega
        obtain ⟨z, hz, hzb⟩ : ∃ z : Int, IntKind.u8.wrap ((y : Int) + 1) = z ∧ 0 ≤ z ∧ z < 256 := ⟨_, rfl, by rw [IntKind.wrap_u8]; omega⟩
        have HNW := Lib.hid (show ∃ l', WrL (wr.put bb (.cells (cs.setIfInBounds (off + i) (.int .u8 z)) TT)) (some ⟨bb, off, none⟩) n c3 l' ∧ isBytes l' ∧ Fr (((some (⟨bb, off, none⟩ : Addr)).map (·.block)).toList) w5 (wr.put bb (.cells (cs.setIfInBounds (off + i) (.int .u8 z)) TT)) from
          ⟨l'.set i z, wrl_set hbk hs3 hx3 hcap hlt z, isBytes_set hb' hzb, F'.put _ _ (fun _ => by simp)⟩)
        clear hx3 hW S' hb' F' 
        go_wp2_with fail
        go_roundw
        case rel => exact ⟨i + 1, hlt, by first | rfl | simp, HNW⟩
        case measure => simp [intOf]; omega
      · obtain rfl : i = n := by omega
        have hd : decide ((i : Int) < (i : Int)) = false := by simp
        obtain ⟨l', S', hb', F'⟩ := hW.out
        have HTa := Lib.hid (HT.out.turn F' HSV5.out HFP5.out)
        have HFa := Lib.hid (HF5.out.seq F' fun k hk hl => by
          have h1 := HAV.out k hk
          have h2 := HF2.out.size
          omega)
        clear S' hb' F' hW
        go_wp2_with fail
        rw [HX.out]
        refine (get_sf HTa.out.st HK.out.srt (fun x hx => (HK.out.ent x hx).nb) (fun x hx => (HK.out.ent x hx).v) HNM.out).mono ?_
        rintro en w6 ⟨q5, m5, c5, rfl, B5⟩
        have hgl : getL nm sp3.L = some l := by
          rw [HLL.out]
          simp [getL]
        rw [hgl] at B5 ⊢
        have HGL := Lib.hid hgl
        have HB5 := Lib.hid B5
        have HTb := Lib.hid (HTa.out.fr0 B5.own.fr)
        have HFb := Lib.hid (HFa.out.trans B5.own.fr)
        have hlo5 : ∀ a, q5 = some a → wr.heap.size ≤ a.block := fun a ha => (B5.new a.block (by rw [ha]; rfl)).1
        have HLO5 := Lib.hid hlo5
        obtain ⟨wb, hwb⟩ : ∃ wb, wb = wr := ⟨_, rfl⟩
        rw [← hwb] at HLO5 HTa HFa
        have HBF := Lib.hid (show Fr [] wb w6 by rw [hwb]; exact B5.own.fr)
        have HW5 := Lib.hid (Bld.wr B5)
        have hm5 : m5 ≤ 4000 := by
          have h1 := B5.len
          have h2 := (HK.out.ent (nm, l) (by rw [HLL.out]; simp)).v
          simp only [Option.getD_some] at h1 h2
          omega
        clear B5 hgl hlo5 hwb
        go_wp2_with fail
        go_loopw [11] (fun iv wy => ∃ i : Nat, i ≤ m5 ∧ iv = .int .i64 (i : Int) ∧ Hid (∃ l', WrL wy q5 m5 c5 l' ∧ isBytes l' ∧ Fr [] wb wy)) (fun iv _ => (m5 - intOf iv).toNat)
        case atStart => exact ⟨0, by omega, rfl, Lib.hid ⟨_, HW5.out, HB.out, HBF.out⟩⟩
        case round =>
          obtain ⟨i, hin, rfl, hW⟩ := hrel
          by_cases hlt : i < m5
          · have hd : decide ((i : Int) < (m5 : Int)) = true := by rw [decide_eq_true_eq]; omega
            obtain ⟨l', S', hb', F'⟩ := hW.out
            obtain ⟨bb, off, cs, TT, y, rfl, hbk, hyb, ⟨hat1, hat⟩, hs3, hx3⟩ := S'.at hb' hlt
            have hcap := S'.1
            have tb := World.at_lt hbk
            have ki : (i : Int) < (m5 : Int) := by omega
            obtain ⟨z, hz, hzb⟩ : ∃ z : Int, IntKind.u8.wrap ((y : Int) - 1) = z ∧ 0 ≤ z ∧ z < 256 := ⟨_, rfl, by rw [IntKind.wrap_u8]; omega⟩
            have HNW := Lib.hid (show ∃ l', WrL (wr.put bb (.cells (cs.setIfInBounds (off + i) (.int .u8 z)) TT)) (some ⟨bb, off, none⟩) m5 c5 l' ∧ isBytes l' ∧ Fr [] wb (wr.put bb (.cells (cs.setIfInBounds (off + i) (.int .u8 z)) TT)) from
              ⟨l'.set i z, wrl_set hbk hs3 hx3 hcap hlt z, isBytes_set hb' hzb, F'.put _ _ (fun h => by have := HLO5.out _ rfl; simp only at this; omega)⟩)
            clear hx3 hW S' hb' F' 
            go_wp2_with fail
            go_roundw
            case rel => exact ⟨i + 1, hlt, by first | rfl | simp, HNW⟩
            case measure => simp [intOf]; omega
          · obtain rfl : i = m5 := by omega
            have hd : decide ((i : Int) < (i : Int)) = false := by simp
            obtain ⟨l', S', hb', F'⟩ := hW.out
            have HTc := Lib.hid (HTa.out.fr0 F')
            have HFc := Lib.hid (HFa.out.trans F')
            clear S' hb' F' hW
            go_wp2_with fail
            refine (all_sf HTc.out.st HK.out.srt HK.out.ent HK.out.len).mono ?_
            rintro en w7 ⟨q9, c9, rfl, G9⟩
            rw [HLL.out] at G9 ⊢
            obtain ⟨wc, hwc⟩ : ∃ wc, wc = wr := ⟨_, rfl⟩
            rw [← hwc] at G9 HTc HFc
            have F9 := G9.gch.own.fr
            have hone9 : GchN wc [] w7 q9 1 c9 [⟨nm, false, l⟩] := G9
            obtain ⟨g, cur, qv, mv, cv, rfl, hg, ⟨hc1, hc2⟩, ⟨lv, hlvb, hwv⟩, hnv, hap, hgn, hml⟩ := hone9.one
            have hmv : mv ≤ 4000 := by
              have h2 := (HK.out.ent (nm, l) (by rw [HLL.out]; simp)).v
              simp only at h2 hml
              omega
            have HNV := Lib.hid hnv
            have HAP := Lib.hid hap
            have HWV := Lib.hid hwv
            have HLVB := Lib.hid hlvb
            have HG := Lib.hid hg
            have HF9 := Lib.hid F9
            have HGN := Lib.hid hgn
            have tg := World.at_lt hg
            clear G9 hone9 hnv hap hwv hlvb F9 hwc hgn hml
            go_wp2_with fail
            refine wp_loop_rounds 2 ?_
            rw [rounds_succ]
            go_wp2_with fail
            go_loopw [14] (fun iv wy => ∃ i : Nat, i ≤ mv ∧ iv = .int .i64 (i : Int) ∧ Hid (∃ l', WrL wy qv mv cv l' ∧ isBytes l' ∧ Fr [] wc wy ∧ wy.blk g = some (.cells cur 32 (0, 0)))) (fun iv _ => (mv - intOf iv).toNat)
            case atStart => exact ⟨0, by omega, rfl, Lib.hid ⟨lv, HWV.out, HLVB.out, HF9.out, HG.out⟩⟩
            case round =>
              obtain ⟨i, hin, rfl, hW⟩ := hrel
              clear hg tg
              obtain ⟨l', S', hb', F', hg⟩ := hW.out
              have tg := World.at_lt hg
              by_cases hlt : i < mv
              · have hd : decide ((i : Int) < (mv : Int)) = true := by rw [decide_eq_true_eq]; omega
                obtain ⟨bb, off, cs, TT, y, rfl, hbk, hyb, ⟨hat1, hat⟩, hs3, hx3⟩ := S'.at hb' hlt
                have hcap := S'.1
                have tb := World.at_lt hbk
                have ki : (i : Int) < (mv : Int) := by omega
                obtain ⟨z, hz, hzb⟩ : ∃ z : Int, IntKind.u8.wrap ((y : Int) + 7) = z ∧ 0 ≤ z ∧ z < 256 := ⟨_, rfl, by rw [IntKind.wrap_u8]; omega⟩
                have hne : bb ≠ g := HAP.out (by omega) bb rfl
                have hne2 := hne.symm
                have hlow : wc.heap.size ≤ bb := HNV.out _ rfl
                have HNW := Lib.hid (show ∃ l', WrL (wr.put bb (.cells (cs.setIfInBounds (off + i) (.int .u8 z)) TT)).drew (some ⟨bb, off, none⟩) mv cv l' ∧ isBytes l' ∧ Fr [] wc (wr.put bb (.cells (cs.setIfInBounds (off + i) (.int .u8 z)) TT)).drew ∧ (wr.put bb (.cells (cs.setIfInBounds (off + i) (.int .u8 z)) TT)).drew.blk g = some (.cells cur 32 (0, 0)) from
                  ⟨l'.set i z, wrl_set hbk hs3 hx3 hcap hlt z, isBytes_set hb' hzb, (F'.put _ _ (fun h => by omega)).drew, (World.at_put_other _ _ _ _ hne).trans hg⟩)
                clear hx3 hW S' hb' F'
                go_upto_region 23 with (fail)
                refine drawn_begin 16 (fun w' => w'.blk g = some (.cells cur 32 (0, 0)) ∧ w'.blk bb = some (.cells cs TT (0, 0))) (by kernel_rfl) ?_
                refine drawn_reads (fuel := 1) [0, 1, 2, 3, 4, 5, 6, 7, 8, 9, 10, 11, 12, 13, 14, 15] rfl (by kernel_rfl) ⟨hg, hbk⟩ ?_
                repeat (first | (refine rowK_step2 rfl rfl (fun K hK => ?_); go_wp2) | (refine rowK_step rfl (fun K hK => ?_); go_simp; refine hK _ ?_; clear hK K))
                refine rowK_nil ⟨fun w' e1 => ?_, ?_⟩
                · obtain ⟨e1, e2⟩ := e1
                  clear hg hbk tg tb
                  have tg := World.at_lt e1
                  have tb := World.at_lt e2
                  repeat (first | (refine rowWp_step2 rfl rfl (fun K hK => ?_); go_wp2) | (refine rowWp_step rfl (fun K hK => ?_); go_simp; refine hK _ ?_; clear hK K))
                  exact rowWp_nil rfl
                refine drawn_end rfl (by kernel_rfl) ?_
                intro K hK
                go_wp2_with fail
                go_roundw
                case rel => exact ⟨i + 1, hlt, by first | rfl | simp, HNW⟩
                case measure => simp [intOf]; omega
              · obtain rfl : i = mv := by omega
                have hd : decide ((i : Int) < (i : Int)) = false := by simp
                have HTd := Lib.hid (HTc.out.fr0 F')
                have HFd := Lib.hid (HFc.out.trans F')
                clear S' hb' F' hW
                go_wp2_with fail
                rw [rounds_succ]
                go_wp2_with fail
                refine (get_sf HTd.out.st HK.out.srt (fun x hx => (HK.out.ent x hx).nb) (fun x hx => (HK.out.ent x hx).v) HNM.out).mono ?_
                rintro en w10 ⟨qx, mx, cx, rfl, Bx⟩
                rw [HGL.out] at Bx ⊢
                have HBx := Lib.hid Bx
                have HFx := Lib.hid (HFd.out.trans Bx.own.fr)
                clear Bx hg tg
                go_wp2_with fail
                refine (bytes_f (A := l) (B := l) HBx.out.sl (HS.out.fr0 (HF0.out.trans HFx.out)) HB.out HB.out).mono ?_
                rintro en w11 ⟨rfl, F11⟩
                have HFy := Lib.hid ((HF0.out.trans HFx.out).trans F11)
                have hdl : decide (l = l) = true := by simp
                rw [hdl]
                clear F11 hdl
                go_wp2_with fail
                exact bodyPost_ret (results_tmp rfl _ _ _) rfl ⟨rfl, HFy.out⟩
  · have hne : (E == 0) = false := by rw [beq_eq_false_iff_ne]; exact hE0
    have hne2 : (E != 0) = true := by rw [bne, hne]; rfl
    have hbad : ¬ ChgOk ⟨nm, false, l⟩ := fun h => hE0 (by rw [hE]; exact HONE.out h)
    have hsz : nm.length < 1 ∨ 32 < nm.length ∨ 4000 < n := by
      rcases Nat.lt_or_ge nm.length 1 with h | h
      · exact .inl h
      · rcases Nat.lt_or_ge 32 nm.length with h2 | h2
        · exact .inr (.inl h2)
        · rcases Nat.lt_or_ge 4000 n with h3 | h3
          · exact .inr (.inr h3)
          · exact absurd ⟨h, h2, by show l.length ≤ 4000; rw [HL.out]; exact h3, by simp⟩ hbad
    have HFW := Lib.hid (HF0.out.trans HF5.out)
    rw [← hXs] at hsz
    clear hbad hE hE0 hXs
    by_cases z1 : X.size < 1
    · have d1 : decide ((X.size : Int) < 1) = true := by rw [decide_eq_true_eq]; omega
      go_wp2_with fail
      exact bodyPost_ret (results_tmp rfl _ _ _) rfl ⟨rfl, HFW.out⟩
    have d1 : decide ((X.size : Int) < 1) = false := by rw [decide_eq_false_iff_not]; omega
    by_cases z2 : 32 < X.size
    · have d2 : decide ((32 : Int) < (X.size : Int)) = true := by rw [decide_eq_true_eq]; omega
      go_wp2_with fail
      exact bodyPost_ret (results_tmp rfl _ _ _) rfl ⟨rfl, HFW.out⟩
    have d2 : decide ((32 : Int) < (X.size : Int)) = false := by rw [decide_eq_false_iff_not]; omega
    have d3 : decide ((4000 : Int) < (n : Int)) = true := by rw [decide_eq_true_eq]; omega
    go_wp2_with fail
    exact bodyPost_ret (results_tmp rfl _ _ _) rfl ⟨rfl, HFW.out⟩
end
end Go.Proofs.Ytombhkekocbfoaa
