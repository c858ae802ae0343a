/- Joined: StN, SoZp, SoZq, SoZr, SoZm, SoZn, SoZs. -/
import Derived.Test.YtombhkekocbfoaaZq
import Derived.Test.YtombhkekocbfoaaZo
import Derived.Test.YtombhkekocbfoaaZn
set_option linter.unusedVariables false
set_option linter.unusedSimpArgs false
namespace Go.St
open Go.Kd Go.Dr Go.Proofs.Ytombhkekocbfoaa
theorem SeenM.commit {m : DM} (h : SeenM m) (sp : SP) (l : List Chg) : SeenM (commitM sp m l).2.2 := by
  have key : ∀ (L : List (Bs × Bs)) (half at_ e c : Nat) (b : Bs), SeenM (finM sp m L half at_ e c b).2.2 := by
    intro L half at_ e c b
    unfold finM
    split
    · split
      · exact h.put.put
      · exact h.put.put
    · exact h.put
  unfold commitM
  split
  · exact h
  · split
    · exact h
    · split
      · exact h
      · split
        · exact h
        · split
          · exact h
          · split
            · split
              · exact h
              · split
                · exact h
                · exact key _ _ _ _ _ _
            · exact key _ _ _ _ _ _
theorem commitM_wl' (sp : SP) (m : DM) (l : List Chg) : (commitM sp m l).2.2.waits.length ≤ m.waits.length + m.n / 2 + 1 := by
  have key : ∀ (L : List (Bs × Bs)) (half at_ e c : Nat) (b : Bs), at_ + b.length / 64 ≤ m.n / 2 → (finM sp m L half at_ e c b).2.2.waits.length ≤ m.waits.length + m.n / 2 + 1 := by
    intro L half at_ e c b hb
    have h1 := (putM_nn m (half * (m.n / 2) + at_) b).2
    have h2 := (putM_nn (putM m (half * (m.n / 2) + at_) b).2 (half * (m.n / 2)) (headB e c (at_ + b.length / 64))).2
    rw [headB_length] at h2
    unfold finM
    split
    · split
      · show (putM _ _ _).2.waits.length ≤ _; omega
      · show (putM _ _ _).2.waits.length ≤ _; omega
    · show (putM _ _ _).2.waits.length ≤ _; omega
  unfold commitM
  split
  · show m.waits.length ≤ _; omega
  · split
    · show m.waits.length ≤ _; omega
    · split
      · show m.waits.length ≤ _; omega
      · split
        · show m.waits.length ≤ _; omega
        · split
          · show m.waits.length ≤ _; omega
          · split
            · split
              · show m.waits.length ≤ _; omega
              · split
                · show m.waits.length ≤ _; omega
                · exact key _ _ _ _ _ _ (by omega)
            · exact key _ _ _ _ _ _ (by omega)
/-- What a Commit that fails by the disk leaves of the store. -/
theorem commit_150 {sp : SP} {m : DM} {l : List Chg} (h : (commitM sp m l).1 = 150) : (commitM sp m l).2.1 = { sp with broken := true } := by
  have key : ∀ (L : List (Bs × Bs)) (half at_ e c : Nat) (b : Bs), (finM sp m L half at_ e c b).1 = 150 → (finM sp m L half at_ e c b).2.1 = { sp with broken := true } := by
    intro L half at_ e c b h
    unfold finM at h ⊢
    split at h
    · rw [if_pos (by assumption)]
      split at h
      · cases h
      · rw [if_neg (by assumption)]
    · rw [if_neg (by assumption)]
  unfold commitM at h ⊢
  split at h
  · rename_i e he
    have := badC_err he
    have h2 : e = 150 := h
    omega
  · rename_i hb
    split at h
    · cases h
    · rw [if_neg (by assumption)]
      split at h
      · cases h
      · rw [if_neg (by assumption)]
        split at h
        · rename_i hbr
          rw [if_pos hbr]
          show sp = { sp with broken := true }
          rw [← hbr]
        · rw [if_neg (by assumption)]
          split at h
          · cases h
          · rw [if_neg (by assumption)]
            split at h
            · rw [if_pos (by assumption)]
              split at h
              · cases h
              · rw [if_neg (by assumption)]
                split at h
                · cases h
                · rw [if_neg (by assumption)]
                  exact key _ _ _ _ _ _ h
            · rw [if_neg (by assumption)]
              exact key _ _ _ _ _ _ h
/-- A Commit to a broken store does nothing. -/
theorem commit_broken {sp : SP} {m : DM} {l : List Chg} (h : sp.broken = true) : (commitM sp m l).2 = (sp, m) := by
  unfold commitM
  split
  · rfl
  · split
    · rfl
    · split
      · rfl
      · first | rfl | rw [if_pos h]
/-- A store that lasts: it is whole, or broken, and whole behind whatever crash. -/
structure Inv (m : DM) (sp : SP) : Prop where
  cases_ : Good m sp ∨ (sp.broken = true ∧ ∀ k, ∃ sp', Good (crashM m k) sp')
  ok : m.Ok
  byt : BytM m
  seen : SeenM m
  spb : SPB m.n sp
  wl : m.waits.length ≤ 1000
theorem fuse_ok {m : DM} (h : m.Ok) {n : Int} (hn : n ≤ 9223372036854775807) : (fuseM m n).Ok :=
  ⟨h.n1, h.n2, h.kl, h.sl, by show -1 ≤ max n (-1); omega, by show max n (-1) ≤ _; omega, h.ws⟩
theorem Inv.fuse {m : DM} {sp : SP} (h : Inv m sp) {n : Int} (hn : n ≤ 9223372036854775807) : Inv (fuseM m n) sp := by
  refine ⟨?_, fuse_ok h.ok hn, h.byt, h.seen, h.spb, h.wl⟩
  rcases h.cases_ with g | ⟨hb, hk⟩
  · exact .inl ⟨fuse_ok g.ok hn, g.dead, g.wt, g.sk, g.k⟩
  · exact .inr ⟨hb, hk⟩
theorem Good.inv {m : DM} {sp : SP} (g : Good m sp) (hb : BytM m) : Inv m sp :=
  ⟨.inl g, g.ok, hb, by show m.seen = layW m.kept m.waits; rw [g.wt, g.sk]; rfl, good_spb g hb, by rw [g.wt]; exact Nat.zero_le _⟩
theorem SPB.break {n : Nat} {sp : SP} (h : SPB n sp) : SPB n { sp with broken := true } := ⟨h.half, h.e64, h.f1, h.f2, h.cnt, h.srt, h.ent, h.len⟩
theorem Inv.commit {m : DM} {sp : SP} (h : Inv m sp) (hn : m.n ≤ 1000) {l : List Chg} (hl : ∀ c ∈ l, Byt c.name ∧ Byt c.val) (ok : (commitM sp m l).2.2.Ok) : Inv (commitM sp m l).2.2 (commitM sp m l).2.1 := by
  have hby := h.byt.commit h.spb hl
  rcases h.cases_ with g | ⟨hb, hk⟩
  · rcases commit_good g l with ⟨-, g2, -⟩ | ⟨he, hk⟩ | ⟨-, -, he⟩
    · exact g2.inv hby
    · have hsp := commit_150 he
      refine ⟨.inr ⟨by rw [hsp], fun k => (hk k).imp fun sp' h => h.1⟩, ok, hby, h.seen.commit sp l, ?_, ?_⟩
      · rw [hsp, commitM_n]
        exact h.spb.break
      · have := commitM_wl' sp m l
        rw [g.wt] at this
        simp at this
        omega
    · rw [he]; exact h
  · rw [commit_broken hb]; exact h
theorem Inv.crash {m : DM} {sp : SP} (h : Inv m sp) (k : Int) : ∃ sp', openM (crashM m k) = (0, some sp', crashM m k) ∧ Inv (crashM m k) sp' := by
  rcases h.cases_ with g | ⟨hb, hk⟩
  · have g2 := crash_same g k
    exact ⟨sp, open_good g2, g2.inv (h.byt.crash k)⟩
  · obtain ⟨sp', g2⟩ := hk k
    exact ⟨sp', open_good g2, g2.inv (h.byt.crash k)⟩
end Go.St
namespace Go.Proofs.Ytombhkekocbfoaa
open Go.RowKit Go.Dr Go.Kd Go.St
noncomputable def c28 : Code := Try.f28.body.getD .skip
noncomputable def c8 : Code := behind 2 c28
noncomputable def c17 : Code := behind 7 c28
noncomputable def c30 : Code := behind 11 c28
set_option maxRecDepth 100000 in
/-- Commit's frame, written out. -/
def frm28 (u : Nat → Value) : Array Value := (u 0 :: u 1 :: u 2 :: u 3 :: u 4 :: u 5 :: u 6 :: u 7 :: u 8 :: u 9 :: u 10 :: u 11 :: u 12 :: u 13 :: u 14 :: u 15 :: u 16 :: u 17 :: u 18 :: u 19 :: u 20 :: u 21 :: u 22 :: u 23 :: u 24 :: u 25 :: u 26 :: u 27 :: u 28 :: u 29 :: u 30 :: u 31 :: u 32 :: u 33 :: u 34 :: u 35 :: u 36 :: u 37 :: u 38 :: u 39 :: u 40 :: u 41 :: u 42 :: u 43 :: u 44 :: u 45 :: u 46 :: u 47 :: u 48 :: u 49 :: u 50 :: u 51 :: u 52 :: u 53 :: u 54 :: u 55 :: u 56 :: u 57 :: u 58 :: u 59 :: u 60 :: u 61 :: u 62 :: u 63 :: u 64 :: u 65 :: u 66 :: u 67 :: u 68 :: u 69 :: u 70 :: u 71 :: u 72 :: u 73 :: u 74 :: u 75 :: u 76 :: u 77 :: u 78 :: u 79 :: u 80 :: u 81 :: u 82 :: u 83 :: u 84 :: u 85 :: u 86 :: u 87 :: u 88 :: u 89 :: u 90 :: u 91 :: u 92 :: u 93 :: u 94 :: u 95 :: u 96 :: u 97 :: u 98 :: u 99 :: u 100 :: u 101 :: u 102 :: u 103 :: u 104 :: u 105 :: u 106 :: u 107 :: u 108 :: u 109 :: u 110 :: u 111 :: u 112 :: u 113 :: u 114 :: u 115 :: u 116 :: u 117 :: u 118 :: u 119 :: u 120 :: u 121 :: u 122 :: u 123 :: u 124 :: u 125 :: u 126 :: u 127 :: u 128 :: u 129 :: u 130 :: u 131 :: u 132 :: u 133 :: u 134 :: u 135 :: u 136 :: u 137 :: u 138 :: u 139 :: u 140 :: u 141 :: u 142 :: u 143 :: u 144 :: u 145 :: u 146 :: u 147 :: u 148 :: u 149 :: u 150 :: u 151 :: u 152 :: u 153 :: u 154 :: u 155 :: u 156 :: u 157 :: u 158 :: u 159 :: u 160 :: u 161 :: u 162 :: u 163 :: u 164 :: u 165 :: u 166 :: u 167 :: u 168 :: u 169 :: u 170 :: u 171 :: u 172 :: u 173 :: []).toArray
set_option maxRecDepth 100000 in
theorem frm28_of {tm : Array Value} (h : tm.size = 174) : ∃ u : Nat → Value, tm = frm28 u := ⟨fun i => tm.getD i undef, arr_fun h⟩
/-- What Commit ends with. -/
def CEnd (w : World) (t r : Nat) (fp av : List Nat) (Q : Exit → Act → World → Prop) (o : Int × SP × DM) : Prop :=
  ∀ (tm' : Array Value) (W' : World) (fp' : List Nat), tm'.getD 4 undef = .int .i64 o.1 → DSt W' t r o.2.1 o.2.2 fp' av → Fr (t :: fp) w W' → News w fp fp' → Q .ret ⟨tm', []⟩ W'
theorem ChsA.sub' {w : World} {av av' : List Nat} {p : Option Addr} {n cap : Nat} {l : List Chg} (h : ChsA w av p n cap l) (hs : ∀ k ∈ av', k ∈ av) : ChsA w av' p n cap l := by
  obtain ⟨vs, h1, h2, h3, h4⟩ := h
  exact ⟨vs, h1, h2, fun u hu q m d e h0 k hk hf => h3 u hu q m d e h0 k hk (hs k hf), fun h0 k hk hf => h4 h0 k hk (hs k hf)⟩
/-- A disk's blocks are written: what lies elsewhere stays. -/
theorem ChsA.frd {w w' : World} {t : Nat} {av fp fp' : List Nat} {p : Option Addr} {n cap : Nat} {l : List Chg} (h : ChsA w (t :: (av ++ fp)) p n cap l) (F : Fr (t :: fp) w w') (N : News w fp fp') : ChsA w' (t :: (av ++ fp')) p n cap l :=
  h.fr (F.mono fun k hk _ => by
    rcases List.mem_cons.1 hk with rfl | hk
    · simp
    · simp [hk]) fun k hk => by
    rcases List.mem_cons.1 hk with rfl | hk
    · exact .inl (by simp)
    · rcases List.mem_append.1 hk with hk | hk
      · exact .inl (by simp [hk])
      · rcases N k hk with h | h
        · exact .inl (by simp [h])
        · exact .inr h
section
variable {w : World}
set_option maxRecDepth 100000 in
set_option maxHeartbeats 8000000 in
theorem c30_f {Q : Exit → Act → World → Prop} {tm : Array Value} {w0 W : World} {t r half at_ e c nb cb k nn cn : Nat} {qb qn : Option Addr} {sp : SP} {m : DM} {fp av : List Nat} {b : Bs} {next : List (Bs × Bs)} (sz : tm.size = 174)
    (s0 : tm.getD 0 undef = .pointer (some ⟨t, 0, none⟩)) (s6 : tm.getD 6 undef = .slice qn nn cn) (s8 : tm.getD 8 undef = .int .i64 (half : Int)) (s9 : tm.getD 9 undef = .int .i64 (at_ : Int)) (s10 : tm.getD 10 undef = .int .u64 (e : Int)) (s11 : tm.getD 11 undef = .int .i64 (c : Int)) (s12 : tm.getD 12 undef = .slice qb nb cb)
    (T : DSt W t r sp m fp av) (C : ChsA W (t :: (av ++ fp)) qn nn cn (asC next)) (S : Sl .u8 W qb nb cb b) (hpf : ∀ g, qb.map (·.block) = some g → g ∉ fp ∧ g ≠ t) (hk : nb = 64 * k) (hh : half ≤ 1) (hat : 1 ≤ at_) (hfit : at_ + k ≤ m.n / 2) (hN1 : m.n ≤ 1024) (he : e < 18446744073709551616) (hc : c < 4294967296) (hwl : m.waits.length ≤ 500000) (hbr : sp.broken = false)
    (F0 : Fr [] w0 W) (HQ : CEnd w0 t r fp av Q (finM sp m next half at_ e c b)) : c30.wp Try.prog Q ⟨tm, []⟩ W := by
  obtain ⟨u, rfl⟩ := frm28_of sz
  have a0 : u 0 = _ := s0
  have a6 : u 6 = _ := s6
  have a8 : u 8 = _ := s8
  have a9 : u 9 = _ := s9
  have a10 : u 10 = _ := s10
  have a11 : u 11 = _ := s11
  have a12 : u 12 = _ := s12
  have HQ := Lib.hid HQ
  have HF0 := Lib.hid F0
  have HC := Lib.hid C
  have HS := Lib.hid S
  have HPF := Lib.hid hpf
  have HK := Lib.hid hk
  have hbl : b.length / 64 = k := by rw [S.len]; omega
  have HBL := Lib.hid hbl
  have HT := Lib.hid T
  obtain ⟨q, n, d, ft, C0⟩ := T.ex
  obtain ⟨SC, hSC⟩ : ∃ SC, SC = dsC r sp.half sp.epoch sp.count sp.fin q n d sp.broken := ⟨_, rfl⟩
  rw [← hSC] at ft
  have szC : SC.size = 7 := by rw [hSC]; rfl
  have x0 := Array.getElem?_eq_some_iff.1 (show SC[0]? = some (.pointer (some ⟨r, 0, none⟩)) by rw [hSC]; rfl)
  have HX0 := Lib.hid x0
  have HSC := Lib.hid hSC
  have HC0 := Lib.hid C0
  have HFT := Lib.hid ft
  have htlt := World.at_lt ft
  have hq : (nb : Int).tdiv 64 = (k : Int) := by rw [Int.tdiv_eq_ediv_of_nonneg (by omega)]; omega
  clear s0 s6 s8 s9 s10 s11 s12 sz T C S hpf hbl C0 hSC F0 ft x0 hk
  conv => arg 2; whnf
  unfold frm28
  rw [a0, a6, a8, a9, a10, a11, a12]
  clear a0 a6 a8 a9 a10 a11 a12
  have hnk : nb ≤ 1000000 := by have := HK.out; omega
  go_wp2_with fail
  obtain ⟨pos, hpos⟩ : ∃ pos, half * (m.n / 2) + at_ = pos := ⟨_, rfl⟩
  have hposb : pos + k ≤ m.n := by
    rcases Nat.le_one_iff_eq_zero_or_eq_one.1 hh with h | h <;> subst h <;> omega
  refine (dput_f (s := t) (r := r) (at_ := at_) (h2 := half) HFT.out szC HX0.out HT.out.tf HT.out.disk HS.out (fun g hg => (HPF.out g hg).1) HK.out (by omega) hpos hposb hh (by omega) (by omega)).mono ?_
  rintro en w1 ⟨rfl, fp1, D1, F1, N1⟩
  obtain ⟨P1, hP1⟩ : ∃ P1, P1 = putM m pos b := ⟨_, rfl⟩
  have hn1 := (putM_nn m pos b).1
  have hw1 := (putM_nn m pos b).2
  rw [← hP1] at D1 hn1 hw1 ⊢
  rw [HBL.out] at hw1
  have HP1 := Lib.hid hP1
  have HD1 := Lib.hid D1
  have HF1 := Lib.hid F1
  have HN1 := Lib.hid N1
  have HPOS := Lib.hid hpos
  have f1 := F1.get HFT.out HT.out.tf
  have HFT1 := Lib.hid f1
  have HTF1 := Lib.hid (show t ∉ fp1 from fun h => by
    rcases N1 t h with h1 | h1
    · exact HT.out.tf h1
    · omega)
  have HFW1 := Lib.hid (show Fr (t :: fp) w0 w1 from (HF0.out.mono (fp' := t :: fp) (by simp)).seq F1 fun k hk _ => List.mem_cons_of_mem _ hk)
  have HNW1 := Lib.hid (show News w0 fp fp1 from fun k hk => by
    rcases N1 k hk with h | h
    · exact .inl h
    · exact .inr (Nat.le_trans HF0.out.size h))
  have HCC := Lib.hid (HC.out.frd (F1.mono fun k hk _ => List.mem_cons_of_mem _ hk) N1)
  have HCC0 := Lib.hid (HC0.out.frd (F1.mono fun k hk _ => List.mem_cons_of_mem _ hk) N1)
  have HN1M := Lib.hid hn1
  obtain ⟨b1, hb1⟩ : ∃ b1, b1 = P1.1 := ⟨_, rfl⟩
  rw [← hb1]
  have HB1 := Lib.hid hb1
  have t1 := World.at_lt f1
  clear D1 F1 N1 hpos hP1 hb1 hn1
  cases b1 with
  | false =>
    have hfin : finM sp m next half at_ e c b = (150, { sp with broken := true }, P1.2) := by
      rw [finM, HPOS.out, ← HP1.out, if_neg (by rw [← HB1.out]; simp)]
    have HFIN := Lib.hid hfin
    clear hfin
    go_wp2_with fail
    have hQ := HQ.out
    rw [HFIN.out] at hQ
    have hset : SC.setIfInBounds 6 (.bool true) = dsC r sp.half sp.epoch sp.count sp.fin q n d true := by rw [HSC.out]; rfl
    rw [hset]
    have FP : Fr (t :: fp1) w1 (w1.put t (.cells (dsC r sp.half sp.epoch sp.count sp.fin q n d true) 56 (0, 0))) := (Fr.refl _ _).put t _ (fun _ => by simp)
    refine hQ _ _ fp1 rfl ⟨⟨q, n, d, World.at_put_same _ _ _ t1, HCC0.out.frd FP fun k hk => .inl hk⟩, HTF1.out, HD1.out.frame (gp := [t]) ((Fr.refl [t] w1).put t _ (fun _ => by simp)) (fun k hk hm => by
      rw [List.mem_singleton] at hm
      subst hm
      exact HTF1.out hk)⟩ (HFW1.out.put t _ fun _ => by simp) HNW1.out
  | true =>
    go_wp2_with fail
    obtain ⟨f2, hf2⟩ : ∃ f2, f2 = at_ + k := ⟨_, rfl⟩
    rw [show (at_ : Int) + (k : Int) = (f2 : Int) by omega]
    have HF2E := Lib.hid hf2
    have hf2b : f2 ≤ 512 := by omega
    clear hf2
    refine (dhead_f (e := e) (c := c) (n := f2) he hc (by omega)).mono ?_
    rintro en w2 ⟨q3, c3, rfl, B3⟩
    have HB3 := Lib.hid B3
    have HF3 := Lib.hid B3.own.fr
    have f2' := B3.own.fr.get HFT1.out (by simp)
    have HFT2 := Lib.hid f2'
    clear B3 f1 t1
    go_wp2_with fail
    have hd2 := dput_f (s := t) (r := r) (at_ := 0) (h2 := half) (k := 1) (pos := half * (m.n / 2)) HFT2.out szC HX0.out HTF1.out (HD1.out.fr0 HF3.out) HB3.out.sl (fun g hg h => by
      have h1 := (HB3.out.new g hg).1
      have h2 := HD1.out.lt g h
      omega) (by omega) (by omega) (by rw [HN1M.out, Nat.add_zero]) (by rw [HN1M.out]; rcases Nat.le_one_iff_eq_zero_or_eq_one.1 hh with h | h <;> subst h <;> omega) hh (by omega) (by omega)
    rw [show ((0 : Nat) : Int) = 0 from rfl] at hd2
    refine hd2.mono ?_
    clear hd2
    rintro en w3 ⟨rfl, fp3, D3, F3, N3⟩
    obtain ⟨P2, hP2⟩ : ∃ P2, P2 = putM P1.2 (half * (m.n / 2)) (headB e c f2) := ⟨_, rfl⟩
    rw [← hP2] at D3 ⊢
    have HP2 := Lib.hid hP2
    have HD3 := Lib.hid D3
    have f3 := F3.get HFT2.out HTF1.out
    have HFT3 := Lib.hid f3
    have HTF3 := Lib.hid (show t ∉ fp3 from fun h => by
      rcases N3 t h with h1 | h1
      · exact HTF1.out h1
      · have := World.at_lt HFT2.out; omega)
    have HFW3 := Lib.hid (show Fr (t :: fp) w0 w3 from (HFW1.out.seq HF3.out (by simp)).seq F3 fun k hk hl => by
      rcases HNW1.out k hk with h | h
      · exact List.mem_cons_of_mem _ h
      · omega)
    have HNW3 := Lib.hid (show News w0 fp fp3 from fun k hk => by
      rcases N3 k hk with h | h
      · exact HNW1.out k h
      · exact .inr (Nat.le_trans (Nat.le_trans HFW1.out.size HF3.out.size) h))
    have HCC3 := Lib.hid ((HCC.out.fr0 HF3.out).frd (F3.mono fun k hk _ => List.mem_cons_of_mem _ hk) N3)
    have HCC03 := Lib.hid ((HCC0.out.fr0 HF3.out).frd (F3.mono fun k hk _ => List.mem_cons_of_mem _ hk) N3)
    obtain ⟨b2, hb2⟩ : ∃ b2, b2 = P2.1 := ⟨_, rfl⟩
    rw [← hb2]
    have HB2 := Lib.hid hb2
    have t3 := World.at_lt f3
    have HF2B := Lib.hid (show at_ + b.length / 64 = f2 by rw [HBL.out]; exact HF2E.out.symm)
    clear D3 F3 N3 hP2 hb2 f2'
    cases b2 with
    | false =>
      have hfin : finM sp m next half at_ e c b = (150, { sp with broken := true }, P2.2) := by
        rw [finM, HPOS.out, ← HP1.out, if_pos (by rw [← HB1.out]), HF2B.out, ← HP2.out, if_neg (by rw [← HB2.out]; simp)]
      have HFIN := Lib.hid hfin
      clear hfin
      go_wp2_with fail
      have hQ := HQ.out
      rw [HFIN.out] at hQ
      have hset : SC.setIfInBounds 6 (.bool true) = dsC r sp.half sp.epoch sp.count sp.fin q n d true := by rw [HSC.out]; rfl
      rw [hset]
      exact hQ _ _ fp3 rfl ⟨⟨q, n, d, World.at_put_same _ _ _ t3, HCC03.out.frd ((Fr.refl (t :: fp3) _).put t _ (fun _ => by simp)) fun k hk => .inl hk⟩, HTF3.out, HD3.out.frame (gp := [t]) ((Fr.refl [t] w3).put t _ (fun _ => by simp)) (fun k hk hm => by
        rw [List.mem_singleton] at hm
        subst hm
        exact HTF3.out hk)⟩ (HFW3.out.put t _ fun _ => by simp) HNW3.out
    | true =>
      have hfin : finM sp m next half at_ e c b = (0, ⟨half, e, c, f2, next, false⟩, P2.2) := by
        rw [finM, HPOS.out, ← HP1.out, if_pos (by rw [← HB1.out]), HF2B.out, ← HP2.out, if_pos (by rw [← HB2.out])]
      have HFIN := Lib.hid hfin
      clear hfin
      go_wp2_with fail
      have hQ := HQ.out
      rw [HFIN.out] at hQ
      have hset : ((((SC.setIfInBounds 1 (.int .i64 (half : Int))).setIfInBounds 2 (.int .u64 (e : Int))).setIfInBounds 3 (.int .i64 (c : Int))).setIfInBounds 4 (.int .i64 (f2 : Int))).setIfInBounds 5 (.slice qn nn cn) = dsC r half e c f2 qn nn cn false := by rw [HSC.out, hbr]; rfl
      rw [hset]
      exact hQ _ _ fp3 rfl ⟨⟨qn, nn, cn, World.at_put_same _ _ _ t3, HCC3.out.frd ((Fr.refl (t :: fp3) _).put t _ (fun _ => by simp)) fun k hk => .inl hk⟩, HTF3.out, HD3.out.frame (gp := [t]) ((Fr.refl [t] w3).put t _ (fun _ => by simp)) (fun k hk hm => by
        rw [List.mem_singleton] at hm
        subst hm
        exact HTF3.out hk)⟩ (HFW3.out.put t _ fun _ => by simp) HNW3.out
end
end Go.Proofs.Ytombhkekocbfoaa
namespace Go.Proofs.Ytombhkekocbfoaa
open Go.RowKit Go.Dr Go.Kd Go.St
section
variable {w : World}
theorem DSt.fr0 {w w' : World} {t r : Nat} {sp : SP} {m : DM} {fp av : List Nat} (T : DSt w t r sp m fp av) (F : Fr [] w w') : DSt w' t r sp m fp av := by
  obtain ⟨⟨q, n, d, h1, h2⟩, h3, h4⟩ := T
  exact ⟨⟨q, n, d, F.get h1 (by simp), h2.fr0 F⟩, h3, h4.fr0 F⟩
theorem rec_blocks {e k : Nat} {P : Bs} {nb : Nat} (h : (recB e k P).length = nb) : nb = 64 * (nb / 64) := by
  rw [recB_length] at h
  omega
set_option maxRecDepth 100000 in
set_option maxHeartbeats 8000000 in
theorem c17_f {Q : Exit → Act → World → Prop} {tm : Array Value} {w0 W : World} {t r n cap nn cn : Nat} {p qn : Option Addr} {sp : SP} {m : DM} {fp av : List Nat} {l : List Chg} {next : List (Bs × Bs)} (sz : tm.size = 174)
    (s0 : tm.getD 0 undef = .pointer (some ⟨t, 0, none⟩)) (s1 : tm.getD 1 undef = .slice p n cap) (s6 : tm.getD 6 undef = .slice qn nn cn)
    (T : DSt W t r sp m fp av) (K : SPB m.n sp) (C : Chs W p n cap l) (hok : ∀ c ∈ l, ChgB c) (hn : n ≤ 64) (Cn : ChsA W (t :: (av ++ fp)) qn nn cn (asC next)) (hokn : ∀ x ∈ next, EntOk x) (hnn : nn ≤ 64) (hN1 : m.n ≤ 1024) (hwl : m.waits.length ≤ 500000) (hbr : sp.broken = false)
    (F0 : Fr [] w0 W) (hQ0 : CEnd w0 t r fp av Q (if m.n / 2 < sp.fin + (recB sp.epoch (sp.count + 1) (payB l)).length / 64 then
            if sp.epoch = 18446744073709551615 then (7, sp, m)
            else if m.n / 2 < 1 + (recB (sp.epoch + 1) 1 (payB (asC next))).length / 64 then (4, sp, m)
            else finM sp m next (1 - sp.half) 1 (sp.epoch + 1) 1 (recB (sp.epoch + 1) 1 (payB (asC next)))
          else finM sp m next sp.half sp.fin sp.epoch (sp.count + 1) (recB sp.epoch (sp.count + 1) (payB l)))) : c17.wp Try.prog Q ⟨tm, []⟩ W := by
  obtain ⟨u, rfl⟩ := frm28_of sz
  have a0 : u 0 = _ := s0
  have a1 : u 1 = _ := s1
  have a6 : u 6 = _ := s6
  have HQ := Lib.hid hQ0
  have HF0 := Lib.hid F0
  have HC := Lib.hid C
  have HCN := Lib.hid Cn
  have HOK := Lib.hid hok
  have HOKN := Lib.hid (asC_chgB hokn)
  have HPL := Lib.hid (payB_len (fun c hc => (hok c hc).ok) (by rw [C.len]; exact hn))
  have hcnl : (asC next).length = nn := Cn.chs.len
  have HPLN := Lib.hid (payB_len (fun c hc => (asC_chgB hokn c hc).ok) (by rw [hcnl]; exact hnn))
  have HPB := Lib.hid (byt_payB hok (by rw [C.len]; exact hn))
  have HPBN := Lib.hid (byt_payB (asC_chgB hokn) (by rw [hcnl]; exact hnn))
  have HT := Lib.hid T
  have HBR := Lib.hid hbr
  obtain ⟨q, nL, d, ft, C0⟩ := T.ex
  obtain ⟨half, hhalf⟩ : ∃ half, half = sp.half := ⟨_, rfl⟩
  obtain ⟨e, he⟩ : ∃ e, e = sp.epoch := ⟨_, rfl⟩
  obtain ⟨c, hc⟩ : ∃ c, c = sp.count := ⟨_, rfl⟩
  obtain ⟨f, hf⟩ : ∃ f, f = sp.fin := ⟨_, rfl⟩
  have HNM := Lib.hid (show half = sp.half ∧ e = sp.epoch ∧ c = sp.count ∧ f = sp.fin from ⟨hhalf, he, hc, hf⟩)
  have k1 := K.half
  have k2 := K.e64
  have k3 := K.f1
  have k4 := K.f2
  have k5 := K.cnt
  rw [← hhalf, ← he, ← hc, ← hf] at ft
  rw [← hhalf] at k1
  rw [← he] at k2
  rw [← hf] at k3 k4 k5
  rw [← hc] at k5
  obtain ⟨SC, hSC⟩ : ∃ SC, SC = dsC r half e c f q nL d sp.broken := ⟨_, rfl⟩
  rw [← hSC] at ft
  have szC : SC.size = 7 := by rw [hSC]; rfl
  obtain ⟨x0', x0⟩ := Array.getElem?_eq_some_iff.1 (show SC[0]? = some (.pointer (some ⟨r, 0, none⟩)) by rw [hSC]; rfl)
  obtain ⟨x1', x1⟩ := Array.getElem?_eq_some_iff.1 (show SC[1]? = some (.int .i64 half) by rw [hSC]; rfl)
  obtain ⟨x2', x2⟩ := Array.getElem?_eq_some_iff.1 (show SC[2]? = some (.int .u64 e) by rw [hSC]; rfl)
  obtain ⟨x3', x3⟩ := Array.getElem?_eq_some_iff.1 (show SC[3]? = some (.int .i64 c) by rw [hSC]; rfl)
  obtain ⟨x4', x4⟩ := Array.getElem?_eq_some_iff.1 (show SC[4]? = some (.int .i64 f) by rw [hSC]; rfl)
  obtain ⟨R, fr, szR, ⟨y0', y0⟩, hrf⟩ := T.disk.hd
  obtain ⟨hs, hhs⟩ : ∃ hs, hs = m.n / 2 := ⟨_, rfl⟩
  have hq : (m.n : Int).tdiv 2 = (hs : Int) := by rw [Int.tdiv_eq_ediv_of_nonneg (by omega)]; omega
  have HHS := Lib.hid hhs
  have hhsb : hs ≤ 512 := by omega
  rw [← hhs] at k4
  have tt := World.at_lt ft
  have tr := World.at_lt fr
  have HFT := Lib.hid ft
  have hlow : ∀ k ∈ t :: fp, k < W.heap.size := fun k hk => by
    rcases List.mem_cons.1 hk with rfl | hk
    · exact tt
    · exact T.disk.lt k hk
  have HLOW := Lib.hid hlow
  clear hQ0 s0 s1 s6 sz T K C hok Cn hokn C0 hSC F0 hhs hhalf he hc hf hbr hcnl hlow
  conv => arg 2; whnf
  unfold frm28
  rw [a0, a1, a6]
  clear a0 a1 a6
  go_upto_region 18 with (fail)
  refine drawn_begin 21 (fun w' => w'.blk t = some (.cells SC 56)) (by kernel_rfl) ?_
  refine drawn_reads (fuel := 0) [0, 1, 2, 3, 4, 5, 6, 7, 8, 9, 10, 11, 12, 13, 14, 15, 16, 17, 18, 19, 20] rfl (by kernel_rfl) ft ?_
  repeat (first | (refine rowK_step2 rfl rfl (fun K hK => ?_); go_wp2) | (refine rowK_step rfl (fun K hK => ?_); go_simp; refine hK _ ?_; clear hK K))
  refine rowK_nil ⟨fun w' e1 => ?_, ?_⟩
  · clear ft tt
    have tt := World.at_lt e1
    repeat (first | (refine rowWp_step2 rfl rfl (fun K hK => ?_); go_wp2) | (refine rowWp_step rfl (fun K hK => ?_); go_simp; refine hK _ ?_; clear hK K))
    exact rowWp_nil rfl
  refine drawn_end (ol := []) rfl (by kernel_rfl) ?_
  intro K hK
  clear ft tt fr tr
  go_wp2_with fail
  refine (dpay_f (HC.out.fr0 (Fr.refl [] W).drew) HOK.out hn).mono ?_
  rintro en w1 ⟨q1, m1, c1, rfl, B1⟩
  have hm1 : (payB l).length = m1 := B1.len
  have hm1b : m1 ≤ 300000 := by rw [← hm1]; exact HPL.out
  have HB1 := Lib.hid B1
  have HFW1 := Lib.hid ((Fr.refl [] W).drew.trans B1.own.fr)
  obtain ⟨ck, hck⟩ : ∃ ck, ck = c + 1 := ⟨_, rfl⟩
  have hckb : ck ≤ 1000 := by omega
  have HCK := Lib.hid hck
  have hci : (c : Int) + 1 = (ck : Int) := by omega
  clear B1 hm1 hck
  go_wp2_with fail
  try rw [hci]
  refine (drec_f (e := e) (k := ck) k2 (by omega) HB1.out.sl HPB.out (by omega)).mono ?_
  rintro en w2 ⟨q2, m2, c2, rfl, B2⟩
  have hm2 := rec_blocks B2.len
  have HL2 := Lib.hid (show (recB e ck (payB l)).length = m2 from B2.len)
  have hm2b : m2 ≤ 400000 := by
    have h1 := HB1.out.len
    have h2 : (recB e ck (payB l)).length = m2 := B2.len
    rw [recB_length] at h2
    omega
  obtain ⟨kb, hkb⟩ : ∃ kb, kb = m2 / 64 := ⟨_, rfl⟩
  rw [← hkb] at hm2
  have hq2 : (m2 : Int).tdiv 64 = (kb : Int) := by rw [Int.tdiv_eq_ediv_of_nonneg (by omega)]; omega
  have HB2 := Lib.hid B2
  have HKB := Lib.hid hkb
  have HM2 := Lib.hid hm2
  have HFW2 := Lib.hid (HFW1.out.trans B2.own.fr)
  have hkb2 : kb ≤ 10000 := by omega
  have HPF2 := Lib.hid (show ∀ g, q2.map (·.block) = some g → g ∉ fp ∧ g ≠ t from fun g hg => by
    have h1 := (HB2.out.new g hg).1
    have h2 := HFW1.out.size
    exact ⟨fun h => by have := HLOW.out g (List.mem_cons_of_mem _ h); omega, fun h => by have := HLOW.out t (by simp); omega⟩)
  have hQ1 := HQ.out
  rw [← HHS.out, ← HNM.out.2.1, ← HNM.out.2.2.1, ← HNM.out.2.2.2, ← HNM.out.1, ← HCK.out, HL2.out, ← HKB.out] at hQ1
  have HQ := Lib.hid hQ1
  clear B2 hkb hm2 hQ1
  go_upto_region 20 with (fail)
  rename_i K30 h30 Kc hc2
  have H30 := Lib.hid h30
  clear h30
  by_cases hbig : hs < f + kb
  · have d1 : decide ((hs : Int) < (f : Int) + (kb : Int)) = true := by rw [decide_eq_true_eq]; omega
    have d1' : (hs : Int) < (f : Int) + (kb : Int) := by omega
    have hQ2 := HQ.out
    rw [if_pos hbig] at hQ2
    by_cases hemax : e = 18446744073709551615
    · have de : ((e : Int) == 18446744073709551615) = true := by rw [beq_iff_eq]; omega
      rw [if_pos hemax] at hQ2
      have HQ3 := Lib.hid hQ2
      clear hQ2 hemax
      go_wp2_with fail
      exact HQ3.out _ _ fp rfl (HT.out.fr0 HFW2.out) ((HF0.out.trans HFW2.out).mono (by simp)) (fun k hk => .inl hk)
    · have de : ((e : Int) == 18446744073709551615) = false := by rw [beq_eq_false_iff_ne]; omega
      rw [if_neg hemax] at hQ2
      have HQ3 := Lib.hid hQ2
      have heb : e < 18446744073709551615 := by omega
      obtain ⟨e2, he2⟩ : ∃ e2, e2 = e + 1 := ⟨_, rfl⟩
      have hei : (e : Int) + 1 = (e2 : Int) := by omega
      have he2b : e2 < 18446744073709551616 := by omega
      have HE2 := Lib.hid he2
      obtain ⟨h1, hh1⟩ : ∃ h1, h1 = 1 - half := ⟨_, rfl⟩
      have hhi : 1 - (half : Int) = (h1 : Int) := by omega
      have hh1b : h1 ≤ 1 := by omega
      have HH1 := Lib.hid hh1
      clear hQ2 hemax he2 hh1
      go_wp2_with fail
      refine (dpay_f (HCN.out.chs.fr0 HFW2.out) HOKN.out hnn).mono ?_
      rintro en w3 ⟨q3, m3, c3, rfl, B3⟩
      have hm3b : m3 ≤ 300000 := by rw [← B3.len]; exact HPLN.out
      have HB3 := Lib.hid B3
      have HFW3 := Lib.hid (HFW2.out.trans B3.own.fr)
      clear B3
      go_wp2_with fail
      have hrec := drec_f (w := w3) (e := e2) (k := 1) he2b (by omega) HB3.out.sl HPBN.out (by omega)
      rw [show ((1 : Nat) : Int) = 1 from rfl] at hrec
      refine hrec.mono ?_
      clear hrec
      rintro en w4 ⟨q4, m4, c4, rfl, B4⟩
      have hm4 := rec_blocks B4.len
      have HL4 := Lib.hid (show (recB e2 1 (payB (asC next))).length = m4 from B4.len)
      have hm4b : m4 ≤ 400000 := by
        have h1 := HB3.out.len
        have h2 : (recB e2 1 (payB (asC next))).length = m4 := B4.len
        rw [recB_length] at h2
        omega
      obtain ⟨kd, hkd⟩ : ∃ kd, kd = m4 / 64 := ⟨_, rfl⟩
      rw [← hkd] at hm4
      have hq4 : (m4 : Int).tdiv 64 = (kd : Int) := by rw [Int.tdiv_eq_ediv_of_nonneg (by omega)]; omega
      have HB4 := Lib.hid B4
      have HM4 := Lib.hid hm4
      have HFW4 := Lib.hid (HFW3.out.trans B4.own.fr)
      have hkd2 : kd ≤ 10000 := by omega
      have HPF4 := Lib.hid (show ∀ g, q4.map (·.block) = some g → g ∉ fp ∧ g ≠ t from fun g hg => by
        have h1 := (HB4.out.new g hg).1
        have h2 := HFW3.out.size
        exact ⟨fun h => by have := HLOW.out g (List.mem_cons_of_mem _ h); omega, fun h => by have := HLOW.out t (by simp); omega⟩)
      have hQ4 := HQ3.out
      rw [← HE2.out, HL4.out, ← hkd, ← HH1.out] at hQ4
      have HQ4 := Lib.hid hQ4
      clear B4 hkd hm4 hQ4 d1 d1' de
      by_cases h4 : hs < 1 + kd
      · have d1 : decide ((hs : Int) < 1 + (kd : Int)) = true := by rw [decide_eq_true_eq]; omega
        have d1' : (hs : Int) < 1 + (kd : Int) := by omega
        have hQ5 := HQ4.out
        rw [if_pos h4] at hQ5
        have HQ5 := Lib.hid hQ5
        clear hQ5
        go_wp2_with fail
        exact HQ5.out _ _ fp rfl (HT.out.fr0 HFW4.out) ((HF0.out.trans HFW4.out).mono (by simp)) (fun k hk => .inl hk)
      · have d1 : decide ((hs : Int) < 1 + (kd : Int)) = false := by rw [decide_eq_false_iff_not]; omega
        have d1' : ¬ (hs : Int) < 1 + (kd : Int) := by omega
        have hQ5 := HQ4.out
        rw [if_neg h4] at hQ5
        have HQ5 := Lib.hid hQ5
        clear hQ5
        go_wp2_with fail
        refine H30.out _ _ ?_
        exact Eq.mp (congrArg (fun c => Code.wp Try.prog c _ _ _) (show c30 = _ from by kernel_rfl)) (c30_f (w0 := w0) (sp := sp) (m := m) (fp := fp) (av := av) (at_ := 1) (c := 1) rfl rfl rfl rfl rfl rfl rfl rfl (HT.out.fr0 HFW4.out) (HCN.out.fr0 HFW4.out) HB4.out.sl HPF4.out HM4.out hh1b (by omega) (by rw [← HHS.out]; omega) hN1 he2b (by omega) hwl HBR.out (HF0.out.trans HFW4.out) HQ5.out)
  · have d1 : decide ((hs : Int) < (f : Int) + (kb : Int)) = false := by rw [decide_eq_false_iff_not]; omega
    have d1' : ¬ (hs : Int) < (f : Int) + (kb : Int) := by omega
    have hQ2 := HQ.out
    rw [if_neg hbig] at hQ2
    have HQ3 := Lib.hid hQ2
    clear hQ2
    go_wp2_with fail
    refine H30.out _ _ ?_
    exact Eq.mp (congrArg (fun c => Code.wp Try.prog c _ _ _) (show c30 = _ from by kernel_rfl)) (c30_f (w0 := w0) (sp := sp) (m := m) (fp := fp) (av := av) rfl rfl rfl rfl rfl rfl rfl rfl (HT.out.fr0 HFW2.out) (HCN.out.fr0 HFW2.out) HB2.out.sl HPF2.out HM2.out k1 k3 (by rw [← HHS.out]; omega) hN1 k2 (by omega) hwl HBR.out (HF0.out.trans HFW2.out) HQ3.out)
end
end Go.Proofs.Ytombhkekocbfoaa
namespace Go.Proofs.Ytombhkekocbfoaa
open Go.RowKit Go.Dr Go.Kd Go.St
/-- What the document's Commit answers. -/
def DCommR (w : World) (t r : Nat) (fp av : List Nat) (en : Ending) (w' : World) (o : Int × SP × DM) : Prop :=
  ∃ fp', en = .returned (.int .i64 o.1) ∧ DSt w' t r o.2.1 o.2.2 fp' av ∧ Fr (t :: fp) w w' ∧ News w fp fp'
theorem str_empty (l : Bs) : (strB l).toList = [] ↔ l = [] := by
  rw [ByteArray.toList_eq]
  simp [strB]
section
variable {w : World}
set_option maxRecDepth 100000 in
set_option maxHeartbeats 8000000 in
theorem c8_f {Q : Exit → Act → World → Prop} {tm : Array Value} {w0 W : World} {t r n cap : Nat} {p : Option Addr} {sp : SP} {m : DM} {fp av : List Nat} {l : List Chg} (sz : tm.size = 174)
    (s0 : tm.getD 0 undef = .pointer (some ⟨t, 0, none⟩)) (s1 : tm.getD 1 undef = .slice p n cap)
    (T : DSt W t r sp m fp av) (K : SPB m.n sp) (C : ChsA W (t :: (av ++ fp)) p n cap l) (hok : ∀ c ∈ l, ChgB c) (hn : n ≤ 1000000) (hav : ∀ b ∈ t :: (av ++ fp), b < W.heap.size) (hN1 : m.n ≤ 1024) (hwl : m.waits.length ≤ 500000)
    (F0 : Fr [] w0 W) (hQ0 : CEnd w0 t r fp av Q (if 64 < l.length then (4, sp, m)
          else if 64 < (allC sp.L l).length then (4, sp, m)
          else if sp.broken then (150, sp, m)
          else if l = [] then (0, sp, m)
          else if m.n / 2 < sp.fin + (recB sp.epoch (sp.count + 1) (payB l)).length / 64 then
            if sp.epoch = 18446744073709551615 then (7, sp, m)
            else if m.n / 2 < 1 + (recB (sp.epoch + 1) 1 (payB (asC (allC sp.L l)))).length / 64 then (4, sp, m)
            else finM sp m (allC sp.L l) (1 - sp.half) 1 (sp.epoch + 1) 1 (recB (sp.epoch + 1) 1 (payB (asC (allC sp.L l))))
          else finM sp m (allC sp.L l) sp.half sp.fin sp.epoch (sp.count + 1) (recB sp.epoch (sp.count + 1) (payB l)))) : c8.wp Try.prog Q ⟨tm, []⟩ W := by
  obtain ⟨u, rfl⟩ := frm28_of sz
  have a0 : u 0 = _ := s0
  have a1 : u 1 = _ := s1
  have HQ := Lib.hid hQ0
  have HF0 := Lib.hid F0
  have HC := Lib.hid C
  have hll : l.length = n := C.chs.len
  have HLL := Lib.hid hll
  have HOK := Lib.hid hok
  have HT := Lib.hid T
  have HK := Lib.hid K
  have HAV := Lib.hid hav
  obtain ⟨q, nL, d, ft, C0⟩ := T.ex
  have hcl : (asC sp.L).length = nL := C0.chs.len
  have hnL : nL ≤ 64 := by rw [← hcl, asC, List.length_map]; exact K.len
  obtain ⟨br, hbr⟩ : ∃ br, br = sp.broken := ⟨_, rfl⟩
  have HBR := Lib.hid hbr
  obtain ⟨SC, hSC⟩ : ∃ SC, SC = dsC r sp.half sp.epoch sp.count sp.fin q nL d br := ⟨_, rfl⟩
  rw [← hbr, ← hSC] at ft
  have szC : SC.size = 7 := by rw [hSC]; rfl
  obtain ⟨x5', x5⟩ := Array.getElem?_eq_some_iff.1 (show SC[5]? = some (.slice q nL d) by rw [hSC]; rfl)
  obtain ⟨x6', x6⟩ := Array.getElem?_eq_some_iff.1 (show SC[6]? = some (.bool br) by rw [hSC]; rfl)
  have tt := World.at_lt ft
  have HC0 := Lib.hid C0
  rw [hll] at hQ0
  clear HQ
  have HQ := Lib.hid hQ0
  clear hQ0 s0 s1 sz F0 T K C hok hav C0 hbr hSC hcl hll
  conv => arg 2; whnf
  unfold frm28
  rw [a0, a1]
  clear a0 a1
  by_cases h64 : 64 < n
  · have d64 : decide ((64 : Int) < (n : Int)) = true := by rw [decide_eq_true_eq]; omega
    have hQ1 := HQ.out
    rw [if_pos h64] at hQ1
    have HQ1 := Lib.hid hQ1
    clear hQ1
    go_wp2_with fail
    exact HQ1.out _ _ fp rfl HT.out (HF0.out.mono (by simp)) (fun k hk => .inl hk)
  have d64 : decide ((64 : Int) < (n : Int)) = false := by rw [decide_eq_false_iff_not]; omega
  have hQ1 := HQ.out
  rw [if_neg h64] at hQ1
  have HQ1 := Lib.hid hQ1
  clear hQ1
  go_wp2_with fail
  refine (dall_f (av := t :: (av ++ fp)) HAV.out HC0.out (fun x hx => (HK.out.ent x hx).nb) HK.out.srt (by omega) HC.out (fun c hc => (HOK.out c hc).nb) (by omega)).mono ?_
  rintro en w1 ⟨q1, n1, c1, rfl, C1, F1⟩
  have hn1 : (asC (allC sp.L l)).length = n1 := C1.chs.len
  rw [asC, List.length_map] at hn1
  have hn1b : n1 ≤ 200 := by
    have := allC_le l sp.L
    have := HLL.out
    have := HK.out.len
    omega
  have HN1 := Lib.hid hn1
  have HC1 := Lib.hid C1
  have HF1 := Lib.hid F1
  have HFW := Lib.hid (HF0.out.trans F1)
  have f1 := F1.get ft (by simp)
  have t1 := World.at_lt f1
  clear C1 F1 hn1 ft tt
  by_cases h642 : 64 < n1
  · have d642 : decide ((64 : Int) < (n1 : Int)) = true := by rw [decide_eq_true_eq]; omega
    have hQ2 := HQ1.out
    rw [if_pos (by rw [HN1.out]; exact h642)] at hQ2
    have HQ2 := Lib.hid hQ2
    clear hQ2
    go_wp2_with fail
    exact HQ2.out _ _ fp rfl (HT.out.fr0 HF1.out) (HFW.out.mono (by simp)) (fun k hk => .inl hk)
  have d642 : decide ((64 : Int) < (n1 : Int)) = false := by rw [decide_eq_false_iff_not]; omega
  have hQ2 := HQ1.out
  rw [if_neg (by rw [HN1.out]; exact h642)] at hQ2
  have HQ2 := Lib.hid hQ2
  clear hQ2
  cases br with
  | true =>
    have hQ3 := HQ2.out
    rw [if_pos HBR.out.symm] at hQ3
    have HQ3 := Lib.hid hQ3
    clear hQ3
    go_wp2_with fail
    exact HQ3.out _ _ fp rfl (HT.out.fr0 HF1.out) (HFW.out.mono (by simp)) (fun k hk => .inl hk)
  | false =>
    have hQ3 := HQ2.out
    rw [if_neg (by rw [← HBR.out]; simp)] at hQ3
    have HQ3 := Lib.hid hQ3
    clear hQ3
    by_cases hn0 : n = 0
    · have dn : ((n : Int) == 0) = true := by rw [hn0]; rfl
      have hQ4 := HQ3.out
      rw [if_pos (List.eq_nil_of_length_eq_zero (HLL.out.trans hn0))] at hQ4
      have HQ4 := Lib.hid hQ4
      clear hQ4 hn0
      go_wp2_with fail
      exact HQ4.out _ _ fp rfl (HT.out.fr0 HF1.out) (HFW.out.mono (by simp)) (fun k hk => .inl hk)
    · have dn : ((n : Int) == 0) = false := by rw [beq_eq_false_iff_ne]; omega
      have hQ4 := HQ3.out
      rw [if_neg (fun h => hn0 (by rw [← HLL.out, h]; rfl))] at hQ4
      have HQ4 := Lib.hid hQ4
      clear hQ4
      go_upto_region 15 with (fail)
      rename_i K17 h17 Kc hc2
      have H17 := Lib.hid h17
      clear h17
      go_wp2_with fail
      refine H17.out _ _ ?_
      exact Eq.mp (congrArg (fun c => Code.wp Try.prog c _ _ _) (show c17 = _ from by kernel_rfl)) (c17_f (w0 := w0) (sp := sp) (m := m) (fp := fp) (av := av) (next := allC sp.L l) rfl rfl rfl rfl (HT.out.fr0 HF1.out) HK.out (HC.out.chs.fr0 HF1.out) HOK.out (by omega) HC1.out (ent_allC HK.out.ent HOK.out) (by omega) hN1 hwl HBR.out.symm HFW.out HQ4.out)
set_option maxRecDepth 100000 in
set_option maxHeartbeats 8000000 in
theorem dcommit_f {t r n cap : Nat} {p : Option Addr} {sp : SP} {m : DM} {fp av : List Nat} {l : List Chg} (T : DSt w t r sp m fp av) (K : SPB m.n sp) (C : ChsA w (t :: (av ++ fp)) p n cap l) (hB : ∀ c ∈ l, Byt c.name ∧ Byt c.val) (hn : n ≤ 1000000) (hav : ∀ b ∈ t :: (av ++ fp), b < w.heap.size) (hN1 : m.n ≤ 1024) (hwl : m.waits.length ≤ 500000) :
    Calls Try.prog 28 #[.pointer (some ⟨t, 0, none⟩), .slice p n cap] w fun en w' => DCommR w t r fp av en w' (commitM sp m l) := by
  have HC := Lib.hid C
  have HT := Lib.hid T
  have HK := Lib.hid K
  have HB := Lib.hid hB
  have HAV := Lib.hid hav
  have HL := Lib.hid C.chs.len
  obtain ⟨RR, hRR⟩ : ∃ RR, RR = commitM sp m l := ⟨_, rfl⟩
  rw [← hRR]
  have HR := Lib.hid hRR
  clear T K C hB hav hRR
  go_enter Try.func28, Try.ntmps28
  go_upto_region 1 with (fail)
  rename_i K8 h8 Kb hb2
  have H8 := Lib.hid h8
  clear h8
  have HQN := Lib.hid (show ∀ (tm' : Array Value) (W' : World) (E : Int), RR = (E, sp, m) → tm'.getD 4 undef = .int .i64 E → Fr [] w W' → bodyPost Try.prog Try.f28 (fun en w' => DCommR w t r fp av en w' RR) .ret ⟨tm', []⟩ W' from fun tm' W' E h1 h4 F => bodyPost_ret (results_tmp rfl tm' _ _) rfl (by rw [h4, h1]; exact ⟨fp, rfl, HT.out.fr0 F, F.mono (by simp), fun k hk => .inl hk⟩))
  have HQE := Lib.hid (show CEnd w t r fp av (bodyPost Try.prog Try.f28 (fun en w' => DCommR w t r fp av en w' RR)) RR from fun tm' W' fp' h4 h5 h6 h7 => bodyPost_ret (results_tmp rfl tm' _ _) rfl (by rw [h4]; exact ⟨fp', rfl, h5, h6, h7⟩))
  go_wp2_with fail
  go_loopw [5] (fun iv wy => ∃ i : Nat, i ≤ n ∧ iv = .int .i64 (i : Int) ∧ Hid (Fr [] w wy ∧ badC l = badC (l.drop i))) (fun iv _ => (n - intOf iv).toNat)
  case atStart => exact ⟨0, by omega, rfl, Lib.hid ⟨Fr.refl _ _, rfl⟩⟩
  case round =>
    obtain ⟨i, hin, rfl, hW⟩ := hrel
    by_cases hlt : i < n
    · have hd : decide ((i : Int) < (n : Int)) = true := by rw [decide_eq_true_eq]; omega
      have ki : (i : Int) < (n : Int) := by omega
      obtain ⟨x, q2, m2, d2, b, off, cs, TT, fr, hx, rfl, fb, hsz, hext, S2, -⟩ := (HC.out.fr0 hW.out.1).at hlt
      have e0 := congrArg (fun a => a[0]?) hext
      have e1 := congrArg (fun a => a[1]?) hext
      have e2 := congrArg (fun a => a[2]?) hext
      rw [Array.getElem?_extract_of_lt (by omega)] at e0 e1 e2
      obtain ⟨g, hg⟩ : ∃ g, g = x.gone := ⟨_, rfl⟩
      obtain ⟨X, hX⟩ : ∃ X, X = strB x.name := ⟨_, rfl⟩
      have hXs : X.size = x.name.length := by rw [hX, strB_size]
      obtain ⟨z, hz⟩ : ∃ z, z = x.name.length := ⟨_, rfl⟩
      rw [← hz] at hXs
      have hxe : X.toList = [] ↔ z = 0 := by rw [hX, str_empty, hz, List.length_eq_zero_iff]
      have HXE := Lib.hid hxe
      have x0 : ∃ h : off + i * 3 < cs.size, cs[off + i * 3] = .string X := ⟨by omega, by rw [hX]; simpa using e0⟩
      have x1 : ∃ h : off + i * 3 + 1 < cs.size, cs[off + i * 3 + 1] = .slice q2 m2 d2 := ⟨by omega, by simpa using e1⟩
      have x2 : ∃ h : off + i * 3 + 2 < cs.size, cs[off + i * 3 + 2] = .bool g := ⟨by omega, by rw [hg]; simpa using e2⟩
      obtain ⟨x0', x0⟩ := x0
      obtain ⟨x1', x1⟩ := x1
      obtain ⟨x2', x2⟩ := x2
      have hm2 : x.val.length = m2 := S2.len
      have hdr : l.drop i = x :: l.drop (i + 1) := by
        obtain ⟨h1, h2⟩ := List.getElem?_eq_some_iff.1 hx
        rw [List.drop_eq_getElem_cons h1, h2]
      have hbad := hW.out.2
      rw [hdr, badC_cons, ← hg, ← hz, hm2] at hbad
      have HBD := Lib.hid hbad
      have tb := World.at_lt fb
      have HF := Lib.hid hW.out.1
      have HXS := Lib.hid hXs
      clear hX hz hg hm2 hdr hbad S2 hx hW e0 e1 e2 hext hxe
      by_cases z1 : z < 1
      · have y1 : X.toList = [] := HXE.out.2 (by omega)
        have y2 : X.toList.isEmpty = true := by rw [y1]; rfl
        have HRE := Lib.hid (HR.out.trans (show commitM sp m l = (1, sp, m) by rw [commitM, HBD.out, if_pos (.inl z1)]))
        go_wp2_with fail
        exact HQN.out _ _ 1 HRE.out rfl HF.out
      have y1 : ¬ X.toList = [] := fun h => by have := HXE.out.1 h; omega
      have y2 : X.toList.isEmpty = false := by rw [Bool.eq_false_iff]; intro h; exact y1 (List.isEmpty_iff.1 h)
      by_cases z2 : 32 < z
      · have d2 : decide ((32 : Int) < (z : Int)) = true := by rw [decide_eq_true_eq]; omega
        have d2' : (32 : Int) < (z : Int) := by omega
        have HRE := Lib.hid (HR.out.trans (show commitM sp m l = (1, sp, m) by rw [commitM, HBD.out, if_pos (.inr (.inl z2))]))
        go_wp2_with fail
        exact HQN.out _ _ 1 HRE.out rfl HF.out
      have d2 : decide ((32 : Int) < (z : Int)) = false := by rw [decide_eq_false_iff_not]; omega
      have d2' : ¬ (32 : Int) < (z : Int) := by omega
      have hgo : (¬ (g = true ∧ 0 < m2)) → badC l = if 4000 < m2 then some 5 else badC (l.drop (i + 1)) := fun h => by
        rw [HBD.out, if_neg]
        intro h2
        rcases h2 with h2 | h2 | h2
        · exact z1 h2
        · exact z2 h2
        · exact h h2
      have HGO := Lib.hid hgo
      clear hgo
      cases g with
      | true =>
        by_cases z3 : 0 < m2
        · have d3 : decide ((0 : Int) < (m2 : Int)) = true := by rw [decide_eq_true_eq]; omega
          have d3' : (0 : Int) < (m2 : Int) := by omega
          have HRE := Lib.hid (HR.out.trans (show commitM sp m l = (1, sp, m) by rw [commitM, HBD.out, if_pos (.inr (.inr ⟨rfl, z3⟩))]))
          go_wp2_with fail
          exact HQN.out _ _ 1 HRE.out rfl HF.out
        · have d3 : decide ((0 : Int) < (m2 : Int)) = false := by rw [decide_eq_false_iff_not]; omega
          have d3' : ¬ (0 : Int) < (m2 : Int) := by omega
          have d4 : decide ((4000 : Int) < (m2 : Int)) = false := by rw [decide_eq_false_iff_not]; omega
          have d4' : ¬ (4000 : Int) < (m2 : Int) := by omega
          have HN := Lib.hid ((HGO.out (fun h => z3 h.2)).trans (if_neg (by omega)))
          go_wp2_with fail
          go_roundw
          case rel => exact ⟨i + 1, hlt, by first | rfl | simp, Lib.hid ⟨HF.out, HN.out⟩⟩
          case measure => simp [intOf]; omega
      | false =>
        by_cases z4 : 4000 < m2
        · have d4 : decide ((4000 : Int) < (m2 : Int)) = true := by rw [decide_eq_true_eq]; omega
          have d4' : (4000 : Int) < (m2 : Int) := by omega
          have HRE := Lib.hid (HR.out.trans (show commitM sp m l = (5, sp, m) by rw [commitM, HGO.out (by simp), if_pos z4]))
          go_wp2_with fail
          exact HQN.out _ _ 5 HRE.out rfl HF.out
        · have d4 : decide ((4000 : Int) < (m2 : Int)) = false := by rw [decide_eq_false_iff_not]; omega
          have d4' : ¬ (4000 : Int) < (m2 : Int) := by omega
          have HN := Lib.hid ((HGO.out (by simp)).trans (if_neg z4))
          go_wp2_with fail
          go_roundw
          case rel => exact ⟨i + 1, hlt, by first | rfl | simp, Lib.hid ⟨HF.out, HN.out⟩⟩
          case measure => simp [intOf]; omega
    · obtain rfl : i = n := by omega
      have hd : decide ((i : Int) < (i : Int)) = false := by simp
      have hbn : badC l = none := by rw [hW.out.2, List.drop_of_length_le (by rw [HL.out]; exact Nat.le_refl _)]; rfl
      have HOK := Lib.hid (show ∀ c ∈ l, ChgB c from fun c hc => ⟨badC_none.1 hbn c hc, (HB.out c hc).1, (HB.out c hc).2⟩)
      have HF := Lib.hid hW.out.1
      clear hbn hW
      go_wp2_with fail
      refine H8.out _ _ ?_
      refine Eq.mp (congrArg (fun c => Code.wp Try.prog c _ _ _) (show c8 = _ from by kernel_rfl)) (c8_f (w0 := w) (sp := sp) (m := m) (fp := fp) (av := av) (l := l) rfl rfl rfl (HT.out.fr0 HF.out) HK.out (HC.out.fr0 HF.out) HOK.out hn (fun b hb => Nat.lt_of_lt_of_le (HAV.out b hb) HF.out.size) hN1 hwl HF.out ?_)
      exact Eq.mp (congrArg (CEnd w t r fp av _) (HR.out.trans (by rw [commitM, badC_none.2 (fun c hc => (HOK.out c hc).ok)]))) HQE.out
end
end Go.Proofs.Ytombhkekocbfoaa
namespace Go.Proofs.Ytombhkekocbfoaa
open Go.RowKit Go.Dr Go.Kd Go.St
noncomputable def o4 : Code := Try.f4.body.getD .skip
noncomputable def o13 : Code := behind 6 o4
noncomputable def o18 : Code := behind 7 o4
noncomputable def o22 : Code := behind 10 o4
set_option maxRecDepth 100000 in
/-- StoreOpens' frame, written out. -/
def frm4 (u : Nat → Value) : Array Value := (u 0 :: u 1 :: u 2 :: u 3 :: u 4 :: u 5 :: u 6 :: u 7 :: u 8 :: u 9 :: u 10 :: u 11 :: u 12 :: u 13 :: u 14 :: u 15 :: u 16 :: u 17 :: u 18 :: u 19 :: u 20 :: u 21 :: u 22 :: u 23 :: u 24 :: u 25 :: u 26 :: u 27 :: u 28 :: u 29 :: u 30 :: u 31 :: u 32 :: u 33 :: u 34 :: u 35 :: u 36 :: u 37 :: u 38 :: u 39 :: u 40 :: u 41 :: u 42 :: u 43 :: u 44 :: u 45 :: u 46 :: u 47 :: u 48 :: u 49 :: u 50 :: u 51 :: u 52 :: u 53 :: u 54 :: u 55 :: u 56 :: u 57 :: u 58 :: u 59 :: u 60 :: u 61 :: u 62 :: u 63 :: u 64 :: u 65 :: u 66 :: u 67 :: u 68 :: u 69 :: u 70 :: u 71 :: u 72 :: u 73 :: u 74 :: u 75 :: u 76 :: u 77 :: u 78 :: u 79 :: u 80 :: u 81 :: u 82 :: u 83 :: u 84 :: u 85 :: u 86 :: u 87 :: u 88 :: u 89 :: u 90 :: u 91 :: u 92 :: u 93 :: u 94 :: u 95 :: u 96 :: u 97 :: u 98 :: u 99 :: u 100 :: u 101 :: u 102 :: u 103 :: u 104 :: u 105 :: u 106 :: u 107 :: u 108 :: u 109 :: u 110 :: u 111 :: u 112 :: u 113 :: u 114 :: u 115 :: []).toArray
set_option maxRecDepth 100000 in
theorem frm4_of {tm : Array Value} (h : tm.size = 116) : ∃ u : Nat → Value, tm = frm4 u := ⟨fun i => tm.getD i undef, arr_fun h⟩
/-- StoreOpens' end. -/
def OEnd (w : World) (Q : Exit → Act → World → Prop) : Prop := ∀ (tm' : Array Value) (W' : World), tm'.getD 6 undef = .bool true → Fr [] w W' → Q .ret ⟨tm', []⟩ W'
section
variable {w : World}
set_option maxRecDepth 100000 in
set_option maxHeartbeats 8000000 in
theorem o22_no {Q : Exit → Act → World → Prop} {tm : Array Value} {W : World} {E : Int} (sz : tm.size = 116) (s105 : tm.getD 105 undef = undef) (s12 : tm.getD 12 undef = .int .i64 E) (hE : E ≠ 0) (F0 : Fr [] w W) (HQ : OEnd w Q) : o22.wp Try.prog Q ⟨tm, []⟩ W := by
  obtain ⟨u, rfl⟩ := frm4_of sz
  have a12 : u 12 = _ := s12
  have a105 : u 105 = _ := s105
  have HQ := Lib.hid HQ
  have HF := Lib.hid F0
  have hd : (E == 0) = false := by rw [beq_eq_false_iff_ne]; exact hE
  have hd2 : (E != 0) = true := by rw [bne_iff_ne]; exact hE
  clear s12 sz F0 hE s105
  conv => arg 2; whnf
  unfold frm4
  rw [a12, a105]
  clear a12 a105
  go_wp2_with fail
  refine (open_nil (w := W)).mono ?_
  rintro en W1 ⟨rfl, hW1⟩
  subst hW1
  go_upto_region 23 with (fail)
  refine drawn_begin 25 (fun w' => w'.os = w'.os) (by kernel_rfl) ?_
  refine drawn_reads (fuel := 4) [0, 1, 2, 3, 4, 5, 6, 7, 8, 9, 10, 11, 12, 13, 14, 15, 16, 17, 18, 19, 20, 21, 22, 23, 24] rfl (by kernel_rfl) rfl ?_
  repeat (first | (refine rowK_step2 rfl rfl (fun K hK => ?_); go_wp2) | (refine rowK_step rfl (fun K hK => ?_); go_simp; refine hK _ ?_; clear hK K) | (refine rowK_step rfl (fun K hK => ?_); go_simp; refine ⟨by simp [undef], hK _ ?_⟩; clear hK K))
  refine rowK_nil ⟨fun w' => ?_, ?_⟩
  · repeat (first | (refine rowWp_step2 rfl rfl (fun K hK => ?_); go_wp2) | (refine rowWp_step rfl (fun K hK => ?_); go_simp; refine hK _ ?_; clear hK K) | (refine rowWp_step rfl (fun K hK => ?_); go_simp; refine ⟨by simp [undef], hK _ ?_⟩; clear hK K))
    exact rowWp_nil rfl
  refine drawn_end rfl (by kernel_rfl) ?_
  intro K hK
  go_wp2_with fail
  exact HQ.out _ _ rfl HF.out.drew
set_option maxRecDepth 100000 in
set_option maxHeartbeats 8000000 in
theorem o22_yes {Q : Exit → Act → World → Prop} {tm : Array Value} {W : World} {s t d r : Nat} {sp : SP} {m m2 : DM} {fp av rfp av2 : List Nat} (sz : tm.size = 116) (s11 : tm.getD 11 undef = .pointer (some ⟨s, 0, none⟩)) (s12 : tm.getD 12 undef = .int .i64 0) (s13 : tm.getD 13 undef = .pointer (some ⟨t, 0, none⟩))
    (T : StAv W s d sp m fp av) (T2 : DSt W t r sp m2 rfp av2) (hS : Sorted sp.L) (hE : ∀ x ∈ sp.L, EntOk x) (hL : sp.L.length ≤ 64) (F0 : Fr [] w W) (HQ : OEnd w Q) : o22.wp Try.prog Q ⟨tm, []⟩ W := by
  obtain ⟨u, rfl⟩ := frm4_of sz
  have a11 : u 11 = _ := s11
  have a12 : u 12 = _ := s12
  have a13 : u 13 = _ := s13
  have HQ := Lib.hid HQ
  have HF := Lib.hid F0
  have HT := Lib.hid T.st
  have HSO := Lib.hid hS
  have HEN := Lib.hid hE
  obtain ⟨q, n, c, ft, C⟩ := T2.ex
  have HC := Lib.hid C.chs
  obtain ⟨SC, hSC⟩ : ∃ SC, SC = dsC r sp.half sp.epoch sp.count sp.fin q n c sp.broken := ⟨_, rfl⟩
  rw [← hSC] at ft
  have szC : SC.size = 7 := by rw [hSC]; rfl
  obtain ⟨ep, hep⟩ : ∃ ep, ep = sp.epoch := ⟨_, rfl⟩
  have HEP := Lib.hid hep
  obtain ⟨x2', x2⟩ := Array.getElem?_eq_some_iff.1 (show SC[2]? = some (.int .u64 (ep : Int)) by rw [hSC, hep]; rfl)
  obtain ⟨x5', x5⟩ := Array.getElem?_eq_some_iff.1 (show SC[5]? = some (.slice q n c) by rw [hSC]; rfl)
  have tt := World.at_lt ft
  have HFT := Lib.hid ft
  clear s11 s12 s13 sz F0 hS hE T T2 C hSC hep
  conv => arg 2; whnf
  unfold frm4
  rw [a11, a12, a13]
  clear a11 a12 a13
  go_wp2_with fail
  refine (open_nil (w := W)).mono ?_
  rintro en W1 ⟨rfl, hW1⟩
  subst hW1
  go_upto_region 23 with (fail)
  refine drawn_begin 25 (fun w' => w'.blk t = some (.cells SC 56)) (by kernel_rfl) ?_
  refine drawn_reads (fuel := 14) [0, 1, 2, 3, 4, 5, 6, 7, 8, 9, 10, 12, 13, 14, 15] rfl (by kernel_rfl) ft ?_
  repeat (first | (refine rowK_step2 rfl rfl (fun K hK => ?_); go_wp2) | (refine rowK_step rfl (fun K hK => ?_); go_simp; refine hK _ ?_; clear hK K))
  refine rowK_nil ⟨fun w' e1 => ?_, ?_⟩
  · clear ft tt
    have tt := World.at_lt e1
    repeat (first | (refine rowWp_step2 rfl rfl (fun K hK => ?_); go_wp2) | (refine rowWp_step rfl (fun K hK => ?_); go_simp; refine hK _ ?_; clear hK K))
    exact rowWp_nil rfl
  refine drawn_next 11 (fuel := 13) rfl (by kernel_rfl) ?_
  intro K hK
  go_wp2_with fail
  refine (all_sf (HT.out.fr0 (Fr.refl [] _).drew) HSO.out HEN.out hL).mono ?_
  rintro en w2 ⟨q1, c1, rfl, G1⟩
  have F2 : Fr [] W1 w2 := (Fr.refl [] W1).drew.trans G1.gch.own.fr
  have f2 := F2.get ft (by simp)
  have t2 := World.at_lt f2
  have HC1 := Lib.hid G1.gch.chs
  have HF2 := Lib.hid F2
  obtain ⟨n1, hn1⟩ : ∃ n1, n1 = sp.L.length := ⟨_, rfl⟩
  rw [← hn1] at HC1 hL ⊢
  clear G1 F2 ft tt hn1
  go_wp2_with fail
  refine ⟨f2, ?_⟩
  refine drawn_next 16 (fuel := 12) rfl (by kernel_rfl) ?_
  intro K hK
  go_wp2_with fail
  have hby : ∀ c ∈ asC sp.L, Byt c.name ∧ Byt c.val := fun c hc => by
    obtain ⟨x, hx, rfl⟩ := List.mem_map.1 hc
    exact ⟨(HEN.out x hx).nb, (HEN.out x hx).vb⟩
  refine (same_f HC1.out (HC.out.fr0 HF2.out) hby hby (by omega)).mono ?_
  rintro en w3 ⟨b, rfl, F3, hr⟩
  obtain rfl : b = true := hr.2 rfl
  have f3 := F3.get f2 (by simp)
  have t3 := World.at_lt f3
  have HF3 := Lib.hid (HF2.out.trans F3)
  clear F3 f2 t2 hr hby
  go_wp2_with fail
  refine ⟨f3, ?_⟩
  refine drawn_reads (fuel := 6) [17, 18, 20, 21, 22, 23] rfl (by kernel_rfl) f3 ?_
  repeat (first | (refine rowK_step2 rfl rfl (fun K hK => ?_); go_wp2) | (refine rowK_step rfl (fun K hK => ?_); go_simp; refine hK _ ?_; clear hK K))
  refine rowK_nil ⟨fun w' e1 => ?_, ?_⟩
  · clear f3 t3
    have tt := World.at_lt e1
    repeat (first | (refine rowWp_step2 rfl rfl (fun K hK => ?_); go_wp2) | (refine rowWp_step rfl (fun K hK => ?_); go_simp; refine hK _ ?_; clear hK K))
    exact rowWp_nil rfl
  refine drawn_next 19 (fuel := 5) rfl (by kernel_rfl) ?_
  intro K hK
  go_wp2_with fail
  refine (epoch_f (HT.out.fr0 HF3.out)).mono ?_
  rintro en w4 ⟨rfl, hw4⟩
  rw [← HEP.out]
  subst hw4
  go_wp2_with fail
  refine ⟨f3, ?_⟩
  have hbe : ((ep : Int) == (ep : Int)) = true := beq_self_eq_true _
  refine drawn_next 24 (fuel := 4) rfl (by kernel_rfl) ?_
  intro K hK
  go_wp2_with fail
  refine ⟨f3, ?_⟩
  refine drawn_end rfl (by kernel_rfl) ?_
  intro K hK
  go_wp2_with fail
  exact HQ.out _ _ rfl (HF.out.trans HF3.out)
end
end Go.Proofs.Ytombhkekocbfoaa
namespace Go.St
open Go.Kd Go.Dr
theorem openM_err {m : DM} (h : (openM m).2.1 = none) : (openM m).1 ≠ 0 := by
  have key : ∀ (half : Nat) (x : Nat × Nat × Nat), (readH m half x).2.1 = none → (readH m half x).1 ≠ 0 := by
    intro half x hx
    unfold readH at hx ⊢
    split at hx
    · cases hx
    · simp
  unfold openM at h ⊢
  split at h
  · rw [if_pos (by assumption)]; simp
  · rw [if_neg (by assumption)]
    split at h
    · rw [if_pos (by assumption)]; simp
    · rw [if_neg (by assumption)]
      split at h
      · split at h
        · cases h
        · rw [if_neg (by assumption)]; simp
      · split at h
        · rw [if_pos (by assumption)]; simp
        · rw [if_neg (by assumption)]
          split at h
          · rw [if_pos (by assumption)]; exact key _ _ h
          · rw [if_neg (by assumption)]; exact key _ _ h
      · exact key _ _ h
      · exact key _ _ h
      · simp
end Go.St
namespace Go.Proofs.Ytombhkekocbfoaa
open Go.RowKit Go.Dr Go.Kd Go.St
theorem StAv.turnR {w w' : World} {s d : Nat} {sp : SP} {m : DM} {fp av : List Nat} (T : StAv w s d sp m fp av) (F : Fr av w w') (hs : s ∉ av) (hf : ∀ k ∈ fp, k ∉ av) : StAv w' s d sp m fp av := by
  obtain ⟨mb, f0, hsf, D, M⟩ := T.ex
  exact ⟨mb, F.get f0 hs, hsf, D.frame F hf, M.fr (F.mono fun k hk _ => List.mem_append_left _ hk) fun k hk => .inl hk⟩
section
variable {w : World}
set_option maxRecDepth 100000 in
set_option maxHeartbeats 8000000 in
theorem o18_f {Q : Exit → Act → World → Prop} {tm : Array Value} {W : World} {d r : Nat} {m : DM} {fp rfp : List Nat} (sz : tm.size = 116) (s105 : tm.getD 105 undef = undef) (s7 : tm.getD 7 undef = .pointer (some ⟨d, 0, none⟩)) (s8 : tm.getD 8 undef = .pointer (some ⟨r, 0, none⟩))
    (B : Both w W d r m m fp rfp) (hs : SeenM m) (hb : BytM m) (hn : m.n ≤ 40) (hwl : m.waits.length ≤ 1000) (HQ : OEnd w Q) : o18.wp Try.prog Q ⟨tm, []⟩ W := by
  obtain ⟨u, rfl⟩ := frm4_of sz
  have a7 : u 7 = _ := s7
  have a8 : u 8 = _ := s8
  have a105 : u 105 = _ := s105
  have HQ := Lib.hid HQ
  have HB := Lib.hid B
  have HS := Lib.hid hs
  have HBY := Lib.hid hb
  clear s7 s8 s105 sz B hs hb
  conv => arg 2; whnf
  unfold frm4
  rw [a7, a8, a105]
  clear a7 a8 a105
  go_wp2_with fail
  refine (open_fv (av := rfp) HB.out.D (fun k hk => HB.out.R.lt k hk) (by omega) HBY.out.2.1 (by omega)).mono ?_
  intro en W1 hO
  have herr := fun h => openM_err (m := m) h
  have hspb := fun sp h => (open_ok (sp := sp) HB.out.D.ok HBY.out.2.1 h).1
  obtain ⟨om, hom⟩ : ∃ om, om = openM m := ⟨_, rfl⟩
  rw [← hom] at hO herr hspb
  have HOM := Lib.hid hom
  clear hom
  obtain ⟨E, o, m'⟩ := om
  cases o with
  | none =>
    have hE : E ≠ 0 := herr rfl
    obtain ⟨fp', rfl, D1, F1, N1⟩ := hO
    have HB1 := Lib.hid (HB.out.disk D1 F1 N1)
    have hEE : (E == E) = true := beq_self_eq_true _
    have hE0 : (E == 0) = false := by rw [beq_eq_false_iff_ne]; exact hE
    have hE1 : (E != 0) = true := by rw [bne_iff_ne]; exact hE
    have hE2 : (E != E) = false := by simp
    have HE := Lib.hid hE
    clear D1 F1 N1 herr hspb hE
    go_wp2_with fail
    refine (dopen_f (av := []) HB1.out.R (fun k hk => by cases hk) (by omega) HBY.out.2.1 HS.out (by omega)).mono ?_
    intro en W2 hO2
    rw [← HOM.out] at hO2
    obtain ⟨rfp', rfl, R2, F2, N2⟩ := hO2
    have HB2 := Lib.hid (HB1.out.ref R2 F2 N2)
    clear R2 F2 N2
    go_upto_region 20 with (fail)
    rename_i K22 h22 Kc hc2
    have H22 := Lib.hid h22
    clear h22
    go_wp2_with fail
    refine H22.out _ _ ?_
    exact Eq.mp (congrArg (fun c => Code.wp Try.prog c _ _ _) (show o22 = _ from by kernel_rfl)) (o22_no (E := E) rfl rfl rfl HE.out HB2.out.fr HQ.out)
  | some sp =>
    have hK := hspb sp rfl
    obtain ⟨rfl, s, fp', rfl, T1, F1, N1, hsl⟩ := hO
    have HB1 := Lib.hid (HB.out.disk T1.disk F1 N1)
    have HT1 := Lib.hid T1
    have HK := Lib.hid hK
    have HSR := Lib.hid (show s ∉ rfp from fun h => by have := HB.out.R.lt s h; omega)
    clear T1 F1 N1 herr hspb hK
    go_wp2_with fail
    refine (dopen_f (av := []) HB1.out.R (fun k hk => by cases hk) (by omega) HBY.out.2.1 HS.out (by omega)).mono ?_
    intro en W2 hO2
    rw [← HOM.out] at hO2
    obtain ⟨-, t, rfp', rfl, T2, F2, N2, htl⟩ := hO2
    have HT1' := Lib.hid (HT1.out.turnR F2 HSR.out HB1.out.dis)
    have HB2 := Lib.hid (HB1.out.ref T2.disk F2 N2)
    have HT2 := Lib.hid T2
    clear T2 F2 N2
    go_upto_region 20 with (fail)
    rename_i K22 h22 Kc hc2
    have H22 := Lib.hid h22
    clear h22
    go_wp2_with fail
    refine H22.out _ _ ?_
    exact Eq.mp (congrArg (fun c => Code.wp Try.prog c _ _ _) (show o22 = _ from by kernel_rfl)) (o22_yes rfl rfl rfl rfl HT1'.out HT2.out HK.out.srt HK.out.ent HK.out.len HB2.out.fr HQ.out)
set_option maxRecDepth 100000 in
set_option maxHeartbeats 8000000 in
theorem o13_f {Q : Exit → Act → World → Prop} {tm : Array Value} {W : World} {d r : Nat} {m : DM} {fp rfp : List Nat} (dead : Bool) (sz : tm.size = 116) (s105 : tm.getD 105 undef = undef) (s2 : tm.getD 2 undef = .bool dead) (s7 : tm.getD 7 undef = .pointer (some ⟨d, 0, none⟩)) (s8 : tm.getD 8 undef = .pointer (some ⟨r, 0, none⟩))
    (B : Both w W d r m m fp rfp) (hs : SeenM m) (hb : BytM m) (hn : m.n ≤ 40) (hwl : m.waits.length ≤ 1000) (HQ : OEnd w Q) : o13.wp Try.prog Q ⟨tm, []⟩ W := by
  obtain ⟨u, rfl⟩ := frm4_of sz
  have a2 : u 2 = _ := s2
  have a7 : u 7 = _ := s7
  have a8 : u 8 = _ := s8
  have a105 : u 105 = _ := s105
  have HQ := Lib.hid HQ
  have HB := Lib.hid B
  have HS := Lib.hid hs
  have HBY := Lib.hid hb
  clear s2 s7 s8 s105 sz B hs hb
  conv => arg 2; whnf
  unfold frm4
  rw [a2, a7, a8, a105]
  clear a2 a7 a8 a105
  go_upto_region 13 with (fail)
  rename_i K18 h18 Kc hc2
  have H18 := Lib.hid h18
  clear h18
  cases dead with
  | false =>
    go_wp2_with fail
    refine H18.out _ _ ?_
    exact Eq.mp (congrArg (fun c => Code.wp Try.prog c _ _ _) (show o18 = _ from by kernel_rfl)) (o18_f rfl rfl rfl rfl HB.out HS.out HBY.out hn hwl HQ.out)
  | true =>
    go_wp2_with fail
    refine (fuse_any HB.out.D 0 (by omega)).mono ?_
    rintro en W1 ⟨rfl, D1, F1⟩
    have D1 : DiskAt W1 d { m with fuse := 0 } fp := D1
    have B1 := HB.out.disk D1 F1 (fun k hk => .inl hk)
    obtain ⟨C, fC, szC, R2, F2⟩ := B1.R.setFuse 0 (by omega)
    have HB2 := Lib.hid (B1.ref R2 F2 (fun k hk => .inl hk))
    have tC := World.at_lt fC
    clear D1 F1 B1 R2 F2
    obtain ⟨m1, hm1⟩ : ∃ m1, m1 = { m with fuse := 0 } := ⟨_, rfl⟩
    rw [← hm1] at HB2
    have HS1 := Lib.hid (show SeenM m1 by rw [hm1]; exact HS.out)
    have HY1 := Lib.hid (show BytM m1 by rw [hm1]; exact HBY.out)
    have hn1 : m1.n = m.n := by rw [hm1]
    have hw1 : m1.waits = m.waits := by rw [hm1]
    have HN1 := Lib.hid hn1
    have HW1 := Lib.hid hw1
    clear hm1 hn1 hw1
    go_wp2_with fail
    refine (sync_any HB2.out.D (by rw [HW1.out]; omega)).mono ?_
    rintro en W3 ⟨rfl, fp3, D3, F3, N3⟩
    have HB3 := Lib.hid (HB2.out.disk D3 F3 N3)
    clear D3 F3 N3 fC tC
    go_wp2_with fail
    refine (rsync_any HB3.out.R (by rw [HW1.out]; omega)).mono ?_
    rintro en W4 ⟨rfl, rfp4, R4, F4, N4⟩
    have HB4 := Lib.hid (HB3.out.ref R4 F4 (News.sub N4))
    clear R4 F4 N4
    go_wp2_with fail
    refine H18.out _ _ ?_
    exact Eq.mp (congrArg (fun c => Code.wp Try.prog c _ _ _) (show o18 = _ from by kernel_rfl)) (o18_f rfl rfl rfl rfl HB4.out HS1.out.sync HY1.out.sync (by rw [(syncM_n m1).1, HN1.out]; exact hn) (Nat.le_trans (syncM_wl m1) (by rw [HW1.out]; exact hwl)) HQ.out)
end
end Go.Proofs.Ytombhkekocbfoaa
namespace Go.Proofs.Ytombhkekocbfoaa
open Go.RowKit Go.Dr Go.Kd Go.St
section
variable {w0 w w' : World} {d r s t : Nat} {sp sp' sp2 : SP} {m m' m2 : DM} {fp fp' rfp rfp' av av' : List Nat}
theorem StAv.turnN (T : StAv w s d sp m fp av) (F : Fr av w w') (hs : s ∉ av) (hf : ∀ k ∈ fp, k ∉ av) (N : ∀ k ∈ av', k ∈ av ∨ w.heap.size ≤ k) : StAv w' s d sp m fp av' := by
  obtain ⟨mb, f0, hsf, D, M⟩ := T.ex
  refine ⟨mb, F.get f0 hs, hsf, D.frame F hf, M.fr (F.mono fun k hk _ => List.mem_append_left _ hk) fun k hk => ?_⟩
  rcases List.mem_append.1 hk with h | h
  · rcases N k h with h | h
    · exact .inl (List.mem_append_left _ h)
    · exact .inr h
  · exact .inl (List.mem_append_right _ h)
theorem StAv.dsk (T : StAv w s d sp m fp av) (D' : DiskAt w' d m' fp') (hn : m'.n = m.n) (F : Fr fp w w') (N : News w fp fp') (hs : s < w.heap.size) : StAv w' s d sp m' fp' av := by
  obtain ⟨mb, f0, hsf, D, M⟩ := T.ex
  refine ⟨mb, by rw [hn]; exact F.get f0 hsf, fun h => ?_, D', M.frv F N⟩
  rcases N s h with h | h
  · exact hsf h
  · omega
theorem DSt.dsk (T : DSt w t r sp m rfp av) (R' : RefAt w' r m' rfp') (F : Fr rfp w w') (N : News w rfp rfp') (ht : t < w.heap.size) : DSt w' t r sp m' rfp' av := by
  obtain ⟨⟨q, n, c, f0, C⟩, htf, R⟩ := T
  refine ⟨⟨q, n, c, F.get f0 htf, C.frd (F.mono fun k hk _ => List.mem_cons_of_mem _ hk) N⟩, fun h => ?_, R'⟩
  rcases N t h with h | h
  · exact htf h
  · omega
theorem DSt.turnN (T : DSt w t r sp m rfp av) (F : Fr av w w') (ht : t ∉ av) (hf : ∀ k ∈ rfp, k ∉ av) (N : ∀ k ∈ av', k ∈ av ∨ w.heap.size ≤ k) : DSt w' t r sp m rfp av' := by
  obtain ⟨⟨q, n, c, f0, C⟩, htf, R⟩ := T
  refine ⟨⟨q, n, c, F.get f0 ht, C.fr (F.mono fun k hk _ => by simp [hk]) fun k hk => ?_⟩, htf, R.frame F hf⟩
  rcases List.mem_cons.1 hk with rfl | hk
  · exact .inl (by simp)
  · rcases List.mem_append.1 hk with h | h
    · rcases N k h with h | h
      · exact .inl (by simp [h])
      · exact .inr h
    · exact .inl (by simp [h])
theorem StAv.slt (T : StAv w s d sp m fp av) : s < w.heap.size := by
  obtain ⟨mb, f0, -⟩ := T.ex
  exact World.at_lt f0
theorem DSt.tlt (T : DSt w t r sp m rfp av) : t < w.heap.size := by
  obtain ⟨⟨q, n, c, f0, C⟩, -⟩ := T
  exact World.at_lt f0
/-- The code's store and the document's, made behind w0. -/
structure Pl (w0 w : World) (d r s t : Nat) (m : DM) (sp : SP) (m2 : DM) (sp2 : SP) (fp rfp : List Nat) : Prop where
  T : StAv w s d sp m fp (t :: rfp)
  T2 : DSt w t r sp2 m2 rfp (s :: fp)
  sr : s ∉ t :: rfp
  tf : t ∉ s :: fp
  dis : ∀ k ∈ fp, k ∉ rfp
  fr : Fr [] w0 w
  lo : ∀ k ∈ s :: t :: (fp ++ rfp), w0.heap.size ≤ k
theorem Pl.fr0 (P : Pl w0 w d r s t m sp m2 sp2 fp rfp) (F : Fr [] w w') : Pl w0 w' d r s t m sp m2 sp2 fp rfp :=
  ⟨P.T.fr0 F, P.T2.fr0 F, P.sr, P.tf, P.dis, P.fr.trans F, P.lo⟩
theorem Pl.code (P : Pl w0 w d r s t m sp m2 sp2 fp rfp) (T' : StAv w' s d sp' m' fp' (t :: rfp)) (F : Fr (s :: fp) w w') (N : News w fp fp') : Pl w0 w' d r s t m' sp' m2 sp2 fp' rfp := by
  have hr : ∀ k ∈ rfp, k ∉ s :: fp := fun k hk h => by
    rcases List.mem_cons.1 h with rfl | h
    · exact P.sr (List.mem_cons_of_mem _ hk)
    · exact P.dis k h hk
  refine ⟨T', P.T2.turnN F P.tf hr (fun k hk => ?_), P.sr, fun h => ?_, fun k hk hk' => ?_, P.fr.seq F fun k hk hl => ?_, fun k hk => ?_⟩
  · rcases List.mem_cons.1 hk with rfl | hk
    · exact .inl (by simp)
    · exact (N k hk).imp (List.mem_cons_of_mem _) id
  · rcases List.mem_cons.1 h with h | h
    · exact P.tf (by simp [h])
    · rcases N t h with h | h
      · exact P.tf (List.mem_cons_of_mem _ h)
      · have := P.T2.tlt; omega
  · rcases N k hk with h | h
    · exact P.dis k h hk'
    · have := P.T2.disk.lt k hk'; omega
  · have := P.lo k (by rcases List.mem_cons.1 hk with rfl | h <;> simp [*])
    omega
  · simp only [List.mem_cons, List.mem_append] at hk
    rcases hk with rfl | rfl | hk | hk
    · exact P.lo _ (by simp)
    · exact P.lo _ (by simp)
    · rcases N k hk with h | h
      · exact P.lo _ (by simp [h])
      · exact Nat.le_trans P.fr.size h
    · exact P.lo _ (by simp [hk])
theorem Pl.doc (P : Pl w0 w d r s t m sp m2 sp2 fp rfp) (T' : DSt w' t r sp' m' rfp' (s :: fp)) (F : Fr (t :: rfp) w w') (N : News w rfp rfp') : Pl w0 w' d r s t m sp m' sp' fp rfp' := by
  have hr : ∀ k ∈ fp, k ∉ t :: rfp := fun k hk h => by
    rcases List.mem_cons.1 h with rfl | h
    · exact P.tf (List.mem_cons_of_mem _ hk)
    · exact P.dis k hk h
  refine ⟨P.T.turnN F P.sr hr (fun k hk => ?_), T', fun h => ?_, P.tf, fun k hk hk' => ?_, P.fr.seq F fun k hk hl => ?_, fun k hk => ?_⟩
  · rcases List.mem_cons.1 hk with rfl | hk
    · exact .inl (by simp)
    · exact (N k hk).imp (List.mem_cons_of_mem _) id
  · rcases List.mem_cons.1 h with h | h
    · exact P.sr (by simp [h])
    · rcases N s h with h | h
      · exact P.sr (List.mem_cons_of_mem _ h)
      · have := P.T.slt; omega
  · rcases N k hk' with h | h
    · exact P.dis k hk h
    · have := P.T.disk.lt k hk; omega
  · have := P.lo k (by rcases List.mem_cons.1 hk with rfl | h <;> simp [*])
    omega
  · simp only [List.mem_cons, List.mem_append] at hk
    rcases hk with rfl | rfl | hk | hk
    · exact P.lo _ (by simp)
    · exact P.lo _ (by simp)
    · exact P.lo _ (by simp [hk])
    · rcases N k hk with h | h
      · exact P.lo _ (by simp [h])
      · exact Nat.le_trans P.fr.size h
theorem Pl.both (P : Pl w0 w d r s t m sp m2 sp2 fp rfp) : Both w0 w d r m m2 fp rfp :=
  ⟨P.T.disk, P.T2.disk, P.dis, P.fr, fun k hk => .inr (P.lo k (by simp [hk])), fun k hk => .inr (P.lo k (by simp [hk]))⟩
/-- Both are opened. -/
theorem Both.open_ {w1 w2 : World} (B : Both w0 w d r m m fp rfp) (T1 : StAv w1 s d sp m' fp' rfp) (F1 : Fr fp w w1) (N1 : News w fp fp') (hs : w.heap.size ≤ s) (T2 : DSt w2 t r sp m' rfp' (s :: fp')) (F2 : Fr rfp w1 w2) (N2 : News w1 rfp rfp') (ht : w1.heap.size ≤ t) : Pl w0 w2 d r s t m' sp m' sp fp' rfp' := by
  have B1 := B.disk T1.disk F1 N1
  have B2 := B1.ref T2.disk F2 N2
  have hsr : s ∉ rfp := fun h => by have := B.R.lt s h; omega
  have hsl := T1.slt
  refine ⟨T1.turnN F2 hsr B1.dis (fun k hk => ?_), T2, fun h => ?_, fun h => ?_, B2.dis, B2.fr, fun k hk => ?_⟩
  · rcases List.mem_cons.1 hk with rfl | hk
    · exact .inr ht
    · exact N2 k hk
  · rcases List.mem_cons.1 h with h | h
    · omega
    · rcases N2 s h with h | h
      · exact hsr h
      · omega
  · rcases List.mem_cons.1 h with h | h
    · omega
    · have := T1.disk.lt t h; omega
  · simp only [List.mem_cons, List.mem_append] at hk
    rcases hk with rfl | rfl | hk | hk
    · exact Nat.le_trans B.fr.size hs
    · exact Nat.le_trans B1.fr.size ht
    · rcases B2.nd k hk with h | h
      · cases h
      · exact h
    · rcases B2.nr k hk with h | h
      · cases h
      · exact h
theorem Chs.awayP {av : List Nat} {p : Option Addr} {n cap : Nat} {l : List Chg} (h : Chs w p n cap l) (F : Fr [] w w') (hav : ∀ k ∈ av, w.heap.size ≤ k) : ChsA w' av p n cap l := by
  obtain ⟨vs, h1, h2⟩ := h
  refine ⟨vs, h1.fr0 F, h2.fr0 F, fun u hu q m d e h0 k hk hf => ?_, fun h0 k hk hf => ?_⟩
  · have h3 := h2.lt u hu q m d e h0 k hk
    have := hav k hf; omega
  · rcases h1.row with h6 | ⟨b, off, cs, T, fr, rfl, hb, -⟩
    · omega
    · simp only [Option.map_some, Option.some.injEq] at hk
      subst hk
      have := World.at_lt hb
      have := hav _ hf; omega
end
end Go.Proofs.Ytombhkekocbfoaa
