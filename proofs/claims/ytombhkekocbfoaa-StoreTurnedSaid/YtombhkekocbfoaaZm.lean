/- Joined: DkM, DkN, DkO, SoZd, SoZ, DcA. -/
import Derived.Test.YtombhkekocbfoaaZl
import Derived.Test.YtombhkekocbfoaaZk
import Derived.Test.YtombhkekocbfoaaZh
import Derived.Test.YtombhkekocbfoaaZi
import Derived.Test.YtombhkekocbfoaaZe
set_option linter.unusedVariables false
set_option linter.unusedSimpArgs false
namespace Go.Proofs.Ytombhkekocbfoaa
open Go.RowKit Go.Dr Go.St

def keepM (m : DM) (k : Int) : DM := { m with kept := layW m.kept (m.waits.take k.toNat), waits := [] }
theorem OwnsR.at_ {w : World} {e : Nat} {p : Option Addr} {n cap : Nat} {xs : List Value} (h : OwnsR w e 1 p n cap xs) (hl : xs.length = n) (i : Nat) (hi : i < n) :
    ∃ g cur, p = some ⟨g, 0, none⟩ ∧ w.blk g = some (.cells cur e (0, 0)) ∧ i < cur.size ∧ cur[i]? = xs[i]? := by
  rcases h.2 with ⟨he, h0⟩ | ⟨g, cap', cur, he, _, hg, hnc, hcm, hcs, htake⟩
  · omega
  · simp only [Value.slice.injEq] at he
    obtain ⟨rfl, _, rfl⟩ := he
    refine ⟨g, cur, rfl, hg, by omega, ?_⟩
    rw [← htake, List.getElem?_take_of_lt (by omega), Array.getElem?_toList]

section
variable {w : World} {r : Nat} {m : DM} {fp : List Nat}
set_option maxHeartbeats 2000000 in
theorem rkeep_any (D : RefAt w r m fp) (k : Int) (hwl : m.waits.length ≤ 1000000) :
    Calls Try.prog 43 #[.pointer (some ⟨r, 0, none⟩), .int .i64 k] w fun e w' => e = .returned (.tuple #[]) ∧ ∃ fp', RefAt w' r (keepM m k) fp' ∧ Fr fp w w' ∧ ∀ j ∈ fp', j ∈ fp := by
  obtain ⟨kb, pa, ca, pb, cb, bs, ⟨hr, hk, ha, hb, hl, hx, n0, na, nb, nx⟩, hfp, ok⟩ := D
  have HA := Lib.hid ha
  have HB := Lib.hid hb
  have HX := Lib.hid hx
  have HN := Lib.hid (And.intro na (And.intro nb nx))
  have Hfp := Lib.hid hfp
  clear ha hb hx na nb nx hfp
  have n0' : kb ≠ r := fun e => n0 e.symm
  go_enter Try.func43, Try.ntmps43
  go_wp2
  go_loopw [4] (fun i wr => ∃ j : Nat, j ≤ m.waits.length ∧ j ≤ k.toNat ∧ i = .int .i64 j ∧ Fr [kb] w wr ∧ wr.blk kb = some (.cells (ints .u8 (layW m.kept (m.waits.take j))) 5 (0, 0))) (fun i _ => m.waits.length - (intOf i).toNat)
  case atStart => exact ⟨0, Nat.zero_le _, Nat.zero_le _, rfl, Fr.refl _ _, by simpa [layW] using hk⟩
  case round =>
    obtain ⟨j, hj1, hj2, rfl, FR, hkr⟩ := hrel
    have hrr := FR.get hr (by simpa using n0)
    have hrl := World.at_lt hrr
    have hkl := World.at_lt hkr
    by_cases hlt : j < m.waits.length ∧ (j : Int) < k
    · obtain ⟨hlt, hlk⟩ := hlt
      obtain ⟨ga, cura, rfl, hga, hza, hca⟩ := OwnsR.at_ HA.out (by simp) j hlt
      obtain ⟨gb, curb, rfl, hgb, hzb, hcb⟩ := OwnsR.at_ HB.out (by simp [hl]) j hlt
      have hjb : j < bs.length := by omega
      obtain ⟨gx1, gx2, gx3, gx4⟩ := HN.out.2.2 _ (List.getElem_mem hjb)
      obtain ⟨curx, T, hgx, hzx, hcx⟩ := HX.out j hjb hlt
      obtain ⟨ga1, ga2⟩ := HN.out.1 ga rfl
      obtain ⟨gb1, gb2, _⟩ := HN.out.2.1 gb rfl
      have hgar := FR.get hga (by simpa using ga2)
      have hgbr := FR.get hgb (by simpa using gb2)
      have hgxr := FR.get hgx (by simpa using gx2)
      obtain ⟨q1, q2⟩ := ok.ws m.waits[j] (List.getElem_mem hlt)
      have hts := List.take_succ_eq_append_getElem hlt
      have hLl := length_layW m.n (m.waits.take j) m.kept ok.kl (fun x hx => ok.ws x (List.mem_of_mem_take hx))
      have hstep := layW_snoc m.kept (m.waits.take j) m.waits[j]
      rw [← hts] at hstep
      simp only [List.getElem?_map, List.getElem?_eq_getElem hlt, List.getElem?_eq_getElem hjb, Option.map_some] at hca hcb
      generalize m.waits[j] = x at hca hcx q1 q2 hstep
      generalize bs[j] = y at hcb hgxr gx1 gx2 gx3 gx4 hgx
      obtain ⟨xa, xb⟩ := x
      obtain ⟨yb, yc⟩ := y
      dsimp only at hca hcx q1 q2 hstep hcb hgxr gx1 gx2 gx3 gx4 hgx
      have hn2 := ok.n2
      obtain ⟨c, hc⟩ : ∃ c, xa * 64 = c := ⟨_, rfl⟩
      rw [hc] at hstep
      have hwr : IntKind.i64.wrap (64 * (xa : Int)) = (c : Int) := by rw [IntKind.wrap_i64]; omega
      have hc1 : c + 64 ≤ 64 * m.n := by omega
      have hc3 : (c : Int) ≤ 64 * (m.n : Int) := by omega
      have hc4 : 0 ≤ (c : Int) := by omega
      have hc5 : 64 ≤ 64 * m.n - c := by omega
      have hc6 : 64 * m.n ≠ c := by omega
      obtain ⟨X, hXe⟩ : ∃ X, layW m.kept (m.waits.take j) = X := ⟨_, rfl⟩
      rw [hXe] at hLl hkr hstep
      have hc7 : c + 64 ≤ X.length := by omega
      have hx6 : List.take 64 curx.toList = xb.map (Value.int .u8) := hcx
      have hones : ones (List.take 64 curx.toList) = true := by rw [hx6]; exact ones_map_int _ _
      obtain ⟨_, hca'⟩ := Array.getElem?_eq_some_iff.mp hca
      obtain ⟨_, hcb'⟩ := Array.getElem?_eq_some_iff.mp hcb
      have hgxl := World.at_lt hgxr
      have HS := Lib.hid hstep
      have HF := Lib.hid FR
      have HH := Lib.hid hc
      clear hga hgb hgx hts hstep FR hc hcx hXe
      go_wp2
      refine drawn_head 20 (by kernel_rfl) rfl rfl (by kernel_rfl) ?_
      change rowK _ _ _ [0,1,2,3,4,5,6,7,8,9,10,11,12,13,14,15,16,17,18,19] _ _
      repeat (refine rowK_step rfl (fun K hK => ?_); go_simp; refine hK _ ?_; clear hK K)
      refine rowK_nil ?_
      intro K hK
      go_wp2
      go_roundw
      case rel =>
        refine ⟨j + 1, by omega, by omega, by go_num, (HF.out.put _ _ (fun _ => by simp)).drew, ?_⟩
        rw [HS.out]
        rw [World.at_drew, World.at_put_same _ _ _ hkl]
      case measure => simp [intOf]; omega
    · have hmin : m.waits.take j = m.waits.take k.toNat := by
        rcases Nat.lt_or_ge j m.waits.length with h | h
        · have : j = k.toNat := by omega
          rw [this]
        · rw [List.take_of_length_le h, List.take_of_length_le (by omega)]
      have hend : ∀ W : World, W = wr.put r (.cells #[.int .i64 m.n, .slice (some ⟨kb, 0, none⟩) (64 * m.n) (64 * m.n), .slice none 0 0, .slice none 0 0, .int .i64 m.fuse, .bool m.dead] 48 (0, 0)) →
          ∃ fp', RefAt W r (keepM m k) fp' ∧ Fr fp w W ∧ ∀ j ∈ fp', j ∈ fp := by
        rintro W rfl
        have hLl := length_layW m.n (m.waits.take k.toNat) m.kept ok.kl (fun x hx => ok.ws x (List.mem_of_mem_take hx))
        refine ⟨rfpOf r kb none none [], ⟨kb, none, 0, none, 0, [], ⟨?_, ?_, World.ownsRow_nil _ _ _ _, World.ownsRow_nil _ _ _ _, rfl, ?_, n0, fun g h => by (cases h), fun g h => by (cases h), fun x h => by (cases h)⟩, rfl, ?_⟩, ?_, ?_⟩
        · rw [World.at_put_same _ _ _ hrl]; rfl
        · rw [World.at_put_other _ _ _ _ n0, hkr, hmin]; rfl
        · intro i h; cases h
        · exact ⟨ok.n1, ok.n2, hLl, ok.sl, ok.f1, ok.f2, fun x h => by (cases h)⟩
        · rw [Hfp.out]
          exact (FR.mono (fun j hj _ => by simp at hj; subst hj; simp [rfpOf])).put _ _ (fun _ => by simp [rfpOf])
        · intro j hj
          rw [Hfp.out]
          simp only [rfpOf, Option.map_none, Option.toList_none, List.map_nil, List.append_nil, List.mem_cons, List.not_mem_nil, or_false] at hj
          rcases hj with rfl | rfl <;> simp [rfpOf]
      have HE := Lib.hid hend
      clear hend hmin hr hk
      by_cases h1 : j < m.waits.length
      · have h2 : ¬ (j : Int) < k := fun h => hlt ⟨h1, h⟩
        have h3 : k ≤ (j : Int) := by omega
        clear hlt h2
        go_wp2
        go_end0
        exact ⟨rfl, HE.out _ rfl⟩
      · have h3 : m.waits.length ≤ j := by omega
        clear hlt h1
        go_wp2
        go_end0
        exact ⟨rfl, HE.out _ rfl⟩

/-- What the crash leaves. -/
theorem rcrash_any (D : RefAt w r m fp) (k : Int) (hwl : m.waits.length ≤ 1000000) :
    Calls Try.prog 30 #[.pointer (some ⟨r, 0, none⟩), .int .i64 k] w fun e w' => e = .returned (.tuple #[]) ∧ ∃ fp', RefAt w' r (crashM m k) fp' ∧ Fr fp w w' ∧ ∀ j ∈ fp', j ∈ fp := by
  have hK := rkeep_any D k hwl
  have HK := Lib.hid hK
  clear hK
  have hok0 := D
  obtain ⟨_, _, _, _, _, _, _, _, ok0⟩ := hok0
  have hLl := length_layW m.n (m.waits.take k.toNat) m.kept ok0.kl (fun x hx => ok0.ws x (List.mem_of_mem_take hx))
  have HL := Lib.hid (And.intro hLl ok0)
  clear hLl ok0 D
  go_enter Try.func30, Try.ntmps30
  go_wp2_with fail
  refine HK.out.mono ?_
  rintro e w1 ⟨rfl, fp1, D1, F1, S1⟩
  obtain ⟨kb, pa, ca, pb, cb, bs, D, rfl, ok⟩ := D1
  have hr := D.hr
  have hrl := World.at_lt hr
  have HD := Lib.hid D
  have HF := Lib.hid F1
  clear D F1
  go_wp2
  go_end0
  have D2 := HD.out.flags (-1) false
  refine ⟨rfl, _, ⟨kb, pa, ca, pb, cb, bs, ⟨D2.hr, D2.hk, D2.ha, D2.hb, D2.hl, D2.hx, D2.n0, D2.na, D2.nb, D2.nx⟩, rfl, ?_⟩, HF.out.put _ _ (fun _ => S1 _ (by simp [rfpOf])), S1⟩
  exact ⟨HL.out.2.n1, HL.out.2.n2, HL.out.1, HL.out.1, by simp [crashM], by simp [crashM], fun x h => by (cases h)⟩

theorem rsync_any (D : RefAt w r m fp) (hwl : m.waits.length ≤ 1000000) :
    Calls Try.prog 21 #[.pointer (some ⟨r, 0, none⟩)] w fun e w' => e = .returned (.int .i64 (syncM m).1) ∧ ∃ fp', RefAt w' r (syncM m).2 fp' ∧ Fr fp w w' ∧ ∀ j ∈ fp', j ∈ fp := by
  have hS := rstep_any D
  obtain ⟨s1, s2, s3, s4⟩ := aliveM_same m
  obtain ⟨m1, hm1⟩ : ∃ m1, aliveM m = m1 := ⟨_, rfl⟩
  rw [hm1] at hS s1 s2 s3 s4
  cases hl : livesM m with
  | false =>
    have hsm : syncM m = (150, m1) := by simp [syncM, hl, hm1]
    rw [hsm]
    rw [hl] at hS
    have HS := Lib.hid hS
    clear hS s1 s2 s3 s4 hl hsm D
    go_enter Try.func21, Try.ntmps21
    go_wp2_with fail
    refine HS.out.mono ?_
    rintro e w1 ⟨rfl, D1, F1⟩
    go_wp2
    go_ret
    exact ⟨rfl, fp, D1, F1, fun _ h => h⟩
  | true =>
    have hsm : syncM m = (0, keepM m1 m1.waits.length) := by
      simp only [syncM, hl, ↓reduceIte, hm1, keepM, Int.toNat_natCast, List.take_length, s2, s4]
    rw [hsm]
    rw [hl] at hS
    rw [← s4] at hwl
    have HS := Lib.hid hS
    clear hS s1 s2 s3 s4 hl hsm D
    go_enter Try.func21, Try.ntmps21
    go_wp2_with fail
    refine HS.out.mono ?_
    rintro e w1 ⟨rfl, D1, F1⟩
    have hD1 := D1
    obtain ⟨kb, pa, ca, pb, cb, bs, DD, _, ok⟩ := hD1
    have hr := DD.hr
    have HD := Lib.hid D1
    have HF := Lib.hid F1
    clear DD D1 F1
    go_wp2_with fail
    refine (rkeep_any HD.out m1.waits.length hwl).mono ?_
    rintro e w2 ⟨rfl, fp2, D2, F2, S2⟩
    have HD2 := Lib.hid D2
    have HF2 := Lib.hid (HF.out.trans F2)
    clear D2 F2 HD HF
    go_wp2
    go_ret
    exact ⟨rfl, fp2, HD2.out, HF2.out, S2⟩
end
end Go.Proofs.Ytombhkekocbfoaa
namespace Go.Proofs.Ytombhkekocbfoaa
open Go.RowKit Go.Dr Go.St

theorem wl_at {P : Program} {ops : Array Oper} {Q : Exit → Act → World → Prop} {rest : List Oper} {a : Act} {w : World} (h : ∀ x, x = w → wpList P ops Q rest a x) : wpList P ops Q rest a w := h w rfl

section
variable {w : World} {r : Nat} {m : DM} {fp : List Nat}
theorem rwrite_arg (D : RefAt w r m fp) (at_ : Int) (bv : Value) (bb : Nat) (b : List Int) (B : BytesAt w bv bb b) (hb : b.length ≤ 1099511627776) (h : argM m at_ b = true) :
    Calls Try.prog 18 #[.pointer (some ⟨r, 0, none⟩), .int .i64 at_, bv] w fun e w' => e = .returned (.int .i64 1) ∧ w = w' := by
  obtain ⟨kb, pa, ca, pb, cb, bs, ⟨hr, hk, ha, hb', hl, hx, n0, na, nb, nx⟩, _, ok⟩ := D
  obtain ⟨off, fr, bc, cur, T, rfl, hbb, _, _, _⟩ := B
  clear hk ha hb' hl hx n0 na nb nx hbb
  have hn := ok.n2
  have hrl := World.at_lt hr
  by_cases h1 : at_ < 0
  · clear h
    go_enter Try.func18, Try.ntmps18
    go_wp2
    go_ret
    exact ⟨rfl, rfl⟩
  · by_cases h2 : (m.n : Int) ≤ at_
    · clear h
      go_enter Try.func18, Try.ntmps18
      go_wp2
      go_ret
      exact ⟨rfl, rfl⟩
    · have h3 : ((b.length : Int) != 64) = true := by
        simp [argM, h1, h2] at h ⊢; omega
      have h1' : decide (at_ < 0) = false := by simpa using h1
      have h2' : decide ((m.n : Int) ≤ at_) = false := by simpa using h2
      have h1b : 0 ≤ at_ := by omega
      have h2b : at_ < m.n := by omega
      clear h h1 h2
      go_enter Try.func18, Try.ntmps18
      go_wp2
      go_ret
      exact ⟨rfl, rfl⟩
theorem rwrite_dead (D : RefAt w r m fp) (at_ : Int) (bv : Value) (bb : Nat) (b : List Int) (B : BytesAt w bv bb b) (h : argM m at_ b = false) (hl : livesM m = false) :
    Calls Try.prog 18 #[.pointer (some ⟨r, 0, none⟩), .int .i64 at_, bv] w fun e w' => e = .returned (.int .i64 150) ∧ RefAt w' r (aliveM m) fp ∧ Fr fp w w' := by
  have hA := rstep_any D
  rw [hl] at hA
  obtain ⟨kb, pa, ca, pb, cb, bs, ⟨hr, hk, ha, hb', hl, hx, n0, na, nb, nx⟩, _, ok⟩ := D
  obtain ⟨off, fr, bc, cur, T, rfl, hbb, _, _, _⟩ := B
  clear hk ha hb' hl hx n0 na nb nx hbb
  have hn := ok.n2
  have hrl := World.at_lt hr
  simp only [argM, Bool.or_eq_false_iff, decide_eq_false_iff_not] at h
  obtain ⟨⟨h1, h2⟩, h3⟩ := h
  have h1b : 0 ≤ at_ := by omega
  have h2b : at_ < m.n := by omega
  obtain h3' : b.length = 64 := by simpa using h3
  rw [h3']
  clear h1 h2 h3 h3'
  have HA := Lib.hid hA
  clear hA
  go_enter Try.func18, Try.ntmps18
  go_wp2_with fail
  refine HA.out.mono ?_
  rintro e w' ⟨rfl, D1, F1⟩
  go_wp2
  go_ret
  exact ⟨rfl, D1, F1⟩

set_option maxHeartbeats 2000000 in
theorem rwrite_ok (D : RefAt w r m fp) (at_ : Int) (bv : Value) (bb : Nat) (b : List Int) (B : BytesAt w bv bb b) (hbf : bb ∉ fp) (hwl : m.waits.length ≤ 1000000) (h : argM m at_ b = false) (hl : livesM m = true) :
    Calls Try.prog 18 #[.pointer (some ⟨r, 0, none⟩), .int .i64 at_, bv] w fun e w' => e = .returned (.int .i64 0) ∧
      ∃ fp', RefAt w' r { aliveM m with seen := lay m.seen (at_.toNat * 64) b, waits := m.waits ++ [(at_.toNat, b)] } fp' ∧ Fr fp w w' ∧ News w fp fp' := by
  have hA := rstep_any D
  rw [hl] at hA
  obtain ⟨m1, hm1⟩ : ∃ m1, aliveM m = m1 := ⟨_, rfl⟩
  obtain ⟨s1, s2, s3, s4⟩ := aliveM_same m
  rw [hm1] at hA s1 s2 s3 s4 ⊢
  have hbf0 := hbf
  have D0 := D
  obtain ⟨_, _, _, _, _, _, ⟨hr0, _, _, _, _, _, _, _, _, _⟩, _, ok⟩ := D
  obtain ⟨off, fr, bc, cur, T, rfl, hbb, hcl, hcp, hcx⟩ := B
  have hn := ok.n2
  simp only [argM, Bool.or_eq_false_iff, decide_eq_false_iff_not] at h
  obtain ⟨⟨h1, h2⟩, h3⟩ := h
  have h1b : 0 ≤ at_ := by omega
  have h2b : at_ < m.n := by omega
  obtain h3' : b.length = 64 := by simpa using h3
  rw [h3'] at hcl hcx
  have hrl := World.at_lt hr0
  have HA := Lib.hid hA
  have HS := Lib.hid (And.intro s1 (And.intro s2 (And.intro s3 s4)))
  have HB := Lib.hid hbb
  have HM := Lib.hid hm1
  have Hcx := Lib.hid hcx
  have HD0 := Lib.hid D0
  rw [h3']
  clear h1 h2 h3 hA hl s1 s2 s3 s4 hbb hm1 hcx D0
  go_enter Try.func18, Try.ntmps18
  go_wp2_with fail
  refine HA.out.mono ?_
  rintro e w1 ⟨rfl, ⟨kb, pa, ca, pb, cb, bs, ⟨hr, hk, ha, hb, hl, hx, n0, na, nb, nx⟩, hfp, ok1⟩, F1⟩
  have hb1 := F1.get HB.out hbf
  have hbr : bb ≠ r := fun e => hbf (by rw [hfp, e]; simp [rfpOf])
  have hbpa : pa.map (·.block) ≠ some bb := fun e => hbf (by rw [hfp]; simp [rfpOf, e])
  have hbpb : pb.map (·.block) ≠ some bb := fun e => hbf (by rw [hfp]; simp [rfpOf, e])
  have hl1 : m1.waits.length ≤ 1000000 := by rw [HS.out.2.2.2]; exact hwl
  have hrl1 := World.at_lt hr
  have HK := Lib.hid hk
  have HAA := Lib.hid ha
  have HBB := Lib.hid hb
  have HX := Lib.hid hx
  have HN := Lib.hid (And.intro n0 (And.intro na (And.intro nb nx)))
  have HF := Lib.hid F1
  have Hb1 := Lib.hid hb1
  have Hfp := Lib.hid hfp
  have Hr1 := Lib.hid hr
  clear hk ha hb hx n0 na nb nx F1 hr0 hb1 hfp hbf
  go_wp2_with (at_builtin; refine wpList_app rfl (.tmp 30) (.tmp 32) 45 rfl dkE45 (by omega) pa m1.waits.length ca (m1.waits.map fun x => .int .i64 x.1) rfl ?h1 w1.heap.size 0 1 1 rfl #[.int .i64 at_] 3 (0, 0) ?h2 [.int .i64 at_] ?h3 ?h4 ?h5 ?h6 ?h7 ?h8)
  case h1 => exact ((Fr.refl [] w1).alloc _).owns HAA.out (fun _ _ => by simp)
  case h2 => exact World.at_alloc_new _ _ _ rfl
  case h3 => rfl
  case h4 => simp
  case h5 => rfl
  case h6 => omega
  case h7 => omega
  case h8 =>
  intro pa2 ca2 w2 hR
  have F2 : Fr ((pa.map (·.block)).toList) w1 w2 := ((Fr.refl _ w1).alloc _).trans hR.fr
  have inA : ∀ x, x ∈ (pa.map (·.block)).toList → pa.map (·.block) = some x := fun x hx => by simpa using hx
  have hr2 := F2.get Hr1.out (fun h => (HN.out.2.1 _ (inA _ h)).1 rfl)
  have hk2 := F2.get HK.out (fun h => (HN.out.2.1 _ (inA _ h)).2 rfl)
  have hb2 := F2.get Hb1.out (fun h => hbpa (inA _ h))
  have hB2 := F2.owns HBB.out (fun g hg h => (HN.out.2.2.1 g (by cases pb <;> first | exact hg | cases hg)).2.2 (inA _ h))
  have hX2 : ∀ i (h : i < bs.length) (h' : i < m1.waits.length), ∃ cur T, w2.blk bs[i].1 = some (.cells cur T (0, 0)) ∧ 64 ≤ cur.size ∧ cur.toList.take 64 = (m1.waits[i]).2.map (Value.int .u8) := fun i h h' => by
    obtain ⟨cur, T, e1, e2, e3⟩ := HX.out i h h'
    exact ⟨cur, T, F2.get e1 (fun hh => (HN.out.2.2.2 _ (List.getElem_mem h)).2.2.1 (inA _ hh)), e2, e3⟩
  have hrl2 := World.at_lt hr2
  have HR2 := Lib.hid hR
  have HF2 := Lib.hid F2
  have HK2 := Lib.hid hk2
  have Hb2 := Lib.hid hb2
  have HB2 := Lib.hid hB2
  have HX2 := Lib.hid hX2
  clear hR F2 inA hk2 hb2 hB2 hX2
  go_wp2
  refine drawn_begin 10 (fun w' => w'.blk r = some (.cells #[.int .i64 m1.n, .slice (some ⟨kb, 0, none⟩) (64 * m1.n) (64 * m1.n), .slice pa2 (m1.waits.length + 1) ca2, .slice pb m1.waits.length cb, .int .i64 m1.fuse, .bool m1.dead] 48 (0, 0))) (by kernel_rfl) ?_
  refine drawn_reads (fuel := 6) [0, 1, 2, 3, 4, 5, 6] rfl (by kernel_rfl) ?_ ?_
  · exact (World.at_drew _ _).trans (World.at_put_same _ _ _ hrl2)
  repeat (refine rowK_step rfl (fun K hK => ?_); go_simp; refine hK _ ?_; clear hK K)
  refine rowK_nil ⟨fun w' hw' => ?_, ?_⟩
  · repeat (refine rowWp_step rfl (fun K hK => ?_); go_simp; refine hK _ ?_; clear hK K)
    exact rowWp_nil rfl
  refine drawn_next 7 (fuel := 5) rfl (by kernel_rfl) ?_
  intro K3 hK3
  refine wl_at ?_
  intro wA hwA
  have FA : Fr [r] w2 wA := by rw [hwA]; exact ((Fr.refl _ _).put _ _ (by simp)).drew
  have hAr : wA.blk r = some (.cells #[.int .i64 m1.n, .slice (some ⟨kb, 0, none⟩) (64 * m1.n) (64 * m1.n), .slice pa2 (m1.waits.length + 1) ca2, .slice pb m1.waits.length cb, .int .i64 m1.fuse, .bool m1.dead] 48 (0, 0)) := by
    rw [hwA, World.at_drew, World.at_put_same _ _ _ hrl2]
  have hbA := FA.get Hb2.out (by simpa using hbr)
  have HFA := Lib.hid FA
  clear hwA FA hr2
  refine wpList_app rfl _ _ 22 rfl E31 (by omega) none 0 0 [] rfl (World.ownsRow_nil _ _ _ _) bb off 64 bc rfl cur T fr hbA (b.map (Value.int .u8)) ?_ ?_ ?_ (by omega) (by omega) ?_
  · rw [Nat.mul_one, Hcx.out, toList_ints]
  · omega
  · exact ones_map_int _ _
  intro pc cc w4 hR4
  have F4 : Fr [] wA w4 := hR4.fr
  have hO4 := hR4.owns
  have hnew4 := hR4.new
  rcases hO4.2 with ⟨he, h0⟩ | ⟨gc, cap', curc, he, _, hgc, hnc, hcm, hcs, htake⟩
  · omega
  simp only [Value.slice.injEq] at he
  obtain ⟨rfl, _, rfl⟩ := he
  have hgcn : wA.heap.size ≤ gc := by
    rcases hnew4 gc rfl with h | h
    · cases h
    · exact h
  have h4r := F4.get hAr (by simp)
  have hgcl := World.at_lt hgc
  have HF4 := Lib.hid F4
  have Hgc := Lib.hid (And.intro hgc (And.intro hcs htake))
  clear hR4 hO4 hnew4 F4 hbA hgc hcs htake hcm hnc
  go_wp2
  (try with_reducible refine And.intro h4r ?_)
  refine drawn_next 8 (fuel := 4) rfl (by kernel_rfl) ?_
  intro K8 hK8
  go_wp2
  refine ⟨((Fr.refl [] w4).alloc _).get h4r (by simp), ?_⟩
  refine drawn_next 9 (fuel := 3) rfl (by kernel_rfl) ?_
  intro K9 hK9
  refine wl_at ?_
  intro wB hwB
  have FB : Fr [] w4 wB := by rw [hwB]; exact (Fr.refl _ _).alloc _
  have hB0 : wB.blk w4.heap.size = some (.cells #[.slice (some ⟨gc, 0, none⟩) 64 cc] 22 (0, 0)) := by rw [hwB]; exact World.at_alloc_new _ _ _ rfl
  have hBr := FB.get h4r (by simp)
  have FAB : Fr [r] w2 wB := HFA.out.seq (HF4.out.trans FB) (fun _ h => by cases h)
  have hOB : OwnsR wB 22 1 pb m1.waits.length cb (bs.map fun x => .slice (some ⟨x.1, 0, none⟩) 64 x.2) := FAB.owns HB2.out (fun g hg => by
    have := (HN.out.2.2.1 g (by cases pb <;> first | exact hg | cases hg)).1
    simpa using this)
  have HFB := Lib.hid FB
  have HFAB := Lib.hid FAB
  clear hwB FB FAB h4r
  refine wpList_app rfl _ _ 46 rfl dkE46 (by omega) pb m1.waits.length cb _ rfl hOB w4.heap.size 0 1 1 rfl _ 22 (0, 0) hB0 [.slice (some ⟨gc, 0, none⟩) 64 cc] rfl (by simp) rfl (by omega) (by omega) ?_
  intro pb2 cb2 w5 hR5
  have F5 : Fr ((pb.map (·.block)).toList) wB w5 := hR5.fr
  have inB : ∀ x, x ∈ (pb.map (·.block)).toList → pb.map (·.block) = some x := fun x hx => by simpa using hx
  have h5r := F5.get hBr (fun h => (HN.out.2.2.1 _ (inB _ h)).1 rfl)
  have hrl5 := World.at_lt h5r
  have HR5 := Lib.hid hR5
  have HF5 := Lib.hid F5
  have HinB := Lib.hid inB
  clear hR5 F5 inB hBr hOB hB0
  go_wp2
  (try with_reducible refine And.intro h5r ?_)
  refine drawn_end rfl (by kernel_rfl) ?_
  intro K10 hK10
  go_wp2
  go_ret

  refine ⟨rfl, ?_⟩
  obtain ⟨W, hW⟩ : ∃ W, W = w5.put r (.cells #[.int .i64 m1.n, .slice (some ⟨kb, 0, none⟩) (64 * m1.n) (64 * m1.n), .slice pa2 (m1.waits.length + 1) ca2, .slice pb2 (m1.waits.length + 1) cb2, .int .i64 m1.fuse, .bool m1.dead] 48 (0, 0)) := ⟨_, rfl⟩
  rw [← hW]
  have hWr : W.blk r = some (.cells #[.int .i64 m1.n, .slice (some ⟨kb, 0, none⟩) (64 * m1.n) (64 * m1.n), .slice pa2 (m1.waits.length + 1) ca2, .slice pb2 (m1.waits.length + 1) cb2, .int .i64 m1.fuse, .bool m1.dead] 48 (0, 0)) := by
    rw [hW]; exact World.at_put_same _ _ _ hrl5
  have F5W : Fr [r] w5 W := by rw [hW]; exact (Fr.refl _ _).put _ _ (by simp)
  have FBW : Fr (r :: (pb.map (·.block)).toList) wB W := (HF5.out.mono (fun _ h _ => List.mem_cons_of_mem _ h)).trans (F5W.mono (fun _ h _ => by simp at h; subst h; simp))
  have F2W : Fr (r :: (pb.map (·.block)).toList) w2 W := (HFAB.out.mono (fun _ h _ => by simp at h; subst h; simp)).trans FBW
  have F4W : Fr (r :: (pb.map (·.block)).toList) w4 W := (HFB.out.mono (fun _ h _ => by cases h)).trans FBW
  have inL : ∀ x, x ∈ r :: (pb.map (·.block)).toList → x = r ∨ pb.map (·.block) = some x := fun x hx => by simpa using hx
  obtain ⟨n0, na, nb, nx⟩ := HN.out
  have hwe : m.waits = m1.waits := HS.out.2.2.2.symm
  have hse : m.seen = m1.seen := HS.out.2.2.1.symm
  have z1 : kb < w1.heap.size := World.at_lt HK.out
  have z2 : w1.heap.size ≤ w2.heap.size := HF2.out.size
  have z3 : w2.heap.size ≤ wA.heap.size := HFA.out.size
  have z4 : w4.heap.size ≤ wB.heap.size := HFB.out.size
  have zx : ∀ x ∈ bs, x.1 < w1.heap.size := fun x hx => by
    obtain ⟨i, hi, rfl⟩ := List.getElem_of_mem hx
    obtain ⟨cur, T, e1, _⟩ := HX.out i hi (by rw [← hl]; exact hi)
    exact World.at_lt e1
  have zb : ∀ g, pb.map (·.block) = some g → g < w1.heap.size := fun g hg => (HBB.out.lt g (by cases pb <;> first | exact hg | cases hg)).2
  have za2 : ∀ g, pa2.map (·.block) = some g → g < w2.heap.size := fun g hg => (HR2.out.owns.lt g (by cases pa2 <;> first | exact hg | cases hg)).2
  have ea2 : ∀ g, pa2.map (·.block) = some g → pa.map (·.block) = some g ∨ w1.heap.size ≤ g := fun g hg => by
    rcases HR2.out.new g hg with h | h
    · exact .inl h
    · right; simp at h; omega
  have eb2 : ∀ g, pb2.map (·.block) = some g → pb.map (·.block) = some g ∨ wB.heap.size ≤ g := fun g hg => HR5.out.new g hg
  have inF : ∀ x, x = r ∨ x = kb ∨ pa.map (·.block) = some x ∨ pb.map (·.block) = some x ∨ x ∈ bs.map (·.1) → x ∈ fp := fun x hx => by
    rw [Hfp.out]
    simp only [rfpOf, List.mem_cons, List.mem_append, Option.mem_toList]
    exact hx
  have hFw := HF.out.size
  refine ⟨rfpOf r kb pa2 pb2 (bs ++ [(gc, cc)]), ⟨kb, pa2, ca2, pb2, cb2, bs ++ [(gc, cc)], ⟨?_, ?_, ?_, ?_, ?_, ?_, n0, ?_, ?_, ?_⟩, rfl, ?_⟩, ?_, ?_⟩
  · rw [hWr]; simp [hwe]
  · exact F2W.get HK2.out (fun h => by
      rcases inL _ h with h | h
      · exact n0 h.symm
      · exact (nb _ h).2.1 rfl)
  · have := F2W.owns HR2.out.owns (fun g hg h => by
      have hg' : pa2.map (·.block) = some g := by cases pa2 <;> first | exact hg | cases hg
      rcases inL _ h with h | h
      · rcases ea2 g hg' with e | e
        · exact (na _ e).1 h
        · omega
      · rcases ea2 g hg' with e | e
        · exact (nb _ h).2.2 e
        · have := zb _ h; omega)
    simpa [hwe, Int.toNat_of_nonneg h1b] using this
  · have := F5W.owns HR5.out.owns (fun g hg h => by
      have hg' : pb2.map (·.block) = some g := by cases pb2 <;> first | exact hg | cases hg
      simp at h
      rcases eb2 g hg' with e | e
      · exact (nb _ e).1 h
      · omega)
    simpa [hwe] using this
  · simp [hl, hwe]
  · intro i hi hi'
    by_cases hib : i < bs.length
    · have him : i < m1.waits.length := by omega
      obtain ⟨cur, T, e1, e2, e3⟩ := HX2.out i hib him
      have q := nx _ (List.getElem_mem hib)
      refine ⟨cur, T, ?_, e2, ?_⟩
      · rw [List.getElem_append_left hib]
        exact F2W.get e1 (fun h => by
          rcases inL _ h with h | h
          · exact q.1 h
          · exact q.2.2.2 h)
      · have e4 : (m.waits ++ [(at_.toNat, b)])[i]? = m1.waits[i]? := by rw [hwe, List.getElem?_append_left him]
        rw [List.getElem?_eq_getElem hi', List.getElem?_eq_getElem him, Option.some.injEq] at e4
        rw [e3]
        exact congrArg (fun x : Nat × List Int => x.2.map (Value.int .u8)) e4.symm
    · have hie : i = bs.length := by simp at hi; omega
      subst hie
      refine ⟨curc, 5, ?_, by have := congrArg List.length Hgc.out.2.2; simp [h3'] at this; omega, ?_⟩
      · rw [List.getElem_append_right (Nat.le_refl _)]
        simp only [Nat.sub_self, List.getElem_cons_zero]
        exact F4W.get Hgc.out.1 (fun h => by
          rcases inL _ h with h | h
          · omega
          · have := zb _ h; omega)
      · have e4 : (m.waits ++ [(at_.toNat, b)])[bs.length]? = some (at_.toNat, b) := by rw [hwe, hl]; simp
        rw [List.getElem?_eq_getElem hi', Option.some.injEq] at e4
        have := Hgc.out.2.2
        simp only [Nat.zero_add, Nat.mul_one, List.nil_append] at this
        rw [this]
        exact congrArg (fun x : Nat × List Int => x.2.map (Value.int .u8)) e4.symm
  · intro g hg
    rcases ea2 g hg with e | e
    · exact na _ e
    · constructor <;> omega
  · intro g hg
    rcases eb2 g hg with e | e
    · refine ⟨(nb _ e).1, (nb _ e).2.1, fun h => ?_⟩
      rcases ea2 g h with e' | e'
      · exact (nb _ e).2.2 e'
      · have := zb _ e; omega
    · exact ⟨by omega, by omega, fun h => by have := za2 _ h; omega⟩
  · intro x hx
    rcases List.mem_append.1 hx with hx | hx
    · have q := nx _ hx
      have qz := zx _ hx
      refine ⟨q.1, q.2.1, fun h => ?_, fun h => ?_⟩
      · rcases ea2 _ h with e | e
        · exact q.2.2.1 e
        · omega
      · rcases eb2 _ h with e | e
        · exact q.2.2.2 e
        · omega
    · obtain rfl : x = (gc, cc) := by simpa using hx
      refine ⟨by dsimp only; omega, by dsimp only; omega, fun h => ?_, fun h => ?_⟩
      · have := za2 _ h; dsimp only at this; omega
      · dsimp only at h
        rcases eb2 _ h with e | e
        · have := zb _ e; omega
        · omega
  · refine ⟨ok1.n1, ok1.n2, ok1.kl, ?_, ok1.f1, ok1.f2, ?_⟩
    · dsimp only
      have hsl := ok.sl
      have e1 := HS.out.1
      rw [length_lay _ _ _ (by omega), hse]; exact ok1.sl
    · intro x hx
      dsimp only at hx ⊢
      rw [hwe] at hx
      rcases List.mem_append.1 hx with hx | hx
      · exact ok1.ws x hx
      · obtain rfl : x = (at_.toNat, b) := by simpa using hx
        have e1 := HS.out.1
        exact ⟨by dsimp only; omega, h3'⟩
  · have a1 : Fr fp w w2 := HF.out.seq HF2.out (fun k hk _ => inF _ (.inr (.inr (.inl (by simpa using hk)))))
    exact a1.seq F2W (fun k hk _ => by
      rcases inL _ hk with h | h
      · exact inF _ (.inl h)
      · exact inF _ (.inr (.inr (.inr (.inl h)))))
  · intro k hk
    simp only [rfpOf, List.mem_cons, List.mem_append, Option.mem_toList, List.map_append, List.map_cons, List.map_nil, List.not_mem_nil, or_false] at hk
    rcases hk with h | h | h | h | h | h
    · exact .inl (inF _ (.inl h))
    · exact .inl (inF _ (.inr (.inl h)))
    · rcases ea2 _ h with e | e
      · exact .inl (inF _ (.inr (.inr (.inl e))))
      · right; omega
    · rcases eb2 _ h with e | e
      · exact .inl (inF _ (.inr (.inr (.inr (.inl e)))))
      · right; omega
    · exact .inl (inF _ (.inr (.inr (.inr (.inr h)))))
    · right; omega
end
end Go.Proofs.Ytombhkekocbfoaa
namespace Go.Proofs.Ytombhkekocbfoaa
open Go.RowKit Go.Dr Go.St
theorem spl_in (k : IntKind) (l : List Int) (tl : Array Value) (o : Nat) (m : List Int) (h : o + m.length ≤ l.length) : spl (ints k l ++ tl) o (m.map (Value.int k)) = ints k (lay l o m) ++ tl := by
  apply Array.ext'
  simp only [spl, lay, ints, Array.toList_append, Array.toList_extract, List.extract_eq_take_drop, List.drop_zero, Nat.sub_zero, List.length_map, Array.size_append, List.size_toArray]
  rw [List.take_append_of_le_length (by simp; omega)]
  rw [List.drop_append_of_le_length (by simp; omega)]
  rw [List.take_of_length_le (l := _ ++ tl.toList) (by simp; omega)]
  simp [List.map_take, List.map_drop]
theorem split_cur (cur : Array Value) (K : List Int) (n : Nat) (h : cur.toList.take n = K.map (Value.int .u8)) : ∃ tl, cur = ints .u8 K ++ tl := by
  refine ⟨(cur.toList.drop n).toArray, ?_⟩
  apply Array.ext'
  simp only [ints, Array.toList_append]
  rw [← h, List.take_append_drop]
theorem DiskAt.ok {w : World} {d : Nat} {m : DM} {fp : List Nat} (D : DiskAt w d m fp) : m.Ok := by
  obtain ⟨kb, sb, p, cap, D, _, ok⟩ := D
  exact ok

theorem blockOf_lay (c : List Int) (k a n : Nat) (x : List Int) (hc : c.length = 64 * n) (hk : k < n) (ha : a < n) (hx : x.length = 64) : blockOf (lay c (k * 64) x) a = if k = a then x else blockOf c a := by
  have hl := length_lay c (k * 64) x (by omega)
  split
  · next h =>
    subst h
    simp only [blockOf, lay]
    rw [List.take_append_of_le_length (by simp; omega), List.take_of_length_le (by simp; omega)]
    rw [List.drop_append_of_le_length (by simp; omega), List.drop_of_length_le (by simp; omega), List.nil_append]
  · next h =>
    apply List.ext_getElem?
    intro i
    simp only [blockOf, lay, List.getElem?_drop, List.getElem?_take]
    by_cases hi : i < 64
    · rw [if_pos (by omega), if_pos (by omega)]
      rcases Nat.lt_or_gt_of_ne h with h' | h'
      · rw [List.getElem?_append_right (by simp; omega)]
        simp only [List.length_append, List.length_take, List.getElem?_drop]
        congr 1; omega
      · rw [List.append_assoc, List.getElem?_append_left (by simp; omega), List.getElem?_take_of_lt (by omega)]
    · rw [if_neg (by omega), if_neg (by omega)]

section
variable {w : World} {r : Nat} {m : DM} {fp : List Nat}
theorem rwrite_any (D : RefAt w r m fp) (at_ : Int) (bv : Value) (bb : Nat) (b : List Int) (B : BytesAt w bv bb b) (hbf : bb ∉ fp) (hb : b.length ≤ 1099511627776) (hwl : m.waits.length ≤ 1000000) :
    Calls Try.prog 18 #[.pointer (some ⟨r, 0, none⟩), .int .i64 at_, bv] w fun e w' => e = .returned (.int .i64 (writeM m at_ b).1) ∧ ∃ fp', RefAt w' r (writeM m at_ b).2 fp' ∧ Fr fp w w' ∧ News w fp fp' := by
  cases h : argM m at_ b with
  | true =>
    refine (rwrite_arg D at_ bv bb b B hb h).mono ?_
    rintro e w' ⟨rfl, rfl⟩
    simp only [writeM, h, ↓reduceIte]
    exact ⟨trivial, fp, D, Fr.refl _ _, fun k hk => .inl hk⟩
  | false =>
    cases hl : livesM m with
    | false =>
      refine (rwrite_dead D at_ bv bb b B h hl).mono ?_
      rintro e w' ⟨rfl, D', F⟩
      simp only [writeM, h, hl, Bool.false_eq_true, ↓reduceIte]
      exact ⟨trivial, fp, D', F, fun k hk => .inl hk⟩
    | true =>
      refine (rwrite_ok D at_ bv bb b B hbf hwl h hl).mono ?_
      rintro e w' ⟨rfl, fp', D', F, N⟩
      simp only [writeM, h, hl, Bool.false_eq_true, ↓reduceIte]
      exact ⟨trivial, fp', D', F, N⟩

theorem rread_arg (D : RefAt w r m fp) (at_ : Int) (h : noBlock m at_ = true) :
    Calls Try.prog 44 #[.pointer (some ⟨r, 0, none⟩), .int .i64 at_] w fun e w' => e = .returned (.tuple #[.slice none 0 0, .int .i64 1]) ∧ w = w' := by
  obtain ⟨kb, pa, ca, pb, cb, bs, ⟨hr, hk, ha, hb', hl, hx, n0, na, nb, nx⟩, _, ok⟩ := D
  clear hk ha hb' hl hx n0 na nb nx
  have hn := ok.n2
  have hrl := World.at_lt hr
  by_cases h1 : at_ < 0
  · clear h
    go_enter Try.func44, Try.ntmps44
    go_wp2
    go_ret2
    exact ⟨rfl, rfl⟩
  · have h2 : (m.n : Int) ≤ at_ := by simp [noBlock, h1] at h; omega
    clear h
    go_enter Try.func44, Try.ntmps44
    go_wp2
    go_ret2
    exact ⟨rfl, rfl⟩
theorem rread_dead (D : RefAt w r m fp) (at_ : Int) (h : noBlock m at_ = false) (hdead : m.dead = true) :
    Calls Try.prog 44 #[.pointer (some ⟨r, 0, none⟩), .int .i64 at_] w fun e w' => e = .returned (.tuple #[.slice none 0 0, .int .i64 150]) ∧ w = w' := by
  obtain ⟨kb, pa, ca, pb, cb, bs, ⟨hr, hk, ha, hb', hl, hx, n0, na, nb, nx⟩, _, ok⟩ := D
  clear hk ha hb' hl hx n0 na nb nx
  have hn := ok.n2
  have hrl := World.at_lt hr
  simp only [noBlock, Bool.or_eq_false_iff, decide_eq_false_iff_not] at h
  obtain ⟨h1, h2⟩ := h
  have h1b : 0 ≤ at_ := by omega
  have h2b : at_ < m.n := by omega
  clear h1 h2
  go_enter Try.func44, Try.ntmps44
  go_wp2
  go_ret2
  exact ⟨rfl, rfl⟩

set_option maxHeartbeats 2000000 in
theorem rread_ok (D : RefAt w r m fp) (at_ : Int) (h : noBlock m at_ = false) (hdead : m.dead = false) (hseen : m.seen = layW m.kept m.waits) (hwl : m.waits.length ≤ 1000000) :
    Calls Try.prog 44 #[.pointer (some ⟨r, 0, none⟩), .int .i64 at_] w fun e w' => ∃ v bb, e = .returned (.tuple #[v, .int .i64 0]) ∧ BytesAt w' v bb (blockOf m.seen at_.toNat) ∧ Fr [] w w' ∧ w.heap.size ≤ bb := by
  simp only [noBlock, Bool.or_eq_false_iff, decide_eq_false_iff_not] at h
  obtain ⟨h1, h2⟩ := h
  obtain ⟨a, rfl⟩ : ∃ a : Nat, at_ = a := ⟨at_.toNat, by omega⟩
  rw [hseen, Int.toNat_natCast]
  clear hseen
  obtain ⟨kb, pa, ca, pb, cb, bs, ⟨hr, hk, ha, hb, hl, hx, n0, na, nb, nx⟩, hfp, ok⟩ := D
  have hn := ok.n2
  have hkl := ok.kl
  have h2b : (a : Int) < m.n := by omega
  have h2c : a < m.n := by omega
  have HA := Lib.hid ha
  have HB := Lib.hid hb
  have HX := Lib.hid hx
  have HN := Lib.hid (And.intro na (And.intro nb nx))
  have hrl := World.at_lt hr
  have hkbl := World.at_lt hk
  have n0' : kb ≠ r := fun e => n0 e.symm
  obtain ⟨c, hc⟩ : ∃ c : Nat, a * 64 = c := ⟨_, rfl⟩
  obtain ⟨d, hd⟩ : ∃ d : Nat, c + 64 = d := ⟨_, rfl⟩
  have hwr : IntKind.i64.wrap (64 * (a : Int)) = (c : Int) := by rw [IntKind.wrap_i64]; omega
  have hwr2 : IntKind.i64.wrap ((c : Int) + 64) = (d : Int) := by rw [IntKind.wrap_i64]; omega
  have hd1 : (c : Int) ≤ (d : Int) := by omega
  have hd2 : (d : Int) ≤ 64 * (m.n : Int) := by omega
  have hd3 : d - c = 64 := by omega
  have hd4 : 64 * m.n ≠ c := by omega
  have hd5 : 0 ≤ (c : Int) := by omega
  have hd6 : c ≤ d := by omega
  have HC := Lib.hid (And.intro hc hd)
  clear ha hb hx na nb nx hfp h1 h2 hc hd
  go_enter Try.func44, Try.ntmps44
  go_wp2_with (at_builtin; refine wpList_app rfl (.tmp 22) (.tmp 32) 22 rfl E31 (by omega) none 0 0 [] rfl ?h1 kb c 64 (64 * m.n - c) rfl (ints .u8 m.kept) 5 (0, 0) ?h2 ((blockOf m.kept a).map (Value.int .u8)) ?h3 ?h4 ?h5 ?h6 ?h7 ?h8)
  case h1 => exact World.ownsRow_nil _ _ _ _
  case h3 =>
    obtain ⟨rfl, rfl⟩ := HC.out
    simp [blockOf, List.map_take, List.map_drop]
  case h4 => have := HC.out.1; omega
  case h8 =>
  intro pg cg w1 hR
  have F1 : Fr [] w w1 := hR.fr
  have hO := hR.owns
  have hnew := hR.new
  rcases hO.2 with ⟨he, h0⟩ | ⟨g, cap', cur, he, _, hg, hnc, hcm, hcs, htake⟩
  · omega
  simp only [Value.slice.injEq] at he
  obtain ⟨rfl, _, rfl⟩ := he
  have hgw : w.heap.size ≤ g := by
    rcases hnew g rfl with h | h
    · cases h
    · exact h
  obtain ⟨tl, rfl⟩ := split_cur cur (blockOf m.kept a) 64 (by simpa using htake)
  have hbl : (blockOf m.kept a).length = 64 := by have := HC.out.1; simp [blockOf]; omega
  have hbL : ∀ j, (blockOf (layW m.kept (m.waits.take j)) a).length = 64 := fun j => by
    have := length_layW m.n (m.waits.take j) m.kept hkl (fun x hx => ok.ws x (List.mem_of_mem_take hx))
    simp [blockOf]; omega
  have HBL := Lib.hid hbL
  have HF1 := Lib.hid F1
  have hgr : g ≠ r := by omega
  have Hg := Lib.hid hg
  have Hr := Lib.hid hr
  have hcg : 64 ≤ cg := by omega
  clear hR hO hnew F1 hg hr hk htake hbl hbL hcm hnc hcs
  go_wp2
  go_loopw [7] (fun i wr => ∃ j : Nat, j ≤ m.waits.length ∧ i = .int .i64 j ∧ Fr [] w wr ∧ wr.blk g = some (.cells (ints .u8 (blockOf (layW m.kept (m.waits.take j)) a) ++ tl) 5 (0, 0))) (fun i _ => m.waits.length - (intOf i).toNat)
  case atStart => exact ⟨0, Nat.zero_le _, rfl, HF1.out, Hg.out⟩
  case round =>
    obtain ⟨j, hj1, rfl, FR, hgg⟩ := hrel
    have hrr := FR.get Hr.out (by simp)
    have hrlr := World.at_lt hrr
    have hggl := World.at_lt hgg
    by_cases hlt : j < m.waits.length
    · obtain ⟨ga, cura, rfl, hga, hza, hca⟩ := OwnsR.at_ HA.out (by simp) j hlt
      obtain ⟨gb, curb, rfl, hgb, hzb, hcb⟩ := OwnsR.at_ HB.out (by simp [hl]) j hlt
      have hjb : j < bs.length := by omega
      obtain ⟨curx, T, hgx, hzx, hcx⟩ := HX.out j hjb hlt
      have lga := World.at_lt hga
      have lgb := World.at_lt hgb
      have lgx := World.at_lt hgx
      have hgar := FR.get hga (by simp)
      have hgbr := FR.get hgb (by simp)
      have hgxr := FR.get hgx (by simp)
      obtain ⟨q1, q2⟩ := ok.ws m.waits[j] (List.getElem_mem hlt)
      have hts := List.take_succ_eq_append_getElem hlt
      have hLl := length_layW m.n (m.waits.take j) m.kept ok.kl (fun x hx => ok.ws x (List.mem_of_mem_take hx))
      have hstep := layW_snoc m.kept (m.waits.take j) m.waits[j]
      rw [← hts] at hstep
      have hblk := blockOf_lay (layW m.kept (m.waits.take j)) m.waits[j].1 a m.n m.waits[j].2 hLl q1 h2c q2
      rw [← hstep] at hblk
      simp only [List.getElem?_map, List.getElem?_eq_getElem hlt, List.getElem?_eq_getElem hjb, Option.map_some] at hca hcb
      generalize m.waits[j] = x at hca hcx q1 q2 hstep hblk
      generalize bs[j] = y at hcb hgxr hgx lgx
      obtain ⟨xa, xb⟩ := x
      obtain ⟨yb, yc⟩ := y
      dsimp only at hca hcx q1 q2 hcb hgxr hgx lgx hblk
      have hX := HBL.out j
      obtain ⟨X, hXe⟩ : ∃ X, blockOf (layW m.kept (m.waits.take j)) a = X := ⟨_, rfl⟩
      rw [hXe] at hX hgg hblk
      have hx6 : List.take 64 curx.toList = xb.map (Value.int .u8) := hcx
      have hones : ones (List.take 64 curx.toList) = true := by rw [hx6]; exact ones_map_int _ _
      obtain ⟨_, hca'⟩ := Array.getElem?_eq_some_iff.mp hca
      obtain ⟨_, hcb'⟩ := Array.getElem?_eq_some_iff.mp hcb
      have hgxl := World.at_lt hgxr
      have hspl := spl_in .u8 X tl 0 xb (by omega)
      have hlay : lay X 0 xb = xb := by simp [lay, hX, q2]
      rw [hlay] at hspl
      have HS := Lib.hid hspl
      have HF := Lib.hid FR
      have HBK := Lib.hid hblk
      have hz64 : 64 ≤ 64 + tl.size := by omega
      clear hga hgb hgx hts hstep FR hcx hXe hspl hlay hblk hLl
      by_cases hq : xa = a
      · have hq1 : ((xa : Int) == (a : Int)) = true := by simp [hq]
        go_wp2
        go_roundw
        case rel =>
          refine ⟨j + 1, by omega, by go_num, HF.out.put _ _ (fun h => by omega), ?_⟩
          rw [World.at_put_same _ _ _ hggl, HBK.out, if_pos hq, ← HS.out]
        case measure => simp [intOf]; omega
      · have hq1 : ((xa : Int) == (a : Int)) = false := by simp; omega
        go_wp2
        go_roundw
        case rel =>
          refine ⟨j + 1, by omega, by go_num, HF.out, ?_⟩
          rw [hgg, HBK.out, if_neg hq]
        case measure => simp [intOf]; omega
    · obtain rfl : j = m.waits.length := by omega
      have hX := HBL.out m.waits.length
      rw [List.take_length] at hgg hX
      go_wp2
      go_ret2
      have hBB : BytesAt wr (.slice (some ⟨g, 0, none⟩) 64 cg) g (blockOf (layW m.kept m.waits) a) := by
        refine ⟨0, (0, 0), cg, _, 5, by rw [hX], hgg, ?_, by rw [hX]; exact hcg, ?_⟩
        · rw [Array.size_append, size_ints, Nat.zero_add]; omega
        · rw [hX, Nat.zero_add, Array.extract_append, size_ints, hX, extract_ints]
          simp [List.take_of_length_le, hX]
      exact ⟨_, g, rfl, hBB, FR, hgw⟩
theorem rread_any (D : RefAt w r m fp) (at_ : Int) (hseen : m.seen = layW m.kept m.waits) (hwl : m.waits.length ≤ 1000000) :
    Calls Try.prog 44 #[.pointer (some ⟨r, 0, none⟩), .int .i64 at_] w fun e w' => ∃ v, e = .returned (.tuple #[v, .int .i64 (readM m at_).1]) ∧
      ((v = .slice none 0 0 ∧ (readM m at_).2 = []) ∨ ∃ bb, BytesAt w' v bb (readM m at_).2 ∧ w.heap.size ≤ bb) ∧ Fr [] w w' := by
  cases h : noBlock m at_ with
  | true =>
    refine (rread_arg D at_ h).mono ?_
    rintro e w' ⟨rfl, rfl⟩
    simp only [readM, h, ↓reduceIte]
    exact ⟨_, rfl, .inl ⟨rfl, trivial⟩, Fr.refl _ _⟩
  | false =>
    cases hd : m.dead with
    | true =>
      refine (rread_dead D at_ h hd).mono ?_
      rintro e w' ⟨rfl, rfl⟩
      simp only [readM, h, hd, Bool.false_eq_true, ↓reduceIte]
      exact ⟨_, rfl, .inl ⟨rfl, trivial⟩, Fr.refl _ _⟩
    | false =>
      refine (rread_ok D at_ h hd hseen hwl).mono ?_
      rintro e w' ⟨v, bb, rfl, B, F, hbb⟩
      simp only [readM, h, hd, Bool.false_eq_true, ↓reduceIte]
      exact ⟨v, rfl, .inr ⟨bb, B, hbb⟩, F⟩
end
end Go.Proofs.Ytombhkekocbfoaa
namespace Go.Proofs.Ytombhkekocbfoaa
open Go.RowKit Go.Dr Go.Kd Go.St
theorem RefAt.hd {w : World} {r : Nat} {m : DM} {fp : List Nat} (D : RefAt w r m fp) : ∃ R, w.blk r = some (.cells R 48 (0, 0)) ∧ R.size = 6 ∧ (∃ h : 0 < R.size, R[0] = .int .i64 m.n) ∧ r ∈ fp := by
  obtain ⟨kb, pa, ca, pb, cb, bs, D, rfl, ok⟩ := D
  exact ⟨_, D.hr, rfl, ⟨by simp, rfl⟩, by simp [rfpOf]⟩
/-- A document's disk of so many blocks. -/
def DkN (r N : Nat) (w : World) : Prop := ∃ R, w.blk r = some (.cells R 48 (0, 0)) ∧ R.size = 6 ∧ ∃ h : 0 < R.size, R[0] = .int .i64 N
theorem RefAt.dkn {w : World} {r N : Nat} {m : DM} {fp : List Nat} (D : RefAt w r m fp) (h : m.n = N) : DkN r N w := by
  obtain ⟨R, h1, h2, h3, -⟩ := D.hd
  rw [h] at h3
  exact ⟨R, h1, h2, h3⟩
theorem RefAt.ok {w : World} {r : Nat} {m : DM} {fp : List Nat} (D : RefAt w r m fp) : m.Ok := by
  obtain ⟨_, _, _, _, _, _, _, _, ok⟩ := D
  exact ok
theorem RefAt.fr0 {w w' : World} {r : Nat} {m : DM} {fp : List Nat} (D : RefAt w r m fp) (F : Fr [] w w') : RefAt w' r m fp := D.frame F fun _ _ => by simp
section
variable {w : World}
set_option maxRecDepth 100000 in
set_option maxHeartbeats 8000000 in
theorem dput_f {s r at_ pos k : Nat} {SC : Array Value} {fr : Nat × Nat} {m : DM} {fp : List Nat} (hst : w.blk s = some (.cells SC 56 fr)) (szC : SC.size = 7) (x0 : ∃ h : 0 < SC.size, SC[0] = .pointer (some ⟨r, 0, none⟩)) (hsf : s ∉ fp) (D : RefAt w r m fp)
    {p : Option Addr} {n cap h2 : Nat} {b : Bs} (S : Sl .u8 w p n cap b) (hpf : ∀ g, p.map (·.block) = some g → g ∉ fp) (hn : n = 64 * k) (hk : k ≤ 4096) (hpos : h2 * (m.n / 2) + at_ = pos) (hp : pos + k ≤ m.n) (hhb : h2 ≤ 1) (hab : at_ ≤ 4096) (hwl : m.waits.length + k ≤ 1000000) :
    Calls Try.prog 51 #[.pointer (some ⟨s, 0, none⟩), .int .i64 (h2 : Int), .int .i64 (at_ : Int), .slice p n cap] w fun en w' => en = .returned (.bool (putM m pos b).1) ∧ ∃ fp', RefAt w' r (putM m pos b).2 fp' ∧ Fr fp w w' ∧ News w fp fp' := by
  have HSF := Lib.hid hsf
  have HS := Lib.hid S
  have HP := Lib.hid hpf
  have HL := Lib.hid S.len
  have hN : m.n ≤ 4096 := D.ok.n2
  obtain ⟨hs, hhs⟩ : ∃ hs, hs = m.n / 2 := ⟨_, rfl⟩
  rw [← hhs] at hpos
  have hsb : hs ≤ 4096 := by omega
  have hq2 : (m.n : Int).tdiv 2 = (hs : Int) := by rw [Int.tdiv_eq_ediv_of_nonneg (by omega)]; omega
  have hq : (n : Int).tdiv 64 = (k : Int) := by rw [Int.tdiv_eq_ediv_of_nonneg (by omega)]; omega
  obtain ⟨x0', x0⟩ := x0
  obtain ⟨P, hP⟩ : ∃ P, P = h2 * hs := ⟨_, rfl⟩
  rw [← hP] at hpos
  have hPb : P ≤ 4096 := by
    rcases Nat.le_one_iff_eq_zero_or_eq_one.1 hhb with h | h <;> subst h <;> omega
  have hmul : (h2 : Int) * (hs : Int) = (P : Int) := by subst hP; push_cast; rfl
  have HMUL := Lib.hid hmul
  clear hP
  have HSS := Lib.hid hst
  have HNK := Lib.hid hn
  have HPOS := Lib.hid hpos
  have hn1 : n ≤ 1000000 := by omega
  have hr0 := D.hd
  obtain ⟨N, hN0⟩ : ∃ N, N = m.n := ⟨_, rfl⟩
  rw [← hN0] at hq2 hN hp
  have HNN := Lib.hid hN0
  have HD := Lib.hid (show ∃ mi fpi, wrM m pos (chunks b) = wrM mi (pos + 0) ((chunks b).drop 0) ∧ RefAt w r mi fpi ∧ Fr fp w w ∧ News w fp fpi ∧ mi.n = m.n ∧ mi.waits.length ≤ m.waits.length + 0 from ⟨m, fp, rfl, D, Fr.refl _ _, fun k hk => .inl hk, rfl, Nat.le_refl _⟩)
  clear D hsf S hpf hst hn hpos hhs hN0 hr0 hmul
  go_enter Try.func51, Try.ntmps51
  go_wp2_with fail
  go_loopw [9] (fun iv wy => ∃ i : Nat, i ≤ k ∧ iv = .int .i64 (i : Int) ∧ Hid (∃ mi fpi, wrM m pos (chunks b) = wrM mi (pos + i) ((chunks b).drop i) ∧ RefAt wy r mi fpi ∧ Fr fp w wy ∧ News w fp fpi ∧ mi.n = m.n ∧ mi.waits.length ≤ m.waits.length + i)) (fun iv _ => (k - intOf iv).toNat)
  case atStart => exact ⟨0, by omega, rfl, HD⟩
  case round =>
    obtain ⟨i, hin, rfl, hW⟩ := hrel
    by_cases hlt : i < k
    · have hd : decide ((i : Int) < (k : Int)) = true := by rw [decide_eq_true_eq]; omega
      obtain ⟨mi, fpi, e1, D1, F1, N1, n1, l1⟩ := hW.out
      obtain ⟨R, fr1, szR, ⟨y0', y0⟩, hrf⟩ := D1.hd
      rw [n1, ← HNN.out] at y0
      have f1 := F1.get HSS.out HSF.out
      have t1 := World.at_lt f1
      have tr1 := World.at_lt fr1
      obtain ⟨bb, off, cs, TT, fr2, rfl, fc0, hs2, hx⟩ := HS.out.out (by have := HNK.out; omega)
      have hcap := HS.out.cap_
      have hnk := HNK.out
      have q0 : (0 : Int) ≤ 64 * (i : Int) := by omega
      have q1 : 64 * (i : Int) + 64 ≤ (cap : Int) := by omega
      have q2 : 64 * (i : Int) ≤ 64 * (i : Int) + 64 := by omega
      have q3 : ¬ cap = 64 * i := by omega
      have q4 : (64 * (i : Int) + 64).toNat = 64 * i + 64 := by omega
      clear fc0 hs2 hx hcap hnk
      have HE := Lib.hid e1
      have HD1 := Lib.hid D1
      have HF1 := Lib.hid F1
      have HN1 := Lib.hid N1
      have HM1 := Lib.hid n1
      have HL1 := Lib.hid l1
      clear hW e1 D1 F1 N1 n1 l1
      have hmul := HMUL.out
      go_upto_region 4 with (fail)
      refine drawn_begin 26 (fun w' => w'.blk s = some (.cells SC 56 fr) ∧ DkN r N w') (by kernel_rfl) ?_
      refine drawn_reads (fuel := 2) [0, 1, 2, 3, 4, 5, 6, 7, 8, 9, 10, 11, 12, 13, 14, 15, 16, 17, 18, 19, 20, 21, 22, 23, 24] rfl (by kernel_rfl) ⟨f1, HD1.out.dkn (HM1.out.trans HNN.out.symm)⟩ ?_
      repeat (first | (refine rowK_step2 rfl rfl (fun K hK => ?_); go_wp2) | (refine rowK_step rfl (fun K hK => ?_); go_simp; refine hK _ ?_; clear hK K))
      refine rowK_nil ⟨fun w' e1 e2 => ?_, ?_⟩
      · clear f1 t1 fr1 tr1 szR y0
        obtain ⟨R, fr1, szR, ⟨y0', y0⟩⟩ := e2
        have t1 := World.at_lt e1
        have tr1 := World.at_lt fr1
        repeat (first | (refine rowWp_step2 rfl rfl (fun K hK => ?_); go_wp2) | (refine rowWp_step rfl (fun K hK => ?_); go_simp; refine hK _ ?_; clear hK K))
        exact rowWp_nil rfl
      refine drawn_next 25 (fuel := 1) rfl (by kernel_rfl) ?_
      intro K hK
      clear hmul
      have hpi : ((P : Int) + at_ + i) = ((pos + i : Nat) : Int) := by have := HPOS.out; omega
      go_wp2_with fail
      rw [show ((pos : Int) + (i : Int)) = ((pos + i : Nat) : Int) from by push_cast; rfl]
      obtain ⟨x, hx⟩ : ∃ x, x = (b.take (64 * i + 64)).drop (64 * i) := ⟨_, rfl⟩
      have hxi : (chunks b)[i]? = some x := by rw [hx]; exact chunks_at (k := k) (by rw [HL.out, HNK.out]) hlt
      have hbf : bb ∉ fp := HP.out bb rfl
      obtain ⟨bx, ox, csx, Tx, frx, ex, fcx, -, -⟩ := HS.out.out (by have := HNK.out; omega)
      cases ex
      have hbl := World.at_lt fcx
      have hbn : bb ∉ fpi := fun h => by rcases HN1.out bb h with h | h; exact hbf h; omega
      have Sx : Sl .u8 wr (some ⟨bb, off + 64 * i, none⟩) 64 (cap - 64 * i) x := by
        have h := (sl_fr HS.out HF1.out fun g hg => HP.out g hg).part (i := 64 * i) (j := 64 * i + 64) (c := cap) (by omega) (by have := HNK.out; omega) (by omega) (Nat.le_refl _)
        rw [hx]
        rw [if_neg q3, show 64 * i + 64 - 64 * i = 64 by omega] at h
        simpa [Addr.add_mid] using h
      have hx64 : x.length = 64 := Sx.len
      have hstep := wrM_drop HE.out hxi
      have hmn := HM1.out
      have hnn := HNN.out
      have herr := writeM_err (m := mi) (a := pos + i) (b := x) (by omega) hx64
      have hn2 := writeM_n mi ((pos + i : Nat) : Int) x
      have hl2 := writeM_wl mi ((pos + i : Nat) : Int) x
      have hl1 := HL1.out
      refine (rwrite_any (HD1.out.fr0 (Fr.refl [] wr).drew) ((pos + i : Nat) : Int) _ bb x (bytesAt_sl (Sx.fr0 (Fr.refl [] wr).drew) (by omega)) hbn (by omega) (by omega)).mono ?_
      rintro en w2 ⟨rfl, fp2, D2, F2, N2⟩
      obtain ⟨W, hW⟩ : ∃ W, W = writeM mi ((pos + i : Nat) : Int) x := ⟨_, rfl⟩
      rw [← hW] at D2 hstep herr hn2 hl2 ⊢
      have F3 : Fr fp w w2 := HF1.out.seq ((Fr.refl fpi wr).drew.trans F2) (fun k hk hl => by rcases HN1.out k hk with h | h; exact h; omega)
      have N3 : News w fp fp2 := fun k hk => by
        rcases N2 k hk with h | h
        · exact HN1.out k h
        · exact .inr (Nat.le_trans HF1.out.size h)
      have f2 := F3.get HSS.out HSF.out
      obtain ⟨R2, fr2', -, -, -⟩ := D2.hd
      have HD2 := Lib.hid D2
      have HF3 := Lib.hid F3
      have HN3 := Lib.hid N3
      have HST := Lib.hid hstep
      have HN2 := Lib.hid hn2
      have HL2 := Lib.hid hl2
      obtain ⟨E, hE⟩ : ∃ E, E = W.1 := ⟨_, rfl⟩
      rw [← hE] at herr ⊢
      have HEE := Lib.hid hE
      clear hpi hx hxi hbf fcx hbl hbn Sx hx64 hstep hn2 hl2 D2 F2 N2 F3 N3 hW hE f1 t1 HD1 HF1 HN1 fr1 tr1 hmn hnn hl1
      have t2 := World.at_lt f2
      go_wp2_with fail
      refine ⟨⟨f2, HD2.out.dkn (HN2.out.trans (HM1.out.trans HNN.out.symm))⟩, ?_⟩
      refine drawn_end rfl (by kernel_rfl) ?_
      intro K hK
      rcases herr with rfl | rfl
      · go_wp2_with fail
        go_roundw
        case rel =>
          exact ⟨i + 1, hlt, by first | rfl | (congr 1; push_cast; omega) | simp, Lib.hid ⟨W.2, fp2, by rw [HST.out, ← HEE.out, if_pos rfl, Nat.add_assoc], HD2.out, HF3.out, HN3.out, by rw [HN2.out, HM1.out], by have := HL2.out; have := HL1.out; omega⟩⟩
        case measure => simp [intOf]; omega
      · go_wp2_with fail
        refine bodyPost_ret (results_tmp rfl _ _ _) rfl ?_
        have hput : putM m pos b = (false, W.2) := by
          have h : wrM m pos (chunks b) = (false, W.2) := by rw [HST.out, ← HEE.out]; rfl
          rw [putM, h, if_neg (by simp)]
        rw [hput]
        exact ⟨rfl, fp2, HD2.out, HF3.out, HN3.out⟩
    · obtain rfl : i = k := by omega
      have hd : decide ((i : Int) < (i : Int)) = false := by simp
      obtain ⟨mi, fpi, e1, D1, F1, N1, n1, l1⟩ := hW.out
      have f1 := F1.get HSS.out HSF.out
      have t1 := World.at_lt f1
      have e2 : wrM m pos (chunks b) = (true, mi) := by rw [e1, List.drop_of_length_le (by rw [chunks_length, HL.out, HNK.out]; omega)]; rfl
      have hput : putM m pos b = ((syncM mi).1 == 0, (syncM mi).2) := by rw [putM, e2, if_pos rfl]
      have HPU := Lib.hid hput
      have HD1 := Lib.hid D1
      have HF1 := Lib.hid F1
      have HN1 := Lib.hid N1
      clear hW e1 D1 F1 N1 e2 hput
      go_wp2_with fail
      refine (rsync_any HD1.out (by omega)).mono ?_
      rintro en w2 ⟨rfl, fp2, D2, F2, N2⟩
      obtain ⟨E, hE⟩ : ∃ E, E = (syncM mi).1 := ⟨_, rfl⟩
      rw [← hE]
      have HEE := Lib.hid hE
      clear hE
      go_wp2_with fail
      refine bodyPost_ret (results_tmp rfl _ _ _) rfl ?_
      rw [HPU.out, ← HEE.out]
      refine ⟨rfl, fp2, D2, HF1.out.seq F2 (fun k hk hl => by rcases HN1.out k hk with h | h; exact h; omega), fun k hk => HN1.out k (N2 k hk)⟩
end
end Go.Proofs.Ytombhkekocbfoaa
namespace Go.Proofs.Ytombhkekocbfoaa
open Go.RowKit Go.Dr Go.Kd Go.St
section
variable {w : World} {ops : Array Oper} {rest : List Oper} {o : Oper} {a : Act} {Q : Exit → Act → World → Prop} {p q : Option Addr} {n m c : Nat} {vs us : List Value}
theorem wpList_grow46 (hgd : o.guard = none) (s x : Operand) (ho : o.op = .call { callee := .builtin .append, args := #[s, x], argTypes := #[46, 46] })
    (hs : a.eval s = .slice p n n) (S0 : Sv 1 w p n n vs) (hx : a.eval x = .slice q m c) (S : Sv 1 w q m c us) (h1 : ∀ u ∈ vs, u.oneCell' = true) (h2 : ∀ u ∈ us, u.oneCell' = true) (hm : 0 < m) (hbig : n + m ≤ 1000000)
    (h : ∀ p' cap' w', BldV w [] 22 1 w' p' (n + m) cap' (vs ++ us) → wpList Try.prog ops Q rest (a.put o.dst (.slice p' (n + m) cap')) w') : wpList Try.prog ops Q (o :: rest) a w := by
  obtain ⟨i, hi, hz, hs1, hb1⟩ := info_parts info47
  exact wpList_grow hgd s x 46 46 ho Try.underlying46 hi hz hs1 (by omega) hb1 rfl hs (S0.src Try.underlying46 h1) hx (Apd.ofSrc Try.underlying46 hi hz (by rw [hs1]; exact S.src Try.underlying46 h2)) hm (by omega) (by omega) fun p' cap' w' B => h p' cap' w' B
end
section
variable {w : World}
set_option maxRecDepth 100000 in
set_option maxHeartbeats 8000000 in
theorem dpay_f {p : Option Addr} {n cap : Nat} {l : List Chg} (T : Chs w p n cap l) (hok : ∀ c ∈ l, ChgB c) (hn : n ≤ 64) :
    Calls Try.prog 50 #[.slice p n cap] w fun en w' => ∃ q m cp, en = .returned (.slice q m cp) ∧ Bld w [] .u8 5 w' q m cp (payB l) := by
  have HS := Lib.hid T
  have HL := Lib.hid T.len
  have HOK := Lib.hid hok
  have HFIT := Lib.hid (payB_fits (fun c hc => (hok c hc).ok) (by rw [T.len]; exact hn))
  have ep : payB l = joinB (l.map fun c => joinB (chgP c)) := rfl
  rw [ep]
  obtain ⟨G, hG⟩ : ∃ G : Chg → Bs, G = fun c => joinB (chgP c) := ⟨_, rfl⟩
  rw [← hG] at HFIT ⊢
  have HGE := Lib.hid hG
  clear T hok ep hG
  go_enter Try.func50, Try.ntmps50
  go_wp2_with fail
  go_loopw [3, 4] (fun v iv wy => ∃ (i : Nat) (q : Option Addr) (c : Nat), i ≤ n ∧ v = .slice q i c ∧ iv = .int .i64 (i : Int) ∧ Hid (Gw w [] wy q i c ((l.take i).map G))) (fun _ iv _ => (n - intOf iv).toNat)
  case atStart => exact ⟨0, none, 0, by omega, rfl, rfl, Lib.hid ⟨[], [], BldV.nil (OwB.start w), fun _ _ => .nil⟩⟩
  case round =>
    obtain ⟨i, q, c, hin, rfl, rfl, hW⟩ := hrel
    by_cases hlt : i < n
    · have hd : decide ((i : Int) < (n : Int)) = true := by rw [decide_eq_true_eq]; omega
      obtain ⟨x, q2, m2, d2, b, off, cs, TT, fr, hx, rfl, fb, hsz, hext, S2⟩ := (HS.out.fr0 hW.out.own.fr).at hlt
      have okx := HOK.out x (List.mem_of_getElem? hx)
      have e0 := congrArg (fun a => a[0]?) hext
      have e1 := congrArg (fun a => a[1]?) hext
      have e2 := congrArg (fun a => a[2]?) hext
      rw [Array.getElem?_extract_of_lt (by omega)] at e0 e1 e2
      obtain ⟨g, hg⟩ : ∃ g, g = x.gone := ⟨_, rfl⟩
      have x0 : ∃ h : off + i * 3 < cs.size, cs[off + i * 3] = .string (strB x.name) := ⟨by omega, by simpa using e0⟩
      have x1 : ∃ h : off + i * 3 + 1 < cs.size, cs[off + i * 3 + 1] = .slice q2 m2 d2 := ⟨by omega, by simpa using e1⟩
      have x2 : ∃ h : off + i * 3 + 2 < cs.size, cs[off + i * 3 + 2] = .bool g := ⟨by omega, by rw [hg]; simpa using e2⟩
      obtain ⟨x0', x0⟩ := x0
      obtain ⟨x1', x1⟩ := x1
      obtain ⟨x2', x2⟩ := x2
      have htk : (l.take (i + 1)).map G = (l.take i).map G ++ [joinB (chgP x)] := by
        rw [List.take_add_one, hx, HGE.out]
        simp
      have HTK := Lib.hid htk
      have HS2 := Lib.hid S2
      have HOX := Lib.hid okx
      have tb := World.at_lt fb
      have ki : (i : Int) < (n : Int) := by omega
      have hcp : chgP x = if x.gone then [x.name] else [x.name, x.val] := rfl
      rw [← hg] at hcp
      have HCP := Lib.hid hcp
      obtain ⟨cp, R, hcv, hcs⟩ := conv_str okx.nb wr
      have HCS := Lib.hid hcs
      have lnm : x.name.length ≤ 32 := okx.ok.n2
      have lvl : x.val.length ≤ 4000 := okx.ok.v
      obtain ⟨nl, hnl⟩ : ∃ nl, nl = x.name.length := ⟨_, rfl⟩
      rw [← hnl] at hcv
      have HNL := Lib.hid hnl
      have HFB := Lib.hid fb
      have HWW := Lib.hid hW.out
      clear e0 e1 e2 hext hx S2 okx htk hcp hg hcs hnl hW
      go_upto_region 6 with (fail)
      have hG7 := ((HWW.out.call (Fr.refl [] wr).drew).alloc (.cells R 5 (R.size, R.size + 1)) wr.heap.size rfl).alloc (.cells #[.slice (some ⟨wr.heap.size, 0, none⟩) nl cp] 22) (wr.heap.size + 1) (by simp)
      refine named_world (A := fun X => Gw w [(wr.heap.size + 1, .cells #[.slice (some ⟨wr.heap.size, 0, none⟩) nl cp] 22), (wr.heap.size, .cells R 5 (R.size, R.size + 1))] X q i c ((l.take i).map G) ∧ Fr [] wr X) (Q := fun X => Code.wp _ _ _ _ X) ⟨hG7, ((Fr.refl [] wr).drew.alloc _).alloc _⟩ ?_
      clear hG7 hcv
      rintro X ⟨hX, FX⟩
      generalize wr.heap.size + 1 = b7 at hX ⊢
      generalize wr.heap.size = bs at hX ⊢
      have HX := Lib.hid hX
      have HFX := Lib.hid FX
      have fb := FX.get HFB.out (by simp)
      have tb := World.at_lt fb
      have HSN := Lib.hid (show Sl .u8 X (some ⟨bs, 0, none⟩) nl cp x.name by rw [HNL.out]; exact HCS.out X bs _ (hX.own.nth 1 rfl))
      have HS3 := Lib.hid (HS2.out.fr0 FX)
      clear hX FX
      cases g with
      | true =>
        go_wp2_with fail
        have SL : Sll X (some ⟨b7, 0, none⟩) 1 1 [x.name] := Sll.of (Sv.one (HX.out.own.nth 0 rfl)) (.cons HSN.out .nil)
        refine (rall_f SL (by simp [fits]; omega)).mono ?_
        clear SL
        rintro en w4 ⟨q4, m4, c4, rfl, B4⟩
        have B4' : Bld X [] .u8 5 w4 q4 m4 c4 (joinB (chgP x)) := by rw [HCP.out]; exact B4
        have HP := Lib.hid (HX.out.piece B4')
        clear B4 B4' fb tb
        go_wp2_with (refine wpList_gw rfl _ _ rfl rfl rfl (HP.out.call ((Fr.refl [] w4).alloc _)) (World.at_alloc_new _ _ _ rfl) (by omega) ?_)
        intro q5 c5 W5 G5
        have HG5 := Lib.hid G5.pop.pop
        clear G5 HP
        go_wp2_with fail
        go_roundw
        case rel => exact ⟨i + 1, q5, c5, hlt, by first | rfl | simp, by first | rfl | simp, Lib.hid (by rw [HTK.out]; first | exact HG5.out | (have h := HG5.out; simp only [← List.map_take] at h; exact h))⟩
        case measure => simp [intOf]; omega
      | false =>
        have hsv1 : ∀ W : World, Fr [] X W → Sv 1 W (some ⟨b7, 0, none⟩) 1 1 [.slice (some ⟨bs, 0, none⟩) nl cp] := fun W F => Sv.one (F.get (HX.out.own.nth 0 rfl) (by simp))
        have HSV1 := Lib.hid hsv1
        clear hsv1
        go_wp2_with (refine wpList_grow46 rfl _ _ rfl rfl (HSV1.out _ ((Fr.refl [] X).alloc _)) rfl (Sv.one (World.at_alloc_new _ _ _ rfl)) (by simp [Value.oneCell']) (by simp [Value.oneCell']) (by omega) (by omega) ?_)
        intro q6 c6 W6 B6
        have HB6 := Lib.hid B6
        clear B6 HSV1
        have F6 : Fr [] X W6 := ((Fr.refl [] X).alloc _).trans HB6.out.own.fr
        have HX6 := Lib.hid (HX.out.call F6)
        have SL6 : Sll W6 q6 2 c6 [x.name, x.val] := Sll.of HB6.out.sv (.cons (HSN.out.fr0 F6) (.cons (HS3.out.fr0 F6) .nil))
        have HSL := Lib.hid SL6
        clear SL6 F6 HB6 HX fb tb
        go_wp2_with fail
        refine (rall_f HSL.out (by simp [fits]; omega)).mono ?_
        rintro en w4 ⟨q4, m4, c4, rfl, B4⟩
        have B4' : Bld W6 [] .u8 5 w4 q4 m4 c4 (joinB (chgP x)) := by rw [HCP.out]; exact B4
        have HP := Lib.hid (HX6.out.piece B4')
        clear B4 B4' HSL HX6
        go_wp2_with (refine wpList_gw rfl _ _ rfl rfl rfl (HP.out.call ((Fr.refl [] w4).alloc _)) (World.at_alloc_new _ _ _ rfl) (by omega) ?_)
        intro q5 c5 W5 G5
        have HG5 := Lib.hid G5.pop.pop
        clear G5 HP
        go_wp2_with fail
        go_roundw
        case rel => exact ⟨i + 1, q5, c5, hlt, by first | rfl | simp, by first | rfl | simp, Lib.hid (by rw [HTK.out]; first | exact HG5.out | (have h := HG5.out; simp only [← List.map_take] at h; exact h))⟩
        case measure => simp [intOf]; omega
    · obtain rfl : i = n := by omega
      have hd : decide ((i : Int) < (i : Int)) = false := by simp
      have htk : l.take i = l := List.take_of_length_le (by rw [HL.out]; exact Nat.le_refl _)
      rw [htk] at hW
      clear htk
      go_wp2_with fail
      refine (rall_f hW.out.sll HFIT.out).mono ?_
      rintro en w3 ⟨q3, m3, c3, rfl, B3⟩
      have HB3 := Lib.hid (B3.lift ((OwB.start w).call hW.out.own.fr))
      clear B3
      go_wp2_with fail
      exact bodyPost_ret (results_tmp rfl _ _ _) rfl ⟨q3, m3, c3, rfl, HB3.out⟩
end
end Go.Proofs.Ytombhkekocbfoaa
namespace Go.Proofs.Ytombhkekocbfoaa
open Go.RowKit Go.Dr Go.Kd
section
variable {w : World}
set_option maxRecDepth 100000 in
set_option maxHeartbeats 2000000 in
theorem bytes_f {p q : Option Addr} {n c m d : Nat} {A B : List Int} (S : Sl .u8 w p n c A) (R : Sl .u8 w q m d B) (hA : isBytes A) (hB : isBytes B) :
    Calls Try.prog 14 #[.slice p n c, .slice q m d] w fun e w' => e = .returned (.bool (decide (A = B))) ∧ Fr [] w w' := by
  have h1 := conv47 S
  have h2 := conv47 R
  obtain ⟨y, hy⟩ : ∃ y, ((strB A).toList == (strB B).toList) = y := ⟨_, rfl⟩
  rw [← beq_str hA hB, hy]
  have HF := Lib.hid (Fr.refl [] w)
  clear S R
  go_enter Try.func14, Try.ntmps14
  go_wp2_with fail
  exact bodyPost_ret (results_tmp rfl _ _ _) rfl ⟨by simp [hy], HF.out⟩
end
end Go.Proofs.Ytombhkekocbfoaa
