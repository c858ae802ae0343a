/- The document's disk: keep, Sync, Crash. -/
import Derived.Test.YtbjoeihcphcohaaDkL
namespace Go.Proofs.Ytbjoeihcphcohaa
open Go.RowKit Go.Dr

def keepM (m : DM) (k : Int) : DM := { m with kept := layW m.kept (m.waits.take k.toNat), waits := [] }
theorem OwnsR.at_ {w : World} {e : Nat} {p : Option Addr} {n cap : Nat} {xs : List Value} (h : OwnsR w e 1 p n cap xs) (hl : xs.length = n) (i : Nat) (hi : i < n) :
    ∃ g cur, p = some ⟨g, 0, none⟩ ∧ w.blk g = some (.cells cur e (0, 0)) ∧ i < cur.size ∧ cur[i]? = xs[i]? := by
  rcases h.2 with ⟨he, h0⟩ | ⟨g, cap', cur, he, _, hg, hnc, hcm, hcs, htake⟩
  · omega
  · simp only [Value.slice.injEq] at he
    obtain ⟨rfl, _, rfl⟩ := he
    refine ⟨g, cur, rfl, hg, by omega, ?_⟩
    rw [← htake, List.getElem?_take_of_lt (by omega), Array.getElem?_toList]

section
variable {w : World} {r : Nat} {m : DM} {fp : List Nat}
set_option maxHeartbeats 2000000 in
theorem rkeep_any (D : RefAt w r m fp) (k : Int) (hwl : m.waits.length ≤ 1000000) :
    Calls Try.prog 27 #[.pointer (some ⟨r, 0, none⟩), .int .i64 k] w fun e w' => e = .returned (.tuple #[]) ∧ ∃ fp', RefAt w' r (keepM m k) fp' ∧ Fr fp w w' ∧ ∀ j ∈ fp', j ∈ fp := by
  obtain ⟨kb, pa, ca, pb, cb, bs, ⟨hr, hk, ha, hb, hl, hx, n0, na, nb, nx⟩, hfp, ok⟩ := D
  have HA := Lib.hid ha
  have HB := Lib.hid hb
  have HX := Lib.hid hx
  have HN := Lib.hid (And.intro na (And.intro nb nx))
  have Hfp := Lib.hid hfp
  clear ha hb hx na nb nx hfp
  have n0' : kb ≠ r := fun e => n0 e.symm
  go_enter Try.func27, Try.ntmps27
  go_wp2
  go_loopw [4] (fun i wr => ∃ j : Nat, j ≤ m.waits.length ∧ j ≤ k.toNat ∧ i = .int .i64 j ∧ Fr [kb] w wr ∧ wr.blk kb = some (.cells (ints .u8 (layW m.kept (m.waits.take j))) 5 (0, 0))) (fun i _ => m.waits.length - (intOf i).toNat)
  case atStart => exact ⟨0, Nat.zero_le _, Nat.zero_le _, rfl, Fr.refl _ _, by simpa [layW] using hk⟩
  case round =>
    obtain ⟨j, hj1, hj2, rfl, FR, hkr⟩ := hrel
    have hrr := FR.get hr (by simpa using n0)
    have hrl := World.at_lt hrr
    have hkl := World.at_lt hkr
    by_cases hlt : j < m.waits.length ∧ (j : Int) < k
    · obtain ⟨hlt, hlk⟩ := hlt
      obtain ⟨ga, cura, rfl, hga, hza, hca⟩ := OwnsR.at_ HA.out (by simp) j hlt
      obtain ⟨gb, curb, rfl, hgb, hzb, hcb⟩ := OwnsR.at_ HB.out (by simp [hl]) j hlt
      have hjb : j < bs.length := by omega
      obtain ⟨gx1, gx2, gx3, gx4⟩ := HN.out.2.2 _ (List.getElem_mem hjb)
      obtain ⟨curx, T, hgx, hzx, hcx⟩ := HX.out j hjb hlt
      obtain ⟨ga1, ga2⟩ := HN.out.1 ga rfl
      obtain ⟨gb1, gb2, _⟩ := HN.out.2.1 gb rfl
      have hgar := FR.get hga (by simpa using ga2)
      have hgbr := FR.get hgb (by simpa using gb2)
      have hgxr := FR.get hgx (by simpa using gx2)
      obtain ⟨q1, q2⟩ := ok.ws m.waits[j] (List.getElem_mem hlt)
      have hts := List.take_succ_eq_append_getElem hlt
      have hLl := length_layW m.n (m.waits.take j) m.kept ok.kl (fun x hx => ok.ws x (List.mem_of_mem_take hx))
      have hstep := layW_snoc m.kept (m.waits.take j) m.waits[j]
      rw [← hts] at hstep
      simp only [List.getElem?_map, List.getElem?_eq_getElem hlt, List.getElem?_eq_getElem hjb, Option.map_some] at hca hcb
      generalize m.waits[j] = x at hca hcx q1 q2 hstep
      generalize bs[j] = y at hcb hgxr gx1 gx2 gx3 gx4 hgx
      obtain ⟨xa, xb⟩ := x
      obtain ⟨yb, yc⟩ := y
      dsimp only at hca hcx q1 q2 hstep hcb hgxr gx1 gx2 gx3 gx4 hgx
      have hn2 := ok.n2
      obtain ⟨c, hc⟩ : ∃ c, xa * 64 = c := ⟨_, rfl⟩
      rw [hc] at hstep
      have hwr : IntKind.i64.wrap (64 * (xa : Int)) = (c : Int) := by rw [IntKind.wrap_i64]; omega
      have hc1 : c + 64 ≤ 64 * m.n := by omega
      have hc3 : (c : Int) ≤ 64 * (m.n : Int) := by omega
      have hc4 : 0 ≤ (c : Int) := by omega
      have hc5 : 64 ≤ 64 * m.n - c := by omega
      have hc6 : 64 * m.n ≠ c := by omega
      obtain ⟨X, hXe⟩ : ∃ X, layW m.kept (m.waits.take j) = X := ⟨_, rfl⟩
      rw [hXe] at hLl hkr hstep
      have hc7 : c + 64 ≤ X.length := by omega
      have hx6 : List.take 64 curx.toList = xb.map (Value.int .u8) := hcx
      have hones : ones (List.take 64 curx.toList) = true := by rw [hx6]; exact ones_map_int _ _
      obtain ⟨_, hca'⟩ := Array.getElem?_eq_some_iff.mp hca
      obtain ⟨_, hcb'⟩ := Array.getElem?_eq_some_iff.mp hcb
      have hgxl := World.at_lt hgxr
      have HS := Lib.hid hstep
      have HF := Lib.hid FR
      have HH := Lib.hid hc
      clear hga hgb hgx hts hstep FR hc hcx hXe
      go_wp2
      refine drawn_head 20 (by kernel_rfl) rfl rfl (by kernel_rfl) ?_
      change rowK _ _ _ [0,1,2,3,4,5,6,7,8,9,10,11,12,13,14,15,16,17,18,19] _ _
      repeat (refine rowK_step rfl (fun K hK => ?_); go_simp; refine hK _ ?_; clear hK K)
      refine rowK_nil ?_
      intro K hK
      go_wp2
      go_roundw
      case rel =>
        refine ⟨j + 1, by omega, by omega, by go_num, (HF.out.put _ _ (fun _ => by simp)).drew, ?_⟩
        rw [HS.out]
        rw [World.at_drew, World.at_put_same _ _ _ hkl]
      case measure => simp [intOf]; omega
    · have hmin : m.waits.take j = m.waits.take k.toNat := by
        rcases Nat.lt_or_ge j m.waits.length with h | h
        · have : j = k.toNat := by omega
          rw [this]
        · rw [List.take_of_length_le h, List.take_of_length_le (by omega)]
      have hend : ∀ W : World, W = wr.put r (.cells #[.int .i64 m.n, .slice (some ⟨kb, 0, none⟩) (64 * m.n) (64 * m.n), .slice none 0 0, .slice none 0 0, .int .i64 m.fuse, .bool m.dead] 50 (0, 0)) →
          ∃ fp', RefAt W r (keepM m k) fp' ∧ Fr fp w W ∧ ∀ j ∈ fp', j ∈ fp := by
        rintro W rfl
        have hLl := length_layW m.n (m.waits.take k.toNat) m.kept ok.kl (fun x hx => ok.ws x (List.mem_of_mem_take hx))
        refine ⟨rfpOf r kb none none [], ⟨kb, none, 0, none, 0, [], ⟨?_, ?_, World.ownsRow_nil _ _ _ _, World.ownsRow_nil _ _ _ _, rfl, ?_, n0, fun g h => by (cases h), fun g h => by (cases h), fun x h => by (cases h)⟩, rfl, ?_⟩, ?_, ?_⟩
        · rw [World.at_put_same _ _ _ hrl]; rfl
        · rw [World.at_put_other _ _ _ _ n0, hkr, hmin]; rfl
        · intro i h; cases h
        · exact ⟨ok.n1, ok.n2, hLl, ok.sl, ok.f1, ok.f2, fun x h => by (cases h)⟩
        · rw [Hfp.out]
          exact (FR.mono (fun j hj _ => by simp at hj; subst hj; simp [rfpOf])).put _ _ (fun _ => by simp [rfpOf])
        · intro j hj
          rw [Hfp.out]
          simp only [rfpOf, Option.map_none, Option.toList_none, List.map_nil, List.append_nil, List.mem_cons, List.not_mem_nil, or_false] at hj
          rcases hj with rfl | rfl <;> simp [rfpOf]
      have HE := Lib.hid hend
      clear hend hmin hr hk
      by_cases h1 : j < m.waits.length
      · have h2 : ¬ (j : Int) < k := fun h => hlt ⟨h1, h⟩
        have h3 : k ≤ (j : Int) := by omega
        clear hlt h2
        go_wp2
        go_end0
        exact ⟨rfl, HE.out _ rfl⟩
      · have h3 : m.waits.length ≤ j := by omega
        clear hlt h1
        go_wp2
        go_end0
        exact ⟨rfl, HE.out _ rfl⟩

/-- What the crash leaves. -/
theorem rcrash_any (D : RefAt w r m fp) (k : Int) (hwl : m.waits.length ≤ 1000000) :
    Calls Try.prog 24 #[.pointer (some ⟨r, 0, none⟩), .int .i64 k] w fun e w' => e = .returned (.tuple #[]) ∧ ∃ fp', RefAt w' r (crashM m k) fp' ∧ Fr fp w w' ∧ ∀ j ∈ fp', j ∈ fp := by
  have hK := rkeep_any D k hwl
  have HK := Lib.hid hK
  clear hK
  have hok0 := D
  obtain ⟨_, _, _, _, _, _, _, _, ok0⟩ := hok0
  have hLl := length_layW m.n (m.waits.take k.toNat) m.kept ok0.kl (fun x hx => ok0.ws x (List.mem_of_mem_take hx))
  have HL := Lib.hid (And.intro hLl ok0)
  clear hLl ok0 D
  go_enter Try.func24, Try.ntmps24
  go_wp2_with fail
  refine HK.out.mono ?_
  rintro e w1 ⟨rfl, fp1, D1, F1, S1⟩
  obtain ⟨kb, pa, ca, pb, cb, bs, D, rfl, ok⟩ := D1
  have hr := D.hr
  have hrl := World.at_lt hr
  have HD := Lib.hid D
  have HF := Lib.hid F1
  clear D F1
  go_wp2
  go_end0
  have D2 := HD.out.flags (-1) false
  refine ⟨rfl, _, ⟨kb, pa, ca, pb, cb, bs, ⟨D2.hr, D2.hk, D2.ha, D2.hb, D2.hl, D2.hx, D2.n0, D2.na, D2.nb, D2.nx⟩, rfl, ?_⟩, HF.out.put _ _ (fun _ => S1 _ (by simp [rfpOf])), S1⟩
  exact ⟨HL.out.2.n1, HL.out.2.n2, HL.out.1, HL.out.1, by simp [crashM], by simp [crashM], fun x h => by (cases h)⟩

theorem rsync_any (D : RefAt w r m fp) (hwl : m.waits.length ≤ 1000000) :
    Calls Try.prog 22 #[.pointer (some ⟨r, 0, none⟩)] w fun e w' => e = .returned (.int .i64 (syncM m).1) ∧ ∃ fp', RefAt w' r (syncM m).2 fp' ∧ Fr fp w w' ∧ ∀ j ∈ fp', j ∈ fp := by
  have hS := rstep_any D
  obtain ⟨s1, s2, s3, s4⟩ := aliveM_same m
  obtain ⟨m1, hm1⟩ : ∃ m1, aliveM m = m1 := ⟨_, rfl⟩
  rw [hm1] at hS s1 s2 s3 s4
  cases hl : livesM m with
  | false =>
    have hsm : syncM m = (150, m1) := by simp [syncM, hl, hm1]
    rw [hsm]
    rw [hl] at hS
    have HS := Lib.hid hS
    clear hS s1 s2 s3 s4 hl hsm D
    go_enter Try.func22, Try.ntmps22
    go_wp2_with fail
    refine HS.out.mono ?_
    rintro e w1 ⟨rfl, D1, F1⟩
    go_wp2
    go_ret
    exact ⟨rfl, fp, D1, F1, fun _ h => h⟩
  | true =>
    have hsm : syncM m = (0, keepM m1 m1.waits.length) := by
      simp only [syncM, hl, ↓reduceIte, hm1, keepM, Int.toNat_natCast, List.take_length, s2, s4]
    rw [hsm]
    rw [hl] at hS
    rw [← s4] at hwl
    have HS := Lib.hid hS
    clear hS s1 s2 s3 s4 hl hsm D
    go_enter Try.func22, Try.ntmps22
    go_wp2_with fail
    refine HS.out.mono ?_
    rintro e w1 ⟨rfl, D1, F1⟩
    have hD1 := D1
    obtain ⟨kb, pa, ca, pb, cb, bs, DD, _, ok⟩ := hD1
    have hr := DD.hr
    have HD := Lib.hid D1
    have HF := Lib.hid F1
    clear DD D1 F1
    go_wp2_with fail
    refine (rkeep_any HD.out m1.waits.length hwl).mono ?_
    rintro e w2 ⟨rfl, fp2, D2, F2, S2⟩
    have HD2 := Lib.hid D2
    have HF2 := Lib.hid (HF.out.trans F2)
    clear D2 F2 HD HF
    go_wp2
    go_ret
    exact ⟨rfl, fp2, HD2.out, HF2.out, S2⟩
end
end Go.Proofs.Ytbjoeihcphcohaa
