/- Walks of the statements DiskFuses and DiskOwn. -/
import Derived.Test.YtbjoeihcphcohaaDkF
namespace Go.Proofs.Ytbjoeihcphcohaa
open Go.RowKit Go.Dr

/-- An op as data. -/
structure OpV where
  k : Int
  a : Int
  f : Int
  s : Int
def OpV.wf (o : OpV) : Prop := 0 ≤ o.k ∧ o.k ≤ 255 ∧ -9223372036854775808 ≤ o.a ∧ o.a ≤ 9223372036854775807 ∧ 0 ≤ o.f ∧ o.f ≤ 255 ∧ 0 ≤ o.s ∧ o.s ≤ 255
/-- A list of ops that came in. -/
def OpsAt (w : World) (p : Option Addr) (l : List OpV) : Prop := (∀ o ∈ l, o.wf) ∧ (l ≠ [] → ∃ b off cs T fr, p = some ⟨b, off, none⟩ ∧ w.blk b = some (.cells cs T fr) ∧ off + l.length * 4 ≤ cs.size ∧
  ∀ i (h : i < l.length), cs.extract (off + i * 4) (off + i * 4 + 4) = #[.int .u8 l[i].k, .int .i64 l[i].a, .int .u8 l[i].f, .int .u8 l[i].s])

theorem writeM_as {m : DM} {at_ : Int} {b : List Int} (h : argM m at_ b = false) : (writeM m at_ b).1 = (if livesM m then 0 else 150) ∧ (writeM m at_ b).2.n = m.n ∧ (writeM m at_ b).2.waits.length ≤ m.waits.length + 1 ∧
    (writeM m at_ b).2.fuse = (aliveM m).fuse ∧ (writeM m at_ b).2.dead = (aliveM m).dead := by
  obtain ⟨h1, h2, h3, h4⟩ := aliveM_same m
  unfold writeM
  rw [h]
  cases livesM m
  · exact ⟨rfl, h1, by show (aliveM m).waits.length ≤ _; rw [h4]; omega, rfl, rfl⟩
  · exact ⟨rfl, h1, by simp, rfl, rfl⟩
theorem syncM_as (m : DM) : (syncM m).1 = (if livesM m then 0 else 150) ∧ (syncM m).2.n = m.n ∧ (syncM m).2.waits.length ≤ m.waits.length ∧ (syncM m).2.fuse = (aliveM m).fuse ∧ (syncM m).2.dead = (aliveM m).dead := by
  obtain ⟨h1, h2, h3, h4⟩ := aliveM_same m
  unfold syncM
  cases livesM m
  · exact ⟨rfl, h1, by show (aliveM m).waits.length ≤ _; rw [h4]; omega, rfl, rfl⟩
  · exact ⟨rfl, h1, by simp, rfl, rfl⟩
/-- What a disk is behind so many calls under a fuse. -/
def Burnt (most i : Nat) (m : DM) (done : Nat) : Prop := m.n = 4 ∧ m.waits.length ≤ i ∧ ((i ≤ most ∧ m.fuse = (most : Int) - i ∧ m.dead = false ∧ done = i) ∨ (most < i ∧ m.dead = true ∧ done = most))

section
variable {w : World}
set_option maxRecDepth 100000 in
set_option maxHeartbeats 4000000 in
theorem fuses_walk (n : Int) (p : Option Addr) (cap : Nat) (l : List OpV) (h0 : 0 ≤ n) (h1 : n ≤ 255) (hl : OpsAt w p l) :
    Calls Try.prog 3 #[.int .u8 n, .slice p l.length cap] w fun e w' => e = .returned (.bool true) ∧ Fr [] w w' := by
  obtain ⟨hwf, hat⟩ := hl
  obtain ⟨most, hmost, hmlt⟩ : ∃ most : Nat, n % 12 = (most : Int) ∧ most < 12 := ⟨(n % 12).toNat, by omega, by omega⟩
  go_enter Try.func3, Try.ntmps3
  go_wp2_with fail
  refine (alive_law w).mono ?_
  rintro e w1 ⟨rfl, F1⟩
  go_wp2_with fail
  refine (new_m 4 w1).mono ?_
  rintro e w2 ⟨d, fp, rfl, D2, F2, N2⟩
  have G2 := F1.trans F2
  have M2 : News w [] fp := fun k hk => by rcases N2 k hk with h | h; cases h; right; have := F1.size; omega
  clear F1 F2 N2
  go_wp2_with fail
  refine (fuse_any (m := newM 4) D2 most (by omega)).mono ?_
  rintro e w3 ⟨rfl, D3, F3⟩
  have G3 := M2.fr G2 F3
  have HM2 := Lib.hid M2
  have HG3 := Lib.hid G3
  have HD3 := Lib.hid D3
  clear F3 G2 M2 D2 G3 D3
  go_wp2
  go_loopw [7, 8] (fun dn iv wr => ∃ (i done : Nat) (m : DM) (fp : List Nat), i ≤ l.length ∧ i ≤ 40 ∧ iv = .int .i64 i ∧ dn = .int .i64 done ∧ Burnt most i m done ∧ DiskAt wr d m fp ∧ Fr [] w wr ∧ News w [] fp) (fun _ iv _ => l.length - (intOf iv).toNat)
  case atStart =>
    refine ⟨0, 0, _, _, Nat.zero_le _, Nat.zero_le _, rfl, rfl, ⟨rfl, Nat.zero_le _, .inl ⟨Nat.zero_le _, ?_, rfl, rfl⟩⟩, HD3.out, HG3.out, HM2.out⟩
    simp [newM]; omega
  case round =>
    obtain ⟨i, done, m, fp, hi1, hi2, rfl, rfl, hB, D, FR, N⟩ := hrel
    clear HD3 HG3 HM2
    by_cases hlt : i < l.length ∧ i < 40
    · obtain ⟨hlt, hlt40⟩ := hlt
      obtain ⟨b, off, cs, T, fr, rfl, hb, hsz, hxa⟩ := hat (by intro h; rw [h] at hlt; exact absurd hlt (by simp))
      have hx := hxa i hlt
      clear hxa
      have hxw := hwf l[i] (List.getElem_mem hlt)
      generalize l[i] = o at hx hxw
      obtain ⟨ok, oa, of_, os⟩ := o
      obtain ⟨k1, k2, a1, a2, f1, f2, s1, s2⟩ := hxw
      dsimp only at hx k1 k2 a1 a2 f1 f2 s1 s2
      have hbr := FR.get hb (by simp)
      have hfit : off + i * 4 + 4 ≤ cs.size := by omega
      have HB := Lib.hid hB
      have HD := Lib.hid D
      have HF := Lib.hid FR
      have HN := Lib.hid N
      have Hat := Lib.hid hat
      have Hwf := Lib.hid hwf
      clear hB D FR N hat hwf hb
      have Hx := Lib.hid hx
      have hL : wr.heap.size ∉ fp := fun h => by have := HD.out.lt _ h; omega
      have hgL : w.heap.size ≤ wr.heap.size := HF.out.size
      go_upto_if 38 with (fail)
      obtain ⟨wa, hwa⟩ : ∃ wa, wa = wr.alloc (.cells #[.int .u8 ok, .int .i64 oa, .int .u8 of_, .int .u8 64] 28) := ⟨_, rfl⟩
      rw [← hwa]
      have D1 : DiskAt wa d m fp := HD.out.frame (gp := []) (by rw [hwa]; exact (Fr.refl _ _).alloc _) (fun _ _ h => by cases h)
      have F1 : Fr [] w wa := by rw [hwa]; exact HF.out.alloc _
      have hL1 : wa.blk wr.heap.size = some (.cells #[.int .u8 ok, .int .i64 oa, .int .u8 of_, .int .u8 64] 28 (0, 0)) := by rw [hwa]; exact World.at_alloc_new _ _ _ rfl
      have HD1 := Lib.hid D1
      have HF1 := Lib.hid F1
      clear hwa D1 F1
      go_cut [10] (fun ev wc => ∃ m' fp', ev = .int .i64 (if livesM m then 0 else 150) ∧ DiskAt wc d m' fp' ∧ m'.n = 4 ∧ m'.waits.length ≤ i + 1 ∧ m'.fuse = (aliveM m).fuse ∧ m'.dead = (aliveM m).dead ∧ Fr [] w wc ∧ News w [] fp')
      case first =>
        obtain ⟨b1, b2, b3⟩ := HB.out
        have hdn := (aliveM_same m)
        by_cases hk : (ok % 2 == 0) = true
        · have hf40 : 0 ≤ of_ % 4 := by omega
          have hf41 : of_ % 4 < 4 := by omega
          refine wp_cond_true (by rw [hk]; rfl) ?_
          refine drawn_begin 9 (fun w' => w'.blk wr.heap.size = some (.cells #[.int .u8 ok, .int .i64 oa, .int .u8 of_, .int .u8 64] 28 (0, 0))) (by kernel_rfl) ?_
          refine drawn_reads (fuel := 3) [0, 1, 2, 3, 4, 5] rfl (by kernel_rfl) hL1 ?_
          repeat (refine rowK_step rfl (fun K hK => ?_); go_simp; refine hK _ ?_; clear hK K)
          refine rowK_nil ⟨fun w' hw' => ?_, ?_⟩
          · repeat (refine rowWp_step rfl (fun K hK => ?_); go_simp; refine hK _ ?_; clear hK K)
            exact rowWp_nil rfl
          refine drawn_next 6 (fuel := 2) rfl (by kernel_rfl) ?_
          intro K hK
          go_wp2_with fail
          refine (block_any ok oa of_ 64 (by omega) (by omega) f1 f2).mono ?_
          rintro e wb ⟨bv, bb, rfl, B, FB, hbb⟩
          have FB' : Fr [] wa wb := ((Fr.refl _ _).drew).trans FB
          have DB := HD1.out.frame FB' (fun _ _ h => by cases h)
          have hLb := FB'.get hL1 (by simp)
          have GB := HF1.out.trans FB'
          have hbl : (blockB of_ 64).length = 64 := by rw [length_blockB]; rfl
          have harg : argM m (of_ % 4) (blockB of_ 64) = false := by
            simp only [argM, hbl, b1]
            have e1 : ¬ (of_ % 4 < 0) := by omega
            have e2 : ¬ (((4 : Nat) : Int) ≤ of_ % 4) := by omega
            simp [e1, e2]; omega
          have hbf : bb ∉ fp := fun h => by have := HD1.out.lt _ h; have : wa.drew.heap.size = wa.heap.size := rfl; omega
          have HDB := Lib.hid DB
          have HGB := Lib.hid GB
          have HHB := Lib.hid B
          have Hbl := Lib.hid hbl
          have Harg := Lib.hid harg
          clear FB FB' DB GB B hbl harg
          have HU : (fun x : World => x.blk wr.heap.size = some (.cells #[.int .u8 ok, .int .i64 oa, .int .u8 of_, .int .u8 64] 28 (0, 0))) wb := hLb
          simp only []
          go_wp2
          refine drawn_next 7 (fuel := 1) rfl (by kernel_rfl) ?_
          intro K hK
          go_wp2_with fail
          refine (write_any HDB.out (of_ % 4) bv bb (blockB of_ 64) HHB.out hbf (by rw [Hbl.out]; decide) (by omega)).mono ?_
          rintro e wd ⟨rfl, fp2, DD, FD, ND⟩
          have hLd := FD.get hLb hL
          have GD := HN.out.fr HGB.out FD
          have MD := HN.out.trans ND HGB.out.size
          obtain ⟨w1', w2', w3', w4', w5'⟩ := writeM_as Harg.out
          have HR := Lib.hid (And.intro w1' (And.intro w2' (And.intro w3' (And.intro w4' (And.intro w5' (And.intro DD (And.intro GD MD)))))))
          clear FD ND GD MD DD w1' w2' w3' w4' w5'
          simp only []
          go_wp2
          (try with_reducible refine And.intro hLd ?_)
          refine drawn_reads (fuel := 0) [8] rfl (by kernel_rfl) hLd ?_
          repeat (refine rowK_step rfl (fun K hK => ?_); go_simp; refine hK _ ?_; clear hK K)
          refine rowK_nil ⟨fun w' hw' => ?_, ?_⟩
          · repeat (refine rowWp_step rfl (fun K hK => ?_); go_simp; refine hK _ ?_; clear hK K)
            exact rowWp_nil rfl
          refine drawn_end (ol := []) rfl (by kernel_rfl) ?_
          intro K hK
          go_wp2
          go_meet
          case rel =>
            obtain ⟨w1', w2', w3', w4', w5', DD, GD, MD⟩ := HR.out
            exact ⟨_, fp2, by rw [w1'], DD, by rw [w2', b1], by omega, w4', w5', GD, MD⟩
        · have hk' : (ok % 2 == 0) = false := by simpa using hk
          refine wp_cond_false (by rw [hk']; rfl) ?_
          go_wp2_with fail
          refine (sync_any HD1.out (by omega)).mono ?_
          rintro e wd ⟨rfl, fp2, DD, FD, ND⟩
          have GD := HN.out.fr HF1.out FD
          have MD := HN.out.trans ND HF1.out.size
          obtain ⟨w1', w2', w3', w4', w5'⟩ := syncM_as m
          have HR := Lib.hid (And.intro w1' (And.intro w2' (And.intro w3' (And.intro w4' (And.intro w5' (And.intro DD (And.intro GD MD)))))))
          clear FD ND GD MD DD w1' w2' w3' w4' w5'
          simp only []
          go_wp2
          go_meet
          case rel =>
            obtain ⟨w1', w2', w3', w4', w5', DD, GD, MD⟩ := HR.out
            exact ⟨_, fp2, by rw [w1'], DD, by rw [w2', b1], by omega, w4', w5', GD, MD⟩
      case rest =>
        obtain ⟨m', fp', rfl, D', b1', b2', b3', b4', G', M'⟩ := hcut
        obtain ⟨b1, b2, b3⟩ := HB.out
        have HD' := Lib.hid D'
        have HG' := Lib.hid G'
        have HM' := Lib.hid M'
        clear D' G' M' Hx hx
        by_cases hb : i < most
        · have hl : livesM m = true := by
            rcases b3 with ⟨c1, c2, c3, c4⟩ | ⟨c1, c2, c3⟩
            · simp [livesM, c2, c3]; omega
            · omega
          have hnew : Burnt most (i + 1) m' (i + 1) := by
            rcases b3 with ⟨c1, c2, c3, c4⟩ | ⟨c1, c2, c3⟩
            · have e1 : ¬ (m.fuse = 0) := by omega
              have e2 : 0 < m.fuse := by omega
              refine ⟨b1', b2', .inl ⟨by omega, ?_, ?_, rfl⟩⟩
              · rw [b3']; simp [aliveM, c3, e1, e2]; omega
              · rw [b4']; simp [aliveM, c3, e1]
            · omega
          have hdone : done = i := by rcases b3 with ⟨c1, c2, c3, c4⟩ | ⟨c1, c2, c3⟩ <;> omega
          subst hdone
          have HNEW := Lib.hid hnew
          clear hnew b3 b1 b2 b1' b2' b3' b4'
          rw [hl]
          go_wp2
          go_roundw
          case rel => exact ⟨done + 1, done + 1, m', fp', by omega, by omega, by go_num, by go_num, HNEW.out, HD'.out, HG'.out, HM'.out⟩
          case measure => simp [intOf]; omega
        · have hl : livesM m = false := by
            rcases b3 with ⟨c1, c2, c3, c4⟩ | ⟨c1, c2, c3⟩
            · simp [livesM, c2]; omega
            · simp [livesM, c2]
          have hdd : m'.dead = true := by
            rw [b4']
            rcases b3 with ⟨c1, c2, c3, c4⟩ | ⟨c1, c2, c3⟩
            · have e1 : m.fuse = 0 := by omega
              simp [aliveM, e1]
            · simp [aliveM, c2]
          have hnew : Burnt most (i + 1) m' done := by
            refine ⟨b1', b2', .inr ⟨by omega, hdd, ?_⟩⟩
            rcases b3 with ⟨c1, c2, c3, c4⟩ | ⟨c1, c2, c3⟩ <;> omega
          have HNEW := Lib.hid hnew
          have HDD := Lib.hid hdd
          clear hnew b3 b1 b2 b1' b2' b3' b4' hdd
          rw [hl]
          go_wp2_with fail
          refine (dead_any HD'.out).mono ?_
          rintro e w9 ⟨rfl, rfl⟩
          rw [HDD.out]
          go_wp2
          go_roundw
          case rel => exact ⟨i + 1, done, m', fp', by omega, by omega, by go_num, rfl, HNEW.out, HD'.out, HG'.out, HM'.out⟩
          case measure => simp [intOf]; omega
    · have hge : l.length ≤ i ∨ 40 ≤ i := by omega
      obtain ⟨b1, b2, b3⟩ := hB
      have hdone : (done : Int) = min (min (most : Int) l.length) 40 := by
        rcases b3 with ⟨c1, c2, c3, c4⟩ | ⟨c1, c2, c3⟩ <;> omega
      clear b3 b1 b2 hat
      by_cases hlt2 : i < l.length
      · have h40 : 40 ≤ i := by omega
        clear hge hlt
        go_wp2
        go_ret
        exact ⟨by simp [hdone], FR⟩
      · have hge2 : l.length ≤ i := by omega
        clear hge hlt
        go_wp2
        go_ret
        exact ⟨by simp [hdone], FR⟩
end
end Go.Proofs.Ytbjoeihcphcohaa
