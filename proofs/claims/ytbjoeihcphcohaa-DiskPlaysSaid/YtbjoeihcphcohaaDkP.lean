/- Walk of the statement DiskPlays. -/
import Derived.Test.YtbjoeihcphcohaaDkO
import Derived.Deep.CutBlock
import Derived.Deep.QuietTactic
import Derived.BigQuiet
namespace Go.Proofs.Ytbjoeihcphcohaa
open Go.RowKit Go.Dr

@[go_sem] theorem at_drewN (w : World) (n b : Nat) : (w.drewN n).blk b = w.blk b := rfl
theorem fr_drewN (w : World) (n : Nat) : Fr [] w (w.drewN n) := ⟨rfl, rfl, rfl, Nat.le_refl _, fun _ _ _ => rfl⟩
theorem quiet_same {P : Program} {f : FuncId} {args : Array Value} {w : World} {n : Nat} {v : Value} (h : Calls P f args (w.drewN n) fun e w' => e = .returned v ∧ w.drewN n = w') : Calls P f args (w.drewN n) fun e w'' => e = .returned v ∧ ∃ m, w'' = w.drewN m :=
  Calls.quiet_of_same (h.mono fun _ _ ⟨a, b⟩ => ⟨a, b.symm⟩)
/-- The disk and the document's, side by side. -/
structure Both (w0 w : World) (d r : Nat) (m : DM) (fp rfp : List Nat) (i : Nat) : Prop where
  D : DiskAt w d m fp
  R : RefAt w r m rfp
  dis : ∀ k ∈ fp, k ∉ rfp
  seen : m.seen = layW m.kept m.waits
  wl : m.waits.length ≤ i
  fr : Fr [] w0 w
  nd : News w0 [] fp
  nr : News w0 [] rfp
structure Two (w0 w : World) (d r : Nat) (m m2 : DM) (fp rfp : List Nat) : Prop where
  D : DiskAt w d m fp
  R : RefAt w r m2 rfp
  dis : ∀ k ∈ fp, k ∉ rfp
  fr : Fr [] w0 w
  nd : News w0 [] fp
  nr : News w0 [] rfp
theorem Both.two {w0 w : World} {d r : Nat} {m : DM} {fp rfp : List Nat} {i : Nat} (B : Both w0 w d r m fp rfp i) : Two w0 w d r m m fp rfp := ⟨B.D, B.R, B.dis, B.fr, B.nd, B.nr⟩
theorem Two.both {w0 w : World} {d r : Nat} {m : DM} {fp rfp : List Nat} {i : Nat} (B : Two w0 w d r m m fp rfp) (hs : m.seen = layW m.kept m.waits) (hw : m.waits.length ≤ i) : Both w0 w d r m fp rfp i := ⟨B.D, B.R, B.dis, hs, hw, B.fr, B.nd, B.nr⟩
theorem Two.frame0 {w0 w w' : World} {d r : Nat} {m m2 : DM} {fp rfp : List Nat} (B : Two w0 w d r m m2 fp rfp) (F : Fr [] w w') : Two w0 w' d r m m2 fp rfp :=
  ⟨B.D.frame F (fun _ _ h => by cases h), B.R.frame F (fun _ _ h => by cases h), B.dis, B.fr.trans F, B.nd, B.nr⟩
theorem Two.disk {w0 w w' : World} {d r : Nat} {m m2 m' : DM} {fp rfp fp' : List Nat} (B : Two w0 w d r m m2 fp rfp) (D' : DiskAt w' d m' fp') (F : Fr fp w w') (N : News w fp fp') : Two w0 w' d r m' m2 fp' rfp :=
  ⟨D', B.R.frame F (fun k hk h => B.dis k h hk), fun k hk hk' => by
    rcases N k hk with h | h
    · exact B.dis k h hk'
    · have := B.R.lt k hk'; omega, B.nd.fr B.fr F, B.nd.trans N B.fr.size, B.nr⟩
theorem Two.ref {w0 w w' : World} {d r : Nat} {m m2 m' : DM} {fp rfp rfp' : List Nat} (B : Two w0 w d r m m2 fp rfp) (R' : RefAt w' r m' rfp') (F : Fr rfp w w') (N : News w rfp rfp') : Two w0 w' d r m m' fp rfp' :=
  ⟨B.D.frame F (fun k hk h => B.dis k hk h), R', fun k hk hk' => by
    rcases N k hk' with h | h
    · exact B.dis k hk h
    · have := B.D.lt k hk; omega, B.nr.fr B.fr F, B.nd, B.nr.trans N B.fr.size⟩
theorem News.of_sub {w : World} {fp fp' : List Nat} (h : ∀ k ∈ fp', k ∈ fp) : News w fp fp' := fun k hk => .inl (h k hk)
theorem aliveM_seen {m : DM} (h : m.seen = layW m.kept m.waits) : (aliveM m).seen = layW (aliveM m).kept (aliveM m).waits := by
  obtain ⟨h1, h2, h3, h4⟩ := aliveM_same m
  rw [h2, h3, h4]; exact h
theorem writeM_seen {m : DM} (h : m.seen = layW m.kept m.waits) (a : Int) (b : List Int) : (writeM m a b).2.seen = layW (writeM m a b).2.kept (writeM m a b).2.waits ∧ (writeM m a b).2.waits.length ≤ m.waits.length + 1 := by
  obtain ⟨h1, h2, h3, h4⟩ := aliveM_same m
  unfold writeM
  split
  · exact ⟨h, Nat.le_succ _⟩
  · split
    · refine ⟨?_, by simp⟩
      dsimp only
      rw [h2, layW_snoc, h]
    · exact ⟨aliveM_seen h, by rw [h4]; omega⟩
theorem syncM_seen {m : DM} (h : m.seen = layW m.kept m.waits) : (syncM m).2.seen = layW (syncM m).2.kept (syncM m).2.waits ∧ (syncM m).2.waits.length ≤ m.waits.length := by
  obtain ⟨h1, h2, h3, h4⟩ := aliveM_same m
  unfold syncM
  split
  · refine ⟨?_, by simp⟩
    dsimp only
    rw [h3, h]; rfl
  · exact ⟨aliveM_seen h, by rw [h4]; omega⟩

section
variable {w : World}
set_option maxRecDepth 100000 in
set_option maxHeartbeats 8000000 in
theorem plays_walk (blocks : Int) (h0 : -9223372036854775808 ≤ blocks) (h1 : blocks ≤ 9223372036854775807) (p : Option Addr) (cap : Nat) (l : List OpV) (hl : OpsAt w p l) :
    Calls Try.prog 6 #[.int .i64 blocks, .slice p l.length cap] w fun e w' => e = .returned (.bool true) ∧ Fr [] w w' := by
  have HL := Lib.hid hl
  clear hl
  go_enter Try.func6, Try.ntmps6
  go_wp2_with fail
  refine (alive_law w).mono ?_
  rintro e w1 ⟨rfl, F1⟩
  by_cases hbig : 64 < blocks
  · go_wp2_with fail
    refine (new_m blocks w1).mono ?_
    rintro e w2 ⟨d, fp, rfl, D2, F2, N2⟩
    have hn : ((newM blocks).n : Int) = min blocks 4096 := by simp only [newM]; omega
    have G := Lib.hid (F1.trans F2)
    have HD := Lib.hid D2
    clear F1 F2 D2
    go_wp2_with fail
    refine (blocks_any HD.out).mono ?_
    rintro e w3 ⟨rfl, rfl⟩
    rw [hn]
    clear hn
    go_wp2
    go_ret
    exact ⟨rfl, G.out⟩
  · have hb64 : blocks ≤ 64 := by omega
    clear hbig
    go_wp2_with fail
    refine (new_m blocks w1).mono ?_
    rintro e w2 ⟨d, fp, rfl, D2, F2, N2⟩
    have HD := Lib.hid D2
    have HF2 := Lib.hid F2
    clear D2 F2
    go_wp2_with fail
    refine (rnew_any blocks w2).mono ?_
    rintro e w3 ⟨r, rfp, rfl, R3, F3, N3⟩
    have hB : Both w w3 d r (newM blocks) fp rfp 0 := by
      have s1 := F1.size
      have s2 := HF2.out.size
      refine ⟨HD.out.frame F3 (fun _ _ h => by cases h), R3, fun k hk hk' => ?_, by simp [newM, layW], Nat.zero_le _, F1.trans (HF2.out.trans F3), fun k hk => ?_, fun k hk => ?_⟩
      · have := HD.out.lt k hk
        rcases N3 k hk' with h | h
        · cases h
        · omega
      · rcases N2 k hk with h | h
        · cases h
        · right; omega
      · rcases N3 k hk with h | h
        · cases h
        · right; omega
    have HBo := Lib.hid hB
    clear hB R3 N3 F3 F1 N2 HD HF2
    go_upto_block 0 with fail
    go_cut [7] (fun _ wc => ∃ m fp rfp, Both w wc d r m fp rfp 120)
    case first =>
      go_wp2
      go_loopw [7] (fun iv wr => ∃ (i : Nat) (m : DM) (fp rfp : List Nat), i ≤ l.length ∧ i ≤ 120 ∧ iv = .int .i64 i ∧ Both w wr d r m fp rfp i) (fun iv _ => l.length - (intOf iv).toNat)
      case atStart => exact ⟨0, _, _, _, Nat.zero_le _, Nat.zero_le _, rfl, HBo.out⟩
      case round =>
        obtain ⟨i, m, fp, rfp, hi1, hi2, rfl, hB⟩ := hrel
        clear HBo
        have HB := Lib.hid hB
        clear hB
        by_cases hlt : i < l.length ∧ i < 120
        · obtain ⟨hlt, hlt40⟩ := hlt
          obtain ⟨b, off, cs, T, fr, rfl, hb, hsz, hxa⟩ := HL.out.2 (by intro h; rw [h] at hlt; exact absurd hlt (by simp))
          have hx := hxa i hlt
          clear hxa
          have hxw := HL.out.1 l[i] (List.getElem_mem hlt)
          generalize l[i] = o at hx hxw
          obtain ⟨ok, oa, of_, os⟩ := o
          obtain ⟨k1, k2, a1, a2, f1, f2, s1, s2⟩ := hxw
          dsimp only at hx k1 k2 a1 a2 f1 f2 s1 s2
          have hbr := HB.out.fr.get hb (by simp)
          have hfit : off + i * 4 + 4 ≤ cs.size := by omega
          clear hb
          go_upto_block 2 with fail
          obtain ⟨wa, hwa⟩ : ∃ wa, wa = wr.alloc (.cells #[.int .u8 ok, .int .i64 oa, .int .u8 of_, .int .u8 os] 28) := ⟨_, rfl⟩
          rw [← hwa]
          have FA : Fr [] wr wa := by rw [hwa]; exact (Fr.refl _ _).alloc _
          have TA := HB.out.two.frame0 FA
          have hL1 : wa.blk wr.heap.size = some (.cells #[.int .u8 ok, .int .i64 oa, .int .u8 of_, .int .u8 os] 28 (0, 0)) := by rw [hwa]; exact World.at_alloc_new _ _ _ rfl
          have hLd : wr.heap.size ∉ fp := fun h => by have := HB.out.D.lt _ h; omega
          have hLr : wr.heap.size ∉ rfp := fun h => by have := HB.out.R.lt _ h; omega
          have HT := Lib.hid TA
          have hseen := HB.out.seen
          have hwl := HB.out.wl
          have hs := Lib.hid hseen
          clear hwa FA TA hbr hseen hx
          have hq : ok % 5 = 0 ∨ ok % 5 = 1 ∨ ok % 5 = 2 ∨ ok % 5 = 3 ∨ ok % 5 = 4 := by omega
          generalize ok % 5 = q at hq
          go_cut [] (fun wc => ∃ m' fp' rfp', Both w wc d r m' fp' rfp' (i + 1))
          case first =>
            rcases hq with rfl | rfl | rfl | rfl | rfl
            · go_wp2
              refine drawn_begin 13 (fun w' => w'.blk wr.heap.size = some (.cells #[.int .u8 ok, .int .i64 oa, .int .u8 of_, .int .u8 os] 28 (0, 0))) (by kernel_rfl) ?_
              refine drawn_reads (fuel := 5) [0, 1, 2, 3, 6, 7, 8, 9] rfl (by kernel_rfl) hL1 ?_
              repeat (refine rowK_step rfl (fun K hK => ?_); go_simp; refine hK _ ?_; clear hK K)
              refine rowK_nil ⟨fun w' hw' => ?_, ?_⟩
              · repeat (refine rowWp_step rfl (fun K hK => ?_); go_simp; refine hK _ ?_; clear hK K)
                exact rowWp_nil rfl
              refine drawn_next 4 (fuel := 4) rfl (by kernel_rfl) ?_
              intro K1 hK1
              go_wp2_with fail
              refine (block_any ok oa of_ os s1 s2 f1 f2).mono ?_
              rintro e wb ⟨bv, bx, rfl, B, FB, hbb⟩
              have FB' : Fr [] wa wb := ((Fr.refl _ _).drew).trans FB
              have hLb := FB'.get hL1 (by simp)
              have hbf : bx ∉ fp := fun h => by have := HT.out.D.lt _ h; have : wa.drew.heap.size = wa.heap.size := rfl; omega
              have HT2 := Lib.hid (HT.out.frame0 FB')
              have HBy := Lib.hid B
              have hlen : (blockB of_ os).length ≤ 1099511627776 := by rw [length_blockB]; omega
              clear FB FB' B hbb
              simp only []
              go_wp2
              (try with_reducible refine And.intro hLb ?_)
              refine drawn_next 5 (fuel := 3) rfl (by kernel_rfl) ?_
              intro K2 hK2
              go_wp2_with fail
              refine (write_any HT2.out.D oa bv bx (blockB of_ os) HBy.out hbf hlen (by omega)).mono ?_
              rintro e wc ⟨rfl, fp2, DD, FD, ND⟩
              have hLc := FD.get hLb hLd
              have HT3 := Lib.hid (HT2.out.disk DD FD ND)
              have hLr3 : wr.heap.size ∉ rfp := hLr
              clear DD FD ND
              generalize hz : (writeM m oa (blockB of_ os)).1 = z
              go_wp2
              (try with_reducible refine And.intro hLc ?_)
              refine drawn_next 10 (fuel := 2) rfl (by kernel_rfl) ?_
              intro K3 hK3
              go_wp2_with fail
              refine (block_any ok oa of_ os s1 s2 f1 f2).mono ?_
              rintro e we ⟨bv2, by_, rfl, B, FB, hbb⟩
              have hLe := FB.get hLc (by simp)
              have hbf2 : by_ ∉ rfp := fun h => by have := HT3.out.R.lt _ h; omega
              have HT4 := Lib.hid (HT3.out.frame0 FB)
              have HBy2 := Lib.hid B
              clear FB B hbb
              simp only []
              go_wp2
              (try with_reducible refine And.intro hLe ?_)
              refine drawn_next 11 (fuel := 1) rfl (by kernel_rfl) ?_
              intro K4 hK4
              go_wp2_with fail
              refine (rwrite_any HT4.out.R oa bv2 by_ (blockB of_ os) HBy2.out hbf2 hlen (by omega)).mono ?_
              rintro e wf ⟨rfl, rfp2, RR, FR, NR⟩
              have hLf := FR.get hLe hLr
              obtain ⟨g1, g2⟩ := writeM_seen hs.out oa (blockB of_ os)
              have HT5 := Lib.hid ((HT4.out.ref RR FR NR).both g1 (i := i + 1) (by omega))
              clear RR FR NR g1 g2
              rw [hz]
              clear hz
              simp only []
              go_wp2
              (try with_reducible refine And.intro hLf ?_)
              refine drawn_reads (fuel := 0) [12] rfl (by kernel_rfl) hLf ?_
              repeat (refine rowK_step rfl (fun K hK => ?_); go_simp; refine hK _ ?_; clear hK K)
              refine rowK_nil ⟨fun w' hw' => ?_, ?_⟩
              · repeat (refine rowWp_step rfl (fun K hK => ?_); go_simp; refine hK _ ?_; clear hK K)
                exact rowWp_nil rfl
              refine drawn_end (ol := []) rfl (by kernel_rfl) ?_
              intro K5 hK5
              go_wp2
              go_meet
              case rel => exact ⟨_, _, _, HT5.out⟩
            · go_wp2_with fail
              refine (sync_any HT.out.D (by omega)).mono ?_
              rintro e wb ⟨rfl, fp2, DD, FD, ND⟩
              have T2 := HT.out.disk DD FD ND
              have HT2 := Lib.hid T2
              clear DD FD ND T2
              go_wp2_with fail
              refine (rsync_any HT2.out.R (by omega)).mono ?_
              rintro e wc ⟨rfl, rfp2, RR, FR, SR⟩
              have T3 := HT2.out.ref RR FR (News.of_sub SR)
              obtain ⟨g1, g2⟩ := syncM_seen hs.out
              have HT3 := Lib.hid (T3.both g1 (i := i + 1) (by omega))
              clear RR FR SR T3 g1 g2
              generalize (syncM m).1 = z
              go_wp2
              go_meet
              case rel => exact ⟨_, _, _, HT3.out⟩
            · go_wp2_with fail
              refine (read_any HT.out.D oa).mono ?_
              rintro e wb ⟨v, rfl, hv, FD⟩
              have hLb := FD.get hL1 (by simp)
              have HT2 := Lib.hid (HT.out.frame0 FD)
              have hvb : BytesV wb v (readM m oa).2 := by
                rcases hv with h | ⟨bb, h, _⟩
                · exact .inl h
                · exact .inr ⟨bb, h⟩
              have Hv := Lib.hid hvb
              clear hv hvb FD
              go_wp2_with fail
              refine (rread_any HT2.out.R oa hs.out (by omega)).mono ?_
              rintro e wc ⟨v2, rfl, hv2, FR⟩
              have HT3 := Lib.hid (HT2.out.frame0 FR)
              have Hv2 : Hid (BytesV wc v (readM m oa).2) := Lib.hid (by
                rcases Hv.out with h | ⟨bb, h⟩
                · exact .inl h
                · exact .inr ⟨bb, h.frame FR (by simp)⟩)
              have Hv3 : Hid (BytesV wc v2 (readM m oa).2) := Lib.hid (by
                rcases hv2 with h | ⟨bb, h, _⟩
                · exact .inl h
                · exact .inr ⟨bb, h⟩)
              clear hv2 FR Hv
              have HB4 := Lib.hid (HT3.out.both hs.out (i := i + 1) (by omega))
              generalize (readM m oa).1 = z
              go_wp2_with fail
              refine (bytes_same Hv2.out Hv3.out).mono ?_
              rintro e wx ⟨rfl, rfl⟩
              go_wp2
              go_meet
              case rel => exact ⟨_, _, _, HB4.out⟩
            · go_wp2_with fail
              refine (fuse_any HT.out.D oa a2).mono ?_
              rintro e wb ⟨rfl, DD, FD⟩
              have hLb := FD.get hL1 hLd
              have HT2 := Lib.hid (HT.out.disk DD FD (fun k hk => .inl hk))
              clear DD FD
              obtain ⟨kb, pa, ca, pb, cb, bs, RI, hrfp, rok⟩ := HT2.out.R
              have hr := RI.hr
              have hrl := World.at_lt hr
              have HRI := Lib.hid (And.intro RI (And.intro hrfp rok))
              clear RI hrfp rok
              go_wp2
              go_meet
              case rel =>
                obtain ⟨RI, hrfp, rok⟩ := HRI.out
                have R2 := RI.flags (max oa (-1)) m.dead
                have T3 := HT2.out.ref (m' := { m with fuse := max oa (-1) }) ⟨kb, pa, ca, pb, cb, bs, R2, hrfp, ⟨rok.n1, rok.n2, rok.kl, rok.sl, by dsimp only; omega, by dsimp only; omega, rok.ws⟩⟩ ((Fr.refl _ _).put _ _ (fun _ => by rw [hrfp]; simp [rfpOf])) (fun k hk => .inl hk)
                exact ⟨_, _, _, T3.both hs.out (by dsimp only; omega)⟩
            · go_wp2_with fail
              refine (crash_any HT.out.D oa (by omega)).mono ?_
              rintro e wb ⟨rfl, fp2, DD, FD, ND⟩
              have hLb := FD.get hL1 hLd
              have HT2 := Lib.hid (HT.out.disk DD FD ND)
              clear DD FD ND
              go_wp2_with fail
              refine (rcrash_any HT2.out.R oa (by omega)).mono ?_
              rintro e wc ⟨rfl, rfp2, RR, FR, SR⟩
              have HT3 := Lib.hid (HT2.out.ref RR FR (News.of_sub SR))
              clear RR FR SR
              go_wp2
              go_meet
              case rel => exact ⟨_, _, _, HT3.out.both (by simp [crashM, layW]) (by simp [crashM])⟩
          case rest =>
            obtain ⟨m', fp', rfp', hB'⟩ := hcut
            clear HB HT hs hL1 hLd hLr
            have HB' := Lib.hid hB'
            clear hB'
            obtain ⟨kb, pa, ca, pb, cb, bs, RI, hrfp, rok⟩ := HB'.out.R
            have hr := RI.hr
            have hrl := World.at_lt hr
            clear RI hrfp rok
            go_upto_region 28 with fail
            go_quiet (first | (go_at_call 13; refine quiet_same (dead_any (HB'.out.D.frame (fr_drewN _ _) (fun _ _ h => by cases h)))) | (go_at_call 17; refine quiet_same (waits_any (HB'.out.D.frame (fr_drewN _ _) (fun _ _ h => by cases h)))) | (go_at_call 19; refine quiet_same (blocks_any (HB'.out.D.frame (fr_drewN _ _) (fun _ _ h => by cases h)))))
            go_wp2
            go_roundw
            case rel => exact ⟨i + 1, m', fp', rfp', by omega, by omega, by go_num, (HB'.out.two.frame0 (fr_drewN _ _)).both HB'.out.seen HB'.out.wl⟩
            case measure => simp [intOf]; omega
        · by_cases hlt2 : i < l.length
          · have h40 : 120 ≤ i := by omega
            have HB' := HB.out
            have hi : i = 120 := by omega
            subst hi
            clear hlt
            go_wp2
            go_meet
            case rel => exact ⟨m, fp, rfp, HB.out⟩
          · have h40 : l.length ≤ i := by omega
            clear hlt
            go_wp2
            go_meet
            case rel => exact ⟨m, fp, rfp, ⟨HB.out.D, HB.out.R, HB.out.dis, HB.out.seen, by have := HB.out.wl; omega, HB.out.fr, HB.out.nd, HB.out.nr⟩⟩
    case rest =>
      obtain ⟨m, fp, rfp, hB⟩ := hcut
      have HB := Lib.hid hB
      obtain ⟨kb, pa, ca, pb, cb, bs, RI, hrfp, rok⟩ := hB.R
      have hr := RI.hr
      have hk := RI.hk
      have hrl := World.at_lt hr
      have hkl := rok.kl
      clear RI hrfp rok hB HBo
      go_upto_region 30 with fail
      refine drawn_begin 8 (fun w' => w'.blk r = some (.cells #[.int .i64 m.n, .slice (some ⟨kb, 0, none⟩) (64 * m.n) (64 * m.n), .slice pa m.waits.length ca, .slice pb m.waits.length cb, .int .i64 m.fuse, .bool m.dead] 50 (0, 0))) (by kernel_rfl) ?_
      refine drawn_reads (fuel := 3) [0, 2, 3, 4, 5] rfl (by kernel_rfl) hr ?_
      repeat (refine rowK_step rfl (fun K hK => ?_); go_simp; refine hK _ ?_; clear hK K)
      refine rowK_nil ⟨fun w' hw' => ?_, ?_⟩
      · repeat (refine rowWp_step rfl (fun K hK => ?_); go_simp; refine hK _ ?_; clear hK K)
        exact rowWp_nil rfl
      refine drawn_next 1 (fuel := 2) rfl (by kernel_rfl) ?_
      intro K1 hK1
      go_wp2_with fail
      refine (kept_any (HB.out.D.frame (gp := []) ((Fr.refl _ _).drew) (fun _ _ h => by cases h))).mono ?_
      rintro e wb ⟨v, bb, rfl, B, FB, hbb⟩
      have FB' : Fr [] wc wb := ((Fr.refl _ _).drew).trans FB
      have hrb := FB'.get hr (by simp)
      have hkb := FB'.get hk (by simp)
      have HT := Lib.hid (HB.out.two.frame0 FB')
      have HB1 := Lib.hid B
      have HB2 : Hid (BytesAt wb (.slice (some ⟨kb, 0, none⟩) (64 * m.n) (64 * m.n)) kb m.kept) := Lib.hid (BytesAt.whole hkb hkl _)
      clear B FB FB' hbb hkb hk
      simp only []
      go_wp2
      (try with_reducible refine And.intro hrb ?_)
      refine drawn_next 6 (fuel := 1) rfl (by kernel_rfl) ?_
      intro K2 hK2
      go_wp2_with fail
      refine (bytes_same (.inr ⟨_, HB1.out⟩) (.inr ⟨_, HB2.out⟩)).mono ?_
      rintro e wx ⟨rfl, rfl⟩
      simp only []
      go_wp2
      (try with_reducible refine And.intro hrb ?_)
      refine drawn_reads (fuel := 0) [7] rfl (by kernel_rfl) hrb ?_
      repeat (refine rowK_step rfl (fun K hK => ?_); go_simp; refine hK _ ?_; clear hK K)
      refine rowK_nil ⟨fun w' hw' => ?_, ?_⟩
      · repeat (refine rowWp_step rfl (fun K hK => ?_); go_simp; refine hK _ ?_; clear hK K)
        exact rowWp_nil rfl
      refine drawn_end (ol := []) rfl (by kernel_rfl) ?_
      intro K3 hK3
      go_wp2
      go_ret
      exact ⟨rfl, HT.out.fr⟩
end
end Go.Proofs.Ytbjoeihcphcohaa
