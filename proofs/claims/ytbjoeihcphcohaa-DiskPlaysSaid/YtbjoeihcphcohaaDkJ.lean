/- Walk of the statement DiskKeeps. -/
import Derived.Test.YtbjoeihcphcohaaDkI
import Derived.Deep.CutBlock
namespace Go.Proofs.Ytbjoeihcphcohaa
open Go.RowKit Go.Dr

theorem bytes_same {w : World} {va vb : Value} {a : List Int} (A : BytesV w va a) (B : BytesV w vb a) :
    Calls Try.prog 16 #[va, vb] w fun e w' => e = .returned (.bool true) ∧ w = w' := by
  have h1 := conv_str A
  have h2 := conv_str B
  go_enter Try.func16, Try.ntmps16
  go_wp2
  go_ret
  exact ⟨rfl, rfl⟩
/-- A disk of eight blocks that lives, with no fuse. -/
structure Eight (m : DM) : Prop where
  n : m.n = 8
  fuse : m.fuse = -1
  dead : m.dead = false
theorem eight_lives {m : DM} (h : Eight m) : livesM m = true ∧ aliveM m = m := by
  obtain ⟨n, kp, sn, ws, f, d⟩ := m
  obtain ⟨h1, h2, h3⟩ := h
  simp only at h1 h2 h3
  subst h1 h2 h3
  exact ⟨rfl, rfl⟩
theorem eight_write {m : DM} (h : Eight m) (at_ : Int) (b : List Int) (hb : b.length = 64) :
    (argM m at_ b = true ∧ ¬(0 ≤ at_ ∧ at_ < 8) ∧ writeM m at_ b = (1, m)) ∨
    (0 ≤ at_ ∧ at_ < 8 ∧ (writeM m at_ b).1 = 0 ∧ Eight (writeM m at_ b).2 ∧ (writeM m at_ b).2.kept = m.kept ∧ (writeM m at_ b).2.waits = m.waits ++ [(at_.toNat, b)]) := by
  obtain ⟨e1, e2⟩ := eight_lives h
  cases ha : argM m at_ b with
  | true =>
    left
    refine ⟨rfl, ?_, by simp [writeM, ha]⟩
    intro ⟨g1, g2⟩
    simp only [argM, h.n, hb] at ha
    have z1 : ¬ at_ < 0 := by omega
    have z2 : ¬ ((8 : Nat) : Int) ≤ at_ := by omega
    simp [z1, z2] at ha
    omega
  | false =>
    right
    have hw : writeM m at_ b = (0, { aliveM m with seen := lay m.seen (at_.toNat * 64) b, waits := m.waits ++ [(at_.toNat, b)] }) := by simp [writeM, ha, e1]
    simp only [argM, Bool.or_eq_false_iff, decide_eq_false_iff_not, h.n] at ha
    rw [hw, e2]
    exact ⟨by omega, by omega, rfl, ⟨h.n, h.fuse, h.dead⟩, rfl, rfl⟩
theorem eight_any {m : DM} (h : Eight m) (at_ : Int) (b : List Int) (hb : b.length = 64) : Eight (writeM m at_ b).2 ∧ (writeM m at_ b).2.waits.length ≤ m.waits.length + 1 := by
  rcases eight_write h at_ b hb with ⟨_, _, e⟩ | ⟨_, _, _, e1, _, e3⟩
  · rw [e]; exact ⟨h, Nat.le_succ _⟩
  · rw [e3]; exact ⟨e1, by simp⟩
theorem eight_sync {m : DM} (h : Eight m) : (syncM m).1 = 0 ∧ Eight (syncM m).2 ∧ (syncM m).2.waits = [] := by
  obtain ⟨e1, e2⟩ := eight_lives h
  have hw : syncM m = (0, { aliveM m with kept := layW m.kept m.waits, waits := [] }) := by simp [syncM, e1]
  rw [hw, e2]
  exact ⟨rfl, ⟨h.n, h.fuse, h.dead⟩, rfl⟩

theorem spl_in (k : IntKind) (l : List Int) (tl : Array Value) (o : Nat) (m : List Int) (h : o + m.length ≤ l.length) : spl (ints k l ++ tl) o (m.map (Value.int k)) = ints k (lay l o m) ++ tl := by
  apply Array.ext'
  simp only [spl, lay, ints, Array.toList_append, Array.toList_extract, List.extract_eq_take_drop, List.drop_zero, Nat.sub_zero, List.length_map, Array.size_append, List.size_toArray]
  rw [List.take_append_of_le_length (by simp; omega)]
  rw [List.drop_append_of_le_length (by simp; omega)]
  rw [List.take_of_length_le (l := _ ++ tl.toList) (by simp; omega)]
  simp [List.map_take, List.map_drop]

theorem split_cur (cur : Array Value) (K : List Int) (n : Nat) (h : cur.toList.take n = K.map (Value.int .u8)) : ∃ tl, cur = ints .u8 K ++ tl := by
  refine ⟨(cur.toList.drop n).toArray, ?_⟩
  apply Array.ext'
  simp only [ints, Array.toList_append]
  rw [← h, List.take_append_drop]
theorem take_more {α : Type} (l : List α) (x : α) (k : Int) (h : (l.length : Int) < k) : (l ++ [x]).take k.toNat = l ++ [x] ∧ l.take k.toNat = l := by
  constructor
  · rw [List.take_of_length_le]; simp; omega
  · rw [List.take_of_length_le]; omega
theorem take_same {α : Type} (l : List α) (x : α) (k : Int) (h : ¬ (l.length : Int) < k) : (l ++ [x]).take k.toNat = l.take k.toNat := by
  rw [List.take_append_of_le_length (by omega)]
theorem DiskAt.ok {w : World} {d : Nat} {m : DM} {fp : List Nat} (D : DiskAt w d m fp) : m.Ok := by
  obtain ⟨kb, sb, p, cap, D, _, ok⟩ := D
  exact ok
theorem length_block64 (f : Int) : (blockB f 64).length = 64 := by rw [length_blockB]; rfl

section
variable {w : World}
set_option maxRecDepth 100000 in
set_option maxHeartbeats 8000000 in
theorem keeps_walk (p1 : Option Addr) (cap1 : Nat) (l1 : List OpV) (p2 : Option Addr) (cap2 : Nat) (l2 : List OpV) (keep : Int) (hk0 : -9223372036854775808 ≤ keep) (hk1 : keep ≤ 9223372036854775807)
    (hl1 : OpsAt w p1 l1) (hl2 : OpsAt w p2 l2) :
    Calls Try.prog 5 #[.slice p1 l1.length cap1, .slice p2 l2.length cap2, .int .i64 keep] w fun e w' => e = .returned (.bool true) ∧ Fr [] w w' := by
  have HL1 := Lib.hid hl1
  have HL2 := Lib.hid hl2
  clear hl1 hl2
  go_enter Try.func5, Try.ntmps5
  go_wp2_with fail
  refine (alive_law w).mono ?_
  rintro e w1 ⟨rfl, F1⟩
  go_wp2_with fail
  refine (new_m 8 w1).mono ?_
  rintro e w2 ⟨d, fp, rfl, D2, F2, N2⟩
  have G2 := F1.trans F2
  have M2 : News w [] fp := fun k hk => by rcases N2 k hk with h | h; cases h; right; have := F1.size; omega
  clear F1 F2 N2
  have HM2 := Lib.hid M2
  have HG2 := Lib.hid G2
  have HD2 := Lib.hid D2
  clear D2 M2 G2
  go_upto_block 0 with fail
  go_cut [8] (fun _ wc => ∃ (m : DM) (fp : List Nat), Eight m ∧ m.waits.length ≤ 20 ∧ DiskAt wc d m fp ∧ Fr [] w wc ∧ News w [] fp)
  case first =>
    go_wp2
    go_loopw [8] (fun iv wr => ∃ (i : Nat) (m : DM) (fp : List Nat), i ≤ l1.length ∧ i ≤ 20 ∧ iv = .int .i64 i ∧ Eight m ∧ m.waits.length ≤ i ∧ DiskAt wr d m fp ∧ Fr [] w wr ∧ News w [] fp) (fun iv _ => l1.length - (intOf iv).toNat)
    case atStart => exact ⟨0, _, _, Nat.zero_le _, Nat.zero_le _, rfl, ⟨rfl, rfl, rfl⟩, Nat.zero_le _, HD2.out, HG2.out, HM2.out⟩
    case round =>
      obtain ⟨i, m, fp, hi1, hi2, rfl, h8, hwl, D, FR, N⟩ := hrel
      clear HD2 HG2 HM2
      have HD := Lib.hid D
      have HF := Lib.hid FR
      have HN := Lib.hid N
      have H8 := Lib.hid h8
      clear D FR N h8
      by_cases hlt : i < l1.length ∧ i < 20
      · obtain ⟨hlt, hlt40⟩ := hlt
        obtain ⟨b, off, cs, T, fr, rfl, hb, hsz, hxa⟩ := HL1.out.2 (by intro h; rw [h] at hlt; exact absurd hlt (by simp))
        have hx := hxa i hlt
        clear hxa
        have hxw := HL1.out.1 l1[i] (List.getElem_mem hlt)
        generalize l1[i] = o at hx hxw
        obtain ⟨ok, oa, of_, os⟩ := o
        obtain ⟨k1, k2, a1, a2, f1, f2, s1, s2⟩ := hxw
        dsimp only at hx k1 k2 a1 a2 f1 f2 s1 s2
        have hbr := HF.out.get hb (by simp)
        have hfit : off + i * 4 + 4 ≤ cs.size := by omega
        clear hb
        go_wp2
        obtain ⟨wa, hwa⟩ : ∃ wa, wa = wr.alloc (.cells #[.int .u8 ok, .int .i64 oa, .int .u8 of_, .int .u8 64] 28) := ⟨_, rfl⟩
        rw [← hwa]
        have D1 : DiskAt wa d m fp := HD.out.frame (gp := []) (by rw [hwa]; exact (Fr.refl _ _).alloc _) (fun _ _ h => by cases h)
        have F1 : Fr [] w wa := by rw [hwa]; exact HF.out.alloc _
        have hL1 : wa.blk wr.heap.size = some (.cells #[.int .u8 ok, .int .i64 oa, .int .u8 of_, .int .u8 64] 28 (0, 0)) := by rw [hwa]; exact World.at_alloc_new _ _ _ rfl
        have hL : wr.heap.size ∉ fp := fun h => by have := HD.out.lt _ h; omega
        have HD1 := Lib.hid D1
        have HF1 := Lib.hid F1
        clear hwa D1 F1 hbr
        refine drawn_begin 6 (fun w' => w'.blk wr.heap.size = some (.cells #[.int .u8 ok, .int .i64 oa, .int .u8 of_, .int .u8 64] 28 (0, 0))) (by kernel_rfl) ?_
        refine drawn_reads (fuel := 2) [0, 1, 2, 3] rfl (by kernel_rfl) hL1 ?_
        repeat (refine rowK_step rfl (fun K hK => ?_); go_simp; refine hK _ ?_; clear hK K)
        refine rowK_nil ⟨fun w' hw' => ?_, ?_⟩
        · repeat (refine rowWp_step rfl (fun K hK => ?_); go_simp; refine hK _ ?_; clear hK K)
          exact rowWp_nil rfl
        refine drawn_next 4 (fuel := 1) rfl (by kernel_rfl) ?_
        intro K hK
        go_wp2_with fail
        refine (block_any ok oa of_ 64 (by omega) (by omega) f1 f2).mono ?_
        rintro e wb ⟨bv, bb, rfl, B, FB, hbb⟩
        have FB' : Fr [] wa wb := ((Fr.refl _ _).drew).trans FB
        have DB := HD1.out.frame FB' (fun _ _ h => by cases h)
        have hLb := FB'.get hL1 (by simp)
        have GB := HF1.out.trans FB'
        have hbf : bb ∉ fp := fun h => by have := HD1.out.lt _ h; have : wa.drew.heap.size = wa.heap.size := rfl; omega
        have HDB := Lib.hid DB
        have HGB := Lib.hid GB
        have HHB := Lib.hid B
        clear FB FB' DB GB B
        have HU : (fun x : World => x.blk wr.heap.size = some (.cells #[.int .u8 ok, .int .i64 oa, .int .u8 of_, .int .u8 64] 28 (0, 0))) wb := hLb
        simp only []
        go_wp2
        (try with_reducible refine And.intro hLb ?_)
        refine drawn_next 5 (fuel := 0) rfl (by kernel_rfl) ?_
        intro K hK
        go_wp2_with fail
        refine (write_any HDB.out oa bv bb (blockB of_ 64) HHB.out hbf (by rw [length_block64]; decide) (by omega)).mono ?_
        rintro e wd ⟨rfl, fp2, DD, FD, ND⟩
        have hLd := FD.get hLb hL
        have GD := HN.out.fr HGB.out FD
        have MD := HN.out.trans ND HGB.out.size
        obtain ⟨w1', w2'⟩ := eight_any H8.out oa (blockB of_ 64) (length_block64 _)
        have HR := Lib.hid (And.intro w1' (And.intro w2' (And.intro DD (And.intro GD MD))))
        clear FD ND GD MD DD w1' w2'
        simp only []
        go_wp2
        (try with_reducible refine And.intro hLd ?_)
        refine drawn_end (ol := []) rfl (by kernel_rfl) ?_
        intro K hK
        go_wp2
        go_roundw
        case rel =>
          obtain ⟨w1', w2', DD, GD, MD⟩ := HR.out
          exact ⟨i + 1, _, fp2, by omega, by omega, by go_num, w1', by omega, DD, GD, MD⟩
        case measure => simp [intOf]; omega
      · by_cases hlt2 : i < l1.length
        · have h40 : 20 ≤ i := by omega
          go_wp2
          go_meet
          case rel => exact ⟨m, fp, H8.out, by omega, HD.out, HF.out, HN.out⟩
        · have h40 : l1.length ≤ i := by omega
          clear hlt
          go_wp2
          go_meet
          case rel => exact ⟨m, fp, H8.out, by omega, HD.out, HF.out, HN.out⟩
  case rest =>
    obtain ⟨m, fp1, h8, hwl, D, FR, N⟩ := hcut
    clear HD2 HG2 HM2
    obtain ⟨e1, e2, e3⟩ := eight_sync h8
    go_wp2_with fail
    refine (sync_any D (by omega)).mono ?_
    rintro e w4 ⟨he, fp4, D4, F4, N4⟩
    rw [e1] at he
    subst he
    generalize (syncM m).2 = m2 at e2 e3 D4
    have G4 := N.fr FR F4
    have M4 := N.trans N4 FR.size
    clear F4 N4 N FR D h8 hwl e1
    go_wp2_with fail
    refine (kept_any D4).mono ?_
    rintro e w5 ⟨v5, bb, rfl, B5, F5, s5⟩
    have D5 := D4.frame F5 (fun _ _ h => by cases h)
    have G5 := M4.fr G4 (F5.mono (fun _ h => by cases h))
    have nb : bb ∉ fp4 := fun h => by have := D4.lt _ h; omega
    have sb : w.heap.size ≤ bb := by have := G4.size; omega
    have hK := D4.ok.kl
    rw [e2.n] at hK
    obtain ⟨K, hKe⟩ : ∃ K, m2.kept = K := ⟨_, rfl⟩
    rw [hKe] at hK B5
    have hB5 := B5
    obtain ⟨c5, cur5, T5, rfl, hb5, hle5, hx5⟩ := B5
    rw [hK] at hle5 hx5 hB5
    have HB5 := Lib.hid hB5
    have HD5 := Lib.hid D5
    have HG5 := Lib.hid G5
    have HM5 := Lib.hid M4
    clear hB5 D5 G5 M4 D4 F5 G4 s5
    go_wp2_with (at_builtin; refine wpList_app rfl (.tmp 44) (.tmp 45) 31 rfl E31 (by omega) (some ⟨w5.heap.size, 0, none⟩) 0 0 [] rfl ?h1 bb 0 512 c5 rfl cur5 T5 (0, 0) ?h2 (K.map (Value.int .u8)) ?h3 ?h4 ?h5 ?h6 ?h7 ?h8)
    case h1 => exact World.ownsRow_made w5 _ _ (Nat.zero_le _) (by unfold maxLen; omega) (by simp)
    case h2 => exact ((Fr.refl [] w5).alloc _).get hb5 (by simp)
    case h3 => rw [Nat.mul_one, Nat.zero_add, hx5, toList_ints]
    case h4 => omega
    case h5 => exact ones_map_int _ _
    case h6 => omega
    case h7 => omega
    case h8 =>
    intro pg capg w6 hR
    have F6 : Fr [] w5 w6 := ((Fr.refl [] w5).alloc _).seq hR.fr (fun k hk hlt => by simp at hk; omega)
    have D6 := HD5.out.frame F6 (fun _ _ h => by cases h)
    have B6 := HB5.out.frame F6 (by simp)
    have G6 := HG5.out.trans F6
    have hO := hR.owns
    have hnew := hR.new
    rcases hO.2 with ⟨he, h0⟩ | ⟨g, cap', cur, he, _, hg, hnc, hcm, hcs, htake⟩
    · omega
    simp only [Value.slice.injEq] at he
    obtain ⟨rfl, _, rfl⟩ := he
    have hgs : w5.heap.size ≤ g := by
      rcases hnew g rfl with h | h
      · simp at h; omega
      · simp at h; omega
    have ng : g ∉ fp4 := fun h => by have := HD5.out.lt _ h; omega
    have nbg : bb ≠ g := fun h => by have := HB5.out.lt; omega
    have sg : w.heap.size ≤ g := by have := HG5.out.size; omega
    obtain ⟨tl, rfl⟩ := split_cur cur K 512 (by simpa using htake)
    have HD6 := Lib.hid D6
    have HB6 := Lib.hid B6
    have HG6 := Lib.hid G6
    have Hg := Lib.hid hg
    have hcap : 512 ≤ capg := by rw [Array.size_append, size_ints] at hcs; omega
    clear D6 B6 G6 hg F6 HD5 HB5 HG5 hR hO hnew hb5 hx5 hle5 hcm hnc htake hcs hgs
    go_upto_block 2 with fail
    go_cut [11, 13] (fun nv _ wc => ∃ (m : DM) (fp : List Nat) (tl : Array Value), Eight m ∧ m.kept = K ∧ m.waits.length ≤ 20 ∧ nv = .int .i64 m.waits.length ∧ DiskAt wc d m fp ∧ Fr [] w wc ∧ News w [] fp ∧ g ∉ fp ∧ bb ∉ fp ∧
      BytesAt wc (.slice (some ⟨bb, 0, none⟩) 512 c5) bb K ∧ wc.blk g = some (.cells (ints .u8 (layW K (m.waits.take keep.toNat)) ++ tl) 5 (0, 0)))
    case first =>
      go_wp2
      go_loopw [11, 13] (fun nv iv wc => ∃ (i : Nat) (m : DM) (fp : List Nat), i ≤ l2.length ∧ i ≤ 20 ∧ iv = .int .i64 i ∧ Eight m ∧ m.kept = K ∧ m.waits.length ≤ i ∧ nv = .int .i64 m.waits.length ∧ DiskAt wc d m fp ∧ Fr [] w wc ∧ News w [] fp ∧ g ∉ fp ∧ bb ∉ fp ∧
        BytesAt wc (.slice (some ⟨bb, 0, none⟩) 512 c5) bb K ∧ wc.blk g = some (.cells (ints .u8 (layW K (m.waits.take keep.toNat)) ++ tl) 5 (0, 0))) (fun _ iv _ => l2.length - (intOf iv).toNat)
      case atStart => exact ⟨0, m2, fp4, Nat.zero_le _, Nat.zero_le _, rfl, e2, hKe, by rw [e3]; exact Nat.zero_le _, by rw [e3]; rfl, HD6.out, HG6.out, HM5.out, ng, nb, HB6.out, by rw [e3, List.take_nil]; exact Hg.out⟩
      case round =>
        obtain ⟨i, m, fp, hi1, hi2, rfl, h8, hmk, hwl, rfl, D, FR, N, nfg, nfb, BB, hgr⟩ := hrel
        clear HD6 HB6 HG6 Hg HM5 ng nb
        have HD := Lib.hid D
        have HF := Lib.hid FR
        have HN := Lib.hid N
        have H8 := Lib.hid h8
        have HBB := Lib.hid BB
        have HG := Lib.hid hgr
        clear D FR N h8 BB hgr
        by_cases hlt : i < l2.length ∧ i < 20
        · obtain ⟨hlt, hlt40⟩ := hlt
          obtain ⟨b, off, cs, T, fr, rfl, hb, hsz, hxa⟩ := HL2.out.2 (by intro h; rw [h] at hlt; exact absurd hlt (by simp))
          have hx := hxa i hlt
          clear hxa
          have hxw := HL2.out.1 l2[i] (List.getElem_mem hlt)
          generalize l2[i] = o at hx hxw
          obtain ⟨ok, oa, of_, os⟩ := o
          obtain ⟨k1, k2, a1, a2, f1, f2, s1, s2⟩ := hxw
          dsimp only at hx k1 k2 a1 a2 f1 f2 s1 s2
          have hbr := HF.out.get hb (by simp)
          have hfit : off + i * 4 + 4 ≤ cs.size := by omega
          clear hb
          go_wp2
          obtain ⟨wa, hwa⟩ : ∃ wa, wa = wr.alloc (.cells #[.int .u8 ok, .int .i64 oa, .int .u8 of_, .int .u8 64] 28) := ⟨_, rfl⟩
          rw [← hwa]
          have D1 : DiskAt wa d m fp := HD.out.frame (gp := []) (by rw [hwa]; exact (Fr.refl _ _).alloc _) (fun _ _ h => by cases h)
          have FA : Fr [] wr wa := by rw [hwa]; exact (Fr.refl _ _).alloc _
          have F1 : Fr [] w wa := HF.out.trans FA
          have B1 := HBB.out.frame FA (by simp)
          have g1 := FA.get HG.out (by simp)
          have hL1 : wa.blk wr.heap.size = some (.cells #[.int .u8 ok, .int .i64 oa, .int .u8 of_, .int .u8 64] 28 (0, 0)) := by rw [hwa]; exact World.at_alloc_new _ _ _ rfl
          have hL : wr.heap.size ∉ fp := fun h => by have := HD.out.lt _ h; omega
          have hLg : wr.heap.size ≠ g := fun h => by have := World.at_lt HG.out; omega
          have hLbb : bb ≠ wr.heap.size := fun h => by have := HBB.out.lt; omega
          have HD1 := Lib.hid D1
          have HF1 := Lib.hid F1
          have HB1 := Lib.hid B1
          have Hg1 := Lib.hid g1
          clear hwa D1 F1 hbr FA B1 g1
          refine drawn_begin 7 (fun w' => w'.blk wr.heap.size = some (.cells #[.int .u8 ok, .int .i64 oa, .int .u8 of_, .int .u8 64] 28 (0, 0))) (by kernel_rfl) ?_
          refine drawn_reads (fuel := 3) [0, 1, 2, 3] rfl (by kernel_rfl) hL1 ?_
          repeat (refine rowK_step rfl (fun K hK => ?_); go_simp; refine hK _ ?_; clear hK K)
          refine rowK_nil ⟨fun w' hw' => ?_, ?_⟩
          · repeat (refine rowWp_step rfl (fun K hK => ?_); go_simp; refine hK _ ?_; clear hK K)
            exact rowWp_nil rfl
          refine drawn_next 4 (fuel := 2) rfl (by kernel_rfl) ?_
          intro K1 hK1
          go_wp2_with fail
          refine (block_any ok oa of_ 64 (by omega) (by omega) f1 f2).mono ?_
          rintro e wb ⟨bv, bx, rfl, B, FB, hbb⟩
          have FB' : Fr [] wa wb := ((Fr.refl _ _).drew).trans FB
          have DB := HD1.out.frame FB' (fun _ _ h => by cases h)
          have hLb := FB'.get hL1 (by simp)
          have GB := HF1.out.trans FB'
          have hbf : bx ∉ fp := fun h => by have := HD1.out.lt _ h; have : wa.drew.heap.size = wa.heap.size := rfl; omega
          have HDB := Lib.hid DB
          have HGB := Lib.hid GB
          have HHB := Lib.hid B
          have HBBb := Lib.hid (HB1.out.frame FB' (by simp))
          have Hgb := Lib.hid (FB'.get Hg1.out (by simp))
          clear FB FB' DB GB B
          have HU : (fun x : World => x.blk wr.heap.size = some (.cells #[.int .u8 ok, .int .i64 oa, .int .u8 of_, .int .u8 64] 28 (0, 0))) wb := hLb
          simp only []
          go_wp2
          (try with_reducible refine And.intro hLb ?_)
          refine drawn_next 5 (fuel := 1) rfl (by kernel_rfl) ?_
          intro K2 hK2
          go_wp2_with fail
          refine (write_any HDB.out oa bv bx (blockB of_ 64) HHB.out hbf (by rw [length_block64]; decide) (by omega)).mono ?_
          rintro e wd ⟨rfl, fp2, DD, FD, ND⟩
          have hLd := FD.get hLb hL
          have GD := HN.out.fr HGB.out FD
          have MD := HN.out.trans ND HGB.out.size
          have BD := HBBb.out.frame FD nfb
          have gD := FD.get Hgb.out nfg
          have nfb2 := ND.notin nfb HBBb.out.lt
          have nfg2 := ND.notin nfg (World.at_lt Hgb.out)
          have hW := eight_write H8.out oa (blockB of_ 64) (length_block64 _)
          obtain ⟨r, hr⟩ : ∃ r, (writeM m oa (blockB of_ 64)).1 = r := ⟨_, rfl⟩
          obtain ⟨m', hm'⟩ : ∃ m', (writeM m oa (blockB of_ 64)).2 = m' := ⟨_, rfl⟩
          rw [hm'] at DD
          have hWW : writeM m oa (blockB of_ 64) = (r, m') := by rw [← hr, ← hm']
          rw [hWW] at hW
          rw [hr]
          simp only [] at hW
          have HR := Lib.hid (And.intro DD (And.intro GD (And.intro MD (And.intro BD gD))))
          have HW := Lib.hid hW
          clear FD ND GD MD DD BD gD hr hm' hWW hW
          simp only []
          go_wp2
          (try with_reducible refine And.intro hLd ?_)
          refine drawn_reads (fuel := 0) [6] rfl (by kernel_rfl) hLd ?_
          repeat (refine rowK_step rfl (fun K hK => ?_); go_simp; refine hK _ ?_; clear hK K)
          refine rowK_nil ⟨fun w' hw' => ?_, ?_⟩
          · repeat (refine rowWp_step rfl (fun K hK => ?_); go_simp; refine hK _ ?_; clear hK K)
            exact rowWp_nil rfl
          refine drawn_end (ol := []) rfl (by kernel_rfl) ?_
          intro K3 hK3
          rcases HW.out with ⟨_, hno, he⟩ | ⟨o0, o8, rfl, e8, ek, ew⟩
          · obtain ⟨rfl, rfl⟩ := Prod.mk.injEq .. ▸ he
            clear HW
            go_wp2
            go_roundw
            case rel =>
              obtain ⟨DD, GD, MD, BD, gD⟩ := HR.out
              exact ⟨i + 1, _, fp2, by omega, by omega, by go_num, H8.out, hmk, by omega, rfl, DD, GD, MD, nfg2, nfb2, BD, gD⟩
            case measure => simp [intOf]; omega
          · clear HW
            obtain ⟨a, rfl⟩ : ∃ a : Nat, oa = a := ⟨oa.toNat, by omega⟩
            have ha8 : a < 8 := by omega
            rw [Int.toNat_natCast] at ew
            have hwl' : m'.waits.length = m.waits.length + 1 := by rw [ew]; simp
            by_cases hkeep : (m.waits.length : Int) < keep
            · obtain ⟨hT1, hT2⟩ := take_more m.waits (a, blockB of_ 64) keep hkeep
              have hX : (layW K (m.waits.take keep.toNat)).length = 512 := by
                rw [hT2]
                have hok := HD.out.ok
                have := length_layW 8 m.waits K hK (fun x hx => by have := hok.ws x hx; rw [H8.out.n] at this; exact this)
                omega
              rw [hT2] at hX
              obtain ⟨X, hXe⟩ : ∃ X, layW K m.waits = X := ⟨_, rfl⟩
              rw [hXe] at hX
              obtain ⟨DD, GD, MD, BD, gD⟩ := HR.out
              rw [hT2, hXe] at gD
              have hXn : layW K (m'.waits.take keep.toNat) = lay X (a * 64) (blockB of_ 64) := by rw [ew, hT1, layW_snoc, hXe]
              have HDD := Lib.hid DD
              have HGD := Lib.hid GD
              have HMD := Lib.hid MD
              have HBD := Lib.hid BD
              have HgD := Lib.hid gD
              clear HR DD GD MD BD gD hT1 hT2 HG ew
              obtain ⟨c, hc⟩ : ∃ c : Nat, a * 64 = c := ⟨_, rfl⟩
              have hwr : IntKind.i64.wrap (64 * (a : Int)) = (c : Int) := by rw [IntKind.wrap_i64]; omega
              have hc1 : c ≤ 448 := by omega
              have hc3 : (c : Int) ≤ 512 := by omega
              have hc4 : 0 ≤ (c : Int) := by omega
              have hc2 : capg ≠ c := by omega
              rw [hc] at hXn
              have Hc := Lib.hid hc
              clear hc
              go_wp2
              refine drawn_begin 8 (fun w' => w'.blk wr.heap.size = some (.cells #[.int .u8 ok, .int .i64 a, .int .u8 of_, .int .u8 64] 28 (0, 0))) (by kernel_rfl) ?_
              refine drawn_reads (fuel := 2) [0, 1, 2, 3, 4, 5] rfl (by kernel_rfl) hLd ?_
              repeat (refine rowK_step rfl (fun K hK => ?_); go_simp; refine hK _ ?_; clear hK K)
              refine rowK_nil ⟨fun w' hw' => ?_, ?_⟩
              · repeat (refine rowWp_step rfl (fun K hK => ?_); go_simp; refine hK _ ?_; clear hK K)
                exact rowWp_nil rfl
              refine drawn_next 6 (fuel := 1) rfl (by kernel_rfl) ?_
              intro K4 hK4
              go_wp2_with fail
              refine (block_any ok a of_ 64 (by omega) (by omega) f1 f2).mono ?_
              rintro e we ⟨bv2, by_, rfl, BE, FE, hbe⟩
              have FE' : Fr [] wd we := ((Fr.refl _ _).drew).trans FE
              have HDE := Lib.hid (HDD.out.frame FE' (fun _ _ h => by cases h))
              have HGE := Lib.hid (HGD.out.trans FE')
              have HBE := Lib.hid (HBD.out.frame FE' (by simp))
              have gE := FE'.get HgD.out (by simp)
              have hLE := FE'.get hLd (by simp)
              have lg := World.at_lt gE
              obtain ⟨cap6, cur6, T6, rfl, hb6, hle6, hx6⟩ := BE
              have hbg : by_ ≠ g := fun h => by have := World.at_lt HgD.out; have : wd.drew.heap.size = wd.heap.size := rfl; omega
              have hgb : g ≠ by_ := fun h => hbg h.symm
              have lb6 := World.at_lt hb6
              rw [length_block64] at hle6 hx6
              have h64 := length_block64 of_
              have HXn := Lib.hid hXn
              clear FE FE' HDD HGD HBD HgD hXn hbe
              rw [h64]
              have hx6' : List.take 64 cur6.toList = (blockB of_ 64).map (Value.int .u8) := by
                have := congrArg Array.toList hx6
                rw [toList_ints] at this
                rw [← this]; simp
              have hfit6 : c + 64 ≤ 512 + tl.size := by omega
              have hfit5 : 64 ≤ 512 - c := by omega
              have hones6 : ones (List.take 64 cur6.toList) = true := by rw [hx6']; exact ones_map_int _ _
              have hspl := spl_in .u8 X tl c (blockB of_ 64) (by omega)
              have hspl' := Lib.hid hspl
              clear h64 hx6 hspl
              go_wp2
              (try with_reducible refine And.intro hLE ?_)
              refine drawn_next 7 (fuel := 0) rfl (by kernel_rfl) ?_
              intro K5 hK5
              go_wp2
              refine ⟨by rw [World.at_put_other _ _ _ _ (fun h => hLg h.symm)]; exact hLE, ?_⟩
              refine drawn_end (ol := []) rfl (by kernel_rfl) ?_
              intro K6 hK6
              go_wp2
              go_roundw
              case rel =>
                refine ⟨i + 1, m', fp2, by omega, by omega, by go_num, e8, ek.trans hmk, by omega, by rw [hwl']; go_num, HDE.out.frame (gp := [g]) ((Fr.refl _ _).put _ _ (by simp)) (fun k hk h => by simp at h; subst h; exact nfg2 hk),
                  HGE.out.put _ _ (fun h => by omega), HMD.out, nfg2, nfb2, HBE.out.frame (gp := [g]) ((Fr.refl _ _).put _ _ (by simp)) (by simpa using nbg), ?_⟩
                rw [World.at_put_same _ _ _ lg, HXn.out, ← hspl'.out]
              case measure => simp [intOf]; omega
            · go_wp2
              go_roundw
              case rel =>
                obtain ⟨DD, GD, MD, BD, gD⟩ := HR.out
                exact ⟨i + 1, m', fp2, by omega, by omega, by go_num, e8, ek.trans hmk, by omega, by rw [hwl']; go_num, DD, GD, MD, nfg2, nfb2, BD, by rw [ew, take_same _ _ _ hkeep]; exact gD⟩
              case measure => simp [intOf]; omega
        · by_cases hlt2 : i < l2.length
          · have h40 : 20 ≤ i := by omega
            go_wp2
            go_meet
            case rel => exact ⟨m, fp, tl, H8.out, hmk, by omega, rfl, HD.out, HF.out, HN.out, nfg, nfb, HBB.out, HG.out⟩
          · have h40 : l2.length ≤ i := by omega
            clear hlt
            go_wp2
            go_meet
            case rel => exact ⟨m, fp, tl, H8.out, hmk, by omega, rfl, HD.out, HF.out, HN.out, nfg, nfb, HBB.out, HG.out⟩
    case rest =>
      obtain ⟨m, fp, tl, h8, hmk, hwl, rfl, D, FR, N, nfg, nfb, BB, hgr⟩ := hcut
      clear HD6 HB6 HG6 Hg HM5 ng nb
      have HN := Lib.hid N
      have Hg := Lib.hid hgr
      have HBB := Lib.hid BB
      have HF := Lib.hid FR
      have HD := Lib.hid D
      have H8 := Lib.hid h8
      clear N hgr FR D h8 BB
      go_wp2_with fail
      refine (kept_any HD.out).mono ?_
      rintro e wa ⟨va, b1, rfl, B1, F1, s1⟩
      have DA := HD.out.frame F1 (fun _ _ h => by cases h)
      have FA := HF.out.trans F1
      have BA := HBB.out.frame F1 (by simp)
      have ga := F1.get Hg.out (by simp)
      rw [hmk] at B1
      have HDA := Lib.hid DA
      have HFA := Lib.hid FA
      have HB1 := Lib.hid B1
      have HBA := Lib.hid BA
      have Hga := Lib.hid ga
      clear DA FA B1 BA ga F1 HD HF HBB Hg s1
      go_wp2_with fail
      refine (bytes_same (.inr ⟨_, HB1.out⟩) (.inr ⟨_, HBA.out⟩)).mono ?_
      rintro e wx ⟨rfl, rfl⟩
      go_wp2_with fail
      refine (waits_any HDA.out).mono ?_
      rintro e wx ⟨rfl, rfl⟩
      go_wp2_with fail
      refine (crash_any HDA.out keep (by omega)).mono ?_
      rintro e wb ⟨rfl, fp7, D7, F7, N7⟩
      have hX : (layW K (m.waits.take keep.toNat)).length = 512 := by
        have hok := HDA.out.ok
        have := length_layW 8 (m.waits.take keep.toNat) K hK (fun x hx => by have := hok.ws x (List.mem_of_mem_take hx); rw [H8.out.n] at this; exact this)
        omega
      have hkk : (crashM m keep).kept = layW K (m.waits.take keep.toNat) := by simp only [crashM, hmk]
      have hww : (crashM m keep).waits.length = 0 := rfl
      generalize crashM m keep = m7 at D7 hkk hww
      generalize layW K (m.waits.take keep.toNat) = X at hX hkk Hga
      have g7 := F7.get Hga.out nfg
      have B7 : BytesAt wb (.slice (some ⟨g, 0, none⟩) 512 capg) g X := by
        refine ⟨capg, _, 5, by rw [hX], g7, by rw [Array.size_append, size_ints]; omega, ?_⟩
        rw [hX, Array.extract_append, size_ints, hX, extract_ints]
        simp [List.take_of_length_le, hX]
      have G7 := HN.out.fr HFA.out F7
      have HD7 := Lib.hid D7
      have HB7 := Lib.hid B7
      have HG7 := Lib.hid G7
      clear D7 F7 N7 g7 B7 G7 HDA HFA HB1 HBA Hga HN
      go_wp2_with fail
      refine (kept_any HD7.out).mono ?_
      rintro e wc ⟨vc, b2, rfl, B8, F8, s8⟩
      have HD8 := Lib.hid (HD7.out.frame F8 (fun _ _ h => by cases h))
      have HB8 := Lib.hid (HB7.out.frame F8 (by simp))
      have HG8 := Lib.hid (HG7.out.trans F8)
      rw [hkk] at B8
      have HB9 := Lib.hid B8
      clear B8 F8 s8 HD7 HB7 HG7
      go_wp2_with fail
      refine (bytes_same (.inr ⟨_, HB9.out⟩) (.inr ⟨_, HB8.out⟩)).mono ?_
      rintro e wx ⟨rfl, rfl⟩
      go_wp2_with fail
      refine (waits_any HD8.out).mono ?_
      rintro e wx ⟨rfl, rfl⟩
      rw [hww]
      go_wp2
      go_ret
      exact ⟨rfl, HG8.out⟩
end
end Go.Proofs.Ytbjoeihcphcohaa
