/- Joined: DkC, DkD, DkF, SoG, SoH, PkE. -/
import Derived.Test.YtombhkekocbfoaaZi
import Derived.Deep.DeepCutAuto
import Derived.Shelf.SlMaps.Clone
set_option linter.unusedVariables false
set_option linter.unusedSimpArgs false
namespace Go.Proofs.Ytombhkekocbfoaa
open Go.RowKit Go.Dr Go.St

theorem layW_snoc (c : List Int) (ws : List (Nat × List Int)) (x : Nat × List Int) : layW c (ws ++ [x]) = lay (layW c ws) (x.1 * 64) x.2 := by simp [layW]

theorem drop_flat {α : Type} (s : Nat) (f : α → List Value) : ∀ (ws : List α) (k : Nat) (hk : k < ws.length), (∀ x ∈ ws, (f x).length = s) →
    ((ws.flatMap f).drop (k * s)).take s = f ws[k]
  | x :: r, 0, _, h => by
    have := h x (List.mem_cons_self ..)
    simp [← this]
  | x :: r, k + 1, hk, h => by
    have hx := h x (List.mem_cons_self ..)
    have ih := drop_flat s f r k (by simpa using hk) (fun y hy => h y (List.mem_cons_of_mem _ hy))
    simp only [List.flatMap_cons, List.getElem_cons_succ]
    rw [show (k + 1) * s = (f x).length + k * s from by rw [hx, Nat.add_mul, Nat.one_mul, Nat.add_comm], ← List.drop_drop, List.drop_left]
    exact ih
theorem extract_flat {α : Type} (s : Nat) (f : α → List Value) (ws : List α) (k : Nat) (hk : k < ws.length) (h : ∀ x ∈ ws, (f x).length = s) (cur : Array Value)
    (hc : cur.toList.take (ws.length * s) = ws.flatMap f) : cur.extract (k * s) (k * s + s) = (f ws[k]).toArray := by
  have h1 := drop_flat s f ws k hk h
  rw [← hc] at h1
  apply Array.ext'
  have hle : k * s + s ≤ ws.length * s := by rw [← Nat.succ_mul]; exact Nat.mul_le_mul_right _ hk
  simp only [Array.toList_extract, List.extract_eq_take_drop]
  rw [← h1, List.drop_take, List.take_take]
  congr 1
  omega

section
variable {w : World} {d : Nat} {m : DM} {fp : List Nat}

theorem sync_dead (D : DiskAt w d m fp) (hl : livesM m = false) :
    Calls Try.prog 20 #[.pointer (some ⟨d, 0, none⟩)] w fun e w' => e = .returned (.int .i64 150) ∧ DiskAt w' d (aliveM m) fp ∧ Fr fp w w' := by
  have hA := alive_any D
  rw [hl] at hA
  have HA := Lib.hid hA
  clear hA hl
  go_enter Try.func20, Try.ntmps20
  go_wp2_with (go_at_call 41; refine HA.out.mono ?_; rintro e w' ⟨rfl, D1, F1⟩)
  go_ret
  exact ⟨rfl, D1, F1⟩

set_option maxHeartbeats 1000000 in
theorem sync_ok (D : DiskAt w d m fp) (hl : livesM m = true) (hwl : m.waits.length ≤ 1000000) :
    Calls Try.prog 20 #[.pointer (some ⟨d, 0, none⟩)] w fun e w' => e = .returned (.int .i64 0) ∧
      ∃ fp', DiskAt w' d { aliveM m with kept := layW m.kept m.waits, waits := [] } fp' ∧ Fr fp w w' ∧ ∀ k ∈ fp', k ∈ fp ∨ w.heap.size ≤ k := by
  have hA := alive_any D
  rw [hl] at hA
  obtain ⟨m1, hm1⟩ : ∃ m1, aliveM m = m1 := ⟨_, rfl⟩
  obtain ⟨s1, s2, s3, s4⟩ := aliveM_same m
  rw [hm1] at hA s1 s2 s3 s4 ⊢
  rw [← s4] at hwl
  have HA := Lib.hid hA
  have H2 := Lib.hid s2
  have H4 := Lib.hid s4
  clear hA hl s1 s2 s3 s4 hm1 D
  go_enter Try.func20, Try.ntmps20
  go_wp2_with fail
  refine HA.out.mono ?_
  rintro e w1 ⟨rfl, ⟨kb, sb, p, cap, ⟨hd, hk, hs, hw, n1, n2, n3, nw⟩, hfp, ok⟩, F1⟩
  have HS := Lib.hid hs
  have HW := Lib.hid hw
  have NW := Lib.hid nw
  have HF := Lib.hid F1
  have Hfp := Lib.hid hfp
  clear hs hw nw F1 hfp
  go_wp2
  go_loopw [13] (fun i wr => ∃ k : Nat, k ≤ m1.waits.length ∧ i = .int .i64 k ∧ Fr [kb] w1 wr ∧ wr.blk kb = some (.cells (ints .u8 (layW m1.kept (m1.waits.take k))) 92 (0, 0))) (fun i _ => m1.waits.length - (intOf i).toNat)
  case atStart => exact ⟨0, Nat.zero_le _, rfl, Fr.refl _ _, by simpa [layW] using hk⟩
  case round =>
    obtain ⟨k, hk', rfl, FR, hkr⟩ := hrel
    have hdr := FR.get hd (by simpa using n1)
    have hdl := World.at_lt hdr
    have hkl := World.at_lt hkr
    by_cases hlt : k < m1.waits.length
    · rcases HW.out.2 with ⟨he, h0⟩ | ⟨g, cap', cur, he, _, hg, hnc, hcm, hcs, htake⟩
      · omega
      simp only [Value.slice.injEq] at he
      obtain ⟨rfl, _, rfl⟩ := he
      have hgk : g ≠ kb := (NW.out g rfl).2.1
      have hgd : g ≠ d := (NW.out g rfl).1
      have hgr := FR.get hg (by simpa using hgk)
      have hgl := World.at_lt hgr
      obtain ⟨hx1, hx2⟩ := ok.ws m1.waits[k] (List.getElem_mem hlt)
      have hcur := extract_flat 65 (fun x : Nat × List Int => Value.int .i64 x.1 :: x.2.map (Value.int .u8)) m1.waits k hlt (fun x hx => by simp [(ok.ws x hx).2]) cur htake
      have hts := List.take_succ_eq_append_getElem hlt
      have hLl := length_layW m1.n (m1.waits.take k) m1.kept ok.kl (fun x hx => ok.ws x (List.mem_of_mem_take hx))
      have hstep := layW_snoc m1.kept (m1.waits.take k) m1.waits[k]
      rw [← hts] at hstep
      generalize m1.waits[k] = x at hcur hx1 hx2 hstep
      obtain ⟨xa, xb⟩ := x
      dsimp only at hcur hx1 hx2 hstep
      have hfit : k * 65 + 65 ≤ cur.size := by rw [hcs]; omega
      have hn2 := ok.n2
      have hfit2 : xa * 64 + 64 ≤ (layW m1.kept (List.take k m1.waits)).length := by omega
      have HST := Lib.hid hstep
      have HLL := Lib.hid hLl
      have HCS := Lib.hid hcs
      have HT := Lib.hid htake
      clear hstep hLl hts hcs htake hg hk hd
      go_wp2
      refine drawn_head 9 (by kernel_rfl) rfl rfl (by kernel_rfl) ?_
      change rowK _ _ _ [0,1,2,3,4,5,6,7,8] _ _
      repeat (refine rowK_step rfl (fun K hK => ?_); go_simp; refine hK _ ?_; clear hK K)
      refine rowK_nil ?_
      intro K hK
      go_wp2
      go_roundw
      case rel =>
        refine ⟨k + 1, by omega, by go_num, ((FR.put _ _ (fun _ => by simp)).alloc _).drew, ?_⟩
        rw [HST.out]
        go_simp
      case measure => simp [intOf]; omega
    · obtain rfl : k = m1.waits.length := by omega
      have hds := FR.get HS.out (by simp; exact fun e => n3 e.symm)
      clear hd hk
      go_wp2
      go_ret
      rw [List.take_length] at hkr
      have hdfp : d ∈ fp := by rw [Hfp.out]; simp [fpOf]
      have hkfp : kb ∈ fp := by rw [Hfp.out]; simp [fpOf]
      refine ⟨rfl, fpOf d kb sb none, ⟨kb, sb, none, 0, ⟨?_, ?_, ?_, World.ownsRow_nil _ _ _ _, n1, n2, n3, fun g h => by cases h⟩, rfl, ?_⟩, ?_, ?_⟩
      · rw [World.at_put_same _ _ _ hdl]; rfl
      · rw [World.at_put_other _ _ _ _ n1, ← H2.out, ← H4.out]; exact hkr
      · rw [World.at_put_other _ _ _ _ n2]; exact hds
      · exact ⟨ok.n1, ok.n2, by rw [← H2.out, ← H4.out]; exact length_layW _ _ _ ok.kl ok.ws, ok.sl, ok.f1, ok.f2, fun x hx => by cases hx⟩
      · exact (HF.out.seq FR (fun j hj _ => by simp at hj; subst hj; exact hkfp)).put _ _ (fun _ => hdfp)
      · intro j hj
        left
        rw [Hfp.out]
        simp only [fpOf, List.mem_cons, Option.map_none, Option.toList_none, List.not_mem_nil, or_false] at hj ⊢
        rcases hj with rfl | rfl | rfl <;> simp

theorem read_arg (D : DiskAt w d m fp) (at_ : Int) (h : noBlock m at_ = true) :
    Calls Try.prog 31 #[.pointer (some ⟨d, 0, none⟩), .int .i64 at_] w fun e w' => e = .returned (.tuple #[.slice none 0 0, .int .i64 1]) ∧ w = w' := by
  obtain ⟨kb, sb, p, cap, ⟨hd, hk, hs, hw, ne1, ne2, ne3, nw⟩, _, ok⟩ := D
  clear hk hs hw nw
  have hn := ok.n2
  by_cases h1 : at_ < 0
  · clear h
    go_enter Try.func31, Try.ntmps31
    go_wp2
    go_ret2
    exact ⟨rfl, rfl⟩
  · have h2 : (m.n : Int) ≤ at_ := by simp [noBlock, h1] at h; omega
    clear h
    go_enter Try.func31, Try.ntmps31
    go_wp2
    go_ret2
    exact ⟨rfl, rfl⟩
theorem read_dead (D : DiskAt w d m fp) (at_ : Int) (h : noBlock m at_ = false) (hdead : m.dead = true) :
    Calls Try.prog 31 #[.pointer (some ⟨d, 0, none⟩), .int .i64 at_] w fun e w' => e = .returned (.tuple #[.slice none 0 0, .int .i64 150]) ∧ w = w' := by
  obtain ⟨kb, sb, p, cap, ⟨hd, hk, hs, hw, ne1, ne2, ne3, nw⟩, _, ok⟩ := D
  clear hk hs hw nw
  have hn := ok.n2
  simp only [noBlock, Bool.or_eq_false_iff, decide_eq_false_iff_not] at h
  obtain ⟨h1, h2⟩ := h
  have h1b : 0 ≤ at_ := by omega
  have h2b : at_ < m.n := by omega
  clear h1 h2
  go_enter Try.func31, Try.ntmps31
  go_wp2
  go_ret2
  exact ⟨rfl, rfl⟩
theorem read_ok (D : DiskAt w d m fp) (at_ : Int) (h : noBlock m at_ = false) (hdead : m.dead = false) :
    Calls Try.prog 31 #[.pointer (some ⟨d, 0, none⟩), .int .i64 at_] w fun e w' => ∃ v bb, e = .returned (.tuple #[v, .int .i64 0]) ∧ BytesAt w' v bb (blockOf m.seen at_.toNat) ∧ Fr [] w w' ∧ w.heap.size ≤ bb := by
  obtain ⟨kb, sb, p, cap, ⟨hd, hk, hs, hw, ne1, ne2, ne3, nw⟩, _, ok⟩ := D
  clear hk hw nw
  have hn := ok.n2
  simp only [noBlock, Bool.or_eq_false_iff, decide_eq_false_iff_not] at h
  obtain ⟨h1, h2⟩ := h
  have h1b : 0 ≤ at_ := by omega
  have h2b : at_ < m.n := by omega
  have hfit : at_.toNat * 64 + 64 ≤ m.seen.length := by have := ok.sl; omega
  have hlen : (blockOf m.seen at_.toNat).length = 64 := by simp [blockOf]; omega
  have HL := Lib.hid hlen
  clear h1 h2 hlen
  go_enter Try.func31, Try.ntmps31
  go_wp2
  go_ret2
  refine ⟨_, w.heap.size, rfl, ⟨0, (0, 0), 64, ints .u8 (blockOf m.seen at_.toNat), 92, ?_, ?_, ?_, ?_, ?_⟩, (Fr.refl _ _).alloc _, Nat.le_refl _⟩
  · rw [HL.out]; rfl
  · rw [World.at_alloc_new _ _ _ rfl]; simp [ints, blockOf, List.map_take, List.map_drop]
  · rw [size_ints, Nat.zero_add]; exact Nat.le_refl _
  · rw [HL.out]; exact Nat.le_refl _
  · rw [extract_ints]; simp

set_option maxHeartbeats 1000000 in
theorem kept_any (D : DiskAt w d m fp) :
    Calls Try.prog 29 #[.pointer (some ⟨d, 0, none⟩)] w fun e w' => ∃ v bb, e = .returned v ∧ BytesAt w' v bb m.kept ∧ Fr [] w w' ∧ w.heap.size ≤ bb := by
  obtain ⟨kb, sb, p, cap, ⟨hd, hk, hs, hw, n1, n2, n3, nw⟩, _, ok⟩ := D
  clear hs hw nw
  have hn := ok.n2
  have hn1 := ok.n1
  have hm0 : (0 : Int) ≤ m.n * 64 := by omega
  have hm1 : (m.n : Int) * 64 ≤ 1099511627776 := by omega
  have hm2 : ((m.n : Int) * 64).toNat = m.n * 64 := by omega
  have hdl := World.at_lt hd
  go_enter Try.func29, Try.ntmps29
  go_wp2
  have hO : OwnsR (w.alloc (.cells (ints .u8 (zs (m.n * 64))) 5)) 5 1 (some ⟨w.heap.size, 0, none⟩) 0 (m.n * 64) [] :=
    World.ownsRow_made w _ _ (Nat.zero_le _) (by unfold maxLen; omega) (by rw [size_ints, length_zs, Nat.mul_one])
  go_loopw [3, 18] (fun v i wr => ∃ (k : Nat) (p : Option Addr) (cap : Nat), k ≤ m.n ∧ i = .int .i64 k ∧ v = .slice p (k * 64) cap ∧ OwnsR wr 5 1 p (k * 64) cap ((m.kept.take (k * 64)).map (Value.int .u8)) ∧ Fr [] w wr ∧
      (∀ g, p.map (·.block) = some g → w.heap.size ≤ g)) (fun _ i _ => m.n - (intOf i).toNat)
  case atStart => exact ⟨0, some ⟨w.heap.size, 0, none⟩, m.n * 64, Nat.zero_le _, rfl, by simp, by simpa using hO, (Fr.refl _ _).alloc _, fun g hg => by cases hg; exact Nat.le_refl _⟩
  case round =>
    obtain ⟨k, p, cap, hk', rfl, rfl, HO, FR, hpb⟩ := hrel
    have hkr := FR.get hk (by simp)
    have hkl := World.at_lt hkr
    by_cases hlt : k < m.n
    · have hfit : k * 64 + 64 ≤ m.kept.length := by have := ok.kl; omega
      have HO' := Lib.hid HO
      have Hpb := Lib.hid hpb
      clear HO hpb hd hk
      have hbl : (List.drop (k * 64) (List.take (k * 64 + 64) m.kept)).length = 64 := by simp; omega
      have HBL := Lib.hid hbl
      clear hbl
      go_wp2_with (at_builtin; refine wpList_app rfl (.tmp 22) (.tmp 23) 22 rfl E31 (by omega) p (k * 64) cap ((m.kept.take (k * 64)).map (Value.int .u8)) rfl ?h1 wr.heap.size 0 64 64 rfl (ints .u8 (List.drop (k * 64) (List.take (k * 64 + 64) m.kept))) 92 (0, 0) ?h2 ((List.drop (k * 64) (List.take (k * 64 + 64) m.kept)).map (Value.int .u8)) ?h3 ?h4 ?h5 ?h6 ?h7 ?h8)
      case h1 => exact ((Fr.refl [] wr).alloc _).owns HO'.out (fun _ _ => by simp)
      case h2 => rw [World.at_alloc_new _ _ _ rfl]; simp [ints, List.map_take, List.map_drop]
      case h3 => rw [extract_ints, toList_ints, List.take_of_length_le (by rw [HBL.out]; omega), List.drop_zero]
      case h4 => rw [size_ints, HBL.out]; omega
      case h5 => exact ones_map_int _ _
      case h6 => omega
      case h7 => omega
      case h8 =>
        intro p2 cap2 w2 hR
        have HR := Lib.hid hR
        clear hR
        go_wp2
        go_roundw
        case rel =>
          refine ⟨k + 1, p2, cap2, by omega, by go_num, by rw [Nat.add_mul, Nat.one_mul], ?_, (FR.alloc _).seq HR.out.fr (fun b hb hlt' => by have := Hpb.out b (by simpa using hb); omega), ?_⟩
          · have := HR.out.owns
            rw [Nat.add_mul, Nat.one_mul]
            have e : List.take (k * 64) m.kept ++ List.drop (k * 64) (List.take (k * 64 + 64) m.kept) = List.take (k * 64 + 64) m.kept := by
              have := List.take_append_drop (k * 64) (List.take (k * 64 + 64) m.kept)
              rwa [List.take_take, Nat.min_eq_left (by omega)] at this
            rw [← e]
            simpa [List.map_take, List.map_drop] using this
          · intro g hg
            rcases HR.out.new g hg with h | h
            · exact Hpb.out g h
            · have := FR.size; simp at h; omega
        case measure => simp [intOf]; omega
    · obtain rfl : k = m.n := by omega
      go_wp2
      go_ret
      rcases HO.2 with ⟨he, h0⟩ | ⟨g, cap', cur, he, _, hg, hnc, hcm, hcs, htake⟩
      · omega
      simp only [Value.slice.injEq] at he
      obtain ⟨rfl, _, rfl⟩ := he
      have hkl' := ok.kl
      rw [List.take_of_length_le (l := m.kept) (by omega), Nat.mul_one] at htake
      rw [Nat.mul_one] at hcs
      refine ⟨_, g, rfl, ⟨0, (0, 0), cap, cur, 5, ?_, hg, by omega, by omega, ?_⟩, FR, hpb g rfl⟩
      · rw [hkl', Nat.mul_comm]; rfl
      · apply Array.ext'
        rw [toList_ints, ← htake, hkl', Nat.mul_comm]
        simp only [Array.toList_extract, List.extract_eq_take_drop, List.drop_zero, Nat.sub_zero, Nat.zero_add]
end
end Go.Proofs.Ytombhkekocbfoaa
namespace Go.Proofs.Ytombhkekocbfoaa
open Go.RowKit Go.Dr Go.St

section
variable {w : World} {d : Nat} {m : DM} {fp : List Nat}
theorem DiskIn.frame {w' : World} {d kb sb : Nat} {p : Option Addr} {cap : Nat} {m : DM} (D : DiskIn w d kb sb p cap m) {gp : List Nat} (F : Fr gp w w') (h : ∀ k ∈ fpOf d kb sb p, k ∉ gp) : DiskIn w' d kb sb p cap m where
  hd := F.get D.hd (h d (by simp [fpOf]))
  hk := F.get D.hk (h kb (by simp [fpOf]))
  hs := F.get D.hs (h sb (by simp [fpOf]))
  hw := F.owns D.hw (fun g hg => h g (by simp only [fpOf, List.mem_cons, Option.mem_toList]; exact .inr (.inr (.inr (by cases p <;> first | exact hg | cases hg)))))
  ne1 := D.ne1
  ne2 := D.ne2
  ne3 := D.ne3
  nw := D.nw
theorem DiskAt.frame {w' : World} {m : DM} (D : DiskAt w d m fp) {gp : List Nat} (F : Fr gp w w') (h : ∀ k ∈ fp, k ∉ gp) : DiskAt w' d m fp := by
  obtain ⟨kb, sb, p, cap, D, rfl, ok⟩ := D
  exact ⟨kb, sb, p, cap, D.frame F h, rfl, ok⟩

theorem crash_end {wr W : World} {kb sb : Nat} {p : Option Addr} {kk : List Int} (keep : Int) (ok : m.Ok) (hfp : fp = fpOf d kb sb p) (n1 : d ≠ kb) (n2 : d ≠ sb) (n3 : kb ≠ sb) (FR : Fr [kb] w wr)
    (hdl : d < wr.heap.size) (hkl : kb < wr.heap.size) (hsl : sb < wr.heap.size)
    (hkr : wr.blk kb = some (.cells (ints .u8 kk) 92 (0, 0))) (hmin : kk = layW m.kept (m.waits.take keep.toNat))
    (FW : Fr [] ((wr.put sb (.cells (ints .u8 (lay m.seen 0 kk)) 92 (0, 0))).put d
      (.cells #[.slice (some ⟨kb, 0, none⟩) m.n m.n, .slice (some ⟨sb, 0, none⟩) m.n m.n, .slice none 0 0, .int .i64 (-1), .bool false] 86 (0, 0))) W) :
    ∃ fp', DiskAt W d (crashM m keep) fp' ∧ Fr fp w W ∧ ∀ k ∈ fp', k ∈ fp ∨ w.heap.size ≤ k := by
  have hLl := length_layW m.n (m.waits.take keep.toNat) m.kept ok.kl (fun x hx => ok.ws x (List.mem_of_mem_take hx))
  rw [← hmin] at hLl
  have hlay : lay m.seen 0 kk = kk := by
    have := ok.sl
    simp only [lay, List.take_zero, List.nil_append, Nat.zero_add]
    rw [List.drop_of_length_le (by omega), List.append_nil]
  rw [hlay] at FW
  have hdfp : d ∈ fp := by rw [hfp]; simp [fpOf]
  have hkfp : kb ∈ fp := by rw [hfp]; simp [fpOf]
  have hsfp : sb ∈ fp := by rw [hfp]; simp [fpOf]
  refine ⟨fpOf d kb sb none, ⟨kb, sb, none, 0, DiskIn.frame (gp := []) ⟨?_, ?_, ?_, World.ownsRow_nil _ _ _ _, n1, n2, n3, fun g h => by cases h⟩ FW (fun _ _ h => by cases h), rfl, ?_⟩, ?_, ?_⟩
  · rw [World.at_put_same _ _ _ (by simpa using hdl)]; rfl
  · rw [World.at_put_other _ _ _ _ n1, World.at_put_other _ _ _ _ (fun e => n3 e.symm), hkr]; simp only [crashM, hmin]
  · rw [World.at_put_other _ _ _ _ n2, World.at_put_same _ _ _ hsl]; simp only [crashM, hmin]
  · exact ⟨ok.n1, ok.n2, by simp only [crashM]; rw [← hmin]; exact hLl, by simp only [crashM]; rw [← hmin]; exact hLl, by simp [crashM], by simp [crashM], fun x hx => by cases hx⟩
  · exact (((FR.mono (fun j hj _ => by simp at hj; subst hj; exact hkfp)).put _ _ (fun _ => hsfp)).put _ _ (fun _ => hdfp)).seq FW (fun _ h => by cases h)
  · intro j hj
    left
    rw [hfp]
    simp only [fpOf, List.mem_cons, Option.map_none, Option.toList_none, List.not_mem_nil, or_false] at hj ⊢
    rcases hj with rfl | rfl | rfl <;> simp

set_option maxHeartbeats 1000000 in
theorem crash_any (D : DiskAt w d m fp) (keep : Int) (hwl : m.waits.length ≤ 1000000) :
    Calls Try.prog 27 #[.pointer (some ⟨d, 0, none⟩), .int .i64 keep] w fun e w' => e = .returned (.tuple #[]) ∧
      ∃ fp', DiskAt w' d (crashM m keep) fp' ∧ Fr fp w w' ∧ ∀ k ∈ fp', k ∈ fp ∨ w.heap.size ≤ k := by
  obtain ⟨kb, sb, p, cap, ⟨hd, hk, hs, hw, n1, n2, n3, nw⟩, hfp, ok⟩ := D
  have HS := Lib.hid hs
  have HW := Lib.hid hw
  have NW := Lib.hid nw
  have Hfp := Lib.hid hfp
  clear hs hw nw hfp
  go_enter Try.func27, Try.ntmps27
  go_wp2
  go_loopw [11] (fun i wr => ∃ k : Nat, k ≤ m.waits.length ∧ k ≤ keep.toNat ∧ i = .int .i64 k ∧ Fr [kb] w wr ∧ wr.blk kb = some (.cells (ints .u8 (layW m.kept (m.waits.take k))) 92 (0, 0))) (fun i _ => m.waits.length - (intOf i).toNat)
  case atStart => exact ⟨0, Nat.zero_le _, Nat.zero_le _, rfl, Fr.refl _ _, by simpa [layW] using hk⟩
  case round =>
    obtain ⟨k, hk', hkk, rfl, FR, hkr⟩ := hrel
    have hdr := FR.get hd (by simpa using n1)
    have hdl := World.at_lt hdr
    have hkl := World.at_lt hkr
    by_cases hlt : k < m.waits.length ∧ (k : Int) < keep
    · obtain ⟨hlt, hke⟩ := hlt
      rcases HW.out.2 with ⟨he, h0⟩ | ⟨g, cap', cur, he, _, hg, hnc, hcm, hcs, htake⟩
      · omega
      simp only [Value.slice.injEq] at he
      obtain ⟨rfl, _, rfl⟩ := he
      have hgk : g ≠ kb := (NW.out g rfl).2.1
      have hgd : g ≠ d := (NW.out g rfl).1
      have hgr := FR.get hg (by simpa using hgk)
      have hgl := World.at_lt hgr
      obtain ⟨hx1, hx2⟩ := ok.ws m.waits[k] (List.getElem_mem hlt)
      have hcur := extract_flat 65 (fun x : Nat × List Int => Value.int .i64 x.1 :: x.2.map (Value.int .u8)) m.waits k hlt (fun x hx => by simp [(ok.ws x hx).2]) cur htake
      have hts := List.take_succ_eq_append_getElem hlt
      have hLl := length_layW m.n (m.waits.take k) m.kept ok.kl (fun x hx => ok.ws x (List.mem_of_mem_take hx))
      have hstep := layW_snoc m.kept (m.waits.take k) m.waits[k]
      rw [← hts] at hstep
      generalize m.waits[k] = x at hcur hx1 hx2 hstep
      obtain ⟨xa, xb⟩ := x
      dsimp only at hcur hx1 hx2 hstep
      have hfit : k * 65 + 65 ≤ cur.size := by rw [hcs]; omega
      have hn2 := ok.n2
      have hfit2 : xa * 64 + 64 ≤ (layW m.kept (List.take k m.waits)).length := by omega
      have HST := Lib.hid hstep
      have HLL := Lib.hid hLl
      have HCS := Lib.hid hcs
      have HT := Lib.hid htake
      clear hstep hLl hts hcs htake hg hk hd
      go_wp2
      refine drawn_head 9 (by kernel_rfl) rfl rfl (by kernel_rfl) ?_
      change rowK _ _ _ [0,1,2,3,4,5,6,7,8] _ _
      repeat (refine rowK_step rfl (fun K hK => ?_); go_simp; refine hK _ ?_; clear hK K)
      refine rowK_nil ?_
      intro K hK
      go_wp2
      go_roundw
      case rel =>
        refine ⟨k + 1, by omega, by omega, by go_num, ((FR.put _ _ (fun _ => by simp)).alloc _).drew, ?_⟩
        rw [HST.out]
        go_simp
      case measure => simp [intOf]; omega
    · have hds := FR.get HS.out (by simp; exact fun e => n3 e.symm)
      have hsl := World.at_lt hds
      have n1' : kb ≠ d := fun e => n1 e.symm
      have n2' : sb ≠ d := fun e => n2 e.symm
      have n3' : sb ≠ kb := fun e => n3 e.symm
      have hmin : m.waits.take k = m.waits.take keep.toNat := by
        by_cases h : k < m.waits.length
        · rw [show k = keep.toNat from by omega]
        · rw [List.take_of_length_le (by omega), List.take_of_length_le (by omega)]
      have hLl := length_layW m.n (m.waits.take k) m.kept ok.kl (fun x hx => ok.ws x (List.mem_of_mem_take hx))
      have hsl2 := ok.sl
      have hfit1 : m.n * 64 ≤ (layW m.kept (m.waits.take k)).length := by omega
      have hfit3 : (layW m.kept (m.waits.take k)).length ≤ m.n * 64 := by omega
      have hfit2 : m.n * 64 ≤ m.seen.length := by omega
      obtain ⟨kk, hkk2⟩ : ∃ kk, kk = layW m.kept (m.waits.take k) := ⟨_, rfl⟩
      rw [← hkk2] at hkr hfit1 hfit3 hLl
      rw [hmin] at hkk2
      have HMIN := Lib.hid hkk2
      have HLL := Lib.hid hLl
      have HSL := Lib.hid hsl2
      clear hd hk hmin hLl hsl2 hkk2
      have HH := Lib.hid hlt
      clear hlt
      by_cases hlt : k < m.waits.length
      · have hke : keep ≤ k := by have := HH.out; omega
        rcases HW.out.2 with ⟨he, h0⟩ | ⟨g, cap', cur, he, _, hg, hnc, hcm, hcs, htake⟩
        · omega
        simp only [Value.slice.injEq] at he
        obtain ⟨rfl, _, rfl⟩ := he
        have hgk : g ≠ kb := (NW.out g rfl).2.1
        have hgd : g ≠ d := (NW.out g rfl).1
        have hgr := FR.get hg (by simpa using hgk)
        have hgl := World.at_lt hgr
        have hfit : k * 65 + 65 ≤ cur.size := by rw [hcs]; omega
        have hcur := extract_flat 65 (fun x : Nat × List Int => Value.int .i64 x.1 :: x.2.map (Value.int .u8)) m.waits k hlt (fun x hx => by simp [(ok.ws x hx).2]) cur htake
        obtain ⟨hx1, hx2⟩ := ok.ws m.waits[k] (List.getElem_mem hlt)
        generalize m.waits[k] = x at hcur hx1 hx2
        obtain ⟨xa, xb⟩ := x
        dsimp only at hcur hx1 hx2
        have HT := Lib.hid htake
        clear htake hcs hg
        go_wp2
        refine drawn_head 8 (by kernel_rfl) rfl rfl (by kernel_rfl) ?_
        change rowK _ _ _ [0,1,2,3,4,5,6,7] _ _
        repeat (refine rowK_step rfl (fun K hK => ?_); go_simp; refine hK _ ?_; clear hK K)
        refine rowK_nil ?_
        intro K hK
        go_wp2
        go_end0
        exact ⟨rfl, crash_end keep ok Hfp.out n1 n2 n3 FR hdl hkl hsl hkr HMIN.out (((Fr.refl _ _).alloc _).drew)⟩
      · have hge : m.waits.length ≤ k := by omega
        go_wp2
        refine drawn_head 8 (by kernel_rfl) rfl rfl (by kernel_rfl) ?_
        change rowK _ _ _ [0,1,2,3,4,5,6,7] _ _
        repeat (refine rowK_step rfl (fun K hK => ?_); go_simp; refine hK _ ?_; clear hK K)
        refine rowK_nil ?_
        intro K hK
        go_wp2
        go_end0
        exact ⟨rfl, crash_end keep ok Hfp.out n1 n2 n3 FR hdl hkl hsl hkr HMIN.out ((Fr.refl _ _).drew)⟩
end
end Go.Proofs.Ytombhkekocbfoaa
namespace Go.Proofs.Ytombhkekocbfoaa
open Go.RowKit Go.Dr Go.St

theorem calls_at {P : Program} {f : FuncId} {args : Array Value} {w : World} {R : Ending → World → Prop} (h : ∀ x, x = w → Calls P f args x R) : Calls P f args w R := h w rfl

/-- All that the list names is named by the other, or is new. -/
def News (w : World) (fp fp' : List Nat) : Prop := ∀ k ∈ fp', k ∈ fp ∨ w.heap.size ≤ k

section
variable {w : World} {d : Nat} {m : DM} {fp : List Nat}
theorem new_m (b : Int) (w : World) : Calls Try.prog 10 #[.int .i64 b] w fun e w' => ∃ d fp, e = .returned (.pointer (some ⟨d, 0, none⟩)) ∧ DiskAt w' d (newM b) fp ∧ Fr [] w w' ∧ News w [] fp :=
  (new_any b w).mono fun e w' ⟨d, fp, h1, h2, h3, h4⟩ => ⟨d, fp, h1, h2, h3, fun k hk => .inr (h4 k hk)⟩
theorem write_any (D : DiskAt w d m fp) (at_ : Int) (bv : Value) (bb : Nat) (b : List Int) (B : BytesAt w bv bb b) (hbf : bb ∉ fp) (hb : b.length ≤ 1099511627776) (hwl : m.waits.length ≤ 1000000) :
    Calls Try.prog 17 #[.pointer (some ⟨d, 0, none⟩), .int .i64 at_, bv] w fun e w' => e = .returned (.int .i64 (writeM m at_ b).1) ∧ ∃ fp', DiskAt w' d (writeM m at_ b).2 fp' ∧ Fr fp w w' ∧ News w fp fp' := by
  cases h : argM m at_ b with
  | true =>
    refine (write_arg D at_ bv bb b B hb h).mono ?_
    rintro e w' ⟨rfl, rfl⟩
    simp only [writeM, h, ↓reduceIte]
    exact ⟨trivial, fp, D, Fr.refl _ _, fun k hk => .inl hk⟩
  | false =>
    cases hl : livesM m with
    | false =>
      refine (write_dead D at_ bv bb b B h hl).mono ?_
      rintro e w' ⟨rfl, D', F⟩
      simp only [writeM, h, hl, Bool.false_eq_true, ↓reduceIte]
      exact ⟨trivial, fp, D', F, fun k hk => .inl hk⟩
    | true =>
      refine (write_ok D at_ bv bb b B hbf hwl h hl).mono ?_
      rintro e w' ⟨rfl, fp', D', F, N⟩
      simp only [writeM, h, hl, Bool.false_eq_true, ↓reduceIte]
      exact ⟨trivial, fp', D', F, N⟩
theorem sync_any (D : DiskAt w d m fp) (hwl : m.waits.length ≤ 1000000) :
    Calls Try.prog 20 #[.pointer (some ⟨d, 0, none⟩)] w fun e w' => e = .returned (.int .i64 (syncM m).1) ∧ ∃ fp', DiskAt w' d (syncM m).2 fp' ∧ Fr fp w w' ∧ News w fp fp' := by
  cases hl : livesM m with
  | false =>
    refine (sync_dead D hl).mono ?_
    rintro e w' ⟨rfl, D', F⟩
    simp only [syncM, hl, Bool.false_eq_true, ↓reduceIte]
    exact ⟨trivial, fp, D', F, fun k hk => .inl hk⟩
  | true =>
    refine (sync_ok D hl hwl).mono ?_
    rintro e w' ⟨rfl, fp', D', F, N⟩
    simp only [syncM, hl, ↓reduceIte]
    exact ⟨trivial, fp', D', F, N⟩
theorem read_any (D : DiskAt w d m fp) (at_ : Int) :
    Calls Try.prog 31 #[.pointer (some ⟨d, 0, none⟩), .int .i64 at_] w fun e w' => ∃ v, e = .returned (.tuple #[v, .int .i64 (readM m at_).1]) ∧
      ((v = .slice none 0 0 ∧ (readM m at_).2 = []) ∨ ∃ bb, BytesAt w' v bb (readM m at_).2 ∧ w.heap.size ≤ bb) ∧ Fr [] w w' := by
  cases h : noBlock m at_ with
  | true =>
    refine (read_arg D at_ h).mono ?_
    rintro e w' ⟨rfl, rfl⟩
    simp only [readM, h, ↓reduceIte]
    exact ⟨_, rfl, .inl ⟨rfl, trivial⟩, Fr.refl _ _⟩
  | false =>
    cases hd : m.dead with
    | true =>
      refine (read_dead D at_ h hd).mono ?_
      rintro e w' ⟨rfl, rfl⟩
      simp only [readM, h, hd, Bool.false_eq_true, ↓reduceIte]
      exact ⟨_, rfl, .inl ⟨rfl, trivial⟩, Fr.refl _ _⟩
    | false =>
      refine (read_ok D at_ h hd).mono ?_
      rintro e w' ⟨v, bb, rfl, B, F, hbb⟩
      simp only [readM, h, hd, Bool.false_eq_true, ↓reduceIte]
      exact ⟨v, rfl, .inr ⟨bb, B, hbb⟩, F⟩
end

theorem BytesAt.frame {w w' : World} {v : Value} {bb : Nat} {l : List Int} (B : BytesAt w v bb l) {gp : List Nat} (F : Fr gp w w') (h : bb ∉ gp) : BytesAt w' v bb l := by
  obtain ⟨off, fr, cap, cur, T, h1, h2, h3, h4⟩ := B
  exact ⟨off, fr, cap, cur, T, h1, F.get h2 h, h3, h4⟩
theorem BytesAt.lt {w : World} {v : Value} {bb : Nat} {l : List Int} (B : BytesAt w v bb l) : bb < w.heap.size := by
  obtain ⟨off, fr, cap, cur, T, h1, h2, h3, h4⟩ := B
  exact World.at_lt h2
theorem DiskAt.lt {w : World} {d : Nat} {m : DM} {fp : List Nat} (D : DiskAt w d m fp) : ∀ k ∈ fp, k < w.heap.size := by
  obtain ⟨kb, sb, p, cap, D, rfl, ok⟩ := D
  intro k hk
  simp only [fpOf, List.mem_cons, Option.mem_toList] at hk
  rcases hk with rfl | rfl | rfl | hk
  · exact World.at_lt D.hd
  · exact World.at_lt D.hk
  · exact World.at_lt D.hs
  · exact (D.hw.lt k (by cases p <;> first | exact hk | cases hk)).2
theorem News.notin {w : World} {fp fp' : List Nat} (N : News w fp fp') {b : Nat} (hb : b ∉ fp) (hlt : b < w.heap.size) : b ∉ fp' := fun h => by
  rcases N b h with h | h
  · exact hb h
  · omega
theorem News.trans {w w1 : World} {fp fp' : List Nat} (N : News w [] fp) (N' : News w1 fp fp') (h : w.heap.size ≤ w1.heap.size) : News w [] fp' := fun k hk => by
  rcases N' k hk with h' | h'
  · exact N k h'
  · right; omega
/-- What turned is all new. -/
theorem News.fr {w w1 w2 : World} {fp : List Nat} (N : News w [] fp) (F : Fr [] w w1) (F' : Fr fp w1 w2) : Fr [] w w2 := F.seq F' (fun k hk hlt => by
  rcases N k hk with h | h
  · cases h
  · omega)
/-- A slice of bytes in a row that is known whole. -/
theorem BytesAt.whole {w : World} {bb n : Nat} {l : List Int} {T : TypeId} (h : w.blk bb = some (.cells (ints .u8 l) T (0, 0))) (hn : l.length = n) (cap : Nat) (hcap : n ≤ cap) : BytesAt w (.slice (some ⟨bb, 0, none⟩) n cap) bb l := by
  subst hn
  refine ⟨0, _, cap, _, T, rfl, h, by rw [size_ints, Nat.zero_add]; exact Nat.le_refl _, hcap, ?_⟩
  rw [extract_ints, List.drop_zero, Nat.zero_add, List.take_length]

/-! ### The document's example -/
end Go.Proofs.Ytombhkekocbfoaa
namespace Go.Proofs.Ytombhkekocbfoaa
open Go.RowKit Go.Dr Go.Kd Go.St
section
variable {w w' : World}
theorem sl_zero {W : World} {q : Option Addr} {d : Nat} {v : Bs} (S : Sl .u8 w q 0 d v) : Sl .u8 W q 0 d v := ⟨S.len, S.cap_, .inl rfl, S.nil, S.mid⟩
/-- A slice of bytes lies in no map's block. -/
theorem sl_put {b : Nat} {es : Array MapEntry} {ck : Nat} {o : Obj} {q : Option Addr} {m d : Nat} {v : Bs} (S : Sl .u8 w q m d v) (hb : w.blk b = some (.map es ck)) : Sl .u8 (w.put b o) q m d v := by
  rcases Nat.eq_zero_or_pos m with h0 | h0
  · subst h0; exact sl_zero S
  · obtain ⟨bb, off, cs, T, fr, rfl, fc, hs, hx⟩ := S.out h0
    have hne : bb ≠ b := fun e => by subst e; rw [hb] at fc; cases fc
    exact Sl.of ((World.at_put_other _ _ _ _ hne.symm).trans fc) hs hx S.cap_
theorem sl_fr {fp : List Nat} {q : Option Addr} {m d : Nat} {v : Bs} (S : Sl .u8 w q m d v) (F : Fr fp w w') (hn : ∀ b, q.map (·.block) = some b → b ∉ fp) : Sl .u8 w' q m d v := by
  rcases Nat.eq_zero_or_pos m with h0 | h0
  · subst h0; exact sl_zero S
  · obtain ⟨bb, off, cs, T, fr, rfl, fc, hs, hx⟩ := S.out h0
    exact Sl.of (F.get fc (hn bb rfl)) hs hx S.cap_
/-- A map that holds these names and values, away from the blocks of fp. -/
def MapAt (w : World) (b : Nat) (L : List (Bs × Bs)) (fp : List Nat) : Prop := b ∉ fp ∧ ∃ kvs g, MapT w b kvs ∧ RepL kvs L g ∧ ∀ x ∈ L, ∃ q m d, g x.1 = .slice q m d ∧ Sl .u8 w q m d x.2 ∧ ∀ k, q.map (·.block) = some k → 0 < m → k ∉ fp
theorem MapAt.fr {b : Nat} {L : List (Bs × Bs)} {fp fp' : List Nat} (h : MapAt w b L fp) (F : Fr fp w w') (N : News w fp fp') : MapAt w' b L fp' := by
  obtain ⟨hb, kvs, g, hm, hr, hv⟩ := h
  refine ⟨fun hk => ?_, kvs, g, hm.fr F hb, hr, fun x hx => ?_⟩
  · rcases N b hk with h1 | h1
    · exact hb h1
    · have := hm.lt; omega
  · obtain ⟨q, m, d, h1, h2, h3⟩ := hv x hx
    rcases Nat.eq_zero_or_pos m with h0 | h0
    · subst h0
      exact ⟨q, 0, d, h1, sl_zero h2, fun k _ h => absurd h (Nat.lt_irrefl 0)⟩
    · refine ⟨q, m, d, h1, sl_fr h2 F (fun k hk => h3 k hk h0), fun k hk _ hmem => ?_⟩
      obtain ⟨bb, off, cs, T, fr, rfl, fc, hs, hx⟩ := h2.out h0
      simp only [Option.map_some, Option.some.injEq] at hk
      rcases N k hmem with h5 | h5
      · exact h3 k (by simp [hk]) h0 h5
      · have := World.at_lt fc; omega
theorem MapAt.fr0 {b : Nat} {L : List (Bs × Bs)} {fp : List Nat} (h : MapAt w b L fp) (F : Fr [] w w') : MapAt w' b L fp := by
  obtain ⟨hb, kvs, g, hm, hr, hv⟩ := h
  refine ⟨hb, kvs, g, hm.fr F (by simp), hr, fun x hx => ?_⟩
  obtain ⟨q, m, d, h1, h2, h3⟩ := hv x hx
  exact ⟨q, m, d, h1, h2.fr0 F, h3⟩
set_option maxRecDepth 100000 in
set_option maxHeartbeats 2000000 in
/-- slices.Clone of bytes. -/
theorem clone_f {p : Option Addr} {n cap : Nat} {l : Bs} (S : Sl .u8 w p n cap l) (hn : n ≤ 100000) :
    Calls Try.prog 40 #[.slice p n cap] w fun e w' => ∃ q c, e = .returned (.slice q n c) ∧ Bld w [] .u8 5 w' q n c l := by
  cases p with
  | some a => exact byclone_f S hn
  | none =>
    have hc := S.nil rfl
    have hn0 : n = 0 := by have := S.cap_; omega
    have hl : l = [] := List.eq_nil_of_length_eq_zero (by rw [S.len]; exact hn0)
    subst hc hn0 hl
    have HB := Lib.hid (Bld.nil (k := .u8) (e := 5) (OwB.start w))
    have hq : (binOp .eql 22 (.slice none 0 0) (.slice none 0 0)).run Try.prog w = .ok (.bool true) w := by
      kernel_rfl
    clear S hn
    go_enter Try.func40, Try.ntmps40
    go_wp2_with fail
    exact bodyPost_ret (results_tmp rfl _ _ _) rfl ⟨none, 0, rfl, HB.out⟩
set_option maxRecDepth 100000 in
set_option maxHeartbeats 2000000 in
/-- maps.Clone. -/
theorem mclone_f {b : Nat} {es : Array MapEntry} {ck : Nat} (hb : w.blk b = some (.map es ck)) :
    Calls Try.prog 57 #[.map (some b)] w fun e w' => e = .returned (.map (some w.heap.size)) ∧ w' = w.alloc (.map es ck) := by
  have hq := fun w => run_eql_map_nil_sl (P := Try.prog) w 70 _ _ (some b) Try.underlying70
  go_enter Try.func57, Try.ntmps57
  go_wp2
  rw [run_callFunc_extern Try.func69 (by kernel_rfl) (by kernel_rfl) (by kernel_rfl) (e := Extern.MapsClone.clone) (by kernel_rfl), run_maps_clone_sl w 70 hb]
  simp only [Result.andThen]
  rw [Oper.upon_value]
  go_wp2
  rw [run_typeAssert_map_sl _ 70 20 _ _ _ Try.underlying70]
  simp only [Result.andThen]
  rw [Oper.upon_value]
  go_wp2
  go_ret
  exact ⟨rfl, rfl⟩
/-- A map's clone. -/
theorem MapAt.clone {b : Nat} {L : List (Bs × Bs)} {fp : List Nat} (h : MapAt w b L fp) (hfp : ∀ k ∈ fp, k < w.heap.size) : ∃ es ck, w.blk b = some (.map es ck) ∧ MapAt (w.alloc (.map es ck)) w.heap.size L fp := by
  obtain ⟨hb, kvs, g, hm, hr, hv⟩ := h
  obtain ⟨es, ck, h1, h2⟩ := hm.ex
  refine ⟨es, ck, h1, fun hk => absurd (hfp _ hk) (Nat.lt_irrefl _), kvs, g, ⟨es, ck, World.at_alloc_new _ _ _ rfl, h2⟩, hr, fun x hx => ?_⟩
  obtain ⟨q, m, d, h3, h4, h5⟩ := hv x hx
  exact ⟨q, m, d, h3, h4.fr0 ((Fr.refl [] w).alloc _), h5⟩
theorem putL_mem {n v : Bs} : ∀ {L : List (Bs × Bs)} {x : Bs × Bs}, Sorted L → x ∈ putL n v L → x = (n, v) ∨ x.1 ≠ n ∧ x ∈ L := by
  intro L x hs hx
  have h := (putL_perm (n := n) (v := v) hs).mem_iff.1 hx
  rcases List.mem_cons.1 h with h | h
  · exact .inl h
  · obtain ⟨h1, h2⟩ := List.mem_filter.1 h
    exact .inr ⟨by simpa using h2, h1⟩
/-- A name is set. -/
theorem MapAt.set1 {b : Nat} {L : List (Bs × Bs)} {fp : List Nat} (h : MapAt w b L fp) (hs : Sorted L) (hb : ∀ x ∈ L, Byt x.1) {n v : Bs} (hn : Byt n) {q : Option Addr} {m d : Nat} (S : Sl .u8 w q m d v) (hq : ∀ k, q.map (·.block) = some k → 0 < m → k ∉ fp) :
    ∃ o, (Instr.mapUpdate 70 (.map (some b)) (.string (strB n)) (.slice q m d)).run Try.prog w = .ok () (w.put b o) ∧ MapAt (w.put b o) b (putL n v L) fp := by
  obtain ⟨hbf, kvs, g, hm, hr, hv⟩ := h
  obtain ⟨es, ck, hblk, -⟩ := hm.ex
  obtain ⟨o, h1, h2⟩ := hm.set Try.underlying70 Try.underlying9 (strB n) (.slice q m d)
  refine ⟨o, h1, hbf, _, _, h2, hr.set (v := v) (u := .slice q m d) hs hb hn, fun x hx => ?_⟩
  rcases putL_mem hs hx with rfl | ⟨h3, h4⟩
  · exact ⟨q, m, d, by simp, sl_put S hblk, hq⟩
  · obtain ⟨q', m', d', h5, h6, h7⟩ := hv x h4
    exact ⟨q', m', d', by simp [h3, h5], sl_put h6 hblk, h7⟩
/-- A name is deleted. -/
theorem MapAt.del1 {b : Nat} {L : List (Bs × Bs)} {fp : List Nat} (h : MapAt w b L fp) (hs : Sorted L) (hb : ∀ x ∈ L, Byt x.1) {n : Bs} (hn : Byt n) :
    ∃ o, (∀ ty, (Builtin.delete_ #[70, 9] ty #[.map (some b), .string (strB n)]).run Try.prog w = .ok (.tuple #[]) (w.put b o)) ∧ MapAt (w.put b o) b (delL n L) fp := by
  obtain ⟨hbf, kvs, g, hm, hr, hv⟩ := h
  obtain ⟨es, ck, hblk, -⟩ := hm.ex
  obtain ⟨o, h1, h2⟩ := hm.del Try.underlying70 Try.underlying9 (strB n) 0
  refine ⟨o, fun ty => h1, hbf, _, _, h2, hr.del hs hb hn, fun x hx => ?_⟩
  obtain ⟨q', m', d', h5, h6, h7⟩ := hv x (List.mem_filter.1 hx).1
  exact ⟨q', m', d', h5, sl_put h6 hblk, h7⟩
theorem byt_doC {L : List (Bs × Bs)} {c : Chg} (h : ∀ x ∈ L, Byt x.1) (hc : Byt c.name) : ∀ x ∈ doC L c, Byt x.1 := by
  intro x hx
  unfold doC at hx
  split at hx
  · exact h x (List.mem_filter.1 hx).1
  · have : ∀ {L : List (Bs × Bs)}, x ∈ putL c.name c.val L → x = (c.name, c.val) ∨ x ∈ L := by
      intro L
      induction L with
      | nil => intro h; exact .inl (by simpa [putL] using h)
      | cons y L ih =>
        intro h
        obtain ⟨m, u⟩ := y
        rw [putL] at h
        split at h
        · rcases List.mem_cons.1 h with h | h
          · exact .inl h
          · exact .inr h
        · split at h
          · rcases List.mem_cons.1 h with h | h
            · exact .inl h
            · exact .inr (by simp [h])
          · rcases List.mem_cons.1 h with h | h
            · exact .inr (by simp [h])
            · rcases ih h with h | h
              · exact .inl h
              · exact .inr (by simp [h])
    rcases this hx with rfl | h2
    · exact hc
    · exact h x h2
theorem byt_allC : ∀ {l : List Chg} {L : List (Bs × Bs)}, (∀ x ∈ L, Byt x.1) → (∀ c ∈ l, Byt c.name) → ∀ x ∈ allC L l, Byt x.1 := by
  intro l
  induction l with
  | nil => intro L h _; exact h
  | cons c l ih => intro L h hc; exact ih (byt_doC h (hc c (by simp))) fun c hc2 => hc c (by simp [hc2])
end
end Go.Proofs.Ytombhkekocbfoaa
namespace Go.Proofs.Ytombhkekocbfoaa
open Go.RowKit Go.Dr Go.Kd Go.St
section
variable {w : World}
theorem f4_get {w w' : World} {b : Nat} {o : Obj} (F : Fr [] w w') (h : w.blk b = some o) : w'.blk b = some o := F.get h (by simp)
theorem allC_snoc {L : List (Bs × Bs)} {l : List Chg} {c : Chg} : allC L (l ++ [c]) = doC (allC L l) c := by simp [allC]
set_option maxRecDepth 100000 in
set_option maxHeartbeats 8000000 in
theorem apply_f {mb : Nat} {L : List (Bs × Bs)} {fp : List Nat} (M : MapAt w mb L fp) (hfp : ∀ k ∈ fp, k < w.heap.size) {p : Option Addr} {n cap : Nat} {l : List Chg} (C : Chs w p n cap l) (hok : ∀ c ∈ l, ChgB c) (hS : Sorted L) (hL : ∀ x ∈ L, Byt x.1) (hn : n ≤ 64) :
    Calls Try.prog 36 #[.map (some mb), .slice p n cap] w fun e w' => ∃ b, e = .returned (.map (some b)) ∧ MapAt w' b (allC L l) fp ∧ Fr [] w w' ∧ w.heap.size ≤ b := by
  have HS := Lib.hid C
  have HL := Lib.hid C.len
  have HOK := Lib.hid hok
  have HSo := Lib.hid hS
  have HBy := Lib.hid hL
  have HFP := Lib.hid hfp
  obtain ⟨es, ck, hblk, hM0⟩ := M.clone hfp
  have HM0 := Lib.hid hM0
  clear C hok hS hL hfp M hM0
  go_enter Try.func36, Try.ntmps36
  go_wp2_with fail
  refine (mclone_f hblk).mono ?_
  rintro en w1 ⟨rfl, hw1⟩
  have HM1 := Lib.hid (show MapAt w1 w.heap.size L fp by rw [hw1]; exact HM0.out)
  have HF1 := Lib.hid (show Fr [] w w1 by rw [hw1]; exact (Fr.refl [] w).alloc _)
  have HLo := Lib.hid (Nat.le_refl w.heap.size)
  clear HM0 hw1 hblk
  revert HM1 HLo
  generalize hb0 : w.heap.size = b0
  intro HM1 HLo
  rw [← hb0] at HLo
  replace HLo := Lib.hid (show w.heap.size ≤ b0 by rw [hb0]; exact Nat.le_refl _)
  clear hb0
  go_wp2_with fail
  go_loopw [12] (fun iv wy => ∃ i : Nat, i ≤ n ∧ iv = .int .i64 (i : Int) ∧ Hid (Fr [] w wy ∧ MapAt wy b0 (allC L (l.take i)) fp)) (fun iv _ => (n - intOf iv).toNat)
  case atStart => exact ⟨0, by omega, rfl, Lib.hid ⟨HF1.out, HM1.out⟩⟩
  case round =>
    obtain ⟨i, hin, rfl, hW⟩ := hrel
    by_cases hlt : i < n
    · have hd : decide ((i : Int) < (n : Int)) = true := by rw [decide_eq_true_eq]; omega
      obtain ⟨x, q2, m2, d2, b, off, cs, TT, fr, hx, rfl, fb, hsz, hext, S2⟩ := (HS.out.fr0 hW.out.1).at hlt
      have okx := HOK.out x (List.mem_of_getElem? hx)
      obtain ⟨B, hB⟩ : ∃ B : Array Value, B = #[.string (strB x.name), .slice q2 m2 d2, .bool x.gone] := ⟨_, rfl⟩
      rw [← hB] at hext
      have szB : B.size = 3 := by rw [hB]; rfl
      have onB : ones B.toList = true := by rw [hB]; rfl
      have alB : B.extract 0 3 = B := by rw [← szB]; exact Array.extract_size
      have x0 := Array.getElem?_eq_some_iff.1 (show B[0]? = some (.string (strB x.name)) by rw [hB]; rfl)
      have x1 := Array.getElem?_eq_some_iff.1 (show B[1]? = some (.slice q2 m2 d2) by rw [hB]; rfl)
      have x2 := Array.getElem?_eq_some_iff.1 (show B[2]? = some (.bool x.gone) by rw [hB]; rfl)
      obtain ⟨x0', x0⟩ := x0
      obtain ⟨x1', x1⟩ := x1
      obtain ⟨x2', x2⟩ := x2
      have htk : allC L (l.take (i + 1)) = doC (allC L (l.take i)) x := by
        rw [List.take_add_one, hx]
        exact allC_snoc
      have HTK := Lib.hid htk
      have HS2 := Lib.hid S2
      have HOX := Lib.hid okx
      have hsl : Sorted (allC L (l.take i)) := sorted_allC HSo.out
      have hbl : ∀ x ∈ allC L (l.take i), Byt x.1 := byt_allC HBy.out fun c hc => (HOK.out c (List.mem_of_mem_take hc)).nb
      have HSL := Lib.hid hsl
      have HBL := Lib.hid hbl
      have tb := World.at_lt fb
      have wi : IntKind.i64.wrap ((i : Int) + 1) = ((i + 1 : Nat) : Int) := by rw [IntKind.wrap_i64]; omega
      clear hB hx S2 okx htk hsl hbl
      go_upto_region 5 with (fail)
      refine named_world (A := fun X => X.blk wr.heap.size = some (.cells B 32) ∧ MapAt X b0 (allC L (l.take i)) fp ∧ Fr [] wr X) (Q := fun X => Code.wp _ _ _ _ X) ⟨World.at_alloc_new _ _ _ rfl, hW.out.2.fr0 ((Fr.refl [] wr).alloc _), (Fr.refl [] wr).alloc _⟩ ?_
      rintro U ⟨f5, hU, FU⟩
      have HFw := Lib.hid (hW.out.1.trans FU)
      generalize wr.heap.size = b5 at f5 ⊢
      have HU := Lib.hid hU
      have HS3 := Lib.hid (HS2.out.fr0 FU)
      clear hU fb tb hW FU
      have t5 := World.at_lt f5
      have hdo : doC (allC L (l.take i)) x = if x.gone then delL x.name (allC L (l.take i)) else putL x.name x.val (allC L (l.take i)) := rfl
      obtain ⟨g, hg⟩ : ∃ g, g = x.gone := ⟨_, rfl⟩
      rw [← hg] at x2 hdo
      have HDO := Lib.hid hdo
      clear hg hdo
      have hbU : b0 < U.heap.size := by obtain ⟨_, kvs, g, hm, _⟩ := HU.out; exact hm.lt
      cases g with
      | true =>
        obtain ⟨o, hdel, hM2⟩ := HU.out.del1 HSL.out HBL.out HOX.out.nb
        have HM2 := Lib.hid hM2
        have HF2 := Lib.hid (HFw.out.put b0 o (fun h => absurd HLo.out (by omega)))
        clear hM2
        go_wp2_with fail
        go_roundw
        case rel => exact ⟨i + 1, hlt, by first | rfl | simp, Lib.hid ⟨HF2.out, by rw [HTK.out, HDO.out, if_pos rfl]; exact HM2.out⟩⟩
        case measure => simp [intOf]; omega
      | false =>
        go_upto_region 7 with (fail)
        refine drawn_begin 6 (fun w' => w'.blk b5 = some (.cells B 32)) (by kernel_rfl) ?_
        refine drawn_reads (fuel := 2) [0, 1, 2, 3, 4] rfl (by kernel_rfl) f5 ?_
        repeat (first | (refine rowK_step2 rfl rfl (fun K hK => ?_); go_wp2) | (refine rowK_step rfl (fun K hK => ?_); go_simp; refine hK _ ?_; clear hK K))
        refine rowK_nil ⟨fun w' e1 => ?_, ?_⟩
        · clear f5 t5 hbU
          have t5 := World.at_lt e1
          repeat (first | (refine rowWp_step2 rfl rfl (fun K hK => ?_); go_wp2) | (refine rowWp_step rfl (fun K hK => ?_); go_simp; refine hK _ ?_; clear hK K))
          exact rowWp_nil rfl
        refine drawn_next 5 (fuel := 1) rfl (by kernel_rfl) ?_
        intro K hK
        go_wp2_with fail
        have FD : Fr [] U U.drew := (Fr.refl [] U).drew
        have lvl : x.val.length ≤ 4000 := HOX.out.ok.v
        refine (clone_f (HS3.out.fr0 FD) (by have := HS3.out.len; omega)).mono ?_
        rintro en w4 ⟨q4, c4, rfl, B4⟩
        have F4 : Fr [] U w4 := FD.trans B4.own.fr
        have hS4 := B4.sl
        have hnf : ∀ k, q4.map (·.block) = some k → 0 < m2 → k ∉ fp := fun k hk _ hf => by
          have h1 := (B4.new k hk).1
          have h2 := HFP.out k hf
          have h3 := HFw.out.size
          have h4 := FD.size
          omega
        obtain ⟨o, hset, hM2⟩ := (HU.out.fr0 F4).set1 HSL.out HBL.out HOX.out.nb hS4 hnf
        have HM2 := Lib.hid hM2
        have HF2 := Lib.hid ((HFw.out.trans F4).put b0 o (fun h => absurd HLo.out (by omega)))
        have f5' := f4_get F4 f5
        clear hM2 hnf hS4 F4 B4 f5 t5 FD HFw HU HS3 hbU
        go_wp2_with fail
        refine ⟨f5', ?_⟩
        clear f5'
        refine drawn_end rfl (by kernel_rfl) ?_
        intro K hK
        go_wp2_with fail
        go_roundw
        case rel => exact ⟨i + 1, hlt, by first | rfl | simp, Lib.hid ⟨HF2.out, by rw [HTK.out, HDO.out, if_neg (by simp)]; exact HM2.out⟩⟩
        case measure => simp [intOf]; omega
    · obtain rfl : i = n := by omega
      have hd : decide ((i : Int) < (i : Int)) = false := by simp
      have htk : l.take i = l := List.take_of_length_le (by rw [HL.out]; exact Nat.le_refl _)
      rw [htk] at hW
      clear htk
      go_wp2_with fail
      exact bodyPost_ret (results_tmp rfl _ _ _) rfl ⟨b0, rfl, hW.out.2, hW.out.1, HLo.out⟩
end
end Go.Proofs.Ytombhkekocbfoaa
namespace Go.Proofs.Ytombhkekocbfoaa
open Go.RowKit Go.Dr Go.Kd
theorem arr_fun {tm : Array Value} {n : Nat} (h : tm.size = n) : tm = ((List.range n).map fun i => tm.getD i undef).toArray := by
  apply Array.ext
  · simp [h]
  · intro i h1 h2
    simp [h1]
/-- What stands at Split's labels: behind pieces that are taken. -/
def SpJ (w : World) (K0 : Option (List Bs)) (l : Nat) (a : Act) (W : World) : Prop :=
  a.tmps.size = 59 ∧ a.defers = [] ∧ match l with
  | 0 => K0 = none ∧ (∃ why : Int, why ≠ 0 ∧ a.tmps.getD 7 undef = .int .i64 why) ∧ Fr [] w W
  | l + 1 => l < 2 ∧ ∃ (p : Option Addr) (n c : Nat) (rest : Bs) (q : Option Addr) (c2 : Nat) (us : List Value) (No M : List (Nat × Obj)) (done : List Bs) (left : Nat),
      (a.tmps.getD 0 undef = .slice p n c ∧ a.tmps.getD 4 undef = .slice q done.length c2 ∧ a.tmps.getD 5 undef = .int .i64 (left : Int) ∧ a.tmps.getD 7 undef = .int .i64 20) ∧
      (l = 0 → left = 0) ∧ (left + done.length ≤ 64 ∧ n ≤ 100000) ∧ Sl .u8 w p n c rest ∧ isBytes rest ∧ K0 = finP done (takeP left rest) ∧ OwB w (No ++ M) W ∧ Parked No 22 1 q done.length c2 us ∧ (∀ x ∈ M, ∃ cs fr, x.2 = .cells cs 5 fr) ∧ ∀ W', Has M W' → Sls W' us done
def spM (l : Nat) (a : Act) (_ : World) : Nat := match l with
  | 0 => 0
  | 1 => 1
  | _ => (intOf (a.tmps.getD 5 undef)).toNat + 2
theorem i64_or_byte (a b : Nat) (ha : a < 256) (hb : b < 256) : bits .or .i64 ((a : Int) * 256) (b : Int) = ((a * 256 + b : Nat) : Int) := by
  have e : ((a : Int) * 256) = ((2 ^ 8 * a : Nat) : Int) := by omega
  rw [e]
  show IntKind.i64.wrap ((BitVec.ofInt 64 ((2 ^ 8 * a : Nat) : Int) ||| BitVec.ofInt 64 (b : Int)).toNat : Int) = _
  rw [BitVec.toNat_or, BitVec.ofInt_natCast, BitVec.ofInt_natCast, BitVec.toNat_ofNat, BitVec.toNat_ofNat, Nat.mod_eq_of_lt (by omega), Nat.mod_eq_of_lt (by omega), ← Nat.two_pow_add_eq_or_of_lt (by omega), IntKind.wrap_i64]
  omega
theorem sll_of_parked {No M : List (Nat × Obj)} {q : Option Addr} {m c : Nat} {us : List Value} {ls : List Bs} (hP : Parked No 22 1 q m c us) (hU : ∀ W', Has M W' → Sls W' us ls) : Sly (No ++ M) q m c ls := ⟨us, fun W h => ⟨hP.svH h.of_append.1, hU W h.of_append.2⟩⟩
theorem parked_ty {No M : List (Nat × Obj)} {q : Option Addr} {m c : Nat} {us : List Value} (hP : Parked No 22 1 q m c us) (hM : ∀ x ∈ M, ∃ cs fr, x.2 = .cells cs 5 fr) : ∀ x ∈ No ++ M, ∃ cs T fr, x.2 = .cells cs T fr ∧ (T = 5 ∨ T = 22) := fun x hx => by
  rcases List.mem_append.1 hx with hx | hx
  · rcases hP with ⟨rfl, _⟩ | ⟨g, r, rfl, _⟩
    · cases hx
    · rw [List.mem_singleton] at hx
      subst hx
      exact ⟨_, _, _, rfl, .inr rfl⟩
  · obtain ⟨cs, fr, e⟩ := hM x hx
    exact ⟨cs, 5, fr, e, .inl rfl⟩
section
variable {w : World}
set_option maxRecDepth 100000 in
set_option maxHeartbeats 8000000 in
theorem split_f {p : Option Addr} {n c : Nat} {B : Bs} (S : Sl .u8 w p n c B) (hB : isBytes B) (hn : n ≤ 100000) :
    Calls Try.prog 68 #[.slice p n c] w fun e w' => SplitRes w (splitB B) e w' := by
  have HS := Lib.hid S
  have HB := Lib.hid hB
  obtain ⟨K0, hK0⟩ : ∃ K0, K0 = splitB B := ⟨_, rfl⟩
  rw [← hK0]
  have HK0 := Lib.hid hK0
  clear S hB hK0
  go_enter Try.func68, Try.ntmps68
  go_wp2_with fail
  refine wp_scope_next (SpJ w K0) spM (fun l a W hJ => ?_) (fun next => ?_)
  · match l, hJ with
    | 0, hJ =>
      obtain ⟨hs, hd, hK, ⟨why, hw, h7⟩, F⟩ := hJ
      refine ⟨_, rfl, ?_⟩
      obtain ⟨tm, df⟩ := a
      simp only [] at hs hd h7
      obtain ⟨u, rfl⟩ : ∃ u : Nat → Value, tm = #[u 0, u 1, u 2, u 3, u 4, u 5, u 6, u 7, u 8, u 9, u 10, u 11, u 12, u 13, u 14, u 15, u 16, u 17, u 18, u 19, u 20, u 21, u 22, u 23, u 24, u 25, u 26, u 27, u 28, u 29, u 30, u 31, u 32, u 33, u 34, u 35, u 36, u 37, u 38, u 39, u 40, u 41, u 42, u 43, u 44, u 45, u 46, u 47, u 48, u 49, u 50, u 51, u 52, u 53, u 54, u 55, u 56, u 57, u 58] := ⟨fun i => tm.getD i undef, arr_fun hs⟩
      have e7 : u 7 = _ := h7
      rw [e7, hd]
      have HF := Lib.hid F
      have HW := Lib.hid hw
      have HKn := Lib.hid hK
      clear e7 h7 hs hd F hw hK
      go_wp2_with fail
      simp only [Exit.jumps]
      refine bodyPost_ret (results_tmp2 rfl _ _ _) rfl ?_
      rw [HKn.out]
      exact ⟨why, HW.out, rfl, HF.out⟩
    | 1, hJ =>
      obtain ⟨hs, hd, hl, p1, n1, c1, rest, q, c2, us, No, M, done, left, ⟨h0, h4, h5, h7⟩, hz, ⟨hle, hn1⟩, S1, hB1, hK, hO, hP, hM, hU⟩ := hJ
      refine ⟨_, rfl, ?_⟩
      obtain ⟨tm, df⟩ := a
      simp only [] at hs hd h0 h4 h5 h7
      obtain ⟨u, rfl⟩ : ∃ u : Nat → Value, tm = #[u 0, u 1, u 2, u 3, u 4, u 5, u 6, u 7, u 8, u 9, u 10, u 11, u 12, u 13, u 14, u 15, u 16, u 17, u 18, u 19, u 20, u 21, u 22, u 23, u 24, u 25, u 26, u 27, u 28, u 29, u 30, u 31, u 32, u 33, u 34, u 35, u 36, u 37, u 38, u 39, u 40, u 41, u 42, u 43, u 44, u 45, u 46, u 47, u 48, u 49, u 50, u 51, u 52, u 53, u 54, u 55, u 56, u 57, u 58] := ⟨fun i => tm.getD i undef, arr_fun hs⟩
      have e0 : u 0 = _ := h0
      have e4 : u 4 = _ := h4
      have e5 : u 5 = _ := h5
      have e7 : u 7 = _ := h7
      rw [e0, e4, e5, e7, hd]
      have HS1 := Lib.hid S1
      have HB1 := Lib.hid hB1
      have HK := Lib.hid hK
      have HO := Lib.hid hO
      have HP := Lib.hid hP
      have HM := Lib.hid hM
      have HU := Lib.hid hU
      have HL := Lib.hid S1.len
      clear e0 e4 e5 e7 h0 h4 h5 h7 hs hd S1 hB1 hK hO hP hM hU
      obtain rfl : left = 0 := hz rfl
      by_cases hn0 : n1 = 0
      · have d0 : ((n1 : Int) == 0) = true := by rw [hn0]; rfl
        have hr : rest = [] := List.eq_nil_of_length_eq_zero (by rw [HL.out]; exact hn0)
        have hk : K0 = some done := by rw [HK.out, finP_zero, if_pos hr]
        have HK2 := Lib.hid hk
        clear hk hr hn0
        go_wp2_with fail
        simp only [Exit.jumps]
        refine bodyPost_ret (results_tmp2 rfl _ _ _) rfl ?_
        rw [HK2.out]
        exact ⟨q, c2, No ++ M, rfl, HO.out, parked_ty HP.out HM.out, sll_of_parked HP.out HU.out⟩
      · have d0 : ((n1 : Int) == 0) = false := by rw [beq_eq_false_iff_ne]; omega
        have hr : rest ≠ [] := fun e => by have := HL.out; rw [e] at this; simp at this; omega
        have hk : K0 = none := by rw [HK.out, finP_zero, if_neg hr]
        have HK2 := Lib.hid hk
        clear hk hr hn0
        go_wp2_with fail
        go_step3
        rename_i Kx hKx
        refine hKx _ _ ?_
        clear hKx Kx
        go_wp2_with fail
        simp only [Exit.jumps]
        refine bodyPost_ret (results_tmp2 rfl _ _ _) rfl ?_
        rw [HK2.out]
        exact ⟨21, by decide, rfl, HO.out.fr⟩
    | 2, hJ =>
      obtain ⟨hs, hd, hl, p1, n1, c1, rest, q, c2, us, No, M, done, left, ⟨h0, h4, h5, h7⟩, hz, ⟨hle, hn1⟩, S1, hB1, hK, hO, hP, hM, hU⟩ := hJ
      refine ⟨_, rfl, ?_⟩
      obtain ⟨tm, df⟩ := a
      simp only [] at hs hd h0 h4 h5 h7
      obtain ⟨u, rfl⟩ : ∃ u : Nat → Value, tm = #[u 0, u 1, u 2, u 3, u 4, u 5, u 6, u 7, u 8, u 9, u 10, u 11, u 12, u 13, u 14, u 15, u 16, u 17, u 18, u 19, u 20, u 21, u 22, u 23, u 24, u 25, u 26, u 27, u 28, u 29, u 30, u 31, u 32, u 33, u 34, u 35, u 36, u 37, u 38, u 39, u 40, u 41, u 42, u 43, u 44, u 45, u 46, u 47, u 48, u 49, u 50, u 51, u 52, u 53, u 54, u 55, u 56, u 57, u 58] := ⟨fun i => tm.getD i undef, arr_fun hs⟩
      have e0 : u 0 = _ := h0
      have e4 : u 4 = _ := h4
      have e5 : u 5 = _ := h5
      have e7 : u 7 = _ := h7
      rw [e0, e4, e5, e7, hd]
      have HS1 := Lib.hid S1
      have HB1 := Lib.hid hB1
      have HK := Lib.hid hK
      have HO := Lib.hid hO
      have HP := Lib.hid hP
      have HM := Lib.hid hM
      have HU := Lib.hid hU
      have HL := Lib.hid S1.len
      clear e0 e4 e5 e7 h0 h4 h5 h7 hs hd S1 hB1 hK hO hP hM hU
      by_cases hl0 : left = 0
      · subst hl0
        have d0 : (((0 : Nat) : Int) == 0) = true := rfl
        go_wp2_with fail
        go_step3
        refine ⟨⟨rfl, rfl, (by decide : 0 < 2), p1, n1, c1, rest, q, c2, us, No, M, done, 0, ⟨rfl, rfl, rfl, rfl⟩, fun _ => rfl, ⟨hle, hn1⟩, HS1.out, HB1.out, HK.out, HO.out, HP.out, HM.out, HU.out⟩, ?_⟩
        show 1 < _ + 2
        omega
      · have d0 : ((left : Int) == 0) = false := by rw [beq_eq_false_iff_ne]; omega
        by_cases hn2 : n1 < 2
        · have d2 : decide ((n1 : Int) < 2) = true := by rw [decide_eq_true_eq]; omega
          obtain ⟨lf, hlf⟩ : ∃ lf, left = lf + 1 := ⟨left - 1, by omega⟩
          have hk : K0 = none := by rw [HK.out, hlf, takeP_short (by rw [HL.out]; exact hn2), finP_none]
          go_wp2_with fail
          go_step3
          refine ⟨⟨rfl, rfl, hk, ⟨20, by decide, rfl⟩, HO.out.fr⟩, ?_⟩
          show 0 < _ + 2
          omega
        · have d2 : decide ((n1 : Int) < 2) = false := by rw [decide_eq_false_iff_not]; omega
          obtain ⟨bb, off, cs, TT, fr, rfl, fc0, hs2, hx⟩ := HS1.out.out (by omega)
          have hln := HL.out
          obtain ⟨x0, x1, rest', hrest⟩ : ∃ x0 x1 rest', rest = x0 :: x1 :: rest' := by
            match rest, hln with
            | [], h => simp at h; omega
            | [_], h => simp at h; omega
            | x0 :: x1 :: r, _ => exact ⟨x0, x1, r, rfl⟩
          have g0 : cs[off]? = some (.int .u8 x0) := by
            have := congrArg (fun l : List Value => l[0]?) hx
            rw [hrest] at this
            simp only [Array.getElem?_toList, List.map_cons, List.getElem?_cons_zero] at this
            rw [Array.getElem?_extract_of_lt (by omega), ← Array.getElem?_eq_getElem] at this
            exact this
          have g1 : cs[off + 1]? = some (.int .u8 x1) := by
            have := congrArg (fun l : List Value => l[1]?) hx
            rw [hrest] at this
            simp only [Array.getElem?_toList, List.map_cons, List.getElem?_cons_succ, List.getElem?_cons_zero] at this
            rw [Array.getElem?_extract_of_lt (by omega), ← Array.getElem?_eq_getElem] at this
            exact this
          replace g0 := (Array.getElem?_eq_some_iff.1 g0).2
          replace g1 := (Array.getElem?_eq_some_iff.1 g1).2
          have b0 := HB1.out x0 (by rw [hrest]; simp)
          have b1 := HB1.out x1 (by rw [hrest]; simp)
          obtain ⟨y0, rfl⟩ := Int.eq_ofNat_of_zero_le b0.1
          obtain ⟨y1, rfl⟩ := Int.eq_ofNat_of_zero_le b1.1
          have fc := HO.out.fr.get fc0 (by simp)
          have tc := World.at_lt fc
          have h1n : (1 : Int) < (n1 : Int) := by omega
          have h0n : (0 : Int) < (n1 : Int) := by omega
          have hc1 := HS1.out.cap_
          have HR := Lib.hid hrest
          clear hrest hx hln
          have wb : IntKind.i64.wrap ((y0 : Int) * 256) = (y0 : Int) * 256 := by rw [IntKind.wrap_i64]; omega
          have hor := i64_or_byte y0 y1 (by omega) (by omega)
          have hS2 : ∀ P2 C2, P2 = (if c1 = 2 then some (⟨bb, off, none⟩ : Addr) else some ⟨bb, off + 2, none⟩) → C2 = c1 - 2 → Sl .u8 w P2 (n1 - 2) C2 rest' := fun P2 C2 e1 e2 => by
            have h := HS1.out.part (i := 2) (j := n1) (c := c1) (by omega) (Nat.le_refl _) hc1 (Nat.le_refl _)
            rw [HR.out, List.take_of_length_le (by rw [← HR.out, HL.out]; exact Nat.le_refl _)] at h
            rw [e1, e2]
            simpa [Addr.add_mid] using h
          have HS2 := Lib.hid hS2
          clear hS2
          go_upto_region 10 with (fail)
          go_cut [0, 6, 24, 25, 26, 27, 28, 29, 30, 31, 32, 33, 34, 35] (fun v0 v6 _ _ _ _ _ _ _ _ _ _ _ _ wy => ∃ o2 C2, v0 = .slice (some ⟨bb, o2, none⟩) (n1 - 2) C2 ∧ v6 = .int .i64 ((y0 * 256 + y1 : Nat) : Int) ∧ Hid (Sl .u8 w (some ⟨bb, o2, none⟩) (n1 - 2) C2 rest') ∧ wy = W.drew)
          case first =>
            refine drawn_begin 13 (fun w' => w'.blk bb = some (.cells cs TT fr)) (by kernel_rfl) ?_
            refine drawn_reads (fuel := 1) [0, 1, 2, 3, 4, 5, 6, 7, 8, 9, 10, 12, 11] rfl (by kernel_rfl) fc ?_
            repeat (first | (refine rowK_step2 rfl rfl (fun K hK => ?_); go_wp2) | (refine rowK_step rfl (fun K hK => ?_); go_simp; refine hK _ ?_; clear hK K))
            all_goals
              refine rowK_nil ⟨fun w' e1 => ?_, ?_⟩
              · clear fc tc
                repeat (first | (refine rowWp_step2 rfl rfl (fun K hK => ?_); go_wp2) | (refine rowWp_step rfl (fun K hK => ?_); go_simp; refine hK _ ?_; clear hK K))
                exact rowWp_nil rfl
              refine drawn_end rfl (by kernel_rfl) ?_
              intro K hK
              go_wp2_with fail
              go_meet
            case rel => exact ⟨_, _, rfl, by simp, Lib.hid (HS2.out _ _ (by simp [*]) (by omega)), rfl⟩
            case rel => exact ⟨_, _, rfl, by simp, Lib.hid (HS2.out _ _ (by simp [*]) (by omega)), rfl⟩
          case rest =>
            obtain ⟨o2, C2, rfl, rfl, hS2, rfl⟩ := hcut
            obtain ⟨lf, hlf⟩ : ∃ lf, left = lf + 1 := ⟨left - 1, by omega⟩
            have hk1 : K0 = finP done (takeP (lf + 1) ((y0 : Int) :: (y1 : Int) :: rest')) := by rw [HK.out, hlf, HR.out]
            have HK1 := Lib.hid hk1
            have hr2 := hS2.out.len
            have hbr : isBytes rest' := fun x hx => HB1.out x (by rw [HR.out]; simp [hx])
            have HBR := Lib.hid hbr
            have hcap2 := hS2.out.cap_
            obtain ⟨sz, hsz⟩ : ∃ sz, sz = y0 * 256 + y1 := ⟨_, rfl⟩
            have HSZ := Lib.hid hsz
            rw [← hsz]
            obtain ⟨n2, hn2'⟩ : ∃ n2, n2 = n1 - 2 := ⟨_, rfl⟩
            have hn2b : n2 ≤ 100000 := by omega
            have HL2 := Lib.hid (hr2.trans hn2'.symm)
            rw [← hn2'] at hS2 hcap2 ⊢
            have HLF := Lib.hid hlf
            clear hk1 hbr hsz hn2' HK HS2 fc tc hor wb g0 g1 hr2 hlf
            by_cases h1 : 4096 < sz
            · have d1 : decide ((4096 : Int) < (sz : Int)) = true := by rw [decide_eq_true_eq]; omega
              have hk : K0 = none := by rw [HK1.out, takeP_big (.inl (by rw [Int.toNat_natCast, Int.toNat_natCast, ← HSZ.out]; exact h1)), finP_none]
              have HKn := Lib.hid hk
              clear hk h1
              go_wp2_with fail
              go_step3
              refine ⟨⟨rfl, rfl, HKn.out, ⟨5, by decide, rfl⟩, HO.out.drew.fr⟩, ?_⟩
              show 0 < _ + 2
              omega
            have d1 : decide ((4096 : Int) < (sz : Int)) = false := by rw [decide_eq_false_iff_not]; omega
            by_cases h2 : n2 < sz
            · have d2' : decide ((n2 : Int) < (sz : Int)) = true := by rw [decide_eq_true_eq]; omega
              have hk : K0 = none := by rw [HK1.out, takeP_big (.inr (by rw [Int.toNat_natCast, Int.toNat_natCast, ← HSZ.out, HL2.out]; exact h2)), finP_none]
              have HKn := Lib.hid hk
              clear hk
              go_wp2_with fail
              go_step3
              refine ⟨⟨rfl, rfl, HKn.out, ⟨20, by decide, rfl⟩, HO.out.drew.fr⟩, ?_⟩
              show 0 < _ + 2
              omega
            have d2' : decide ((n2 : Int) < (sz : Int)) = false := by rw [decide_eq_false_iff_not]; omega
            have hk2 : K0 = finP (done ++ [rest'.take sz]) (takeP lf (rest'.drop sz)) := by
              rw [HK1.out, finP_step (by rw [Int.toNat_natCast, Int.toNat_natCast, ← HSZ.out]; exact h1) (by rw [Int.toNat_natCast, Int.toNat_natCast, ← HSZ.out, HL2.out]; exact h2)]
              rw [Int.toNat_natCast, Int.toNat_natCast, ← HSZ.out]
            have HK2 := Lib.hid hk2
            have hS3 : ∀ P3 C3, P3 = (if C2 = sz then some (⟨bb, o2, none⟩ : Addr) else some ⟨bb, o2 + sz, none⟩) → C3 = C2 - sz → Sl .u8 w P3 (n2 - sz) C3 (rest'.drop sz) := fun P3 C3 e1 e2 => by
              have h := hS2.out.part (i := sz) (j := n2) (c := C2) (by omega) (Nat.le_refl _) hcap2 (Nat.le_refl _)
              rw [List.take_of_length_le (by rw [HL2.out]; exact Nat.le_refl _)] at h
              rw [e1, e2]
              simpa [Addr.add_mid] using h
            have HS3 := Lib.hid hS3
            have hsn : (sz : Int) ≤ (n2 : Int) := by omega
            have hsc : (sz : Int) ≤ (C2 : Int) := by omega
            clear hk2 hS3
            go_upto_region 14 with (fail)
            have fc := HO.out.drew.fr.get fc0 (by simp)
            refine drawn_begin 11 (fun w' => w'.blk bb = some (.cells cs TT fr)) (by kernel_rfl) ?_
            refine drawn_reads (fuel := 5) [0, 1, 2, 3, 7, 8, 9] rfl (by kernel_rfl) fc ?_
            repeat (first | (refine rowK_step2 rfl rfl (fun K hK => ?_); go_wp2) | (refine rowK_step rfl (fun K hK => ?_); go_simp; refine hK _ ?_; clear hK K))
            all_goals
              refine rowK_nil ⟨fun w' e1 => ?_, ?_⟩
              · clear fc
                repeat (first | (refine rowWp_step2 rfl rfl (fun K hK => ?_); go_wp2) | (refine rowWp_step rfl (fun K hK => ?_); go_simp; refine hK _ ?_; clear hK K))
                exact rowWp_nil rfl
              have hOd := HO.out.drew.drew
              have HOd := Lib.hid hOd
              clear hOd
              refine drawn_next 4 (fuel := 4) rfl (by kernel_rfl) ?_
              intro K hK
              go_wp2_with fail
              have hSf : ∀ cc, cc = C2 → Sl .u8 W.drew.drew (some ⟨bb, o2, none⟩) sz cc (rest'.take sz) := fun cc e => by
                rw [e]
                exact (hS2.out.front (by omega)).fr0 HOd.out.fr
              refine (byclone_f (l := rest'.take sz) (hSf _ (by omega)) (by omega)).mono ?_
              clear hSf
              rintro e W2 ⟨q4, c4, rfl, hB⟩
              obtain ⟨M2, hO2, hM2, hK2⟩ := HOd.out.join hB
              have HO2 := Lib.hid hO2
              have HM2 := Lib.hid hM2
              have HKs := Lib.hid hK2
              clear hO2 hM2 hK2 hB fc
              have fc := HO2.out.fr.get fc0 (by simp)
              have tc := World.at_lt fc
              go_wp2_with fail
              refine ⟨fc, ?_⟩
              refine drawn_next 5 (fuel := 3) rfl (by kernel_rfl) ?_
              intro K hK
              go_wp2_with fail
              refine ⟨by first | exact fc | go_simp, ?_⟩
              refine drawn_next 6 (fuel := 2) rfl (by kernel_rfl) ?_
              intro K hK
              refine wpList_app86 rfl _ _ rfl rfl ((HP.out.take (HO2.out.perm (List.perm_append_comm_assoc _ _ _))).call ((Fr.refl [] W2).alloc (.cells #[.slice q4 sz c4] 22))) rfl (Sv.one (v := .slice q4 sz c4) (T := 22) (fr := (0, 0)) (World.at_alloc_new _ _ _ rfl)) (by simp [Value.oneCell']) (by omega) ?_
              intro q5 c5 W5 B5
              obtain ⟨N5, hO5, hP5⟩ := B5.park
              have HO5 := Lib.hid hO5
              have HP5 := Lib.hid hP5
              clear hO5 hP5 B5
              refine wpList_nil ?_
              refine hK _ _ ⟨HO5.out.fr.get fc0 (by simp), ?_⟩
              clear hK K fc tc
              refine drawn_next 10 (fuel := 1) rfl (by kernel_rfl) ?_
              intro K hK
              have fc := HO5.out.fr.get fc0 (by simp)
              go_wp2_with fail
              refine ⟨fc, ?_⟩
              clear fc
              refine drawn_end rfl (by kernel_rfl) ?_
              intro K hK
              have wl : IntKind.i64.wrap ((left : Int) - 1) = (lf : Int) := by have := HLF.out; rw [IntKind.wrap_i64]; omega
              go_wp2_with fail
              go_step3
              refine ⟨⟨rfl, rfl, (by decide : 1 < 2), _, _, _, rest'.drop sz, q5, c5, us ++ [.slice q4 sz c4], N5, M2 ++ M, done ++ [rest'.take sz], lf, ⟨rfl, by rw [List.length_append]; rfl, rfl, rfl⟩, (fun h => absurd h (by decide)), ⟨by have := HLF.out; rw [List.length_append, List.length_singleton]; omega, by omega⟩, HS3.out _ _ (by simp [*]) (by omega), fun x hx => HBR.out x (List.mem_of_mem_drop hx), HK2.out, HO5.out, (by rw [List.length_append]; exact HP5.out), ?_, fun W' h => (HU.out W' h.of_append.2).append (.cons (HKs.out W' h.of_append.1) .nil)⟩, ?_⟩
              · intro x hx
                rcases List.mem_append.1 hx with hx | hx
                · exact HM2.out x hx
                · exact HM.out x hx
              · have := HLF.out
                show (intOf (.int .i64 (lf : Int))).toNat + 2 < (intOf (.int .i64 (left : Int))).toNat + 2
                simp only [intOf]
                omega
    | l + 3, hJ => exact absurd hJ.2.2.1 (by omega)
  · have NX := Lib.hid next
    clear next
    by_cases hn0 : n = 0
    · have d0 : ((n : Int) == 0) = true := by rw [hn0]; rfl
      have hb : B = [] := List.eq_nil_of_length_eq_zero (by rw [HS.out.len]; exact hn0)
      have hk : K0 = none := by rw [HK0.out, hb]; rfl
      have HKn := Lib.hid hk
      clear hk hb
      go_wp2_with fail
      go_step3
      exact ⟨rfl, rfl, HKn.out, ⟨20, by decide, rfl⟩, Fr.refl _ _⟩
    · have d0 : ((n : Int) == 0) = false := by rw [beq_eq_false_iff_ne]; omega
      obtain ⟨bb, off, cs, TT, fr, rfl, fc0, hs2, hx⟩ := HS.out.out (by omega)
      have hln := HS.out.len
      obtain ⟨x0, B1, hB1⟩ : ∃ x0 B1, B = x0 :: B1 := by
        match B, hln with
        | [], h => simp at h; omega
        | x0 :: r, _ => exact ⟨x0, r, rfl⟩
      have g0 : cs[off]? = some (.int .u8 x0) := by
        have := congrArg (fun l : List Value => l[0]?) hx
        rw [hB1] at this
        simp only [Array.getElem?_toList, List.map_cons, List.getElem?_cons_zero] at this
        rw [Array.getElem?_extract_of_lt (by omega), ← Array.getElem?_eq_getElem] at this
        exact this
      replace g0 := (Array.getElem?_eq_some_iff.1 g0).2
      have b0 := HB.out x0 (by rw [hB1]; simp)
      obtain ⟨y0, rfl⟩ := Int.eq_ofNat_of_zero_le b0.1
      have tc := World.at_lt fc0
      have h0n : (0 : Int) < (n : Int) := by omega
      have hc1 := HS.out.cap_
      have HR := Lib.hid hB1
      have hk1 : K0 = if (64 : Int) < (y0 : Int) then none else finP [] (takeP y0 B1) := by rw [HK0.out, hB1]; rfl
      have HK1 := Lib.hid hk1
      have hS2 : ∀ P2 C2, P2 = (if c = 1 then some (⟨bb, off, none⟩ : Addr) else some ⟨bb, off + 1, none⟩) → C2 = c - 1 → Sl .u8 w P2 (n - 1) C2 B1 := fun P2 C2 e1 e2 => by
        have h := HS.out.part (i := 1) (j := n) (c := c) (by omega) (Nat.le_refl _) hc1 (Nat.le_refl _)
        rw [HR.out, List.take_of_length_le (by rw [← HR.out, HS.out.len]; exact Nat.le_refl _)] at h
        rw [e1, e2]
        simpa [Addr.add_mid] using h
      have HS2 := Lib.hid hS2
      clear hS2 hk1 hB1 hx hln
      go_upto_region 5 with (fail)
      go_cut [0, 5, 11, 12, 13, 14, 15, 16] (fun v0 v5 _ _ _ _ _ _ wy => ∃ P2 C2, v0 = .slice P2 (n - 1) C2 ∧ v5 = .int .i64 (y0 : Int) ∧ Hid (Sl .u8 w P2 (n - 1) C2 B1) ∧ wy = w.drew)
      case first =>
        refine drawn_begin 7 (fun w' => w'.blk bb = some (.cells cs TT fr)) (by kernel_rfl) ?_
        refine drawn_reads (fuel := 1) [0, 1, 2, 3, 4, 6, 5] rfl (by kernel_rfl) fc0 ?_
        repeat (first | (refine rowK_step2 rfl rfl (fun K hK => ?_); go_wp2) | (refine rowK_step rfl (fun K hK => ?_); go_simp; refine hK _ ?_; clear hK K))
        all_goals
          refine rowK_nil ⟨fun w' e1 => ?_, ?_⟩
          · clear fc0 tc
            repeat (first | (refine rowWp_step2 rfl rfl (fun K hK => ?_); go_wp2) | (refine rowWp_step rfl (fun K hK => ?_); go_simp; refine hK _ ?_; clear hK K))
            exact rowWp_nil rfl
          refine drawn_end rfl (by kernel_rfl) ?_
          intro K hK
          go_wp2_with fail
          go_meet
        case rel => exact ⟨_, _, rfl, rfl, Lib.hid (HS2.out _ _ (by simp [*]) (by omega)), rfl⟩
        case rel => exact ⟨_, _, rfl, rfl, Lib.hid (HS2.out _ _ (by simp [*]) (by omega)), rfl⟩
      case rest =>
        obtain ⟨P2, C2, rfl, rfl, hS2, rfl⟩ := hcut
        have hbr : isBytes B1 := fun x hx => HB.out x (by rw [HR.out]; simp [hx])
        have HBR := Lib.hid hbr
        clear hbr fc0 tc g0 HS2
        by_cases h64 : 64 < y0
        · have d6 : decide ((64 : Int) < (y0 : Int)) = true := by rw [decide_eq_true_eq]; omega
          have hk : K0 = none := by rw [HK1.out, if_pos (by omega)]
          have HKn := Lib.hid hk
          clear hk
          go_wp2_with fail
          go_step3
          exact ⟨rfl, rfl, HKn.out, ⟨4, by decide, rfl⟩, (Fr.refl _ _).drew⟩
        · have d6 : decide ((64 : Int) < (y0 : Int)) = false := by rw [decide_eq_false_iff_not]; omega
          have hk : K0 = finP [] (takeP y0 B1) := by rw [HK1.out, if_neg (by omega)]
          have HKn := Lib.hid hk
          clear hk
          go_wp2_with fail
          go_step3
          rename_i Kx hKx
          refine hKx _ _ (wp_there (l := 2) (NX.out 2 _ _ ⟨rfl, rfl, (by decide : 1 < 2), P2, n - 1, C2, B1, none, 0, [], [], [], [], y0, ⟨rfl, rfl, rfl, rfl⟩, (fun h => absurd h (by decide)), ⟨by simp; omega, by omega⟩, hS2.out, HBR.out, HKn.out, (OwB.start w).drew, Parked.nil _ _, by simp, fun _ _ => .nil⟩) rfl)
end
end Go.Proofs.Ytombhkekocbfoaa
