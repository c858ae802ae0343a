/- The package disk: Crash. -/
import Derived.Test.YtbjoeihcphcohaaDkC
namespace Go.Proofs.Ytbjoeihcphcohaa
open Go.RowKit Go.Dr

def crashM (m : DM) (keep : Int) : DM := { m with kept := layW m.kept (m.waits.take keep.toNat), seen := layW m.kept (m.waits.take keep.toNat), waits := [], fuse := -1, dead := false }

section
variable {w : World} {d : Nat} {m : DM} {fp : List Nat}
theorem DiskIn.frame {w' : World} {d kb sb : Nat} {p : Option Addr} {cap : Nat} {m : DM} (D : DiskIn w d kb sb p cap m) {gp : List Nat} (F : Fr gp w w') (h : ∀ k ∈ fpOf d kb sb p, k ∉ gp) : DiskIn w' d kb sb p cap m where
  hd := F.get D.hd (h d (by simp [fpOf]))
  hk := F.get D.hk (h kb (by simp [fpOf]))
  hs := F.get D.hs (h sb (by simp [fpOf]))
  hw := F.owns D.hw (fun g hg => h g (by simp only [fpOf, List.mem_cons, Option.mem_toList]; exact .inr (.inr (.inr (by cases p <;> first | exact hg | cases hg)))))
  ne1 := D.ne1
  ne2 := D.ne2
  ne3 := D.ne3
  nw := D.nw
theorem DiskAt.frame {w' : World} {m : DM} (D : DiskAt w d m fp) {gp : List Nat} (F : Fr gp w w') (h : ∀ k ∈ fp, k ∉ gp) : DiskAt w' d m fp := by
  obtain ⟨kb, sb, p, cap, D, rfl, ok⟩ := D
  exact ⟨kb, sb, p, cap, D.frame F h, rfl, ok⟩

theorem crash_end {wr W : World} {kb sb : Nat} {p : Option Addr} {kk : List Int} (keep : Int) (ok : m.Ok) (hfp : fp = fpOf d kb sb p) (n1 : d ≠ kb) (n2 : d ≠ sb) (n3 : kb ≠ sb) (FR : Fr [kb] w wr)
    (hdl : d < wr.heap.size) (hkl : kb < wr.heap.size) (hsl : sb < wr.heap.size)
    (hkr : wr.blk kb = some (.cells (ints .u8 kk) 56 (0, 0))) (hmin : kk = layW m.kept (m.waits.take keep.toNat))
    (FW : Fr [] ((wr.put sb (.cells (ints .u8 (lay m.seen 0 kk)) 56 (0, 0))).put d
      (.cells #[.slice (some ⟨kb, 0, none⟩) m.n m.n, .slice (some ⟨sb, 0, none⟩) m.n m.n, .slice none 0 0, .int .i64 (-1), .bool false] 55 (0, 0))) W) :
    ∃ fp', DiskAt W d (crashM m keep) fp' ∧ Fr fp w W ∧ ∀ k ∈ fp', k ∈ fp ∨ w.heap.size ≤ k := by
  have hLl := length_layW m.n (m.waits.take keep.toNat) m.kept ok.kl (fun x hx => ok.ws x (List.mem_of_mem_take hx))
  rw [← hmin] at hLl
  have hlay : lay m.seen 0 kk = kk := by
    have := ok.sl
    simp only [lay, List.take_zero, List.nil_append, Nat.zero_add]
    rw [List.drop_of_length_le (by omega), List.append_nil]
  rw [hlay] at FW
  have hdfp : d ∈ fp := by rw [hfp]; simp [fpOf]
  have hkfp : kb ∈ fp := by rw [hfp]; simp [fpOf]
  have hsfp : sb ∈ fp := by rw [hfp]; simp [fpOf]
  refine ⟨fpOf d kb sb none, ⟨kb, sb, none, 0, DiskIn.frame (gp := []) ⟨?_, ?_, ?_, World.ownsRow_nil _ _ _ _, n1, n2, n3, fun g h => by cases h⟩ FW (fun _ _ h => by cases h), rfl, ?_⟩, ?_, ?_⟩
  · rw [World.at_put_same _ _ _ (by simpa using hdl)]; rfl
  · rw [World.at_put_other _ _ _ _ n1, World.at_put_other _ _ _ _ (fun e => n3 e.symm), hkr]; simp only [crashM, hmin]
  · rw [World.at_put_other _ _ _ _ n2, World.at_put_same _ _ _ hsl]; simp only [crashM, hmin]
  · exact ⟨ok.n1, ok.n2, by simp only [crashM]; rw [← hmin]; exact hLl, by simp only [crashM]; rw [← hmin]; exact hLl, by simp [crashM], by simp [crashM], fun x hx => by cases hx⟩
  · exact (((FR.mono (fun j hj _ => by simp at hj; subst hj; exact hkfp)).put _ _ (fun _ => hsfp)).put _ _ (fun _ => hdfp)).seq FW (fun _ h => by cases h)
  · intro j hj
    left
    rw [hfp]
    simp only [fpOf, List.mem_cons, Option.map_none, Option.toList_none, List.not_mem_nil, or_false] at hj ⊢
    rcases hj with rfl | rfl | rfl <;> simp

set_option maxHeartbeats 1000000 in
theorem crash_any (D : DiskAt w d m fp) (keep : Int) (hwl : m.waits.length ≤ 1000000) :
    Calls Try.prog 18 #[.pointer (some ⟨d, 0, none⟩), .int .i64 keep] w fun e w' => e = .returned (.tuple #[]) ∧
      ∃ fp', DiskAt w' d (crashM m keep) fp' ∧ Fr fp w w' ∧ ∀ k ∈ fp', k ∈ fp ∨ w.heap.size ≤ k := by
  obtain ⟨kb, sb, p, cap, ⟨hd, hk, hs, hw, n1, n2, n3, nw⟩, hfp, ok⟩ := D
  have HS := Lib.hid hs
  have HW := Lib.hid hw
  have NW := Lib.hid nw
  have Hfp := Lib.hid hfp
  clear hs hw nw hfp
  go_enter Try.func18, Try.ntmps18
  go_wp2
  go_loopw [11] (fun i wr => ∃ k : Nat, k ≤ m.waits.length ∧ k ≤ keep.toNat ∧ i = .int .i64 k ∧ Fr [kb] w wr ∧ wr.blk kb = some (.cells (ints .u8 (layW m.kept (m.waits.take k))) 56 (0, 0))) (fun i _ => m.waits.length - (intOf i).toNat)
  case atStart => exact ⟨0, Nat.zero_le _, Nat.zero_le _, rfl, Fr.refl _ _, by simpa [layW] using hk⟩
  case round =>
    obtain ⟨k, hk', hkk, rfl, FR, hkr⟩ := hrel
    have hdr := FR.get hd (by simpa using n1)
    have hdl := World.at_lt hdr
    have hkl := World.at_lt hkr
    by_cases hlt : k < m.waits.length ∧ (k : Int) < keep
    · obtain ⟨hlt, hke⟩ := hlt
      rcases HW.out.2 with ⟨he, h0⟩ | ⟨g, cap', cur, he, _, hg, hnc, hcm, hcs, htake⟩
      · omega
      simp only [Value.slice.injEq] at he
      obtain ⟨rfl, _, rfl⟩ := he
      have hgk : g ≠ kb := (NW.out g rfl).2.1
      have hgd : g ≠ d := (NW.out g rfl).1
      have hgr := FR.get hg (by simpa using hgk)
      have hgl := World.at_lt hgr
      obtain ⟨hx1, hx2⟩ := ok.ws m.waits[k] (List.getElem_mem hlt)
      have hcur := extract_flat 65 (fun x : Nat × List Int => Value.int .i64 x.1 :: x.2.map (Value.int .u8)) m.waits k hlt (fun x hx => by simp [(ok.ws x hx).2]) cur htake
      have hts := List.take_succ_eq_append_getElem hlt
      have hLl := length_layW m.n (m.waits.take k) m.kept ok.kl (fun x hx => ok.ws x (List.mem_of_mem_take hx))
      have hstep := layW_snoc m.kept (m.waits.take k) m.waits[k]
      rw [← hts] at hstep
      generalize m.waits[k] = x at hcur hx1 hx2 hstep
      obtain ⟨xa, xb⟩ := x
      dsimp only at hcur hx1 hx2 hstep
      have hfit : k * 65 + 65 ≤ cur.size := by rw [hcs]; omega
      have hn2 := ok.n2
      have hfit2 : xa * 64 + 64 ≤ (layW m.kept (List.take k m.waits)).length := by omega
      have HST := Lib.hid hstep
      have HLL := Lib.hid hLl
      have HCS := Lib.hid hcs
      have HT := Lib.hid htake
      clear hstep hLl hts hcs htake hg hk hd
      go_wp2
      refine drawn_head 9 (by kernel_rfl) rfl rfl (by kernel_rfl) ?_
      change rowK _ _ _ [0,1,2,3,4,5,6,7,8] _ _
      repeat (refine rowK_step rfl (fun K hK => ?_); go_simp; refine hK _ ?_; clear hK K)
      refine rowK_nil ?_
      intro K hK
      go_wp2
      go_roundw
      case rel =>
        refine ⟨k + 1, by omega, by omega, by go_num, ((FR.put _ _ (fun _ => by simp)).alloc _).drew, ?_⟩
        rw [HST.out]
        go_simp
      case measure => simp [intOf]; omega
    · have hds := FR.get HS.out (by simp; exact fun e => n3 e.symm)
      have hsl := World.at_lt hds
      have n1' : kb ≠ d := fun e => n1 e.symm
      have n2' : sb ≠ d := fun e => n2 e.symm
      have n3' : sb ≠ kb := fun e => n3 e.symm
      have hmin : m.waits.take k = m.waits.take keep.toNat := by
        by_cases h : k < m.waits.length
        · rw [show k = keep.toNat from by omega]
        · rw [List.take_of_length_le (by omega), List.take_of_length_le (by omega)]
      have hLl := length_layW m.n (m.waits.take k) m.kept ok.kl (fun x hx => ok.ws x (List.mem_of_mem_take hx))
      have hsl2 := ok.sl
      have hfit1 : m.n * 64 ≤ (layW m.kept (m.waits.take k)).length := by omega
      have hfit3 : (layW m.kept (m.waits.take k)).length ≤ m.n * 64 := by omega
      have hfit2 : m.n * 64 ≤ m.seen.length := by omega
      obtain ⟨kk, hkk2⟩ : ∃ kk, kk = layW m.kept (m.waits.take k) := ⟨_, rfl⟩
      rw [← hkk2] at hkr hfit1 hfit3 hLl
      rw [hmin] at hkk2
      have HMIN := Lib.hid hkk2
      have HLL := Lib.hid hLl
      have HSL := Lib.hid hsl2
      clear hd hk hmin hLl hsl2 hkk2
      have HH := Lib.hid hlt
      clear hlt
      by_cases hlt : k < m.waits.length
      · have hke : keep ≤ k := by have := HH.out; omega
        rcases HW.out.2 with ⟨he, h0⟩ | ⟨g, cap', cur, he, _, hg, hnc, hcm, hcs, htake⟩
        · omega
        simp only [Value.slice.injEq] at he
        obtain ⟨rfl, _, rfl⟩ := he
        have hgk : g ≠ kb := (NW.out g rfl).2.1
        have hgd : g ≠ d := (NW.out g rfl).1
        have hgr := FR.get hg (by simpa using hgk)
        have hgl := World.at_lt hgr
        have hfit : k * 65 + 65 ≤ cur.size := by rw [hcs]; omega
        have hcur := extract_flat 65 (fun x : Nat × List Int => Value.int .i64 x.1 :: x.2.map (Value.int .u8)) m.waits k hlt (fun x hx => by simp [(ok.ws x hx).2]) cur htake
        obtain ⟨hx1, hx2⟩ := ok.ws m.waits[k] (List.getElem_mem hlt)
        generalize m.waits[k] = x at hcur hx1 hx2
        obtain ⟨xa, xb⟩ := x
        dsimp only at hcur hx1 hx2
        have HT := Lib.hid htake
        clear htake hcs hg
        go_wp2
        refine drawn_head 8 (by kernel_rfl) rfl rfl (by kernel_rfl) ?_
        change rowK _ _ _ [0,1,2,3,4,5,6,7] _ _
        repeat (refine rowK_step rfl (fun K hK => ?_); go_simp; refine hK _ ?_; clear hK K)
        refine rowK_nil ?_
        intro K hK
        go_wp2
        go_end0
        exact ⟨rfl, crash_end keep ok Hfp.out n1 n2 n3 FR hdl hkl hsl hkr HMIN.out (((Fr.refl _ _).alloc _).drew)⟩
      · have hge : m.waits.length ≤ k := by omega
        go_wp2
        refine drawn_head 8 (by kernel_rfl) rfl rfl (by kernel_rfl) ?_
        change rowK _ _ _ [0,1,2,3,4,5,6,7] _ _
        repeat (refine rowK_step rfl (fun K hK => ?_); go_simp; refine hK _ ?_; clear hK K)
        refine rowK_nil ?_
        intro K hK
        go_wp2
        go_end0
        exact ⟨rfl, crash_end keep ok Hfp.out n1 n2 n3 FR hdl hkl hsl hkr HMIN.out ((Fr.refl _ _).drew)⟩
end
end Go.Proofs.Ytbjoeihcphcohaa
