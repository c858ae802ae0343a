/- The package disk: Sync, Read, Kept, Crash. -/
import Derived.Test.YtbjoeihcphcohaaDkB
namespace Go.Proofs.Ytbjoeihcphcohaa
open Go.RowKit Go.Dr

/-- What waits, laid one behind the other. -/
def layW (c : List Int) (ws : List (Nat × List Int)) : List Int := ws.foldl (fun c x => lay c (x.1 * 64) x.2) c
theorem length_layW (n : Nat) : ∀ (ws : List (Nat × List Int)) (c : List Int), c.length = 64 * n → (∀ x ∈ ws, x.1 < n ∧ x.2.length = 64) → (layW c ws).length = 64 * n
  | [], c, h, _ => h
  | x :: r, c, h, hw => by
    have := hw x (List.mem_cons_self ..)
    exact length_layW n r (lay c (x.1 * 64) x.2) (by rw [length_lay _ _ _ (by omega)]; exact h) (fun y hy => hw y (List.mem_cons_of_mem _ hy))
theorem layW_snoc (c : List Int) (ws : List (Nat × List Int)) (x : Nat × List Int) : layW c (ws ++ [x]) = lay (layW c ws) (x.1 * 64) x.2 := by simp [layW]

theorem drop_flat {α : Type} (s : Nat) (f : α → List Value) : ∀ (ws : List α) (k : Nat) (hk : k < ws.length), (∀ x ∈ ws, (f x).length = s) →
    ((ws.flatMap f).drop (k * s)).take s = f ws[k]
  | x :: r, 0, _, h => by
    have := h x (List.mem_cons_self ..)
    simp [← this]
  | x :: r, k + 1, hk, h => by
    have hx := h x (List.mem_cons_self ..)
    have ih := drop_flat s f r k (by simpa using hk) (fun y hy => h y (List.mem_cons_of_mem _ hy))
    simp only [List.flatMap_cons, List.getElem_cons_succ]
    rw [show (k + 1) * s = (f x).length + k * s from by rw [hx, Nat.add_mul, Nat.one_mul, Nat.add_comm], ← List.drop_drop, List.drop_left]
    exact ih
theorem extract_flat {α : Type} (s : Nat) (f : α → List Value) (ws : List α) (k : Nat) (hk : k < ws.length) (h : ∀ x ∈ ws, (f x).length = s) (cur : Array Value)
    (hc : cur.toList.take (ws.length * s) = ws.flatMap f) : cur.extract (k * s) (k * s + s) = (f ws[k]).toArray := by
  have h1 := drop_flat s f ws k hk h
  rw [← hc] at h1
  apply Array.ext'
  have hle : k * s + s ≤ ws.length * s := by rw [← Nat.succ_mul]; exact Nat.mul_le_mul_right _ hk
  simp only [Array.toList_extract, List.extract_eq_take_drop]
  rw [← h1, List.drop_take, List.take_take]
  congr 1
  omega

section
variable {w : World} {d : Nat} {m : DM} {fp : List Nat}

theorem sync_dead (D : DiskAt w d m fp) (hl : livesM m = false) :
    Calls Try.prog 12 #[.pointer (some ⟨d, 0, none⟩)] w fun e w' => e = .returned (.int .i64 150) ∧ DiskAt w' d (aliveM m) fp ∧ Fr fp w w' := by
  have hA := alive_any D
  rw [hl] at hA
  have HA := Lib.hid hA
  clear hA hl
  go_enter Try.func12, Try.ntmps12
  go_wp2_with (go_at_call 25; refine HA.out.mono ?_; rintro e w' ⟨rfl, D1, F1⟩)
  go_ret
  exact ⟨rfl, D1, F1⟩

set_option maxHeartbeats 1000000 in
theorem sync_ok (D : DiskAt w d m fp) (hl : livesM m = true) (hwl : m.waits.length ≤ 1000000) :
    Calls Try.prog 12 #[.pointer (some ⟨d, 0, none⟩)] w fun e w' => e = .returned (.int .i64 0) ∧
      ∃ fp', DiskAt w' d { aliveM m with kept := layW m.kept m.waits, waits := [] } fp' ∧ Fr fp w w' ∧ ∀ k ∈ fp', k ∈ fp ∨ w.heap.size ≤ k := by
  have hA := alive_any D
  rw [hl] at hA
  obtain ⟨m1, hm1⟩ : ∃ m1, aliveM m = m1 := ⟨_, rfl⟩
  obtain ⟨s1, s2, s3, s4⟩ := aliveM_same m
  rw [hm1] at hA s1 s2 s3 s4 ⊢
  rw [← s4] at hwl
  have HA := Lib.hid hA
  have H2 := Lib.hid s2
  have H4 := Lib.hid s4
  clear hA hl s1 s2 s3 s4 hm1 D
  go_enter Try.func12, Try.ntmps12
  go_wp2_with fail
  refine HA.out.mono ?_
  rintro e w1 ⟨rfl, ⟨kb, sb, p, cap, ⟨hd, hk, hs, hw, n1, n2, n3, nw⟩, hfp, ok⟩, F1⟩
  have HS := Lib.hid hs
  have HW := Lib.hid hw
  have NW := Lib.hid nw
  have HF := Lib.hid F1
  have Hfp := Lib.hid hfp
  clear hs hw nw F1 hfp
  go_wp2
  go_loopw [13] (fun i wr => ∃ k : Nat, k ≤ m1.waits.length ∧ i = .int .i64 k ∧ Fr [kb] w1 wr ∧ wr.blk kb = some (.cells (ints .u8 (layW m1.kept (m1.waits.take k))) 56 (0, 0))) (fun i _ => m1.waits.length - (intOf i).toNat)
  case atStart => exact ⟨0, Nat.zero_le _, rfl, Fr.refl _ _, by simpa [layW] using hk⟩
  case round =>
    obtain ⟨k, hk', rfl, FR, hkr⟩ := hrel
    have hdr := FR.get hd (by simpa using n1)
    have hdl := World.at_lt hdr
    have hkl := World.at_lt hkr
    by_cases hlt : k < m1.waits.length
    · rcases HW.out.2 with ⟨he, h0⟩ | ⟨g, cap', cur, he, _, hg, hnc, hcm, hcs, htake⟩
      · omega
      simp only [Value.slice.injEq] at he
      obtain ⟨rfl, _, rfl⟩ := he
      have hgk : g ≠ kb := (NW.out g rfl).2.1
      have hgd : g ≠ d := (NW.out g rfl).1
      have hgr := FR.get hg (by simpa using hgk)
      have hgl := World.at_lt hgr
      obtain ⟨hx1, hx2⟩ := ok.ws m1.waits[k] (List.getElem_mem hlt)
      have hcur := extract_flat 65 (fun x : Nat × List Int => Value.int .i64 x.1 :: x.2.map (Value.int .u8)) m1.waits k hlt (fun x hx => by simp [(ok.ws x hx).2]) cur htake
      have hts := List.take_succ_eq_append_getElem hlt
      have hLl := length_layW m1.n (m1.waits.take k) m1.kept ok.kl (fun x hx => ok.ws x (List.mem_of_mem_take hx))
      have hstep := layW_snoc m1.kept (m1.waits.take k) m1.waits[k]
      rw [← hts] at hstep
      generalize m1.waits[k] = x at hcur hx1 hx2 hstep
      obtain ⟨xa, xb⟩ := x
      dsimp only at hcur hx1 hx2 hstep
      have hfit : k * 65 + 65 ≤ cur.size := by rw [hcs]; omega
      have hn2 := ok.n2
      have hfit2 : xa * 64 + 64 ≤ (layW m1.kept (List.take k m1.waits)).length := by omega
      have HST := Lib.hid hstep
      have HLL := Lib.hid hLl
      have HCS := Lib.hid hcs
      have HT := Lib.hid htake
      clear hstep hLl hts hcs htake hg hk hd
      go_wp2
      refine drawn_head 9 (by kernel_rfl) rfl rfl (by kernel_rfl) ?_
      change rowK _ _ _ [0,1,2,3,4,5,6,7,8] _ _
      repeat (refine rowK_step rfl (fun K hK => ?_); go_simp; refine hK _ ?_; clear hK K)
      refine rowK_nil ?_
      intro K hK
      go_wp2
      go_roundw
      case rel =>
        refine ⟨k + 1, by omega, by go_num, ((FR.put _ _ (fun _ => by simp)).alloc _).drew, ?_⟩
        rw [HST.out]
        go_simp
      case measure => simp [intOf]; omega
    · obtain rfl : k = m1.waits.length := by omega
      have hds := FR.get HS.out (by simp; exact fun e => n3 e.symm)
      clear hd hk
      go_wp2
      go_ret
      rw [List.take_length] at hkr
      have hdfp : d ∈ fp := by rw [Hfp.out]; simp [fpOf]
      have hkfp : kb ∈ fp := by rw [Hfp.out]; simp [fpOf]
      refine ⟨rfl, fpOf d kb sb none, ⟨kb, sb, none, 0, ⟨?_, ?_, ?_, World.ownsRow_nil _ _ _ _, n1, n2, n3, fun g h => by cases h⟩, rfl, ?_⟩, ?_, ?_⟩
      · rw [World.at_put_same _ _ _ hdl]; rfl
      · rw [World.at_put_other _ _ _ _ n1, ← H2.out, ← H4.out]; exact hkr
      · rw [World.at_put_other _ _ _ _ n2]; exact hds
      · exact ⟨ok.n1, ok.n2, by rw [← H2.out, ← H4.out]; exact length_layW _ _ _ ok.kl ok.ws, ok.sl, ok.f1, ok.f2, fun x hx => by cases hx⟩
      · exact (HF.out.seq FR (fun j hj _ => by simp at hj; subst hj; exact hkfp)).put _ _ (fun _ => hdfp)
      · intro j hj
        left
        rw [Hfp.out]
        simp only [fpOf, List.mem_cons, Option.map_none, Option.toList_none, List.not_mem_nil, or_false] at hj ⊢
        rcases hj with rfl | rfl | rfl <;> simp

def noBlock (m : DM) (at_ : Int) : Bool := decide (at_ < 0) || decide ((m.n : Int) ≤ at_)
theorem read_arg (D : DiskAt w d m fp) (at_ : Int) (h : noBlock m at_ = true) :
    Calls Try.prog 14 #[.pointer (some ⟨d, 0, none⟩), .int .i64 at_] w fun e w' => e = .returned (.tuple #[.slice none 0 0, .int .i64 1]) ∧ w = w' := by
  obtain ⟨kb, sb, p, cap, ⟨hd, hk, hs, hw, ne1, ne2, ne3, nw⟩, _, ok⟩ := D
  clear hk hs hw nw
  have hn := ok.n2
  by_cases h1 : at_ < 0
  · clear h
    go_enter Try.func14, Try.ntmps14
    go_wp2
    go_ret2
    exact ⟨rfl, rfl⟩
  · have h2 : (m.n : Int) ≤ at_ := by simp [noBlock, h1] at h; omega
    clear h
    go_enter Try.func14, Try.ntmps14
    go_wp2
    go_ret2
    exact ⟨rfl, rfl⟩
theorem read_dead (D : DiskAt w d m fp) (at_ : Int) (h : noBlock m at_ = false) (hdead : m.dead = true) :
    Calls Try.prog 14 #[.pointer (some ⟨d, 0, none⟩), .int .i64 at_] w fun e w' => e = .returned (.tuple #[.slice none 0 0, .int .i64 150]) ∧ w = w' := by
  obtain ⟨kb, sb, p, cap, ⟨hd, hk, hs, hw, ne1, ne2, ne3, nw⟩, _, ok⟩ := D
  clear hk hs hw nw
  have hn := ok.n2
  simp only [noBlock, Bool.or_eq_false_iff, decide_eq_false_iff_not] at h
  obtain ⟨h1, h2⟩ := h
  have h1b : 0 ≤ at_ := by omega
  have h2b : at_ < m.n := by omega
  clear h1 h2
  go_enter Try.func14, Try.ntmps14
  go_wp2
  go_ret2
  exact ⟨rfl, rfl⟩
def blockOf (l : List Int) (at_ : Nat) : List Int := (l.take (at_ * 64 + 64)).drop (at_ * 64)
theorem read_ok (D : DiskAt w d m fp) (at_ : Int) (h : noBlock m at_ = false) (hdead : m.dead = false) :
    Calls Try.prog 14 #[.pointer (some ⟨d, 0, none⟩), .int .i64 at_] w fun e w' => ∃ v bb, e = .returned (.tuple #[v, .int .i64 0]) ∧ BytesAt w' v bb (blockOf m.seen at_.toNat) ∧ Fr [] w w' ∧ w.heap.size ≤ bb := by
  obtain ⟨kb, sb, p, cap, ⟨hd, hk, hs, hw, ne1, ne2, ne3, nw⟩, _, ok⟩ := D
  clear hk hw nw
  have hn := ok.n2
  simp only [noBlock, Bool.or_eq_false_iff, decide_eq_false_iff_not] at h
  obtain ⟨h1, h2⟩ := h
  have h1b : 0 ≤ at_ := by omega
  have h2b : at_ < m.n := by omega
  have hfit : at_.toNat * 64 + 64 ≤ m.seen.length := by have := ok.sl; omega
  have hlen : (blockOf m.seen at_.toNat).length = 64 := by simp [blockOf]; omega
  have HL := Lib.hid hlen
  clear h1 h2 hlen
  go_enter Try.func14, Try.ntmps14
  go_wp2
  go_ret2
  refine ⟨_, w.heap.size, rfl, ⟨64, ints .u8 (blockOf m.seen at_.toNat), 56, ?_, ?_, ?_, ?_⟩, (Fr.refl _ _).alloc _, Nat.le_refl _⟩
  · rw [HL.out]; rfl
  · rw [World.at_alloc_new _ _ _ rfl]; simp [ints, blockOf, List.map_take, List.map_drop]
  · rw [size_ints]; exact Nat.le_refl _
  · rw [extract_ints]; simp

set_option maxHeartbeats 1000000 in
theorem kept_any (D : DiskAt w d m fp) :
    Calls Try.prog 15 #[.pointer (some ⟨d, 0, none⟩)] w fun e w' => ∃ v bb, e = .returned v ∧ BytesAt w' v bb m.kept ∧ Fr [] w w' ∧ w.heap.size ≤ bb := by
  obtain ⟨kb, sb, p, cap, ⟨hd, hk, hs, hw, n1, n2, n3, nw⟩, _, ok⟩ := D
  clear hs hw nw
  have hn := ok.n2
  have hn1 := ok.n1
  have hm0 : (0 : Int) ≤ m.n * 64 := by omega
  have hm1 : (m.n : Int) * 64 ≤ 1099511627776 := by omega
  have hm2 : ((m.n : Int) * 64).toNat = m.n * 64 := by omega
  have hdl := World.at_lt hd
  go_enter Try.func15, Try.ntmps15
  go_wp2
  have hO : OwnsR (w.alloc (.cells (ints .u8 (zs (m.n * 64))) 5)) 5 1 (some ⟨w.heap.size, 0, none⟩) 0 (m.n * 64) [] :=
    World.ownsRow_made w _ _ (Nat.zero_le _) (by unfold maxLen; omega) (by rw [size_ints, length_zs, Nat.mul_one])
  go_loopw [3, 18] (fun v i wr => ∃ (k : Nat) (p : Option Addr) (cap : Nat), k ≤ m.n ∧ i = .int .i64 k ∧ v = .slice p (k * 64) cap ∧ OwnsR wr 5 1 p (k * 64) cap ((m.kept.take (k * 64)).map (Value.int .u8)) ∧ Fr [] w wr ∧
      (∀ g, p.map (·.block) = some g → w.heap.size ≤ g)) (fun _ i _ => m.n - (intOf i).toNat)
  case atStart => exact ⟨0, some ⟨w.heap.size, 0, none⟩, m.n * 64, Nat.zero_le _, rfl, by simp, by simpa using hO, (Fr.refl _ _).alloc _, fun g hg => by cases hg; exact Nat.le_refl _⟩
  case round =>
    obtain ⟨k, p, cap, hk', rfl, rfl, HO, FR, hpb⟩ := hrel
    have hkr := FR.get hk (by simp)
    have hkl := World.at_lt hkr
    by_cases hlt : k < m.n
    · have hfit : k * 64 + 64 ≤ m.kept.length := by have := ok.kl; omega
      have HO' := Lib.hid HO
      have Hpb := Lib.hid hpb
      clear HO hpb hd hk
      have hbl : (List.drop (k * 64) (List.take (k * 64 + 64) m.kept)).length = 64 := by simp; omega
      have HBL := Lib.hid hbl
      clear hbl
      go_wp2_with (at_builtin; refine wpList_app rfl (.tmp 22) (.tmp 23) 31 rfl E31 (by omega) p (k * 64) cap ((m.kept.take (k * 64)).map (Value.int .u8)) rfl ?h1 wr.heap.size 0 64 64 rfl (ints .u8 (List.drop (k * 64) (List.take (k * 64 + 64) m.kept))) 56 (0, 0) ?h2 ((List.drop (k * 64) (List.take (k * 64 + 64) m.kept)).map (Value.int .u8)) ?h3 ?h4 ?h5 ?h6 ?h7 ?h8)
      case h1 => exact ((Fr.refl [] wr).alloc _).owns HO'.out (fun _ _ => by simp)
      case h2 => rw [World.at_alloc_new _ _ _ rfl]; simp [ints, List.map_take, List.map_drop]
      case h3 => rw [extract_ints, toList_ints, List.take_of_length_le (by rw [HBL.out]; omega), List.drop_zero]
      case h4 => rw [size_ints, HBL.out]; omega
      case h5 => exact ones_map_int _ _
      case h6 => omega
      case h7 => omega
      case h8 =>
        intro p2 cap2 w2 hR
        have HR := Lib.hid hR
        clear hR
        go_wp2
        go_roundw
        case rel =>
          refine ⟨k + 1, p2, cap2, by omega, by go_num, by rw [Nat.add_mul, Nat.one_mul], ?_, (FR.alloc _).seq HR.out.fr (fun b hb hlt' => by have := Hpb.out b (by simpa using hb); omega), ?_⟩
          · have := HR.out.owns
            rw [Nat.add_mul, Nat.one_mul]
            have e : List.take (k * 64) m.kept ++ List.drop (k * 64) (List.take (k * 64 + 64) m.kept) = List.take (k * 64 + 64) m.kept := by
              have := List.take_append_drop (k * 64) (List.take (k * 64 + 64) m.kept)
              rwa [List.take_take, Nat.min_eq_left (by omega)] at this
            rw [← e]
            simpa [List.map_take, List.map_drop] using this
          · intro g hg
            rcases HR.out.new g hg with h | h
            · exact Hpb.out g h
            · have := FR.size; simp at h; omega
        case measure => simp [intOf]; omega
    · obtain rfl : k = m.n := by omega
      go_wp2
      go_ret
      rcases HO.2 with ⟨he, h0⟩ | ⟨g, cap', cur, he, _, hg, hnc, hcm, hcs, htake⟩
      · omega
      simp only [Value.slice.injEq] at he
      obtain ⟨rfl, _, rfl⟩ := he
      have hkl' := ok.kl
      rw [List.take_of_length_le (l := m.kept) (by omega), Nat.mul_one] at htake
      rw [Nat.mul_one] at hcs
      refine ⟨_, g, rfl, ⟨cap, cur, 5, ?_, hg, by omega, ?_⟩, FR, hpb g rfl⟩
      · rw [hkl', Nat.mul_comm]; rfl
      · apply Array.ext'
        rw [toList_ints, ← htake, hkl', Nat.mul_comm]
        simp only [Array.toList_extract, List.extract_eq_take_drop, List.drop_zero, Nat.sub_zero]
end
end Go.Proofs.Ytbjoeihcphcohaa
