/- The package disk: what each of its calls does, on a model of a disk. -/
import Derived.Test.YtbjoeihcphcohaaRows
import Derived.Test.YtbjoeihcphcohaaMem
import Derived.Test.YtbjoeihcphcohaaDrawn
namespace Go.Proofs.Ytbjoeihcphcohaa
open Go.RowKit Go.Dr

/-! ### The types -/
theorem E52 : ElemT Try.prog 52 56 64 64 (ints .u8 (zs 64)) := ⟨Try.underlying52, by kernel_rfl, by rw [size_ints, length_zs]⟩
theorem E53 : ElemT Try.prog 53 58 65 72 (Value.int .i64 0 :: (zs 64).map (Value.int .u8)).toArray := ⟨Try.underlying53, by kernel_rfl, by simp [length_zs]⟩
theorem E31 : ElemT Try.prog 31 5 1 1 (ints .u8 (zs 1)) := ⟨Try.underlying31, by kernel_rfl, by rw [size_ints, length_zs]⟩
@[go_sem] theorem zero56 (w : World) : (zeroValue 56).run Try.prog w = .ok (.agg (ints .u8 (zs 64))) w := by kernel_rfl
@[go_sem] theorem zero58 (w : World) : (zeroValue 58).run Try.prog w = .ok (.agg (Value.int .i64 0 :: (zs 64).map (Value.int .u8)).toArray) w := by kernel_rfl
@[go_sem] theorem mk52 (w : World) (kl kc : IntKind) (l c : Int) (h0 : 0 ≤ l) (hlc : l ≤ c) (hc : c ≤ 1099511627776) :
    (Instr.makeSlice 52 (.int kl l) (.int kc c)).run Try.prog w = .ok (.slice (some ⟨w.heap.size, 0, none⟩) l.toNat c.toNat) (w.alloc (.cells (ints .u8 (zs (c.toNat * 64))) 56)) := by
  rw [E52.make w kl kc l c h0 hlc (by omega) (by omega), madeCells_ints _ _ _ (by omega)]
@[go_sem] theorem mk31 (w : World) (kl kc : IntKind) (l c : Int) (h0 : 0 ≤ l) (hlc : l ≤ c) (hc : c ≤ 1099511627776) :
    (Instr.makeSlice 31 (.int kl l) (.int kc c)).run Try.prog w = .ok (.slice (some ⟨w.heap.size, 0, none⟩) l.toNat c.toNat) (w.alloc (.cells (ints .u8 (zs c.toNat)) 5)) := by
  rw [E31.make w kl kc l c h0 hlc (by omega) (by omega), madeCells_ints _ _ _ (by omega), Nat.mul_one]

@[go_sem] theorem one53 (w : World) (cs : Array Value) (h : cs.size = 65) : (buildOneK 53 #[(0, .agg cs)]).run Try.prog w = .ok (.slice (some ⟨w.heap.size, 0, none⟩) 1 1) (w.alloc (.cells cs 58)) :=
  E53.buildOne (by omega) (by omega) w (.agg cs) h

/-! ### The model -/
structure DM where
  n : Nat
  kept : List Int
  seen : List Int
  waits : List (Nat × List Int)
  fuse : Int
  dead : Bool
def flatW (ws : List (Nat × List Int)) : List Value := ws.flatMap fun x => Value.int .i64 x.1 :: x.2.map (Value.int .u8)
structure DM.Ok (m : DM) : Prop where
  n1 : 1 ≤ m.n
  n2 : m.n ≤ 4096
  kl : m.kept.length = 64 * m.n
  sl : m.seen.length = 64 * m.n
  f1 : -1 ≤ m.fuse
  f2 : m.fuse ≤ 9223372036854775807
  ws : ∀ x ∈ m.waits, x.1 < m.n ∧ x.2.length = 64
structure DiskIn (w : World) (d kb sb : Nat) (p : Option Addr) (cap : Nat) (m : DM) : Prop where
  hd : w.blk d = some (.cells #[.slice (some ⟨kb, 0, none⟩) m.n m.n, .slice (some ⟨sb, 0, none⟩) m.n m.n, .slice p m.waits.length cap, .int .i64 m.fuse, .bool m.dead] 55 (0, 0))
  hk : w.blk kb = some (.cells (ints .u8 m.kept) 56 (0, 0))
  hs : w.blk sb = some (.cells (ints .u8 m.seen) 56 (0, 0))
  hw : OwnsR w 58 65 p m.waits.length cap (flatW m.waits)
  ne1 : d ≠ kb
  ne2 : d ≠ sb
  ne3 : kb ≠ sb
  nw : ∀ g, p.map (·.block) = some g → g ≠ d ∧ g ≠ kb ∧ g ≠ sb
def fpOf (d kb sb : Nat) (p : Option Addr) : List Nat := d :: kb :: sb :: (p.map (·.block)).toList
def DiskAt (w : World) (d : Nat) (m : DM) (fp : List Nat) : Prop := ∃ kb sb p cap, DiskIn w d kb sb p cap m ∧ fp = fpOf d kb sb p ∧ m.Ok

set_option maxHeartbeats 400000 in
theorem new_any (b : Int) (w : World) : Calls Try.prog 8 #[.int .i64 b] w fun e w' => ∃ d fp, e = .returned (.pointer (some ⟨d, 0, none⟩)) ∧
    DiskAt w' d ⟨(max 1 (min b 4096)).toNat, zs (64 * (max 1 (min b 4096)).toNat), zs (64 * (max 1 (min b 4096)).toNat), [], -1, false⟩ fp ∧ Fr [] w w' ∧ ∀ k ∈ fp, w.heap.size ≤ k := by
  obtain ⟨n, hn1, hn2, hn⟩ : ∃ n : Int, 1 ≤ n ∧ n ≤ 4096 ∧ max 1 (min b 4096) = n := ⟨_, by omega, by omega, rfl⟩
  have hn3 : 0 ≤ n := by omega
  have hn4 : n ≤ 1099511627776 := by omega
  go_enter Try.func8, Try.ntmps8
  go_wp2
  refine drawn_begin 7 (fun _ => True) (by kernel_rfl) ?_
  refine drawn_reads (fuel := 5) [0, 2] rfl (by kernel_rfl) trivial ?_
  repeat (refine rowK_step rfl (fun K hK => ?_); go_simp; refine hK _ ?_; clear hK K)
  refine rowK_nil ⟨fun w' _ => ?_, ?_⟩
  · repeat (refine rowWp_step rfl (fun K hK => ?_); go_simp; refine hK _ ?_; clear hK K)
    exact rowWp_nil rfl
  refine drawn_next2 1 3 (fuel := 4) rfl rfl (by kernel_rfl) ?_ ?_
  all_goals
    intro K hK
    go_wp2
    refine ⟨trivial, ?_⟩
  · refine drawn_next 3 (fuel := 3) rfl (by kernel_rfl) ?_
    intro K hK
    go_wp2
    refine ⟨trivial, ?_⟩
    refine drawn_reads (fuel := 2) [4] rfl (by kernel_rfl) trivial ?_
    repeat (refine rowK_step rfl (fun K hK => ?_); go_simp; refine hK _ ?_; clear hK K)
    refine rowK_nil ⟨fun w' _ => ?_, ?_⟩
    · repeat (refine rowWp_step rfl (fun K hK => ?_); go_simp; refine hK _ ?_; clear hK K)
      exact rowWp_nil rfl
    refine drawn_next 5 (fuel := 1) rfl (by kernel_rfl) ?_
    intro K hK
    go_wp2
    refine ⟨trivial, ?_⟩
    refine drawn_reads (fuel := 0) [6] rfl (by kernel_rfl) trivial ?_
    repeat (refine rowK_step rfl (fun K hK => ?_); go_simp; refine hK _ ?_; clear hK K)
    refine rowK_nil ⟨fun w' _ => ?_, ?_⟩
    · repeat (refine rowWp_step rfl (fun K hK => ?_); go_simp; refine hK _ ?_; clear hK K)
      exact rowWp_nil rfl
    refine drawn_end (ol := []) rfl (by kernel_rfl) ?_
    intro K hK
    go_wp2
    go_ret
    rw [hn]
    refine ⟨_, _, rfl, ⟨w.heap.size, w.heap.size + 1, none, 0, ⟨?_, ?_, ?_, World.ownsRow_nil _ _ _ _, ?_, ?_, ?_, fun g h => by cases h⟩, rfl, ⟨by dsimp only; omega, by dsimp only; omega, by dsimp only; rw [length_zs], by dsimp only; rw [length_zs], by dsimp only; omega, by dsimp only; omega, fun x hx => by cases hx⟩⟩, ?_, ?_⟩
    · simp [World.at_alloc, World.at_drew] <;> omega
    · simp [World.at_alloc, World.at_drew, Nat.mul_comm] <;> omega
    · simp [World.at_alloc, World.at_drew, Nat.mul_comm] <;> omega
    · omega
    · omega
    · omega
    · exact ((((Fr.refl _ _).alloc _).alloc _).alloc _).drew
    · simp [fpOf]; omega
  · refine drawn_next 1 (fuel := 3) rfl (by kernel_rfl) ?_
    intro K hK
    go_wp2
    refine ⟨trivial, ?_⟩
    refine drawn_reads (fuel := 2) [4] rfl (by kernel_rfl) trivial ?_
    repeat (refine rowK_step rfl (fun K hK => ?_); go_simp; refine hK _ ?_; clear hK K)
    refine rowK_nil ⟨fun w' _ => ?_, ?_⟩
    · repeat (refine rowWp_step rfl (fun K hK => ?_); go_simp; refine hK _ ?_; clear hK K)
      exact rowWp_nil rfl
    refine drawn_next 5 (fuel := 1) rfl (by kernel_rfl) ?_
    intro K hK
    go_wp2
    refine ⟨trivial, ?_⟩
    refine drawn_reads (fuel := 0) [6] rfl (by kernel_rfl) trivial ?_
    repeat (refine rowK_step rfl (fun K hK => ?_); go_simp; refine hK _ ?_; clear hK K)
    refine rowK_nil ⟨fun w' _ => ?_, ?_⟩
    · repeat (refine rowWp_step rfl (fun K hK => ?_); go_simp; refine hK _ ?_; clear hK K)
      exact rowWp_nil rfl
    refine drawn_end (ol := []) rfl (by kernel_rfl) ?_
    intro K hK
    go_wp2
    go_ret
    rw [hn]
    refine ⟨_, _, rfl, ⟨w.heap.size + 1, w.heap.size, none, 0, ⟨?_, ?_, ?_, World.ownsRow_nil _ _ _ _, ?_, ?_, ?_, fun g h => by cases h⟩, rfl, ⟨by dsimp only; omega, by dsimp only; omega, by dsimp only; rw [length_zs], by dsimp only; rw [length_zs], by dsimp only; omega, by dsimp only; omega, fun x hx => by cases hx⟩⟩, ?_, ?_⟩
    · simp [World.at_alloc, World.at_drew] <;> omega
    · simp [World.at_alloc, World.at_drew, Nat.mul_comm] <;> omega
    · simp [World.at_alloc, World.at_drew, Nat.mul_comm] <;> omega
    · omega
    · omega
    · omega
    · exact ((((Fr.refl _ _).alloc _).alloc _).alloc _).drew
    · simp [fpOf]; omega

theorem DiskIn.flags {w : World} {d kb sb : Nat} {p : Option Addr} {cap : Nat} {m : DM} (D : DiskIn w d kb sb p cap m) (f : Int) (b : Bool) :
    DiskIn (w.put d (.cells #[.slice (some ⟨kb, 0, none⟩) m.n m.n, .slice (some ⟨sb, 0, none⟩) m.n m.n, .slice p m.waits.length cap, .int .i64 f, .bool b] 55 (0, 0))) d kb sb p cap { m with fuse := f, dead := b } where
  hd := World.at_put_same _ _ _ (World.at_lt D.hd)
  hk := by rw [World.at_put_other _ _ _ _ D.ne1]; exact D.hk
  hs := by rw [World.at_put_other _ _ _ _ D.ne2]; exact D.hs
  hw := ((Fr.refl [d] w).put d _ (by simp)).owns D.hw (fun g hg => by
    have := D.nw g (by cases p <;> first | exact hg | cases hg)
    simp; omega)
  ne1 := D.ne1
  ne2 := D.ne2
  ne3 := D.ne3
  nw := D.nw

def aliveM (m : DM) : DM := if m.dead || m.fuse == 0 then { m with dead := true } else { m with fuse := if 0 < m.fuse then m.fuse - 1 else m.fuse, dead := false }
def livesM (m : DM) : Bool := !(m.dead || m.fuse == 0)
theorem aliveM_ok {m : DM} (h : m.Ok) : (aliveM m).Ok := by
  unfold aliveM
  have := h.f1; have := h.f2
  split
  · exact ⟨h.n1, h.n2, h.kl, h.sl, h.f1, h.f2, h.ws⟩
  · exact ⟨h.n1, h.n2, h.kl, h.sl, by dsimp only; split <;> omega, by dsimp only; split <;> omega, h.ws⟩

section
variable {w : World} {d : Nat} {m : DM} {fp : List Nat}

theorem blocks_any (D : DiskAt w d m fp) : Calls Try.prog 19 #[.pointer (some ⟨d, 0, none⟩)] w fun e w' => e = .returned (.int .i64 m.n) ∧ w = w' := by
  obtain ⟨kb, sb, p, cap, ⟨hd, hk, hs, hw, ne1, ne2, ne3, nw⟩, rfl, ok⟩ := D
  clear hk hs hw nw
  go_enter Try.func19, Try.ntmps19
  go_wp2
  go_ret
  exact ⟨rfl, rfl⟩
theorem waits_any (D : DiskAt w d m fp) : Calls Try.prog 17 #[.pointer (some ⟨d, 0, none⟩)] w fun e w' => e = .returned (.int .i64 m.waits.length) ∧ w = w' := by
  obtain ⟨kb, sb, p, cap, ⟨hd, hk, hs, hw, ne1, ne2, ne3, nw⟩, rfl, ok⟩ := D
  clear hk hs hw nw
  go_enter Try.func17, Try.ntmps17
  go_wp2
  go_ret
  exact ⟨rfl, rfl⟩
theorem dead_any (D : DiskAt w d m fp) : Calls Try.prog 13 #[.pointer (some ⟨d, 0, none⟩)] w fun e w' => e = .returned (.bool m.dead) ∧ w = w' := by
  obtain ⟨kb, sb, p, cap, ⟨hd, hk, hs, hw, ne1, ne2, ne3, nw⟩, rfl, ok⟩ := D
  clear hk hs hw nw
  go_enter Try.func13, Try.ntmps13
  go_wp2
  go_ret
  exact ⟨rfl, rfl⟩
theorem fuse_any (D : DiskAt w d m fp) (n : Int) (h : n ≤ 9223372036854775807) : Calls Try.prog 9 #[.pointer (some ⟨d, 0, none⟩), .int .i64 n] w fun e w' => e = .returned (.tuple #[]) ∧ DiskAt w' d { m with fuse := max n (-1) } fp ∧ Fr fp w w' := by
  obtain ⟨kb, sb, p, cap, D, rfl, ok⟩ := D
  have hd := D.hd
  have hdl := World.at_lt hd
  go_enter Try.func9, Try.ntmps9
  go_wp2
  go_end0
  have hm : ({ m with fuse := max n (-1) } : DM).Ok := ⟨ok.n1, ok.n2, ok.kl, ok.sl, by dsimp only; omega, by dsimp only; omega, ok.ws⟩
  exact ⟨rfl, ⟨kb, sb, p, cap, D.flags (max n (-1)) m.dead, rfl, hm⟩, (Fr.refl _ _).put _ _ (by simp [fpOf])⟩
theorem alive_any (D : DiskAt w d m fp) : Calls Try.prog 25 #[.pointer (some ⟨d, 0, none⟩)] w fun e w' => e = .returned (.bool (livesM m)) ∧ DiskAt w' d (aliveM m) fp ∧ Fr fp w w' := by
  obtain ⟨kb, sb, p, cap, D, rfl, ok⟩ := D
  have hok := aliveM_ok ok
  have hd := D.hd
  have hdl := World.at_lt hd
  have hf1 := ok.f1
  have hf2 := ok.f2
  have hfp : d ∈ fpOf d kb sb p := by simp [fpOf]
  by_cases h1 : m.dead = true
  · rw [h1] at hd
    go_enter Try.func25, Try.ntmps25
    go_wp2
    go_ret
    have e1 : livesM m = false := by simp [livesM, h1]
    have e2 : aliveM m = { m with fuse := m.fuse, dead := true } := by simp [aliveM, h1]
    rw [e2] at hok
    (try rw [e1])
    (try rw [e2])
    exact ⟨rfl, ⟨kb, sb, p, cap, D.flags m.fuse true, rfl, hok⟩, (Fr.refl _ _).put _ _ (fun _ => hfp)⟩
  · have h1' : m.dead = false := by simpa using h1
    rw [h1'] at hd
    by_cases h2 : m.fuse = 0
    · have h2' : (m.fuse == 0) = true := by simp [h2]
      have e1 : livesM m = false := by simp [livesM, h2]
      have e2 : aliveM m = { m with fuse := m.fuse, dead := true } := by simp [aliveM, h2]
      clear h1 h2
      go_enter Try.func25, Try.ntmps25
      go_wp2
      go_ret
      rw [e2] at hok
      (try rw [e1])
      (try rw [e2])
      exact ⟨rfl, ⟨kb, sb, p, cap, D.flags m.fuse true, rfl, hok⟩, (Fr.refl _ _).put _ _ (fun _ => hfp)⟩
    · have h2' : (m.fuse == 0) = false := by simp [h2]
      have e1 : livesM m = true := by simp [livesM, h1', h2]
      by_cases h3 : 0 < m.fuse
      · have e2 : aliveM m = { m with fuse := m.fuse - 1, dead := false } := by simp [aliveM, h1', h2, h3]
        clear h1 h2
        go_enter Try.func25, Try.ntmps25
        go_wp2
        go_ret
        rw [e2] at hok
        (try rw [e1])
        (try rw [e2])
        exact ⟨rfl, ⟨kb, sb, p, cap, D.flags (m.fuse - 1) false, rfl, hok⟩, (Fr.refl _ _).put _ _ (fun _ => hfp)⟩
      · have e2 : aliveM m = { m with fuse := m.fuse, dead := false } := by simp [aliveM, h1', h2, h3]
        have h3' : m.fuse ≤ 0 := by omega
        clear h1 h2
        go_enter Try.func25, Try.ntmps25
        go_wp2
        go_ret
        rw [e2] at hok
        (try rw [e1])
        (try rw [e2])
        exact ⟨rfl, ⟨kb, sb, p, cap, D.flags m.fuse false, rfl, hok⟩, (Fr.refl _ _).put _ _ (fun _ => hfp)⟩
end

end Go.Proofs.Ytbjoeihcphcohaa
