/- The document's disk: what it is in memory; New, Step. -/
import Derived.Test.YtbjoeihcphcohaaDkJ
namespace Go.Proofs.Ytbjoeihcphcohaa
open Go.RowKit Go.Dr

theorem E47 : ElemT Try.prog 47 3 1 8 #[.int .i64 0] := ⟨Try.underlying47, by kernel_rfl, rfl⟩
theorem E48 : ElemT Try.prog 48 31 1 24 #[.slice none 0 0] := ⟨Try.underlying48, by kernel_rfl, rfl⟩
@[go_sem] theorem one47 (w : World) (n : Int) : (buildOneK 47 #[(0, .int .i64 n)]).run Try.prog w = .ok (.slice (some ⟨w.heap.size, 0, none⟩) 1 1) (w.alloc (.cells #[.int .i64 n] 3)) :=
  E47.buildOne (by omega) (by omega) w _ rfl
@[go_sem] theorem one48 (w : World) (p : Option Addr) (l c : Nat) : (buildOneK 48 #[(0, .slice p l c)]).run Try.prog w = .ok (.slice (some ⟨w.heap.size, 0, none⟩) 1 1) (w.alloc (.cells #[.slice p l c] 31)) :=
  E48.buildOne (by omega) (by omega) w _ rfl

structure RefIn (w : World) (r kb : Nat) (pa : Option Addr) (ca : Nat) (pb : Option Addr) (cb : Nat) (bs : List (Nat × Nat)) (m : DM) : Prop where
  hr : w.blk r = some (.cells #[.int .i64 m.n, .slice (some ⟨kb, 0, none⟩) (64 * m.n) (64 * m.n), .slice pa m.waits.length ca, .slice pb m.waits.length cb, .int .i64 m.fuse, .bool m.dead] 50 (0, 0))
  hk : w.blk kb = some (.cells (ints .u8 m.kept) 5 (0, 0))
  ha : OwnsR w 3 1 pa m.waits.length ca (m.waits.map fun x => .int .i64 x.1)
  hb : OwnsR w 31 1 pb m.waits.length cb (bs.map fun x => .slice (some ⟨x.1, 0, none⟩) 64 x.2)
  hl : bs.length = m.waits.length
  hx : ∀ i (h : i < bs.length) (h' : i < m.waits.length), ∃ cur T, w.blk bs[i].1 = some (.cells cur T (0, 0)) ∧ 64 ≤ cur.size ∧ cur.toList.take 64 = (m.waits[i]).2.map (Value.int .u8)
  n0 : r ≠ kb
  na : ∀ g, pa.map (·.block) = some g → g ≠ r ∧ g ≠ kb
  nb : ∀ g, pb.map (·.block) = some g → g ≠ r ∧ g ≠ kb ∧ pa.map (·.block) ≠ some g
  nx : ∀ x ∈ bs, x.1 ≠ r ∧ x.1 ≠ kb ∧ pa.map (·.block) ≠ some x.1 ∧ pb.map (·.block) ≠ some x.1
def rfpOf (r kb : Nat) (pa pb : Option Addr) (bs : List (Nat × Nat)) : List Nat := r :: kb :: ((pa.map (·.block)).toList ++ ((pb.map (·.block)).toList ++ bs.map (·.1)))
def RefAt (w : World) (r : Nat) (m : DM) (fp : List Nat) : Prop := ∃ kb pa ca pb cb bs, RefIn w r kb pa ca pb cb bs m ∧ fp = rfpOf r kb pa pb bs ∧ m.Ok

section
variable {w : World} {r : Nat} {m : DM} {fp : List Nat}
theorem RefIn.frame {w' : World} {kb : Nat} {pa : Option Addr} {ca : Nat} {pb : Option Addr} {cb : Nat} {bs : List (Nat × Nat)} (D : RefIn w r kb pa ca pb cb bs m) {gp : List Nat} (F : Fr gp w w') (h : ∀ k ∈ rfpOf r kb pa pb bs, k ∉ gp) :
    RefIn w' r kb pa ca pb cb bs m where
  hr := F.get D.hr (h r (by simp [rfpOf]))
  hk := F.get D.hk (h kb (by simp [rfpOf]))
  ha := F.owns D.ha (fun g hg => h g (by
    have : pa.map (·.block) = some g := by cases pa <;> first | exact hg | cases hg
    simp [rfpOf, this]))
  hb := F.owns D.hb (fun g hg => h g (by
    have : pb.map (·.block) = some g := by cases pb <;> first | exact hg | cases hg
    simp [rfpOf, this]))
  hl := D.hl
  hx := fun i h1 h2 => by
    obtain ⟨cur, T, e1, e2, e3⟩ := D.hx i h1 h2
    exact ⟨cur, T, F.get e1 (h _ (by simp only [rfpOf, List.mem_cons, List.mem_append, List.mem_map]; exact .inr (.inr (.inr (.inr ⟨_, List.getElem_mem h1, rfl⟩))))), e2, e3⟩
  n0 := D.n0
  na := D.na
  nb := D.nb
  nx := D.nx
theorem RefAt.frame {w' : World} (D : RefAt w r m fp) {gp : List Nat} (F : Fr gp w w') (h : ∀ k ∈ fp, k ∉ gp) : RefAt w' r m fp := by
  obtain ⟨kb, pa, ca, pb, cb, bs, D, rfl, ok⟩ := D
  exact ⟨kb, pa, ca, pb, cb, bs, D.frame F h, rfl, ok⟩
theorem RefAt.lt (D : RefAt w r m fp) : ∀ k ∈ fp, k < w.heap.size := by
  obtain ⟨kb, pa, ca, pb, cb, bs, D, rfl, ok⟩ := D
  intro k hk
  simp only [rfpOf, List.mem_cons, List.mem_append, Option.mem_toList, List.mem_map] at hk
  rcases hk with rfl | rfl | hk | hk | ⟨x, hx, rfl⟩
  · exact World.at_lt D.hr
  · exact World.at_lt D.hk
  · exact (D.ha.lt k (by cases pa <;> first | exact hk | cases hk)).2
  · exact (D.hb.lt k (by cases pb <;> first | exact hk | cases hk)).2
  · obtain ⟨i, hi, rfl⟩ := List.getElem_of_mem hx
    obtain ⟨cur, T, e1, _⟩ := D.hx i hi (by rw [← D.hl]; exact hi)
    exact World.at_lt e1
/-- Only the flags turn. -/
theorem RefIn.flags {kb : Nat} {pa : Option Addr} {ca : Nat} {pb : Option Addr} {cb : Nat} {bs : List (Nat × Nat)} (D : RefIn w r kb pa ca pb cb bs m) (f : Int) (b : Bool) :
    RefIn (w.put r (.cells #[.int .i64 m.n, .slice (some ⟨kb, 0, none⟩) (64 * m.n) (64 * m.n), .slice pa m.waits.length ca, .slice pb m.waits.length cb, .int .i64 f, .bool b] 50 (0, 0))) r kb pa ca pb cb bs { m with fuse := f, dead := b } where
  hr := World.at_put_same _ _ _ (World.at_lt D.hr)
  hk := by rw [World.at_put_other _ _ _ _ D.n0]; exact D.hk
  ha := ((Fr.refl [r] w).put r _ (by simp)).owns D.ha (fun g hg => by
    have := (D.na g (by cases pa <;> first | exact hg | cases hg)).1
    simpa using this)
  hb := ((Fr.refl [r] w).put r _ (by simp)).owns D.hb (fun g hg => by
    have := (D.nb g (by cases pb <;> first | exact hg | cases hg)).1
    simpa using this)
  hl := D.hl
  hx := fun i h1 h2 => by
    obtain ⟨cur, T, e1, e2, e3⟩ := D.hx i h1 h2
    exact ⟨cur, T, by rw [World.at_put_other _ _ _ _ (fun h => (D.nx _ (List.getElem_mem h1)).1 h.symm)]; exact e1, e2, e3⟩
  n0 := D.n0
  na := D.na
  nb := D.nb
  nx := D.nx

theorem rnew_any (b : Int) (w : World) : Calls Try.prog 20 #[.int .i64 b] w fun e w' => ∃ r fp, e = .returned (.pointer (some ⟨r, 0, none⟩)) ∧ RefAt w' r (newM b) fp ∧ Fr [] w w' ∧ News w [] fp := by
  obtain ⟨n, hn1, hn2, hn⟩ : ∃ n : Nat, 1 ≤ n ∧ n ≤ 4096 ∧ max 1 (min b 4096) = (n : Int) := ⟨(max 1 (min b 4096)).toNat, by omega, by omega, by omega⟩
  have hn3 : 0 ≤ 64 * (n : Int) := by omega
  have hn4 : 64 * (n : Int) ≤ 1099511627776 := by omega
  have hn' : min (max b 1) 4096 = (n : Int) := by omega
  have hwr : IntKind.i64.wrap (64 * (n : Int)) = 64 * (n : Int) := by rw [IntKind.wrap_i64]; omega
  have hz : (64 * (n : Int)).toNat = 64 * n := by omega
  have hm : newM b = ⟨n, zs (64 * n), zs (64 * n), [], -1, false⟩ := by simp only [newM, hn, Int.toNat_natCast]
  have HM := Lib.hid hm
  clear hm
  go_enter Try.func20, Try.ntmps20
  go_wp2
  go_ret
  rw [HM.out]
  refine ⟨_, _, rfl, ⟨w.heap.size, none, 0, none, 0, [], ⟨?_, ?_, World.ownsRow_nil _ _ _ _, World.ownsRow_nil _ _ _ _, rfl, ?_, by omega, fun g h => by (cases h), fun g h => by (cases h), fun x h => by (cases h)⟩, rfl, ⟨hn1, hn2, length_zs _, length_zs _, by dsimp only; omega, by dsimp only; omega, fun x h => by (cases h)⟩⟩, ?_, ?_⟩
  · go_simp <;> rfl
  · go_simp
  · intro i h; cases h
  · exact ((Fr.refl _ _).alloc _).alloc _
  · intro k hk
    right
    simp only [rfpOf, Option.map_none, Option.toList_none, List.map_nil, List.append_nil, List.mem_cons, List.not_mem_nil, or_false] at hk
    omega
theorem rstep_any (D : RefAt w r m fp) : Calls Try.prog 26 #[.pointer (some ⟨r, 0, none⟩)] w fun e w' => e = .returned (.bool (livesM m)) ∧ RefAt w' r (aliveM m) fp ∧ Fr fp w w' := by
  obtain ⟨kb, pa, ca, pb, cb, bs, D, rfl, ok⟩ := D
  have hok := aliveM_ok ok
  have hd := D.hr
  have hdl := World.at_lt hd
  have hf1 := ok.f1
  have hf2 := ok.f2
  have hfp : r ∈ rfpOf r kb pa pb bs := by simp [rfpOf]
  by_cases h2 : m.fuse = 0
  · have h2' : (m.fuse == 0) = true := by simp [h2]
    have e1 : livesM m = false := by simp [livesM, h2]
    have e2 : aliveM m = { m with fuse := m.fuse, dead := true } := by simp [aliveM, h2]
    rw [e2] at hok ⊢
    rw [e1]
    clear h2 e1 e2
    go_enter Try.func26, Try.ntmps26
    go_wp2
    go_ret
    exact ⟨rfl, ⟨kb, pa, ca, pb, cb, bs, D.flags m.fuse true, rfl, hok⟩, (Fr.refl _ _).put _ _ (fun _ => hfp)⟩
  · have h2' : (m.fuse == 0) = false := by simp [h2]
    by_cases h1 : m.dead = true
    · have e1 : livesM m = false := by simp [livesM, h1]
      have e2 : aliveM m = m := by
        obtain ⟨a1, a2, a3, a4, a5, a6⟩ := m
        simp only at h1; subst h1; rfl
      rw [e1, e2]
      have D' := Lib.hid D
      rw [h1] at hd
      go_enter Try.func26, Try.ntmps26
      go_wp2
      go_ret
      exact ⟨rfl, ⟨kb, pa, ca, pb, cb, bs, D'.out, rfl, ok⟩, Fr.refl _ _⟩
    · have h1' : m.dead = false := by simpa using h1
      have e1 : livesM m = true := by simp [livesM, h1', h2]
      by_cases h3 : 0 < m.fuse
      · have e2 : aliveM m = { m with fuse := m.fuse - 1, dead := false } := by simp [aliveM, h1', h2, h3]
        rw [e2] at hok ⊢
        rw [e1]
        rw [h1'] at hd
        clear h1 h2
        go_enter Try.func26, Try.ntmps26
        go_wp2
        go_ret
        exact ⟨rfl, ⟨kb, pa, ca, pb, cb, bs, D.flags (m.fuse - 1) false, rfl, hok⟩, (Fr.refl _ _).put _ _ (fun _ => hfp)⟩
      · have e2 : aliveM m = m := by
          obtain ⟨a1, a2, a3, a4, a5, a6⟩ := m
          simp only at h1' h3 h2; subst h1'
          simp [aliveM, h2, h3]
        rw [e1, e2]
        have h3' : m.fuse ≤ 0 := by omega
        have D' := Lib.hid D
        rw [h1'] at hd
        clear h1 h2
        go_enter Try.func26, Try.ntmps26
        go_wp2
        go_ret
        exact ⟨rfl, ⟨kb, pa, ca, pb, cb, bs, D'.out, rfl, ok⟩, Fr.refl _ _⟩
end
end Go.Proofs.Ytbjoeihcphcohaa
