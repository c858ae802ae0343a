/- The package disk: Write. -/
import Derived.Test.YtbjoeihcphcohaaDkA
namespace Go.Proofs.Ytbjoeihcphcohaa
open Go.RowKit Go.Dr

/-- A slice of bytes in a row of its own. -/
def BytesAt (w : World) (v : Value) (bb : Nat) (l : List Int) : Prop := ∃ cap cur T, v = .slice (some ⟨bb, 0, none⟩) l.length cap ∧ w.blk bb = some (.cells cur T (0, 0)) ∧ l.length ≤ cur.size ∧ cur.extract 0 l.length = ints .u8 l
def argM (m : DM) (at_ : Int) (b : List Int) : Bool := decide (at_ < 0) || decide ((m.n : Int) ≤ at_) || b.length != 64
def writeM (m : DM) (at_ : Int) (b : List Int) : Int × DM :=
  if argM m at_ b then (1, m) else if livesM m then (0, { aliveM m with seen := lay m.seen (at_.toNat * 64) b, waits := m.waits ++ [(at_.toNat, b)] }) else (150, aliveM m)
theorem aliveM_same (m : DM) : (aliveM m).n = m.n ∧ (aliveM m).kept = m.kept ∧ (aliveM m).seen = m.seen ∧ (aliveM m).waits = m.waits := by
  unfold aliveM; split <;> exact ⟨rfl, rfl, rfl, rfl⟩
section
variable {w : World} {d : Nat} {m : DM} {fp : List Nat}
theorem write_arg (D : DiskAt w d m fp) (at_ : Int) (bv : Value) (bb : Nat) (b : List Int) (B : BytesAt w bv bb b) (hb : b.length ≤ 1099511627776) (h : argM m at_ b = true) :
    Calls Try.prog 10 #[.pointer (some ⟨d, 0, none⟩), .int .i64 at_, bv] w fun e w' => e = .returned (.int .i64 1) ∧ w = w' := by
  obtain ⟨kb, sb, p, cap, ⟨hd, hk, hs, hw, ne1, ne2, ne3, nw⟩, _, ok⟩ := D
  obtain ⟨bc, cur, T, rfl, hbb, _, _⟩ := B
  clear hk hs hw nw hbb
  have hn := ok.n2
  by_cases h1 : at_ < 0
  · clear h
    go_enter Try.func10, Try.ntmps10
    go_wp2
    go_ret
    exact ⟨rfl, rfl⟩
  · by_cases h2 : (m.n : Int) ≤ at_
    · clear h
      go_enter Try.func10, Try.ntmps10
      go_wp2
      go_ret
      exact ⟨rfl, rfl⟩
    · have h3 : ((b.length : Int) != 64) = true := by
        simp [argM, h1, h2] at h ⊢; omega
      have h1' : decide (at_ < 0) = false := by simpa using h1
      have h2' : decide ((m.n : Int) ≤ at_) = false := by simpa using h2
      have h1b : 0 ≤ at_ := by omega
      have h2b : at_ < m.n := by omega
      clear h h1 h2
      go_enter Try.func10, Try.ntmps10
      go_wp2
      go_ret
      exact ⟨rfl, rfl⟩

theorem write_dead (D : DiskAt w d m fp) (at_ : Int) (bv : Value) (bb : Nat) (b : List Int) (B : BytesAt w bv bb b) (h : argM m at_ b = false) (hl : livesM m = false) :
    Calls Try.prog 10 #[.pointer (some ⟨d, 0, none⟩), .int .i64 at_, bv] w fun e w' => e = .returned (.int .i64 150) ∧ DiskAt w' d (aliveM m) fp ∧ Fr fp w w' := by
  have hA := alive_any D
  rw [hl] at hA
  obtain ⟨kb, sb, p, cap, ⟨hd, hk, hs, hw, ne1, ne2, ne3, nw⟩, _, ok⟩ := D
  obtain ⟨bc, cur, T, rfl, hbb, _, _⟩ := B
  clear hk hs hw nw hbb
  have hn := ok.n2
  simp only [argM, Bool.or_eq_false_iff, decide_eq_false_iff_not] at h
  obtain ⟨⟨h1, h2⟩, h3⟩ := h
  have h1b : 0 ≤ at_ := by omega
  have h2b : at_ < m.n := by omega
  obtain h3' : b.length = 64 := by simpa using h3
  rw [h3']
  clear h1 h2 h3 h3'
  have HA := Lib.hid hA
  clear hA hl
  go_enter Try.func10, Try.ntmps10
  go_wp2_with (go_at_call 25; refine HA.out.mono ?_; rintro e w' ⟨rfl, D1, F1⟩)
  go_ret
  exact ⟨rfl, D1, F1⟩

theorem write_ok (D : DiskAt w d m fp) (at_ : Int) (bv : Value) (bb : Nat) (b : List Int) (B : BytesAt w bv bb b) (hbf : bb ∉ fp) (hwl : m.waits.length ≤ 1000000) (h : argM m at_ b = false) (hl : livesM m = true) :
    Calls Try.prog 10 #[.pointer (some ⟨d, 0, none⟩), .int .i64 at_, bv] w fun e w' => e = .returned (.int .i64 0) ∧
      ∃ fp', DiskAt w' d { aliveM m with seen := lay m.seen (at_.toNat * 64) b, waits := m.waits ++ [(at_.toNat, b)] } fp' ∧ Fr fp w w' ∧ ∀ k ∈ fp', k ∈ fp ∨ w.heap.size ≤ k := by
  have hA := alive_any D
  rw [hl] at hA
  obtain ⟨m1, hm1⟩ : ∃ m1, aliveM m = m1 := ⟨_, rfl⟩
  obtain ⟨s1, s2, s3, s4⟩ := aliveM_same m
  rw [hm1] at hA s1 s2 s3 s4 ⊢
  have D0 := D
  obtain ⟨kb, sb, p, cap, ⟨hd, hk, hs, hw, ne1, ne2, ne3, nw⟩, _, ok⟩ := D
  obtain ⟨bc, cur, T, rfl, hbb, hcl, hcx⟩ := B
  clear hk hs hw nw
  have hn := ok.n2
  simp only [argM, Bool.or_eq_false_iff, decide_eq_false_iff_not] at h
  obtain ⟨⟨h1, h2⟩, h3⟩ := h
  have h1b : 0 ≤ at_ := by omega
  have h2b : at_ < m.n := by omega
  obtain h3' : b.length = 64 := by simpa using h3
  rw [h3'] at hcl hcx
  have hbl : bb < w.heap.size := World.at_lt hbb
  have HA := Lib.hid hA
  have H1 := Lib.hid s1
  have H2 := Lib.hid s2
  have H3 := Lib.hid s3
  have H4 := Lib.hid s4
  have HB := Lib.hid hbb
  have HM := Lib.hid hm1
  clear h1 h2 h3 hA hl s1 s2 s3 s4 hbb hm1
  go_enter Try.func10, Try.ntmps10
  rw [h3']
  go_wp2_with fail
  refine HA.out.mono ?_
  rintro e w1 ⟨rfl, ⟨kb1, sb1, p1, cap1, ⟨hd1, hk1, hs1, hw1, n11, n12, n13, nw1⟩, hfp1, ok1⟩, F1⟩
  have hb1 := F1.get HB.out hbf
  have hbd : bb ≠ d := fun e => hbf (by rw [hfp1, e]; simp [fpOf])
  have hbd' : d ≠ bb := fun e => hbd e.symm
  have hdl := World.at_lt hd1
  have hsl := World.at_lt hs1
  have hbl1 := World.at_lt hb1
  have n12' : sb1 ≠ d := fun e => n12 e.symm
  have hfit : at_.toNat * 64 + 64 ≤ m1.seen.length := by rw [H3.out, ok.sl]; omega
  have hn1 := H1.out
  have HF1 := Lib.hid F1
  have HK1 := Lib.hid hk1
  clear hk1 F1 hd
  go_wp2
  refine drawn_head 8 (by kernel_rfl) rfl rfl (by kernel_rfl) ?_
  change rowK _ _ _ [0,1,2,3,4,5,6,7] _ _
  repeat (refine rowK_step rfl (fun K hK => ?_); go_simp; refine hK _ ?_; clear hK K)
  refine rowK_nil ?_
  intro K hK
  go_wp2
  have hdne : d ≠ w1.heap.size := by omega
  refine drawn_begin 8 (fun w' => w'.blk d = some (.cells #[.slice (some ⟨kb1, 0, none⟩) m.n m.n, .slice (some ⟨sb1, 0, none⟩) m.n m.n, .slice p1 m1.waits.length cap1, .int .i64 m1.fuse, .bool m1.dead] 55 (0, 0)) ∧
    w'.blk w1.heap.size = some (.cells (Value.int .i64 at_ :: b.map (Value.int .u8)).toArray 58 (0, 0))) (by kernel_rfl) ?_
  refine drawn_reads (fuel := 5) [0, 1, 2, 3, 4, 5] rfl (by kernel_rfl) ⟨by go_simp, by go_simp⟩ ?_
  repeat (refine rowK_step rfl (fun K hK => ?_); go_simp; refine hK _ ?_; clear hK K)
  refine rowK_nil ⟨fun w' hw' => ?_, ?_⟩
  · obtain ⟨e1, e2⟩ := hw'
    repeat (refine rowWp_step rfl (fun K hK => ?_); go_simp; refine hK _ ?_; clear hK K)
    exact rowWp_nil rfl
  refine drawn_next 6 (fuel := 4) rfl (by kernel_rfl) ?_
  intro K hK
  go_wp2
  refine ⟨⟨by go_simp, by go_simp⟩, ?_⟩
  refine drawn_next 7 (fuel := 3) rfl (by kernel_rfl) ?_
  intro K hK
  obtain ⟨wA, hwA⟩ : ∃ wA, wA = ((((w1.put sb1 (.cells (ints .u8 (lay m1.seen (at_.toNat * 64) b)) 56 (0, 0))).alloc (.cells (Value.int .i64 at_ :: b.map (Value.int .u8)).toArray 58 (0, 0))).alloc
    (.cells (Value.int .i64 at_ :: b.map (Value.int .u8)).toArray 58 (0, 0))).drew).drew := ⟨_, rfl⟩
  rw [← hwA]
  have F2 : Fr [sb1] w1 wA := by rw [hwA]; exact ((((Fr.refl _ _).put _ _ (by simp)).alloc _).alloc _).drew.drew
  have hA1 : wA.blk (w1.heap.size + 1) = some (.cells (Value.int .i64 at_ :: b.map (Value.int .u8)).toArray 58 (0, 0)) := by rw [hwA]; go_simp
  have hA0 : wA.blk w1.heap.size = some (.cells (Value.int .i64 at_ :: b.map (Value.int .u8)).toArray 58 (0, 0)) := by rw [hwA]; go_simp
  have hAd := F2.get hd1 (by simpa using n12)
  have hAs : wA.blk sb1 = some (.cells (ints .u8 (lay m1.seen (at_.toNat * 64) b)) 56 (0, 0)) := by rw [hwA]; go_simp
  have hAz : wA.heap.size = w1.heap.size + 2 := by rw [hwA]; simp
  have hwl1 : m1.waits.length ≤ 1000000 := by rw [H4.out]; exact hwl
  clear hwA
  refine wpList_app rfl _ _ 53 rfl E53 (by omega) p1 _ cap1 _ rfl (F2.owns hw1 ?_) _ 0 1 _ rfl _ _ _ hA1 (Value.int .i64 at_ :: b.map (Value.int .u8)) ?_ ?_ ?_ (by omega) (by omega) ?_
  · intro g hg
    have := nw1 g (by cases p1 <;> first | exact hg | cases hg)
    simp; omega
  · simp [h3', List.take_of_length_le]
  · simp [h3']
  · simp [ones_cons, ones_map_int, Value.oneCell']
  · intro p2 cap2 w2 ⟨hown2, F3, hblk2⟩
    have hz2 := F3.size
    have hold : ∀ g, g ∈ (p1.map (·.block)).toList → g ≠ d ∧ g ≠ kb1 ∧ g ≠ sb1 ∧ g < w1.heap.size := fun g hg => by
      have hg' : p1.map (·.block) = some g := by simpa using hg
      obtain ⟨a1, a2, a3⟩ := nw1 g hg'
      refine ⟨a1, a2, a3, (hw1.lt g (by cases p1 <;> first | exact hg' | cases hg')).2⟩
    have hBd := F3.get hAd (fun hm => (hold _ hm).1 rfl)
    have hB0 := F3.get hA0 (fun hm => by have := (hold _ hm).2.2.2; omega)
    have hBs := F3.get hAs (fun hm => (hold _ hm).2.2.1 rfl)
    have hd2 : d < w2.heap.size := World.at_lt hBd
    have HK2 := Lib.hid (F3.get (F2.get HK1.out (by simpa using n13)) (fun hm => (hold _ hm).2.1 rfl))
    have HF2 := Lib.hid F2
    have HF3 := Lib.hid F3
    have HO := Lib.hid hown2
    have Hb2 := Lib.hid hblk2
    have Hold := Lib.hid hold
    clear F3 hown2 hblk2 hold F2 hA1 hA0 hAd hAs
    go_wp2
    refine drawn_end rfl (by kernel_rfl) ?_
    intro K hK
    go_wp2
    go_ret
    have hnw2 : ∀ g, p2.map (·.block) = some g → g ≠ d ∧ g ≠ kb1 ∧ g ≠ sb1 := fun g hg => by
      rcases Hb2.out g hg with h | h
      · exact nw1 g h
      · have hkl := World.at_lt HK1.out
        have hsz := HF2.out.size
        refine ⟨?_, ?_, ?_⟩ <;> omega
    have hwe : m.waits = m1.waits := H4.out.symm
    have hse : m.seen = m1.seen := H3.out.symm
    have hdfp : d ∈ fp := by rw [hfp1]; simp [fpOf]
    have hsfp : sb1 ∈ fp := by rw [hfp1]; simp [fpOf]
    refine ⟨rfl, fpOf d kb1 sb1 p2, ⟨kb1, sb1, p2, cap2, ⟨?_, ?_, ?_, ?_, n11, n12, n13, hnw2⟩, rfl, ?_⟩, ?_, ?_⟩
    · rw [World.at_put_same _ _ _ hd2]; simp [hwe, hn1]
    · rw [World.at_put_other _ _ _ _ n11]; exact HK2.out
    · rw [World.at_put_other _ _ _ _ n12, hse]; exact hBs
    · have := ((Fr.refl [d] w2).put d (.cells #[.slice (some ⟨kb1, 0, none⟩) m.n m.n, .slice (some ⟨sb1, 0, none⟩) m.n m.n, .slice p2 (m1.waits.length + 1) cap2, .int .i64 m1.fuse, .bool m1.dead] 55 (0, 0)) (by simp)).owns HO.out (fun g hg => by
        have := hnw2 g (by cases p2 <;> first | exact hg | cases hg)
        simp; omega)
      rw [hwe]
      simpa [flatW, Int.toNat_of_nonneg h1b] using this
    · refine ⟨ok1.n1, ok1.n2, ok1.kl, ?_, ok1.f1, ok1.f2, ?_⟩
      · dsimp only
        rw [hse, length_lay _ _ _ (by omega)]; exact ok1.sl
      · intro x hx
        dsimp only at hx ⊢
        rw [hwe] at hx
        rcases List.mem_append.1 hx with hx | hx
        · exact ok1.ws x hx
        · obtain rfl : x = (at_.toNat, b) := by simpa using hx
          exact ⟨by dsimp only; omega, h3'⟩
    · have a1 : Fr fp w wA := HF1.out.seq HF2.out (fun k hk _ => by simp at hk; subst hk; exact hsfp)
      have a2 : Fr fp w w2 := a1.seq HF3.out (fun k hk _ => by
        rw [hfp1]; simp only [fpOf, List.mem_cons]; exact Or.inr (Or.inr (Or.inr hk)))
      exact a2.put _ _ (fun _ => hdfp)
    · intro k hk
      simp only [fpOf, List.mem_cons, Option.mem_toList] at hk
      rcases hk with rfl | rfl | rfl | hk
      · exact .inl hdfp
      · left; rw [hfp1]; simp [fpOf]
      · exact .inl hsfp
      · rcases Hb2.out k hk with h | h
        · left; rw [hfp1]; simp only [fpOf, List.mem_cons, Option.mem_toList]; exact Or.inr (Or.inr (Or.inr h))
        · right
          have := HF2.out.size; have := HF1.out.size; omega
end
end Go.Proofs.Ytbjoeihcphcohaa
