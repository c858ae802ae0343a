/- The package field: Bytes. -/
import Derived.Test.YtakhmmnklkckpaaFdB
import Derived.Test.YtakhmmnklkckpaaFpA
namespace Go.Proofs.Ytakhmmnklkckpaa
open Go.RowKit Go.Dr

theorem lim_carry {l : List Int} (h : Lim 18446744073709551616 l) : Lim 4503599627370496 (carryL l) := by
  obtain ⟨_, h0, h1, h2, h3, h4⟩ := h
  refine ⟨rfl, ?_, ?_, ?_, ?_, ?_⟩ <;> (unfold carryL; simp only [el_zero, el_succ]; omega)
/-- Behind a second carry. -/
structure Tight (l : List Int) : Prop where
  len : l.length = 5
  b0 : 0 ≤ el l 0 ∧ el l 0 < 2251799813685267
  b1 : 0 ≤ el l 1 ∧ el l 1 ≤ 2251799813685248
  b2 : 0 ≤ el l 2 ∧ el l 2 ≤ 2251799813685248
  b3 : 0 ≤ el l 3 ∧ el l 3 ≤ 2251799813685248
  b4 : 0 ≤ el l 4 ∧ el l 4 ≤ 2251799813685248
theorem tight_carry {l : List Int} (h : Lim 4503599627370496 l) : Tight (carryL l) := by
  obtain ⟨_, h0, h1, h2, h3, h4⟩ := h
  refine ⟨rfl, ?_, ?_, ?_, ?_, ?_⟩ <;> (unfold carryL; simp only [el_zero, el_succ]; omega)
theorem Tight.at_ {l : List Int} (h : Tight l) (k : Nat) (hk : k < 5) : 0 ≤ el l k ∧ el l k < 2251799813685267 := by
  obtain ⟨_, h0, h1, h2, h3, h4⟩ := h
  match k, hk with
  | 0, _ => omega
  | 1, _ => omega
  | 2, _ => omega
  | 3, _ => omega
  | 4, _ => omega
/-- What is carried, beginning with 19. -/
def qch (l : List Int) : Nat → Int
  | 0 => 19
  | k + 1 => (el l k + qch l k) / 2251799813685248
theorem qch_lt {l : List Int} (h : Tight l) : ∀ k, k ≤ 5 → 0 ≤ qch l k ∧ qch l k ≤ 19
  | 0, _ => by unfold qch; omega
  | k + 1, hk => by
    have h1 := qch_lt h k (by omega)
    have h2 := h.at_ k (by omega)
    unfold qch
    omega
/-- The limbs, each put in order and the rest carried to the next one. -/
def rip (l : List Int) : Nat → List Int
  | 0 => l
  | k + 1 => ((rip l k).set (k + 1) (el (rip l k) (k + 1) + el (rip l k) k / 2251799813685248)).set k (el (rip l k) k % 2251799813685248)
theorem length_rip (l : List Int) : ∀ k, (rip l k).length = l.length
  | 0 => rfl
  | k + 1 => by simp [rip, length_rip l k]
theorem rip_lt {l : List Int} (hl : l.length = 5) (h : ∀ j, j < 5 → 0 ≤ el l j ∧ el l j < 4503599627370496) : ∀ k, k ≤ 4 → ∀ j, j < 5 → 0 ≤ el (rip l k) j ∧ el (rip l k) j < 4503599627370496 * 2 ∧ (k < j → el (rip l k) j < 4503599627370496) ∧ (j < k → el (rip l k) j < 2251799813685248)
  | 0, _, j, hj => by have := h j hj; unfold rip; omega
  | k + 1, hk, j, hj => by
    have ih := rip_lt hl h k (by omega)
    have i1 := ih k (by omega)
    have i2 := ih (k + 1) (by omega)
    have i3 := ih j hj
    unfold rip
    rw [el_set _ _ _ _ (by simp [length_rip]; omega), el_set _ _ _ _ (by simp [length_rip]; omega)]
    split
    · omega
    · split
      · omega
      · omega
theorem val_rip (y : List Int) (hy : y.length = 5) : val ((rip y 4).set 4 (el (rip y 4) 4 % 2251799813685248)) = val y % 57896044618658097711785492504343953926634992332820282019728792003956564819968 := by
  match y, hy with
  | [y0, y1, y2, y3, y4], _ =>
    simp only [rip, el_zero, el_succ, List.set_cons_zero, List.set_cons_succ, val]
    omega
/-- The words of five limbs. -/
def wordsZ (z : List Int) : List Int :=
  [el z 0 + el z 1 * 2251799813685248 % 18446744073709551616, el z 1 / 8192 + el z 2 * 274877906944 % 18446744073709551616, el z 2 / 67108864 + el z 3 * 33554432 % 18446744073709551616,
   el z 3 / 549755813888 + el z 4 * 4096 % 18446744073709551616]
theorem orsZ {z : List Int} (h : Lim 2251799813685248 z) :
    bits .or .u64 (el z 0) (IntKind.u64.wrap (el z 1 * 2251799813685248)) = el z 0 + el z 1 * 2251799813685248 % 18446744073709551616 ∧
    bits .or .u64 (el z 1 / 8192) (IntKind.u64.wrap (el z 2 * 274877906944)) = el z 1 / 8192 + el z 2 * 274877906944 % 18446744073709551616 ∧
    bits .or .u64 (el z 2 / 67108864) (IntKind.u64.wrap (el z 3 * 33554432)) = el z 2 / 67108864 + el z 3 * 33554432 % 18446744073709551616 ∧
    bits .or .u64 (el z 3 / 549755813888) (IntKind.u64.wrap (el z 4 * 4096)) = el z 3 / 549755813888 + el z 4 * 4096 % 18446744073709551616 := by
  obtain ⟨_, h0, h1, h2, h3, h4⟩ := h
  refine ⟨or_sh 51 _ (by decide) _ _ (by omega) (by omega) (by decide) (by decide) (by decide) (by omega), or_sh 38 _ (by decide) _ _ (by omega) (by omega) (by decide) (by decide) (by decide) (by omega),
    or_sh 25 _ (by decide) _ _ (by omega) (by omega) (by decide) (by decide) (by decide) (by omega), or_sh 12 _ (by decide) _ _ (by omega) (by omega) (by decide) (by decide) (by decide) (by omega)⟩
theorem wds_wordsZ {z : List Int} (h : Lim 2251799813685248 z) : Wds (wordsZ z) := by
  obtain ⟨_, h0, h1, h2, h3, h4⟩ := h
  refine ⟨rfl, ?_, ?_, ?_, ?_⟩ <;> (unfold wordsZ; simp only [el_zero, el_succ]; omega)
theorem wval_wordsZ {z : List Int} (h : Lim 2251799813685248 z) : wval (wordsZ z) = val z := by
  obtain ⟨_, h0, h1, h2, h3, h4⟩ := h
  unfold wordsZ wval val; simp only [el_zero, el_succ]; omega
theorem Wds.at_ {u : List Int} (h : Wds u) (k : Nat) (hk : k < 4) : 0 ≤ el u k ∧ el u k < 18446744073709551616 := by
  obtain ⟨_, h0, h1, h2, h3⟩ := h
  match k, hk with
  | 0, _ => exact h0
  | 1, _ => exact h1
  | 2, _ => exact h2
  | 3, _ => exact h3
def bytesL (n : Int) : List Int := (List.range 32).map fun i => n / 256 ^ i % 256
theorem byte_of {u : List Int} (h : Wds u) (i : Nat) (hi : i < 32) : el u (i / 8) / 2 ^ (i % 8 * 8) % 256 = wval u / 256 ^ i % 256 := by
  obtain ⟨_, h0, h1, h2, h3⟩ := h
  unfold wval
  have hc : i = 0 ∨ i = 1 ∨ i = 2 ∨ i = 3 ∨ i = 4 ∨ i = 5 ∨ i = 6 ∨ i = 7 ∨ i = 8 ∨ i = 9 ∨ i = 10 ∨ i = 11 ∨ i = 12 ∨ i = 13 ∨ i = 14 ∨ i = 15 ∨ i = 16 ∨ i = 17 ∨ i = 18 ∨ i = 19 ∨ i = 20 ∨ i = 21 ∨ i = 22 ∨ i = 23 ∨ i = 24 ∨ i = 25 ∨ i = 26 ∨ i = 27 ∨ i = 28 ∨ i = 29 ∨ i = 30 ∨ i = 31 := by omega
  rcases hc with rfl | rfl | rfl | rfl | rfl | rfl | rfl | rfl | rfl | rfl | rfl | rfl | rfl | rfl | rfl | rfl | rfl | rfl | rfl | rfl | rfl | rfl | rfl | rfl | rfl | rfl | rfl | rfl | rfl | rfl | rfl | rfl
  all_goals
    simp only [Nat.reduceDiv, Nat.reduceMod, Nat.reduceMul, Int.reducePow, Nat.zero_mul, Int.pow_zero, Int.ediv_one]
    omega
theorem val_norm {d : List Int} (h : Tight d) : val (d.set 0 (el d 0 + 19 * qch d 5)) % 57896044618658097711785492504343953926634992332820282019728792003956564819968 = val d % prI := by
  obtain ⟨hl, h0, h1, h2, h3, h4⟩ := h
  have hq : qch d 5 = (val d + 19) / 57896044618658097711785492504343953926634992332820282019728792003956564819968 := by
    unfold qch qch qch qch qch qch val
    omega
  have hv : 0 ≤ val d ∧ val d < 57896044618658097711785492504343953926634992332820282019728792003956564819968 + 57896044618658097711785492504343953926634992332820282019728792003956564819 := by unfold val; omega
  have he : val (d.set 0 (el d 0 + 19 * qch d 5)) = val d + 19 * qch d 5 := by
    unfold val
    simp only [el_set _ _ _ _ (show 0 < d.length by omega)]
    rw [if_pos trivial, if_neg (by omega), if_neg (by omega), if_neg (by omega), if_neg (by omega)]
    omega
  rw [he, hq]
  clear he hq
  generalize val d = v at hv
  unfold prI
  rcases (by omega : v < 57896044618658097711785492504343953926634992332820282019728792003956564819949 ∨ 57896044618658097711785492504343953926634992332820282019728792003956564819949 ≤ v) with h | h
  · have hk : (v + 19) / 57896044618658097711785492504343953926634992332820282019728792003956564819968 = 0 := by omega
    rw [hk]; omega
  · have hk : (v + 19) / 57896044618658097711785492504343953926634992332820282019728792003956564819968 = 1 := by omega
    rw [hk]; omega
section
variable {w : World}
set_option maxRecDepth 100000 in
theorem bytes_walk (a : List Int) (ha : Lim 4503599627370496 a) :
    Calls Try.prog 26 #[fe a] w fun e w' => e = .returned (.agg (ints .u8 (bytesL (val a % prI)))) ∧ Fr [] w w' := by
  have hla := ha.len
  have HA := Lib.hid ha
  have h64 := Lib.hid (ha.mono (show (4503599627370496 : Int) ≤ 18446744073709551616 by decide))
  clear ha
  go_enter Try.func26, Try.ntmps26
  go_wp2_with fail
  refine (carry_any a h64.out).mono ?_
  rintro e w1 ⟨c, rfl, hcl, HC, F1⟩
  go_wp2_with fail
  refine (carry_any c ?_).mono ?_
  · rw [HC.out]; exact (lim_carry h64.out).mono (by decide)
  rintro e w2 ⟨d, rfl, hdl, HD, F2⟩
  have hT : Tight d := by rw [HD.out, HC.out]; exact tight_carry (lim_carry h64.out)
  have F0 : Fr [] w w2 := ((((Fr.refl [] w).alloc _).alloc _).trans F1).trans F2
  have h0 := (F1.trans F2).get (b := w.heap.size) (o := .cells (ints .u64 a) 28) (by go_simp) (by simp)
  have h1 := (F1.trans F2).get (b := w.heap.size + 1) (o := .cells (ints .u8 (zs 32)) 22) (by go_simp; rfl) (by simp)
  have h0l := World.at_lt h0
  have h1l := World.at_lt h1
  have HF0 := Lib.hid F0
  have HT := Lib.hid hT
  clear F1 F2 F0 hT
  go_wp2
  obtain ⟨W, hW⟩ : ∃ W, W = w2.put w.heap.size (.cells (ints .u64 d) 28) := ⟨_, rfl⟩
  rw [← hW]
  have hd : W.blk w.heap.size = some (.cells (ints .u64 d) 28) := by rw [hW]; exact World.at_put_same _ _ _ h0l
  have h1' : W.blk (w.heap.size + 1) = some (.cells (ints .u8 (zs 32)) 22) := by rw [hW, World.at_put_other _ _ _ _ (by omega)]; exact h1
  have F3 : Fr [] w W := by rw [hW]; exact HF0.out.put _ _ (by omega)
  have HF3 := Lib.hid F3
  clear hW F3 h0 h1 h0l h1l HF0
  go_loopw [3, 16] (fun q i wr => ∃ k : Nat, k ≤ 5 ∧ i = .int .i64 k ∧ q = .int .u64 (qch d k) ∧ wr = W) (fun _ i _ => 5 - (intOf i).toNat)
  case atStart => exact ⟨0, by omega, rfl, rfl, rfl⟩
  case round =>
    obtain ⟨k, hk, rfl, rfl, rfl⟩ := hrel
    by_cases hlt : k < 5
    · have e1 := HT.out.at_ k hlt
      have e2 := qch_lt HT.out k hk
      have e3 : (el d k + qch d k) / 2251799813685248 = qch d (k + 1) := rfl
      go_wp2
      go_roundw
      case rel => exact ⟨k + 1, by omega, by go_num, rfl, trivial⟩
      case measure => simp [intOf]; omega
    · obtain rfl : k = 5 := by omega
      rw [show ((5 : Nat) : Int) = 5 from rfl]
      obtain ⟨q, hq⟩ : ∃ q, q = qch d 5 := ⟨_, rfl⟩
      have e2 := qch_lt HT.out 5 hk
      have e1 := HT.out.at_ 0 (by omega)
      rw [← hq] at e2 ⊢
      have HQ := Lib.hid hq
      clear hq
      go_wp2
      obtain ⟨y, hy⟩ : ∃ y, y = d.set 0 (el d 0 + 19 * q) := ⟨_, rfl⟩
      obtain ⟨W, hW⟩ : ∃ W, W = wr.put w.heap.size (.cells (ints .u64 y) 28) := ⟨_, rfl⟩
      rw [← hy, ← hW]
      have hyl : y.length = 5 := by rw [hy, List.length_set]; exact hdl
      have hy53 : ∀ j, j < 5 → 0 ≤ el y j ∧ el y j < 4503599627370496 := fun j hj => by
        rw [hy, el_set _ _ _ _ (by omega)]
        have := HT.out.at_ j hj
        split <;> omega
      have h0l := World.at_lt hd
      have hd2 : W.blk w.heap.size = some (.cells (ints .u64 y) 28) := by rw [hW]; exact World.at_put_same _ _ _ h0l
      have h12 : W.blk (w.heap.size + 1) = some (.cells (ints .u8 (zs 32)) 22) := by rw [hW, World.at_put_other _ _ _ _ (by omega)]; exact h1'
      have F3 : Fr [] w W := by rw [hW]; exact HF3.out.put _ _ (by omega)
      have HF4 := Lib.hid F3
      have HY := Lib.hid hy
      have HB := Lib.hid hy53
      clear hW F3 h0l hd h1' HF3 hy hy53 e1 e2 hdl
      go_loopw [32] (fun i wr => ∃ k : Nat, k ≤ 4 ∧ i = .int .i64 k ∧ Fr [w.heap.size] W wr ∧ wr.blk w.heap.size = some (.cells (ints .u64 (rip y k)) 28 (0, 0))) (fun i _ => 4 - (intOf i).toNat)
      case atStart => exact ⟨0, by omega, rfl, Fr.refl _ _, hd2⟩
      case round =>
        obtain ⟨k, hk, rfl, FR, hc⟩ := hrel
        have hlr : (rip y k).length = 5 := by rw [length_rip]; exact hyl
        have hcl := World.at_lt hc
        have HF5 := Lib.hid FR
        clear FR hd2
        by_cases hlt : k < 4
        · have b1 := rip_lt hyl HB.out k (by omega) k (by omega)
          have b2 := rip_lt hyl HB.out k (by omega) (k + 1) (by omega)
          have b3 := b2.2.2.1 (by omega)
          have e0 := and51 (el (rip y k) k) (by omega) (by omega)
          have e1 : el ((rip y k).set (k + 1) (el (rip y k) (k + 1) + el (rip y k) k / 2251799813685248)) k = el (rip y k) k := by rw [el_set _ _ _ _ (by omega), if_neg (by omega)]
          have e2 : ((rip y k).set (k + 1) (el (rip y k) (k + 1) + el (rip y k) k / 2251799813685248)).set k (el (rip y k) k % 2251799813685248) = rip y (k + 1) := rfl
          have hk5 : k + 1 < 5 := by omega
          clear b3
          go_wp2
          refine drawn_head 13 (by kernel_rfl) rfl rfl (by kernel_rfl) ?_
          change rowK _ _ _ [0,1,2,3,4,5,6,7,8,9,10,11,12] _ _
          repeat (refine rowK_step2 rfl rfl (fun K hK => ?_); go_wp2)
          refine rowK_nil ?_
          intro K hK
          go_wp2
          go_roundw
          case rel =>
            refine ⟨k + 1, by omega, by go_num, ?_, by rw [World.at_drew]; exact World.at_put_same _ _ _ hcl⟩
            refine Fr.drew (HF5.out.put _ _ ?_)
            simp
          case measure => simp [intOf]; omega
        · obtain rfl : k = 4 := by omega
          rw [show ((4 : Nat) : Int) = 4 from rfl]
          have b4 := rip_lt hyl HB.out 4 (by omega) 4 (by omega)
          have e4 := and51 (el (rip y 4) 4) (by omega) (by omega)
          clear b4
          obtain ⟨z, hz⟩ : ∃ z, z = (rip y 4).set 4 (el (rip y 4) 4 % 2251799813685248) := ⟨_, rfl⟩
          have hzl : z.length = 5 := by rw [hz, List.length_set]; exact hlr
          have hZ : Lim 2251799813685248 z := by
            refine Lim.mk' hzl fun j hj => ?_
            have := rip_lt hyl HB.out 4 (by omega) j hj
            rw [hz, el_set _ _ _ _ (by omega)]
            split <;> omega
          obtain ⟨o1, o2, o3, o4⟩ := orsZ hZ
          have h1w := HF5.out.get h12 (by simp)
          have h1wl := World.at_lt h1w
          have FW := HF4.out.seq HF5.out (by simp)
          have HFW := Lib.hid FW
          have HZ := Lib.hid hz
          have HLZ := Lib.hid hZ
          replace hz := hz.symm
          clear hZ FW h12
          go_wp2
          rw [show (#[Value.int .u64 (el z 0 + el z 1 * 2251799813685248 % 18446744073709551616), .int .u64 (el z 1 / 8192 + el z 2 * 274877906944 % 18446744073709551616),
            .int .u64 (el z 2 / 67108864 + el z 3 * 33554432 % 18446744073709551616), .int .u64 (el z 3 / 549755813888 + el z 4 * 4096 % 18446744073709551616)] : Array Value) = ints .u64 (wordsZ z) from rfl]
          have hU := wds_wordsZ HLZ.out
          have hUl := hU.len
          obtain ⟨U, hUe⟩ : ∃ U, U = wordsZ z := ⟨_, rfl⟩
          rw [← hUe] at hU hUl ⊢
          have HUE := Lib.hid hUe
          have HU := Lib.hid hU
          clear hUe hU o1 o2 o3 o4 e4
          obtain ⟨V, hV⟩ : ∃ V, V = (((wr.put w.heap.size (.cells (ints .u64 z) 28)).alloc (.cells (ints .u64 z) 26)).alloc (.cells (ints .u64 U) 75)).alloc (.cells (ints .u8 (zs 32)) 22) := ⟨_, rfl⟩
          refine Eq.mp (congrArg (fun X => Code.wp _ _ _ _ X) hV) ?_
          have vU : V.blk (wr.heap.size + 1) = some (.cells (ints .u64 U) 75) := by rw [hV]; go_simp
          have vO : V.blk (wr.heap.size + 2) = some (.cells (ints .u8 (zs 32)) 22) := by rw [hV]; go_simp
          have h1v : V.blk (w.heap.size + 1) = some (.cells (ints .u8 (zs 32)) 22) := by rw [hV]; go_simp
          have FV : Fr [] w V := by rw [hV]; exact (((HFW.out.put _ _ (by omega)).alloc _).alloc _).alloc _
          have HFV := Lib.hid FV
          clear hV FV h1w HFW hc
          go_loopw [92] (fun i wv => ∃ k : Nat, k ≤ 32 ∧ i = .int .i64 k ∧ Fr [wr.heap.size + 2] V wv ∧ wv.blk (wr.heap.size + 2) = some (.cells (ints .u8 (upd (fun i => el U (i / 8) / 2 ^ (i % 8 * 8) % 256) (zs 32) k)) 22 (0, 0))) (fun i _ => 32 - (intOf i).toNat)
          case atStart => exact ⟨0, by omega, rfl, Fr.refl _ _, by rw [upd_zero]; exact vO⟩
          case round =>
            obtain ⟨k, hk, rfl, FR, hc⟩ := hrel
            have hcl := World.at_lt hc
            have vU' := FR.get vU (by simp)
            have vUl := World.at_lt vU'
            have h1v' := FR.get h1v (by simp; omega)
            have h1vl := World.at_lt h1v'
            have HF6 := Lib.hid FR
            clear FR vU vO h1v
            have hlu := length_upd (fun i => el U (i / 8) / 2 ^ (i % 8 * 8) % 256) (zs 32) k (by rw [length_zs]; exact hk)
            rw [length_zs] at hlu
            by_cases hlt : k < 32
            · have hset : (upd (fun i => el U (i / 8) / 2 ^ (i % 8 * 8) % 256) (zs 32) k).set k (el U (k / 8) / 2 ^ (k % 8 * 8) % 256) = upd (fun i => el U (i / 8) / 2 ^ (i % 8 * 8) % 256) (zs 32) (k + 1) :=
                set_upd (fun i => el U (i / 8) / 2 ^ (i % 8 * 8) % 256) (zs 32) k (by rw [length_zs]; exact hlt)
              have hq : k / 8 < 4 := by omega
              have hb1 := HU.out.at_ (k / 8) hq
              go_wp2
              go_roundw
              case rel =>
                refine ⟨k + 1, by omega, by go_num, ?_, World.at_put_same _ _ _ hcl⟩
                refine HF6.out.put _ _ ?_
                simp
              case measure => simp [intOf]; omega
            · obtain rfl : k = 32 := by omega
              have hfull : upd (fun i => el U (i / 8) / 2 ^ (i % 8 * 8) % 256) (zs 32) 32 = bytesL (wval U) := by
                rw [upd_full _ _ _ (length_zs 32), bytesL]
                exact List.map_congr_left fun i hi => byte_of HU.out i (List.mem_range.1 hi)
              rw [hfull] at hc hlu
              have FX := HFV.out.seq HF6.out (by simp; omega)
              have HFX := Lib.hid FX
              clear FX hfull
              go_wp2
              refine ret_cell rfl rfl rfl ?_
              go_simp
              refine ⟨?_, HFX.out.put _ _ (by omega)⟩
              have hv : wval U = val a % prI := by
                rw [HUE.out, wval_wordsZ HLZ.out, HZ.out, val_rip y hyl, HY.out, HQ.out, val_norm HT.out, HD.out, HC.out]
                rw [val_carryL a, val_carryL (carryL a)]
                simp only [prI, Int.add_mul_emod_self_left]
              rw [hv]
end
end Go.Proofs.Ytakhmmnklkckpaa
