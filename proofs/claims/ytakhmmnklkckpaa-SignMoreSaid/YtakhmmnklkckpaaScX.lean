/- The document's numbers modulo the base's order: digits of bytes, bytes of digits, Reduce, Right. -/
import Derived.Test.YtakhmmnklkckpaaScW
namespace Go.Proofs.Ytakhmmnklkckpaa
open Go.RowKit Go.Dr
/-- The digits of the first i bytes. -/
def dgF (B : List Int) (i : Nat) : List Int := (List.range ((i + 1) / 2)).map fun j => el B (2 * j) + if 2 * j + 1 < i then 256 * el B (2 * j + 1) else 0
theorem length_dgF (B : List Int) (i : Nat) : (dgF B i).length = (i + 1) / 2 := by simp [dgF]
theorem el_dgF (B : List Int) (i j : Nat) (h : j < (i + 1) / 2) : el (dgF B i) j = el B (2 * j) + if 2 * j + 1 < i then 256 * el B (2 * j + 1) else 0 := by
  rw [dgF, el_map_range _ _ _ h]
theorem dgF_even (B : List Int) (t : Nat) : dgF B (2 * t) ++ [el B (2 * t)] = dgF B (2 * t + 1) := by
  unfold dgF
  rw [show (2 * t + 1 + 1) / 2 = (2 * t + 1) / 2 + 1 from by omega, List.range_succ, List.map_append, List.map_singleton]
  have h : (2 * t + 1) / 2 = t := by omega
  rw [h]
  congr 1
  · apply List.map_congr_left
    intro j hj
    have := List.mem_range.1 hj
    rw [if_pos (by omega), if_pos (by omega)]
  · rw [if_neg (by omega), Int.add_zero]
theorem dgF_odd (B : List Int) (t : Nat) : (dgF B (2 * t + 1)).set t (el (dgF B (2 * t + 1)) t + 256 * el B (2 * t + 1)) = dgF B (2 * t + 2) := by
  apply el_ext
  · rw [List.length_set, length_dgF, length_dgF]; omega
  · intro j hj
    rw [List.length_set, length_dgF] at hj
    rw [el_set _ _ _ _ (by rw [length_dgF]; omega)]
    by_cases h : t = j
    · subst h
      rw [if_pos rfl, el_dgF _ (2 * t + 1) t (by omega), el_dgF _ (2 * t + 2) t (by omega), if_neg (by omega), if_pos (by omega), Int.add_zero]
    · rw [if_neg h, el_dgF _ (2 * t + 1) j (by omega), el_dgF _ (2 * t + 2) j (by omega)]
      congr 1
      by_cases h2 : 2 * j + 1 < 2 * t + 1
      · rw [if_pos h2, if_pos (by omega)]
      · rw [if_neg h2, if_neg (by omega)]
theorem dig_dgF {B : List Int} (hB : Byt B) (i : Nat) : Dig (dgF B i) := fun x hx => by
  obtain ⟨j, _, rfl⟩ := List.mem_map.1 hx
  have h1 := byt_el hB (2 * j)
  have h2 := byt_el hB (2 * j + 1)
  split <;> omega
section
variable {w0 : World} {L : List (Nat × Obj)} {p : Option Addr} {n cap : Nat} {l : List Int}
theorem info3 : (Try.prog.info? 3).map (fun i => (i.zero, i.size, i.bytes)) = some (some (.int .i64 0), 1, 8) := by kernel_rfl
theorem wpList_app76o {w : World} {ops : Array Oper} {rest : List Oper} {o : Oper} {a : Act} {Q : Exit → Act → World → Prop} (hgd : o.guard = none) (s x : Operand) (ho : o.op = .call { callee := .builtin .append, args := #[s, x], argTypes := #[76, 76] })
    (hs : a.eval s = .slice p n cap) (B : Bld w0 L .i64 3 w p n cap l) {y : Int} (hx : a.eval x = .slice (some ⟨w.heap.size, 0, none⟩) 1 1) (hbig : n + 1 ≤ 17592186044416)
    (h : ∀ p' cap' w', Bld w0 L .i64 3 w' p' (n + 1) cap' (l ++ [y]) → wpList Try.prog ops Q rest (a.put o.dst (.slice p' (n + 1) cap')) w') : wpList Try.prog ops Q (o :: rest) a (w.alloc (.cells #[.int .i64 y] 3)) := by
  obtain ⟨i, hi, hz, hs1, hb1⟩ := info_parts info3
  have S : Sl .i64 (w.alloc (.cells #[.int .i64 y] 3)) (some ⟨w.heap.size, 0, none⟩) 1 1 [y] := Sl.of (World.at_alloc_new _ _ _ rfl) (by simp) (by simp) (Nat.le_refl 1)
  exact wpList_apd hgd s x 76 76 ho Try.underlying76 hi hz hs1 hb1 rfl hs (B.call ((Fr.refl [] w).alloc _)) hx (Apd.ofSrc Try.underlying76 hi hz (by rw [hs1]; exact S.src Try.underlying76)) (by omega) (by omega) h
end
section
variable {w : World}
set_option maxRecDepth 100000 in
set_option maxHeartbeats 4000000 in
theorem digits_d {p : Option Addr} {n cap : Nat} {B : List Int} (S : Sl .u8 w p n cap B) (hB : Byt B) (hn : n ≤ 4096) :
    Calls Try.prog 107 #[.slice p n cap] w fun e w' => ∃ q c, e = .returned (.slice q ((n + 1) / 2) c) ∧ Sl .i64 w' q ((n + 1) / 2) c (dgF B n) ∧ Fr [] w w' := by
  have HS := Lib.hid S
  have HB := Lib.hid hB
  clear S hB
  go_enter Try.func107, Try.ntmps107
  go_wp2_with fail
  go_loopw [3, 4] (fun v iv wr => ∃ (i m c : Nat) (q : Option Addr), i ≤ n ∧ Hid (m = (i + 1) / 2) ∧ iv = .int .i64 (i : Int) ∧ v = .slice q m c ∧ Hid (Bld w [] .i64 3 wr q m c (dgF B i))) (fun _ iv _ => n - (intOf iv).toNat)
  case atStart => exact ⟨0, 0, 0, none, by omega, Lib.hid rfl, rfl, rfl, Lib.hid (Bld.nil (OwB.start w))⟩
  case round =>
    obtain ⟨i, m, c, q, hi, hm, rfl, rfl, hO⟩ := hrel
    by_cases hlt : i < n
    · have hd : decide (i < n) = true := by rw [decide_eq_true_eq]; exact hlt
      obtain ⟨bB, off, cs, T, fr, rfl, hbB, hlc, hat⟩ := HS.out.at hlt
      have f1 := hO.out.own.fr.get hbB (by simp)
      have t1 := World.at_lt f1
      have hcat : cs[off + i] = .int .u8 (el B i) := (Array.getElem?_eq_some_iff.1 hat).2
      have hel := byt_el HB.out i
      have HBB := Lib.hid hbB
      have HAT := Lib.hid hat
      clear hbB hat
      have hmb : m + 1 ≤ 17592186044416 := by have := hm.out; omega
      rcases Nat.mod_two_eq_zero_or_one i with hp | hp
      · obtain ⟨t, rfl⟩ : ∃ t, i = 2 * t := ⟨i / 2, by omega⟩
        have hd2 : ((2 * t : Nat) : Int) % 2 = 0 := by omega
        clear hp
        go_wp2_with (refine wpList_app76o rfl (.tmp 14) (.tmp 20) rfl rfl hO.out rfl hmb ?_; intro p6 c6 w6 B6; have hB6 := Lib.hid B6; clear B6)
        go_roundw
        case rel =>
          refine ⟨2 * t + 1, m + 1, c6, p6, by omega, Lib.hid (by have := hm.out; omega), by go_num, rfl, Lib.hid ?_⟩
          have h6 := hB6.out
          rw [dgF_even] at h6
          exact h6
        case measure => simp [intOf]; omega
      · obtain ⟨t, ht⟩ : ∃ t, i = 2 * t + 1 := ⟨i / 2, by omega⟩
        have hd2 : ((i : Int) % 2 == 0) = false := by rw [beq_eq_false_iff_ne]; omega
        have hi2 : (i : Int) / 2 = (t : Int) := by omega
        have htm : t < m := by have := hm.out; omega
        have hm1 : m = t + 1 := by have := hm.out; omega
        obtain ⟨g, rfl⟩ := hO.out.row.some_of (by omega)
        obtain ⟨r, hO6, hcr⟩ := hO.out.room
        have hcap := hO.out.cap_le
        have hcm : t + 1 + r.size ≤ maxLen := by omega
        have HT := Lib.hid ht
        have HCM := Lib.hid hcm
        have HCR := Lib.hid hcr
        have HM1 := Lib.hid hm1
        have f0 := hO6.nth 0 rfl
        have t0 := hO6.lt 0 rfl
        have e0 : g ≠ bB := by have := hO6.low 0 rfl; have := World.at_lt HBB.out; omega
        have e1 := e0.symm
        obtain ⟨U, hU⟩ : ∃ U, U = dgF B i := ⟨_, rfl⟩
        have lU : U.length = m := by rw [hU, length_dgF]; exact hm.out.symm
        rw [← hU] at f0 hO6
        have HU := Lib.hid hU
        have HO6 := Lib.hid hO6
        have hel2 : 0 ≤ el U t ∧ el U t < 65536 := by rw [hU]; exact dig_el (dig_dgF HB.out i) t
        clear hp ht hO hcap hcr hU hO6 hm1 hcm
        go_wp2
        refine drawn_head 16 (by kernel_rfl) rfl rfl (by kernel_rfl) ?_
        change rowK _ _ _ [0,1,2,3,4,5,6,7,8,9,10,11,12,13,14,15] _ _
        repeat (refine rowK_step2 rfl rfl (fun K hK => ?_); go_wp2)
        refine rowK_nil ?_
        intro K hK
        go_wp2
        go_roundw
        case rel =>
          have hn := (HO6.out.set 0 (.cells (rowR .i64 (U.set t (el U t + 256 * el B i)) r) 3) rfl).drew
          have e : U.set t (el U t + 256 * el B i) = dgF B (i + 1) := by rw [HU.out, HT.out]; exact dgF_odd B t
          have em : (i + 1 + 1) / 2 = m := by have := HT.out; have := HM1.out; omega
          rw [e] at hn ⊢
          refine ⟨i + 1, m, c, some ⟨g, 0, none⟩, by omega, Lib.hid em.symm, by go_num, rfl, Lib.hid ?_⟩
          have hb := Bld.of (k := .i64) (l := dgF B (i + 1)) (r := r) hn (by rw [length_dgF, em, HM1.out]; exact HCM.out)
          rw [length_dgF, em, ← HCR.out] at hb
          exact hb
        case measure => simp [intOf]; omega
    · obtain rfl : i = n := by omega
      have hd : decide (i < i) = false := by rw [decide_eq_false_iff_not]; omega
      go_wp2_with fail
      go_ret
      obtain rfl := hm.out
      exact ⟨q, c, rfl, hO.out.sl, hO.out.own.fr⟩
end
/-- The bytes of a number below 65536 ^ 16. -/
def bF (X : Nat) (i : Nat) : Int := ((X / 256 ^ i % 256 : Nat) : Int)
def bN (X : Nat) : List Int := (List.range 32).map (bF X)
theorem bF_lo (X i : Nat) : ((X / 65536 ^ i % 65536 : Nat) : Int) % 256 = bF X (2 * i) := by
  rw [bF, Nat.pow_mul, show (256 : Nat) ^ 2 = 65536 from rfl]
  omega
theorem bF_hi (X i : Nat) : ((X / 65536 ^ i % 65536 : Nat) : Int) / 256 = bF X (2 * i + 1) := by
  rw [bF, Nat.pow_succ, Nat.pow_mul, show (256 : Nat) ^ 2 = 65536 from rfl, ← Nat.div_div_eq_div_mul]
  omega
section
variable {w : World}
set_option maxRecDepth 100000 in
set_option maxHeartbeats 4000000 in
theorem bytes_d {b : Nat} {X cap : Nat} {T : TypeId} {fr : Nat × Nat} (hb : w.blk b = some (.cells (ints .i64 (digN X 17)) T fr)) :
    Calls Try.prog 108 #[.slice (some ⟨b, 0, none⟩) 16 cap] w fun e w' => e = .returned (.agg (ints .u8 (bN X))) ∧ Fr [] w w' := by
  have HB := Lib.hid hb
  have hbl := World.at_lt hb
  clear hb
  have lX := length_digN X 17
  go_enter Try.func108, Try.ntmps108
  go_wp2_with fail
  refine OwB.named (Q := fun X => Code.wp _ _ _ _ X) (show OwB w [(w.heap.size + 1, .cells (ints .u8 (zs 32)) 22), (w.heap.size, .cells (ints .u8 (zs 32)) 22)] _ from ((OwB.start w).allocN (.cells (ints .u8 (zs 32)) 22) w.heap.size rfl).allocN (.cells (ints .u8 (zs 32)) 22) (w.heap.size + 1) (by simp)) ?_
  intro V hV
  have hb1 : b ≠ w.heap.size + 1 := by omega
  generalize w.heap.size + 1 = b1 at hV hb1 ⊢
  generalize w.heap.size = b0 at hV ⊢
  have HB1 := Lib.hid hb1
  clear hb1
  go_loopw [4] (fun v wr => ∃ i : Nat, i ≤ 16 ∧ v = .int .i64 (i : Int) ∧ Hid (OwB w [(b1, .cells (ints .u8 (upd (bF X) (zs 32) (2 * i))) 22), (b0, .cells (ints .u8 (zs 32)) 22)] wr)) (fun v _ => (16 - intOf v).toNat)
  case atStart => exact ⟨0, by omega, rfl, Lib.hid (by rw [Nat.mul_zero, upd_zero]; exact hV)⟩
  case round =>
    clear hV
    obtain ⟨i, hi, rfl, hO⟩ := hrel
    have f0 := hO.out.nth 0 rfl
    have t0 := hO.out.lt 0 rfl
    have f1 := hO.out.nth 1 rfl
    have t1 := hO.out.lt 1 rfl
    have f2 := hO.out.fr.get HB.out (by simp)
    have t2 := World.at_lt f2
    have e0 := hO.out.ne 0 1 rfl rfl (by decide)
    have e1 := HB1.out
    have e2 := HB1.out.symm
    obtain ⟨U, hU⟩ : ∃ U, U = upd (bF X) (zs 32) (2 * i) := ⟨_, rfl⟩
    have lU : U.length = 32 := by rw [hU, length_upd _ _ _ (by rw [length_zs]; omega), length_zs]
    rw [← hU] at f0
    have HU := Lib.hid hU
    clear hU
    by_cases hlt : i < 16
    · have hd : decide ((i : Int) < 16) = true := by rw [decide_eq_true_eq]; omega
      have hi1 : 2 * i < 32 := by omega
      have hi2 : 2 * i + 1 < 32 := by omega
      have dX := el_digN_lt X 17 i
      have eX := Lib.hid (el_digN X 17 i)
      go_wp2
      go_roundw
      case rel =>
        refine ⟨i + 1, by omega, by go_num, Lib.hid ?_⟩
        have hn := (HU.out ▸ hO.out).set 0 (.cells (ints .u8 (upd (bF X) (zs 32) (2 * (i + 1)))) 22) rfl
        have ev : (U.set (2 * i) (el (digN X 17) i % 256)).set (2 * i + 1) (el (digN X 17) i / 256) = upd (bF X) (zs 32) (2 * (i + 1)) := by
          rw [eX.out, if_pos (by omega), bF_lo, bF_hi, HU.out, set_upd (bF X) (zs 32) (2 * i) (by rw [length_zs]; omega), set_upd (bF X) (zs 32) (2 * i + 1) (by rw [length_zs]; omega)]
          rfl
        rw [ev]
        exact hn
      case measure => simp [intOf]; omega
    · obtain rfl : i = 16 := by omega
      have hd : decide ((16 : Int) < 16) = false := by decide
      go_wp2_with fail
      have hn := hO.out
      rw [← HU.out] at hn
      have hn2 := hn.set 1 (.cells (ints .u8 U) 22) rfl
      refine ret_cell rfl rfl rfl ?_
      refine cellRet_of (hn2.nth 1 rfl) (aggB_ints lU (by kernel_rfl)) ?_
      refine ⟨?_, hn2.fr⟩
      rw [HU.out, upd_full _ _ _ (length_zs 32)]
      rfl
end
theorem gN_dgF : ∀ (B : List Int), Byt B → (gN (dgF B B.length) : Int) = vB B
  | [], _ => rfl
  | [a], h => by
    have ha := h a (by simp)
    simp [dgF, gN, vB, el]
    omega
  | a :: b :: r, h => by
    have ih := gN_dgF r (fun x hx => h x (by simp [hx]))
    have ha := h a (by simp)
    have hb := h b (by simp)
    have e : dgF (a :: b :: r) (a :: b :: r).length = (a + 256 * b) :: dgF r r.length := by
      unfold dgF
      rw [List.length_cons, List.length_cons, show (r.length + 1 + 1 + 1) / 2 = (r.length + 1) / 2 + 1 from by omega, List.range_succ_eq_map, List.map_cons, List.map_map]
      congr 1
      apply List.map_congr_left
      intro j _
      show el (a :: b :: r) (2 * (j + 1)) + (if 2 * (j + 1) + 1 < r.length + 1 + 1 then 256 * el (a :: b :: r) (2 * (j + 1) + 1) else 0) = _
      have e1 : el (a :: b :: r) (2 * (j + 1)) = el r (2 * j) := rfl
      have e2 : el (a :: b :: r) (2 * (j + 1) + 1) = el r (2 * j + 1) := rfl
      rw [e1, e2]
      by_cases hc : 2 * j + 1 < r.length
      · rw [if_pos (by omega), if_pos hc]
      · rw [if_neg (by omega), if_neg hc]
    rw [e, gN, vB, vB, ← ih]
    omega
theorem ordL_oL : (ordL : Int) = oL := by decide +kernel
theorem bN_outF {N : Nat} {x : Int} (h : (N : Int) = x) : bN N = outF (w4 x) := by
  rw [outF_w4, bN]
  apply List.map_congr_left
  intro i _
  rw [bF, ← h]
  rw [Int.natCast_emod, Int.natCast_ediv, Int.natCast_pow]
  rfl
theorem scB_bN {B : List Int} (hB : Byt B) : bN (gN (dgF B B.length) % ordL) = scB B := by
  rw [scB, modS_bits hB]
  apply bN_outF
  rw [Int.natCast_emod, gN_dgF B hB, ordL_oL]
section
variable {w : World}
set_option maxRecDepth 100000 in
set_option maxHeartbeats 2000000 in
theorem reduce_d {p : Option Addr} {n cap : Nat} {B : List Int} (S : Sl .u8 w p n cap B) (hB : Byt B) (hn : n ≤ 4096) :
    Calls Try.prog 106 #[.slice p n cap] w fun e w' => e = .returned (.agg (ints .u8 (scB B))) ∧ Fr [] w w' := by
  have HS := Lib.hid S
  have HB := Lib.hid hB
  clear S hB
  go_enter Try.func106, Try.ntmps106
  go_wp2_with fail
  have hO : OwB w [(w.heap.size, .cells (ints .u8 (zs 32)) 22)] (w.alloc (.cells (ints .u8 (zs 32)) 22)) := (OwB.start w).allocN (.cells (ints .u8 (zs 32)) 22) w.heap.size rfl
  refine (digits_d (HS.out.fr0 hO.fr) HB.out hn).mono ?_
  rintro e w1 ⟨q, c, rfl, hq, F⟩
  have hO1 := Lib.hid (hO.call F)
  have HQ := Lib.hid hq
  clear hO F hq
  simp only []
  go_wp2_with fail
  refine (modulo_d HQ.out (dig_dgF HB.out n) (by omega)).mono ?_
  rintro e w2 ⟨b, rfl, hb, hb2, F⟩
  have hO2 := Lib.hid (hO1.out.call F)
  have HBk := Lib.hid hb
  clear hO1 F hb hb2
  simp only []
  go_wp2_with fail
  refine (bytes_d HBk.out).mono ?_
  rintro e w3 ⟨rfl, F⟩
  have hO3 := hO2.out.call F
  have ln := HS.out.len
  have hR : bN (gN (dgF B n) % ordL) = scB B := by rw [← ln]; exact scB_bN HB.out
  rw [hR]
  clear hO2 F ln hR
  have lR := length_scB B
  have g0 := hO3.nth 0 rfl
  have t0 := hO3.lt 0 rfl
  simp only []
  go_wp2_with fail
  have hn := hO3.set 0 (.cells (ints .u8 (scB B)) 22) rfl
  refine ret_cell rfl rfl rfl ?_
  refine cellRet_of (hn.nth 0 rfl) (aggB_ints lR (by kernel_rfl)) ?_
  exact ⟨rfl, hn.fr⟩
set_option maxRecDepth 100000 in
set_option maxHeartbeats 2000000 in
theorem right_d {b : List Int} (lb : b.length = 32) (hb : Byt b) :
    Calls Try.prog 93 #[.agg (ints .u8 b)] w fun e w' => e = .returned (.bool (decide (scB b = b))) ∧ Fr [] w w' := by
  have HB := Lib.hid hb
  clear hb
  go_enter Try.func93, Try.ntmps93
  go_wp2_with fail
  have hO : OwB w [(w.heap.size, .cells (ints .u8 b) 22)] (w.alloc (.cells (ints .u8 b) 22)) := (OwB.start w).allocN (.cells (ints .u8 b) 22) w.heap.size rfl
  refine OwB.named (Q := fun X => Code.wp _ _ _ _ X) hO ?_
  intro V hV
  generalize w.heap.size = bb at hV ⊢
  obtain ⟨L5, hL5⟩ : ∃ L5 : List (Nat × Obj), L5 = [(bb, .cells (ints .u8 b) 22)] := ⟨_, rfl⟩
  rw [← hL5] at hV
  have HL5 := Lib.hid hL5
  clear hL5 hO
  have hne : Nonempty (OwnW w L5) := ⟨⟨_, hV⟩⟩
  have f0 : ∀ x : OwnW w L5, x.w.blk bb = some (.cells (ints .u8 b) 22) := fun x => x.nth HL5.out 0 rfl
  have heq := fun (W : World) => eq22 (scB b) b (length_scB b) lb W
  refine wp_region_own (by kernel_rfl) (by kernel_rfl) hV ?_
  repeat (go_big_quiet_step (exact Calls.own_of (reduce_d (Sl.ofInts (f0 _) (by omega) (by rw [List.drop_zero, List.take_of_length_le (by omega)]) (Nat.le_refl 32)) HB.out (by omega))))
  refine wpQuiet_nil ?_
  intro _ hw'
  obtain ⟨⟨V9, hV9⟩, rfl⟩ := hw'
  clear f0 hne hV heq
  go_wp2_with fail
  go_ret
  exact ⟨rfl, hV9.fr⟩
end
end Go.Proofs.Ytakhmmnklkckpaa
