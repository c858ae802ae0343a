/- The package field: what its calls do, modulo p; power, Inv. -/
import Derived.Test.YtakhmmnklkckpaaFdE
import Derived.Test.YtakhmmnklkckpaaFpC
namespace Go.Proofs.Ytakhmmnklkckpaa
open Go.RowKit Go.Dr

/-- The limbs of a number modulo p. -/
structure Is (l : List Int) (x : Fp) : Prop where
  lim : Lim 4503599627370496 l
  eq : toFp (val l) = x
theorem Is.len {l : List Int} {x : Fp} (h : Is l x) : l.length = 5 := h.lim.len
theorem is_carry {l : List Int} (h : Lim 18446744073709551616 l) {x : Fp} (hx : toFp (val l) = x) : Is (carryL l) x :=
  ⟨lim_carry h, by rw [← hx]; exact toFp_eq (by rw [val_carryL l, prI, Int.add_mul_emod_self_left])⟩
theorem lim_addL {a b : List Int} (ha : Lim 4503599627370496 a) (hb : Lim 4503599627370496 b) : Lim 18446744073709551616 (addL a b) ∧ val (addL a b) = val a + val b := by
  constructor
  · refine Lim.mk' (by simp [addL]) fun k hk => ?_
    rw [addL, el_map_range _ _ _ hk]
    have := ha.at_ k hk
    have := hb.at_ k hk
    omega
  · unfold val addL
    rw [el_map_range _ _ _ (by omega), el_map_range _ _ _ (by omega), el_map_range _ _ _ (by omega), el_map_range _ _ _ (by omega), el_map_range _ _ _ (by omega)]
    omega
theorem lim_subL {a b : List Int} (ha : Lim 4503599627370496 a) (hb : Lim 4503599627370496 b) : Lim 18446744073709551616 (subL a b) ∧ val (subL a b) = val a - val b + prI * 4 := by
  constructor
  · refine Lim.mk' (by simp [subL]) fun k hk => ?_
    rw [subL, el_map_range _ _ _ hk]
    have := ha.at_ k hk
    have := hb.at_ k hk
    have := fourP_at k hk
    omega
  · unfold val subL
    rw [el_map_range _ _ _ (by omega), el_map_range _ _ _ (by omega), el_map_range _ _ _ (by omega), el_map_range _ _ _ (by omega), el_map_range _ _ _ (by omega)]
    simp only [fourP, el_zero, el_succ, prI]
    omega
/-- The bytes of a number modulo p. -/
def bytesF (x : Fp) : List Int := bytesL (x.val : Int)
section
variable {w : World} {a b : List Int} {x y : Fp}
theorem of_f {b : List Int} (hlb : b.length = 32) (hb : Byt b) :
    Calls Try.prog 27 #[.agg (ints .u8 b)] w fun e w' => ∃ c, e = .returned (fe c) ∧ Is c (toFp (le b % 57896044618658097711785492504343953926634992332820282019728792003956564819968)) ∧ Fr [] w w' :=
  (of_any b hlb hb).mono fun _ _ ⟨c, h1, h2, h3, h4⟩ => ⟨c, h1, ⟨h2.mono (by decide), by rw [h3]⟩, h4⟩
theorem bytes_f (ha : Is a x) : Calls Try.prog 26 #[fe a] w fun e w' => e = .returned (.agg (ints .u8 (bytesF x))) ∧ Fr [] w w' := by
  have := bytes_walk (w := w) a ha.lim
  rw [← val_toFp, ha.eq] at this
  exact this
theorem add_f (ha : Is a x) (hb : Is b y) : Calls Try.prog 30 #[fe a, fe b] w fun e w' => ∃ c, e = .returned (fe c) ∧ Is c (x + y) ∧ Fr [] w w' :=
  (add_walk a b ha.lim hb.lim).mono fun _ _ ⟨c, h1, _, h3, h4⟩ => ⟨c, h1, by
    have h := lim_addL ha.lim hb.lim
    rw [h3.out]
    exact is_carry h.1 (by rw [h.2, toFp_add, ha.eq, hb.eq]), h4⟩
theorem sub_of (ha : Is a x) (hb : Is b y) : Is (carryL (subL a b)) (x - y) := by
  have h := lim_subL ha.lim hb.lim
  refine is_carry h.1 ?_
  rw [← ha.eq, ← hb.eq, ← toFp_sub, h.2]
  exact toFp_eq (by rw [Int.add_mul_emod_self_left])
theorem sub_f (ha : Is a x) (hb : Is b y) : Calls Try.prog 32 #[fe a, fe b] w fun e w' => ∃ c, e = .returned (fe c) ∧ Is c (x - y) ∧ Fr [] w w' :=
  (sub_walk a b ha.lim hb.lim).mono fun _ _ ⟨c, h1, _, h3, h4⟩ => ⟨c, h1, by rw [h3.out]; exact sub_of ha hb, h4⟩
theorem is_zero : Is (zs 5) 0 := ⟨⟨rfl, by decide, by decide, by decide, by decide, by decide⟩, by decide⟩
theorem neg_f (ha : Is a x) : Calls Try.prog 34 #[fe a] w fun e w' => ∃ c, e = .returned (fe c) ∧ Is c (-x) ∧ Fr [] w w' :=
  (neg_walk a ha.lim).mono fun _ _ ⟨c, h1, _, h3, h4⟩ => ⟨c, h1, by
    rw [h3.out, show -x = 0 - x from by grobner]; exact sub_of is_zero ha, h4⟩
theorem mul_f (ha : Is a x) (hb : Is b y) : Calls Try.prog 36 #[fe a, fe b] w fun e w' => ∃ c, e = .returned (fe c) ∧ Is c (x * y) ∧ Fr [] w w' :=
  (mul_any a b ha.lim hb.lim).mono fun _ _ ⟨c, h1, h2, h3, h4⟩ => ⟨c, h1, ⟨h2, by rw [toFp_eq h3, toFp_mul, ha.eq, hb.eq]⟩, h4⟩
end
/-- Is the bit set in 2^n - k? -/
def bitB (_n k i : Nat) : Bool := decide ((k - 1) / 2 ^ i % 2 = 0) || decide (10 < i)
section
variable {w : World}
theorem i64_and1 (n : Int) : bits .and .i64 n 1 = n % 2 := by
  have h1 : (BitVec.ofInt 64 1).toNat = 2 ^ 1 - 1 := by decide
  have key : (BitVec.ofInt 64 n &&& BitVec.ofInt 64 1).toNat = (n % ((2 ^ 64 : Nat) : Int)).toNat % 2 ^ 1 := by
    rw [BitVec.toNat_and, BitVec.toNat_ofInt, h1, Nat.and_two_pow_sub_one_eq_mod]
  show IntKind.i64.wrap ((BitVec.ofInt 64 n &&& BitVec.ofInt 64 1).toNat : Nat) = n % 2
  rw [key, IntKind.wrap_i64]
  omega
theorem bit_any {b : Nat} (n i k : Nat) (hi : i ≤ 255) (hk : 1 ≤ k) (hk2 : k ≤ 2048) (hb : w.blk b = some (.cells #[.int .i64 k] 3)) :
    Calls Try.prog 99 #[.int .i64 i, .pointer (some ⟨b, 0, none⟩)] w fun e w' => e = .returned (.bool (bitB n k i)) ∧ w' = w := by
  by_cases h10 : 10 < i
  · have hB : bitB n k i = true := by unfold bitB; simp [h10]
    rw [hB]
    have h10' : decide (10 < (i : Int)) = true := by simp; omega
    go_enter Try.func99, Try.ntmps99
    go_wp2
    all_goals (go_ret; simp)
  · have hB : bitB n k i = (((k : Int) - 1) / 2 ^ i % 2 == 0) := by
      unfold bitB
      have e : ((k : Int) - 1) / 2 ^ i % 2 = (((k - 1) / 2 ^ i % 2 : Nat) : Int) := by
        rw [Int.natCast_emod, Int.natCast_ediv, Int.natCast_pow]
        congr 2
        omega
      rw [e]
      simp only [h10, decide_false, Bool.or_false]
      rw [Bool.eq_iff_iff]
      simp only [decide_eq_true_eq, beq_iff_eq]
      omega
    rw [hB]
    have ha := i64_and1 (((k : Int) - 1) / 2 ^ i)
    have h64 : i ≤ 64 := by omega
    have h10' : decide (10 < (i : Int)) = false := by simp; omega
    go_enter Try.func99, Try.ntmps99
    go_wp2
    all_goals (go_ret; simp [*])
set_option maxRecDepth 100000 in
theorem power_walk (a : List Int) (x : Fp) (ha : Is a x) (n k : Nat) (hn : 1 ≤ n) (hn2 : n ≤ 255) (hk : 1 ≤ k) (hk2 : k ≤ 2048)
    (hbits : ∀ i, i < n → bitB n k i = decide ((2 ^ n - k) / 2 ^ i % 2 = 1)) :
    Calls Try.prog 73 #[fe a, .int .i64 n, .int .i64 k] w fun e w' => ∃ c, e = .returned (fe c) ∧ Is c (pw x (2 ^ n - k)) ∧ Fr [] w w' := by
  have hla := ha.len
  have HA := Lib.hid ha
  have HB := Lib.hid hbits
  clear ha hbits
  unfold fe
  go_enter Try.func73, Try.ntmps73
  go_wp2
  obtain ⟨V, hV⟩ : ∃ V, V = ((((w.alloc (.cells (ints .u64 a) 28)).alloc (.cells #[.int .i64 k] 3)).alloc (.cells (ints .u64 (zs 5)) 28)).alloc (.cells (ints .u64 [1, 0, 0, 0, 0]) 28)) := ⟨_, rfl⟩
  refine Eq.mp (congrArg (fun X => Code.wp _ _ _ _ X) hV) ?_
  have h0 : V.blk w.heap.size = some (.cells (ints .u64 a) 28) := by rw [hV]; go_simp
  have h1 : V.blk (w.heap.size + 1) = some (.cells #[.int .i64 k] 3) := by rw [hV]; go_simp
  have h2 : V.blk (w.heap.size + 2) = some (.cells (ints .u64 (zs 5)) 28) := by rw [hV]; go_simp
  have h3 : V.blk (w.heap.size + 3) = some (.cells (ints .u64 [1, 0, 0, 0, 0]) 28) := by rw [hV]; go_simp
  have FV : Fr [] w V := by rw [hV]; exact ((((Fr.refl _ _).alloc _).alloc _).alloc _).alloc _
  have HFV := Lib.hid FV
  clear hV FV
  have one : Is [1, 0, 0, 0, 0] (pw x ((2 ^ n - k) / 2 ^ n)) := by
    have hp := Nat.two_pow_pos n
    rw [Nat.div_eq_of_lt (by omega), pw_zero]
    exact ⟨⟨rfl, by decide, by decide, by decide, by decide, by decide⟩, by decide⟩
  have H0 := Lib.hid h0
  have H1 := Lib.hid h1
  have H2 := Lib.hid h2
  go_loopw [9] (fun iv wr => ∃ (j : Nat) (c : List Int), j ≤ n ∧ iv = .int .i64 ((j : Int) - 1) ∧ Fr [w.heap.size + 3] V wr ∧ wr.blk (w.heap.size + 3) = some (.cells (ints .u64 c) 28 (0, 0)) ∧ Is c (pw x ((2 ^ n - k) / 2 ^ j))) (fun iv _ => (intOf iv + 1).toNat)
  case atStart => exact ⟨n, _, Nat.le_refl n, rfl, Fr.refl _ _, h3, one⟩
  case round =>
    obtain ⟨j, c, hj, rfl, FR, hc, hC⟩ := hrel
    have HC := Lib.hid hC
    have hcl := hC.len
    have hcb := World.at_lt hc
    clear h0 h1 h2 h3 one hC
    by_cases h0 : 1 ≤ j
    · have k1 := FR.get H1.out (by simp)
      have k0 := FR.get H0.out (by simp)
      have HFR := Lib.hid FR
      clear FR
      go_wp2_with fail
      refine (mul_f HC.out HC.out).mono ?_
      rintro e w1 ⟨d, rfl, hD, F1⟩
      have hc1 := F1.get hc (by simp)
      have hc1b := World.at_lt hc1
      have k1' := F1.get k1 (by simp)
      have k0' := F1.get k0 (by simp)
      have hdl := hD.len
      have HD := Lib.hid hD
      have HF1 := Lib.hid (HFR.out.trans (F1.mono (fun _ h => by cases h)))
      clear F1 hD hc k1 k0 hcb
      have hj1 : ((j - 1 : Nat) : Int) = (j : Int) - 1 := by omega
      go_wp2_with fail
      rw [← hj1]
      refine (bit_any n (j - 1) k (by omega) hk hk2 (b := w.heap.size + 1) (by rw [World.at_put_other _ _ _ _ (by omega)]; exact k1')).mono ?_
      rintro e w2 ⟨rfl, rfl⟩
      have hE : (2 ^ n - k) / 2 ^ (j - 1) = 2 * ((2 ^ n - k) / 2 ^ j) + (2 ^ n - k) / 2 ^ (j - 1) % 2 := by
        have : 2 ^ j = 2 ^ (j - 1) * 2 := by rw [← Nat.pow_succ, show (j - 1).succ = j from by omega]
        rw [this, ← Nat.div_div_eq_div_mul]
        omega
      have hbit := HB.out (j - 1) (by omega)
      obtain ⟨W, hW⟩ : ∃ W, W = w1.put (w.heap.size + 1 + 1 + 1) (.cells (ints .u64 d) 28) := ⟨_, rfl⟩
      rw [← hW]
      have g0 : W.blk w.heap.size = some (.cells (ints .u64 a) 28) := by rw [hW, World.at_put_other _ _ _ _ (by omega)]; exact k0'
      have g3 : W.blk (w.heap.size + 3) = some (.cells (ints .u64 d) 28) := by rw [hW]; exact World.at_put_same _ _ _ hc1b
      have FW : Fr [w.heap.size + 3] V W := by rw [hW]; exact HF1.out.put _ _ (by simp)
      have HFW := Lib.hid FW
      have g3b := World.at_lt g3
      clear hW FW k0' k1' hc1 hc1b HF1
      cases hb : bitB n k (j - 1) with
      | true =>
        rw [hb] at hbit
        have hE1 : (2 ^ n - k) / 2 ^ (j - 1) % 2 = 1 := of_decide_eq_true hbit.symm
        have HE := Lib.hid hE
        have HE1 := Lib.hid hE1
        clear hE hE1 hbit hb
        simp only []
        go_wp2_with fail
        refine (mul_f HD.out HA.out).mono ?_
        rintro e w2 ⟨z, rfl, hZ, F2⟩
        have g4 := F2.get g3 (by simp)
        have g4b := World.at_lt g4
        have hzl := hZ.len
        have HZ := Lib.hid hZ
        have HF2 := Lib.hid (HFW.out.trans (F2.mono (fun _ h => by cases h)))
        clear F2 hZ g3 g0 g3b
        go_wp2
        go_roundw
        case rel =>
          refine ⟨j - 1, z, by omega, by rw [hj1], HF2.out.put _ _ (by simp), World.at_put_same _ _ _ g4b, ?_⟩
          rw [HE.out, HE1.out, pw_succ, Nat.two_mul, pw_add]
          exact HZ.out
        case measure => simp [intOf]; omega
      | false =>
        rw [hb] at hbit
        have hE1 : (2 ^ n - k) / 2 ^ (j - 1) % 2 = 0 := by have := of_decide_eq_false hbit.symm; omega
        have HE := Lib.hid hE
        have HE1 := Lib.hid hE1
        clear hE hE1 hbit hb g0
        simp only []
        go_wp2
        go_roundw
        case rel =>
          refine ⟨j - 1, d, by omega, by rw [hj1], HFW.out, g3, ?_⟩
          rw [HE.out, HE1.out, Nat.add_zero, Nat.two_mul, pw_add]
          exact HD.out
        case measure => simp [intOf]; omega
    · obtain rfl : j = 0 := by omega
      have h2 := FR.get H2.out (by simp)
      have FX := HFV.out.seq FR (by simp)
      have h2l := World.at_lt h2
      have HFX := Lib.hid FX
      clear FR FX
      go_wp2
      refine ret_cell rfl rfl rfl ?_
      go_simp
      refine ⟨c, rfl, ?_, HFX.out.put _ _ (by omega)⟩
      have := HC.out
      rwa [Nat.pow_zero, Nat.div_one] at this
theorem bits_of {n k : Nat} (h : ((List.range n).all fun i => bitB n k i == decide ((2 ^ n - k) / 2 ^ i % 2 = 1)) = true) : ∀ i, i < n → bitB n k i = decide ((2 ^ n - k) / 2 ^ i % 2 = 1) := fun i hi => by
  have := List.all_eq_true.1 h i (List.mem_range.2 hi)
  simpa using this
theorem power255 {a : List Int} {x : Fp} (ha : Is a x) : Calls Try.prog 73 #[fe a, .int .i64 255, .int .i64 21] w fun e w' => ∃ c, e = .returned (fe c) ∧ Is c (inv x) ∧ Fr [] w w' := by
  have := power_walk (w := w) a x ha 255 21 (by omega) (by omega) (by omega) (by omega) (bits_of (by kernel_rfl))
  rw [show 2 ^ 255 - 21 = pm2 from by unfold pm2; omega] at this
  exact this
theorem power252 {a : List Int} {x : Fp} (ha : Is a x) : Calls Try.prog 73 #[fe a, .int .i64 252, .int .i64 2] w fun e w' => ∃ c, e = .returned (fe c) ∧ Is c (pw x pEight) ∧ Fr [] w w' := by
  have := power_walk (w := w) a x ha 252 2 (by omega) (by omega) (by omega) (by omega) (bits_of (by kernel_rfl))
  rw [show 2 ^ 252 - 2 = pEight from by unfold pEight; omega] at this
  exact this
theorem power253 {a : List Int} {x : Fp} (ha : Is a x) : Calls Try.prog 73 #[fe a, .int .i64 253, .int .i64 5] w fun e w' => ∃ c, e = .returned (fe c) ∧ Is c (pw x pQuart) ∧ Fr [] w w' := by
  have := power_walk (w := w) a x ha 253 5 (by omega) (by omega) (by omega) (by omega) (bits_of (by kernel_rfl))
  rw [show 2 ^ 253 - 5 = pQuart from by unfold pQuart; omega] at this
  exact this
theorem inv_f {a : List Int} {x : Fp} (ha : Is a x) : Calls Try.prog 40 #[fe a] w fun e w' => ∃ c, e = .returned (fe c) ∧ Is c (inv x) ∧ Fr [] w w' := by
  have hla := ha.len
  have HA := Lib.hid ha
  clear ha
  go_enter Try.func40, Try.ntmps40
  go_wp2_with fail
  refine (power255 HA.out).mono ?_
  rintro e w1 ⟨c, rfl, hC, F1⟩
  have h3 := F1.get (b := w.heap.size + 1) (o := .cells (ints .u64 (zs 5)) 28) (by go_simp; rfl) (by simp)
  have h3l := World.at_lt h3
  have hcl := hC.len
  have HC := Lib.hid hC
  have HFB := Lib.hid ((((Fr.refl [] w).alloc _).alloc _).trans F1)
  clear F1 hC
  go_wp2
  refine ret_cell rfl rfl rfl ?_
  go_simp
  exact ⟨_, rfl, HC.out, HFB.out.put _ _ (by omega)⟩
end
end Go.Proofs.Ytakhmmnklkckpaa
