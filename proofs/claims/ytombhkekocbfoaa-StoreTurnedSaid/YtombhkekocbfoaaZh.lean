/- Joined: SoO, SoC, StM, SoY, SoZa, SoD. -/
import Derived.Test.YtombhkekocbfoaaZg
import Derived.Test.YtombhkekocbfoaaZf
set_option linter.unusedVariables false
set_option linter.unusedSimpArgs false
namespace Go.Proofs.Ytombhkekocbfoaa
open Go.RowKit Go.Dr Go.Kd Go.St
theorem w64_id {x : Int} (h1 : 0 ≤ x) (h2 : x ≤ 9223372036854775807) : wrap64 x = x := by unfold wrap64; omega
section
variable {w : World}
set_option maxRecDepth 100000 in
set_option maxHeartbeats 2000000 in
theorem rput8_b {n s : Nat} (h1 : 1 ≤ s) (h8 : s ≤ 8) (hn : n < 256 ^ s) :
    Calls Try.prog 73 #[.int .u64 n, .int .i64 s] w fun e w' => ∃ b, e = .returned (.tuple #[.slice (some ⟨b, 0, none⟩) s s, .bool true]) ∧ w'.blk b = some (.cells (ints .u8 (putB n s)) 5) ∧ w.heap.size ≤ b ∧ Fr [] w w' := by
  have hn64 : n < 18446744073709551616 := Nat.lt_of_lt_of_le hn (Nat.le_trans (Nat.pow_le_pow_right (by omega) (by omega : s ≤ 8)) (by decide))
  go_enter Try.func73, Try.ntmps73
  have d1 : decide ((s : Int) < 1) = false := by rw [decide_eq_false_iff_not]; omega
  have d2 : decide ((s : Int) > 8) = false := by rw [decide_eq_false_iff_not]; omega
  have m0 : (0 : Int) ≤ s := by omega
  have m1 : (s : Int) ≤ 281474976710656 := by omega
  have w1 : IntKind.i64.wrap ((s : Int) - 1) = (s : Int) - 1 := by rw [IntKind.wrap_i64]; omega
  go_wp2_with fail
  refine OwB.named (Q := fun X => Code.wp _ _ _ _ X) (show OwB w [(w.heap.size, .cells (ints .u8 (rowP n s 0)) 5)] _ from (by rw [rowP_zero]; exact (OwB.start w).allocN (.cells (ints .u8 (zs s)) 5) w.heap.size rfl)) ?_
  intro V hV
  obtain ⟨b, hb⟩ : ∃ b, b = w.heap.size := ⟨_, rfl⟩
  rw [← hb] at hV ⊢
  have HB := Lib.hid hb
  clear hb w1
  go_loopw [0, 7] (fun nv iv wy => ∃ (j : Nat) (k : Int) (m : Nat), j ≤ s ∧ Hid (k = (s : Int) - 1 - j) ∧ iv = .int .i64 k ∧ nv = .int .u64 (m : Int) ∧ Hid (m = n / 256 ^ j) ∧ Hid (OwB w [(b, .cells (ints .u8 (rowP n s j)) 5)] wy)) (fun _ iv _ => (intOf iv + 1).toNat)
  case atStart => exact ⟨0, _, n, by omega, Lib.hid (by simp), rfl, rfl, Lib.hid (by simp), Lib.hid hV⟩
  case round =>
    clear hV
    obtain ⟨j, k, m, hj, hk, rfl, rfl, hm, hO⟩ := hrel
    have f0 := hO.out.nth 0 rfl
    have t0 := hO.out.lt 0 rfl
    obtain ⟨U, hU⟩ : ∃ U, U = rowP n s j := ⟨_, rfl⟩
    have lU : U.length = s := by rw [hU, length_rowP]
    rw [← hU] at f0
    have HU := Lib.hid hU
    clear hU
    have hm64 : m < 18446744073709551616 := by rw [hm.out]; exact Nat.lt_of_le_of_lt (Nat.div_le_self _ _) hn64
    by_cases hlt : j < s
    · have hd : decide (k ≥ 0) = true := by rw [decide_eq_true_eq, hk.out]; omega
      have hd2 : decide (0 ≤ k) = true := by rw [decide_eq_true_eq, hk.out]; omega
      obtain ⟨q, hq⟩ : ∃ q : Nat, k = (q : Int) := ⟨s - 1 - j, by rw [hk.out]; omega⟩
      have hqs : q < s := by have := hk.out; omega
      have hqe : q = s - 1 - j := by have := hk.out; omega
      subst hq
      have w3 : IntKind.i64.wrap ((q : Int) - 1) = (q : Int) - 1 := by rw [IntKind.wrap_i64]; omega
      have w4 : IntKind.u8.wrap ((m : Int) % 256) = (m : Int) % 256 := by rw [IntKind.wrap_u8]; omega
      have w5 : IntKind.u64.wrap ((m : Int) / 256) = (m : Int) / 256 := by rw [IntKind.wrap_u64, Int.emod_eq_of_lt] <;> omega
      have HQ := Lib.hid hqe
      clear hqe
      go_wp2
      go_roundw
      case rel =>
        refine ⟨j + 1, (q : Int) - 1, m / 256, by omega, Lib.hid (by have := HQ.out; omega), rfl, by simp, Lib.hid (by rw [hm.out, Nat.div_div_eq_div_mul, Nat.pow_succ]), Lib.hid ?_⟩
        have hn2 := hO.out.set 0 (.cells (ints .u8 (rowP n s (j + 1))) 5) rfl
        have ev : U.set q ((m : Int) % 256) = rowP n s (j + 1) := by
          rw [HU.out, HQ.out, ← rowP_succ hlt, ← hm.out]
          try rfl
        rw [ev]
        exact hn2
      case measure => simp [intOf]
    · obtain rfl : j = s := by omega
      have hd : decide (k ≥ 0) = false := by rw [decide_eq_false_iff_not, hk.out]; omega
      have hd2 : decide (0 ≤ k) = false := by rw [decide_eq_false_iff_not, hk.out]; omega
      have hm0 : m = 0 := by rw [hm.out]; exact Nat.div_eq_of_lt hn
      have hmd : ((m : Int) != 0) = false := by rw [hm0]; rfl
      clear hm0
      go_wp2
      refine bodyPost_ret (results_tmp2 rfl _ _ _) rfl ⟨b, rfl, ?_, by rw [HB.out]; exact Nat.le_refl _, hO.out.fr⟩
      rw [HU.out, rowP_full] at f0
      exact f0
set_option maxRecDepth 100000 in
set_option maxHeartbeats 2000000 in
theorem long_b {n : Nat} (hn : n < 18446744073709551616) :
    Calls Try.prog 62 #[.int .u64 n] w fun e w' => ∃ b, e = .returned (.slice (some ⟨b, 0, none⟩) 8 8) ∧ w'.blk b = some (.cells (ints .u8 (putB n 8)) 5) ∧ w.heap.size ≤ b ∧ Fr [] w w' := by
  go_enter Try.func62, Try.ntmps62
  go_wp2_with fail
  refine (rput8_b (n := n) (s := 8) (by omega) (by omega) (by simpa using hn)).mono ?_
  rintro e w1 ⟨b, rfl, g, hl, F⟩
  have G := Lib.hid g
  have HF := Lib.hid F
  clear g F
  go_wp2_with fail
  exact bodyPost_ret (results_tmp rfl _ _ _) rfl ⟨b, rfl, G.out, hl, HF.out⟩
set_option maxRecDepth 100000 in
set_option maxHeartbeats 2000000 in
theorem dS_f {p : Option Addr} {n cap : Nat} {b : Bs} (T : Sl .u8 w p n cap b) (hb : isBytes b) (hn : n ≤ 1000000000) :
    Calls Try.prog 64 #[.slice p n cap] w fun e w' => e = .returned (.int .i64 (Go.St.S b : Nat)) ∧ w' = w := by
  have HS := Lib.hid T
  have HN := Lib.hid T.len
  have HB := Lib.hid hb
  clear T hb
  go_enter Try.func64, Try.ntmps64
  go_wp2_with fail
  go_loopw [3, 4] (fun sv iv wy => ∃ i : Nat, i ≤ n ∧ iv = .int .i64 (i : Int) ∧ sv = .int .i64 (Go.St.S (b.take i) : Nat) ∧ wy = w) (fun _ iv _ => (n - intOf iv).toNat)
  case atStart => exact ⟨0, by omega, rfl, rfl, rfl⟩
  case round =>
    obtain ⟨i, hin, rfl, rfl, rfl⟩ := hrel
    by_cases hlt : i < n
    · have hd : decide ((i : Int) < (n : Int)) = true := by rw [decide_eq_true_eq]; omega
      obtain ⟨bb, off, cs, TT, fr, rfl, hbk, hs2, hat⟩ := HS.out.at hlt
      have tb := World.at_lt hbk
      obtain ⟨y, hy⟩ : ∃ y : Nat, el b i = (y : Int) := ⟨(el b i).toNat, by have := el_byte HB.out (i := i) (by rw [HN.out]; exact hlt); omega⟩
      have hyb : y < 256 := by have := el_byte HB.out (i := i) (by rw [HN.out]; exact hlt); omega
      rw [hy] at hat
      replace hat := (Array.getElem?_eq_some_iff.1 hat).2
      have hnext : Go.St.S (b.take (i + 1)) = (Go.St.S (b.take i) + (i + 1) * y) % 2147483647 := by
        rw [take_el (by rw [HN.out]; exact hlt), hy, S_snoc, List.length_take, HN.out, Nat.min_eq_left (by omega)]
        rfl
      have hsl := S_lt (b.take i)
      obtain ⟨s0, hs0⟩ : ∃ s0, s0 = Go.St.S (b.take i) := ⟨_, rfl⟩
      rw [← hs0] at hnext hsl ⊢
      have HNX := Lib.hid hnext
      clear hnext hs0
      have hmul : (i + 1) * y ≤ 256000000000 := Nat.le_trans (Nat.mul_le_mul (show i + 1 ≤ 1000000000 by omega) (show y ≤ 256 by omega)) (by decide)
      obtain ⟨m0, hm0⟩ : ∃ m0, (i + 1) * y = m0 := ⟨_, rfl⟩
      rw [hm0] at hmul
      have ki : (i : Int) < (n : Int) := by omega
      have w5 : ((s0 : Int) + (m0 : Int)).tmod 2147483647 = (((s0 + m0) % 2147483647 : Nat) : Int) := by
        rw [Int.tmod_eq_emod_of_nonneg (by omega)]; omega
      have wm : ((i : Int) + 1) * (y : Int) = (m0 : Int) := by rw [← hm0]; push_cast; rfl
      have HM0 := Lib.hid hm0
      clear hy hm0
      go_wp2_with fail
      go_roundw
      case rel => exact ⟨i + 1, hlt, by first | rfl | simp, by rw [HNX.out, HM0.out]; first | rfl | simp, trivial⟩
      case measure => simp [intOf]; omega
    · obtain rfl : i = n := by omega
      have hd : decide ((i : Int) < (i : Int)) = false := by simp
      have htk : b.take i = b := List.take_of_length_le (by rw [HN.out]; exact Nat.le_refl _)
      rw [htk]
      go_wp2_with fail
      exact bodyPost_ret (results_tmp rfl _ _ _) rfl ⟨rfl, rfl⟩
end
end Go.Proofs.Ytombhkekocbfoaa
namespace Go.Proofs.Ytombhkekocbfoaa
open Go.RowKit Go.Dr Go.Kd Go.St
section
variable {w : World}
set_option maxRecDepth 100000 in
set_option maxHeartbeats 4000000 in
theorem record_f {e k n cap : Nat} {p : Option Addr} {P : Bs} (hk : k < 4294967296) (S : Sl .u8 w p n cap P) (hP : isBytes P) (hn : n ≤ 1000000) :
    Calls Try.prog 37 #[.int .u64 (e : Int), .int .u32 (k : Int), .slice p n cap] w fun en w' => ∃ q m cp, en = .returned (.slice q m cp) ∧ Bld w [] .u8 5 w' q m cp (recB e k P) := by
  have HS := Lib.hid S
  have HPB := Lib.hid hP
  have HN := Lib.hid S.len
  clear S hP
  have wn : IntKind.u64.wrap (n : Int) = (n : Int) := by rw [IntKind.wrap_u64]; omega
  have wk : IntKind.u64.wrap (k : Int) = (k : Int) := by rw [IntKind.wrap_u64]; omega
  go_enter Try.func37, Try.ntmps37
  go_wp2_with fail
  refine (num_b (n := n) (s := 4) (.inr ⟨rfl, by omega⟩)).mono ?_
  rintro en w1 ⟨b7, rfl, g7, l7, F1⟩
  have HV1 := Lib.hid (((OwB.start w).call F1).room g7 (by simp) l7)
  clear g7 l7 F1
  have f7 := HV1.out.nth 0 rfl
  have t7 := World.at_lt f7
  go_upto_region 2 with (fail)
  refine drawn_begin 13 (fun w' => w'.blk b7 = some (.cells (ints .u8 (putB n 4)) 5)) (by kernel_rfl) ?_
  refine drawn_reads (fuel := 7) [0, 1, 2, 4, 5, 7, 8] rfl (by kernel_rfl) f7 ?_
  repeat (first | (refine rowK_step2 rfl rfl (fun K hK => ?_); go_wp2) | (refine rowK_step rfl (fun K hK => ?_); go_simp; refine hK _ ?_; clear hK K))
  refine rowK_nil ⟨fun w' e1 => ?_, ?_⟩
  · clear f7 t7
    have t7 := World.at_lt e1
    repeat (first | (refine rowWp_step2 rfl rfl (fun K hK => ?_); go_wp2) | (refine rowWp_step rfl (fun K hK => ?_); go_simp; refine hK _ ?_; clear hK K))
    exact rowWp_nil rfl
  refine drawn_next 3 (fuel := 6) rfl (by kernel_rfl) ?_
  intro K hK
  go_wp2_with fail
  refine (num_b (n := e) (s := 8) (.inl rfl)).mono ?_
  rintro en w2 ⟨b8, rfl, g8, l8, F2⟩
  have HV2 := Lib.hid ((HV1.out.call (show Fr [] w1 w2 from by first | exact F2 | exact (Fr.refl [] _).drew.trans F2)).room g8 (HV1.out.fresh (by simpa using l8)) (Nat.le_trans HV1.out.fr.size (by simpa using l8)))
  clear g8 l8 F2 HV1 f7 t7
  have f7 := HV2.out.nth 1 rfl
  have t7 := World.at_lt f7
  go_wp2_with fail
  refine ⟨f7, ?_⟩
  refine drawn_next 6 (fuel := 5) rfl (by kernel_rfl) ?_
  intro K hK
  go_wp2_with fail
  refine (num_b (n := k) (s := 4) (.inr ⟨rfl, hk⟩)).mono ?_
  rintro en w3 ⟨b9, rfl, g9, l9, F3⟩
  have HV3 := Lib.hid ((HV2.out.call F3).room g9 (HV2.out.fresh l9) (Nat.le_trans HV2.out.fr.size l9))
  clear g9 l9 F3 HV2 f7 t7
  have f7 := HV3.out.nth 2 rfl
  have t7 := World.at_lt f7
  go_wp2_with fail
  refine ⟨f7, ?_⟩
  refine drawn_next 9 (fuel := 4) rfl (by kernel_rfl) ?_
  intro K hK
  go_wp2_with fail
  refine ⟨by go_simp, ?_⟩
  refine named_world (A := fun X => OwB w [(w3.heap.size, .cells #[.slice (some ⟨b8, 0, none⟩) 8 8, .slice (some ⟨b9, 0, none⟩) 4 4, .slice (some ⟨b7, 0, none⟩) 4 4, .slice p n cap] 22), (b9, .cells (ints .u8 (putB k 4)) 5), (b8, .cells (ints .u8 (putB e 8)) 5), (b7, .cells (ints .u8 (putB n 4)) 5)] X) (Q := fun X => Go.Dr.wpAnyS Try.prog .any _ _ _ _ _ _ _ X) (HV3.out.allocN _ w3.heap.size rfl) ?_
  intro U hU
  generalize w3.heap.size = bx at hU ⊢
  have SL : Sll U (some ⟨bx, 0, none⟩) 4 4 [putB e 8, putB k 4, putB n 4, P] := by
    refine Sll.of (vs := [.slice (some ⟨b8, 0, none⟩) 8 8, .slice (some ⟨b9, 0, none⟩) 4 4, .slice (some ⟨b7, 0, none⟩) 4 4, .slice p n cap]) ⟨rfl, Nat.le_refl 4, .inr ⟨bx, 0, _, 22, (0, 0), rfl, hU.nth 0 rfl, by simp, by simp⟩, by simp, trivial⟩ ?_
    exact .cons (Sl.whole (hU.nth 2 rfl) (putB_length _ _)) (.cons (Sl.whole (hU.nth 1 rfl) (putB_length _ _)) (.cons (Sl.whole (hU.nth 3 rfl) (putB_length _ _)) (.cons (HS.out.fr0 hU.fr) .nil)))
  have HSL := Lib.hid SL
  have HU := Lib.hid hU
  clear SL hU HV3 f7 t7
  have f7 := HU.out.nth 3 rfl
  have t7 := World.at_lt f7
  have hTl : (recT e k P).length = 16 + n := by
    have := HN.out
    simp only [recT, List.length_append, putB_length, this]
  have hfl : [putB e 8, putB k 4, putB n 4, P].flatten = recT e k P := by
    have := HN.out
    simp [recT, this]
  obtain ⟨T, hT⟩ : ∃ T, T = recT e k P := ⟨_, rfl⟩
  rw [← hT] at hTl hfl
  have HTE := Lib.hid hT
  have HFL := Lib.hid hfl
  have HTL := Lib.hid hTl
  clear hT hfl hTl
  refine drawn_next 10 (fuel := 3) rfl (by kernel_rfl) ?_
  intro K hK
  go_wp2_with fail
  refine (total_f HSL.out (by
    intro l hl
    simp only [List.mem_cons, List.not_mem_nil, or_false] at hl
    rcases hl with rfl | rfl | rfl | rfl
    · exact isBytes_putB _ _
    · exact isBytes_putB _ _
    · exact isBytes_putB _ _
    · exact HPB.out) (by rw [HFL.out, HTL.out]; omega) (by omega)).mono ?_
  rintro en w4 ⟨rfl, F4⟩
  rw [HFL.out]
  have HU4 := Lib.hid (HU.out.call F4)
  clear F4 HU HSL f7 t7
  have f7 := HU4.out.nth 3 rfl
  have t7 := World.at_lt f7
  have hS := S_lt T
  obtain ⟨s0, hs0⟩ : ∃ s0, s0 = Go.St.S T := ⟨_, rfl⟩
  rw [← hs0] at hS ⊢
  have HS0 := Lib.hid hs0
  clear hs0
  go_wp2_with fail
  refine ⟨f7, ?_⟩
  refine drawn_next 11 (fuel := 2) rfl (by kernel_rfl) ?_
  intro K hK
  go_wp2_with fail
  refine (num_b (n := s0) (s := 4) (.inr ⟨rfl, by omega⟩)).mono ?_
  rintro en w5 ⟨b10, rfl, g10, l10, F5⟩
  have HU5 := Lib.hid (HU4.out.call F5)
  have G10 := Lib.hid g10
  clear g10 l10 F5 HU4 f7 t7
  have f7 := HU5.out.nth 3 rfl
  have t7 := World.at_lt f7
  go_wp2_with fail
  refine ⟨f7, ?_⟩
  refine drawn_next 12 (fuel := 1) rfl (by kernel_rfl) ?_
  intro K hK
  refine wpList_grow22 rfl _ _ rfl rfl (Sl.whole (HU5.out.nth 3 rfl) (putB_length _ _)) rfl (Sl.whole G10.out (putB_length _ _)) (by omega) (by omega) ?_
  intro q6 c6 W6 B6
  have B6l := B6.lift HU5.out
  have f7' := B6l.own.nth 3 rfl
  have HB6 := Lib.hid (Bld.subL (L' := []) B6l (List.nil_sublist _))
  clear B6 B6l HU5 G10 f7 t7
  refine wpList_nil ?_
  refine hK _ _ ⟨f7', ?_⟩
  clear f7'
  refine drawn_end rfl (by kernel_rfl) ?_
  intro K hK
  go_wp2_with (refine wpList_app47 rfl _ _ rfl rfl HB6.out rfl (HS.out.fr0 HB6.out.own.fr) (by omega) ?_)
  intro q8 c8 W8 B8
  obtain ⟨N8, hN8⟩ : ∃ N8, N8 = 8 + n := ⟨_, rfl⟩
  rw [show 4 + 4 + n = N8 by omega] at B8
  have HB8 := Lib.hid B8
  rw [show 4 + 4 + n = N8 by omega]
  clear B8 HB6
  obtain ⟨A, hA⟩ : ∃ A, A = N8 % 64 := ⟨_, rfl⟩
  obtain ⟨B, hB⟩ : ∃ B, B = 64 - A := ⟨_, rfl⟩
  obtain ⟨Z, hZ⟩ : ∃ Z, Z = B % 64 := ⟨_, rfl⟩
  have a1 : (N8 : Int).tmod 64 = (A : Int) := by rw [hA]; rfl
  have a2 : IntKind.i64.wrap (64 - (A : Int)) = (B : Int) := by rw [IntKind.wrap_i64]; omega
  have a3 : (B : Int).tmod 64 = (Z : Int) := by rw [hZ]; rfl
  have hZe : Z = (64 - (8 + n) % 64) % 64 := by rw [hZ, hB, hA, hN8]
  have HZE := Lib.hid hZe
  have hZ64 : Z < 64 := by omega
  have hN8b : N8 ≤ 1000008 := by omega
  clear hA hB hZ hZe hN8
  go_wp2_with (refine wpList_app22z rfl _ _ rfl rfl HB8.out Z (by first | rfl | go_simp) (by omega) ?_)
  intro q9 c9 W9 B9
  have HB9 := Lib.hid B9
  clear B9 HB8
  go_wp2_with fail
  refine bodyPost_ret (results_tmp rfl _ _ _) rfl ⟨q9, N8 + Z, c9, rfl, ?_⟩
  have h := HB9.out
  rw [HZE.out, HS0.out, HTE.out, show putB n 4 = putB P.length 4 by rw [HN.out]] at h
  have e9 : recB e k P = putB P.length 4 ++ putB (Go.St.S (recT e k P)) 4 ++ P ++ zs ((64 - (8 + n) % 64) % 64) := by
    rw [recB, recH, HN.out]
    rfl
  rw [e9, HZE.out]
  exact h
end
end Go.Proofs.Ytombhkekocbfoaa
namespace Go.St
open Go.Kd Go.Dr
def BytM (m : DM) : Prop := Byt m.kept ∧ Byt m.seen ∧ ∀ x ∈ m.waits, Byt x.2
theorem byt_zs (n : Nat) : Byt (zs n) := fun x hx => by
  have h : x = 0 := List.eq_of_mem_replicate (by simpa [zs] using hx)
  subst h
  decide
theorem byt_lay {c b : Bs} (hc : Byt c) (hb : Byt b) (o : Nat) : Byt (lay c o b) := by
  unfold lay
  exact ((hc.take _).append hb).append (hc.drop _)
theorem byt_layW : ∀ {ws : List (Nat × Bs)} {c : Bs}, Byt c → (∀ x ∈ ws, Byt x.2) → Byt (layW c ws) := by
  intro ws
  induction ws with
  | nil => intro c h _; exact h
  | cons x ws ih =>
    intro c h hx
    exact ih (byt_lay h (hx x (by simp)) _) fun y hy => hx y (by simp [hy])
theorem BytM.new (b : Int) : BytM (newM b) := ⟨byt_zs _, byt_zs _, fun x hx => by cases hx⟩
theorem BytM.alive {m : DM} (h : BytM m) : BytM (aliveM m) := by
  obtain ⟨h1, h2, h3⟩ := h
  obtain ⟨-, e1, e2, e3⟩ := aliveM_same m
  exact ⟨by rw [e1]; exact h1, by rw [e2]; exact h2, by rw [e3]; exact h3⟩
theorem BytM.write {m : DM} (h : BytM m) {a : Int} {b : Bs} (hb : Byt b) : BytM (writeM m a b).2 := by
  unfold writeM
  split
  · exact h
  · split
    · refine ⟨h.alive.1, byt_lay h.2.1 hb _, fun x hx => ?_⟩
      rcases List.mem_append.1 hx with hx | hx
      · exact h.2.2 x hx
      · rw [List.mem_singleton] at hx
        subst hx
        exact hb
    · exact h.alive
theorem BytM.wr : ∀ {bs : List Bs} {m : DM} {p : Nat}, BytM m → (∀ b ∈ bs, Byt b) → BytM (wrM m p bs).2 := by
  intro bs
  induction bs with
  | nil => intro m p h _; exact h
  | cons b bs ih =>
    intro m p h hb
    rw [wrM]
    split
    · exact ih (h.write (hb b (by simp))) fun x hx => hb x (by simp [hx])
    · exact h.write (hb b (by simp))
theorem BytM.sync {m : DM} (h : BytM m) : BytM (syncM m).2 := by
  unfold syncM
  split
  · exact ⟨byt_layW h.1 h.2.2, h.alive.2.1, fun x hx => by cases hx⟩
  · exact h.alive
theorem BytM.put {m : DM} (h : BytM m) {p : Nat} {b : Bs} (hb : Byt b) : BytM (putM m p b).2 := by
  have hc : ∀ x ∈ chunks b, Byt x := fun x hx => by
    obtain ⟨i, -, rfl⟩ := List.mem_map.1 hx
    exact (hb.drop _).take _
  unfold putM
  split
  · exact (h.wr hc).sync
  · exact h.wr hc
theorem BytM.crash {m : DM} (h : BytM m) (k : Int) : BytM (crashM m k) := by
  have : Byt (layW m.kept (m.waits.take k.toNat)) := byt_layW h.1 fun x hx => h.2.2 x (List.mem_of_mem_take hx)
  exact ⟨this, this, fun x hx => by cases hx⟩
theorem BytM.fuse {m : DM} (h : BytM m) (n : Int) : BytM (fuseM m n) := h
theorem byt_zeros (n : Nat) : Byt (zeros n) := fun x hx => by
  have h : x = 0 := List.eq_of_mem_replicate (by simpa [zeros] using hx)
  subst h
  decide
theorem byt_headB (e c n : Nat) : Byt (headB e c n) := by
  have h0 : Byt headW := by intro x hx; simp only [headW, List.mem_cons, List.not_mem_nil, or_false] at hx; omega
  exact (((((h0.append (byt_putB _ _)).append (byt_putB _ _)).append (byt_putB _ _))).append (byt_putB _ _)).append (byt_zeros _)
theorem byt_recB {e k : Nat} {p : Bs} (hp : Byt p) : Byt (recB e k p) := (((byt_putB _ _).append (byt_putB _ _)).append hp).append (byt_zeros _)
theorem byt_joinB {ps : List Bs} (h1 : ps.length ≤ 255) (h : ∀ p ∈ ps, Byt p ∧ p.length ≤ 65535) : Byt (joinB ps) := by
  intro x hx
  rw [joinB] at hx
  rcases List.mem_cons.1 hx with rfl | hx
  · omega
  · obtain ⟨p, hp, hx⟩ := List.mem_flatMap.1 hx
    obtain ⟨h2, h3⟩ := h p hp
    rcases List.mem_cons.1 hx with rfl | hx
    · omega
    · rcases List.mem_cons.1 hx with rfl | hx
      · omega
      · exact h2 x hx
theorem chgP_byt {c : Chg} (h : ChgB c) : ∀ p ∈ chgP c, Byt p ∧ p.length ≤ 4000 := by
  intro p hp
  have := h.ok.n2
  have := h.ok.v
  unfold chgP at hp
  split at hp
  · rw [List.mem_singleton] at hp
    subst hp
    exact ⟨h.nb, by omega⟩
  · rcases List.mem_cons.1 hp with rfl | hp
    · exact ⟨h.nb, by omega⟩
    · rw [List.mem_singleton] at hp
      subst hp
      exact ⟨h.vb, by omega⟩
theorem byt_payB' {l : List Chg} (h : ∀ c ∈ l, ChgB c) (hl : l.length ≤ 64) : Byt (payB l) := by
  refine byt_joinB (by rw [List.length_map]; omega) fun p hp => ?_
  obtain ⟨c, hc, rfl⟩ := List.mem_map.1 hp
  refine ⟨byt_joinB ?_ fun q hq => ⟨(chgP_byt (h c hc) q hq).1, by have := (chgP_byt (h c hc) q hq).2; omega⟩, by have := chgJ_length (h c hc).ok; omega⟩
  unfold chgP
  split <;> simp
theorem BytM.openM {m : DM} (h : BytM m) : BytM (openM m).2.2 := by
  have hr : ∀ half x, (readH m half x).2.2 = m := by
    intro half x
    unfold readH
    split <;> rfl
  unfold Go.St.openM
  split
  · exact h
  · split
    · exact h
    · split
      · split
        · exact h.put (byt_headB _ _ _)
        · exact h.put (byt_headB _ _ _)
      · split
        · exact h
        · split
          · rw [hr]; exact h
          · rw [hr]; exact h
      · rw [hr]; exact h
      · rw [hr]; exact h
      · exact h
theorem asC_chgB {L : List (Bs × Bs)} (h : ∀ x ∈ L, EntOk x) : ∀ c ∈ asC L, ChgB c := fun c hc => by
  obtain ⟨x, hx, rfl⟩ := List.mem_map.1 hc
  have := h x hx
  exact ⟨⟨this.n1, this.n2, this.v, fun h => by cases h⟩, this.nb, this.vb⟩
theorem BytM.commit {m : DM} (h : BytM m) {sp : SP} (K : SPB m.n sp) {l : List Chg} (hl : ∀ c ∈ l, Byt c.name ∧ Byt c.val) : BytM (commitM sp m l).2.2 := by
  have key : ∀ (half at_ e c : Nat) (L : List (Bs × Bs)) (b : Bs), Byt b → BytM (finM sp m L half at_ e c b).2.2 := by
    intro half at_ e c L b hb
    unfold finM
    split
    · split
      · exact (h.put hb).put (byt_headB _ _ _)
      · exact (h.put hb).put (byt_headB _ _ _)
    · exact h.put hb
  unfold commitM
  split
  · exact h
  · rename_i hbad
    have hc : ∀ c ∈ l, ChgB c := fun c hc => ⟨badC_none.1 hbad c hc, (hl c hc).1, (hl c hc).2⟩
    split
    · exact h
    · rename_i h64
      split
      · exact h
      · rename_i hn64
        split
        · exact h
        · split
          · exact h
          · split
            · split
              · exact h
              · split
                · exact h
                · exact key _ _ _ _ _ _ (byt_recB (byt_payB' (asC_chgB (ent_allC K.ent hc)) (by rw [asC, List.length_map]; omega)))
            · exact key _ _ _ _ _ _ (byt_recB (byt_payB' hc (by omega)))
/-- A store's own bounds hold behind a commit. -/
theorem commit_spb {m : DM} {sp : SP} (g : Good m sp) (hb : BytM m) (K : SPB m.n sp) {l : List Chg} (hl : ∀ c ∈ l, Byt c.name ∧ Byt c.val) (h0 : (commitM sp m l).1 = 0) : SPB (commitM sp m l).2.2.n (commitM sp m l).2.1 := by
  have g2 : Good (commitM sp m l).2.2 (commitM sp m l).2.1 := by
    rcases commit_good g l with ⟨-, h, -⟩ | ⟨h, -⟩ | ⟨h, -⟩
    · exact h
    · rw [h0] at h; cases h
    · exact absurd h0 h
  exact (open_ok (sp := (commitM sp m l).2.1) g2.ok (hb.commit K hl).2.1 (by rw [open_good g2])).1
theorem good_spb {m : DM} {sp : SP} (g : Good m sp) (hb : BytM m) : SPB m.n sp := (open_ok g.ok hb.2.1 (by rw [open_good g])).1
theorem commit_one {m : DM} (g : Good m sp0) (hf : m.fuse = -1) {n v : Bs} (hc : ChgOk ⟨n, false, v⟩) (hr : 1 + (recB 1 1 (payB [⟨n, false, v⟩])).length / 64 ≤ m.n / 2) :
    (commitM sp0 m [⟨n, false, v⟩]).1 = 0 ∧ (commitM sp0 m [⟨n, false, v⟩]).2.1.L = [(n, v)] := by
  have h150 := commit_nofuse g hf [⟨n, false, v⟩]
  have hg := commit_good g [⟨n, false, v⟩]
  have hb : badC [⟨n, false, v⟩] = none := badC_none.2 fun c hc' => by
    rw [List.mem_singleton] at hc'
    subst hc'
    exact hc
  have hL : allC sp0.L [⟨n, false, v⟩] = [(n, v)] := rfl
  have e : commitM sp0 m [⟨n, false, v⟩] = finM sp0 m [(n, v)] 0 1 1 1 (recB 1 1 (payB [⟨n, false, v⟩])) := by
    rw [commitM, hb]
    simp only [hL, List.length_singleton]
    rw [if_neg (by decide), if_neg (by decide), if_neg (by simp [sp0]), if_neg (by simp), if_neg (show ¬ (m.n / 2 < sp0.fin + (recB sp0.epoch (sp0.count + 1) (payB [⟨n, false, v⟩])).length / 64) by show ¬ (m.n / 2 < 1 + (recB 1 1 (payB [⟨n, false, v⟩])).length / 64); omega)]
    rfl
  have h3 : (commitM sp0 m [⟨n, false, v⟩]).1 = 0 ∨ (commitM sp0 m [⟨n, false, v⟩]).1 = 150 := by
    rw [e]
    unfold finM
    split
    · split
      · exact .inl rfl
      · exact .inr rfl
    · exact .inr rfl
  rcases hg with ⟨h1, -, h2⟩ | ⟨h1, -⟩ | ⟨h1, h2, -⟩
  · exact ⟨h1, h2⟩
  · exact absurd h1 h150.1
  · rcases h3 with h3 | h3
    · exact absurd h3 h1
    · exact absurd h3 h2
theorem pay_one (n v : Bs) : (payB [⟨n, false, v⟩]).length = n.length + v.length + 8 := by
  simp [payB, joinB, chgP]
  omega
end Go.St
namespace Go.Proofs.Ytombhkekocbfoaa
open Go.RowKit Go.Dr Go.Kd Go.St
def slLenV : Value → Nat
  | .slice _ m _ => m
  | _ => 0
section
variable {w : World}
set_option maxRecDepth 100000 in
set_option maxHeartbeats 4000000 in
theorem dhead_f {e c n : Nat} (he : e < 18446744073709551616) (hc : c < 4294967296) (hn : n < 4294967296) :
    Calls Try.prog 46 #[.int .u64 (e : Int), .int .i64 (c : Int), .int .i64 (n : Int)] w fun en w' => ∃ q cp, en = .returned (.slice q 64 cp) ∧ Bld w [] .u8 5 w' q 64 cp (headB e c n) := by
  have hconv := Lib.run_convert_bytes_const (P := Try.prog) w 22 5 #[.int .u8 104, .int .u8 101, .int .u8 97, .int .u8 100] 4 4 Try.underlying22 Try.underlying5
  go_enter Try.func46, Try.ntmps46
  go_wp2_with fail
  refine OwB.named (Q := fun X => Calls Try.prog 62 _ X _) ((OwB.start w).allocN (.cells (ints .u8 headW) 5 (4, 5)) w.heap.size rfl) ?_
  clear hconv
  intro V hV
  generalize w.heap.size = b2 at hV ⊢
  have HV := Lib.hid hV
  clear hV
  refine (long_b he).mono ?_
  rintro en w1 ⟨b8, rfl, g8, l8, F1⟩
  have HV1 := Lib.hid (HV.out.call F1)
  have G8 := Lib.hid g8
  clear g8 l8 F1 HV
  go_wp2_with (refine wpList_grow22 rfl _ _ rfl rfl (Sl.whole (HV1.out.nth 0 rfl) rfl) rfl (Sl.whole G8.out (putB_length _ _)) (by omega) (by omega) ?_)
  intro q3 c3 W3 B3
  have HB3 := Lib.hid (Bld.subL (L' := []) (B3.lift HV1.out) (List.nil_sublist _))
  clear B3 G8 HV1
  go_wp2_with fail
  refine (rnum_b (n := c) (s := 4) (by omega) (by omega) (by omega)).mono ?_
  rintro en w4 ⟨b4, rfl, g4, l4, F4⟩
  have HB4 := Lib.hid (HB3.out.call F4)
  have G4 := Lib.hid g4
  clear g4 l4 F4 HB3
  go_wp2_with (refine wpList_app47 rfl _ _ rfl rfl HB4.out rfl (Sl.whole G4.out (putB_length _ _)) (by omega) ?_)
  intro q5 c5 W5 B5
  have HB5 := Lib.hid B5
  clear B5 G4 HB4
  go_wp2_with fail
  refine (rnum_b (n := n) (s := 4) (by omega) (by omega) (by omega)).mono ?_
  rintro en w6 ⟨b6, rfl, g6, l6, F6⟩
  have HB6 := Lib.hid (HB5.out.call F6)
  have G6 := Lib.hid g6
  clear g6 l6 F6 HB5
  go_wp2_with (refine wpList_app47 rfl _ _ rfl rfl HB6.out rfl (Sl.whole G6.out (putB_length _ _)) (by omega) ?_)
  intro q7 c7 W7 B7
  have e20 : headW ++ (putB e 8 ++ (putB c 4 ++ putB n 4)) = headP e c n := by simp [headP]
  rw [e20] at B7
  have hPb := byt_headP e c n
  obtain ⟨P, hP⟩ : ∃ P, P = headP e c n := ⟨_, rfl⟩
  rw [← hP] at hPb B7
  have HPE := Lib.hid hP
  have HB7 := Lib.hid B7
  have HPB := Lib.hid hPb
  clear B7 G6 HB6 e20 hP hPb
  go_wp2_with fail
  refine (dS_f HB7.out.sl HPB.out (by omega)).mono ?_
  rintro en w8 ⟨rfl, rfl⟩
  have hS := S_lt P
  obtain ⟨s0, hs0⟩ : ∃ s0, s0 = Go.St.S P := ⟨_, rfl⟩
  rw [← hs0] at hS ⊢
  have HS0 := Lib.hid hs0
  clear hs0
  go_wp2_with fail
  refine (rnum_b (n := s0) (s := 4) (by omega) (by omega) (by omega)).mono ?_
  rintro en w9 ⟨b9, rfl, g9, l9, F9⟩
  have HB10 := Lib.hid (HB7.out.call F9)
  have G9 := Lib.hid g9
  clear g9 l9 F9 HB7
  go_wp2_with (refine wpList_app47 rfl _ _ rfl rfl HB10.out rfl (Sl.whole G9.out (putB_length _ _)) (by omega) ?_)
  intro q10 c10 W10 B10
  have HB11 := Lib.hid B10
  clear B10 HB10 G9
  -- LOOP
  have e24 : P ++ putB s0 4 = head24 e c n := by rw [HPE.out, head24, HS0.out, HPE.out]
  have HB12 := Lib.hid (show Bld w [] .u8 5 W10 q10 24 c10 (head24 e c n ++ zs 0) by
    have h := HB11.out
    rw [e24] at h
    simpa [zs] using h)
  clear e24 HB11
  go_wp2_with fail
  go_loopw [7] (fun v wy => ∃ (k : Nat) (q : Option Addr) (cp : Nat), k ≤ 40 ∧ v = .slice q (24 + k) cp ∧ Hid (Bld w [] .u8 5 wy q (24 + k) cp (head24 e c n ++ zs k))) (fun v _ => 64 - slLenV v)
  case atStart => exact ⟨0, q10, c10, by omega, rfl, HB12⟩
  case round =>
    obtain ⟨k, q, cp, hk, rfl, hW⟩ := hrel
    obtain ⟨n0, hn0⟩ : ∃ n0, n0 = 24 + k := ⟨_, rfl⟩
    rw [← hn0] at hW ⊢
    by_cases hlt : k < 40
    · have hd : decide ((n0 : Int) < 64) = true := by rw [decide_eq_true_eq]; omega
      have hb : ∀ W : World, ∀ b : Nat, W.blk b = some (.cells #[.int .u8 0] 5) → Sl .u8 W (some ⟨b, 0, none⟩) 1 1 [0] := fun W b h => Sl.whole (A := [0]) (T := 5) (fr := (0, 0)) h rfl
      have HBB := Lib.hid hb
      clear hb
      have e1 : head24 e c n ++ zs k ++ [0] = head24 e c n ++ zs (k + 1) := by
        rw [List.append_assoc]; congr 1; simp [zs, List.replicate_succ']
      have HE1 := Lib.hid e1
      clear e1
      go_wp2_with (refine wpList_app47 rfl _ _ rfl rfl (hW.out.call ((Fr.refl [] _).alloc _)) rfl (HBB.out _ _ (World.at_alloc_new _ _ _ rfl)) (by omega) ?_)
      intro q9 c9 W9 B9
      have HB9 := Lib.hid B9
      clear B9
      go_wp2_with fail
      go_roundw
      case rel => exact ⟨k + 1, q9, c9, by omega, rfl, Lib.hid (by rw [← HE1.out, show 24 + (k + 1) = 24 + k + 1 by omega]; simpa using HB9.out)⟩
      case measure => simp [slLenV]; omega
    · obtain rfl : k = 40 := by omega
      have hd : decide ((n0 : Int) < 64) = false := by rw [decide_eq_false_iff_not]; omega
      obtain rfl : n0 = 64 := by omega
      go_wp2_with fail
      exact bodyPost_ret (results_tmp rfl _ _ _) rfl ⟨q, cp, rfl, hW.out⟩
set_option maxRecDepth 100000 in
set_option maxHeartbeats 4000000 in
theorem drec_f {e k n cap : Nat} {p : Option Addr} {P : Bs} (he : e < 18446744073709551616) (hk : k < 4294967296) (S : Sl .u8 w p n cap P) (hP : isBytes P) (hn : n ≤ 1000000) :
    Calls Try.prog 47 #[.int .u64 (e : Int), .int .i64 (k : Int), .slice p n cap] w fun en w' => ∃ q m cp, en = .returned (.slice q m cp) ∧ Bld w [] .u8 5 w' q m cp (recB e k P) := by
  have HS := Lib.hid S
  have HPB := Lib.hid hP
  have hpl := S.len
  have HPL := Lib.hid hpl
  have HB0 := Lib.hid (Bld.nil (k := .u8) (e := 5) (OwB.start w))
  clear S hP hpl
  go_enter Try.func47, Try.ntmps47
  go_wp2_with fail
  refine (long_b he).mono ?_
  rintro en w1 ⟨b8, rfl, g8, l8, F1⟩
  have HB1 := Lib.hid (HB0.out.call F1)
  have G8 := Lib.hid g8
  -- REC
  clear g8 l8 F1 HB0
  go_wp2_with (refine wpList_app47 rfl _ _ rfl rfl HB1.out rfl (Sl.whole G8.out (putB_length _ _)) (by omega) ?_)
  intro q2 c2 W2 B2
  have HB2 := Lib.hid B2
  clear B2 G8 HB1
  go_wp2_with fail
  refine (rnum_b (n := k) (s := 4) (by omega) (by omega) (by omega)).mono ?_
  rintro en w3 ⟨b3, rfl, g3, l3, F3⟩
  have HB3 := Lib.hid (HB2.out.call F3)
  have G3 := Lib.hid g3
  clear g3 l3 F3 HB2
  go_wp2_with (refine wpList_app47 rfl _ _ rfl rfl HB3.out rfl (Sl.whole G3.out (putB_length _ _)) (by omega) ?_)
  intro q4 c4 W4 B4
  have HB4 := Lib.hid B4
  clear B4 G3 HB3
  go_wp2_with fail
  refine (rnum_b (n := n) (s := 4) (by omega) (by omega) (by omega)).mono ?_
  rintro en w5 ⟨b5, rfl, g5, l5, F5⟩
  have HB5 := Lib.hid (HB4.out.call F5)
  have G5 := Lib.hid g5
  clear g5 l5 F5 HB4
  go_wp2_with (refine wpList_app47 rfl _ _ rfl rfl HB5.out rfl (Sl.whole G5.out (putB_length _ _)) (by omega) ?_)
  intro q6 c6 W6 B6
  have HB6 := Lib.hid B6
  clear B6 G5 HB5
  go_wp2_with (refine wpList_app47 rfl _ _ rfl rfl HB6.out rfl (HS.out.fr0 HB6.out.own.fr) (by omega) ?_)
  intro q7 c7 W7 B7
  have HB7 := Lib.hid B7
  clear B7 HB6
  go_wp2_with fail
  refine (rnum_b (n := n) (s := 4) (by omega) (by omega) (by omega)).mono ?_
  rintro en w8 ⟨b9, rfl, g9, l9, F9⟩
  have HB8 := Lib.hid (HB7.out.call F9)
  have G9 := Lib.hid g9
  clear g9 l9 F9 HB7
  go_wp2_with fail
  have hT : putB e 8 ++ (putB k 4 ++ (putB n 4 ++ P)) = recT e k P := by rw [recT, HPL.out]; simp
  obtain ⟨TT, hTT⟩ : ∃ TT, TT = recT e k P := ⟨_, rfl⟩
  have HB9 := Lib.hid (show Bld w [] .u8 5 w8 q7 (16 + n) c7 TT by rw [hTT, ← hT]; exact HB8.out)
  have hTb : isBytes TT := by rw [hTT]; exact ((Byt.append (byt_putB _ _) (byt_putB _ _)).append (byt_putB _ _)).append HPB.out
  have HTB := Lib.hid hTb
  have HTE := Lib.hid hTT
  clear hT hTT hTb HB8
  refine (dS_f HB9.out.sl HTB.out (by omega)).mono ?_
  rintro en w10 ⟨rfl, rfl⟩
  have hS := S_lt TT
  obtain ⟨s0, hs0⟩ : ∃ s0, s0 = Go.St.S TT := ⟨_, rfl⟩
  rw [← hs0] at hS ⊢
  have HS0 := Lib.hid hs0
  clear hs0
  go_wp2_with fail
  refine (rnum_b (n := s0) (s := 4) (by omega) (by omega) (by omega)).mono ?_
  rintro en w11 ⟨b11, rfl, g11, l11, F11⟩
  have G9' := Lib.hid (F11.get G9.out (by simp))
  have G11 := Lib.hid g11
  have HO11 := Lib.hid (HB9.out.own.call F11)
  clear g11 l11 F11 HB9 G9
  go_wp2_with (refine wpList_grow22 rfl _ _ rfl rfl (Sl.whole G9'.out (putB_length _ _)) rfl (Sl.whole G11.out (putB_length _ _)) (by omega) (by omega) ?_)
  intro q12 c12 W12 B12
  have HB12 := Lib.hid (B12.lift HO11.out)
  clear B12 G9' G11 HO11
  go_wp2_with (refine wpList_app47 rfl _ _ rfl rfl HB12.out rfl (HS.out.fr0 HB12.out.own.fr) (by omega) ?_)
  intro q13 c13 W13 B13
  have hR : putB n 4 ++ (putB s0 4 ++ P) = recH e k P ++ P := by rw [recH, HPL.out, HS0.out, HTE.out]; simp
  have HB14 := Lib.hid (show Bld w [] .u8 5 W13 q13 (8 + n + 0) c13 (recH e k P ++ P ++ zs 0) by
    have h := B13
    rw [show zs 0 = ([] : Bs) from rfl, List.append_nil, ← hR]
    simpa using h)
  clear B13 hR HB12
  go_wp2_with fail
  go_loopw [8] (fun v wy => ∃ (j : Nat) (q : Option Addr) (cp : Nat), j ≤ (64 - (8 + n) % 64) % 64 ∧ v = .slice q (8 + n + j) cp ∧ Hid (Bld w [] .u8 5 wy q (8 + n + j) cp (recH e k P ++ P ++ zs j))) (fun v _ => 8 + n + 64 - slLenV v)
  case atStart => exact ⟨0, q13, c13, by omega, rfl, HB14⟩
  case round =>
    obtain ⟨j, q, cp, hj, rfl, hW⟩ := hrel
    obtain ⟨n0, hn0⟩ : ∃ n0, n0 = 8 + n + j := ⟨_, rfl⟩
    rw [← hn0] at hW ⊢
    have hrem : (n0 : Int).tmod 64 = ((n0 % 64 : Nat) : Int) := by rw [Int.tmod_eq_emod_of_nonneg (by omega)]; omega
    by_cases hlt : n0 % 64 = 0
    · have hd : (((n0 % 64 : Nat) : Int) != 0) = false := by rw [hlt]; rfl
      have he0 : j = (64 - (8 + n) % 64) % 64 := by omega
      have HRB := Lib.hid (show Bld w [] .u8 5 wr q n0 cp (recB e k P) by
        have h := hW.out
        rw [he0] at h
        rw [recB, HPL.out]
        exact h)
      clear hW he0 hn0
      go_wp2_with fail
      exact bodyPost_ret (results_tmp rfl _ _ _) rfl ⟨q, n0, cp, rfl, HRB.out⟩
    · have hd : (((n0 % 64 : Nat) : Int) != 0) = true := by rw [bne_iff_ne]; omega
      have hb : ∀ W : World, ∀ b : Nat, W.blk b = some (.cells #[.int .u8 0] 5) → Sl .u8 W (some ⟨b, 0, none⟩) 1 1 [0] := fun W b h => Sl.whole (A := [0]) (T := 5) (fr := (0, 0)) h rfl
      have HBB := Lib.hid hb
      clear hb
      have e1 : recH e k P ++ P ++ zs j ++ [0] = recH e k P ++ P ++ zs (j + 1) := by
        rw [List.append_assoc]; congr 1; simp [zs, List.replicate_succ']
      have HE1 := Lib.hid e1
      have HN0 := Lib.hid hn0
      have hj2 : j + 1 ≤ (64 - (8 + n) % 64) % 64 := by omega
      have HJ2 := Lib.hid hj2
      have hn0b : n0 ≤ 1000100 := by omega
      clear e1 hn0 hj hj2
      go_wp2_with (refine wpList_app47 rfl _ _ rfl rfl (hW.out.call ((Fr.refl [] _).alloc _)) rfl (HBB.out _ _ (World.at_alloc_new _ _ _ rfl)) (by omega) ?_)
      intro q9 c9 W9 B9
      have HB9 := Lib.hid B9
      clear B9
      go_wp2_with fail
      go_roundw
      case rel => exact ⟨j + 1, q9, c9, HJ2.out, by rw [HN0.out]; rfl, Lib.hid (by rw [← HE1.out, show 8 + n + (j + 1) = n0 + 1 by rw [HN0.out]; rfl]; simpa using HB9.out)⟩
      case measure => simp [slLenV]; have := HN0.out; have := HJ2.out; omega
end
end Go.Proofs.Ytombhkekocbfoaa
namespace Go.Proofs.Ytombhkekocbfoaa
open Go.RowKit Go.Dr Go.Kd Go.St
section
variable {w : World}
set_option maxRecDepth 100000 in
set_option maxHeartbeats 2000000 in
theorem dget_f {p : Option Addr} {n cap : Nat} {B : List Int} (S : Sl .u8 w p n cap B) (hB : isBytes B) (hn1 : 1 ≤ n) (hn8 : n ≤ 8) :
    Calls Try.prog 61 #[.slice p n cap] w fun e w' => e = .returned (.tuple #[.int .u64 (getV B), .bool true]) ∧ Fr [] w w' := by
  have HS := Lib.hid S
  have HB := Lib.hid hB
  have HN := Lib.hid S.len
  clear S hB
  go_enter Try.func61, Try.ntmps61
  go_wp2_with fail
  go_loopw [4, 5] (fun v iv wy => ∃ i : Nat, i ≤ n ∧ iv = .int .i64 (i : Int) ∧ v = .int .u64 (getB (B.take i) : Nat) ∧ Hid (OwB w [] wy)) (fun _ iv _ => (n - intOf iv).toNat)
  case atStart => exact ⟨0, by omega, rfl, rfl, Lib.hid (OwB.start w)⟩
  case round =>
    obtain ⟨i, hi9, rfl, rfl, hO⟩ := hrel
    by_cases hlt : i < n
    · have hd : decide ((i : Int) < (n : Int)) = true := by rw [decide_eq_true_eq]; omega
      have hd8 : decide ((i : Int) < 8) = true := by rw [decide_eq_true_eq]; omega
      obtain ⟨b, off, cs, T, fr, rfl, f0, hs, hc⟩ := (HS.out.fr0 hO.out.fr).at hlt
      obtain ⟨x, hx⟩ : ∃ x, x = getB (B.take i) := ⟨_, rfl⟩
      rw [← hx]
      have HX := Lib.hid hx
      clear hx
      have hil : i < B.length := by rw [HN.out]; exact hlt
      have hx8 : x < 72057594037927936 := by
        rw [HX.out]
        have h1 := getB_lt i (B.take i) (by rw [List.length_take]; omega) fun y hy => HB.out y (List.mem_of_mem_take hy)
        have h2 : (256 : Nat) ^ i ≤ 256 ^ 7 := Nat.pow_le_pow_right (by omega) (by omega)
        omega
      obtain ⟨y, hy, hy2⟩ : ∃ y : Nat, el B i = (y : Int) ∧ y < 256 := ⟨(el B i).toNat, by have := el_byte HB.out hil; omega, by have := el_byte HB.out hil; omega⟩
      rw [hy] at hc
      have hc2 := (Array.getElem?_eq_some_iff.1 hc).2
      have w1 : IntKind.u64.wrap ((x : Int) * 256) = ((x * 256 : Nat) : Int) := by
        rw [IntKind.wrap_u64, Int.emod_eq_of_lt] <;> omega
      have w2 : IntKind.u64.wrap (y : Int) = (y : Int) := by
        rw [IntKind.wrap_u64, Int.emod_eq_of_lt] <;> omega
      obtain ⟨X, hX⟩ : ∃ X, X = x * 256 := ⟨_, rfl⟩
      rw [← hX] at w1
      have w3 : IntKind.u64.wrap ((X : Int) + (y : Int)) = ((X + y : Nat) : Int) := by
        rw [IntKind.wrap_u64, Int.emod_eq_of_lt] <;> omega
      have HXX := Lib.hid hX
      have HY := Lib.hid hy
      clear hX hy
      go_wp2
      go_roundw
      case rel =>
        refine ⟨i + 1, by omega, by simp, ?_, hO⟩
        rw [take_el hil, getB_snoc, ← HX.out, HY.out, HXX.out, Int.toNat_natCast]
        congr 1
      case measure => simp [intOf]; omega
    · obtain rfl : i = n := by omega
      have hd : decide ((i : Int) < (i : Int)) = false := by simp
      have d1 : decide ((i : Int) < 1) = false := by rw [decide_eq_false_iff_not]; omega
      have d2 : decide ((i : Int) > 8) = false := by rw [decide_eq_false_iff_not]; omega
      rw [List.take_of_length_le (by rw [HN.out]; exact Nat.le_refl _)]
      have e1 : getOk i = true := by unfold getOk; rw [decide_eq_true_eq]; omega
      have e2 : getV B = getB B := by unfold getV; rw [HN.out, e1, if_pos rfl]
      have HE2 := Lib.hid e2
      clear e1 e2
      go_wp2
      rw [HE2.out]
      exact bodyPost_ret (results_tmp2 rfl _ _ _) rfl ⟨rfl, hO.out.fr⟩
end
end Go.Proofs.Ytombhkekocbfoaa
namespace Go.Dr
section
variable {P : Program} {fn : Func} {R : Ending → World → Prop} {a : Act} {w : World}
theorem ret_cell_tmp2 {p ty b u v : Nat} (h : fn.results = #[.cell p ty, .tmp u, .tmp v]) (hp : a.tmps.getD p undef = .pointer (some ⟨b, 0, none⟩)) (hd : a.defers = [])
    (hR : cellRet P ty (w.blk b) (fun x => R (.returned (.tuple #[x, a.tmps.getD u undef, a.tmps.getD v undef])) w)) : bodyPost P fn R .ret a w := by
  unfold cellRet at hR
  split at hR
  · rename_i cs T fr hb
    refine bodyPost_ret (v := .tuple #[.agg cs, a.tmps.getD u undef, a.tmps.getD v undef]) ?_ hd hR.2
    have hp' : a.tmps[p]?.getD undef = .pointer (some ⟨b, 0, none⟩) := by simpa using hp
    simp [results, h, hp', asAddr, run_loadVar_agg hb hR.1]
  · exact hR.elim
end
end Go.Dr
namespace Go.Proofs.Ytombhkekocbfoaa
open Go.RowKit Go.Dr Go.Kd Go.St
def maxB (l : Bs) : Nat := l.foldl (fun m c => max m c.toNat) 0
theorem maxB_snoc (l : Bs) (c : Int) : maxB (l ++ [c]) = max (maxB l) c.toNat := by simp [maxB]
theorem maxB_zero : ∀ (l : Bs), isBytes l → (maxB l = 0 ↔ l.all (fun x => x == 0) = true) := by
  have key : ∀ (n : Nat) (l : Bs), l.length = n → isBytes l → (maxB l = 0 ↔ l.all (fun x => x == 0) = true) := by
    intro n
    induction n with
    | zero => intro l hl _; rw [List.eq_nil_of_length_eq_zero hl]; simp [maxB]
    | succ n ih =>
    intro l hl h
    rcases List.eq_nil_or_concat l with rfl | ⟨l, c, rfl⟩
    · cases hl
    rw [List.concat_eq_append] at hl h ⊢
    have h1 := ih l (by simpa using hl) (fun x hx => h x (by simp [hx]))
    have h2 := h c (by simp)
    rw [maxB_snoc, List.all_append, Bool.and_eq_true, ← h1]
    simp only [List.all_cons, List.all_nil, Bool.and_true, beq_iff_eq]
    omega
  exact fun l => key l.length l rfl
theorem maxB_lt : ∀ (l : Bs), isBytes l → maxB l < 256 := by
  have key : ∀ (n : Nat) (l : Bs), l.length = n → isBytes l → maxB l < 256 := by
    intro n
    induction n with
    | zero => intro l hl _; rw [List.eq_nil_of_length_eq_zero hl]; decide
    | succ n ih =>
      intro l hl h
      rcases List.eq_nil_or_concat l with rfl | ⟨l, c, rfl⟩
      · cases hl
      rw [List.concat_eq_append] at hl h ⊢
      have h1 := ih l (by simpa using hl) (fun x hx => h x (by simp [hx]))
      have h2 := h c (by simp)
      rw [maxB_snoc]
      omega
  exact fun l => key l.length l rfl
section
variable {w : World}
set_option maxRecDepth 100000 in
set_option maxHeartbeats 4000000 in
theorem max_f {n cap : Nat} {p : Option Addr} {l : Bs} (S : Sl .u8 w p n cap l) (hB : isBytes l) (h1 : 1 ≤ n) (hn : n ≤ 1000000) :
    Calls Try.prog 52 #[.slice p n cap] w fun en w' => en = .returned (.int .u8 (maxB l : Nat)) ∧ Fr [] w w' := by
  have HB := Lib.hid hB
  have HN := Lib.hid S.len
  obtain ⟨bb, off, cs, TT, fr, rfl, fc, hs2, hx⟩ := S.out (by omega)
  have hcell : ∀ j, j < n → cs[off + j]? = some (.int .u8 (el l j)) := fun j hj => by
    have := congrArg (fun l : List Value => l[j]?) hx
    have hlen := HN.out
    simp only [Array.getElem?_toList, List.getElem?_map] at this
    rw [Array.getElem?_extract_of_lt (by omega), ← Array.getElem?_eq_getElem] at this
    rw [this, List.getElem?_eq_getElem (by omega), el, List.getD_eq_getElem?_getD, List.getElem?_eq_getElem (by omega)]
    rfl
  have HC := Lib.hid hcell
  obtain ⟨y0, hy0⟩ : ∃ y : Nat, el l 0 = (y : Int) := ⟨(el l 0).toNat, by have := el_byte hB (i := 0) (by rw [HN.out]; omega); omega⟩
  have c0 := hcell 0 (by omega)
  rw [hy0, Nat.add_zero] at c0
  replace c0 := (Array.getElem?_eq_some_iff.1 c0).2
  have tc := World.at_lt fc
  have d1 : decide ((n : Int) < 1) = false := by rw [decide_eq_false_iff_not]; omega
  have k0 : (0 : Int) < (n : Int) := by omega
  have i0 : off < cs.size := by omega
  have hfirst : maxB (l.take 1) = y0 := by
    rw [show l.take 1 = l.take 0 ++ [el l 0] from take_el (by rw [HN.out]; omega), hy0]
    simp [maxB]
  have HF := Lib.hid hfirst
  clear S hB hx hcell hy0 hfirst
  go_enter Try.func52, Try.ntmps52
  go_wp2_with fail
  go_loopw [3, 4] (fun v iv wy => ∃ i : Nat, 1 ≤ i ∧ i ≤ n ∧ iv = .int .i64 (i : Int) ∧ v = .int .u8 (maxB (l.take i) : Nat) ∧ wy = w) (fun _ iv _ => (n - intOf iv).toNat)
  case atStart => exact ⟨1, Nat.le_refl 1, by omega, rfl, by rw [HF.out], rfl⟩
  case round =>
    obtain ⟨i, hi1, hin, rfl, rfl, rfl⟩ := hrel
    by_cases hlt : i < n
    · have hd : decide ((i : Int) < (n : Int)) = true := by rw [decide_eq_true_eq]; omega
      obtain ⟨y, hy⟩ : ∃ y : Nat, el l i = (y : Int) := ⟨(el l i).toNat, by have := el_byte HB.out (i := i) (by rw [HN.out]; omega); omega⟩
      have ci := HC.out i hlt
      rw [hy] at ci
      replace ci := (Array.getElem?_eq_some_iff.1 ci).2
      have hnext : maxB (l.take (i + 1)) = max (maxB (l.take i)) y := by
        rw [take_el (by rw [HN.out]; omega), hy, maxB_snoc, Int.toNat_natCast]
      obtain ⟨m0, hm0⟩ : ∃ m0, m0 = maxB (l.take i) := ⟨_, rfl⟩
      rw [← hm0] at hnext ⊢
      have HNX := Lib.hid hnext
      have ii : off + i < cs.size := by omega
      have ki : (i : Int) < (n : Int) := by omega
      have wi : IntKind.i64.wrap ((i : Int) + 1) = ((i + 1 : Nat) : Int) := by rw [IntKind.wrap_i64]; omega
      clear hm0 hnext hy
      go_wp2_with fail
      go_roundw
      case rel =>
        refine ⟨i + 1, by omega, hlt, by first | rfl | simp, ?_, trivial⟩
        rw [HNX.out]
        congr 1
        omega
      case measure => simp [intOf]; omega
    · obtain rfl : i = n := by omega
      have hd : decide ((i : Int) < (i : Int)) = false := by simp
      have htk : l.take i = l := List.take_of_length_le (by rw [HN.out]; exact Nat.le_refl _)
      rw [htk]
      have HFr := Lib.hid (Fr.refl [] wr)
      clear htk
      go_wp2_with fail
      exact bodyPost_ret (results_tmp rfl _ _ _) rfl ⟨rfl, HFr.out⟩
/-- A half's first block, as look tells it. -/
def LookR (o : Option (Option (Nat × Nat × Nat))) (e c n : Nat) (is ok : Bool) : Prop := match o with
  | some none => is = false ∧ ok = true
  | some (some x) => is = true ∧ ok = true ∧ x = (e, c, n)
  | none => ok = false
theorem getV_of {l : Bs} (h1 : 1 ≤ l.length) (h2 : l.length ≤ 8) : getV l = getB l := by
  unfold getV getOk
  rw [if_pos (by rw [decide_eq_true_eq]; exact ⟨h1, h2⟩)]
theorem sl_pre {W : World} {bb off cap k : Nat} {cs : Array Value} {T : TypeId} {fr : Nat × Nat} {b : Bs} {n : Nat} (hb : W.blk bb = some (.cells cs T fr)) (hs : off + n ≤ cs.size) (hx : (cs.extract off (off + n)).toList = b.map (Value.int .u8)) (hn : b.length = n) (hk : k ≤ n) (hc : n ≤ cap) :
    Sl .u8 W (some ⟨bb, off, none⟩) k cap (b.take k) := by
  refine Sl.of hb (by omega) ?_ (by omega)
  rw [List.map_take, ← hx, Array.toList_extract, Array.toList_extract, List.extract_eq_take_drop, List.extract_eq_take_drop, Nat.add_sub_cancel_left, Nat.add_sub_cancel_left, List.take_take, Nat.min_eq_left hk]
set_option maxRecDepth 100000 in
set_option maxHeartbeats 8000000 in
theorem look_f {n cap h : Nat} {p : Option Addr} {b : Bs} (T : Sl .u8 w p n cap b) (hB : isBytes b) (h64 : n = 64) (hh : h ≤ 1000000) :
    Calls Try.prog 32 #[.slice p n cap, .int .i64 (h : Int)] w fun en w' => ∃ (e c nn : Nat) (is ok : Bool), en = .returned (.tuple #[.agg #[.int .u64 (e : Int), .int .u32 (c : Int), .int .u32 (nn : Int)], .bool is, .bool ok]) ∧ LookR (lookH b h) e c nn is ok ∧ Fr [] w w' := by
  have HB := Lib.hid hB
  subst h64
  have HS := Lib.hid T
  have hbl : b.length = 64 := T.len
  have HL := Lib.hid hbl
  have hcap : 64 ≤ cap := T.cap_
  obtain ⟨bb, off, cs, TT, fr, rfl, fc, hs2, hx⟩ := T.out (by omega)
  have HX := Lib.hid hx
  have c4 : ¬ cap = 4 := by omega
  have c12 : ¬ cap = 12 := by omega
  have c16 : ¬ cap = 16 := by omega
  have s1 : Sl .u8 w (some ⟨bb, off + 4, none⟩) 8 (cap - 4) ((b.drop 4).take 8) := by
    have h := T.part (i := 4) (j := 12) (c := cap) (by omega) (by omega) (by omega) (Nat.le_refl _)
    rw [List.drop_take] at h
    simpa [Addr.add_mid, c4] using h
  have s2 : Sl .u8 w (some ⟨bb, off + 12, none⟩) 4 (cap - 12) ((b.drop 12).take 4) := by
    have h := T.part (i := 12) (j := 16) (c := cap) (by omega) (by omega) (by omega) (Nat.le_refl _)
    rw [List.drop_take] at h
    simpa [Addr.add_mid, c12] using h
  have s3 : Sl .u8 w (some ⟨bb, off + 16, none⟩) 4 (cap - 16) ((b.drop 16).take 4) := by
    have h := T.part (i := 16) (j := 20) (c := cap) (by omega) (by omega) (by omega) (Nat.le_refl _)
    rw [List.drop_take] at h
    simpa [Addr.add_mid, c16] using h
  have HS1 := Lib.hid s1
  have HS2 := Lib.hid s2
  have HS3 := Lib.hid s3
  have hby : ∀ k j, isBytes ((b.drop k).take j) := fun k j x hx => HB.out x (List.mem_of_mem_drop (List.mem_of_mem_take hx))
  have ln : ∀ k j, k + j ≤ 64 → ((b.drop k).take j).length = j := fun k j hk => by rw [List.length_take, List.length_drop]; omega
  have v1 : getV ((b.drop 4).take 8) = hE b := getV_of (by rw [ln 4 8 (by omega)]; omega) (by rw [ln 4 8 (by omega)]; omega)
  have v2 : getV ((b.drop 12).take 4) = hC b := getV_of (by rw [ln 12 4 (by omega)]; omega) (by rw [ln 12 4 (by omega)]; omega)
  have v3 : getV ((b.drop 16).take 4) = hN b := getV_of (by rw [ln 16 4 (by omega)]; omega) (by rw [ln 16 4 (by omega)]; omega)
  have b1 : hE b < 18446744073709551616 := getB_lt 8 _ (ln 4 8 (by omega)) (hby 4 8)
  have b2 : hC b < 4294967296 := getB_lt 4 _ (ln 12 4 (by omega)) (hby 12 4)
  have b3 : hN b < 4294967296 := getB_lt 4 _ (ln 16 4 (by omega)) (hby 16 4)
  have HBY := Lib.hid hby
  obtain ⟨e, he⟩ : ∃ e, e = hE b := ⟨_, rfl⟩
  obtain ⟨c, hc⟩ : ∃ c, c = hC b := ⟨_, rfl⟩
  obtain ⟨m, hm⟩ : ∃ m, m = hN b := ⟨_, rfl⟩
  rw [← he] at v1 b1
  rw [← hc] at v2 b2
  rw [← hm] at v3 b3
  have wc : IntKind.u32.wrap (c : Int) = (c : Int) := by rw [IntKind.wrap_u32]; omega
  have wm : IntKind.u32.wrap (m : Int) = (m : Int) := by rw [IntKind.wrap_u32]; omega
  have wh : IntKind.u64.wrap (h : Int) = (h : Int) := by rw [IntKind.wrap_u64]; omega
  have HV1 := Lib.hid v1
  have HV2 := Lib.hid v2
  have HV3 := Lib.hid v3
  have hlk : ∀ o, o = lookH b h → b.all (fun x => x == 0) = false → o = if b.take 24 = head24 e c m ∧ 1 ≤ m ∧ m ≤ h then some (some (e, c, m)) else none := fun o ho hz => by rw [ho, lookH, hz, he, hc, hm]; rfl
  obtain ⟨ol, hol⟩ : ∃ ol, ol = lookH b h := ⟨_, rfl⟩
  have hz0 : b.all (fun x => x == 0) = true → ol = some none := fun hz => by rw [hol, lookH, if_pos hz]
  have hlk2 := hlk ol hol
  rw [← hol]
  have HLK := Lib.hid hlk2
  have HZ0 := Lib.hid hz0
  have hcv : ∀ W : World, W.blk bb = some (.cells cs TT fr) → (convert 22 9 (.slice (some ⟨bb, off, none⟩) 24 cap)).run Try.prog W = .ok (.string (strB (b.take 24))) W := fun W hW => conv47 (sl_pre hW hs2 hx hbl (by omega) hcap)
  have FC := Lib.hid fc
  obtain ⟨X, hX⟩ : ∃ X, X = strB (b.take 24) := ⟨_, rfl⟩
  rw [← hX] at hcv
  obtain ⟨y, hy⟩ : ∃ y : Bool, y = decide (b.take 24 = head24 e c m) := ⟨_, rfl⟩
  have hbe : (X.toList == (strB (head24 e c m)).toList) = y := by
    rw [hX, beq_str (a := b.take 24) (b := head24 e c m) (by have := hby 0 24; simpa using this) (Byt.append (byt_headP e c m) (byt_putB _ _)), hy]
  have HYY := Lib.hid hy
  obtain ⟨Y, hY⟩ : ∃ Y, Y = strB (head24 e c m) := ⟨_, rfl⟩
  rw [← hY] at hbe
  have HYE := Lib.hid hY
  have HBE := Lib.hid hbe
  have HCV := Lib.hid hcv
  clear T hB hx hbl s1 s2 s3 v1 v2 v3 he hc hm hby ln hlk hlk2 hol hz0 hcv hX hy hbe hY fc
  go_enter Try.func32, Try.ntmps32
  go_upto_region 1 with (fail)
  refine named_world (A := fun X => OwB w [(w.heap.size, .cells #[.int .u64 0, .int .u32 0, .int .u32 0] 73)] X) (Q := fun X => Code.wp _ _ _ _ X) ((OwB.start w).allocN _ _ rfl) ?_
  intro V hV
  generalize w.heap.size = b4 at hV ⊢
  have HV := Lib.hid hV
  clear hV
  go_wp2_with fail
  refine (max_f (HS.out.fr0 HV.out.fr) HB.out (by omega) (by omega)).mono ?_
  rintro en w1 ⟨rfl, F1⟩
  have HW1 := Lib.hid (HV.out.call F1)
  have hz := maxB_zero b HB.out
  obtain ⟨M, hM⟩ : ∃ M, M = maxB b := ⟨_, rfl⟩
  rw [← hM] at hz ⊢
  have HZ := Lib.hid hz
  clear F1 HV hM hz
  by_cases h0 : M = 0
  · have HOL := Lib.hid (HZ0.out (HZ.out.1 h0))
    subst h0
    have f4 := HW1.out.nth 0 rfl
    have t4 := World.at_lt f4
    go_wp2_with fail
    have hf := HW1.out.set 0 (.cells #[.int .u64 0, .int .u32 0, .int .u32 0] 73) rfl
    refine ret_cell_tmp2 rfl rfl rfl ?_
    refine cellRet_of (hf.nth 0 rfl) (by kernel_rfl) ⟨0, 0, 0, false, true, rfl, ?_, hf.fr⟩
    rw [HOL.out]
    exact ⟨rfl, rfl⟩
  · have hd0 : ((M : Int) == 0) = false := by rw [beq_eq_false_iff_ne]; omega
    have hall : b.all (fun x => x == 0) = false := by
      cases h : b.all (fun x => x == 0) with
      | false => rfl
      | true => exact absurd (HZ.out.2 h) h0
    have HOL := Lib.hid (HLK.out hall)
    have k4 : (4 : Int) ≤ 12 := by omega
    have k12 : (12 : Int) ≤ (cap : Int) := by omega
    have k16 : (16 : Int) ≤ (cap : Int) := by omega
    have k20 : (20 : Int) ≤ (cap : Int) := by omega
    have k24 : (24 : Int) ≤ (cap : Int) := by omega
    clear hall h0
    go_wp2_with fail
    refine (get_f (HS1.out.fr0 HW1.out.fr) (HBY.out 4 8)).mono ?_
    rintro en w2 ⟨rfl, F2⟩
    rw [HV1.out]
    have HW2 := Lib.hid (HW1.out.call F2)
    clear F2 HW1
    go_wp2_with fail
    refine (get_f (HS2.out.fr0 HW2.out.fr) (HBY.out 12 4)).mono ?_
    rintro en w3 ⟨rfl, F3⟩
    rw [HV2.out]
    have HW3 := Lib.hid (HW2.out.call F3)
    clear F3 HW2
    go_wp2_with fail
    refine (get_f (HS3.out.fr0 HW3.out.fr) (HBY.out 16 4)).mono ?_
    rintro en w4 ⟨rfl, F4⟩
    rw [HV3.out]
    have HW4 := Lib.hid (HW3.out.call F4)
    clear F4 HW3
    obtain ⟨xs, hxs⟩ : ∃ xs : Array Value, xs = #[.int .u64 (e : Int), .int .u32 (c : Int), .int .u32 (m : Int)] := ⟨_, rfl⟩
    go_upto_region 7 with (fail)
    refine named_world (A := fun X => OwB w [(w4.heap.size, .cells xs 73), (b4, .cells #[.int .u64 0, .int .u32 0, .int .u32 0] 73)] X) (Q := fun X => Code.wp _ _ _ _ X) (by rw [hxs]; exact HW4.out.allocN _ _ rfl) ?_
    intro U hU
    generalize w4.heap.size = b13 at hU ⊢
    have HU := Lib.hid hU
    clear hU HW4
    have hsz : xs.size = 3 := by rw [hxs]; rfl
    have hon : ones xs.toList = true := by rw [hxs]; rfl
    have hxal : xs.extract 0 3 = xs := by rw [← hsz]; exact Array.extract_size
    have HXS := Lib.hid hxs
    have f13 := HU.out.nth 0 rfl
    have t13 := World.at_lt f13
    have f4 := HU.out.nth 1 rfl
    have t4 := World.at_lt f4
    have fb := HU.out.fr.get FC.out (by simp)
    have tb := World.at_lt fb
    have hcv := HCV.out
    have hk34 : ∀ W : World, Calls Try.prog 34 #[.agg xs] W fun en w' => ∃ q m' cp, en = .returned (.slice q m' cp) ∧ Bld W [] .u8 5 w' q m' cp (St.headB e c m) := fun W => by rw [hxs]; exact hbytes_f b2 b3
    have HK34 := Lib.hid hk34
    clear hxs hk34
    refine drawn_begin 21 (fun w' => w'.blk b13 = some (.cells xs 73) ∧ w'.blk bb = some (.cells cs TT fr)) (by kernel_rfl) ?_
    refine drawn_reads (fuel := 17) [0, 1, 2, 3, 4] rfl (by kernel_rfl) ⟨f13, fb⟩ ?_
    repeat (first | (refine rowK_step2 rfl rfl (fun K hK => ?_); go_wp2) | (refine rowK_step rfl (fun K hK => ?_); go_simp; refine hK _ ?_; clear hK K))
    refine rowK_nil ⟨fun w' e1 => ?_, ?_⟩
    · obtain ⟨g1, g2⟩ := e1
      clear f13 t13 f4 t4 fb tb
      have u1 := World.at_lt g1
      have u2 := World.at_lt g2
      repeat (first | (refine rowWp_step2 rfl rfl (fun K hK => ?_); go_wp2) | (refine rowWp_step rfl (fun K hK => ?_); go_simp; refine hK _ ?_; clear hK K))
      exact rowWp_nil rfl
    refine drawn_next 5 (fuel := 16) rfl (by kernel_rfl) ?_
    intro K hK
    go_wp2_with fail
    refine (HK34.out _).mono ?_
    rintro en w5 ⟨q5, m5, c5, rfl, B5⟩
    have F5 := B5.own.fr
    have HU5 := Lib.hid (HU.out.call (show Fr [] U w5 from by first | exact F5 | exact (Fr.refl [] _).drew.trans F5))
    have S5 := B5.sl
    have hm5 : m5 = 64 := by rw [← S5.len, headB_length]
    subst hm5
    have hc5 := S5.cap_
    obtain ⟨b5, o5, cs5, T5, fr5, rfl, g5, hs5, hx5⟩ := S5.out (by omega)
    have hcv5 : (convert 22 9 (.slice (some ⟨b5, o5, none⟩) 24 c5)).run Try.prog w5 = .ok (.string Y) w5 := by
      rw [HYE.out, ← (head_parts e c m).1]
      exact conv47 (sl_pre g5 hs5 hx5 (headB_length _ _ _) (by omega) hc5)
    have k5 : (24 : Int) ≤ (c5 : Int) := by omega
    clear B5 F5 S5 HU f13 t13 f4 t4 fb tb hcv hx5 g5
    have f13 := HU5.out.nth 0 rfl
    have t13 := World.at_lt f13
    have f4 := HU5.out.nth 1 rfl
    have t4 := World.at_lt f4
    have fb := HU5.out.fr.get FC.out (by simp)
    have tb := World.at_lt fb
    have n134 := HU5.out.ne 0 1 rfl rfl (by decide)
    have n413 := n134.symm
    have nb4 : bb ≠ b4 := fun h => by
      have h1 := HU5.out.low 1 rfl
      have h2 := World.at_lt FC.out
      omega
    have n4b := nb4.symm
    have hbe := HBE.out
    go_wp2_with fail
    refine ⟨⟨f13, fb⟩, ?_⟩
    refine drawn_next 6 (fuel := 15) rfl (by kernel_rfl) ?_
    intro K hK
    go_wp2_with fail
    refine ⟨⟨f13, fb⟩, ?_⟩
    refine drawn_next 7 (fuel := 14) rfl (by kernel_rfl) ?_
    intro K hK
    go_wp2_with fail
    refine ⟨⟨f13, fb⟩, ?_⟩
    refine drawn_next 8 (fuel := 13) rfl (by kernel_rfl) ?_
    intro K hK
    go_wp2_with fail
    refine ⟨⟨f13, fb⟩, ?_⟩
    refine drawn_next 9 (fuel := 12) rfl (by kernel_rfl) ?_
    intro K hK
    go_wp2_with fail
    refine ⟨⟨f13, fb⟩, ?_⟩
    clear hbe hcv5
    cases y with
    | false =>
      have hno : ¬ (b.take 24 = head24 e c m ∧ 1 ≤ m ∧ m ≤ h) := fun hh => by
        have h2 := HYY.out
        rw [decide_eq_true hh.1] at h2
        cases h2
      have hok : ol = none := by rw [HOL.out, if_neg hno]
      have HOK := Lib.hid hok
      clear hno hok
      refine drawn_reads (fuel := 3) [10, 11, 12, 13, 14, 15, 16, 17, 18] rfl (by kernel_rfl) ⟨f13, fb⟩ ?_
      repeat (first | (refine rowK_step2 rfl rfl (fun K hK => ?_); go_wp2) | (refine rowK_step rfl (fun K hK => ?_); go_simp; refine hK _ ?_; clear hK K))
      refine rowK_nil ⟨fun w' e1 => ?_, ?_⟩
      · clear f13 t13 f4 t4 fb tb
        repeat (first | (refine rowWp_step2 rfl rfl (fun K hK => ?_); go_wp2) | (refine rowWp_step rfl (fun K hK => ?_); go_simp; refine hK _ ?_; clear hK K))
        exact rowWp_nil rfl
      refine drawn_next 19 (fuel := 2) rfl (by kernel_rfl) ?_
      intro K hK
      go_wp2_with fail
      refine ⟨⟨by go_simp, by go_simp⟩, ?_⟩
      refine named_world (A := fun X => OwB w [(b13, .cells xs 73), (b4, .cells xs 73)] X ∧ X.blk bb = some (.cells cs TT fr)) (Q := fun X => Go.Dr.wpAnyS Try.prog .any _ _ _ _ _ _ _ X) ⟨by first | exact HU5.out.set 1 (.cells xs 73) rfl | exact (HU5.out.set 1 (.cells xs 73) rfl).drew | exact HU5.out.drew.set 1 (.cells xs 73) rfl, by go_simp⟩ ?_
      rintro U6 ⟨hU6, fb6⟩
      have HU6 := Lib.hid hU6
      have f136 := hU6.nth 0 rfl
      clear hU6 f13 t13 f4 t4 fb tb n134 n413 nb4 n4b
      refine drawn_next 20 (fuel := 1) rfl (by kernel_rfl) ?_
      intro K hK
      go_wp2_with fail
      refine ⟨⟨f136, fb6⟩, ?_⟩
      refine drawn_end rfl (by kernel_rfl) ?_
      intro K hK
      go_wp2_with fail
      refine ret_cell_tmp2 rfl rfl rfl ?_
      refine cellRet_of (HU6.out.nth 1 rfl) (by rw [hsz]; kernel_rfl) ⟨e, c, m, true, false, by rw [HXS.out]; rfl, ?_, HU6.out.fr⟩
      rw [HOK.out]
      exact rfl
    | true =>
      have hy1 : b.take 24 = head24 e c m := of_decide_eq_true HYY.out.symm
      have HY1 := Lib.hid hy1
      clear hy1
      by_cases h1 : 1 ≤ m
      · have d1 : decide ((m : Int) ≥ 1) = true := by rw [decide_eq_true_eq]; omega
        have d1b : decide ((1 : Int) ≤ (m : Int)) = true := by rw [decide_eq_true_eq]; omega
        by_cases h2 : m ≤ h
        · have d2 : decide ((m : Int) ≤ (h : Int)) = true := by rw [decide_eq_true_eq]; omega
          have hok : ol = some (some (e, c, m)) := by rw [HOL.out, if_pos ⟨HY1.out, h1, h2⟩]
          have HOK := Lib.hid hok
          clear hok
          refine drawn_reads (fuel := 3) [10, 11, 12, 13, 14, 15, 16, 17, 18] rfl (by kernel_rfl) ⟨f13, fb⟩ ?_
          repeat (first | (refine rowK_step2 rfl rfl (fun K hK => ?_); go_wp2) | (refine rowK_step rfl (fun K hK => ?_); go_simp; refine hK _ ?_; clear hK K))
          refine rowK_nil ⟨fun w' e1 => ?_, ?_⟩
          · clear f13 t13 f4 t4 fb tb
            repeat (first | (refine rowWp_step2 rfl rfl (fun K hK => ?_); go_wp2) | (refine rowWp_step rfl (fun K hK => ?_); go_simp; refine hK _ ?_; clear hK K))
            exact rowWp_nil rfl
          refine drawn_next 19 (fuel := 2) rfl (by kernel_rfl) ?_
          intro K hK
          go_wp2_with fail
          refine ⟨⟨by go_simp, by go_simp⟩, ?_⟩
          refine named_world (A := fun X => OwB w [(b13, .cells xs 73), (b4, .cells xs 73)] X ∧ X.blk bb = some (.cells cs TT fr)) (Q := fun X => Go.Dr.wpAnyS Try.prog .any _ _ _ _ _ _ _ X) ⟨by first | exact HU5.out.set 1 (.cells xs 73) rfl | exact (HU5.out.set 1 (.cells xs 73) rfl).drew | exact HU5.out.drew.set 1 (.cells xs 73) rfl, by go_simp⟩ ?_
          rintro U6 ⟨hU6, fb6⟩
          have HU6 := Lib.hid hU6
          have f136 := hU6.nth 0 rfl
          clear hU6 f13 t13 f4 t4 fb tb n134 n413 nb4 n4b
          refine drawn_next 20 (fuel := 1) rfl (by kernel_rfl) ?_
          intro K hK
          go_wp2_with fail
          refine ⟨⟨f136, fb6⟩, ?_⟩
          refine drawn_end rfl (by kernel_rfl) ?_
          intro K hK
          go_wp2_with fail
          refine ret_cell_tmp2 rfl rfl rfl ?_
          refine cellRet_of (HU6.out.nth 1 rfl) (by rw [hsz]; kernel_rfl) ⟨e, c, m, true, true, by rw [HXS.out]; rfl, ?_, HU6.out.fr⟩
          rw [HOK.out]
          exact ⟨rfl, rfl, rfl⟩
        · have d2 : decide ((m : Int) ≤ (h : Int)) = false := by rw [decide_eq_false_iff_not]; omega
          have hok : ol = none := by rw [HOL.out, if_neg (fun hh => h2 hh.2.2)]
          have HOK := Lib.hid hok
          clear hok
          refine drawn_reads (fuel := 3) [10, 11, 12, 13, 14, 15, 16, 17, 18] rfl (by kernel_rfl) ⟨f13, fb⟩ ?_
          repeat (first | (refine rowK_step2 rfl rfl (fun K hK => ?_); go_wp2) | (refine rowK_step rfl (fun K hK => ?_); go_simp; refine hK _ ?_; clear hK K))
          refine rowK_nil ⟨fun w' e1 => ?_, ?_⟩
          · clear f13 t13 f4 t4 fb tb
            repeat (first | (refine rowWp_step2 rfl rfl (fun K hK => ?_); go_wp2) | (refine rowWp_step rfl (fun K hK => ?_); go_simp; refine hK _ ?_; clear hK K))
            exact rowWp_nil rfl
          refine drawn_next 19 (fuel := 2) rfl (by kernel_rfl) ?_
          intro K hK
          go_wp2_with fail
          refine ⟨⟨by go_simp, by go_simp⟩, ?_⟩
          refine named_world (A := fun X => OwB w [(b13, .cells xs 73), (b4, .cells xs 73)] X ∧ X.blk bb = some (.cells cs TT fr)) (Q := fun X => Go.Dr.wpAnyS Try.prog .any _ _ _ _ _ _ _ X) ⟨by first | exact HU5.out.set 1 (.cells xs 73) rfl | exact (HU5.out.set 1 (.cells xs 73) rfl).drew | exact HU5.out.drew.set 1 (.cells xs 73) rfl, by go_simp⟩ ?_
          rintro U6 ⟨hU6, fb6⟩
          have HU6 := Lib.hid hU6
          have f136 := hU6.nth 0 rfl
          clear hU6 f13 t13 f4 t4 fb tb n134 n413 nb4 n4b
          refine drawn_next 20 (fuel := 1) rfl (by kernel_rfl) ?_
          intro K hK
          go_wp2_with fail
          refine ⟨⟨f136, fb6⟩, ?_⟩
          refine drawn_end rfl (by kernel_rfl) ?_
          intro K hK
          go_wp2_with fail
          refine ret_cell_tmp2 rfl rfl rfl ?_
          refine cellRet_of (HU6.out.nth 1 rfl) (by rw [hsz]; kernel_rfl) ⟨e, c, m, true, false, by rw [HXS.out]; rfl, ?_, HU6.out.fr⟩
          rw [HOK.out]
          exact rfl
      · have d1 : decide ((m : Int) ≥ 1) = false := by rw [decide_eq_false_iff_not]; omega
        have d1b : decide ((1 : Int) ≤ (m : Int)) = false := by rw [decide_eq_false_iff_not]; omega
        have hok : ol = none := by rw [HOL.out, if_neg (fun hh => h1 hh.2.1)]
        have HOK := Lib.hid hok
        clear hok
        refine drawn_reads (fuel := 3) [10, 11, 12, 13, 14, 15, 16, 17, 18] rfl (by kernel_rfl) ⟨f13, fb⟩ ?_
        repeat (first | (refine rowK_step2 rfl rfl (fun K hK => ?_); go_wp2) | (refine rowK_step rfl (fun K hK => ?_); go_simp; refine hK _ ?_; clear hK K))
        refine rowK_nil ⟨fun w' e1 => ?_, ?_⟩
        · clear f13 t13 f4 t4 fb tb
          repeat (first | (refine rowWp_step2 rfl rfl (fun K hK => ?_); go_wp2) | (refine rowWp_step rfl (fun K hK => ?_); go_simp; refine hK _ ?_; clear hK K))
          exact rowWp_nil rfl
        refine drawn_next 19 (fuel := 2) rfl (by kernel_rfl) ?_
        intro K hK
        go_wp2_with fail
        refine ⟨⟨by go_simp, by go_simp⟩, ?_⟩
        refine named_world (A := fun X => OwB w [(b13, .cells xs 73), (b4, .cells xs 73)] X ∧ X.blk bb = some (.cells cs TT fr)) (Q := fun X => Go.Dr.wpAnyS Try.prog .any _ _ _ _ _ _ _ X) ⟨by first | exact HU5.out.set 1 (.cells xs 73) rfl | exact (HU5.out.set 1 (.cells xs 73) rfl).drew | exact HU5.out.drew.set 1 (.cells xs 73) rfl, by go_simp⟩ ?_
        rintro U6 ⟨hU6, fb6⟩
        have HU6 := Lib.hid hU6
        have f136 := hU6.nth 0 rfl
        clear hU6 f13 t13 f4 t4 fb tb n134 n413 nb4 n4b
        refine drawn_next 20 (fuel := 1) rfl (by kernel_rfl) ?_
        intro K hK
        go_wp2_with fail
        refine ⟨⟨f136, fb6⟩, ?_⟩
        refine drawn_end rfl (by kernel_rfl) ?_
        intro K hK
        go_wp2_with fail
        refine ret_cell_tmp2 rfl rfl rfl ?_
        refine cellRet_of (HU6.out.nth 1 rfl) (by rw [hsz]; kernel_rfl) ⟨e, c, m, true, false, by rw [HXS.out]; rfl, ?_, HU6.out.fr⟩
        rw [HOK.out]
        exact rfl
end
end Go.Proofs.Ytombhkekocbfoaa
