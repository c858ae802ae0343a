/- Joined: SoY, SoZa, SoD, SoZb, PkD, PkT. -/
import Derived.Test.YtombhkekocbfoaaZi
import Derived.Test.YtombhkekocbfoaaZg
set_option linter.unusedVariables false
set_option linter.unusedSimpArgs false
namespace Go.Proofs.Ytombhkekocbfoaa
open Go.RowKit Go.Dr Go.Kd Go.St
def slLenV : Value → Nat
  | .slice _ m _ => m
  | _ => 0
section
variable {w : World}
set_option maxRecDepth 100000 in
set_option maxHeartbeats 4000000 in
theorem dhead_f {e c n : Nat} (he : e < 18446744073709551616) (hc : c < 4294967296) (hn : n < 4294967296) :
    Calls Try.prog 46 #[.int .u64 (e : Int), .int .i64 (c : Int), .int .i64 (n : Int)] w fun en w' => ∃ q cp, en = .returned (.slice q 64 cp) ∧ Bld w [] .u8 5 w' q 64 cp (headB e c n) := by
  have hconv := Lib.run_convert_bytes_const (P := Try.prog) w 22 5 #[.int .u8 104, .int .u8 101, .int .u8 97, .int .u8 100] 4 4 Try.underlying22 Try.underlying5
  go_enter Try.func46, Try.ntmps46
  go_wp2_with fail
  refine OwB.named (Q := fun X => Calls Try.prog 62 _ X _) ((OwB.start w).allocN (.cells (ints .u8 headW) 5 (4, 5)) w.heap.size rfl) ?_
  clear hconv
  intro V hV
  generalize w.heap.size = b2 at hV ⊢
  have HV := Lib.hid hV
  clear hV
  refine (long_b he).mono ?_
  rintro en w1 ⟨b8, rfl, g8, l8, F1⟩
  have HV1 := Lib.hid (HV.out.call F1)
  have G8 := Lib.hid g8
  clear g8 l8 F1 HV
  go_wp2_with (refine wpList_grow22 rfl _ _ rfl rfl (Sl.whole (HV1.out.nth 0 rfl) rfl) rfl (Sl.whole G8.out (putB_length _ _)) (by omega) (by omega) ?_)
  intro q3 c3 W3 B3
  have HB3 := Lib.hid (Bld.subL (L' := []) (B3.lift HV1.out) (List.nil_sublist _))
  clear B3 G8 HV1
  go_wp2_with fail
  refine (rnum_b (n := c) (s := 4) (by omega) (by omega) (by omega)).mono ?_
  rintro en w4 ⟨b4, rfl, g4, l4, F4⟩
  have HB4 := Lib.hid (HB3.out.call F4)
  have G4 := Lib.hid g4
  clear g4 l4 F4 HB3
  go_wp2_with (refine wpList_app47 rfl _ _ rfl rfl HB4.out rfl (Sl.whole G4.out (putB_length _ _)) (by omega) ?_)
  intro q5 c5 W5 B5
  have HB5 := Lib.hid B5
  clear B5 G4 HB4
  go_wp2_with fail
  refine (rnum_b (n := n) (s := 4) (by omega) (by omega) (by omega)).mono ?_
  rintro en w6 ⟨b6, rfl, g6, l6, F6⟩
  have HB6 := Lib.hid (HB5.out.call F6)
  have G6 := Lib.hid g6
  clear g6 l6 F6 HB5
  go_wp2_with (refine wpList_app47 rfl _ _ rfl rfl HB6.out rfl (Sl.whole G6.out (putB_length _ _)) (by omega) ?_)
  intro q7 c7 W7 B7
  have e20 : headW ++ (putB e 8 ++ (putB c 4 ++ putB n 4)) = headP e c n := by simp [headP]
  rw [e20] at B7
  have hPb := byt_headP e c n
  obtain ⟨P, hP⟩ : ∃ P, P = headP e c n := ⟨_, rfl⟩
  rw [← hP] at hPb B7
  have HPE := Lib.hid hP
  have HB7 := Lib.hid B7
  have HPB := Lib.hid hPb
  clear B7 G6 HB6 e20 hP hPb
  go_wp2_with fail
  refine (dS_f HB7.out.sl HPB.out (by omega)).mono ?_
  rintro en w8 ⟨rfl, rfl⟩
  have hS := S_lt P
  obtain ⟨s0, hs0⟩ : ∃ s0, s0 = Go.St.S P := ⟨_, rfl⟩
  rw [← hs0] at hS ⊢
  have HS0 := Lib.hid hs0
  clear hs0
  go_wp2_with fail
  refine (rnum_b (n := s0) (s := 4) (by omega) (by omega) (by omega)).mono ?_
  rintro en w9 ⟨b9, rfl, g9, l9, F9⟩
  have HB10 := Lib.hid (HB7.out.call F9)
  have G9 := Lib.hid g9
  clear g9 l9 F9 HB7
  go_wp2_with (refine wpList_app47 rfl _ _ rfl rfl HB10.out rfl (Sl.whole G9.out (putB_length _ _)) (by omega) ?_)
  intro q10 c10 W10 B10
  have HB11 := Lib.hid B10
  clear B10 HB10 G9
  -- LOOP
  have e24 : P ++ putB s0 4 = head24 e c n := by rw [HPE.out, head24, HS0.out, HPE.out]
  have HB12 := Lib.hid (show Bld w [] .u8 5 W10 q10 24 c10 (head24 e c n ++ zs 0) by
    have h := HB11.out
    rw [e24] at h
    simpa [zs] using h)
  clear e24 HB11
  go_wp2_with fail
  go_loopw [7] (fun v wy => ∃ (k : Nat) (q : Option Addr) (cp : Nat), k ≤ 40 ∧ v = .slice q (24 + k) cp ∧ Hid (Bld w [] .u8 5 wy q (24 + k) cp (head24 e c n ++ zs k))) (fun v _ => 64 - slLenV v)
  case atStart => exact ⟨0, q10, c10, by omega, rfl, HB12⟩
  case round =>
    obtain ⟨k, q, cp, hk, rfl, hW⟩ := hrel
    obtain ⟨n0, hn0⟩ : ∃ n0, n0 = 24 + k := ⟨_, rfl⟩
    rw [← hn0] at hW ⊢
    by_cases hlt : k < 40
    · have hd : decide ((n0 : Int) < 64) = true := by rw [decide_eq_true_eq]; omega
      have hb : ∀ W : World, ∀ b : Nat, W.blk b = some (.cells #[.int .u8 0] 5) → Sl .u8 W (some ⟨b, 0, none⟩) 1 1 [0] := fun W b h => Sl.whole (A := [0]) (T := 5) (fr := (0, 0)) h rfl
      have HBB := Lib.hid hb
      clear hb
      have e1 : head24 e c n ++ zs k ++ [0] = head24 e c n ++ zs (k + 1) := by
        rw [List.append_assoc]; congr 1; simp [zs, List.replicate_succ']
      have HE1 := Lib.hid e1
      clear e1
      go_wp2_with (refine wpList_app47 rfl _ _ rfl rfl (hW.out.call ((Fr.refl [] _).alloc _)) rfl (HBB.out _ _ (World.at_alloc_new _ _ _ rfl)) (by omega) ?_)
      intro q9 c9 W9 B9
      have HB9 := Lib.hid B9
      clear B9
      go_wp2_with fail
      go_roundw
      case rel => exact ⟨k + 1, q9, c9, by omega, rfl, Lib.hid (by rw [← HE1.out, show 24 + (k + 1) = 24 + k + 1 by omega]; simpa using HB9.out)⟩
      case measure => simp [slLenV]; omega
    · obtain rfl : k = 40 := by omega
      have hd : decide ((n0 : Int) < 64) = false := by rw [decide_eq_false_iff_not]; omega
      obtain rfl : n0 = 64 := by omega
      go_wp2_with fail
      exact bodyPost_ret (results_tmp rfl _ _ _) rfl ⟨q, cp, rfl, hW.out⟩
set_option maxRecDepth 100000 in
set_option maxHeartbeats 4000000 in
theorem drec_f {e k n cap : Nat} {p : Option Addr} {P : Bs} (he : e < 18446744073709551616) (hk : k < 4294967296) (S : Sl .u8 w p n cap P) (hP : isBytes P) (hn : n ≤ 1000000) :
    Calls Try.prog 47 #[.int .u64 (e : Int), .int .i64 (k : Int), .slice p n cap] w fun en w' => ∃ q m cp, en = .returned (.slice q m cp) ∧ Bld w [] .u8 5 w' q m cp (recB e k P) := by
  have HS := Lib.hid S
  have HPB := Lib.hid hP
  have hpl := S.len
  have HPL := Lib.hid hpl
  have HB0 := Lib.hid (Bld.nil (k := .u8) (e := 5) (OwB.start w))
  clear S hP hpl
  go_enter Try.func47, Try.ntmps47
  go_wp2_with fail
  refine (long_b he).mono ?_
  rintro en w1 ⟨b8, rfl, g8, l8, F1⟩
  have HB1 := Lib.hid (HB0.out.call F1)
  have G8 := Lib.hid g8
  -- REC
  clear g8 l8 F1 HB0
  go_wp2_with (refine wpList_app47 rfl _ _ rfl rfl HB1.out rfl (Sl.whole G8.out (putB_length _ _)) (by omega) ?_)
  intro q2 c2 W2 B2
  have HB2 := Lib.hid B2
  clear B2 G8 HB1
  go_wp2_with fail
  refine (rnum_b (n := k) (s := 4) (by omega) (by omega) (by omega)).mono ?_
  rintro en w3 ⟨b3, rfl, g3, l3, F3⟩
  have HB3 := Lib.hid (HB2.out.call F3)
  have G3 := Lib.hid g3
  clear g3 l3 F3 HB2
  go_wp2_with (refine wpList_app47 rfl _ _ rfl rfl HB3.out rfl (Sl.whole G3.out (putB_length _ _)) (by omega) ?_)
  intro q4 c4 W4 B4
  have HB4 := Lib.hid B4
  clear B4 G3 HB3
  go_wp2_with fail
  refine (rnum_b (n := n) (s := 4) (by omega) (by omega) (by omega)).mono ?_
  rintro en w5 ⟨b5, rfl, g5, l5, F5⟩
  have HB5 := Lib.hid (HB4.out.call F5)
  have G5 := Lib.hid g5
  clear g5 l5 F5 HB4
  go_wp2_with (refine wpList_app47 rfl _ _ rfl rfl HB5.out rfl (Sl.whole G5.out (putB_length _ _)) (by omega) ?_)
  intro q6 c6 W6 B6
  have HB6 := Lib.hid B6
  clear B6 G5 HB5
  go_wp2_with (refine wpList_app47 rfl _ _ rfl rfl HB6.out rfl (HS.out.fr0 HB6.out.own.fr) (by omega) ?_)
  intro q7 c7 W7 B7
  have HB7 := Lib.hid B7
  clear B7 HB6
  go_wp2_with fail
  refine (rnum_b (n := n) (s := 4) (by omega) (by omega) (by omega)).mono ?_
  rintro en w8 ⟨b9, rfl, g9, l9, F9⟩
  have HB8 := Lib.hid (HB7.out.call F9)
  have G9 := Lib.hid g9
  clear g9 l9 F9 HB7
  go_wp2_with fail
  have hT : putB e 8 ++ (putB k 4 ++ (putB n 4 ++ P)) = recT e k P := by rw [recT, HPL.out]; simp
  obtain ⟨TT, hTT⟩ : ∃ TT, TT = recT e k P := ⟨_, rfl⟩
  have HB9 := Lib.hid (show Bld w [] .u8 5 w8 q7 (16 + n) c7 TT by rw [hTT, ← hT]; exact HB8.out)
  have hTb : isBytes TT := by rw [hTT]; exact ((Byt.append (byt_putB _ _) (byt_putB _ _)).append (byt_putB _ _)).append HPB.out
  have HTB := Lib.hid hTb
  have HTE := Lib.hid hTT
  clear hT hTT hTb HB8
  refine (dS_f HB9.out.sl HTB.out (by omega)).mono ?_
  rintro en w10 ⟨rfl, rfl⟩
  have hS := S_lt TT
  obtain ⟨s0, hs0⟩ : ∃ s0, s0 = Go.St.S TT := ⟨_, rfl⟩
  rw [← hs0] at hS ⊢
  have HS0 := Lib.hid hs0
  clear hs0
  go_wp2_with fail
  refine (rnum_b (n := s0) (s := 4) (by omega) (by omega) (by omega)).mono ?_
  rintro en w11 ⟨b11, rfl, g11, l11, F11⟩
  have G9' := Lib.hid (F11.get G9.out (by simp))
  have G11 := Lib.hid g11
  have HO11 := Lib.hid (HB9.out.own.call F11)
  clear g11 l11 F11 HB9 G9
  go_wp2_with (refine wpList_grow22 rfl _ _ rfl rfl (Sl.whole G9'.out (putB_length _ _)) rfl (Sl.whole G11.out (putB_length _ _)) (by omega) (by omega) ?_)
  intro q12 c12 W12 B12
  have HB12 := Lib.hid (B12.lift HO11.out)
  clear B12 G9' G11 HO11
  go_wp2_with (refine wpList_app47 rfl _ _ rfl rfl HB12.out rfl (HS.out.fr0 HB12.out.own.fr) (by omega) ?_)
  intro q13 c13 W13 B13
  have hR : putB n 4 ++ (putB s0 4 ++ P) = recH e k P ++ P := by rw [recH, HPL.out, HS0.out, HTE.out]; simp
  have HB14 := Lib.hid (show Bld w [] .u8 5 W13 q13 (8 + n + 0) c13 (recH e k P ++ P ++ zs 0) by
    have h := B13
    rw [show zs 0 = ([] : Bs) from rfl, List.append_nil, ← hR]
    simpa using h)
  clear B13 hR HB12
  go_wp2_with fail
  go_loopw [8] (fun v wy => ∃ (j : Nat) (q : Option Addr) (cp : Nat), j ≤ (64 - (8 + n) % 64) % 64 ∧ v = .slice q (8 + n + j) cp ∧ Hid (Bld w [] .u8 5 wy q (8 + n + j) cp (recH e k P ++ P ++ zs j))) (fun v _ => 8 + n + 64 - slLenV v)
  case atStart => exact ⟨0, q13, c13, by omega, rfl, HB14⟩
  case round =>
    obtain ⟨j, q, cp, hj, rfl, hW⟩ := hrel
    obtain ⟨n0, hn0⟩ : ∃ n0, n0 = 8 + n + j := ⟨_, rfl⟩
    rw [← hn0] at hW ⊢
    have hrem : (n0 : Int).tmod 64 = ((n0 % 64 : Nat) : Int) := by rw [Int.tmod_eq_emod_of_nonneg (by omega)]; omega
    by_cases hlt : n0 % 64 = 0
    · have hd : (((n0 % 64 : Nat) : Int) != 0) = false := by rw [hlt]; rfl
      have he0 : j = (64 - (8 + n) % 64) % 64 := by omega
      have HRB := Lib.hid (show Bld w [] .u8 5 wr q n0 cp (recB e k P) by
        have h := hW.out
        rw [he0] at h
        rw [recB, HPL.out]
        exact h)
      clear hW he0 hn0
      go_wp2_with fail
      exact bodyPost_ret (results_tmp rfl _ _ _) rfl ⟨q, n0, cp, rfl, HRB.out⟩
    · have hd : (((n0 % 64 : Nat) : Int) != 0) = true := by rw [bne_iff_ne]; omega
      have hb : ∀ W : World, ∀ b : Nat, W.blk b = some (.cells #[.int .u8 0] 5) → Sl .u8 W (some ⟨b, 0, none⟩) 1 1 [0] := fun W b h => Sl.whole (A := [0]) (T := 5) (fr := (0, 0)) h rfl
      have HBB := Lib.hid hb
      clear hb
      have e1 : recH e k P ++ P ++ zs j ++ [0] = recH e k P ++ P ++ zs (j + 1) := by
        rw [List.append_assoc]; congr 1; simp [zs, List.replicate_succ']
      have HE1 := Lib.hid e1
      have HN0 := Lib.hid hn0
      have hj2 : j + 1 ≤ (64 - (8 + n) % 64) % 64 := by omega
      have HJ2 := Lib.hid hj2
      have hn0b : n0 ≤ 1000100 := by omega
      clear e1 hn0 hj hj2
      go_wp2_with (refine wpList_app47 rfl _ _ rfl rfl (hW.out.call ((Fr.refl [] _).alloc _)) rfl (HBB.out _ _ (World.at_alloc_new _ _ _ rfl)) (by omega) ?_)
      intro q9 c9 W9 B9
      have HB9 := Lib.hid B9
      clear B9
      go_wp2_with fail
      go_roundw
      case rel => exact ⟨j + 1, q9, c9, HJ2.out, by rw [HN0.out]; rfl, Lib.hid (by rw [← HE1.out, show 8 + n + (j + 1) = n0 + 1 by rw [HN0.out]; rfl]; simpa using HB9.out)⟩
      case measure => simp [slLenV]; have := HN0.out; have := HJ2.out; omega
end
end Go.Proofs.Ytombhkekocbfoaa
namespace Go.Proofs.Ytombhkekocbfoaa
open Go.RowKit Go.Dr Go.Kd Go.St
section
variable {w : World}
set_option maxRecDepth 100000 in
set_option maxHeartbeats 2000000 in
theorem dget_f {p : Option Addr} {n cap : Nat} {B : List Int} (S : Sl .u8 w p n cap B) (hB : isBytes B) (hn1 : 1 ≤ n) (hn8 : n ≤ 8) :
    Calls Try.prog 61 #[.slice p n cap] w fun e w' => e = .returned (.tuple #[.int .u64 (getV B), .bool true]) ∧ Fr [] w w' := by
  have HS := Lib.hid S
  have HB := Lib.hid hB
  have HN := Lib.hid S.len
  clear S hB
  go_enter Try.func61, Try.ntmps61
  go_wp2_with fail
  go_loopw [4, 5] (fun v iv wy => ∃ i : Nat, i ≤ n ∧ iv = .int .i64 (i : Int) ∧ v = .int .u64 (getB (B.take i) : Nat) ∧ Hid (OwB w [] wy)) (fun _ iv _ => (n - intOf iv).toNat)
  case atStart => exact ⟨0, by omega, rfl, rfl, Lib.hid (OwB.start w)⟩
  case round =>
    obtain ⟨i, hi9, rfl, rfl, hO⟩ := hrel
    by_cases hlt : i < n
    · have hd : decide ((i : Int) < (n : Int)) = true := by rw [decide_eq_true_eq]; omega
      have hd8 : decide ((i : Int) < 8) = true := by rw [decide_eq_true_eq]; omega
      obtain ⟨b, off, cs, T, fr, rfl, f0, hs, hc⟩ := (HS.out.fr0 hO.out.fr).at hlt
      obtain ⟨x, hx⟩ : ∃ x, x = getB (B.take i) := ⟨_, rfl⟩
      rw [← hx]
      have HX := Lib.hid hx
      clear hx
      have hil : i < B.length := by rw [HN.out]; exact hlt
      have hx8 : x < 72057594037927936 := by
        rw [HX.out]
        have h1 := getB_lt i (B.take i) (by rw [List.length_take]; omega) fun y hy => HB.out y (List.mem_of_mem_take hy)
        have h2 : (256 : Nat) ^ i ≤ 256 ^ 7 := Nat.pow_le_pow_right (by omega) (by omega)
        omega
      obtain ⟨y, hy, hy2⟩ : ∃ y : Nat, el B i = (y : Int) ∧ y < 256 := ⟨(el B i).toNat, by have := el_byte HB.out hil; omega, by have := el_byte HB.out hil; omega⟩
      rw [hy] at hc
      have hc2 := (Array.getElem?_eq_some_iff.1 hc).2
      have w1 : IntKind.u64.wrap ((x : Int) * 256) = ((x * 256 : Nat) : Int) := by
        rw [IntKind.wrap_u64, Int.emod_eq_of_lt] <;> omega
      have w2 : IntKind.u64.wrap (y : Int) = (y : Int) := by
        rw [IntKind.wrap_u64, Int.emod_eq_of_lt] <;> omega
      obtain ⟨X, hX⟩ : ∃ X, X = x * 256 := ⟨_, rfl⟩
      rw [← hX] at w1
      have w3 : IntKind.u64.wrap ((X : Int) + (y : Int)) = ((X + y : Nat) : Int) := by
        rw [IntKind.wrap_u64, Int.emod_eq_of_lt] <;> omega
      have HXX := Lib.hid hX
      have HY := Lib.hid hy
      clear hX hy
      go_wp2
      go_roundw
      case rel =>
        refine ⟨i + 1, by omega, by simp, ?_, hO⟩
        rw [take_el hil, getB_snoc, ← HX.out, HY.out, HXX.out, Int.toNat_natCast]
        congr 1
      case measure => simp [intOf]; omega
    · obtain rfl : i = n := by omega
      have hd : decide ((i : Int) < (i : Int)) = false := by simp
      have d1 : decide ((i : Int) < 1) = false := by rw [decide_eq_false_iff_not]; omega
      have d2 : decide ((i : Int) > 8) = false := by rw [decide_eq_false_iff_not]; omega
      rw [List.take_of_length_le (by rw [HN.out]; exact Nat.le_refl _)]
      have e1 : getOk i = true := by unfold getOk; rw [decide_eq_true_eq]; omega
      have e2 : getV B = getB B := by unfold getV; rw [HN.out, e1, if_pos rfl]
      have HE2 := Lib.hid e2
      clear e1 e2
      go_wp2
      rw [HE2.out]
      exact bodyPost_ret (results_tmp2 rfl _ _ _) rfl ⟨rfl, hO.out.fr⟩
end
end Go.Proofs.Ytombhkekocbfoaa
namespace Go.Dr
section
variable {P : Program} {fn : Func} {R : Ending → World → Prop} {a : Act} {w : World}
theorem ret_cell_tmp2 {p ty b u v : Nat} (h : fn.results = #[.cell p ty, .tmp u, .tmp v]) (hp : a.tmps.getD p undef = .pointer (some ⟨b, 0, none⟩)) (hd : a.defers = [])
    (hR : cellRet P ty (w.blk b) (fun x => R (.returned (.tuple #[x, a.tmps.getD u undef, a.tmps.getD v undef])) w)) : bodyPost P fn R .ret a w := by
  unfold cellRet at hR
  split at hR
  · rename_i cs T fr hb
    refine bodyPost_ret (v := .tuple #[.agg cs, a.tmps.getD u undef, a.tmps.getD v undef]) ?_ hd hR.2
    have hp' : a.tmps[p]?.getD undef = .pointer (some ⟨b, 0, none⟩) := by simpa using hp
    simp [results, h, hp', asAddr, run_loadVar_agg hb hR.1]
  · exact hR.elim
end
end Go.Dr
namespace Go.Proofs.Ytombhkekocbfoaa
open Go.RowKit Go.Dr Go.Kd Go.St
def maxB (l : Bs) : Nat := l.foldl (fun m c => max m c.toNat) 0
theorem maxB_snoc (l : Bs) (c : Int) : maxB (l ++ [c]) = max (maxB l) c.toNat := by simp [maxB]
theorem maxB_zero : ∀ (l : Bs), isBytes l → (maxB l = 0 ↔ l.all (fun x => x == 0) = true) := by
  have key : ∀ (n : Nat) (l : Bs), l.length = n → isBytes l → (maxB l = 0 ↔ l.all (fun x => x == 0) = true) := by
    intro n
    induction n with
    | zero => intro l hl _; rw [List.eq_nil_of_length_eq_zero hl]; simp [maxB]
    | succ n ih =>
    intro l hl h
    rcases List.eq_nil_or_concat l with rfl | ⟨l, c, rfl⟩
    · cases hl
    rw [List.concat_eq_append] at hl h ⊢
    have h1 := ih l (by simpa using hl) (fun x hx => h x (by simp [hx]))
    have h2 := h c (by simp)
    rw [maxB_snoc, List.all_append, Bool.and_eq_true, ← h1]
    simp only [List.all_cons, List.all_nil, Bool.and_true, beq_iff_eq]
    omega
  exact fun l => key l.length l rfl
theorem maxB_lt : ∀ (l : Bs), isBytes l → maxB l < 256 := by
  have key : ∀ (n : Nat) (l : Bs), l.length = n → isBytes l → maxB l < 256 := by
    intro n
    induction n with
    | zero => intro l hl _; rw [List.eq_nil_of_length_eq_zero hl]; decide
    | succ n ih =>
      intro l hl h
      rcases List.eq_nil_or_concat l with rfl | ⟨l, c, rfl⟩
      · cases hl
      rw [List.concat_eq_append] at hl h ⊢
      have h1 := ih l (by simpa using hl) (fun x hx => h x (by simp [hx]))
      have h2 := h c (by simp)
      rw [maxB_snoc]
      omega
  exact fun l => key l.length l rfl
section
variable {w : World}
set_option maxRecDepth 100000 in
set_option maxHeartbeats 4000000 in
theorem max_f {n cap : Nat} {p : Option Addr} {l : Bs} (S : Sl .u8 w p n cap l) (hB : isBytes l) (h1 : 1 ≤ n) (hn : n ≤ 1000000) :
    Calls Try.prog 52 #[.slice p n cap] w fun en w' => en = .returned (.int .u8 (maxB l : Nat)) ∧ Fr [] w w' := by
  have HB := Lib.hid hB
  have HN := Lib.hid S.len
  obtain ⟨bb, off, cs, TT, fr, rfl, fc, hs2, hx⟩ := S.out (by omega)
  have hcell : ∀ j, j < n → cs[off + j]? = some (.int .u8 (el l j)) := fun j hj => by
    have := congrArg (fun l : List Value => l[j]?) hx
    have hlen := HN.out
    simp only [Array.getElem?_toList, List.getElem?_map] at this
    rw [Array.getElem?_extract_of_lt (by omega), ← Array.getElem?_eq_getElem] at this
    rw [this, List.getElem?_eq_getElem (by omega), el, List.getD_eq_getElem?_getD, List.getElem?_eq_getElem (by omega)]
    rfl
  have HC := Lib.hid hcell
  obtain ⟨y0, hy0⟩ : ∃ y : Nat, el l 0 = (y : Int) := ⟨(el l 0).toNat, by have := el_byte hB (i := 0) (by rw [HN.out]; omega); omega⟩
  have c0 := hcell 0 (by omega)
  rw [hy0, Nat.add_zero] at c0
  replace c0 := (Array.getElem?_eq_some_iff.1 c0).2
  have tc := World.at_lt fc
  have d1 : decide ((n : Int) < 1) = false := by rw [decide_eq_false_iff_not]; omega
  have k0 : (0 : Int) < (n : Int) := by omega
  have i0 : off < cs.size := by omega
  have hfirst : maxB (l.take 1) = y0 := by
    rw [show l.take 1 = l.take 0 ++ [el l 0] from take_el (by rw [HN.out]; omega), hy0]
    simp [maxB]
  have HF := Lib.hid hfirst
  clear S hB hx hcell hy0 hfirst
  go_enter Try.func52, Try.ntmps52
  go_wp2_with fail
  go_loopw [3, 4] (fun v iv wy => ∃ i : Nat, 1 ≤ i ∧ i ≤ n ∧ iv = .int .i64 (i : Int) ∧ v = .int .u8 (maxB (l.take i) : Nat) ∧ wy = w) (fun _ iv _ => (n - intOf iv).toNat)
  case atStart => exact ⟨1, Nat.le_refl 1, by omega, rfl, by rw [HF.out], rfl⟩
  case round =>
    obtain ⟨i, hi1, hin, rfl, rfl, rfl⟩ := hrel
    by_cases hlt : i < n
    · have hd : decide ((i : Int) < (n : Int)) = true := by rw [decide_eq_true_eq]; omega
      obtain ⟨y, hy⟩ : ∃ y : Nat, el l i = (y : Int) := ⟨(el l i).toNat, by have := el_byte HB.out (i := i) (by rw [HN.out]; omega); omega⟩
      have ci := HC.out i hlt
      rw [hy] at ci
      replace ci := (Array.getElem?_eq_some_iff.1 ci).2
      have hnext : maxB (l.take (i + 1)) = max (maxB (l.take i)) y := by
        rw [take_el (by rw [HN.out]; omega), hy, maxB_snoc, Int.toNat_natCast]
      obtain ⟨m0, hm0⟩ : ∃ m0, m0 = maxB (l.take i) := ⟨_, rfl⟩
      rw [← hm0] at hnext ⊢
      have HNX := Lib.hid hnext
      have ii : off + i < cs.size := by omega
      have ki : (i : Int) < (n : Int) := by omega
      have wi : IntKind.i64.wrap ((i : Int) + 1) = ((i + 1 : Nat) : Int) := by rw [IntKind.wrap_i64]; omega
      clear hm0 hnext hy
      go_wp2_with fail
      go_roundw
      case rel =>
        refine ⟨i + 1, by omega, hlt, by first | rfl | simp, ?_, trivial⟩
        rw [HNX.out]
        congr 1
        omega
      case measure => simp [intOf]; omega
    · obtain rfl : i = n := by omega
      have hd : decide ((i : Int) < (i : Int)) = false := by simp
      have htk : l.take i = l := List.take_of_length_le (by rw [HN.out]; exact Nat.le_refl _)
      rw [htk]
      have HFr := Lib.hid (Fr.refl [] wr)
      clear htk
      go_wp2_with fail
      exact bodyPost_ret (results_tmp rfl _ _ _) rfl ⟨rfl, HFr.out⟩
/-- A half's first block, as look tells it. -/
def LookR (o : Option (Option (Nat × Nat × Nat))) (e c n : Nat) (is ok : Bool) : Prop := match o with
  | some none => is = false ∧ ok = true
  | some (some x) => is = true ∧ ok = true ∧ x = (e, c, n)
  | none => ok = false
theorem getV_of {l : Bs} (h1 : 1 ≤ l.length) (h2 : l.length ≤ 8) : getV l = getB l := by
  unfold getV getOk
  rw [if_pos (by rw [decide_eq_true_eq]; exact ⟨h1, h2⟩)]
theorem sl_pre {W : World} {bb off cap k : Nat} {cs : Array Value} {T : TypeId} {fr : Nat × Nat} {b : Bs} {n : Nat} (hb : W.blk bb = some (.cells cs T fr)) (hs : off + n ≤ cs.size) (hx : (cs.extract off (off + n)).toList = b.map (Value.int .u8)) (hn : b.length = n) (hk : k ≤ n) (hc : n ≤ cap) :
    Sl .u8 W (some ⟨bb, off, none⟩) k cap (b.take k) := by
  refine Sl.of hb (by omega) ?_ (by omega)
  rw [List.map_take, ← hx, Array.toList_extract, Array.toList_extract, List.extract_eq_take_drop, List.extract_eq_take_drop, Nat.add_sub_cancel_left, Nat.add_sub_cancel_left, List.take_take, Nat.min_eq_left hk]
set_option maxRecDepth 100000 in
set_option maxHeartbeats 8000000 in
theorem look_f {n cap h : Nat} {p : Option Addr} {b : Bs} (T : Sl .u8 w p n cap b) (hB : isBytes b) (h64 : n = 64) (hh : h ≤ 1000000) :
    Calls Try.prog 32 #[.slice p n cap, .int .i64 (h : Int)] w fun en w' => ∃ (e c nn : Nat) (is ok : Bool), en = .returned (.tuple #[.agg #[.int .u64 (e : Int), .int .u32 (c : Int), .int .u32 (nn : Int)], .bool is, .bool ok]) ∧ LookR (lookH b h) e c nn is ok ∧ Fr [] w w' := by
  have HB := Lib.hid hB
  subst h64
  have HS := Lib.hid T
  have hbl : b.length = 64 := T.len
  have HL := Lib.hid hbl
  have hcap : 64 ≤ cap := T.cap_
  obtain ⟨bb, off, cs, TT, fr, rfl, fc, hs2, hx⟩ := T.out (by omega)
  have HX := Lib.hid hx
  have c4 : ¬ cap = 4 := by omega
  have c12 : ¬ cap = 12 := by omega
  have c16 : ¬ cap = 16 := by omega
  have s1 : Sl .u8 w (some ⟨bb, off + 4, none⟩) 8 (cap - 4) ((b.drop 4).take 8) := by
    have h := T.part (i := 4) (j := 12) (c := cap) (by omega) (by omega) (by omega) (Nat.le_refl _)
    rw [List.drop_take] at h
    simpa [Addr.add_mid, c4] using h
  have s2 : Sl .u8 w (some ⟨bb, off + 12, none⟩) 4 (cap - 12) ((b.drop 12).take 4) := by
    have h := T.part (i := 12) (j := 16) (c := cap) (by omega) (by omega) (by omega) (Nat.le_refl _)
    rw [List.drop_take] at h
    simpa [Addr.add_mid, c12] using h
  have s3 : Sl .u8 w (some ⟨bb, off + 16, none⟩) 4 (cap - 16) ((b.drop 16).take 4) := by
    have h := T.part (i := 16) (j := 20) (c := cap) (by omega) (by omega) (by omega) (Nat.le_refl _)
    rw [List.drop_take] at h
    simpa [Addr.add_mid, c16] using h
  have HS1 := Lib.hid s1
  have HS2 := Lib.hid s2
  have HS3 := Lib.hid s3
  have hby : ∀ k j, isBytes ((b.drop k).take j) := fun k j x hx => HB.out x (List.mem_of_mem_drop (List.mem_of_mem_take hx))
  have ln : ∀ k j, k + j ≤ 64 → ((b.drop k).take j).length = j := fun k j hk => by rw [List.length_take, List.length_drop]; omega
  have v1 : getV ((b.drop 4).take 8) = hE b := getV_of (by rw [ln 4 8 (by omega)]; omega) (by rw [ln 4 8 (by omega)]; omega)
  have v2 : getV ((b.drop 12).take 4) = hC b := getV_of (by rw [ln 12 4 (by omega)]; omega) (by rw [ln 12 4 (by omega)]; omega)
  have v3 : getV ((b.drop 16).take 4) = hN b := getV_of (by rw [ln 16 4 (by omega)]; omega) (by rw [ln 16 4 (by omega)]; omega)
  have b1 : hE b < 18446744073709551616 := getB_lt 8 _ (ln 4 8 (by omega)) (hby 4 8)
  have b2 : hC b < 4294967296 := getB_lt 4 _ (ln 12 4 (by omega)) (hby 12 4)
  have b3 : hN b < 4294967296 := getB_lt 4 _ (ln 16 4 (by omega)) (hby 16 4)
  have HBY := Lib.hid hby
  obtain ⟨e, he⟩ : ∃ e, e = hE b := ⟨_, rfl⟩
  obtain ⟨c, hc⟩ : ∃ c, c = hC b := ⟨_, rfl⟩
  obtain ⟨m, hm⟩ : ∃ m, m = hN b := ⟨_, rfl⟩
  rw [← he] at v1 b1
  rw [← hc] at v2 b2
  rw [← hm] at v3 b3
  have wc : IntKind.u32.wrap (c : Int) = (c : Int) := by rw [IntKind.wrap_u32]; omega
  have wm : IntKind.u32.wrap (m : Int) = (m : Int) := by rw [IntKind.wrap_u32]; omega
  have wh : IntKind.u64.wrap (h : Int) = (h : Int) := by rw [IntKind.wrap_u64]; omega
  have HV1 := Lib.hid v1
  have HV2 := Lib.hid v2
  have HV3 := Lib.hid v3
  have hlk : ∀ o, o = lookH b h → b.all (fun x => x == 0) = false → o = if b.take 24 = head24 e c m ∧ 1 ≤ m ∧ m ≤ h then some (some (e, c, m)) else none := fun o ho hz => by rw [ho, lookH, hz, he, hc, hm]; rfl
  obtain ⟨ol, hol⟩ : ∃ ol, ol = lookH b h := ⟨_, rfl⟩
  have hz0 : b.all (fun x => x == 0) = true → ol = some none := fun hz => by rw [hol, lookH, if_pos hz]
  have hlk2 := hlk ol hol
  rw [← hol]
  have HLK := Lib.hid hlk2
  have HZ0 := Lib.hid hz0
  have hcv : ∀ W : World, W.blk bb = some (.cells cs TT fr) → (convert 22 9 (.slice (some ⟨bb, off, none⟩) 24 cap)).run Try.prog W = .ok (.string (strB (b.take 24))) W := fun W hW => conv47 (sl_pre hW hs2 hx hbl (by omega) hcap)
  have FC := Lib.hid fc
  obtain ⟨X, hX⟩ : ∃ X, X = strB (b.take 24) := ⟨_, rfl⟩
  rw [← hX] at hcv
  obtain ⟨y, hy⟩ : ∃ y : Bool, y = decide (b.take 24 = head24 e c m) := ⟨_, rfl⟩
  have hbe : (X.toList == (strB (head24 e c m)).toList) = y := by
    rw [hX, beq_str (a := b.take 24) (b := head24 e c m) (by have := hby 0 24; simpa using this) (Byt.append (byt_headP e c m) (byt_putB _ _)), hy]
  have HYY := Lib.hid hy
  obtain ⟨Y, hY⟩ : ∃ Y, Y = strB (head24 e c m) := ⟨_, rfl⟩
  rw [← hY] at hbe
  have HYE := Lib.hid hY
  have HBE := Lib.hid hbe
  have HCV := Lib.hid hcv
  clear T hB hx hbl s1 s2 s3 v1 v2 v3 he hc hm hby ln hlk hlk2 hol hz0 hcv hX hy hbe hY fc
  go_enter Try.func32, Try.ntmps32
  go_upto_region 1 with (fail)
  refine named_world (A := fun X => OwB w [(w.heap.size, .cells #[.int .u64 0, .int .u32 0, .int .u32 0] 73)] X) (Q := fun X => Code.wp _ _ _ _ X) ((OwB.start w).allocN _ _ rfl) ?_
  intro V hV
  generalize w.heap.size = b4 at hV ⊢
  have HV := Lib.hid hV
  clear hV
  go_wp2_with fail
  refine (max_f (HS.out.fr0 HV.out.fr) HB.out (by omega) (by omega)).mono ?_
  rintro en w1 ⟨rfl, F1⟩
  have HW1 := Lib.hid (HV.out.call F1)
  have hz := maxB_zero b HB.out
  obtain ⟨M, hM⟩ : ∃ M, M = maxB b := ⟨_, rfl⟩
  rw [← hM] at hz ⊢
  have HZ := Lib.hid hz
  clear F1 HV hM hz
  by_cases h0 : M = 0
  · have HOL := Lib.hid (HZ0.out (HZ.out.1 h0))
    subst h0
    have f4 := HW1.out.nth 0 rfl
    have t4 := World.at_lt f4
    go_wp2_with fail
    have hf := HW1.out.set 0 (.cells #[.int .u64 0, .int .u32 0, .int .u32 0] 73) rfl
    refine ret_cell_tmp2 rfl rfl rfl ?_
    refine cellRet_of (hf.nth 0 rfl) (by kernel_rfl) ⟨0, 0, 0, false, true, rfl, ?_, hf.fr⟩
    rw [HOL.out]
    exact ⟨rfl, rfl⟩
  · have hd0 : ((M : Int) == 0) = false := by rw [beq_eq_false_iff_ne]; omega
    have hall : b.all (fun x => x == 0) = false := by
      cases h : b.all (fun x => x == 0) with
      | false => rfl
      | true => exact absurd (HZ.out.2 h) h0
    have HOL := Lib.hid (HLK.out hall)
    have k4 : (4 : Int) ≤ 12 := by omega
    have k12 : (12 : Int) ≤ (cap : Int) := by omega
    have k16 : (16 : Int) ≤ (cap : Int) := by omega
    have k20 : (20 : Int) ≤ (cap : Int) := by omega
    have k24 : (24 : Int) ≤ (cap : Int) := by omega
    clear hall h0
    go_wp2_with fail
    refine (get_f (HS1.out.fr0 HW1.out.fr) (HBY.out 4 8)).mono ?_
    rintro en w2 ⟨rfl, F2⟩
    rw [HV1.out]
    have HW2 := Lib.hid (HW1.out.call F2)
    clear F2 HW1
    go_wp2_with fail
    refine (get_f (HS2.out.fr0 HW2.out.fr) (HBY.out 12 4)).mono ?_
    rintro en w3 ⟨rfl, F3⟩
    rw [HV2.out]
    have HW3 := Lib.hid (HW2.out.call F3)
    clear F3 HW2
    go_wp2_with fail
    refine (get_f (HS3.out.fr0 HW3.out.fr) (HBY.out 16 4)).mono ?_
    rintro en w4 ⟨rfl, F4⟩
    rw [HV3.out]
    have HW4 := Lib.hid (HW3.out.call F4)
    clear F4 HW3
    obtain ⟨xs, hxs⟩ : ∃ xs : Array Value, xs = #[.int .u64 (e : Int), .int .u32 (c : Int), .int .u32 (m : Int)] := ⟨_, rfl⟩
    go_upto_region 7 with (fail)
    refine named_world (A := fun X => OwB w [(w4.heap.size, .cells xs 73), (b4, .cells #[.int .u64 0, .int .u32 0, .int .u32 0] 73)] X) (Q := fun X => Code.wp _ _ _ _ X) (by rw [hxs]; exact HW4.out.allocN _ _ rfl) ?_
    intro U hU
    generalize w4.heap.size = b13 at hU ⊢
    have HU := Lib.hid hU
    clear hU HW4
    have hsz : xs.size = 3 := by rw [hxs]; rfl
    have hon : ones xs.toList = true := by rw [hxs]; rfl
    have hxal : xs.extract 0 3 = xs := by rw [← hsz]; exact Array.extract_size
    have HXS := Lib.hid hxs
    have f13 := HU.out.nth 0 rfl
    have t13 := World.at_lt f13
    have f4 := HU.out.nth 1 rfl
    have t4 := World.at_lt f4
    have fb := HU.out.fr.get FC.out (by simp)
    have tb := World.at_lt fb
    have hcv := HCV.out
    have hk34 : ∀ W : World, Calls Try.prog 34 #[.agg xs] W fun en w' => ∃ q m' cp, en = .returned (.slice q m' cp) ∧ Bld W [] .u8 5 w' q m' cp (St.headB e c m) := fun W => by rw [hxs]; exact hbytes_f b2 b3
    have HK34 := Lib.hid hk34
    clear hxs hk34
    refine drawn_begin 21 (fun w' => w'.blk b13 = some (.cells xs 73) ∧ w'.blk bb = some (.cells cs TT fr)) (by kernel_rfl) ?_
    refine drawn_reads (fuel := 17) [0, 1, 2, 3, 4] rfl (by kernel_rfl) ⟨f13, fb⟩ ?_
    repeat (first | (refine rowK_step2 rfl rfl (fun K hK => ?_); go_wp2) | (refine rowK_step rfl (fun K hK => ?_); go_simp; refine hK _ ?_; clear hK K))
    refine rowK_nil ⟨fun w' e1 => ?_, ?_⟩
    · obtain ⟨g1, g2⟩ := e1
      clear f13 t13 f4 t4 fb tb
      have u1 := World.at_lt g1
      have u2 := World.at_lt g2
      repeat (first | (refine rowWp_step2 rfl rfl (fun K hK => ?_); go_wp2) | (refine rowWp_step rfl (fun K hK => ?_); go_simp; refine hK _ ?_; clear hK K))
      exact rowWp_nil rfl
    refine drawn_next 5 (fuel := 16) rfl (by kernel_rfl) ?_
    intro K hK
    go_wp2_with fail
    refine (HK34.out _).mono ?_
    rintro en w5 ⟨q5, m5, c5, rfl, B5⟩
    have F5 := B5.own.fr
    have HU5 := Lib.hid (HU.out.call (show Fr [] U w5 from by first | exact F5 | exact (Fr.refl [] _).drew.trans F5))
    have S5 := B5.sl
    have hm5 : m5 = 64 := by rw [← S5.len, headB_length]
    subst hm5
    have hc5 := S5.cap_
    obtain ⟨b5, o5, cs5, T5, fr5, rfl, g5, hs5, hx5⟩ := S5.out (by omega)
    have hcv5 : (convert 22 9 (.slice (some ⟨b5, o5, none⟩) 24 c5)).run Try.prog w5 = .ok (.string Y) w5 := by
      rw [HYE.out, ← (head_parts e c m).1]
      exact conv47 (sl_pre g5 hs5 hx5 (headB_length _ _ _) (by omega) hc5)
    have k5 : (24 : Int) ≤ (c5 : Int) := by omega
    clear B5 F5 S5 HU f13 t13 f4 t4 fb tb hcv hx5 g5
    have f13 := HU5.out.nth 0 rfl
    have t13 := World.at_lt f13
    have f4 := HU5.out.nth 1 rfl
    have t4 := World.at_lt f4
    have fb := HU5.out.fr.get FC.out (by simp)
    have tb := World.at_lt fb
    have n134 := HU5.out.ne 0 1 rfl rfl (by decide)
    have n413 := n134.symm
    have nb4 : bb ≠ b4 := fun h => by
      have h1 := HU5.out.low 1 rfl
      have h2 := World.at_lt FC.out
      omega
    have n4b := nb4.symm
    have hbe := HBE.out
    go_wp2_with fail
    refine ⟨⟨f13, fb⟩, ?_⟩
    refine drawn_next 6 (fuel := 15) rfl (by kernel_rfl) ?_
    intro K hK
    go_wp2_with fail
    refine ⟨⟨f13, fb⟩, ?_⟩
    refine drawn_next 7 (fuel := 14) rfl (by kernel_rfl) ?_
    intro K hK
    go_wp2_with fail
    refine ⟨⟨f13, fb⟩, ?_⟩
    refine drawn_next 8 (fuel := 13) rfl (by kernel_rfl) ?_
    intro K hK
    go_wp2_with fail
    refine ⟨⟨f13, fb⟩, ?_⟩
    refine drawn_next 9 (fuel := 12) rfl (by kernel_rfl) ?_
    intro K hK
    go_wp2_with fail
    refine ⟨⟨f13, fb⟩, ?_⟩
    clear hbe hcv5
    cases y with
    | false =>
      have hno : ¬ (b.take 24 = head24 e c m ∧ 1 ≤ m ∧ m ≤ h) := fun hh => by
        have h2 := HYY.out
        rw [decide_eq_true hh.1] at h2
        cases h2
      have hok : ol = none := by rw [HOL.out, if_neg hno]
      have HOK := Lib.hid hok
      clear hno hok
      refine drawn_reads (fuel := 3) [10, 11, 12, 13, 14, 15, 16, 17, 18] rfl (by kernel_rfl) ⟨f13, fb⟩ ?_
      repeat (first | (refine rowK_step2 rfl rfl (fun K hK => ?_); go_wp2) | (refine rowK_step rfl (fun K hK => ?_); go_simp; refine hK _ ?_; clear hK K))
      refine rowK_nil ⟨fun w' e1 => ?_, ?_⟩
      · clear f13 t13 f4 t4 fb tb
        repeat (first | (refine rowWp_step2 rfl rfl (fun K hK => ?_); go_wp2) | (refine rowWp_step rfl (fun K hK => ?_); go_simp; refine hK _ ?_; clear hK K))
        exact rowWp_nil rfl
      refine drawn_next 19 (fuel := 2) rfl (by kernel_rfl) ?_
      intro K hK
      go_wp2_with fail
      refine ⟨⟨by go_simp, by go_simp⟩, ?_⟩
      refine named_world (A := fun X => OwB w [(b13, .cells xs 73), (b4, .cells xs 73)] X ∧ X.blk bb = some (.cells cs TT fr)) (Q := fun X => Go.Dr.wpAnyS Try.prog .any _ _ _ _ _ _ _ X) ⟨by first | exact HU5.out.set 1 (.cells xs 73) rfl | exact (HU5.out.set 1 (.cells xs 73) rfl).drew | exact HU5.out.drew.set 1 (.cells xs 73) rfl, by go_simp⟩ ?_
      rintro U6 ⟨hU6, fb6⟩
      have HU6 := Lib.hid hU6
      have f136 := hU6.nth 0 rfl
      clear hU6 f13 t13 f4 t4 fb tb n134 n413 nb4 n4b
      refine drawn_next 20 (fuel := 1) rfl (by kernel_rfl) ?_
      intro K hK
      go_wp2_with fail
      refine ⟨⟨f136, fb6⟩, ?_⟩
      refine drawn_end rfl (by kernel_rfl) ?_
      intro K hK
      go_wp2_with fail
      refine ret_cell_tmp2 rfl rfl rfl ?_
      refine cellRet_of (HU6.out.nth 1 rfl) (by rw [hsz]; kernel_rfl) ⟨e, c, m, true, false, by rw [HXS.out]; rfl, ?_, HU6.out.fr⟩
      rw [HOK.out]
      exact rfl
    | true =>
      have hy1 : b.take 24 = head24 e c m := of_decide_eq_true HYY.out.symm
      have HY1 := Lib.hid hy1
      clear hy1
      by_cases h1 : 1 ≤ m
      · have d1 : decide ((m : Int) ≥ 1) = true := by rw [decide_eq_true_eq]; omega
        have d1b : decide ((1 : Int) ≤ (m : Int)) = true := by rw [decide_eq_true_eq]; omega
        by_cases h2 : m ≤ h
        · have d2 : decide ((m : Int) ≤ (h : Int)) = true := by rw [decide_eq_true_eq]; omega
          have hok : ol = some (some (e, c, m)) := by rw [HOL.out, if_pos ⟨HY1.out, h1, h2⟩]
          have HOK := Lib.hid hok
          clear hok
          refine drawn_reads (fuel := 3) [10, 11, 12, 13, 14, 15, 16, 17, 18] rfl (by kernel_rfl) ⟨f13, fb⟩ ?_
          repeat (first | (refine rowK_step2 rfl rfl (fun K hK => ?_); go_wp2) | (refine rowK_step rfl (fun K hK => ?_); go_simp; refine hK _ ?_; clear hK K))
          refine rowK_nil ⟨fun w' e1 => ?_, ?_⟩
          · clear f13 t13 f4 t4 fb tb
            repeat (first | (refine rowWp_step2 rfl rfl (fun K hK => ?_); go_wp2) | (refine rowWp_step rfl (fun K hK => ?_); go_simp; refine hK _ ?_; clear hK K))
            exact rowWp_nil rfl
          refine drawn_next 19 (fuel := 2) rfl (by kernel_rfl) ?_
          intro K hK
          go_wp2_with fail
          refine ⟨⟨by go_simp, by go_simp⟩, ?_⟩
          refine named_world (A := fun X => OwB w [(b13, .cells xs 73), (b4, .cells xs 73)] X ∧ X.blk bb = some (.cells cs TT fr)) (Q := fun X => Go.Dr.wpAnyS Try.prog .any _ _ _ _ _ _ _ X) ⟨by first | exact HU5.out.set 1 (.cells xs 73) rfl | exact (HU5.out.set 1 (.cells xs 73) rfl).drew | exact HU5.out.drew.set 1 (.cells xs 73) rfl, by go_simp⟩ ?_
          rintro U6 ⟨hU6, fb6⟩
          have HU6 := Lib.hid hU6
          have f136 := hU6.nth 0 rfl
          clear hU6 f13 t13 f4 t4 fb tb n134 n413 nb4 n4b
          refine drawn_next 20 (fuel := 1) rfl (by kernel_rfl) ?_
          intro K hK
          go_wp2_with fail
          refine ⟨⟨f136, fb6⟩, ?_⟩
          refine drawn_end rfl (by kernel_rfl) ?_
          intro K hK
          go_wp2_with fail
          refine ret_cell_tmp2 rfl rfl rfl ?_
          refine cellRet_of (HU6.out.nth 1 rfl) (by rw [hsz]; kernel_rfl) ⟨e, c, m, true, true, by rw [HXS.out]; rfl, ?_, HU6.out.fr⟩
          rw [HOK.out]
          exact ⟨rfl, rfl, rfl⟩
        · have d2 : decide ((m : Int) ≤ (h : Int)) = false := by rw [decide_eq_false_iff_not]; omega
          have hok : ol = none := by rw [HOL.out, if_neg (fun hh => h2 hh.2.2)]
          have HOK := Lib.hid hok
          clear hok
          refine drawn_reads (fuel := 3) [10, 11, 12, 13, 14, 15, 16, 17, 18] rfl (by kernel_rfl) ⟨f13, fb⟩ ?_
          repeat (first | (refine rowK_step2 rfl rfl (fun K hK => ?_); go_wp2) | (refine rowK_step rfl (fun K hK => ?_); go_simp; refine hK _ ?_; clear hK K))
          refine rowK_nil ⟨fun w' e1 => ?_, ?_⟩
          · clear f13 t13 f4 t4 fb tb
            repeat (first | (refine rowWp_step2 rfl rfl (fun K hK => ?_); go_wp2) | (refine rowWp_step rfl (fun K hK => ?_); go_simp; refine hK _ ?_; clear hK K))
            exact rowWp_nil rfl
          refine drawn_next 19 (fuel := 2) rfl (by kernel_rfl) ?_
          intro K hK
          go_wp2_with fail
          refine ⟨⟨by go_simp, by go_simp⟩, ?_⟩
          refine named_world (A := fun X => OwB w [(b13, .cells xs 73), (b4, .cells xs 73)] X ∧ X.blk bb = some (.cells cs TT fr)) (Q := fun X => Go.Dr.wpAnyS Try.prog .any _ _ _ _ _ _ _ X) ⟨by first | exact HU5.out.set 1 (.cells xs 73) rfl | exact (HU5.out.set 1 (.cells xs 73) rfl).drew | exact HU5.out.drew.set 1 (.cells xs 73) rfl, by go_simp⟩ ?_
          rintro U6 ⟨hU6, fb6⟩
          have HU6 := Lib.hid hU6
          have f136 := hU6.nth 0 rfl
          clear hU6 f13 t13 f4 t4 fb tb n134 n413 nb4 n4b
          refine drawn_next 20 (fuel := 1) rfl (by kernel_rfl) ?_
          intro K hK
          go_wp2_with fail
          refine ⟨⟨f136, fb6⟩, ?_⟩
          refine drawn_end rfl (by kernel_rfl) ?_
          intro K hK
          go_wp2_with fail
          refine ret_cell_tmp2 rfl rfl rfl ?_
          refine cellRet_of (HU6.out.nth 1 rfl) (by rw [hsz]; kernel_rfl) ⟨e, c, m, true, false, by rw [HXS.out]; rfl, ?_, HU6.out.fr⟩
          rw [HOK.out]
          exact rfl
      · have d1 : decide ((m : Int) ≥ 1) = false := by rw [decide_eq_false_iff_not]; omega
        have d1b : decide ((1 : Int) ≤ (m : Int)) = false := by rw [decide_eq_false_iff_not]; omega
        have hok : ol = none := by rw [HOL.out, if_neg (fun hh => h1 hh.2.1)]
        have HOK := Lib.hid hok
        clear hok
        refine drawn_reads (fuel := 3) [10, 11, 12, 13, 14, 15, 16, 17, 18] rfl (by kernel_rfl) ⟨f13, fb⟩ ?_
        repeat (first | (refine rowK_step2 rfl rfl (fun K hK => ?_); go_wp2) | (refine rowK_step rfl (fun K hK => ?_); go_simp; refine hK _ ?_; clear hK K))
        refine rowK_nil ⟨fun w' e1 => ?_, ?_⟩
        · clear f13 t13 f4 t4 fb tb
          repeat (first | (refine rowWp_step2 rfl rfl (fun K hK => ?_); go_wp2) | (refine rowWp_step rfl (fun K hK => ?_); go_simp; refine hK _ ?_; clear hK K))
          exact rowWp_nil rfl
        refine drawn_next 19 (fuel := 2) rfl (by kernel_rfl) ?_
        intro K hK
        go_wp2_with fail
        refine ⟨⟨by go_simp, by go_simp⟩, ?_⟩
        refine named_world (A := fun X => OwB w [(b13, .cells xs 73), (b4, .cells xs 73)] X ∧ X.blk bb = some (.cells cs TT fr)) (Q := fun X => Go.Dr.wpAnyS Try.prog .any _ _ _ _ _ _ _ X) ⟨by first | exact HU5.out.set 1 (.cells xs 73) rfl | exact (HU5.out.set 1 (.cells xs 73) rfl).drew | exact HU5.out.drew.set 1 (.cells xs 73) rfl, by go_simp⟩ ?_
        rintro U6 ⟨hU6, fb6⟩
        have HU6 := Lib.hid hU6
        have f136 := hU6.nth 0 rfl
        clear hU6 f13 t13 f4 t4 fb tb n134 n413 nb4 n4b
        refine drawn_next 20 (fuel := 1) rfl (by kernel_rfl) ?_
        intro K hK
        go_wp2_with fail
        refine ⟨⟨f136, fb6⟩, ?_⟩
        refine drawn_end rfl (by kernel_rfl) ?_
        intro K hK
        go_wp2_with fail
        refine ret_cell_tmp2 rfl rfl rfl ?_
        refine cellRet_of (HU6.out.nth 1 rfl) (by rw [hsz]; kernel_rfl) ⟨e, c, m, true, false, by rw [HXS.out]; rfl, ?_, HU6.out.fr⟩
        rw [HOK.out]
        exact rfl
end
end Go.Proofs.Ytombhkekocbfoaa
namespace Go.Proofs.Ytombhkekocbfoaa
open Go.RowKit Go.Dr Go.Kd Go.St
theorem results_tmp4 {fn : Func} {t u v x : Tmp} (h : fn.results = #[.tmp t, .tmp u, .tmp v, .tmp x]) (tmps : Array Value) (P : Program) (w : World) :
    (results fn tmps).run P w = .ok (.tuple #[tmps.getD t undef, tmps.getD u undef, tmps.getD v undef, tmps.getD x undef]) w := by
  simp [results, h]
/-- A half's first block, as the document's head tells it. -/
def DLookR (o : Option (Option (Nat × Nat × Nat))) (e c n : Nat) (st : Int) : Prop := match o with
  | some none => st = 0
  | some (some x) => st = 1 ∧ x = (e, c, n)
  | none => st = -1
section
variable {w : World}
set_option maxRecDepth 100000 in
set_option maxHeartbeats 8000000 in
theorem dlook_f {n cap h : Nat} {p : Option Addr} {b : Bs} (T : Sl .u8 w p n cap b) (hB : isBytes b) (h64 : n = 64) (hh : h ≤ 1000000) :
    Calls Try.prog 45 #[.slice p n cap, .int .i64 (h : Int)] w fun en w' => ∃ (e c nn : Nat) (st : Int), en = .returned (.tuple #[.int .u64 (e : Int), .int .i64 (c : Int), .int .i64 (nn : Int), .int .i64 st]) ∧ DLookR (lookH b h) e c nn st ∧ Fr [] w w' := by
  have HB := Lib.hid hB
  subst h64
  have HS := Lib.hid T
  have hbl : b.length = 64 := T.len
  have HL := Lib.hid hbl
  have hcap : 64 ≤ cap := T.cap_
  obtain ⟨bb, off, cs, TT, fr, rfl, fc, hs2, hx⟩ := T.out (by omega)
  have HX := Lib.hid hx
  have c4 : ¬ cap = 4 := by omega
  have c12 : ¬ cap = 12 := by omega
  have c16 : ¬ cap = 16 := by omega
  have s1 : Sl .u8 w (some ⟨bb, off + 4, none⟩) 8 (cap - 4) ((b.drop 4).take 8) := by
    have h := T.part (i := 4) (j := 12) (c := cap) (by omega) (by omega) (by omega) (Nat.le_refl _)
    rw [List.drop_take] at h
    simpa [Addr.add_mid, c4] using h
  have s2 : Sl .u8 w (some ⟨bb, off + 12, none⟩) 4 (cap - 12) ((b.drop 12).take 4) := by
    have h := T.part (i := 12) (j := 16) (c := cap) (by omega) (by omega) (by omega) (Nat.le_refl _)
    rw [List.drop_take] at h
    simpa [Addr.add_mid, c12] using h
  have s3 : Sl .u8 w (some ⟨bb, off + 16, none⟩) 4 (cap - 16) ((b.drop 16).take 4) := by
    have h := T.part (i := 16) (j := 20) (c := cap) (by omega) (by omega) (by omega) (Nat.le_refl _)
    rw [List.drop_take] at h
    simpa [Addr.add_mid, c16] using h
  have HS1 := Lib.hid s1
  have HS2 := Lib.hid s2
  have HS3 := Lib.hid s3
  have hby : ∀ k j, isBytes ((b.drop k).take j) := fun k j x hx => HB.out x (List.mem_of_mem_drop (List.mem_of_mem_take hx))
  have ln : ∀ k j, k + j ≤ 64 → ((b.drop k).take j).length = j := fun k j hk => by rw [List.length_take, List.length_drop]; omega
  have v1 : getV ((b.drop 4).take 8) = hE b := getV_of (by rw [ln 4 8 (by omega)]; omega) (by rw [ln 4 8 (by omega)]; omega)
  have v2 : getV ((b.drop 12).take 4) = hC b := getV_of (by rw [ln 12 4 (by omega)]; omega) (by rw [ln 12 4 (by omega)]; omega)
  have v3 : getV ((b.drop 16).take 4) = hN b := getV_of (by rw [ln 16 4 (by omega)]; omega) (by rw [ln 16 4 (by omega)]; omega)
  have b1 : hE b < 18446744073709551616 := getB_lt 8 _ (ln 4 8 (by omega)) (hby 4 8)
  have b2 : hC b < 4294967296 := getB_lt 4 _ (ln 12 4 (by omega)) (hby 12 4)
  have b3 : hN b < 4294967296 := getB_lt 4 _ (ln 16 4 (by omega)) (hby 16 4)
  have HBY := Lib.hid hby
  obtain ⟨e, he⟩ : ∃ e, e = hE b := ⟨_, rfl⟩
  obtain ⟨c, hc⟩ : ∃ c, c = hC b := ⟨_, rfl⟩
  obtain ⟨m, hm⟩ : ∃ m, m = hN b := ⟨_, rfl⟩
  rw [← he] at v1 b1
  rw [← hc] at v2 b2
  rw [← hm] at v3 b3
  have wc : IntKind.i64.wrap (c : Int) = (c : Int) := by rw [IntKind.wrap_i64]; omega
  have wm : IntKind.i64.wrap (m : Int) = (m : Int) := by rw [IntKind.wrap_i64]; omega
  have wh : IntKind.u64.wrap (h : Int) = (h : Int) := by rw [IntKind.wrap_u64]; omega
  have HV1 := Lib.hid v1
  have HV2 := Lib.hid v2
  have HV3 := Lib.hid v3
  have hlk : ∀ o, o = lookH b h → b.all (fun x => x == 0) = false → o = if b.take 24 = head24 e c m ∧ 1 ≤ m ∧ m ≤ h then some (some (e, c, m)) else none := fun o ho hz => by rw [ho, lookH, hz, he, hc, hm]; rfl
  obtain ⟨ol, hol⟩ : ∃ ol, ol = lookH b h := ⟨_, rfl⟩
  have hz0 : b.all (fun x => x == 0) = true → ol = some none := fun hz => by rw [hol, lookH, if_pos hz]
  have hlk2 := hlk ol hol
  rw [← hol]
  have HLK := Lib.hid hlk2
  have HZ0 := Lib.hid hz0
  have hcv : ∀ W : World, W.blk bb = some (.cells cs TT fr) → (convert 22 9 (.slice (some ⟨bb, off, none⟩) 24 cap)).run Try.prog W = .ok (.string (strB (b.take 24))) W := fun W hW => conv47 (sl_pre hW hs2 hx hbl (by omega) hcap)
  have FC := Lib.hid fc
  obtain ⟨X, hX⟩ : ∃ X, X = strB (b.take 24) := ⟨_, rfl⟩
  rw [← hX] at hcv
  obtain ⟨y, hy⟩ : ∃ y : Bool, y = decide (b.take 24 = head24 e c m) := ⟨_, rfl⟩
  obtain ⟨Y, hY⟩ : ∃ Y, Y = strB (head24 e c m) := ⟨_, rfl⟩
  have hbe : (Y.toList == X.toList) = y := by
    rw [hX, hY, beq_str (a := head24 e c m) (b := b.take 24) (Byt.append (byt_headP e c m) (byt_putB _ _)) (by have := hby 0 24; simpa using this), hy]
    exact decide_eq_decide.2 ⟨Eq.symm, Eq.symm⟩
  have HYY := Lib.hid hy
  have HYE := Lib.hid hY
  have HBE := Lib.hid hbe
  have HCV := Lib.hid hcv
  have hcell : ∀ j, j < 64 → ∃ y : Nat, el b j = (y : Int) ∧ cs[off + j]? = some (.int .u8 (y : Int)) := fun j hj => by
    obtain ⟨y, hy⟩ : ∃ y : Nat, el b j = (y : Int) := ⟨(el b j).toNat, by have := el_byte HB.out (i := j) (by rw [HL.out]; omega); omega⟩
    refine ⟨y, hy, ?_⟩
    have := congrArg (fun l : List Value => l[j]?) HX.out
    have hlen := HL.out
    simp only [Array.getElem?_toList, List.getElem?_map] at this
    rw [Array.getElem?_extract_of_lt (by omega), ← Array.getElem?_eq_getElem] at this
    rw [this, List.getElem?_eq_getElem (by omega), ← hy, el, List.getD_eq_getElem?_getD, List.getElem?_eq_getElem (by omega)]
    rfl
  have HC := Lib.hid hcell
  clear T hB hx hbl s1 s2 s3 v1 v2 v3 he hc hm hby ln hlk hlk2 hol hz0 hcv hX hy hbe hY hcell
  have tc := World.at_lt fc
  go_enter Try.func45, Try.ntmps45
  go_wp2_with fail
  go_loopw [8, 9] (fun v iv wy => ∃ i : Nat, i ≤ 64 ∧ iv = .int .i64 (i : Int) ∧ v = .bool ((b.take i).all (fun x => x == 0)) ∧ wy = w) (fun _ iv _ => (64 - intOf iv).toNat)
  case atStart => exact ⟨0, by omega, rfl, rfl, rfl⟩
  case round =>
    obtain ⟨i, hin, rfl, rfl, rfl⟩ := hrel
    by_cases hlt : i < 64
    · have hd : decide ((i : Int) < 64) = true := by rw [decide_eq_true_eq]; omega
      obtain ⟨y0, hy0, ci⟩ := HC.out i hlt
      replace ci := (Array.getElem?_eq_some_iff.1 ci).2
      have hnext : (b.take (i + 1)).all (fun x => x == 0) = ((b.take i).all (fun x => x == 0) && ((y0 : Int) == 0)) := by
        rw [take_el (by rw [HL.out]; omega), hy0, List.all_append]
        simp
      obtain ⟨m0, hm0⟩ : ∃ m0, m0 = (b.take i).all (fun x => x == 0) := ⟨_, rfl⟩
      rw [← hm0] at hnext ⊢
      have HNX := Lib.hid hnext
      have ii : off + i < cs.size := by omega
      have ki : (i : Int) < 64 := by omega
      have wi : IntKind.i64.wrap ((i : Int) + 1) = ((i + 1 : Nat) : Int) := by rw [IntKind.wrap_i64]; omega
      clear hm0 hnext hy0
      cases m0 with
      | false =>
        go_wp2_with fail
        go_roundw
        case rel => exact ⟨i + 1, hlt, by first | rfl | simp, by rw [HNX.out]; rfl, trivial⟩
        case measure => simp [intOf]; omega
      | true =>
        go_wp2_with fail
        go_roundw
        case rel => exact ⟨i + 1, hlt, by first | rfl | simp, by rw [HNX.out]; first | rfl | simp, trivial⟩
        case measure => simp [intOf]; omega
    · obtain rfl : i = 64 := by omega
      have hd : decide (((64 : Nat) : Int) < 64) = false := by decide
      have htk : b.take 64 = b := List.take_of_length_le (by rw [HL.out]; exact Nat.le_refl _)
      rw [htk]
      clear htk
      have HFr := Lib.hid (Fr.refl [] wr)
      obtain ⟨z, hz⟩ : ∃ z, z = b.all (fun x => x == 0) := ⟨_, rfl⟩
      rw [← hz]
      have HZ := Lib.hid hz
      clear hz
      cases z with
      | true =>
        have HOL := Lib.hid (HZ0.out HZ.out.symm)
        go_wp2_with fail
        refine bodyPost_ret (results_tmp4 rfl _ _ _) rfl ⟨0, 0, 0, 0, rfl, ?_, HFr.out⟩
        rw [HOL.out]
        exact rfl
      | false =>
        have HOL := Lib.hid (HLK.out HZ.out.symm)
        have k4 : (4 : Int) ≤ 12 := by omega
        have k12 : (12 : Int) ≤ (cap : Int) := by omega
        have k16 : (16 : Int) ≤ (cap : Int) := by omega
        have k20 : (20 : Int) ≤ (cap : Int) := by omega
        have k24 : (24 : Int) ≤ (cap : Int) := by omega
        go_wp2_with fail
        refine (dget_f HS1.out (HBY.out 4 8) (by omega) (by omega)).mono ?_
        rintro en w2 ⟨rfl, F2⟩
        rw [HV1.out]
        have HF2 := Lib.hid F2
        clear F2
        go_wp2_with fail
        refine (dget_f (HS2.out.fr0 HF2.out) (HBY.out 12 4) (by omega) (by omega)).mono ?_
        rintro en w3 ⟨rfl, F3⟩
        rw [HV2.out]
        have HF3 := Lib.hid (HF2.out.trans F3)
        clear F3 HF2
        go_wp2_with fail
        refine (dget_f (HS3.out.fr0 HF3.out) (HBY.out 16 4) (by omega) (by omega)).mono ?_
        rintro en w4 ⟨rfl, F4⟩
        rw [HV3.out]
        have HF4 := Lib.hid (HF3.out.trans F4)
        clear F4 HF3
        go_upto_region 11 with (fail)
        refine named_world (A := fun X => Fr [] wr X) (Q := fun X => Code.wp _ _ _ _ X) (by first | exact HF4.out | exact HF4.out.drew) ?_
        intro U hU
        have HU := Lib.hid hU
        clear hU HF4 fc tc
        have fb := HU.out.get FC.out (by simp)
        have tb := World.at_lt fb
        have hcv := HCV.out
        have hbe := HBE.out
        refine drawn_begin 20 (fun w' => w'.blk bb = some (.cells cs TT fr)) (by kernel_rfl) ?_
        refine drawn_reads (fuel := 14) [0, 1, 2, 3, 4, 8, 9, 10] rfl (by kernel_rfl) fb ?_
        repeat (first | (refine rowK_step2 rfl rfl (fun K hK => ?_); go_wp2) | (refine rowK_step rfl (fun K hK => ?_); go_simp; refine hK _ ?_; clear hK K))
        refine rowK_nil ⟨fun w' e1 => ?_, ?_⟩
        · clear fb tb hcv
          have hcv := HCV.out w' e1
          have tb := World.at_lt e1
          repeat (first | (refine rowWp_step2 rfl rfl (fun K hK => ?_); go_wp2) | (refine rowWp_step rfl (fun K hK => ?_); go_simp; refine hK _ ?_; clear hK K))
          exact rowWp_nil rfl
        refine drawn_next 5 (fuel := 13) rfl (by kernel_rfl) ?_
        intro K hK
        go_wp2_with fail
        refine (dhead_f b1 b2 b3).mono ?_
        rintro en w5 ⟨q5, c5, rfl, B5⟩
        have F5 : Fr [] U w5 := by first | exact B5.own.fr | exact (Fr.refl [] _).drew.trans B5.own.fr
        have S5 := B5.sl
        have hc5 := S5.cap_
        obtain ⟨b5, o5, cs5, T5, fr5, rfl, g5, hs5, hx5⟩ := S5.out (by omega)
        have hcv5 : (convert 22 9 (.slice (some ⟨b5, o5, none⟩) 24 c5)).run Try.prog w5 = .ok (.string Y) w5 := by
          rw [HYE.out, ← (head_parts e c m).1]
          exact conv47 (sl_pre g5 hs5 hx5 (headB_length _ _ _) (by omega) hc5)
        have k5 : (24 : Int) ≤ (c5 : Int) := by omega
        have fb5 := F5.get fb (by simp)
        have HF5 := Lib.hid (HU.out.trans F5)
        clear B5 F5 S5 fb tb hcv hx5 g5
        have tb5 := World.at_lt fb5
        go_wp2_with fail
        refine ⟨fb5, ?_⟩
        refine drawn_next 6 (fuel := 12) rfl (by kernel_rfl) ?_
        intro K hK
        go_wp2_with fail
        refine ⟨fb5, ?_⟩
        refine drawn_next 7 (fuel := 11) rfl (by kernel_rfl) ?_
        intro K hK
        go_wp2_with fail
        refine ⟨fb5, ?_⟩
        clear hcv5
        cases y with
        | false =>
          have hno : ¬ (b.take 24 = head24 e c m ∧ 1 ≤ m ∧ m ≤ h) := fun hh => by
            have h2 := HYY.out
            rw [decide_eq_true hh.1] at h2
            cases h2
          have HOK := Lib.hid (show ol = none by rw [HOL.out, if_neg hno])
          clear hno
          refine drawn_reads (fuel := 2) [11, 12, 13, 14, 15, 16, 17, 18, 19] rfl (by kernel_rfl) fb5 ?_
          repeat (first | (refine rowK_step2 rfl rfl (fun K hK => ?_); go_wp2) | (refine rowK_step rfl (fun K hK => ?_); go_simp; refine hK _ ?_; clear hK K))
          refine rowK_nil ⟨fun w' e1 => ?_, ?_⟩
          · clear fb5 tb5
            repeat (first | (refine rowWp_step2 rfl rfl (fun K hK => ?_); go_wp2) | (refine rowWp_step rfl (fun K hK => ?_); go_simp; refine hK _ ?_; clear hK K))
            exact rowWp_nil rfl
          refine drawn_end rfl (by kernel_rfl) ?_
          intro K hK
          go_wp2_with fail
          refine bodyPost_ret (results_tmp4 rfl _ _ _) rfl ⟨0, 0, 0, -1, rfl, ?_, HF5.out⟩
          rw [HOK.out]
          exact rfl
        | true =>
          have HY1 := Lib.hid (show b.take 24 = head24 e c m from of_decide_eq_true HYY.out.symm)
          by_cases h1 : m < 1
          · have d1 : decide ((m : Int) < 1) = true := by rw [decide_eq_true_eq]; omega
            have HOK := Lib.hid (show ol = none by rw [HOL.out, if_neg (fun hh => by omega)])
            refine drawn_reads (fuel := 2) [11, 12, 13, 14, 15, 16, 17, 18, 19] rfl (by kernel_rfl) fb5 ?_
            repeat (first | (refine rowK_step2 rfl rfl (fun K hK => ?_); go_wp2) | (refine rowK_step rfl (fun K hK => ?_); go_simp; refine hK _ ?_; clear hK K))
            refine rowK_nil ⟨fun w' e1 => ?_, ?_⟩
            · clear fb5 tb5
              repeat (first | (refine rowWp_step2 rfl rfl (fun K hK => ?_); go_wp2) | (refine rowWp_step rfl (fun K hK => ?_); go_simp; refine hK _ ?_; clear hK K))
              exact rowWp_nil rfl
            refine drawn_end rfl (by kernel_rfl) ?_
            intro K hK
            go_wp2_with fail
            refine bodyPost_ret (results_tmp4 rfl _ _ _) rfl ⟨0, 0, 0, -1, rfl, ?_, HF5.out⟩
            rw [HOK.out]
            exact rfl
          · have d1 : decide ((m : Int) < 1) = false := by rw [decide_eq_false_iff_not]; omega
            by_cases h2 : h < m
            · have d2 : decide ((h : Int) < (m : Int)) = true := by rw [decide_eq_true_eq]; omega
              have HOK := Lib.hid (show ol = none by rw [HOL.out, if_neg (fun hh => by omega)])
              refine drawn_reads (fuel := 2) [11, 12, 13, 14, 15, 16, 17, 18, 19] rfl (by kernel_rfl) fb5 ?_
              repeat (first | (refine rowK_step2 rfl rfl (fun K hK => ?_); go_wp2) | (refine rowK_step rfl (fun K hK => ?_); go_simp; refine hK _ ?_; clear hK K))
              refine rowK_nil ⟨fun w' e1 => ?_, ?_⟩
              · clear fb5 tb5
                repeat (first | (refine rowWp_step2 rfl rfl (fun K hK => ?_); go_wp2) | (refine rowWp_step rfl (fun K hK => ?_); go_simp; refine hK _ ?_; clear hK K))
                exact rowWp_nil rfl
              refine drawn_end rfl (by kernel_rfl) ?_
              intro K hK
              go_wp2_with fail
              refine bodyPost_ret (results_tmp4 rfl _ _ _) rfl ⟨0, 0, 0, -1, rfl, ?_, HF5.out⟩
              rw [HOK.out]
              exact rfl
            · have d2 : decide ((h : Int) < (m : Int)) = false := by rw [decide_eq_false_iff_not]; omega
              have HOK := Lib.hid (show ol = some (some (e, c, m)) by rw [HOL.out, if_pos ⟨HY1.out, by omega, by omega⟩])
              refine drawn_reads (fuel := 2) [11, 12, 13, 14, 15, 16, 17, 18, 19] rfl (by kernel_rfl) fb5 ?_
              repeat (first | (refine rowK_step2 rfl rfl (fun K hK => ?_); go_wp2) | (refine rowK_step rfl (fun K hK => ?_); go_simp; refine hK _ ?_; clear hK K))
              refine rowK_nil ⟨fun w' e1 => ?_, ?_⟩
              · clear fb5 tb5
                repeat (first | (refine rowWp_step2 rfl rfl (fun K hK => ?_); go_wp2) | (refine rowWp_step rfl (fun K hK => ?_); go_simp; refine hK _ ?_; clear hK K))
                exact rowWp_nil rfl
              refine drawn_end rfl (by kernel_rfl) ?_
              intro K hK
              go_wp2_with fail
              refine bodyPost_ret (results_tmp4 rfl _ _ _) rfl ⟨e, c, m, 1, rfl, ?_, HF5.out⟩
              rw [HOK.out]
              exact ⟨rfl, rfl⟩
end
end Go.Proofs.Ytombhkekocbfoaa
namespace Go.Proofs.Ytombhkekocbfoaa
open Go.RowKit Go.Dr Go.Kd
theorem _root_.Go.Parked.svH {N : List (Nat × Obj)} {e sz : Nat} {p : Option Addr} {n c : Nat} {vs : List Value} {W : World} (h : Parked N e sz p n c vs) (hN : Has N W) : Sv sz W p n c vs := by
  refine (h.take (L := []) (w0 := W.void) ⟨by simpa using hN, ?_, fun _ _ => Nat.zero_le _, W.void_fr⟩).sv
  rcases h with ⟨rfl, _⟩ | ⟨g, r, rfl, _⟩ <;> simp
section
variable {w : World}
set_option maxRecDepth 100000 in
set_option maxHeartbeats 2000000 in
theorem byclone_f {a : Addr} {n cap : Nat} {l : List Int} (S : Sl .u8 w (some a) n cap l) (hn : n ≤ 100000) :
    Calls Try.prog 40 #[.slice (some a) n cap] w fun e w' => ∃ q c, e = .returned (.slice q n c) ∧ Bld w [] .u8 5 w' q n c l := by
  have HS := Lib.hid S
  have hq : (binOp .eql 22 (.slice (some a) n cap) (.slice none 0 0)).run Try.prog w = .ok (.bool false) w := by
    exact Lib.run_eql_slice_nil w 22 5 (some a) n cap 0 0 Try.underlying22
  clear S
  go_enter Try.func40, Try.ntmps40
  have B : Bld w [] .u8 5 (w.alloc (.cells #[] 5)) (some ⟨w.heap.size, 0, none⟩) 0 0 [] := Bld.made (OwB.start w) 0 (by simp [maxLen])
  have HB := Lib.hid B
  clear B
  go_wp2_with (refine wpList_app47 rfl _ _ rfl rfl HB.out rfl (HS.out.fr0 HB.out.own.fr) (by omega) ?_)
  intro q c W B2
  have HB2 := Lib.hid B2
  clear B2
  go_wp2_with fail
  exact bodyPost_ret (results_tmp rfl _ _ _) rfl ⟨q, c, rfl, by simpa using HB2.out⟩
end
/-- A slice of pieces that stands in what is owned. -/
def Sly (M : List (Nat × Obj)) (q : Option Addr) (n c : Nat) (ls : List Bs) : Prop := ∃ us, ∀ W, Has M W → Sv 1 W q n c us ∧ Sls W us ls
/-- What Split answers. -/
def SplitRes (w : World) (o : Option (List Bs)) (e : Ending) (w' : World) : Prop := match o with
  | some ls => ∃ q c M, e = .returned (.tuple #[.slice q ls.length c, .int .i64 0]) ∧ OwB w M w' ∧ (∀ x ∈ M, ∃ cs T fr, x.2 = .cells cs T fr ∧ (T = 5 ∨ T = 22)) ∧ Sly M q ls.length c ls
  | none => ∃ why : Int, why ≠ 0 ∧ e = .returned (.tuple #[.slice none 0 0, .int .i64 why]) ∧ Fr [] w w'
end Go.Proofs.Ytombhkekocbfoaa
namespace Go.Proofs.Ytombhkekocbfoaa
open Go.RowKit Go.Dr Go.Kd
theorem BldV.newroom {w0 w : World} {L : List (Nat × Obj)} {e sz : Nat} {q : Option Addr} {n c : Nat} {vs : List Value} (h : BldV w0 L e sz w q n c vs) (o : Obj) : BldV w0 ((w.heap.size, o) :: L) e sz (w.alloc o) q n c vs :=
  h.add ((Fr.refl [] w).alloc _) (World.at_alloc_new _ _ _ rfl) (Nat.le_refl _)
/-- A growing row of pieces. -/
structure Gw (w0 : World) (X : List (Nat × Obj)) (w : World) (q : Option Addr) (k c : Nat) (ls : List Bs) : Prop where
  ex : ∃ (us : List Value) (M : List (Nat × Obj)), BldV w0 (M ++ X) 22 1 w q k c us ∧ ∀ W, Has M W → Sls W us ls
/-- As that, with a piece more that is not in it. -/
structure Gwp (w0 : World) (X : List (Nat × Obj)) (w : World) (q : Option Addr) (k c : Nat) (ls : List Bs) (p : Option Addr) (m d : Nat) (l : Bs) : Prop where
  ex : ∃ (us : List Value) (M : List (Nat × Obj)), BldV w0 (M ++ X) 22 1 w q k c us ∧ ∀ W, Has M W → Sls W us ls ∧ Sl .u8 W p m d l
section
variable {w0 w w' : World} {X : List (Nat × Obj)} {q p : Option Addr} {k c m d : Nat} {ls : List Bs} {l : Bs}
theorem _root_.Go.BldV.perm' {L L' : List (Nat × Obj)} {e sz : Nat} {vs : List Value} (h : BldV w0 L e sz w q k c vs) (hp : L.Perm L') : BldV w0 L' e sz w q k c vs :=
  ⟨h.own.perm hp, h.row, fun g hg => ⟨(h.new g hg).1, fun hm => (h.new g hg).2 ((hp.map Prod.fst).mem_iff.2 hm)⟩⟩
theorem Gw.call (h : Gw w0 X w q k c ls) (F : Fr [] w w') : Gw w0 X w' q k c ls := by
  obtain ⟨us, M, B, S⟩ := h.ex
  exact ⟨us, M, B.call F, S⟩
theorem Gwp.call (h : Gwp w0 X w q k c ls p m d l) (F : Fr [] w w') : Gwp w0 X w' q k c ls p m d l := by
  obtain ⟨us, M, B, S⟩ := h.ex
  exact ⟨us, M, B.call F, S⟩
theorem Gw.own (h : Gw w0 X w q k c ls) : OwB w0 X w := by
  obtain ⟨us, M, B, S⟩ := h.ex
  exact B.own.sub (List.sublist_append_right _ _)
theorem Gwp.own (h : Gwp w0 X w q k c ls p m d l) : OwB w0 X w := by
  obtain ⟨us, M, B, S⟩ := h.ex
  exact B.own.sub (List.sublist_append_right _ _)
theorem Gw.sll (h : Gw w0 X w q k c ls) : Sll w q k c ls := by
  obtain ⟨us, M, B, S⟩ := h.ex
  exact Sll.of B.sv (S w B.own.has.of_append.1)
theorem Gw.piece (h : Gw w0 X w q k c ls) (B : Bld w [] .u8 5 w' p m d l) : Gwp w0 X w' q k c ls p m d l := by
  obtain ⟨us, M, B1, S⟩ := h.ex
  obtain ⟨M2, B2, _, S2⟩ := B1.join B
  refine ⟨us, M2 ++ M, by rw [List.append_assoc]; exact B2, fun W hW => ⟨S W hW.of_append.2, S2 W hW.of_append.1⟩⟩
theorem Gw.alloc (h : Gw w0 X w q k c ls) (o : Obj) (b : Nat) (hb : b = w.heap.size) : Gw w0 ((b, o) :: X) (w.alloc o) q k c ls := by
  obtain ⟨us, M, B, S⟩ := h.ex
  subst hb
  exact ⟨us, M, (BldV.newroom B o).perm' List.perm_middle.symm, S⟩
theorem Gw.pop {b : Nat} {o : Obj} (h : Gw w0 ((b, o) :: X) w q k c ls) : Gw w0 X w q k c ls := by
  obtain ⟨us, M, B, S⟩ := h.ex
  exact ⟨us, M, B.sub (List.Sublist.append (List.Sublist.refl _) (List.sublist_cons_self _ _)), S⟩
theorem Gw.none (h : Gw w0 X w q k c ls) : Gwp w0 X w q k c ls none 0 0 [] := by
  obtain ⟨us, M, B, S⟩ := h.ex
  exact ⟨us, M, B, fun W hW => ⟨S W hW, ⟨rfl, Nat.le_refl 0, .inl rfl, fun _ => rfl, by simp⟩⟩⟩
theorem Gw.made {M : List (Nat × Obj)} {b : Nat} {us : List Value} (h : OwB w0 ((b, .cells us.toArray 22 (0, 0)) :: (M ++ X)) w) (hl : us.length = k) (hk : k ≤ 1000000) (S : ∀ W, Has M W → Sls W us ls) : Gw w0 X w (some ⟨b, 0, .none⟩) k k ls := by
  refine ⟨us, M, BldV.of (r := #[]) (by simpa [rowV] using h) (by omega) (by simp; omega) (Nat.le_refl _) (Nat.le_trans hk (by decide)), S⟩
variable {ops : Array Oper} {rest : List Oper} {o : Oper} {a : Act} {Q : Exit → Act → World → Prop}
theorem wpList_gw (hgd : o.guard = none) (s x : Operand) (ho : o.op = .call { callee := .builtin .append, args := #[s, x], argTypes := #[46, 46] })
    (hs : a.eval s = .slice q k c) {b : Nat} (hx : a.eval x = .slice (some ⟨b, 0, none⟩) 1 1) {fr : Nat × Nat} (G : Gwp w0 X w q k c ls p m d l) (hb : w.blk b = some (.cells #[.slice p m d] 22 fr)) (hbig : k + 1 ≤ 1000000)
    (h : ∀ q' c' w', Gw w0 X w' q' (k + 1) c' (ls ++ [l]) → wpList Try.prog ops Q rest (a.put o.dst (.slice q' (k + 1) c')) w') : wpList Try.prog ops Q (o :: rest) a w := by
  obtain ⟨us, M, B, S⟩ := G.ex
  refine wpList_app86 hgd s x ho hs B hx (Sv.one hb) (by simp [Value.oneCell']) hbig fun q' c' w' B' => h q' c' w' ⟨us ++ [.slice p m d], M, B', fun W hW => ?_⟩
  exact (S W hW).1.append (.cons (S W hW).2 .nil)
end
end Go.Proofs.Ytombhkekocbfoaa
