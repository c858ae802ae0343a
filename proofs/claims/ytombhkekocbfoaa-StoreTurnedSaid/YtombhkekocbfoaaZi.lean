/- Joined: SoZb, PkD, PkT, SoE, SoF, DkA, DkB. -/
import Derived.Test.YtombhkekocbfoaaZh
import Derived.Test.YtombhkekocbfoaaZf
import Derived.Test.YtombhkekocbfoaaZg
import Derived.Laws.IdiomStrings
import Derived.Test.YtombhkekocbfoaaRows
import Derived.Test.YtombhkekocbfoaaZb
import Derived.Test.YtombhkekocbfoaaZe
set_option linter.unusedVariables false
set_option linter.unusedSimpArgs false
namespace Go.Proofs.Ytombhkekocbfoaa
open Go.RowKit Go.Dr Go.Kd Go.St
theorem results_tmp4 {fn : Func} {t u v x : Tmp} (h : fn.results = #[.tmp t, .tmp u, .tmp v, .tmp x]) (tmps : Array Value) (P : Program) (w : World) :
    (results fn tmps).run P w = .ok (.tuple #[tmps.getD t undef, tmps.getD u undef, tmps.getD v undef, tmps.getD x undef]) w := by
  simp [results, h]
/-- A half's first block, as the document's head tells it. -/
def DLookR (o : Option (Option (Nat × Nat × Nat))) (e c n : Nat) (st : Int) : Prop := match o with
  | some none => st = 0
  | some (some x) => st = 1 ∧ x = (e, c, n)
  | none => st = -1
section
variable {w : World}
set_option maxRecDepth 100000 in
set_option maxHeartbeats 8000000 in
theorem dlook_f {n cap h : Nat} {p : Option Addr} {b : Bs} (T : Sl .u8 w p n cap b) (hB : isBytes b) (h64 : n = 64) (hh : h ≤ 1000000) :
    Calls Try.prog 45 #[.slice p n cap, .int .i64 (h : Int)] w fun en w' => ∃ (e c nn : Nat) (st : Int), en = .returned (.tuple #[.int .u64 (e : Int), .int .i64 (c : Int), .int .i64 (nn : Int), .int .i64 st]) ∧ DLookR (lookH b h) e c nn st ∧ Fr [] w w' := by
  have HB := Lib.hid hB
  subst h64
  have HS := Lib.hid T
  have hbl : b.length = 64 := T.len
  have HL := Lib.hid hbl
  have hcap : 64 ≤ cap := T.cap_
  obtain ⟨bb, off, cs, TT, fr, rfl, fc, hs2, hx⟩ := T.out (by omega)
  have HX := Lib.hid hx
  have c4 : ¬ cap = 4 := by omega
  have c12 : ¬ cap = 12 := by omega
  have c16 : ¬ cap = 16 := by omega
  have s1 : Sl .u8 w (some ⟨bb, off + 4, none⟩) 8 (cap - 4) ((b.drop 4).take 8) := by
    have h := T.part (i := 4) (j := 12) (c := cap) (by omega) (by omega) (by omega) (Nat.le_refl _)
    rw [List.drop_take] at h
    simpa [Addr.add_mid, c4] using h
  have s2 : Sl .u8 w (some ⟨bb, off + 12, none⟩) 4 (cap - 12) ((b.drop 12).take 4) := by
    have h := T.part (i := 12) (j := 16) (c := cap) (by omega) (by omega) (by omega) (Nat.le_refl _)
    rw [List.drop_take] at h
    simpa [Addr.add_mid, c12] using h
  have s3 : Sl .u8 w (some ⟨bb, off + 16, none⟩) 4 (cap - 16) ((b.drop 16).take 4) := by
    have h := T.part (i := 16) (j := 20) (c := cap) (by omega) (by omega) (by omega) (Nat.le_refl _)
    rw [List.drop_take] at h
    simpa [Addr.add_mid, c16] using h
  have HS1 := Lib.hid s1
  have HS2 := Lib.hid s2
  have HS3 := Lib.hid s3
  have hby : ∀ k j, isBytes ((b.drop k).take j) := fun k j x hx => HB.out x (List.mem_of_mem_drop (List.mem_of_mem_take hx))
  have ln : ∀ k j, k + j ≤ 64 → ((b.drop k).take j).length = j := fun k j hk => by rw [List.length_take, List.length_drop]; omega
  have v1 : getV ((b.drop 4).take 8) = hE b := getV_of (by rw [ln 4 8 (by omega)]; omega) (by rw [ln 4 8 (by omega)]; omega)
  have v2 : getV ((b.drop 12).take 4) = hC b := getV_of (by rw [ln 12 4 (by omega)]; omega) (by rw [ln 12 4 (by omega)]; omega)
  have v3 : getV ((b.drop 16).take 4) = hN b := getV_of (by rw [ln 16 4 (by omega)]; omega) (by rw [ln 16 4 (by omega)]; omega)
  have b1 : hE b < 18446744073709551616 := getB_lt 8 _ (ln 4 8 (by omega)) (hby 4 8)
  have b2 : hC b < 4294967296 := getB_lt 4 _ (ln 12 4 (by omega)) (hby 12 4)
  have b3 : hN b < 4294967296 := getB_lt 4 _ (ln 16 4 (by omega)) (hby 16 4)
  have HBY := Lib.hid hby
  obtain ⟨e, he⟩ : ∃ e, e = hE b := ⟨_, rfl⟩
  obtain ⟨c, hc⟩ : ∃ c, c = hC b := ⟨_, rfl⟩
  obtain ⟨m, hm⟩ : ∃ m, m = hN b := ⟨_, rfl⟩
  rw [← he] at v1 b1
  rw [← hc] at v2 b2
  rw [← hm] at v3 b3
  have wc : IntKind.i64.wrap (c : Int) = (c : Int) := by rw [IntKind.wrap_i64]; omega
  have wm : IntKind.i64.wrap (m : Int) = (m : Int) := by rw [IntKind.wrap_i64]; omega
  have wh : IntKind.u64.wrap (h : Int) = (h : Int) := by rw [IntKind.wrap_u64]; omega
  have HV1 := Lib.hid v1
  have HV2 := Lib.hid v2
  have HV3 := Lib.hid v3
  have hlk : ∀ o, o = lookH b h → b.all (fun x => x == 0) = false → o = if b.take 24 = head24 e c m ∧ 1 ≤ m ∧ m ≤ h then some (some (e, c, m)) else none := fun o ho hz => by rw [ho, lookH, hz, he, hc, hm]; rfl
  obtain ⟨ol, hol⟩ : ∃ ol, ol = lookH b h := ⟨_, rfl⟩
  have hz0 : b.all (fun x => x == 0) = true → ol = some none := fun hz => by rw [hol, lookH, if_pos hz]
  have hlk2 := hlk ol hol
  rw [← hol]
  have HLK := Lib.hid hlk2
  have HZ0 := Lib.hid hz0
  have hcv : ∀ W : World, W.blk bb = some (.cells cs TT fr) → (convert 22 9 (.slice (some ⟨bb, off, none⟩) 24 cap)).run Try.prog W = .ok (.string (strB (b.take 24))) W := fun W hW => conv47 (sl_pre hW hs2 hx hbl (by omega) hcap)
  have FC := Lib.hid fc
  obtain ⟨X, hX⟩ : ∃ X, X = strB (b.take 24) := ⟨_, rfl⟩
  rw [← hX] at hcv
  obtain ⟨y, hy⟩ : ∃ y : Bool, y = decide (b.take 24 = head24 e c m) := ⟨_, rfl⟩
  obtain ⟨Y, hY⟩ : ∃ Y, Y = strB (head24 e c m) := ⟨_, rfl⟩
  have hbe : (Y.toList == X.toList) = y := by
    rw [hX, hY, beq_str (a := head24 e c m) (b := b.take 24) (Byt.append (byt_headP e c m) (byt_putB _ _)) (by have := hby 0 24; simpa using this), hy]
    exact decide_eq_decide.2 ⟨Eq.symm, Eq.symm⟩
  have HYY := Lib.hid hy
  have HYE := Lib.hid hY
  have HBE := Lib.hid hbe
  have HCV := Lib.hid hcv
  have hcell : ∀ j, j < 64 → ∃ y : Nat, el b j = (y : Int) ∧ cs[off + j]? = some (.int .u8 (y : Int)) := fun j hj => by
    obtain ⟨y, hy⟩ : ∃ y : Nat, el b j = (y : Int) := ⟨(el b j).toNat, by have := el_byte HB.out (i := j) (by rw [HL.out]; omega); omega⟩
    refine ⟨y, hy, ?_⟩
    have := congrArg (fun l : List Value => l[j]?) HX.out
    have hlen := HL.out
    simp only [Array.getElem?_toList, List.getElem?_map] at this
    rw [Array.getElem?_extract_of_lt (by omega), ← Array.getElem?_eq_getElem] at this
    rw [this, List.getElem?_eq_getElem (by omega), ← hy, el, List.getD_eq_getElem?_getD, List.getElem?_eq_getElem (by omega)]
    rfl
  have HC := Lib.hid hcell
  clear T hB hx hbl s1 s2 s3 v1 v2 v3 he hc hm hby ln hlk hlk2 hol hz0 hcv hX hy hbe hY hcell
  have tc := World.at_lt fc
  go_enter Try.func45, Try.ntmps45
  go_wp2_with fail
  go_loopw [8, 9] (fun v iv wy => ∃ i : Nat, i ≤ 64 ∧ iv = .int .i64 (i : Int) ∧ v = .bool ((b.take i).all (fun x => x == 0)) ∧ wy = w) (fun _ iv _ => (64 - intOf iv).toNat)
  case atStart => exact ⟨0, by omega, rfl, rfl, rfl⟩
  case round =>
    obtain ⟨i, hin, rfl, rfl, rfl⟩ := hrel
    by_cases hlt : i < 64
    · have hd : decide ((i : Int) < 64) = true := by rw [decide_eq_true_eq]; omega
      obtain ⟨y0, hy0, ci⟩ := HC.out i hlt
      replace ci := (Array.getElem?_eq_some_iff.1 ci).2
      have hnext : (b.take (i + 1)).all (fun x => x == 0) = ((b.take i).all (fun x => x == 0) && ((y0 : Int) == 0)) := by
        rw [take_el (by rw [HL.out]; omega), hy0, List.all_append]
        simp
      obtain ⟨m0, hm0⟩ : ∃ m0, m0 = (b.take i).all (fun x => x == 0) := ⟨_, rfl⟩
      rw [← hm0] at hnext ⊢
      have HNX := Lib.hid hnext
      have ii : off + i < cs.size := by omega
      have ki : (i : Int) < 64 := by omega
      have wi : IntKind.i64.wrap ((i : Int) + 1) = ((i + 1 : Nat) : Int) := by rw [IntKind.wrap_i64]; omega
      clear hm0 hnext hy0
      cases m0 with
      | false =>
        go_wp2_with fail
        go_roundw
        case rel => exact ⟨i + 1, hlt, by first | rfl | simp, by rw [HNX.out]; rfl, trivial⟩
        case measure => simp [intOf]; omega
      | true =>
        go_wp2_with fail
        go_roundw
        case rel => exact ⟨i + 1, hlt, by first | rfl | simp, by rw [HNX.out]; first | rfl | simp, trivial⟩
        case measure => simp [intOf]; omega
    · obtain rfl : i = 64 := by omega
      have hd : decide (((64 : Nat) : Int) < 64) = false := by decide
      have htk : b.take 64 = b := List.take_of_length_le (by rw [HL.out]; exact Nat.le_refl _)
      rw [htk]
      clear htk
      have HFr := Lib.hid (Fr.refl [] wr)
      obtain ⟨z, hz⟩ : ∃ z, z = b.all (fun x => x == 0) := ⟨_, rfl⟩
      rw [← hz]
      have HZ := Lib.hid hz
      clear hz
      cases z with
      | true =>
        have HOL := Lib.hid (HZ0.out HZ.out.symm)
        go_wp2_with fail
        refine bodyPost_ret (results_tmp4 rfl _ _ _) rfl ⟨0, 0, 0, 0, rfl, ?_, HFr.out⟩
        rw [HOL.out]
        exact rfl
      | false =>
        have HOL := Lib.hid (HLK.out HZ.out.symm)
        have k4 : (4 : Int) ≤ 12 := by omega
        have k12 : (12 : Int) ≤ (cap : Int) := by omega
        have k16 : (16 : Int) ≤ (cap : Int) := by omega
        have k20 : (20 : Int) ≤ (cap : Int) := by omega
        have k24 : (24 : Int) ≤ (cap : Int) := by omega
        go_wp2_with fail
        refine (dget_f HS1.out (HBY.out 4 8) (by omega) (by omega)).mono ?_
        rintro en w2 ⟨rfl, F2⟩
        rw [HV1.out]
        have HF2 := Lib.hid F2
        clear F2
        go_wp2_with fail
        refine (dget_f (HS2.out.fr0 HF2.out) (HBY.out 12 4) (by omega) (by omega)).mono ?_
        rintro en w3 ⟨rfl, F3⟩
        rw [HV2.out]
        have HF3 := Lib.hid (HF2.out.trans F3)
        clear F3 HF2
        go_wp2_with fail
        refine (dget_f (HS3.out.fr0 HF3.out) (HBY.out 16 4) (by omega) (by omega)).mono ?_
        rintro en w4 ⟨rfl, F4⟩
        rw [HV3.out]
        have HF4 := Lib.hid (HF3.out.trans F4)
        clear F4 HF3
        go_upto_region 11 with (fail)
        refine named_world (A := fun X => Fr [] wr X) (Q := fun X => Code.wp _ _ _ _ X) (by first | exact HF4.out | exact HF4.out.drew) ?_
        intro U hU
        have HU := Lib.hid hU
        clear hU HF4 fc tc
        have fb := HU.out.get FC.out (by simp)
        have tb := World.at_lt fb
        have hcv := HCV.out
        have hbe := HBE.out
        refine drawn_begin 20 (fun w' => w'.blk bb = some (.cells cs TT fr)) (by kernel_rfl) ?_
        refine drawn_reads (fuel := 14) [0, 1, 2, 3, 4, 8, 9, 10] rfl (by kernel_rfl) fb ?_
        repeat (first | (refine rowK_step2 rfl rfl (fun K hK => ?_); go_wp2) | (refine rowK_step rfl (fun K hK => ?_); go_simp; refine hK _ ?_; clear hK K))
        refine rowK_nil ⟨fun w' e1 => ?_, ?_⟩
        · clear fb tb hcv
          have hcv := HCV.out w' e1
          have tb := World.at_lt e1
          repeat (first | (refine rowWp_step2 rfl rfl (fun K hK => ?_); go_wp2) | (refine rowWp_step rfl (fun K hK => ?_); go_simp; refine hK _ ?_; clear hK K))
          exact rowWp_nil rfl
        refine drawn_next 5 (fuel := 13) rfl (by kernel_rfl) ?_
        intro K hK
        go_wp2_with fail
        refine (dhead_f b1 b2 b3).mono ?_
        rintro en w5 ⟨q5, c5, rfl, B5⟩
        have F5 : Fr [] U w5 := by first | exact B5.own.fr | exact (Fr.refl [] _).drew.trans B5.own.fr
        have S5 := B5.sl
        have hc5 := S5.cap_
        obtain ⟨b5, o5, cs5, T5, fr5, rfl, g5, hs5, hx5⟩ := S5.out (by omega)
        have hcv5 : (convert 22 9 (.slice (some ⟨b5, o5, none⟩) 24 c5)).run Try.prog w5 = .ok (.string Y) w5 := by
          rw [HYE.out, ← (head_parts e c m).1]
          exact conv47 (sl_pre g5 hs5 hx5 (headB_length _ _ _) (by omega) hc5)
        have k5 : (24 : Int) ≤ (c5 : Int) := by omega
        have fb5 := F5.get fb (by simp)
        have HF5 := Lib.hid (HU.out.trans F5)
        clear B5 F5 S5 fb tb hcv hx5 g5
        have tb5 := World.at_lt fb5
        go_wp2_with fail
        refine ⟨fb5, ?_⟩
        refine drawn_next 6 (fuel := 12) rfl (by kernel_rfl) ?_
        intro K hK
        go_wp2_with fail
        refine ⟨fb5, ?_⟩
        refine drawn_next 7 (fuel := 11) rfl (by kernel_rfl) ?_
        intro K hK
        go_wp2_with fail
        refine ⟨fb5, ?_⟩
        clear hcv5
        cases y with
        | false =>
          have hno : ¬ (b.take 24 = head24 e c m ∧ 1 ≤ m ∧ m ≤ h) := fun hh => by
            have h2 := HYY.out
            rw [decide_eq_true hh.1] at h2
            cases h2
          have HOK := Lib.hid (show ol = none by rw [HOL.out, if_neg hno])
          clear hno
          refine drawn_reads (fuel := 2) [11, 12, 13, 14, 15, 16, 17, 18, 19] rfl (by kernel_rfl) fb5 ?_
          repeat (first | (refine rowK_step2 rfl rfl (fun K hK => ?_); go_wp2) | (refine rowK_step rfl (fun K hK => ?_); go_simp; refine hK _ ?_; clear hK K))
          refine rowK_nil ⟨fun w' e1 => ?_, ?_⟩
          · clear fb5 tb5
            repeat (first | (refine rowWp_step2 rfl rfl (fun K hK => ?_); go_wp2) | (refine rowWp_step rfl (fun K hK => ?_); go_simp; refine hK _ ?_; clear hK K))
            exact rowWp_nil rfl
          refine drawn_end rfl (by kernel_rfl) ?_
          intro K hK
          go_wp2_with fail
          refine bodyPost_ret (results_tmp4 rfl _ _ _) rfl ⟨0, 0, 0, -1, rfl, ?_, HF5.out⟩
          rw [HOK.out]
          exact rfl
        | true =>
          have HY1 := Lib.hid (show b.take 24 = head24 e c m from of_decide_eq_true HYY.out.symm)
          by_cases h1 : m < 1
          · have d1 : decide ((m : Int) < 1) = true := by rw [decide_eq_true_eq]; omega
            have HOK := Lib.hid (show ol = none by rw [HOL.out, if_neg (fun hh => by omega)])
            refine drawn_reads (fuel := 2) [11, 12, 13, 14, 15, 16, 17, 18, 19] rfl (by kernel_rfl) fb5 ?_
            repeat (first | (refine rowK_step2 rfl rfl (fun K hK => ?_); go_wp2) | (refine rowK_step rfl (fun K hK => ?_); go_simp; refine hK _ ?_; clear hK K))
            refine rowK_nil ⟨fun w' e1 => ?_, ?_⟩
            · clear fb5 tb5
              repeat (first | (refine rowWp_step2 rfl rfl (fun K hK => ?_); go_wp2) | (refine rowWp_step rfl (fun K hK => ?_); go_simp; refine hK _ ?_; clear hK K))
              exact rowWp_nil rfl
            refine drawn_end rfl (by kernel_rfl) ?_
            intro K hK
            go_wp2_with fail
            refine bodyPost_ret (results_tmp4 rfl _ _ _) rfl ⟨0, 0, 0, -1, rfl, ?_, HF5.out⟩
            rw [HOK.out]
            exact rfl
          · have d1 : decide ((m : Int) < 1) = false := by rw [decide_eq_false_iff_not]; omega
            by_cases h2 : h < m
            · have d2 : decide ((h : Int) < (m : Int)) = true := by rw [decide_eq_true_eq]; omega
              have HOK := Lib.hid (show ol = none by rw [HOL.out, if_neg (fun hh => by omega)])
              refine drawn_reads (fuel := 2) [11, 12, 13, 14, 15, 16, 17, 18, 19] rfl (by kernel_rfl) fb5 ?_
              repeat (first | (refine rowK_step2 rfl rfl (fun K hK => ?_); go_wp2) | (refine rowK_step rfl (fun K hK => ?_); go_simp; refine hK _ ?_; clear hK K))
              refine rowK_nil ⟨fun w' e1 => ?_, ?_⟩
              · clear fb5 tb5
                repeat (first | (refine rowWp_step2 rfl rfl (fun K hK => ?_); go_wp2) | (refine rowWp_step rfl (fun K hK => ?_); go_simp; refine hK _ ?_; clear hK K))
                exact rowWp_nil rfl
              refine drawn_end rfl (by kernel_rfl) ?_
              intro K hK
              go_wp2_with fail
              refine bodyPost_ret (results_tmp4 rfl _ _ _) rfl ⟨0, 0, 0, -1, rfl, ?_, HF5.out⟩
              rw [HOK.out]
              exact rfl
            · have d2 : decide ((h : Int) < (m : Int)) = false := by rw [decide_eq_false_iff_not]; omega
              have HOK := Lib.hid (show ol = some (some (e, c, m)) by rw [HOL.out, if_pos ⟨HY1.out, by omega, by omega⟩])
              refine drawn_reads (fuel := 2) [11, 12, 13, 14, 15, 16, 17, 18, 19] rfl (by kernel_rfl) fb5 ?_
              repeat (first | (refine rowK_step2 rfl rfl (fun K hK => ?_); go_wp2) | (refine rowK_step rfl (fun K hK => ?_); go_simp; refine hK _ ?_; clear hK K))
              refine rowK_nil ⟨fun w' e1 => ?_, ?_⟩
              · clear fb5 tb5
                repeat (first | (refine rowWp_step2 rfl rfl (fun K hK => ?_); go_wp2) | (refine rowWp_step rfl (fun K hK => ?_); go_simp; refine hK _ ?_; clear hK K))
                exact rowWp_nil rfl
              refine drawn_end rfl (by kernel_rfl) ?_
              intro K hK
              go_wp2_with fail
              refine bodyPost_ret (results_tmp4 rfl _ _ _) rfl ⟨e, c, m, 1, rfl, ?_, HF5.out⟩
              rw [HOK.out]
              exact ⟨rfl, rfl⟩
end
end Go.Proofs.Ytombhkekocbfoaa
namespace Go.Proofs.Ytombhkekocbfoaa
open Go.RowKit Go.Dr Go.Kd
theorem _root_.Go.Parked.svH {N : List (Nat × Obj)} {e sz : Nat} {p : Option Addr} {n c : Nat} {vs : List Value} {W : World} (h : Parked N e sz p n c vs) (hN : Has N W) : Sv sz W p n c vs := by
  refine (h.take (L := []) (w0 := W.void) ⟨by simpa using hN, ?_, fun _ _ => Nat.zero_le _, W.void_fr⟩).sv
  rcases h with ⟨rfl, _⟩ | ⟨g, r, rfl, _⟩ <;> simp
section
variable {w : World}
set_option maxRecDepth 100000 in
set_option maxHeartbeats 2000000 in
theorem byclone_f {a : Addr} {n cap : Nat} {l : List Int} (S : Sl .u8 w (some a) n cap l) (hn : n ≤ 100000) :
    Calls Try.prog 40 #[.slice (some a) n cap] w fun e w' => ∃ q c, e = .returned (.slice q n c) ∧ Bld w [] .u8 5 w' q n c l := by
  have HS := Lib.hid S
  have hq : (binOp .eql 22 (.slice (some a) n cap) (.slice none 0 0)).run Try.prog w = .ok (.bool false) w := by
    exact Lib.run_eql_slice_nil w 22 5 (some a) n cap 0 0 Try.underlying22
  clear S
  go_enter Try.func40, Try.ntmps40
  have B : Bld w [] .u8 5 (w.alloc (.cells #[] 5)) (some ⟨w.heap.size, 0, none⟩) 0 0 [] := Bld.made (OwB.start w) 0 (by simp [maxLen])
  have HB := Lib.hid B
  clear B
  go_wp2_with (refine wpList_app47 rfl _ _ rfl rfl HB.out rfl (HS.out.fr0 HB.out.own.fr) (by omega) ?_)
  intro q c W B2
  have HB2 := Lib.hid B2
  clear B2
  go_wp2_with fail
  exact bodyPost_ret (results_tmp rfl _ _ _) rfl ⟨q, c, rfl, by simpa using HB2.out⟩
end
/-- A slice of pieces that stands in what is owned. -/
def Sly (M : List (Nat × Obj)) (q : Option Addr) (n c : Nat) (ls : List Bs) : Prop := ∃ us, ∀ W, Has M W → Sv 1 W q n c us ∧ Sls W us ls
/-- What Split answers. -/
def SplitRes (w : World) (o : Option (List Bs)) (e : Ending) (w' : World) : Prop := match o with
  | some ls => ∃ q c M, e = .returned (.tuple #[.slice q ls.length c, .int .i64 0]) ∧ OwB w M w' ∧ (∀ x ∈ M, ∃ cs T fr, x.2 = .cells cs T fr ∧ (T = 5 ∨ T = 22)) ∧ Sly M q ls.length c ls
  | none => ∃ why : Int, why ≠ 0 ∧ e = .returned (.tuple #[.slice none 0 0, .int .i64 why]) ∧ Fr [] w w'
end Go.Proofs.Ytombhkekocbfoaa
namespace Go.Proofs.Ytombhkekocbfoaa
open Go.RowKit Go.Dr Go.Kd
theorem BldV.newroom {w0 w : World} {L : List (Nat × Obj)} {e sz : Nat} {q : Option Addr} {n c : Nat} {vs : List Value} (h : BldV w0 L e sz w q n c vs) (o : Obj) : BldV w0 ((w.heap.size, o) :: L) e sz (w.alloc o) q n c vs :=
  h.add ((Fr.refl [] w).alloc _) (World.at_alloc_new _ _ _ rfl) (Nat.le_refl _)
/-- A growing row of pieces. -/
structure Gw (w0 : World) (X : List (Nat × Obj)) (w : World) (q : Option Addr) (k c : Nat) (ls : List Bs) : Prop where
  ex : ∃ (us : List Value) (M : List (Nat × Obj)), BldV w0 (M ++ X) 22 1 w q k c us ∧ ∀ W, Has M W → Sls W us ls
/-- As that, with a piece more that is not in it. -/
structure Gwp (w0 : World) (X : List (Nat × Obj)) (w : World) (q : Option Addr) (k c : Nat) (ls : List Bs) (p : Option Addr) (m d : Nat) (l : Bs) : Prop where
  ex : ∃ (us : List Value) (M : List (Nat × Obj)), BldV w0 (M ++ X) 22 1 w q k c us ∧ ∀ W, Has M W → Sls W us ls ∧ Sl .u8 W p m d l
section
variable {w0 w w' : World} {X : List (Nat × Obj)} {q p : Option Addr} {k c m d : Nat} {ls : List Bs} {l : Bs}
theorem _root_.Go.BldV.perm' {L L' : List (Nat × Obj)} {e sz : Nat} {vs : List Value} (h : BldV w0 L e sz w q k c vs) (hp : L.Perm L') : BldV w0 L' e sz w q k c vs :=
  ⟨h.own.perm hp, h.row, fun g hg => ⟨(h.new g hg).1, fun hm => (h.new g hg).2 ((hp.map Prod.fst).mem_iff.2 hm)⟩⟩
theorem Gw.call (h : Gw w0 X w q k c ls) (F : Fr [] w w') : Gw w0 X w' q k c ls := by
  obtain ⟨us, M, B, S⟩ := h.ex
  exact ⟨us, M, B.call F, S⟩
theorem Gwp.call (h : Gwp w0 X w q k c ls p m d l) (F : Fr [] w w') : Gwp w0 X w' q k c ls p m d l := by
  obtain ⟨us, M, B, S⟩ := h.ex
  exact ⟨us, M, B.call F, S⟩
theorem Gw.own (h : Gw w0 X w q k c ls) : OwB w0 X w := by
  obtain ⟨us, M, B, S⟩ := h.ex
  exact B.own.sub (List.sublist_append_right _ _)
theorem Gwp.own (h : Gwp w0 X w q k c ls p m d l) : OwB w0 X w := by
  obtain ⟨us, M, B, S⟩ := h.ex
  exact B.own.sub (List.sublist_append_right _ _)
theorem Gw.sll (h : Gw w0 X w q k c ls) : Sll w q k c ls := by
  obtain ⟨us, M, B, S⟩ := h.ex
  exact Sll.of B.sv (S w B.own.has.of_append.1)
theorem Gw.piece (h : Gw w0 X w q k c ls) (B : Bld w [] .u8 5 w' p m d l) : Gwp w0 X w' q k c ls p m d l := by
  obtain ⟨us, M, B1, S⟩ := h.ex
  obtain ⟨M2, B2, _, S2⟩ := B1.join B
  refine ⟨us, M2 ++ M, by rw [List.append_assoc]; exact B2, fun W hW => ⟨S W hW.of_append.2, S2 W hW.of_append.1⟩⟩
theorem Gw.alloc (h : Gw w0 X w q k c ls) (o : Obj) (b : Nat) (hb : b = w.heap.size) : Gw w0 ((b, o) :: X) (w.alloc o) q k c ls := by
  obtain ⟨us, M, B, S⟩ := h.ex
  subst hb
  exact ⟨us, M, (BldV.newroom B o).perm' List.perm_middle.symm, S⟩
theorem Gw.pop {b : Nat} {o : Obj} (h : Gw w0 ((b, o) :: X) w q k c ls) : Gw w0 X w q k c ls := by
  obtain ⟨us, M, B, S⟩ := h.ex
  exact ⟨us, M, B.sub (List.Sublist.append (List.Sublist.refl _) (List.sublist_cons_self _ _)), S⟩
theorem Gw.none (h : Gw w0 X w q k c ls) : Gwp w0 X w q k c ls none 0 0 [] := by
  obtain ⟨us, M, B, S⟩ := h.ex
  exact ⟨us, M, B, fun W hW => ⟨S W hW, ⟨rfl, Nat.le_refl 0, .inl rfl, fun _ => rfl, by simp⟩⟩⟩
theorem Gw.made {M : List (Nat × Obj)} {b : Nat} {us : List Value} (h : OwB w0 ((b, .cells us.toArray 22 (0, 0)) :: (M ++ X)) w) (hl : us.length = k) (hk : k ≤ 1000000) (S : ∀ W, Has M W → Sls W us ls) : Gw w0 X w (some ⟨b, 0, .none⟩) k k ls := by
  refine ⟨us, M, BldV.of (r := #[]) (by simpa [rowV] using h) (by omega) (by simp; omega) (Nat.le_refl _) (Nat.le_trans hk (by decide)), S⟩
variable {ops : Array Oper} {rest : List Oper} {o : Oper} {a : Act} {Q : Exit → Act → World → Prop}
theorem wpList_gw (hgd : o.guard = none) (s x : Operand) (ho : o.op = .call { callee := .builtin .append, args := #[s, x], argTypes := #[46, 46] })
    (hs : a.eval s = .slice q k c) {b : Nat} (hx : a.eval x = .slice (some ⟨b, 0, none⟩) 1 1) {fr : Nat × Nat} (G : Gwp w0 X w q k c ls p m d l) (hb : w.blk b = some (.cells #[.slice p m d] 22 fr)) (hbig : k + 1 ≤ 1000000)
    (h : ∀ q' c' w', Gw w0 X w' q' (k + 1) c' (ls ++ [l]) → wpList Try.prog ops Q rest (a.put o.dst (.slice q' (k + 1) c')) w') : wpList Try.prog ops Q (o :: rest) a w := by
  obtain ⟨us, M, B, S⟩ := G.ex
  refine wpList_app86 hgd s x ho hs B hx (Sv.one hb) (by simp [Value.oneCell']) hbig fun q' c' w' B' => h q' c' w' ⟨us ++ [.slice p m d], M, B', fun W hW => ?_⟩
  exact (S W hW).1.append (.cons (S W hW).2 .nil)
end
end Go.Proofs.Ytombhkekocbfoaa
namespace Go.Proofs.Ytombhkekocbfoaa
open Go.RowKit Go.Dr Go.Kd Go.St
/-- Changes, three cells each. -/
inductive ChV (w : World) : List Value → List Chg → Prop
  | nil : ChV w [] []
  | cons {q : Option Addr} {m d : Nat} {c : Chg} {vs : List Value} {l : List Chg} (h : Sl .u8 w q m d c.val) (hs : ChV w vs l) : ChV w (.string (strB c.name) :: .slice q m d :: .bool c.gone :: vs) (c :: l)
def Chs (w : World) (p : Option Addr) (n cap : Nat) (l : List Chg) : Prop := ∃ vs, Sv 3 w p n cap vs ∧ ChV w vs l
section
variable {w w' : World} {p : Option Addr} {n cap : Nat} {l : List Chg} {vs : List Value}
theorem ChV.fr0 (h : ChV w vs l) (F : Fr [] w w') : ChV w' vs l := by
  induction h with
  | nil => exact .nil
  | cons h hs ih => exact .cons (h.fr0 F) ih
theorem ChV.len (h : ChV w vs l) : vs.length = l.length * 3 := by
  induction h with
  | nil => rfl
  | cons h hs ih => simp only [List.length_cons]; omega
theorem ChV.at (h : ChV w vs l) : ∀ (j : Nat) (c : Chg), l[j]? = some c → ∃ (q : Option Addr) (m d : Nat), (vs.drop (j * 3)).take 3 = [.string (strB c.name), .slice q m d, .bool c.gone] ∧ Sl .u8 w q m d c.val := by
  induction h with
  | nil => intro j c hj; simp at hj
  | cons h hs ih =>
    rename_i q m d c vs l
    intro j x hj
    cases j with
    | zero =>
      simp only [List.getElem?_cons_zero, Option.some.injEq] at hj
      subst hj
      exact ⟨q, m, d, by simp, h⟩
    | succ j =>
      simp only [List.getElem?_cons_succ] at hj
      obtain ⟨q', m', d', h1, h2⟩ := ih j x hj
      refine ⟨q', m', d', ?_, h2⟩
      rw [← h1, show (j + 1) * 3 = j * 3 + 3 by omega]
      simp
theorem ChV.append {us : List Value} {k : List Chg} (h : ChV w vs l) (h2 : ChV w us k) : ChV w (vs ++ us) (l ++ k) := by
  induction h with
  | nil => exact h2
  | cons h hs ih => exact .cons h ih
theorem ChV.one (h : ChV w vs l) : ∀ u ∈ vs, u.oneCell' = true := by
  induction h with
  | nil => simp
  | cons h hs ih =>
    intro u hu
    rcases List.mem_cons.1 hu with rfl | hu
    · rfl
    · rcases List.mem_cons.1 hu with rfl | hu
      · rfl
      · rcases List.mem_cons.1 hu with rfl | hu
        · rfl
        · exact ih u hu
theorem Chs.fr0 (h : Chs w p n cap l) (F : Fr [] w w') : Chs w' p n cap l := by
  obtain ⟨vs, h1, h2⟩ := h
  exact ⟨vs, h1.fr0 F, h2.fr0 F⟩
theorem Chs.len (h : Chs w p n cap l) : l.length = n := by
  obtain ⟨vs, h1, h2⟩ := h
  have := h1.len
  have := h2.len
  omega
theorem Chs.at (h : Chs w p n cap l) {j : Nat} (hj : j < n) : ∃ c q m d b off cs T fr, l[j]? = some c ∧ p = some ⟨b, off, none⟩ ∧ w.blk b = some (.cells cs T fr) ∧ off + j * 3 + 3 ≤ cs.size ∧ cs.extract (off + j * 3) (off + j * 3 + 3) = #[.string (strB c.name), .slice q m d, .bool c.gone] ∧ Sl .u8 w q m d c.val := by
  have hl := h.len
  obtain ⟨vs, h1, h2⟩ := h
  obtain ⟨b, off, cs, T, fr, e1, e2, e3, e4, e5⟩ := h1.elem hj
  obtain ⟨c, hc⟩ : ∃ c, l[j]? = some c := ⟨_, List.getElem?_eq_getElem (by omega)⟩
  obtain ⟨q, m, d, h3, h4⟩ := h2.at j c hc
  exact ⟨c, q, m, d, b, off, cs, T, fr, hc, e1, e2, e4, by rw [e5, h3], h4⟩
end
theorem strB_size (l : Bs) : (strB l).size = l.length := by simp [strB, ByteArray.size]
theorem u8_back {x : Int} (h : 0 ≤ x ∧ x < 256) : ((UInt8.ofNat x.toNat).toNat : Int) = x := by
  have h1 : (UInt8.ofNat x.toNat).toNat = x.toNat % 256 := by simp
  rw [h1]
  omega
theorem bytesRow_take {l : Bs} (hb : isBytes l) (cp : Nat) : (bytesRow (strB l) cp).toList.take l.length = l.map (Value.int .u8) := by
  have h1 : ((strB l).data.map (fun b => Value.int .u8 (b.toNat : Int))).toList = l.map (Value.int .u8) := by
    unfold strB
    rw [Array.toList_map]
    simp only [List.map_map]
    refine List.map_congr_left fun x hx => ?_
    simp only [Function.comp]
    rw [u8_back (hb x hx)]
  unfold bytesRow
  rw [Array.toList_append, h1, List.take_left' (by rw [List.length_map])]
/-- A text's bytes. -/
theorem conv_str {l : Bs} (hb : isBytes l) (w : World) : ∃ (c : Nat) (R : Array Value), (convert 9 22 (.string (strB l))).run Try.prog w = .ok (.slice (some ⟨w.heap.size, 0, none⟩) l.length c) (w.drew.alloc (.cells R 5 (R.size, R.size + 1))) ∧ ∀ (W : World) (b : Nat) (fr : Nat × Nat), W.blk b = some (.cells R 5 fr) → Sl .u8 W (some ⟨b, 0, none⟩) l.length c l := by
  have h := run_bytes_of_string (P := Try.prog) w 9 22 5 (strB l) Try.underlying9 Try.underlying22 Try.underlying5
  have hc := grownCap_ge w (strB l).size 0 5
  obtain ⟨cp, hcp⟩ : ∃ cp, cp = grownCap w (strB l).size 0 5 := ⟨_, rfl⟩
  rw [← hcp] at h hc
  rw [strB_size] at h hc
  refine ⟨cp, bytesRow (strB l) cp, h, fun W b fr hW => ?_⟩
  have hR := bytesRow_take hb cp
  refine Sl.of hW ?_ ?_ hc
  · have := congrArg List.length hR
    rw [List.length_take, List.length_map] at this
    have h2 : (bytesRow (strB l) cp).toList.length = (bytesRow (strB l) cp).size := Array.length_toList
    omega
  · rw [Array.toList_extract, List.extract_eq_take_drop, Nat.zero_add, List.drop_zero, Nat.sub_zero, hR]
section
variable {w : World}
set_option maxRecDepth 100000 in
set_option maxHeartbeats 8000000 in
theorem pack_f {p : Option Addr} {n cap : Nat} {l : List Chg} (T : Chs w p n cap l) (hok : ∀ c ∈ l, ChgB c) (hn : n ≤ 64) :
    Calls Try.prog 38 #[.slice p n cap] w fun en w' => ∃ q m cp, en = .returned (.slice q m cp) ∧ Bld w [] .u8 5 w' q m cp (payB l) := by
  have HS := Lib.hid T
  have HL := Lib.hid T.len
  have HOK := Lib.hid hok
  have HFIT := Lib.hid (payB_fits (fun c hc => (hok c hc).ok) (by rw [T.len]; exact hn))
  have ep : payB l = joinB (l.map fun c => joinB (chgP c)) := rfl
  rw [ep]
  obtain ⟨G, hG⟩ : ∃ G : Chg → Bs, G = fun c => joinB (chgP c) := ⟨_, rfl⟩
  rw [← hG] at HFIT ⊢
  have HGE := Lib.hid hG
  clear T hok ep hG
  go_enter Try.func38, Try.ntmps38
  go_wp2_with fail
  go_loopw [3, 11] (fun v iv wy => ∃ (i : Nat) (q : Option Addr) (c : Nat), i ≤ n ∧ v = .slice q i c ∧ iv = .int .i64 (i : Int) ∧ Hid (Gw w [] wy q i c ((l.take i).map G))) (fun _ iv _ => (n - intOf iv).toNat)
  case atStart => exact ⟨0, none, 0, by omega, rfl, rfl, Lib.hid ⟨[], [], BldV.nil (OwB.start w), fun _ _ => .nil⟩⟩
  case round =>
    obtain ⟨i, q, c, hin, rfl, rfl, hW⟩ := hrel
    by_cases hlt : i < n
    · have hd : decide ((i : Int) < (n : Int)) = true := by rw [decide_eq_true_eq]; omega
      obtain ⟨x, q2, m2, d2, b, off, cs, TT, fr, hx, rfl, fb, hsz, hext, S2⟩ := (HS.out.fr0 hW.out.own.fr).at hlt
      have okx := HOK.out x (List.mem_of_getElem? hx)
      obtain ⟨B, hB⟩ : ∃ B : Array Value, B = #[.string (strB x.name), .slice q2 m2 d2, .bool x.gone] := ⟨_, rfl⟩
      rw [← hB] at hext
      have szB : B.size = 3 := by rw [hB]; rfl
      have onB : ones B.toList = true := by rw [hB]; rfl
      have alB : B.extract 0 3 = B := by rw [← szB]; exact Array.extract_size
      have x0 := Array.getElem?_eq_some_iff.1 (show B[0]? = some (.string (strB x.name)) by rw [hB]; rfl)
      have x1 := Array.getElem?_eq_some_iff.1 (show B[1]? = some (.slice q2 m2 d2) by rw [hB]; rfl)
      have x2 := Array.getElem?_eq_some_iff.1 (show B[2]? = some (.bool x.gone) by rw [hB]; rfl)
      obtain ⟨x0', x0⟩ := x0
      obtain ⟨x1', x1⟩ := x1
      obtain ⟨x2', x2⟩ := x2
      have htk : (l.take (i + 1)).map G = (l.take i).map G ++ [joinB (chgP x)] := by
        rw [List.take_add_one, hx, HGE.out]
        simp
      have HTK := Lib.hid htk
      have HS2 := Lib.hid S2
      have HOX := Lib.hid okx
      have tb := World.at_lt fb
      have wi : IntKind.i64.wrap ((i : Int) + 1) = ((i + 1 : Nat) : Int) := by rw [IntKind.wrap_i64]; omega
      clear hB hx S2 okx htk
      go_upto_region 5 with (fail)
      refine named_world (A := fun X => Gw w [(wr.heap.size, .cells B 32)] X q i c ((l.take i).map G) ∧ Fr [] wr X) (Q := fun X => Code.wp _ _ _ _ X) ⟨hW.out.alloc _ _ rfl, (Fr.refl [] wr).alloc _⟩ ?_
      rintro U ⟨hU, FU⟩
      generalize wr.heap.size = b5 at hU ⊢
      have HU := Lib.hid hU
      have HS3 := Lib.hid (HS2.out.fr0 FU)
      clear hU fb tb hW FU
      have f5 := HU.out.own.nth 0 rfl
      have t5 := World.at_lt f5
      have hcp : chgP x = if x.gone then [x.name] else [x.name, x.val] := rfl
      obtain ⟨g, hg⟩ : ∃ g, g = x.gone := ⟨_, rfl⟩
      rw [← hg] at x2 hcp
      have HCP := Lib.hid hcp
      clear hg hcp
      obtain ⟨cp, R, hcv, hcs⟩ := conv_str HOX.out.nb U
      have HCS := Lib.hid hcs
      have lnm : x.name.length ≤ 32 := HOX.out.ok.n2
      have lvl : x.val.length ≤ 4000 := HOX.out.ok.v
      obtain ⟨nl, hnl⟩ : ∃ nl, nl = x.name.length := ⟨_, rfl⟩
      rw [← hnl] at hcv
      have HNL := Lib.hid hnl
      clear hcs hnl
      cases g with
      | true =>
        go_wp2_with fail
        have hG7 := ((HU.out.call (Fr.refl [] U).drew).alloc (.cells R 5 (R.size, R.size + 1)) U.heap.size rfl).alloc (.cells #[.slice (some ⟨U.heap.size, 0, none⟩) nl cp] 22) (U.heap.size + 1) (by simp)
        refine named_world (A := fun X => Gw w [(U.heap.size + 1, .cells #[.slice (some ⟨U.heap.size, 0, none⟩) nl cp] 22), (U.heap.size, .cells R 5 (R.size, R.size + 1)), (b5, .cells B 32)] X q i c ((l.take i).map G)) (Q := fun X => Calls Try.prog 58 _ X _) hG7 ?_
        clear hG7 hcv f5 t5
        intro X hX
        generalize U.heap.size + 1 = b7 at hX ⊢
        generalize U.heap.size = bs at hX ⊢
        have SL : Sll X (some ⟨b7, 0, none⟩) 1 1 [x.name] := Sll.of (Sv.one (hX.own.nth 0 rfl)) (.cons (by rw [HNL.out]; exact HCS.out X bs _ (hX.own.nth 1 rfl)) .nil)
        have HXG := Lib.hid hX
        clear hX HU
        refine (join_f SL (by simp [fits]; omega)).mono ?_
        clear SL
        rintro en w4 ⟨q4, m4, c4, rfl, B4⟩
        have B4' : Bld X [] .u8 5 w4 q4 m4 c4 (joinB (chgP x)) := by rw [HCP.out]; exact B4
        have HP := Lib.hid (HXG.out.piece B4')
        clear B4 B4' HXG
        go_wp2_with (refine wpList_gw rfl _ _ rfl rfl rfl (HP.out.call ((Fr.refl [] w4).alloc _)) (World.at_alloc_new _ _ _ rfl) (by omega) ?_)
        intro q5 c5 W5 G5
        have HG5 := Lib.hid G5.pop.pop.pop
        clear G5 HP
        go_wp2_with fail
        go_roundw
        case rel => exact ⟨i + 1, q5, c5, hlt, by first | rfl | simp, by first | rfl | simp, Lib.hid (by rw [HTK.out]; first | exact HG5.out | (have h := HG5.out; simp only [← List.map_take] at h; exact h))⟩
        case measure => simp [intOf]; omega
      | false =>
        go_wp2_with fail
        have hG7 := ((HU.out.call (Fr.refl [] U).drew).alloc (.cells R 5 (R.size, R.size + 1)) U.heap.size rfl).alloc (.cells #[.slice (some ⟨U.heap.size, 0, none⟩) nl cp, .slice q2 m2 d2] 22) (U.heap.size + 1) (by simp)
        refine named_world (A := fun X => Gw w [(U.heap.size + 1, .cells #[.slice (some ⟨U.heap.size, 0, none⟩) nl cp, .slice q2 m2 d2] 22), (U.heap.size, .cells R 5 (R.size, R.size + 1)), (b5, .cells B 32)] X q i c ((l.take i).map G) ∧ Fr [] U X) (Q := fun X => Calls Try.prog 58 _ X _) ⟨hG7, ((Fr.refl [] U).drew.alloc _).alloc _⟩ ?_
        clear hG7 hcv f5 t5
        rintro X ⟨hX, FX⟩
        generalize U.heap.size + 1 = b7 at hX ⊢
        generalize U.heap.size = bs at hX ⊢
        have SL : Sll X (some ⟨b7, 0, none⟩) 2 2 [x.name, x.val] := by
          refine Sll.of (vs := [.slice (some ⟨bs, 0, none⟩) nl cp, .slice q2 m2 d2]) ⟨rfl, Nat.le_refl 2, .inr ⟨b7, 0, _, 22, (0, 0), rfl, hX.own.nth 0 rfl, by simp, by simp⟩, by simp, trivial⟩ ?_
          exact .cons (by rw [HNL.out]; exact HCS.out X bs _ (hX.own.nth 1 rfl)) (.cons (HS3.out.fr0 FX) .nil)
        have HXG := Lib.hid hX
        clear hX HU FX
        refine (join_f SL (by simp [fits]; omega)).mono ?_
        clear SL
        rintro en w4 ⟨q4, m4, c4, rfl, B4⟩
        have B4' : Bld X [] .u8 5 w4 q4 m4 c4 (joinB (chgP x)) := by rw [HCP.out]; exact B4
        have HP := Lib.hid (HXG.out.piece B4')
        clear B4 B4' HXG
        go_wp2_with (refine wpList_gw rfl _ _ rfl rfl rfl (HP.out.call ((Fr.refl [] w4).alloc _)) (World.at_alloc_new _ _ _ rfl) (by omega) ?_)
        intro q5 c5 W5 G5
        have HG5 := Lib.hid G5.pop.pop.pop
        clear G5 HP
        go_wp2_with fail
        go_roundw
        case rel => exact ⟨i + 1, q5, c5, hlt, by first | rfl | simp, by first | rfl | simp, Lib.hid (by rw [HTK.out]; first | exact HG5.out | (have h := HG5.out; simp only [← List.map_take] at h; exact h))⟩
        case measure => simp [intOf]; omega
    · obtain rfl : i = n := by omega
      have hd : decide ((i : Int) < (i : Int)) = false := by simp
      have htk : l.take i = l := List.take_of_length_le (by rw [HL.out]; exact Nat.le_refl _)
      rw [htk] at hW
      clear htk
      go_wp2_with fail
      refine (join_f hW.out.sll HFIT.out).mono ?_
      rintro en w3 ⟨q3, m3, c3, rfl, B3⟩
      have HB3 := Lib.hid (B3.lift ((OwB.start w).call hW.out.own.fr))
      clear B3
      go_wp2_with fail
      exact bodyPost_ret (results_tmp rfl _ _ _) rfl ⟨q3, m3, c3, rfl, HB3.out⟩
end
end Go.Proofs.Ytombhkekocbfoaa
namespace Go
open Go.Dr
structure MapT (w : World) (b : Nat) (kvs : List (ByteArray × Value)) : Prop where
  ex : ∃ es clock, w.blk b = some (.map es clock) ∧ es.toList.map (fun e => (e.key, e.val)) = (kvs.map fun p => (Value.string p.1, p.2)) ∧ (∀ x ∈ es.toList, x.born < clock) ∧ (es.toList.map (·.born)).Nodup
def setK (k : ByteArray) (v : Value) (kvs : List (ByteArray × Value)) : List (ByteArray × Value) := match findS k kvs 0 with
  | some q => kvs.set q.1 (k, v)
  | none => kvs ++ [(k, v)]
def delK (k : ByteArray) (kvs : List (ByteArray × Value)) : List (ByteArray × Value) := match findS k kvs 0 with
  | some q => kvs.eraseIdx q.1
  | none => kvs
theorem map_erase {α β : Type} (f : α → β) : ∀ (l : List α) (j : Nat), (l.eraseIdx j).map f = (l.map f).eraseIdx j := by
  intro l
  induction l with
  | nil => intro j; rfl
  | cons x l ih =>
    intro j
    cases j with
    | zero => rfl
    | succ j => simp [ih]
theorem findS_some {k : ByteArray} : ∀ {kvs : List (ByteArray × Value)} {i j : Nat} {v : Value}, findS k kvs i = some (j, v) → i ≤ j ∧ kvs[j - i]? = some (k, v) := by
  intro kvs
  induction kvs with
  | nil => intro i j v h; cases h
  | cons p l ih =>
    intro i j v h
    rw [findS] at h
    split at h
    · rename_i hk
      cases h
      exact ⟨Nat.le_refl _, by rw [Nat.sub_self, hk]; rfl⟩
    · obtain ⟨h1, h2⟩ := ih h
      exact ⟨by omega, by rw [show j - i = (j - (i + 1)) + 1 by omega, List.getElem?_cons_succ]; exact h2⟩
theorem findS_none {k : ByteArray} : ∀ {kvs : List (ByteArray × Value)} {i : Nat}, findS k kvs i = none ↔ ∀ p ∈ kvs, p.1 ≠ k := by
  intro kvs
  induction kvs with
  | nil => intro i; simp [findS]
  | cons p l ih =>
    intro i
    rw [findS]
    split
    · rename_i hk
      constructor
      · intro h; cases h
      · intro h; exact absurd hk.symm (h p (by simp))
    · rename_i hk
      rw [ih]
      constructor
      · intro h q hq
        rcases List.mem_cons.1 hq with rfl | hq
        · exact fun e => hk e.symm
        · exact h q hq
      · intro h q hq; exact h q (by simp [hq])
section
variable {P : Program} {w w' : World} {b : Nat} {kvs : List (ByteArray × Value)} {t kt et : TypeId} {z : Value}
theorem MapT.s (h : MapT w b kvs) : MapS w b kvs := by
  obtain ⟨es, clock, h1, h2, -⟩ := h.ex
  exact ⟨es, clock, h1, h2⟩
theorem MapT.fr {fp : List Nat} (h : MapT w b kvs) (F : Fr fp w w') (hn : b ∉ fp) : MapT w' b kvs := by
  obtain ⟨es, clock, hb, he⟩ := h.ex
  exact ⟨es, clock, F.get hb hn, he⟩
theorem MapT.lt (h : MapT w b kvs) : b < w.heap.size := by
  obtain ⟨es, clock, hb, he⟩ := h.ex
  exact World.at_lt hb
theorem MapT.made (w : World) : MapT (w.alloc (.map #[] 0)) w.heap.size [] := ⟨#[], 0, World.at_alloc_new _ _ _ rfl, rfl, by simp, by simp⟩
theorem MapT.set (h : MapT w b kvs) (ht : P.underlying t = some (.map kt et)) (hk : P.underlying kt = some .string) (k : ByteArray) (v : Value) :
    ∃ o, (Instr.mapUpdate t (.map (some b)) (.string k) v).run P w = .ok () (w.put b o) ∧ MapT (w.put b o) b (setK k v kvs) := by
  obtain ⟨es, clock, hb, he, hs1, hs2⟩ := h.ex
  have hlt := World.at_lt hb
  have hf := findNow_str k es.toList kvs 0 he
  have hc : ∀ em, (Instr.checkKey em 10000 kt (.string k)).run P w = .ok () w := fun em => MapKept.run_checkKey hk (by simp [MapKept.IsKey]) em 9999
  cases hr : findS k kvs 0 with
  | none =>
    rw [hr] at hf
    refine ⟨.map (es.push { key := .string k, val := v, born := clock }) (clock + 1), ?_, ⟨_, _, World.at_put_same _ _ _ hlt, ?_, ?_, ?_⟩⟩
    · simp [Instr.mapUpdate, run_underlying ht, MapKept.run_getObj_map hb, hc, Instr.findKey, run_underlying hk, hf, MapKept.run_setObj_map _ hb, Result.andThen, Sem.run_pure, World.put]
    · simp [setK, hr, he]
    · intro x hx
      simp only [Array.toList_push, List.mem_append, List.mem_singleton] at hx
      rcases hx with hx | rfl
      · have := hs1 x hx; omega
      · show clock < clock + 1; omega
    · rw [Array.toList_push, List.map_append, List.nodup_append]
      refine ⟨hs2, by simp, fun a ha c hc2 e => ?_⟩
      subst e
      simp only [List.map_cons, List.map_nil, List.mem_singleton] at hc2
      obtain ⟨x, hx, rfl⟩ := List.mem_map.1 ha
      have := hs1 x hx
      omega
  | some q =>
    rw [hr] at hf
    obtain ⟨j, v0⟩ := q
    obtain ⟨-, hj⟩ := findS_some hr
    rw [Nat.sub_zero] at hj
    have hjl : j < es.size := by
      have h1 := congrArg List.length he
      have h2 := (List.getElem?_eq_some_iff.1 hj).1
      simp only [List.length_map, Array.length_toList] at h1
      omega
    have hkj : es[j].key = .string k := by
      have h1 := congrArg (fun l => l[j]?) he
      simp only [List.getElem?_map, hj, Option.map_some, Array.getElem?_toList, Array.getElem?_eq_getElem hjl, Option.some.injEq, Prod.mk.injEq] at h1
      exact h1.1
    have hj2 : es[j]? = some es[j] := Array.getElem?_eq_getElem hjl
    obtain ⟨es2, hes2⟩ : ∃ es2, es2 = es.modify j (fun e => { e with key := Value.string k, val := v }) := ⟨_, rfl⟩
    have hat : ∀ i : Nat, es2.toList[i]? = if i = j then some { es[j] with key := Value.string k, val := v } else es.toList[i]? := by
      intro i
      rw [hes2, Array.getElem?_toList, Array.getElem?_modify]
      by_cases hi : i = j
      · subst hi; simp [hj2]
      · simp [hi, Ne.symm hi]
    have hsb : Instr.sameBits 10000 (Value.string k) (Value.string k) = true := by simp [Instr.sameBits, beqB]
    refine ⟨.map es2 clock, ?_, ⟨_, _, World.at_put_same _ _ _ hlt, ?_, ?_, ?_⟩⟩
    · simp [Instr.mapUpdate, run_underlying ht, MapKept.run_getObj_map hb, hc, Instr.findKey, run_underlying hk, hf, hj2, hkj, Instr.keyThatStays, hsb, MapKept.run_setObj_map _ hb, Result.andThen, Sem.run_pure, World.put, hes2]
    · simp only [setK, hr]
      apply List.ext_getElem?
      intro i
      have h1 := congrArg (fun l => l[i]?) he
      simp only [List.getElem?_map] at h1 ⊢
      rw [hat i]
      by_cases hi : i = j
      · subst hi
        rw [if_pos rfl, List.getElem?_set, if_pos rfl, if_pos (List.getElem?_eq_some_iff.1 hj).1]
        rfl
      · rw [if_neg hi, List.getElem?_set, if_neg (Ne.symm hi)]
        exact h1
    · intro x hx
      obtain ⟨i, hi⟩ := List.getElem?_of_mem hx
      rw [hat i] at hi
      split at hi
      · cases hi
        exact hs1 es[j] (by simp)
      · exact hs1 x (List.mem_of_getElem? hi)
    · have e1 : es2.toList.map (·.born) = es.toList.map (·.born) := by
        apply List.ext_getElem?
        intro i
        simp only [List.getElem?_map]
        rw [hat i]
        by_cases hi : i = j
        · subst hi
          rw [if_pos rfl, Array.getElem?_toList, hj2]
          rfl
        · rw [if_neg hi]
      rw [e1]
      exact hs2
theorem MapT.del (h : MapT w b kvs) (ht : P.underlying t = some (.map kt et)) (hk : P.underlying kt = some .string) (k : ByteArray) (ty : TypeId) :
    ∃ o, (Builtin.delete_ #[t, kt] ty #[.map (some b), .string k]).run P w = .ok (.tuple #[]) (w.put b o) ∧ MapT (w.put b o) b (delK k kvs) := by
  obtain ⟨es, clock, hb, he, hs1, hs2⟩ := h.ex
  have hlt := World.at_lt hb
  have hf := findNow_str k es.toList kvs 0 he
  have hc : ∀ em, (Instr.checkKey em 10000 kt (.string k)).run P w = .ok () w := fun em => MapKept.run_checkKey hk (by simp [MapKept.IsKey]) em 9999
  cases hr : findS k kvs 0 with
  | none =>
    rw [hr] at hf
    refine ⟨.map es clock, ?_, ⟨_, _, World.at_put_same _ _ _ hlt, ?_, hs1, hs2⟩⟩
    · simp [Builtin.delete_, run_underlying ht, MapKept.run_getObj_map hb, hc, Instr.findKey, run_underlying hk, hf, MapKept.run_setObj_map _ hb, Result.andThen, Sem.run_pure, World.put]
    · simp [delK, hr, he]
  | some q =>
    rw [hr] at hf
    obtain ⟨j, v0⟩ := q
    obtain ⟨-, hj⟩ := findS_some hr
    rw [Nat.sub_zero] at hj
    have hjl : j < es.size := by
      have h1 := congrArg List.length he
      have h2 := (List.getElem?_eq_some_iff.1 hj).1
      simp only [List.length_map, Array.length_toList] at h1
      omega
    have hsub : (es.eraseIdxIfInBounds j).toList = es.toList.eraseIdx j := by
      unfold Array.eraseIdxIfInBounds
      rw [dif_pos hjl]
      simp
    refine ⟨.map (es.eraseIdxIfInBounds j) clock, ?_, ⟨_, _, World.at_put_same _ _ _ hlt, ?_, ?_, ?_⟩⟩
    · simp [Builtin.delete_, run_underlying ht, MapKept.run_getObj_map hb, hc, Instr.findKey, run_underlying hk, hf, MapKept.run_setObj_map _ hb, Result.andThen, Sem.run_pure, World.put]
    · simp only [delK, hr]
      rw [hsub, map_erase, he, map_erase]
    · intro x hx
      rw [hsub] at hx
      exact hs1 x ((List.eraseIdx_sublist _ _).subset hx)
    · rw [hsub]
      exact hs2.sublist ((List.eraseIdx_sublist _ _).map _)
end
end Go
namespace Go.St
open Go.Kd Go.Dr
/-- Which value stands at a name: the map's entries, in whatever order, are the names and values by rising names. -/
structure RepL (kvs : List (ByteArray × Value)) (L : List (Bs × Bs)) (g : Bs → Value) : Prop where
  perm : kvs.Perm (L.map fun x => (strB x.1, g x.1))
theorem delL_none {n : Bs} {L : List (Bs × Bs)} (h : ∀ x ∈ L, x.1 ≠ n) : delL n L = L := by
  unfold delL
  rw [List.filter_eq_self]
  intro x hx
  simpa using h x hx
theorem putL_perm {n v : Bs} : ∀ {L : List (Bs × Bs)}, Sorted L → (putL n v L).Perm ((n, v) :: delL n L) := by
  intro L
  induction L with
  | nil => intro _; exact .refl _
  | cons y L ih =>
    intro h
    obtain ⟨m, u⟩ := y
    have h2 := List.pairwise_cons.1 h
    rw [putL]
    split
    · rename_i hlt
      rw [delL_none]
      intro x hx e
      rcases List.mem_cons.1 hx with rfl | hx
      · simp only at e
        subst e
        exact bs_irrefl _ hlt
      · have h3 := h2.1 x hx
        rw [e] at h3
        exact bs_irrefl _ (bs_trans hlt h3)
    · split
      · rename_i he
        subst he
        have : delL n ((n, u) :: L) = L := by
          unfold delL
          rw [List.filter_cons, if_neg (by simp)]
          have := delL_none (n := n) (L := L) fun x hx e => by
            have h3 := h2.1 x hx
            simp only [e] at h3
            exact bs_irrefl _ h3
          exact this
        rw [this]
      · rename_i hne
        have : delL n ((m, u) :: L) = (m, u) :: delL n L := by
          unfold delL
          rw [List.filter_cons, if_pos (by simpa using Ne.symm hne)]
        rw [this]
        exact ((ih h2.2).cons _).trans (.swap _ _ _)
theorem sorted_nodup {L : List (Bs × Bs)} (h : Sorted L) : (L.map (·.1)).Nodup := by
  rw [List.nodup_iff_pairwise_ne, List.pairwise_map]
  exact h.imp fun {a b} hab e => by
    rw [e] at hab
    exact bs_irrefl _ hab
theorem del_split {n v : Bs} {L : List (Bs × Bs)} (h : Sorted L) (hm : (n, v) ∈ L) : L.Perm ((n, v) :: delL n L) := by
  induction L with
  | nil => cases hm
  | cons y L ih =>
    have h2 := List.pairwise_cons.1 h
    rcases List.mem_cons.1 hm with rfl | hm
    · have : delL n ((n, v) :: L) = L := by
        unfold delL
        rw [List.filter_cons, if_neg (by simp)]
        exact delL_none (n := n) (L := L) fun x hx e => by
          have h3 := h2.1 x hx
          simp only [e] at h3
          exact bs_irrefl _ h3
      rw [this]
    · have hne : y.1 ≠ n := fun e => by
        have h3 := h2.1 _ hm
        rw [e] at h3
        exact bs_irrefl _ h3
      have : delL n (y :: L) = y :: delL n L := by
        unfold delL
        rw [List.filter_cons, if_pos (by simpa using hne)]
      rw [this]
      exact ((ih h2.2 hm).cons _).trans (.swap _ _ _)
section
variable {kvs : List (ByteArray × Value)} {L : List (Bs × Bs)} {g : Bs → Value} {n v : Bs} {u : Value}
theorem rep_none (R : RepL kvs L g) (hb : ∀ x ∈ L, Byt x.1) (hn : Byt n) : findS (strB n) kvs 0 = none ↔ ∀ x ∈ L, x.1 ≠ n := by
  rw [findS_none]
  constructor
  · intro h x hx e
    exact h (strB x.1, g x.1) (R.perm.mem_iff.2 (List.mem_map.2 ⟨x, hx, rfl⟩)) (by rw [e])
  · intro h p hp e
    obtain ⟨x, hx, rfl⟩ := List.mem_map.1 (R.perm.mem_iff.1 hp)
    exact h x hx (strB_inj (hb x hx) hn e)
theorem map_congr_names {g g' : Bs → Value} (h : ∀ x ∈ L, g' x.1 = g x.1) : (L.map fun x => (strB x.1, g' x.1)) = L.map fun x => (strB x.1, g x.1) :=
  List.map_congr_left fun x hx => by rw [h x hx]
theorem perm_set {j : Nat} {k : ByteArray} {a b : Value} (h : kvs[j]? = some (k, a)) : (kvs.set j (k, b)).Perm ((k, b) :: kvs.eraseIdx j) ∧ kvs.Perm ((k, a) :: kvs.eraseIdx j) := by
  obtain ⟨hj, he⟩ := List.getElem?_eq_some_iff.1 h
  constructor
  · rw [List.set_eq_take_append_cons_drop, if_pos hj, List.eraseIdx_eq_take_drop_succ]
    exact List.perm_middle
  · have : kvs = kvs.take j ++ (k, a) :: kvs.drop (j + 1) := by
      rw [← he, ← List.drop_eq_getElem_cons hj, List.take_append_drop]
    conv => lhs; rw [this]
    rw [List.eraseIdx_eq_take_drop_succ]
    exact List.perm_middle
theorem rep_rest (R : RepL kvs L g) (hs : Sorted L) (hb : ∀ x ∈ L, Byt x.1) (hn : Byt n) {j : Nat} {a : Value} (hf : findS (strB n) kvs 0 = some (j, a)) : (kvs.eraseIdx j).Perm ((delL n L).map fun x => (strB x.1, g x.1)) := by
  obtain ⟨-, hj⟩ := findS_some hf
  rw [Nat.sub_zero] at hj
  obtain ⟨-, p2⟩ := perm_set (b := a) hj
  have hmem := R.perm.mem_iff.1 (List.mem_of_getElem? hj)
  obtain ⟨x, hx, hxe⟩ := List.mem_map.1 hmem
  simp only [Prod.mk.injEq] at hxe
  have hxn : x.1 = n := strB_inj (hb x hx) hn hxe.1
  obtain ⟨x1, x2⟩ := x
  simp only at hxn
  subst hxn
  have h3 := (del_split hs hx).map fun x : Bs × Bs => (strB x.1, g x.1)
  have h4 := (p2.symm.trans R.perm).trans h3
  rw [List.map_cons] at h4
  rw [← hxe.2] at h4
  exact List.Perm.cons_inv h4
/-- A name set. -/
theorem RepL.set (R : RepL kvs L g) (hs : Sorted L) (hb : ∀ x ∈ L, Byt x.1) (hn : Byt n) : RepL (setK (strB n) u kvs) (putL n v L) (fun m => if m = n then u else g m) := by
  have hrest : ((delL n L).map fun x => (strB x.1, (fun m => if m = n then u else g m) x.1)) = (delL n L).map fun x => (strB x.1, g x.1) := by
    refine List.map_congr_left fun x hx => ?_
    have := (List.mem_filter.1 hx).2
    simp only [decide_eq_true_eq] at this
    show (strB x.1, if x.1 = n then u else g x.1) = _
    rw [if_neg this]
  have h1 := (putL_perm (n := n) (v := v) hs).map fun x : Bs × Bs => (strB x.1, (fun m => if m = n then u else g m) x.1)
  rw [List.map_cons, hrest] at h1
  simp only [if_true] at h1
  refine ⟨List.Perm.trans ?_ h1.symm⟩
  unfold setK
  cases hf : findS (strB n) kvs 0 with
  | none =>
    have hno := (rep_none R hb hn).1 hf
    rw [delL_none hno]
    exact (List.perm_append_singleton _ _).trans (R.perm.cons _)
  | some q =>
    obtain ⟨j, a⟩ := q
    obtain ⟨-, hj⟩ := findS_some hf
    rw [Nat.sub_zero] at hj
    exact (perm_set (b := u) hj).1.trans ((rep_rest R hs hb hn hf).cons _)
/-- A name deleted. -/
theorem RepL.del (R : RepL kvs L g) (hs : Sorted L) (hb : ∀ x ∈ L, Byt x.1) (hn : Byt n) : RepL (delK (strB n) kvs) (delL n L) g := by
  refine ⟨?_⟩
  unfold delK
  cases hf : findS (strB n) kvs 0 with
  | none => rw [delL_none ((rep_none R hb hn).1 hf)]; exact R.perm
  | some q =>
    obtain ⟨j, a⟩ := q
    exact rep_rest R hs hb hn hf
theorem RepL.len (R : RepL kvs L g) : kvs.length = L.length := by rw [R.perm.length_eq, List.length_map]
end
end Go.St
namespace Go.Proofs.Ytombhkekocbfoaa
open Go.RowKit Go.Dr Go.St

/-! ### The types -/
theorem E52 : ElemT Try.prog 83 92 64 64 (ints .u8 (zs 64)) := ⟨Try.underlying83, by kernel_rfl, by rw [size_ints, length_zs]⟩
theorem E53 : ElemT Try.prog 84 94 65 72 (Value.int .i64 0 :: (zs 64).map (Value.int .u8)).toArray := ⟨Try.underlying84, by kernel_rfl, by simp [length_zs]⟩
theorem E31 : ElemT Try.prog 22 5 1 1 (ints .u8 (zs 1)) := ⟨Try.underlying22, by kernel_rfl, by rw [size_ints, length_zs]⟩
@[go_sem] theorem zero56 (w : World) : (zeroValue 92).run Try.prog w = .ok (.agg (ints .u8 (zs 64))) w := by kernel_rfl
@[go_sem] theorem zero58 (w : World) : (zeroValue 94).run Try.prog w = .ok (.agg (Value.int .i64 0 :: (zs 64).map (Value.int .u8)).toArray) w := by kernel_rfl
@[go_sem] theorem zc94 : Try.zeroCells94 = (Value.int .i64 0 :: (zs 64).map (Value.int .u8)).toArray := by kernel_rfl
@[go_sem] theorem mk52 (w : World) (kl kc : IntKind) (l c : Int) (h0 : 0 ≤ l) (hlc : l ≤ c) (hc : c ≤ 1099511627776) :
    (Instr.makeSlice 83 (.int kl l) (.int kc c)).run Try.prog w = .ok (.slice (some ⟨w.heap.size, 0, none⟩) l.toNat c.toNat) (w.alloc (.cells (ints .u8 (zs (c.toNat * 64))) 92)) := by
  rw [E52.make w kl kc l c h0 hlc (by omega) (by omega), madeCells_ints _ _ _ (by omega)]
@[go_sem] theorem mk31 (w : World) (kl kc : IntKind) (l c : Int) (h0 : 0 ≤ l) (hlc : l ≤ c) (hc : c ≤ 1099511627776) :
    (Instr.makeSlice 22 (.int kl l) (.int kc c)).run Try.prog w = .ok (.slice (some ⟨w.heap.size, 0, none⟩) l.toNat c.toNat) (w.alloc (.cells (ints .u8 (zs c.toNat)) 5)) := by
  rw [E31.make w kl kc l c h0 hlc (by omega) (by omega), madeCells_ints _ _ _ (by omega), Nat.mul_one]

@[go_sem] theorem one53 (w : World) (cs : Array Value) (h : cs.size = 65) : (buildOneK 84 #[(0, .agg cs)]).run Try.prog w = .ok (.slice (some ⟨w.heap.size, 0, none⟩) 1 1) (w.alloc (.cells cs 94)) :=
  E53.buildOne (by omega) (by omega) w (.agg cs) h

/-! ### The model -/
def flatW (ws : List (Nat × List Int)) : List Value := ws.flatMap fun x => Value.int .i64 x.1 :: x.2.map (Value.int .u8)
structure DiskIn (w : World) (d kb sb : Nat) (p : Option Addr) (cap : Nat) (m : DM) : Prop where
  hd : w.blk d = some (.cells #[.slice (some ⟨kb, 0, none⟩) m.n m.n, .slice (some ⟨sb, 0, none⟩) m.n m.n, .slice p m.waits.length cap, .int .i64 m.fuse, .bool m.dead] 86 (0, 0))
  hk : w.blk kb = some (.cells (ints .u8 m.kept) 92 (0, 0))
  hs : w.blk sb = some (.cells (ints .u8 m.seen) 92 (0, 0))
  hw : OwnsR w 94 65 p m.waits.length cap (flatW m.waits)
  ne1 : d ≠ kb
  ne2 : d ≠ sb
  ne3 : kb ≠ sb
  nw : ∀ g, p.map (·.block) = some g → g ≠ d ∧ g ≠ kb ∧ g ≠ sb
def fpOf (d kb sb : Nat) (p : Option Addr) : List Nat := d :: kb :: sb :: (p.map (·.block)).toList
def DiskAt (w : World) (d : Nat) (m : DM) (fp : List Nat) : Prop := ∃ kb sb p cap, DiskIn w d kb sb p cap m ∧ fp = fpOf d kb sb p ∧ m.Ok

set_option maxHeartbeats 400000 in
theorem new_any (b : Int) (w : World) : Calls Try.prog 10 #[.int .i64 b] w fun e w' => ∃ d fp, e = .returned (.pointer (some ⟨d, 0, none⟩)) ∧
    DiskAt w' d ⟨(max 1 (min b 4096)).toNat, zs (64 * (max 1 (min b 4096)).toNat), zs (64 * (max 1 (min b 4096)).toNat), [], -1, false⟩ fp ∧ Fr [] w w' ∧ ∀ k ∈ fp, w.heap.size ≤ k := by
  obtain ⟨n, hn1, hn2, hn⟩ : ∃ n : Int, 1 ≤ n ∧ n ≤ 4096 ∧ max 1 (min b 4096) = n := ⟨_, by omega, by omega, rfl⟩
  have hn3 : 0 ≤ n := by omega
  have hn4 : n ≤ 1099511627776 := by omega
  go_enter Try.func10, Try.ntmps10
  go_wp2
  refine drawn_begin 7 (fun _ => True) (by kernel_rfl) ?_
  refine drawn_reads (fuel := 5) [0, 2] rfl (by kernel_rfl) trivial ?_
  repeat (refine rowK_step rfl (fun K hK => ?_); go_simp; refine hK _ ?_; clear hK K)
  refine rowK_nil ⟨fun w' _ => ?_, ?_⟩
  · repeat (refine rowWp_step rfl (fun K hK => ?_); go_simp; refine hK _ ?_; clear hK K)
    exact rowWp_nil rfl
  refine drawn_next2 1 3 (fuel := 4) rfl rfl (by kernel_rfl) ?_ ?_
  all_goals
    intro K hK
    go_wp2
    refine ⟨trivial, ?_⟩
  · refine drawn_next 3 (fuel := 3) rfl (by kernel_rfl) ?_
    intro K hK
    go_wp2
    refine ⟨trivial, ?_⟩
    refine drawn_reads (fuel := 2) [4] rfl (by kernel_rfl) trivial ?_
    repeat (refine rowK_step rfl (fun K hK => ?_); go_simp; refine hK _ ?_; clear hK K)
    refine rowK_nil ⟨fun w' _ => ?_, ?_⟩
    · repeat (refine rowWp_step rfl (fun K hK => ?_); go_simp; refine hK _ ?_; clear hK K)
      exact rowWp_nil rfl
    refine drawn_next 5 (fuel := 1) rfl (by kernel_rfl) ?_
    intro K hK
    go_wp2
    refine ⟨trivial, ?_⟩
    refine drawn_reads (fuel := 0) [6] rfl (by kernel_rfl) trivial ?_
    repeat (refine rowK_step rfl (fun K hK => ?_); go_simp; refine hK _ ?_; clear hK K)
    refine rowK_nil ⟨fun w' _ => ?_, ?_⟩
    · repeat (refine rowWp_step rfl (fun K hK => ?_); go_simp; refine hK _ ?_; clear hK K)
      exact rowWp_nil rfl
    refine drawn_end (ol := []) rfl (by kernel_rfl) ?_
    intro K hK
    go_wp2
    go_ret
    rw [hn]
    refine ⟨_, _, rfl, ⟨w.heap.size, w.heap.size + 1, none, 0, ⟨?_, ?_, ?_, World.ownsRow_nil _ _ _ _, ?_, ?_, ?_, fun g h => by cases h⟩, rfl, ⟨by dsimp only; omega, by dsimp only; omega, by dsimp only; rw [length_zs], by dsimp only; rw [length_zs], by dsimp only; omega, by dsimp only; omega, fun x hx => by cases hx⟩⟩, ?_, ?_⟩
    · simp [World.at_alloc, World.at_drew] <;> omega
    · simp [World.at_alloc, World.at_drew, Nat.mul_comm] <;> omega
    · simp [World.at_alloc, World.at_drew, Nat.mul_comm] <;> omega
    · omega
    · omega
    · omega
    · exact ((((Fr.refl _ _).alloc _).alloc _).alloc _).drew
    · simp [fpOf]; omega
  · refine drawn_next 1 (fuel := 3) rfl (by kernel_rfl) ?_
    intro K hK
    go_wp2
    refine ⟨trivial, ?_⟩
    refine drawn_reads (fuel := 2) [4] rfl (by kernel_rfl) trivial ?_
    repeat (refine rowK_step rfl (fun K hK => ?_); go_simp; refine hK _ ?_; clear hK K)
    refine rowK_nil ⟨fun w' _ => ?_, ?_⟩
    · repeat (refine rowWp_step rfl (fun K hK => ?_); go_simp; refine hK _ ?_; clear hK K)
      exact rowWp_nil rfl
    refine drawn_next 5 (fuel := 1) rfl (by kernel_rfl) ?_
    intro K hK
    go_wp2
    refine ⟨trivial, ?_⟩
    refine drawn_reads (fuel := 0) [6] rfl (by kernel_rfl) trivial ?_
    repeat (refine rowK_step rfl (fun K hK => ?_); go_simp; refine hK _ ?_; clear hK K)
    refine rowK_nil ⟨fun w' _ => ?_, ?_⟩
    · repeat (refine rowWp_step rfl (fun K hK => ?_); go_simp; refine hK _ ?_; clear hK K)
      exact rowWp_nil rfl
    refine drawn_end (ol := []) rfl (by kernel_rfl) ?_
    intro K hK
    go_wp2
    go_ret
    rw [hn]
    refine ⟨_, _, rfl, ⟨w.heap.size + 1, w.heap.size, none, 0, ⟨?_, ?_, ?_, World.ownsRow_nil _ _ _ _, ?_, ?_, ?_, fun g h => by cases h⟩, rfl, ⟨by dsimp only; omega, by dsimp only; omega, by dsimp only; rw [length_zs], by dsimp only; rw [length_zs], by dsimp only; omega, by dsimp only; omega, fun x hx => by cases hx⟩⟩, ?_, ?_⟩
    · simp [World.at_alloc, World.at_drew] <;> omega
    · simp [World.at_alloc, World.at_drew, Nat.mul_comm] <;> omega
    · simp [World.at_alloc, World.at_drew, Nat.mul_comm] <;> omega
    · omega
    · omega
    · omega
    · exact ((((Fr.refl _ _).alloc _).alloc _).alloc _).drew
    · simp [fpOf]; omega

theorem DiskIn.flags {w : World} {d kb sb : Nat} {p : Option Addr} {cap : Nat} {m : DM} (D : DiskIn w d kb sb p cap m) (f : Int) (b : Bool) :
    DiskIn (w.put d (.cells #[.slice (some ⟨kb, 0, none⟩) m.n m.n, .slice (some ⟨sb, 0, none⟩) m.n m.n, .slice p m.waits.length cap, .int .i64 f, .bool b] 86 (0, 0))) d kb sb p cap { m with fuse := f, dead := b } where
  hd := World.at_put_same _ _ _ (World.at_lt D.hd)
  hk := by rw [World.at_put_other _ _ _ _ D.ne1]; exact D.hk
  hs := by rw [World.at_put_other _ _ _ _ D.ne2]; exact D.hs
  hw := ((Fr.refl [d] w).put d _ (by simp)).owns D.hw (fun g hg => by
    have := D.nw g (by cases p <;> first | exact hg | cases hg)
    simp; omega)
  ne1 := D.ne1
  ne2 := D.ne2
  ne3 := D.ne3
  nw := D.nw

section
variable {w : World} {d : Nat} {m : DM} {fp : List Nat}

theorem blocks_any (D : DiskAt w d m fp) : Calls Try.prog 16 #[.pointer (some ⟨d, 0, none⟩)] w fun e w' => e = .returned (.int .i64 m.n) ∧ w = w' := by
  obtain ⟨kb, sb, p, cap, ⟨hd, hk, hs, hw, ne1, ne2, ne3, nw⟩, rfl, ok⟩ := D
  clear hk hs hw nw
  go_enter Try.func16, Try.ntmps16
  go_wp2
  go_ret
  exact ⟨rfl, rfl⟩
theorem fuse_any (D : DiskAt w d m fp) (n : Int) (h : n ≤ 9223372036854775807) : Calls Try.prog 19 #[.pointer (some ⟨d, 0, none⟩), .int .i64 n] w fun e w' => e = .returned (.tuple #[]) ∧ DiskAt w' d { m with fuse := max n (-1) } fp ∧ Fr fp w w' := by
  obtain ⟨kb, sb, p, cap, D, rfl, ok⟩ := D
  have hd := D.hd
  have hdl := World.at_lt hd
  go_enter Try.func19, Try.ntmps19
  go_wp2
  go_end0
  have hm : ({ m with fuse := max n (-1) } : DM).Ok := ⟨ok.n1, ok.n2, ok.kl, ok.sl, by dsimp only; omega, by dsimp only; omega, ok.ws⟩
  exact ⟨rfl, ⟨kb, sb, p, cap, D.flags (max n (-1)) m.dead, rfl, hm⟩, (Fr.refl _ _).put _ _ (by simp [fpOf])⟩
theorem alive_any (D : DiskAt w d m fp) : Calls Try.prog 41 #[.pointer (some ⟨d, 0, none⟩)] w fun e w' => e = .returned (.bool (livesM m)) ∧ DiskAt w' d (aliveM m) fp ∧ Fr fp w w' := by
  obtain ⟨kb, sb, p, cap, D, rfl, ok⟩ := D
  have hok := aliveM_ok ok
  have hd := D.hd
  have hdl := World.at_lt hd
  have hf1 := ok.f1
  have hf2 := ok.f2
  have hfp : d ∈ fpOf d kb sb p := by simp [fpOf]
  by_cases h1 : m.dead = true
  · rw [h1] at hd
    go_enter Try.func41, Try.ntmps41
    go_wp2
    go_ret
    have e1 : livesM m = false := by simp [livesM, h1]
    have e2 : aliveM m = { m with fuse := m.fuse, dead := true } := by simp [aliveM, h1]
    rw [e2] at hok
    (try rw [e1])
    (try rw [e2])
    exact ⟨rfl, ⟨kb, sb, p, cap, D.flags m.fuse true, rfl, hok⟩, (Fr.refl _ _).put _ _ (fun _ => hfp)⟩
  · have h1' : m.dead = false := by simpa using h1
    rw [h1'] at hd
    by_cases h2 : m.fuse = 0
    · have h2' : (m.fuse == 0) = true := by simp [h2]
      have e1 : livesM m = false := by simp [livesM, h2]
      have e2 : aliveM m = { m with fuse := m.fuse, dead := true } := by simp [aliveM, h2]
      clear h1 h2
      go_enter Try.func41, Try.ntmps41
      go_wp2
      go_ret
      rw [e2] at hok
      (try rw [e1])
      (try rw [e2])
      exact ⟨rfl, ⟨kb, sb, p, cap, D.flags m.fuse true, rfl, hok⟩, (Fr.refl _ _).put _ _ (fun _ => hfp)⟩
    · have h2' : (m.fuse == 0) = false := by simp [h2]
      have e1 : livesM m = true := by simp [livesM, h1', h2]
      by_cases h3 : 0 < m.fuse
      · have e2 : aliveM m = { m with fuse := m.fuse - 1, dead := false } := by simp [aliveM, h1', h2, h3]
        clear h1 h2
        go_enter Try.func41, Try.ntmps41
        go_wp2
        go_ret
        rw [e2] at hok
        (try rw [e1])
        (try rw [e2])
        exact ⟨rfl, ⟨kb, sb, p, cap, D.flags (m.fuse - 1) false, rfl, hok⟩, (Fr.refl _ _).put _ _ (fun _ => hfp)⟩
      · have e2 : aliveM m = { m with fuse := m.fuse, dead := false } := by simp [aliveM, h1', h2, h3]
        have h3' : m.fuse ≤ 0 := by omega
        clear h1 h2
        go_enter Try.func41, Try.ntmps41
        go_wp2
        go_ret
        rw [e2] at hok
        (try rw [e1])
        (try rw [e2])
        exact ⟨rfl, ⟨kb, sb, p, cap, D.flags m.fuse false, rfl, hok⟩, (Fr.refl _ _).put _ _ (fun _ => hfp)⟩
end

end Go.Proofs.Ytombhkekocbfoaa
namespace Go.Proofs.Ytombhkekocbfoaa
open Go.RowKit Go.Dr Go.St

/-- A slice of bytes in a row of its own. -/
def BytesAt (w : World) (v : Value) (bb : Nat) (l : List Int) : Prop := ∃ off fr cap cur T, v = .slice (some ⟨bb, off, none⟩) l.length cap ∧ w.blk bb = some (.cells cur T fr) ∧ off + l.length ≤ cur.size ∧ l.length ≤ cap ∧ cur.extract off (off + l.length) = ints .u8 l
section
variable {w : World} {d : Nat} {m : DM} {fp : List Nat}
theorem write_arg (D : DiskAt w d m fp) (at_ : Int) (bv : Value) (bb : Nat) (b : List Int) (B : BytesAt w bv bb b) (hb : b.length ≤ 1099511627776) (h : argM m at_ b = true) :
    Calls Try.prog 17 #[.pointer (some ⟨d, 0, none⟩), .int .i64 at_, bv] w fun e w' => e = .returned (.int .i64 1) ∧ w = w' := by
  obtain ⟨kb, sb, p, cap, ⟨hd, hk, hs, hw, ne1, ne2, ne3, nw⟩, _, ok⟩ := D
  obtain ⟨off, fr, bc, cur, T, rfl, hbb, _, _, _⟩ := B
  clear hk hs hw nw hbb
  have hn := ok.n2
  by_cases h1 : at_ < 0
  · clear h
    go_enter Try.func17, Try.ntmps17
    go_wp2
    go_ret
    exact ⟨rfl, rfl⟩
  · by_cases h2 : (m.n : Int) ≤ at_
    · clear h
      go_enter Try.func17, Try.ntmps17
      go_wp2
      go_ret
      exact ⟨rfl, rfl⟩
    · have h3 : ((b.length : Int) != 64) = true := by
        simp [argM, h1, h2] at h ⊢; omega
      have h1' : decide (at_ < 0) = false := by simpa using h1
      have h2' : decide ((m.n : Int) ≤ at_) = false := by simpa using h2
      have h1b : 0 ≤ at_ := by omega
      have h2b : at_ < m.n := by omega
      clear h h1 h2
      go_enter Try.func17, Try.ntmps17
      go_wp2
      go_ret
      exact ⟨rfl, rfl⟩

theorem write_dead (D : DiskAt w d m fp) (at_ : Int) (bv : Value) (bb : Nat) (b : List Int) (B : BytesAt w bv bb b) (h : argM m at_ b = false) (hl : livesM m = false) :
    Calls Try.prog 17 #[.pointer (some ⟨d, 0, none⟩), .int .i64 at_, bv] w fun e w' => e = .returned (.int .i64 150) ∧ DiskAt w' d (aliveM m) fp ∧ Fr fp w w' := by
  have hA := alive_any D
  rw [hl] at hA
  obtain ⟨kb, sb, p, cap, ⟨hd, hk, hs, hw, ne1, ne2, ne3, nw⟩, _, ok⟩ := D
  obtain ⟨off, fr, bc, cur, T, rfl, hbb, _, _, _⟩ := B
  clear hk hs hw nw hbb
  have hn := ok.n2
  simp only [argM, Bool.or_eq_false_iff, decide_eq_false_iff_not] at h
  obtain ⟨⟨h1, h2⟩, h3⟩ := h
  have h1b : 0 ≤ at_ := by omega
  have h2b : at_ < m.n := by omega
  obtain h3' : b.length = 64 := by simpa using h3
  rw [h3']
  clear h1 h2 h3 h3'
  have HA := Lib.hid hA
  clear hA hl
  go_enter Try.func17, Try.ntmps17
  go_wp2_with (go_at_call 41; refine HA.out.mono ?_; rintro e w' ⟨rfl, D1, F1⟩)
  go_ret
  exact ⟨rfl, D1, F1⟩

theorem write_ok (D : DiskAt w d m fp) (at_ : Int) (bv : Value) (bb : Nat) (b : List Int) (B : BytesAt w bv bb b) (hbf : bb ∉ fp) (hwl : m.waits.length ≤ 1000000) (h : argM m at_ b = false) (hl : livesM m = true) :
    Calls Try.prog 17 #[.pointer (some ⟨d, 0, none⟩), .int .i64 at_, bv] w fun e w' => e = .returned (.int .i64 0) ∧
      ∃ fp', DiskAt w' d { aliveM m with seen := lay m.seen (at_.toNat * 64) b, waits := m.waits ++ [(at_.toNat, b)] } fp' ∧ Fr fp w w' ∧ ∀ k ∈ fp', k ∈ fp ∨ w.heap.size ≤ k := by
  have hA := alive_any D
  rw [hl] at hA
  obtain ⟨m1, hm1⟩ : ∃ m1, aliveM m = m1 := ⟨_, rfl⟩
  obtain ⟨s1, s2, s3, s4⟩ := aliveM_same m
  rw [hm1] at hA s1 s2 s3 s4 ⊢
  have D0 := D
  obtain ⟨kb, sb, p, cap, ⟨hd, hk, hs, hw, ne1, ne2, ne3, nw⟩, _, ok⟩ := D
  obtain ⟨off, fr, bc, cur, T, rfl, hbb, hcl, hcp, hcx⟩ := B
  clear hk hs hw nw
  have hn := ok.n2
  simp only [argM, Bool.or_eq_false_iff, decide_eq_false_iff_not] at h
  obtain ⟨⟨h1, h2⟩, h3⟩ := h
  have h1b : 0 ≤ at_ := by omega
  have h2b : at_ < m.n := by omega
  obtain h3' : b.length = 64 := by simpa using h3
  rw [h3'] at hcl hcx
  have hbl : bb < w.heap.size := World.at_lt hbb
  have HA := Lib.hid hA
  have H1 := Lib.hid s1
  have H2 := Lib.hid s2
  have H3 := Lib.hid s3
  have H4 := Lib.hid s4
  have HB := Lib.hid hbb
  have HM := Lib.hid hm1
  clear h1 h2 h3 hA hl s1 s2 s3 s4 hbb hm1
  go_enter Try.func17, Try.ntmps17
  rw [h3']
  go_wp2_with fail
  refine HA.out.mono ?_
  rintro e w1 ⟨rfl, ⟨kb1, sb1, p1, cap1, ⟨hd1, hk1, hs1, hw1, n11, n12, n13, nw1⟩, hfp1, ok1⟩, F1⟩
  have hb1 := F1.get HB.out hbf
  have hbd : bb ≠ d := fun e => hbf (by rw [hfp1, e]; simp [fpOf])
  have hbd' : d ≠ bb := fun e => hbd e.symm
  have hdl := World.at_lt hd1
  have hsl := World.at_lt hs1
  have hbl1 := World.at_lt hb1
  have n12' : sb1 ≠ d := fun e => n12 e.symm
  have hfit : at_.toNat * 64 + 64 ≤ m1.seen.length := by rw [H3.out, ok.sl]; omega
  have hn1 := H1.out
  have HF1 := Lib.hid F1
  have HK1 := Lib.hid hk1
  clear hk1 F1 hd
  go_wp2
  refine drawn_head 8 (by kernel_rfl) rfl rfl (by kernel_rfl) ?_
  change rowK _ _ _ [0,1,2,3,4,5,6,7] _ _
  repeat (refine rowK_step rfl (fun K hK => ?_); go_simp; refine hK _ ?_; clear hK K)
  refine rowK_nil ?_
  intro K hK
  go_wp2
  have hdne : d ≠ w1.heap.size := by omega
  refine drawn_begin 8 (fun w' => w'.blk d = some (.cells #[.slice (some ⟨kb1, 0, none⟩) m.n m.n, .slice (some ⟨sb1, 0, none⟩) m.n m.n, .slice p1 m1.waits.length cap1, .int .i64 m1.fuse, .bool m1.dead] 86 (0, 0)) ∧
    w'.blk w1.heap.size = some (.cells (Value.int .i64 at_ :: b.map (Value.int .u8)).toArray 94 (0, 0))) (by kernel_rfl) ?_
  refine drawn_reads (fuel := 5) [0, 1, 2, 3, 4, 5] rfl (by kernel_rfl) ⟨by go_simp, by go_simp⟩ ?_
  repeat (refine rowK_step rfl (fun K hK => ?_); go_simp; refine hK _ ?_; clear hK K)
  refine rowK_nil ⟨fun w' hw' => ?_, ?_⟩
  · obtain ⟨e1, e2⟩ := hw'
    repeat (refine rowWp_step rfl (fun K hK => ?_); go_simp; refine hK _ ?_; clear hK K)
    exact rowWp_nil rfl
  refine drawn_next 6 (fuel := 4) rfl (by kernel_rfl) ?_
  intro K hK
  go_wp2
  refine ⟨⟨by go_simp, by go_simp⟩, ?_⟩
  refine drawn_next 7 (fuel := 3) rfl (by kernel_rfl) ?_
  intro K hK
  obtain ⟨wA, hwA⟩ : ∃ wA, wA = ((((w1.put sb1 (.cells (ints .u8 (lay m1.seen (at_.toNat * 64) b)) 92 (0, 0))).alloc (.cells (Value.int .i64 at_ :: b.map (Value.int .u8)).toArray 94 (0, 0))).alloc
    (.cells (Value.int .i64 at_ :: b.map (Value.int .u8)).toArray 94 (0, 0))).drew).drew := ⟨_, rfl⟩
  rw [← hwA]
  have F2 : Fr [sb1] w1 wA := by rw [hwA]; exact ((((Fr.refl _ _).put _ _ (by simp)).alloc _).alloc _).drew.drew
  have hA1 : wA.blk (w1.heap.size + 1) = some (.cells (Value.int .i64 at_ :: b.map (Value.int .u8)).toArray 94 (0, 0)) := by rw [hwA]; go_simp
  have hA0 : wA.blk w1.heap.size = some (.cells (Value.int .i64 at_ :: b.map (Value.int .u8)).toArray 94 (0, 0)) := by rw [hwA]; go_simp
  have hAd := F2.get hd1 (by simpa using n12)
  have hAs : wA.blk sb1 = some (.cells (ints .u8 (lay m1.seen (at_.toNat * 64) b)) 92 (0, 0)) := by rw [hwA]; go_simp
  have hAz : wA.heap.size = w1.heap.size + 2 := by rw [hwA]; simp
  have hwl1 : m1.waits.length ≤ 1000000 := by rw [H4.out]; exact hwl
  clear hwA
  refine wpList_app rfl _ _ 84 rfl E53 (by omega) p1 _ cap1 _ rfl (F2.owns hw1 ?_) _ 0 1 _ rfl _ _ _ hA1 (Value.int .i64 at_ :: b.map (Value.int .u8)) ?_ ?_ ?_ (by omega) (by omega) ?_
  · intro g hg
    have := nw1 g (by cases p1 <;> first | exact hg | cases hg)
    simp; omega
  · simp [h3', List.take_of_length_le]
  · simp [h3']
  · simp [ones_cons, ones_map_int, Value.oneCell']
  · intro p2 cap2 w2 ⟨hown2, F3, hblk2⟩
    have hz2 := F3.size
    have hold : ∀ g, g ∈ (p1.map (·.block)).toList → g ≠ d ∧ g ≠ kb1 ∧ g ≠ sb1 ∧ g < w1.heap.size := fun g hg => by
      have hg' : p1.map (·.block) = some g := by simpa using hg
      obtain ⟨a1, a2, a3⟩ := nw1 g hg'
      refine ⟨a1, a2, a3, (hw1.lt g (by cases p1 <;> first | exact hg' | cases hg')).2⟩
    have hBd := F3.get hAd (fun hm => (hold _ hm).1 rfl)
    have hB0 := F3.get hA0 (fun hm => by have := (hold _ hm).2.2.2; omega)
    have hBs := F3.get hAs (fun hm => (hold _ hm).2.2.1 rfl)
    have hd2 : d < w2.heap.size := World.at_lt hBd
    have HK2 := Lib.hid (F3.get (F2.get HK1.out (by simpa using n13)) (fun hm => (hold _ hm).2.1 rfl))
    have HF2 := Lib.hid F2
    have HF3 := Lib.hid F3
    have HO := Lib.hid hown2
    have Hb2 := Lib.hid hblk2
    have Hold := Lib.hid hold
    clear F3 hown2 hblk2 hold F2 hA1 hA0 hAd hAs
    go_wp2
    refine drawn_end rfl (by kernel_rfl) ?_
    intro K hK
    go_wp2
    go_ret
    have hnw2 : ∀ g, p2.map (·.block) = some g → g ≠ d ∧ g ≠ kb1 ∧ g ≠ sb1 := fun g hg => by
      rcases Hb2.out g hg with h | h
      · exact nw1 g h
      · have hkl := World.at_lt HK1.out
        have hsz := HF2.out.size
        refine ⟨?_, ?_, ?_⟩ <;> omega
    have hwe : m.waits = m1.waits := H4.out.symm
    have hse : m.seen = m1.seen := H3.out.symm
    have hdfp : d ∈ fp := by rw [hfp1]; simp [fpOf]
    have hsfp : sb1 ∈ fp := by rw [hfp1]; simp [fpOf]
    refine ⟨rfl, fpOf d kb1 sb1 p2, ⟨kb1, sb1, p2, cap2, ⟨?_, ?_, ?_, ?_, n11, n12, n13, hnw2⟩, rfl, ?_⟩, ?_, ?_⟩
    · rw [World.at_put_same _ _ _ hd2]; simp [hwe, hn1]
    · rw [World.at_put_other _ _ _ _ n11]; exact HK2.out
    · rw [World.at_put_other _ _ _ _ n12, hse]; exact hBs
    · have := ((Fr.refl [d] w2).put d (.cells #[.slice (some ⟨kb1, 0, none⟩) m.n m.n, .slice (some ⟨sb1, 0, none⟩) m.n m.n, .slice p2 (m1.waits.length + 1) cap2, .int .i64 m1.fuse, .bool m1.dead] 86 (0, 0)) (by simp)).owns HO.out (fun g hg => by
        have := hnw2 g (by cases p2 <;> first | exact hg | cases hg)
        simp; omega)
      rw [hwe]
      simpa [flatW, Int.toNat_of_nonneg h1b] using this
    · refine ⟨ok1.n1, ok1.n2, ok1.kl, ?_, ok1.f1, ok1.f2, ?_⟩
      · dsimp only
        rw [hse, length_lay _ _ _ (by omega)]; exact ok1.sl
      · intro x hx
        dsimp only at hx ⊢
        rw [hwe] at hx
        rcases List.mem_append.1 hx with hx | hx
        · exact ok1.ws x hx
        · obtain rfl : x = (at_.toNat, b) := by simpa using hx
          exact ⟨by dsimp only; omega, h3'⟩
    · have a1 : Fr fp w wA := HF1.out.seq HF2.out (fun k hk _ => by simp at hk; subst hk; exact hsfp)
      have a2 : Fr fp w w2 := a1.seq HF3.out (fun k hk _ => by
        rw [hfp1]; simp only [fpOf, List.mem_cons]; exact Or.inr (Or.inr (Or.inr hk)))
      exact a2.put _ _ (fun _ => hdfp)
    · intro k hk
      simp only [fpOf, List.mem_cons, Option.mem_toList] at hk
      rcases hk with rfl | rfl | rfl | hk
      · exact .inl hdfp
      · left; rw [hfp1]; simp [fpOf]
      · exact .inl hsfp
      · rcases Hb2.out k hk with h | h
        · left; rw [hfp1]; simp only [fpOf, List.mem_cons, Option.mem_toList]; exact Or.inr (Or.inr (Or.inr h))
        · right
          have := HF2.out.size; have := HF1.out.size; omega
end
end Go.Proofs.Ytombhkekocbfoaa
