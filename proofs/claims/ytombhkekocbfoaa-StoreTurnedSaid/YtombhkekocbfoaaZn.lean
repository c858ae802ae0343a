/- Joined: SoV, SoZf, SoM. -/
import Derived.Test.YtombhkekocbfoaaZl
import Derived.Test.YtombhkekocbfoaaZm
import Derived.Test.YtombhkekocbfoaaZi
import Derived.Test.YtombhkekocbfoaaZk
set_option linter.unusedVariables false
set_option linter.unusedSimpArgs false
namespace Go.St
open Go.Kd Go.Dr
theorem putL_le {n v : Bs} : ∀ L : List (Bs × Bs), (putL n v L).length ≤ L.length + 1 := by
  intro L
  induction L with
  | nil => exact Nat.le_refl _
  | cons x L ih =>
    rw [putL]
    split
    · simp
    · split
      · simp
      · simp; omega
theorem doC_le (L : List (Bs × Bs)) (c : Chg) : (doC L c).length ≤ L.length + 1 := by
  unfold doC
  split
  · exact Nat.le_trans (List.length_filter_le _ _) (Nat.le_succ _)
  · exact putL_le L
theorem allC_le : ∀ (l : List Chg) (L : List (Bs × Bs)), (allC L l).length ≤ L.length + l.length := by
  intro l
  induction l with
  | nil => intro L; exact Nat.le_refl _
  | cons c l ih =>
    intro L
    have h1 := ih (doC L c)
    have h2 := doC_le L c
    show (allC (doC L c) l).length ≤ _
    rw [List.length_cons]
    omega
end Go.St
namespace Go.Proofs.Ytombhkekocbfoaa
open Go.RowKit Go.Dr Go.Kd Go.St
theorem sum_cast (s x y : Nat) : ((s + 1 + min x 30000 + min y 30000 : Nat) : Int) = (s : Int) + 1 + min (x : Int) 30000 + min (y : Int) 30000 := by omega
section
variable {w : World}
set_option maxRecDepth 100000 in
set_option maxHeartbeats 8000000 in
theorem dall_f {av : List Nat} (hav : ∀ b ∈ av, b < w.heap.size) {p : Option Addr} {n cap : Nat} {L : List (Bs × Bs)} (T : ChsA w av p n cap (asC L)) (hL : ∀ x ∈ L, Byt x.1) (hS : Sorted L) (hn : n ≤ 40000) {q : Option Addr} {m d : Nat} {l : List Chg} (C : ChsA w av q m d l) (hl : ∀ c ∈ l, Byt c.name) (hm : m ≤ 40000) :
    Calls Try.prog 26 #[.slice p n cap, .slice q m d] w fun e w' => ∃ q' k c, e = .returned (.slice q' k c) ∧ ChsA w' av q' k c (asC (allC L l)) ∧ Fr [] w w' := by
  have HAV := Lib.hid hav
  have HT := Lib.hid T
  have HC := Lib.hid C
  have HLB := Lib.hid hL
  have HSO := Lib.hid hS
  have HCB := Lib.hid hl
  have hlen : L.length = n := by have := T.chs.len; simpa [asC] using this
  have HLEN := Lib.hid hlen
  have HM := Lib.hid C.chs.len
  clear hav T C hL hS hl hlen
  go_enter Try.func26, Try.ntmps26
  go_wp2_with fail
  go_loopw [0, 5] (fun v iv wy => ∃ (i : Nat) (q' : Option Addr) (k c : Nat), i ≤ m ∧ v = .slice q' k c ∧ iv = .int .i64 (i : Int) ∧ Hid (ChsA wy av q' k c (asC (allC L (l.take i))) ∧ Fr [] w wy)) (fun _ iv _ => (m - intOf iv).toNat)
  case atStart => exact ⟨0, p, n, cap, by omega, rfl, rfl, Lib.hid ⟨HT.out, Fr.refl _ _⟩⟩
  case round =>
    obtain ⟨i, q', k, c, hin, rfl, rfl, hW⟩ := hrel
    by_cases hlt : i < m
    · have hd : decide ((i : Int) < (m : Int)) = true := by rw [decide_eq_true_eq]; omega
      obtain ⟨x, q2, m2, d2, b, off, cs, TT, fr, hx, rfl, fb, hsz, hext, S2, hxa⟩ := (HC.out.fr0 hW.out.2).at hlt
      obtain ⟨B, hB⟩ : ∃ B : Array Value, B = #[.string (strB x.name), .slice q2 m2 d2, .bool x.gone] := ⟨_, rfl⟩
      rw [← hB] at hext
      have szB : B.size = 3 := by rw [hB]; rfl
      have onB : ones B.toList = true := by rw [hB]; rfl
      have htk : allC L (l.take (i + 1)) = doC (allC L (l.take i)) x := by
        rw [List.take_add_one, hx]
        exact allC_snoc
      have HTK := Lib.hid htk
      have hkl : k ≤ 100000 := by
        have h1 := hW.out.1.chs.len
        rw [asC, List.length_map] at h1
        have h2 := allC_le (l.take i) L
        rw [List.length_take, HLEN.out] at h2
        omega
      have hxb := HCB.out x (List.mem_of_getElem? hx)
      have HXB := Lib.hid hxb
      have HBB := Lib.hid hB
      have HS2 := Lib.hid S2
      have HXA := Lib.hid hxa
      have hbt : ∀ y ∈ allC L (l.take i), Byt y.1 := byt_allC HLB.out fun c hc => HCB.out c (List.mem_of_mem_take hc)
      have HBT := Lib.hid hbt
      have tb := World.at_lt fb
      have ki : (i : Int) < (m : Int) := by omega
      clear hx htk hxb hB S2 hxa hbt
      go_wp2_with fail
      rw [HBB.out]
      refine (do_f (fun b hb => Nat.lt_of_lt_of_le (HAV.out b hb) hW.out.2.size) hW.out.1 HBT.out (sorted_allC HSO.out) hkl HS2.out HXA.out HXB.out).mono ?_
      rintro en w2 ⟨q3, k3, c3, rfl, C3, F3⟩
      have HW3 := Lib.hid (show ChsA w2 av q3 k3 c3 (asC (allC L (l.take (i + 1)))) ∧ Fr [] w w2 from ⟨by rw [HTK.out]; exact C3, hW.out.2.trans F3⟩)
      clear C3 F3
      go_wp2_with fail
      go_roundw
      case rel => exact ⟨i + 1, q3, k3, c3, hlt, rfl, by first | rfl | simp, HW3⟩
      case measure => simp [intOf]; omega
    · obtain rfl : i = m := by omega
      have hd : decide ((i : Int) < (i : Int)) = false := by simp
      have htk : l.take i = l := List.take_of_length_le (by rw [HM.out]; exact Nat.le_refl _)
      rw [htk] at hW
      clear htk
      go_wp2_with fail
      exact bodyPost_ret (results_tmp rfl _ _ _) rfl ⟨q', k, c, rfl, hW.out.1, hW.out.2⟩
set_option maxRecDepth 100000 in
set_option maxHeartbeats 8000000 in
theorem small_f {p : Option Addr} {n cap : Nat} {l : List Chg} (T : Chs w p n cap l) (hn : n ≤ 9223372036854775807) :
    Calls Try.prog 25 #[.slice p n cap] w fun e w' => ∃ r, e = .returned (.bool r) ∧ Fr [] w w' ∧ (r = true → n < 30000) := by
  have HT := Lib.hid T
  clear T
  go_enter Try.func25, Try.ntmps25
  go_wp2_with fail
  go_loopw [3, 4] (fun sv iv wy => ∃ (i s : Nat), i ≤ n ∧ i ≤ s ∧ s ≤ 90001 ∧ sv = .int .i64 (s : Int) ∧ iv = .int .i64 (i : Int) ∧ Hid (Fr [] w wy)) (fun _ iv _ => (n - intOf iv).toNat)
  case atStart => exact ⟨0, 0, by omega, by omega, by omega, rfl, rfl, Lib.hid (Fr.refl _ _)⟩
  case round =>
    obtain ⟨i, s, hin, his, hs9, rfl, rfl, hW⟩ := hrel
    by_cases hlt : i < n
    · have hd : decide ((i : Int) < (n : Int)) = true := by rw [decide_eq_true_eq]; omega
      by_cases hs : s < 30000
      · have hds : decide ((s : Int) < 30000) = true := by rw [decide_eq_true_eq]; omega
        obtain ⟨x, q2, m2, d2, b, off, cs, TT, fr, hx, rfl, fb, hsz, hext, S2⟩ := (HT.out.fr0 hW.out).at hlt
        have e0 := congrArg (fun a => a[0]?) hext
        have e1 := congrArg (fun a => a[1]?) hext
        rw [Array.getElem?_extract_of_lt (by omega)] at e0 e1
        obtain ⟨X, hX⟩ : ∃ X, X = strB x.name := ⟨_, rfl⟩
        have x0 : ∃ h : off + i * 3 < cs.size, cs[off + i * 3] = .string X := ⟨by omega, by rw [hX]; simpa using e0⟩
        have x1 : ∃ h : off + i * 3 + 1 < cs.size, cs[off + i * 3 + 1] = .slice q2 m2 d2 := ⟨by omega, by simpa using e1⟩
        obtain ⟨x0', x0⟩ := x0
        obtain ⟨x1', x1⟩ := x1
        have tb := World.at_lt fb
        have ki : (i : Int) < (n : Int) := by omega
        clear e0 e1 hext hx S2 hX
        go_upto_region 5 with (fail)
        refine drawn_begin 18 (fun w' => w'.blk b = some (.cells cs TT fr)) (by kernel_rfl) ?_
        refine drawn_reads (fuel := 1) [0, 1, 2, 3, 4, 5, 6, 7, 8, 9, 10, 11, 12, 13, 14, 15, 16, 17] rfl (by kernel_rfl) fb ?_
        repeat (first | (refine rowK_step2 rfl rfl (fun K hK => ?_); go_wp2) | (refine rowK_step rfl (fun K hK => ?_); go_simp; refine hK _ ?_; clear hK K))
        refine rowK_nil ⟨fun w' e1 => ?_, ?_⟩
        · clear fb tb
          have tb := World.at_lt e1
          repeat (first | (refine rowWp_step2 rfl rfl (fun K hK => ?_); go_wp2) | (refine rowWp_step rfl (fun K hK => ?_); go_simp; refine hK _ ?_; clear hK K))
          exact rowWp_nil rfl
        refine drawn_end rfl (by kernel_rfl) ?_
        intro K hK
        have HF := Lib.hid (hW.out.drew)
        have HSM := Lib.hid (sum_cast s X.size m2)
        clear hW
        go_wp2_with fail
        go_roundw
        case rel => exact ⟨i + 1, s + 1 + min X.size 30000 + min m2 30000, hlt, by omega, by omega, by rw [HSM.out], by first | rfl | simp, HF⟩
        case measure => simp [intOf]; omega
      · have hds : decide ((s : Int) < 30000) = false := by rw [decide_eq_false_iff_not]; omega
        go_wp2_with fail
        refine bodyPost_ret (results_tmp rfl _ _ _) rfl ⟨_, rfl, hW.out, ?_⟩
        intro h
        cases h
    · obtain rfl : i = n := by omega
      have hd : decide ((i : Int) < (i : Int)) = false := by simp
      go_wp2_with fail
      refine bodyPost_ret (results_tmp rfl _ _ _) rfl ⟨_, rfl, hW.out, ?_⟩
      intro h
      simp at h
      omega
set_option maxRecDepth 100000 in
set_option maxHeartbeats 8000000 in
theorem same_f {p : Option Addr} {n cap : Nat} {la lb : List Chg} (A : Chs w p n cap la) {q : Option Addr} {m d : Nat} (B : Chs w q m d lb) (ha : ∀ c ∈ la, Byt c.name ∧ Byt c.val) (hb : ∀ c ∈ lb, Byt c.name ∧ Byt c.val) (hn : n ≤ 1000000) :
    Calls Try.prog 23 #[.slice p n cap, .slice q m d] w fun e w' => ∃ r, e = .returned (.bool r) ∧ Fr [] w w' ∧ (r = true ↔ la = lb) := by
  have HA := Lib.hid A
  have HB := Lib.hid B
  have HAB := Lib.hid ha
  have HBB := Lib.hid hb
  have HLA := Lib.hid A.len
  have HLB := Lib.hid B.len
  clear A B ha hb
  go_enter Try.func23, Try.ntmps23
  by_cases hnm : n = m
  · subst hnm
    have hne : ((n : Int) != (n : Int)) = false := by simp
    go_wp2_with fail
    go_loopw [5] (fun iv wy => ∃ i : Nat, i ≤ n ∧ iv = .int .i64 (i : Int) ∧ Hid (la.take i = lb.take i ∧ Fr [] w wy)) (fun iv _ => (n - intOf iv).toNat)
    case atStart => exact ⟨0, by omega, rfl, Lib.hid ⟨rfl, Fr.refl _ _⟩⟩
    case round =>
      obtain ⟨i, hin, rfl, hW⟩ := hrel
      by_cases hlt : i < n
      · have hd : decide ((i : Int) < (n : Int)) = true := by rw [decide_eq_true_eq]; omega
        obtain ⟨x, qx, mx, dx, b, off, cs, TT, fr, hx, rfl, fb, hsz, hext, Sx⟩ := (HA.out.fr0 hW.out.2).at hlt
        obtain ⟨y, qy, my, dy, b2, off2, cs2, TT2, fr2, hy, rfl, fb2, hsz2, hext2, Sy⟩ := (HB.out.fr0 hW.out.2).at hlt
        have e0 := congrArg (fun a => a[0]?) hext
        have e1 := congrArg (fun a => a[1]?) hext
        have e2 := congrArg (fun a => a[2]?) hext
        rw [Array.getElem?_extract_of_lt (by omega)] at e0 e1 e2
        have g0 := congrArg (fun a => a[0]?) hext2
        have g1 := congrArg (fun a => a[1]?) hext2
        have g2 := congrArg (fun a => a[2]?) hext2
        rw [Array.getElem?_extract_of_lt (by omega)] at g0 g1 g2
        obtain ⟨X, hX⟩ : ∃ X, X = strB x.name := ⟨_, rfl⟩
        obtain ⟨Y, hY⟩ : ∃ Y, Y = strB y.name := ⟨_, rfl⟩
        obtain ⟨gx, hgx⟩ : ∃ gx, gx = x.gone := ⟨_, rfl⟩
        obtain ⟨gy, hgy⟩ : ∃ gy, gy = y.gone := ⟨_, rfl⟩
        have x0 : ∃ h : off + i * 3 < cs.size, cs[off + i * 3] = .string X := ⟨by omega, by rw [hX]; simpa using e0⟩
        have x1 : ∃ h : off + i * 3 + 1 < cs.size, cs[off + i * 3 + 1] = .slice qx mx dx := ⟨by omega, by simpa using e1⟩
        have x2 : ∃ h : off + i * 3 + 2 < cs.size, cs[off + i * 3 + 2] = .bool gx := ⟨by omega, by rw [hgx]; simpa using e2⟩
        have y0 : ∃ h : off2 + i * 3 < cs2.size, cs2[off2 + i * 3] = .string Y := ⟨by omega, by rw [hY]; simpa using g0⟩
        have y1 : ∃ h : off2 + i * 3 + 1 < cs2.size, cs2[off2 + i * 3 + 1] = .slice qy my dy := ⟨by omega, by simpa using g1⟩
        have y2 : ∃ h : off2 + i * 3 + 2 < cs2.size, cs2[off2 + i * 3 + 2] = .bool gy := ⟨by omega, by rw [hgy]; simpa using g2⟩
        obtain ⟨x0', x0⟩ := x0
        obtain ⟨x1', x1⟩ := x1
        obtain ⟨x2', x2⟩ := x2
        obtain ⟨y0', y0⟩ := y0
        obtain ⟨y1', y1⟩ := y1
        obtain ⟨y2', y2⟩ := y2
        have tb := World.at_lt fb
        have tb2 := World.at_lt fb2
        have ki : (i : Int) < (n : Int) := by omega
        have hax := HAB.out x (List.mem_of_getElem? hx)
        have hby := HBB.out y (List.mem_of_getElem? hy)
        obtain ⟨ye, hye⟩ : ∃ ye : Bool, ye = decide (x.name = y.name) := ⟨_, rfl⟩
        have hyeq : (X.toList == Y.toList) = ye := by rw [hX, hY, beq_str hax.1 hby.1, hye]
        have HYE := Lib.hid hye
        have HAX := Lib.hid hax.2
        have HBY := Lib.hid hby.2
        have HSX := Lib.hid Sx
        have HSY := Lib.hid Sy
        have HX2 := Lib.hid hx
        have HY2 := Lib.hid hy
        have HGX := Lib.hid hgx
        have HGY := Lib.hid hgy
        have hno : x ≠ y → la ≠ lb := fun h e => by
          rw [e, hy] at hx
          exact h (Option.some.inj hx).symm
        have HNO := Lib.hid hno
        clear e0 e1 e2 g0 g1 g2 hext hext2 hx hy Sx Sy hX hY hgx hgy hax hby hye hno
        go_upto_region 6 with (fail)
        cases ye with
        | false =>
          have HN := Lib.hid (HNO.out (fun e => by have := HYE.out; rw [e] at this; simp at this))
          have HF := Lib.hid hW.out.2.drew
          clear hW
          refine drawn_begin 38 (fun w' => w'.blk b = some (.cells cs TT fr) ∧ w'.blk b2 = some (.cells cs2 TT2 fr2)) (by kernel_rfl) ?_
          refine drawn_reads (fuel := 0) [0, 1, 2, 3, 4, 5, 6, 7, 8, 9, 10, 11, 12, 13, 14, 15, 16, 17, 18, 19, 20, 21, 22, 23, 24, 25, 26, 27, 28, 29, 30, 31, 32, 33, 34, 35, 36, 37] rfl (by kernel_rfl) ⟨fb, fb2⟩ ?_
          repeat (first | (refine rowK_step2 rfl rfl (fun K hK => ?_); go_wp2) | (refine rowK_step rfl (fun K hK => ?_); go_simp; refine hK _ ?_; clear hK K))
          refine rowK_nil ⟨?_, ?_⟩
          · first | (rintro w' ⟨e1, e2⟩) | (intro w' e1 e2)
            clear fb fb2 tb tb2
            have tb := World.at_lt e1
            have tb2 := World.at_lt e2
            repeat (first | (refine rowWp_step2 rfl rfl (fun K hK => ?_); go_wp2) | (refine rowWp_step rfl (fun K hK => ?_); go_simp; refine hK _ ?_; clear hK K))
            exact rowWp_nil rfl
          refine drawn_end (ol := []) rfl (by kernel_rfl) ?_
          intro K hK
          go_wp2_with fail
          exact bodyPost_ret (results_tmp rfl _ _ _) rfl ⟨false, rfl, HF.out, by simp [HN.out]⟩
        | true =>
          by_cases hgg : gx = gy
          · subst hgg
            have hgne : (gx != gx) = false := by simp
            have HF0 := Lib.hid hW.out.2
            have HTK := Lib.hid hW.out.1
            clear hW
            refine drawn_begin 38 (fun w' => w'.blk b = some (.cells cs TT fr) ∧ w'.blk b2 = some (.cells cs2 TT2 fr2)) (by kernel_rfl) ?_
            refine drawn_reads (fuel := 3) [0, 1, 2, 3, 4, 5, 6, 7, 8, 9, 10, 11, 12, 13, 14, 15, 16, 17, 18, 19, 20, 21, 22, 23, 24, 25, 26, 27, 28, 29, 30, 31, 32, 33, 34] rfl (by kernel_rfl) ⟨fb, fb2⟩ ?_
            repeat (first | (refine rowK_step2 rfl rfl (fun K hK => ?_); go_wp2) | (refine rowK_step rfl (fun K hK => ?_); go_simp; refine hK _ ?_; clear hK K))
            refine rowK_nil ⟨?_, ?_⟩
            · first | (rintro w' ⟨e1, e2⟩) | (intro w' e1 e2)
              clear fb fb2 tb tb2
              have tb := World.at_lt e1
              have tb2 := World.at_lt e2
              repeat (first | (refine rowWp_step2 rfl rfl (fun K hK => ?_); go_wp2) | (refine rowWp_step rfl (fun K hK => ?_); go_simp; refine hK _ ?_; clear hK K))
              exact rowWp_nil rfl
            refine drawn_next 35 (fuel := 2) rfl (by kernel_rfl) ?_
            intro K hK
            go_wp2_with fail
            have FD : Fr [] wr wr.drew := (Fr.refl [] wr).drew
            refine (bytes_f (A := x.val) (B := y.val) (HSX.out.fr0 FD) (HSY.out.fr0 FD) HAX.out HBY.out).mono ?_
            rintro en w2 ⟨rfl, F2⟩
            have F2' := FD.trans F2
            have HF2 := Lib.hid (HF0.out.trans F2')
            have fb := F2'.get fb (by simp)
            have fb2 := F2'.get fb2 (by simp)
            obtain ⟨vv, hvv⟩ : ∃ vv : Bool, vv = decide (x.val = y.val) := ⟨_, rfl⟩
            rw [← hvv]
            have HVV := Lib.hid hvv
            clear F2 F2' FD hvv tb tb2
            have tb := World.at_lt fb
            have tb2 := World.at_lt fb2
            go_wp2_with fail
            refine ⟨⟨fb, fb2⟩, ?_⟩
            refine drawn_reads (fuel := 0) [36, 37] rfl (by kernel_rfl) ⟨fb, fb2⟩ ?_
            repeat (first | (refine rowK_step2 rfl rfl (fun K hK => ?_); go_wp2) | (refine rowK_step rfl (fun K hK => ?_); go_simp; refine hK _ ?_; clear hK K))
            refine rowK_nil ⟨?_, ?_⟩
            · first | (rintro w' ⟨e1, e2⟩) | (intro w' e1 e2)
              clear fb fb2 tb tb2
              have tb := World.at_lt e1
              have tb2 := World.at_lt e2
              repeat (first | (refine rowWp_step2 rfl rfl (fun K hK => ?_); go_wp2) | (refine rowWp_step rfl (fun K hK => ?_); go_simp; refine hK _ ?_; clear hK K))
              exact rowWp_nil rfl
            refine drawn_end (ol := []) rfl (by kernel_rfl) ?_
            intro K hK
            cases vv with
            | false =>
              have HN := Lib.hid (HNO.out (fun e => by have := HVV.out; rw [e] at this; simp at this))
              go_wp2_with fail
              exact bodyPost_ret (results_tmp rfl _ _ _) rfl ⟨false, rfl, HF2.out, by simp [HN.out]⟩
            | true =>
              have HEQ := Lib.hid (show la.take (i + 1) = lb.take (i + 1) by
                have h1 : x.name = y.name := of_decide_eq_true HYE.out.symm
                have h2 : x.val = y.val := of_decide_eq_true HVV.out.symm
                have h3 : x.gone = y.gone := HGX.out.symm.trans HGY.out
                have h4 : x = y := by cases x; cases y; simp_all
                rw [List.take_add_one, List.take_add_one, HTK.out, HX2.out, HY2.out, h4])
              go_wp2_with fail
              go_roundw
              case rel => exact ⟨i + 1, hlt, by first | rfl | simp, Lib.hid ⟨HEQ.out, HF2.out⟩⟩
              case measure => simp [intOf]; omega
          · have hgne : (gx != gy) = true := by rw [bne_iff_ne]; exact hgg
            have HN := Lib.hid (HNO.out (fun e => hgg (by rw [HGX.out, HGY.out, e])))
            have HF := Lib.hid hW.out.2.drew
            clear hW
            refine drawn_begin 38 (fun w' => w'.blk b = some (.cells cs TT fr) ∧ w'.blk b2 = some (.cells cs2 TT2 fr2)) (by kernel_rfl) ?_
            refine drawn_reads (fuel := 0) [0, 1, 2, 3, 4, 5, 6, 7, 8, 9, 10, 11, 12, 13, 14, 15, 16, 17, 18, 19, 20, 21, 22, 23, 24, 25, 26, 27, 28, 29, 30, 31, 32, 33, 34, 35, 36, 37] rfl (by kernel_rfl) ⟨fb, fb2⟩ ?_
            repeat (first | (refine rowK_step2 rfl rfl (fun K hK => ?_); go_wp2) | (refine rowK_step rfl (fun K hK => ?_); go_simp; refine hK _ ?_; clear hK K))
            refine rowK_nil ⟨?_, ?_⟩
            · first | (rintro w' ⟨e1, e2⟩) | (intro w' e1 e2)
              clear fb fb2 tb tb2
              have tb := World.at_lt e1
              have tb2 := World.at_lt e2
              repeat (first | (refine rowWp_step2 rfl rfl (fun K hK => ?_); go_wp2) | (refine rowWp_step rfl (fun K hK => ?_); go_simp; refine hK _ ?_; clear hK K))
              exact rowWp_nil rfl
            refine drawn_end (ol := []) rfl (by kernel_rfl) ?_
            intro K hK
            go_wp2_with fail
            exact bodyPost_ret (results_tmp rfl _ _ _) rfl ⟨false, rfl, HF.out, by simp [HN.out]⟩
      · obtain rfl : i = n := by omega
        have hd : decide ((i : Int) < (i : Int)) = false := by simp
        have HE := Lib.hid (show la = lb by
          have h := hW.out.1
          rw [List.take_of_length_le (by rw [HLA.out]; exact Nat.le_refl _), List.take_of_length_le (by rw [HLB.out]; exact Nat.le_refl _)] at h
          exact h)
        go_wp2_with fail
        exact bodyPost_ret (results_tmp rfl _ _ _) rfl ⟨true, rfl, hW.out.2, by simp [HE.out]⟩
  · have hne : ((n : Int) != (m : Int)) = true := by rw [bne_iff_ne]; omega
    have HNE := Lib.hid (show ¬ la = lb from fun e => hnm (by rw [← HLA.out, e, HLB.out]))
    have HF := Lib.hid (Fr.refl [] w)
    go_wp2_with fail
    exact bodyPost_ret (results_tmp rfl _ _ _) rfl ⟨false, rfl, HF.out, by simp [HNE.out]⟩
end
end Go.Proofs.Ytombhkekocbfoaa
namespace Go.Proofs.Ytombhkekocbfoaa
open Go.RowKit Go.Dr Go.Kd Go.St
def dsC (r half e c f : Nat) (q : Option Addr) (n d : Nat) (br : Bool) : Array Value := #[.pointer (some ⟨r, 0, none⟩), .int .i64 (half : Int), .int .u64 (e : Int), .int .i64 (c : Int), .int .i64 (f : Int), .slice q n d, .bool br]
/-- The document's store, as it lies; its values lie elsewhere than in these blocks. -/
structure DSt (w : World) (t r : Nat) (sp : SP) (m : DM) (fp av : List Nat) : Prop where
  ex : ∃ q n d, w.blk t = some (.cells (dsC r sp.half sp.epoch sp.count sp.fin q n d sp.broken) 56 (0, 0)) ∧ ChsA w (t :: (av ++ fp)) q n d (asC sp.L)
  tf : t ∉ fp
  disk : RefAt w r m fp
/-- What the document's Open answers. -/
def DOpenR (w : World) (r : Nat) (fp av : List Nat) (en : Ending) (w' : World) : Int × Option SP × DM → Prop
  | (E, some sp, m') => E = 0 ∧ ∃ t fp', en = .returned (.tuple #[.pointer (some ⟨t, 0, none⟩), .int .i64 0]) ∧ DSt w' t r sp m' fp' av ∧ Fr fp w w' ∧ News w fp fp' ∧ w.heap.size ≤ t
  | (E, none, m') => ∃ fp', en = .returned (.tuple #[.pointer none, .int .i64 E]) ∧ RefAt w' r m' fp' ∧ Fr fp w w' ∧ News w fp fp'
/-- The code of block n; a loop's; what stands behind n statements. -/
def blockOf' (n : Nat) : Code → Option Code
  | .block m c => if m == n then some c else blockOf' n c
  | .seq a b => match blockOf' n a with
    | some c => some c
    | none => blockOf' n b
  | .cond _ a b => match blockOf' n a with
    | some c => some c
    | none => blockOf' n b
  | .loop c => blockOf' n c
  | .scope c => blockOf' n c
  | _ => none
def loopOf' : Code → Code
  | .loop c => c
  | c => c
def behind : Nat → Code → Code
  | n + 1, .seq _ b => behind n b
  | _, c => c
def ahead : Code → Code
  | .seq a _ => a
  | c => c
noncomputable def dfull : Code := Try.f22.body.getD .skip
noncomputable def d17 : Code := behind 11 dfull
noncomputable def d27 : Code := behind 16 dfull
noncomputable def dRnd : Code := loopOf' ((blockOf' 0 dfull).getD .skip)
noncomputable def dB1 : Code := (blockOf' 1 dfull).getD .skip
noncomputable def d39 : Code := ahead (behind 3 dB1)
set_option maxRecDepth 100000 in
/-- Open's frame, written out. -/
def frm22 (u : Nat → Value) : Array Value := (u 0 :: u 1 :: u 2 :: u 3 :: u 4 :: u 5 :: u 6 :: u 7 :: u 8 :: u 9 :: u 10 :: u 11 :: u 12 :: u 13 :: u 14 :: u 15 :: u 16 :: u 17 :: u 18 :: u 19 :: u 20 :: u 21 :: u 22 :: u 23 :: u 24 :: u 25 :: u 26 :: u 27 :: u 28 :: u 29 :: u 30 :: u 31 :: u 32 :: u 33 :: u 34 :: u 35 :: u 36 :: u 37 :: u 38 :: u 39 :: u 40 :: u 41 :: u 42 :: u 43 :: u 44 :: u 45 :: u 46 :: u 47 :: u 48 :: u 49 :: u 50 :: u 51 :: u 52 :: u 53 :: u 54 :: u 55 :: u 56 :: u 57 :: u 58 :: u 59 :: u 60 :: u 61 :: u 62 :: u 63 :: u 64 :: u 65 :: u 66 :: u 67 :: u 68 :: u 69 :: u 70 :: u 71 :: u 72 :: u 73 :: u 74 :: u 75 :: u 76 :: u 77 :: u 78 :: u 79 :: u 80 :: u 81 :: u 82 :: u 83 :: u 84 :: u 85 :: u 86 :: u 87 :: u 88 :: u 89 :: u 90 :: u 91 :: u 92 :: u 93 :: u 94 :: u 95 :: u 96 :: u 97 :: u 98 :: u 99 :: u 100 :: u 101 :: u 102 :: u 103 :: u 104 :: u 105 :: u 106 :: u 107 :: u 108 :: u 109 :: u 110 :: u 111 :: u 112 :: u 113 :: u 114 :: u 115 :: u 116 :: u 117 :: u 118 :: u 119 :: u 120 :: u 121 :: u 122 :: u 123 :: u 124 :: u 125 :: u 126 :: u 127 :: u 128 :: u 129 :: u 130 :: u 131 :: u 132 :: u 133 :: u 134 :: u 135 :: u 136 :: u 137 :: u 138 :: u 139 :: u 140 :: u 141 :: u 142 :: u 143 :: u 144 :: u 145 :: u 146 :: u 147 :: u 148 :: u 149 :: u 150 :: u 151 :: u 152 :: u 153 :: u 154 :: u 155 :: u 156 :: u 157 :: u 158 :: u 159 :: u 160 :: u 161 :: u 162 :: u 163 :: u 164 :: u 165 :: u 166 :: u 167 :: u 168 :: u 169 :: u 170 :: u 171 :: u 172 :: u 173 :: u 174 :: u 175 :: u 176 :: u 177 :: u 178 :: u 179 :: u 180 :: u 181 :: u 182 :: u 183 :: u 184 :: u 185 :: u 186 :: u 187 :: u 188 :: u 189 :: u 190 :: u 191 :: u 192 :: u 193 :: u 194 :: u 195 :: u 196 :: u 197 :: u 198 :: u 199 :: u 200 :: u 201 :: u 202 :: u 203 :: u 204 :: u 205 :: u 206 :: u 207 :: u 208 :: u 209 :: u 210 :: u 211 :: u 212 :: u 213 :: u 214 :: u 215 :: u 216 :: u 217 :: u 218 :: u 219 :: u 220 :: u 221 :: u 222 :: u 223 :: u 224 :: u 225 :: u 226 :: u 227 :: u 228 :: u 229 :: u 230 :: u 231 :: u 232 :: u 233 :: u 234 :: u 235 :: u 236 :: u 237 :: u 238 :: u 239 :: u 240 :: u 241 :: u 242 :: u 243 :: u 244 :: u 245 :: u 246 :: u 247 :: u 248 :: u 249 :: u 250 :: u 251 :: u 252 :: u 253 :: u 254 :: u 255 :: u 256 :: u 257 :: u 258 :: u 259 :: u 260 :: u 261 :: u 262 :: u 263 :: u 264 :: u 265 :: u 266 :: []).toArray
set_option maxRecDepth 100000 in
theorem frm_of {tm : Array Value} (h : tm.size = 267) : ∃ u : Nat → Value, tm = frm22 u := ⟨fun i => tm.getD i undef, arr_fun h⟩
theorem four_cast {g y0 y1 y2 y3 : Nat} (h : g = y0 * 16777216 + y1 * 65536 + y2 * 256 + y3) : (g : Int) = (y0 : Int) * 16777216 + (y1 : Int) * 65536 + (y2 : Int) * 256 + (y3 : Int) := by omega
section
variable {w : World}
set_option maxRecDepth 100000 in
set_option maxHeartbeats 8000000 in
/-- The record's first four bytes. -/
theorem d39_f {Q : Exit → Act → World → Prop} {tm : Array Value} {W : World} {n2 cp : Nat} {q2 : Option Addr} {rest : Bs}
    (hs : tm.size = 267) (h20 : tm.getD 20 undef = .slice q2 n2 cp) (S : Sl .u8 W q2 n2 cp rest) (hb : isBytes rest) (hn64 : 64 ≤ n2) (hn : n2 ≤ 70000)
    (hK : ∀ tm' W', tm'.size = 267 → tm'.getD 0 undef = tm.getD 0 undef → tm'.getD 4 undef = tm.getD 4 undef → tm'.getD 17 undef = tm.getD 17 undef → tm'.getD 18 undef = tm.getD 18 undef → tm'.getD 19 undef = tm.getD 19 undef → tm'.getD 20 undef = tm.getD 20 undef → tm'.getD 24 undef = .int .i64 ((getB (rest.take 4) : Nat) : Int) → Fr [] W W' → Q .normal ⟨tm', []⟩ W') :
    d39.wp Try.prog Q ⟨tm, []⟩ W := by
  obtain ⟨u, rfl⟩ := frm_of hs
  have e20 : u 20 = _ := h20
  have HK := Lib.hid hK
  have HB := Lib.hid hb
  have HS := Lib.hid S
  have HLN := Lib.hid S.len
  have HE20 := Lib.hid e20
  clear hK hb S h20 hs
  conv => arg 2; whnf
  unfold frm22
  rw [e20]
  clear e20
  obtain ⟨bb, off, cs, TT, fr, rfl, fb, hs2, hx⟩ := HS.out.out (by omega)
  have hby : ∀ j, j < 4 → ∃ y : Nat, y < 256 ∧ el rest j = (y : Int) ∧ ∃ h : off + j < cs.size, cs[off + j] = .int .u8 (y : Int) := fun j hj => by
    have hl := HLN.out
    have hb := el_byte HB.out (i := j) (by omega)
    refine ⟨(el rest j).toNat, by omega, by omega, by omega, ?_⟩
    have := congrArg (fun l : List Value => l[j]?) hx
    simp only [Array.getElem?_toList, List.getElem?_map] at this
    rw [Array.getElem?_extract_of_lt (by omega), ← Array.getElem?_eq_getElem] at this
    rw [List.getElem?_eq_getElem (by omega)] at this
    obtain ⟨h1, h2⟩ := Array.getElem?_eq_some_iff.1 this
    rw [h2, show ((el rest j).toNat : Int) = el rest j by omega, el, List.getD_eq_getElem?_getD, List.getElem?_eq_getElem (by omega)]
    rfl
  obtain ⟨y0, b0, el0, g0', g0⟩ := hby 0 (by omega)
  obtain ⟨y1, b1, el1, g1', g1⟩ := hby 1 (by omega)
  obtain ⟨y2, b2, el2, g2', g2⟩ := hby 2 (by omega)
  obtain ⟨y3, b3, el3, g3', g3⟩ := hby 3 (by omega)
  replace g0' : off < cs.size := g0'
  replace g0 : cs[off] = .int .u8 (y0 : Int) := g0
  have hl4 : 4 ≤ rest.length := by have := HLN.out; omega
  have hg : getB (rest.take 4) = y0 * 16777216 + y1 * 65536 + y2 * 256 + y3 := by
    rw [take_el (B := rest) (i := 3) (by omega), take_el (B := rest) (i := 2) (by omega), take_el (B := rest) (i := 1) (by omega), take_el (B := rest) (i := 0) (by omega), getB_snoc', getB_snoc', getB_snoc', getB_snoc', el0, el1, el2, el3]
    simp only [Int.toNat_natCast, List.take_zero, getB, List.foldl_nil]
    omega
  have HG := Lib.hid hg
  have tb := World.at_lt fb
  clear hby el0 el1 el2 el3 hx hg
  go_upto_region 39 with (fail)
  refine drawn_begin 22 (fun w' => w'.blk bb = some (.cells cs TT fr)) (by kernel_rfl) ?_
  refine drawn_reads (fuel := 1) [0, 1, 2, 3, 4, 5, 6, 7, 8, 9, 10, 11, 12, 13, 14, 15, 16, 17, 18, 19, 20, 21] rfl (by kernel_rfl) fb ?_
  repeat (first | (refine rowK_step2 rfl rfl (fun K hK => ?_); go_wp2) | (refine rowK_step rfl (fun K hK => ?_); go_simp; refine hK _ ?_; clear hK K))
  refine rowK_nil ⟨fun w' e1 => ?_, ?_⟩
  · clear fb tb
    have tb := World.at_lt e1
    repeat (first | (refine rowWp_step2 rfl rfl (fun K hK => ?_); go_wp2) | (refine rowWp_step rfl (fun K hK => ?_); go_simp; refine hK _ ?_; clear hK K))
    exact rowWp_nil rfl
  refine drawn_end rfl (by kernel_rfl) ?_
  intro K hK
  go_wp2
  have hgi : ((getB (rest.take 4) : Nat) : Int) = (y0 : Int) * 16777216 + (y1 : Int) * 65536 + (y2 : Int) * 256 + (y3 : Int) := four_cast HG.out
  refine HK.out _ _ rfl rfl rfl rfl rfl rfl HE20.out.symm (congrArg (Value.int .i64) hgi.symm) (Fr.refl _ _).drew
end
end Go.Proofs.Ytombhkekocbfoaa
namespace Go.Proofs.Ytombhkekocbfoaa
open Go.RowKit Go.Dr Go.Kd Go.St
section
variable {w : World}
theorem DiskAt.fr0 {w w' : World} {d : Nat} {m : DM} {fp : List Nat} (D : DiskAt w d m fp) (F : Fr [] w w') : DiskAt w' d m fp := by
  obtain ⟨kb, sb, p, cap, D, e, ok⟩ := D
  exact ⟨kb, sb, p, cap, ⟨F.get D.hd (by simp), F.get D.hk (by simp), F.get D.hs (by simp), F.owns D.hw (by simp), D.ne1, D.ne2, D.ne3, D.nw⟩, e, ok⟩
/-- What read answers: the store's map holds what the records make. -/
def ReadR (s d hs half e c f : Nat) (br : Bool) (fp : List Nat) (o : Option (List (Bs × Bs))) (en : Ending) (w' : World) : Prop := match o with
  | some L => ∃ mb, en = .returned (.bool true) ∧ w'.blk s = some (.cells (stC d hs half e c f mb br) 75) ∧ MapAt w' mb L fp
  | none => en = .returned (.bool false)
/-- Between two records: what is left, and what the store's map holds. -/
structure RdI (s d hs half e c f : Nat) (br : Bool) (fp : List Nat) (R : Option (List (Bs × Bs))) (w w' : World) (k : Nat) (q : Option Addr) (n cp : Nat) : Prop where
  fr : Fr [s] w w'
  ex : ∃ (mb : Nat) (L : List (Bs × Bs)) (rest : Bs), w'.blk s = some (.cells (stC d hs half e c f mb br) 75) ∧ MapAt w' mb L fp ∧ Sl .u8 w' q n cp rest ∧ (∀ g, q.map (·.block) = some g → g ≠ s) ∧ readR e (c - k) k rest L = R ∧ Sorted L ∧ (∀ x ∈ L, Byt x.1) ∧ isBytes rest ∧ n % 64 = 0 ∧ n ≤ 70000
theorem rdPay_len {b : Bs} {l : List Chg} (hb : Byt b) (h : rdPay b = some l) : l.length ≤ 64 := by
  unfold rdPay at h
  cases ho : splitB b with
  | none => rw [ho] at h; cases h
  | some ls =>
    rw [ho] at h
    rw [(rdChgs_ok (splitB_byt hb ho) h).1]
    exact splitB_len ho
theorem MapAt.len {w : World} {b : Nat} {L : List (Bs × Bs)} {fp : List Nat} (h : MapAt w b L fp) : ∃ es ck, w.blk b = some (.map es ck) ∧ es.size = L.length := by
  obtain ⟨-, kvs, g, hm, hr, -⟩ := h
  obtain ⟨es, ck, h1, h2, -⟩ := hm.ex
  refine ⟨es, ck, h1, ?_⟩
  have h3 := congrArg List.length h2
  simp only [List.length_map, Array.length_toList] at h3
  rw [h3, hr.len]
theorem Sl.out_of {w : World} {s : Nat} {cs0 : Array Value} {T0 : TypeId} {fr0 : Nat × Nat} {q : Option Addr} {m d : Nat} {v : Bs} (h : Sl .u8 w q m d v) (h0 : 0 < m) (hs : w.blk s = some (.cells cs0 T0 fr0)) (hno : ∀ u ∈ cs0.toList, ∀ x, u ≠ .int .u8 x) : ∀ k, q.map (·.block) = some k → k ≠ s := by
  obtain ⟨bb, off, cs, T, fr, rfl, fc, hs', hx'⟩ := h.out h0
  intro k hk e
  simp only [Option.map_some, Option.some.injEq] at hk
  subst hk e
  rw [hs] at fc
  cases fc
  have h1 := congrArg (fun l => l[0]?) hx'
  simp only [Array.getElem?_toList, List.getElem?_map] at h1
  rw [Array.getElem?_extract_of_lt (by omega)] at h1
  have hv : v[0]? = some (v[0]'(by rw [h.len]; exact h0)) := List.getElem?_eq_getElem _
  rw [hv] at h1
  simp only [Option.map_some, Option.some.injEq] at h1
  exact hno _ (by rw [Array.mem_toList_iff]; exact Array.getElem_mem _) _ h1
/-- A store's cells are turned: the map stays. -/
theorem MapAt.put {w : World} {b s : Nat} {L : List (Bs × Bs)} {fp : List Nat} {o : Obj} {cs0 : Array Value} {T0 : TypeId} {fr0 : Nat × Nat} (h : MapAt w b L fp) (hs : w.blk s = some (.cells cs0 T0 fr0)) (hno : ∀ u ∈ cs0.toList, ∀ x, u ≠ .int .u8 x) : MapAt (w.put s o) b L fp := by
  obtain ⟨hb, kvs, g, hm, hr, hv⟩ := h
  obtain ⟨es, ck, h1, h2⟩ := hm.ex
  have hne : b ≠ s := fun e => by subst e; rw [hs] at h1; cases h1
  refine ⟨hb, kvs, g, ⟨es, ck, (World.at_put_other _ _ _ _ hne.symm).trans h1, h2⟩, hr, fun x hx => ?_⟩
  obtain ⟨q, m, d, h3, h4, h5⟩ := hv x hx
  refine ⟨q, m, d, h3, ?_, h5⟩
  rcases Nat.eq_zero_or_pos m with h0 | h0
  · subst h0; exact sl_zero h4
  · have h6 := Sl.out_of h4 h0 hs hno
    obtain ⟨bb, off, cs, T, fr, rfl, fc, hs', hx'⟩ := h4.out h0
    exact Sl.of ((World.at_put_other _ _ _ _ (h6 bb rfl).symm).trans fc) hs' hx' h4.cap_
theorem _root_.Go.Sl.put2 {w : World} {s : Nat} {o : Obj} {b off m d : Nat} {v : Bs} (h : Sl .u8 w (some ⟨b, off, none⟩) m d v) (hne : b ≠ s) : Sl .u8 (w.put s o) (some ⟨b, off, none⟩) m d v := by
  rcases Nat.eq_zero_or_pos m with h0 | h0
  · subst h0; exact sl_zero h
  · obtain ⟨bb, off, cs, T, fr, e, fc, hs', hx'⟩ := h.out h0
    cases e
    exact Sl.of ((World.at_put_other _ _ _ _ hne.symm).trans fc) hs' hx' h.cap_
theorem stC_no {d hs half e c f mb : Nat} {br : Bool} : ∀ u ∈ (stC d hs half e c f mb br).toList, ∀ x, u ≠ .int .u8 x := by
  intro u hu x e
  subst e
  simp [stC] at hu
theorem seg_step {l : Bs} {a i : Nat} (h : 64 * (a + i + 1) ≤ l.length) : (l.drop (a * 64)).take ((i + 1) * 64) = (l.drop (a * 64)).take (i * 64) ++ blockOf l (a + i) := by
  rw [Nat.add_mul, Nat.one_mul, List.take_add, List.drop_drop, blockOf, List.drop_take]
  congr 2
  · omega
  · congr 1; omega
set_option maxRecDepth 100000 in
set_option maxHeartbeats 8000000 in
theorem read_f {s d half e c f mb : Nat} {br : Bool} {m : DM} {fp gp : List Nat} (hst : w.blk s = some (.cells (stC d (m.n / 2) half e c f mb br) 75 (0, 0))) (hsf : s ∉ fp) (D : DiskAt w d m fp) (hN1 : m.n ≤ 1024) (hd : m.dead = false) (hh : half ≤ 1) (hf1 : 1 ≤ f) (hf2 : f ≤ m.n / 2) {L : List (Bs × Bs)} (M : MapAt w mb L gp) (hfp : ∀ k ∈ gp, k < w.heap.size) (hS : Sorted L) (hLb : ∀ x ∈ L, Byt x.1) (hmb : isBytes m.seen) (hc : c < 4294967296) (he : e < 18446744073709551616) :
    Calls Try.prog 35 #[.pointer (some ⟨s, 0, none⟩)] w fun en w' => ReadR s d (m.n / 2) half e c f br gp (readR e c 0 (recsM m half f) L) en w' ∧ Fr [s] w w' := by
  have hN : m.n ≤ 4096 := by obtain ⟨_, _, _, _, _, _, ok⟩ := D; exact ok.n2
  have hsl : m.seen.length = 64 * m.n := by obtain ⟨_, _, _, _, _, _, ok⟩ := D; exact ok.sl
  have HMA := Lib.hid M
  have HFP := Lib.hid hfp
  have HSO := Lib.hid hS
  have HLB := Lib.hid hLb
  have HMB := Lib.hid hmb
  clear M hfp hS hLb hmb
  obtain ⟨R, hR⟩ : ∃ R, R = readR e c 0 (recsM m half f) L := ⟨_, rfl⟩
  rw [← hR]
  have HR := Lib.hid hR
  clear hR
  have HD := Lib.hid D
  have HSL := Lib.hid hsl
  have HDE := Lib.hid hd
  obtain ⟨SC, hSC⟩ : ∃ SC, SC = stC d (m.n / 2) half e c f mb br := ⟨_, rfl⟩
  rw [← hSC] at hst
  obtain ⟨hs, hhs⟩ : ∃ hs, hs = m.n / 2 := ⟨_, rfl⟩
  rw [← hhs] at hSC hf2 ⊢
  have szC : SC.size = 8 := by rw [hSC]; rfl
  have x0 := Array.getElem?_eq_some_iff.1 (show SC[0]? = some (.pointer (some ⟨d, 0, none⟩)) by rw [hSC]; rfl)
  have x1 := Array.getElem?_eq_some_iff.1 (show SC[1]? = some (.int .i64 hs) by rw [hSC]; rfl)
  have x2 := Array.getElem?_eq_some_iff.1 (show SC[2]? = some (.int .i64 half) by rw [hSC]; rfl)
  have x5 := Array.getElem?_eq_some_iff.1 (show SC[5]? = some (.int .u32 f) by rw [hSC]; rfl)
  obtain ⟨x0', x0⟩ := x0
  obtain ⟨x1', x1⟩ := x1
  obtain ⟨x2', x2⟩ := x2
  obtain ⟨x5', x5⟩ := x5
  have HSS := Lib.hid hst
  have HSC := Lib.hid hSC
  have HHS := Lib.hid hhs
  have hs2 : 2 * hs ≤ m.n := by omega
  have wf : IntKind.i64.wrap (f : Int) = (f : Int) := by rw [IntKind.wrap_i64]; omega
  have hhb : half * hs ≤ hs := by
    rcases Nat.le_one_iff_eq_zero_or_eq_one.1 hh with h | h <;> subst h <;> omega
  obtain ⟨P, hP⟩ : ∃ P, half * hs = P := ⟨_, rfl⟩
  have hPb : P ≤ hs := by omega
  obtain ⟨ACC, hACC⟩ : ∃ ACC : Nat → Bs, ACC = fun i => (m.seen.drop ((P + 1) * 64)).take ((i - 1) * 64) := ⟨_, rfl⟩
  have HAC := Lib.hid hACC
  clear hst hSC D hsl hhs hACC hhb hd
  go_enter Try.func35, Try.ntmps35
  go_wp2_with fail
  go_loopw [3, 4] (fun v iv wy => ∃ (i : Nat) (q : Option Addr) (cp : Nat), 1 ≤ i ∧ i ≤ f ∧ v = .slice q ((i - 1) * 64) cp ∧ iv = .int .i64 (i : Int) ∧ Hid (Bld w [] .u8 5 wy q ((i - 1) * 64) cp (ACC i))) (fun _ iv _ => (f - intOf iv).toNat)
  case atStart => exact ⟨1, none, 0, by omega, hf1, rfl, rfl, Lib.hid (by rw [HAC.out]; exact Bld.nil (OwB.start w))⟩
  case round =>
    obtain ⟨i, q, cp, hi1, hif, rfl, rfl, hW⟩ := hrel
    have f1 := hW.out.own.fr.get HSS.out (by simp)
    have t1 := World.at_lt f1
    by_cases hlt : i < f
    · have hd : decide ((i : Int) < (f : Int)) = true := by rw [decide_eq_true_eq]; omega
      go_upto_region 5 with (fail)
      refine drawn_begin 20 (fun w' => w'.blk s = some (.cells SC 75)) (by kernel_rfl) ?_
      refine drawn_reads (fuel := 6) [0, 1, 2, 3, 4, 5, 6, 7, 8, 9, 10, 11, 12, 13, 14] rfl (by kernel_rfl) f1 ?_
      repeat (first | (refine rowK_step2 rfl rfl (fun K hK => ?_); go_wp2) | (refine rowK_step rfl (fun K hK => ?_); go_simp; refine hK _ ?_; clear hK K))
      refine rowK_nil ⟨fun w' e1 => ?_, ?_⟩
      · clear f1 t1
        have t1 := World.at_lt e1
        repeat (first | (refine rowWp_step2 rfl rfl (fun K hK => ?_); go_wp2) | (refine rowWp_step rfl (fun K hK => ?_); go_simp; refine hK _ ?_; clear hK K))
        exact rowWp_nil rfl
      refine drawn_next 15 (fuel := 5) rfl (by kernel_rfl) ?_
      intro K hK
      go_wp2_with fail
      refine (read_any (diskAt_drew (HD.out.fr0 hW.out.own.fr)) _).mono ?_
      rintro en w2 ⟨v, rfl, hv, F2⟩
      have hpi : ((half : Int) * hs + i) = ((P + i : Nat) : Int) := by subst hP; push_cast; rfl
      have hrd : readM m ((P + i : Nat) : Int) = (0, blockOf m.seen (P + i)) := by
        unfold readM
        rw [show noBlock m ((P + i : Nat) : Int) = false by simp [noBlock]; omega, HDE.out]
        rfl
      rw [hpi] at hv ⊢
      rw [hrd] at hv ⊢
      have hbk : (blockOf m.seen (P + i)).length = 64 := by
        have := HSL.out
        simp [blockOf]; omega
      have hvs : ∃ q2 c2, v = .slice q2 64 c2 ∧ Sl .u8 w2 q2 64 c2 (blockOf m.seen (P + i)) := by
        rcases hv with ⟨_, h⟩ | ⟨bb, B, _⟩
        · have h2 : blockOf m.seen (P + i) = [] := h
          rw [h2] at hbk
          cases hbk
        · obtain ⟨q2, c2, h1, h2⟩ := B.sl
          have h3 : (blockOf m.seen (P + i)).length = 64 := hbk
          rw [show ((0 : Int), blockOf m.seen (P + i)).2 = blockOf m.seen (P + i) from rfl, h3] at h1 h2
          exact ⟨q2, c2, h1, h2⟩
      obtain ⟨q2, c2, rfl, S2⟩ := hvs
      have hacc : ACC (i + 1) = ACC i ++ blockOf m.seen (P + i) := by
        rw [HAC.out]
        have h := seg_step (l := m.seen) (a := P + 1) (i := i - 1) (by have := HSL.out; omega)
        rw [show P + 1 + (i - 1) = P + i by omega, show i - 1 + 1 = i + 1 - 1 by omega] at h
        exact h
      have HACI := Lib.hid hacc
      have HS2 := Lib.hid S2
      have HW := Lib.hid (hW.out.call ((Fr.refl [] wr).drew.trans F2))
      have f2 := (((Fr.refl [] wr).drew).trans F2).get f1 (by simp)
      clear hpi hrd hv hbk hacc S2 hW F2 f1 t1
      have t2 := World.at_lt f2
      go_wp2_with fail
      refine ⟨f2, ?_⟩
      refine drawn_next 16 (fuel := 4) rfl (by kernel_rfl) ?_
      intro K hK
      go_wp2_with fail
      refine ⟨f2, ?_⟩
      refine drawn_reads (fuel := 2) [17, 18] rfl (by kernel_rfl) f2 ?_
      repeat (first | (refine rowK_step2 rfl rfl (fun K hK => ?_); go_wp2) | (refine rowK_step rfl (fun K hK => ?_); go_simp; refine hK _ ?_; clear hK K))
      refine rowK_nil ⟨fun w' e1 => ?_, ?_⟩
      · repeat (first | (refine rowWp_step2 rfl rfl (fun K hK => ?_); go_wp2) | (refine rowWp_step rfl (fun K hK => ?_); go_simp; refine hK _ ?_; clear hK K))
        exact rowWp_nil rfl
      refine drawn_next 19 (fuel := 1) rfl (by kernel_rfl) ?_
      intro K hK
      go_wp2_with fail
      refine ⟨f2, ?_⟩
      refine drawn_end rfl (by kernel_rfl) ?_
      intro K hK
      go_wp2_with (refine wpList_app47 rfl _ _ rfl rfl HW.out rfl HS2.out (by omega) ?_)
      intro q5 c5 W5 B5
      have HB5 := Lib.hid B5
      clear B5 HW HS2 f2 t2
      go_wp2_with fail
      have ez : (i - 1) * 64 + 64 = (i + 1 - 1) * 64 := by omega
      go_roundw
      case rel =>
        exact ⟨i + 1, q5, c5, by omega, hlt, by rw [ez], by first | rfl | simp, Lib.hid (by rw [HACI.out, ← ez]; exact HB5.out)⟩
      case measure => simp [intOf]; omega
    · obtain rfl : i = f := by omega
      have hd : decide ((i : Int) < (i : Int)) = false := by simp
      have hrec : ACC i = recsM m half i := by rw [HAC.out, recsM, ← HHS.out, hP]
      have HRE := Lib.hid hrec
      obtain ⟨z, hz⟩ : ∃ z, z = (i - 1) * 64 := ⟨_, rfl⟩
      have hSA := hW.out.sl
      have hFA := hW.out.own.fr
      have hqs : ∀ g, q.map (·.block) = some g → g ≠ s := fun g hg e => by
        have h1 := (hW.out.new g hg).1
        have h2 := World.at_lt HSS.out
        omega
      have HSA := Lib.hid hSA
      have HFA := Lib.hid hFA
      have HQS := Lib.hid hqs
      clear hrec hSA hFA hqs hW
      have hisb : isBytes (recsM m half i) := fun x hx => HMB.out x (List.mem_of_mem_drop (List.mem_of_mem_take hx))
      have HI0 := Lib.hid (show RdI s d hs half e c i br gp R w wr 0 q ((i - 1) * 64) cp from ⟨HFA.out.mono (by simp), mb, L, recsM m half i, by rw [← HSC.out]; exact HFA.out.get HSS.out (by simp), HMA.out.fr0 HFA.out, by rw [← HRE.out]; exact HSA.out, HQS.out, HR.out.symm, HSO.out, HLB.out, hisb, by omega, by omega⟩)
      clear hisb
      go_wp2_with fail
      go_loopw [3, 7] (fun v kv wy => ∃ (k : Nat) (q : Option Addr) (n cp : Nat), k ≤ c ∧ v = .slice q n cp ∧ kv = .int .u32 (k : Int) ∧ Hid (RdI s d hs half e c i br gp R w wy k q n cp)) (fun _ kv _ => (c - intOf kv).toNat)
      case atStart => exact ⟨0, q, _, cp, by omega, rfl, rfl, HI0.out⟩
      case round =>
        obtain ⟨k, q2, n2, cp2, hkc, rfl, rfl, hW⟩ := hrel
        obtain ⟨mb2, L2, rest, fs, M2, S2, hq2, hR2, hs2', hb2, hB2, hn64, hnb⟩ := hW.out.ex
        have HF2 := Lib.hid hW.out.fr
        obtain ⟨SC2, hSC2⟩ : ∃ SC2, SC2 = stC d hs half e c i mb2 br := ⟨_, rfl⟩
        rw [← hSC2] at fs
        have szC2 : SC2.size = 8 := by rw [hSC2]; rfl
        have y4 := Array.getElem?_eq_some_iff.1 (show SC2[4]? = some (.int .u32 c) by rw [hSC2]; rfl)
        obtain ⟨y4', y4⟩ := y4
        have y3 := Array.getElem?_eq_some_iff.1 (show SC2[3]? = some (.int .u64 e) by rw [hSC2]; rfl)
        obtain ⟨y3', y3⟩ := y3
        have ts := World.at_lt fs
        have HM2 := Lib.hid M2
        have HS2 := Lib.hid S2
        have HQ2 := Lib.hid hq2
        have HR2 := Lib.hid hR2
        have HSo2 := Lib.hid hs2'
        have HBy2 := Lib.hid hb2
        have HB2 := Lib.hid hB2
        have HSC2 := Lib.hid hSC2
        have hlen : rest.length = n2 := S2.len
        have HLN := Lib.hid hlen
        clear M2 S2 hq2 hR2 hs2' hb2 hB2 hSC2 hW hlen
        by_cases hlt2 : k < c
        · have hd2 : decide ((k : Int) < (c : Int)) = true := by rw [decide_eq_true_eq]; omega
          by_cases hn0 : n2 = 0
          · have hr0 : rest = [] := List.eq_nil_of_length_eq_zero (by rw [HLN.out]; exact hn0)
            have hRn : R = none := by
              rw [← HR2.out, hr0, show c - k = (c - k - 1) + 1 by omega, readR, if_pos rfl]
            have HRN := Lib.hid hRn
            have d0 : ((n2 : Int) == 0) = true := by rw [hn0]; rfl
            clear hr0 hRn
            go_wp2_with fail
            refine bodyPost_ret (results_tmp rfl _ _ _) rfl ?_
            rw [HRN.out]
            exact ⟨rfl, HF2.out⟩
          · obtain ⟨bb, off, cs, TT, fr3, rfl, fc, hs3, hx3⟩ := HS2.out.out (by omega)
            have hcp := HS2.out.cap_
            have d0 : ((n2 : Int) == 0) = false := by rw [beq_eq_false_iff_ne]; omega
            have k4 : (4 : Int) ≤ (cp2 : Int) := by omega
            have s4 := sl_pre fc hs3 hx3 HLN.out (k := 4) (by omega) hcp
            have HS4 := Lib.hid s4
            have hb4 : isBytes (rest.take 4) := fun x hx => HB2.out x (List.mem_of_mem_take hx)
            have hl4 : (rest.take 4).length = 4 := by rw [List.length_take, HLN.out]; omega
            have hv4 : getV (rest.take 4) = getB (rest.take 4) := getV_of (by omega) (by omega)
            have hg4 : getB (rest.take 4) < 4294967296 := getB_lt 4 _ hl4 hb4
            have HV4 := Lib.hid hv4
            have HB4 := Lib.hid hb4
            obtain ⟨g, hg⟩ : ∃ g, g = getB (rest.take 4) := ⟨_, rfl⟩
            rw [← hg] at hg4
            have HG := Lib.hid hg
            have s8 : ∀ W : World, W.blk bb = some (.cells cs TT fr3) → Sl .u8 W (some ⟨bb, off, none⟩) 8 cp2 (rest.take 8) := fun W hW => sl_pre hW hs3 hx3 HLN.out (by omega) hcp
            have hcv : ∀ W : World, W.blk bb = some (.cells cs TT fr3) → (convert 22 9 (.slice (some ⟨bb, off, none⟩) 8 cp2)).run Try.prog W = .ok (.string (strB (rest.take 8))) W := fun W hW => conv47 (s8 W hW)
            have HCV := Lib.hid hcv
            have HFC := Lib.hid fc
            clear s4 hb4 hl4 hv4 fc hs3 hx3 hg s8 hcv
            go_wp2_with fail
            refine (get_f HS4.out HB4.out).mono ?_
            rintro en w4 ⟨rfl, F4⟩
            rw [HV4.out, ← HG.out]
            have HF4 := Lib.hid (HF2.out.trans (F4.mono (by simp)))
            have f4 := F4.get fs (by simp)
            have F4' := F4
            have FF4 := Lib.hid F4
            clear F4 fs ts
            have t4 := World.at_lt f4
            have f4b := F4'.get HFC.out (by simp)
            by_cases hgn : n2 < g + 8
            · have wd : IntKind.u64.wrap ((n2 : Int) - 8) = ((n2 - 8 : Nat) : Int) := by rw [IntKind.wrap_u64]; omega
              have dg : decide (((n2 - 8 : Nat) : Int) < (g : Int)) = true := by rw [decide_eq_true_eq]; omega
              have hRn : R = none := by
                have hne : ¬ rest = [] := fun h => hn0 (by rw [← HLN.out, h]; rfl)
                rw [← HR2.out, show c - k = (c - k - 1) + 1 by omega, readR, if_neg hne, ← HG.out, HLN.out, if_pos (by omega)]
              have HRN := Lib.hid hRn
              clear hRn
              go_wp2_with fail
              refine bodyPost_ret (results_tmp rfl _ _ _) rfl ?_
              rw [HRN.out]
              exact ⟨rfl, HF4.out⟩
            · have wd : IntKind.u64.wrap ((n2 : Int) - 8) = ((n2 - 8 : Nat) : Int) := by rw [IntKind.wrap_u64]; omega
              have dg : decide (((n2 - 8 : Nat) : Int) < (g : Int)) = false := by rw [decide_eq_false_iff_not]; omega
              have wg : IntKind.u64.wrap (8 + (g : Int)) = ((8 + g : Nat) : Int) := by rw [IntKind.wrap_u64]; omega
              have kg : ((8 + g : Nat) : Int) ≤ (cp2 : Int) := by omega
              have k8 : (8 : Int) ≤ ((8 + g : Nat) : Int) := by omega
              have k8c : (8 : Int) ≤ (cp2 : Int) := by omega
              have wk : IntKind.u32.wrap ((k : Int) + 1) = ((k + 1 : Nat) : Int) := by rw [IntKind.wrap_u32]; omega
              have HCV := Lib.hid HCV.out
              have hcv := HCV.out
              obtain ⟨X8, hX8⟩ : ∃ X8, X8 = strB (rest.take 8) := ⟨_, rfl⟩
              rw [← hX8] at hcv
              have HX8 := Lib.hid hX8
              clear hX8 F4'
              go_upto_region 16 with (fail)
              refine drawn_begin 14 (fun w' => w'.blk s = some (.cells SC2 75) ∧ w'.blk bb = some (.cells cs TT fr3)) (by kernel_rfl) ?_
              refine drawn_reads (fuel := 4) [0, 1, 2, 3, 4, 5, 6, 7, 11, 12, 13] rfl (by kernel_rfl) ⟨f4, f4b⟩ ?_
              repeat (first | (refine rowK_step2 rfl rfl (fun K hK => ?_); go_wp2) | (refine rowK_step rfl (fun K hK => ?_); go_simp; refine hK _ ?_; clear hK K))
              refine rowK_nil ⟨fun w' e1 => ?_, ?_⟩
              · obtain ⟨e1, e2⟩ := e1
                clear f4 f4b t4 hcv
                have hcv := HCV.out w' e2
                rw [← HX8.out] at hcv
                have t4 := World.at_lt e1
                repeat (first | (refine rowWp_step2 rfl rfl (fun K hK => ?_); go_wp2) | (refine rowWp_step rfl (fun K hK => ?_); go_simp; refine hK _ ?_; clear hK K))
                exact rowWp_nil rfl
              refine drawn_next 8 (fuel := 3) rfl (by kernel_rfl) ?_
              intro K hK
              go_wp2_with fail
              have c8 : ¬ cp2 = 8 := by omega
              have SP1 : Sl .u8 w4 (some ⟨bb, off + 8, none⟩) g (cp2 - 8) ((rest.drop 8).take g) := by
                have h := ((HS2.out.fr0 FF4.out)).part (i := 8) (j := 8 + g) (c := cp2) (by omega) (by omega) (by omega) (Nat.le_refl _)
                rw [if_neg c8, List.drop_take, Nat.add_sub_cancel_left] at h
                simpa [Addr.add_mid] using h
              have hPB : isBytes ((rest.drop 8).take g) := fun x hx => HB2.out x (List.mem_of_mem_drop (List.mem_of_mem_take hx))
              have hPL := SP1.len
              obtain ⟨P, hPe⟩ : ∃ P, P = (rest.drop 8).take g := ⟨_, rfl⟩
              rw [← hPe] at SP1 hPB hPL
              have HPE := Lib.hid hPe
              have HPB' := Lib.hid hPB
              have HS1' := Lib.hid SP1
              refine (record_f (k := k + 1) (by omega) (SP1.fr0 (Fr.refl [] w4).drew) hPB (by omega)).mono ?_
              rintro en w6 ⟨q6, m6, c6, rfl, B6⟩
              have F6 : Fr [] w4 w6 := (Fr.refl [] w4).drew.trans B6.own.fr
              have hrl : 8 ≤ m6 := by rw [← B6.len]; simp [recB, recH_length]
              have hcp6 := B6.sl.cap_
              have ht8 : (recB e (k + 1) P).take 8 = recH e (k + 1) P := by
                rw [recB, List.append_assoc, List.take_append_of_le_length (by rw [recH_length]; exact Nat.le_refl 8), List.take_of_length_le (by rw [recH_length]; exact Nat.le_refl 8)]
              have S6 : Sl .u8 w6 q6 8 c6 (recH e (k + 1) P) := by
                obtain ⟨b6, o6, cs6, T6, fr6, e6, fc6, h6, hx6⟩ := B6.sl.out (by omega)
                subst e6
                rw [← ht8]
                exact sl_pre fc6 h6 hx6 B6.len hrl hcp6
              have hcv6 := conv47 S6
              have f6 := F6.get f4 (by simp)
              have f6b := F6.get f4b (by simp)
              have k86 : (8 : Int) ≤ (c6 : Int) := by omega
              obtain ⟨Y8, hY8⟩ : ∃ Y8, Y8 = strB (recH e (k + 1) P) := ⟨_, rfl⟩
              rw [← hY8] at hcv6
              have HY8 := Lib.hid hY8
              have HF6 := Lib.hid F6
              have HFF := Lib.hid (HF4.out.trans (F6.mono (by simp)))
              clear F6 ht8 S6 B6 hY8 f4 f4b t4 SP1
              have t6 := World.at_lt f6
              go_wp2_with fail
              refine ⟨⟨f6, f6b⟩, ?_⟩
              refine drawn_next 9 (fuel := 2) rfl (by kernel_rfl) ?_
              intro K hK
              go_wp2_with fail
              refine ⟨⟨f6, f6b⟩, ?_⟩
              refine drawn_next 10 (fuel := 1) rfl (by kernel_rfl) ?_
              intro K hK
              go_wp2_with fail
              refine ⟨⟨f6, f6b⟩, ?_⟩
              refine drawn_end rfl (by kernel_rfl) ?_
              intro K hK
              obtain ⟨y, hy⟩ : ∃ y : Bool, y = decide (recH e (k + 1) P = rest.take 8) := ⟨_, rfl⟩
              have hbR : isBytes (recH e (k + 1) P) := Byt.append (byt_putB _ _) (byt_putB _ _)
              have hbe : (Y8.toList == X8.toList) = y := by
                rw [HY8.out, HX8.out, beq_str hbR (fun x hx => HB2.out x (List.mem_of_mem_take hx)), hy]
              have HYY := Lib.hid hy
              clear hy hcv hcv6 hbR
              have hne : ¬ rest = [] := fun h => hn0 (by rw [← HLN.out, h]; rfl)
              have hstep : R = if recH e (k + 1) P = rest.take 8 then (match rdPay P with
                  | none => none
                  | some l => if 64 < (allC L2 l).length then none else readR e (c - (k + 1)) (k + 1) (rest.drop ((8 + g + 63) / 64 * 64)) (allC L2 l)) else none := by
                rw [← HR2.out, show c - k = (c - (k + 1)) + 1 by omega, readR, if_neg hne, ← HG.out, HLN.out, if_neg (by omega), ← HPE.out]
                split <;> (cases rdPay P <;> rfl)
              have HST := Lib.hid hstep
              clear hne hstep
              cases y with
              | false =>
                have HRN := Lib.hid (HST.out.trans (if_neg (of_decide_eq_false HYY.out.symm)))
                go_wp2_with fail
                refine bodyPost_ret (results_tmp rfl _ _ _) rfl ?_
                rw [HRN.out]
                exact ⟨rfl, HFF.out⟩
              | true =>
                have HRS := Lib.hid (HST.out.trans (if_pos (of_decide_eq_true HYY.out.symm)))
                have HSP := Lib.hid (HS1'.out.fr0 HF6.out)
                go_wp2_with fail
                refine (unpack_f HSP.out HPB'.out (by omega)).mono ?_
                intro en w7 hU
                have hmap : MapAt w6 mb2 L2 gp := (HM2.out.fr0 (FF4.out.trans HF6.out))
                cases ho : rdPay P with
                | none =>
                  rw [ho] at hU
                  obtain ⟨rfl, F7⟩ := hU
                  have HRN := Lib.hid (HRS.out.trans (by rw [ho]))
                  have HM7 := Lib.hid (hmap.fr0 F7)
                  have f7 := F7.get f6 (by simp)
                  have HF7 := Lib.hid (HFF.out.trans (F7.mono (by simp)))
                  clear ho hmap F7 f6 f6b t6
                  have t7 := World.at_lt f7
                  have y6 := Array.getElem?_eq_some_iff.1 (show SC2[6]? = some (.map (some mb2)) by rw [HSC2.out]; rfl)
                  obtain ⟨y6', y6⟩ := y6
                  go_wp2_with fail
                  refine (apply_f HM7.out (fun k hk => Nat.lt_of_lt_of_le (HFP.out k hk) HF7.out.size) (l := []) ⟨[], ⟨rfl, Nat.le_refl _, .inl rfl, fun _ => rfl, by simp⟩, .nil⟩ (by simp) HSo2.out HBy2.out (by omega)).mono ?_
                  rintro en w8 ⟨b8, rfl, M8, F8, l8⟩
                  have f8 := F8.get f7 (by simp)
                  have HF8 := Lib.hid (fun o => (HF7.out.trans (F8.mono (by simp))).put s o (fun _ => by simp))
                  clear f7 t7 M8 F8 l8
                  have t8 := World.at_lt f8
                  go_wp2_with fail
                  refine bodyPost_ret (results_tmp rfl _ _ _) rfl ?_
                  rw [HRN.out]
                  exact ⟨rfl, HF8.out _⟩
                | some l =>
                  rw [ho] at hU
                  obtain ⟨q7, c7, rfl, C7, F7⟩ := hU
                  have F7' := Lib.hid F7
                  have HRL := Lib.hid (HRS.out.trans (by rw [ho]))
                  have HM7 := Lib.hid (hmap.fr0 F7)
                  have f7 := F7.get f6 (by simp)
                  have HF7 := Lib.hid (HFF.out.trans (F7.mono (by simp)))
                  clear hmap F7 f6 f6b t6
                  have t7 := World.at_lt f7
                  have y6 := Array.getElem?_eq_some_iff.1 (show SC2[6]? = some (.map (some mb2)) by rw [HSC2.out]; rfl)
                  obtain ⟨y6', y6⟩ := y6
                  have HOK := Lib.hid (rdPay_ok HPB'.out ho)
                  have hl64 := rdPay_len HPB'.out ho
                  clear ho
                  go_wp2_with fail
                  refine (apply_f HM7.out (fun k hk => Nat.lt_of_lt_of_le (HFP.out k hk) HF7.out.size) C7 HOK.out HSo2.out HBy2.out hl64).mono ?_
                  rintro en w8 ⟨b8, rfl, M8, F8, l8⟩
                  have f8 := F8.get f7 (by simp)
                  have nb1 : b8 ≠ s := by omega
                  have nb2 : s ≠ b8 := nb1.symm
                  obtain ⟨es, ck, hes, hez⟩ := M8.len
                  obtain ⟨z, hz⟩ : ∃ z, z = (allC L2 l).length := ⟨_, rfl⟩
                  rw [← hz] at hez
                  have HZ := Lib.hid hz
                  have hput : MapAt (w8.put s (.cells (stC d hs half e c i b8 br) 75)) b8 (allC L2 l) gp := M8.put f8 (by rw [HSC2.out]; exact stC_no)
                  have HM8 := Lib.hid hput
                  have HF8 := Lib.hid ((HF7.out.trans (F8.mono (by simp))).put s (.cells (stC d hs half e c i b8 br) 75) (fun _ => by simp))
                  have HB8 := Lib.hid (show Sl .u8 (w8.put s (.cells (stC d hs half e c i b8 br) 75)) (some ⟨bb, off, none⟩) n2 cp2 rest from (((HS2.out.fr0 FF4.out).fr0 HF6.out).fr0 (F7'.out.trans F8)).put2 (HQ2.out bb rfl))
                  have hset : SC2.setIfInBounds 6 (.map (some b8)) = stC d hs half e c i b8 br := by rw [HSC2.out]; rfl
                  have HSET := Lib.hid hset
                  clear hset
                  have t8 := World.at_lt f8
                  have tes := World.at_lt hes
                  have hln : ∀ W : World, W.blk b8 = some (.map es ck) → (Builtin.len_ #[70] 3 #[.map (some b8)]).run Try.prog W = .ok (.int .i64 (es.size : Int)) W := fun W hW => run_len_map W 70 3 b8 es ck (by kernel_rfl) hW
                  clear f7 t7 M8 F8 l8 hz hput C7
                  by_cases h64 : 64 < z
                  · have d64 : decide ((64 : Int) < (es.size : Int)) = true := by rw [decide_eq_true_eq]; omega
                    have HRN := Lib.hid (HRL.out.trans (if_pos (by rw [← HZ.out]; exact h64)))
                    go_wp2_with fail
                    refine bodyPost_ret (results_tmp rfl _ _ _) rfl ?_
                    rw [HRN.out]
                    rw [HSET.out]
                    exact ⟨rfl, HF8.out⟩
                  · have d64 : decide ((64 : Int) < (es.size : Int)) = false := by rw [decide_eq_false_iff_not]; omega
                    have HRN := Lib.hid (HRL.out.trans (if_neg (by rw [← HZ.out]; exact h64)))
                    go_wp2_with fail
                    go_roundw
                    case rel =>
                      rw [HSET.out, show 8 + g + 64 - 1 = 8 + g + 63 by omega]
                      obtain ⟨Z, hZ⟩ : ∃ Z, Z = (8 + g + 63) / 64 * 64 := ⟨_, rfl⟩
                      have hZn : Z ≤ n2 := by omega
                      have SP := HB8.out.part (i := Z) (j := n2) (c := cp2) hZn (Nat.le_refl _) hcp (Nat.le_refl _)
                      rw [List.take_of_length_le (Nat.le_of_eq HLN.out)] at SP
                      have hpe : (if cp2 = Z then some (⟨bb, off, none⟩ : Addr) else some ⟨bb, off + Z, none⟩) = if cp2 = Z then some (⟨bb, off, none⟩ : Addr) else (some (⟨bb, off, none⟩ : Addr)).map (·.add Z) := by
                        simp [Addr.add_mid]
                      rw [← hZ, hpe]
                      refine ⟨k + 1, _, _, _, by omega, rfl, by first | rfl | simp, Lib.hid ⟨HF8.out, b8, allC L2 l, rest.drop Z, World.at_put_same _ _ _ t8, HM8.out, SP, ?_, ?_, sorted_allC HSo2.out, byt_allC HBy2.out (fun c hc => (HOK.out c hc).nb), (fun x hx => HB2.out x (List.mem_of_mem_drop hx)), by omega, by omega⟩⟩
                      · intro g' hg'
                        have : g' = bb := by
                          split at hg'
                          · simpa using hg'.symm
                          · simpa [Addr.add_mid] using hg'.symm
                        subst this
                        exact HQ2.out g' rfl
                      · rw [HRN.out, hZ]
                    case measure => simp [intOf]; omega
        · obtain rfl : k = c := by omega
          have hd2 : decide ((k : Int) < (k : Int)) = false := by simp
          have hR0 : R = if rest = [] then some L2 else none := by rw [← HR2.out, Nat.sub_self, readR]
          have HR0 := Lib.hid hR0
          clear hR0
          by_cases hn0 : n2 = 0
          · have hr0 : rest = [] := List.eq_nil_of_length_eq_zero (by rw [HLN.out]; exact hn0)
            have HR1 := Lib.hid (HR0.out.trans (if_pos hr0))
            have d0 : ((n2 : Int) == 0) = true := by rw [hn0]; rfl
            clear hr0
            go_wp2_with fail
            refine bodyPost_ret (results_tmp rfl _ _ _) rfl ?_
            rw [HR1.out]
            exact ⟨⟨mb2, rfl, by rw [← HSC2.out]; exact fs, HM2.out⟩, HF2.out⟩
          · have hr0 : ¬ rest = [] := fun h => hn0 (by rw [← HLN.out, h]; rfl)
            have HR1 := Lib.hid (HR0.out.trans (if_neg hr0))
            have d0 : ((n2 : Int) == 0) = false := by rw [beq_eq_false_iff_ne]; omega
            clear hr0
            go_wp2_with fail
            refine bodyPost_ret (results_tmp rfl _ _ _) rfl ?_
            rw [HR1.out]
            exact ⟨rfl, HF2.out⟩
end
end Go.Proofs.Ytombhkekocbfoaa
