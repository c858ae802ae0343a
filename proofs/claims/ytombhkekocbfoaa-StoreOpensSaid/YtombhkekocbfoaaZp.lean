/- Joined: SoZ, DcA, SoV, SoZf. -/
import Derived.Test.YtombhkekocbfoaaZj
import Derived.Test.YtombhkekocbfoaaZk
import Derived.Test.YtombhkekocbfoaaZf
import Derived.Test.YtombhkekocbfoaaZn
import Derived.Test.YtombhkekocbfoaaZo
set_option linter.unusedVariables false
set_option linter.unusedSimpArgs false
namespace Go.Proofs.Ytombhkekocbfoaa
open Go.RowKit Go.Dr Go.Kd Go.St
section
variable {w : World} {ops : Array Oper} {rest : List Oper} {o : Oper} {a : Act} {Q : Exit → Act → World → Prop} {p q : Option Addr} {n m c : Nat} {vs us : List Value}
theorem wpList_grow46 (hgd : o.guard = none) (s x : Operand) (ho : o.op = .call { callee := .builtin .append, args := #[s, x], argTypes := #[46, 46] })
    (hs : a.eval s = .slice p n n) (S0 : Sv 1 w p n n vs) (hx : a.eval x = .slice q m c) (S : Sv 1 w q m c us) (h1 : ∀ u ∈ vs, u.oneCell' = true) (h2 : ∀ u ∈ us, u.oneCell' = true) (hm : 0 < m) (hbig : n + m ≤ 1000000)
    (h : ∀ p' cap' w', BldV w [] 22 1 w' p' (n + m) cap' (vs ++ us) → wpList Try.prog ops Q rest (a.put o.dst (.slice p' (n + m) cap')) w') : wpList Try.prog ops Q (o :: rest) a w := by
  obtain ⟨i, hi, hz, hs1, hb1⟩ := info_parts info47
  exact wpList_grow hgd s x 46 46 ho Try.underlying46 hi hz hs1 (by omega) hb1 rfl hs (S0.src Try.underlying46 h1) hx (Apd.ofSrc Try.underlying46 hi hz (by rw [hs1]; exact S.src Try.underlying46 h2)) hm (by omega) (by omega) fun p' cap' w' B => h p' cap' w' B
end
section
variable {w : World}
set_option maxRecDepth 100000 in
set_option maxHeartbeats 8000000 in
theorem dpay_f {p : Option Addr} {n cap : Nat} {l : List Chg} (T : Chs w p n cap l) (hok : ∀ c ∈ l, ChgB c) (hn : n ≤ 64) :
    Calls Try.prog 50 #[.slice p n cap] w fun en w' => ∃ q m cp, en = .returned (.slice q m cp) ∧ Bld w [] .u8 5 w' q m cp (payB l) := by
  have HS := Lib.hid T
  have HL := Lib.hid T.len
  have HOK := Lib.hid hok
  have HFIT := Lib.hid (payB_fits (fun c hc => (hok c hc).ok) (by rw [T.len]; exact hn))
  have ep : payB l = joinB (l.map fun c => joinB (chgP c)) := rfl
  rw [ep]
  obtain ⟨G, hG⟩ : ∃ G : Chg → Bs, G = fun c => joinB (chgP c) := ⟨_, rfl⟩
  rw [← hG] at HFIT ⊢
  have HGE := Lib.hid hG
  clear T hok ep hG
  go_enter Try.func50, Try.ntmps50
  go_wp2_with fail
  go_loopw [3, 4] (fun v iv wy => ∃ (i : Nat) (q : Option Addr) (c : Nat), i ≤ n ∧ v = .slice q i c ∧ iv = .int .i64 (i : Int) ∧ Hid (Gw w [] wy q i c ((l.take i).map G))) (fun _ iv _ => (n - intOf iv).toNat)
  case atStart => exact ⟨0, none, 0, by omega, rfl, rfl, Lib.hid ⟨[], [], BldV.nil (OwB.start w), fun _ _ => .nil⟩⟩
  case round =>
    obtain ⟨i, q, c, hin, rfl, rfl, hW⟩ := hrel
    by_cases hlt : i < n
    · have hd : decide ((i : Int) < (n : Int)) = true := by rw [decide_eq_true_eq]; omega
      obtain ⟨x, q2, m2, d2, b, off, cs, TT, fr, hx, rfl, fb, hsz, hext, S2⟩ := (HS.out.fr0 hW.out.own.fr).at hlt
      have okx := HOK.out x (List.mem_of_getElem? hx)
      have e0 := congrArg (fun a => a[0]?) hext
      have e1 := congrArg (fun a => a[1]?) hext
      have e2 := congrArg (fun a => a[2]?) hext
      rw [Array.getElem?_extract_of_lt (by omega)] at e0 e1 e2
      obtain ⟨g, hg⟩ : ∃ g, g = x.gone := ⟨_, rfl⟩
      have x0 : ∃ h : off + i * 3 < cs.size, cs[off + i * 3] = .string (strB x.name) := ⟨by omega, by simpa using e0⟩
      have x1 : ∃ h : off + i * 3 + 1 < cs.size, cs[off + i * 3 + 1] = .slice q2 m2 d2 := ⟨by omega, by simpa using e1⟩
      have x2 : ∃ h : off + i * 3 + 2 < cs.size, cs[off + i * 3 + 2] = .bool g := ⟨by omega, by rw [hg]; simpa using e2⟩
      obtain ⟨x0', x0⟩ := x0
      obtain ⟨x1', x1⟩ := x1
      obtain ⟨x2', x2⟩ := x2
      have htk : (l.take (i + 1)).map G = (l.take i).map G ++ [joinB (chgP x)] := by
        rw [List.take_add_one, hx, HGE.out]
        simp
      have HTK := Lib.hid htk
      have HS2 := Lib.hid S2
      have HOX := Lib.hid okx
      have tb := World.at_lt fb
      have ki : (i : Int) < (n : Int) := by omega
      have hcp : chgP x = if x.gone then [x.name] else [x.name, x.val] := rfl
      rw [← hg] at hcp
      have HCP := Lib.hid hcp
      obtain ⟨cp, R, hcv, hcs⟩ := conv_str okx.nb wr
      have HCS := Lib.hid hcs
      have lnm : x.name.length ≤ 32 := okx.ok.n2
      have lvl : x.val.length ≤ 4000 := okx.ok.v
      obtain ⟨nl, hnl⟩ : ∃ nl, nl = x.name.length := ⟨_, rfl⟩
      rw [← hnl] at hcv
      have HNL := Lib.hid hnl
      have HFB := Lib.hid fb
      have HWW := Lib.hid hW.out
      clear e0 e1 e2 hext hx S2 okx htk hcp hg hcs hnl hW
      go_upto_region 6 with (fail)
      have hG7 := ((HWW.out.call (Fr.refl [] wr).drew).alloc (.cells R 5 (R.size, R.size + 1)) wr.heap.size rfl).alloc (.cells #[.slice (some ⟨wr.heap.size, 0, none⟩) nl cp] 22) (wr.heap.size + 1) (by simp)
      refine named_world (A := fun X => Gw w [(wr.heap.size + 1, .cells #[.slice (some ⟨wr.heap.size, 0, none⟩) nl cp] 22), (wr.heap.size, .cells R 5 (R.size, R.size + 1))] X q i c ((l.take i).map G) ∧ Fr [] wr X) (Q := fun X => Code.wp _ _ _ _ X) ⟨hG7, ((Fr.refl [] wr).drew.alloc _).alloc _⟩ ?_
      clear hG7 hcv
      rintro X ⟨hX, FX⟩
      generalize wr.heap.size + 1 = b7 at hX ⊢
      generalize wr.heap.size = bs at hX ⊢
      have HX := Lib.hid hX
      have HFX := Lib.hid FX
      have fb := FX.get HFB.out (by simp)
      have tb := World.at_lt fb
      have HSN := Lib.hid (show Sl .u8 X (some ⟨bs, 0, none⟩) nl cp x.name by rw [HNL.out]; exact HCS.out X bs _ (hX.own.nth 1 rfl))
      have HS3 := Lib.hid (HS2.out.fr0 FX)
      clear hX FX
      cases g with
      | true =>
        go_wp2_with fail
        have SL : Sll X (some ⟨b7, 0, none⟩) 1 1 [x.name] := Sll.of (Sv.one (HX.out.own.nth 0 rfl)) (.cons HSN.out .nil)
        refine (rall_f SL (by simp [fits]; omega)).mono ?_
        clear SL
        rintro en w4 ⟨q4, m4, c4, rfl, B4⟩
        have B4' : Bld X [] .u8 5 w4 q4 m4 c4 (joinB (chgP x)) := by rw [HCP.out]; exact B4
        have HP := Lib.hid (HX.out.piece B4')
        clear B4 B4' fb tb
        go_wp2_with (refine wpList_gw rfl _ _ rfl rfl rfl (HP.out.call ((Fr.refl [] w4).alloc _)) (World.at_alloc_new _ _ _ rfl) (by omega) ?_)
        intro q5 c5 W5 G5
        have HG5 := Lib.hid G5.pop.pop
        clear G5 HP
        go_wp2_with fail
        go_roundw
        case rel => exact ⟨i + 1, q5, c5, hlt, by first | rfl | simp, by first | rfl | simp, Lib.hid (by rw [HTK.out]; first | exact HG5.out | (have h := HG5.out; simp only [← List.map_take] at h; exact h))⟩
        case measure => simp [intOf]; omega
      | false =>
        have hsv1 : ∀ W : World, Fr [] X W → Sv 1 W (some ⟨b7, 0, none⟩) 1 1 [.slice (some ⟨bs, 0, none⟩) nl cp] := fun W F => Sv.one (F.get (HX.out.own.nth 0 rfl) (by simp))
        have HSV1 := Lib.hid hsv1
        clear hsv1
        go_wp2_with (refine wpList_grow46 rfl _ _ rfl rfl (HSV1.out _ ((Fr.refl [] X).alloc _)) rfl (Sv.one (World.at_alloc_new _ _ _ rfl)) (by simp [Value.oneCell']) (by simp [Value.oneCell']) (by omega) (by omega) ?_)
        intro q6 c6 W6 B6
        have HB6 := Lib.hid B6
        clear B6 HSV1
        have F6 : Fr [] X W6 := ((Fr.refl [] X).alloc _).trans HB6.out.own.fr
        have HX6 := Lib.hid (HX.out.call F6)
        have SL6 : Sll W6 q6 2 c6 [x.name, x.val] := Sll.of HB6.out.sv (.cons (HSN.out.fr0 F6) (.cons (HS3.out.fr0 F6) .nil))
        have HSL := Lib.hid SL6
        clear SL6 F6 HB6 HX fb tb
        go_wp2_with fail
        refine (rall_f HSL.out (by simp [fits]; omega)).mono ?_
        rintro en w4 ⟨q4, m4, c4, rfl, B4⟩
        have B4' : Bld W6 [] .u8 5 w4 q4 m4 c4 (joinB (chgP x)) := by rw [HCP.out]; exact B4
        have HP := Lib.hid (HX6.out.piece B4')
        clear B4 B4' HSL HX6
        go_wp2_with (refine wpList_gw rfl _ _ rfl rfl rfl (HP.out.call ((Fr.refl [] w4).alloc _)) (World.at_alloc_new _ _ _ rfl) (by omega) ?_)
        intro q5 c5 W5 G5
        have HG5 := Lib.hid G5.pop.pop
        clear G5 HP
        go_wp2_with fail
        go_roundw
        case rel => exact ⟨i + 1, q5, c5, hlt, by first | rfl | simp, by first | rfl | simp, Lib.hid (by rw [HTK.out]; first | exact HG5.out | (have h := HG5.out; simp only [← List.map_take] at h; exact h))⟩
        case measure => simp [intOf]; omega
    · obtain rfl : i = n := by omega
      have hd : decide ((i : Int) < (i : Int)) = false := by simp
      have htk : l.take i = l := List.take_of_length_le (by rw [HL.out]; exact Nat.le_refl _)
      rw [htk] at hW
      clear htk
      go_wp2_with fail
      refine (rall_f hW.out.sll HFIT.out).mono ?_
      rintro en w3 ⟨q3, m3, c3, rfl, B3⟩
      have HB3 := Lib.hid (B3.lift ((OwB.start w).call hW.out.own.fr))
      clear B3
      go_wp2_with fail
      exact bodyPost_ret (results_tmp rfl _ _ _) rfl ⟨q3, m3, c3, rfl, HB3.out⟩
end
end Go.Proofs.Ytombhkekocbfoaa
namespace Go.Proofs.Ytombhkekocbfoaa
open Go.RowKit Go.Dr Go.Kd
section
variable {w : World}
set_option maxRecDepth 100000 in
set_option maxHeartbeats 2000000 in
theorem bytes_f {p q : Option Addr} {n c m d : Nat} {A B : List Int} (S : Sl .u8 w p n c A) (R : Sl .u8 w q m d B) (hA : isBytes A) (hB : isBytes B) :
    Calls Try.prog 14 #[.slice p n c, .slice q m d] w fun e w' => e = .returned (.bool (decide (A = B))) ∧ Fr [] w w' := by
  have h1 := conv47 S
  have h2 := conv47 R
  obtain ⟨y, hy⟩ : ∃ y, ((strB A).toList == (strB B).toList) = y := ⟨_, rfl⟩
  rw [← beq_str hA hB, hy]
  have HF := Lib.hid (Fr.refl [] w)
  clear S R
  go_enter Try.func14, Try.ntmps14
  go_wp2_with fail
  exact bodyPost_ret (results_tmp rfl _ _ _) rfl ⟨by simp [hy], HF.out⟩
end
end Go.Proofs.Ytombhkekocbfoaa
namespace Go.St
open Go.Kd Go.Dr
theorem putL_le {n v : Bs} : ∀ L : List (Bs × Bs), (putL n v L).length ≤ L.length + 1 := by
  intro L
  induction L with
  | nil => exact Nat.le_refl _
  | cons x L ih =>
    rw [putL]
    split
    · simp
    · split
      · simp
      · simp; omega
theorem doC_le (L : List (Bs × Bs)) (c : Chg) : (doC L c).length ≤ L.length + 1 := by
  unfold doC
  split
  · exact Nat.le_trans (List.length_filter_le _ _) (Nat.le_succ _)
  · exact putL_le L
theorem allC_le : ∀ (l : List Chg) (L : List (Bs × Bs)), (allC L l).length ≤ L.length + l.length := by
  intro l
  induction l with
  | nil => intro L; exact Nat.le_refl _
  | cons c l ih =>
    intro L
    have h1 := ih (doC L c)
    have h2 := doC_le L c
    show (allC (doC L c) l).length ≤ _
    rw [List.length_cons]
    omega
end Go.St
namespace Go.Proofs.Ytombhkekocbfoaa
open Go.RowKit Go.Dr Go.Kd Go.St
theorem sum_cast (s x y : Nat) : ((s + 1 + min x 30000 + min y 30000 : Nat) : Int) = (s : Int) + 1 + min (x : Int) 30000 + min (y : Int) 30000 := by omega
section
variable {w : World}
set_option maxRecDepth 100000 in
set_option maxHeartbeats 8000000 in
theorem dall_f {av : List Nat} (hav : ∀ b ∈ av, b < w.heap.size) {p : Option Addr} {n cap : Nat} {L : List (Bs × Bs)} (T : ChsA w av p n cap (asC L)) (hL : ∀ x ∈ L, Byt x.1) (hS : Sorted L) (hn : n ≤ 40000) {q : Option Addr} {m d : Nat} {l : List Chg} (C : ChsA w av q m d l) (hl : ∀ c ∈ l, Byt c.name) (hm : m ≤ 40000) :
    Calls Try.prog 26 #[.slice p n cap, .slice q m d] w fun e w' => ∃ q' k c, e = .returned (.slice q' k c) ∧ ChsA w' av q' k c (asC (allC L l)) ∧ Fr [] w w' := by
  have HAV := Lib.hid hav
  have HT := Lib.hid T
  have HC := Lib.hid C
  have HLB := Lib.hid hL
  have HSO := Lib.hid hS
  have HCB := Lib.hid hl
  have hlen : L.length = n := by have := T.chs.len; simpa [asC] using this
  have HLEN := Lib.hid hlen
  have HM := Lib.hid C.chs.len
  clear hav T C hL hS hl hlen
  go_enter Try.func26, Try.ntmps26
  go_wp2_with fail
  go_loopw [0, 5] (fun v iv wy => ∃ (i : Nat) (q' : Option Addr) (k c : Nat), i ≤ m ∧ v = .slice q' k c ∧ iv = .int .i64 (i : Int) ∧ Hid (ChsA wy av q' k c (asC (allC L (l.take i))) ∧ Fr [] w wy)) (fun _ iv _ => (m - intOf iv).toNat)
  case atStart => exact ⟨0, p, n, cap, by omega, rfl, rfl, Lib.hid ⟨HT.out, Fr.refl _ _⟩⟩
  case round =>
    obtain ⟨i, q', k, c, hin, rfl, rfl, hW⟩ := hrel
    by_cases hlt : i < m
    · have hd : decide ((i : Int) < (m : Int)) = true := by rw [decide_eq_true_eq]; omega
      obtain ⟨x, q2, m2, d2, b, off, cs, TT, fr, hx, rfl, fb, hsz, hext, S2, hxa⟩ := (HC.out.fr0 hW.out.2).at hlt
      obtain ⟨B, hB⟩ : ∃ B : Array Value, B = #[.string (strB x.name), .slice q2 m2 d2, .bool x.gone] := ⟨_, rfl⟩
      rw [← hB] at hext
      have szB : B.size = 3 := by rw [hB]; rfl
      have onB : ones B.toList = true := by rw [hB]; rfl
      have htk : allC L (l.take (i + 1)) = doC (allC L (l.take i)) x := by
        rw [List.take_add_one, hx]
        exact allC_snoc
      have HTK := Lib.hid htk
      have hkl : k ≤ 100000 := by
        have h1 := hW.out.1.chs.len
        rw [asC, List.length_map] at h1
        have h2 := allC_le (l.take i) L
        rw [List.length_take, HLEN.out] at h2
        omega
      have hxb := HCB.out x (List.mem_of_getElem? hx)
      have HXB := Lib.hid hxb
      have HBB := Lib.hid hB
      have HS2 := Lib.hid S2
      have HXA := Lib.hid hxa
      have hbt : ∀ y ∈ allC L (l.take i), Byt y.1 := byt_allC HLB.out fun c hc => HCB.out c (List.mem_of_mem_take hc)
      have HBT := Lib.hid hbt
      have tb := World.at_lt fb
      have ki : (i : Int) < (m : Int) := by omega
      clear hx htk hxb hB S2 hxa hbt
      go_wp2_with fail
      rw [HBB.out]
      refine (do_f (fun b hb => Nat.lt_of_lt_of_le (HAV.out b hb) hW.out.2.size) hW.out.1 HBT.out (sorted_allC HSO.out) hkl HS2.out HXA.out HXB.out).mono ?_
      rintro en w2 ⟨q3, k3, c3, rfl, C3, F3⟩
      have HW3 := Lib.hid (show ChsA w2 av q3 k3 c3 (asC (allC L (l.take (i + 1)))) ∧ Fr [] w w2 from ⟨by rw [HTK.out]; exact C3, hW.out.2.trans F3⟩)
      clear C3 F3
      go_wp2_with fail
      go_roundw
      case rel => exact ⟨i + 1, q3, k3, c3, hlt, rfl, by first | rfl | simp, HW3⟩
      case measure => simp [intOf]; omega
    · obtain rfl : i = m := by omega
      have hd : decide ((i : Int) < (i : Int)) = false := by simp
      have htk : l.take i = l := List.take_of_length_le (by rw [HM.out]; exact Nat.le_refl _)
      rw [htk] at hW
      clear htk
      go_wp2_with fail
      exact bodyPost_ret (results_tmp rfl _ _ _) rfl ⟨q', k, c, rfl, hW.out.1, hW.out.2⟩
set_option maxRecDepth 100000 in
set_option maxHeartbeats 8000000 in
theorem small_f {p : Option Addr} {n cap : Nat} {l : List Chg} (T : Chs w p n cap l) (hn : n ≤ 9223372036854775807) :
    Calls Try.prog 25 #[.slice p n cap] w fun e w' => ∃ r, e = .returned (.bool r) ∧ Fr [] w w' ∧ (r = true → n < 30000) := by
  have HT := Lib.hid T
  clear T
  go_enter Try.func25, Try.ntmps25
  go_wp2_with fail
  go_loopw [3, 4] (fun sv iv wy => ∃ (i s : Nat), i ≤ n ∧ i ≤ s ∧ s ≤ 90001 ∧ sv = .int .i64 (s : Int) ∧ iv = .int .i64 (i : Int) ∧ Hid (Fr [] w wy)) (fun _ iv _ => (n - intOf iv).toNat)
  case atStart => exact ⟨0, 0, by omega, by omega, by omega, rfl, rfl, Lib.hid (Fr.refl _ _)⟩
  case round =>
    obtain ⟨i, s, hin, his, hs9, rfl, rfl, hW⟩ := hrel
    by_cases hlt : i < n
    · have hd : decide ((i : Int) < (n : Int)) = true := by rw [decide_eq_true_eq]; omega
      by_cases hs : s < 30000
      · have hds : decide ((s : Int) < 30000) = true := by rw [decide_eq_true_eq]; omega
        obtain ⟨x, q2, m2, d2, b, off, cs, TT, fr, hx, rfl, fb, hsz, hext, S2⟩ := (HT.out.fr0 hW.out).at hlt
        have e0 := congrArg (fun a => a[0]?) hext
        have e1 := congrArg (fun a => a[1]?) hext
        rw [Array.getElem?_extract_of_lt (by omega)] at e0 e1
        obtain ⟨X, hX⟩ : ∃ X, X = strB x.name := ⟨_, rfl⟩
        have x0 : ∃ h : off + i * 3 < cs.size, cs[off + i * 3] = .string X := ⟨by omega, by rw [hX]; simpa using e0⟩
        have x1 : ∃ h : off + i * 3 + 1 < cs.size, cs[off + i * 3 + 1] = .slice q2 m2 d2 := ⟨by omega, by simpa using e1⟩
        obtain ⟨x0', x0⟩ := x0
        obtain ⟨x1', x1⟩ := x1
        have tb := World.at_lt fb
        have ki : (i : Int) < (n : Int) := by omega
        clear e0 e1 hext hx S2 hX
        go_upto_region 5 with (fail)
        refine drawn_begin 18 (fun w' => w'.blk b = some (.cells cs TT fr)) (by kernel_rfl) ?_
        refine drawn_reads (fuel := 1) [0, 1, 2, 3, 4, 5, 6, 7, 8, 9, 10, 11, 12, 13, 14, 15, 16, 17] rfl (by kernel_rfl) fb ?_
        repeat (first | (refine rowK_step2 rfl rfl (fun K hK => ?_); go_wp2) | (refine rowK_step rfl (fun K hK => ?_); go_simp; refine hK _ ?_; clear hK K))
        refine rowK_nil ⟨fun w' e1 => ?_, ?_⟩
        · clear fb tb
          have tb := World.at_lt e1
          repeat (first | (refine rowWp_step2 rfl rfl (fun K hK => ?_); go_wp2) | (refine rowWp_step rfl (fun K hK => ?_); go_simp; refine hK _ ?_; clear hK K))
          exact rowWp_nil rfl
        refine drawn_end rfl (by kernel_rfl) ?_
        intro K hK
        have HF := Lib.hid (hW.out.drew)
        have HSM := Lib.hid (sum_cast s X.size m2)
        clear hW
        go_wp2_with fail
        go_roundw
        case rel => exact ⟨i + 1, s + 1 + min X.size 30000 + min m2 30000, hlt, by omega, by omega, by rw [HSM.out], by first | rfl | simp, HF⟩
        case measure => simp [intOf]; omega
      · have hds : decide ((s : Int) < 30000) = false := by rw [decide_eq_false_iff_not]; omega
        go_wp2_with fail
        refine bodyPost_ret (results_tmp rfl _ _ _) rfl ⟨_, rfl, hW.out, ?_⟩
        intro h
        cases h
    · obtain rfl : i = n := by omega
      have hd : decide ((i : Int) < (i : Int)) = false := by simp
      go_wp2_with fail
      refine bodyPost_ret (results_tmp rfl _ _ _) rfl ⟨_, rfl, hW.out, ?_⟩
      intro h
      simp at h
      omega
set_option maxRecDepth 100000 in
set_option maxHeartbeats 8000000 in
theorem same_f {p : Option Addr} {n cap : Nat} {la lb : List Chg} (A : Chs w p n cap la) {q : Option Addr} {m d : Nat} (B : Chs w q m d lb) (ha : ∀ c ∈ la, Byt c.name ∧ Byt c.val) (hb : ∀ c ∈ lb, Byt c.name ∧ Byt c.val) (hn : n ≤ 1000000) :
    Calls Try.prog 23 #[.slice p n cap, .slice q m d] w fun e w' => ∃ r, e = .returned (.bool r) ∧ Fr [] w w' ∧ (r = true ↔ la = lb) := by
  have HA := Lib.hid A
  have HB := Lib.hid B
  have HAB := Lib.hid ha
  have HBB := Lib.hid hb
  have HLA := Lib.hid A.len
  have HLB := Lib.hid B.len
  clear A B ha hb
  go_enter Try.func23, Try.ntmps23
  by_cases hnm : n = m
  · subst hnm
    have hne : ((n : Int) != (n : Int)) = false := by simp
    go_wp2_with fail
    go_loopw [5] (fun iv wy => ∃ i : Nat, i ≤ n ∧ iv = .int .i64 (i : Int) ∧ Hid (la.take i = lb.take i ∧ Fr [] w wy)) (fun iv _ => (n - intOf iv).toNat)
    case atStart => exact ⟨0, by omega, rfl, Lib.hid ⟨rfl, Fr.refl _ _⟩⟩
    case round =>
      obtain ⟨i, hin, rfl, hW⟩ := hrel
      by_cases hlt : i < n
      · have hd : decide ((i : Int) < (n : Int)) = true := by rw [decide_eq_true_eq]; omega
        obtain ⟨x, qx, mx, dx, b, off, cs, TT, fr, hx, rfl, fb, hsz, hext, Sx⟩ := (HA.out.fr0 hW.out.2).at hlt
        obtain ⟨y, qy, my, dy, b2, off2, cs2, TT2, fr2, hy, rfl, fb2, hsz2, hext2, Sy⟩ := (HB.out.fr0 hW.out.2).at hlt
        have e0 := congrArg (fun a => a[0]?) hext
        have e1 := congrArg (fun a => a[1]?) hext
        have e2 := congrArg (fun a => a[2]?) hext
        rw [Array.getElem?_extract_of_lt (by omega)] at e0 e1 e2
        have g0 := congrArg (fun a => a[0]?) hext2
        have g1 := congrArg (fun a => a[1]?) hext2
        have g2 := congrArg (fun a => a[2]?) hext2
        rw [Array.getElem?_extract_of_lt (by omega)] at g0 g1 g2
        obtain ⟨X, hX⟩ : ∃ X, X = strB x.name := ⟨_, rfl⟩
        obtain ⟨Y, hY⟩ : ∃ Y, Y = strB y.name := ⟨_, rfl⟩
        obtain ⟨gx, hgx⟩ : ∃ gx, gx = x.gone := ⟨_, rfl⟩
        obtain ⟨gy, hgy⟩ : ∃ gy, gy = y.gone := ⟨_, rfl⟩
        have x0 : ∃ h : off + i * 3 < cs.size, cs[off + i * 3] = .string X := ⟨by omega, by rw [hX]; simpa using e0⟩
        have x1 : ∃ h : off + i * 3 + 1 < cs.size, cs[off + i * 3 + 1] = .slice qx mx dx := ⟨by omega, by simpa using e1⟩
        have x2 : ∃ h : off + i * 3 + 2 < cs.size, cs[off + i * 3 + 2] = .bool gx := ⟨by omega, by rw [hgx]; simpa using e2⟩
        have y0 : ∃ h : off2 + i * 3 < cs2.size, cs2[off2 + i * 3] = .string Y := ⟨by omega, by rw [hY]; simpa using g0⟩
        have y1 : ∃ h : off2 + i * 3 + 1 < cs2.size, cs2[off2 + i * 3 + 1] = .slice qy my dy := ⟨by omega, by simpa using g1⟩
        have y2 : ∃ h : off2 + i * 3 + 2 < cs2.size, cs2[off2 + i * 3 + 2] = .bool gy := ⟨by omega, by rw [hgy]; simpa using g2⟩
        obtain ⟨x0', x0⟩ := x0
        obtain ⟨x1', x1⟩ := x1
        obtain ⟨x2', x2⟩ := x2
        obtain ⟨y0', y0⟩ := y0
        obtain ⟨y1', y1⟩ := y1
        obtain ⟨y2', y2⟩ := y2
        have tb := World.at_lt fb
        have tb2 := World.at_lt fb2
        have ki : (i : Int) < (n : Int) := by omega
        have hax := HAB.out x (List.mem_of_getElem? hx)
        have hby := HBB.out y (List.mem_of_getElem? hy)
        obtain ⟨ye, hye⟩ : ∃ ye : Bool, ye = decide (x.name = y.name) := ⟨_, rfl⟩
        have hyeq : (X.toList == Y.toList) = ye := by rw [hX, hY, beq_str hax.1 hby.1, hye]
        have HYE := Lib.hid hye
        have HAX := Lib.hid hax.2
        have HBY := Lib.hid hby.2
        have HSX := Lib.hid Sx
        have HSY := Lib.hid Sy
        have HX2 := Lib.hid hx
        have HY2 := Lib.hid hy
        have HGX := Lib.hid hgx
        have HGY := Lib.hid hgy
        have hno : x ≠ y → la ≠ lb := fun h e => by
          rw [e, hy] at hx
          exact h (Option.some.inj hx).symm
        have HNO := Lib.hid hno
        clear e0 e1 e2 g0 g1 g2 hext hext2 hx hy Sx Sy hX hY hgx hgy hax hby hye hno
        go_upto_region 6 with (fail)
        cases ye with
        | false =>
          have HN := Lib.hid (HNO.out (fun e => by have := HYE.out; rw [e] at this; simp at this))
          have HF := Lib.hid hW.out.2.drew
          clear hW
          refine drawn_begin 38 (fun w' => w'.blk b = some (.cells cs TT fr) ∧ w'.blk b2 = some (.cells cs2 TT2 fr2)) (by kernel_rfl) ?_
          refine drawn_reads (fuel := 0) [0, 1, 2, 3, 4, 5, 6, 7, 8, 9, 10, 11, 12, 13, 14, 15, 16, 17, 18, 19, 20, 21, 22, 23, 24, 25, 26, 27, 28, 29, 30, 31, 32, 33, 34, 35, 36, 37] rfl (by kernel_rfl) ⟨fb, fb2⟩ ?_
          repeat (first | (refine rowK_step2 rfl rfl (fun K hK => ?_); go_wp2) | (refine rowK_step rfl (fun K hK => ?_); go_simp; refine hK _ ?_; clear hK K))
          refine rowK_nil ⟨?_, ?_⟩
          · first | (rintro w' ⟨e1, e2⟩) | (intro w' e1 e2)
            clear fb fb2 tb tb2
            have tb := World.at_lt e1
            have tb2 := World.at_lt e2
            repeat (first | (refine rowWp_step2 rfl rfl (fun K hK => ?_); go_wp2) | (refine rowWp_step rfl (fun K hK => ?_); go_simp; refine hK _ ?_; clear hK K))
            exact rowWp_nil rfl
          refine drawn_end (ol := []) rfl (by kernel_rfl) ?_
          intro K hK
          go_wp2_with fail
          exact bodyPost_ret (results_tmp rfl _ _ _) rfl ⟨false, rfl, HF.out, by simp [HN.out]⟩
        | true =>
          by_cases hgg : gx = gy
          · subst hgg
            have hgne : (gx != gx) = false := by simp
            have HF0 := Lib.hid hW.out.2
            have HTK := Lib.hid hW.out.1
            clear hW
            refine drawn_begin 38 (fun w' => w'.blk b = some (.cells cs TT fr) ∧ w'.blk b2 = some (.cells cs2 TT2 fr2)) (by kernel_rfl) ?_
            refine drawn_reads (fuel := 3) [0, 1, 2, 3, 4, 5, 6, 7, 8, 9, 10, 11, 12, 13, 14, 15, 16, 17, 18, 19, 20, 21, 22, 23, 24, 25, 26, 27, 28, 29, 30, 31, 32, 33, 34] rfl (by kernel_rfl) ⟨fb, fb2⟩ ?_
            repeat (first | (refine rowK_step2 rfl rfl (fun K hK => ?_); go_wp2) | (refine rowK_step rfl (fun K hK => ?_); go_simp; refine hK _ ?_; clear hK K))
            refine rowK_nil ⟨?_, ?_⟩
            · first | (rintro w' ⟨e1, e2⟩) | (intro w' e1 e2)
              clear fb fb2 tb tb2
              have tb := World.at_lt e1
              have tb2 := World.at_lt e2
              repeat (first | (refine rowWp_step2 rfl rfl (fun K hK => ?_); go_wp2) | (refine rowWp_step rfl (fun K hK => ?_); go_simp; refine hK _ ?_; clear hK K))
              exact rowWp_nil rfl
            refine drawn_next 35 (fuel := 2) rfl (by kernel_rfl) ?_
            intro K hK
            go_wp2_with fail
            have FD : Fr [] wr wr.drew := (Fr.refl [] wr).drew
            refine (bytes_f (A := x.val) (B := y.val) (HSX.out.fr0 FD) (HSY.out.fr0 FD) HAX.out HBY.out).mono ?_
            rintro en w2 ⟨rfl, F2⟩
            have F2' := FD.trans F2
            have HF2 := Lib.hid (HF0.out.trans F2')
            have fb := F2'.get fb (by simp)
            have fb2 := F2'.get fb2 (by simp)
            obtain ⟨vv, hvv⟩ : ∃ vv : Bool, vv = decide (x.val = y.val) := ⟨_, rfl⟩
            rw [← hvv]
            have HVV := Lib.hid hvv
            clear F2 F2' FD hvv tb tb2
            have tb := World.at_lt fb
            have tb2 := World.at_lt fb2
            go_wp2_with fail
            refine ⟨⟨fb, fb2⟩, ?_⟩
            refine drawn_reads (fuel := 0) [36, 37] rfl (by kernel_rfl) ⟨fb, fb2⟩ ?_
            repeat (first | (refine rowK_step2 rfl rfl (fun K hK => ?_); go_wp2) | (refine rowK_step rfl (fun K hK => ?_); go_simp; refine hK _ ?_; clear hK K))
            refine rowK_nil ⟨?_, ?_⟩
            · first | (rintro w' ⟨e1, e2⟩) | (intro w' e1 e2)
              clear fb fb2 tb tb2
              have tb := World.at_lt e1
              have tb2 := World.at_lt e2
              repeat (first | (refine rowWp_step2 rfl rfl (fun K hK => ?_); go_wp2) | (refine rowWp_step rfl (fun K hK => ?_); go_simp; refine hK _ ?_; clear hK K))
              exact rowWp_nil rfl
            refine drawn_end (ol := []) rfl (by kernel_rfl) ?_
            intro K hK
            cases vv with
            | false =>
              have HN := Lib.hid (HNO.out (fun e => by have := HVV.out; rw [e] at this; simp at this))
              go_wp2_with fail
              exact bodyPost_ret (results_tmp rfl _ _ _) rfl ⟨false, rfl, HF2.out, by simp [HN.out]⟩
            | true =>
              have HEQ := Lib.hid (show la.take (i + 1) = lb.take (i + 1) by
                have h1 : x.name = y.name := of_decide_eq_true HYE.out.symm
                have h2 : x.val = y.val := of_decide_eq_true HVV.out.symm
                have h3 : x.gone = y.gone := HGX.out.symm.trans HGY.out
                have h4 : x = y := by cases x; cases y; simp_all
                rw [List.take_add_one, List.take_add_one, HTK.out, HX2.out, HY2.out, h4])
              go_wp2_with fail
              go_roundw
              case rel => exact ⟨i + 1, hlt, by first | rfl | simp, Lib.hid ⟨HEQ.out, HF2.out⟩⟩
              case measure => simp [intOf]; omega
          · have hgne : (gx != gy) = true := by rw [bne_iff_ne]; exact hgg
            have HN := Lib.hid (HNO.out (fun e => hgg (by rw [HGX.out, HGY.out, e])))
            have HF := Lib.hid hW.out.2.drew
            clear hW
            refine drawn_begin 38 (fun w' => w'.blk b = some (.cells cs TT fr) ∧ w'.blk b2 = some (.cells cs2 TT2 fr2)) (by kernel_rfl) ?_
            refine drawn_reads (fuel := 0) [0, 1, 2, 3, 4, 5, 6, 7, 8, 9, 10, 11, 12, 13, 14, 15, 16, 17, 18, 19, 20, 21, 22, 23, 24, 25, 26, 27, 28, 29, 30, 31, 32, 33, 34, 35, 36, 37] rfl (by kernel_rfl) ⟨fb, fb2⟩ ?_
            repeat (first | (refine rowK_step2 rfl rfl (fun K hK => ?_); go_wp2) | (refine rowK_step rfl (fun K hK => ?_); go_simp; refine hK _ ?_; clear hK K))
            refine rowK_nil ⟨?_, ?_⟩
            · first | (rintro w' ⟨e1, e2⟩) | (intro w' e1 e2)
              clear fb fb2 tb tb2
              have tb := World.at_lt e1
              have tb2 := World.at_lt e2
              repeat (first | (refine rowWp_step2 rfl rfl (fun K hK => ?_); go_wp2) | (refine rowWp_step rfl (fun K hK => ?_); go_simp; refine hK _ ?_; clear hK K))
              exact rowWp_nil rfl
            refine drawn_end (ol := []) rfl (by kernel_rfl) ?_
            intro K hK
            go_wp2_with fail
            exact bodyPost_ret (results_tmp rfl _ _ _) rfl ⟨false, rfl, HF.out, by simp [HN.out]⟩
      · obtain rfl : i = n := by omega
        have hd : decide ((i : Int) < (i : Int)) = false := by simp
        have HE := Lib.hid (show la = lb by
          have h := hW.out.1
          rw [List.take_of_length_le (by rw [HLA.out]; exact Nat.le_refl _), List.take_of_length_le (by rw [HLB.out]; exact Nat.le_refl _)] at h
          exact h)
        go_wp2_with fail
        exact bodyPost_ret (results_tmp rfl _ _ _) rfl ⟨true, rfl, hW.out.2, by simp [HE.out]⟩
  · have hne : ((n : Int) != (m : Int)) = true := by rw [bne_iff_ne]; omega
    have HNE := Lib.hid (show ¬ la = lb from fun e => hnm (by rw [← HLA.out, e, HLB.out]))
    have HF := Lib.hid (Fr.refl [] w)
    go_wp2_with fail
    exact bodyPost_ret (results_tmp rfl _ _ _) rfl ⟨false, rfl, HF.out, by simp [HNE.out]⟩
end
end Go.Proofs.Ytombhkekocbfoaa
namespace Go.Proofs.Ytombhkekocbfoaa
open Go.RowKit Go.Dr Go.Kd Go.St
def dsC (r half e c f : Nat) (q : Option Addr) (n d : Nat) (br : Bool) : Array Value := #[.pointer (some ⟨r, 0, none⟩), .int .i64 (half : Int), .int .u64 (e : Int), .int .i64 (c : Int), .int .i64 (f : Int), .slice q n d, .bool br]
/-- The document's store, as it lies; its values lie elsewhere than in these blocks. -/
structure DSt (w : World) (t r : Nat) (sp : SP) (m : DM) (fp av : List Nat) : Prop where
  ex : ∃ q n d, w.blk t = some (.cells (dsC r sp.half sp.epoch sp.count sp.fin q n d sp.broken) 56 (0, 0)) ∧ ChsA w (t :: (av ++ fp)) q n d (asC sp.L)
  tf : t ∉ fp
  disk : RefAt w r m fp
/-- What the document's Open answers. -/
def DOpenR (w : World) (r : Nat) (fp av : List Nat) (en : Ending) (w' : World) : Int × Option SP × DM → Prop
  | (E, some sp, m') => E = 0 ∧ ∃ t fp', en = .returned (.tuple #[.pointer (some ⟨t, 0, none⟩), .int .i64 0]) ∧ DSt w' t r sp m' fp' av ∧ Fr fp w w' ∧ News w fp fp' ∧ w.heap.size ≤ t
  | (E, none, m') => ∃ fp', en = .returned (.tuple #[.pointer none, .int .i64 E]) ∧ RefAt w' r m' fp' ∧ Fr fp w w' ∧ News w fp fp'
/-- The code of block n; a loop's; what stands behind n statements. -/
def blockOf' (n : Nat) : Code → Option Code
  | .block m c => if m == n then some c else blockOf' n c
  | .seq a b => match blockOf' n a with
    | some c => some c
    | none => blockOf' n b
  | .cond _ a b => match blockOf' n a with
    | some c => some c
    | none => blockOf' n b
  | .loop c => blockOf' n c
  | .scope c => blockOf' n c
  | _ => none
def loopOf' : Code → Code
  | .loop c => c
  | c => c
def behind : Nat → Code → Code
  | n + 1, .seq _ b => behind n b
  | _, c => c
def ahead : Code → Code
  | .seq a _ => a
  | c => c
noncomputable def dfull : Code := Try.f22.body.getD .skip
noncomputable def d17 : Code := behind 11 dfull
noncomputable def d27 : Code := behind 16 dfull
noncomputable def dRnd : Code := loopOf' ((blockOf' 0 dfull).getD .skip)
noncomputable def dB1 : Code := (blockOf' 1 dfull).getD .skip
noncomputable def d39 : Code := ahead (behind 3 dB1)
set_option maxRecDepth 100000 in
/-- Open's frame, written out. -/
def frm22 (u : Nat → Value) : Array Value := (u 0 :: u 1 :: u 2 :: u 3 :: u 4 :: u 5 :: u 6 :: u 7 :: u 8 :: u 9 :: u 10 :: u 11 :: u 12 :: u 13 :: u 14 :: u 15 :: u 16 :: u 17 :: u 18 :: u 19 :: u 20 :: u 21 :: u 22 :: u 23 :: u 24 :: u 25 :: u 26 :: u 27 :: u 28 :: u 29 :: u 30 :: u 31 :: u 32 :: u 33 :: u 34 :: u 35 :: u 36 :: u 37 :: u 38 :: u 39 :: u 40 :: u 41 :: u 42 :: u 43 :: u 44 :: u 45 :: u 46 :: u 47 :: u 48 :: u 49 :: u 50 :: u 51 :: u 52 :: u 53 :: u 54 :: u 55 :: u 56 :: u 57 :: u 58 :: u 59 :: u 60 :: u 61 :: u 62 :: u 63 :: u 64 :: u 65 :: u 66 :: u 67 :: u 68 :: u 69 :: u 70 :: u 71 :: u 72 :: u 73 :: u 74 :: u 75 :: u 76 :: u 77 :: u 78 :: u 79 :: u 80 :: u 81 :: u 82 :: u 83 :: u 84 :: u 85 :: u 86 :: u 87 :: u 88 :: u 89 :: u 90 :: u 91 :: u 92 :: u 93 :: u 94 :: u 95 :: u 96 :: u 97 :: u 98 :: u 99 :: u 100 :: u 101 :: u 102 :: u 103 :: u 104 :: u 105 :: u 106 :: u 107 :: u 108 :: u 109 :: u 110 :: u 111 :: u 112 :: u 113 :: u 114 :: u 115 :: u 116 :: u 117 :: u 118 :: u 119 :: u 120 :: u 121 :: u 122 :: u 123 :: u 124 :: u 125 :: u 126 :: u 127 :: u 128 :: u 129 :: u 130 :: u 131 :: u 132 :: u 133 :: u 134 :: u 135 :: u 136 :: u 137 :: u 138 :: u 139 :: u 140 :: u 141 :: u 142 :: u 143 :: u 144 :: u 145 :: u 146 :: u 147 :: u 148 :: u 149 :: u 150 :: u 151 :: u 152 :: u 153 :: u 154 :: u 155 :: u 156 :: u 157 :: u 158 :: u 159 :: u 160 :: u 161 :: u 162 :: u 163 :: u 164 :: u 165 :: u 166 :: u 167 :: u 168 :: u 169 :: u 170 :: u 171 :: u 172 :: u 173 :: u 174 :: u 175 :: u 176 :: u 177 :: u 178 :: u 179 :: u 180 :: u 181 :: u 182 :: u 183 :: u 184 :: u 185 :: u 186 :: u 187 :: u 188 :: u 189 :: u 190 :: u 191 :: u 192 :: u 193 :: u 194 :: u 195 :: u 196 :: u 197 :: u 198 :: u 199 :: u 200 :: u 201 :: u 202 :: u 203 :: u 204 :: u 205 :: u 206 :: u 207 :: u 208 :: u 209 :: u 210 :: u 211 :: u 212 :: u 213 :: u 214 :: u 215 :: u 216 :: u 217 :: u 218 :: u 219 :: u 220 :: u 221 :: u 222 :: u 223 :: u 224 :: u 225 :: u 226 :: u 227 :: u 228 :: u 229 :: u 230 :: u 231 :: u 232 :: u 233 :: u 234 :: u 235 :: u 236 :: u 237 :: u 238 :: u 239 :: u 240 :: u 241 :: u 242 :: u 243 :: u 244 :: u 245 :: u 246 :: u 247 :: u 248 :: u 249 :: u 250 :: u 251 :: u 252 :: u 253 :: u 254 :: u 255 :: u 256 :: u 257 :: u 258 :: u 259 :: u 260 :: u 261 :: u 262 :: u 263 :: u 264 :: u 265 :: u 266 :: []).toArray
set_option maxRecDepth 100000 in
theorem frm_of {tm : Array Value} (h : tm.size = 267) : ∃ u : Nat → Value, tm = frm22 u := ⟨fun i => tm.getD i undef, arr_fun h⟩
theorem four_cast {g y0 y1 y2 y3 : Nat} (h : g = y0 * 16777216 + y1 * 65536 + y2 * 256 + y3) : (g : Int) = (y0 : Int) * 16777216 + (y1 : Int) * 65536 + (y2 : Int) * 256 + (y3 : Int) := by omega
section
variable {w : World}
set_option maxRecDepth 100000 in
set_option maxHeartbeats 8000000 in
/-- The record's first four bytes. -/
theorem d39_f {Q : Exit → Act → World → Prop} {tm : Array Value} {W : World} {n2 cp : Nat} {q2 : Option Addr} {rest : Bs}
    (hs : tm.size = 267) (h20 : tm.getD 20 undef = .slice q2 n2 cp) (S : Sl .u8 W q2 n2 cp rest) (hb : isBytes rest) (hn64 : 64 ≤ n2) (hn : n2 ≤ 70000)
    (hK : ∀ tm' W', tm'.size = 267 → tm'.getD 0 undef = tm.getD 0 undef → tm'.getD 4 undef = tm.getD 4 undef → tm'.getD 17 undef = tm.getD 17 undef → tm'.getD 18 undef = tm.getD 18 undef → tm'.getD 19 undef = tm.getD 19 undef → tm'.getD 20 undef = tm.getD 20 undef → tm'.getD 24 undef = .int .i64 ((getB (rest.take 4) : Nat) : Int) → Fr [] W W' → Q .normal ⟨tm', []⟩ W') :
    d39.wp Try.prog Q ⟨tm, []⟩ W := by
  obtain ⟨u, rfl⟩ := frm_of hs
  have e20 : u 20 = _ := h20
  have HK := Lib.hid hK
  have HB := Lib.hid hb
  have HS := Lib.hid S
  have HLN := Lib.hid S.len
  have HE20 := Lib.hid e20
  clear hK hb S h20 hs
  conv => arg 2; whnf
  unfold frm22
  rw [e20]
  clear e20
  obtain ⟨bb, off, cs, TT, fr, rfl, fb, hs2, hx⟩ := HS.out.out (by omega)
  have hby : ∀ j, j < 4 → ∃ y : Nat, y < 256 ∧ el rest j = (y : Int) ∧ ∃ h : off + j < cs.size, cs[off + j] = .int .u8 (y : Int) := fun j hj => by
    have hl := HLN.out
    have hb := el_byte HB.out (i := j) (by omega)
    refine ⟨(el rest j).toNat, by omega, by omega, by omega, ?_⟩
    have := congrArg (fun l : List Value => l[j]?) hx
    simp only [Array.getElem?_toList, List.getElem?_map] at this
    rw [Array.getElem?_extract_of_lt (by omega), ← Array.getElem?_eq_getElem] at this
    rw [List.getElem?_eq_getElem (by omega)] at this
    obtain ⟨h1, h2⟩ := Array.getElem?_eq_some_iff.1 this
    rw [h2, show ((el rest j).toNat : Int) = el rest j by omega, el, List.getD_eq_getElem?_getD, List.getElem?_eq_getElem (by omega)]
    rfl
  obtain ⟨y0, b0, el0, g0', g0⟩ := hby 0 (by omega)
  obtain ⟨y1, b1, el1, g1', g1⟩ := hby 1 (by omega)
  obtain ⟨y2, b2, el2, g2', g2⟩ := hby 2 (by omega)
  obtain ⟨y3, b3, el3, g3', g3⟩ := hby 3 (by omega)
  replace g0' : off < cs.size := g0'
  replace g0 : cs[off] = .int .u8 (y0 : Int) := g0
  have hl4 : 4 ≤ rest.length := by have := HLN.out; omega
  have hg : getB (rest.take 4) = y0 * 16777216 + y1 * 65536 + y2 * 256 + y3 := by
    rw [take_el (B := rest) (i := 3) (by omega), take_el (B := rest) (i := 2) (by omega), take_el (B := rest) (i := 1) (by omega), take_el (B := rest) (i := 0) (by omega), getB_snoc', getB_snoc', getB_snoc', getB_snoc', el0, el1, el2, el3]
    simp only [Int.toNat_natCast, List.take_zero, getB, List.foldl_nil]
    omega
  have HG := Lib.hid hg
  have tb := World.at_lt fb
  clear hby el0 el1 el2 el3 hx hg
  go_upto_region 39 with (fail)
  refine drawn_begin 22 (fun w' => w'.blk bb = some (.cells cs TT fr)) (by kernel_rfl) ?_
  refine drawn_reads (fuel := 1) [0, 1, 2, 3, 4, 5, 6, 7, 8, 9, 10, 11, 12, 13, 14, 15, 16, 17, 18, 19, 20, 21] rfl (by kernel_rfl) fb ?_
  repeat (first | (refine rowK_step2 rfl rfl (fun K hK => ?_); go_wp2) | (refine rowK_step rfl (fun K hK => ?_); go_simp; refine hK _ ?_; clear hK K))
  refine rowK_nil ⟨fun w' e1 => ?_, ?_⟩
  · clear fb tb
    have tb := World.at_lt e1
    repeat (first | (refine rowWp_step2 rfl rfl (fun K hK => ?_); go_wp2) | (refine rowWp_step rfl (fun K hK => ?_); go_simp; refine hK _ ?_; clear hK K))
    exact rowWp_nil rfl
  refine drawn_end rfl (by kernel_rfl) ?_
  intro K hK
  go_wp2
  have hgi : ((getB (rest.take 4) : Nat) : Int) = (y0 : Int) * 16777216 + (y1 : Int) * 65536 + (y2 : Int) * 256 + (y3 : Int) := four_cast HG.out
  refine HK.out _ _ rfl rfl rfl rfl rfl rfl HE20.out.symm (congrArg (Value.int .i64) hgi.symm) (Fr.refl _ _).drew
end
end Go.Proofs.Ytombhkekocbfoaa
