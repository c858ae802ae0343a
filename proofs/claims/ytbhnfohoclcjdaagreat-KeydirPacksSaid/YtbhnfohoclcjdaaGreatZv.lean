/- Joined: PkX, PkU. -/
import Derived.Test.YtbhnfohoclcjdaaGreatZt
import Derived.Test.YtbhnfohoclcjdaaGreatZu
set_option linter.unusedVariables false
set_option linter.unusedSimpArgs false
namespace Go.Proofs.YtbhnfohoclcjdaaGreat
open Go.RowKit Go.Dr Go.Kd
theorem unpk_a {B : Bs} (h : splitB B = none) : unpk B = none := by unfold unpk; rw [h]
theorem unpk_b {B : Bs} {ps : List Bs} (h : splitB B = some ps) (h2 : ps.length < 2) : unpk B = none := by
  unfold unpk
  rw [h]
  rcases ps with _ | ⟨a, _ | ⟨p, l⟩⟩
  · rfl
  · rfl
  · simp only [List.length_cons] at h2; omega
theorem unpk_c {B : Bs} {ps : List Bs} (h : splitB B = some ps) (h2 : 10 < ps.length) : unpk B = none := by
  unfold unpk
  rw [h]
  rcases ps with _ | ⟨a, _ | ⟨p, l⟩⟩
  · rfl
  · rfl
  · simp only [List.length_cons] at h2
    exact if_neg fun h => by have := h.2.1; omega
theorem unpk_d {B a p : Bs} {l : List Bs} (h : splitB B = some (a :: p :: l)) (h2 : a.length ≠ 2) : unpk B = none := by
  unfold unpk
  rw [h]
  exact if_neg fun h => h2 h.1
theorem unpk_e {B a p : Bs} {l : List Bs} (h : splitB B = some (a :: p :: l)) (h2 : p ≠ []) (h3 : ¬ rdOk (opP p) = true) : unpk B = none := by
  unfold unpk
  rw [h]
  exact if_neg fun h => h.2.2.1.elim h2 h3
theorem unpk_f {B a p q : Bs} {l : List Bs} (h : splitB B = some (a :: p :: l)) (h2 : q ∈ l) (h3 : ¬ rdOk (opP q) = true) : unpk B = none := by
  unfold unpk
  rw [h]
  exact if_neg fun h => h3 (h.2.2.2 q h2)
theorem unpk_g {B a p : Bs} {l : List Bs} (h : splitB B = some (a :: p :: l)) (h1 : a.length = 2) (h2 : l.length ≤ 8) (h3 : p = [] ∨ rdOk (opP p) = true) (h4 : ∀ q ∈ l, rdOk (opP q) = true) : unpk B = some (!p.isEmpty, dRd p, l.map dRd, getB a) := by
  unfold unpk
  rw [h]
  exact if_pos ⟨h1, h2, h3, h4⟩
theorem sly_all {M : List (Nat × Obj)} {q : Option Addr} {n c : Nat} {ls : List Bs} (h : Sly M q n c ls) (h0 : ls ≠ []) {w : World} (hw : Has M w) : ∃ b off cs T fr, q = some ⟨b, off, none⟩ ∧ w.blk b = some (.cells cs T fr) ∧ off + ls.length ≤ cs.size ∧ ls.length ≤ c ∧ ∀ j l, ls[j]? = some l → ∃ q1 m1 c1, cs[off + j]? = some (.slice q1 m1 c1) ∧ m1 = l.length ∧ ∀ W, Has M W → Sl .u8 W q1 m1 c1 l := by
  obtain ⟨us, h⟩ := h
  obtain ⟨h1, h2⟩ := h w hw
  have hl := h1.len
  have hl2 := h2.len
  have hc := h1.cap_
  have hpos : 0 < ls.length := List.length_pos_iff.2 h0
  rcases h1.row with h4 | ⟨b, off, cs, T, fr, hp, hb, hs, hx⟩
  · omega
  · refine ⟨b, off, cs, T, fr, hp, hb, by omega, by omega, fun j l hj => ?_⟩
    obtain ⟨hjl, -⟩ := List.getElem?_eq_some_iff.1 hj
    obtain ⟨q1, m1, c1, h3, S3⟩ := h2.at j l hj
    refine ⟨q1, m1, c1, ?_, S3.len.symm, fun W hW => ?_⟩
    · have h5 := congrArg (fun l : List Value => l[j]?) hx
      simp only [Array.getElem?_toList] at h5
      rw [Array.getElem?_extract_of_lt (by omega), ← Array.getElem?_eq_getElem, h3] at h5
      exact h5
    · obtain ⟨q2, m2, c2, h4, S⟩ := (h W hW).2.at j l hj
      rw [h3] at h4
      cases h4
      exact S
/-- What Unpack answers. -/
def UnpRes (w : World) (r : Option (Bool × Bn × List Bn × Nat)) (e : Ending) (w' : World) : Prop := match r with
  | some (hs, f, ls, last) => ∃ q n c, e = .returned (.tuple #[.agg (shC hs f q n c (last : Int)), .bool true]) ∧ n = ls.length ∧ Lf w' q n c (bnsL ls) ∧ Fr [] w w'
  | none => e = .returned (.tuple #[.agg Tryz.zeroCells68, .bool false]) ∧ Fr [] w w'
theorem z68_eq : Tryz.zeroCells68 = (cShelf (.bool false) Tryz.zeroCells65.toList (.slice none 0 0) (.int .u16 0)).toArray := by kernel_rfl
theorem shC_first (hs : Bool) (v : Int) : (Tryz.zeroCells68.setIfInBounds 164 (.int .u16 v)).setIfInBounds 0 (.bool hs) = shC hs zBn none 0 0 v := by
  have l0 : Tryz.zeroCells65.toList.length = 162 := by kernel_rfl
  rw [z68_eq, cShelf_set_last _ _ _ _ _ l0, cShelf_set_has _ _ _ _ _ l0, zBn_c]
theorem shC_fall {hs : Bool} {f g : Bn} {p : Option Addr} {n c : Nat} {v : Int} (hf : BnOk f) (hg : BnOk g) : spl (shC hs f p n c v) 1 (bnC g).toList = shC hs g p n c v :=
  cShelf_spl_fall _ _ _ _ _ (by rw [Array.length_toList, bnC_size hf]) (by rw [Array.length_toList, bnC_size hg])
theorem shC_left {hs : Bool} {f : Bn} {p q : Option Addr} {n c m d : Nat} {v : Int} (hf : BnOk f) : (shC hs f p n c v).setIfInBounds 163 (.slice q m d) = shC hs f q m d v :=
  cShelf_set_left _ _ _ _ _ (by rw [Array.length_toList, bnC_size hf])
theorem getV_two {a : Bs} (h : a.length = 2) : getV a = getB a := by
  unfold getV getOk
  rw [h]
  rfl
section
variable {w : World}
set_option maxRecDepth 100000 in
set_option maxHeartbeats 8000000 in
theorem kunpack_f {p0 : Option Addr} {n0 c0 : Nat} {B : Bs} (S : Sl .u8 w p0 n0 c0 B) (hB : isBytes B) (hn : n0 ≤ 100000) :
    Calls Tryz.prog 35 #[.slice p0 n0 c0] w fun e w' => UnpRes w (unpk B) e w' := by
  obtain ⟨R, hR⟩ : ∃ R, R = unpk B := ⟨_, rfl⟩
  rw [← hR]
  have HR := Lib.hid hR
  have HS := Lib.hid S
  have HB := Lib.hid hB
  clear hR S hB
  obtain ⟨o, ho⟩ : ∃ o, o = splitB B := ⟨_, rfl⟩
  have HO := Lib.hid ho
  clear ho
  have z68 : Tryz.zeroCells68.size = 165 := by kernel_rfl
  have z68o : ones Tryz.zeroCells68.toList = true := by kernel_rfl
  go_enter Tryz.func35, Tryz.ntmps35
  go_upto_region 1 with (fail)
  refine named_world (A := fun V => OwB w [(w.heap.size, .cells Tryz.zeroCells68 68)] V) (Q := fun V => Code.wp _ _ _ _ V) ((OwB.start w).allocN _ _ rfl) ?_
  intro V hV
  generalize w.heap.size = b2 at hV ⊢
  have HV := Lib.hid hV
  clear hV
  go_wp2_with fail
  refine (split_f (HS.out.fr0 HV.out.fr) HB.out hn).mono ?_
  intro e w1 h
  rw [← HO.out] at h
  match o, h with
  | none, h =>
    obtain ⟨why, hw, rfl, F⟩ := h
    have hd : (why != 0) = true := by simpa using hw
    have HV1 := Lib.hid (HV.out.call F)
    have f2 := HV1.out.nth 0 rfl
    have t2 := World.at_lt f2
    have HNo : Hid (R = none) := Lib.hid (by rw [HR.out]; exact unpk_a HO.out.symm)
    clear hw F
    go_wp2_with fail
    have hf := HV1.out.set 0 (.cells Tryz.zeroCells68 68) rfl
    refine ret_cell_tmp rfl rfl rfl ?_
    refine cellRet_of (hf.mem (b := b2) (o := .cells Tryz.zeroCells68 68) (by simp)) (by rw [z68]; kernel_rfl) ?_
    rw [HNo.out]
    exact ⟨rfl, hf.fr⟩
  | some ps, h =>
    obtain ⟨q, c, M, rfl, O, hT, hSly⟩ := h
    have HO' : Hid (splitB B = some ps) := Lib.hid HO.out.symm
    have HV1 : Hid (OwB w (M ++ [(b2, .cells Tryz.zeroCells68 68)]) w1) := Lib.hid (HV.out.merge O)
    have HSly := Lib.hid hSly
    obtain ⟨N, hN⟩ : ∃ N, N = ps.length := ⟨_, rfl⟩
    rw [← hN]
    have HN := Lib.hid hN
    have f2 := HV1.out.mem (b := b2) (o := .cells Tryz.zeroCells68 68) (by simp)
    have t2 := World.at_lt f2
    clear hT O hN
    by_cases h2 : N < 2
    · have d2 : decide ((N : Int) < 2) = true := by rw [decide_eq_true_eq]; omega
      have HNo : Hid (R = none) := Lib.hid (by rw [HR.out]; exact unpk_b HO'.out (by rw [← HN.out]; exact h2))
      clear hSly
      go_wp2_with fail
      have hf := HV1.out.set_mid (.cells Tryz.zeroCells68 68)
      refine ret_cell_tmp rfl rfl rfl ?_
      refine cellRet_of (hf.mem (b := b2) (o := .cells Tryz.zeroCells68 68) (by simp)) (by rw [z68]; kernel_rfl) ?_
      rw [HNo.out]
      exact ⟨rfl, hf.fr⟩
    have d2 : decide ((N : Int) < 2) = false := by rw [decide_eq_false_iff_not]; omega
    by_cases h10 : 10 < N
    · have d10 : decide ((N : Int) > 10) = true := by rw [decide_eq_true_eq]; omega
      have HNo : Hid (R = none) := Lib.hid (by rw [HR.out]; exact unpk_c HO'.out (by rw [← HN.out]; exact h10))
      clear hSly
      go_wp2_with fail
      have hf := HV1.out.set_mid (.cells Tryz.zeroCells68 68)
      refine ret_cell_tmp rfl rfl rfl ?_
      refine cellRet_of (hf.mem (b := b2) (o := .cells Tryz.zeroCells68 68) (by simp)) (by rw [z68]; kernel_rfl) ?_
      rw [HNo.out]
      exact ⟨rfl, hf.fr⟩
    have d10 : decide ((N : Int) > 10) = false := by rw [decide_eq_false_iff_not]; omega
    obtain ⟨a, p, l, rfl⟩ : ∃ a p l, ps = a :: p :: l := by
      have hN := HN.out
      rcases ps with _ | ⟨a, _ | ⟨p, l⟩⟩
      · simp only [List.length_nil] at hN; omega
      · simp only [List.length_cons, List.length_nil] at hN; omega
      · exact ⟨a, p, l, rfl⟩
    have HBS : Hid (∀ x ∈ a :: p :: l, isBytes x) := Lib.hid (splitB_bytes HB.out HO'.out)
    have HLE : Hid (∀ x ∈ a :: p :: l, x.length ≤ 4096) := Lib.hid (by
      have h := (splitB_back HB.out HO'.out).2
      simp only [fits, Bool.and_eq_true, decide_eq_true_eq, List.all_eq_true] at h
      exact h.2)
    obtain ⟨m, hm⟩ : ∃ m, m = l.length := ⟨_, rfl⟩
    have hNm : N = m + 2 := by rw [HN.out, hm]; rfl
    have HM := Lib.hid hm
    obtain ⟨b, off, cs, TT, fr, rfl, fb, hsz, hcN, hrow⟩ := sly_all hSly (by simp) HV1.out.has.of_append.1
    rw [← HN.out] at hsz hcN
    obtain ⟨qa, na, ca, ga, hna, hSa⟩ := hrow 0 a rfl
    obtain ⟨qp, np, cp, gp, hnp, hSp⟩ := hrow 1 p rfl
    rw [Nat.add_zero] at ga
    replace ga := (Array.getElem?_eq_some_iff.1 ga).2
    replace gp := (Array.getElem?_eq_some_iff.1 gp).2
    have i0 : off < cs.size := by omega
    have i1 : off + 1 < cs.size := by omega
    have k0 : (0 : Int) < (N : Int) := by omega
    have k1 : (1 : Int) < (N : Int) := by omega
    have HNA := Lib.hid hna
    have HNP := Lib.hid hnp
    have HSA := Lib.hid hSa
    have HSP := Lib.hid hSp
    have HNM := Lib.hid hNm
    have tb := World.at_lt fb
    clear hrow hna hnp hSa hSp hSly hm hNm
    by_cases ha : na = 2
    · skip
      have da : ((na : Int) != 2) = false := by subst ha; rfl
      have hv1 : getV a = getB a := getV_two (by rw [← HNA.out]; exact ha)
      have hv2 : getB a < 65536 := getB_lt 2 a (by rw [← HNA.out]; exact ha) (HBS.out a (by simp))
      have HA2 := Lib.hid ha
      clear ha
      go_wp2_with fail
      refine (get_f (HSA.out w1 HV1.out.has.of_append.1) (HBS.out a (by simp))).mono ?_
      rintro e w2 ⟨rfl, F2⟩
      obtain ⟨v, hv⟩ : ∃ v, v = getB a := ⟨_, rfl⟩
      rw [hv1, ← hv]
      rw [← hv] at hv2
      have wv : IntKind.u16.wrap (v : Int) = (v : Int) := by rw [IntKind.wrap_u16]; omega
      have HVV := Lib.hid hv
      have HV2 := Lib.hid (HV1.out.call F2)
      replace fb := F2.get fb (by simp)
      replace tb := World.at_lt fb
      obtain ⟨hs, hhs⟩ : ∃ hs, hs = !p.isEmpty := ⟨_, rfl⟩
      have e1 : decide ((np : Int) > 0) = hs := by rw [hhs, HNP.out]; cases p <;> simp <;> omega
      have e2 : decide (0 < np) = hs := by rw [hhs, HNP.out]; cases p <;> simp
      have HHS := Lib.hid hhs
      obtain ⟨ys0, hys0⟩ : ∃ ys0, ys0 = shC hs zBn none 0 0 (v : Int) := ⟨_, rfl⟩
      have eY5 : (Tryz.zeroCells68.setIfInBounds 164 (.int .u16 (v : Int))).setIfInBounds 0 (.bool hs) = ys0 := by rw [hys0]; exact shC_first hs _
      have X0 : ShF ys0 hs (bnC zBn) none 0 0 (v : Int) := by rw [hys0]; exact shF zBn_ok
      obtain ⟨sy0, ⟨y0, y0'⟩, -, -, -, yal0, yon0⟩ := X0
      have HYS0 := Lib.hid hys0
      clear f2 t2 hv F2 hhs hv1 hys0
      go_upto_region 6 with (fail)
      refine named_world (A := fun X => OwB w ((w2.heap.size, .cells ys0 68) :: (M ++ [(b2, .cells Tryz.zeroCells68 68)])) X ∧ X.blk b = some (.cells cs TT fr)) (Q := fun X => Code.wp _ _ _ _ X) ⟨HV2.out.allocN _ _ rfl, ((Fr.refl [] w2).alloc _).get fb (by simp)⟩ ?_
      rintro U3 ⟨hU, fb3⟩
      generalize w2.heap.size = b8 at hU ⊢
      have HU := Lib.hid hU
      clear hU fb tb HV1 HV2 e1 e2 eY5
      have f8 := HU.out.nth 0 rfl
      have t8 := World.at_lt f8
      have tb := World.at_lt fb3
      cases hs with
      | false =>
        have hp0 : p = [] := by have h := HHS.out; cases p with
          | nil => rfl
          | cons => cases h
        have hst : Hid (OwB w ((b8, .cells (shC false (dRd p) none 0 0 (v : Int)) 68) :: (M ++ [(b2, .cells Tryz.zeroCells68 68)])) U3 ∧ (p = [] ∨ rdOk (opP p) = true)) := Lib.hid ⟨by rw [hp0, dRd_nil, ← HYS0.out]; exact HU.out, .inl hp0⟩
        clear hp0
        go_upto_region 10 with (fail)
        clear HU f8 t8 fb3 tb
        obtain ⟨f, hf⟩ : ∃ f, f = dRd p := ⟨_, rfl⟩
        have okf : BnOk f := by rw [hf]; exact dRd_ok (HBS.out p (by simp))
        rw [← hf] at hst
        have HF := Lib.hid hf
        have HOKF := Lib.hid okf
        clear hf okf
        have hfb : ∃ fb' : Unit, True := ⟨(), trivial⟩
        obtain ⟨b', off', cs', TT', fr', hq', fb, hszb, -, hrow⟩ := sly_all HSly.out (by simp) hst.out.1.has.tail.of_append.1
        simp only [Option.some.injEq, Addr.mk.injEq, and_true] at hq'
        obtain ⟨rfl, rfl⟩ := hq'
        have tb := World.at_lt fb
        have q1 : (2 : Int) ≤ (N : Int) := by omega
        have q3 : (N : Int) ≤ (c : Int) := by omega
        have hm2 : N - 2 = m := by have := HNM.out; omega
        have hm8 : m ≤ 8 := by have := HNM.out; omega
        clear hrow hfb
        by_cases hc2 : c = 2
        · obtain ⟨P, hP⟩ : ∃ P : Option Addr, P = some ⟨b, off, none⟩ := ⟨_, rfl⟩
          have HPM : Hid (2 < N → P = some ⟨b, off + 2, none⟩) := Lib.hid fun h => by omega
          have hcc : c - 2 = 0 := by omega
          subst hc2
          go_upto_region 11 with (fail)
          rw [← hP]
          clear fb tb hP q1 q3 hm2 k0 k1 d2 d10 hcc
          go_loopw [69] (fun iv wy => ∃ (i : Nat) (q2 : Option Addr) (c2 : Nat), i ≤ m ∧ iv = .int .i64 (i : Int) ∧ Hid (BldV w ((b8, .cells (shC false f q2 i c2 (v : Int)) 68) :: (M ++ [(b2, .cells Tryz.zeroCells68 68)])) 65 162 wy q2 i c2 (bnsL ((l.take i).map dRd))) ∧ Hid (∀ x ∈ l.take i, rdOk (opP x) = true)) (fun iv _ => (m - intOf iv).toNat)
          case atStart => exact ⟨0, none, 0, by omega, rfl, Lib.hid (BldV.nil hst.out.1), Lib.hid (by simp)⟩
          case round =>
            obtain ⟨i, q2, c2, him, rfl, hG, hOK⟩ := hrel
            obtain ⟨ys, hys⟩ : ∃ ys, ys = shC false f q2 i c2 (v : Int) := ⟨_, rfl⟩
            have Y : ShF ys false (bnC f) q2 i c2 (v : Int) := by rw [hys]; exact shF HOKF.out
            obtain ⟨sy, -, -, ⟨x2, x2'⟩, -, yal, yon⟩ := Y
            have HYS := Lib.hid hys
            have HG : Hid (BldV w ((b8, .cells ys 68) :: (M ++ [(b2, .cells Tryz.zeroCells68 68)])) 65 162 wr q2 i c2 (bnsL ((l.take i).map dRd))) := by rw [hys]; exact hG
            clear hG hys
            have f8 := HG.out.own.nth 0 rfl
            have t8 := World.at_lt f8
            by_cases hlt : i < m
            · have hd1 : decide ((i : Int) < (m : Int)) = true := by rw [decide_eq_true_eq]; omega
              have hi3 : (i : Int) < (m : Int) := by omega
              obtain ⟨x, hx⟩ : ∃ x, l[i]? = some x := ⟨_, List.getElem?_eq_getElem (by rw [← HM.out]; exact hlt)⟩
              obtain ⟨b', off', cs', TT', fr', hq', fb, hszb, -, hrow⟩ := sly_all HSly.out (by simp) HG.out.own.has.tail.of_append.1
              simp only [Option.some.injEq, Addr.mk.injEq, and_true] at hq'
              obtain ⟨rfl, rfl⟩ := hq'
              obtain ⟨qx, nx, cx, gx, hnx, hSx⟩ := hrow (i + 2) x (by simpa using hx)
              obtain rfl := HPM.out (by have := HNM.out; omega)
              rw [show off + (i + 2) = off + 2 + i by omega] at gx
              replace gx := (Array.getElem?_eq_some_iff.1 gx).2
              have ix : off + 2 + i < cs'.size := by rw [← HN.out] at hszb; have := HNM.out; omega
              have tb := World.at_lt fb
              have HSX := Lib.hid hSx
              have HNX := Lib.hid hnx
              have HXL : Hid (x ∈ l) := Lib.hid (List.mem_of_getElem? hx)
              have htk : (l.take (i + 1)) = l.take i ++ [x] := by
                rw [List.take_add_one, hx]
                rfl
              have HTK := Lib.hid htk
              clear hrow hSx hnx hx htk hszb
              go_wp2_with fail
              refine (getbun_f (HSX.out wr HG.out.own.has.tail.of_append.1) (HBS.out x (by simp [HXL.out])) (by have := HLE.out x (by simp [HXL.out]); have := HNX.out; omega)).mono ?_
              rintro e w4 ⟨x3, err, rfl, F4, sz3, hE3, hEq3, on3⟩
              have HE3 := Lib.hid hE3
              have HEQ3 := Lib.hid hEq3
              have HG4 := Lib.hid (HG.out.call F4)
              clear hE3 hEq3 f8 t8 fb tb HG F4
              have z65 : Tryz.zeroCells65.size = 162 := by kernel_rfl
              have z65o : ones Tryz.zeroCells65.toList = true := by kernel_rfl
              go_upto_region 14 with (fail)
              refine named_world (A := fun X => BldV w ((w4.heap.size, .cells x3 65) :: (b8, .cells ys 68) :: (M ++ [(b2, .cells Tryz.zeroCells68 68)])) 65 162 X q2 i c2 (bnsL ((l.take i).map dRd))) (Q := fun X => Code.wp _ _ _ _ X) (BldV.newroom HG4.out _) ?_
              intro U6 hU6
              generalize w4.heap.size = b11 at hU6 ⊢
              have HU6 := Lib.hid hU6
              clear hU6 HG4
              have f11 := HU6.out.own.nth 0 rfl
              have t11 := World.at_lt f11
              have f8 := HU6.out.own.nth 1 rfl
              have t8 := World.at_lt f8
              have n118 := HU6.out.own.ne 0 1 rfl rfl (by decide)
              have n811 := n118.symm
              by_cases he : err = 0
              · have hx3 : x3 = bnC (dRd x) := by rw [HEQ3.out he, dRd, if_pos (HE3.out.1 he)]
                have one3 : ∀ u ∈ x3.toList, u.oneCell' = true := List.all_eq_true.1 on3
                have hbl : bnsL ((l.take (i + 1)).map dRd) = bnsL ((l.take i).map dRd) ++ x3.toList := by
                  rw [HTK.out, List.map_append, bnsL_append, hx3]
                  simp [bnsL]
                have all3 : x3.extract 0 162 = x3 := by rw [← sz3]; exact Array.extract_size
                have HBL := Lib.hid hbl
                have HONE := Lib.hid one3
                have HRD : Hid (rdOk (opP x) = true) := Lib.hid (HE3.out.1 he)
                have wi : IntKind.i64.wrap ((i : Int) + 1) = ((i + 1 : Nat) : Int) := by rw [IntKind.wrap_i64]; omega
                subst he
                clear hx3 one3 hbl
                go_wp2_with (refine wpList_app60F rfl _ _ rfl rfl (BldV.newroom HU6.out _) rfl (sv_one (World.at_alloc_new _ _ _ rfl) sz3) HONE.out (by omega) ?_)
                intro q3 c3 W3 hB3 hF3
                have HB3 := Lib.hid hB3
                clear f11 t11 f8 t8 hF3 hB3
                have f8 := HB3.out.own.nth 2 rfl
                have t8 := World.at_lt f8
                obtain ⟨i1, hi1⟩ : ∃ i1, i1 = i + 1 := ⟨_, rfl⟩
                rw [← hi1] at HB3 wi ⊢
                obtain ⟨ys3, hys3⟩ : ∃ ys3, ys3 = shC false f q3 i1 c3 (v : Int) := ⟨_, rfl⟩
                have eY : ys.setIfInBounds 163 (.slice q3 i1 c3) = ys3 := by rw [HYS.out, hys3]; exact shC_left HOKF.out
                have HI1 := Lib.hid hi1
                have HYS3 := Lib.hid hys3
                clear hi1 hys3
                go_wp2_with fail
                go_roundw
                case rel =>
                  refine ⟨i1, q3, c3, by have := HI1.out; omega, by first | rfl | simp, Lib.hid ?_, Lib.hid ?_⟩
                  · have h := ((HB3.out.set 2 (.cells ys3 68) rfl).sub (.cons _ (.cons _ (.refl _))))
                    rw [HI1.out] at h ⊢
                    simp only [← List.map_take] at h
                    rw [HBL.out, ← HI1.out, ← HYS3.out, HI1.out]
                    exact h
                  · rw [HI1.out, HTK.out]
                    intro y hy
                    rcases List.mem_append.1 hy with hy | hy
                    · exact hOK.out y hy
                    · simp only [List.mem_singleton] at hy
                      rw [hy]; exact HRD.out
                case measure => have := HI1.out; simp [intOf]; omega
              · have d : (err != 0) = true := by simpa using he
                have HNo : Hid (R = none) := Lib.hid (by rw [HR.out]; exact unpk_f HO'.out HXL.out (fun h => he (HE3.out.2 h)))
                have f2 := HU6.out.own.mem (b := b2) (o := .cells Tryz.zeroCells68 68) (by simp)
                have t2 := World.at_lt f2
                clear he
                go_wp2_with fail
                have hf := OwB.set_mid (A := (b11, .cells x3 65) :: (b8, .cells ys 68) :: M) HU6.out.own (.cells Tryz.zeroCells68 68)
                refine ret_cell_tmp rfl rfl rfl ?_
                refine cellRet_of (hf.mem (b := b2) (o := .cells Tryz.zeroCells68 68) (by simp)) (by rw [z68]; kernel_rfl) ?_
                rw [HNo.out]
                exact ⟨rfl, hf.fr⟩
            · obtain rfl : i = m := by omega
              have hd1 : decide ((i : Int) < (i : Int)) = false := by simp
              have htk : l.take i = l := List.take_of_length_le (by rw [← HM.out]; exact Nat.le_refl _)
              have hres : R = some (false, f, l.map dRd, v) := by
                rw [HR.out, HF.out, HVV.out, unpk_g HO'.out (by rw [← HNA.out]; exact HA2.out) (by have := HNM.out; have := HM.out; omega) hst.out.2 (by rw [htk] at hOK; exact hOK.out), ← HHS.out]
              rw [htk] at HG
              have HRES := Lib.hid hres
              have f2 := HG.out.own.mem (b := b2) (o := .cells Tryz.zeroCells68 68) (by simp)
              have t2 := World.at_lt f2
              have n82 : b8 ≠ b2 := HG.out.own.ne (o' := Obj.cells Tryz.zeroCells68 68) 0 (M.length + 1) rfl (by simp) (by omega)
              have n28 := n82.symm
              clear hres htk
              go_wp2_with fail
              have hB9 := BldV.set_mid (A := (b8, .cells ys 68) :: M) HG.out (.cells ys 68)
              refine ret_cell_tmp rfl rfl rfl ?_
              refine cellRet_of (hB9.own.mem (b := b2) (o := .cells ys 68) (by simp)) (by rw [sy]; kernel_rfl) ?_
              rw [HRES.out]
              exact ⟨q2, i, c2, by rw [HYS.out]; rfl, by rw [List.length_map]; exact HM.out, BldV.lf hB9, hB9.own.fr⟩
        · have HPM0 : ∀ P, P = (some ⟨b, off + 2, none⟩ : Option Addr) → Hid (2 < N → P = some ⟨b, off + 2, none⟩) := fun P e => Lib.hid fun h => e
          have HPMH := Lib.hid HPM0
          clear HPM0
          go_upto_region 11 with (fail)
          clear fb tb q1 q3 hm2 k0 k1 d2 d10
          obtain ⟨P, hP⟩ : ∃ P : Option Addr, P = some ⟨b, off + 2, none⟩ := ⟨_, rfl⟩
          have HPM := HPMH.out P hP
          rw [← hP]
          clear hP HPMH
          go_loopw [69] (fun iv wy => ∃ (i : Nat) (q2 : Option Addr) (c2 : Nat), i ≤ m ∧ iv = .int .i64 (i : Int) ∧ Hid (BldV w ((b8, .cells (shC false f q2 i c2 (v : Int)) 68) :: (M ++ [(b2, .cells Tryz.zeroCells68 68)])) 65 162 wy q2 i c2 (bnsL ((l.take i).map dRd))) ∧ Hid (∀ x ∈ l.take i, rdOk (opP x) = true)) (fun iv _ => (m - intOf iv).toNat)
          case atStart => exact ⟨0, none, 0, by omega, rfl, Lib.hid (BldV.nil hst.out.1), Lib.hid (by simp)⟩
          case round =>
            obtain ⟨i, q2, c2, him, rfl, hG, hOK⟩ := hrel
            obtain ⟨ys, hys⟩ : ∃ ys, ys = shC false f q2 i c2 (v : Int) := ⟨_, rfl⟩
            have Y : ShF ys false (bnC f) q2 i c2 (v : Int) := by rw [hys]; exact shF HOKF.out
            obtain ⟨sy, -, -, ⟨x2, x2'⟩, -, yal, yon⟩ := Y
            have HYS := Lib.hid hys
            have HG : Hid (BldV w ((b8, .cells ys 68) :: (M ++ [(b2, .cells Tryz.zeroCells68 68)])) 65 162 wr q2 i c2 (bnsL ((l.take i).map dRd))) := by rw [hys]; exact hG
            clear hG hys
            have f8 := HG.out.own.nth 0 rfl
            have t8 := World.at_lt f8
            by_cases hlt : i < m
            · have hd1 : decide ((i : Int) < (m : Int)) = true := by rw [decide_eq_true_eq]; omega
              have hi3 : (i : Int) < (m : Int) := by omega
              obtain ⟨x, hx⟩ : ∃ x, l[i]? = some x := ⟨_, List.getElem?_eq_getElem (by rw [← HM.out]; exact hlt)⟩
              obtain ⟨b', off', cs', TT', fr', hq', fb, hszb, -, hrow⟩ := sly_all HSly.out (by simp) HG.out.own.has.tail.of_append.1
              simp only [Option.some.injEq, Addr.mk.injEq, and_true] at hq'
              obtain ⟨rfl, rfl⟩ := hq'
              obtain ⟨qx, nx, cx, gx, hnx, hSx⟩ := hrow (i + 2) x (by simpa using hx)
              obtain rfl := HPM.out (by have := HNM.out; omega)
              rw [show off + (i + 2) = off + 2 + i by omega] at gx
              replace gx := (Array.getElem?_eq_some_iff.1 gx).2
              have ix : off + 2 + i < cs'.size := by rw [← HN.out] at hszb; have := HNM.out; omega
              have tb := World.at_lt fb
              have HSX := Lib.hid hSx
              have HNX := Lib.hid hnx
              have HXL : Hid (x ∈ l) := Lib.hid (List.mem_of_getElem? hx)
              have htk : (l.take (i + 1)) = l.take i ++ [x] := by
                rw [List.take_add_one, hx]
                rfl
              have HTK := Lib.hid htk
              clear hrow hSx hnx hx htk hszb
              go_wp2_with fail
              refine (getbun_f (HSX.out wr HG.out.own.has.tail.of_append.1) (HBS.out x (by simp [HXL.out])) (by have := HLE.out x (by simp [HXL.out]); have := HNX.out; omega)).mono ?_
              rintro e w4 ⟨x3, err, rfl, F4, sz3, hE3, hEq3, on3⟩
              have HE3 := Lib.hid hE3
              have HEQ3 := Lib.hid hEq3
              have HG4 := Lib.hid (HG.out.call F4)
              clear hE3 hEq3 f8 t8 fb tb HG F4
              have z65 : Tryz.zeroCells65.size = 162 := by kernel_rfl
              have z65o : ones Tryz.zeroCells65.toList = true := by kernel_rfl
              go_upto_region 14 with (fail)
              refine named_world (A := fun X => BldV w ((w4.heap.size, .cells x3 65) :: (b8, .cells ys 68) :: (M ++ [(b2, .cells Tryz.zeroCells68 68)])) 65 162 X q2 i c2 (bnsL ((l.take i).map dRd))) (Q := fun X => Code.wp _ _ _ _ X) (BldV.newroom HG4.out _) ?_
              intro U6 hU6
              generalize w4.heap.size = b11 at hU6 ⊢
              have HU6 := Lib.hid hU6
              clear hU6 HG4
              have f11 := HU6.out.own.nth 0 rfl
              have t11 := World.at_lt f11
              have f8 := HU6.out.own.nth 1 rfl
              have t8 := World.at_lt f8
              have n118 := HU6.out.own.ne 0 1 rfl rfl (by decide)
              have n811 := n118.symm
              by_cases he : err = 0
              · have hx3 : x3 = bnC (dRd x) := by rw [HEQ3.out he, dRd, if_pos (HE3.out.1 he)]
                have one3 : ∀ u ∈ x3.toList, u.oneCell' = true := List.all_eq_true.1 on3
                have hbl : bnsL ((l.take (i + 1)).map dRd) = bnsL ((l.take i).map dRd) ++ x3.toList := by
                  rw [HTK.out, List.map_append, bnsL_append, hx3]
                  simp [bnsL]
                have all3 : x3.extract 0 162 = x3 := by rw [← sz3]; exact Array.extract_size
                have HBL := Lib.hid hbl
                have HONE := Lib.hid one3
                have HRD : Hid (rdOk (opP x) = true) := Lib.hid (HE3.out.1 he)
                have wi : IntKind.i64.wrap ((i : Int) + 1) = ((i + 1 : Nat) : Int) := by rw [IntKind.wrap_i64]; omega
                subst he
                clear hx3 one3 hbl
                go_wp2_with (refine wpList_app60F rfl _ _ rfl rfl (BldV.newroom HU6.out _) rfl (sv_one (World.at_alloc_new _ _ _ rfl) sz3) HONE.out (by omega) ?_)
                intro q3 c3 W3 hB3 hF3
                have HB3 := Lib.hid hB3
                clear f11 t11 f8 t8 hF3 hB3
                have f8 := HB3.out.own.nth 2 rfl
                have t8 := World.at_lt f8
                obtain ⟨i1, hi1⟩ : ∃ i1, i1 = i + 1 := ⟨_, rfl⟩
                rw [← hi1] at HB3 wi ⊢
                obtain ⟨ys3, hys3⟩ : ∃ ys3, ys3 = shC false f q3 i1 c3 (v : Int) := ⟨_, rfl⟩
                have eY : ys.setIfInBounds 163 (.slice q3 i1 c3) = ys3 := by rw [HYS.out, hys3]; exact shC_left HOKF.out
                have HI1 := Lib.hid hi1
                have HYS3 := Lib.hid hys3
                clear hi1 hys3
                go_wp2_with fail
                go_roundw
                case rel =>
                  refine ⟨i1, q3, c3, by have := HI1.out; omega, by first | rfl | simp, Lib.hid ?_, Lib.hid ?_⟩
                  · have h := ((HB3.out.set 2 (.cells ys3 68) rfl).sub (.cons _ (.cons _ (.refl _))))
                    rw [HI1.out] at h ⊢
                    simp only [← List.map_take] at h
                    rw [HBL.out, ← HI1.out, ← HYS3.out, HI1.out]
                    exact h
                  · rw [HI1.out, HTK.out]
                    intro y hy
                    rcases List.mem_append.1 hy with hy | hy
                    · exact hOK.out y hy
                    · simp only [List.mem_singleton] at hy
                      rw [hy]; exact HRD.out
                case measure => have := HI1.out; simp [intOf]; omega
              · have d : (err != 0) = true := by simpa using he
                have HNo : Hid (R = none) := Lib.hid (by rw [HR.out]; exact unpk_f HO'.out HXL.out (fun h => he (HE3.out.2 h)))
                have f2 := HU6.out.own.mem (b := b2) (o := .cells Tryz.zeroCells68 68) (by simp)
                have t2 := World.at_lt f2
                clear he
                go_wp2_with fail
                have hf := OwB.set_mid (A := (b11, .cells x3 65) :: (b8, .cells ys 68) :: M) HU6.out.own (.cells Tryz.zeroCells68 68)
                refine ret_cell_tmp rfl rfl rfl ?_
                refine cellRet_of (hf.mem (b := b2) (o := .cells Tryz.zeroCells68 68) (by simp)) (by rw [z68]; kernel_rfl) ?_
                rw [HNo.out]
                exact ⟨rfl, hf.fr⟩
            · obtain rfl : i = m := by omega
              have hd1 : decide ((i : Int) < (i : Int)) = false := by simp
              have htk : l.take i = l := List.take_of_length_le (by rw [← HM.out]; exact Nat.le_refl _)
              have hres : R = some (false, f, l.map dRd, v) := by
                rw [HR.out, HF.out, HVV.out, unpk_g HO'.out (by rw [← HNA.out]; exact HA2.out) (by have := HNM.out; have := HM.out; omega) hst.out.2 (by rw [htk] at hOK; exact hOK.out), ← HHS.out]
              rw [htk] at HG
              have HRES := Lib.hid hres
              have f2 := HG.out.own.mem (b := b2) (o := .cells Tryz.zeroCells68 68) (by simp)
              have t2 := World.at_lt f2
              have n82 : b8 ≠ b2 := HG.out.own.ne (o' := Obj.cells Tryz.zeroCells68 68) 0 (M.length + 1) rfl (by simp) (by omega)
              have n28 := n82.symm
              clear hres htk
              go_wp2_with fail
              have hB9 := BldV.set_mid (A := (b8, .cells ys 68) :: M) HG.out (.cells ys 68)
              refine ret_cell_tmp rfl rfl rfl ?_
              refine cellRet_of (hB9.own.mem (b := b2) (o := .cells ys 68) (by simp)) (by rw [sy]; kernel_rfl) ?_
              rw [HRES.out]
              exact ⟨q2, i, c2, by rw [HYS.out]; rfl, by rw [List.length_map]; exact HM.out, BldV.lf hB9, hB9.own.fr⟩
      | true =>
        have hp0 : p ≠ [] := fun h => by have h2 := HHS.out; rw [h] at h2; cases h2
        have HP0 := Lib.hid hp0
        clear hp0
        go_wp2_with fail
        refine (getbun_f (HSP.out U3 HU.out.has.tail.of_append.1) (HBS.out p (by simp)) (by have := HLE.out p (by simp); have := HNP.out; omega)).mono ?_
        rintro e w4 ⟨x1, err, rfl, F4, sz1, hE, hEq, on1⟩
        have HE := Lib.hid hE
        have HEQ := Lib.hid hEq
        have HU4 := Lib.hid (HU.out.call F4)
        clear hE hEq f8 t8 fb3 tb HU
        have f8 := HU4.out.nth 0 rfl
        have t8 := World.at_lt f8
        have sz1l : x1.toList.length = 162 := by rw [Array.length_toList]; exact sz1
        go_upto_region 8 with (fail)
        refine named_world (A := fun X => OwB w ((b8, Obj.cells (spl ys0 1 x1.toList) 68) :: (M ++ [(b2, Obj.cells Tryz.zeroCells68 68)])) X) (Q := fun X => Code.wp _ _ _ _ X) (HU4.out.set 0 (.cells (spl ys0 1 x1.toList) 68) rfl) ?_
        intro U5 hU5
        have HU5 := Lib.hid hU5
        clear hU5 F4 f8 t8 HU4
        by_cases he : err = 0
        · have hx1 : x1 = bnC (dRd p) := by rw [HEQ.out he, dRd, if_pos (HE.out.1 he)]
          have hst : Hid (OwB w ((b8, .cells (shC true (dRd p) none 0 0 (v : Int)) 68) :: (M ++ [(b2, .cells Tryz.zeroCells68 68)])) U5 ∧ (p = [] ∨ rdOk (opP p) = true)) := Lib.hid ⟨by
            have h := HU5.out
            rw [hx1, HYS0.out, shC_fall zBn_ok (dRd_ok (HBS.out p (by simp)))] at h
            exact h, .inr (HE.out.1 he)⟩
          subst he
          clear hx1
          go_upto_region 10 with (fail)
          clear HU5
          obtain ⟨f, hf⟩ : ∃ f, f = dRd p := ⟨_, rfl⟩
          have okf : BnOk f := by rw [hf]; exact dRd_ok (HBS.out p (by simp))
          rw [← hf] at hst
          have HF := Lib.hid hf
          have HOKF := Lib.hid okf
          clear hf okf
          have hfb : ∃ fb' : Unit, True := ⟨(), trivial⟩
          obtain ⟨b', off', cs', TT', fr', hq', fb, hszb, -, hrow⟩ := sly_all HSly.out (by simp) hst.out.1.has.tail.of_append.1
          simp only [Option.some.injEq, Addr.mk.injEq, and_true] at hq'
          obtain ⟨rfl, rfl⟩ := hq'
          have tb := World.at_lt fb
          have q1 : (2 : Int) ≤ (N : Int) := by omega
          have q3 : (N : Int) ≤ (c : Int) := by omega
          have hm2 : N - 2 = m := by have := HNM.out; omega
          have hm8 : m ≤ 8 := by have := HNM.out; omega
          clear hrow hfb
          by_cases hc2 : c = 2
          · obtain ⟨P, hP⟩ : ∃ P : Option Addr, P = some ⟨b, off, none⟩ := ⟨_, rfl⟩
            have HPM : Hid (2 < N → P = some ⟨b, off + 2, none⟩) := Lib.hid fun h => by omega
            have hcc : c - 2 = 0 := by omega
            subst hc2
            go_upto_region 11 with (fail)
            rw [← hP]
            clear fb tb hP q1 q3 hm2 k0 k1 d2 d10 hcc
            go_loopw [69] (fun iv wy => ∃ (i : Nat) (q2 : Option Addr) (c2 : Nat), i ≤ m ∧ iv = .int .i64 (i : Int) ∧ Hid (BldV w ((b8, .cells (shC true f q2 i c2 (v : Int)) 68) :: (M ++ [(b2, .cells Tryz.zeroCells68 68)])) 65 162 wy q2 i c2 (bnsL ((l.take i).map dRd))) ∧ Hid (∀ x ∈ l.take i, rdOk (opP x) = true)) (fun iv _ => (m - intOf iv).toNat)
            case atStart => exact ⟨0, none, 0, by omega, rfl, Lib.hid (BldV.nil hst.out.1), Lib.hid (by simp)⟩
            case round =>
              obtain ⟨i, q2, c2, him, rfl, hG, hOK⟩ := hrel
              obtain ⟨ys, hys⟩ : ∃ ys, ys = shC true f q2 i c2 (v : Int) := ⟨_, rfl⟩
              have Y : ShF ys true (bnC f) q2 i c2 (v : Int) := by rw [hys]; exact shF HOKF.out
              obtain ⟨sy, -, -, ⟨x2, x2'⟩, -, yal, yon⟩ := Y
              have HYS := Lib.hid hys
              have HG : Hid (BldV w ((b8, .cells ys 68) :: (M ++ [(b2, .cells Tryz.zeroCells68 68)])) 65 162 wr q2 i c2 (bnsL ((l.take i).map dRd))) := by rw [hys]; exact hG
              clear hG hys
              have f8 := HG.out.own.nth 0 rfl
              have t8 := World.at_lt f8
              by_cases hlt : i < m
              · have hd1 : decide ((i : Int) < (m : Int)) = true := by rw [decide_eq_true_eq]; omega
                have hi3 : (i : Int) < (m : Int) := by omega
                obtain ⟨x, hx⟩ : ∃ x, l[i]? = some x := ⟨_, List.getElem?_eq_getElem (by rw [← HM.out]; exact hlt)⟩
                obtain ⟨b', off', cs', TT', fr', hq', fb, hszb, -, hrow⟩ := sly_all HSly.out (by simp) HG.out.own.has.tail.of_append.1
                simp only [Option.some.injEq, Addr.mk.injEq, and_true] at hq'
                obtain ⟨rfl, rfl⟩ := hq'
                obtain ⟨qx, nx, cx, gx, hnx, hSx⟩ := hrow (i + 2) x (by simpa using hx)
                obtain rfl := HPM.out (by have := HNM.out; omega)
                rw [show off + (i + 2) = off + 2 + i by omega] at gx
                replace gx := (Array.getElem?_eq_some_iff.1 gx).2
                have ix : off + 2 + i < cs'.size := by rw [← HN.out] at hszb; have := HNM.out; omega
                have tb := World.at_lt fb
                have HSX := Lib.hid hSx
                have HNX := Lib.hid hnx
                have HXL : Hid (x ∈ l) := Lib.hid (List.mem_of_getElem? hx)
                have htk : (l.take (i + 1)) = l.take i ++ [x] := by
                  rw [List.take_add_one, hx]
                  rfl
                have HTK := Lib.hid htk
                clear hrow hSx hnx hx htk hszb
                go_wp2_with fail
                refine (getbun_f (HSX.out wr HG.out.own.has.tail.of_append.1) (HBS.out x (by simp [HXL.out])) (by have := HLE.out x (by simp [HXL.out]); have := HNX.out; omega)).mono ?_
                rintro e w4 ⟨x3, err, rfl, F4, sz3, hE3, hEq3, on3⟩
                have HE3 := Lib.hid hE3
                have HEQ3 := Lib.hid hEq3
                have HG4 := Lib.hid (HG.out.call F4)
                clear hE3 hEq3 f8 t8 fb tb HG F4
                have z65 : Tryz.zeroCells65.size = 162 := by kernel_rfl
                have z65o : ones Tryz.zeroCells65.toList = true := by kernel_rfl
                go_upto_region 14 with (fail)
                refine named_world (A := fun X => BldV w ((w4.heap.size, .cells x3 65) :: (b8, .cells ys 68) :: (M ++ [(b2, .cells Tryz.zeroCells68 68)])) 65 162 X q2 i c2 (bnsL ((l.take i).map dRd))) (Q := fun X => Code.wp _ _ _ _ X) (BldV.newroom HG4.out _) ?_
                intro U6 hU6
                generalize w4.heap.size = b11 at hU6 ⊢
                have HU6 := Lib.hid hU6
                clear hU6 HG4
                have f11 := HU6.out.own.nth 0 rfl
                have t11 := World.at_lt f11
                have f8 := HU6.out.own.nth 1 rfl
                have t8 := World.at_lt f8
                have n118 := HU6.out.own.ne 0 1 rfl rfl (by decide)
                have n811 := n118.symm
                by_cases he : err = 0
                · have hx3 : x3 = bnC (dRd x) := by rw [HEQ3.out he, dRd, if_pos (HE3.out.1 he)]
                  have one3 : ∀ u ∈ x3.toList, u.oneCell' = true := List.all_eq_true.1 on3
                  have hbl : bnsL ((l.take (i + 1)).map dRd) = bnsL ((l.take i).map dRd) ++ x3.toList := by
                    rw [HTK.out, List.map_append, bnsL_append, hx3]
                    simp [bnsL]
                  have all3 : x3.extract 0 162 = x3 := by rw [← sz3]; exact Array.extract_size
                  have HBL := Lib.hid hbl
                  have HONE := Lib.hid one3
                  have HRD : Hid (rdOk (opP x) = true) := Lib.hid (HE3.out.1 he)
                  have wi : IntKind.i64.wrap ((i : Int) + 1) = ((i + 1 : Nat) : Int) := by rw [IntKind.wrap_i64]; omega
                  subst he
                  clear hx3 one3 hbl
                  go_wp2_with (refine wpList_app60F rfl _ _ rfl rfl (BldV.newroom HU6.out _) rfl (sv_one (World.at_alloc_new _ _ _ rfl) sz3) HONE.out (by omega) ?_)
                  intro q3 c3 W3 hB3 hF3
                  have HB3 := Lib.hid hB3
                  clear f11 t11 f8 t8 hF3 hB3
                  have f8 := HB3.out.own.nth 2 rfl
                  have t8 := World.at_lt f8
                  obtain ⟨i1, hi1⟩ : ∃ i1, i1 = i + 1 := ⟨_, rfl⟩
                  rw [← hi1] at HB3 wi ⊢
                  obtain ⟨ys3, hys3⟩ : ∃ ys3, ys3 = shC true f q3 i1 c3 (v : Int) := ⟨_, rfl⟩
                  have eY : ys.setIfInBounds 163 (.slice q3 i1 c3) = ys3 := by rw [HYS.out, hys3]; exact shC_left HOKF.out
                  have HI1 := Lib.hid hi1
                  have HYS3 := Lib.hid hys3
                  clear hi1 hys3
                  go_wp2_with fail
                  go_roundw
                  case rel =>
                    refine ⟨i1, q3, c3, by have := HI1.out; omega, by first | rfl | simp, Lib.hid ?_, Lib.hid ?_⟩
                    · have h := ((HB3.out.set 2 (.cells ys3 68) rfl).sub (.cons _ (.cons _ (.refl _))))
                      rw [HI1.out] at h ⊢
                      simp only [← List.map_take] at h
                      rw [HBL.out, ← HI1.out, ← HYS3.out, HI1.out]
                      exact h
                    · rw [HI1.out, HTK.out]
                      intro y hy
                      rcases List.mem_append.1 hy with hy | hy
                      · exact hOK.out y hy
                      · simp only [List.mem_singleton] at hy
                        rw [hy]; exact HRD.out
                  case measure => have := HI1.out; simp [intOf]; omega
                · have d : (err != 0) = true := by simpa using he
                  have HNo : Hid (R = none) := Lib.hid (by rw [HR.out]; exact unpk_f HO'.out HXL.out (fun h => he (HE3.out.2 h)))
                  have f2 := HU6.out.own.mem (b := b2) (o := .cells Tryz.zeroCells68 68) (by simp)
                  have t2 := World.at_lt f2
                  clear he
                  go_wp2_with fail
                  have hf := OwB.set_mid (A := (b11, .cells x3 65) :: (b8, .cells ys 68) :: M) HU6.out.own (.cells Tryz.zeroCells68 68)
                  refine ret_cell_tmp rfl rfl rfl ?_
                  refine cellRet_of (hf.mem (b := b2) (o := .cells Tryz.zeroCells68 68) (by simp)) (by rw [z68]; kernel_rfl) ?_
                  rw [HNo.out]
                  exact ⟨rfl, hf.fr⟩
              · obtain rfl : i = m := by omega
                have hd1 : decide ((i : Int) < (i : Int)) = false := by simp
                have htk : l.take i = l := List.take_of_length_le (by rw [← HM.out]; exact Nat.le_refl _)
                have hres : R = some (true, f, l.map dRd, v) := by
                  rw [HR.out, HF.out, HVV.out, unpk_g HO'.out (by rw [← HNA.out]; exact HA2.out) (by have := HNM.out; have := HM.out; omega) hst.out.2 (by rw [htk] at hOK; exact hOK.out), ← HHS.out]
                rw [htk] at HG
                have HRES := Lib.hid hres
                have f2 := HG.out.own.mem (b := b2) (o := .cells Tryz.zeroCells68 68) (by simp)
                have t2 := World.at_lt f2
                have n82 : b8 ≠ b2 := HG.out.own.ne (o' := Obj.cells Tryz.zeroCells68 68) 0 (M.length + 1) rfl (by simp) (by omega)
                have n28 := n82.symm
                clear hres htk
                go_wp2_with fail
                have hB9 := BldV.set_mid (A := (b8, .cells ys 68) :: M) HG.out (.cells ys 68)
                refine ret_cell_tmp rfl rfl rfl ?_
                refine cellRet_of (hB9.own.mem (b := b2) (o := .cells ys 68) (by simp)) (by rw [sy]; kernel_rfl) ?_
                rw [HRES.out]
                exact ⟨q2, i, c2, by rw [HYS.out]; rfl, by rw [List.length_map]; exact HM.out, BldV.lf hB9, hB9.own.fr⟩
          · have HPM0 : ∀ P, P = (some ⟨b, off + 2, none⟩ : Option Addr) → Hid (2 < N → P = some ⟨b, off + 2, none⟩) := fun P e => Lib.hid fun h => e
            have HPMH := Lib.hid HPM0
            clear HPM0
            go_upto_region 11 with (fail)
            clear fb tb q1 q3 hm2 k0 k1 d2 d10
            obtain ⟨P, hP⟩ : ∃ P : Option Addr, P = some ⟨b, off + 2, none⟩ := ⟨_, rfl⟩
            have HPM := HPMH.out P hP
            rw [← hP]
            clear hP HPMH
            go_loopw [69] (fun iv wy => ∃ (i : Nat) (q2 : Option Addr) (c2 : Nat), i ≤ m ∧ iv = .int .i64 (i : Int) ∧ Hid (BldV w ((b8, .cells (shC true f q2 i c2 (v : Int)) 68) :: (M ++ [(b2, .cells Tryz.zeroCells68 68)])) 65 162 wy q2 i c2 (bnsL ((l.take i).map dRd))) ∧ Hid (∀ x ∈ l.take i, rdOk (opP x) = true)) (fun iv _ => (m - intOf iv).toNat)
            case atStart => exact ⟨0, none, 0, by omega, rfl, Lib.hid (BldV.nil hst.out.1), Lib.hid (by simp)⟩
            case round =>
              obtain ⟨i, q2, c2, him, rfl, hG, hOK⟩ := hrel
              obtain ⟨ys, hys⟩ : ∃ ys, ys = shC true f q2 i c2 (v : Int) := ⟨_, rfl⟩
              have Y : ShF ys true (bnC f) q2 i c2 (v : Int) := by rw [hys]; exact shF HOKF.out
              obtain ⟨sy, -, -, ⟨x2, x2'⟩, -, yal, yon⟩ := Y
              have HYS := Lib.hid hys
              have HG : Hid (BldV w ((b8, .cells ys 68) :: (M ++ [(b2, .cells Tryz.zeroCells68 68)])) 65 162 wr q2 i c2 (bnsL ((l.take i).map dRd))) := by rw [hys]; exact hG
              clear hG hys
              have f8 := HG.out.own.nth 0 rfl
              have t8 := World.at_lt f8
              by_cases hlt : i < m
              · have hd1 : decide ((i : Int) < (m : Int)) = true := by rw [decide_eq_true_eq]; omega
                have hi3 : (i : Int) < (m : Int) := by omega
                obtain ⟨x, hx⟩ : ∃ x, l[i]? = some x := ⟨_, List.getElem?_eq_getElem (by rw [← HM.out]; exact hlt)⟩
                obtain ⟨b', off', cs', TT', fr', hq', fb, hszb, -, hrow⟩ := sly_all HSly.out (by simp) HG.out.own.has.tail.of_append.1
                simp only [Option.some.injEq, Addr.mk.injEq, and_true] at hq'
                obtain ⟨rfl, rfl⟩ := hq'
                obtain ⟨qx, nx, cx, gx, hnx, hSx⟩ := hrow (i + 2) x (by simpa using hx)
                obtain rfl := HPM.out (by have := HNM.out; omega)
                rw [show off + (i + 2) = off + 2 + i by omega] at gx
                replace gx := (Array.getElem?_eq_some_iff.1 gx).2
                have ix : off + 2 + i < cs'.size := by rw [← HN.out] at hszb; have := HNM.out; omega
                have tb := World.at_lt fb
                have HSX := Lib.hid hSx
                have HNX := Lib.hid hnx
                have HXL : Hid (x ∈ l) := Lib.hid (List.mem_of_getElem? hx)
                have htk : (l.take (i + 1)) = l.take i ++ [x] := by
                  rw [List.take_add_one, hx]
                  rfl
                have HTK := Lib.hid htk
                clear hrow hSx hnx hx htk hszb
                go_wp2_with fail
                refine (getbun_f (HSX.out wr HG.out.own.has.tail.of_append.1) (HBS.out x (by simp [HXL.out])) (by have := HLE.out x (by simp [HXL.out]); have := HNX.out; omega)).mono ?_
                rintro e w4 ⟨x3, err, rfl, F4, sz3, hE3, hEq3, on3⟩
                have HE3 := Lib.hid hE3
                have HEQ3 := Lib.hid hEq3
                have HG4 := Lib.hid (HG.out.call F4)
                clear hE3 hEq3 f8 t8 fb tb HG F4
                have z65 : Tryz.zeroCells65.size = 162 := by kernel_rfl
                have z65o : ones Tryz.zeroCells65.toList = true := by kernel_rfl
                go_upto_region 14 with (fail)
                refine named_world (A := fun X => BldV w ((w4.heap.size, .cells x3 65) :: (b8, .cells ys 68) :: (M ++ [(b2, .cells Tryz.zeroCells68 68)])) 65 162 X q2 i c2 (bnsL ((l.take i).map dRd))) (Q := fun X => Code.wp _ _ _ _ X) (BldV.newroom HG4.out _) ?_
                intro U6 hU6
                generalize w4.heap.size = b11 at hU6 ⊢
                have HU6 := Lib.hid hU6
                clear hU6 HG4
                have f11 := HU6.out.own.nth 0 rfl
                have t11 := World.at_lt f11
                have f8 := HU6.out.own.nth 1 rfl
                have t8 := World.at_lt f8
                have n118 := HU6.out.own.ne 0 1 rfl rfl (by decide)
                have n811 := n118.symm
                by_cases he : err = 0
                · have hx3 : x3 = bnC (dRd x) := by rw [HEQ3.out he, dRd, if_pos (HE3.out.1 he)]
                  have one3 : ∀ u ∈ x3.toList, u.oneCell' = true := List.all_eq_true.1 on3
                  have hbl : bnsL ((l.take (i + 1)).map dRd) = bnsL ((l.take i).map dRd) ++ x3.toList := by
                    rw [HTK.out, List.map_append, bnsL_append, hx3]
                    simp [bnsL]
                  have all3 : x3.extract 0 162 = x3 := by rw [← sz3]; exact Array.extract_size
                  have HBL := Lib.hid hbl
                  have HONE := Lib.hid one3
                  have HRD : Hid (rdOk (opP x) = true) := Lib.hid (HE3.out.1 he)
                  have wi : IntKind.i64.wrap ((i : Int) + 1) = ((i + 1 : Nat) : Int) := by rw [IntKind.wrap_i64]; omega
                  subst he
                  clear hx3 one3 hbl
                  go_wp2_with (refine wpList_app60F rfl _ _ rfl rfl (BldV.newroom HU6.out _) rfl (sv_one (World.at_alloc_new _ _ _ rfl) sz3) HONE.out (by omega) ?_)
                  intro q3 c3 W3 hB3 hF3
                  have HB3 := Lib.hid hB3
                  clear f11 t11 f8 t8 hF3 hB3
                  have f8 := HB3.out.own.nth 2 rfl
                  have t8 := World.at_lt f8
                  obtain ⟨i1, hi1⟩ : ∃ i1, i1 = i + 1 := ⟨_, rfl⟩
                  rw [← hi1] at HB3 wi ⊢
                  obtain ⟨ys3, hys3⟩ : ∃ ys3, ys3 = shC true f q3 i1 c3 (v : Int) := ⟨_, rfl⟩
                  have eY : ys.setIfInBounds 163 (.slice q3 i1 c3) = ys3 := by rw [HYS.out, hys3]; exact shC_left HOKF.out
                  have HI1 := Lib.hid hi1
                  have HYS3 := Lib.hid hys3
                  clear hi1 hys3
                  go_wp2_with fail
                  go_roundw
                  case rel =>
                    refine ⟨i1, q3, c3, by have := HI1.out; omega, by first | rfl | simp, Lib.hid ?_, Lib.hid ?_⟩
                    · have h := ((HB3.out.set 2 (.cells ys3 68) rfl).sub (.cons _ (.cons _ (.refl _))))
                      rw [HI1.out] at h ⊢
                      simp only [← List.map_take] at h
                      rw [HBL.out, ← HI1.out, ← HYS3.out, HI1.out]
                      exact h
                    · rw [HI1.out, HTK.out]
                      intro y hy
                      rcases List.mem_append.1 hy with hy | hy
                      · exact hOK.out y hy
                      · simp only [List.mem_singleton] at hy
                        rw [hy]; exact HRD.out
                  case measure => have := HI1.out; simp [intOf]; omega
                · have d : (err != 0) = true := by simpa using he
                  have HNo : Hid (R = none) := Lib.hid (by rw [HR.out]; exact unpk_f HO'.out HXL.out (fun h => he (HE3.out.2 h)))
                  have f2 := HU6.out.own.mem (b := b2) (o := .cells Tryz.zeroCells68 68) (by simp)
                  have t2 := World.at_lt f2
                  clear he
                  go_wp2_with fail
                  have hf := OwB.set_mid (A := (b11, .cells x3 65) :: (b8, .cells ys 68) :: M) HU6.out.own (.cells Tryz.zeroCells68 68)
                  refine ret_cell_tmp rfl rfl rfl ?_
                  refine cellRet_of (hf.mem (b := b2) (o := .cells Tryz.zeroCells68 68) (by simp)) (by rw [z68]; kernel_rfl) ?_
                  rw [HNo.out]
                  exact ⟨rfl, hf.fr⟩
              · obtain rfl : i = m := by omega
                have hd1 : decide ((i : Int) < (i : Int)) = false := by simp
                have htk : l.take i = l := List.take_of_length_le (by rw [← HM.out]; exact Nat.le_refl _)
                have hres : R = some (true, f, l.map dRd, v) := by
                  rw [HR.out, HF.out, HVV.out, unpk_g HO'.out (by rw [← HNA.out]; exact HA2.out) (by have := HNM.out; have := HM.out; omega) hst.out.2 (by rw [htk] at hOK; exact hOK.out), ← HHS.out]
                rw [htk] at HG
                have HRES := Lib.hid hres
                have f2 := HG.out.own.mem (b := b2) (o := .cells Tryz.zeroCells68 68) (by simp)
                have t2 := World.at_lt f2
                have n82 : b8 ≠ b2 := HG.out.own.ne (o' := Obj.cells Tryz.zeroCells68 68) 0 (M.length + 1) rfl (by simp) (by omega)
                have n28 := n82.symm
                clear hres htk
                go_wp2_with fail
                have hB9 := BldV.set_mid (A := (b8, .cells ys 68) :: M) HG.out (.cells ys 68)
                refine ret_cell_tmp rfl rfl rfl ?_
                refine cellRet_of (hB9.own.mem (b := b2) (o := .cells ys 68) (by simp)) (by rw [sy]; kernel_rfl) ?_
                rw [HRES.out]
                exact ⟨q2, i, c2, by rw [HYS.out]; rfl, by rw [List.length_map]; exact HM.out, BldV.lf hB9, hB9.own.fr⟩
        · have d : (err != 0) = true := by simpa using he
          have HNo : Hid (R = none) := Lib.hid (by rw [HR.out]; exact unpk_e HO'.out HP0.out (fun h => he (HE.out.2 h)))
          have f2 := HU5.out.mem (b := b2) (o := .cells Tryz.zeroCells68 68) (by simp)
          have t2 := World.at_lt f2
          clear he
          go_wp2_with fail
          have hf := OwB.set_mid (A := (b8, .cells (spl ys0 1 x1.toList) 68) :: M) HU5.out (.cells Tryz.zeroCells68 68)
          refine ret_cell_tmp rfl rfl rfl ?_
          refine cellRet_of (hf.mem (b := b2) (o := .cells Tryz.zeroCells68 68) (by simp)) (by rw [z68]; kernel_rfl) ?_
          rw [HNo.out]
          exact ⟨rfl, hf.fr⟩
    · have da : ((na : Int) != 2) = true := by simp only [bne_iff_ne, ne_eq]; omega
      have HNo : Hid (R = none) := Lib.hid (by rw [HR.out]; exact unpk_d HO'.out (by rw [← HNA.out]; exact ha))
      clear ha
      go_wp2_with fail
      have hf := HV1.out.set_mid (.cells Tryz.zeroCells68 68)
      refine ret_cell_tmp rfl rfl rfl ?_
      refine cellRet_of (hf.mem (b := b2) (o := .cells Tryz.zeroCells68 68) (by simp)) (by rw [z68]; kernel_rfl) ?_
      rw [HNo.out]
      exact ⟨rfl, hf.fr⟩
end
end Go.Proofs.YtbhnfohoclcjdaaGreat
namespace Go.Proofs.YtbhnfohoclcjdaaGreat
open Go.RowKit Go.Dr Go.Kd
section
variable {w : World}
set_option maxRecDepth 100000 in
set_option maxHeartbeats 8000000 in
theorem dpack_f {hs : Bool} {f : Bn} {p : Option Addr} {n c last : Nat} {ls : List Bn} (hf : BnOk f) (S : Lf w p n c (bnsL ls)) (hls : ∀ x ∈ ls, BnOk x) (hl : ls.length = n) (h8 : n ≤ 8) (hno : hs = false → f = zBn) (hla : last < 65536) :
    Calls Tryz.prog 34 #[.agg (shC hs f p n c (last : Int))] w fun e w' => ∃ q m c', e = .returned (.tuple #[.slice q m c', .bool true]) ∧ Bld w [] .u8 5 w' q m c' (joinB (pkL hs f ls last)) := by
  obtain ⟨xs, hxs⟩ : ∃ xs, xs = shC hs f p n c (last : Int) := ⟨_, rfl⟩
  obtain ⟨F, hF⟩ : ∃ F, F = bnC f := ⟨_, rfl⟩
  have X : ShF xs hs F p n c last := by rw [hxs, hF]; exact shF hf
  have szF : F.size = 162 := by rw [hF]; exact bnC_size hf
  have z65 : Tryz.zeroCells65.size = 162 := by kernel_rfl
  have eqF : hs = false → ∀ W : World, (Op.equalIn 10000 65 (.agg F) (.agg Tryz.zeroCells65)).run Tryz.prog W = .ok true W := fun h W => by rw [hF, hno h, zBn_c]; exact eq65 zBn_ok W
  have hfit : fits (pkL hs f ls last) = true := pkL_fits hf hls (by omega)
  have HFIT := Lib.hid hfit
  have hRF : ∀ W : World, Calls Tryz.prog 66 #[.agg F] W fun e w' => ∃ q m c, e = .returned (.slice q m c) ∧ Bld W [] .u8 5 w' q m c (bunB f) := fun W => by
    rw [hF]
    exact rbundle_f hf
  have HRF := Lib.hid hRF
  have hex : F.extract 0 162 = F := by rw [← szF]; simp
  have HS := Lib.hid S
  have HLS := Lib.hid hls
  have HL := Lib.hid hl
  rw [← hxs]
  clear hxs hF hf hno S hls hl hRF hfit
  obtain ⟨hd, hhd⟩ : ∃ hd : List Bs, hd = [putB last 2, if hs = true then bunB f else []] := ⟨_, rfl⟩
  have hpk : ∀ l, l = ls → pkL hs f l last = hd ++ l.map bunB := fun l _ => by rw [hhd]; rfl
  have HPK := Lib.hid (hpk ls rfl)
  have HHD := Lib.hid hhd
  rw [HPK.out]
  rw [HPK.out] at HFIT
  clear hhd hpk
  obtain ⟨sx, ⟨x0, x0'⟩, x1, ⟨x2, x2'⟩, ⟨x3, x3'⟩, _, _⟩ := X
  go_enter Tryz.func34, Tryz.ntmps34
  go_upto_region 1 with (fail)
  refine named_world (A := fun X => OwB w [(w.heap.size, .cells xs 68)] X) (Q := fun X => Code.wp _ _ _ _ X) ((OwB.start w).allocN _ w.heap.size rfl) ?_
  intro V hV
  generalize w.heap.size = b2 at hV ⊢
  have f2 := hV.nth 0 rfl
  have t2 := World.at_lt f2
  have HV := Lib.hid hV
  clear hV
  have d1 : decide ((n : Int) > 8) = false := by rw [decide_eq_false_iff_not]; omega
  have wl : IntKind.i64.wrap (last : Int) = (last : Int) := by rw [IntKind.wrap_i64]; omega
  cases hs with
  | false =>
    replace eqF := eqF rfl
    go_wp2_with fail
    clear eqF
    refine (rnum_b (n := last) (s := 2) (by omega) (by omega) (by omega)).mono ?_
    rintro e w1 ⟨b4, rfl, g4, hlo, F1⟩
    have HV1 := Lib.hid ((HV.out.call F1).room g4 (HV.out.fresh hlo) (Nat.le_trans HV.out.fr.size hlo))
    clear f2 t2 g4 hlo F1
    have f2 := HV1.out.nth 1 rfl
    have t2 := World.at_lt f2
    go_upto_region 4 with (fail)
    refine named_world (A := fun X => Gw w [(b2, .cells xs 68)] X (some ⟨w1.heap.size, 0, none⟩) 1 1 [putB last 2]) (Q := fun X => Code.wp _ _ _ _ X) (Gw.made (M := [(b4, .cells (ints .u8 (putB last 2)) 5)]) (HV1.out.allocN (.cells #[.slice (some ⟨b4, 0, none⟩) 2 2] 49) w1.heap.size rfl) rfl (by omega) fun W hW => .cons (Sl.whole (hW.nth 0 rfl) (putB_len _ _)) .nil) ?_
    intro U hG
    generalize w1.heap.size = b5 at hG ⊢
    have HG := Lib.hid hG
    clear hG f2 t2 HV HV1
    have f2 := HG.out.own.nth 0 rfl
    have t2 := World.at_lt f2

    go_wp2_with (refine wpList_gw rfl _ _ rfl rfl rfl (HG.out.none.call ((Fr.refl [] U).alloc _)) (World.at_alloc_new _ _ _ rfl) (by omega) ?_)
    intro q0 c0 W0 G0
    replace G0 : Gw w [(b2, .cells xs 68)] W0 q0 2 c0 hd := by rw [HHD.out]; exact G0
    have HG0 := Lib.hid G0
    clear G0 HG f2 t2
    go_wp2_with fail
    go_loopw [4, 5] (fun v iv wy => ∃ (i : Nat) (q : Option Addr) (c' : Nat), i ≤ n ∧ v = .slice q (i + 2) c' ∧ iv = .int .i64 (i : Int) ∧ Hid (Gw w [(b2, .cells xs 68)] wy q (i + 2) c' (hd ++ (ls.take i).map bunB))) (fun _ iv _ => (n - intOf iv).toNat)
    case atStart => exact ⟨0, q0, c0, by omega, rfl, rfl, Lib.hid (by simpa using HG0.out)⟩
    case round =>
      clear HG0
      obtain ⟨i, q, c', hin, rfl, rfl, hG⟩ := hrel
      have f2 := hG.out.own.nth 0 rfl
      have t2 := World.at_lt f2
      by_cases hlt : i < n
      · have hd1 : decide ((i : Int) < (n : Int)) = true := by rw [decide_eq_true_eq]; omega
        obtain ⟨y, b, o, cs, TT, fr, hy, rfl, g1, hs1, hs2, hx⟩ := (HS.out.fr0 hG.out.own.fr).elem HLS.out HL.out hlt
        have oky := HLS.out y (List.mem_of_getElem? hy)
        obtain ⟨B, hB⟩ : ∃ B, B = bnC y := ⟨_, rfl⟩
        rw [← hB] at hx
        have szB : B.size = 162 := by rw [hB]; exact bnC_size oky
        have hRB : ∀ W : World, Calls Tryz.prog 66 #[.agg B] W fun e w' => ∃ q m c, e = .returned (.slice q m c) ∧ Bld W [] .u8 5 w' q m c (bunB y) := fun W => by
          rw [hB]
          exact rbundle_f oky
        have HRB := Lib.hid hRB
        have hexB : B.extract 0 162 = B := by rw [← szB]; simp
        have htk : (ls.take (i + 1)).map bunB = (ls.take i).map bunB ++ [bunB y] := by
          rw [List.take_add_one, hy]
          simp
        have HTK := Lib.hid htk
        have u1 := World.at_lt g1
        have wi : IntKind.i64.wrap ((i : Int) + 1) = ((i + 1 : Nat) : Int) := by rw [IntKind.wrap_i64]; omega
        clear hB hy oky hRB htk
        go_wp2_with fail
        refine (HRB.out _).mono ?_
        rintro e w2 ⟨q2, m2, c2, rfl, B2⟩
        have HGB := Lib.hid (hG.out.piece B2)
        clear B2 f2 t2 g1 u1
        go_wp2_with (refine wpList_gw rfl _ _ rfl rfl rfl (HGB.out.call ((Fr.refl [] w2).alloc _)) (World.at_alloc_new _ _ _ rfl) (by omega) ?_)
        intro q3 c3 W3 G3
        have HG3 := Lib.hid G3
        clear G3
        clear HGB
        go_wp2_with fail
        go_roundw
        case rel => exact ⟨i + 1, q3, c3, by omega, by first | rfl | (congr 1; omega), by first | rfl | simp, Lib.hid (by have h := HG3.out; simp only [← List.map_take, ← List.append_assoc] at h; rw [HTK.out, ← List.append_assoc]; exact h)⟩
        case measure => simp [intOf]; omega
      · obtain rfl : i = n := by omega
        have hd1 : decide ((i : Int) < (i : Int)) = false := by simp
        have hfull : hd ++ (ls.take i).map bunB = hd ++ ls.map bunB := by rw [List.take_of_length_le (by rw [HL.out]; exact Nat.le_refl _)]
        have hG2 : Hid (Gw w [(b2, .cells xs 68)] wr q (i + 2) c' (hd ++ ls.map bunB)) := Lib.hid (by rw [← hfull]; exact hG.out)
        clear hG hfull
        go_wp2_with fail
        refine (rjoin_f hG2.out.sll HFIT.out).mono ?_
        rintro e w3 ⟨q3, m3, c3, rfl, B3⟩
        have HB3 := Lib.hid (B3.lift ((OwB.start w).call hG2.out.own.fr))
        clear B3 f2 t2
        go_wp2_with fail
        exact bodyPost_ret (results_tmp2 rfl _ _ _) rfl ⟨q3, m3, c3, rfl, HB3.out⟩
  | true =>
    clear eqF
    go_wp2_with fail
    refine (rnum_b (n := last) (s := 2) (by omega) (by omega) (by omega)).mono ?_
    rintro e w1 ⟨b4, rfl, g4, hlo, F1⟩
    have HV1 := Lib.hid ((HV.out.call F1).room g4 (HV.out.fresh hlo) (Nat.le_trans HV.out.fr.size hlo))
    clear f2 t2 g4 hlo F1
    have f2 := HV1.out.nth 1 rfl
    have t2 := World.at_lt f2
    go_upto_region 4 with (fail)
    refine named_world (A := fun X => Gw w [(b2, .cells xs 68)] X (some ⟨w1.heap.size, 0, none⟩) 1 1 [putB last 2]) (Q := fun X => Code.wp _ _ _ _ X) (Gw.made (M := [(b4, .cells (ints .u8 (putB last 2)) 5)]) (HV1.out.allocN (.cells #[.slice (some ⟨b4, 0, none⟩) 2 2] 49) w1.heap.size rfl) rfl (by omega) fun W hW => .cons (Sl.whole (hW.nth 0 rfl) (putB_len _ _)) .nil) ?_
    intro U hG
    generalize w1.heap.size = b5 at hG ⊢
    have HG := Lib.hid hG
    clear hG f2 t2 HV HV1
    have f2 := HG.out.own.nth 0 rfl
    have t2 := World.at_lt f2

    go_wp2_with fail
    refine (HRF.out _).mono ?_
    rintro e w2 ⟨q2, m2, c2, rfl, B2⟩
    have HGP := Lib.hid (HG.out.piece B2)
    clear B2 HG f2 t2
    go_wp2_with (refine wpList_gw rfl _ _ rfl rfl rfl (HGP.out.call ((Fr.refl [] w2).alloc _)) (World.at_alloc_new _ _ _ rfl) (by omega) ?_)
    intro q0 c0 W0 G0
    replace G0 : Gw w [(b2, .cells xs 68)] W0 q0 2 c0 hd := by rw [HHD.out]; exact G0
    have HG0 := Lib.hid G0
    clear G0 HGP
    go_wp2_with fail
    go_loopw [4, 5] (fun v iv wy => ∃ (i : Nat) (q : Option Addr) (c' : Nat), i ≤ n ∧ v = .slice q (i + 2) c' ∧ iv = .int .i64 (i : Int) ∧ Hid (Gw w [(b2, .cells xs 68)] wy q (i + 2) c' (hd ++ (ls.take i).map bunB))) (fun _ iv _ => (n - intOf iv).toNat)
    case atStart => exact ⟨0, q0, c0, by omega, rfl, rfl, Lib.hid (by simpa using HG0.out)⟩
    case round =>
      clear HG0
      obtain ⟨i, q, c', hin, rfl, rfl, hG⟩ := hrel
      have f2 := hG.out.own.nth 0 rfl
      have t2 := World.at_lt f2
      by_cases hlt : i < n
      · have hd1 : decide ((i : Int) < (n : Int)) = true := by rw [decide_eq_true_eq]; omega
        obtain ⟨y, b, o, cs, TT, fr, hy, rfl, g1, hs1, hs2, hx⟩ := (HS.out.fr0 hG.out.own.fr).elem HLS.out HL.out hlt
        have oky := HLS.out y (List.mem_of_getElem? hy)
        obtain ⟨B, hB⟩ : ∃ B, B = bnC y := ⟨_, rfl⟩
        rw [← hB] at hx
        have szB : B.size = 162 := by rw [hB]; exact bnC_size oky
        have hRB : ∀ W : World, Calls Tryz.prog 66 #[.agg B] W fun e w' => ∃ q m c, e = .returned (.slice q m c) ∧ Bld W [] .u8 5 w' q m c (bunB y) := fun W => by
          rw [hB]
          exact rbundle_f oky
        have HRB := Lib.hid hRB
        have hexB : B.extract 0 162 = B := by rw [← szB]; simp
        have htk : (ls.take (i + 1)).map bunB = (ls.take i).map bunB ++ [bunB y] := by
          rw [List.take_add_one, hy]
          simp
        have HTK := Lib.hid htk
        have u1 := World.at_lt g1
        have wi : IntKind.i64.wrap ((i : Int) + 1) = ((i + 1 : Nat) : Int) := by rw [IntKind.wrap_i64]; omega
        clear hB hy oky hRB htk
        go_wp2_with fail
        refine (HRB.out _).mono ?_
        rintro e w2 ⟨q2, m2, c2, rfl, B2⟩
        have HGB := Lib.hid (hG.out.piece B2)
        clear B2 f2 t2 g1 u1
        go_wp2_with (refine wpList_gw rfl _ _ rfl rfl rfl (HGB.out.call ((Fr.refl [] w2).alloc _)) (World.at_alloc_new _ _ _ rfl) (by omega) ?_)
        intro q3 c3 W3 G3
        have HG3 := Lib.hid G3
        clear G3
        clear HGB
        go_wp2_with fail
        go_roundw
        case rel => exact ⟨i + 1, q3, c3, by omega, by first | rfl | (congr 1; omega), by first | rfl | simp, Lib.hid (by have h := HG3.out; simp only [← List.map_take, ← List.append_assoc] at h; rw [HTK.out, ← List.append_assoc]; exact h)⟩
        case measure => simp [intOf]; omega
      · obtain rfl : i = n := by omega
        have hd1 : decide ((i : Int) < (i : Int)) = false := by simp
        have hfull : hd ++ (ls.take i).map bunB = hd ++ ls.map bunB := by rw [List.take_of_length_le (by rw [HL.out]; exact Nat.le_refl _)]
        have hG2 : Hid (Gw w [(b2, .cells xs 68)] wr q (i + 2) c' (hd ++ ls.map bunB)) := Lib.hid (by rw [← hfull]; exact hG.out)
        clear hG hfull
        go_wp2_with fail
        refine (rjoin_f hG2.out.sll HFIT.out).mono ?_
        rintro e w3 ⟨q3, m3, c3, rfl, B3⟩
        have HB3 := Lib.hid (B3.lift ((OwB.start w).call hG2.out.own.fr))
        clear B3 f2 t2
        go_wp2_with fail
        exact bodyPost_ret (results_tmp2 rfl _ _ _) rfl ⟨q3, m3, c3, rfl, HB3.out⟩
end
end Go.Proofs.YtbhnfohoclcjdaaGreat
