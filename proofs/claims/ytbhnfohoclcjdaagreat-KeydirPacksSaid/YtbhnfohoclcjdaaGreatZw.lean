/- Joined: PkY, PkW, PkZa, PkZ. -/
import Derived.Test.YtbhnfohoclcjdaaGreatZv
import Derived.Test.YtbhnfohoclcjdaaGreatZu
import Derived.Test.YtbhnfohoclcjdaaGreatZq
import Derived.Test.YtbhnfohoclcjdaaGreatZj
set_option linter.unusedVariables false
set_option linter.unusedSimpArgs false
namespace Go.Proofs.YtbhnfohoclcjdaaGreat
open Go.RowKit Go.Dr Go.Kd
/-- How many pieces the reader in this block still has. -/
def tkM (g : Nat) (w : World) : Nat := match w.blk g with
  | some (.cells cs _ _) => (match cs.toList with
    | [Value.slice _ n _, Value.int _ a] => n - a.toNat
    | _ => 0)
  | _ => 0
section
variable {w0 w w' : World} {M X N : List (Nat × Obj)} {g : Nat} {rs : List Bs}
theorem Tk.meas (R : Tk w0 M X g w rs) : tkM g w = rs.length := by
  obtain ⟨q, n, c, a, ls, O, hS, hl, hn, ha, hr⟩ := R.ex
  rw [tkM, O.nth 0 rfl, hr, List.length_drop, hl]
  simp
theorem Tk.mem {b : Nat} {o : Obj} (R : Tk w0 M X g w rs) (h : (b, o) ∈ X) : w.blk b = some o := by
  obtain ⟨q, n, c, a, ls, O, h2⟩ := R.ex
  exact O.mem (by simp [h])
theorem Tk.ownX (R : Tk w0 M X g w rs) : OwB w0 X w := by
  obtain ⟨q, n, c, a, ls, O, h2⟩ := R.ex
  exact O.sub ((List.sublist_append_right M X).trans (List.sublist_cons_self _ _))
theorem Tk.hasM (R : Tk w0 M X g w rs) : Has M w := by
  obtain ⟨q, n, c, a, ls, O, h2⟩ := R.ex
  exact O.has.tail.of_append.1
theorem Tk.unpark {e sz : Nat} {p : Option Addr} {n c : Nat} {vs : List Value} (R : Tk w0 M (N ++ X) g w rs) (hP : Parked N e sz p n c vs) :
    ∃ o, BldV w0 ((g, o) :: (M ++ X)) e sz w p n c vs ∧ ∀ W N', OwB w0 (N' ++ ((g, o) :: (M ++ X))) W → Tk w0 M (N' ++ X) g W rs := by
  obtain ⟨q, n, c, a, ls, O, h⟩ := R.ex
  refine ⟨_, hP.take (O.perm (((List.perm_append_comm_assoc M N X).cons _).trans List.perm_middle.symm)), fun W N' O' => ⟨q, n, c, a, ls, O'.perm (List.perm_middle.trans ((List.perm_append_comm_assoc N' M X).cons _)), h⟩⟩
end
theorem opP_le {B : Bs} (hB : isBytes B) : ∀ l ∈ opP B, l.length ≤ 4096 := by
  unfold opP
  cases h : splitB B with
  | none => intro l hl; cases hl
  | some ps =>
    have h := (splitB_back hB h).2
    simp only [fits, Bool.and_eq_true, decide_eq_true_eq, List.all_eq_true] at h
    exact h.2
theorem sv_lf {w : World} {p : Option Addr} {n c : Nat} {vs : List Value} (S : Sv 162 w p n c vs) : Lf w p n c vs := by
  cases p with
  | some a => exact .inr ⟨a, rfl, S⟩
  | none =>
    have h1 := S.nil rfl
    have h2 := S.cap_
    have h3 := S.len
    obtain rfl : n = 0 := by omega
    exact .inl ⟨rfl, rfl, h1, List.eq_nil_of_length_eq_zero (by omega)⟩
theorem opP_len (B : Bs) (hB : isBytes B) : (opP B).length ≤ 64 := by
  unfold opP
  cases h : splitB B with
  | none => simp
  | some ps =>
    have h := (splitB_back hB h).2
    simp only [fits, Bool.and_eq_true, decide_eq_true_eq, List.all_eq_true] at h
    exact h.1
theorem headD_le {ps : List Bs} (h : ∀ l ∈ ps, l.length ≤ 4096) : (ps.headD []).length ≤ 4096 := by
  cases ps with
  | nil => simp
  | cons l ls => exact h l (by simp)
section
variable {w : World}
set_option maxRecDepth 100000 in
set_option maxHeartbeats 8000000 in
theorem dunpack_f {p0 : Option Addr} {n0 c0 : Nat} {B : Bs} (S : Sl .u8 w p0 n0 c0 B) (hB : isBytes B) (hn : n0 ≤ 100000) :
    Calls Tryz.prog 37 #[.slice p0 n0 c0] w fun e w' => UnpRes w (unpk B) e w' := by
  obtain ⟨R, hR⟩ : ∃ R, R = unpk B := ⟨_, rfl⟩
  rw [← hR]
  have HR := Lib.hid hR
  have HS := Lib.hid S
  have HB := Lib.hid hB
  clear hR S hB
  obtain ⟨ps, hps⟩ : ∃ ps, ps = opP B := ⟨_, rfl⟩
  have hpb : ∀ l ∈ ps, isBytes l := by rw [hps]; exact opP_bytes HB.out
  have hple : ∀ l ∈ ps, l.length ≤ 4096 := by rw [hps]; exact opP_le HB.out
  have HPB := Lib.hid hpb
  have HPLE := Lib.hid hple
  have HPS := Lib.hid hps
  clear hps hpb hple
  have z68 : Tryz.zeroCells68.size = 165 := by kernel_rfl
  have z68o : ones Tryz.zeroCells68.toList = true := by kernel_rfl
  go_enter Tryz.func37, Tryz.ntmps37
  go_upto_region 1 with (fail)
  refine named_world (A := fun V => OwB w [(w.heap.size, .cells Tryz.zeroCells68 68)] V) (Q := fun V => Code.wp _ _ _ _ V) ((OwB.start w).allocN _ _ rfl) ?_
  intro V hV
  generalize w.heap.size = b2 at hV ⊢
  have HV := Lib.hid hV
  clear hV
  go_wp2_with fail
  refine (topen_f (HS.out.fr0 HV.out.fr) HB.out hn).mono ?_
  rintro e w1 ⟨g, M, rfl, R0⟩
  obtain ⟨ok, hok⟩ : ∃ ok, ok = !(opP B).isEmpty := ⟨_, rfl⟩
  rw [← hok]
  rw [← HPS.out] at R0
  have HOK := Lib.hid hok
  have R1 : Tk w M [(b2, .cells Tryz.zeroCells68 68)] g w1 ps := by
    obtain ⟨q, n, c, a, ls, O, h⟩ := R0.ex
    exact ⟨q, n, c, a, ls, by simpa using HV.out.merge O, h⟩
  have HT1 := Lib.hid R1
  clear R0 R1 HV hok
  go_wp2_with fail
  refine (num_t HT1.out HPB.out).mono ?_
  rintro e w2 ⟨rfl, R2⟩
  clear HT1
  obtain ⟨d0, hd⟩ : ∃ d0, d0 = getB ((ps.headD []).take 4) := ⟨_, rfl⟩
  rw [← hd]
  obtain ⟨v, ed⟩ : ∃ v : Nat, v = d0 % 65536 := ⟨_, rfl⟩
  have wid : IntKind.u16.wrap (d0 : Int) = (v : Int) := by rw [IntKind.wrap_u16, ed]; omega
  have lv : v < 65536 := by omega
  have HVL : Hid (v = dLast ps) := Lib.hid (by rw [ed, hd]; rfl)
  clear hd ed
  obtain ⟨ys0, hys0⟩ : ∃ ys0, ys0 = shC false zBn none 0 0 (v : Int) := ⟨_, rfl⟩
  have eY5 : Tryz.zeroCells68.setIfInBounds 164 (.int .u16 (v : Int)) = ys0 := by
    have l0 : Tryz.zeroCells65.toList.length = 162 := by kernel_rfl
    rw [hys0, z68_eq, cShelf_set_last _ _ _ _ _ l0, zBn_c]
  have X0 : ShF ys0 false (bnC zBn) none 0 0 (v : Int) := by rw [hys0]; exact shF zBn_ok
  obtain ⟨sy0, ⟨y0, y0'⟩, -, -, -, yal0, yon0⟩ := X0
  have HYS0 := Lib.hid hys0
  have HT2 := Lib.hid R2
  clear R2 hys0
  go_upto_region 3 with (fail)
  refine named_world (A := fun X => Tk w M [(w2.heap.size, .cells ys0 68), (b2, .cells Tryz.zeroCells68 68)] g X ps.tail) (Q := fun X => Code.wp _ _ _ _ X) (HT2.out.alloc _ _ rfl) ?_
  intro U3 hU
  generalize w2.heap.size = b6 at hU ⊢
  have HU := Lib.hid hU
  clear hU HT2 eY5 y0' yon0 yal0
  go_wp2_with fail
  refine (next_t2 HU.out).mono ?_
  rintro e w3 ⟨p, np, cp, rfl, hSp, R3⟩
  have HSP := Lib.hid hSp
  have HT3 := Lib.hid R3
  clear hSp R3 HU
  obtain ⟨hs, hhs⟩ : ∃ hs, hs = dHs ps := ⟨_, rfl⟩
  have hnp : (ps.tail.headD []).length = np := (HSP.out w3 HT3.out.hasM).len
  have e1 : decide ((np : Int) > 0) = hs := by rw [hhs, dHs, ← hnp]; cases ps.tail.headD [] <;> simp <;> omega
  have e2 : decide (0 < np) = hs := by rw [hhs, dHs, ← hnp]; cases ps.tail.headD [] <;> simp
  have HHS := Lib.hid hhs
  have f6 := HT3.out.mem (b := b6) (o := .cells ys0 68) (by simp)
  have t6 := World.at_lt f6
  obtain ⟨ys1, hys1⟩ : ∃ ys1, ys1 = shC hs zBn none 0 0 (v : Int) := ⟨_, rfl⟩
  have eY6 : ys0.setIfInBounds 0 (.bool hs) = ys1 := by
    rw [hys1, HYS0.out]
    exact cShelf_set_has _ _ _ _ _ (by rw [Array.length_toList, bnC_size zBn_ok])
  have HYS1 := Lib.hid hys1
  clear hnp hhs hys1
  go_upto_region 5 with (fail)
  refine named_world (A := fun X => Tk w M [(b6, .cells ys1 68), (b2, .cells Tryz.zeroCells68 68)] g X ps.tail.tail) (Q := fun X => Code.wp _ _ _ _ X) (HT3.out.put _) ?_
  intro U5 hU
  have HU5 := Lib.hid hU
  clear hU f6 t6 HT3 eY6 e1 e2 y0 sy0
  have hpbt : isBytes (ps.tail.headD []) := headD_bytes (tail_bytes HPB.out)
  have HPBT := Lib.hid hpbt
  clear hpbt
  go_wp2_with fail
  refine (readbun_f (HSP.out U5 HU5.out.hasM) HPBT.out (by have h1 := (HSP.out U5 HU5.out.hasM).len; have h2 := headD_le (fun l hl => HPLE.out l (List.mem_of_mem_tail hl)); omega)).mono ?_
  rintro e w5 ⟨bb, rfl, F5⟩
  obtain ⟨f, hf⟩ : ∃ f, f = dRd (ps.tail.headD []) := ⟨_, rfl⟩
  rw [← hf]
  have okf : BnOk f := by rw [hf]; exact dRd_ok HPBT.out
  obtain ⟨Fc, hFc⟩ : ∃ Fc, Fc = bnC f := ⟨_, rfl⟩
  rw [← hFc]
  have szF : Fc.size = 162 := by rw [hFc]; exact bnC_size okf
  have onF : ones Fc.toList = true := by rw [hFc]; exact List.all_eq_true.2 (cBundle_one _ _ _ _ _ _ rfl rfl)
  have allF : Fc.extract 0 162 = Fc := by rw [← szF]; exact Array.extract_size
  have HF := Lib.hid hf
  have HOKF := Lib.hid okf
  have HFC := Lib.hid hFc
  have HT5 := Lib.hid (HU5.out.fr F5)
  have hnof : hs = false → f = zBn := fun h => by rw [hf]; exact dRd_of_no (by rw [← HHS.out]; exact h)
  have HNOF := Lib.hid hnof
  clear hf okf hFc F5 HU5 hnof
  have z65 : Tryz.zeroCells65.size = 162 := by kernel_rfl
  have z65o : ones Tryz.zeroCells65.toList = true := by kernel_rfl
  go_upto_region 6 with (fail)
  refine named_world (A := fun X => Tk w M [(w5.heap.size, .cells Fc 65), (b6, .cells ys1 68), (b2, .cells Tryz.zeroCells68 68)] g X ps.tail.tail) (Q := fun X => Code.wp _ _ _ _ X) (HT5.out.alloc _ _ rfl) ?_
  intro U6 hU
  generalize w5.heap.size = b8 at hU ⊢
  have HU6 := Lib.hid hU
  clear hU HT5
  have f8 := HU6.out.mem (b := b8) (o := .cells Fc 65) (by simp)
  have f6 := HU6.out.mem (b := b6) (o := .cells ys1 68) (by simp)
  have t8 := World.at_lt f8
  have t6 := World.at_lt f6
  have X1 : ShF ys1 hs (bnC zBn) none 0 0 (v : Int) := by rw [HYS1.out]; exact shF zBn_ok
  have sy1 := X1.sz
  clear X1
  obtain ⟨ys2, hys2⟩ : ∃ ys2, ys2 = shC hs f none 0 0 (v : Int) := ⟨_, rfl⟩
  have eY7 : spl ys1 1 Fc.toList = ys2 := by rw [HYS1.out, HFC.out, hys2]; exact shC_fall zBn_ok HOKF.out
  have HYS2 := Lib.hid hys2
  have n68 := HU6.out.ownX.ne 1 0 rfl rfl (by decide)
  have n86 := n68.symm
  clear hys2
  go_upto_region 7 with (fail)
  refine named_world (A := fun X => Tk w M [(b6, .cells ys2 68), (b2, .cells Tryz.zeroCells68 68)] g X ps.tail.tail) (Q := fun X => Code.wp _ _ _ _ X) ((HU6.out.permX (List.Perm.swap ..)).put (.cells ys2 68) |>.permX (List.Perm.swap ..) |>.pop) ?_
  intro U7 hU
  have HU7 := Lib.hid hU
  clear hU f8 f6 t8 t6 n68 n86 eY7 HU6 sy1
  obtain ⟨l, hl⟩ : ∃ l, l = ps.tail.tail := ⟨_, rfl⟩
  have HLL := Lib.hid hl
  rw [← hl] at HU7
  have hl64 : l.length ≤ 64 := by
    rw [hl, HPS.out]
    have := opP_len B HB.out
    simp only [List.length_tail]
    omega
  clear hl
  rw [HYS2.out] at HU7
  go_loopw [] (fun wy => ∃ (i : Nat) (q : Option Addr) (c : Nat) (N : List (Nat × Obj)), Hid (i ≤ l.length) ∧ Hid (Tk w M ((b6, .cells (shC hs f q i c (v : Int)) 68) :: (N ++ [(b2, .cells Tryz.zeroCells68 68)])) g wy (l.drop i)) ∧ Hid (Parked N 65 162 q i c (bnsL ((l.take i).map dRd)))) (fun wy => tkM g wy)
  case atStart => exact ⟨0, none, 0, [], Lib.hid (Nat.zero_le _), HU7, Lib.hid (Parked.nil _ _)⟩
  case round =>
    obtain ⟨i, q, c, N, hil, hT, hP⟩ := hrel
    obtain ⟨ys, hys⟩ : ∃ ys, ys = shC hs f q i c (v : Int) := ⟨_, rfl⟩
    have Y : ShF ys hs (bnC f) q i c (v : Int) := by rw [hys]; exact shF HOKF.out
    obtain ⟨sy, -, -, ⟨x2, x2'⟩, -, yal, yon⟩ := Y
    have HYS := Lib.hid hys
    have HT : Hid (Tk w M ((b6, .cells ys 68) :: (N ++ [(b2, .cells Tryz.zeroCells68 68)])) g wr (l.drop i)) := by rw [hys]; exact hT
    have hms : tkM g wr = (l.drop i).length := hT.out.meas
    have HMS := Lib.hid hms
    clear hT hys hms
    go_wp2_with fail
    refine (left_t HT.out).mono ?_
    rintro e w8 ⟨rfl, R8⟩
    have HT8 := Lib.hid R8
    obtain ⟨rl, hrl⟩ : ∃ rl, rl = (l.drop i).length := ⟨_, rfl⟩
    rw [← hrl]
    have HRL := Lib.hid hrl
    clear R8 hrl HT
    by_cases hz : 0 < rl
    · have hd1 : decide ((rl : Int) > 0) = true := by rw [decide_eq_true_eq]; omega
      have hlt : i < l.length := by have := HRL.out; rw [List.length_drop] at this; omega
      obtain ⟨x, hx⟩ : ∃ x, l[i]? = some x := ⟨_, List.getElem?_eq_getElem hlt⟩
      have hdr : l.drop i = x :: l.drop (i + 1) := by rw [List.drop_eq_getElem_cons hlt, (List.getElem?_eq_some_iff.1 hx).2]
      have hxl : x ∈ ps := by
        have h := List.mem_of_getElem? hx
        rw [HLL.out] at h
        exact List.mem_of_mem_tail (List.mem_of_mem_tail h)
      have htk : (l.take (i + 1)) = l.take i ++ [x] := by
        rw [List.take_add_one, hx]
        rfl
      have HTK := Lib.hid htk
      have HDR := Lib.hid hdr
      have HXL := Lib.hid hxl
      have HLT := Lib.hid hlt
      clear hx hdr hxl htk hlt
      go_wp2_with fail
      refine (next_t2 HT8.out).mono ?_
      rintro e w9 ⟨px, nx, cx, rfl, hSx, R9⟩
      rw [HDR.out] at hSx R9
      have HSX := Lib.hid hSx
      have HT9 := Lib.hid R9
      clear hSx R9 HT8
      go_wp2_with fail
      refine (readbun_f (HSX.out w9 HT9.out.hasM) (HPB.out x HXL.out) (by have h1 := (HSX.out w9 HT9.out.hasM).len; have h2 := HPLE.out x HXL.out; simp only [List.headD_cons] at h1; omega)).mono ?_
      rintro e w10 ⟨bb2, rfl, F10⟩
      have okx : BnOk (dRd x) := dRd_ok (HPB.out x HXL.out)
      rw [show ((x :: l.drop (i + 1)).headD []) = x from rfl]
      obtain ⟨D, hD⟩ : ∃ D, D = bnC (dRd x) := ⟨_, rfl⟩
      rw [← hD]
      have szD : D.size = 162 := by rw [hD]; exact bnC_size okx
      have oneD : ∀ u ∈ D.toList, u.oneCell' = true := by rw [hD]; exact cBundle_one _ _ _ _ _ _ rfl rfl
      have onD : ones D.toList = true := List.all_eq_true.2 oneD
      have allD : D.extract 0 162 = D := by rw [← szD]; exact Array.extract_size
      have hbl : bnsL ((l.take (i + 1)).map dRd) = bnsL ((l.take i).map dRd) ++ D.toList := by
        rw [HTK.out, List.map_append, bnsL_append, hD]
        simp [bnsL]
      have HBL := Lib.hid hbl
      have HONE := Lib.hid oneD
      have HT10 : Hid (Tk w M ((b6, .cells ys 68) :: (N ++ [(b2, .cells Tryz.zeroCells68 68)])) g w10 (l.drop (i + 1))) := Lib.hid (HT9.out.fr F10)
      clear hD okx oneD hbl F10 HT9
      have z65 : Tryz.zeroCells65.size = 162 := by kernel_rfl
      have z65o : ones Tryz.zeroCells65.toList = true := by kernel_rfl
      go_upto_region 9 with (fail)
      refine named_world (A := fun X => Tk w M ((w10.heap.size, Obj.cells D 65) :: (b6, Obj.cells ys 68) :: (N ++ [(b2, Obj.cells Tryz.zeroCells68 68)])) g X (l.drop (i + 1))) (Q := fun X => Code.wp _ _ _ _ X) (HT10.out.alloc _ _ rfl) ?_
      intro U11 hU
      generalize w10.heap.size = b10 at hU ⊢
      have f10 := hU.mem (b := b10) (o := .cells D 65) (by simp)
      have f6 := hU.mem (b := b6) (o := .cells ys 68) (by simp)
      have t10 := World.at_lt f10
      have t6 := World.at_lt f6
      have n610 := hU.ownX.ne 1 0 rfl rfl (by decide)
      have n106 := n610.symm
      obtain ⟨o, BV, back⟩ := Tk.unpark (N := N) (X := [(b10, Obj.cells D 65), (b6, Obj.cells ys 68), (b2, Obj.cells Tryz.zeroCells68 68)]) (hU.permX (((List.perm_middle (l₁ := N)).symm.cons _).trans (List.perm_middle (l₁ := N)).symm)) hP.out
      have HBV := Lib.hid BV
      have HBACK := Lib.hid back
      clear hU BV back HT10
      have hib : i ≤ 1000 := by have := HLT.out; have := hl64; omega
      go_wp2_with (refine wpList_app60F rfl _ _ rfl rfl (BldV.newroom HBV.out _) rfl (sv_one (World.at_alloc_new _ _ _ rfl) szD) HONE.out (by omega) ?_)
      intro q3 c3 W3 hB3 hF3
      obtain ⟨N', O', P'⟩ := (hB3.sub (.cons _ (.refl _))).park
      have R12 := HBACK.out W3 N' O'
      have R13 : Tk w M ((b6, .cells ys 68) :: (N' ++ [(b2, .cells Tryz.zeroCells68 68)])) g W3 (l.drop (i + 1)) := (R12.permX ((List.perm_middle (l₁ := N')).trans ((List.perm_middle (l₁ := N')).cons _))).pop
      have HT13 := Lib.hid R13
      have HP13 := Lib.hid P'
      clear f10 t10 f6 t6 hF3 hB3 O' P' R12 R13 n610 n106
      have f6 := HT13.out.mem (b := b6) (o := .cells ys 68) (by simp)
      have t6 := World.at_lt f6
      obtain ⟨i1, hi1⟩ : ∃ i1, i1 = i + 1 := ⟨_, rfl⟩
      rw [← hi1] at HP13 HT13 ⊢
      obtain ⟨ys3, hys3⟩ : ∃ ys3, ys3 = shC hs f q3 i1 c3 (v : Int) := ⟨_, rfl⟩
      have eY : ys.setIfInBounds 163 (.slice q3 i1 c3) = ys3 := by rw [HYS.out, hys3]; exact shC_left HOKF.out
      have HI1 := Lib.hid hi1
      have HYS3 := Lib.hid hys3
      have HMEAS : Hid (tkM g (W3.put b6 (.cells ys3 68)) < tkM g wr) := Lib.hid (by
        have h := (HT13.out.put (.cells ys3 68)).meas
        rw [h, HMS.out, HDR.out, hi1]
        simp)
      clear hi1 hys3
      go_wp2_with fail
      go_roundw
      case rel =>
        refine ⟨i1, q3, c3, N', Lib.hid (by have := HI1.out; have := HLT.out; omega), Lib.hid ?_, Lib.hid ?_⟩
        · rw [← HYS3.out]; exact HT13.out.put (.cells ys3 68)
        · have h := HP13.out
          rw [HI1.out, HBL.out, ← HI1.out]
          simpa [List.map_take] using h
      case measure => exact HMEAS.out
    · have hd1 : decide ((rl : Int) > 0) = false := by rw [decide_eq_false_iff_not]; omega
      have hd1b : decide (0 < rl) = false := by rw [decide_eq_false_iff_not]; omega
      have hil2 : i = l.length := by
        have h1 := HRL.out
        have h2 := hil.out
        rw [List.length_drop] at h1
        omega
      have htk : l.take i = l := List.take_of_length_le (by omega)
      rw [htk] at hP
      have HIL := Lib.hid hil2
      have f6 := HT8.out.mem (b := b6) (o := .cells ys 68) (by simp)
      have t6 := World.at_lt f6
      have HO8 : Hid (OwB w ((b6, .cells ys 68) :: (N ++ [(b2, .cells Tryz.zeroCells68 68)])) w8) := Lib.hid HT8.out.ownX
      have hlf : Lf w8 q i c (bnsL (l.map dRd)) := sv_lf (hP.out.svH HO8.out.has.tail.of_append.1)
      have okls : ∀ x ∈ l.map dRd, BnOk x := fun x hx => by
        obtain ⟨y, hy, rfl⟩ := List.mem_map.1 hx
        rw [HLL.out] at hy
        exact dRd_ok (HPB.out y (List.mem_of_mem_tail (List.mem_of_mem_tail hy)))
      have hlen : (l.map dRd).length = i := by rw [List.length_map, hil2]
      have hdl : dLs ps = l.map dRd := by rw [dLs, HLL.out]
      have HLF := Lib.hid hlf
      have HOKL := Lib.hid okls
      have HLEN := Lib.hid hlen
      have HDL := Lib.hid hdl
      clear htk hil2 hlf okls hlen hdl hil HT8
      by_cases h8 : i ≤ 8
      · obtain ⟨PB, hPB⟩ : ∃ PB, PB = joinB (pkL hs f (l.map dRd) v) := ⟨_, rfl⟩
        have k34 : Calls Tryz.prog 34 #[.agg ys] w8 fun e w' => ∃ q m c', e = .returned (.tuple #[.slice q m c', .bool true]) ∧ Bld w8 [] .u8 5 w' q m c' PB := by
          rw [HYS.out, hPB]
          exact dpack_f HOKF.out HLF.out HOKL.out HLEN.out h8 HNOF.out lv
        have hpkb : isBytes PB := by
          rw [hPB]
          refine isBytes_join (pkL_fits HOKF.out HOKL.out (by rw [HLEN.out]; exact h8)) fun l hl => ?_
          simp only [pkL, List.mem_cons, List.mem_map] at hl
          rcases hl with rfl | rfl | ⟨x, ⟨y, hy, rfl⟩, rfl⟩
          · exact isBytes_putB _ _
          · split
            · exact isBytes_bunB HOKF.out
            · intro y hy; cases hy
          · exact isBytes_bunB (HOKL.out _ (List.mem_map.2 ⟨y, hy, rfl⟩))
        have hfull : joinB (dFull (opP B)) = PB := by
          rw [hPB, ← HPS.out, dFull, HDL.out, ← HHS.out, ← HF.out, ← HVL.out]
        have K34 := Lib.hid k34
        have HPKB := Lib.hid hpkb
        have HFULL := Lib.hid hfull
        clear hPB k34 hpkb hfull
        go_wp2_with fail
        refine K34.out.mono ?_
        rintro e w11 ⟨q8, m8, c8, rfl, B8⟩
        have HB8 := Lib.hid B8.sl
        have HO11 := Lib.hid (HO8.out.call B8.own.fr)
        have HLF11 := Lib.hid (HLF.out.fr0 B8.own.fr)
        clear B8 f6 t6 K34
        have f6 := HO11.out.nth 0 rfl
        have t6 := World.at_lt f6
        have f2 := HO11.out.mem (b := b2) (o := .cells Tryz.zeroCells68 68) (by simp)
        have t2 := World.at_lt f2
        cases ok with
        | false =>
          have HNo : Hid (R = none) := Lib.hid (by
            rw [HR.out]
            cases hu : unpk B with
            | none => rfl
            | some r =>
              have h1 := (unpk_back HB.out hu).1
              have h2 := HOK.out
              cases ho : opP B with
              | nil => exact absurd ho h1
              | cons => rw [ho] at h2; cases h2)
          go_wp2_with fail
          have hf := OwB.set_mid (A := (b6, .cells ys 68) :: N) HO11.out (.cells Tryz.zeroCells68 68)
          refine ret_cell_tmp rfl rfl rfl ?_
          refine cellRet_of (hf.mem (b := b2) (o := .cells Tryz.zeroCells68 68) (by simp)) (by rw [z68]; kernel_rfl) ?_
          rw [HNo.out]
          exact ⟨rfl, hf.fr⟩
        | true =>
          go_wp2_with fail
          refine (bytes_f (HS.out.fr0 HO11.out.fr) HB8.out HB.out HPKB.out).mono ?_
          rintro e w12 ⟨rfl, F12⟩
          have HO12 := Lib.hid (HO11.out.call F12)
          have HLF12 := Lib.hid (HLF11.out.fr0 F12)
          clear F12 f6 t6 f2 t2
          have f6 := HO12.out.nth 0 rfl
          have t6 := World.at_lt f6
          have f2 := HO12.out.mem (b := b2) (o := .cells Tryz.zeroCells68 68) (by simp)
          have t2 := World.at_lt f2
          have n62 : b6 ≠ b2 := HO12.out.ne (o' := Obj.cells Tryz.zeroCells68 68) 0 (N.length + 1) rfl (by simp) (by omega)
          have n26 := n62.symm
          by_cases hEq : B = PB
          · have hd2 : decide (B = PB) = true := by rw [decide_eq_true_eq]; exact hEq
            have hres : R = some (hs, f, l.map dRd, v) := by
              rw [HR.out, unpk_yes HB.out (by rw [← HPS.out, HDL.out, HLEN.out]; exact h8) (by rw [HFULL.out]; exact hEq.symm), ← HPS.out, HDL.out, ← HHS.out, ← HF.out, ← HVL.out]
            rw [hd2]
            have HRES := Lib.hid hres
            have HN2 := Lib.hid (⟨n62, n26⟩ : b6 ≠ b2 ∧ b2 ≠ b6)
            clear hres hEq hd2
            go_wp2_with fail
            have hB9 := OwB.set_mid (A := (b6, .cells ys 68) :: N) HO12.out (.cells ys 68)
            have hL9 : Lf (w12.put b2 (.cells ys 68)) q i c (bnsL (l.map dRd)) := sv_lf (hP.out.svH (hB9.has.of_append.1.tail))
            refine ret_cell_tmp rfl rfl rfl ?_
            refine cellRet_of (hB9.mem (b := b2) (o := .cells ys 68) (by simp)) (by rw [sy]; kernel_rfl) ?_
            rw [HRES.out]
            exact ⟨q, i, c, by rw [HYS.out]; rfl, HLEN.out.symm, hL9, hB9.fr⟩
          · have hd2 : decide (B = PB) = false := by simpa using hEq
            have HNo : Hid (R = none) := Lib.hid (by
              rw [HR.out]
              cases hu : unpk B with
              | none => rfl
              | some r => exact absurd ((unpk_back HB.out hu).2.2.symm.trans HFULL.out) hEq)
            rw [hd2]
            clear hEq hd2
            go_wp2_with fail
            have hf := OwB.set_mid (A := (b6, .cells ys 68) :: N) HO12.out (.cells Tryz.zeroCells68 68)
            refine ret_cell_tmp rfl rfl rfl ?_
            refine cellRet_of (hf.mem (b := b2) (o := .cells Tryz.zeroCells68 68) (by simp)) (by rw [z68]; kernel_rfl) ?_
            rw [HNo.out]
            exact ⟨rfl, hf.fr⟩
      · have k34 : Calls Tryz.prog 34 #[.agg ys] w8 fun e w' => e = .returned (.tuple #[.slice none 0 0, .bool false]) ∧ Fr [] w8 w' := by
          rw [HYS.out]
          exact dpack_no HOKF.out (fun h => h8 h.1)
        have HNo : Hid (R = none) := Lib.hid (by
          rw [HR.out]
          cases hu : unpk B with
          | none => rfl
          | some r =>
            have h1 := (unpk_back HB.out hu).2.1
            rw [← HPS.out, HDL.out, HLEN.out] at h1
            exact absurd h1 h8)
        have K34 := Lib.hid k34
        clear k34
        go_wp2_with fail
        refine K34.out.mono ?_
        rintro e w11 ⟨rfl, F11⟩
        have HO11 := Lib.hid (HO8.out.call F11)
        clear F11 f6 t6 K34
        have f6 := HO11.out.nth 0 rfl
        have t6 := World.at_lt f6
        have f2 := HO11.out.mem (b := b2) (o := .cells Tryz.zeroCells68 68) (by simp)
        have t2 := World.at_lt f2
        cases ok with
        | false =>
          go_wp2_with fail
          have hf := OwB.set_mid (A := (b6, .cells ys 68) :: N) HO11.out (.cells Tryz.zeroCells68 68)
          refine ret_cell_tmp rfl rfl rfl ?_
          refine cellRet_of (hf.mem (b := b2) (o := .cells Tryz.zeroCells68 68) (by simp)) (by rw [z68]; kernel_rfl) ?_
          rw [HNo.out]
          exact ⟨rfl, hf.fr⟩
        | true =>
          go_wp2_with fail
          have hf := OwB.set_mid (A := (b6, .cells ys 68) :: N) HO11.out (.cells Tryz.zeroCells68 68)
          refine ret_cell_tmp rfl rfl rfl ?_
          refine cellRet_of (hf.mem (b := b2) (o := .cells Tryz.zeroCells68 68) (by simp)) (by rw [z68]; kernel_rfl) ?_
          rw [HNo.out]
          exact ⟨rfl, hf.fr⟩
end
end Go.Proofs.YtbhnfohoclcjdaaGreat
namespace Go.Proofs.YtbhnfohoclcjdaaGreat
open Go.RowKit Go.Dr Go.Kd
section
variable {w : World}
set_option maxRecDepth 100000 in
set_option maxHeartbeats 8000000 in
theorem kpack_f {hs : Bool} {f : Bn} {p : Option Addr} {n c last : Nat} {ls : List Bn} (hf : BnOk f) (S : Lf w p n c (bnsL ls)) (hls : ∀ x ∈ ls, BnOk x) (hl : ls.length = n) (h8 : n ≤ 8) (hno : hs = false → f = zBn) (hla : last < 65536) :
    Calls Tryz.prog 33 #[.agg (shC hs f p n c (last : Int))] w fun e w' => ∃ q m c', e = .returned (.tuple #[.slice q m c', .bool true]) ∧ Bld w [] .u8 5 w' q m c' (joinB (pkL hs f ls last)) := by
  obtain ⟨xs, hxs⟩ : ∃ xs, xs = shC hs f p n c (last : Int) := ⟨_, rfl⟩
  obtain ⟨F, hF⟩ : ∃ F, F = bnC f := ⟨_, rfl⟩
  have X : ShF xs hs F p n c last := by rw [hxs, hF]; exact shF hf
  have szF : F.size = 162 := by rw [hF]; exact bnC_size hf
  have z65 : Tryz.zeroCells65.size = 162 := by kernel_rfl
  have eqF : hs = false → ∀ W : World, (Op.equalIn 10000 65 (.agg F) (.agg Tryz.zeroCells65)).run Tryz.prog W = .ok true W := fun h W => by rw [hF, hno h, zBn_c]; exact eq65 zBn_ok W
  have hfit : fits (pkL hs f ls last) = true := pkL_fits hf hls (by omega)
  have HFIT := Lib.hid hfit
  have hRF : ∀ W : World, Calls Tryz.prog 64 #[.agg F] W fun e w' => ∃ q m c, e = .returned (.tuple #[.slice q m c, .bool true]) ∧ Bld W [] .u8 5 w' q m c (bunB f) := fun W => by
    rw [hF]
    exact pbundle_f hf
  have HRF := Lib.hid hRF
  have hex : F.extract 0 162 = F := by rw [← szF]; simp
  have HS := Lib.hid S
  have HLS := Lib.hid hls
  have HL := Lib.hid hl
  rw [← hxs]
  clear hxs hF hf hno S hls hl hRF hfit
  obtain ⟨hd, hhd⟩ : ∃ hd : List Bs, hd = [putB last 2, if hs = true then bunB f else []] := ⟨_, rfl⟩
  have hpk : ∀ l, l = ls → pkL hs f l last = hd ++ l.map bunB := fun l _ => by rw [hhd]; rfl
  have HPK := Lib.hid (hpk ls rfl)
  have HHD := Lib.hid hhd
  rw [HPK.out]
  rw [HPK.out] at HFIT
  clear hhd hpk
  obtain ⟨sx, ⟨x0, x0'⟩, x1, ⟨x2, x2'⟩, ⟨x3, x3'⟩, _, _⟩ := X
  go_enter Tryz.func33, Tryz.ntmps33
  go_upto_region 1 with (fail)
  refine named_world (A := fun X => OwB w [(w.heap.size, .cells xs 68)] X) (Q := fun X => Code.wp _ _ _ _ X) ((OwB.start w).allocN _ w.heap.size rfl) ?_
  intro V hV
  generalize w.heap.size = b2 at hV ⊢
  have f2 := hV.nth 0 rfl
  have t2 := World.at_lt f2
  have HV := Lib.hid hV
  clear hV
  have d1 : decide ((n : Int) > 8) = false := by rw [decide_eq_false_iff_not]; omega
  have wl : IntKind.u64.wrap (last : Int) = (last : Int) := by rw [IntKind.wrap_u64]; omega
  cases hs with
  | false =>
    replace eqF := eqF rfl
    go_wp2_with fail
    clear eqF
    refine (put_b (n := last) (s := 2) (by omega) (by omega) (by omega)).mono ?_
    rintro e w1 ⟨b4, rfl, g4, hlo, F1⟩
    have HV1 := Lib.hid ((HV.out.call F1).room g4 (HV.out.fresh hlo) (Nat.le_trans HV.out.fr.size hlo))
    clear f2 t2 g4 hlo F1
    have f2 := HV1.out.nth 1 rfl
    have t2 := World.at_lt f2
    go_upto_region 5 with (fail)
    refine named_world (A := fun X => OwB w [(w1.heap.size, .cells #[.slice (some ⟨b4, 0, none⟩) 2 2, .slice none 0 0] 49), (b4, .cells (ints .u8 (putB last 2)) 5), (b2, .cells xs 68)] X) (Q := fun X => Code.wp _ _ _ _ X) (HV1.out.allocN (.cells #[.slice (some ⟨b4, 0, none⟩) 2 2, .slice none 0 0] 49) w1.heap.size rfl) ?_
    intro U hU
    generalize w1.heap.size = b5 at hU ⊢
    have HU := Lib.hid hU
    clear hU f2 t2 HV HV1
    have f2 := HU.out.nth 2 rfl
    have t2 := World.at_lt f2
    have f5 := HU.out.nth 0 rfl
    have t5 := World.at_lt f5
    have n25 := HU.out.ne 2 0 rfl rfl (by decide)
    have n52 := n25.symm

    have HG0 : Hid (Gw w [(b2, .cells xs 68)] U (some ⟨b5, 0, none⟩) 2 2 hd) := Lib.hid (Gw.made (M := [(b4, .cells (ints .u8 (putB last 2)) 5)]) (us := [.slice (some ⟨b4, 0, none⟩) 2 2, .slice none 0 0]) HU.out rfl (by omega) fun W hW => by rw [HHD.out]; exact .cons (Sl.whole (hW.nth 0 rfl) (putB_len _ _)) (.cons ⟨rfl, Nat.le_refl 0, .inl rfl, fun _ => rfl, by simp⟩ .nil))
    obtain ⟨q0, hq0⟩ : ∃ q0 : Option Addr, q0 = some ⟨b5, 0, none⟩ := ⟨_, rfl⟩
    rw [← hq0] at HG0 ⊢
    have HG1 : Hid (Gw w [(b2, .cells xs 68)] U q0 2 2 hd) := HG0
    clear HG0 HU f2 t2 f5 t5 n25 n52
    have f2 := HG1.out.own.nth 0 rfl
    have t2 := World.at_lt f2
    go_upto_region 7 with (fail)
    have HQ0 := Lib.hid hq0
    clear hq0
    go_wp2_with fail
    go_loopw [6, 48] (fun v iv wy => ∃ (i : Nat) (q : Option Addr) (c' : Nat), i ≤ n ∧ v = .slice q (i + 2) c' ∧ iv = .int .i64 (i : Int) ∧ Hid (Gw w [(b2, .cells xs 68)] wy q (i + 2) c' (hd ++ (ls.take i).map bunB))) (fun _ iv _ => (n - intOf iv).toNat)
    case atStart => exact ⟨0, q0, 2, by omega, rfl, rfl, Lib.hid (by simpa using HG1.out)⟩
    case round =>
      clear HG1
      obtain ⟨i, q, c', hin, rfl, rfl, hG⟩ := hrel
      have f2 := hG.out.own.nth 0 rfl
      have t2 := World.at_lt f2
      by_cases hlt : i < n
      · have hd1 : decide ((i : Int) < (n : Int)) = true := by rw [decide_eq_true_eq]; omega
        obtain ⟨y, b, o, cs, TT, fr, hy, rfl, g1, hs1, hs2, hx⟩ := (HS.out.fr0 hG.out.own.fr).elem HLS.out HL.out hlt
        have oky := HLS.out y (List.mem_of_getElem? hy)
        obtain ⟨B, hB⟩ : ∃ B, B = bnC y := ⟨_, rfl⟩
        rw [← hB] at hx
        have szB : B.size = 162 := by rw [hB]; exact bnC_size oky
        have hRB : ∀ W : World, Calls Tryz.prog 64 #[.agg B] W fun e w' => ∃ q m c, e = .returned (.tuple #[.slice q m c, .bool true]) ∧ Bld W [] .u8 5 w' q m c (bunB y) := fun W => by
          rw [hB]
          exact pbundle_f oky
        have HRB := Lib.hid hRB
        have hexB : B.extract 0 162 = B := by rw [← szB]; simp
        have htk : (ls.take (i + 1)).map bunB = (ls.take i).map bunB ++ [bunB y] := by
          rw [List.take_add_one, hy]
          simp
        have HTK := Lib.hid htk
        have u1 := World.at_lt g1
        have wi : IntKind.i64.wrap ((i : Int) + 1) = ((i + 1 : Nat) : Int) := by rw [IntKind.wrap_i64]; omega
        have hB2 := Lib.hid hB
        clear hB hy oky hRB htk
        have onB : ones B.toList = true := by
          rw [hB2.out]
          exact List.all_eq_true.2 (cBundle_one _ _ _ _ _ _ rfl rfl)
        go_upto_region 10 with (fail)
        refine named_world (A := fun X => Gw w [(wr.heap.size, .cells B 65), (b2, .cells xs 68)] X q (i + 2) c' (hd ++ (ls.take i).map bunB)) (Q := fun X => Code.wp _ _ _ _ X) (hG.out.alloc _ _ rfl) ?_
        intro U4 hG4
        generalize wr.heap.size = b8 at hG4 ⊢
        have HG4 := Lib.hid hG4
        clear hG4 f2 t2 g1 u1
        have f8 := HG4.out.own.nth 0 rfl
        have t8 := World.at_lt f8
        go_wp2_with fail
        refine (HRB.out _).mono ?_
        rintro e w2 ⟨q2, m2, c2, rfl, B2⟩
        have HGB := Lib.hid (HG4.out.piece B2)
        clear B2 f8 t8 HG4
        go_wp2_with (refine wpList_gw rfl _ _ rfl rfl rfl (HGB.out.call ((Fr.refl [] w2).alloc _)) (World.at_alloc_new _ _ _ rfl) (by omega) ?_)
        intro q3 c3 W3 G3
        have HG3 := Lib.hid (G3.pop)
        clear G3
        clear HGB
        go_wp2_with fail
        go_roundw
        case rel => exact ⟨i + 1, q3, c3, by omega, by first | rfl | (congr 1; omega), by first | rfl | simp, Lib.hid (by have h := HG3.out; simp only [← List.map_take, ← List.append_assoc] at h; rw [HTK.out, ← List.append_assoc]; exact h)⟩
        case measure => simp [intOf]; omega
      · obtain rfl : i = n := by omega
        have hd1 : decide ((i : Int) < (i : Int)) = false := by simp
        have hfull : hd ++ (ls.take i).map bunB = hd ++ ls.map bunB := by rw [List.take_of_length_le (by rw [HL.out]; exact Nat.le_refl _)]
        have hG2 : Hid (Gw w [(b2, .cells xs 68)] wr q (i + 2) c' (hd ++ ls.map bunB)) := Lib.hid (by rw [← hfull]; exact hG.out)
        clear hG hfull
        go_wp2_with fail
        refine (join_f hG2.out.sll HFIT.out).mono ?_
        rintro e w3 ⟨q3, m3, c3, rfl, B3⟩
        have HB3 := Lib.hid (B3.lift ((OwB.start w).call hG2.out.own.fr))
        clear B3 f2 t2
        go_wp2_with fail
        exact bodyPost_ret (results_tmp2 rfl _ _ _) rfl ⟨q3, m3, c3, rfl, HB3.out⟩
  | true =>
    clear eqF
    go_wp2_with fail
    refine (put_b (n := last) (s := 2) (by omega) (by omega) (by omega)).mono ?_
    rintro e w1 ⟨b4, rfl, g4, hlo, F1⟩
    have HV1 := Lib.hid ((HV.out.call F1).room g4 (HV.out.fresh hlo) (Nat.le_trans HV.out.fr.size hlo))
    clear f2 t2 g4 hlo F1
    have f2 := HV1.out.nth 1 rfl
    have t2 := World.at_lt f2
    go_upto_region 5 with (fail)
    refine named_world (A := fun X => OwB w [(w1.heap.size, .cells #[.slice (some ⟨b4, 0, none⟩) 2 2, .slice none 0 0] 49), (b4, .cells (ints .u8 (putB last 2)) 5), (b2, .cells xs 68)] X) (Q := fun X => Code.wp _ _ _ _ X) (HV1.out.allocN (.cells #[.slice (some ⟨b4, 0, none⟩) 2 2, .slice none 0 0] 49) w1.heap.size rfl) ?_
    intro U hU
    generalize w1.heap.size = b5 at hU ⊢
    have HU := Lib.hid hU
    clear hU f2 t2 HV HV1
    have f2 := HU.out.nth 2 rfl
    have t2 := World.at_lt f2
    have f5 := HU.out.nth 0 rfl
    have t5 := World.at_lt f5
    have n25 := HU.out.ne 2 0 rfl rfl (by decide)
    have n52 := n25.symm

    go_wp2_with fail
    refine (HRF.out _).mono ?_
    rintro e w2 ⟨q2, m2, c2, rfl, B2⟩
    obtain ⟨M2, hO2, hM2, hS2⟩ := HU.out.join B2
    have HO2 := Lib.hid hO2
    have HS2 := Lib.hid hS2
    clear B2 hM2 hO2 hS2 HU f2 t2 f5 t5 n25 n52
    have f5 := HO2.out.mem (b := b5) (o := .cells #[.slice (some ⟨b4, 0, none⟩) 2 2, .slice none 0 0] 49) (by simp)
    have t5 := World.at_lt f5
    go_upto_region 7 with (fail)
    refine named_world (A := fun X => Gw w [(b2, .cells xs 68)] X (some ⟨b5, 0, none⟩) 2 2 hd) (Q := fun X => Code.wp _ _ _ _ X) (Gw.made (M := M2 ++ [(b4, .cells (ints .u8 (putB last 2)) 5)]) (us := [.slice (some ⟨b4, 0, none⟩) 2 2, .slice q2 m2 c2]) (((HO2.out.set_mid (.cells #[.slice (some ⟨b4, 0, none⟩) 2 2, .slice q2 m2 c2] 49)).perm List.perm_middle).cast (by simp)) rfl (by omega) fun W hW => by rw [HHD.out]; exact .cons (Sl.whole (hW.of_append.2.nth 0 rfl) (putB_len _ _)) (.cons (HS2.out W hW.of_append.1) .nil)) ?_
    intro U3 hG
    obtain ⟨q0, hq0⟩ : ∃ q0 : Option Addr, q0 = some ⟨b5, 0, none⟩ := ⟨_, rfl⟩
    rw [← hq0] at hG ⊢
    have HG1 := Lib.hid hG
    have HQ0 := Lib.hid hq0
    clear hG HO2 HS2 f5 t5 hq0
    have f2 := HG1.out.own.nth 0 rfl
    have t2 := World.at_lt f2
    go_wp2_with fail
    go_loopw [6, 48] (fun v iv wy => ∃ (i : Nat) (q : Option Addr) (c' : Nat), i ≤ n ∧ v = .slice q (i + 2) c' ∧ iv = .int .i64 (i : Int) ∧ Hid (Gw w [(b2, .cells xs 68)] wy q (i + 2) c' (hd ++ (ls.take i).map bunB))) (fun _ iv _ => (n - intOf iv).toNat)
    case atStart => exact ⟨0, q0, 2, by omega, rfl, rfl, Lib.hid (by simpa using HG1.out)⟩
    case round =>
      clear HG1
      obtain ⟨i, q, c', hin, rfl, rfl, hG⟩ := hrel
      have f2 := hG.out.own.nth 0 rfl
      have t2 := World.at_lt f2
      by_cases hlt : i < n
      · have hd1 : decide ((i : Int) < (n : Int)) = true := by rw [decide_eq_true_eq]; omega
        obtain ⟨y, b, o, cs, TT, fr, hy, rfl, g1, hs1, hs2, hx⟩ := (HS.out.fr0 hG.out.own.fr).elem HLS.out HL.out hlt
        have oky := HLS.out y (List.mem_of_getElem? hy)
        obtain ⟨B, hB⟩ : ∃ B, B = bnC y := ⟨_, rfl⟩
        rw [← hB] at hx
        have szB : B.size = 162 := by rw [hB]; exact bnC_size oky
        have hRB : ∀ W : World, Calls Tryz.prog 64 #[.agg B] W fun e w' => ∃ q m c, e = .returned (.tuple #[.slice q m c, .bool true]) ∧ Bld W [] .u8 5 w' q m c (bunB y) := fun W => by
          rw [hB]
          exact pbundle_f oky
        have HRB := Lib.hid hRB
        have hexB : B.extract 0 162 = B := by rw [← szB]; simp
        have htk : (ls.take (i + 1)).map bunB = (ls.take i).map bunB ++ [bunB y] := by
          rw [List.take_add_one, hy]
          simp
        have HTK := Lib.hid htk
        have u1 := World.at_lt g1
        have wi : IntKind.i64.wrap ((i : Int) + 1) = ((i + 1 : Nat) : Int) := by rw [IntKind.wrap_i64]; omega
        have hB2 := Lib.hid hB
        clear hB hy oky hRB htk
        have onB : ones B.toList = true := by
          rw [hB2.out]
          exact List.all_eq_true.2 (cBundle_one _ _ _ _ _ _ rfl rfl)
        go_upto_region 10 with (fail)
        refine named_world (A := fun X => Gw w [(wr.heap.size, .cells B 65), (b2, .cells xs 68)] X q (i + 2) c' (hd ++ (ls.take i).map bunB)) (Q := fun X => Code.wp _ _ _ _ X) (hG.out.alloc _ _ rfl) ?_
        intro U4 hG4
        generalize wr.heap.size = b8 at hG4 ⊢
        have HG4 := Lib.hid hG4
        clear hG4 f2 t2 g1 u1
        have f8 := HG4.out.own.nth 0 rfl
        have t8 := World.at_lt f8
        go_wp2_with fail
        refine (HRB.out _).mono ?_
        rintro e w2 ⟨q2, m2, c2, rfl, B2⟩
        have HGB := Lib.hid (HG4.out.piece B2)
        clear B2 f8 t8 HG4
        go_wp2_with (refine wpList_gw rfl _ _ rfl rfl rfl (HGB.out.call ((Fr.refl [] w2).alloc _)) (World.at_alloc_new _ _ _ rfl) (by omega) ?_)
        intro q3 c3 W3 G3
        have HG3 := Lib.hid (G3.pop)
        clear G3
        clear HGB
        go_wp2_with fail
        go_roundw
        case rel => exact ⟨i + 1, q3, c3, by omega, by first | rfl | (congr 1; omega), by first | rfl | simp, Lib.hid (by have h := HG3.out; simp only [← List.map_take, ← List.append_assoc] at h; rw [HTK.out, ← List.append_assoc]; exact h)⟩
        case measure => simp [intOf]; omega
      · obtain rfl : i = n := by omega
        have hd1 : decide ((i : Int) < (i : Int)) = false := by simp
        have hfull : hd ++ (ls.take i).map bunB = hd ++ ls.map bunB := by rw [List.take_of_length_le (by rw [HL.out]; exact Nat.le_refl _)]
        have hG2 : Hid (Gw w [(b2, .cells xs 68)] wr q (i + 2) c' (hd ++ ls.map bunB)) := Lib.hid (by rw [← hfull]; exact hG.out)
        clear hG hfull
        go_wp2_with fail
        refine (join_f hG2.out.sll HFIT.out).mono ?_
        rintro e w3 ⟨q3, m3, c3, rfl, B3⟩
        have HB3 := Lib.hid (B3.lift ((OwB.start w).call hG2.out.own.fr))
        clear B3 f2 t2
        go_wp2_with fail
        exact bodyPost_ret (results_tmp2 rfl _ _ _) rfl ⟨q3, m3, c3, rfl, HB3.out⟩
end
end Go.Proofs.YtbhnfohoclcjdaaGreat
namespace Go.Proofs.YtbhnfohoclcjdaaGreat
open Go.RowKit Go.Dr Go.Kd
section
variable {H : Type} {enc : TypeId × Value → H} {w : World} {base : Nat} {spare : Nat → Bool} {held : Bool}
set_option maxRecDepth 100000 in
theorem spot_of49 {r : Reach} {b0 : Nat} {v : Value} (h : Cell.okWide Tryz.prog w r b0 49 v) : ∀ a n c, v = .slice (some a) n c → a.spot = none := fun a n c e => by
  subst e
  unfold Cell.okWide at h
  rw [Tryz.underlying49] at h
  simp only [Cell.ok, Tryz.underlying49] at h
  exact h.2.2.2.1
set_option maxRecDepth 100000 in
theorem open49 {r : Reach} {b0 : Nat} {v : Value} {d : DataW H} {ps : List MemPlace} (hval : Value.okWide Tryz.prog w r b0 49 v) (hd : DataW.Trod enc Tryz.prog w base spare held 49 v d ps) :
    ∃ p n c l, v = .slice p n c ∧ Sl .u8 w p n c l ∧ isBytes l := by
  unfold Value.okWide at hval
  rw [Tryz.underlying49] at hval
  obtain ⟨p, N0, c, rfl⟩ := slice_cell hval Tryz.underlying49
  obtain ⟨fuel, hf⟩ := hd
  have hsp := spot_of49 hval
  rcases Go.Deep.open_slice Tryz.underlying49 hf with ⟨hcs, _⟩ | ⟨a, len, cap, m, n, D, Pl, hcs, _, hlc, hcm, hmm, _, hel⟩
  · replace hcs : [Value.slice p N0 c] = [.slice none 0 0] := hcs
    simp only [List.cons.injEq, and_true] at hcs
    exact ⟨none, 0, 0, [], hcs, ⟨rfl, Nat.le_refl 0, .inl rfl, fun _ => rfl, by simp⟩, by simp [isBytes]⟩
  · replace hcs : [Value.slice p N0 c] = [.slice (some a) len cap] := hcs
    simp only [List.cons.injEq, and_true] at hcs
    have hle : len ≤ m := by rw [hmm]; split <;> omega
    have hspot : a.spot = none := hsp _ _ _ hcs
    obtain ⟨b, off, spot⟩ := a
    replace hspot : spot = none := hspot
    subst hspot
    have key : ∀ i, i < len → ∃ x : Int, (0 ≤ x ∧ x < 256) ∧ w.cell? ⟨b, off + i, none⟩ = some (.int .u8 x) := fun i hi => by
      obtain ⟨cs, hc, ht⟩ := hel i (by omega)
      rw [cells5] at hc
      obtain ⟨hl4, hcell⟩ := cellsN hc
      obtain ⟨y, hy, _, q⟩ := DataW.trod_int Tryz.underlying5 ht
      subst hy
      have := wf_u8 q
      refine ⟨y, ⟨this.1, by omega⟩, ?_⟩
      have h := hcell 0 _ rfl
      rw [Go.Deep.add_add, Addr.add_mid] at h
      simpa using h
    obtain ⟨f, hf'⟩ := Classical.axiomOfChoice (r := fun (i : Nat) (x : Int) => i < len → (0 ≤ x ∧ x < 256) ∧ w.cell? ⟨b, off + i, none⟩ = some (.int .u8 x)) (fun i => by
      by_cases hi : i < len
      · obtain ⟨x, h⟩ := key i hi; exact ⟨x, fun _ => h⟩
      · exact ⟨0, fun h => absurd h hi⟩)
    refine ⟨some ⟨b, off, none⟩, len, cap, (List.range len).map f, hcs, ⟨by simp, hlc, ?_, by simp, by simp⟩, fun x hx => ?_⟩
    · rcases Nat.eq_zero_or_pos len with h0 | h0
      · exact .inl h0
      · right
        have hb := (hf' 0 h0).2
        rw [World.cell?_at] at hb
        cases hbl : w.blk b with
        | none => rw [hbl] at hb; simp at hb
        | some o =>
          cases o with
          | cells cs T fr =>
            have hall : ∀ i, i < len → cs[off + i]? = some (.int .u8 (f i)) := fun i hi => by
              have h := (hf' i hi).2
              rw [World.cell?_at, hbl] at h
              exact h
            have hlast := (Array.getElem?_eq_some_iff.1 (hall (len - 1) (by omega))).1
            refine ⟨b, off, cs, T, fr, rfl, hbl, by omega, ?_⟩
            apply List.ext_getElem?
            intro k
            rcases Nat.lt_or_ge k len with hk | hk
            · rw [Array.getElem?_toList, Array.getElem?_extract_of_lt (by omega), ← Array.getElem?_eq_getElem, hall k hk]
              simp [hk]
            · rw [List.getElem?_eq_none (by rw [Array.length_toList, Array.size_extract]; omega), List.getElem?_eq_none (by simp; omega)]
          | _ => rw [hbl] at hb; simp at hb
    · obtain ⟨i, hi, rfl⟩ := List.mem_map.1 hx
      exact (hf' i (List.mem_range.1 hi)).1
end
end Go.Proofs.YtbhnfohoclcjdaaGreat
namespace Go.Proofs.YtbhnfohoclcjdaaGreat
open Go.RowKit Go.Dr Go.Kd
theorem joinB_le : ∀ ps : List Bs, (∀ p ∈ ps, p.length ≤ 4096) → (joinB ps).length ≤ 1 + ps.length * 4098 := by
  have key : ∀ ps : List Bs, (∀ p ∈ ps, p.length ≤ 4096) → (ps.flatMap fun p => ((p.length / 256 : Nat) : Int) :: ((p.length % 256 : Nat) : Int) :: p).length ≤ ps.length * 4098 := by
    intro ps
    induction ps with
    | nil => intro _; simp
    | cons p ps ih =>
      intro h
      have h1 := h p (by simp)
      have h2 := ih (fun q hq => h q (by simp [hq]))
      rw [List.flatMap_cons, List.length_append, List.length_cons, List.length_cons, List.length_cons, Nat.add_mul]
      omega
  intro ps h
  have := key ps h
  rw [joinB, List.length_cons]
  omega
/-- A shelf that says this, or none. -/
def UnpSh (r : Option (Bool × Bn × List Bn × Nat)) (xs : Array Value) (W : World) : Prop := match r with
  | some (hs, f, ls, last) => ∃ q n c, xs = shC hs f q n c (last : Int) ∧ n = ls.length ∧ Lf W q n c (bnsL ls)
  | none => xs = Tryz.zeroCells68
def UnpOk (r : Option (Bool × Bn × List Bn × Nat)) : Prop := match r with
  | some (hs, f, ls, last) => BnOk f ∧ (∀ x ∈ ls, BnOk x) ∧ ls.length ≤ 100
  | none => True
theorem UnpSh.fr0 {r : Option (Bool × Bn × List Bn × Nat)} {xs : Array Value} {W W' : World} (h : UnpSh r xs W) (F : Fr [] W W') : UnpSh r xs W' := by
  unfold UnpSh at *
  split at h
  · obtain ⟨q, n, c, h1, h2, h3⟩ := h
    exact ⟨q, n, c, h1, h2, h3.fr0 F⟩
  · exact h
theorem unpOk {B : Bs} (hB : isBytes B) : UnpOk (unpk B) := by
  unfold UnpOk
  split
  · rename_i h
    obtain ⟨h1, h2, h3, -⟩ := unpk_ok hB h
    exact ⟨h1, h2, by omega⟩
  · trivial
theorem UnpRes.sh {r : Option (Bool × Bn × List Bn × Nat)} {e : Ending} {w w' : World} (h : UnpRes w r e w') (hr : UnpOk r) : ∃ xs, e = .returned (.tuple #[.agg xs, .bool r.isSome]) ∧ xs.size = 165 ∧ ones xs.toList = true ∧ UnpSh r xs w' ∧ Fr [] w w' := by
  match r, h, hr with
  | some (hs, f, ls, last), h, hr =>
    obtain ⟨q, n, c, h1, h2, h3, h4⟩ := h
    have Y := shF (hs := hs) (f := f) (p := q) (n := n) (c := c) (last := (last : Int)) hr.1
    exact ⟨_, h1, Y.sz, Y.on, ⟨q, n, c, rfl, h2, h3⟩, h4⟩
  | none, h, hr => exact ⟨_, h.1, by kernel_rfl, by kernel_rfl, rfl, h.2⟩
theorem z68_sh : Tryz.zeroCells68 = shC false zBn none 0 0 0 := by rw [z68_eq, zBn_c]
theorem unpSh_same {r : Option (Bool × Bn × List Bn × Nat)} {xs ys : Array Value} {W : World} (hr : UnpOk r) (hx : UnpSh r xs W) (hy : UnpSh r ys W) :
    Calls Tryz.prog 30 #[.agg xs, .agg ys] W fun e w' => e = .returned (.bool true) ∧ Fr [] W w' := by
  unfold UnpSh at hx hy
  split at hx
  · obtain ⟨q, n, c, rfl, h2, h3⟩ := hx
    obtain ⟨q', n', c', rfl, h2', h3'⟩ := hy
    subst h2 h2'
    exact dsame_t hr.1 h3 h3' hr.2.1 rfl (by have := hr.2.2; omega)
  · simp only at hy
    rw [hx, hy, z68_sh]
    exact dsame_t (ls := []) zBn_ok (.inl ⟨rfl, rfl, rfl, rfl⟩) (.inl ⟨rfl, rfl, rfl, rfl⟩) (by simp) rfl (by omega)
section
variable {w : World}
set_option maxRecDepth 100000 in
set_option maxHeartbeats 8000000 in
theorem keydirPacks_walk {hs : Bool} {f : Bn} {p : Option Addr} {n c last : Nat} {ls : List Bn} {q : Option Addr} {m d : Nat} {B : Bs} (hf : BnOk f) (S : Lf w p n c (bnsL ls)) (hls : ∀ x ∈ ls, BnOk x) (hl : ls.length = n) (hla : last < 65536) (SB : Sl .u8 w q m d B) (hB : isBytes B) :
    Calls Tryz.prog 5 #[.agg (shC hs f p n c (last : Int)), .slice q m d] w fun e w' => e = .returned (.bool true) ∧ Fr [] w w' := by
  obtain ⟨xs, hxs⟩ : ∃ xs, xs = shC hs f p n c (last : Int) := ⟨_, rfl⟩
  obtain ⟨F, hF⟩ : ∃ F, F = bnC f := ⟨_, rfl⟩
  have X : ShF xs hs F p n c last := by rw [hxs, hF]; exact shF hf
  obtain ⟨sx, -, -, ⟨x2, x2'⟩, -, xal, xon⟩ := X
  have HXS := Lib.hid hxs
  have HS := Lib.hid S
  have HLS := Lib.hid hls
  have HL := Lib.hid hl
  have HF := Lib.hid hf
  have HSB := Lib.hid SB
  have HBY := Lib.hid hB
  rw [← hxs]
  clear hxs hF hf S hls hl SB hB
  go_enter Tryz.func5, Tryz.ntmps5
  go_upto_region 1 with (fail)
  refine named_world (A := fun X => OwB w [(w.heap.size, .cells xs 68)] X) (Q := fun X => Code.wp _ _ _ _ X) ((OwB.start w).allocN _ w.heap.size rfl) ?_
  intro V hV
  generalize w.heap.size = b2 at hV ⊢
  have HV := Lib.hid hV
  clear hV
  go_wp2_with fail
  refine alive_f.mono ?_
  rintro e V1 ⟨rfl, F1⟩
  have HV1 := Lib.hid (HV.out.call F1)
  clear F1 HV
  have f2 := HV1.out.nth 0 rfl
  have t2 := World.at_lt f2
  by_cases h100 : 100 < n
  · have d1 : decide ((n : Int) > 100) = true := by rw [decide_eq_true_eq]; omega
    go_wp2_with fail
    exact bodyPost_ret (results_tmp rfl _ _ _) rfl ⟨rfl, HV1.out.fr⟩
  have d1 : decide ((n : Int) > 100) = false := by rw [decide_eq_false_iff_not]; omega
  by_cases h20 : 20000 < m
  · have d2 : decide ((m : Int) > 20000) = true := by rw [decide_eq_true_eq]; omega
    go_wp2_with fail
    exact bodyPost_ret (results_tmp rfl _ _ _) rfl ⟨rfl, HV1.out.fr⟩
  have d2 : decide ((m : Int) > 20000) = false := by rw [decide_eq_false_iff_not]; omega
  by_cases hg : n ≤ 8 ∧ (hs = false → f = zBn)
  · obtain ⟨PB, hPB⟩ : ∃ PB, PB = joinB (pkL hs f ls last) := ⟨_, rfl⟩
    have hfit := pkL_fits (hs := hs) (last := last) HF.out HLS.out (by rw [HL.out]; exact hg.1)
    have hpkb : isBytes PB := by
      rw [hPB]
      refine isBytes_join hfit fun l hl => ?_
      simp only [pkL, List.mem_cons, List.mem_map] at hl
      rcases hl with rfl | rfl | ⟨x, hx, rfl⟩
      · exact isBytes_putB _ _
      · split
        · exact isBytes_bunB HF.out
        · intro y hy; cases hy
      · exact isBytes_bunB (HLS.out x hx)
    have hpkl : PB.length ≤ 100000 := by
      rw [hPB]
      have h1 := hfit
      simp only [fits, Bool.and_eq_true, decide_eq_true_eq, List.all_eq_true] at h1
      have h2 := joinB_le _ h1.2
      have h3 : (pkL hs f ls last).length ≤ 10 := by
        have := hg.1
        simp only [pkL, List.length_cons, List.length_map, HL.out]
        omega
      omega
    have hun : unpk PB = some (hs, f, ls, last) := by rw [hPB]; exact unpk_pack HF.out HLS.out (by rw [HL.out]; exact hg.1) hg.2 hla
    have k33 : ∀ W, Fr [] w W → Calls Tryz.prog 33 #[.agg xs] W fun e w' => ∃ q m c', e = .returned (.tuple #[.slice q m c', .bool true]) ∧ Bld W [] .u8 5 w' q m c' PB := fun W F => by
      rw [HXS.out, hPB]
      exact kpack_f HF.out (HS.out.fr0 F) HLS.out HL.out hg.1 hg.2 hla
    have k34 : ∀ W, Fr [] w W → Calls Tryz.prog 34 #[.agg xs] W fun e w' => ∃ q m c', e = .returned (.tuple #[.slice q m c', .bool true]) ∧ Bld W [] .u8 5 w' q m c' PB := fun W F => by
      rw [HXS.out, hPB]
      exact dpack_f HF.out (HS.out.fr0 F) HLS.out HL.out hg.1 hg.2 hla
    have hsh : ∀ W, Fr [] w W → UnpSh (some (hs, f, ls, last)) xs W := fun W F => ⟨p, n, c, HXS.out, HL.out.symm, HS.out.fr0 F⟩
    have K33 := Lib.hid k33
    have K34 := Lib.hid k34
    have HUN := Lib.hid hun
    have HPKB := Lib.hid hpkb
    have HPKL := Lib.hid hpkl
    have HSH := Lib.hid hsh
    have HOKX : Hid (UnpOk (some (hs, f, ls, last))) := Lib.hid ⟨HF.out, HLS.out, by rw [HL.out]; omega⟩
    clear hPB hfit hpkb hpkl hun k33 k34 hsh hg
    go_wp2_with fail
    refine (K33.out _ HV1.out.fr).mono ?_
    rintro e w2 ⟨q5, m5, c5, rfl, B5⟩
    have HV2 := Lib.hid (HV1.out.call B5.own.fr)
    have HB5 := Lib.hid B5.sl
    clear B5 f2 t2 HV1
    have f2 := HV2.out.nth 0 rfl
    have t2 := World.at_lt f2
    go_wp2_with fail
    refine (K34.out _ HV2.out.fr).mono ?_
    rintro e w3 ⟨q7, m7, c7, rfl, B7⟩
    have HV3 := Lib.hid (HV2.out.call B7.own.fr)
    have HB53 := Lib.hid (HB5.out.fr0 B7.own.fr)
    have HB7 := Lib.hid B7.sl
    clear B7 f2 t2 HV2 HB5
    have f2 := HV3.out.nth 0 rfl
    have t2 := World.at_lt f2
    go_wp2_with fail
    refine (kunpack_f HB53.out HPKB.out (by have := HPKL.out; have := HB53.out.len; omega)).mono ?_
    intro e w4 h
    rw [HUN.out] at h
    obtain ⟨ys, rfl, sy, yon, hy, F4⟩ := UnpRes.sh h HOKX.out
    have yal : ys.extract 0 165 = ys := by rw [← sy]; exact Array.extract_size
    have HV4 := Lib.hid (HV3.out.call F4)
    have HB54 := Lib.hid (HB53.out.fr0 F4)
    have HB74 := Lib.hid (HB7.out.fr0 F4)
    have HY := Lib.hid hy
    have z68 : Tryz.zeroCells68.size = 165 := by kernel_rfl
    have z68o : ones Tryz.zeroCells68.toList = true := by kernel_rfl
    have hsome : (some (hs, f, ls, last)).isSome = true := rfl
    rw [hsome]
    clear f2 t2 HV3 HB53 HB7 F4 hy h hsome
    go_upto_region 8 with (fail)
    refine named_world (A := fun X => OwB w [(w4.heap.size, .cells ys 68), (b2, .cells xs 68)] X ∧ Fr [] w4 X) (Q := fun X => Code.wp _ _ _ _ X) ⟨HV4.out.allocN _ _ rfl, (Fr.refl [] w4).alloc _⟩ ?_
    rintro U5 ⟨hU, F5⟩
    generalize w4.heap.size = b9 at hU ⊢
    have HU := Lib.hid hU
    have HFU := Lib.hid F5
    clear hU F5 HV4
    have f2 := HU.out.nth 1 rfl
    have t2 := World.at_lt f2
    have f9 := HU.out.nth 0 rfl
    have t9 := World.at_lt f9
    go_wp2_with fail
    refine (bytes_f (HB54.out.fr0 HFU.out) (HB74.out.fr0 HFU.out) HPKB.out HPKB.out).mono ?_
    rintro e w6 ⟨rfl, F6⟩
    have hd : decide (PB = PB) = true := by simp
    rw [hd]
    have HU6 := Lib.hid (HU.out.call F6)
    have HY6 := Lib.hid ((HY.out.fr0 HFU.out).fr0 F6)
    clear hd f2 t2 f9 t9 F6 HU HB54 HB74
    have f2 := HU6.out.nth 1 rfl
    have t2 := World.at_lt f2
    have f9 := HU6.out.nth 0 rfl
    have t9 := World.at_lt f9
    go_wp2_with fail
    refine (unpSh_same HOKX.out (HSH.out _ HU6.out.fr) HY6.out).mono ?_
    rintro e w7 ⟨rfl, F7⟩
    have HW := Lib.hid (HU6.out.call F7).fr
    clear F7 f2 t2 f9 t9 HU6 HY6
    obtain ⟨RR, hRR⟩ : ∃ RR, RR = unpk B := ⟨_, rfl⟩
    have HRR := Lib.hid hRR
    have HOKR : Hid (UnpOk RR) := Lib.hid (by rw [hRR]; exact unpOk HBY.out)
    clear hRR
    go_wp2_with fail
    refine (kunpack_f (HSB.out.fr0 HW.out) HBY.out (by omega)).mono ?_
    intro e w8 h
    rw [← HRR.out] at h
    obtain ⟨zs1, rfl, sz1, zon1, hz1, F8⟩ := UnpRes.sh h HOKR.out
    have zal1 : zs1.extract 0 165 = zs1 := by rw [← sz1]; exact Array.extract_size
    obtain ⟨ok, hok⟩ : ∃ ok, ok = RR.isSome := ⟨_, rfl⟩
    rw [← hok]
    have HOKI := Lib.hid hok
    have HZ1 := Lib.hid hz1
    have HW8 := Lib.hid (HW.out.trans F8)
    clear h F8 hok hz1 HW
    go_upto_region 11 with (fail)
    refine named_world (A := fun X => OwB w8 [(w8.heap.size, .cells zs1 68)] X) (Q := fun X => Code.wp _ _ _ _ X) ((OwB.start w8).allocN _ _ rfl) ?_
    intro U9 hU
    generalize w8.heap.size = b11 at hU ⊢
    have HU9 := Lib.hid hU
    clear hU
    go_wp2_with fail
    refine (dunpack_f (HSB.out.fr0 (HW8.out.trans HU9.out.fr)) HBY.out (by omega)).mono ?_
    intro e w10 h
    rw [← HRR.out] at h
    obtain ⟨zs2, rfl, sz2, zon2, hz2, F10⟩ := UnpRes.sh h HOKR.out
    have zal2 : zs2.extract 0 165 = zs2 := by rw [← sz2]; exact Array.extract_size
    rw [← HOKI.out]
    have HZ2 := Lib.hid hz2
    have HU10 := Lib.hid (HU9.out.call F10)
    clear h F10 hz2 HU9
    go_upto_region 12 with (fail)
    refine named_world (A := fun X => OwB w8 [(w10.heap.size, .cells zs2 68), (b11, .cells zs1 68)] X ∧ Fr [] w10 X) (Q := fun X => Code.wp _ _ _ _ X) ⟨HU10.out.allocN _ _ rfl, (Fr.refl [] w10).alloc _⟩ ?_
    rintro U11 ⟨hU, F11⟩
    generalize w10.heap.size = b13 at hU ⊢
    have HU11 := Lib.hid hU
    have HZ2b := Lib.hid (HZ2.out.fr0 F11)
    clear hU F11 HU10
    have f11 := HU11.out.nth 1 rfl
    have t11 := World.at_lt f11
    have f13 := HU11.out.nth 0 rfl
    have t13 := World.at_lt f13
    have hoo : (ok == ok) = true := by simp
    go_wp2_with fail
    refine (unpSh_same HOKR.out (HZ1.out.fr0 HU11.out.fr) HZ2b.out).mono ?_
    rintro e w12 ⟨rfl, F12⟩
    have HEND := Lib.hid (HW8.out.trans (HU11.out.fr.trans F12))
    clear F12 f11 t11 f13 t13
    go_wp2_with fail
    exact bodyPost_ret (results_tmp rfl _ _ _) rfl ⟨rfl, HEND.out⟩
  · have k33 : ∀ W, Calls Tryz.prog 33 #[.agg xs] W fun e w' => e = .returned (.tuple #[.slice none 0 0, .bool false]) ∧ Fr [] W w' := fun W => by
      rw [HXS.out]
      exact kpack_no HF.out hg
    have k34 : ∀ W, Calls Tryz.prog 34 #[.agg xs] W fun e w' => e = .returned (.tuple #[.slice none 0 0, .bool false]) ∧ Fr [] W w' := fun W => by
      rw [HXS.out]
      exact dpack_no HF.out hg
    have nilS : ∀ W, Sl .u8 W none 0 0 [] := fun W => ⟨rfl, Nat.le_refl 0, .inl rfl, fun _ => rfl, by simp⟩
    have nilB : isBytes [] := fun y hy => by cases hy
    have K33 := Lib.hid k33
    have K34 := Lib.hid k34
    have NILS := Lib.hid nilS
    have NILB := Lib.hid nilB
    clear k33 k34 nilS nilB hg
    go_wp2_with fail
    refine (K33.out _).mono ?_
    rintro e w2 ⟨rfl, F2⟩
    have HV2 := Lib.hid (HV1.out.call F2)
    clear F2 f2 t2 HV1
    have f2 := HV2.out.nth 0 rfl
    have t2 := World.at_lt f2
    go_wp2_with fail
    refine (K34.out _).mono ?_
    rintro e w3 ⟨rfl, F3⟩
    have HV3 := Lib.hid (HV2.out.call F3)
    clear F3 f2 t2 HV2
    have f2 := HV3.out.nth 0 rfl
    have t2 := World.at_lt f2
    go_wp2_with fail
    refine (kunpack_f (NILS.out _) NILB.out (by omega)).mono ?_
    intro e w4 h
    rw [unpk_nil] at h
    obtain ⟨ys, rfl, sy, yon, hy, F4⟩ := UnpRes.sh h trivial
    have HV4 := Lib.hid (HV3.out.call F4)
    have z68 : Tryz.zeroCells68.size = 165 := by kernel_rfl
    have z68o : ones Tryz.zeroCells68.toList = true := by kernel_rfl
    have hsome : (none : Option (Bool × Bn × List Bn × Nat)).isSome = false := rfl
    rw [hsome]
    clear f2 t2 HV3 F4 hy h hsome
    go_upto_region 8 with (fail)
    refine named_world (A := fun X => OwB w [(w4.heap.size, .cells ys 68), (b2, .cells xs 68)] X) (Q := fun X => Code.wp _ _ _ _ X) (HV4.out.allocN _ _ rfl) ?_
    intro U5 hU
    generalize w4.heap.size = b9 at hU ⊢
    have HU := Lib.hid hU
    clear hU HV4
    have f2 := HU.out.nth 1 rfl
    have t2 := World.at_lt f2
    have f9 := HU.out.nth 0 rfl
    have t9 := World.at_lt f9
    go_wp2_with fail
    refine (bytes_f (NILS.out _) (NILS.out _) NILB.out NILB.out).mono ?_
    rintro e w7 ⟨rfl, F6⟩
    have hd : decide (([] : List Int) = []) = true := by simp
    rw [hd]
    have HW := Lib.hid (HU.out.call F6).fr
    clear hd f2 t2 f9 t9 F6 HU
    obtain ⟨RR, hRR⟩ : ∃ RR, RR = unpk B := ⟨_, rfl⟩
    have HRR := Lib.hid hRR
    have HOKR : Hid (UnpOk RR) := Lib.hid (by rw [hRR]; exact unpOk HBY.out)
    clear hRR
    go_wp2_with fail
    refine (kunpack_f (HSB.out.fr0 HW.out) HBY.out (by omega)).mono ?_
    intro e w8 h
    rw [← HRR.out] at h
    obtain ⟨zs1, rfl, sz1, zon1, hz1, F8⟩ := UnpRes.sh h HOKR.out
    have zal1 : zs1.extract 0 165 = zs1 := by rw [← sz1]; exact Array.extract_size
    obtain ⟨ok, hok⟩ : ∃ ok, ok = RR.isSome := ⟨_, rfl⟩
    rw [← hok]
    have HOKI := Lib.hid hok
    have HZ1 := Lib.hid hz1
    have HW8 := Lib.hid (HW.out.trans F8)
    clear h F8 hok hz1 HW
    go_upto_region 11 with (fail)
    refine named_world (A := fun X => OwB w8 [(w8.heap.size, .cells zs1 68)] X) (Q := fun X => Code.wp _ _ _ _ X) ((OwB.start w8).allocN _ _ rfl) ?_
    intro U9 hU
    generalize w8.heap.size = b11 at hU ⊢
    have HU9 := Lib.hid hU
    clear hU
    go_wp2_with fail
    refine (dunpack_f (HSB.out.fr0 (HW8.out.trans HU9.out.fr)) HBY.out (by omega)).mono ?_
    intro e w10 h
    rw [← HRR.out] at h
    obtain ⟨zs2, rfl, sz2, zon2, hz2, F10⟩ := UnpRes.sh h HOKR.out
    have zal2 : zs2.extract 0 165 = zs2 := by rw [← sz2]; exact Array.extract_size
    rw [← HOKI.out]
    have HZ2 := Lib.hid hz2
    have HU10 := Lib.hid (HU9.out.call F10)
    clear h F10 hz2 HU9
    go_upto_region 12 with (fail)
    refine named_world (A := fun X => OwB w8 [(w10.heap.size, .cells zs2 68), (b11, .cells zs1 68)] X ∧ Fr [] w10 X) (Q := fun X => Code.wp _ _ _ _ X) ⟨HU10.out.allocN _ _ rfl, (Fr.refl [] w10).alloc _⟩ ?_
    rintro U11 ⟨hU, F11⟩
    generalize w10.heap.size = b13 at hU ⊢
    have HU11 := Lib.hid hU
    have HZ2b := Lib.hid (HZ2.out.fr0 F11)
    clear hU F11 HU10
    have f11 := HU11.out.nth 1 rfl
    have t11 := World.at_lt f11
    have f13 := HU11.out.nth 0 rfl
    have t13 := World.at_lt f13
    have hoo : (ok == ok) = true := by simp
    go_wp2_with fail
    refine (unpSh_same HOKR.out (HZ1.out.fr0 HU11.out.fr) HZ2b.out).mono ?_
    rintro e w12 ⟨rfl, F12⟩
    have HEND := Lib.hid (HW8.out.trans (HU11.out.fr.trans F12))
    clear F12 f11 t11 f13 t13
    go_wp2_with fail
    exact bodyPost_ret (results_tmp rfl _ _ _) rfl ⟨rfl, HEND.out⟩
theorem keydirPacks_walk2 {hs : Bool} {f : Bn} {p : Option Addr} {n c : Nat} {last : Int} {ls : List Bn} {q : Option Addr} {m d : Nat} {B : Bs} (hf : BnOk f) (la : 0 ≤ last) (lb : last < 65536) (S : Lf w p n c (bnsL ls)) (hls : ∀ x ∈ ls, BnOk x) (hl : ls.length = n) (SB : Sl .u8 w q m d B) (hB : isBytes B) :
    Calls Tryz.prog 5 #[.agg (shC hs f p n c last), .slice q m d] w fun e w' => e = .returned (.bool true) ∧ Fr [] w w' := by
  obtain ⟨k, rfl⟩ := Int.eq_ofNat_of_zero_le la
  exact keydirPacks_walk hf S hls hl (by omega) SB hB
end
end Go.Proofs.YtbhnfohoclcjdaaGreat
