/- Joined: KdT, KdU. -/
import Derived.Test.YtbhnfohoclcjdaaGreatZi
set_option linter.unusedVariables false
set_option linter.unusedSimpArgs false
namespace Go.Proofs.YtbhnfohoclcjdaaGreat
open Go.RowKit Go.Dr Go.Kd
/-- The first keys that a cache knows, out of its cells. -/
def firstC (C : List Int) : List Bs := [0, 1, 2, 3].map fun i => (C.drop (32 * i)).take 32
def highC (C : List Int) : List Int := (C.drop 128).take 4
def needC (C : List Int) : Nat := (el C 132).toNat
theorem verify_o {w : World} {lo tb : Nat} {T : List Tm} {k t : List Int} {p : Option Addr} {n cap : Nat} {x : Ob} (h : TabP lo tb w T) (hk : k.length = 32) (hb : isBytes k) (S : Sl .u8 w p n cap t) (ht : isBytes t) (hx : ObOk x) :
    Calls Tryz.prog 48 #[SU tb, .agg (ints .u8 k), .slice p n cap, .agg (ints .u8 x.sig)] w fun e w' => e = .returned (.bool (verifyF T k t x.sig)) ∧ Fr [] w w' := by
  have e : x.sig = x.sig.take 32 ++ x.sig.drop 32 := (List.take_append_drop 32 x.sig).symm
  rw [e]
  have hs := hx.sl
  exact verify_f h hk hb S ht (by rw [List.length_take]; omega) (by rw [List.length_drop]; omega) (fun y hy => hx.sb y (List.mem_of_mem_take hy))
theorem chainF_cons {T : List Tm} {first : List Bs} {need : Nat} {server : Int} {x : Ob} {l : List Ob} {i : Nat} {key : Bs} (hv : x.vs = []) :
    chainF T first need server (x :: l) i key = if (decide (x.server ≠ server) || decide (x.n ≠ (i : Int) + 1) || !verifyF T key (objText x) x.sig || decide (0 < need)) = true then none else chainF T first need server l (i + 1) x.key := by
  have hl : (vouchers T first x).length = 0 := by unfold vouchers; rw [hv]; rfl
  rw [chainF, hl]
  congr 1
  simp only [Bool.or_eq_true, decide_eq_true_eq, Bool.not_eq_true', or_assoc]
/-- What a chain's end says. -/
def endF (C : List Int) (server now : Nat) (xs : List Ob) : Option Bs → Bs × Int × Int
  | none => (Kd.zeros 32, 0, 200)
  | some key => if (xs.length : Int) < el C (128 + server) then (Kd.zeros 32, 0, 210) else match xs.getLast? with
    | some x => if (now : Int) < x.frm ∨ x.til ≤ (now : Int) then (Kd.zeros 32, 0, 201) else (key, xs.length, 0)
    | none => (key, xs.length, 0)
theorem endF_low {C : List Int} {server now : Nat} {xs : List Ob} {k : Bs} (h : (xs.length : Int) < el C (128 + server)) : endF C server now xs (some k) = (Kd.zeros 32, 0, 210) := by
  simp only [endF, if_pos h]
theorem endF_none {C : List Int} {server now : Nat} {xs : List Ob} {k : Bs} (h : ¬ (xs.length : Int) < el C (128 + server)) (hl : xs.getLast? = none) : endF C server now xs (some k) = (k, (xs.length : Int), 0) := by
  simp only [endF, if_neg h, hl]
theorem endF_some {C : List Int} {server now : Nat} {xs : List Ob} {k : Bs} {x : Ob} (h : ¬ (xs.length : Int) < el C (128 + server)) (hl : xs.getLast? = some x) : endF C server now xs (some k) = if (now : Int) < x.frm ∨ x.til ≤ (now : Int) then (Kd.zeros 32, 0, 201) else (k, (xs.length : Int), 0) := by
  simp only [endF, if_neg h, hl]
theorem checkF_end {T : List Tm} {C : List Int} {server now : Nat} {xs : List Ob} (h4 : server < 4) (hn : xs.length ≤ 4) (hC : C.length = 133) :
    checkF T (firstC C) (highC C) (needC C) server xs now = endF C server now xs (chainF T (firstC C) (needC C) server xs 0 (List.drop (server * 32) (List.take (server * 32 + 32) C))) := by
  have e1 : (firstC C).getD (server : Int).toNat [] = List.drop (server * 32) (List.take (server * 32 + 32) C) := by
    rw [List.drop_take, Nat.add_sub_cancel_left]
    rcases (show server = 0 ∨ server = 1 ∨ server = 2 ∨ server = 3 by omega) with rfl | rfl | rfl | rfl <;> rfl
  have e2 : (highC C).getD (server : Int).toNat 0 = el C (128 + server) := by
    simp only [highC, el, Int.toNat_natCast, List.getD_eq_getElem?_getD, List.getElem?_take, List.getElem?_drop]
    rw [if_pos h4]
  unfold checkF
  rw [if_neg (by omega), e1, e2]
  cases chainF T (firstC C) (needC C) server xs 0 (List.drop (server * 32) (List.take (server * 32 + 32) C)) with
  | none => rfl
  | some key => rfl
section
variable {w : World}
set_option maxRecDepth 100000 in
set_option maxHeartbeats 2000000 in
theorem check_f {lo tb : Nat} {T : List Tm} {C : List Int} {server : Nat} {now : Nat} {p : Option Addr} {n cap : Nat} {xs : List Ob} (h : TabP lo tb w T) (hC : C.length = 133) (hCb : isBytes C) (hs : server < 256) (hw : now < 4294967296)
    (S : Sv 101 w p n cap (xs.flatMap fun x => (obC x).toList)) (hn : xs.length = n) (hx : ∀ x ∈ xs, ObOk x) (hnb : n ≤ 1000000) :
    Calls Tryz.prog 19 #[SU tb, .agg (ints .u8 C), .int .u8 server, .slice p n cap, .int .u32 now] w fun e w' => e = .returned (.tuple #[.agg (ints .u8 (checkF T (firstC C) (highC C) (needC C) server xs now).1), .int .u8 (checkF T (firstC C) (highC C) (needC C) server xs now).2.1, .int .i64 (checkF T (firstC C) (highC C) (needC C) server xs now).2.2]) ∧ Fr [] w w' := by
  have H := Lib.hid h
  have HCB := Lib.hid hCb
  have HS := Lib.hid S
  have HX := Lib.hid hx
  obtain ⟨R, hR⟩ : ∃ R, R = checkF T (firstC C) (highC C) (needC C) server xs now := ⟨_, rfl⟩
  rw [← hR]
  have HR := Lib.hid hR
  have HN := Lib.hid hn
  clear h hCb S hx hR hn
  go_enter Tryz.func19, Tryz.ntmps19
  by_cases h4 : 4 ≤ server
  · have d : decide (4 ≤ (server : Int)) = true := by rw [decide_eq_true_eq]; omega
    have hr0 : R = (Kd.zeros 32, 0, 200) := by rw [HR.out]; unfold checkF; rw [if_pos (by omega)]
    have HR0 := Lib.hid hr0
    clear hr0
    go_upto_if 23 with (fail)
    refine named_world (A := fun X => OwB w [(w.heap.size + 1 + 1, .cells (ints .u8 (zs 32)) 34), (w.heap.size + 1, .cells (ints .u8 C) 38), (w.heap.size, .cells #[.pointer (some ⟨tb, 0, none⟩)] 27)] X) (Q := fun X => Code.wp _ _ _ _ X) ((((OwB.start w).allocN _ w.heap.size rfl).allocN _ (w.heap.size + 1) (by simp)).allocN _ (w.heap.size + 1 + 1) (by simp)) ?_
    intro V hV
    generalize w.heap.size + 1 + 1 = b10 at hV ⊢
    generalize w.heap.size + 1 = b6 at hV ⊢
    generalize w.heap.size = b5 at hV ⊢
    have f10 := hV.nth 0 rfl
    have t10 := World.at_lt f10
    have l10 := hV.low 0 rfl
    have F := Lib.hid (hV.fr.put b10 (.cells (ints .u8 (Kd.zeros 32)) 34) (fun h => by omega))
    clear hV
    go_wp2_with fail
    refine ret_cell_tmp2 rfl rfl rfl ?_
    go_simp
    rw [HR0.out]
    exact ⟨by kernel_rfl, ⟨rfl, rfl, rfl⟩, F.out⟩
  have d0 : decide (4 ≤ (server : Int)) = false := by rw [decide_eq_false_iff_not]; omega
  go_upto_if 23 with (fail)
  refine named_world (A := fun X => OwB w [(w.heap.size + 1 + 1, .cells (ints .u8 (zs 32)) 34), (w.heap.size + 1, .cells (ints .u8 C) 38), (w.heap.size, .cells #[.pointer (some ⟨tb, 0, none⟩)] 27)] X) (Q := fun X => Code.wp _ _ _ _ X) ((((OwB.start w).allocN _ w.heap.size rfl).allocN _ (w.heap.size + 1) (by simp)).allocN _ (w.heap.size + 1 + 1) (by simp)) ?_
  intro V hV
  generalize w.heap.size + 1 + 1 = b10 at hV ⊢
  generalize w.heap.size + 1 = b6 at hV ⊢
  generalize w.heap.size = b5 at hV ⊢
  have f10 := hV.nth 0 rfl
  have t10 := World.at_lt f10
  have l10 := hV.low 0 rfl
  have HV := Lib.hid hV
  by_cases hg : 4 < n
  · have d : decide (4 < (n : Int)) = true := by rw [decide_eq_true_eq]; omega
    have hr0 : R = (Kd.zeros 32, 0, 200) := by rw [HR.out]; unfold checkF; rw [if_pos (by rw [HN.out]; omega)]
    clear hV
    have F := Lib.hid (HV.out.fr.put b10 (.cells (ints .u8 (Kd.zeros 32)) 34) (fun h => by omega))
    have HR0 := Lib.hid hr0
    clear hr0
    go_wp2_with fail
    refine ret_cell_tmp2 rfl rfl rfl ?_
    go_simp
    rw [HR0.out]
    exact ⟨by kernel_rfl, ⟨rfl, rfl, rfl⟩, F.out⟩
  · have d : decide (4 < (n : Int)) = false := by rw [decide_eq_false_iff_not]; omega
    have d4 : decide ((server : Int) < 4) = true := by rw [decide_eq_true_eq]; omega
    have f6 := hV.nth 1 rfl
    have t6 := World.at_lt f6
    clear hV
    go_wp2_with fail
    obtain ⟨k0, hk0⟩ : ∃ k0, k0 = List.drop (server * 32) (List.take (server * 32 + 32) C) := ⟨_, rfl⟩
    have e13 : (List.drop (server * 32) (List.take (server * 32 + 32) (List.map (Value.int .u8) C))).toArray = ints .u8 k0 := by rw [hk0, ints, List.map_drop, List.map_take]
    have lk0 : k0.length = 32 := by rw [hk0, List.length_drop, List.length_take]; omega
    have bk0 : isBytes k0 := fun x hx => HCB.out x (by rw [hk0] at hx; exact List.mem_of_mem_take (List.mem_of_mem_drop hx))
    rw [e13, ← hk0]
    obtain ⟨K0, hK0⟩ : ∃ K0, K0 = chainF T (firstC C) (needC C) server xs 0 k0 := ⟨_, rfl⟩
    have hR1 : R = endF C server now xs K0 := by rw [HR.out, checkF_end (by omega) (by rw [HN.out]; omega) hC, hK0, hk0]
    have HR1 := Lib.hid hR1
    have HK0 := Lib.hid hK0
    have HBK := Lib.hid bk0
    refine named_world (A := fun X => OwB w [(V.heap.size, .cells (ints .u8 k0) 34), (b10, .cells (ints .u8 (zs 32)) 34), (b6, .cells (ints .u8 C) 38), (b5, .cells #[.pointer (some ⟨tb, 0, none⟩)] 27)] X) (Q := fun X => Code.wp _ _ _ _ X) (HV.out.allocN _ V.heap.size rfl) ?_
    intro U hU
    clear f10 t10 f6 t6 hR1 hK0 bk0 hk0 e13
    generalize V.heap.size = b13 at hU ⊢
    have HU := Lib.hid hU
    clear hU
    go_loopw [31] (fun iv wy => ∃ (i : Nat) (k : List Int), i ≤ n ∧ iv = .int .i64 (i : Int) ∧ k.length = 32 ∧ Hid (isBytes k) ∧ Hid (OwB w [(b13, .cells (ints .u8 k) 34), (b10, .cells (ints .u8 (zs 32)) 34), (b6, .cells (ints .u8 C) 38), (b5, .cells #[.pointer (some ⟨tb, 0, none⟩)] 27)] wy) ∧ Hid (K0 = chainF T (firstC C) (needC C) server (xs.drop i) i k)) (fun iv _ => (n - intOf iv).toNat)
    case atStart => exact ⟨0, k0, by omega, rfl, lk0, HBK, HU, HK0⟩
    case round =>
      obtain ⟨i, k, hi9, rfl, hk, hbk, hO, hKi⟩ := hrel
      by_cases hlt : i < n
      · have hd : decide ((i : Int) < (n : Int)) = true := by rw [decide_eq_true_eq]; omega
        obtain ⟨b, off, cs, TT, fr, rfl, fc0, hs1, hs2, hext⟩ := HS.out.elem hlt
        obtain ⟨x, hxi⟩ : ∃ x, xs[i]? = some x := ⟨xs[i]'(by rw [HN.out]; exact hlt), List.getElem?_eq_getElem _⟩
        have hox := HX.out x (List.mem_of_getElem? hxi)
        rw [flatMap_part (fun x => (obC x).toList) 101 xs i x (fun y hy => by rw [Array.length_toList, List.size_toArray, cObject_length _ _ _ _ _ _ _ (HX.out y hy).kl (HX.out y hy).sl]) hxi] at hext
        have fc := hO.out.fr.get fc0 (by simp)
        obtain ⟨X, hX⟩ : ∃ X, X = obC x := ⟨_, rfl⟩
        have hext2 : cs.extract (off + i * 101) (off + i * 101 + 101) = X := by rw [hext, hX]
        have HXE := Lib.hid hX
        have hszX : X.size = 101 := by rw [hX, List.size_toArray, cObject_length _ _ _ _ _ _ _ hox.kl hox.sl]
        have xones : ones X.toList = true := by rw [hX]; exact List.all_eq_true.2 (cObject_one _ _ _ _ _ _ _ rfl rfl rfl rfl rfl)
        have HOX := Lib.hid hox
        have HXI := Lib.hid hxi
        clear hext hX hox hxi fc0
        go_upto_region 7 with (fail)
        refine named_world (A := fun Y => OwB w [(wr.heap.size, .cells X 48), (b13, .cells (ints .u8 k) 34), (b10, .cells (ints .u8 (zs 32)) 34), (b6, .cells (ints .u8 C) 38), (b5, .cells #[.pointer (some ⟨tb, 0, none⟩)] 27)] Y) (Q := fun Y => Code.wp _ _ _ _ Y) (hO.out.allocN _ wr.heap.size rfl) ?_
        intro U1 hU1
        clear fc hext2 hs1 hs2
        generalize wr.heap.size = bx at hU1 ⊢
        have HU1 := Lib.hid hU1
        obtain ⟨bad, hbad⟩ : ∃ bad, bad = (decide (x.server ≠ (server : Int)) || decide (x.n ≠ (i : Int) + 1) || !verifyF T k (objText x) x.sig || decide (0 < needC C)) := ⟨_, rfl⟩
        have hKi2 : K0 = if bad = true then none else chainF T (firstC C) (needC C) server (xs.drop (i + 1)) (i + 1) x.key := by
          have hil : i < xs.length := by rw [HN.out]; exact hlt
          rw [hKi.out, List.drop_eq_getElem_cons hil, hbad, show xs[i] = x from (List.getElem?_eq_some_iff.1 HXI.out).2]
          exact chainF_cons HOX.out.vs
        have HKI := Lib.hid hKi2
        have HBAD := Lib.hid hbad
        clear hKi2 hbad hU1
        go_cut [36, 37, 38, 39, 40, 41, 42, 43, 44, 45, 46, 47, 48, 49, 50, 51, 52, 53, 54, 55, 56, 57, 58, 59, 60, 61, 62, 63, 64, 65, 66, 67] (fun _ _ _ _ _ _ _ _ _ _ _ _ _ _ _ _ _ _ _ _ _ _ _ _ _ _ _ _ _ _ _ v wy => v = .bool bad ∧ Hid (OwB w [(bx, .cells X 48), (b13, .cells (ints .u8 k) 34), (b10, .cells (ints .u8 (zs 32)) 34), (b6, .cells (ints .u8 C) 38), (b5, .cells #[.pointer (some ⟨tb, 0, none⟩)] 27)] wy))
        case first =>
          have fx := HU1.out.nth 0 rfl
          have tx := World.at_lt fx
          have x0 : X[0]? = some (.int .u8 x.server) := by rw [HXE.out]; exact cObject_get_server _ _ _ _ _ _ _ HOX.out.kl HOX.out.sl
          replace x0 := (Array.getElem?_eq_some_iff.1 x0).2
          have x1 : X[1]? = some (.int .u8 x.n) := by rw [HXE.out]; exact cObject_get_n _ _ _ _ _ _ _ HOX.out.kl HOX.out.sl
          replace x1 := (Array.getElem?_eq_some_iff.1 x1).2
          have hne : Nonempty Unit := ⟨()⟩
          have w1 : IntKind.i64.wrap ((i : Int) + 1) = (i : Int) + 1 := by rw [IntKind.wrap_i64]; omega
          have w2 : IntKind.i64.wrap x.n = x.n := by have h0 := HOX.out.n0; have h1 := HOX.out.n1; rw [IntKind.wrap_i64]; omega
          by_cases hA : x.server = (server : Int)
          · have dA : (x.server != (server : Int)) = false := by simp [hA]
            by_cases hB : x.n = (i : Int) + 1
            · have dB : (x.n != (i : Int) + 1) = false := by simp [hB]
              have HA := Lib.hid hA
              have HB := Lib.hid hB
              clear hA hB
              have f13 := HU1.out.nth 1 rfl
              have f6 := HU1.out.nth 3 rfl
              have f5 := HU1.out.nth 4 rfl
              have xall : X.extract 0 101 = X := by rw [← hszX]; exact Array.extract_size
              have xsig : X.extract 36 100 = ints .u8 x.sig := by rw [HXE.out]; exact cObject_ext_sig _ _ _ _ _ _ _ HOX.out.kl HOX.out.sl
              have c1 : ∀ W : World, Calls Tryz.prog 44 #[.agg X] W fun e w' => ∃ q m c, e = .returned (.slice q m c) ∧ Bld W [] .u8 5 w' q m c (objText x) := fun W => by rw [HXE.out]; exact otext_o HOX.out
              have c3 : ∀ W : World, Calls Tryz.prog 49 #[SU tb, .agg (ints .u8 C), .agg X] W fun e w' => e = .returned (.int .i64 0) ∧ Fr [] W w' := fun W => vouched0_f hC rfl hszX (by rw [HXE.out]; exact cObject_get_vs _ _ _ _ _ _ _ HOX.out.kl HOX.out.sl)
              have C1 := Lib.hid c1
              have C3 := Lib.hid c3
              have hnd0 : 0 ≤ el C 132 ∧ el C 132 < 256 := HCB.out _ (by rw [el, List.getD_eq_getElem?_getD, List.getElem?_eq_getElem (by omega)]; simp)
              have w3 : IntKind.i64.wrap (el C 132) = (needC C : Int) := by rw [IntKind.wrap_i64]; unfold needC; omega
              have l132 : 132 < C.length := by omega
              have t13 := World.at_lt f13
              have t6 := World.at_lt f6
              have t5 := World.at_lt f5
              clear c1 c3 hnd0
              refine drawn_begin 32 (fun w' => w'.blk bx = some (.cells X 48) ∧ w'.blk b13 = some (.cells (ints .u8 k) 34) ∧ w'.blk b6 = some (.cells (ints .u8 C) 38) ∧ w'.blk b5 = some (.cells #[.pointer (some ⟨tb, 0, none⟩)] 27)) (by kernel_rfl) ?_
              refine drawn_reads (fuel := 14) [0, 1, 2, 3, 4, 5, 6, 7, 8, 9, 10, 11, 12, 13, 14, 15, 17, 18] rfl (by kernel_rfl) ⟨fx, f13, f6, f5⟩ ?_
              repeat (first | (refine rowK_step2 rfl rfl (fun K hK => ?_); go_wp2) | (refine rowK_step rfl (fun K hK => ?_); go_simp; refine hK _ ?_; clear hK K))
              refine rowK_nil ⟨fun w' e1 => ?_, ?_⟩
              · obtain ⟨e1, e2, e3, e4⟩ := e1
                clear fx f13 f6 f5
                repeat (first | (refine rowWp_step2 rfl rfl (fun K hK => ?_); go_wp2) | (refine rowWp_step rfl (fun K hK => ?_); go_simp; refine hK _ ?_; clear hK K))
                exact rowWp_nil rfl
              refine drawn_next 16 (fuel := 13) rfl (by kernel_rfl) ?_
              intro K hK
              go_wp2_with fail
              refine (C1.out _).mono ?_
              rintro e U2 ⟨q, m, c, rfl, hB⟩
              have hU2 := HU1.out.drew.call hB.own.fr
              clear fx f13 f6 f5 tx t13 t6 t5
              have fx := hU2.nth 0 rfl
              have f13 := hU2.nth 1 rfl
              have f6 := hU2.nth 3 rfl
              have f5 := hU2.nth 4 rfl
              have tx := World.at_lt fx
              have t13 := World.at_lt f13
              have t6 := World.at_lt f6
              have t5 := World.at_lt f5
              have HU2 := Lib.hid hU2
              have HBt := Lib.hid hB
              clear hU2 hB
              go_wp2_with fail
              refine ⟨⟨fx, f13, f6, f5⟩, ?_⟩
              refine drawn_next 19 (fuel := 12) rfl (by kernel_rfl) ?_
              intro K hK
              go_wp2_with fail
              refine (verify_o (H.out.fr0 HU2.out.fr) hk hbk.out HBt.out.sl (isBytes_obj HOX.out) HOX.out).mono ?_
              rintro e U3 ⟨rfl, F3⟩
              have hU3 := HU2.out.call F3
              clear fx f13 f6 f5 tx t13 t6 t5 F3
              have fx := hU3.nth 0 rfl
              have f13 := hU3.nth 1 rfl
              have f6 := hU3.nth 3 rfl
              have f5 := hU3.nth 4 rfl
              have tx := World.at_lt fx
              have t13 := World.at_lt f13
              have t6 := World.at_lt f6
              have t5 := World.at_lt f5
              have HU3 := Lib.hid hU3
              clear hU3
              have hb : bad = (!verifyF T k (objText x) x.sig || decide (0 < needC C)) := by rw [HBAD.out]; simp [HA.out, HB.out]
              generalize verifyF T k (objText x) x.sig = vb at hb ⊢
              have HBB := Lib.hid hb
              clear hb
              go_wp2_with fail
              refine ⟨⟨fx, f13, f6, f5⟩, ?_⟩
              cases vb with
              | false =>
                refine drawn_reads (fuel := 0) [20, 21, 22, 23, 24, 25, 26, 27, 28, 29, 30, 31] rfl (by kernel_rfl) ⟨fx, f13, f6, f5⟩ ?_
                repeat (first | (refine rowK_step2 rfl rfl (fun K hK => ?_); go_wp2) | (refine rowK_step rfl (fun K hK => ?_); go_simp; refine hK _ ?_; clear hK K))
                refine rowK_nil ⟨fun w' e1 => ?_, ?_⟩
                · obtain ⟨e1, e2, e3, e4⟩ := e1
                  clear fx f13 f6 f5
                  repeat (first | (refine rowWp_step2 rfl rfl (fun K hK => ?_); go_wp2) | (refine rowWp_step rfl (fun K hK => ?_); go_simp; refine hK _ ?_; clear hK K))
                  exact rowWp_nil rfl
                refine drawn_end (ol := []) rfl (by kernel_rfl) ?_
                intro K hK
                go_wp2_with fail
                go_meet
                case rel => exact ⟨by rw [HBB.out]; rfl, HU3⟩
              | true =>
                refine drawn_reads (fuel := 3) [20, 21, 22, 23, 24, 25, 27, 28, 29] rfl (by kernel_rfl) ⟨fx, f13, f6, f5⟩ ?_
                repeat (first | (refine rowK_step2 rfl rfl (fun K hK => ?_); go_wp2) | (refine rowK_step rfl (fun K hK => ?_); go_simp; refine hK _ ?_; clear hK K))
                refine rowK_nil ⟨fun w' e1 => ?_, ?_⟩
                · obtain ⟨e1, e2, e3, e4⟩ := e1
                  clear fx f13 f6 f5
                  repeat (first | (refine rowWp_step2 rfl rfl (fun K hK => ?_); go_wp2) | (refine rowWp_step rfl (fun K hK => ?_); go_simp; refine hK _ ?_; clear hK K))
                  exact rowWp_nil rfl
                refine drawn_next 26 (fuel := 2) rfl (by kernel_rfl) ?_
                intro K hK
                go_wp2_with fail
                refine (C3.out _).mono ?_
                rintro e U4 ⟨rfl, F4⟩
                have hU4 := HU3.out.call F4
                clear fx f13 f6 f5 tx t13 t6 t5 F4
                have fx := hU4.nth 0 rfl
                have f13 := hU4.nth 1 rfl
                have f6 := hU4.nth 3 rfl
                have f5 := hU4.nth 4 rfl
                have tx := World.at_lt fx
                have HU4 := Lib.hid hU4
                clear hU4
                have HBB2 : Hid (bad = decide (0 < needC C)) := Lib.hid (by rw [HBB.out]; simp)
                go_wp2_with fail
                refine ⟨⟨fx, f13, f6, f5⟩, ?_⟩
                refine drawn_reads (fuel := 0) [30, 31] rfl (by kernel_rfl) ⟨fx, f13, f6, f5⟩ ?_
                repeat (first | (refine rowK_step2 rfl rfl (fun K hK => ?_); go_wp2) | (refine rowK_step rfl (fun K hK => ?_); go_simp; refine hK _ ?_; clear hK K))
                refine rowK_nil ⟨fun w' e1 => ?_, ?_⟩
                · repeat (first | (refine rowWp_step2 rfl rfl (fun K hK => ?_); go_wp2) | (refine rowWp_step rfl (fun K hK => ?_); go_simp; refine hK _ ?_; clear hK K))
                  exact rowWp_nil rfl
                refine drawn_end (ol := []) rfl (by kernel_rfl) ?_
                intro K hK
                go_wp2_with fail
                go_meet
                case rel => exact ⟨by rw [HBB2.out], HU4⟩
            · have dB : (x.n != (i : Int) + 1) = true := by simp [hB]
              have hb : bad = true := by rw [HBAD.out]; simp [hB]
              have HB := Lib.hid hb
              clear hA hB hb
              refine wp_region_quiet_all (C := fun w' => ∃ _ : Unit, w' = U1.drew) (by kernel_rfl) (by kernel_rfl) ⟨(), rfl⟩ ?_
              repeat (go_big_quiet_step (fail))
              refine wpQuiet_nil ?_
              intro _ hw'
              obtain ⟨_, rfl⟩ := hw'
              go_wp2_with fail
              go_meet
              case rel => exact ⟨by rw [HB.out], Lib.hid HU1.out.drew⟩
          · have dA : (x.server != (server : Int)) = true := by simp [hA]
            have hb : bad = true := by rw [HBAD.out]; simp [hA]
            have HB := Lib.hid hb
            clear hA hb
            refine wp_region_quiet_all (C := fun w' => ∃ _ : Unit, w' = U1.drew) (by kernel_rfl) (by kernel_rfl) ⟨(), rfl⟩ ?_
            repeat (go_big_quiet_step (fail))
            refine wpQuiet_nil ?_
            intro _ hw'
            obtain ⟨_, rfl⟩ := hw'
            go_wp2_with fail
            go_meet
            case rel => exact ⟨by rw [HB.out], Lib.hid HU1.out.drew⟩
        case rest =>
          obtain ⟨rfl, hO2⟩ := hcut
          have f13 := hO2.out.nth 1 rfl
          have fx := hO2.out.nth 0 rfl
          have f10 := hO2.out.nth 2 rfl
          have t13 := World.at_lt f13
          have tx := World.at_lt fx
          have t10 := World.at_lt f10
          cases bad with
          | true =>
            have hr0 : R = (Kd.zeros 32, 0, 200) := by rw [HR1.out, HKI.out]; rfl
            have HR0 := Lib.hid hr0
            have F := Lib.hid (hO2.out.fr.put b10 (.cells (ints .u8 (Kd.zeros 32)) 34) (fun h => by omega))
            clear hr0
            go_wp2_with fail
            refine ret_cell_tmp2 rfl rfl rfl ?_
            go_simp
            rw [HR0.out]
            exact ⟨by kernel_rfl, ⟨rfl, rfl, rfl⟩, F.out⟩
          | false =>
            have xkey : X.extract 2 34 = ints .u8 x.key := by rw [HXE.out]; exact cObject_ext_key _ _ _ _ _ _ _ HOX.out.kl HOX.out.sl
            have lk := HOX.out.kl
            go_wp2_with fail
            go_roundw
            case rel =>
              refine ⟨i + 1, x.key, by omega, by simp, HOX.out.kl, Lib.hid HOX.out.kb, Lib.hid ?_, Lib.hid (by rw [HKI.out]; rfl)⟩
              exact hO2.out.take.set 0 _ rfl
            case measure => simp [intOf]; omega
      · obtain rfl : i = n := by omega
        have hd : decide ((i : Int) < (i : Int)) = false := by simp
        have hK1 : K0 = some k := by rw [hKi.out, List.drop_eq_nil_of_le (by rw [HN.out]; exact Nat.le_refl _)]; rfl
        have HK1 := Lib.hid hK1
        have f6 := hO.out.nth 2 rfl
        have f10 := hO.out.nth 1 rfl
        have f13 := hO.out.nth 0 rfl
        have t6 := World.at_lt f6
        have t10 := World.at_lt f10
        have t13 := World.at_lt f13
        have hh := HCB.out (el C (128 + server)) (by rw [el, List.getD_eq_getElem?_getD, List.getElem?_eq_getElem (by omega)]; simp)
        have lC : 128 + server < C.length := by omega
        have hs5 : server < 5 := by omega
        have hs6 : 128 + server < 133 := by omega
        obtain ⟨hi, hhi⟩ : ∃ hi, hi = el C (128 + server) := ⟨_, rfl⟩
        have w5 : IntKind.i64.wrap hi = hi := by rw [IntKind.wrap_i64]; omega
        have HHI := Lib.hid hhi
        rw [hhi] at w5
        clear hK1 hh hhi
        by_cases hlow : (i : Int) < el C (128 + server)
        · have dl : decide ((i : Int) < el C (128 + server)) = true := by rw [decide_eq_true_eq]; exact hlow
          have hr0 : R = (Kd.zeros 32, 0, 210) := by rw [HR1.out, HK1.out]; exact endF_low (by rw [HN.out]; exact hlow)
          have HR0 := Lib.hid hr0
          have F := Lib.hid (hO.out.fr.put b10 (.cells (ints .u8 (Kd.zeros 32)) 34) (fun h => by omega))
          clear hr0
          go_wp2_with fail
          refine ret_cell_tmp2 rfl rfl rfl ?_
          go_simp
          rw [HR0.out]
          exact ⟨by kernel_rfl, ⟨rfl, rfl, rfl⟩, F.out⟩
        · have dl : decide ((i : Int) < el C (128 + server)) = false := by rw [decide_eq_false_iff_not]; exact hlow
          have hlow2 : ¬ (xs.length : Int) < el C (128 + server) := by rw [HN.out]; exact hlow
          have w6 : IntKind.u8.wrap (i : Int) = (i : Int) := by rw [IntKind.wrap_u8]; omega
          cases hlast : xs.getLast? with
          | none =>
            have hr0 : R = (k, (i : Int), 0) := by rw [HR1.out, HK1.out, endF_none hlow2 hlast, HN.out]
            have HR0 := Lib.hid hr0
            have hi0 : i = 0 := by
              rw [List.getLast?_eq_none_iff] at hlast
              have h2 := HN.out
              rw [hlast] at h2
              simpa using h2.symm
            have di : decide ((i : Int) > 0) = false := by rw [hi0]; rfl
            have di2 : decide (0 < (i : Int)) = false := by rw [hi0]; rfl
            have di3 : decide (0 < i) = false := by rw [hi0]; rfl
            clear hi0
            have F := Lib.hid (hO.out.fr.put b10 (.cells (ints .u8 k) 34) (fun h => by omega))
            clear hr0 hlow2 hlast hlow
            go_wp2_with fail
            refine ret_cell_tmp2 rfl rfl rfl ?_
            go_simp
            rw [HR0.out]
            exact ⟨by kernel_rfl, ⟨rfl, rfl, rfl⟩, F.out⟩
          | some x =>
            have hr1 := endF_some (k := k) (now := now) hlow2 hlast
            rw [← HK1.out, ← HR1.out, HN.out] at hr1
            have HRR := Lib.hid hr1
            obtain ⟨j, hj⟩ : ∃ j, i = j + 1 := by
              refine ⟨i - 1, ?_⟩
              have : xs ≠ [] := fun e => by rw [e] at hlast; cases hlast
              have := List.length_pos_iff.2 this
              have h2 := HN.out
              omega
            have hxj : xs[j]? = some x := by
              rw [List.getLast?_eq_getElem?] at hlast
              rw [HN.out, hj] at hlast
              exact hlast
            have hox := HX.out x (List.mem_of_getElem? hxj)
            obtain ⟨b, off, cs, TT, fr, rfl, fc0, hs1, hs2, hext⟩ := HS.out.elem (j := j) (by omega)
            rw [flatMap_part (fun x => (obC x).toList) 101 xs j x (fun y hy => by rw [Array.length_toList, List.size_toArray, cObject_length _ _ _ _ _ _ _ (HX.out y hy).kl (HX.out y hy).sl]) hxj] at hext
            have fc := hO.out.fr.get fc0 (by simp)
            have g3 : cs[off + j * 101 + 34]? = some (.int .u32 x.frm) := by
              have h1 : (cs.extract (off + j * 101) (off + j * 101 + 101))[34]? = some (.int .u32 x.frm) := by rw [hext]; exact cObject_get_frm _ _ _ _ _ _ _ hox.kl hox.sl
              rwa [Array.getElem?_extract_of_lt (by omega), ← Array.getElem?_eq_getElem] at h1
            have g4 : cs[off + j * 101 + 35]? = some (.int .u32 x.til) := by
              have h1 : (cs.extract (off + j * 101) (off + j * 101 + 101))[35]? = some (.int .u32 x.til) := by rw [hext]; exact cObject_get_til _ _ _ _ _ _ _ hox.kl hox.sl
              rwa [Array.getElem?_extract_of_lt (by omega), ← Array.getElem?_eq_getElem] at h1
            have g3' := (Array.getElem?_eq_some_iff.1 g3).2
            have g4' := (Array.getElem?_eq_some_iff.1 g4).2
            have hi0 : decide ((i : Int) > 0) = true := by rw [decide_eq_true_eq]; omega
            have w7 : IntKind.i64.wrap ((i : Int) - 1) = (j : Int) := by rw [IntKind.wrap_i64]; omega
            have dj : decide ((j : Int) < (i : Int)) = true := by rw [decide_eq_true_eq]; omega
            have hji : j < i := by omega
            have HJ := Lib.hid hj
            have F := Lib.hid (hO.out.fr.put b10 (.cells (ints .u8 k) 34) (fun h => by omega))
            have F2 := Lib.hid (hO.out.fr.put b10 (.cells (ints .u8 (Kd.zeros 32)) 34) (fun h => by omega))
            clear hr1 hlow2 hlast hlow hj hxj hox hext fc0
            by_cases hw1 : (now : Int) < x.frm
            · have dw : decide ((now : Int) < x.frm) = true := by rw [decide_eq_true_eq]; exact hw1
              have hr0 : R = (Kd.zeros 32, 0, 201) := by rw [HRR.out, if_pos (Or.inl hw1)]
              have HR0 := Lib.hid hr0
              clear hr0 hw1
              go_wp2_with fail
              refine ret_cell_tmp2 rfl rfl rfl ?_
              go_simp
              rw [HR0.out]
              exact ⟨by kernel_rfl, ⟨rfl, rfl, rfl⟩, F2.out⟩
            · have dw : decide ((now : Int) < x.frm) = false := by rw [decide_eq_false_iff_not]; exact hw1
              by_cases hw2 : x.til ≤ (now : Int)
              · have dw2 : decide ((now : Int) ≥ x.til) = true := by rw [decide_eq_true_eq]; exact hw2
                have dw3 : decide (x.til ≤ (now : Int)) = true := by rw [decide_eq_true_eq]; exact hw2
                have hr0 : R = (Kd.zeros 32, 0, 201) := by rw [HRR.out, if_pos (Or.inr hw2)]
                have HR0 := Lib.hid hr0
                clear hr0 hw1 hw2
                go_wp2_with fail
                refine ret_cell_tmp2 rfl rfl rfl ?_
                go_simp
                rw [HR0.out]
                exact ⟨by kernel_rfl, ⟨rfl, rfl, rfl⟩, F2.out⟩
              · have dw2 : decide ((now : Int) ≥ x.til) = false := by rw [decide_eq_false_iff_not]; exact hw2
                have dw3 : decide (x.til ≤ (now : Int)) = false := by rw [decide_eq_false_iff_not]; exact hw2
                have hr0 : R = (k, (i : Int), 0) := by rw [HRR.out, if_neg (by omega)]
                have HR0 := Lib.hid hr0
                clear hr0 hw1 hw2
                go_wp2_with fail
                refine ret_cell_tmp2 rfl rfl rfl ?_
                go_simp
                rw [HR0.out]
                exact ⟨by kernel_rfl, ⟨rfl, rfl, rfl⟩, F.out⟩
end
end Go.Proofs.YtbhnfohoclcjdaaGreat
namespace Go
section
variable {P : Program} {fn : Func} {R : Ending → World → Prop} {a : Act} {w : World}
theorem ret_cell2_tmp {p q ty tz b c u : Nat} (h : fn.results = #[.cell p ty, .cell q tz, .tmp u]) (hp : a.tmps.getD p undef = .pointer (some ⟨b, 0, none⟩)) (hq : a.tmps.getD q undef = .pointer (some ⟨c, 0, none⟩)) (hd : a.defers = [])
    (hR : cellRet P ty (w.blk b) (fun v => cellRet P tz (w.blk c) (fun x => R (.returned (.tuple #[v, x, a.tmps.getD u undef])) w))) : bodyPost P fn R .ret a w := by
  unfold cellRet at hR
  split at hR
  · rename_i cs T fr hb
    obtain ⟨h1, hR⟩ := hR
    split at hR
    · rename_i ds T2 fr2 hc
      refine bodyPost_ret (v := .tuple #[.agg cs, .agg ds, a.tmps.getD u undef]) ?_ hd hR.2
      have hp' : a.tmps[p]?.getD undef = .pointer (some ⟨b, 0, none⟩) := by simpa using hp
      have hq' : a.tmps[q]?.getD undef = .pointer (some ⟨c, 0, none⟩) := by simpa using hq
      simp [results, h, hp', hq', asAddr, run_loadVar_agg hb h1, run_loadVar_agg hc hR.1]
    · exact hR.elim
  · exact hR.elim
end
end Go
namespace Go.Proofs.YtbhnfohoclcjdaaGreat
open Go.RowKit Go.Dr Go.Kd
theorem info59 : (Tryz.prog.info? 65).map (fun i => (i.zero.map (·.cells.size), i.size, i.bytes)) = some (some 162, 162, 164) := by kernel_rfl
theorem info59_parts : ∃ i z, Tryz.prog.info? 65 = some i ∧ i.zero = some z ∧ z.cells.size = 162 ∧ i.size = 162 ∧ i.bytes = 164 := by
  have h := info59
  cases hi : Tryz.prog.info? 65 with
  | none => rw [hi] at h; cases h
  | some i =>
    rw [hi] at h
    simp only [Option.map_some, Option.some.injEq, Prod.mk.injEq] at h
    cases hz : i.zero with
    | none => rw [hz] at h; cases h.1
    | some z =>
      rw [hz] at h
      simp only [Option.map_some, Option.some.injEq] at h
      exact ⟨i, z, rfl, hz, h.1, h.2.1, h.2.2⟩
section
variable {w0 w : World} {L : List (Nat × Obj)} {p : Option Addr} {n cap : Nat} {vs : List Value} {ops : Array Oper} {rest : List Oper} {o : Oper} {a : Act} {Q : Exit → Act → World → Prop}
/-- []api.Bundle: append of a slice. -/
theorem wpList_app60 (hgd : o.guard = none) (s x : Operand) (ho : o.op = .call { callee := .builtin .append, args := #[s, x], argTypes := #[66, 66] })
    (hs : a.eval s = .slice p n cap) (B : BldV w0 L 65 162 w p n cap vs) {q : Option Addr} {m c : Nat} {us : List Value} (hx : a.eval x = .slice q m c) (S : Sv 162 w q m c us) (h1 : ∀ u ∈ us, u.oneCell' = true) (hbig : n + m ≤ 1000000)
    (h : ∀ p' cap' w', BldV w0 L 65 162 w' p' (n + m) cap' (vs ++ us) → wpList Tryz.prog ops Q rest (a.put o.dst (.slice p' (n + m) cap')) w') : wpList Tryz.prog ops Q (o :: rest) a w := by
  obtain ⟨i, z, hi, hz, hzs, hs1, hb1⟩ := info59_parts
  exact wpList_apdV hgd s x 66 66 ho Tryz.underlying66 hi hz hs1 (by omega) hb1 hzs hs B hx (Apd.ofSrc Tryz.underlying66 hi hz (by rw [hs1]; exact S.src Tryz.underlying66 h1)) (by omega) (by omega) h
end
/-- All but the first. -/
theorem sv_rest {sz : Nat} {w : World} {g m c : Nat} {u us : List Value} (S : Sv sz w (some ⟨g, 0, none⟩) m c (u ++ us)) (hu : u.length = sz) (hm : 0 < m) : Sv sz w (if c = 1 then some ⟨g, 0, none⟩ else some ⟨g, sz, none⟩) (m - 1) (c - 1) us := by
  have hl := S.len
  have hc := S.cap_
  have hsm : sz ≤ m * sz := Nat.le_mul_of_pos_left _ hm
  have hl2 : us.length = (m - 1) * sz := by rw [List.length_append] at hl; rw [Nat.sub_mul]; omega
  refine ⟨hl2, by omega, ?_, ?_, ?_⟩
  · rcases Nat.eq_zero_or_pos (m - 1) with h0 | h0
    · exact .inl h0
    · rcases S.row with h | ⟨b, off, cs, T, fr, hp, hb, hs, hx⟩
      · omega
      · simp only [Option.some.injEq, Addr.mk.injEq, and_true] at hp
        obtain ⟨rfl, rfl⟩ := hp
        refine .inr ⟨g, sz, cs, T, fr, by rw [if_neg (by omega)], hb, ?_, ?_⟩
        · rw [Nat.sub_mul]; omega
        · have e : (cs.extract sz (sz + (m - 1) * sz)).toList = ((cs.extract 0 (0 + m * sz)).toList).drop sz := by
            simp only [Array.toList_extract, List.extract_eq_take_drop, Nat.zero_add, List.drop_zero, Nat.sub_zero]
            rw [List.drop_take]
            congr 1
            rw [Nat.sub_mul]; omega
          rw [e, hx, ← hu, List.drop_left]
  · intro h; split at h <;> cases h
  · intro a ha
    split at ha
    · exact ⟨g, 0, by simpa using ha.symm⟩
    · exact ⟨g, sz, by simpa using ha.symm⟩
section
variable {w : World}
set_option maxRecDepth 100000 in
set_option maxHeartbeats 2000000 in
theorem bclone_f {a : Addr} {n cap : Nat} {vs : List Value} (S : Sv 162 w (some a) n cap vs) (h1 : ∀ u ∈ vs, u.oneCell' = true) (hn : n ≤ 100000) :
    Calls Tryz.prog 60 #[.slice (some a) n cap] w fun e w' => ∃ q c, e = .returned (.slice q n c) ∧ BldV w [] 65 162 w' q n c vs := by
  have HS := Lib.hid S
  have H1 := Lib.hid h1
  have hq : (binOp .eql 66 (.slice (some a) n cap) (.slice none 0 0)).run Tryz.prog w = .ok (.bool false) w := by
    exact Lib.run_eql_slice_nil w 66 65 (some a) n cap 0 0 Tryz.underlying66
  clear S h1
  go_enter Tryz.func60, Tryz.ntmps60
  have hO : OwB w [(w.heap.size, .cells #[] 65)] (w.alloc (.cells #[] 65)) := (OwB.start w).alloc _
  have B : BldV w [] 65 162 (w.alloc (.cells #[] 65)) (some ⟨w.heap.size, 0, none⟩) 0 0 [] := BldV.of (r := #[]) hO rfl rfl (Nat.le_refl 0) (by simp [maxLen])
  have HB := Lib.hid B
  clear hO B
  go_wp2_with (refine wpList_app60 rfl _ _ rfl rfl HB.out rfl (HS.out.fr0 HB.out.own.fr) H1.out (by omega) ?_)
  intro q c W B2
  have HB2 := Lib.hid B2
  clear B2
  go_wp2_with fail
  exact bodyPost_ret (results_tmp rfl _ _ _) rfl ⟨q, c, rfl, HB2.out⟩
set_option maxRecDepth 100000 in
set_option maxHeartbeats 2000000 in
/-- The first of those that are left. -/
theorem claim_f {has last : Value} {fall u : List Value} {us : List Value} {a : Addr} {n cap : Nat} (hf : fall.length = 162) (hfo : ∀ v ∈ fall, v.oneCell' = true) (ho : has.oneCell' = true) (hl : last.oneCell' = true) (S : Sv 162 w (some a) (n + 1) cap (u ++ us)) (hu : u.length = 162) (h1 : ∀ v ∈ u ++ us, v.oneCell' = true) (hn : n ≤ 1000) :
    Calls Tryz.prog 31 #[.agg (cShelf has fall (.slice (some a) (n + 1) cap) last).toArray] w fun e w' => ∃ q c, e = .returned (.tuple #[.agg (cShelf has fall (.slice q n c) last).toArray, .agg u.toArray, .bool true]) ∧ Sv 162 w' q n c us ∧ Fr [] w w' := by
  obtain ⟨m, hm⟩ : ∃ m, m = n + 1 := ⟨_, rfl⟩
  rw [← hm] at S ⊢
  obtain ⟨xs, hxs⟩ : ∃ xs, xs = (cShelf has fall (.slice (some a) m cap) last).toArray := ⟨_, rfl⟩
  have hsz : xs.size = 165 := by rw [hxs, List.size_toArray, cShelf_length _ _ _ _ hf]
  have x1 : xs[163]? = some (.slice (some a) m cap) := by rw [hxs]; exact cShelf_get_left _ _ _ _ hf
  replace x1 := (Array.getElem?_eq_some_iff.1 x1).2
  have HXS := Lib.hid hxs
  rw [← hxs]
  have HS := Lib.hid S
  have H1 := Lib.hid h1
  have HM := Lib.hid hm
  have hm0 : decide ((m : Int) > 0) = true := by rw [decide_eq_true_eq]; omega
  have hm1 : decide (0 < m) = true := by rw [decide_eq_true_eq]; omega
  clear hxs S h1 hm
  go_enter Tryz.func31, Tryz.ntmps31
  go_wp2_with fail
  refine named_world (A := fun X => OwB w [(w.heap.size + 1 + 1, .cells Tryz.zeroCells65 65), (w.heap.size + 1, .cells Tryz.zeroCells68 68), (w.heap.size, .cells xs 68)] X) (Q := fun X => Calls Tryz.prog 60 _ X _) ((((OwB.start w).allocN _ w.heap.size rfl).allocN _ (w.heap.size + 1) (by simp)).allocN _ (w.heap.size + 1 + 1) (by simp)) ?_
  intro V hV
  generalize w.heap.size + 1 + 1 = b3 at hV ⊢
  generalize w.heap.size + 1 = b2 at hV ⊢
  generalize w.heap.size = b1 at hV ⊢
  have HV := Lib.hid hV
  clear hV
  refine (bclone_f (HS.out.fr0 HV.out.fr) H1.out (by have := HM.out; omega)).mono ?_
  rintro e W ⟨q, c, rfl, B⟩
  obtain ⟨g, rfl⟩ := B.row.some_of (by have := HM.out; omega)
  have hSv := B.sv
  obtain ⟨r, hO, hcz, hnc, hcm⟩ := B.room
  have hgl := hO.low 0 rfl
  have hall := (HV.out.merge hO)
  have HO := Lib.hid (OwB.call HV.out B.own.fr)
  have hgb := hO.nth 0 rfl
  have hg1 : g ≠ b1 := by have := HV.out.lt 2 rfl; omega
  have hg2 : g ≠ b2 := by have := HV.out.lt 1 rfl; omega
  have hg3 : g ≠ b3 := by have := HV.out.lt 0 rfl; omega
  have f1 := HO.out.nth 2 rfl
  have f2 := HO.out.nth 1 rfl
  have f3 := HO.out.nth 0 rfl
  have n12 := HO.out.ne 2 1 rfl rfl (by decide)
  have n13 := HO.out.ne 2 0 rfl rfl (by decide)
  have n23 := HO.out.ne 1 0 rfl rfl (by decide)
  have n21 := n12.symm
  have n31 := n13.symm
  have n32 := n23.symm
  have hext : (rowV (u ++ us) r).extract 0 162 = u.toArray := by
    apply Array.ext'
    rw [rowV]
    simp [hu]
  have hrs : 162 ≤ (rowV (u ++ us) r).size := by rw [size_rowV, List.length_append]; omega
  have t1 := World.at_lt f1
  have t2 := World.at_lt f2
  have t3 := World.at_lt f3
  have tg := World.at_lt hgb
  generalize rowV (u ++ us) r = cs at hgb hext hrs
  obtain ⟨ys, hys⟩ : ∃ ys, ys = (cShelf has fall (.slice (some ⟨g, 0, none⟩) m c) last).toArray := ⟨_, rfl⟩
  have hszy : ys.size = 165 := by rw [hys, List.size_toArray, cShelf_length _ _ _ _ hf]
  have y1 : ys[163]? = some (.slice (some ⟨g, 0, none⟩) m c) := by rw [hys]; exact cShelf_get_left _ _ _ _ hf
  replace y1 := (Array.getElem?_eq_some_iff.1 y1).2
  have xset : xs.setIfInBounds 163 (.slice (some ⟨g, 0, none⟩) m c) = ys := by rw [HXS.out, hys]; exact cShelf_set_left _ _ _ _ _ hf
  have HYS := Lib.hid hys
  have HSv := Lib.hid hSv
  have hmc : m ≤ c := hnc
  clear hys hSv B hO hall hcz hnc hcm
  have usz : u.toArray.size = 162 := by simpa using hu
  have uone : ones u = true := List.all_eq_true.2 (fun v hv => H1.out v (by simp [hv]))
  have hg1' := hg1.symm
  have hm2 : 0 < m := by have := HM.out; omega
  obtain ⟨zs, hzs⟩ : ∃ zs, zs = (cShelf has fall (.slice (if c = 1 then some ⟨g, 0, none⟩ else some ⟨g, 162, none⟩) (m - 1) (c - 1)) last).toArray := ⟨_, rfl⟩
  have hszz : zs.size = 165 := by rw [hzs, List.size_toArray, cShelf_length _ _ _ _ hf]
  have zset : ys.setIfInBounds 163 (.slice (if c = 1 then some ⟨g, 0, none⟩ else some ⟨g, 162, none⟩) (m - 1) (c - 1)) = zs := by rw [HYS.out, hzs]; exact cShelf_set_left _ _ _ _ _ hf
  have zones : ones zs.toList = true := by rw [hzs]; exact List.all_eq_true.2 (cShelf_one _ _ _ _ ho hfo rfl hl)
  have HZS := Lib.hid hzs
  have hc1 : decide ((1 : Int) ≤ (m : Int)) = true := by rw [decide_eq_true_eq]; omega
  clear hzs
  go_upto_region 5 with (fail)
  have hz59 : Tryz.zeroCells65.size = 162 := by kernel_rfl
  have hz62 : Tryz.zeroCells68.size = 165 := by kernel_rfl
  have zall : zs.extract 0 165 = zs := by rw [← hszz]; exact Array.extract_size
  have uall : u.toArray.extract 0 162 = u.toArray := by
    apply Array.ext'
    simp
    rw [← hu]
    exact List.take_length
  generalize hqq : (if c = 1 then some (⟨g, 0, none⟩ : Addr) else some ⟨g, 162, none⟩) = qq at HZS ⊢
  have HQQ := Lib.hid hqq
  clear hqq zset
  refine named_world (A := fun X => OwB w [(W.heap.size, .cells u.toArray 65), (b3, .cells Tryz.zeroCells65 65), (b2, .cells Tryz.zeroCells68 68), (b1, .cells zs 68)] X ∧ Fr [b1, b2, b3] W X) (Q := fun X => Code.wp _ _ _ _ X) ⟨((HO.out.set 2 _ rfl).allocN _ W.heap.size (by simp)), ((Fr.refl [b1, b2, b3] W).put b1 _ (by simp)).alloc _⟩ ?_
  rintro U ⟨hU, hFU⟩
  have hgW := tg
  clear f1 f2 f3 t1 t2 t3 tg hgb
  have n52 : W.heap.size ≠ b2 := hU.ne 0 2 rfl rfl (by decide)
  have n53 : W.heap.size ≠ b3 := hU.ne 0 1 rfl rfl (by decide)
  generalize W.heap.size = b5 at hU n52 n53 ⊢
  have f5 := hU.nth 0 rfl
  have f1 := hU.nth 3 rfl
  have f2 := hU.nth 2 rfl
  have f3 := hU.nth 1 rfl
  have t5 := World.at_lt f5
  have t1 := World.at_lt f1
  have t2 := World.at_lt f2
  have t3 := World.at_lt f3
  have n25 := n52.symm
  have n35 := n53.symm
  have l2 := hU.low 2 rfl
  have l3 := hU.low 1 rfl
  have HU := Lib.hid hU
  have HFU := Lib.hid hFU
  clear hU hFU
  refine drawn_begin 3 (fun w' => w'.blk b1 = some (.cells zs 68) ∧ w'.blk b5 = some (.cells u.toArray 65)) (by kernel_rfl) ?_
  refine drawn_reads (fuel := 3) [0, 1] rfl (by kernel_rfl) ⟨f1, f5⟩ ?_
  repeat (first | (refine rowK_step2 rfl rfl (fun K hK => ?_); go_wp2) | (refine rowK_step rfl (fun K hK => ?_); go_simp; refine hK _ ?_; clear hK K))
  refine rowK_nil ⟨fun w' e1 => ?_, ?_⟩
  · obtain ⟨e1, e2⟩ := e1
    clear f1 f5
    repeat (first | (refine rowWp_step2 rfl rfl (fun K hK => ?_); go_wp2) | (refine rowWp_step rfl (fun K hK => ?_); go_simp; refine hK _ ?_; clear hK K))
    exact rowWp_nil rfl
  refine drawn_next 2 (fuel := 2) rfl (by kernel_rfl) ?_
  intro K hK
  go_wp2_with fail
  refine ⟨⟨by go_simp, by go_simp⟩, ?_⟩
  refine drawn_end rfl (by kernel_rfl) ?_
  intro K hK
  go_wp2_with fail
  refine ret_cell2_tmp rfl rfl rfl rfl ?_
  go_simp
  have hmn : m - 1 = n := by have := HM.out; omega
  have hrest := sv_rest HSv.out hu hm2
  rw [HQQ.out, hmn] at hrest
  refine ⟨by kernel_rfl, by kernel_rfl, qq, c - 1, by rw [HZS.out, hmn], hrest.fr (((HFU.out.put b2 _ (by simp)).put b3 _ (by simp)).drew) (fun x hx => ?_), ((HU.out.fr.put b2 _ (fun h => by omega)).put b3 _ (fun h => by omega)).drew⟩
  have hxg : x = g := by
    rw [← HQQ.out] at hx
    split at hx
    · simpa using hx.symm
    · simpa using hx.symm
  subst hxg
  simp [hg1, hg2, hg3]
end
end Go.Proofs.YtbhnfohoclcjdaaGreat
