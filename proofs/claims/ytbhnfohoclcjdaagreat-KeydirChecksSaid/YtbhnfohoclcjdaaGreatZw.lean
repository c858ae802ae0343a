/- Joined: DdF, KeN, DdG. -/
import Derived.Test.YtbhnfohoclcjdaaGreatZu
import Derived.Test.YtbhnfohoclcjdaaGreatZv
import Derived.Test.YtbhnfohoclcjdaaGreatZo
import Derived.Test.YtbhnfohoclcjdaaGreatZl
import Derived.Test.YtbhnfohoclcjdaaGreatZk
set_option linter.unusedVariables false
set_option linter.unusedSimpArgs false
namespace Go.Proofs.YtbhnfohoclcjdaaGreat
open Go.RowKit Go.Dr Go.Kd
section
variable {w : World}
set_option maxRecDepth 100000 in
set_option maxHeartbeats 4000000 in
theorem dcheck_v {lo tb : Nat} {T : List Tm} {C : List Int} {server : Nat} {now : Nat} {p : Option Addr} {n cap : Nat} {ys : List Oe} (h : DTabP lo tb w T) (hC : C.length = 133) (hCb : isBytes C) (hs : server < 256) (hw : now < 4294967296)
    (S : Sv 101 w p n cap (ysL ys)) (hn : ys.length = n) (hx : ∀ y ∈ ys, OeOk w y) (hnb : n ≤ 1000000) :
    Calls Tryz.prog 20 #[SU tb, .agg (ints .u8 C), .int .u8 server, .slice p n cap, .int .u32 now] w fun e w' => e = .returned (.tuple #[.agg (ints .u8 (checkF T (firstC C) (highC C) (needC C) server (ys.map Oe.x) now).1), .int .u8 (checkF T (firstC C) (highC C) (needC C) server (ys.map Oe.x) now).2.1, .int .i64 (checkF T (firstC C) (highC C) (needC C) server (ys.map Oe.x) now).2.2]) ∧ Fr [] w w' := by
  obtain ⟨xs, hxs⟩ : ∃ xs, xs = ys.map Oe.x := ⟨_, rfl⟩
  rw [← hxs]
  have hxl : xs.length = n := by rw [hxs, List.length_map, hn]
  have HXS := Lib.hid hxs
  have H := Lib.hid h
  have HCB := Lib.hid hCb
  have HS := Lib.hid S
  have HX := Lib.hid hx
  obtain ⟨R, hR⟩ : ∃ R, R = checkF T (firstC C) (highC C) (needC C) server xs now := ⟨_, rfl⟩
  rw [← hR]
  have HR := Lib.hid hR
  have HN := Lib.hid hxl
  have HNY := Lib.hid hn
  clear h hCb S hx hR hn hxs hxl
  go_enter Tryz.func20, Tryz.ntmps20
  by_cases h4 : 4 ≤ server
  · have d : decide (3 < (server : Int)) = true := by rw [decide_eq_true_eq]; omega
    have hr0 : R = (Kd.zeros 32, 0, 200) := by rw [HR.out]; unfold checkF; rw [if_pos (by omega)]
    have HR0 := Lib.hid hr0
    clear hr0
    go_upto_if 21 with (fail)
    refine named_world (A := fun X => OwB w [(w.heap.size + 1 + 1, .cells (ints .u8 (zs 32)) 33), (w.heap.size + 1, .cells (ints .u8 C) 38), (w.heap.size, .cells #[.pointer (some ⟨tb, 0, none⟩)] 31)] X) (Q := fun X => Code.wp _ _ _ _ X) ((((OwB.start w).allocN _ w.heap.size rfl).allocN _ (w.heap.size + 1) (by simp)).allocN _ (w.heap.size + 1 + 1) (by simp)) ?_
    intro V hV
    generalize w.heap.size + 1 + 1 = b10 at hV ⊢
    generalize w.heap.size + 1 = b6 at hV ⊢
    generalize w.heap.size = b5 at hV ⊢
    have f10 := hV.nth 0 rfl
    have t10 := World.at_lt f10
    have l10 := hV.low 0 rfl
    have F := Lib.hid (hV.fr.put b10 (.cells (ints .u8 (Kd.zeros 32)) 33) (fun h => by omega))
    clear hV
    go_wp2_with fail
    refine ret_cell_tmp2 rfl rfl rfl ?_
    go_simp
    rw [HR0.out]
    exact ⟨by kernel_rfl, ⟨rfl, rfl, rfl⟩, F.out⟩
  have d0 : decide (3 < (server : Int)) = false := by rw [decide_eq_false_iff_not]; omega
  go_upto_if 21 with (fail)
  refine named_world (A := fun X => OwB w [(w.heap.size + 1 + 1, .cells (ints .u8 (zs 32)) 33), (w.heap.size + 1, .cells (ints .u8 C) 38), (w.heap.size, .cells #[.pointer (some ⟨tb, 0, none⟩)] 31)] X) (Q := fun X => Code.wp _ _ _ _ X) ((((OwB.start w).allocN _ w.heap.size rfl).allocN _ (w.heap.size + 1) (by simp)).allocN _ (w.heap.size + 1 + 1) (by simp)) ?_
  intro V hV
  generalize w.heap.size + 1 + 1 = b10 at hV ⊢
  generalize w.heap.size + 1 = b6 at hV ⊢
  generalize w.heap.size = b5 at hV ⊢
  have f10 := hV.nth 0 rfl
  have t10 := World.at_lt f10
  have l10 := hV.low 0 rfl
  have HV := Lib.hid hV
  by_cases hg : 4 < n
  · have d : decide (4 < (n : Int)) = true := by rw [decide_eq_true_eq]; omega
    have hr0 : R = (Kd.zeros 32, 0, 200) := by rw [HR.out]; unfold checkF; rw [if_pos (by rw [HN.out]; omega)]
    clear hV
    have F := Lib.hid (HV.out.fr.put b10 (.cells (ints .u8 (Kd.zeros 32)) 33) (fun h => by omega))
    have HR0 := Lib.hid hr0
    clear hr0
    go_wp2_with fail
    refine ret_cell_tmp2 rfl rfl rfl ?_
    go_simp
    rw [HR0.out]
    exact ⟨by kernel_rfl, ⟨rfl, rfl, rfl⟩, F.out⟩
  · have d : decide (4 < (n : Int)) = false := by rw [decide_eq_false_iff_not]; omega
    have d4 : decide ((server : Int) < 4) = true := by rw [decide_eq_true_eq]; omega
    have f6 := hV.nth 1 rfl
    have t6 := World.at_lt f6
    clear hV
    go_wp2_with fail
    obtain ⟨k0, hk0⟩ : ∃ k0, k0 = List.drop (server * 32) (List.take (server * 32 + 32) C) := ⟨_, rfl⟩
    have e13 : (List.drop (server * 32) (List.take (server * 32 + 32) (List.map (Value.int .u8) C))).toArray = ints .u8 k0 := by rw [hk0, ints, List.map_drop, List.map_take]
    have lk0 : k0.length = 32 := by rw [hk0, List.length_drop, List.length_take]; omega
    have bk0 : isBytes k0 := fun x hx => HCB.out x (by rw [hk0] at hx; exact List.mem_of_mem_take (List.mem_of_mem_drop hx))
    rw [e13, ← hk0]
    obtain ⟨K0, hK0⟩ : ∃ K0, K0 = chainF T (firstC C) (needC C) server xs 0 k0 := ⟨_, rfl⟩
    have hR1 : R = endF C server now xs K0 := by rw [HR.out, checkF_end (by omega) (by rw [HN.out]; omega) hC, hK0, hk0]
    have HR1 := Lib.hid hR1
    have HK0 := Lib.hid hK0
    have HBK := Lib.hid bk0
    refine named_world (A := fun X => OwB w [(V.heap.size, .cells (ints .u8 k0) 33), (b10, .cells (ints .u8 (zs 32)) 33), (b6, .cells (ints .u8 C) 38), (b5, .cells #[.pointer (some ⟨tb, 0, none⟩)] 31)] X) (Q := fun X => Code.wp _ _ _ _ X) (HV.out.allocN _ V.heap.size rfl) ?_
    intro U hU
    clear f10 t10 f6 t6 hR1 hK0 bk0 hk0 e13
    generalize V.heap.size = b13 at hU ⊢
    have HU := Lib.hid hU
    clear hU
    rw [d]
    go_loopw [14] (fun iv wy => ∃ (i : Nat) (k : List Int), i ≤ n ∧ iv = .int .i64 (i : Int) ∧ k.length = 32 ∧ Hid (isBytes k) ∧ Hid (OwB w [(b13, .cells (ints .u8 k) 33), (b10, .cells (ints .u8 (zs 32)) 33), (b6, .cells (ints .u8 C) 38), (b5, .cells #[.pointer (some ⟨tb, 0, none⟩)] 31)] wy) ∧ Hid (K0 = chainF T (firstC C) (needC C) server (xs.drop i) i k)) (fun iv _ => (n - intOf iv).toNat)
    case atStart => exact ⟨0, k0, by omega, rfl, lk0, HBK, HU, HK0⟩
    case round =>
      obtain ⟨i, k, hi9, rfl, hk, hbk, hO, hKi⟩ := hrel
      by_cases hlt : i < n
      · have hd : decide ((i : Int) < (n : Int)) = true := by rw [decide_eq_true_eq]; omega
        obtain ⟨b, off, cs, TT, fr, rfl, fc0, hs1, hs2, hext⟩ := HS.out.elem hlt
        obtain ⟨y, hyi⟩ : ∃ y, ys[i]? = some y := ⟨ys[i]'(by rw [HNY.out]; exact hlt), List.getElem?_eq_getElem _⟩
        have hoy := HX.out y (List.mem_of_getElem? hyi)
        rw [ysL, flatMap_part (fun y => (oeC y).toList) 101 ys i y (fun y hy => by rw [Array.length_toList, oeC_size (HX.out y hy)]) hyi] at hext
        obtain ⟨x, q0, m0, c0⟩ := y
        have hxi : xs[i]? = some x := by rw [HXS.out, List.getElem?_map, hyi]; rfl
        have hox : ObK x := hoy.ok
        have HOY := Lib.hid hoy
        change _ = ((oC x (.slice q0 m0 c0)).toList).toArray at hext
        have fc := hO.out.fr.get fc0 (by simp)
        obtain ⟨X, hX⟩ : ∃ X, X = oC x (.slice q0 m0 c0) := ⟨_, rfl⟩
        have hext2 : cs.extract (off + i * 101) (off + i * 101 + 101) = X := by rw [hext, hX]
        have HXE := Lib.hid hX
        have hszX : X.size = 101 := by rw [hX, List.size_toArray, cObject_length _ _ _ _ _ _ _ hox.kl hox.sl]
        have xones : ones X.toList = true := by rw [hX]; exact List.all_eq_true.2 (cObject_one _ _ _ _ _ _ _ rfl rfl rfl rfl rfl)
        have HOX := Lib.hid hox
        have HXI := Lib.hid hxi
        have g0 : cs[off + i * 101]? = some (.int .u8 x.server) := by
          have h1 : (cs.extract (off + i * 101) (off + i * 101 + 101))[0]? = some (.int .u8 x.server) := by rw [hext2, hX]; exact cObject_get_server _ _ _ _ _ _ _ hox.kl hox.sl
          rwa [Array.getElem?_extract_of_lt (by omega), ← Array.getElem?_eq_getElem] at h1
        have g1 : cs[off + i * 101 + 1]? = some (.int .u8 x.n) := by
          have h1 : (cs.extract (off + i * 101) (off + i * 101 + 101))[1]? = some (.int .u8 x.n) := by rw [hext2, hX]; exact cObject_get_n _ _ _ _ _ _ _ hox.kl hox.sl
          rwa [Array.getElem?_extract_of_lt (by omega), ← Array.getElem?_eq_getElem] at h1
        have g2 : cs.extract (off + i * 101 + 2) (off + i * 101 + 2 + 32) = ints .u8 x.key := by
          have h1 : X.extract 2 34 = ints .u8 x.key := by rw [hX]; exact cObject_ext_key _ _ _ _ _ _ _ hox.kl hox.sl
          rw [← hext2, Array.extract_extract] at h1
          rw [show off + i * 101 + 2 + 32 = min (off + i * 101 + 34) (off + i * 101 + 101) by omega]
          exact h1
        have g5 : cs.extract (off + i * 101 + 36) (off + i * 101 + 36 + 64) = ints .u8 x.sig := by
          have h1 : X.extract 36 100 = ints .u8 x.sig := by rw [hX]; exact cObject_ext_sig _ _ _ _ _ _ _ hox.kl hox.sl
          rw [← hext2, Array.extract_extract] at h1
          rw [show off + i * 101 + 36 + 64 = min (off + i * 101 + 100) (off + i * 101 + 101) by omega]
          exact h1
        replace g0 := (Array.getElem?_eq_some_iff.1 g0).2
        replace g1 := (Array.getElem?_eq_some_iff.1 g1).2
        have hs36 : off + i * 101 + 36 + 64 ≤ cs.size := by omega
        have hs34 : off + i * 101 + 2 + 32 ≤ cs.size := by omega
        clear hext hX hox hxi hoy hyi
        have hO1 := hO.out
        have tc := World.at_lt fc
        go_upto_region 7 with (fail)
        obtain ⟨U1, hU1e⟩ : ∃ U1, U1 = wr := ⟨_, rfl⟩
        rw [← hU1e] at hO1 fc tc ⊢
        have HU1 := Lib.hid hO1
        clear hO1 hU1e hO
        obtain ⟨bad, hbad⟩ : ∃ bad, bad = (decide (x.server ≠ (server : Int)) || decide (x.n ≠ (i : Int) + 1) || !verifyF T k (objText x) x.sig || decide ((vouchers T (firstC C) x).length < needC C)) := ⟨_, rfl⟩
        have hKi2 : K0 = if bad = true then none else chainF T (firstC C) (needC C) server (xs.drop (i + 1)) (i + 1) x.key := by
          have hil : i < xs.length := by rw [HN.out]; exact hlt
          rw [hKi.out, List.drop_eq_getElem_cons hil, hbad, show xs[i] = x from (List.getElem?_eq_some_iff.1 HXI.out).2]
          exact chainF_cons2
        have HKI := Lib.hid hKi2
        have HBAD := Lib.hid hbad
        clear hKi2 hbad
        go_cut [33, 34, 35, 36, 37, 38, 39, 40, 41, 42, 43, 44, 45, 46, 47, 48, 49, 50, 51, 52, 53, 54, 55, 56, 57, 58, 59, 60, 61, 62, 63, 64, 65, 66, 67, 68, 69, 70, 71, 72, 73, 74, 75, 76, 77, 78, 79] (fun _ _ _ _ _ _ _ _ _ _ _ _ _ _ _ _ _ _ _ _ _ _ _ _ _ _ _ _ _ _ _ _ _ _ _ _ _ _ _ _ _ _ _ _ _ _ v wy => v = .bool bad ∧ Hid (OwB w [(b13, .cells (ints .u8 k) 33), (b10, .cells (ints .u8 (zs 32)) 33), (b6, .cells (ints .u8 C) 38), (b5, .cells #[.pointer (some ⟨tb, 0, none⟩)] 31)] wy))
        case first =>
          have hne : Nonempty Unit := ⟨()⟩
          have w1 : IntKind.i64.wrap ((i : Int) + 1) = (i : Int) + 1 := by rw [IntKind.wrap_i64]; omega
          have w2 : IntKind.i64.wrap x.n = x.n := by have h0 := HOX.out.n0; have h1 := HOX.out.n1; rw [IntKind.wrap_i64]; omega
          by_cases hA : x.server = (server : Int)
          · have dA : (x.server != (server : Int)) = false := by simp [hA]
            by_cases hB : x.n = (i : Int) + 1
            · have dB : (x.n != (i : Int) + 1) = false := by simp [hB]
              have HA := Lib.hid hA
              have HB := Lib.hid hB
              clear hA hB
              have f13 := HU1.out.nth 0 rfl
              have f6 := HU1.out.nth 2 rfl
              have f5 := HU1.out.nth 3 rfl
              have xall : X.extract 0 101 = X := by rw [← hszX]; exact Array.extract_size
              have c1 : ∀ W : World, Calls Tryz.prog 45 #[.agg X] W fun e w' => ∃ q m c, e = .returned (.slice q m c) ∧ Bld W [] .u8 5 w' q m c (objText x) := fun W => by rw [HXE.out]; exact rotext_v HOX.out rfl
              obtain ⟨vl, hvl⟩ : ∃ vl, vl = (vouchers T (firstC C) x).length := ⟨_, rfl⟩
              have c3 : ∀ W : World, Fr [] w W → Calls Tryz.prog 51 #[SU tb, .agg (ints .u8 C), .agg X] W fun e w' => e = .returned (.int .i64 vl) ∧ Fr [] W w' := fun W F => by rw [HXE.out, hvl]; exact dvouched_v (H.out.fr0 F) hC HCB.out HOX.out (HOY.out.vs.fr0 F) HOY.out.vok HOY.out.len HOY.out.le
              rw [← hvl] at HBAD
              have C1 := Lib.hid c1
              have C3 := Lib.hid c3
              have hnd0 : 0 ≤ el C 132 ∧ el C 132 < 256 := HCB.out _ (by rw [el, List.getD_eq_getElem?_getD, List.getElem?_eq_getElem (by omega)]; simp)
              have w3 : IntKind.i64.wrap (el C 132) = (needC C : Int) := by rw [IntKind.wrap_i64]; unfold needC; omega
              have l132 : 132 < C.length := by omega
              have t13 := World.at_lt f13
              have t6 := World.at_lt f6
              have t5 := World.at_lt f5
              have HVL := Lib.hid hvl
              clear c1 c3 hnd0 hvl
              refine drawn_begin 47 (fun w' => w'.blk b = some (.cells cs TT fr) ∧ w'.blk b13 = some (.cells (ints .u8 k) 33) ∧ w'.blk b6 = some (.cells (ints .u8 C) 38) ∧ w'.blk b5 = some (.cells #[.pointer (some ⟨tb, 0, none⟩)] 31)) (by kernel_rfl) ?_
              refine drawn_reads (fuel := 17) [0, 1, 2, 3, 4, 5, 6, 7, 8, 9, 10, 11, 12, 13, 14, 15, 16, 17, 18, 19, 20, 21, 22, 23, 24, 26, 27, 28, 29, 30] rfl (by kernel_rfl) ⟨fc, f13, f6, f5⟩ ?_
              repeat (first | (refine rowK_step2 rfl rfl (fun K hK => ?_); go_wp2) | (refine rowK_step rfl (fun K hK => ?_); go_simp; refine hK _ ?_; clear hK K))
              refine rowK_nil ⟨fun w' e1 => ?_, ?_⟩
              · obtain ⟨e1, e2, e3, e4⟩ := e1
                clear fc f13 f6 f5
                repeat (first | (refine rowWp_step2 rfl rfl (fun K hK => ?_); go_wp2) | (refine rowWp_step rfl (fun K hK => ?_); go_simp; refine hK _ ?_; clear hK K))
                exact rowWp_nil rfl
              refine drawn_next 25 (fuel := 16) rfl (by kernel_rfl) ?_
              intro K hK
              go_wp2_with fail
              refine (C1.out _).mono ?_
              rintro e U2 ⟨q, m, c, rfl, hB⟩
              have hU2 := HU1.out.drew.call hB.own.fr
              clear fc f13 f6 f5 tc t13 t6 t5
              have fc := hU2.fr.get fc0 (by simp)
              have f13 := hU2.nth 0 rfl
              have f6 := hU2.nth 2 rfl
              have f5 := hU2.nth 3 rfl
              have tc := World.at_lt fc
              have t13 := World.at_lt f13
              have t6 := World.at_lt f6
              have t5 := World.at_lt f5
              have HU2 := Lib.hid hU2
              have HBt := Lib.hid hB
              clear hU2 hB
              go_wp2_with fail
              refine ⟨⟨fc, f13, f6, f5⟩, ?_⟩
              refine drawn_next 31 (fuel := 15) rfl (by kernel_rfl) ?_
              intro K hK
              go_wp2_with fail
              refine (dverify_s (H.out.fr0 HU2.out.fr) hk hbk.out HBt.out.sl (isBytes_objK HOX.out) HOX.out.sl HOX.out.sb).mono ?_
              rintro e U3 ⟨rfl, F3⟩
              have hU3 := HU2.out.call F3
              clear fc f13 f6 f5 tc t13 t6 t5 F3
              have fc := hU3.fr.get fc0 (by simp)
              have f13 := hU3.nth 0 rfl
              have f6 := hU3.nth 2 rfl
              have f5 := hU3.nth 3 rfl
              have tc := World.at_lt fc
              have t13 := World.at_lt f13
              have t6 := World.at_lt f6
              have t5 := World.at_lt f5
              have HU3 := Lib.hid hU3
              clear hU3
              have hb : bad = (!verifyF T k (objText x) x.sig || decide (vl < needC C)) := by rw [HBAD.out]; simp [HA.out, HB.out]
              generalize verifyF T k (objText x) x.sig = vb at hb ⊢
              have HBB := Lib.hid hb
              clear hb
              go_wp2_with fail
              refine ⟨⟨fc, f13, f6, f5⟩, ?_⟩
              cases vb with
              | false =>
                refine drawn_reads (fuel := 0) [32, 33, 34, 35, 36, 37, 38, 39, 40, 41, 42, 43, 44, 45, 46] rfl (by kernel_rfl) ⟨fc, f13, f6, f5⟩ ?_
                repeat (first | (refine rowK_step2 rfl rfl (fun K hK => ?_); go_wp2) | (refine rowK_step rfl (fun K hK => ?_); go_simp; refine hK _ ?_; clear hK K))
                refine rowK_nil ⟨fun w' e1 => ?_, ?_⟩
                · obtain ⟨e1, e2, e3, e4⟩ := e1
                  clear fc f13 f6 f5
                  repeat (first | (refine rowWp_step2 rfl rfl (fun K hK => ?_); go_wp2) | (refine rowWp_step rfl (fun K hK => ?_); go_simp; refine hK _ ?_; clear hK K))
                  exact rowWp_nil rfl
                refine drawn_end (ol := []) rfl (by kernel_rfl) ?_
                intro K hK
                go_wp2_with fail
                go_meet
                case rel => exact ⟨by rw [HBB.out]; rfl, HU3⟩
              | true =>
                refine drawn_reads (fuel := 3) [32, 33, 34, 35, 36, 37, 38, 39, 40, 42, 43, 44] rfl (by kernel_rfl) ⟨fc, f13, f6, f5⟩ ?_
                repeat (first | (refine rowK_step2 rfl rfl (fun K hK => ?_); go_wp2) | (refine rowK_step rfl (fun K hK => ?_); go_simp; refine hK _ ?_; clear hK K))
                refine rowK_nil ⟨fun w' e1 => ?_, ?_⟩
                · obtain ⟨e1, e2, e3, e4⟩ := e1
                  clear fc f13 f6 f5
                  repeat (first | (refine rowWp_step2 rfl rfl (fun K hK => ?_); go_wp2) | (refine rowWp_step rfl (fun K hK => ?_); go_simp; refine hK _ ?_; clear hK K))
                  exact rowWp_nil rfl
                refine drawn_next 41 (fuel := 2) rfl (by kernel_rfl) ?_
                intro K hK
                go_wp2_with fail
                refine (C3.out _ HU3.out.fr).mono ?_
                rintro e U4 ⟨rfl, F4⟩
                have hU4 := HU3.out.call F4
                clear fc f13 f6 f5 tc t13 t6 t5 F4
                have fc := hU4.fr.get fc0 (by simp)
                have f13 := hU4.nth 0 rfl
                have f6 := hU4.nth 2 rfl
                have f5 := hU4.nth 3 rfl
                have tc := World.at_lt fc
                have HU4 := Lib.hid hU4
                clear hU4
                have HBB2 : Hid (bad = decide (vl < needC C)) := Lib.hid (by rw [HBB.out]; simp)
                go_wp2_with fail
                refine ⟨⟨fc, f13, f6, f5⟩, ?_⟩
                refine drawn_reads (fuel := 0) [45, 46] rfl (by kernel_rfl) ⟨fc, f13, f6, f5⟩ ?_
                repeat (first | (refine rowK_step2 rfl rfl (fun K hK => ?_); go_wp2) | (refine rowK_step rfl (fun K hK => ?_); go_simp; refine hK _ ?_; clear hK K))
                refine rowK_nil ⟨fun w' e1 => ?_, ?_⟩
                · repeat (first | (refine rowWp_step2 rfl rfl (fun K hK => ?_); go_wp2) | (refine rowWp_step rfl (fun K hK => ?_); go_simp; refine hK _ ?_; clear hK K))
                  exact rowWp_nil rfl
                refine drawn_end (ol := []) rfl (by kernel_rfl) ?_
                intro K hK
                go_wp2_with fail
                go_meet
                case rel => exact ⟨by rw [HBB2.out], HU4⟩
            · have dB : (x.n != (i : Int) + 1) = true := by simp [hB]
              have hb : bad = true := by rw [HBAD.out]; simp [hB]
              have HB := Lib.hid hb
              clear hA hB hb
              refine wp_region_quiet_all (C := fun w' => ∃ _ : Unit, w' = U1.drew) (by kernel_rfl) (by kernel_rfl) ⟨(), rfl⟩ ?_
              repeat (go_big_quiet_step (fail))
              refine wpQuiet_nil ?_
              intro _ hw'
              obtain ⟨_, rfl⟩ := hw'
              go_wp2_with fail
              go_meet
              case rel => exact ⟨by rw [HB.out], Lib.hid HU1.out.drew⟩
          · have dA : (x.server != (server : Int)) = true := by simp [hA]
            have hb : bad = true := by rw [HBAD.out]; simp [hA]
            have HB := Lib.hid hb
            clear hA hb
            refine wp_region_quiet_all (C := fun w' => ∃ _ : Unit, w' = U1.drew) (by kernel_rfl) (by kernel_rfl) ⟨(), rfl⟩ ?_
            repeat (go_big_quiet_step (fail))
            refine wpQuiet_nil ?_
            intro _ hw'
            obtain ⟨_, rfl⟩ := hw'
            go_wp2_with fail
            go_meet
            case rel => exact ⟨by rw [HB.out], Lib.hid HU1.out.drew⟩
        case rest =>
          obtain ⟨rfl, hO2⟩ := hcut
          have f13 := hO2.out.nth 0 rfl
          have f10 := hO2.out.nth 1 rfl
          have fc := hO2.out.fr.get fc0 (by simp)
          have t13 := World.at_lt f13
          have t10 := World.at_lt f10
          have tc := World.at_lt fc
          cases bad with
          | true =>
            have hr0 : R = (Kd.zeros 32, 0, 200) := by rw [HR1.out, HKI.out]; rfl
            have HR0 := Lib.hid hr0
            have F := Lib.hid (hO2.out.fr.put b10 (.cells (ints .u8 (Kd.zeros 32)) 33) (fun h => by omega))
            clear hr0
            go_wp2_with fail
            refine ret_cell_tmp2 rfl rfl rfl ?_
            go_simp
            rw [HR0.out]
            exact ⟨by kernel_rfl, ⟨rfl, rfl, rfl⟩, F.out⟩
          | false =>
            have lk := HOX.out.kl
            go_wp2_with fail
            go_roundw
            case rel =>
              refine ⟨i + 1, x.key, by omega, by simp, HOX.out.kl, Lib.hid HOX.out.kb, Lib.hid ?_, Lib.hid (by rw [HKI.out]; rfl)⟩
              exact hO2.out.set 0 _ rfl
            case measure => simp [intOf]; omega
      · obtain rfl : i = n := by omega
        have hd : decide ((i : Int) < (i : Int)) = false := by simp
        have hK1 : K0 = some k := by rw [hKi.out, List.drop_eq_nil_of_le (by rw [HN.out]; exact Nat.le_refl _)]; rfl
        have HK1 := Lib.hid hK1
        have f6 := hO.out.nth 2 rfl
        have f10 := hO.out.nth 1 rfl
        have f13 := hO.out.nth 0 rfl
        have t6 := World.at_lt f6
        have t10 := World.at_lt f10
        have t13 := World.at_lt f13
        have hh := HCB.out (el C (128 + server)) (by rw [el, List.getD_eq_getElem?_getD, List.getElem?_eq_getElem (by omega)]; simp)
        have lC : 128 + server < C.length := by omega
        have hs5 : server < 5 := by omega
        have hs6 : 128 + server < 133 := by omega
        obtain ⟨hi, hhi⟩ : ∃ hi, hi = el C (128 + server) := ⟨_, rfl⟩
        have w5 : IntKind.i64.wrap hi = hi := by rw [IntKind.wrap_i64]; omega
        have HHI := Lib.hid hhi
        rw [hhi] at w5
        clear hK1 hh hhi
        by_cases hlow : (i : Int) < el C (128 + server)
        · have dl : decide ((i : Int) < el C (128 + server)) = true := by rw [decide_eq_true_eq]; exact hlow
          have hr0 : R = (Kd.zeros 32, 0, 210) := by rw [HR1.out, HK1.out]; exact endF_low (by rw [HN.out]; exact hlow)
          have HR0 := Lib.hid hr0
          have F := Lib.hid (hO.out.fr.put b10 (.cells (ints .u8 (Kd.zeros 32)) 33) (fun h => by omega))
          clear hr0
          go_wp2_with fail
          refine ret_cell_tmp2 rfl rfl rfl ?_
          go_simp
          rw [HR0.out]
          exact ⟨by kernel_rfl, ⟨rfl, rfl, rfl⟩, F.out⟩
        · have dl : decide ((i : Int) < el C (128 + server)) = false := by rw [decide_eq_false_iff_not]; exact hlow
          have hlow2 : ¬ (xs.length : Int) < el C (128 + server) := by rw [HN.out]; exact hlow
          have w6 : IntKind.u8.wrap (i : Int) = (i : Int) := by rw [IntKind.wrap_u8]; omega
          cases hlast : xs.getLast? with
          | none =>
            have hr0 : R = (k, (i : Int), 0) := by rw [HR1.out, HK1.out, endF_none hlow2 hlast, HN.out]
            have HR0 := Lib.hid hr0
            have hi0 : i = 0 := by
              rw [List.getLast?_eq_none_iff] at hlast
              have h2 := HN.out
              rw [hlast] at h2
              simpa using h2.symm
            have di : decide ((i : Int) > 0) = false := by rw [hi0]; rfl
            have di2 : decide (0 < (i : Int)) = false := by rw [hi0]; rfl
            have di3 : decide (0 < i) = false := by rw [hi0]; rfl
            clear hi0
            have F := Lib.hid (hO.out.fr.put b10 (.cells (ints .u8 k) 33) (fun h => by omega))
            clear hr0 hlow2 hlast hlow
            go_wp2_with fail
            refine ret_cell_tmp2 rfl rfl rfl ?_
            go_simp
            rw [HR0.out]
            exact ⟨by kernel_rfl, ⟨rfl, rfl, rfl⟩, F.out⟩
          | some x =>
            have hr1 := endF_some (k := k) (now := now) hlow2 hlast
            rw [← HK1.out, ← HR1.out, HN.out] at hr1
            have HRR := Lib.hid hr1
            obtain ⟨j, hj⟩ : ∃ j, i = j + 1 := by
              refine ⟨i - 1, ?_⟩
              have : xs ≠ [] := fun e => by rw [e] at hlast; cases hlast
              have := List.length_pos_iff.2 this
              have h2 := HN.out
              omega
            have hxj : xs[j]? = some x := by
              rw [List.getLast?_eq_getElem?] at hlast
              rw [HN.out, hj] at hlast
              exact hlast
            obtain ⟨y, hyj, hyx⟩ : ∃ y, ys[j]? = some y ∧ y.x = x := by
              rw [HXS.out, List.getElem?_map] at hxj
              cases hy : ys[j]? with
              | none => rw [hy] at hxj; cases hxj
              | some y => rw [hy] at hxj; exact ⟨y, rfl, Option.some.inj hxj⟩
            have hoy := HX.out y (List.mem_of_getElem? hyj)
            have hox := hoy.ok
            obtain ⟨b, off, cs, TT, fr, rfl, fc0, hs1, hs2, hext⟩ := HS.out.elem (j := j) (by omega)
            rw [ysL, flatMap_part (fun y => (oeC y).toList) 101 ys j y (fun y hy => by rw [Array.length_toList, oeC_size (HX.out y hy)]) hyj] at hext
            subst hyx
            have fc := hO.out.fr.get fc0 (by simp)
            have g3 : cs[off + j * 101 + 34]? = some (.int .u32 y.x.frm) := by
              have h1 : (cs.extract (off + j * 101) (off + j * 101 + 101))[34]? = some (.int .u32 y.x.frm) := by rw [hext]; exact cObject_get_frm _ _ _ _ _ _ _ hox.kl hox.sl
              rwa [Array.getElem?_extract_of_lt (by omega), ← Array.getElem?_eq_getElem] at h1
            have g4 : cs[off + j * 101 + 35]? = some (.int .u32 y.x.til) := by
              have h1 : (cs.extract (off + j * 101) (off + j * 101 + 101))[35]? = some (.int .u32 y.x.til) := by rw [hext]; exact cObject_get_til _ _ _ _ _ _ _ hox.kl hox.sl
              rwa [Array.getElem?_extract_of_lt (by omega), ← Array.getElem?_eq_getElem] at h1
            have g3' := (Array.getElem?_eq_some_iff.1 g3).2
            have g4' := (Array.getElem?_eq_some_iff.1 g4).2
            have hi0 : decide ((i : Int) > 0) = true := by rw [decide_eq_true_eq]; omega
            have w7 : IntKind.i64.wrap ((i : Int) - 1) = (j : Int) := by rw [IntKind.wrap_i64]; omega
            have dj : decide ((j : Int) < (i : Int)) = true := by rw [decide_eq_true_eq]; omega
            have hji : j < i := by omega
            have HJ := Lib.hid hj
            have F := Lib.hid (hO.out.fr.put b10 (.cells (ints .u8 k) 33) (fun h => by omega))
            have F2 := Lib.hid (hO.out.fr.put b10 (.cells (ints .u8 (Kd.zeros 32)) 33) (fun h => by omega))
            clear hr1 hlow2 hlast hlow hj hxj hox hext fc0 hoy hyj
            by_cases hw1 : (now : Int) < y.x.frm
            · have dw : decide ((now : Int) < y.x.frm) = true := by rw [decide_eq_true_eq]; exact hw1
              have hr0 : R = (Kd.zeros 32, 0, 201) := by rw [HRR.out, if_pos (Or.inl hw1)]
              have HR0 := Lib.hid hr0
              clear hr0 hw1
              go_wp2_with fail
              refine ret_cell_tmp2 rfl rfl rfl ?_
              go_simp
              rw [HR0.out]
              exact ⟨by kernel_rfl, ⟨rfl, rfl, rfl⟩, F2.out⟩
            · have dw : decide ((now : Int) < y.x.frm) = false := by rw [decide_eq_false_iff_not]; exact hw1
              by_cases hw2 : y.x.til ≤ (now : Int)
              · have dw2 : decide ((now : Int) ≥ y.x.til) = true := by rw [decide_eq_true_eq]; exact hw2
                have dw3 : decide (y.x.til ≤ (now : Int)) = true := by rw [decide_eq_true_eq]; exact hw2
                have hr0 : R = (Kd.zeros 32, 0, 201) := by rw [HRR.out, if_pos (Or.inr hw2)]
                have HR0 := Lib.hid hr0
                clear hr0 hw1 hw2
                go_wp2_with fail
                refine ret_cell_tmp2 rfl rfl rfl ?_
                go_simp
                rw [HR0.out]
                exact ⟨by kernel_rfl, ⟨rfl, rfl, rfl⟩, F2.out⟩
              · have dw2 : decide ((now : Int) ≥ y.x.til) = false := by rw [decide_eq_false_iff_not]; exact hw2
                have dw3 : decide (y.x.til ≤ (now : Int)) = false := by rw [decide_eq_false_iff_not]; exact hw2
                have hr0 : R = (k, (i : Int), 0) := by rw [HRR.out, if_neg (by omega)]
                have HR0 := Lib.hid hr0
                clear hr0 hw1 hw2
                go_wp2_with fail
                refine ret_cell_tmp2 rfl rfl rfl ?_
                go_simp
                rw [HR0.out]
                exact ⟨by kernel_rfl, ⟨rfl, rfl, rfl⟩, F.out⟩
end
end Go.Proofs.YtbhnfohoclcjdaaGreat
namespace Go.Proofs.YtbhnfohoclcjdaaGreat
open Go.RowKit Go.Dr Go.Kd
theorem info49 : (Tryz.prog.info? 63).map (fun i => (i.zero, i.size, i.bytes)) = some (some (.int .u16 0), 1, 2) := by kernel_rfl
section
variable {w0 w : World} {L : List (Nat × Obj)} {p : Option Addr} {n cap : Nat} {vs : List Value} {ops : Array Oper} {rest : List Oper} {o : Oper} {a : Act} {Q : Exit → Act → World → Prop}
/-- []api.Bundle: append of a slice, told with what it leaves alone. -/
theorem wpList_app60F (hgd : o.guard = none) (s x : Operand) (ho : o.op = .call { callee := .builtin .append, args := #[s, x], argTypes := #[66, 66] })
    (hs : a.eval s = .slice p n cap) (B : BldV w0 L 65 162 w p n cap vs) {q : Option Addr} {m c : Nat} {us : List Value} (hx : a.eval x = .slice q m c) (S : Sv 162 w q m c us) (h1 : ∀ u ∈ us, u.oneCell' = true) (hbig : n + m ≤ 1000000)
    (h : ∀ p' cap' w', BldV w0 L 65 162 w' p' (n + m) cap' (vs ++ us) → Fr (p.map (·.block)).toList w w' → wpList Tryz.prog ops Q rest (a.put o.dst (.slice p' (n + m) cap')) w') : wpList Tryz.prog ops Q (o :: rest) a w := by
  obtain ⟨i, z, hi, hz, hzs, hs1, hb1⟩ := info59_parts
  exact wpList_apdV2 hgd s x 66 66 ho Tryz.underlying66 hi hz hs1 (by omega) hb1 hzs hs B hx (Apd.ofSrc Tryz.underlying66 hi hz (by rw [hs1]; exact S.src Tryz.underlying66 h1)) (by omega) (by omega) fun p' cap' w' B' _ F => h p' cap' w' B' F
end
set_option maxRecDepth 100000 in
theorem bun_built2 {d : Nat} {a b c : List Int} {i : Int} (ha : a.length = 32) (hb : b.length = 32) (hc : c.length = 32) :
    spl ((spl (spl (Tryz.zeroCells65.setIfInBounds 0 (.int .u8 (d : Int))) 1 (a.map (Value.int .u8))) 33 (b.map (Value.int .u8))).setIfInBounds 65 (.int .u16 i)) 66 (c.map (Value.int .u8)) = bnC ⟨d, a, b, i, c, zs 64⟩ := by
  have hz : Tryz.zeroCells65 = (cBundle (.int .u8 0) (zs 32) (zs 32) (.int .u16 0) (zs 32) (zs 64)).toArray := by kernel_rfl
  have l0 : (zs 32).length = 32 := rfl
  have l6 : (zs 64).length = 64 := rfl
  rw [hz, cBundle_set_device _ _ _ _ _ _ _ l0 l0 l0 l6, cBundle_spl_agree _ _ _ _ _ _ _ l0 l0 l0 l6 ha, cBundle_spl_signer _ _ _ _ _ _ _ ha l0 l0 l6 hb, cBundle_set_id _ _ _ _ _ _ _ ha hb l0 l6, cBundle_spl_once _ _ _ _ _ _ _ ha hb l0 l6 hc]
theorem byt_zs (n : Nat) : isBytes (zs n) := fun v hv => by
  have := List.eq_of_mem_replicate hv
  omega
/-- Blocks of other types are written. -/
theorem Tab.writ {t : TTy} {lo tb : Nat} {w w' : World} {T : List Tm} (h : Tab t lo tb w T) {fp : List Nat} (F : Fr fp w w') (hfp : ∀ b ∈ fp, ∃ cs T' fr, w.blk b = some (.cells cs T' fr) ∧ T' ≠ t.bT ∧ T' ≠ t.sT ∧ T' ≠ t.tT ∧ T' ≠ t.lT) : Tab t lo tb w' T := by
  obtain ⟨w0, mb, p, cap, vs, es, clock, h0, B, k1, k2, k3, k4, k5, k6⟩ := h.ex
  have n1 : tb ∉ fp := fun hm => by
    obtain ⟨cs, T', fr, hb, _, _, h3, _⟩ := hfp tb hm
    have := B.own.nth 0 rfl
    rw [hb] at this
    simp only [Option.some.injEq, Obj.cells.injEq] at this
    exact h3 this.2.1
  have n2 : mb ∉ fp := fun hm => by
    obtain ⟨cs, T', fr, hb, _⟩ := hfp mb hm
    have := B.own.nth 1 rfl
    rw [hb] at this
    simp at this
  have n3 : ∀ g, p.map (·.block) = some g → g ∉ fp := fun g hg hm => by
    obtain ⟨cs, T', fr, hb, _, _, _, h4⟩ := hfp g hm
    obtain ⟨cs2, fr2, hb2⟩ := B.block hg
    rw [hb] at hb2
    simp only [Option.some.injEq, Obj.cells.injEq] at hb2
    exact h4 hb2.2.1
  have hstay : Stay t w w' := fun k cs T2 fr2 h3 h4 => F.get h3 fun hm => by
    obtain ⟨cs', T', fr', hb, h5, h6, _⟩ := hfp k hm
    rw [h3] at hb
    simp only [Option.some.injEq, Obj.cells.injEq] at hb
    rcases h4 with h4 | h4
    · exact h5 (hb.2.1.symm.trans h4)
    · exact h6 (hb.2.1.symm.trans h4)
  refine ⟨⟨w0, mb, p, cap, vs, es, clock, h0, ⟨⟨fun q hq => ?_, B.own.nd, B.own.lo, B.own.fr.seq F (fun b _ hlt => by omega)⟩, ?_, B.new⟩, k1, k2, k3, k4, k5, fun i u hu => ?_⟩, h.good, h.len⟩
  · refine F.get (B.own.has q hq) ?_
    simp only [List.mem_cons, List.not_mem_nil, or_false] at hq
    rcases hq with rfl | rfl
    · exact n1
    · exact n2
  · exact F.owns B.row (fun g hg hgb => n3 g (by cases p with | none => cases hg | some q => simpa [Value.ownBlock] using hg) hgb)
  · obtain ⟨a, q, m, c, q2, m2, c2, d, e, f⟩ := k6 i u hu
    exact ⟨a, q, m, c, q2, m2, c2, d, e, f.step hstay⟩
/-- A row of the caller's own grows. -/
theorem Tab.grown {lo tb : Nat} {w w' w0 : World} {T : List Tm} {L : List (Nat × Obj)} {e sz : Nat} {p : Option Addr} {n c : Nat} {vs : List Value} (h : TabP lo tb w T) (B : BldV w0 L e sz w p n c vs) (F : Fr (p.map (·.block)).toList w w') (he : e ≠ 5 ∧ e ≠ 49 ∧ e ≠ 138 ∧ e ≠ 200) : TabP lo tb w' T :=
  Tab.writ h F fun b hb => by
    obtain ⟨cs, fr, h1⟩ := B.block (Option.mem_toList.1 hb)
    exact ⟨cs, e, fr, h1, he⟩
/-- Cells written one by one. -/
def setsF : Array Value → Nat → List Value → Array Value
  | A, _, [] => A
  | A, o, v :: l => setsF (A.setIfInBounds o v) (o + 1) l
theorem spl_set {A : Array Value} {o : Nat} {v : Value} {l : List Value} (h : o + 1 + l.length ≤ A.size) : spl A o (v :: l) = spl (A.setIfInBounds o v) (o + 1) l := by
  apply Array.ext'
  simp only [spl, Array.toList_append, Array.toList_extract, Array.toList_setIfInBounds, List.extract_eq_take_drop, List.drop_zero, Nat.sub_zero, List.length_cons, Array.size_setIfInBounds]
  have hA : o < A.toList.length := by simp; omega
  rw [show o + (l.length + 1) = o + 1 + l.length by omega, List.set_eq_take_append_cons_drop, if_pos hA]
  have hlt : (A.toList.take o).length = o := by rw [List.length_take]; omega
  rw [List.take_append, hlt, List.drop_append, hlt, List.take_of_length_le (l := A.toList.take o) (by omega), show o + 1 - o = 1 by omega, show o + 1 + l.length - o = l.length + 1 by omega]
  have e : List.drop (o + 1 + l.length) (A.toList.take o) = [] := List.drop_eq_nil_of_le (by omega)
  rw [e, List.nil_append, List.drop_succ_cons, List.drop_drop]
  simp
theorem setsF_spl : ∀ (l : List Value) (A : Array Value) (o : Nat), o + l.length ≤ A.size → setsF A o l = spl A o l
  | [], A, o, _ => by
    apply Array.ext'
    simp only [setsF, spl, Array.toList_append, Array.toList_extract, List.extract_eq_take_drop, List.length_nil, Nat.add_zero, List.drop_zero, Nat.sub_zero, List.append_nil]
    rw [List.take_of_length_le (l := A.toList.drop o) (by simp), List.take_append_drop]
  | v :: l, A, o, h => by
    simp only [List.length_cons] at h
    rw [setsF, setsF_spl l _ _ (by simp; omega), spl_set (by omega)]
set_option maxRecDepth 100000 in
theorem bun_built3 {d : Nat} {a b : List Int} {i : Int} (ha : a.length = 32) (hb : b.length = 32) (k : Int) :
    setsF ((spl (spl (Tryz.zeroCells65.setIfInBounds 0 (.int .u8 (d : Int))) 1 (a.map (Value.int .u8))) 33 (b.map (Value.int .u8))).setIfInBounds 65 (.int .u16 i)) 66 ((key1 k).map (Value.int .u8)) = bnC ⟨d, a, b, i, key1 k, zs 64⟩ := by
  rw [setsF_spl, bun_built2 ha hb rfl]
  have hz : Tryz.zeroCells65 = (cBundle (.int .u8 0) (zs 32) (zs 32) (.int .u16 0) (zs 32) (zs 64)).toArray := by kernel_rfl
  have l0 : (zs 32).length = 32 := rfl
  have l6 : (zs 64).length = 64 := rfl
  rw [hz, cBundle_set_device _ _ _ _ _ _ _ l0 l0 l0 l6, cBundle_spl_agree _ _ _ _ _ _ _ l0 l0 l0 l6 ha, cBundle_spl_signer _ _ _ _ _ _ _ ha l0 l0 l6 hb, cBundle_set_id _ _ _ _ _ _ _ ha hb l0 l6, List.size_toArray, cBundle_length _ _ _ _ _ _ ha hb l0 l6]
  have : (List.map (Value.int .u8) (key1 k)).length = 32 := rfl
  omega
section
variable {w0 w X W : World} {L : List (Nat × Obj)} {e sz : Nat} {q : Option Addr} {n c : Nat} {vs : List Value}
/-- A row that a callee has made beside a table. -/
theorem bld_here (hO : OwB w0 L X) (hO' : OwB w0 L W) (B : BldV W.void [] e sz W q n c vs) (hn : ∀ g, q.map (·.block) = some g → X.heap.size ≤ g) : BldV w0 L e sz W q n c vs :=
  ⟨hO', B.row, fun g hg => ⟨Nat.le_trans hO.fr.size (hn g hg), fun hm => by
    obtain ⟨x, hx, rfl⟩ := List.mem_map.1 hm
    have h1 := World.at_lt (hO.has x hx)
    have h2 := hn x.1 hg
    omega⟩⟩
theorem Parked.kept {N : List (Nat × Obj)} (h : Parked N 65 162 q n c vs) : Kept q n c vs N := by
  rcases h with ⟨rfl, rfl, rfl, rfl, rfl⟩ | ⟨g, r, rfl, rfl, hl, hc, hn, hm⟩
  · exact Kept.nil
  · refine ⟨fun x hx => ?_, fun w2 hw2 => .inr ⟨_, rfl, hl, hn, .inr ⟨g, 0, _, 65, _, rfl, hw2.nth 0 rfl, ?_, ?_⟩, by simp, fun a ha => ⟨g, 0, by simpa using ha.symm⟩⟩⟩
    · simp only [List.mem_singleton] at hx
      subst hx
      exact ⟨_, _, rfl⟩
    · rw [size_rowV, ← hl]; omega
    · rw [Nat.zero_add, ← hl, rowV]
      simp
theorem BldV.newroom (h : BldV w0 L e sz w q n c vs) (o : Obj) : BldV w0 ((w.heap.size, o) :: L) e sz (w.alloc o) q n c vs :=
  h.add ((Fr.refl [] w).alloc _) (World.at_alloc_new _ _ _ rfl) (Nat.le_refl _)
end
section
variable {w0 w : World} {A B C D : List (Nat × Obj)} {b : Nat} {o : Obj}
theorem own_set4 (h : OwB w0 (A ++ (B ++ (C ++ ((b, o) :: D)))) w) (o' : Obj) : OwB w0 (A ++ (B ++ (C ++ ((b, o') :: D)))) (w.put b o') := by
  have h2 : OwB w0 ((A ++ (B ++ C)) ++ ((b, o) :: D)) w := by simpa [List.append_assoc] using h
  simpa [List.append_assoc] using h2.set_mid o'
theorem own_front (h : OwB w0 (A ++ (B ++ C)) w) : OwB w0 (B ++ (A ++ C)) w := h.perm (List.perm_append_comm_assoc A B C)
end
/-- What stands between the batches. -/
structure OnceS (w : World) (lo tb : Nat) (L4 : List (Nat × Obj)) (b9 : Nat) (X : World) (p10 : Option Addr) (n10 c10 : Nat) (p11 : Option Addr) (n11 c11 : Nat) (S C : List Int) (hs : Bool) (fall : List Value) (p : Option Addr) (m cap : Nat) (last : Int) (ls : List Bn) (Ns Nc M : List (Nat × Obj)) (T : List Tm) : Prop where
  own : OwB w (M ++ (Ns ++ (Nc ++ ((b9, .cells (cShelf (.bool hs) fall (.slice p m cap) (.int .u16 last)).toArray 68) :: L4)))) X
  ks : Parked Ns 63 1 p10 n10 c10 (S.map (Value.int .u16))
  kc : Parked Nc 63 1 p11 n11 c11 (C.map (Value.int .u16))
  kl : Kept p m cap (bnsL ls) M
  tab : TabP lo tb X T
  inv : InvK S C ls last
  ml : ls.length = m
  sl : S.length = n10
  cl : C.length = n11
  fl : fall.length = 162
  fo : ∀ v ∈ fall, v.oneCell' = true
  f0 : hs = true → fall[65]? = some (.int .u16 0)
def OnceE (w : World) (lo tb : Nat) (L4 : List (Nat × Obj)) (b9 i : Nat) (X : World) (p10 : Option Addr) (n10 c10 : Nat) (p11 : Option Addr) (n11 c11 : Nat) : Prop :=
  ∃ S C hs fall p m cap last ls Ns Nc M T, S.length ≤ 10 * i ∧ OnceS w lo tb L4 b9 X p10 n10 c10 p11 n11 c11 S C hs fall p m cap last ls Ns Nc M T
theorem OnceS.oth {w X : World} {lo tb : Nat} {L4 : List (Nat × Obj)} {b9 : Nat} {p10 : Option Addr} {n10 c10 : Nat} {p11 : Option Addr} {n11 c11 : Nat} {S C : List Int} {hs : Bool} {fall : List Value} {p : Option Addr} {m cap : Nat} {last : Int} {ls : List Bn} {Ns Nc M : List (Nat × Obj)} {T : List Tm}
    (h : OnceS w lo tb L4 b9 X p10 n10 c10 p11 n11 c11 S C hs fall p m cap last ls Ns Nc M T) (h4 : ∀ q ∈ L4, other TT q.2) : ∀ q ∈ M ++ (Ns ++ (Nc ++ ((b9, .cells (cShelf (.bool hs) fall (.slice p m cap) (.int .u16 last)).toArray 68) :: L4))), q.1 < lo ∨ other TT q.2 := fun q hq => by
  rcases List.mem_append.1 hq with hq | hq
  · obtain ⟨cs, fr, e⟩ := h.kl.1 q hq
    rw [e]
    exact .inr ⟨by decide, by decide⟩
  rcases List.mem_append.1 hq with hq | hq
  · exact .inr (Parked.other h.ks ⟨by decide, by decide⟩ q hq)
  rcases List.mem_append.1 hq with hq | hq
  · exact .inr (Parked.other h.kc ⟨by decide, by decide⟩ q hq)
  rcases List.mem_cons.1 hq with rfl | hq
  · exact .inr ⟨by decide, by decide⟩
  · exact .inr (h4 q hq)
theorem bnsL_snoc (x y : Bn) (l : List Bn) : bnsL (x :: (l ++ [y])) = bnsL (x :: l) ++ (bnC y).toList := by
  rw [← List.cons_append, bnsL_append]
  congr 1
  simp [bnsL]
/-- A batch that grows. -/
def BatchE (w : World) (lo tb : Nat) (LL : List (Nat × Obj)) (X : World) (q : Option Addr) (n c : Nat) : Prop :=
  ∃ x l T, BldV w LL 65 162 X q n c (bnsL (x :: l)) ∧ BnOk x ∧ x.id = 0 ∧ (∀ y ∈ l, BnOk y) ∧ l.length + 1 = n ∧ TabP lo tb X T
end Go.Proofs.YtbhnfohoclcjdaaGreat
namespace Go.Proofs.YtbhnfohoclcjdaaGreat
open Go.RowKit Go.Dr Go.Kd
/-- A row of vouches that is old, or in a block of its own type. -/
structure VrL (m : Nat) (w : World) (p : Option Addr) (n c : Nat) (vs : List Value) : Prop where
  lg : Lw 65 w p n c vs
  ty : 0 < n → ∀ g, p.map (·.block) = some g → g < m ∨ ∃ cs fr, w.blk g = some (.cells cs 105 fr)
section
variable {t : TTy} {m lo : Nat} {w w' : World} {p : Option Addr} {n c : Nat} {vs : List Value}
theorem VrL.keep (h : VrL m w p n c vs) (k : ∀ g o, w.blk g = some o → (g < m ∨ ∃ cs fr, o = .cells cs 105 fr) → w'.blk g = some o) : VrL m w' p n c vs := by
  have k2 : 0 < n → ∀ g o, p.map (·.block) = some g → w.blk g = some o → w'.blk g = some o := fun hn g o hg ho => by
    refine k g o ho ?_
    rcases h.ty hn g hg with h1 | ⟨cs, fr, e⟩
    · exact .inl h1
    · rw [ho] at e
      cases e
      exact .inr ⟨cs, fr, rfl⟩
  refine ⟨?_, fun hn g hg => ?_⟩
  · rcases h.lg with (h1 | ⟨a, rfl, S⟩) | h1
    · exact .inl (.inl h1)
    · rcases Nat.eq_zero_or_pos n with h0 | h0
      · subst h0
        exact .inl (.inr ⟨a, rfl, S.len, S.cap_, .inl rfl, S.nil, S.mid⟩)
      · exact .inl (.inr ⟨a, rfl, Sv.keep S (k2 h0)⟩)
    · exact .inr h1
  · rcases h.ty hn g hg with h1 | ⟨cs, fr, e⟩
    · exact .inl h1
    · exact .inr ⟨cs, fr, k2 hn g _ hg e⟩
theorem VrL.fr0 (h : VrL m w p n c vs) (F : Fr [] w w') : VrL m w' p n c vs := h.keep fun g o e _ => F.get e (by simp)
theorem VrL.frT (h : VrL m w p n c vs) (F : FrT t lo w w') (hm : m ≤ lo) (h1 : (105 : TypeId) ≠ t.tT ∧ (105 : TypeId) ≠ t.lT) : VrL m w' p n c vs := h.keep fun g o e hc => F.get e (by
  rcases hc with hc | ⟨cs, fr, rfl⟩
  · exact .inl (by omega)
  · exact .inr h1)
theorem VrL.writ (h : VrL m w p n c vs) {fp : List Nat} (F : Fr fp w w') (hfp : ∀ b ∈ fp, m ≤ b ∧ ∃ cs fr, w.blk b = some (.cells cs 48 fr)) : VrL m w' p n c vs := h.keep fun g o e hc => F.get e fun hm => by
  obtain ⟨h1, cs, fr, h2⟩ := hfp g hm
  rw [h2] at e
  cases e
  rcases hc with hc | ⟨cs2, fr2, e2⟩
  · omega
  · cases e2
theorem VrL.ofVr (h : Vr w p n c vs) : VrL m w p n c vs := ⟨h.lg.lw, fun _ g hg => .inr (h.ty g hg)⟩
theorem VrL.old (h : Lw 65 w p n c vs) : VrL w.heap.size w p n c vs := ⟨h, fun hn g hg => by
  rcases (h.sv hn).row with h0 | ⟨b, off, cs, T, fr, rfl, hb, _⟩
  · omega
  · simp only [Option.map_some, Option.some.injEq] at hg
    subst hg
    exact .inl (World.at_lt hb)⟩
end
structure EOk (m : Nat) (w : World) (y : Oe) : Prop where
  ok : ObK y.x
  vs : VrL m w y.p y.n y.c (vsL y.x.vs)
  vok : ∀ v ∈ y.x.vs, VcOk v
  len : y.x.vs.length = y.n
  le : y.n ≤ 1000
theorem EOk.oe {m : Nat} {w : World} {y : Oe} (h : EOk m w y) : OeOk w y := ⟨h.ok, h.vs.lg, h.vok, h.len, Nat.le_trans h.le (by decide)⟩
theorem EOk.with {m : Nat} {w w' : World} {y : Oe} (h : EOk m w y) (k : VrL m w' y.p y.n y.c (vsL y.x.vs)) : EOk m w' y := ⟨h.ok, k, h.vok, h.len, h.le⟩
def LXf (b11 b12 b13 b14 tb td : Nat) (C : List Int) : List (Nat × Obj) := [(b14, .cells (ints .u8 C) 38), (b13, .cells (ints .u8 C) 38), (b12, .cells #[.pointer (some ⟨td, 0, none⟩)] 31), (b11, .cells #[.pointer (some ⟨tb, 0, none⟩)] 27)]
structure St (w : World) (lo tb td : Nat) (X : World) (Tc Td : List Tm) (P Na Nb LX : List (Nat × Obj)) (ya yb : List Oe) (pa pb : Option Addr) (ca cb : Nat) : Prop where
  own : OwB w (P ++ (Na ++ (Nb ++ LX))) X
  tc : TabP lo tb X Tc
  td : DTabP lo td X Td
  pp : ∀ q ∈ P, ∃ cs fr, q.2 = .cells cs 48 fr
  lx : ∀ q ∈ LX, ∃ cs T fr, q.2 = .cells cs T fr ∧ (T = 38 ∨ T = 31 ∨ T = 27)
  pa : Parked Na 48 101 pa ya.length ca (ysL ya)
  pb : Parked Nb 48 101 pb yb.length cb (ysL yb)
  ea : ∀ y ∈ ya, EOk w.heap.size X y
  eb : ∀ y ∈ yb, EOk w.heap.size X y
  sm : ya.map Oe.x = yb.map Oe.x
  lw : w.heap.size ≤ lo
section
variable {w : World} {lo tb td : Nat} {X X' : World} {Tc Td T' : List Tm} {P Na Nb LX : List (Nat × Obj)} {ya yb : List Oe} {pa pb : Option Addr} {ca cb : Nat} {y : Oe}
theorem EOk.fr0 {m : Nat} (h : EOk m X y) (F : Fr [] X X') : EOk m X' y := h.with (h.vs.fr0 F)
theorem EOk.frP {m : Nat} (h : EOk m X y) (F : FrP lo X X') (hm : m ≤ lo) : EOk m X' y := h.with (h.vs.frT F hm (by decide))
theorem EOk.frD {m : Nat} (h : EOk m X y) (F : FrD lo X X') (hm : m ≤ lo) : EOk m X' y := h.with (h.vs.frT F hm (by decide))
theorem St.fr0 (h : St w lo tb td X Tc Td P Na Nb LX ya yb pa pb ca cb) (F : Fr [] X X') : St w lo tb td X' Tc Td P Na Nb LX ya yb pa pb ca cb :=
  ⟨h.own.call F, h.tc.fr0 F, h.td.fr0 F, h.pp, h.lx, h.pa, h.pb, fun y hy => (h.ea y hy).fr0 F, fun y hy => (h.eb y hy).fr0 F, h.sm, h.lw⟩
theorem St.others (h : St w lo tb td X Tc Td P Na Nb LX ya yb pa pb ca cb) (t : TTy) (h1 : (48 ≠ t.tT ∧ 48 ≠ t.lT) ∧ (38 ≠ t.tT ∧ 38 ≠ t.lT) ∧ (31 ≠ t.tT ∧ 31 ≠ t.lT) ∧ 27 ≠ t.tT ∧ 27 ≠ t.lT) : ∀ q ∈ P ++ (Na ++ (Nb ++ LX)), q.1 < lo ∨ other t q.2 := fun q hq => by
  simp only [List.mem_append] at hq
  rcases hq with hq | hq | hq | hq
  · obtain ⟨cs, fr, e⟩ := h.pp q hq
    rw [e]
    exact .inr h1.1
  · exact .inr (Parked.other h.pa h1.1 q hq)
  · exact .inr (Parked.other h.pb h1.1 q hq)
  · obtain ⟨cs, T, fr, e, hT⟩ := h.lx q hq
    rw [e]
    rcases hT with rfl | rfl | rfl
    · exact .inr h1.2.1
    · exact .inr h1.2.2.1
    · exact .inr h1.2.2.2
theorem St.code (h : St w lo tb td X Tc Td P Na Nb LX ya yb pa pb ca cb) (F : FrP lo X X') (hT : TabP lo tb X' T') : St w lo tb td X' T' Td P Na Nb LX ya yb pa pb ca cb :=
  ⟨h.own.callT F (h.others TT (by decide)) h.lw, hT, h.td.callT F apartD, h.pp, h.lx, h.pa, h.pb, fun y hy => (h.ea y hy).frP F h.lw, fun y hy => (h.eb y hy).frP F h.lw, h.sm, h.lw⟩
theorem St.doc (h : St w lo tb td X Tc Td P Na Nb LX ya yb pa pb ca cb) (F : FrD lo X X') (hD : DTabP lo td X' T') : St w lo tb td X' Tc T' P Na Nb LX ya yb pa pb ca cb :=
  ⟨h.own.callT F (h.others DT (by decide)) h.lw, h.tc.callD F apartT rfl, hD, h.pp, h.lx, h.pa, h.pb, fun y hy => (h.ea y hy).frD F h.lw, fun y hy => (h.eb y hy).frD F h.lw, h.sm, h.lw⟩
theorem St.room (h : St w lo tb td X Tc Td P Na Nb LX ya yb pa pb ca cb) (cs : Array Value) : St w lo tb td (X.alloc (.cells cs 48)) Tc Td ((X.heap.size, .cells cs 48) :: P) Na Nb LX ya yb pa pb ca cb :=
  ⟨h.own.allocN _ X.heap.size rfl, h.tc.fr0 ((Fr.refl [] X).alloc _), h.td.fr0 ((Fr.refl [] X).alloc _), fun q hq => by
    rcases List.mem_cons.1 hq with rfl | hq
    · exact ⟨_, _, rfl⟩
    · exact h.pp q hq, h.lx, h.pa, h.pb, fun y hy => (h.ea y hy).fr0 ((Fr.refl [] X).alloc _), fun y hy => (h.eb y hy).fr0 ((Fr.refl [] X).alloc _), h.sm, h.lw⟩
theorem St.join {X0 : World} {Tc0 Td0 : List Tm} (h : St w lo tb td X Tc Td P Na Nb LX ya yb pa pb ca cb) (h0 : St w lo tb td X0 Tc0 Td0 P Na Nb LX ya yb pa pb ca cb) {b : Nat} {cs : Array Value} (hb : X.blk b = some (.cells cs 48)) (hl : X0.heap.size ≤ b) : St w lo tb td X Tc Td ((b, .cells cs 48) :: P) Na Nb LX ya yb pa pb ca cb :=
  ⟨h.own.room hb (h0.own.fresh hl) (Nat.le_trans h0.own.fr.size hl), h.tc, h.td, fun q hq => by
    rcases List.mem_cons.1 hq with rfl | hq
    · exact ⟨_, _, rfl⟩
    · exact h.pp q hq, h.lx, h.pa, h.pb, h.ea, h.eb, h.sm, h.lw⟩
theorem St.low (h : St w lo tb td X Tc Td P Na Nb LX ya yb pa pb ca cb) {i b : Nat} {o : Obj} (hi : P[i]? = some (b, o)) : w.heap.size ≤ b :=
  h.own.lo (b, o) (List.mem_append_left _ (List.mem_of_getElem? hi))
theorem St.blk (h : St w lo tb td X Tc Td P Na Nb LX ya yb pa pb ca cb) (i : Nat) {b : Nat} {o : Obj} (hi : P[i]? = some (b, o)) : X.blk b = some o :=
  h.own.has (b, o) (List.mem_append_left _ (List.mem_of_getElem? hi))
theorem St.lxb (h : St w lo tb td X Tc Td P Na Nb LX ya yb pa pb ca cb) (i : Nat) {b : Nat} {o : Obj} (hi : LX[i]? = some (b, o)) : X.blk b = some o :=
  h.own.has (b, o) (by simp [List.mem_of_getElem? hi])
theorem St.put (h : St w lo tb td X Tc Td P Na Nb LX ya yb pa pb ca cb) (i : Nat) {b : Nat} {cs0 : Array Value} (cs : Array Value) (hi : P[i]? = some (b, .cells cs0 48)) : St w lo tb td (X.put b (.cells cs 48)) Tc Td (P.set i (b, .cells cs 48)) Na Nb LX ya yb pa pb ca cb := by
  have hb := h.blk i hi
  have hl := h.low hi
  have F : Fr [b] X (X.put b (.cells cs 48)) := (Fr.refl [b] X).put _ _ (by simp)
  have hfp : ∀ g ∈ [b], w.heap.size ≤ g ∧ ∃ cs fr, X.blk g = some (.cells cs 48 fr) := fun g hg => by
    rw [List.mem_singleton] at hg
    subst hg
    exact ⟨hl, _, _, hb⟩
  refine ⟨?_, h.tc.put hb (by decide) _, h.td.put hb (by decide) _, fun q hq => ?_, h.lx, h.pa, h.pb, fun y hy => (h.ea y hy).with ((h.ea y hy).vs.writ F hfp), fun y hy => (h.eb y hy).with ((h.eb y hy).vs.writ F hfp), h.sm, h.lw⟩
  · have hlt : i < P.length := (List.getElem?_eq_some_iff.1 hi).1
    have := h.own.set i (.cells cs 48) (by rw [List.getElem?_append_left hlt]; exact hi)
    rwa [List.set_append_left _ _ hlt] at this
  · rcases List.mem_or_eq_of_mem_set hq with hq | rfl
    · exact h.pp q hq
    · exact ⟨_, _, rfl⟩
theorem EOk.put (h : St w lo tb td X Tc Td P Na Nb LX ya yb pa pb ca cb) (i : Nat) {b : Nat} {cs0 : Array Value} (cs : Array Value) (hi : P[i]? = some (b, .cells cs0 48)) (k : EOk w.heap.size X y) : EOk w.heap.size (X.put b (.cells cs 48)) y :=
  k.with (k.vs.writ (fp := [b]) ((Fr.refl [b] X).put _ _ (by simp)) fun g hg => by
    rw [List.mem_singleton] at hg
    subst hg
    exact ⟨h.low hi, _, _, h.blk i hi⟩)
theorem St.keep {P' : List (Nat × Obj)} (h : St w lo tb td X Tc Td P Na Nb LX ya yb pa pb ca cb) (hs : P'.Sublist P) : St w lo tb td X Tc Td P' Na Nb LX ya yb pa pb ca cb :=
  ⟨h.own.sub (hs.append_right _), h.tc, h.td, fun q hq => h.pp q (hs.subset hq), h.lx, h.pa, h.pb, h.ea, h.eb, h.sm, h.lw⟩
theorem ysL_len {ys : List Oe} (h : ∀ y ∈ ys, ObK y.x) : (ysL ys).length = ys.length * 101 := by
  induction ys with
  | nil => rfl
  | cons y ys ih =>
    have h1 : (oeC y).toList.length = 101 := by
      unfold oeC
      rw [Array.length_toList, List.size_toArray, cObject_length _ _ _ _ _ _ _ (h y (by simp)).kl (h y (by simp)).sl]
    have h2 := ih fun z hz => h z (by simp [hz])
    unfold ysL at *
    rw [List.flatMap_cons, List.length_append, h1, h2, List.length_cons, Nat.add_mul]
    omega
theorem ysL_snoc (ys : List Oe) (y : Oe) : ysL (ys ++ [y]) = ysL ys ++ (oeC y).toList := by simp [ysL]
theorem info48_parts : ∃ i z, Tryz.prog.info? 48 = some i ∧ i.zero = some z ∧ z.cells.size = 101 ∧ i.size = 101 ∧ i.bytes = 136 := by
  have h : (Tryz.prog.info? 48).map (fun i => (i.zero.map (·.cells.size), i.size, i.bytes)) = some (some 101, 101, 136) := by kernel_rfl
  cases hi : Tryz.prog.info? 48 with
  | none => rw [hi] at h; cases h
  | some i =>
    rw [hi] at h
    simp only [Option.map_some, Option.some.injEq, Prod.mk.injEq] at h
    obtain ⟨h1, h2, h3⟩ := h
    cases hz : i.zero with
    | none => rw [hz] at h1; cases h1
    | some z =>
      rw [hz] at h1
      simp only [Option.map_some, Option.some.injEq] at h1
      exact ⟨i, z, rfl, hz, h1, h2, h3⟩
section
variable {ops : Array Oper} {rest : List Oper} {o : Oper} {a : Act} {Q : Exit → Act → World → Prop}
/-- []api.Object: append of one. -/
theorem wpList_app43 {w0 : World} {L : List (Nat × Obj)} {p : Option Addr} {n cap : Nat} {vs : List Value} (hgd : o.guard = none) (s x : Operand) (ho : o.op = .call { callee := .builtin .append, args := #[s, x], argTypes := #[43, 43] })
    (hs : a.eval s = .slice p n cap) (B : BldV w0 L 48 101 X p n cap vs) {q : Option Addr} {m c : Nat} {us : List Value} (hx : a.eval x = .slice q m c) (S : Sv 101 X q m c us) (h1 : ∀ u ∈ us, u.oneCell' = true) (hbig : n + m ≤ 1000000)
    (h : ∀ p' cap' w', BldV w0 L 48 101 w' p' (n + m) cap' (vs ++ us) → Fr (p.map (·.block)).toList X w' → wpList Tryz.prog ops Q rest (a.put o.dst (.slice p' (n + m) cap')) w') : wpList Tryz.prog ops Q (o :: rest) a X := by
  obtain ⟨i, z, hi, hz, hzs, hs1, hb1⟩ := info48_parts
  exact wpList_apdV2 hgd s x 43 43 ho Tryz.underlying43 hi hz hs1 (by omega) hb1 hzs hs B hx (Apd.ofSrc Tryz.underlying43 hi hz (by rw [hs1]; exact S.src Tryz.underlying43 h1)) (by omega) (by omega) fun p' cap' w' B' _ F => h p' cap' w' B' F
end
theorem perm4 {α : Type} (P A B L : List α) : (P ++ (A ++ (B ++ L))).Perm (A ++ (P ++ (B ++ L))) := by
  have := (List.perm_append_comm (l₁ := P) (l₂ := A)).append_right (B ++ L)
  simpa [List.append_assoc] using this
/-- The same without what does not turn. -/
structure StP (w : World) (lo tb td : Nat) (X : World) (Tc Td : List Tm) (P Na Nb LX : List (Nat × Obj)) (ya yb : List Oe) (pa pb : Option Addr) (ca cb : Nat) : Prop where
  own : OwB w (P ++ (Na ++ (Nb ++ LX))) X
  tc : TabP lo tb X Tc
  td : DTabP lo td X Td
  pa : Parked Na 48 101 pa ya.length ca (ysL ya)
  pb : Parked Nb 48 101 pb yb.length cb (ysL yb)
  ea : ∀ y ∈ ya, EOk w.heap.size X y
  eb : ∀ y ∈ yb, EOk w.heap.size X y
theorem St.p (h : St w lo tb td X Tc Td P Na Nb LX ya yb pa pb ca cb) : StP w lo tb td X Tc Td P Na Nb LX ya yb pa pb ca cb := ⟨h.own, h.tc, h.td, h.pa, h.pb, h.ea, h.eb⟩
theorem StP.rowA (h : StP w lo tb td X Tc Td P Na Nb LX ya yb pa pb ca cb) : BldV w (P ++ (Nb ++ LX)) 48 101 X pa ya.length ca (ysL ya) :=
  h.pa.take (h.own.perm (perm4 P Na Nb LX))
theorem perm5 {α : Type} (P A B L : List α) : (P ++ (A ++ (B ++ L))).Perm (B ++ (P ++ (A ++ L))) := by
  have h1 : (A ++ (B ++ L)).Perm (B ++ (A ++ L)) := by
    have := (List.perm_append_comm (l₁ := A) (l₂ := B)).append_right L
    simpa [List.append_assoc] using this
  exact (h1.append_left P).trans (perm4 P B A L)
theorem StP.rowB (h : StP w lo tb td X Tc Td P Na Nb LX ya yb pa pb ca cb) : BldV w (P ++ (Na ++ LX)) 48 101 X pb yb.length cb (ysL yb) := h.pb.take (h.own.perm (perm5 P Na Nb LX))
theorem StP.room (h : StP w lo tb td X Tc Td P Na Nb LX ya yb pa pb ca cb) (cs : Array Value) : StP w lo tb td (X.alloc (.cells cs 48)) Tc Td ((X.heap.size, .cells cs 48) :: P) Na Nb LX ya yb pa pb ca cb :=
  ⟨h.own.allocN _ X.heap.size rfl, h.tc.fr0 ((Fr.refl [] X).alloc _), h.td.fr0 ((Fr.refl [] X).alloc _), h.pa, h.pb, fun y hy => (h.ea y hy).fr0 ((Fr.refl [] X).alloc _), fun y hy => (h.eb y hy).fr0 ((Fr.refl [] X).alloc _)⟩
theorem StP.fr0 (h : StP w lo tb td X Tc Td P Na Nb LX ya yb pa pb ca cb) (F : Fr [] X X') : StP w lo tb td X' Tc Td P Na Nb LX ya yb pa pb ca cb :=
  ⟨h.own.call F, h.tc.fr0 F, h.td.fr0 F, h.pa, h.pb, fun y hy => (h.ea y hy).fr0 F, fun y hy => (h.eb y hy).fr0 F⟩
theorem StP.blk (h : StP w lo tb td X Tc Td P Na Nb LX ya yb pa pb ca cb) (i : Nat) {b : Nat} {o : Obj} (hi : P[i]? = some (b, o)) : X.blk b = some o :=
  h.own.has (b, o) (List.mem_append_left _ (List.mem_of_getElem? hi))
theorem StP.fin {X0 : World} {Tc0 Td0 : List Tm} {P0 Na0 Nb0 : List (Nat × Obj)} {ya0 yb0 : List Oe} {pa0 pb0 : Option Addr} {ca0 cb0 : Nat} (h : StP w lo tb td X Tc Td P Na Nb LX ya yb pa pb ca cb) (h0 : St w lo tb td X0 Tc0 Td0 P0 Na0 Nb0 LX ya0 yb0 pa0 pb0 ca0 cb0) (sm : ya.map Oe.x = yb.map Oe.x) : St w lo tb td X Tc Td [] Na Nb LX ya yb pa pb ca cb :=
  ⟨h.own.sub (List.sublist_append_right P _), h.tc, h.td, by simp, h0.lx, h.pa, h.pb, h.ea, h.eb, sm, h0.lw⟩
theorem grown_fp {w0 : World} {L : List (Nat × Obj)} {p : Option Addr} {n c : Nat} {vs : List Value} (B : BldV w0 L 48 101 X p n c vs) : ∀ b ∈ (p.map (·.block)).toList, w0.heap.size ≤ b ∧ ∃ cs fr, X.blk b = some (.cells cs 48 fr) := fun b hb => by
  have hb' : p.map (·.block) = some b := by simpa using hb
  exact ⟨(B.new b hb').1, B.block hb'⟩
theorem StP.appA (h : StP w lo tb td X Tc Td P Na Nb LX ya yb pa pb ca cb) {p' : Option Addr} {c' : Nat} {y : Oe} (hy : EOk w.heap.size X y) (B : BldV w (P ++ (Nb ++ LX)) 48 101 X' p' (ya.length + 1) c' (ysL ya ++ (oeC y).toList)) (F : Fr (pa.map (·.block)).toList X X') :
    (∃ Na', StP w lo tb td X' Tc Td P Na' Nb LX (ya ++ [y]) yb p' pb c' cb) ∧ ∀ z, EOk w.heap.size X z → EOk w.heap.size X' z := by
  have hk : ∀ z, EOk w.heap.size X z → EOk w.heap.size X' z := fun z hz => hz.with (hz.vs.writ F (grown_fp h.rowA))
  obtain ⟨N, hO, hP⟩ := B.park
  refine ⟨⟨N, hO.perm (perm4 P N Nb LX).symm, Tab.grown h.tc h.rowA F (by decide), h.td.grown h.rowA F (by decide), ?_, h.pb, fun z hz => ?_, fun z hz => hk z (h.eb z hz)⟩, hk⟩
  · rw [ysL_snoc, List.length_append, List.length_singleton]
    exact hP
  · rcases List.mem_append.1 hz with hz | hz
    · exact hk z (h.ea z hz)
    · rw [List.mem_singleton] at hz
      subst hz
      exact hk _ hy
theorem StP.appB (h : StP w lo tb td X Tc Td P Na Nb LX ya yb pa pb ca cb) {p' : Option Addr} {c' : Nat} {y : Oe} (hy : EOk w.heap.size X y) (B : BldV w (P ++ (Na ++ LX)) 48 101 X' p' (yb.length + 1) c' (ysL yb ++ (oeC y).toList)) (F : Fr (pb.map (·.block)).toList X X') :
    (∃ Nb', StP w lo tb td X' Tc Td P Na Nb' LX ya (yb ++ [y]) pa p' ca c') ∧ ∀ z, EOk w.heap.size X z → EOk w.heap.size X' z := by
  have hk : ∀ z, EOk w.heap.size X z → EOk w.heap.size X' z := fun z hz => hz.with (hz.vs.writ F (grown_fp h.rowB))
  obtain ⟨N, hO, hP⟩ := B.park
  refine ⟨⟨N, hO.perm (perm5 P Na N LX).symm, Tab.grown h.tc h.rowB F (by decide), h.td.grown h.rowB F (by decide), h.pa, ?_, fun z hz => hk z (h.ea z hz), fun z hz => ?_⟩, hk⟩
  · rw [ysL_snoc, List.length_append, List.length_singleton]
    exact hP
  · rcases List.mem_append.1 hz with hz | hz
    · exact hk z (h.eb z hz)
    · rw [List.mem_singleton] at hz
      subst hz
      exact hk _ hy
end
end Go.Proofs.YtbhnfohoclcjdaaGreat
