/- Joined: DdC, DdE. -/
import Derived.Test.YtbhnfohoclcjdaaGreatZu
import Derived.Test.YtbhnfohoclcjdaaGreatZj
set_option linter.unusedVariables false
set_option linter.unusedSimpArgs false
namespace Go.Proofs.YtbhnfohoclcjdaaGreat
open Go.RowKit Go.Dr Go.Kd
section
variable {w : World}
set_option maxRecDepth 100000 in
set_option maxHeartbeats 4000000 in
theorem vouched_v {lo tb : Nat} {T : List Tm} {C : List Int} {x : Ob} {p : Option Addr} {n cap : Nat} (h : TabP lo tb w T) (hC : C.length = 133) (hCb : isBytes C) (hx : ObK x) (hv : Lw 65 w p n cap (vsL x.vs)) (hvs : ∀ v ∈ x.vs, VcOk v) (hl : x.vs.length = n) (hn : n ≤ 100000) :
    Calls Tryz.prog 49 #[SU tb, .agg (ints .u8 C), .agg (oC x (.slice p n cap))] w fun e w' => e = .returned (.int .i64 (vouchers T (firstC C) x).length) ∧ Fr [] w w' := by
  have H := Lib.hid h
  have HCB := Lib.hid hCb
  obtain ⟨xs, hxs⟩ : ∃ xs, xs = oC x (.slice p n cap) := ⟨_, rfl⟩
  have X : ObF xs x (.slice p n cap) := by rw [hxs]; exact obF hx
  rw [← hxs]
  have c1 : ∀ (m : Int) (W : World), Calls Tryz.prog 46 #[.agg xs, .int .u8 m] W fun e w' => ∃ q m' c, e = .returned (.slice q m' c) ∧ Bld W [] .u8 5 w' q m' c (vouchText x m) := fun m W => by rw [hxs]; exact vtext_v hx rfl
  have C1 := Lib.hid c1
  have HX := Lib.hid hxs
  have HO := Lib.hid hx
  have HV := Lib.hid hv
  have HVS := Lib.hid hvs
  have HL := Lib.hid hl
  clear h hCb hxs hx hv hvs hl c1
  obtain ⟨sx, ⟨x0, x0'⟩, -, -, -, -, -, ⟨x6, x6'⟩, xal, -⟩ := X
  have hmk : ∀ W : World, (Instr.makeMap 166 none).run Tryz.prog W = .ok (.map (some W.heap.size)) (W.alloc (.map #[] 0)) := fun _ => rfl
  have z105 : Tryz.zeroCells105.size = 65 := by kernel_rfl
  go_enter Tryz.func49, Tryz.ntmps49
  go_upto_region 2 with (fail)
  refine named_world (A := fun X => OwB w [(w.heap.size + 1 + 1 + 1, .map #[] 0), (w.heap.size + 1 + 1, .cells xs 48), (w.heap.size + 1, .cells (ints .u8 C) 38), (w.heap.size, .cells #[.pointer (some ⟨tb, 0, none⟩)] 27)] X) (Q := fun X => Code.wp _ _ _ _ X) (((((OwB.start w).allocN _ w.heap.size rfl).allocN _ (w.heap.size + 1) (by simp)).allocN _ (w.heap.size + 1 + 1) (by simp)).allocN _ (w.heap.size + 1 + 1 + 1) (by simp)) ?_
  intro V hV
  clear hmk
  generalize w.heap.size + 1 + 1 + 1 = mb at hV ⊢
  generalize w.heap.size + 1 + 1 = b5 at hV ⊢
  generalize w.heap.size + 1 = b4 at hV ⊢
  generalize w.heap.size = b3 at hV ⊢
  have f5 := hV.nth 1 rfl
  have t5 := World.at_lt f5
  have HU := Lib.hid hV
  clear hV
  go_wp2_with fail
  go_loopw [14] (fun iv wy => ∃ (i : Nat) (es : Array MapEntry) (clock : Nat), i ≤ n ∧ iv = .int .i64 (i : Int) ∧ Hid (OwB w [(mb, .map es clock), (b5, .cells xs 48), (b4, .cells (ints .u8 C) 38), (b3, .cells #[.pointer (some ⟨tb, 0, none⟩)] 27)] wy) ∧ Hid (es.toList.map (·.key) = (keysU T (firstC C) x i).map (Value.int .u8))) (fun iv _ => (n - intOf iv).toNat)
  case atStart => exact ⟨0, #[], 0, by omega, rfl, HU, Lib.hid rfl⟩
  case round =>
    clear f5 t5 HU
    obtain ⟨i, es, clock, hi9, rfl, hO, hE⟩ := hrel
    by_cases hlt : i < n
    · have hd : decide ((i : Int) < (n : Int)) = true := by rw [decide_eq_true_eq]; omega
      obtain ⟨v, b, off, cs, TT, fr, hvi, rfl, fc0, hs1, hs2, hext⟩ := HV.out.elem HVS.out HL.out hlt
      have okv := HVS.out v (List.mem_of_getElem? hvi)
      have fc := hO.out.fr.get fc0 (by simp)
      obtain ⟨vc, hvc⟩ : ∃ vc, vc = (vcC v).toArray := ⟨_, rfl⟩
      have VF : VcF vc v := by rw [hvc]; exact vcF okv
      rw [← hvc] at hext
      obtain ⟨sv, ⟨v0, v0'⟩, vsig, val, von⟩ := VF
      have HVI := Lib.hid hvi
      have HOK := Lib.hid okv
      have tc := World.at_lt fc
      clear hvc hvi okv fc0
      go_upto_region 5 with (fail)
      refine named_world (A := fun Y => OwB w [(wr.heap.size, .cells vc 105), (mb, .map es clock), (b5, .cells xs 48), (b4, .cells (ints .u8 C) 38), (b3, .cells #[.pointer (some ⟨tb, 0, none⟩)] 27)] Y) (Q := fun Y => Code.wp _ _ _ _ Y) (hO.out.allocN _ wr.heap.size rfl) ?_
      intro U1 hU1
      clear fc tc hext hs1 hs2
      generalize wr.heap.size = b9 at hU1 ⊢
      have HU1 := Lib.hid hU1
      obtain ⟨good, hgood⟩ : ∃ good, good = vOk T (firstC C) x v := ⟨_, rfl⟩
      have HG := Lib.hid hgood
      clear hgood hU1
      obtain ⟨m, hm⟩ : ∃ m : Nat, v.1 = (m : Int) := ⟨v.1.toNat, by have := HOK.out.n0; omega⟩
      have m256 : m < 256 := by have := HOK.out.n1; omega
      rw [hm] at v0'
      have HM := Lib.hid hm
      clear hm
      go_cut [18, 19, 20, 21, 22, 23, 24, 25, 26, 27, 28, 29, 30, 31, 32, 33, 34, 35, 36, 37, 38, 39, 40, 41, 42, 43, 44, 45, 46, 47, 48, 49, 50, 51] (fun _ _ _ _ _ _ _ _ _ _ _ _ _ _ _ _ _ _ _ _ _ _ _ _ _ _ _ _ _ _ _ _ _ vv wy => vv = .bool good ∧ Hid (OwB w [(b9, .cells vc 105), (mb, .map es clock), (b5, .cells xs 48), (b4, .cells (ints .u8 C) 38), (b3, .cells #[.pointer (some ⟨tb, 0, none⟩)] 27)] wy))
      case first =>
        have f9 := HU1.out.nth 0 rfl
        have f5 := HU1.out.nth 2 rfl
        have f4 := HU1.out.nth 3 rfl
        have f3 := HU1.out.nth 4 rfl
        have t9 := World.at_lt f9
        have t5 := World.at_lt f5
        have t4 := World.at_lt f4
        have t3 := World.at_lt f3
        have hne : Nonempty Unit := ⟨()⟩
        by_cases hA : m < 4
        · have dA : decide ((m : Int) < 4) = true := by rw [decide_eq_true_eq]; omega
          by_cases hB : (m : Int) = x.server
          · have dB : ((m : Int) != x.server) = false := by simp [hB]
            have hb : good = false := by rw [HG.out, vOk, HM.out]; simp [hB]
            have HB := Lib.hid hb
            clear hB hb
            refine wp_region_quiet_all (C := fun w' => ∃ _ : Unit, w' = U1.drew) (by kernel_rfl) (by kernel_rfl) ⟨(), rfl⟩ ?_
            repeat (go_big_quiet_step (fail))
            refine wpQuiet_nil ?_
            intro _ hw'
            obtain ⟨_, rfl⟩ := hw'
            go_wp2_with fail
            go_meet
            case rel => exact ⟨by rw [HB.out], Lib.hid HU1.out.drew⟩
          · have dB : ((m : Int) != x.server) = true := by simp [hB]
            have dA4 : (m : Int) < 4 := by omega
            obtain ⟨k0, hk0⟩ : ∃ k0, k0 = List.drop (m * 32) (List.take (m * 32 + 32) C) := ⟨_, rfl⟩
            have e13 : List.drop (m * 32) (List.take (m * 32 + 32) C) = k0 := hk0.symm
            have m101 : m * 32 ≤ 101 := by omega
            have lk0 : k0.length = 32 := by rw [hk0, List.length_drop, List.length_take]; omega
            have bk0 : isBytes k0 := fun y hy => HCB.out y (by rw [hk0] at hy; exact List.mem_of_mem_take (List.mem_of_mem_drop hy))
            have hg : good = (decide (k0 ≠ Kd.zeros 32) && verifyF T k0 (vouchText x m) v.2) := by
              rw [HG.out, vOk, HM.out, Int.toNat_natCast, firstC_at hA, ← hk0]
              simp [dA, hB]
            have HB := Lib.hid hB
            have HBK := Lib.hid bk0
            have HG2 := Lib.hid hg
            clear hk0 bk0 hB hg
            by_cases hZ : k0 = Kd.zeros 32
            · have dZ : (k0 == [0, 0, 0, 0, 0, 0, 0, 0, 0, 0, 0, 0, 0, 0, 0, 0, 0, 0, 0, 0, 0, 0, 0, 0, 0, 0, 0, 0, 0, 0, 0, 0]) = true := by rw [hZ]; rfl
              have hb : good = false := by rw [HG2.out]; simp [hZ]
              have HB := Lib.hid hb
              have HZ := Lib.hid hZ
              clear hZ hb
              refine wp_region_quiet_all (C := fun w' => ∃ _ : Unit, w' = U1.drew) (by kernel_rfl) (by kernel_rfl) ⟨(), rfl⟩ ?_
              repeat (go_big_quiet_step (fail))
              refine wpQuiet_nil ?_
              intro _ hw'
              obtain ⟨_, rfl⟩ := hw'
              go_wp2_with fail
              go_meet
              case rel => exact ⟨by rw [HB.out], Lib.hid HU1.out.drew⟩
            · have dZ : (k0 == [0, 0, 0, 0, 0, 0, 0, 0, 0, 0, 0, 0, 0, 0, 0, 0, 0, 0, 0, 0, 0, 0, 0, 0, 0, 0, 0, 0, 0, 0, 0, 0]) = false := by rw [show ([0, 0, 0, 0, 0, 0, 0, 0, 0, 0, 0, 0, 0, 0, 0, 0, 0, 0, 0, 0, 0, 0, 0, 0, 0, 0, 0, 0, 0, 0, 0, 0] : List Int) = Kd.zeros 32 from rfl]; simp [hZ]
              have hb : good = verifyF T k0 (vouchText x m) v.2 := by rw [HG2.out]; simp [hZ]
              have HB3 := Lib.hid hb
              clear hZ hb
              refine drawn_begin 34 (fun w' => w'.blk b9 = some (.cells vc 105) ∧ w'.blk b5 = some (.cells xs 48) ∧ w'.blk b4 = some (.cells (ints .u8 C) 38) ∧ w'.blk b3 = some (.cells #[.pointer (some ⟨tb, 0, none⟩)] 27)) (by kernel_rfl) ?_
              refine drawn_reads (fuel := 3) [0, 1, 2, 3, 4, 5, 6, 7, 8, 9, 10, 11, 12, 13, 14, 15, 16, 17, 18, 19, 20, 21, 22, 23, 24, 25, 26, 27, 28, 30, 31] rfl (by kernel_rfl) ⟨f9, f5, f4, f3⟩ ?_
              repeat (first | (refine rowK_step2 rfl rfl (fun K hK => ?_); go_wp2) | (refine rowK_step rfl (fun K hK => ?_); go_simp; refine hK _ ?_; clear hK K))
              refine rowK_nil ⟨fun w' e1 => ?_, ?_⟩
              · obtain ⟨e1, e2, e3, e4⟩ := e1
                clear f9 f5 f4 f3
                repeat (first | (refine rowWp_step2 rfl rfl (fun K hK => ?_); go_wp2) | (refine rowWp_step rfl (fun K hK => ?_); go_simp; refine hK _ ?_; clear hK K))
                exact rowWp_nil rfl
              refine drawn_next 29 (fuel := 2) rfl (by kernel_rfl) ?_
              intro K hK
              go_wp2_with fail
              refine (C1.out m _).mono ?_
              rintro e U2 ⟨q, m', c, rfl, hB⟩
              have hU2 := HU1.out.drew.call hB.own.fr
              clear f9 f5 f4 f3 t9 t5 t4 t3
              have f9 := hU2.nth 0 rfl
              have f5 := hU2.nth 2 rfl
              have f4 := hU2.nth 3 rfl
              have f3 := hU2.nth 4 rfl
              have HU2 := Lib.hid hU2
              have HBt := Lib.hid hB
              clear hU2 hB
              go_wp2_with fail
              refine ⟨⟨f9, f5, f4, f3⟩, ?_⟩
              refine drawn_next 32 (fuel := 1) rfl (by kernel_rfl) ?_
              intro K hK
              go_wp2_with fail
              refine (verify_s (H.out.fr0 HU2.out.fr) lk0 HBK.out HBt.out.sl (isBytes_vouch HO.out (by omega) (by omega)) HOK.out.sl HOK.out.sb).mono ?_
              rintro e U3 ⟨rfl, F3⟩
              have hU3 := HU2.out.call F3
              clear f9 f5 f4 f3
              have f9 := hU3.nth 0 rfl
              have f5 := hU3.nth 2 rfl
              have f4 := hU3.nth 3 rfl
              have f3 := hU3.nth 4 rfl
              have HU3 := Lib.hid hU3
              clear hU3
              rw [← HB3.out]
              go_wp2_with fail
              refine ⟨⟨f9, f5, f4, f3⟩, ?_⟩
              refine drawn_reads (fuel := 0) [33] rfl (by kernel_rfl) ⟨f9, f5, f4, f3⟩ ?_
              repeat (first | (refine rowK_step2 rfl rfl (fun K hK => ?_); go_wp2) | (refine rowK_step rfl (fun K hK => ?_); go_simp; refine hK _ ?_; clear hK K))
              refine rowK_nil ⟨fun w' e1 => ?_, ?_⟩
              · repeat (first | (refine rowWp_step2 rfl rfl (fun K hK => ?_); go_wp2) | (refine rowWp_step rfl (fun K hK => ?_); go_simp; refine hK _ ?_; clear hK K))
                exact rowWp_nil rfl
              refine drawn_end (ol := []) rfl (by kernel_rfl) ?_
              intro K hK
              go_wp2_with fail
              go_meet
              case rel => exact ⟨rfl, HU3⟩
        · have dA : decide ((m : Int) < 4) = false := by rw [decide_eq_false_iff_not]; omega
          have hb : good = false := by
            have d2 : decide (v.1 < 4) = false := by rw [HM.out]; exact dA
            rw [HG.out, vOk, d2]; rfl
          have HB := Lib.hid hb
          clear hA hb
          refine wp_region_quiet_all (C := fun w' => ∃ _ : Unit, w' = U1.drew) (by kernel_rfl) (by kernel_rfl) ⟨(), rfl⟩ ?_
          repeat (go_big_quiet_step (fail))
          refine wpQuiet_nil ?_
          intro _ hw'
          obtain ⟨_, rfl⟩ := hw'
          go_wp2_with fail
          go_meet
          case rel => exact ⟨by rw [HB.out], Lib.hid HU1.out.drew⟩
      case rest =>
        obtain ⟨rfl, hO2⟩ := hcut
        have wi : IntKind.i64.wrap ((i : Int) + 1) = ((i + 1 : Nat) : Int) := by rw [IntKind.wrap_i64]; omega
        have f9 := hO2.out.nth 0 rfl
        have t9 := World.at_lt f9
        have fm := hO2.out.nth 1 rfl
        have hks := keysU_succ (T := T) (first := firstC C) HVI.out
        rw [← HG.out] at hks
        have HKS := Lib.hid hks
        clear hks
        cases good with
        | true =>
          obtain ⟨es2, clock2, hup, hk2⟩ := mapI_up (P := Tryz.prog) (t := 166) (kt := 5) (et := 4) fm hE.out (by kernel_rfl) Tryz.underlying5 (m : Int) (.bool true)
          have HO3 := Lib.hid (hO2.out.set 1 (.map es2 clock2) rfl).take
          have HK2 := Lib.hid hk2
          clear hk2
          go_wp2_with fail
          go_roundw
          case rel => exact ⟨i + 1, es2, clock2, by omega, by first | rfl | simp, HO3, Lib.hid (by rw [HKS.out, if_pos rfl, HM.out]; exact HK2.out)⟩
          case measure => simp [intOf]; omega
        | false =>
          have HO3 := Lib.hid hO2.out.take
          clear fm
          go_wp2_with fail
          go_roundw
          case rel => exact ⟨i + 1, es, clock, by omega, by first | rfl | simp, HO3, Lib.hid (by rw [HKS.out, if_neg (by simp)]; exact hE.out)⟩
          case measure => simp [intOf]; omega
    · obtain rfl : i = n := by omega
      have hd : decide ((i : Int) < (i : Int)) = false := by simp
      have fm := hO.out.nth 0 rfl
      have hlen : (Builtin.len_ #[166] 3 #[.map (some mb)]).run Tryz.prog wr = .ok (.int .i64 es.size) wr := run_len_map _ 166 3 mb es clock (by kernel_rfl) fm
      have hsz : es.size = (vouchers T (firstC C) x).length := by
        have := congrArg List.length hE.out
        rw [List.length_map, Array.length_toList, List.length_map] at this
        rw [this, ← keysU_all, HL.out]
      rw [hsz] at hlen
      go_wp2_with fail
      exact bodyPost_ret (results_tmp rfl _ _ _) rfl ⟨rfl, hO.out.fr⟩
end
end Go.Proofs.YtbhnfohoclcjdaaGreat
namespace Go.Proofs.YtbhnfohoclcjdaaGreat
open Go.RowKit Go.Dr Go.Kd
/-- An object, and where its vouches lie. -/
structure Oe where
  x : Ob
  p : Option Addr
  n : Nat
  c : Nat
def oeC (y : Oe) : Array Value := oC y.x (.slice y.p y.n y.c)
def ysL (ys : List Oe) : List Value := ys.flatMap fun y => (oeC y).toList
structure OeOk (w : World) (y : Oe) : Prop where
  ok : ObK y.x
  vs : Lw 65 w y.p y.n y.c (vsL y.x.vs)
  vok : ∀ v ∈ y.x.vs, VcOk v
  len : y.x.vs.length = y.n
  le : y.n ≤ 100000
theorem oeC_size {w : World} {y : Oe} (h : OeOk w y) : (oeC y).size = 101 := by
  have := h.ok
  unfold oeC
  rw [List.size_toArray, cObject_length _ _ _ _ _ _ _ h.ok.kl h.ok.sl]
theorem chainF_cons2 {T : List Tm} {first : List Bs} {need : Nat} {server : Int} {x : Ob} {l : List Ob} {i : Nat} {key : Bs} :
    chainF T first need server (x :: l) i key = if (decide (x.server ≠ server) || decide (x.n ≠ (i : Int) + 1) || !verifyF T key (objText x) x.sig || decide ((vouchers T first x).length < need)) = true then none else chainF T first need server l (i + 1) x.key := by
  rw [chainF]
  congr 1
  simp only [Bool.or_eq_true, decide_eq_true_eq, Bool.not_eq_true', or_assoc]
section
variable {w : World}
set_option maxRecDepth 100000 in
set_option maxHeartbeats 2000000 in
theorem check_v {lo tb : Nat} {T : List Tm} {C : List Int} {server : Nat} {now : Nat} {p : Option Addr} {n cap : Nat} {ys : List Oe} (h : TabP lo tb w T) (hC : C.length = 133) (hCb : isBytes C) (hs : server < 256) (hw : now < 4294967296)
    (S : Sv 101 w p n cap (ysL ys)) (hn : ys.length = n) (hx : ∀ y ∈ ys, OeOk w y) (hnb : n ≤ 1000000) :
    Calls Tryz.prog 19 #[SU tb, .agg (ints .u8 C), .int .u8 server, .slice p n cap, .int .u32 now] w fun e w' => e = .returned (.tuple #[.agg (ints .u8 (checkF T (firstC C) (highC C) (needC C) server (ys.map Oe.x) now).1), .int .u8 (checkF T (firstC C) (highC C) (needC C) server (ys.map Oe.x) now).2.1, .int .i64 (checkF T (firstC C) (highC C) (needC C) server (ys.map Oe.x) now).2.2]) ∧ Fr [] w w' := by
  obtain ⟨xs, hxs⟩ : ∃ xs, xs = ys.map Oe.x := ⟨_, rfl⟩
  rw [← hxs]
  have hxl : xs.length = n := by rw [hxs, List.length_map, hn]
  have HXS := Lib.hid hxs
  have H := Lib.hid h
  have HCB := Lib.hid hCb
  have HS := Lib.hid S
  have HX := Lib.hid hx
  obtain ⟨R, hR⟩ : ∃ R, R = checkF T (firstC C) (highC C) (needC C) server xs now := ⟨_, rfl⟩
  rw [← hR]
  have HR := Lib.hid hR
  have HN := Lib.hid hxl
  have HNY := Lib.hid hn
  clear h hCb S hx hR hn hxs hxl
  go_enter Tryz.func19, Tryz.ntmps19
  by_cases h4 : 4 ≤ server
  · have d : decide (4 ≤ (server : Int)) = true := by rw [decide_eq_true_eq]; omega
    have hr0 : R = (Kd.zeros 32, 0, 200) := by rw [HR.out]; unfold checkF; rw [if_pos (by omega)]
    have HR0 := Lib.hid hr0
    clear hr0
    go_upto_if 23 with (fail)
    refine named_world (A := fun X => OwB w [(w.heap.size + 1 + 1, .cells (ints .u8 (zs 32)) 34), (w.heap.size + 1, .cells (ints .u8 C) 38), (w.heap.size, .cells #[.pointer (some ⟨tb, 0, none⟩)] 27)] X) (Q := fun X => Code.wp _ _ _ _ X) ((((OwB.start w).allocN _ w.heap.size rfl).allocN _ (w.heap.size + 1) (by simp)).allocN _ (w.heap.size + 1 + 1) (by simp)) ?_
    intro V hV
    generalize w.heap.size + 1 + 1 = b10 at hV ⊢
    generalize w.heap.size + 1 = b6 at hV ⊢
    generalize w.heap.size = b5 at hV ⊢
    have f10 := hV.nth 0 rfl
    have t10 := World.at_lt f10
    have l10 := hV.low 0 rfl
    have F := Lib.hid (hV.fr.put b10 (.cells (ints .u8 (Kd.zeros 32)) 34) (fun h => by omega))
    clear hV
    go_wp2_with fail
    refine ret_cell_tmp2 rfl rfl rfl ?_
    go_simp
    rw [HR0.out]
    exact ⟨by kernel_rfl, ⟨rfl, rfl, rfl⟩, F.out⟩
  have d0 : decide (4 ≤ (server : Int)) = false := by rw [decide_eq_false_iff_not]; omega
  go_upto_if 23 with (fail)
  refine named_world (A := fun X => OwB w [(w.heap.size + 1 + 1, .cells (ints .u8 (zs 32)) 34), (w.heap.size + 1, .cells (ints .u8 C) 38), (w.heap.size, .cells #[.pointer (some ⟨tb, 0, none⟩)] 27)] X) (Q := fun X => Code.wp _ _ _ _ X) ((((OwB.start w).allocN _ w.heap.size rfl).allocN _ (w.heap.size + 1) (by simp)).allocN _ (w.heap.size + 1 + 1) (by simp)) ?_
  intro V hV
  generalize w.heap.size + 1 + 1 = b10 at hV ⊢
  generalize w.heap.size + 1 = b6 at hV ⊢
  generalize w.heap.size = b5 at hV ⊢
  have f10 := hV.nth 0 rfl
  have t10 := World.at_lt f10
  have l10 := hV.low 0 rfl
  have HV := Lib.hid hV
  by_cases hg : 4 < n
  · have d : decide (4 < (n : Int)) = true := by rw [decide_eq_true_eq]; omega
    have hr0 : R = (Kd.zeros 32, 0, 200) := by rw [HR.out]; unfold checkF; rw [if_pos (by rw [HN.out]; omega)]
    clear hV
    have F := Lib.hid (HV.out.fr.put b10 (.cells (ints .u8 (Kd.zeros 32)) 34) (fun h => by omega))
    have HR0 := Lib.hid hr0
    clear hr0
    go_wp2_with fail
    refine ret_cell_tmp2 rfl rfl rfl ?_
    go_simp
    rw [HR0.out]
    exact ⟨by kernel_rfl, ⟨rfl, rfl, rfl⟩, F.out⟩
  · have d : decide (4 < (n : Int)) = false := by rw [decide_eq_false_iff_not]; omega
    have d4 : decide ((server : Int) < 4) = true := by rw [decide_eq_true_eq]; omega
    have f6 := hV.nth 1 rfl
    have t6 := World.at_lt f6
    clear hV
    go_wp2_with fail
    obtain ⟨k0, hk0⟩ : ∃ k0, k0 = List.drop (server * 32) (List.take (server * 32 + 32) C) := ⟨_, rfl⟩
    have e13 : (List.drop (server * 32) (List.take (server * 32 + 32) (List.map (Value.int .u8) C))).toArray = ints .u8 k0 := by rw [hk0, ints, List.map_drop, List.map_take]
    have lk0 : k0.length = 32 := by rw [hk0, List.length_drop, List.length_take]; omega
    have bk0 : isBytes k0 := fun x hx => HCB.out x (by rw [hk0] at hx; exact List.mem_of_mem_take (List.mem_of_mem_drop hx))
    rw [e13, ← hk0]
    obtain ⟨K0, hK0⟩ : ∃ K0, K0 = chainF T (firstC C) (needC C) server xs 0 k0 := ⟨_, rfl⟩
    have hR1 : R = endF C server now xs K0 := by rw [HR.out, checkF_end (by omega) (by rw [HN.out]; omega) hC, hK0, hk0]
    have HR1 := Lib.hid hR1
    have HK0 := Lib.hid hK0
    have HBK := Lib.hid bk0
    refine named_world (A := fun X => OwB w [(V.heap.size, .cells (ints .u8 k0) 34), (b10, .cells (ints .u8 (zs 32)) 34), (b6, .cells (ints .u8 C) 38), (b5, .cells #[.pointer (some ⟨tb, 0, none⟩)] 27)] X) (Q := fun X => Code.wp _ _ _ _ X) (HV.out.allocN _ V.heap.size rfl) ?_
    intro U hU
    clear f10 t10 f6 t6 hR1 hK0 bk0 hk0 e13
    generalize V.heap.size = b13 at hU ⊢
    have HU := Lib.hid hU
    clear hU
    rw [d]
    go_loopw [31] (fun iv wy => ∃ (i : Nat) (k : List Int), i ≤ n ∧ iv = .int .i64 (i : Int) ∧ k.length = 32 ∧ Hid (isBytes k) ∧ Hid (OwB w [(b13, .cells (ints .u8 k) 34), (b10, .cells (ints .u8 (zs 32)) 34), (b6, .cells (ints .u8 C) 38), (b5, .cells #[.pointer (some ⟨tb, 0, none⟩)] 27)] wy) ∧ Hid (K0 = chainF T (firstC C) (needC C) server (xs.drop i) i k)) (fun iv _ => (n - intOf iv).toNat)
    case atStart => exact ⟨0, k0, by omega, rfl, lk0, HBK, HU, HK0⟩
    case round =>
      obtain ⟨i, k, hi9, rfl, hk, hbk, hO, hKi⟩ := hrel
      by_cases hlt : i < n
      · have hd : decide ((i : Int) < (n : Int)) = true := by rw [decide_eq_true_eq]; omega
        obtain ⟨b, off, cs, TT, fr, rfl, fc0, hs1, hs2, hext⟩ := HS.out.elem hlt
        obtain ⟨y, hyi⟩ : ∃ y, ys[i]? = some y := ⟨ys[i]'(by rw [HNY.out]; exact hlt), List.getElem?_eq_getElem _⟩
        have hoy := HX.out y (List.mem_of_getElem? hyi)
        rw [ysL, flatMap_part (fun y => (oeC y).toList) 101 ys i y (fun y hy => by rw [Array.length_toList, oeC_size (HX.out y hy)]) hyi] at hext
        obtain ⟨x, q0, m0, c0⟩ := y
        have hxi : xs[i]? = some x := by rw [HXS.out, List.getElem?_map, hyi]; rfl
        have hox : ObK x := hoy.ok
        have HOY := Lib.hid hoy
        change _ = ((oC x (.slice q0 m0 c0)).toList).toArray at hext
        have fc := hO.out.fr.get fc0 (by simp)
        obtain ⟨X, hX⟩ : ∃ X, X = oC x (.slice q0 m0 c0) := ⟨_, rfl⟩
        have hext2 : cs.extract (off + i * 101) (off + i * 101 + 101) = X := by rw [hext, hX]
        have HXE := Lib.hid hX
        have hszX : X.size = 101 := by rw [hX, List.size_toArray, cObject_length _ _ _ _ _ _ _ hox.kl hox.sl]
        have xones : ones X.toList = true := by rw [hX]; exact List.all_eq_true.2 (cObject_one _ _ _ _ _ _ _ rfl rfl rfl rfl rfl)
        have HOX := Lib.hid hox
        have HXI := Lib.hid hxi
        clear hext hX hox hxi fc0 hoy hyi
        go_upto_region 7 with (fail)
        refine named_world (A := fun Y => OwB w [(wr.heap.size, .cells X 48), (b13, .cells (ints .u8 k) 34), (b10, .cells (ints .u8 (zs 32)) 34), (b6, .cells (ints .u8 C) 38), (b5, .cells #[.pointer (some ⟨tb, 0, none⟩)] 27)] Y) (Q := fun Y => Code.wp _ _ _ _ Y) (hO.out.allocN _ wr.heap.size rfl) ?_
        intro U1 hU1
        clear fc hext2 hs1 hs2
        generalize wr.heap.size = bx at hU1 ⊢
        have HU1 := Lib.hid hU1
        obtain ⟨bad, hbad⟩ : ∃ bad, bad = (decide (x.server ≠ (server : Int)) || decide (x.n ≠ (i : Int) + 1) || !verifyF T k (objText x) x.sig || decide ((vouchers T (firstC C) x).length < needC C)) := ⟨_, rfl⟩
        have hKi2 : K0 = if bad = true then none else chainF T (firstC C) (needC C) server (xs.drop (i + 1)) (i + 1) x.key := by
          have hil : i < xs.length := by rw [HN.out]; exact hlt
          rw [hKi.out, List.drop_eq_getElem_cons hil, hbad, show xs[i] = x from (List.getElem?_eq_some_iff.1 HXI.out).2]
          exact chainF_cons2
        have HKI := Lib.hid hKi2
        have HBAD := Lib.hid hbad
        clear hKi2 hbad hU1
        go_cut [36, 37, 38, 39, 40, 41, 42, 43, 44, 45, 46, 47, 48, 49, 50, 51, 52, 53, 54, 55, 56, 57, 58, 59, 60, 61, 62, 63, 64, 65, 66, 67] (fun _ _ _ _ _ _ _ _ _ _ _ _ _ _ _ _ _ _ _ _ _ _ _ _ _ _ _ _ _ _ _ v wy => v = .bool bad ∧ Hid (OwB w [(bx, .cells X 48), (b13, .cells (ints .u8 k) 34), (b10, .cells (ints .u8 (zs 32)) 34), (b6, .cells (ints .u8 C) 38), (b5, .cells #[.pointer (some ⟨tb, 0, none⟩)] 27)] wy))
        case first =>
          have fx := HU1.out.nth 0 rfl
          have tx := World.at_lt fx
          have x0 : X[0]? = some (.int .u8 x.server) := by rw [HXE.out]; exact cObject_get_server _ _ _ _ _ _ _ HOX.out.kl HOX.out.sl
          replace x0 := (Array.getElem?_eq_some_iff.1 x0).2
          have x1 : X[1]? = some (.int .u8 x.n) := by rw [HXE.out]; exact cObject_get_n _ _ _ _ _ _ _ HOX.out.kl HOX.out.sl
          replace x1 := (Array.getElem?_eq_some_iff.1 x1).2
          have hne : Nonempty Unit := ⟨()⟩
          have w1 : IntKind.i64.wrap ((i : Int) + 1) = (i : Int) + 1 := by rw [IntKind.wrap_i64]; omega
          have w2 : IntKind.i64.wrap x.n = x.n := by have h0 := HOX.out.n0; have h1 := HOX.out.n1; rw [IntKind.wrap_i64]; omega
          by_cases hA : x.server = (server : Int)
          · have dA : (x.server != (server : Int)) = false := by simp [hA]
            by_cases hB : x.n = (i : Int) + 1
            · have dB : (x.n != (i : Int) + 1) = false := by simp [hB]
              have HA := Lib.hid hA
              have HB := Lib.hid hB
              clear hA hB
              have f13 := HU1.out.nth 1 rfl
              have f6 := HU1.out.nth 3 rfl
              have f5 := HU1.out.nth 4 rfl
              have xall : X.extract 0 101 = X := by rw [← hszX]; exact Array.extract_size
              have xsig : X.extract 36 100 = ints .u8 x.sig := by rw [HXE.out]; exact cObject_ext_sig _ _ _ _ _ _ _ HOX.out.kl HOX.out.sl
              have c1 : ∀ W : World, Calls Tryz.prog 44 #[.agg X] W fun e w' => ∃ q m c, e = .returned (.slice q m c) ∧ Bld W [] .u8 5 w' q m c (objText x) := fun W => by rw [HXE.out]; exact otext_v HOX.out rfl
              obtain ⟨vl, hvl⟩ : ∃ vl, vl = (vouchers T (firstC C) x).length := ⟨_, rfl⟩
              have c3 : ∀ W : World, Fr [] w W → Calls Tryz.prog 49 #[SU tb, .agg (ints .u8 C), .agg X] W fun e w' => e = .returned (.int .i64 vl) ∧ Fr [] W w' := fun W F => by rw [HXE.out, hvl]; exact vouched_v (H.out.fr0 F) hC HCB.out HOX.out (HOY.out.vs.fr0 F) HOY.out.vok HOY.out.len HOY.out.le
              rw [← hvl] at HBAD
              have C1 := Lib.hid c1
              have C3 := Lib.hid c3
              have hnd0 : 0 ≤ el C 132 ∧ el C 132 < 256 := HCB.out _ (by rw [el, List.getD_eq_getElem?_getD, List.getElem?_eq_getElem (by omega)]; simp)
              have w3 : IntKind.i64.wrap (el C 132) = (needC C : Int) := by rw [IntKind.wrap_i64]; unfold needC; omega
              have l132 : 132 < C.length := by omega
              have t13 := World.at_lt f13
              have t6 := World.at_lt f6
              have t5 := World.at_lt f5
              have HVL := Lib.hid hvl
              clear c1 c3 hnd0 hvl
              refine drawn_begin 32 (fun w' => w'.blk bx = some (.cells X 48) ∧ w'.blk b13 = some (.cells (ints .u8 k) 34) ∧ w'.blk b6 = some (.cells (ints .u8 C) 38) ∧ w'.blk b5 = some (.cells #[.pointer (some ⟨tb, 0, none⟩)] 27)) (by kernel_rfl) ?_
              refine drawn_reads (fuel := 14) [0, 1, 2, 3, 4, 5, 6, 7, 8, 9, 10, 11, 12, 13, 14, 15, 17, 18] rfl (by kernel_rfl) ⟨fx, f13, f6, f5⟩ ?_
              repeat (first | (refine rowK_step2 rfl rfl (fun K hK => ?_); go_wp2) | (refine rowK_step rfl (fun K hK => ?_); go_simp; refine hK _ ?_; clear hK K))
              refine rowK_nil ⟨fun w' e1 => ?_, ?_⟩
              · obtain ⟨e1, e2, e3, e4⟩ := e1
                clear fx f13 f6 f5
                repeat (first | (refine rowWp_step2 rfl rfl (fun K hK => ?_); go_wp2) | (refine rowWp_step rfl (fun K hK => ?_); go_simp; refine hK _ ?_; clear hK K))
                exact rowWp_nil rfl
              refine drawn_next 16 (fuel := 13) rfl (by kernel_rfl) ?_
              intro K hK
              go_wp2_with fail
              refine (C1.out _).mono ?_
              rintro e U2 ⟨q, m, c, rfl, hB⟩
              have hU2 := HU1.out.drew.call hB.own.fr
              clear fx f13 f6 f5 tx t13 t6 t5
              have fx := hU2.nth 0 rfl
              have f13 := hU2.nth 1 rfl
              have f6 := hU2.nth 3 rfl
              have f5 := hU2.nth 4 rfl
              have tx := World.at_lt fx
              have t13 := World.at_lt f13
              have t6 := World.at_lt f6
              have t5 := World.at_lt f5
              have HU2 := Lib.hid hU2
              have HBt := Lib.hid hB
              clear hU2 hB
              go_wp2_with fail
              refine ⟨⟨fx, f13, f6, f5⟩, ?_⟩
              refine drawn_next 19 (fuel := 12) rfl (by kernel_rfl) ?_
              intro K hK
              go_wp2_with fail
              refine (verify_s (H.out.fr0 HU2.out.fr) hk hbk.out HBt.out.sl (isBytes_objK HOX.out) HOX.out.sl HOX.out.sb).mono ?_
              rintro e U3 ⟨rfl, F3⟩
              have hU3 := HU2.out.call F3
              clear fx f13 f6 f5 tx t13 t6 t5 F3
              have fx := hU3.nth 0 rfl
              have f13 := hU3.nth 1 rfl
              have f6 := hU3.nth 3 rfl
              have f5 := hU3.nth 4 rfl
              have tx := World.at_lt fx
              have t13 := World.at_lt f13
              have t6 := World.at_lt f6
              have t5 := World.at_lt f5
              have HU3 := Lib.hid hU3
              clear hU3
              have hb : bad = (!verifyF T k (objText x) x.sig || decide (vl < needC C)) := by rw [HBAD.out]; simp [HA.out, HB.out]
              generalize verifyF T k (objText x) x.sig = vb at hb ⊢
              have HBB := Lib.hid hb
              clear hb
              go_wp2_with fail
              refine ⟨⟨fx, f13, f6, f5⟩, ?_⟩
              cases vb with
              | false =>
                refine drawn_reads (fuel := 0) [20, 21, 22, 23, 24, 25, 26, 27, 28, 29, 30, 31] rfl (by kernel_rfl) ⟨fx, f13, f6, f5⟩ ?_
                repeat (first | (refine rowK_step2 rfl rfl (fun K hK => ?_); go_wp2) | (refine rowK_step rfl (fun K hK => ?_); go_simp; refine hK _ ?_; clear hK K))
                refine rowK_nil ⟨fun w' e1 => ?_, ?_⟩
                · obtain ⟨e1, e2, e3, e4⟩ := e1
                  clear fx f13 f6 f5
                  repeat (first | (refine rowWp_step2 rfl rfl (fun K hK => ?_); go_wp2) | (refine rowWp_step rfl (fun K hK => ?_); go_simp; refine hK _ ?_; clear hK K))
                  exact rowWp_nil rfl
                refine drawn_end (ol := []) rfl (by kernel_rfl) ?_
                intro K hK
                go_wp2_with fail
                go_meet
                case rel => exact ⟨by rw [HBB.out]; rfl, HU3⟩
              | true =>
                refine drawn_reads (fuel := 3) [20, 21, 22, 23, 24, 25, 27, 28, 29] rfl (by kernel_rfl) ⟨fx, f13, f6, f5⟩ ?_
                repeat (first | (refine rowK_step2 rfl rfl (fun K hK => ?_); go_wp2) | (refine rowK_step rfl (fun K hK => ?_); go_simp; refine hK _ ?_; clear hK K))
                refine rowK_nil ⟨fun w' e1 => ?_, ?_⟩
                · obtain ⟨e1, e2, e3, e4⟩ := e1
                  clear fx f13 f6 f5
                  repeat (first | (refine rowWp_step2 rfl rfl (fun K hK => ?_); go_wp2) | (refine rowWp_step rfl (fun K hK => ?_); go_simp; refine hK _ ?_; clear hK K))
                  exact rowWp_nil rfl
                refine drawn_next 26 (fuel := 2) rfl (by kernel_rfl) ?_
                intro K hK
                go_wp2_with fail
                refine (C3.out _ HU3.out.fr).mono ?_
                rintro e U4 ⟨rfl, F4⟩
                have hU4 := HU3.out.call F4
                clear fx f13 f6 f5 tx t13 t6 t5 F4
                have fx := hU4.nth 0 rfl
                have f13 := hU4.nth 1 rfl
                have f6 := hU4.nth 3 rfl
                have f5 := hU4.nth 4 rfl
                have tx := World.at_lt fx
                have HU4 := Lib.hid hU4
                clear hU4
                have HBB2 : Hid (bad = decide (vl < needC C)) := Lib.hid (by rw [HBB.out]; simp)
                go_wp2_with fail
                refine ⟨⟨fx, f13, f6, f5⟩, ?_⟩
                refine drawn_reads (fuel := 0) [30, 31] rfl (by kernel_rfl) ⟨fx, f13, f6, f5⟩ ?_
                repeat (first | (refine rowK_step2 rfl rfl (fun K hK => ?_); go_wp2) | (refine rowK_step rfl (fun K hK => ?_); go_simp; refine hK _ ?_; clear hK K))
                refine rowK_nil ⟨fun w' e1 => ?_, ?_⟩
                · repeat (first | (refine rowWp_step2 rfl rfl (fun K hK => ?_); go_wp2) | (refine rowWp_step rfl (fun K hK => ?_); go_simp; refine hK _ ?_; clear hK K))
                  exact rowWp_nil rfl
                refine drawn_end (ol := []) rfl (by kernel_rfl) ?_
                intro K hK
                go_wp2_with fail
                go_meet
                case rel => exact ⟨by rw [HBB2.out], HU4⟩
            · have dB : (x.n != (i : Int) + 1) = true := by simp [hB]
              have hb : bad = true := by rw [HBAD.out]; simp [hB]
              have HB := Lib.hid hb
              clear hA hB hb
              refine wp_region_quiet_all (C := fun w' => ∃ _ : Unit, w' = U1.drew) (by kernel_rfl) (by kernel_rfl) ⟨(), rfl⟩ ?_
              repeat (go_big_quiet_step (fail))
              refine wpQuiet_nil ?_
              intro _ hw'
              obtain ⟨_, rfl⟩ := hw'
              go_wp2_with fail
              go_meet
              case rel => exact ⟨by rw [HB.out], Lib.hid HU1.out.drew⟩
          · have dA : (x.server != (server : Int)) = true := by simp [hA]
            have hb : bad = true := by rw [HBAD.out]; simp [hA]
            have HB := Lib.hid hb
            clear hA hb
            refine wp_region_quiet_all (C := fun w' => ∃ _ : Unit, w' = U1.drew) (by kernel_rfl) (by kernel_rfl) ⟨(), rfl⟩ ?_
            repeat (go_big_quiet_step (fail))
            refine wpQuiet_nil ?_
            intro _ hw'
            obtain ⟨_, rfl⟩ := hw'
            go_wp2_with fail
            go_meet
            case rel => exact ⟨by rw [HB.out], Lib.hid HU1.out.drew⟩
        case rest =>
          obtain ⟨rfl, hO2⟩ := hcut
          have f13 := hO2.out.nth 1 rfl
          have fx := hO2.out.nth 0 rfl
          have f10 := hO2.out.nth 2 rfl
          have t13 := World.at_lt f13
          have tx := World.at_lt fx
          have t10 := World.at_lt f10
          cases bad with
          | true =>
            have hr0 : R = (Kd.zeros 32, 0, 200) := by rw [HR1.out, HKI.out]; rfl
            have HR0 := Lib.hid hr0
            have F := Lib.hid (hO2.out.fr.put b10 (.cells (ints .u8 (Kd.zeros 32)) 34) (fun h => by omega))
            clear hr0
            go_wp2_with fail
            refine ret_cell_tmp2 rfl rfl rfl ?_
            go_simp
            rw [HR0.out]
            exact ⟨by kernel_rfl, ⟨rfl, rfl, rfl⟩, F.out⟩
          | false =>
            have xkey : X.extract 2 34 = ints .u8 x.key := by rw [HXE.out]; exact cObject_ext_key _ _ _ _ _ _ _ HOX.out.kl HOX.out.sl
            have lk := HOX.out.kl
            go_wp2_with fail
            go_roundw
            case rel =>
              refine ⟨i + 1, x.key, by omega, by simp, HOX.out.kl, Lib.hid HOX.out.kb, Lib.hid ?_, Lib.hid (by rw [HKI.out]; rfl)⟩
              exact hO2.out.take.set 0 _ rfl
            case measure => simp [intOf]; omega
      · obtain rfl : i = n := by omega
        have hd : decide ((i : Int) < (i : Int)) = false := by simp
        have hK1 : K0 = some k := by rw [hKi.out, List.drop_eq_nil_of_le (by rw [HN.out]; exact Nat.le_refl _)]; rfl
        have HK1 := Lib.hid hK1
        have f6 := hO.out.nth 2 rfl
        have f10 := hO.out.nth 1 rfl
        have f13 := hO.out.nth 0 rfl
        have t6 := World.at_lt f6
        have t10 := World.at_lt f10
        have t13 := World.at_lt f13
        have hh := HCB.out (el C (128 + server)) (by rw [el, List.getD_eq_getElem?_getD, List.getElem?_eq_getElem (by omega)]; simp)
        have lC : 128 + server < C.length := by omega
        have hs5 : server < 5 := by omega
        have hs6 : 128 + server < 133 := by omega
        obtain ⟨hi, hhi⟩ : ∃ hi, hi = el C (128 + server) := ⟨_, rfl⟩
        have w5 : IntKind.i64.wrap hi = hi := by rw [IntKind.wrap_i64]; omega
        have HHI := Lib.hid hhi
        rw [hhi] at w5
        clear hK1 hh hhi
        by_cases hlow : (i : Int) < el C (128 + server)
        · have dl : decide ((i : Int) < el C (128 + server)) = true := by rw [decide_eq_true_eq]; exact hlow
          have hr0 : R = (Kd.zeros 32, 0, 210) := by rw [HR1.out, HK1.out]; exact endF_low (by rw [HN.out]; exact hlow)
          have HR0 := Lib.hid hr0
          have F := Lib.hid (hO.out.fr.put b10 (.cells (ints .u8 (Kd.zeros 32)) 34) (fun h => by omega))
          clear hr0
          go_wp2_with fail
          refine ret_cell_tmp2 rfl rfl rfl ?_
          go_simp
          rw [HR0.out]
          exact ⟨by kernel_rfl, ⟨rfl, rfl, rfl⟩, F.out⟩
        · have dl : decide ((i : Int) < el C (128 + server)) = false := by rw [decide_eq_false_iff_not]; exact hlow
          have hlow2 : ¬ (xs.length : Int) < el C (128 + server) := by rw [HN.out]; exact hlow
          have w6 : IntKind.u8.wrap (i : Int) = (i : Int) := by rw [IntKind.wrap_u8]; omega
          cases hlast : xs.getLast? with
          | none =>
            have hr0 : R = (k, (i : Int), 0) := by rw [HR1.out, HK1.out, endF_none hlow2 hlast, HN.out]
            have HR0 := Lib.hid hr0
            have hi0 : i = 0 := by
              rw [List.getLast?_eq_none_iff] at hlast
              have h2 := HN.out
              rw [hlast] at h2
              simpa using h2.symm
            have di : decide ((i : Int) > 0) = false := by rw [hi0]; rfl
            have di2 : decide (0 < (i : Int)) = false := by rw [hi0]; rfl
            have di3 : decide (0 < i) = false := by rw [hi0]; rfl
            clear hi0
            have F := Lib.hid (hO.out.fr.put b10 (.cells (ints .u8 k) 34) (fun h => by omega))
            clear hr0 hlow2 hlast hlow
            go_wp2_with fail
            refine ret_cell_tmp2 rfl rfl rfl ?_
            go_simp
            rw [HR0.out]
            exact ⟨by kernel_rfl, ⟨rfl, rfl, rfl⟩, F.out⟩
          | some x =>
            have hr1 := endF_some (k := k) (now := now) hlow2 hlast
            rw [← HK1.out, ← HR1.out, HN.out] at hr1
            have HRR := Lib.hid hr1
            obtain ⟨j, hj⟩ : ∃ j, i = j + 1 := by
              refine ⟨i - 1, ?_⟩
              have : xs ≠ [] := fun e => by rw [e] at hlast; cases hlast
              have := List.length_pos_iff.2 this
              have h2 := HN.out
              omega
            have hxj : xs[j]? = some x := by
              rw [List.getLast?_eq_getElem?] at hlast
              rw [HN.out, hj] at hlast
              exact hlast
            obtain ⟨y, hyj, hyx⟩ : ∃ y, ys[j]? = some y ∧ y.x = x := by
              rw [HXS.out, List.getElem?_map] at hxj
              cases hy : ys[j]? with
              | none => rw [hy] at hxj; cases hxj
              | some y => rw [hy] at hxj; exact ⟨y, rfl, Option.some.inj hxj⟩
            have hoy := HX.out y (List.mem_of_getElem? hyj)
            have hox := hoy.ok
            obtain ⟨b, off, cs, TT, fr, rfl, fc0, hs1, hs2, hext⟩ := HS.out.elem (j := j) (by omega)
            rw [ysL, flatMap_part (fun y => (oeC y).toList) 101 ys j y (fun y hy => by rw [Array.length_toList, oeC_size (HX.out y hy)]) hyj] at hext
            subst hyx
            have fc := hO.out.fr.get fc0 (by simp)
            have g3 : cs[off + j * 101 + 34]? = some (.int .u32 y.x.frm) := by
              have h1 : (cs.extract (off + j * 101) (off + j * 101 + 101))[34]? = some (.int .u32 y.x.frm) := by rw [hext]; exact cObject_get_frm _ _ _ _ _ _ _ hox.kl hox.sl
              rwa [Array.getElem?_extract_of_lt (by omega), ← Array.getElem?_eq_getElem] at h1
            have g4 : cs[off + j * 101 + 35]? = some (.int .u32 y.x.til) := by
              have h1 : (cs.extract (off + j * 101) (off + j * 101 + 101))[35]? = some (.int .u32 y.x.til) := by rw [hext]; exact cObject_get_til _ _ _ _ _ _ _ hox.kl hox.sl
              rwa [Array.getElem?_extract_of_lt (by omega), ← Array.getElem?_eq_getElem] at h1
            have g3' := (Array.getElem?_eq_some_iff.1 g3).2
            have g4' := (Array.getElem?_eq_some_iff.1 g4).2
            have hi0 : decide ((i : Int) > 0) = true := by rw [decide_eq_true_eq]; omega
            have w7 : IntKind.i64.wrap ((i : Int) - 1) = (j : Int) := by rw [IntKind.wrap_i64]; omega
            have dj : decide ((j : Int) < (i : Int)) = true := by rw [decide_eq_true_eq]; omega
            have hji : j < i := by omega
            have HJ := Lib.hid hj
            have F := Lib.hid (hO.out.fr.put b10 (.cells (ints .u8 k) 34) (fun h => by omega))
            have F2 := Lib.hid (hO.out.fr.put b10 (.cells (ints .u8 (Kd.zeros 32)) 34) (fun h => by omega))
            clear hr1 hlow2 hlast hlow hj hxj hox hext fc0 hoy hyj
            by_cases hw1 : (now : Int) < y.x.frm
            · have dw : decide ((now : Int) < y.x.frm) = true := by rw [decide_eq_true_eq]; exact hw1
              have hr0 : R = (Kd.zeros 32, 0, 201) := by rw [HRR.out, if_pos (Or.inl hw1)]
              have HR0 := Lib.hid hr0
              clear hr0 hw1
              go_wp2_with fail
              refine ret_cell_tmp2 rfl rfl rfl ?_
              go_simp
              rw [HR0.out]
              exact ⟨by kernel_rfl, ⟨rfl, rfl, rfl⟩, F2.out⟩
            · have dw : decide ((now : Int) < y.x.frm) = false := by rw [decide_eq_false_iff_not]; exact hw1
              by_cases hw2 : y.x.til ≤ (now : Int)
              · have dw2 : decide ((now : Int) ≥ y.x.til) = true := by rw [decide_eq_true_eq]; exact hw2
                have dw3 : decide (y.x.til ≤ (now : Int)) = true := by rw [decide_eq_true_eq]; exact hw2
                have hr0 : R = (Kd.zeros 32, 0, 201) := by rw [HRR.out, if_pos (Or.inr hw2)]
                have HR0 := Lib.hid hr0
                clear hr0 hw1 hw2
                go_wp2_with fail
                refine ret_cell_tmp2 rfl rfl rfl ?_
                go_simp
                rw [HR0.out]
                exact ⟨by kernel_rfl, ⟨rfl, rfl, rfl⟩, F2.out⟩
              · have dw2 : decide ((now : Int) ≥ y.x.til) = false := by rw [decide_eq_false_iff_not]; exact hw2
                have dw3 : decide (y.x.til ≤ (now : Int)) = false := by rw [decide_eq_false_iff_not]; exact hw2
                have hr0 : R = (k, (i : Int), 0) := by rw [HRR.out, if_neg (by omega)]
                have HR0 := Lib.hid hr0
                clear hr0 hw1 hw2
                go_wp2_with fail
                refine ret_cell_tmp2 rfl rfl rfl ?_
                go_simp
                rw [HR0.out]
                exact ⟨by kernel_rfl, ⟨rfl, rfl, rfl⟩, F.out⟩
end
end Go.Proofs.YtbhnfohoclcjdaaGreat
