/- The document's numbers: fold, the walk. -/
import Derived.Test.YtakhmmnklkckpaaRfB
namespace Go.Proofs.Ytakhmmnklkckpaa
open Go.RowKit Go.Dr

theorem E76 : ElemT Try.prog 76 3 1 8 (ints .i64 (zs 1)) := ⟨Try.underlying76, by kernel_rfl, by rw [size_ints, length_zs]⟩
@[go_sem] theorem mk76 (w : World) (kl kc : IntKind) (l c : Int) (h0 : 0 ≤ l) (hlc : l ≤ c) (hc : c ≤ 1099511627776) :
    (Instr.makeSlice 76 (.int kl l) (.int kc c)).run Try.prog w = .ok (.slice (some ⟨w.heap.size, 0, none⟩) l.toNat c.toNat) (w.alloc (.cells (ints .i64 (zs c.toNat)) 3)) := by
  rw [E76.make w kl kc l c h0 hlc (by omega) (by omega), madeCells_ints _ _ _ (by omega), Nat.mul_one]
@[go_sem] theorem one76 (w : World) (x : Int) : (buildOneK 76 #[(0, .int .i64 x)]).run Try.prog w = .ok (.slice (some ⟨w.heap.size, 0, none⟩) 1 1) (w.alloc (.cells #[.int .i64 x] 3)) :=
  E76.buildOne (by omega) (by omega) w (.int .i64 x) rfl
@[go_sem] theorem spl_rowR (k : IntKind) (l : List Int) (r : Array Value) (i : Nat) (x : Int) (h : i < l.length) : spl (rowR k l r) i [.int k x] = rowR k (l.set i x) r := by
  rw [spl_one _ _ _ (by rw [size_rowR]; omega), set_rowR _ _ _ _ _ h]
/-- The value of a row of cells. -/
def cellsV (cs : Array Value) : Nat → Int
  | 0 => 0
  | i + 1 => cellsV cs i + intOf (cs.getD i undef) * 65536 ^ i
theorem cellsV_row (l : List Int) (r : Array Value) : ∀ n, n ≤ l.length → cellsV (rowR .i64 l r) n = pre l n
  | 0, _ => rfl
  | n + 1, h => by
    rw [cellsV, pre, cellsV_row l r n (by omega)]
    have := getElem?_rowR .i64 l r n (by omega)
    rw [Array.getD_eq_getD_getElem?, this]
    rfl
/-- What the great loop counts down. -/
def msr (v : Value) (w : World) : Nat :=
  match v with
  | .slice (some a) n _ => match w.blk a.block with
    | some (.cells cs _ _) => 64 * (cellsV cs n).toNat + n
    | _ => 0
  | _ => 0
theorem msr_row {w : World} {b : Nat} {l : List Int} {r : Array Value} {T : TypeId} {fr : Nat × Nat} (h : w.blk b = some (.cells (rowR .i64 l r) T fr)) (cap : Nat) :
    msr (.slice (some ⟨b, 0, none⟩) l.length cap) w = 64 * (pre l l.length).toNat + l.length := by
  simp only [msr, h, cellsV_row l r _ (Nat.le_refl _)]
theorem el_zs (n j : Nat) : el (zs n) j = 0 := by
  unfold el zs
  rw [List.getD_eq_getElem?_getD, List.getElem?_replicate]
  split <;> rfl
theorem copy_digs (X m : Nat) (hm : m ≤ 16) (hX : X < 65536 ^ m) : upd (el (digN X m)) (zs 16) m = digs X := by
  apply el_ext
  · rw [length_upd _ _ _ (by rw [length_zs]; omega), length_zs, length_digs]
  · intro j hj
    rw [length_upd _ _ _ (by rw [length_zs]; omega), length_zs] at hj
    rw [el_upd, el_digs _ _ hj, el_digN]
    by_cases h : j < m
    · rw [if_pos h, if_pos h]
    · rw [if_neg h, Nat.div_eq_of_lt (Nat.lt_of_lt_of_le hX (Nat.pow_le_pow_right (by omega) (by omega)))]
      rw [el_zs]; rfl
/-- What the last loop counts down. -/
def mA (b : Nat) (w : World) : Nat :=
  match w.blk b with
  | some (.cells cs _ _) => (cellsV cs 16).toNat
  | _ => 0
theorem mA_digs {w : World} {b v : Nat} {T : TypeId} {fr : Nat × Nat} (h : w.blk b = some (.cells (ints .i64 (digs v)) T fr)) (hv : v < 65536 ^ 16) : mA b w = v := by
  have h' := h
  rw [← rowR_nil] at h'
  simp only [mA, h']
  rw [cellsV_row _ _ 16 (by rw [length_digs]; omega), digs_digN, pre_digN _ _ _ (Nat.le_refl _), Nat.mod_eq_of_lt hv, Int.toNat_natCast]
section
variable {w : World}
set_option maxRecDepth 100000 in
set_option maxHeartbeats 4000000 in
theorem fold_walk (b0 : Nat) (l0 : List Int) (r0 : Array Value) (hb : w.blk b0 = some (.cells (rowR .i64 l0 r0) 3)) (hr : l0.length + r0.size ≤ maxLen) (h1 : 1 ≤ l0.length) (h32 : l0.length ≤ 32)
    (hd : ∀ i, 0 ≤ el l0 i ∧ el l0 i ≤ 1099511627776) (hV : pre l0 l0.length < 65536 ^ 32) :
    Calls Try.prog 68 #[.slice (some ⟨b0, 0, none⟩) l0.length (l0.length + r0.size)] w fun e w' => e = .returned (nm ((pre l0 l0.length).toNat % pN)) ∧ Fr [b0] w w' := by
  have hbl := World.at_lt hb
  go_enter Try.func68, Try.ntmps68
  go_wp2
  obtain ⟨V, hVe⟩ : ∃ V, V = (w.alloc (.cells (ints .i64 (zs 16)) 32)).alloc (.cells (ints .i64 (zs 16)) 32) := ⟨_, rfl⟩
  refine Eq.mp (congrArg (fun X => Code.wp _ _ _ _ X) hVe) ?_
  have h0 : V.blk w.heap.size = some (.cells (ints .i64 (zs 16)) 32) := by rw [hVe]; go_simp
  have h1' : V.blk (w.heap.size + 1) = some (.cells (ints .i64 (zs 16)) 32) := by rw [hVe]; go_simp
  have hb' : V.blk b0 = some (.cells (rowR .i64 l0 r0) 3) := by rw [hVe]; go_simp
  have HFV := Lib.hid (show Fr [b0] w V by rw [hVe]; exact ((Fr.refl _ _).alloc _).alloc _)
  clear hVe
  go_loopw [0] (fun dv wr => ∃ (b : Nat) (l : List Int) (r : Array Value), dv = .slice (some ⟨b, 0, none⟩) l.length (l.length + r.size) ∧ wr.blk b = some (.cells (rowR .i64 l r) 3) ∧ l.length + r.size ≤ maxLen ∧ 1 ≤ l.length ∧ l.length ≤ 32 ∧
    Hid (∀ i, 0 ≤ el l i ∧ el l i ≤ 1099511627776) ∧ Hid (pre l l.length < 65536 ^ 32) ∧ Hid ((pre l l.length).toNat % pN = (pre l0 l0.length).toNat % pN) ∧
    wr.blk w.heap.size = some (.cells (ints .i64 (zs 16)) 32) ∧ wr.blk (w.heap.size + 1) = some (.cells (ints .i64 (zs 16)) 32) ∧ b ≠ w.heap.size ∧ b ≠ w.heap.size + 1 ∧ Hid (b = b0 ∨ w.heap.size ≤ b) ∧ Hid (Fr [b0] w wr)) (fun dv wr => msr dv wr)
  case atStart => exact ⟨b0, l0, r0, rfl, hb', hr, h1, h32, hd, hV, rfl, h0, h1', by omega, by omega, .inl rfl, HFV.out⟩
  case round =>
    obtain ⟨b, l, r, rfl, hbw, hcap, hl1, hl32, hD, hVl, hmod, g0, g1, n0, n1, hbo, hFw⟩ := hrel
    have n0' : w.heap.size ≠ b := fun e => n0 e.symm
    have n1' : w.heap.size + 1 ≠ b := fun e => n1 e.symm
    have hbwl := World.at_lt hbw
    clear h0 h1' hb' hb hbl h1 h32 hd hV hr
    go_wp2
    go_loopw [4, 5] (fun cv iv wv => ∃ i : Nat, i ≤ l.length ∧ iv = .int .i64 i ∧ cv = .int .i64 (pre l i / 65536 ^ i) ∧ Hid (Fr [b] wr wv) ∧ wv.blk b = some (.cells (rowR .i64 (upd (dg l) l i) r) 3)) (fun _ iv _ => l.length - (intOf iv).toNat)
    case atStart => exact ⟨0, Nat.zero_le _, rfl, rfl, Fr.refl _ _, by rw [upd_zero]; exact hbw⟩
    case round =>
      obtain ⟨i, hi, rfl, rfl, hFv, hbv⟩ := hrel
      have hbvl := World.at_lt hbv
      have hlu := length_upd (dg l) l i hi
      have hct := carry_lt hD.out i
      have hca := carry_add l i
      by_cases hlt : i < l.length
      · have hdi := hD.out i
        have hcn := carry_next l i
        have hel : el (upd (dg l) l i) i = el l i := by rw [el_upd, if_neg (by omega)]
        have hset : (upd (dg l) l i).set i (pre l (i + 1) / 65536 ^ i % 65536) = upd (dg l) l (i + 1) := set_upd (dg l) l i hlt
        have hnn : 0 ≤ pre l (i + 1) / 65536 ^ i := by omega
        clear hbwl
        have HBW := Lib.hid hbw
        clear hbw
        go_wp2
        go_roundw
        case rel => exact ⟨i + 1, by omega, by go_num, by rw [hcn], (hFv.out.put _ _ (by simp)), World.at_put_same _ _ _ hbvl⟩
        case measure => simp [intOf]; omega
      · obtain rfl : i = l.length := by omega
        have hfull : upd (dg l) l l.length = digN (pre l l.length).toNat l.length := by
          rw [upd_full _ _ _ rfl]; exact dg_digN (fun i => (hD.out i).1) l.length
        obtain ⟨X, hX⟩ : ∃ X, X = (pre l l.length).toNat := ⟨_, rfl⟩
        have hXi : pre l l.length = (X : Int) := by rw [hX, Int.toNat_of_nonneg (pre_nonneg (fun i => (hD.out i).1) _)]
        have hcx : pre l l.length / 65536 ^ l.length = ((X / 65536 ^ l.length : Nat) : Int) := by rw [hXi, Int.natCast_ediv, Int.natCast_pow]; rfl
        rw [hfull, ← hX] at hbv
        rw [hcx]
        have hX32 : X < 65536 ^ 32 := by have := hVl.out; rw [hXi] at this; exact Int.ofNat_lt.1 (by rw [Int.natCast_pow]; exact this)
        have HX32 := Lib.hid hX32
        have HCB : Hid (X / 65536 ^ l.length ≤ 1099511627776) := by have h := hct.2; rw [hcx] at h; exact Int.ofNat_le.1 h
        have hmod' : Hid (X % pN = (pre l0 l0.length).toNat % pN) := by have := hmod.out; rw [← hX] at this; exact this
        have v0 := hFv.out.get g0 (fun h => n0' (List.mem_singleton.1 h))
        have v1 := hFv.out.get g1 (fun h => n1' (List.mem_singleton.1 h))
        have HFb := Lib.hid (hFw.out.seq hFv.out (fun k hk hlt => by simp at hk; subst hk; rcases hbo.out with e | e; simp [e]; omega))
        have hmsr := msr_row hbw (l.length + r.size)
        rw [← hX] at hmsr
        have HM := Lib.hid hmsr
        have hcap' : Hid (l.length + r.size ≤ maxLen) := hcap
        have hdl := length_digN X l.length
        have hbo' := hbo
        clear hfull hct hca hlu hcx hmod hX32 g0 g1 hmsr hbw hbwl hFv hX hXi hVl
        go_wp2
        go_loopw [0, 4] (fun dv cv wv => ∃ (b' m : Nat) (r' : Array Value), dv = .slice (some ⟨b', 0, none⟩) m (m + r'.size) ∧ cv = .int .i64 ((X / 65536 ^ m : Nat) : Int) ∧ wv.blk b' = some (.cells (rowR .i64 (digN X m) r') 3) ∧ m + r'.size ≤ maxLen ∧
          l.length ≤ m ∧ m ≤ 32 ∧ Hid (X / 65536 ^ m ≤ 1099511627776) ∧ Hid (m = l.length ∨ 65536 ^ (m - 1) ≤ X) ∧ wv.blk w.heap.size = some (.cells (ints .i64 (zs 16)) 32) ∧ wv.blk (w.heap.size + 1) = some (.cells (ints .i64 (zs 16)) 32) ∧ b' ≠ w.heap.size ∧ b' ≠ w.heap.size + 1 ∧ Hid (b' = b0 ∨ w.heap.size ≤ b') ∧ Hid (Fr [b0] w wv)) (fun _ cv _ => (intOf cv).toNat)
        case atStart => exact ⟨b, l.length, r, rfl, rfl, hbv, hcap'.out, Nat.le_refl _, hl32, HCB, .inl rfl, v0, v1, n0, n1, hbo, HFb.out⟩
        case round =>
          obtain ⟨b', m, r', rfl, rfl, hbv', hcm, hlm, hm32, hcb, hml, y0, y1, q0, q1, hbo2, hFy⟩ := hrel
          have hyl := World.at_lt hbv'
          clear hbv v0 v1 hbvl HFb
          have hdm := length_digN X m
          by_cases hz : X / 65536 ^ m = 0
          · have hXm : X < 65536 ^ m := by
              rcases Nat.lt_or_ge X (65536 ^ m) with h | h
              · exact h
              · have := Nat.div_pos h (Nat.pow_pos (by omega)); omega
            rw [hz]
            have HXM := Lib.hid hXm
            clear hz hXm
            by_cases h16 : m ≤ 16
            · rw [show ((0 : Nat) : Int) = 0 from rfl]
              have HXP := Lib.hid (show X < 65536 ^ 16 from Nat.lt_of_lt_of_le HXM.out (Nat.pow_le_pow_right (by omega) h16))
              go_wp2
              rw [show decide ((m : Int) ≤ 16) = true from by simp; omega]
              have q1' : w.heap.size + 1 ≠ b' := fun e => q1 e.symm
              clear q0 n0 n1 n0' n1'
              go_loopw [8] (fun iv wv => ∃ k : Nat, k ≤ m ∧ iv = .int .i64 k ∧ Hid (Fr [w.heap.size + 1] wr wv) ∧ wv.blk (w.heap.size + 1) = some (.cells (ints .i64 (upd (el (digN X m)) (zs 16) k)) 32) ∧ wv.blk b' = some (.cells (rowR .i64 (digN X m) r') 3)) (fun iv _ => m - (intOf iv).toNat)
              case atStart => exact ⟨0, by omega, rfl, Fr.refl _ _, by rw [upd_zero]; exact y1, hbv'⟩
              case round =>
                obtain ⟨k, hk, rfl, hFk, hck, hdk⟩ := hrel
                have hckl := World.at_lt hck
                have hlu := length_upd (el (digN X m)) (zs 16) k (by rw [length_zs]; omega)
                rw [length_zs] at hlu
                by_cases hlt : k < m
                · have hset : (upd (el (digN X m)) (zs 16) k).set k (el (digN X m) k) = upd (el (digN X m)) (zs 16) (k + 1) := set_upd _ _ _ (by rw [length_zs]; omega)
                  have hk16 : k < 16 := by omega
                  clear y1 hbv' hyl
                  go_wp2
                  go_roundw
                  case rel => exact ⟨k + 1, by omega, by go_num, hFk.out.put _ _ (by simp), World.at_put_same _ _ _ hckl, by rw [World.at_put_other _ _ _ _ q1']; exact hdk⟩
                  case measure => simp [intOf]; omega
                · obtain rfl : k = m := by omega
                  rw [copy_digs X k h16 HXM.out] at hck hlu
                  have z0 := hFk.out.get y0 (fun h => by simp at h)
                  have HFz := Lib.hid (hFy.out.seq hFk.out (fun k hk hlt => by rw [List.mem_singleton.1 hk] at hlt; omega))
                  clear hbv' y0 y1 hyl hdk hckl hFk
                  rename_i wz
                  go_wp2
                  have hpre : Hid (X % pN = (pre l0 l0.length).toNat % pN) := hmod'
                  clear hmod' HM HCB hcap' hdl hbo' hml hcb HX32 hD hFw hbo hcap hl1 hl32
                  go_loopw [] (fun wv => ∃ v : Nat, Hid (v < 65536 ^ 16) ∧ Hid (v % pN = X % pN) ∧ wv.blk (w.heap.size + 1) = some (.cells (ints .i64 (digs v)) 32) ∧ wv.blk w.heap.size = some (.cells (ints .i64 (zs 16)) 32) ∧ Hid (Fr [b0] w wv)) (fun wv => mA (w.heap.size + 1) wv)
                  case atStart => exact ⟨X, HXP, rfl, hck, z0, HFz.out⟩
                  case round =>
                    obtain ⟨v, hv16, hvm, hv1, hv0, hFv⟩ := hrel
                    have hv1l := World.at_lt hv1
                    have hdv := length_digs v
                    have HMA := Lib.hid (mA_digs hv1 hv16.out)
                    clear hck z0 HFz
                    have hs : Has [(w.heap.size + 1, .cells (ints .i64 (digs v)) 32), (w.heap.size, .cells (ints .i64 (zs 16)) 32)] wr := .cons hv1 (.cons hv0 (.nil _))
                    obtain ⟨L, hL⟩ : ∃ L : List (Nat × Obj), L = [(w.heap.size + 1, .cells (ints .i64 (digs v)) 32), (w.heap.size, .cells (ints .i64 (zs 16)) 32)] := ⟨_, rfl⟩
                    rw [← hL] at hs
                    have HL := Lib.hid hL
                    clear hL
                    go_wp2
                    go_cut [92] (fun bv wc => bv = .bool (!decide (v < pN)) ∧ Has L wc ∧ Hid (Fr [b0] w wc))
                    case first =>
                      refine drawn_begin 4 (Has L) (by kernel_rfl) ?_
                      refine drawn_reads (fuel := 3) [0] rfl (by kernel_rfl) hs.drew ?_
                      repeat (refine rowK_step2 rfl rfl (fun K hK => ?_); go_wp2)
                      refine rowK_nil ⟨fun w' hw' => ?_, ?_⟩
                      · rw [HL.out] at hw'
                        have e1 := hw'.nth 0 rfl
                        repeat (refine rowWp_step2 rfl rfl (fun K hK => ?_); go_wp2)
                        exact rowWp_nil rfl
                      refine drawn_next 1 (fuel := 2) rfl (by kernel_rfl) ?_
                      intro K hK
                      go_wp2_with fail
                      refine prime_any.mono ?_
                      rintro e wa ⟨rfl, FA⟩
                      have sA := hs.drew.fr0 FA
                      simp only []
                      go_wp2
                      refine ⟨sA, ?_⟩
                      refine drawn_next 2 (fuel := 1) rfl (by kernel_rfl) ?_
                      intro K hK
                      go_wp2_with fail
                      refine (less_any v pN hv16.out (by decide)).mono ?_
                      rintro e wb ⟨rfl, FB⟩
                      have sB := sA.fr0 FB
                      have HFB := Lib.hid (((hFv.out.drew.trans (FA.mono (fun _ h => by cases h))).trans (FB.mono (fun _ h => by cases h))))
                      clear FA FB
                      simp only []
                      go_wp2
                      refine ⟨sB, ?_⟩
                      refine drawn_reads (fuel := 0) [3] rfl (by kernel_rfl) sB ?_
                      repeat (refine rowK_step2 rfl rfl (fun K hK => ?_); go_wp2)
                      refine rowK_nil ⟨fun w' hw' => ?_, ?_⟩
                      · repeat (refine rowWp_step2 rfl rfl (fun K hK => ?_); go_wp2)
                        exact rowWp_nil rfl
                      refine drawn_end (ol := []) rfl (by kernel_rfl) ?_
                      intro K hK
                      go_wp2
                      go_meet
                      case rel => exact ⟨rfl, sB, HFB.out⟩
                    case rest =>
                      obtain ⟨rfl, sC, hFC⟩ := hcut
                      have sC' := sC
                      rw [HL.out] at sC'
                      have c1 := sC'.nth 0 rfl
                      have c0 := sC'.nth 1 rfl
                      have c0l := World.at_lt c0
                      have c1l := World.at_lt c1
                      clear hv1 hv0 hv1l hs sC'
                      rename_i wc
                      by_cases hvp : v < pN
                      · rw [decide_eq_true hvp]
                        have HR : Hid (v = (pre l0 l0.length).toNat % pN) := by
                          show v = _
                          rw [← hpre.out, ← hvm.out, Nat.mod_eq_of_lt hvp]
                        clear hvp
                        go_wp2
                        refine ret_cell rfl rfl rfl ?_
                        go_simp
                        rw [← HR.out]
                        exact ⟨rfl, hFC.out.put _ _ (fun h => by omega)⟩
                      · rw [decide_eq_false hvp]
                        have hvp' : pN ≤ v := by omega
                        have HVP := Lib.hid hvp'
                        clear hvp hvp'
                        go_wp2
                        refine drawn_begin 3 (Has L) (by kernel_rfl) ?_
                        refine drawn_reads (fuel := 3) [0] rfl (by kernel_rfl) sC.drew ?_
                        repeat (refine rowK_step2 rfl rfl (fun K hK => ?_); go_wp2)
                        refine rowK_nil ⟨fun w' hw' => ?_, ?_⟩
                        · rw [HL.out] at hw'
                          have e1 := hw'.nth 0 rfl
                          repeat (refine rowWp_step2 rfl rfl (fun K hK => ?_); go_wp2)
                          exact rowWp_nil rfl
                        refine drawn_next 1 (fuel := 2) rfl (by kernel_rfl) ?_
                        intro K hK
                        go_wp2_with fail
                        refine prime_any.mono ?_
                        rintro e wa ⟨rfl, FA⟩
                        have sA := sC.drew.fr0 FA
                        simp only []
                        go_wp2
                        refine ⟨sA, ?_⟩
                        refine drawn_next 2 (fuel := 1) rfl (by kernel_rfl) ?_
                        intro K hK
                        go_wp2_with fail
                        refine (minus_any v pN HVP.out).mono ?_
                        rintro e wb ⟨rfl, FB⟩
                        have sB := sA.fr0 FB
                        have HFB := Lib.hid (((hFC.out.drew.trans (FA.mono (fun _ h => by cases h))).trans (FB.mono (fun _ h => by cases h))))
                        have sB' := sB
                        rw [HL.out] at sB'
                        have d1 := sB'.nth 0 rfl
                        have d0 := sB'.nth 1 rfl
                        have d1l := World.at_lt d1
                        have hdm := length_digs (v - pN)
                        clear FA FB sB' c0 c1 c0l c1l sA
                        simp only []
                        go_wp2
                        refine ⟨sB, ?_⟩
                        refine drawn_end rfl (by kernel_rfl) ?_
                        intro K hK
                        clear sB sC
                        go_wp2
                        have hp0 : (wb.put (w.heap.size + 1) (.cells (ints .i64 (digs (v - pN))) 32)).blk (w.heap.size + 1) = some (.cells (ints .i64 (digs (v - pN))) 32) := World.at_put_same _ _ _ d1l
                        have hlt16 : v - pN < 65536 ^ 16 := Nat.lt_of_le_of_lt (Nat.sub_le _ _) hv16.out
                        have HMB := Lib.hid (mA_digs hp0 hlt16)
                        go_roundw
                        case rel =>
                          refine ⟨v - pN, hlt16, ?_, hp0, by rw [World.at_put_other _ _ _ _ (by omega)]; exact d0, HFB.out.put _ _ (fun h => by omega)⟩
                          have h1 := hvm.out
                          have h2 : v = (v - pN) + pN := by have := HVP.out; omega
                          rw [h2, Nat.add_mod_right] at h1
                          exact h1
                        case measure =>
                          rw [HMA.out, HMB.out]
                          have h1 := HVP.out
                          have h2 : 0 < pN := by decide
                          omega
            · rw [show ((0 : Nat) : Int) = 0 from rfl]
              go_wp2
              rw [show decide ((m : Int) ≤ 16) = false from by simp; omega]
              obtain ⟨W, hW⟩ : ∃ W, W = wr.alloc (.cells (ints .i64 (zs 16)) 3) := ⟨_, rfl⟩
              refine Eq.mp (congrArg (fun X => Code.wp _ _ _ _ X) hW) ?_
              have we : W.blk wr.heap.size = some (.cells (ints .i64 ((List.range 16).map (eF (digN X m) 0))) 3) := by rw [hW]; exact World.at_alloc_new _ _ _ rfl
              have wd : W.blk b' = some (.cells (rowR .i64 (digN X m) r') 3) := by rw [hW, World.at_alloc_lt _ _ _ hyl]; exact hbv'
              have w0 : W.blk w.heap.size = some (.cells (ints .i64 (zs 16)) 32) := by rw [hW, World.at_alloc_lt _ _ _ (World.at_lt y0)]; exact y0
              have w1 : W.blk (w.heap.size + 1) = some (.cells (ints .i64 (zs 16)) 32) := by rw [hW, World.at_alloc_lt _ _ _ (World.at_lt y1)]; exact y1
              have HFW := Lib.hid (show Fr [b0] w W by rw [hW]; exact hFy.out.alloc _)
              have hsy := World.at_lt y1
              have hbw := World.at_lt hbv'
              obtain ⟨eb, heb⟩ : ∃ eb, eb = wr.heap.size := ⟨_, rfl⟩
              rw [← heb] at we hbw hsy ⊢
              have e0 : eb ≠ w.heap.size := by omega
              have e1 : eb ≠ w.heap.size + 1 := by omega
              have e2 : eb ≠ b' := by omega
              have e3 : w.heap.size ≤ eb := by omega
              clear heb
              clear hW hbv' y0 y1 hyl hsy hFy hbw
              go_loopw [7] (fun iv wv => ∃ k : Nat, k ≤ m ∧ iv = .int .i64 k ∧ Hid (Fr [eb] W wv) ∧ wv.blk eb = some (.cells (ints .i64 ((List.range 16).map (eF (digN X m) k))) 3) ∧ wv.blk b' = some (.cells (rowR .i64 (digN X m) r') 3)) (fun iv _ => m - (intOf iv).toNat)
              case atStart => exact ⟨0, by omega, rfl, Fr.refl _ _, we, wd⟩
              case round =>
                obtain ⟨k, hk, rfl, hFk, hek, hdk⟩ := hrel
                have hekl := World.at_lt hek
                clear we wd
                have hel16 : ((List.range 16).map (eF (digN X m) k)).length = 16 := by simp
                obtain ⟨E, hE⟩ : ∃ E, E = (List.range 16).map (eF (digN X m) k) := ⟨_, rfl⟩
                have hEb : ∀ i, 0 ≤ el E i ∧ el E i ≤ 2555904 := fun i => by
                  rw [hE]
                  by_cases hi : i < 16
                  · rw [el_map_range _ _ _ hi, eF]
                    have h1 := el_digN_lt X m i
                    have h2 := el_digN_lt X m (i + 16)
                    split <;> split <;> omega
                  · rw [el_out _ _ (by simp; omega)]; omega
                rw [← hE] at hek hel16
                have hdk' := el_digN_lt X m k
                by_cases hlt : k < m
                · by_cases hlo : k < 16
                  · have hset := eF_lo (digN X m) k hlo
                    rw [← hE] at hset
                    have hset' := hset.symm
                    have hEk := hEb k
                    clear hset hE hEb
                    go_wp2
                    refine drawn_head 12 (by kernel_rfl) rfl rfl (by kernel_rfl) ?_
                    change rowK _ _ _ [0,1,2,3,4,5,6,7,8,9,10,11] _ _
                    repeat (refine rowK_step2 rfl rfl (fun K hK => ?_); go_wp2)
                    refine rowK_nil ?_
                    intro K hK
                    go_wp2
                    go_roundw
                    case rel => exact ⟨k + 1, by omega, by go_num, hFk.out.drew.put _ _ (by simp), World.at_put_same _ _ _ hekl, by rw [World.at_drew, World.at_put_other _ _ _ _ e2]; exact hdk⟩
                    case measure => simp [intOf]; omega
                  · have hset := eF_hi (digN X m) k (by omega) (by omega)
                    rw [← hE] at hset
                    have hset' := hset.symm
                    have hEk := hEb (k - 16)
                    have hk16 : k - 16 < 16 := by omega
                    clear hset hE hEb
                    go_wp2
                    refine drawn_head 15 (by kernel_rfl) rfl rfl (by kernel_rfl) ?_
                    change rowK _ _ _ [0,1,2,3,4,5,6,7,8,9,10,11,12,13,14] _ _
                    repeat (refine rowK_step2 rfl rfl (fun K hK => ?_); go_wp2)
                    refine rowK_nil ?_
                    intro K hK
                    go_wp2
                    go_roundw
                    case rel => exact ⟨k + 1, by omega, by go_num, hFk.out.drew.put _ _ (by simp), World.at_put_same _ _ _ hekl, by rw [World.at_drew, World.at_put_other _ _ _ _ e2]; exact hdk⟩
                    case measure => simp [intOf]; omega
                · obtain rfl : k = m := by omega
                  obtain ⟨E1, E2⟩ := eF_end X k (by omega) hm32 HXM.out
                  rw [← hE] at E1 E2
                  have z0 := hFk.out.get w0 (fun h => e0 (List.mem_singleton.1 h).symm)
                  have z1 := hFk.out.get w1 (fun h => e1 (List.mem_singleton.1 h).symm)
                  have HFz := Lib.hid (HFW.out.seq hFk.out (fun k hk hlt => by rw [List.mem_singleton.1 hk] at hlt; omega))
                  have hX32 := HX32.out
                  have hYX : X % 65536 ^ 16 + 38 * (X / 65536 ^ 16) < 65536 ^ 32 := by
                    have h := Nat.div_add_mod X (65536 ^ 16)
                    have e16 : (65536 ^ 16 : Nat) = 115792089237316195423570985008687907853269984665640564039457584007913129639936 := by kernel_rfl
                    rw [e16] at h ⊢
                    omega
                  have hmeas : 64 * (X % 65536 ^ 16 + 38 * (X / 65536 ^ 16)) + 16 < 64 * X + l.length := by
                    have h := Nat.div_add_mod X (65536 ^ 16)
                    have e16 : (65536 ^ 16 : Nat) = 115792089237316195423570985008687907853269984665640564039457584007913129639936 := by kernel_rfl
                    rcases hml.out with e | e
                    · rw [e16] at h ⊢; omega
                    · have : 65536 ^ 16 ≤ X := Nat.le_trans (Nat.pow_le_pow_right (by omega) (by omega)) e
                      rw [e16] at h this ⊢; omega
                  have hbk : wr.blk eb = some (.cells (rowR .i64 E #[]) 3) := by rw [rowR_nil]; exact hek
                  have hm1 := msr_row hbk 16
                  rw [hel16, E2, Int.toNat_natCast] at hm1
                  have HE1 := Lib.hid E1
                  have HE2 := Lib.hid E2
                  have HMS := Lib.hid hm1
                  have HMM := Lib.hid hmeas
                  have HYX := Lib.hid hYX
                  clear E1 E2 hm1 hmeas hYX hE hEb hX32 hek w0 w1 hdk hdk'
                  go_wp2
                  go_roundw
                  case rel =>
                    refine ⟨eb, E, #[], by rw [hel16]; rfl, hbk, by rw [hel16]; decide, by omega, by omega, HE1.out, ?_, ?_, z0, z1, e0, e1, .inr e3, HFz.out⟩
                    · show pre E E.length < 65536 ^ 32
                      rw [hel16, HE2.out]
                      have := Int.ofNat_lt.2 HYX.out
                      rw [Int.natCast_pow] at this
                      exact this
                    · show (pre E E.length).toNat % pN = _
                      rw [hel16, HE2.out, Int.toNat_natCast, fold_mod]
                      exact hmod'.out
                  case measure =>
                    rw [HMS.out, HM.out]
                    exact HMM.out
          · have hm : m < 32 := by
              rcases Nat.lt_or_ge m 32 with h | h
              · exact h
              · exact (hz (Nat.div_eq_of_lt (Nat.lt_of_lt_of_le HX32.out (Nat.pow_le_pow_right (by omega) h)))).elim
            obtain ⟨c, hce⟩ : ∃ c, c = X / 65536 ^ m := ⟨_, rfl⟩
            have hc0 : 0 < c := by omega
            have hc2 : X / 65536 ^ (m + 1) = c / 65536 := by rw [hce, Nat.div_div_eq_div_mul, ← Nat.pow_succ]
            have hdg : (digN X m).map (Value.int .i64) ++ [.int .i64 ((c : Int) % 65536)] = (digN X (m + 1)).map (Value.int .i64) := by
              rw [← digN_succ, List.map_append, ← hce]; rfl
            rw [← hce]
            have hown : OwnsR wr 3 1 (some ⟨b', 0, none⟩) m (m + r'.size) ((digN X m).map (Value.int .i64)) := by
              have := OwnsR.mk' hbv' (by rw [hdm]; exact hcm)
              rwa [hdm] at this
            have hown2 : OwnsR (wr.alloc (.cells #[.int .i64 ((c : Int) % 65536)] 3)) 3 1 (some ⟨b', 0, none⟩) m (m + r'.size) ((digN X m).map (Value.int .i64)) :=
              ((Fr.refl [] wr).alloc _).owns hown (fun _ _ => by simp)
            have hnew : (wr.alloc (.cells #[.int .i64 ((c : Int) % 65536)] 3)).blk wr.heap.size = some (.cells #[.int .i64 ((c : Int) % 65536)] 3) := World.at_alloc_new _ _ _ rfl
            have hc32 : c ≤ 1099511627776 := by have := hcb.out; rw [← hce] at this; exact this
            have HLE : Hid (65536 ^ (m + 1 - 1) ≤ X) := by
              rw [Nat.add_sub_cancel]
              rcases Nat.lt_or_ge X (65536 ^ m) with h | h
              · rw [Nat.div_eq_of_lt h] at hce; omega
              · exact h
            have HO := Lib.hid hown2
            have HN := Lib.hid hnew
            have HCE := Lib.hid hce
            have HC2 := Lib.hid hc2
            have HDG := Lib.hid hdg
            clear hown hown2 hnew hce hc2 hdg hz
            go_wp2_with (refine wpList_app rfl _ _ 76 rfl E76 (by omega) (some ⟨b', 0, none⟩) m (m + r'.size) ((digN X m).map (Value.int .i64)) rfl HO.out wr.heap.size 0 1 1 rfl _ _ _ HN.out [.int .i64 ((c : Int) % 65536)] rfl (by simp) (by simp [ones_cons, ones_nil, Value.oneCell']) (by omega) (by omega) ?_)
            intro p' cap' w' ⟨hown, FA, hblk⟩
            obtain ⟨g, rfl⟩ := hown.some_of (by omega)
            rw [HDG.out] at hown
            obtain ⟨r2, hb2, hc2, hn2, hm2⟩ := hown.out
            have hd2 := length_digN X (m + 1)
            rw [hd2] at hc2
            have FA' : Fr [b'] wr w' := ((Fr.refl [b'] wr).alloc _).trans (FA.mono (fun k hk _ => by simpa using hk))
            have z0 := FA'.get y0 (fun h => q0 (List.mem_singleton.1 h).symm)
            have z1 := FA'.get y1 (fun h => q1 (List.mem_singleton.1 h).symm)
            have hgb : g = b' ∨ wr.heap.size ≤ g := by
              rcases hblk g rfl with h | h
              · left; simpa using h.symm
              · right; simp at h; omega
            have hgs : g ≠ w.heap.size ∧ g ≠ w.heap.size + 1 := by
              have := World.at_lt y1
              rcases hgb with h | h
              · rw [h]; exact ⟨q0, q1⟩
              · constructor <;> omega
            have HG : Hid (g = b0 ∨ w.heap.size ≤ g) := by
              have := World.at_lt y1
              rcases hgb with h | h
              · rw [h]; exact hbo2
              · right; omega
            have HFA := Lib.hid (hFy.out.seq FA' (fun k hk hlt => by
              rcases hbo2.out with e | e
              · rw [List.mem_singleton.1 hk, e]; exact List.mem_singleton.2 rfl
              · rw [List.mem_singleton.1 hk] at hlt; omega))
            subst hc2
            clear FA FA' hblk hown hgb y0 y1 hbv' hyl hn2
            go_wp2
            go_roundw
            case rel =>
              refine ⟨g, m + 1, r2, rfl, by rw [HC2.out]; simp, hb2, hm2, by omega, by omega, ?_, .inr HLE.out, z0, z1, hgs.1, hgs.2, HG, HFA.out⟩
              rw [HC2.out]; exact (show c / 65536 ≤ 1099511627776 by omega)
            case measure => simp [intOf]; omega
end
end Go.Proofs.Ytakhmmnklkckpaa
