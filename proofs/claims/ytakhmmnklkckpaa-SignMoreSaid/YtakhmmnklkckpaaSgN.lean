/- SignMore: the walk. -/
import Derived.Test.YtakhmmnklkckpaaSgM
namespace Go.Proofs.Ytakhmmnklkckpaa
open Go.RowKit Go.Dr
theorem add_step (X Y i : Nat) : ((X % 256 ^ i + Y % 256 ^ i) / 256 ^ i + X / 256 ^ i % 256 + Y / 256 ^ i % 256) % 256 = (X + Y) / 256 ^ i % 256 ∧ ((X % 256 ^ i + Y % 256 ^ i) / 256 ^ i + X / 256 ^ i % 256 + Y / 256 ^ i % 256) / 256 = (X % 256 ^ (i + 1) + Y % 256 ^ (i + 1)) / 256 ^ (i + 1) := by
  rw [Nat.pow_succ]
  have hP : 0 < 256 ^ i := Nat.pow_pos (by decide)
  generalize 256 ^ i = P at hP
  have e1 : (X + Y) / P = (X % P + Y % P) / P + (X / P + Y / P) := by
    have h : X + Y = X % P + Y % P + P * (X / P + Y / P) := by
      have h1 := Nat.div_add_mod X P
      have h2 := Nat.div_add_mod Y P
      rw [Nat.mul_add]; omega
    have h2 := Nat.add_mul_div_left (X % P + Y % P) (X / P + Y / P) hP
    rw [← h] at h2
    exact h2
  have e2 : (X % (P * 256) + Y % (P * 256)) / (P * 256) = ((X % P + Y % P) / P + (X / P % 256 + Y / P % 256)) / 256 := by
    have h : X % (P * 256) + Y % (P * 256) = X % P + Y % P + P * (X / P % 256 + Y / P % 256) := by
      rw [Nat.mod_mul, Nat.mod_mul, Nat.mul_add]; omega
    rw [← Nat.div_div_eq_div_mul, h, Nat.add_mul_div_left _ _ hP]
  rw [e1, e2]
  omega
theorem add_car (X Y i : Nat) : (X % 256 ^ i + Y % 256 ^ i) / 256 ^ i ≤ 1 := by
  have hP : 0 < 256 ^ i := Nat.pow_pos (by decide)
  have h1 := Nat.mod_lt X hP
  have h2 := Nat.mod_lt Y hP
  have h3 : (X % 256 ^ i + Y % 256 ^ i) / 256 ^ i < 2 := by rw [Nat.div_lt_iff_lt_mul hP]; omega
  omega
/-- The first i bytes of a sum, behind a row. -/
def mrL (R s : List Int) (N i : Nat) : List Int := R ++ upd (bF N) s i
theorem el_app_right (R u : List Int) (n i : Nat) (h : R.length = n) : el (R ++ u) (n + i) = el u i := by
  subst h
  rw [el_append, if_neg (by omega)]
  congr 1
  omega
theorem set_app_right (R u : List Int) (n i : Nat) (x : Int) (h : R.length = n) : (R ++ u).set (n + i) x = R ++ u.set i x := by
  subst h
  rw [List.set_append_right _ _ (by omega)]
  congr 2
  omega
def ordF : List Int := ordB0.set 31 16
theorem el_bytes {l : List Int} (h : Byt l) (i : Nat) : el l i = ((numB l / 256 ^ i % 256 : Nat) : Int) := by
  rw [el_le l i h, Int.natCast_emod, Int.natCast_ediv, Int.natCast_pow, numB_vB h, le_vB]
  rfl
section
variable {w : World} {S t : List Int} {p : Option Addr} {n cap : Nat}
set_option maxRecDepth 100000 in
set_option maxHeartbeats 8000000 in
theorem signMore_core {R s A : List Int} {V : Nat} (lS : S.length = 32) (hS : Byt S) (St : Sl .u8 w p n cap t) (ht : Byt t) (hR : signB S t = R ++ s) (lR : R.length = 32) (yR : Byt R) (ls : s.length = 32) (ys : Byt s) (hV : numB s = V) (hA : pubB S = A) (hv : verB A t (R ++ bN (V + ordL)) = false) :
    Calls Try.prog 24 #[.agg (ints .u8 S), .slice p n cap] w fun e w' => e = .returned (.bool true) ∧ Fr [] w w' := by
  have lA : A.length = 32 := by rw [← hA]; exact length_baseB _
  have YA : Hid (Byt A) := Lib.hid (hA ▸ byt_baseB _)
  have HS := Lib.hid hS
  have HR := Lib.hid hR
  have YR := Lib.hid yR
  have Ys := Lib.hid ys
  have HV0 := Lib.hid hV
  have HA := Lib.hid hA
  have HVer := Lib.hid hv
  have HSt := Lib.hid St
  have HT := Lib.hid ht
  clear hS hR yR ys hV hA hv St ht
  go_enter Try.func24, Try.ntmps24
  go_wp2_with fail
  refine salive_f.mono ?_
  rintro e w1 ⟨rfl, F⟩
  have hV := ((OwB.start w).allocN (.cells (ints .u8 S) 22) w.heap.size rfl).call F
  clear F
  simp only []
  generalize w.heap.size = b0 at hV ⊢
  by_cases hn : n ≤ 5000
  · have hd : decide ((5000 : Int) < (n : Int)) = false := by rw [decide_eq_false_iff_not]; omega
    have f0 := hV.nth 0 rfl
    have t0 := hV.lt 0 rfl
    go_wp2_with fail
    refine (sign_f lS HS.out (HSt.out.fr0 hV.fr) HT.out hn).mono ?_
    rintro e w2 ⟨rfl, F⟩
    rw [HR.out]
    have h2 := hV.call F
    clear F f0 t0 hV
    simp only []
    have h3 := h2.allocN (.cells (ints .u8 (R ++ s)) 69) w2.heap.size rfl
    have h4 := h3.allocN (.cells (ints .u8 ordF) 22) (w2.heap.size + 1) (by simp)
    go_wp2_with fail
    refine OwB.named (Q := fun X => Code.wp _ _ _ _ X) h4 ?_
    intro V4 h5
    generalize w2.heap.size + 1 = b6 at h5 ⊢
    generalize w2.heap.size = b5 at h5 ⊢
    clear h2 h3 h4
    go_loopw [7, 8] (fun c v wr => ∃ i u : Nat, i ≤ 32 ∧ v = .int .i64 (i : Int) ∧ c = .int .i64 (u : Int) ∧ Hid (u = (V % 256 ^ i + ordL % 256 ^ i) / 256 ^ i) ∧ Hid (OwB w [(b6, .cells (ints .u8 ordF) 22), (b5, .cells (ints .u8 (mrL R s (V + ordL) i)) 69), (b0, .cells (ints .u8 S) 22)] wr)) (fun _ v _ => (32 - intOf v).toNat)
    case atStart => exact ⟨0, 0, by omega, rfl, rfl, Lib.hid (by simp [Nat.mod_one]), Lib.hid (by rw [mrL, upd_zero]; exact h5)⟩
    case round =>
      clear h5
      obtain ⟨i, u, hi, rfl, rfl, hu, hO⟩ := hrel
      obtain ⟨X, hX⟩ : ∃ X, X = mrL R s (V + ordL) i := ⟨_, rfl⟩
      have lX : X.length = 64 := by rw [hX, mrL, List.length_append, length_upd _ _ _ (by omega), lR, ls]
      rw [← hX] at hO
      have HX := Lib.hid hX
      clear hX
      by_cases hlt : i < 32
      · have hd2 : decide ((i : Int) < 32) = true := by rw [decide_eq_true_eq]; omega
        have f0 := hO.out.nth 0 rfl
        have t0 := hO.out.lt 0 rfl
        have f1 := hO.out.nth 1 rfl
        have t1 := hO.out.lt 1 rfl
        have e01 := hO.out.ne 0 1 rfl rfl (by decide)
        have e10 := e01.symm
        have hu1 : u ≤ 1 := by rw [hu.out]; exact add_car V ordL i
        have eX : el X (32 + i) = ((V / 256 ^ i % 256 : Nat) : Int) := by
          rw [HX.out, mrL, el_app_right _ _ _ _ lR, el_upd, if_neg (by omega), el_bytes Ys.out, HV0.out]
        have eL : el ordF i = ((ordL / 256 ^ i % 256 : Nat) : Int) := by rw [el_bytes (l := ordF) byt_ordB, show numB ordF = ordL from num_ordB]
        have rX : 0 ≤ el X (32 + i) ∧ el X (32 + i) < 256 := by rw [eX]; omega
        have rL : 0 ≤ el ordF i ∧ el ordF i < 256 := by rw [eL]; omega
        have hi64 : 32 + i < 64 := by omega
        have lF : ordF.length = 32 := rfl
        have EX := Lib.hid eX
        have EL := Lib.hid eL
        clear eX eL
        go_wp2
        refine drawn_head 12 (by kernel_rfl) rfl rfl (by kernel_rfl) ?_
        change rowK _ _ _ [0, 1, 2, 3, 4, 5, 6, 7, 8, 9, 10, 11] _ _
        repeat (refine rowK_step2 rfl rfl (fun K hK => ?_); go_wp2)
        refine rowK_nil ?_
        intro K hK
        go_wp2
        go_roundw
        case rel =>
          obtain ⟨s1, s2⟩ := add_step V ordL i
          refine ⟨i + 1, (V % 256 ^ (i + 1) + ordL % 256 ^ (i + 1)) / 256 ^ (i + 1), by omega, by go_num, ?_, Lib.hid rfl, Lib.hid ?_⟩
          · rw [EX.out, EL.out, hu.out, ← s2]; congr 1
          · have e : X.set (32 + i) (((u : Int) + el X (32 + i) + el ordF i) % 256) = mrL R s (V + ordL) (i + 1) := by
              rw [EX.out, EL.out, hu.out, HX.out, mrL, set_app_right _ _ _ _ _ lR, mrL, ← set_upd (bF (V + ordL)) s i (by omega), bF, ← s1]
              congr 1
            rw [e]
            exact (hO.out.set 1 (.cells (ints .u8 (mrL R s (V + ordL) (i + 1))) 69) rfl).drew
        case measure => simp [intOf]; omega
      · obtain rfl : i = 32 := by omega
        have hd2 : decide ((32 : Int) < 32) = false := by decide
        have hXF : X = R ++ bN (V + ordL) := by rw [HX.out, mrL, upd_full _ _ _ ls]; rfl
        have yX : Hid (Byt X) := Lib.hid (by
          rw [hXF]
          refine byt_app YR.out fun x hx => ?_
          obtain ⟨j, _, rfl⟩ := List.mem_map.1 hx
          unfold bF
          omega)
        have HXF := Lib.hid hXF
        clear hXF
        obtain ⟨L, hL⟩ : ∃ L : List (Nat × Obj), L = [(b6, .cells (ints .u8 ordF) 22), (b5, .cells (ints .u8 X) 69), (b0, .cells (ints .u8 S) 22)] := ⟨_, rfl⟩
        have hV := hO.out
        rw [← hL] at hV
        have HL := Lib.hid hL
        clear hL hO
        go_wp2_with fail
        have hne : Nonempty (OwnW w L) := ⟨⟨_, hV⟩⟩
        have f0 : ∀ x : OwnW w L, x.w.blk b0 = some (.cells (ints .u8 S) 22) := fun x => x.nth HL.out 2 rfl
        have f1 : ∀ x : OwnW w L, x.w.blk b5 = some (.cells (ints .u8 X) 69) := fun x => x.nth HL.out 1 rfl
        have c1 : ∀ x : OwnW w L, Calls Try.prog 61 #[.agg (ints .u8 S)] x.w fun e w' => e = .returned (.agg (ints .u8 A)) ∧ Fr [] x.w w' := fun x => HA.out ▸ public_f lS HS.out
        have c2 : ∀ x : OwnW w L, Calls Try.prog 63 #[.agg (ints .u8 A), .slice p n cap, .agg (ints .u8 X)] x.w fun e w' => e = .returned (.bool false) ∧ Fr [] x.w w' := fun x => by
          have h := verify_f (w := x.w) (sig := X) lA YA.out lX yX.out (HSt.out.fr0 x.h.fr) HT.out hn
          rw [HXF.out, HVer.out, ← HXF.out] at h
          exact h
        have C1 := Lib.hid c1
        have C2 := Lib.hid c2
        clear c1 c2
        refine wp_region_own (by kernel_rfl) (by kernel_rfl) hV ?_
        repeat (go_big_quiet_step (with_reducible first | exact Calls.own_of (C1.out _) | exact Calls.own_of (C2.out _)))
        refine wpQuiet_nil ?_
        intro _ hw'
        obtain ⟨⟨V9, hV9⟩, rfl⟩ := hw'
        clear f0 f1 hne hV
        go_wp2_with fail
        go_ret
        exact ⟨rfl, hV9.fr⟩
  · have hd : decide ((5000 : Int) < (n : Int)) = true := by rw [decide_eq_true_eq]; omega
    have HV := Lib.hid hV
    clear hV
    go_wp2_with fail
    go_ret
    exact ⟨rfl, HV.out.fr⟩
end
theorem more_no (S t : List Int) : verB (pubB S) t (RB S t ++ bN (numB (sB S t) + ordL)) = false := by
  have lR : (RB S t).length = 32 := by rw [RB, length_baseB]
  have hd : (RB S t ++ bN (numB (sB S t) + ordL)).drop 32 = bN (numB (sB S t) + ordL) := by
    rw [List.drop_append_of_le_length (by omega), List.drop_of_length_le (by omega), List.nil_append]
  have hs : scB (bN (numB (sB S t) + ordL)) ≠ bN (numB (sB S t) + ordL) := by
    intro h
    have hn : ((numB (sB S t) : Nat) : Int) = (vB (kB S t) * vB (clampB (sumF S)) + vB (rB S t)) % oL := by
      rw [numB_vB (l := sB S t) (byt_outF _), sB, vB_outF (rng256 _)]
    have hr := rngL (vB (kB S t) * vB (clampB (sumF S)) + vB (rB S t))
    rw [← hn] at hr
    have e : bN (numB (sB S t) + ordL) = outF (w4 (((numB (sB S t) : Nat) : Int) + oL)) := bN_outF (by rw [Int.natCast_add, ordL_oL])
    have hb : 0 ≤ ((numB (sB S t) : Nat) : Int) + oL ∧ ((numB (sB S t) : Nat) : Int) + oL < 115792089237316195423570985008687907853269984665640564039457584007913129639936 := by
      have h2 : oL + oL < 115792089237316195423570985008687907853269984665640564039457584007913129639936 := by decide
      have h3 := oL_pos
      omega
    rw [e] at h
    have h4 := scB_eq (l := outF (w4 (((numB (sB S t) : Nat) : Int) + oL))) (byt_outF _)
    rw [h, vB_outF hb, Int.add_emod_right, Int.emod_eq_of_lt hr.1 hr.2] at h4
    have h3 := oL_pos
    omega
  unfold verB
  rw [hd, decide_eq_false hs, Bool.false_and, Bool.and_false]
theorem signMore_walk {w : World} {S t : List Int} {p : Option Addr} {n cap : Nat} (lS : S.length = 32) (hS : Byt S) (St : Sl .u8 w p n cap t) (ht : Byt t) :
    Calls Try.prog 24 #[.agg (ints .u8 S), .slice p n cap] w fun e w' => e = .returned (.bool true) ∧ Fr [] w w' :=
  signMore_core lS hS St ht rfl (length_baseB _) (byt_baseB _) (length_outF _) (byt_outF _) rfl rfl (more_no S t)
end Go.Proofs.Ytakhmmnklkckpaa
