/- Joined: PkE, PkF, SoI. -/
import Derived.Test.YtombhkekocbfoaaZj
import Derived.Test.YtombhkekocbfoaaZk
import Derived.Test.YtombhkekocbfoaaZh
set_option linter.unusedVariables false
set_option linter.unusedSimpArgs false
namespace Go.Proofs.Ytombhkekocbfoaa
open Go.RowKit Go.Dr Go.Kd
theorem arr_fun {tm : Array Value} {n : Nat} (h : tm.size = n) : tm = ((List.range n).map fun i => tm.getD i undef).toArray := by
  apply Array.ext
  · simp [h]
  · intro i h1 h2
    simp [h1]
/-- What stands at Split's labels: behind pieces that are taken. -/
def SpJ (w : World) (K0 : Option (List Bs)) (l : Nat) (a : Act) (W : World) : Prop :=
  a.tmps.size = 59 ∧ a.defers = [] ∧ match l with
  | 0 => K0 = none ∧ (∃ why : Int, why ≠ 0 ∧ a.tmps.getD 7 undef = .int .i64 why) ∧ Fr [] w W
  | l + 1 => l < 2 ∧ ∃ (p : Option Addr) (n c : Nat) (rest : Bs) (q : Option Addr) (c2 : Nat) (us : List Value) (No M : List (Nat × Obj)) (done : List Bs) (left : Nat),
      (a.tmps.getD 0 undef = .slice p n c ∧ a.tmps.getD 4 undef = .slice q done.length c2 ∧ a.tmps.getD 5 undef = .int .i64 (left : Int) ∧ a.tmps.getD 7 undef = .int .i64 20) ∧
      (l = 0 → left = 0) ∧ (left + done.length ≤ 64 ∧ n ≤ 100000) ∧ Sl .u8 w p n c rest ∧ isBytes rest ∧ K0 = finP done (takeP left rest) ∧ OwB w (No ++ M) W ∧ Parked No 22 1 q done.length c2 us ∧ (∀ x ∈ M, ∃ cs fr, x.2 = .cells cs 5 fr) ∧ ∀ W', Has M W' → Sls W' us done
def spM (l : Nat) (a : Act) (_ : World) : Nat := match l with
  | 0 => 0
  | 1 => 1
  | _ => (intOf (a.tmps.getD 5 undef)).toNat + 2
theorem i64_or_byte (a b : Nat) (ha : a < 256) (hb : b < 256) : bits .or .i64 ((a : Int) * 256) (b : Int) = ((a * 256 + b : Nat) : Int) := by
  have e : ((a : Int) * 256) = ((2 ^ 8 * a : Nat) : Int) := by omega
  rw [e]
  show IntKind.i64.wrap ((BitVec.ofInt 64 ((2 ^ 8 * a : Nat) : Int) ||| BitVec.ofInt 64 (b : Int)).toNat : Int) = _
  rw [BitVec.toNat_or, BitVec.ofInt_natCast, BitVec.ofInt_natCast, BitVec.toNat_ofNat, BitVec.toNat_ofNat, Nat.mod_eq_of_lt (by omega), Nat.mod_eq_of_lt (by omega), ← Nat.two_pow_add_eq_or_of_lt (by omega), IntKind.wrap_i64]
  omega
theorem sll_of_parked {No M : List (Nat × Obj)} {q : Option Addr} {m c : Nat} {us : List Value} {ls : List Bs} (hP : Parked No 22 1 q m c us) (hU : ∀ W', Has M W' → Sls W' us ls) : Sly (No ++ M) q m c ls := ⟨us, fun W h => ⟨hP.svH h.of_append.1, hU W h.of_append.2⟩⟩
theorem parked_ty {No M : List (Nat × Obj)} {q : Option Addr} {m c : Nat} {us : List Value} (hP : Parked No 22 1 q m c us) (hM : ∀ x ∈ M, ∃ cs fr, x.2 = .cells cs 5 fr) : ∀ x ∈ No ++ M, ∃ cs T fr, x.2 = .cells cs T fr ∧ (T = 5 ∨ T = 22) := fun x hx => by
  rcases List.mem_append.1 hx with hx | hx
  · rcases hP with ⟨rfl, _⟩ | ⟨g, r, rfl, _⟩
    · cases hx
    · rw [List.mem_singleton] at hx
      subst hx
      exact ⟨_, _, _, rfl, .inr rfl⟩
  · obtain ⟨cs, fr, e⟩ := hM x hx
    exact ⟨cs, 5, fr, e, .inl rfl⟩
section
variable {w : World}
set_option maxRecDepth 100000 in
set_option maxHeartbeats 8000000 in
theorem split_f {p : Option Addr} {n c : Nat} {B : Bs} (S : Sl .u8 w p n c B) (hB : isBytes B) (hn : n ≤ 100000) :
    Calls Try.prog 68 #[.slice p n c] w fun e w' => SplitRes w (splitB B) e w' := by
  have HS := Lib.hid S
  have HB := Lib.hid hB
  obtain ⟨K0, hK0⟩ : ∃ K0, K0 = splitB B := ⟨_, rfl⟩
  rw [← hK0]
  have HK0 := Lib.hid hK0
  clear S hB hK0
  go_enter Try.func68, Try.ntmps68
  go_wp2_with fail
  refine wp_scope_next (SpJ w K0) spM (fun l a W hJ => ?_) (fun next => ?_)
  · match l, hJ with
    | 0, hJ =>
      obtain ⟨hs, hd, hK, ⟨why, hw, h7⟩, F⟩ := hJ
      refine ⟨_, rfl, ?_⟩
      obtain ⟨tm, df⟩ := a
      simp only [] at hs hd h7
      obtain ⟨u, rfl⟩ : ∃ u : Nat → Value, tm = #[u 0, u 1, u 2, u 3, u 4, u 5, u 6, u 7, u 8, u 9, u 10, u 11, u 12, u 13, u 14, u 15, u 16, u 17, u 18, u 19, u 20, u 21, u 22, u 23, u 24, u 25, u 26, u 27, u 28, u 29, u 30, u 31, u 32, u 33, u 34, u 35, u 36, u 37, u 38, u 39, u 40, u 41, u 42, u 43, u 44, u 45, u 46, u 47, u 48, u 49, u 50, u 51, u 52, u 53, u 54, u 55, u 56, u 57, u 58] := ⟨fun i => tm.getD i undef, arr_fun hs⟩
      have e7 : u 7 = _ := h7
      rw [e7, hd]
      have HF := Lib.hid F
      have HW := Lib.hid hw
      have HKn := Lib.hid hK
      clear e7 h7 hs hd F hw hK
      go_wp2_with fail
      simp only [Exit.jumps]
      refine bodyPost_ret (results_tmp2 rfl _ _ _) rfl ?_
      rw [HKn.out]
      exact ⟨why, HW.out, rfl, HF.out⟩
    | 1, hJ =>
      obtain ⟨hs, hd, hl, p1, n1, c1, rest, q, c2, us, No, M, done, left, ⟨h0, h4, h5, h7⟩, hz, ⟨hle, hn1⟩, S1, hB1, hK, hO, hP, hM, hU⟩ := hJ
      refine ⟨_, rfl, ?_⟩
      obtain ⟨tm, df⟩ := a
      simp only [] at hs hd h0 h4 h5 h7
      obtain ⟨u, rfl⟩ : ∃ u : Nat → Value, tm = #[u 0, u 1, u 2, u 3, u 4, u 5, u 6, u 7, u 8, u 9, u 10, u 11, u 12, u 13, u 14, u 15, u 16, u 17, u 18, u 19, u 20, u 21, u 22, u 23, u 24, u 25, u 26, u 27, u 28, u 29, u 30, u 31, u 32, u 33, u 34, u 35, u 36, u 37, u 38, u 39, u 40, u 41, u 42, u 43, u 44, u 45, u 46, u 47, u 48, u 49, u 50, u 51, u 52, u 53, u 54, u 55, u 56, u 57, u 58] := ⟨fun i => tm.getD i undef, arr_fun hs⟩
      have e0 : u 0 = _ := h0
      have e4 : u 4 = _ := h4
      have e5 : u 5 = _ := h5
      have e7 : u 7 = _ := h7
      rw [e0, e4, e5, e7, hd]
      have HS1 := Lib.hid S1
      have HB1 := Lib.hid hB1
      have HK := Lib.hid hK
      have HO := Lib.hid hO
      have HP := Lib.hid hP
      have HM := Lib.hid hM
      have HU := Lib.hid hU
      have HL := Lib.hid S1.len
      clear e0 e4 e5 e7 h0 h4 h5 h7 hs hd S1 hB1 hK hO hP hM hU
      obtain rfl : left = 0 := hz rfl
      by_cases hn0 : n1 = 0
      · have d0 : ((n1 : Int) == 0) = true := by rw [hn0]; rfl
        have hr : rest = [] := List.eq_nil_of_length_eq_zero (by rw [HL.out]; exact hn0)
        have hk : K0 = some done := by rw [HK.out, finP_zero, if_pos hr]
        have HK2 := Lib.hid hk
        clear hk hr hn0
        go_wp2_with fail
        simp only [Exit.jumps]
        refine bodyPost_ret (results_tmp2 rfl _ _ _) rfl ?_
        rw [HK2.out]
        exact ⟨q, c2, No ++ M, rfl, HO.out, parked_ty HP.out HM.out, sll_of_parked HP.out HU.out⟩
      · have d0 : ((n1 : Int) == 0) = false := by rw [beq_eq_false_iff_ne]; omega
        have hr : rest ≠ [] := fun e => by have := HL.out; rw [e] at this; simp at this; omega
        have hk : K0 = none := by rw [HK.out, finP_zero, if_neg hr]
        have HK2 := Lib.hid hk
        clear hk hr hn0
        go_wp2_with fail
        go_step3
        rename_i Kx hKx
        refine hKx _ _ ?_
        clear hKx Kx
        go_wp2_with fail
        simp only [Exit.jumps]
        refine bodyPost_ret (results_tmp2 rfl _ _ _) rfl ?_
        rw [HK2.out]
        exact ⟨21, by decide, rfl, HO.out.fr⟩
    | 2, hJ =>
      obtain ⟨hs, hd, hl, p1, n1, c1, rest, q, c2, us, No, M, done, left, ⟨h0, h4, h5, h7⟩, hz, ⟨hle, hn1⟩, S1, hB1, hK, hO, hP, hM, hU⟩ := hJ
      refine ⟨_, rfl, ?_⟩
      obtain ⟨tm, df⟩ := a
      simp only [] at hs hd h0 h4 h5 h7
      obtain ⟨u, rfl⟩ : ∃ u : Nat → Value, tm = #[u 0, u 1, u 2, u 3, u 4, u 5, u 6, u 7, u 8, u 9, u 10, u 11, u 12, u 13, u 14, u 15, u 16, u 17, u 18, u 19, u 20, u 21, u 22, u 23, u 24, u 25, u 26, u 27, u 28, u 29, u 30, u 31, u 32, u 33, u 34, u 35, u 36, u 37, u 38, u 39, u 40, u 41, u 42, u 43, u 44, u 45, u 46, u 47, u 48, u 49, u 50, u 51, u 52, u 53, u 54, u 55, u 56, u 57, u 58] := ⟨fun i => tm.getD i undef, arr_fun hs⟩
      have e0 : u 0 = _ := h0
      have e4 : u 4 = _ := h4
      have e5 : u 5 = _ := h5
      have e7 : u 7 = _ := h7
      rw [e0, e4, e5, e7, hd]
      have HS1 := Lib.hid S1
      have HB1 := Lib.hid hB1
      have HK := Lib.hid hK
      have HO := Lib.hid hO
      have HP := Lib.hid hP
      have HM := Lib.hid hM
      have HU := Lib.hid hU
      have HL := Lib.hid S1.len
      clear e0 e4 e5 e7 h0 h4 h5 h7 hs hd S1 hB1 hK hO hP hM hU
      by_cases hl0 : left = 0
      · subst hl0
        have d0 : (((0 : Nat) : Int) == 0) = true := rfl
        go_wp2_with fail
        go_step3
        refine ⟨⟨rfl, rfl, (by decide : 0 < 2), p1, n1, c1, rest, q, c2, us, No, M, done, 0, ⟨rfl, rfl, rfl, rfl⟩, fun _ => rfl, ⟨hle, hn1⟩, HS1.out, HB1.out, HK.out, HO.out, HP.out, HM.out, HU.out⟩, ?_⟩
        show 1 < _ + 2
        omega
      · have d0 : ((left : Int) == 0) = false := by rw [beq_eq_false_iff_ne]; omega
        by_cases hn2 : n1 < 2
        · have d2 : decide ((n1 : Int) < 2) = true := by rw [decide_eq_true_eq]; omega
          obtain ⟨lf, hlf⟩ : ∃ lf, left = lf + 1 := ⟨left - 1, by omega⟩
          have hk : K0 = none := by rw [HK.out, hlf, takeP_short (by rw [HL.out]; exact hn2), finP_none]
          go_wp2_with fail
          go_step3
          refine ⟨⟨rfl, rfl, hk, ⟨20, by decide, rfl⟩, HO.out.fr⟩, ?_⟩
          show 0 < _ + 2
          omega
        · have d2 : decide ((n1 : Int) < 2) = false := by rw [decide_eq_false_iff_not]; omega
          obtain ⟨bb, off, cs, TT, fr, rfl, fc0, hs2, hx⟩ := HS1.out.out (by omega)
          have hln := HL.out
          obtain ⟨x0, x1, rest', hrest⟩ : ∃ x0 x1 rest', rest = x0 :: x1 :: rest' := by
            match rest, hln with
            | [], h => simp at h; omega
            | [_], h => simp at h; omega
            | x0 :: x1 :: r, _ => exact ⟨x0, x1, r, rfl⟩
          have g0 : cs[off]? = some (.int .u8 x0) := by
            have := congrArg (fun l : List Value => l[0]?) hx
            rw [hrest] at this
            simp only [Array.getElem?_toList, List.map_cons, List.getElem?_cons_zero] at this
            rw [Array.getElem?_extract_of_lt (by omega), ← Array.getElem?_eq_getElem] at this
            exact this
          have g1 : cs[off + 1]? = some (.int .u8 x1) := by
            have := congrArg (fun l : List Value => l[1]?) hx
            rw [hrest] at this
            simp only [Array.getElem?_toList, List.map_cons, List.getElem?_cons_succ, List.getElem?_cons_zero] at this
            rw [Array.getElem?_extract_of_lt (by omega), ← Array.getElem?_eq_getElem] at this
            exact this
          replace g0 := (Array.getElem?_eq_some_iff.1 g0).2
          replace g1 := (Array.getElem?_eq_some_iff.1 g1).2
          have b0 := HB1.out x0 (by rw [hrest]; simp)
          have b1 := HB1.out x1 (by rw [hrest]; simp)
          obtain ⟨y0, rfl⟩ := Int.eq_ofNat_of_zero_le b0.1
          obtain ⟨y1, rfl⟩ := Int.eq_ofNat_of_zero_le b1.1
          have fc := HO.out.fr.get fc0 (by simp)
          have tc := World.at_lt fc
          have h1n : (1 : Int) < (n1 : Int) := by omega
          have h0n : (0 : Int) < (n1 : Int) := by omega
          have hc1 := HS1.out.cap_
          have HR := Lib.hid hrest
          clear hrest hx hln
          have wb : IntKind.i64.wrap ((y0 : Int) * 256) = (y0 : Int) * 256 := by rw [IntKind.wrap_i64]; omega
          have hor := i64_or_byte y0 y1 (by omega) (by omega)
          have hS2 : ∀ P2 C2, P2 = (if c1 = 2 then some (⟨bb, off, none⟩ : Addr) else some ⟨bb, off + 2, none⟩) → C2 = c1 - 2 → Sl .u8 w P2 (n1 - 2) C2 rest' := fun P2 C2 e1 e2 => by
            have h := HS1.out.part (i := 2) (j := n1) (c := c1) (by omega) (Nat.le_refl _) hc1 (Nat.le_refl _)
            rw [HR.out, List.take_of_length_le (by rw [← HR.out, HL.out]; exact Nat.le_refl _)] at h
            rw [e1, e2]
            simpa [Addr.add_mid] using h
          have HS2 := Lib.hid hS2
          clear hS2
          go_upto_region 10 with (fail)
          go_cut [0, 6, 24, 25, 26, 27, 28, 29, 30, 31, 32, 33, 34, 35] (fun v0 v6 _ _ _ _ _ _ _ _ _ _ _ _ wy => ∃ o2 C2, v0 = .slice (some ⟨bb, o2, none⟩) (n1 - 2) C2 ∧ v6 = .int .i64 ((y0 * 256 + y1 : Nat) : Int) ∧ Hid (Sl .u8 w (some ⟨bb, o2, none⟩) (n1 - 2) C2 rest') ∧ wy = W.drew)
          case first =>
            refine drawn_begin 13 (fun w' => w'.blk bb = some (.cells cs TT fr)) (by kernel_rfl) ?_
            refine drawn_reads (fuel := 1) [0, 1, 2, 3, 4, 5, 6, 7, 8, 9, 10, 12, 11] rfl (by kernel_rfl) fc ?_
            repeat (first | (refine rowK_step2 rfl rfl (fun K hK => ?_); go_wp2) | (refine rowK_step rfl (fun K hK => ?_); go_simp; refine hK _ ?_; clear hK K))
            all_goals
              refine rowK_nil ⟨fun w' e1 => ?_, ?_⟩
              · clear fc tc
                repeat (first | (refine rowWp_step2 rfl rfl (fun K hK => ?_); go_wp2) | (refine rowWp_step rfl (fun K hK => ?_); go_simp; refine hK _ ?_; clear hK K))
                exact rowWp_nil rfl
              refine drawn_end rfl (by kernel_rfl) ?_
              intro K hK
              go_wp2_with fail
              go_meet
            case rel => exact ⟨_, _, rfl, by simp, Lib.hid (HS2.out _ _ (by simp [*]) (by omega)), rfl⟩
            case rel => exact ⟨_, _, rfl, by simp, Lib.hid (HS2.out _ _ (by simp [*]) (by omega)), rfl⟩
          case rest =>
            obtain ⟨o2, C2, rfl, rfl, hS2, rfl⟩ := hcut
            obtain ⟨lf, hlf⟩ : ∃ lf, left = lf + 1 := ⟨left - 1, by omega⟩
            have hk1 : K0 = finP done (takeP (lf + 1) ((y0 : Int) :: (y1 : Int) :: rest')) := by rw [HK.out, hlf, HR.out]
            have HK1 := Lib.hid hk1
            have hr2 := hS2.out.len
            have hbr : isBytes rest' := fun x hx => HB1.out x (by rw [HR.out]; simp [hx])
            have HBR := Lib.hid hbr
            have hcap2 := hS2.out.cap_
            obtain ⟨sz, hsz⟩ : ∃ sz, sz = y0 * 256 + y1 := ⟨_, rfl⟩
            have HSZ := Lib.hid hsz
            rw [← hsz]
            obtain ⟨n2, hn2'⟩ : ∃ n2, n2 = n1 - 2 := ⟨_, rfl⟩
            have hn2b : n2 ≤ 100000 := by omega
            have HL2 := Lib.hid (hr2.trans hn2'.symm)
            rw [← hn2'] at hS2 hcap2 ⊢
            have HLF := Lib.hid hlf
            clear hk1 hbr hsz hn2' HK HS2 fc tc hor wb g0 g1 hr2 hlf
            by_cases h1 : 4096 < sz
            · have d1 : decide ((4096 : Int) < (sz : Int)) = true := by rw [decide_eq_true_eq]; omega
              have hk : K0 = none := by rw [HK1.out, takeP_big (.inl (by rw [Int.toNat_natCast, Int.toNat_natCast, ← HSZ.out]; exact h1)), finP_none]
              have HKn := Lib.hid hk
              clear hk h1
              go_wp2_with fail
              go_step3
              refine ⟨⟨rfl, rfl, HKn.out, ⟨5, by decide, rfl⟩, HO.out.drew.fr⟩, ?_⟩
              show 0 < _ + 2
              omega
            have d1 : decide ((4096 : Int) < (sz : Int)) = false := by rw [decide_eq_false_iff_not]; omega
            by_cases h2 : n2 < sz
            · have d2' : decide ((n2 : Int) < (sz : Int)) = true := by rw [decide_eq_true_eq]; omega
              have hk : K0 = none := by rw [HK1.out, takeP_big (.inr (by rw [Int.toNat_natCast, Int.toNat_natCast, ← HSZ.out, HL2.out]; exact h2)), finP_none]
              have HKn := Lib.hid hk
              clear hk
              go_wp2_with fail
              go_step3
              refine ⟨⟨rfl, rfl, HKn.out, ⟨20, by decide, rfl⟩, HO.out.drew.fr⟩, ?_⟩
              show 0 < _ + 2
              omega
            have d2' : decide ((n2 : Int) < (sz : Int)) = false := by rw [decide_eq_false_iff_not]; omega
            have hk2 : K0 = finP (done ++ [rest'.take sz]) (takeP lf (rest'.drop sz)) := by
              rw [HK1.out, finP_step (by rw [Int.toNat_natCast, Int.toNat_natCast, ← HSZ.out]; exact h1) (by rw [Int.toNat_natCast, Int.toNat_natCast, ← HSZ.out, HL2.out]; exact h2)]
              rw [Int.toNat_natCast, Int.toNat_natCast, ← HSZ.out]
            have HK2 := Lib.hid hk2
            have hS3 : ∀ P3 C3, P3 = (if C2 = sz then some (⟨bb, o2, none⟩ : Addr) else some ⟨bb, o2 + sz, none⟩) → C3 = C2 - sz → Sl .u8 w P3 (n2 - sz) C3 (rest'.drop sz) := fun P3 C3 e1 e2 => by
              have h := hS2.out.part (i := sz) (j := n2) (c := C2) (by omega) (Nat.le_refl _) hcap2 (Nat.le_refl _)
              rw [List.take_of_length_le (by rw [HL2.out]; exact Nat.le_refl _)] at h
              rw [e1, e2]
              simpa [Addr.add_mid] using h
            have HS3 := Lib.hid hS3
            have hsn : (sz : Int) ≤ (n2 : Int) := by omega
            have hsc : (sz : Int) ≤ (C2 : Int) := by omega
            clear hk2 hS3
            go_upto_region 14 with (fail)
            have fc := HO.out.drew.fr.get fc0 (by simp)
            refine drawn_begin 11 (fun w' => w'.blk bb = some (.cells cs TT fr)) (by kernel_rfl) ?_
            refine drawn_reads (fuel := 5) [0, 1, 2, 3, 7, 8, 9] rfl (by kernel_rfl) fc ?_
            repeat (first | (refine rowK_step2 rfl rfl (fun K hK => ?_); go_wp2) | (refine rowK_step rfl (fun K hK => ?_); go_simp; refine hK _ ?_; clear hK K))
            all_goals
              refine rowK_nil ⟨fun w' e1 => ?_, ?_⟩
              · clear fc
                repeat (first | (refine rowWp_step2 rfl rfl (fun K hK => ?_); go_wp2) | (refine rowWp_step rfl (fun K hK => ?_); go_simp; refine hK _ ?_; clear hK K))
                exact rowWp_nil rfl
              have hOd := HO.out.drew.drew
              have HOd := Lib.hid hOd
              clear hOd
              refine drawn_next 4 (fuel := 4) rfl (by kernel_rfl) ?_
              intro K hK
              go_wp2_with fail
              have hSf : ∀ cc, cc = C2 → Sl .u8 W.drew.drew (some ⟨bb, o2, none⟩) sz cc (rest'.take sz) := fun cc e => by
                rw [e]
                exact (hS2.out.front (by omega)).fr0 HOd.out.fr
              refine (byclone_f (l := rest'.take sz) (hSf _ (by omega)) (by omega)).mono ?_
              clear hSf
              rintro e W2 ⟨q4, c4, rfl, hB⟩
              obtain ⟨M2, hO2, hM2, hK2⟩ := HOd.out.join hB
              have HO2 := Lib.hid hO2
              have HM2 := Lib.hid hM2
              have HKs := Lib.hid hK2
              clear hO2 hM2 hK2 hB fc
              have fc := HO2.out.fr.get fc0 (by simp)
              have tc := World.at_lt fc
              go_wp2_with fail
              refine ⟨fc, ?_⟩
              refine drawn_next 5 (fuel := 3) rfl (by kernel_rfl) ?_
              intro K hK
              go_wp2_with fail
              refine ⟨by first | exact fc | go_simp, ?_⟩
              refine drawn_next 6 (fuel := 2) rfl (by kernel_rfl) ?_
              intro K hK
              refine wpList_app86 rfl _ _ rfl rfl ((HP.out.take (HO2.out.perm (List.perm_append_comm_assoc _ _ _))).call ((Fr.refl [] W2).alloc (.cells #[.slice q4 sz c4] 22))) rfl (Sv.one (v := .slice q4 sz c4) (T := 22) (fr := (0, 0)) (World.at_alloc_new _ _ _ rfl)) (by simp [Value.oneCell']) (by omega) ?_
              intro q5 c5 W5 B5
              obtain ⟨N5, hO5, hP5⟩ := B5.park
              have HO5 := Lib.hid hO5
              have HP5 := Lib.hid hP5
              clear hO5 hP5 B5
              refine wpList_nil ?_
              refine hK _ _ ⟨HO5.out.fr.get fc0 (by simp), ?_⟩
              clear hK K fc tc
              refine drawn_next 10 (fuel := 1) rfl (by kernel_rfl) ?_
              intro K hK
              have fc := HO5.out.fr.get fc0 (by simp)
              go_wp2_with fail
              refine ⟨fc, ?_⟩
              clear fc
              refine drawn_end rfl (by kernel_rfl) ?_
              intro K hK
              have wl : IntKind.i64.wrap ((left : Int) - 1) = (lf : Int) := by have := HLF.out; rw [IntKind.wrap_i64]; omega
              go_wp2_with fail
              go_step3
              refine ⟨⟨rfl, rfl, (by decide : 1 < 2), _, _, _, rest'.drop sz, q5, c5, us ++ [.slice q4 sz c4], N5, M2 ++ M, done ++ [rest'.take sz], lf, ⟨rfl, by rw [List.length_append]; rfl, rfl, rfl⟩, (fun h => absurd h (by decide)), ⟨by have := HLF.out; rw [List.length_append, List.length_singleton]; omega, by omega⟩, HS3.out _ _ (by simp [*]) (by omega), fun x hx => HBR.out x (List.mem_of_mem_drop hx), HK2.out, HO5.out, (by rw [List.length_append]; exact HP5.out), ?_, fun W' h => (HU.out W' h.of_append.2).append (.cons (HKs.out W' h.of_append.1) .nil)⟩, ?_⟩
              · intro x hx
                rcases List.mem_append.1 hx with hx | hx
                · exact HM2.out x hx
                · exact HM.out x hx
              · have := HLF.out
                show (intOf (.int .i64 (lf : Int))).toNat + 2 < (intOf (.int .i64 (left : Int))).toNat + 2
                simp only [intOf]
                omega
    | l + 3, hJ => exact absurd hJ.2.2.1 (by omega)
  · have NX := Lib.hid next
    clear next
    by_cases hn0 : n = 0
    · have d0 : ((n : Int) == 0) = true := by rw [hn0]; rfl
      have hb : B = [] := List.eq_nil_of_length_eq_zero (by rw [HS.out.len]; exact hn0)
      have hk : K0 = none := by rw [HK0.out, hb]; rfl
      have HKn := Lib.hid hk
      clear hk hb
      go_wp2_with fail
      go_step3
      exact ⟨rfl, rfl, HKn.out, ⟨20, by decide, rfl⟩, Fr.refl _ _⟩
    · have d0 : ((n : Int) == 0) = false := by rw [beq_eq_false_iff_ne]; omega
      obtain ⟨bb, off, cs, TT, fr, rfl, fc0, hs2, hx⟩ := HS.out.out (by omega)
      have hln := HS.out.len
      obtain ⟨x0, B1, hB1⟩ : ∃ x0 B1, B = x0 :: B1 := by
        match B, hln with
        | [], h => simp at h; omega
        | x0 :: r, _ => exact ⟨x0, r, rfl⟩
      have g0 : cs[off]? = some (.int .u8 x0) := by
        have := congrArg (fun l : List Value => l[0]?) hx
        rw [hB1] at this
        simp only [Array.getElem?_toList, List.map_cons, List.getElem?_cons_zero] at this
        rw [Array.getElem?_extract_of_lt (by omega), ← Array.getElem?_eq_getElem] at this
        exact this
      replace g0 := (Array.getElem?_eq_some_iff.1 g0).2
      have b0 := HB.out x0 (by rw [hB1]; simp)
      obtain ⟨y0, rfl⟩ := Int.eq_ofNat_of_zero_le b0.1
      have tc := World.at_lt fc0
      have h0n : (0 : Int) < (n : Int) := by omega
      have hc1 := HS.out.cap_
      have HR := Lib.hid hB1
      have hk1 : K0 = if (64 : Int) < (y0 : Int) then none else finP [] (takeP y0 B1) := by rw [HK0.out, hB1]; rfl
      have HK1 := Lib.hid hk1
      have hS2 : ∀ P2 C2, P2 = (if c = 1 then some (⟨bb, off, none⟩ : Addr) else some ⟨bb, off + 1, none⟩) → C2 = c - 1 → Sl .u8 w P2 (n - 1) C2 B1 := fun P2 C2 e1 e2 => by
        have h := HS.out.part (i := 1) (j := n) (c := c) (by omega) (Nat.le_refl _) hc1 (Nat.le_refl _)
        rw [HR.out, List.take_of_length_le (by rw [← HR.out, HS.out.len]; exact Nat.le_refl _)] at h
        rw [e1, e2]
        simpa [Addr.add_mid] using h
      have HS2 := Lib.hid hS2
      clear hS2 hk1 hB1 hx hln
      go_upto_region 5 with (fail)
      go_cut [0, 5, 11, 12, 13, 14, 15, 16] (fun v0 v5 _ _ _ _ _ _ wy => ∃ P2 C2, v0 = .slice P2 (n - 1) C2 ∧ v5 = .int .i64 (y0 : Int) ∧ Hid (Sl .u8 w P2 (n - 1) C2 B1) ∧ wy = w.drew)
      case first =>
        refine drawn_begin 7 (fun w' => w'.blk bb = some (.cells cs TT fr)) (by kernel_rfl) ?_
        refine drawn_reads (fuel := 1) [0, 1, 2, 3, 4, 6, 5] rfl (by kernel_rfl) fc0 ?_
        repeat (first | (refine rowK_step2 rfl rfl (fun K hK => ?_); go_wp2) | (refine rowK_step rfl (fun K hK => ?_); go_simp; refine hK _ ?_; clear hK K))
        all_goals
          refine rowK_nil ⟨fun w' e1 => ?_, ?_⟩
          · clear fc0 tc
            repeat (first | (refine rowWp_step2 rfl rfl (fun K hK => ?_); go_wp2) | (refine rowWp_step rfl (fun K hK => ?_); go_simp; refine hK _ ?_; clear hK K))
            exact rowWp_nil rfl
          refine drawn_end rfl (by kernel_rfl) ?_
          intro K hK
          go_wp2_with fail
          go_meet
        case rel => exact ⟨_, _, rfl, rfl, Lib.hid (HS2.out _ _ (by simp [*]) (by omega)), rfl⟩
        case rel => exact ⟨_, _, rfl, rfl, Lib.hid (HS2.out _ _ (by simp [*]) (by omega)), rfl⟩
      case rest =>
        obtain ⟨P2, C2, rfl, rfl, hS2, rfl⟩ := hcut
        have hbr : isBytes B1 := fun x hx => HB.out x (by rw [HR.out]; simp [hx])
        have HBR := Lib.hid hbr
        clear hbr fc0 tc g0 HS2
        by_cases h64 : 64 < y0
        · have d6 : decide ((64 : Int) < (y0 : Int)) = true := by rw [decide_eq_true_eq]; omega
          have hk : K0 = none := by rw [HK1.out, if_pos (by omega)]
          have HKn := Lib.hid hk
          clear hk
          go_wp2_with fail
          go_step3
          exact ⟨rfl, rfl, HKn.out, ⟨4, by decide, rfl⟩, (Fr.refl _ _).drew⟩
        · have d6 : decide ((64 : Int) < (y0 : Int)) = false := by rw [decide_eq_false_iff_not]; omega
          have hk : K0 = finP [] (takeP y0 B1) := by rw [HK1.out, if_neg (by omega)]
          have HKn := Lib.hid hk
          clear hk
          go_wp2_with fail
          go_step3
          rename_i Kx hKx
          refine hKx _ _ (wp_there (l := 2) (NX.out 2 _ _ ⟨rfl, rfl, (by decide : 1 < 2), P2, n - 1, C2, B1, none, 0, [], [], [], [], y0, ⟨rfl, rfl, rfl, rfl⟩, (fun h => absurd h (by decide)), ⟨by simp; omega, by omega⟩, hS2.out, HBR.out, HKn.out, (OwB.start w).drew, Parked.nil _ _, by simp, fun _ _ => .nil⟩) rfl)
end
end Go.Proofs.Ytombhkekocbfoaa
namespace Go.Proofs.Ytombhkekocbfoaa
open Go.RowKit Go.Dr Go.Kd
section
variable {w : World}
set_option maxRecDepth 100000 in
set_option maxHeartbeats 8000000 in
theorem dsplit_f {p : Option Addr} {n c : Nat} {B : Bs} (S : Sl .u8 w p n c B) (hB : isBytes B) (hn : n ≤ 100000) :
    Calls Try.prog 65 #[.slice p n c] w fun e w' => SplitRes w (splitB B) e w' := by
  have HS := Lib.hid S
  have HB := Lib.hid hB
  obtain ⟨K0, hK0⟩ : ∃ K0, K0 = splitB B := ⟨_, rfl⟩
  rw [← hK0]
  have HK0 := Lib.hid hK0
  clear S hB hK0
  go_enter Try.func65, Try.ntmps65
  by_cases hn0 : n = 0
  · have d0 : ((n : Int) == 0) = true := by rw [hn0]; rfl
    have hb : B = [] := List.eq_nil_of_length_eq_zero (by rw [HS.out.len]; exact hn0)
    have hk : K0 = none := by rw [HK0.out, hb]; rfl
    have HKn := Lib.hid hk
    clear hk hb
    go_wp2_with fail
    refine bodyPost_ret (results_tmp2 rfl _ _ _) rfl ?_
    rw [HKn.out]
    exact ⟨20, by decide, rfl, Fr.refl _ _⟩
  have d0 : ((n : Int) == 0) = false := by rw [beq_eq_false_iff_ne]; omega
  obtain ⟨bb, off, cs, TT, fr, rfl, fc0, hs2, hx⟩ := HS.out.out (by omega)
  have hln := HS.out.len
  have hcell : ∀ j, j < n → cs[off + j]? = some (.int .u8 (el B j)) := fun j hj => by
    have := congrArg (fun l : List Value => l[j]?) hx
    simp only [Array.getElem?_toList, List.getElem?_map] at this
    rw [Array.getElem?_extract_of_lt (by omega), ← Array.getElem?_eq_getElem] at this
    rw [this, List.getElem?_eq_getElem (by omega), el, List.getD_eq_getElem?_getD, List.getElem?_eq_getElem (by omega)]
    rfl
  have HC := Lib.hid hcell
  have HLN := Lib.hid hln
  have hel : ∀ j, 0 ≤ el B j ∧ el B j < 256 := fun j => by
    rw [el, List.getD_eq_getElem?_getD]
    cases h : B[j]? with
    | none => exact ⟨Int.le_refl 0, by decide⟩
    | some y => exact HB.out y (List.mem_of_getElem? h)
  obtain ⟨k, hk⟩ : ∃ k : Nat, el B 0 = (k : Int) := ⟨(el B 0).toNat, by have := hel 0; omega⟩
  have g0 := hcell 0 (by omega)
  rw [Nat.add_zero, hk] at g0
  replace g0 := (Array.getElem?_eq_some_iff.1 g0).2
  have k256 : k < 256 := by have := hel 0; omega
  have HEL := Lib.hid hel
  have hB0 : B = (k : Int) :: B.drop 1 := by
    match B, hln, hk with
    | [], h, _ => simp at h; omega
    | x :: r, _, hk => simp [el] at hk; simp [hk]
  have hk1 : K0 = if (64 : Int) < (k : Int) then none else finP [] (takeP k (B.drop 1)) := by
    rw [HK0.out]
    conv => lhs; rw [hB0]
    rfl
  have HK1 := Lib.hid hk1
  have tc := World.at_lt fc0
  have h0n : (0 : Int) < (n : Int) := by omega
  have hc1 := HS.out.cap_
  have wk : IntKind.i64.wrap (k : Int) = (k : Int) := by rw [IntKind.wrap_i64]; omega
  clear hx hln hcell hel hk hB0 hk1
  by_cases h64 : 64 < k
  · have d6 : decide ((64 : Int) < (k : Int)) = true := by rw [decide_eq_true_eq]; omega
    have hk : K0 = none := by rw [HK1.out, if_pos (by omega)]
    have HKn := Lib.hid hk
    clear hk
    go_wp2_with fail
    refine bodyPost_ret (results_tmp2 rfl _ _ _) rfl ?_
    rw [HKn.out]
    exact ⟨4, by decide, rfl, Fr.refl _ _⟩
  have d6 : decide ((64 : Int) < (k : Int)) = false := by rw [decide_eq_false_iff_not]; omega
  have hk : K0 = finP [] (takeP k (B.drop 1)) := by rw [HK1.out, if_neg (by omega)]
  have HK2 := Lib.hid hk
  clear hk HK1
  go_upto_region 8 with (fail)
  go_loopw [4, 5, 6] (fun vo va vi wy => ∃ (i at_ : Nat) (q : Option Addr) (c2 : Nat) (us : List Value) (No M : List (Nat × Obj)) (done : List Bs), i ≤ k ∧ at_ ≤ n ∧ 1 ≤ at_ ∧ done.length = i ∧ vi = .int .i64 (i : Int) ∧ va = .int .i64 (at_ : Int) ∧ vo = .slice q i c2 ∧ Hid (K0 = finP done (takeP (k - i) (B.drop at_))) ∧ Hid (OwB w (No ++ M) wy) ∧ Hid (Parked No 22 1 q i c2 us) ∧ Hid (∀ x ∈ M, ∃ cs fr, x.2 = .cells cs 5 fr) ∧ Hid (∀ W', Has M W' → Sls W' us done)) (fun _ _ vi _ => (k - intOf vi).toNat)
  case atStart => exact ⟨0, 1, none, 0, [], [], [], [], by omega, by omega, by omega, rfl, rfl, rfl, rfl, HK2, Lib.hid (OwB.start w), Lib.hid (Parked.nil _ _), Lib.hid (by simp), Lib.hid fun _ _ => .nil⟩
  case round =>
    obtain ⟨i, at_, q, c2, us, No, M, done, hik, han, ha1, hdl, rfl, rfl, rfl, hK, hO, hP, hM, hU⟩ := hrel
    have HDL := Lib.hid hdl
    clear hdl
    have fc := hO.out.fr.get fc0 (by simp)
    have tc2 := World.at_lt fc
    by_cases hlt : i < k
    · have d1 : decide ((i : Int) < (k : Int)) = true := by rw [decide_eq_true_eq]; omega
      obtain ⟨kf, hkf⟩ : ∃ kf, k - i = kf + 1 := ⟨k - i - 1, by omega⟩
      have HKF := Lib.hid hkf
      have wd : IntKind.i64.wrap ((n : Int) - (at_ : Int)) = ((n - at_ : Nat) : Int) := by rw [IntKind.wrap_i64]; omega
      by_cases h2 : n - at_ < 2
      · have d2 : decide (((n - at_ : Nat) : Int) < 2) = true := by rw [decide_eq_true_eq]; omega
        have hk : K0 = none := by rw [hK.out, HKF.out, takeP_short (by rw [List.length_drop, HLN.out]; exact h2), finP_none]
        have HKn := Lib.hid hk
        clear hk hkf
        go_wp2_with fail
        refine bodyPost_ret (results_tmp2 rfl _ _ _) rfl ?_
        rw [HKn.out]
        exact ⟨20, by decide, rfl, hO.out.fr⟩
      have d2 : decide (((n - at_ : Nat) : Int) < 2) = false := by rw [decide_eq_false_iff_not]; omega
      obtain ⟨y0, hy0⟩ : ∃ y0 : Nat, el B at_ = (y0 : Int) := ⟨(el B at_).toNat, by have := HEL.out at_; omega⟩
      obtain ⟨y1, hy1⟩ : ∃ y1 : Nat, el B (at_ + 1) = (y1 : Int) := ⟨(el B (at_ + 1)).toNat, by have := HEL.out (at_ + 1); omega⟩
      have b0 : y0 < 256 := by have := HEL.out at_; omega
      have b1 : y1 < 256 := by have := HEL.out (at_ + 1); omega
      have ga := HC.out at_ (by omega)
      have gb := HC.out (at_ + 1) (by omega)
      rw [hy0] at ga
      rw [hy1] at gb
      have hdr : B.drop at_ = (y0 : Int) :: (y1 : Int) :: B.drop (at_ + 2) := by
        have hl := HLN.out
        rw [List.drop_eq_getElem_cons (by omega), List.drop_eq_getElem_cons (by omega)]
        have e0 : B[at_]'(by omega) = (y0 : Int) := by rw [← hy0, el, List.getD_eq_getElem?_getD, List.getElem?_eq_getElem (by omega)]; rfl
        have e1 : B[at_ + 1]'(by omega) = (y1 : Int) := by rw [← hy1, el, List.getD_eq_getElem?_getD, List.getElem?_eq_getElem (by omega)]; rfl
        rw [e0, e1]
      have HDR := Lib.hid hdr
      replace ga := (Array.getElem?_eq_some_iff.1 ga).2
      replace gb := (Array.getElem?_eq_some_iff.1 gb).2
      have w0 : IntKind.i64.wrap (y0 : Int) = (y0 : Int) := by rw [IntKind.wrap_i64]; omega
      have w1 : IntKind.i64.wrap (y1 : Int) = (y1 : Int) := by rw [IntKind.wrap_i64]; omega
      have w2 : IntKind.i64.wrap ((y0 : Int) * 256) = (y0 : Int) * 256 := by rw [IntKind.wrap_i64]; omega
      have w3 : IntKind.i64.wrap ((at_ : Int) + 1) = ((at_ + 1 : Nat) : Int) := by rw [IntKind.wrap_i64]; omega
      have w4 : IntKind.i64.wrap ((y0 : Int) * 256 + (y1 : Int)) = ((y0 * 256 + y1 : Nat) : Int) := by rw [IntKind.wrap_i64]; omega
      have w5 : IntKind.i64.wrap ((at_ : Int) + 2) = ((at_ + 2 : Nat) : Int) := by rw [IntKind.wrap_i64]; omega
      have hai : ((at_ : Nat) : Int) < (n : Int) := by omega
      have hbi : ((at_ + 1 : Nat) : Int) < (n : Int) := by omega
      have hbi2 : (at_ : Int) + 1 < (n : Int) := by omega
      have hs3 : off + at_ < cs.size := by omega
      have hs4 : off + (at_ + 1) < cs.size := by omega
      clear hy0 hy1 hdr hkf
      go_upto_region 12 with (fail)
      refine wp_region_quiet_all (C := fun w' => ∃ _ : Unit, w' = wr.drew) (by kernel_rfl) (by kernel_rfl) ⟨(), rfl⟩ ?_
      repeat (go_big_quiet_step (fail))
      refine wpQuiet_nil ?_
      intro _ hw'
      obtain ⟨_, rfl⟩ := hw'
      obtain ⟨sz, hsz⟩ : ∃ sz, sz = y0 * 256 + y1 := ⟨_, rfl⟩
      have hsz2 : (y0 : Int) * 256 + (y1 : Int) = (sz : Int) := by omega
      have HSZ := Lib.hid hsz
      have szb : sz < 65536 := by omega
      rw [← hsz] at w4
      obtain ⟨a2, ha2⟩ : ∃ a2, a2 = at_ + 2 := ⟨_, rfl⟩
      rw [← ha2] at w5
      have HA2 := Lib.hid ha2
      have HK3 : Hid (K0 = finP done (takeP (kf + 1) ((y0 : Int) :: (y1 : Int) :: B.drop a2))) := Lib.hid (by rw [hK.out, HKF.out, HDR.out, HA2.out])
      have hl2 : (B.drop a2).length = n - a2 := by rw [List.length_drop, HLN.out]
      have HL2 := Lib.hid hl2
      have a2n : a2 ≤ n := by omega
      have wd2 : IntKind.i64.wrap ((n : Int) - (a2 : Int)) = ((n - a2 : Nat) : Int) := by rw [IntKind.wrap_i64]; omega
      clear ga gb w0 w1 w2 w3 hai hbi hbi2 hs3 hs4 hsz ha2 fc tc2 hl2 d2 wd
      by_cases h1 : 4096 < sz
      · have d1 : decide ((4096 : Int) < (sz : Int)) = true := by rw [decide_eq_true_eq]; omega
        have hk : K0 = none := by rw [HK3.out, takeP_big (.inl (by rw [Int.toNat_natCast, Int.toNat_natCast, ← HSZ.out]; exact h1)), finP_none]
        have HKn := Lib.hid hk
        clear hk
        go_wp2_with fail
        refine bodyPost_ret (results_tmp2 rfl _ _ _) rfl ?_
        rw [HKn.out]
        exact ⟨5, by decide, rfl, hO.out.drew.fr⟩
      have d3 : decide ((4096 : Int) < (sz : Int)) = false := by rw [decide_eq_false_iff_not]; omega
      by_cases h2' : n - a2 < sz
      · have d4 : decide (((n - a2 : Nat) : Int) < (sz : Int)) = true := by rw [decide_eq_true_eq]; omega
        have hk : K0 = none := by rw [HK3.out, takeP_big (.inr (by rw [Int.toNat_natCast, Int.toNat_natCast, ← HSZ.out, HL2.out]; exact h2')), finP_none]
        have HKn := Lib.hid hk
        clear hk
        go_wp2_with fail
        refine bodyPost_ret (results_tmp2 rfl _ _ _) rfl ?_
        rw [HKn.out]
        exact ⟨20, by decide, rfl, hO.out.drew.fr⟩
      have d4 : decide (((n - a2 : Nat) : Int) < (sz : Int)) = false := by rw [decide_eq_false_iff_not]; omega
      have HK4 : Hid (K0 = finP (done ++ [(B.drop a2).take sz]) (takeP kf (B.drop (a2 + sz)))) := Lib.hid (by
        rw [HK3.out, finP_step (by rw [Int.toNat_natCast, Int.toNat_natCast, ← HSZ.out]; exact h1) (by rw [Int.toNat_natCast, Int.toNat_natCast, ← HSZ.out, HL2.out]; exact h2')]
        rw [Int.toNat_natCast, Int.toNat_natCast, ← HSZ.out, List.drop_drop])
      have w6 : IntKind.i64.wrap ((a2 : Int) + (sz : Int)) = ((a2 + sz : Nat) : Int) := by rw [IntKind.wrap_i64]; omega
      have hS3 : ∀ P3 C3, P3 = (if c = a2 then some (⟨bb, off, none⟩ : Addr) else some ⟨bb, off + a2, none⟩) → C3 = c - a2 → Sl .u8 w P3 sz C3 ((B.drop a2).take sz) := fun P3 C3 e1 e2 => by
        have h := HS.out.part (i := a2) (j := a2 + sz) (c := c) (by omega) (by omega) (by omega) (Nat.le_refl _)
        rw [List.drop_take, Nat.add_sub_cancel_left] at h
        rw [e1, e2]
        simpa [Addr.add_mid] using h
      have HS3 := Lib.hid hS3
      have q1 : (a2 : Int) ≤ ((a2 + sz : Nat) : Int) := by omega
      have q2 : ((a2 + sz : Nat) : Int) ≤ (n : Int) := by omega
      have q3 : ((a2 + sz : Nat) : Int) ≤ (c : Int) := by omega
      have e9 : a2 + sz - a2 = sz := by omega
      clear hS3
      go_upto_region 19 with (fail)
      generalize hnil : (Value.slice none 0 0) = vn
      have HNil := Lib.hid hnil
      clear hnil
      have HOd := Lib.hid hO.out.drew
      iterate 21 (go_step)
      rename_i hKx
      refine hKx _ _ ?_
      refine wpList_app47 (l2 := (B.drop a2).take sz) rfl _ _ rfl (by exact HNil.out.symm) (Bld.nil (OwB.start wr.drew)) rfl (by rw [e9]; exact (HS3.out _ _ rfl rfl).fr0 HOd.out.fr) (by omega) ?_
      intro q4 c4 W4 hB
      rw [show 0 + (a2 + sz - a2) = sz by omega] at hB ⊢
      rw [List.nil_append] at hB
      obtain ⟨M2, hO2, hM2, hK2⟩ := HOd.out.join hB
      have HO2 := Lib.hid hO2
      have HM2 := Lib.hid hM2
      have HKs := Lib.hid hK2
      clear hO2 hM2 hK2 hB
      go_upto_region 20 with (fail)
      iterate 10 (go_step)
      refine wpList_app86 rfl _ _ rfl rfl ((hP.out.take (HO2.out.perm (List.perm_append_comm_assoc _ _ _))).call ((Fr.refl [] W4).alloc (.cells #[.slice q4 sz c4] 22))) rfl (Sv.one (v := .slice q4 sz c4) (T := 22) (fr := (0, 0)) (World.at_alloc_new _ _ _ rfl)) (by simp [Value.oneCell']) (by omega) ?_
      intro q5 c5 W5 B5
      obtain ⟨N5, hO5, hP5⟩ := B5.park
      have HO5 := Lib.hid hO5
      have HP5 := Lib.hid hP5
      have wi : IntKind.i64.wrap ((i : Int) + 1) = ((i + 1 : Nat) : Int) := by rw [IntKind.wrap_i64]; omega
      clear hO5 hP5 B5
      go_wp2_with fail
      go_roundw
      case rel =>
        refine ⟨i + 1, a2 + sz, q5, c5, us ++ [.slice q4 sz c4], N5, M2 ++ M, done ++ [(B.drop a2).take sz], by omega, (by have := HA2.out; omega), (by have := HA2.out; omega), by rw [List.length_append, HDL.out]; rfl, by first | rfl | simp, by first | rfl | simp, rfl, Lib.hid (by rw [HK4.out, show k - (i + 1) = kf by have := HKF.out; omega]), HO5, HP5, Lib.hid ?_, Lib.hid fun W' h => (hU.out W' h.of_append.2).append (.cons (HKs.out W' h.of_append.1) .nil)⟩
        intro x hx
        rcases List.mem_append.1 hx with hx | hx
        · exact HM2.out x hx
        · exact hM.out x hx
      case measure => simp [intOf]; omega
    · obtain rfl : i = k := by omega
      have d1 : decide ((i : Int) < (i : Int)) = false := by simp
      by_cases hat : at_ < n
      · have d2 : decide ((at_ : Int) < (n : Int)) = true := by rw [decide_eq_true_eq]; omega
        have hk : K0 = none := by
          rw [hK.out, Nat.sub_self, finP_zero, if_neg]
          intro e
          have := congrArg List.length e
          rw [List.length_drop, HLN.out, List.length_nil] at this
          omega
        have HKn := Lib.hid hk
        clear hk
        go_wp2_with fail
        refine bodyPost_ret (results_tmp2 rfl _ _ _) rfl ?_
        rw [HKn.out]
        exact ⟨21, by decide, rfl, hO.out.fr⟩
      · have d2 : decide ((at_ : Int) < (n : Int)) = false := by rw [decide_eq_false_iff_not]; omega
        have hk : K0 = some done := by
          rw [hK.out, Nat.sub_self, finP_zero, if_pos]
          exact List.drop_of_length_le (by rw [HLN.out]; omega)
        have HKn := Lib.hid hk
        clear hk
        go_wp2_with fail
        refine bodyPost_ret (results_tmp2 rfl _ _ _) rfl ?_
        rw [HKn.out]
        have HP' : Parked No 22 1 q done.length c2 us := by rw [HDL.out]; exact hP.out
        exact ⟨q, c2, No ++ M, by rw [HDL.out]; rfl, hO.out, parked_ty HP' hM.out, sll_of_parked HP' hU.out⟩
end
end Go.Proofs.Ytombhkekocbfoaa
namespace Go.Proofs.Ytombhkekocbfoaa
open Go.RowKit Go.Dr Go.Kd Go.St
theorem _root_.Go.BldV.with {w0 w w' : World} {L M : List (Nat × Obj)} {e sz : Nat} {p : Option Addr} {n cap : Nat} {vs : List Value} (h : BldV w0 L e sz w p n cap vs) (O : OwB w M w') : BldV w0 (M ++ L) e sz w' p n cap vs := by
  have hlt : ∀ q ∈ L, q.1 < w.heap.size := fun q hq => World.at_lt (h.own.has q hq)
  refine ⟨⟨fun q hq => ?_, ?_, fun q hq => ?_, h.own.fr.trans O.fr⟩, O.fr.owns h.row fun _ _ => by simp, fun g hg => ⟨(h.new g hg).1, fun hm => ?_⟩⟩
  · rcases List.mem_append.1 hq with hq | hq
    · exact O.has q hq
    · exact O.fr.get (h.own.has q hq) (by simp)
  · rw [List.map_append, List.nodup_append]
    refine ⟨O.nd, h.own.nd, fun a ha c hc e => ?_⟩
    subst e
    obtain ⟨x, hx, rfl⟩ := List.mem_map.1 ha
    obtain ⟨y, hy, hxy⟩ := List.mem_map.1 hc
    have h1 := O.lo x hx
    have h2 := hlt y hy
    omega
  · rcases List.mem_append.1 hq with hq | hq
    · exact Nat.le_trans h.own.fr.size (O.lo q hq)
    · exact h.own.lo q hq
  · rw [List.map_append] at hm
    rcases List.mem_append.1 hm with hm | hm
    · obtain ⟨x, hx, rfl⟩ := List.mem_map.1 hm
      have h1 := O.lo x hx
      rcases h.row.2 with ⟨hv, _⟩ | ⟨g, c, cur, hv, _, hb, _⟩
      · cases hv; cases hg
      · cases hv
        simp only [Option.map_some, Option.some.injEq] at hg
        subst hg
        have := World.at_lt hb
        omega
    · exact (h.new g hg).2 hm
theorem info32 : (Try.prog.info? 32).map (fun i => (i.zero, i.size, i.bytes)) = some (some (.agg #[.string ByteArray.empty, .slice none 0 0, .bool false]), 3, 48) := by kernel_rfl
/-- Growing changes, with what they lie in. -/
structure Gch (w0 : World) (X : List (Nat × Obj)) (w : World) (q : Option Addr) (k c : Nat) (l : List Chg) : Prop where
  ex : ∃ (us : List Value) (M : List (Nat × Obj)), BldV w0 (M ++ X) 32 3 w q k c us ∧ ∀ W, Has M W → ChV W us l
section
variable {w0 w w' : World} {X M : List (Nat × Obj)} {q p : Option Addr} {k c m d : Nat} {l : List Chg}
theorem Gch.nil (h : OwB w0 X w) : Gch w0 X w none 0 0 [] := ⟨[], [], BldV.nil h, fun _ _ => .nil⟩
theorem Gch.call (h : Gch w0 X w q k c l) (F : Fr [] w w') : Gch w0 X w' q k c l := by
  obtain ⟨us, M, B, S⟩ := h.ex
  exact ⟨us, M, B.call F, S⟩
theorem Gch.own (h : Gch w0 X w q k c l) : OwB w0 X w := by
  obtain ⟨us, M, B, S⟩ := h.ex
  exact B.own.sub (List.sublist_append_right _ _)
theorem Gch.chs (h : Gch w0 X w q k c l) : Chs w q k c l := by
  obtain ⟨us, M, B, S⟩ := h.ex
  exact ⟨us, B.sv, S w B.own.has.of_append.1⟩
theorem Gch.with (h : Gch w0 X w q k c l) (O : OwB w M w') : Gch w0 (M ++ X) w' q k c l := by
  obtain ⟨us, N, B, S⟩ := h.ex
  exact ⟨us, N, (B.with O).perm' (by rw [← List.append_assoc, ← List.append_assoc]; exact List.Perm.append_right _ List.perm_append_comm), S⟩
theorem Gch.keep (h : Gch w0 (M ++ X) w q k c l) : ∃ us N, BldV w0 ((N ++ M) ++ X) 32 3 w q k c us ∧ ∀ W, Has (N ++ M) W → ChV W us l ∧ Has M W := by
  obtain ⟨us, N, B, S⟩ := h.ex
  exact ⟨us, N, by rw [List.append_assoc]; exact B, fun W hW => ⟨S W hW.of_append.1, hW.of_append.2⟩⟩
theorem Gch.pop {b : Nat} {o : Obj} (h : Gch w0 ((b, o) :: X) w q k c l) : Gch w0 X w q k c l := by
  obtain ⟨us, M, B, S⟩ := h.ex
  exact ⟨us, M, B.sub (List.Sublist.append (List.Sublist.refl _) (List.sublist_cons_self _ _)), S⟩
variable {ops : Array Oper} {rest : List Oper} {o : Oper} {a : Act} {Q : Exit → Act → World → Prop}
theorem wpList_app33 (hgd : o.guard = none) (s x : Operand) (ho : o.op = .call { callee := .builtin .append, args := #[s, x], argTypes := #[33, 33] })
    (hs : a.eval s = .slice q k c) {b : Nat} (hx : a.eval x = .slice (some ⟨b, 0, none⟩) 1 1) {fr : Nat × Nat} {y : Chg} (G : Gch w0 (M ++ X) w q k c l) (S : ∀ W, Has M W → Sl .u8 W p m d y.val) (hb : w.blk b = some (.cells #[.string (strB y.name), .slice p m d, .bool y.gone] 32 fr)) (hbig : k + 1 ≤ 1000000)
    (h : ∀ q' c' w', Gch w0 X w' q' (k + 1) c' (l ++ [y]) → wpList Try.prog ops Q rest (a.put o.dst (.slice q' (k + 1) c')) w') : wpList Try.prog ops Q (o :: rest) a w := by
  obtain ⟨us, N, B, hC⟩ := G.keep
  obtain ⟨i, hi, hz, hs1, hb1⟩ := info_parts info32
  have Sv3 : Sv 3 w (some ⟨b, 0, none⟩) 1 1 [.string (strB y.name), .slice p m d, .bool y.gone] :=
    ⟨rfl, Nat.le_refl 1, .inr ⟨b, 0, _, 32, fr, rfl, hb, by simp, by simp⟩, (fun h => by cases h), trivial⟩
  exact wpList_apdV hgd s x 33 33 ho Try.underlying33 hi hz hs1 (by omega) hb1 rfl hs B hx (Apd.ofSrc Try.underlying33 hi hz (by rw [hs1]; exact Sv3.src Try.underlying33 (by simp [Value.oneCell']))) (by omega) (by omega) fun q' c' w' B' => h q' c' w' ⟨us ++ [.string (strB y.name), .slice p m d, .bool y.gone], N ++ M, B', fun W hW => (hC W hW).1.append (.cons (S W (hC W hW).2) .nil)⟩
end
theorem rdChgs_snoc : ∀ (bs : List Bs) (b : Bs), rdChgs (bs ++ [b]) = (rdChgs bs).bind fun l => (rdChg b).map fun c => l ++ [c] := by
  intro bs
  induction bs with
  | nil => intro b; simp [rdChgs]; cases rdChg b <;> rfl
  | cons x bs ih =>
    intro b
    rw [List.cons_append, rdChgs, rdChgs, ih]
    cases rdChg x <;> cases rdChgs bs <;> cases rdChg b <;> rfl
theorem rdChgs_bad : ∀ {bs : List Bs} {b : Bs}, b ∈ bs → rdChg b = none → rdChgs bs = none := by
  intro bs
  induction bs with
  | nil => intro b h; cases h
  | cons x bs ih =>
    intro b h hb
    rw [rdChgs]
    rcases List.mem_cons.1 h with rfl | h
    · rw [hb]; rfl
    · rw [ih h hb]
      cases rdChg x <;> rfl
theorem sl_nil (W : World) : Sl .u8 W none 0 0 [] := ⟨rfl, Nat.le_refl 0, .inl rfl, fun _ => rfl, by simp⟩
theorem sly_one {w : World} {M : List (Nat × Obj)} {q : Option Addr} {c : Nat} {y : Bs} {us : List Value} (h : ∀ W, Has M W → Sv 1 W q 1 c us ∧ Sls W us [y]) (hM : Has M w) :
    ∃ b off cs T fr qa ca, q = some ⟨b, off, none⟩ ∧ w.blk b = some (.cells cs T fr) ∧ ∃ h0 : off < cs.size, cs[off] = .slice qa y.length ca ∧ Sl .u8 w qa y.length ca y := by
  obtain ⟨h1, h2⟩ := h w hM
  cases h2 with
  | cons h3 h4 =>
    cases h4
    obtain ⟨b, off, cs, T, fr, e1, e2, e3, e4⟩ := h1.at1 (j := 0) (by omega) (by simp)
    obtain ⟨e5, e6⟩ := Array.getElem?_eq_some_iff.1 e4
    have hl := h3.len
    subst hl
    exact ⟨b, off, cs, T, fr, _, _, e1, e2, e5, e6, h3⟩
theorem sly_two {w : World} {M : List (Nat × Obj)} {q : Option Addr} {c : Nat} {y z : Bs} {us : List Value} (h : ∀ W, Has M W → Sv 1 W q 2 c us ∧ Sls W us [y, z]) (hM : Has M w) :
    ∃ b off cs T fr qa ca qb cb, q = some ⟨b, off, none⟩ ∧ w.blk b = some (.cells cs T fr) ∧ (∃ h0 : off < cs.size, cs[off] = .slice qa y.length ca) ∧ (∃ h1 : off + 1 < cs.size, cs[off + 1] = .slice qb z.length cb) ∧ Sl .u8 w qa y.length ca y ∧ ∀ W, Has M W → Sl .u8 W qb z.length cb z := by
  obtain ⟨h1, h2⟩ := h w hM
  cases h2 with
  | cons h3 h4 =>
    cases h4 with
    | cons h5 h6 =>
      cases h6
      obtain ⟨b, off, cs, T, fr, e1, e2, e3, e4⟩ := h1.at1 (j := 0) (by omega) (by simp)
      obtain ⟨b', off', cs', T', fr', f1, f2, f3, f4⟩ := h1.at1 (j := 1) (by omega) (by simp)
      rw [e1] at f1
      cases f1
      rw [e2] at f2
      cases f2
      obtain ⟨e5, e6⟩ := Array.getElem?_eq_some_iff.1 e4
      obtain ⟨f5, f6⟩ := Array.getElem?_eq_some_iff.1 f4
      have hl := h3.len
      subst hl
      have hl2 := h5.len
      subst hl2
      refine ⟨b, off, cs, T, fr, _, _, _, _, e1, e2, ⟨e5, e6⟩, ⟨f5, f6⟩, h3, fun W hW => ?_⟩
      cases (h W hW).2 with
      | cons _ g => cases g with
        | cons g _ => exact g
theorem E33 : ElemT Try.prog 33 32 3 48 #[.string ByteArray.empty, .slice none 0 0, .bool false] := ⟨Try.underlying33, by kernel_rfl, rfl⟩
@[go_sem] theorem one33 (w : World) (cs : Array Value) (h : cs.size = 3) : (buildOneK 33 #[(0, .agg cs)]).run Try.prog w = .ok (.slice (some ⟨w.heap.size, 0, none⟩) 1 1) (w.alloc (.cells cs 32)) :=
  E33.buildOne (by omega) (by omega) w (.agg cs) h
/-- What unpack answers. -/
def UnpR (w : World) (o : Option (List Chg)) (e : Ending) (w' : World) : Prop := match o with
  | some l => ∃ q c, e = .returned (.tuple #[.slice q l.length c, .bool true]) ∧ Chs w' q l.length c l ∧ Fr [] w w'
  | none => e = .returned (.tuple #[.slice none 0 0, .bool false]) ∧ Fr [] w w'
section
variable {w : World}
theorem takeP_len : ∀ (n : Nat) (b : Bs) (ps : List Bs) (r : Bs), takeP n b = some (ps, r) → ps.length = n := by
  intro n
  induction n with
  | zero => intro b ps r h; rw [takeP] at h; cases h; rfl
  | succ n ih =>
    intro b ps r h
    match b, h with
    | [], h => cases h
    | [_], h => cases h
    | a :: c :: b, h =>
      rw [takeP] at h
      split at h
      · cases h
      · cases hq : takeP n (b.drop (a.toNat * 256 + c.toNat)) with
        | none => rw [hq] at h; cases h
        | some q =>
          obtain ⟨l, r2⟩ := q
          rw [hq] at h
          simp only [Option.map_some, Option.some.injEq, Prod.mk.injEq] at h
          obtain ⟨rfl, rfl⟩ := h
          rw [List.length_cons, ih _ _ _ hq]
theorem takeP_le : ∀ (n : Nat) (b : Bs) (ps : List Bs) (r : Bs), takeP n b = some (ps, r) → ∀ p ∈ ps, p.length ≤ 4096 := by
  intro n
  induction n with
  | zero => intro b ps r h; rw [takeP] at h; cases h; simp
  | succ n ih =>
    intro b ps r h
    match b, h with
    | [], h => cases h
    | [_], h => cases h
    | a :: c :: b, h =>
      rw [takeP] at h
      split at h
      · cases h
      · rename_i hc
        cases hq : takeP n (b.drop (a.toNat * 256 + c.toNat)) with
        | none => rw [hq] at h; cases h
        | some q =>
          obtain ⟨l, r2⟩ := q
          rw [hq] at h
          simp only [Option.map_some, Option.some.injEq, Prod.mk.injEq] at h
          obtain ⟨rfl, rfl⟩ := h
          intro p hp
          rcases List.mem_cons.1 hp with rfl | hp
          · rw [List.length_take]
            have := Nat.min_le_left (a.toNat * 256 + c.toNat) b.length
            omega
          · exact ih _ _ _ hq p hp
theorem splitB_le {b : Bs} {ps : List Bs} (h : splitB b = some ps) : ∀ p ∈ ps, p.length ≤ 4096 := by
  match b, h with
  | [], h => cases h
  | k :: b, h =>
    rw [splitB] at h
    split at h
    · cases h
    · cases hq : takeP k.toNat b with
      | none => rw [hq] at h; cases h
      | some q =>
        obtain ⟨l, r⟩ := q
        rw [hq] at h
        cases r with
        | cons x r => cases h
        | nil =>
          simp only [finP, List.nil_append, Option.some.injEq] at h
          subst h
          exact takeP_le _ _ _ _ hq
theorem splitB_len {b : Bs} {ps : List Bs} (h : splitB b = some ps) : ps.length ≤ 64 := by
  match b, h with
  | [], h => cases h
  | k :: b, h =>
    rw [splitB] at h
    split at h
    · cases h
    · cases hq : takeP k.toNat b with
      | none => rw [hq] at h; cases h
      | some q =>
        obtain ⟨l, r⟩ := q
        rw [hq] at h
        cases r with
        | cons x r => cases h
        | nil =>
          simp only [finP, List.nil_append, Option.some.injEq] at h
          subst h
          rw [takeP_len _ _ _ _ hq]
          omega
set_option maxRecDepth 100000 in
set_option maxHeartbeats 8000000 in
theorem unpack_f {p : Option Addr} {n c : Nat} {B : Bs} (S : Sl .u8 w p n c B) (hB : isBytes B) (hn : n ≤ 100000) :
    Calls Try.prog 56 #[.slice p n c] w fun e w' => UnpR w (rdPay B) e w' := by
  have HB := Lib.hid hB
  have HS := Lib.hid S
  obtain ⟨R, hR⟩ : ∃ R, R = rdPay B := ⟨_, rfl⟩
  rw [← hR]
  have HR := Lib.hid hR
  clear S hB hR
  go_enter Try.func56, Try.ntmps56
  go_wp2_with fail
  refine (split_f HS.out HB.out hn).mono ?_
  intro en w1 hsp
  cases ho : splitB B with
  | none =>
    rw [ho] at hsp
    obtain ⟨why, hw, rfl, F⟩ := hsp
    have hr : R = none := by rw [HR.out, rdPay, ho]; rfl
    have HRN := Lib.hid hr
    have HF := Lib.hid F
    have hd : (why == 0) = false := by rw [beq_eq_false_iff_ne]; exact hw
    have hd2 : (why != 0) = true := by rw [bne, hd]; rfl
    clear ho hr F
    go_wp2_with fail
    refine bodyPost_ret (results_tmp2 rfl _ _ _) rfl ?_
    rw [HRN.out]
    exact ⟨rfl, HF.out⟩
  | some ls =>
    rw [ho] at hsp
    obtain ⟨q1, c1, M1, rfl, O1, -, us1, hus1⟩ := hsp
    have hSll : Sll w1 q1 ls.length c1 ls := by obtain ⟨a, b⟩ := hus1 w1 O1.has; exact Sll.of a b
    have HLS := Lib.hid hSll
    have HF1 := Lib.hid O1.fr
    have hr : R = rdChgs ls := by rw [HR.out, rdPay, ho]; rfl
    have HRL := Lib.hid hr
    have HPB := Lib.hid (splitB_byt HB.out ho)
    have HPL := Lib.hid (splitB_le ho)
    have hlen := splitB_len ho
    obtain ⟨N, hN⟩ : ∃ N, N = ls.length := ⟨_, rfl⟩
    rw [← hN] at hlen HLS ⊢
    have HN := Lib.hid hN
    clear ho hr hN hus1 hSll O1
    go_wp2_with fail
    go_loopw [6, 21] (fun v iv wy => ∃ (i : Nat) (q : Option Addr) (cp : Nat) (l : List Chg), i ≤ N ∧ v = .slice q i cp ∧ iv = .int .i64 (i : Int) ∧ Hid (rdChgs (ls.take i) = some l ∧ Gch w1 [] wy q i cp l)) (fun _ iv _ => (N - intOf iv).toNat)
    case atStart => exact ⟨0, none, 0, [], by omega, rfl, rfl, Lib.hid ⟨rfl, Gch.nil (OwB.start w1)⟩⟩
    case round =>
      obtain ⟨i, q, cp, l, hin, rfl, rfl, hW⟩ := hrel
      by_cases hlt : i < N
      · have hd : decide ((i : Int) < (N : Int)) = true := by rw [decide_eq_true_eq]; omega
        obtain ⟨b, off, cs, TT, fr, q2, m2, c2, x, rfl, fb, hsz, hat, hx, S2⟩ := (HLS.out.fr0 hW.out.2.own.fr).at hlt
        replace hat := (Array.getElem?_eq_some_iff.1 hat).2
        have hxm := List.mem_of_getElem? hx
        have HXM := Lib.hid hxm
        have HX := Lib.hid hx
        have HS2 := Lib.hid S2
        have tb := World.at_lt fb
        have wi : IntKind.i64.wrap ((i : Int) + 1) = ((i + 1 : Nat) : Int) := by rw [IntKind.wrap_i64]; omega
        clear hx hxm S2
        go_wp2_with fail
        refine (split_f HS2.out (HPB.out x HXM.out) (by have := HPL.out x HXM.out; have := HS2.out.len; omega)).mono ?_
        intro en w2 hsp
        have HPX := Lib.hid (HPB.out x HXM.out)
        cases ho : splitB x with
        | none =>
          rw [ho] at hsp
          obtain ⟨why, hw, rfl, F⟩ := hsp
          have hr : R = none := by rw [HRL.out]; exact rdChgs_bad HXM.out (by rw [rdChg, ho])
          have HRN := Lib.hid hr
          have HF := Lib.hid (HF1.out.trans (hW.out.2.own.fr.trans F))
          have hd : (why == 0) = false := by rw [beq_eq_false_iff_ne]; exact hw
          have hd2 : (why != 0) = true := by rw [bne, hd]; rfl
          clear ho hr F
          go_wp2_with fail
          refine bodyPost_ret (results_tmp2 rfl _ _ _) rfl ?_
          rw [HRN.out]
          exact ⟨rfl, HF.out⟩
        | some ys =>
          rw [ho] at hsp
          obtain ⟨q3, c3, M3, rfl, O3, -, us3, hus3⟩ := hsp
          have HG3 := Lib.hid (hW.out.2.with O3)
          have HRI := Lib.hid hW.out.1
          have HF := Lib.hid (HF1.out.trans (hW.out.2.own.fr.trans O3.fr))
          have hSll : ∀ W, Has M3 W → Sll W q3 ys.length c3 ys := fun W hW => by obtain ⟨a, b⟩ := hus3 W hW; exact Sll.of a b
          have hM3 := O3.has
          have HUS := Lib.hid hus3
          have HM3 := Lib.hid hM3
          have HYB := Lib.hid (splitB_byt HPX.out ho)
          have hrd : rdChg x = match (some ys : Option (List Bs)) with
            | some [n] => if 1 ≤ n.length ∧ n.length ≤ 32 then some ⟨n, true, []⟩ else none
            | some [n, v] => if 1 ≤ n.length ∧ n.length ≤ 32 ∧ v.length ≤ 4000 then some ⟨n, false, v⟩ else none
            | _ => none := by rw [← ho]; rfl
          have HRD := Lib.hid hrd
          clear hW O3 ho hSll hrd fb tb hat hsz hus3 hM3
          have hbad : rdChg x = none → R = none := fun h => by rw [HRL.out]; exact rdChgs_bad HXM.out h
          have HBAD := Lib.hid hbad
          clear hbad
          match ys, HUS, HYB, HRD with
          | [], HUS, HYB, HRD =>
            have HRN := Lib.hid (HBAD.out HRD.out)
            go_wp2_with fail
            refine bodyPost_ret (results_tmp2 rfl _ _ _) rfl ?_
            rw [HRN.out]
            exact ⟨rfl, HF.out⟩
          | y :: z :: t :: ys, HUS, HYB, HRD =>
            have HRN := Lib.hid (HBAD.out HRD.out)
            have hl3 : (y :: z :: t :: ys).length = ys.length + 3 := rfl
            rw [hl3]
            obtain ⟨m3, hm3⟩ : ∃ m3, m3 = ys.length + 3 := ⟨_, rfl⟩
            have d1 : decide ((m3 : Int) < 1) = false := by rw [decide_eq_false_iff_not]; omega
            have d2 : decide ((2 : Int) < (m3 : Int)) = true := by rw [decide_eq_true_eq]; omega
            rw [← hm3]
            clear hl3 hm3
            go_wp2_with fail
            refine bodyPost_ret (results_tmp2 rfl _ _ _) rfl ?_
            rw [HRN.out]
            exact ⟨rfl, HF.out⟩
          | [y], HUS, HYB, HRD =>
            obtain ⟨b3, o3, cs3, T3, fr3, qa, ca, rfl, g3, s3, c3', Sy⟩ := sly_one HUS.out HM3.out
            have t3 := World.at_lt g3
            have hcv := conv47 Sy
            have hrd : rdChg x = if 1 ≤ y.length ∧ y.length ≤ 32 then some ⟨y, true, []⟩ else none := HRD.out
            obtain ⟨m3, hm3⟩ : ∃ m3, m3 = y.length := ⟨_, rfl⟩
            rw [← hm3] at hcv hrd c3'
            have HM := Lib.hid hm3
            have HRC := Lib.hid hrd
            clear Sy hrd hm3
            by_cases h1 : m3 < 1
            · have d1 : decide ((m3 : Int) < 1) = true := by rw [decide_eq_true_eq]; omega
              have HRN := Lib.hid (HBAD.out (by rw [HRC.out, if_neg (by omega)]))
              clear hcv
              go_wp2_with fail
              refine bodyPost_ret (results_tmp2 rfl _ _ _) rfl ?_
              rw [HRN.out]
              exact ⟨rfl, HF.out⟩
            have d1 : decide ((m3 : Int) < 1) = false := by rw [decide_eq_false_iff_not]; omega
            by_cases h2 : 32 < m3
            · have d2 : decide ((32 : Int) < (m3 : Int)) = true := by rw [decide_eq_true_eq]; omega
              have HRN := Lib.hid (HBAD.out (by rw [HRC.out, if_neg (by omega)]))
              clear hcv
              go_wp2_with fail
              refine bodyPost_ret (results_tmp2 rfl _ _ _) rfl ?_
              rw [HRN.out]
              exact ⟨rfl, HF.out⟩
            have d2 : decide ((32 : Int) < (m3 : Int)) = false := by rw [decide_eq_false_iff_not]; omega
            have HRS := Lib.hid (show rdChgs (ls.take (i + 1)) = some (l ++ [⟨y, true, []⟩]) by
              rw [List.take_add_one, HX.out]
              show rdChgs (ls.take i ++ [x]) = _
              rw [rdChgs_snoc, HRI.out, HRC.out, if_pos (by omega)]
              rfl)
            clear h1 h2
            go_wp2_with (refine wpList_app33 (y := ⟨y, true, []⟩) (p := none) (m := 0) (d := 0) rfl _ _ rfl rfl rfl (HG3.out.call (((Fr.refl [] w2).alloc _).alloc _)) (fun W _ => sl_nil W) (World.at_alloc_new _ _ _ (by simp)) (by omega) ?_)
            intro q5 c5 W5 G5
            have HG5 := Lib.hid G5
            clear G5 HG3 hcv g3 t3
            go_wp2_with fail
            go_roundw
            case rel => exact ⟨i + 1, q5, c5, _, hlt, by first | rfl | simp, by first | rfl | simp, Lib.hid ⟨HRS.out, HG5.out⟩⟩
            case measure => simp [intOf]; omega
          | [y, z], HUS, HYB, HRD =>
            obtain ⟨b3, o3, cs3, T3, fr3, qa, ca, qb, cb, rfl, g3, ⟨s3, c3'⟩, ⟨s4, c4'⟩, Sy, Sz⟩ := sly_two HUS.out HM3.out
            have HSZ := Lib.hid Sz
            have t3 := World.at_lt g3
            have hcv := conv47 Sy
            have hrd : rdChg x = if 1 ≤ y.length ∧ y.length ≤ 32 ∧ z.length ≤ 4000 then some ⟨y, false, z⟩ else none := HRD.out
            obtain ⟨m3, hm3⟩ : ∃ m3, m3 = y.length := ⟨_, rfl⟩
            rw [← hm3] at hcv hrd c3'
            obtain ⟨m4, hm4⟩ : ∃ m4, m4 = z.length := ⟨_, rfl⟩
            rw [← hm4] at hrd c4'
            have HM4 := Lib.hid hm4
            have HM := Lib.hid hm3
            have HRC := Lib.hid hrd
            clear Sy Sz hrd hm3 hm4
            by_cases h1 : m3 < 1
            · have d1 : decide ((m3 : Int) < 1) = true := by rw [decide_eq_true_eq]; omega
              have HRN := Lib.hid (HBAD.out (by rw [HRC.out, if_neg (by omega)]))
              clear hcv
              go_wp2_with fail
              refine bodyPost_ret (results_tmp2 rfl _ _ _) rfl ?_
              rw [HRN.out]
              exact ⟨rfl, HF.out⟩
            have d1 : decide ((m3 : Int) < 1) = false := by rw [decide_eq_false_iff_not]; omega
            by_cases h2 : 32 < m3
            · have d2 : decide ((32 : Int) < (m3 : Int)) = true := by rw [decide_eq_true_eq]; omega
              have HRN := Lib.hid (HBAD.out (by rw [HRC.out, if_neg (by omega)]))
              clear hcv
              go_wp2_with fail
              refine bodyPost_ret (results_tmp2 rfl _ _ _) rfl ?_
              rw [HRN.out]
              exact ⟨rfl, HF.out⟩
            have d2 : decide ((32 : Int) < (m3 : Int)) = false := by rw [decide_eq_false_iff_not]; omega
            by_cases h3 : 4000 < m4
            · have d3 : decide ((4000 : Int) < (m4 : Int)) = true := by rw [decide_eq_true_eq]; omega
              have HRN := Lib.hid (HBAD.out (by rw [HRC.out, if_neg (by omega)]))
              have HF2 := Lib.hid (fun (o : Obj) => HF.out.alloc o)
              go_wp2_with fail
              refine bodyPost_ret (results_tmp2 rfl _ _ _) rfl ?_
              rw [HRN.out]
              exact ⟨rfl, HF2.out _⟩
            have d3 : decide ((4000 : Int) < (m4 : Int)) = false := by rw [decide_eq_false_iff_not]; omega
            have HRS := Lib.hid (show rdChgs (ls.take (i + 1)) = some (l ++ [⟨y, false, z⟩]) by
              rw [List.take_add_one, HX.out]
              show rdChgs (ls.take i ++ [x]) = _
              rw [rdChgs_snoc, HRI.out, HRC.out, if_pos (by omega)]
              rfl)
            clear h1 h2 h3
            go_wp2_with (refine wpList_app33 (y := ⟨y, false, z⟩)  rfl _ _ rfl rfl rfl (HG3.out.call (((Fr.refl [] w2).alloc _).alloc _)) (by rw [HM4.out]; exact HSZ.out) (World.at_alloc_new _ _ _ (by simp)) (by omega) ?_)
            intro q5 c5 W5 G5
            have HG5 := Lib.hid G5
            clear G5 HG3 hcv g3 t3
            go_wp2_with fail
            go_roundw
            case rel => exact ⟨i + 1, q5, c5, _, hlt, by first | rfl | simp, by first | rfl | simp, Lib.hid ⟨HRS.out, HG5.out⟩⟩
            case measure => simp [intOf]; omega
      · obtain rfl : i = N := by omega
        have hd : decide ((i : Int) < (i : Int)) = false := by simp
        have htk : ls.take i = ls := List.take_of_length_le (by rw [← HN.out]; exact Nat.le_refl _)
        rw [htk] at hW
        have hll : l.length = i := hW.out.2.chs.len
        go_wp2_with fail
        refine bodyPost_ret (results_tmp2 rfl _ _ _) rfl ?_
        rw [HRL.out, hW.out.1]
        exact ⟨q, cp, by rw [hll]; rfl, by rw [hll]; exact hW.out.2.chs, HF1.out.trans hW.out.2.own.fr⟩
end
end Go.Proofs.Ytombhkekocbfoaa
