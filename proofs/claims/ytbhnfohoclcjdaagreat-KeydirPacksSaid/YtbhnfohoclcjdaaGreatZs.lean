/- Joined: PkE, PkF, PkG, PkH, PkI, PkJ. -/
import Derived.Test.YtbhnfohoclcjdaaGreatZr
set_option linter.unusedVariables false
set_option linter.unusedSimpArgs false
namespace Go.Proofs.YtbhnfohoclcjdaaGreat
open Go.RowKit Go.Dr Go.Kd
theorem arr_fun {tm : Array Value} {n : Nat} (h : tm.size = n) : tm = ((List.range n).map fun i => tm.getD i undef).toArray := by
  apply Array.ext
  · simp [h]
  · intro i h1 h2
    simp [h1]
/-- What stands at Split's labels: behind pieces that are taken. -/
def SpJ (w : World) (K0 : Option (List Bs)) (l : Nat) (a : Act) (W : World) : Prop :=
  a.tmps.size = 59 ∧ a.defers = [] ∧ match l with
  | 0 => K0 = none ∧ (∃ why : Int, why ≠ 0 ∧ a.tmps.getD 7 undef = .int .i64 why) ∧ Fr [] w W
  | l + 1 => l < 2 ∧ ∃ (p : Option Addr) (n c : Nat) (rest : Bs) (q : Option Addr) (c2 : Nat) (us : List Value) (No M : List (Nat × Obj)) (done : List Bs) (left : Nat),
      (a.tmps.getD 0 undef = .slice p n c ∧ a.tmps.getD 4 undef = .slice q done.length c2 ∧ a.tmps.getD 5 undef = .int .i64 (left : Int) ∧ a.tmps.getD 7 undef = .int .i64 20) ∧
      (l = 0 → left = 0) ∧ (left + done.length ≤ 64 ∧ n ≤ 100000) ∧ Sl .u8 w p n c rest ∧ isBytes rest ∧ K0 = finP done (takeP left rest) ∧ OwB w (No ++ M) W ∧ Parked No 49 1 q done.length c2 us ∧ (∀ x ∈ M, ∃ cs fr, x.2 = .cells cs 5 fr) ∧ ∀ W', Has M W' → Sls W' us done
def spM (l : Nat) (a : Act) (_ : World) : Nat := match l with
  | 0 => 0
  | 1 => 1
  | _ => (intOf (a.tmps.getD 5 undef)).toNat + 2
theorem i64_or_byte (a b : Nat) (ha : a < 256) (hb : b < 256) : bits .or .i64 ((a : Int) * 256) (b : Int) = ((a * 256 + b : Nat) : Int) := by
  have e : ((a : Int) * 256) = ((2 ^ 8 * a : Nat) : Int) := by omega
  rw [e]
  show IntKind.i64.wrap ((BitVec.ofInt 64 ((2 ^ 8 * a : Nat) : Int) ||| BitVec.ofInt 64 (b : Int)).toNat : Int) = _
  rw [BitVec.toNat_or, BitVec.ofInt_natCast, BitVec.ofInt_natCast, BitVec.toNat_ofNat, BitVec.toNat_ofNat, Nat.mod_eq_of_lt (by omega), Nat.mod_eq_of_lt (by omega), ← Nat.two_pow_add_eq_or_of_lt (by omega), IntKind.wrap_i64]
  omega
theorem sll_of_parked {No M : List (Nat × Obj)} {q : Option Addr} {m c : Nat} {us : List Value} {ls : List Bs} (hP : Parked No 49 1 q m c us) (hU : ∀ W', Has M W' → Sls W' us ls) : Sly (No ++ M) q m c ls := ⟨us, fun W h => ⟨hP.svH h.of_append.1, hU W h.of_append.2⟩⟩
theorem parked_ty {No M : List (Nat × Obj)} {q : Option Addr} {m c : Nat} {us : List Value} (hP : Parked No 49 1 q m c us) (hM : ∀ x ∈ M, ∃ cs fr, x.2 = .cells cs 5 fr) : ∀ x ∈ No ++ M, ∃ cs T fr, x.2 = .cells cs T fr ∧ (T = 5 ∨ T = 49) := fun x hx => by
  rcases List.mem_append.1 hx with hx | hx
  · rcases hP with ⟨rfl, _⟩ | ⟨g, r, rfl, _⟩
    · cases hx
    · rw [List.mem_singleton] at hx
      subst hx
      exact ⟨_, _, _, rfl, .inr rfl⟩
  · obtain ⟨cs, fr, e⟩ := hM x hx
    exact ⟨cs, 5, fr, e, .inl rfl⟩
section
variable {w : World}
set_option maxRecDepth 100000 in
set_option maxHeartbeats 8000000 in
theorem split_f {p : Option Addr} {n c : Nat} {B : Bs} (S : Sl .u8 w p n c B) (hB : isBytes B) (hn : n ≤ 100000) :
    Calls Tryz.prog 68 #[.slice p n c] w fun e w' => SplitRes w (splitB B) e w' := by
  have HS := Lib.hid S
  have HB := Lib.hid hB
  obtain ⟨K0, hK0⟩ : ∃ K0, K0 = splitB B := ⟨_, rfl⟩
  rw [← hK0]
  have HK0 := Lib.hid hK0
  clear S hB hK0
  go_enter Tryz.func68, Tryz.ntmps68
  go_wp2_with fail
  refine wp_scope_next (SpJ w K0) spM (fun l a W hJ => ?_) (fun next => ?_)
  · match l, hJ with
    | 0, hJ =>
      obtain ⟨hs, hd, hK, ⟨why, hw, h7⟩, F⟩ := hJ
      refine ⟨_, rfl, ?_⟩
      obtain ⟨tm, df⟩ := a
      simp only [] at hs hd h7
      obtain ⟨u, rfl⟩ : ∃ u : Nat → Value, tm = #[u 0, u 1, u 2, u 3, u 4, u 5, u 6, u 7, u 8, u 9, u 10, u 11, u 12, u 13, u 14, u 15, u 16, u 17, u 18, u 19, u 20, u 21, u 22, u 23, u 24, u 25, u 26, u 27, u 28, u 29, u 30, u 31, u 32, u 33, u 34, u 35, u 36, u 37, u 38, u 39, u 40, u 41, u 42, u 43, u 44, u 45, u 46, u 47, u 48, u 49, u 50, u 51, u 52, u 53, u 54, u 55, u 56, u 57, u 58] := ⟨fun i => tm.getD i undef, arr_fun hs⟩
      have e7 : u 7 = _ := h7
      rw [e7, hd]
      have HF := Lib.hid F
      have HW := Lib.hid hw
      have HKn := Lib.hid hK
      clear e7 h7 hs hd F hw hK
      go_wp2_with fail
      simp only [Exit.jumps]
      refine bodyPost_ret (results_tmp2 rfl _ _ _) rfl ?_
      rw [HKn.out]
      exact ⟨why, HW.out, rfl, HF.out⟩
    | 1, hJ =>
      obtain ⟨hs, hd, hl, p1, n1, c1, rest, q, c2, us, No, M, done, left, ⟨h0, h4, h5, h7⟩, hz, ⟨hle, hn1⟩, S1, hB1, hK, hO, hP, hM, hU⟩ := hJ
      refine ⟨_, rfl, ?_⟩
      obtain ⟨tm, df⟩ := a
      simp only [] at hs hd h0 h4 h5 h7
      obtain ⟨u, rfl⟩ : ∃ u : Nat → Value, tm = #[u 0, u 1, u 2, u 3, u 4, u 5, u 6, u 7, u 8, u 9, u 10, u 11, u 12, u 13, u 14, u 15, u 16, u 17, u 18, u 19, u 20, u 21, u 22, u 23, u 24, u 25, u 26, u 27, u 28, u 29, u 30, u 31, u 32, u 33, u 34, u 35, u 36, u 37, u 38, u 39, u 40, u 41, u 42, u 43, u 44, u 45, u 46, u 47, u 48, u 49, u 50, u 51, u 52, u 53, u 54, u 55, u 56, u 57, u 58] := ⟨fun i => tm.getD i undef, arr_fun hs⟩
      have e0 : u 0 = _ := h0
      have e4 : u 4 = _ := h4
      have e5 : u 5 = _ := h5
      have e7 : u 7 = _ := h7
      rw [e0, e4, e5, e7, hd]
      have HS1 := Lib.hid S1
      have HB1 := Lib.hid hB1
      have HK := Lib.hid hK
      have HO := Lib.hid hO
      have HP := Lib.hid hP
      have HM := Lib.hid hM
      have HU := Lib.hid hU
      have HL := Lib.hid S1.len
      clear e0 e4 e5 e7 h0 h4 h5 h7 hs hd S1 hB1 hK hO hP hM hU
      obtain rfl : left = 0 := hz rfl
      by_cases hn0 : n1 = 0
      · have d0 : ((n1 : Int) == 0) = true := by rw [hn0]; rfl
        have hr : rest = [] := List.eq_nil_of_length_eq_zero (by rw [HL.out]; exact hn0)
        have hk : K0 = some done := by rw [HK.out, finP_zero, if_pos hr]
        have HK2 := Lib.hid hk
        clear hk hr hn0
        go_wp2_with fail
        simp only [Exit.jumps]
        refine bodyPost_ret (results_tmp2 rfl _ _ _) rfl ?_
        rw [HK2.out]
        exact ⟨q, c2, No ++ M, rfl, HO.out, parked_ty HP.out HM.out, sll_of_parked HP.out HU.out⟩
      · have d0 : ((n1 : Int) == 0) = false := by rw [beq_eq_false_iff_ne]; omega
        have hr : rest ≠ [] := fun e => by have := HL.out; rw [e] at this; simp at this; omega
        have hk : K0 = none := by rw [HK.out, finP_zero, if_neg hr]
        have HK2 := Lib.hid hk
        clear hk hr hn0
        go_wp2_with fail
        go_step3
        rename_i Kx hKx
        refine hKx _ _ ?_
        clear hKx Kx
        go_wp2_with fail
        simp only [Exit.jumps]
        refine bodyPost_ret (results_tmp2 rfl _ _ _) rfl ?_
        rw [HK2.out]
        exact ⟨21, by decide, rfl, HO.out.fr⟩
    | 2, hJ =>
      obtain ⟨hs, hd, hl, p1, n1, c1, rest, q, c2, us, No, M, done, left, ⟨h0, h4, h5, h7⟩, hz, ⟨hle, hn1⟩, S1, hB1, hK, hO, hP, hM, hU⟩ := hJ
      refine ⟨_, rfl, ?_⟩
      obtain ⟨tm, df⟩ := a
      simp only [] at hs hd h0 h4 h5 h7
      obtain ⟨u, rfl⟩ : ∃ u : Nat → Value, tm = #[u 0, u 1, u 2, u 3, u 4, u 5, u 6, u 7, u 8, u 9, u 10, u 11, u 12, u 13, u 14, u 15, u 16, u 17, u 18, u 19, u 20, u 21, u 22, u 23, u 24, u 25, u 26, u 27, u 28, u 29, u 30, u 31, u 32, u 33, u 34, u 35, u 36, u 37, u 38, u 39, u 40, u 41, u 42, u 43, u 44, u 45, u 46, u 47, u 48, u 49, u 50, u 51, u 52, u 53, u 54, u 55, u 56, u 57, u 58] := ⟨fun i => tm.getD i undef, arr_fun hs⟩
      have e0 : u 0 = _ := h0
      have e4 : u 4 = _ := h4
      have e5 : u 5 = _ := h5
      have e7 : u 7 = _ := h7
      rw [e0, e4, e5, e7, hd]
      have HS1 := Lib.hid S1
      have HB1 := Lib.hid hB1
      have HK := Lib.hid hK
      have HO := Lib.hid hO
      have HP := Lib.hid hP
      have HM := Lib.hid hM
      have HU := Lib.hid hU
      have HL := Lib.hid S1.len
      clear e0 e4 e5 e7 h0 h4 h5 h7 hs hd S1 hB1 hK hO hP hM hU
      by_cases hl0 : left = 0
      · subst hl0
        have d0 : (((0 : Nat) : Int) == 0) = true := rfl
        go_wp2_with fail
        go_step3
        refine ⟨⟨rfl, rfl, (by decide : 0 < 2), p1, n1, c1, rest, q, c2, us, No, M, done, 0, ⟨rfl, rfl, rfl, rfl⟩, fun _ => rfl, ⟨hle, hn1⟩, HS1.out, HB1.out, HK.out, HO.out, HP.out, HM.out, HU.out⟩, ?_⟩
        show 1 < _ + 2
        omega
      · have d0 : ((left : Int) == 0) = false := by rw [beq_eq_false_iff_ne]; omega
        by_cases hn2 : n1 < 2
        · have d2 : decide ((n1 : Int) < 2) = true := by rw [decide_eq_true_eq]; omega
          obtain ⟨lf, hlf⟩ : ∃ lf, left = lf + 1 := ⟨left - 1, by omega⟩
          have hk : K0 = none := by rw [HK.out, hlf, takeP_short (by rw [HL.out]; exact hn2), finP_none]
          go_wp2_with fail
          go_step3
          refine ⟨⟨rfl, rfl, hk, ⟨20, by decide, rfl⟩, HO.out.fr⟩, ?_⟩
          show 0 < _ + 2
          omega
        · have d2 : decide ((n1 : Int) < 2) = false := by rw [decide_eq_false_iff_not]; omega
          obtain ⟨bb, off, cs, TT, fr, rfl, fc0, hs2, hx⟩ := HS1.out.out (by omega)
          have hln := HL.out
          obtain ⟨x0, x1, rest', hrest⟩ : ∃ x0 x1 rest', rest = x0 :: x1 :: rest' := by
            match rest, hln with
            | [], h => simp at h; omega
            | [_], h => simp at h; omega
            | x0 :: x1 :: r, _ => exact ⟨x0, x1, r, rfl⟩
          have g0 : cs[off]? = some (.int .u8 x0) := by
            have := congrArg (fun l : List Value => l[0]?) hx
            rw [hrest] at this
            simp only [Array.getElem?_toList, List.map_cons, List.getElem?_cons_zero] at this
            rw [Array.getElem?_extract_of_lt (by omega), ← Array.getElem?_eq_getElem] at this
            exact this
          have g1 : cs[off + 1]? = some (.int .u8 x1) := by
            have := congrArg (fun l : List Value => l[1]?) hx
            rw [hrest] at this
            simp only [Array.getElem?_toList, List.map_cons, List.getElem?_cons_succ, List.getElem?_cons_zero] at this
            rw [Array.getElem?_extract_of_lt (by omega), ← Array.getElem?_eq_getElem] at this
            exact this
          replace g0 := (Array.getElem?_eq_some_iff.1 g0).2
          replace g1 := (Array.getElem?_eq_some_iff.1 g1).2
          have b0 := HB1.out x0 (by rw [hrest]; simp)
          have b1 := HB1.out x1 (by rw [hrest]; simp)
          obtain ⟨y0, rfl⟩ := Int.eq_ofNat_of_zero_le b0.1
          obtain ⟨y1, rfl⟩ := Int.eq_ofNat_of_zero_le b1.1
          have fc := HO.out.fr.get fc0 (by simp)
          have tc := World.at_lt fc
          have h1n : (1 : Int) < (n1 : Int) := by omega
          have h0n : (0 : Int) < (n1 : Int) := by omega
          have hc1 := HS1.out.cap_
          have HR := Lib.hid hrest
          clear hrest hx hln
          have wb : IntKind.i64.wrap ((y0 : Int) * 256) = (y0 : Int) * 256 := by rw [IntKind.wrap_i64]; omega
          have hor := i64_or_byte y0 y1 (by omega) (by omega)
          have hS2 : ∀ P2 C2, P2 = (if c1 = 2 then some (⟨bb, off, none⟩ : Addr) else some ⟨bb, off + 2, none⟩) → C2 = c1 - 2 → Sl .u8 w P2 (n1 - 2) C2 rest' := fun P2 C2 e1 e2 => by
            have h := HS1.out.part (i := 2) (j := n1) (c := c1) (by omega) (Nat.le_refl _) hc1 (Nat.le_refl _)
            rw [HR.out, List.take_of_length_le (by rw [← HR.out, HL.out]; exact Nat.le_refl _)] at h
            rw [e1, e2]
            simpa [Addr.add_mid] using h
          have HS2 := Lib.hid hS2
          clear hS2
          go_upto_region 10 with (fail)
          go_cut [0, 6, 24, 25, 26, 27, 28, 29, 30, 31, 32, 33, 34, 35] (fun v0 v6 _ _ _ _ _ _ _ _ _ _ _ _ wy => ∃ o2 C2, v0 = .slice (some ⟨bb, o2, none⟩) (n1 - 2) C2 ∧ v6 = .int .i64 ((y0 * 256 + y1 : Nat) : Int) ∧ Hid (Sl .u8 w (some ⟨bb, o2, none⟩) (n1 - 2) C2 rest') ∧ wy = W.drew)
          case first =>
            refine drawn_begin 13 (fun w' => w'.blk bb = some (.cells cs TT fr)) (by kernel_rfl) ?_
            refine drawn_reads (fuel := 1) [0, 1, 2, 3, 4, 5, 6, 7, 8, 9, 10, 12, 11] rfl (by kernel_rfl) fc ?_
            repeat (first | (refine rowK_step2 rfl rfl (fun K hK => ?_); go_wp2) | (refine rowK_step rfl (fun K hK => ?_); go_simp; refine hK _ ?_; clear hK K))
            all_goals
              refine rowK_nil ⟨fun w' e1 => ?_, ?_⟩
              · clear fc tc
                repeat (first | (refine rowWp_step2 rfl rfl (fun K hK => ?_); go_wp2) | (refine rowWp_step rfl (fun K hK => ?_); go_simp; refine hK _ ?_; clear hK K))
                exact rowWp_nil rfl
              refine drawn_end rfl (by kernel_rfl) ?_
              intro K hK
              go_wp2_with fail
              go_meet
            case rel => exact ⟨_, _, rfl, by simp, Lib.hid (HS2.out _ _ (by simp [*]) (by omega)), rfl⟩
            case rel => exact ⟨_, _, rfl, by simp, Lib.hid (HS2.out _ _ (by simp [*]) (by omega)), rfl⟩
          case rest =>
            obtain ⟨o2, C2, rfl, rfl, hS2, rfl⟩ := hcut
            obtain ⟨lf, hlf⟩ : ∃ lf, left = lf + 1 := ⟨left - 1, by omega⟩
            have hk1 : K0 = finP done (takeP (lf + 1) ((y0 : Int) :: (y1 : Int) :: rest')) := by rw [HK.out, hlf, HR.out]
            have HK1 := Lib.hid hk1
            have hr2 := hS2.out.len
            have hbr : isBytes rest' := fun x hx => HB1.out x (by rw [HR.out]; simp [hx])
            have HBR := Lib.hid hbr
            have hcap2 := hS2.out.cap_
            obtain ⟨sz, hsz⟩ : ∃ sz, sz = y0 * 256 + y1 := ⟨_, rfl⟩
            have HSZ := Lib.hid hsz
            rw [← hsz]
            obtain ⟨n2, hn2'⟩ : ∃ n2, n2 = n1 - 2 := ⟨_, rfl⟩
            have hn2b : n2 ≤ 100000 := by omega
            have HL2 := Lib.hid (hr2.trans hn2'.symm)
            rw [← hn2'] at hS2 hcap2 ⊢
            have HLF := Lib.hid hlf
            clear hk1 hbr hsz hn2' HK HS2 fc tc hor wb g0 g1 hr2 hlf
            by_cases h1 : 4096 < sz
            · have d1 : decide ((4096 : Int) < (sz : Int)) = true := by rw [decide_eq_true_eq]; omega
              have hk : K0 = none := by rw [HK1.out, takeP_big (.inl (by rw [Int.toNat_natCast, Int.toNat_natCast, ← HSZ.out]; exact h1)), finP_none]
              have HKn := Lib.hid hk
              clear hk h1
              go_wp2_with fail
              go_step3
              refine ⟨⟨rfl, rfl, HKn.out, ⟨5, by decide, rfl⟩, HO.out.drew.fr⟩, ?_⟩
              show 0 < _ + 2
              omega
            have d1 : decide ((4096 : Int) < (sz : Int)) = false := by rw [decide_eq_false_iff_not]; omega
            by_cases h2 : n2 < sz
            · have d2' : decide ((n2 : Int) < (sz : Int)) = true := by rw [decide_eq_true_eq]; omega
              have hk : K0 = none := by rw [HK1.out, takeP_big (.inr (by rw [Int.toNat_natCast, Int.toNat_natCast, ← HSZ.out, HL2.out]; exact h2)), finP_none]
              have HKn := Lib.hid hk
              clear hk
              go_wp2_with fail
              go_step3
              refine ⟨⟨rfl, rfl, HKn.out, ⟨20, by decide, rfl⟩, HO.out.drew.fr⟩, ?_⟩
              show 0 < _ + 2
              omega
            have d2' : decide ((n2 : Int) < (sz : Int)) = false := by rw [decide_eq_false_iff_not]; omega
            have hk2 : K0 = finP (done ++ [rest'.take sz]) (takeP lf (rest'.drop sz)) := by
              rw [HK1.out, finP_step (by rw [Int.toNat_natCast, Int.toNat_natCast, ← HSZ.out]; exact h1) (by rw [Int.toNat_natCast, Int.toNat_natCast, ← HSZ.out, HL2.out]; exact h2)]
              rw [Int.toNat_natCast, Int.toNat_natCast, ← HSZ.out]
            have HK2 := Lib.hid hk2
            have hS3 : ∀ P3 C3, P3 = (if C2 = sz then some (⟨bb, o2, none⟩ : Addr) else some ⟨bb, o2 + sz, none⟩) → C3 = C2 - sz → Sl .u8 w P3 (n2 - sz) C3 (rest'.drop sz) := fun P3 C3 e1 e2 => by
              have h := hS2.out.part (i := sz) (j := n2) (c := C2) (by omega) (Nat.le_refl _) hcap2 (Nat.le_refl _)
              rw [List.take_of_length_le (by rw [HL2.out]; exact Nat.le_refl _)] at h
              rw [e1, e2]
              simpa [Addr.add_mid] using h
            have HS3 := Lib.hid hS3
            have hsn : (sz : Int) ≤ (n2 : Int) := by omega
            have hsc : (sz : Int) ≤ (C2 : Int) := by omega
            clear hk2 hS3
            go_upto_region 14 with (fail)
            have fc := HO.out.drew.fr.get fc0 (by simp)
            refine drawn_begin 11 (fun w' => w'.blk bb = some (.cells cs TT fr)) (by kernel_rfl) ?_
            refine drawn_reads (fuel := 5) [0, 1, 2, 3, 7, 8, 9] rfl (by kernel_rfl) fc ?_
            repeat (first | (refine rowK_step2 rfl rfl (fun K hK => ?_); go_wp2) | (refine rowK_step rfl (fun K hK => ?_); go_simp; refine hK _ ?_; clear hK K))
            all_goals
              refine rowK_nil ⟨fun w' e1 => ?_, ?_⟩
              · clear fc
                repeat (first | (refine rowWp_step2 rfl rfl (fun K hK => ?_); go_wp2) | (refine rowWp_step rfl (fun K hK => ?_); go_simp; refine hK _ ?_; clear hK K))
                exact rowWp_nil rfl
              have hOd := HO.out.drew.drew
              have HOd := Lib.hid hOd
              clear hOd
              refine drawn_next 4 (fuel := 4) rfl (by kernel_rfl) ?_
              intro K hK
              go_wp2_with fail
              have hSf : ∀ cc, cc = C2 → Sl .u8 W.drew.drew (some ⟨bb, o2, none⟩) sz cc (rest'.take sz) := fun cc e => by
                rw [e]
                exact (hS2.out.front (by omega)).fr0 HOd.out.fr
              refine (byclone_f (l := rest'.take sz) (hSf _ (by omega)) (by omega)).mono ?_
              clear hSf
              rintro e W2 ⟨q4, c4, rfl, hB⟩
              obtain ⟨M2, hO2, hM2, hK2⟩ := HOd.out.join hB
              have HO2 := Lib.hid hO2
              have HM2 := Lib.hid hM2
              have HKs := Lib.hid hK2
              clear hO2 hM2 hK2 hB fc
              have fc := HO2.out.fr.get fc0 (by simp)
              have tc := World.at_lt fc
              go_wp2_with fail
              refine ⟨fc, ?_⟩
              refine drawn_next 5 (fuel := 3) rfl (by kernel_rfl) ?_
              intro K hK
              go_wp2_with fail
              refine ⟨by first | exact fc | go_simp, ?_⟩
              refine drawn_next 6 (fuel := 2) rfl (by kernel_rfl) ?_
              intro K hK
              refine wpList_app86 rfl _ _ rfl rfl ((HP.out.take (HO2.out.perm (List.perm_append_comm_assoc _ _ _))).call ((Fr.refl [] W2).alloc (.cells #[.slice q4 sz c4] 49))) rfl (Sv.one (v := .slice q4 sz c4) (T := 49) (fr := (0, 0)) (World.at_alloc_new _ _ _ rfl)) (by simp [Value.oneCell']) (by omega) ?_
              intro q5 c5 W5 B5
              obtain ⟨N5, hO5, hP5⟩ := B5.park
              have HO5 := Lib.hid hO5
              have HP5 := Lib.hid hP5
              clear hO5 hP5 B5
              refine wpList_nil ?_
              refine hK _ _ ⟨HO5.out.fr.get fc0 (by simp), ?_⟩
              clear hK K fc tc
              refine drawn_next 10 (fuel := 1) rfl (by kernel_rfl) ?_
              intro K hK
              have fc := HO5.out.fr.get fc0 (by simp)
              go_wp2_with fail
              refine ⟨fc, ?_⟩
              clear fc
              refine drawn_end rfl (by kernel_rfl) ?_
              intro K hK
              have wl : IntKind.i64.wrap ((left : Int) - 1) = (lf : Int) := by have := HLF.out; rw [IntKind.wrap_i64]; omega
              go_wp2_with fail
              go_step3
              refine ⟨⟨rfl, rfl, (by decide : 1 < 2), _, _, _, rest'.drop sz, q5, c5, us ++ [.slice q4 sz c4], N5, M2 ++ M, done ++ [rest'.take sz], lf, ⟨rfl, by rw [List.length_append]; rfl, rfl, rfl⟩, (fun h => absurd h (by decide)), ⟨by have := HLF.out; rw [List.length_append, List.length_singleton]; omega, by omega⟩, HS3.out _ _ (by simp [*]) (by omega), fun x hx => HBR.out x (List.mem_of_mem_drop hx), HK2.out, HO5.out, (by rw [List.length_append]; exact HP5.out), ?_, fun W' h => (HU.out W' h.of_append.2).append (.cons (HKs.out W' h.of_append.1) .nil)⟩, ?_⟩
              · intro x hx
                rcases List.mem_append.1 hx with hx | hx
                · exact HM2.out x hx
                · exact HM.out x hx
              · have := HLF.out
                show (intOf (.int .i64 (lf : Int))).toNat + 2 < (intOf (.int .i64 (left : Int))).toNat + 2
                simp only [intOf]
                omega
    | l + 3, hJ => exact absurd hJ.2.2.1 (by omega)
  · have NX := Lib.hid next
    clear next
    by_cases hn0 : n = 0
    · have d0 : ((n : Int) == 0) = true := by rw [hn0]; rfl
      have hb : B = [] := List.eq_nil_of_length_eq_zero (by rw [HS.out.len]; exact hn0)
      have hk : K0 = none := by rw [HK0.out, hb]; rfl
      have HKn := Lib.hid hk
      clear hk hb
      go_wp2_with fail
      go_step3
      exact ⟨rfl, rfl, HKn.out, ⟨20, by decide, rfl⟩, Fr.refl _ _⟩
    · have d0 : ((n : Int) == 0) = false := by rw [beq_eq_false_iff_ne]; omega
      obtain ⟨bb, off, cs, TT, fr, rfl, fc0, hs2, hx⟩ := HS.out.out (by omega)
      have hln := HS.out.len
      obtain ⟨x0, B1, hB1⟩ : ∃ x0 B1, B = x0 :: B1 := by
        match B, hln with
        | [], h => simp at h; omega
        | x0 :: r, _ => exact ⟨x0, r, rfl⟩
      have g0 : cs[off]? = some (.int .u8 x0) := by
        have := congrArg (fun l : List Value => l[0]?) hx
        rw [hB1] at this
        simp only [Array.getElem?_toList, List.map_cons, List.getElem?_cons_zero] at this
        rw [Array.getElem?_extract_of_lt (by omega), ← Array.getElem?_eq_getElem] at this
        exact this
      replace g0 := (Array.getElem?_eq_some_iff.1 g0).2
      have b0 := HB.out x0 (by rw [hB1]; simp)
      obtain ⟨y0, rfl⟩ := Int.eq_ofNat_of_zero_le b0.1
      have tc := World.at_lt fc0
      have h0n : (0 : Int) < (n : Int) := by omega
      have hc1 := HS.out.cap_
      have HR := Lib.hid hB1
      have hk1 : K0 = if (64 : Int) < (y0 : Int) then none else finP [] (takeP y0 B1) := by rw [HK0.out, hB1]; rfl
      have HK1 := Lib.hid hk1
      have hS2 : ∀ P2 C2, P2 = (if c = 1 then some (⟨bb, off, none⟩ : Addr) else some ⟨bb, off + 1, none⟩) → C2 = c - 1 → Sl .u8 w P2 (n - 1) C2 B1 := fun P2 C2 e1 e2 => by
        have h := HS.out.part (i := 1) (j := n) (c := c) (by omega) (Nat.le_refl _) hc1 (Nat.le_refl _)
        rw [HR.out, List.take_of_length_le (by rw [← HR.out, HS.out.len]; exact Nat.le_refl _)] at h
        rw [e1, e2]
        simpa [Addr.add_mid] using h
      have HS2 := Lib.hid hS2
      clear hS2 hk1 hB1 hx hln
      go_upto_region 5 with (fail)
      go_cut [0, 5, 11, 12, 13, 14, 15, 16] (fun v0 v5 _ _ _ _ _ _ wy => ∃ P2 C2, v0 = .slice P2 (n - 1) C2 ∧ v5 = .int .i64 (y0 : Int) ∧ Hid (Sl .u8 w P2 (n - 1) C2 B1) ∧ wy = w.drew)
      case first =>
        refine drawn_begin 7 (fun w' => w'.blk bb = some (.cells cs TT fr)) (by kernel_rfl) ?_
        refine drawn_reads (fuel := 1) [0, 1, 2, 3, 4, 6, 5] rfl (by kernel_rfl) fc0 ?_
        repeat (first | (refine rowK_step2 rfl rfl (fun K hK => ?_); go_wp2) | (refine rowK_step rfl (fun K hK => ?_); go_simp; refine hK _ ?_; clear hK K))
        all_goals
          refine rowK_nil ⟨fun w' e1 => ?_, ?_⟩
          · clear fc0 tc
            repeat (first | (refine rowWp_step2 rfl rfl (fun K hK => ?_); go_wp2) | (refine rowWp_step rfl (fun K hK => ?_); go_simp; refine hK _ ?_; clear hK K))
            exact rowWp_nil rfl
          refine drawn_end rfl (by kernel_rfl) ?_
          intro K hK
          go_wp2_with fail
          go_meet
        case rel => exact ⟨_, _, rfl, rfl, Lib.hid (HS2.out _ _ (by simp [*]) (by omega)), rfl⟩
        case rel => exact ⟨_, _, rfl, rfl, Lib.hid (HS2.out _ _ (by simp [*]) (by omega)), rfl⟩
      case rest =>
        obtain ⟨P2, C2, rfl, rfl, hS2, rfl⟩ := hcut
        have hbr : isBytes B1 := fun x hx => HB.out x (by rw [HR.out]; simp [hx])
        have HBR := Lib.hid hbr
        clear hbr fc0 tc g0 HS2
        by_cases h64 : 64 < y0
        · have d6 : decide ((64 : Int) < (y0 : Int)) = true := by rw [decide_eq_true_eq]; omega
          have hk : K0 = none := by rw [HK1.out, if_pos (by omega)]
          have HKn := Lib.hid hk
          clear hk
          go_wp2_with fail
          go_step3
          exact ⟨rfl, rfl, HKn.out, ⟨4, by decide, rfl⟩, (Fr.refl _ _).drew⟩
        · have d6 : decide ((64 : Int) < (y0 : Int)) = false := by rw [decide_eq_false_iff_not]; omega
          have hk : K0 = finP [] (takeP y0 B1) := by rw [HK1.out, if_neg (by omega)]
          have HKn := Lib.hid hk
          clear hk
          go_wp2_with fail
          go_step3
          rename_i Kx hKx
          refine hKx _ _ (wp_there (l := 2) (NX.out 2 _ _ ⟨rfl, rfl, (by decide : 1 < 2), P2, n - 1, C2, B1, none, 0, [], [], [], [], y0, ⟨rfl, rfl, rfl, rfl⟩, (fun h => absurd h (by decide)), ⟨by simp; omega, by omega⟩, hS2.out, HBR.out, HKn.out, (OwB.start w).drew, Parked.nil _ _, by simp, fun _ _ => .nil⟩) rfl)
end
end Go.Proofs.YtbhnfohoclcjdaaGreat
namespace Go.Proofs.YtbhnfohoclcjdaaGreat
open Go.RowKit Go.Dr Go.Kd
section
variable {w : World}
set_option maxRecDepth 100000 in
set_option maxHeartbeats 8000000 in
theorem dsplit_f {p : Option Addr} {n c : Nat} {B : Bs} (S : Sl .u8 w p n c B) (hB : isBytes B) (hn : n ≤ 100000) :
    Calls Tryz.prog 108 #[.slice p n c] w fun e w' => SplitRes w (splitB B) e w' := by
  have HS := Lib.hid S
  have HB := Lib.hid hB
  obtain ⟨K0, hK0⟩ : ∃ K0, K0 = splitB B := ⟨_, rfl⟩
  rw [← hK0]
  have HK0 := Lib.hid hK0
  clear S hB hK0
  go_enter Tryz.func108, Tryz.ntmps108
  by_cases hn0 : n = 0
  · have d0 : ((n : Int) == 0) = true := by rw [hn0]; rfl
    have hb : B = [] := List.eq_nil_of_length_eq_zero (by rw [HS.out.len]; exact hn0)
    have hk : K0 = none := by rw [HK0.out, hb]; rfl
    have HKn := Lib.hid hk
    clear hk hb
    go_wp2_with fail
    refine bodyPost_ret (results_tmp2 rfl _ _ _) rfl ?_
    rw [HKn.out]
    exact ⟨20, by decide, rfl, Fr.refl _ _⟩
  have d0 : ((n : Int) == 0) = false := by rw [beq_eq_false_iff_ne]; omega
  obtain ⟨bb, off, cs, TT, fr, rfl, fc0, hs2, hx⟩ := HS.out.out (by omega)
  have hln := HS.out.len
  have hcell : ∀ j, j < n → cs[off + j]? = some (.int .u8 (el B j)) := fun j hj => by
    have := congrArg (fun l : List Value => l[j]?) hx
    simp only [Array.getElem?_toList, List.getElem?_map] at this
    rw [Array.getElem?_extract_of_lt (by omega), ← Array.getElem?_eq_getElem] at this
    rw [this, List.getElem?_eq_getElem (by omega), el, List.getD_eq_getElem?_getD, List.getElem?_eq_getElem (by omega)]
    rfl
  have HC := Lib.hid hcell
  have HLN := Lib.hid hln
  have hel : ∀ j, 0 ≤ el B j ∧ el B j < 256 := fun j => by
    rw [el, List.getD_eq_getElem?_getD]
    cases h : B[j]? with
    | none => exact ⟨Int.le_refl 0, by decide⟩
    | some y => exact HB.out y (List.mem_of_getElem? h)
  obtain ⟨k, hk⟩ : ∃ k : Nat, el B 0 = (k : Int) := ⟨(el B 0).toNat, by have := hel 0; omega⟩
  have g0 := hcell 0 (by omega)
  rw [Nat.add_zero, hk] at g0
  replace g0 := (Array.getElem?_eq_some_iff.1 g0).2
  have k256 : k < 256 := by have := hel 0; omega
  have HEL := Lib.hid hel
  have hB0 : B = (k : Int) :: B.drop 1 := by
    match B, hln, hk with
    | [], h, _ => simp at h; omega
    | x :: r, _, hk => simp [el] at hk; simp [hk]
  have hk1 : K0 = if (64 : Int) < (k : Int) then none else finP [] (takeP k (B.drop 1)) := by
    rw [HK0.out]
    conv => lhs; rw [hB0]
    rfl
  have HK1 := Lib.hid hk1
  have tc := World.at_lt fc0
  have h0n : (0 : Int) < (n : Int) := by omega
  have hc1 := HS.out.cap_
  have wk : IntKind.i64.wrap (k : Int) = (k : Int) := by rw [IntKind.wrap_i64]; omega
  clear hx hln hcell hel hk hB0 hk1
  by_cases h64 : 64 < k
  · have d6 : decide ((64 : Int) < (k : Int)) = true := by rw [decide_eq_true_eq]; omega
    have hk : K0 = none := by rw [HK1.out, if_pos (by omega)]
    have HKn := Lib.hid hk
    clear hk
    go_wp2_with fail
    refine bodyPost_ret (results_tmp2 rfl _ _ _) rfl ?_
    rw [HKn.out]
    exact ⟨4, by decide, rfl, Fr.refl _ _⟩
  have d6 : decide ((64 : Int) < (k : Int)) = false := by rw [decide_eq_false_iff_not]; omega
  have hk : K0 = finP [] (takeP k (B.drop 1)) := by rw [HK1.out, if_neg (by omega)]
  have HK2 := Lib.hid hk
  clear hk HK1
  go_upto_region 8 with (fail)
  go_loopw [4, 5, 6] (fun vo va vi wy => ∃ (i at_ : Nat) (q : Option Addr) (c2 : Nat) (us : List Value) (No M : List (Nat × Obj)) (done : List Bs), i ≤ k ∧ at_ ≤ n ∧ 1 ≤ at_ ∧ done.length = i ∧ vi = .int .i64 (i : Int) ∧ va = .int .i64 (at_ : Int) ∧ vo = .slice q i c2 ∧ Hid (K0 = finP done (takeP (k - i) (B.drop at_))) ∧ Hid (OwB w (No ++ M) wy) ∧ Hid (Parked No 49 1 q i c2 us) ∧ Hid (∀ x ∈ M, ∃ cs fr, x.2 = .cells cs 5 fr) ∧ Hid (∀ W', Has M W' → Sls W' us done)) (fun _ _ vi _ => (k - intOf vi).toNat)
  case atStart => exact ⟨0, 1, none, 0, [], [], [], [], by omega, by omega, by omega, rfl, rfl, rfl, rfl, HK2, Lib.hid (OwB.start w), Lib.hid (Parked.nil _ _), Lib.hid (by simp), Lib.hid fun _ _ => .nil⟩
  case round =>
    obtain ⟨i, at_, q, c2, us, No, M, done, hik, han, ha1, hdl, rfl, rfl, rfl, hK, hO, hP, hM, hU⟩ := hrel
    have HDL := Lib.hid hdl
    clear hdl
    have fc := hO.out.fr.get fc0 (by simp)
    have tc2 := World.at_lt fc
    by_cases hlt : i < k
    · have d1 : decide ((i : Int) < (k : Int)) = true := by rw [decide_eq_true_eq]; omega
      obtain ⟨kf, hkf⟩ : ∃ kf, k - i = kf + 1 := ⟨k - i - 1, by omega⟩
      have HKF := Lib.hid hkf
      have wd : IntKind.i64.wrap ((n : Int) - (at_ : Int)) = ((n - at_ : Nat) : Int) := by rw [IntKind.wrap_i64]; omega
      by_cases h2 : n - at_ < 2
      · have d2 : decide (((n - at_ : Nat) : Int) < 2) = true := by rw [decide_eq_true_eq]; omega
        have hk : K0 = none := by rw [hK.out, HKF.out, takeP_short (by rw [List.length_drop, HLN.out]; exact h2), finP_none]
        have HKn := Lib.hid hk
        clear hk hkf
        go_wp2_with fail
        refine bodyPost_ret (results_tmp2 rfl _ _ _) rfl ?_
        rw [HKn.out]
        exact ⟨20, by decide, rfl, hO.out.fr⟩
      have d2 : decide (((n - at_ : Nat) : Int) < 2) = false := by rw [decide_eq_false_iff_not]; omega
      obtain ⟨y0, hy0⟩ : ∃ y0 : Nat, el B at_ = (y0 : Int) := ⟨(el B at_).toNat, by have := HEL.out at_; omega⟩
      obtain ⟨y1, hy1⟩ : ∃ y1 : Nat, el B (at_ + 1) = (y1 : Int) := ⟨(el B (at_ + 1)).toNat, by have := HEL.out (at_ + 1); omega⟩
      have b0 : y0 < 256 := by have := HEL.out at_; omega
      have b1 : y1 < 256 := by have := HEL.out (at_ + 1); omega
      have ga := HC.out at_ (by omega)
      have gb := HC.out (at_ + 1) (by omega)
      rw [hy0] at ga
      rw [hy1] at gb
      have hdr : B.drop at_ = (y0 : Int) :: (y1 : Int) :: B.drop (at_ + 2) := by
        have hl := HLN.out
        rw [List.drop_eq_getElem_cons (by omega), List.drop_eq_getElem_cons (by omega)]
        have e0 : B[at_]'(by omega) = (y0 : Int) := by rw [← hy0, el, List.getD_eq_getElem?_getD, List.getElem?_eq_getElem (by omega)]; rfl
        have e1 : B[at_ + 1]'(by omega) = (y1 : Int) := by rw [← hy1, el, List.getD_eq_getElem?_getD, List.getElem?_eq_getElem (by omega)]; rfl
        rw [e0, e1]
      have HDR := Lib.hid hdr
      replace ga := (Array.getElem?_eq_some_iff.1 ga).2
      replace gb := (Array.getElem?_eq_some_iff.1 gb).2
      have w0 : IntKind.i64.wrap (y0 : Int) = (y0 : Int) := by rw [IntKind.wrap_i64]; omega
      have w1 : IntKind.i64.wrap (y1 : Int) = (y1 : Int) := by rw [IntKind.wrap_i64]; omega
      have w2 : IntKind.i64.wrap ((y0 : Int) * 256) = (y0 : Int) * 256 := by rw [IntKind.wrap_i64]; omega
      have w3 : IntKind.i64.wrap ((at_ : Int) + 1) = ((at_ + 1 : Nat) : Int) := by rw [IntKind.wrap_i64]; omega
      have w4 : IntKind.i64.wrap ((y0 : Int) * 256 + (y1 : Int)) = ((y0 * 256 + y1 : Nat) : Int) := by rw [IntKind.wrap_i64]; omega
      have w5 : IntKind.i64.wrap ((at_ : Int) + 2) = ((at_ + 2 : Nat) : Int) := by rw [IntKind.wrap_i64]; omega
      have hai : ((at_ : Nat) : Int) < (n : Int) := by omega
      have hbi : ((at_ + 1 : Nat) : Int) < (n : Int) := by omega
      have hbi2 : (at_ : Int) + 1 < (n : Int) := by omega
      have hs3 : off + at_ < cs.size := by omega
      have hs4 : off + (at_ + 1) < cs.size := by omega
      clear hy0 hy1 hdr hkf
      go_upto_region 12 with (fail)
      refine wp_region_quiet_all (C := fun w' => ∃ _ : Unit, w' = wr.drew) (by kernel_rfl) (by kernel_rfl) ⟨(), rfl⟩ ?_
      repeat (go_big_quiet_step (fail))
      refine wpQuiet_nil ?_
      intro _ hw'
      obtain ⟨_, rfl⟩ := hw'
      obtain ⟨sz, hsz⟩ : ∃ sz, sz = y0 * 256 + y1 := ⟨_, rfl⟩
      have hsz2 : (y0 : Int) * 256 + (y1 : Int) = (sz : Int) := by omega
      have HSZ := Lib.hid hsz
      have szb : sz < 65536 := by omega
      rw [← hsz] at w4
      obtain ⟨a2, ha2⟩ : ∃ a2, a2 = at_ + 2 := ⟨_, rfl⟩
      rw [← ha2] at w5
      have HA2 := Lib.hid ha2
      have HK3 : Hid (K0 = finP done (takeP (kf + 1) ((y0 : Int) :: (y1 : Int) :: B.drop a2))) := Lib.hid (by rw [hK.out, HKF.out, HDR.out, HA2.out])
      have hl2 : (B.drop a2).length = n - a2 := by rw [List.length_drop, HLN.out]
      have HL2 := Lib.hid hl2
      have a2n : a2 ≤ n := by omega
      have wd2 : IntKind.i64.wrap ((n : Int) - (a2 : Int)) = ((n - a2 : Nat) : Int) := by rw [IntKind.wrap_i64]; omega
      clear ga gb w0 w1 w2 w3 hai hbi hbi2 hs3 hs4 hsz ha2 fc tc2 hl2 d2 wd
      by_cases h1 : 4096 < sz
      · have d1 : decide ((4096 : Int) < (sz : Int)) = true := by rw [decide_eq_true_eq]; omega
        have hk : K0 = none := by rw [HK3.out, takeP_big (.inl (by rw [Int.toNat_natCast, Int.toNat_natCast, ← HSZ.out]; exact h1)), finP_none]
        have HKn := Lib.hid hk
        clear hk
        go_wp2_with fail
        refine bodyPost_ret (results_tmp2 rfl _ _ _) rfl ?_
        rw [HKn.out]
        exact ⟨5, by decide, rfl, hO.out.drew.fr⟩
      have d3 : decide ((4096 : Int) < (sz : Int)) = false := by rw [decide_eq_false_iff_not]; omega
      by_cases h2' : n - a2 < sz
      · have d4 : decide (((n - a2 : Nat) : Int) < (sz : Int)) = true := by rw [decide_eq_true_eq]; omega
        have hk : K0 = none := by rw [HK3.out, takeP_big (.inr (by rw [Int.toNat_natCast, Int.toNat_natCast, ← HSZ.out, HL2.out]; exact h2')), finP_none]
        have HKn := Lib.hid hk
        clear hk
        go_wp2_with fail
        refine bodyPost_ret (results_tmp2 rfl _ _ _) rfl ?_
        rw [HKn.out]
        exact ⟨20, by decide, rfl, hO.out.drew.fr⟩
      have d4 : decide (((n - a2 : Nat) : Int) < (sz : Int)) = false := by rw [decide_eq_false_iff_not]; omega
      have HK4 : Hid (K0 = finP (done ++ [(B.drop a2).take sz]) (takeP kf (B.drop (a2 + sz)))) := Lib.hid (by
        rw [HK3.out, finP_step (by rw [Int.toNat_natCast, Int.toNat_natCast, ← HSZ.out]; exact h1) (by rw [Int.toNat_natCast, Int.toNat_natCast, ← HSZ.out, HL2.out]; exact h2')]
        rw [Int.toNat_natCast, Int.toNat_natCast, ← HSZ.out, List.drop_drop])
      have w6 : IntKind.i64.wrap ((a2 : Int) + (sz : Int)) = ((a2 + sz : Nat) : Int) := by rw [IntKind.wrap_i64]; omega
      have hS3 : ∀ P3 C3, P3 = (if c = a2 then some (⟨bb, off, none⟩ : Addr) else some ⟨bb, off + a2, none⟩) → C3 = c - a2 → Sl .u8 w P3 sz C3 ((B.drop a2).take sz) := fun P3 C3 e1 e2 => by
        have h := HS.out.part (i := a2) (j := a2 + sz) (c := c) (by omega) (by omega) (by omega) (Nat.le_refl _)
        rw [List.drop_take, Nat.add_sub_cancel_left] at h
        rw [e1, e2]
        simpa [Addr.add_mid] using h
      have HS3 := Lib.hid hS3
      have q1 : (a2 : Int) ≤ ((a2 + sz : Nat) : Int) := by omega
      have q2 : ((a2 + sz : Nat) : Int) ≤ (n : Int) := by omega
      have q3 : ((a2 + sz : Nat) : Int) ≤ (c : Int) := by omega
      have e9 : a2 + sz - a2 = sz := by omega
      clear hS3
      go_upto_region 19 with (fail)
      generalize hnil : (Value.slice none 0 0) = vn
      have HNil := Lib.hid hnil
      clear hnil
      have HOd := Lib.hid hO.out.drew
      iterate 21 (go_step)
      rename_i hKx
      refine hKx _ _ ?_
      refine wpList_app47 (l2 := (B.drop a2).take sz) rfl _ _ rfl (by exact HNil.out.symm) (Bld.nil (OwB.start wr.drew)) rfl (by rw [e9]; exact (HS3.out _ _ rfl rfl).fr0 HOd.out.fr) (by omega) ?_
      intro q4 c4 W4 hB
      rw [show 0 + (a2 + sz - a2) = sz by omega] at hB ⊢
      rw [List.nil_append] at hB
      obtain ⟨M2, hO2, hM2, hK2⟩ := HOd.out.join hB
      have HO2 := Lib.hid hO2
      have HM2 := Lib.hid hM2
      have HKs := Lib.hid hK2
      clear hO2 hM2 hK2 hB
      go_upto_region 20 with (fail)
      iterate 10 (go_step)
      refine wpList_app86 rfl _ _ rfl rfl ((hP.out.take (HO2.out.perm (List.perm_append_comm_assoc _ _ _))).call ((Fr.refl [] W4).alloc (.cells #[.slice q4 sz c4] 49))) rfl (Sv.one (v := .slice q4 sz c4) (T := 49) (fr := (0, 0)) (World.at_alloc_new _ _ _ rfl)) (by simp [Value.oneCell']) (by omega) ?_
      intro q5 c5 W5 B5
      obtain ⟨N5, hO5, hP5⟩ := B5.park
      have HO5 := Lib.hid hO5
      have HP5 := Lib.hid hP5
      have wi : IntKind.i64.wrap ((i : Int) + 1) = ((i + 1 : Nat) : Int) := by rw [IntKind.wrap_i64]; omega
      clear hO5 hP5 B5
      go_wp2_with fail
      go_roundw
      case rel =>
        refine ⟨i + 1, a2 + sz, q5, c5, us ++ [.slice q4 sz c4], N5, M2 ++ M, done ++ [(B.drop a2).take sz], by omega, (by have := HA2.out; omega), (by have := HA2.out; omega), by rw [List.length_append, HDL.out]; rfl, by first | rfl | simp, by first | rfl | simp, rfl, Lib.hid (by rw [HK4.out, show k - (i + 1) = kf by have := HKF.out; omega]), HO5, HP5, Lib.hid ?_, Lib.hid fun W' h => (hU.out W' h.of_append.2).append (.cons (HKs.out W' h.of_append.1) .nil)⟩
        intro x hx
        rcases List.mem_append.1 hx with hx | hx
        · exact HM2.out x hx
        · exact hM.out x hx
      case measure => simp [intOf]; omega
    · obtain rfl : i = k := by omega
      have d1 : decide ((i : Int) < (i : Int)) = false := by simp
      by_cases hat : at_ < n
      · have d2 : decide ((at_ : Int) < (n : Int)) = true := by rw [decide_eq_true_eq]; omega
        have hk : K0 = none := by
          rw [hK.out, Nat.sub_self, finP_zero, if_neg]
          intro e
          have := congrArg List.length e
          rw [List.length_drop, HLN.out, List.length_nil] at this
          omega
        have HKn := Lib.hid hk
        clear hk
        go_wp2_with fail
        refine bodyPost_ret (results_tmp2 rfl _ _ _) rfl ?_
        rw [HKn.out]
        exact ⟨21, by decide, rfl, hO.out.fr⟩
      · have d2 : decide ((at_ : Int) < (n : Int)) = false := by rw [decide_eq_false_iff_not]; omega
        have hk : K0 = some done := by
          rw [hK.out, Nat.sub_self, finP_zero, if_pos]
          exact List.drop_of_length_le (by rw [HLN.out]; omega)
        have HKn := Lib.hid hk
        clear hk
        go_wp2_with fail
        refine bodyPost_ret (results_tmp2 rfl _ _ _) rfl ?_
        rw [HKn.out]
        have HP' : Parked No 49 1 q done.length c2 us := by rw [HDL.out]; exact hP.out
        exact ⟨q, c2, No ++ M, by rw [HDL.out]; rfl, hO.out, parked_ty HP' hM.out, sll_of_parked HP' hU.out⟩
end
end Go.Proofs.YtbhnfohoclcjdaaGreat
namespace Go.Proofs.YtbhnfohoclcjdaaGreat
open Go.RowKit Go.Dr Go.Kd
theorem sv_tail1 {w : World} {b off n c : Nat} {vs : List Value} (h : Sv 1 w (some ⟨b, off, none⟩) n c vs) (hn : 1 ≤ n) : Sv 1 w (if c = 1 then some ⟨b, off, none⟩ else some ⟨b, off + 1, none⟩) (n - 1) (c - 1) (vs.drop 1) := by
  have hl := h.len
  have hc := h.cap_
  refine ⟨by rw [List.length_drop]; omega, by omega, ?_, by (intro e; split at e <;> cases e), by (intro a e; split at e <;> (cases e; exact ⟨_, _, rfl⟩))⟩
  by_cases h1 : n = 1
  · exact .inl (by omega)
  · refine .inr ?_
    rw [if_neg (by omega)]
    rcases h.row with h0 | ⟨b', off', cs, T, fr, hp, hb, hs, hl⟩
    · omega
    · cases hp
      refine ⟨b, off + 1, cs, T, fr, rfl, hb, by omega, ?_⟩
      rw [← hl]
      simp only [Array.toList_extract, List.extract_eq_take_drop, List.drop_take, List.drop_drop]
      congr 1
      omega
theorem sly_tail1 {M : List (Nat × Obj)} {b off n c : Nat} {l : Bs} {ls : List Bs} (h : Sly M (some ⟨b, off, none⟩) n c (l :: ls)) : Sly M (if c = 1 then some ⟨b, off, none⟩ else some ⟨b, off + 1, none⟩) (n - 1) (c - 1) ls := by
  obtain ⟨us, h⟩ := h
  refine ⟨us.drop 1, fun W hW => ?_⟩
  obtain ⟨h1, h2⟩ := h W hW
  have hl := h1.len
  have hl2 := h2.len
  rw [List.length_cons] at hl2
  refine ⟨sv_tail1 h1 (by omega), ?_⟩
  cases h2
  assumption
theorem sly_head {M : List (Nat × Obj)} {q : Option Addr} {n c : Nat} {l : Bs} {ls : List Bs} (h : Sly M q n c (l :: ls)) {w : World} (hw : Has M w) : ∃ b off cs T fr q1 m1 c1, q = some ⟨b, off, none⟩ ∧ 1 ≤ n ∧ n ≤ c ∧ w.blk b = some (.cells cs T fr) ∧ off < cs.size ∧ cs[off]? = some (.slice q1 m1 c1) ∧ ∀ W, Has M W → Sl .u8 W q1 m1 c1 l := by
  obtain ⟨us, h⟩ := h
  obtain ⟨h1, h2⟩ := h w hw
  have hl := h1.len
  have hl2 := h2.len
  rw [List.length_cons] at hl2
  obtain ⟨b, off, cs, T, fr, hq, hb, hs, hat⟩ := h1.at1 (j := 0) (by omega) (by omega)
  cases h2 with
  | cons hv ht =>
    refine ⟨b, off, cs, T, fr, _, _, _, hq, by omega, h1.cap_, hb, by omega, by simpa using hat, fun W hW => ?_⟩
    cases (h W hW).2
    assumption
/-- The reader: the pieces left, and whether it has failed. -/
structure Rd (w0 : World) (M X : List (Nat × Obj)) (g : Nat) (W : World) (ls : List Bs) (bad : Bool) : Prop where
  ex : ∃ (q : Option Addr) (c : Nat) (err : Int), OwB w0 ((g, .cells #[.slice q ls.length c, .int .i64 err] 240) :: (M ++ X)) W ∧ (err = 0 ↔ bad = false) ∧ Sly M q ls.length c ls
section
variable {w0 w : World} {M X L : List (Nat × Obj)} {g : Nat} {ls : List Bs} {bad : Bool}
set_option maxRecDepth 100000 in
set_option maxHeartbeats 2000000 in
theorem fail_f {v : Value} {err : Int} (O : OwB w0 ((g, .cells #[v, .int .i64 err] 240) :: L) w) :
    Calls Tryz.prog 152 #[.pointer (some ⟨g, 0, none⟩), .int .i64 141] w fun e w' => e = .returned (.tuple #[]) ∧ OwB w0 ((g, .cells #[v, .int .i64 (if err = 0 then 141 else err)] 240) :: L) w' := by
  have f0 := O.nth 0 rfl
  have t0 := O.lt 0 rfl
  have HO := Lib.hid O
  clear O
  go_enter Tryz.func152, Tryz.ntmps152
  by_cases h : err = 0
  · subst h
    go_wp2_with fail
    exact bodyPost_end (results_none rfl _ _ _) rfl ⟨rfl, HO.out.set 0 _ rfl⟩
  · have d : (err == 0) = false := by simpa using h
    go_wp2_with fail
    exact bodyPost_end (results_none rfl _ _ _) rfl ⟨rfl, HO.out⟩
set_option maxRecDepth 100000 in
set_option maxHeartbeats 2000000 in
theorem piece_f (R : Rd w0 M X g w ls bad) :
    Calls Tryz.prog 151 #[.pointer (some ⟨g, 0, none⟩)] w fun e w' => ∃ p m c, e = .returned (.slice p m c) ∧ Sl .u8 w' p m c (ls.headD []) ∧ Rd w0 M X g w' ls.tail (bad || ls.isEmpty) := by
  obtain ⟨q, c, err, O, hE, hS⟩ := R.ex
  have f0 := O.nth 0 rfl
  have t0 := O.lt 0 rfl
  have HO := Lib.hid O
  have HE := Lib.hid hE
  have HS := Lib.hid hS
  clear R O hE hS
  go_enter Tryz.func151, Tryz.ntmps151
  cases ls with
  | nil =>
    rw [show ([] : List Bs).length = 0 from rfl] at *
    go_wp2_with fail
    refine (fail_f HO.out).mono ?_
    rintro e w1 ⟨rfl, O⟩
    have HO1 := Lib.hid O
    clear O f0 t0
    go_wp2_with fail
    refine bodyPost_ret (results_tmp rfl _ _ _) rfl ⟨_, _, _, rfl, ⟨rfl, Nat.le_refl 0, .inl rfl, fun _ => rfl, by simp⟩, ⟨_, _, _, HO1.out, ?_, HS.out⟩⟩
    split
    · simp
    · simp only [List.isEmpty_nil, Bool.or_true, Bool.true_eq_false, iff_false]; assumption
  | cons l ls =>
    have hh : Has M w := HO.out.has.tail.of_append.1
    obtain ⟨bb, off, cs, TT, fr, q1, m1, c1, rfl, hn1, hc1, fb, hs2, hat, S1⟩ := sly_head HS.out hh
    have HS1 := Lib.hid S1
    have HS2 := Lib.hid (sly_tail1 HS.out)
    have hat2 := (Array.getElem?_eq_some_iff.1 hat).2
    clear HS S1
    rw [show (l :: ls).length = ls.length + 1 from rfl] at *
    have d0 : (((ls.length + 1 : Nat) : Int) == 0) = false := by simp; omega
    have ht := World.at_lt fb
    go_wp2_with fail
    all_goals
      have O2 := HO.out.set 0 (.cells #[.slice (if c = 1 then some (⟨bb, off, none⟩ : Addr) else some ⟨bb, off + 1, none⟩) ls.length (c - 1), .int .i64 err] 240) rfl
      have S2 := HS2.out
      rw [Nat.add_sub_cancel] at S2
      first | rw [if_pos h, show c - 1 = 0 by omega] at O2 S2 | rw [if_neg h] at O2 S2
      refine bodyPost_ret (results_tmp rfl _ _ _) rfl ⟨_, _, _, rfl, HS1.out _ O2.has.tail.of_append.1, _, _, err, O2, ?_, S2⟩
      simpa using HE.out
end
end Go.Proofs.YtbhnfohoclcjdaaGreat
namespace Go.Proofs.YtbhnfohoclcjdaaGreat
open Go.RowKit Go.Dr Go.Kd
/-- The next piece has the length. -/
def fitH (s : Nat) (ls : List Bs) : Bool := (ls.headD []).length == s
theorem fitH_emp {s : Nat} (hs : 1 ≤ s) {ls : List Bs} {bad : Bool} : (bad || ls.isEmpty || !fitH s ls) = (bad || !fitH s ls) := by
  cases ls with
  | nil =>
    have : fitH s [] = false := by simp [fitH]; omega
    simp [this]
  | cons l ls => simp
section
variable {w0 w w' : World} {M X L : List (Nat × Obj)} {g : Nat} {ls : List Bs} {bad : Bool}
theorem Rd.fr (R : Rd w0 M X g w ls bad) (F : Fr [] w w') : Rd w0 M X g w' ls bad := by
  obtain ⟨q, c, err, O, h⟩ := R.ex
  exact ⟨q, c, err, O.call F, h⟩
theorem Rd.eq {bad' : Bool} (R : Rd w0 M X g w ls bad) (h : bad = bad') : Rd w0 M X g w ls bad' := h ▸ R
theorem fail_r (R : Rd w0 M X g w ls bad) : Calls Tryz.prog 152 #[.pointer (some ⟨g, 0, none⟩), .int .i64 141] w fun e w' => e = .returned (.tuple #[]) ∧ Rd w0 M X g w' ls true := by
  obtain ⟨q, c, err, O, hE, hS⟩ := R.ex
  refine (fail_f O).mono ?_
  rintro e w1 ⟨rfl, O1⟩
  refine ⟨rfl, _, _, _, O1, ?_, hS⟩
  split
  · simp
  · simp only [Bool.true_eq_false, iff_false]; assumption
set_option maxRecDepth 100000 in
set_option maxHeartbeats 2000000 in
theorem rnum_f {s : Nat} (R : Rd w0 M X g w ls bad) (hB : ∀ l ∈ ls, isBytes l) (hs : 1 ≤ s ∧ s ≤ 8) :
    Calls Tryz.prog 149 #[.pointer (some ⟨g, 0, none⟩), .int .i64 (s : Int)] w fun e w' => e = .returned (.int .u64 ((if fitH s ls then getB (ls.headD []) else 0 : Nat) : Int)) ∧ Rd w0 M X g w' ls.tail (bad || !fitH s ls) := by
  have HR := Lib.hid R
  have hbl : isBytes (ls.headD []) := by
    cases ls with
    | nil => intro y hy; cases hy
    | cons l ls => exact hB l (by simp)
  obtain ⟨v, hv⟩ : ∃ v : Nat, v = if fitH s ls then getB (ls.headD []) else 0 := ⟨_, rfl⟩
  obtain ⟨b', hb'⟩ : ∃ b', b' = (bad || !fitH s ls) := ⟨_, rfl⟩
  have he := fitH_emp hs.1 (ls := ls) (bad := bad)
  rw [← hv, ← hb']
  rw [← hb'] at he
  unfold fitH at hv hb' he
  obtain ⟨y, hy⟩ : ∃ y, y = ls.headD [] := ⟨_, rfl⟩
  rw [← hy] at hbl hv hb' he
  have HY := Lib.hid hy
  have HV := Lib.hid hv
  have HB' := Lib.hid hb'
  have HE := Lib.hid he
  have HBL := Lib.hid hbl
  clear R hB hbl hv hb' hy he
  go_enter Tryz.func149, Tryz.ntmps149
  go_wp2_with fail
  refine (piece_f HR.out).mono ?_
  rintro e w1 ⟨p, m, c, rfl, S, R1⟩
  rw [← HY.out] at S
  have hm := S.len
  have HS := Lib.hid S
  have HR1 := Lib.hid R1
  have HM := Lib.hid hm
  clear S R1 HR hm
  by_cases h : m = s
  · subst h
    have d : ((m : Int) != (m : Int)) = false := by simp
    go_wp2_with fail
    refine (get_f HS.out HBL.out).mono ?_
    rintro e w2 ⟨rfl, F⟩
    have HF2 := Lib.hid F
    have e1 : getV y = v := by rw [HV.out, HM.out, if_pos (by simp)]; unfold getV; rw [HM.out, if_pos (by unfold getOk; rw [decide_eq_true_eq]; omega)]
    rw [e1]
    clear F e1
    go_wp2_with fail
    refine bodyPost_ret (results_tmp rfl _ _ _) rfl ⟨rfl, (HR1.out.fr HF2.out).eq ?_⟩
    have := HE.out
    rw [HM.out] at this
    simpa using this
  · have d : ((m : Int) != (s : Int)) = true := by simp; omega
    have HN := Lib.hid h
    clear h
    go_wp2_with fail
    refine (fail_r HR1.out).mono ?_
    rintro e w2 ⟨rfl, R2⟩
    have HR2 := Lib.hid R2
    clear R2
    go_wp2_with fail
    have hn := HN.out
    refine bodyPost_ret (results_tmp rfl _ _ _) rfl ⟨?_, HR2.out.eq ?_⟩
    · rw [HV.out, HM.out, if_neg (by simpa using hn)]; rfl
    · rw [HB'.out, HM.out]; simp [hn]
set_option maxRecDepth 100000 in
set_option maxHeartbeats 2000000 in
theorem rbyte_f (R : Rd w0 M X g w ls bad) (hB : ∀ l ∈ ls, isBytes l) :
    Calls Tryz.prog 103 #[.pointer (some ⟨g, 0, none⟩)] w fun e w' => ∃ v : Nat, e = .returned (.int .u8 (v : Int)) ∧ v < 256 ∧ (fitH 1 ls = true → v = getB (ls.headD [])) ∧ Rd w0 M X g w' ls.tail (bad || !fitH 1 ls) := by
  have HR := Lib.hid R
  have HB := Lib.hid hB
  clear R hB
  go_enter Tryz.func103, Tryz.ntmps103
  go_wp2_with fail
  refine (rnum_f (s := 1) HR.out HB.out ⟨by omega, by omega⟩).mono ?_
  rintro e w1 ⟨rfl, R1⟩
  have HR1 := Lib.hid R1
  clear R1
  obtain ⟨v, hv⟩ : ∃ v : Nat, v = if fitH 1 ls then getB (ls.headD []) else 0 := ⟨_, rfl⟩
  have hv2 : v < 256 := by
    rw [hv]
    split
    · rename_i h
      have := getB_lt 1 (ls.headD []) (by simpa [fitH] using h) (by
        cases ls with
        | nil => intro y hy; cases hy
        | cons l ls => exact HB.out l (by simp))
      omega
    · omega
  rw [← hv]
  have HV := Lib.hid hv
  clear hv
  have wi : IntKind.u8.wrap (v : Int) = (v : Int) := by rw [IntKind.wrap_u8, Int.emod_eq_of_lt] <;> omega
  go_wp2_with fail
  refine bodyPost_ret (results_tmp rfl _ _ _) rfl ⟨v, rfl, hv2, fun h => ?_, HR1.out⟩
  rw [HV.out, if_pos h]
set_option maxRecDepth 100000 in
set_option maxHeartbeats 2000000 in
theorem rshort_f (R : Rd w0 M X g w ls bad) (hB : ∀ l ∈ ls, isBytes l) :
    Calls Tryz.prog 105 #[.pointer (some ⟨g, 0, none⟩)] w fun e w' => ∃ v : Nat, e = .returned (.int .u16 (v : Int)) ∧ v < 65536 ∧ (fitH 2 ls = true → v = getB (ls.headD [])) ∧ Rd w0 M X g w' ls.tail (bad || !fitH 2 ls) := by
  have HR := Lib.hid R
  have HB := Lib.hid hB
  clear R hB
  go_enter Tryz.func105, Tryz.ntmps105
  go_wp2_with fail
  refine (rnum_f (s := 2) HR.out HB.out ⟨by omega, by omega⟩).mono ?_
  rintro e w1 ⟨rfl, R1⟩
  have HR1 := Lib.hid R1
  clear R1
  obtain ⟨v, hv⟩ : ∃ v : Nat, v = if fitH 2 ls then getB (ls.headD []) else 0 := ⟨_, rfl⟩
  have hv2 : v < 65536 := by
    rw [hv]
    split
    · rename_i h
      have := getB_lt 2 (ls.headD []) (by simpa [fitH] using h) (by
        cases ls with
        | nil => intro y hy; cases hy
        | cons l ls => exact HB.out l (by simp))
      omega
    · omega
  rw [← hv]
  have HV := Lib.hid hv
  clear hv
  have wi : IntKind.u16.wrap (v : Int) = (v : Int) := by rw [IntKind.wrap_u16, Int.emod_eq_of_lt] <;> omega
  go_wp2_with fail
  refine bodyPost_ret (results_tmp rfl _ _ _) rfl ⟨v, rfl, hv2, fun h => ?_, HR1.out⟩
  rw [HV.out, if_pos h]
end
end Go.Proofs.YtbhnfohoclcjdaaGreat
namespace Go.Proofs.YtbhnfohoclcjdaaGreat
open Go.RowKit Go.Dr Go.Kd
section
variable {w0 w w' : World} {M X L : List (Nat × Obj)} {g : Nat} {ls : List Bs} {bad : Bool}
theorem Rd.alloc (R : Rd w0 M X g w ls bad) (o : Obj) (b : Nat) (hb : b = w.heap.size) : Rd w0 M ((b, o) :: X) g (w.alloc o) ls bad := by
  obtain ⟨q, c, err, O, h⟩ := R.ex
  exact ⟨q, c, err, (O.allocN o b hb).perm (List.perm_middle (l₁ := (g, _) :: M)).symm, h⟩
theorem Rd.permX {X' : List (Nat × Obj)} (R : Rd w0 M X g w ls bad) (p : X.Perm X') : Rd w0 M X' g w ls bad := by
  obtain ⟨q, c, err, O, h⟩ := R.ex
  exact ⟨q, c, err, O.perm ((p.append_left M).cons _), h⟩
theorem Rd.own {b : Nat} {o : Obj} (R : Rd w0 M ((b, o) :: X) g w ls bad) : ∃ Y, OwB w0 ((b, o) :: Y) w := by
  obtain ⟨q, c, err, O, h⟩ := R.ex
  exact ⟨_, O.perm (List.perm_middle (l₁ := (g, _) :: M))⟩
theorem Rd.blk {b : Nat} {o : Obj} (R : Rd w0 M ((b, o) :: X) g w ls bad) : w.blk b = some o := by
  obtain ⟨Y, O⟩ := R.own
  exact O.nth 0 rfl
theorem Rd.pop {b : Nat} {o : Obj} (R : Rd w0 M ((b, o) :: X) g w ls bad) : Rd w0 M X g w ls bad := by
  obtain ⟨q, c, err, O, h⟩ := R.ex
  exact ⟨q, c, err, (O.perm (List.perm_middle (l₁ := (g, _) :: M))).take, h⟩
theorem Rd.put {b : Nat} {o : Obj} (R : Rd w0 M ((b, o) :: X) g w ls bad) (o' : Obj) : Rd w0 M ((b, o') :: X) g (w.put b o') ls bad := by
  obtain ⟨q, c, err, O, h⟩ := R.ex
  exact ⟨q, c, err, ((O.perm (List.perm_middle (l₁ := (g, _) :: M))).set 0 o' rfl).perm (List.perm_middle (l₁ := (g, _) :: M)).symm, h⟩
set_option maxRecDepth 100000 in
set_option maxHeartbeats 2000000 in
theorem okey_f {p : Option Addr} {n c : Nat} {l : Bs} (S : Sl .u8 w p n c l) :
    Calls Tryz.prog 150 #[.slice p n c] w fun e w' => e = .returned (.tuple #[.agg (ints .u8 (if n = 32 then l else List.replicate 32 0)), .bool (n == 32)]) ∧ Fr [] w w' := by
  have HS := Lib.hid S
  obtain ⟨r, hr⟩ : ∃ r, r = if n = 32 then l else List.replicate 32 0 := ⟨_, rfl⟩
  obtain ⟨b, hb⟩ : ∃ b, b = (n == 32) := ⟨_, rfl⟩
  rw [← hr, ← hb]
  have HR := Lib.hid hr
  have HB := Lib.hid hb
  clear S hr hb
  go_enter Tryz.func150, Tryz.ntmps150
  go_upto_region 2 with (fail)
  obtain ⟨zs, hzs⟩ : ∃ zs : List Int, zs = List.replicate 32 0 := ⟨_, rfl⟩
  refine named_world (A := fun X => OwB w [(w.heap.size + 1, .cells (ints .u8 zs) 34), (w.heap.size, .cells (ints .u8 zs) 34)] X) (Q := fun X => Code.wp _ _ _ _ X) (by rw [hzs]; exact ((OwB.start w).allocN _ w.heap.size rfl).allocN _ (w.heap.size + 1) (by simp)) ?_
  intro V hO
  have hz : zs.length = 32 := by rw [hzs, List.length_replicate]
  have hsz : (ints .u8 zs).size = 32 := by rw [size_ints, hz]
  have HZ := Lib.hid hzs
  clear hzs
  generalize w.heap.size + 1 = b1 at *
  generalize w.heap.size = b0 at *
  have f1 := hO.nth 0 rfl
  have t1 := World.at_lt f1
  have f0 := hO.nth 1 rfl
  have t0 := World.at_lt f0
  have hne : b1 ≠ b0 := hO.ne 0 1 rfl rfl (by omega)
  have HO := Lib.hid hO
  clear hO
  by_cases h : n = 32
  · subst h
    have HLN := Lib.hid HS.out.len
    obtain ⟨bb, off, cs, TT, fr, rfl, fc, hs2, hx⟩ := (HS.out.fr0 HO.out.fr).out (by omega)
    have tc := World.at_lt fc
    have hx2 : List.take 32 (List.drop off cs.toList) = List.map (Value.int .u8) l := by
      rw [← hx, Array.toList_extract, List.extract_eq_take_drop, Nat.add_sub_cancel_left]
    have hon : ones (List.map (Value.int .u8) l) = true := by simp [ones, Value.oneCell']
    clear hx
    have d : ((32 : Int) != 32) = false := rfl
    have hlen := HLN.out
    have hlay : lay zs 0 l = l := by simp [lay, hz, hlen]
    have hl32 : (ints .u8 l).size = 32 := by rw [size_ints, hlen]
    have htk : List.take 32 l = l := List.take_of_length_le (by omega)
    have O2 := (HO.out.set 0 (.cells (ints .u8 l) 34) rfl).set 1 (.cells (ints .u8 l) 34) rfl
    have HO2 := Lib.hid O2
    have hrl : r = l := by rw [HR.out, if_pos rfl]
    have HRL := Lib.hid hrl
    clear O2 hrl
    go_wp2_with fail
    refine ret_cell_tmp rfl rfl rfl ?_
    refine cellRet_of (HO2.out.nth 1 rfl) (aggB_ints hlen (by kernel_rfl)) ⟨?_, HO2.out.fr⟩
    rw [HRL.out, HB.out]
    rfl
  · have d : ((n : Int) != 32) = true := by simp; omega
    have HN := Lib.hid h
    clear h
    go_wp2_with fail
    have O2 := HO.out.set 1 (.cells (ints .u8 zs) 34) rfl
    refine ret_cell_tmp rfl rfl rfl ?_
    refine cellRet_of (O2.nth 1 rfl) (aggB_ints hz (by kernel_rfl)) ⟨?_, O2.fr⟩
    have hn := HN.out
    have e9 : b = false := by rw [HB.out]; simpa using hn
    rw [HR.out, e9, if_neg hn, HZ.out]
    rfl
set_option maxRecDepth 100000 in
set_option maxHeartbeats 2000000 in
theorem rkey_f (R : Rd w0 M X g w ls bad) :
    Calls Tryz.prog 104 #[.pointer (some ⟨g, 0, none⟩)] w fun e w' => e = .returned (.agg (ints .u8 (if fitH 32 ls then ls.headD [] else List.replicate 32 0))) ∧ Rd w0 M X g w' ls.tail (bad || !fitH 32 ls) := by
  have HR := Lib.hid R
  obtain ⟨v, hv⟩ : ∃ v : Bs, v = if fitH 32 ls then ls.headD [] else List.replicate 32 0 := ⟨_, rfl⟩
  obtain ⟨b', hb'⟩ : ∃ b', b' = (bad || !fitH 32 ls) := ⟨_, rfl⟩
  have he := fitH_emp (s := 32) (by omega) (ls := ls) (bad := bad)
  rw [← hv, ← hb']
  rw [← hb'] at he
  unfold fitH at hv hb' he
  obtain ⟨y, hy⟩ : ∃ y, y = ls.headD [] := ⟨_, rfl⟩
  rw [← hy] at hv hb' he
  have HY := Lib.hid hy
  have HV := Lib.hid hv
  have HB' := Lib.hid hb'
  have HE := Lib.hid he
  clear R hv hb' hy he
  go_enter Tryz.func104, Tryz.ntmps104
  go_upto_region 1 with (fail)
  obtain ⟨zs, hzs⟩ : ∃ zs : List Int, zs = List.replicate 32 0 := ⟨_, rfl⟩
  refine named_world (A := fun V => Rd w0 M ((w.heap.size, .cells (ints .u8 zs) 34) :: X) g V ls bad) (Q := fun V => Code.wp _ _ _ _ V) (by rw [hzs]; exact HR.out.alloc _ _ rfl) ?_
  intro V R
  have hz : zs.length = 32 := by rw [hzs, List.length_replicate]
  have hsz : (ints .u8 zs).size = 32 := by rw [size_ints, hz]
  have HZ := Lib.hid hzs
  clear hzs HR
  generalize w.heap.size = b0 at *
  have HR := Lib.hid R
  clear R
  go_wp2_with fail
  refine (piece_f HR.out).mono ?_
  rintro e w1 ⟨p, m, c, rfl, S, R1⟩
  rw [← HY.out] at S
  have hm := S.len
  have HS := Lib.hid S
  have HM := Lib.hid hm
  clear S HR hm
  have HR := Lib.hid R1
  clear R1
  go_wp2_with fail
  refine (okey_f HS.out).mono ?_
  rintro e w2 ⟨rfl, F⟩
  have R2 := HR.out.fr F
  clear HR
  have HR := Lib.hid R2
  clear R2 F
  obtain ⟨v2, hv2⟩ : ∃ v2, v2 = if m = 32 then y else List.replicate 32 0 := ⟨_, rfl⟩
  rw [← hv2]
  have HV2 := Lib.hid hv2
  have hl2 : v2.length = 32 := by
    rw [hv2]
    split
    · rw [HM.out]; assumption
    · simp
  have hs2 : (ints .u8 v2).size = 32 := by rw [size_ints, hl2]
  obtain ⟨b2, hb2⟩ : ∃ b2, b2 = (m == 32) := ⟨_, rfl⟩
  rw [← hb2]
  have HB2 := Lib.hid hb2
  clear hv2 hb2
  go_upto_region 2 with (fail)
  refine named_world (A := fun V => Rd w0 M ((w2.heap.size, .cells (ints .u8 v2) 34) :: (b0, .cells (ints .u8 zs) 34) :: X) g V ls.tail (bad || ls.isEmpty)) (Q := fun V => Code.wp _ _ _ _ V) (HR.out.alloc _ _ rfl) ?_
  intro V3 R3
  generalize w2.heap.size = b3 at *
  have f3 := R3.blk
  have t3 := World.at_lt f3
  have f0 := (R3.permX (List.Perm.swap ..)).blk
  have t0 := World.at_lt f0
  clear HR
  have HR := Lib.hid R3
  clear R3
  have hvv : v2 = v := by rw [HV2.out, HV.out, HM.out]; simp
  have HVV := Lib.hid hvv
  clear hvv
  by_cases h : m = 32
  · have e2 : b2 = true := by rw [HB2.out, h]; rfl
    have HH := Lib.hid h
    clear h
    subst e2
    go_wp2_with fail
    have R4 := ((HR.out.permX (List.Perm.swap ..)).put (.cells (ints .u8 v2) 34))
    refine ret_cell rfl rfl rfl ?_
    refine cellRet_of R4.blk (aggB_ints hl2 (by kernel_rfl)) ⟨by rw [HVV.out], (R4.pop.pop).eq ?_⟩
    rw [← HE.out, HM.out, HH.out]
    simp
  · have e2 : b2 = false := by rw [HB2.out]; simpa using h
    have HH := Lib.hid h
    clear h
    subst e2
    go_wp2_with fail
    refine (fail_r HR.out).mono ?_
    rintro e w4 ⟨rfl, R4⟩
    clear HR f3 t3 f0 t0
    have f3 := R4.blk
    have t3 := World.at_lt f3
    have f0 := (R4.permX (List.Perm.swap ..)).blk
    have t0 := World.at_lt f0
    have HR := Lib.hid R4
    clear R4
    go_wp2_with fail
    have R4 := ((HR.out.permX (List.Perm.swap ..)).put (.cells (ints .u8 v2) 34))
    refine ret_cell rfl rfl rfl ?_
    refine cellRet_of R4.blk (aggB_ints hl2 (by kernel_rfl)) ⟨by rw [HVV.out], (R4.pop.pop).eq ?_⟩
    have hn := HH.out
    rw [HB'.out, HM.out]
    simp [hn]
end
end Go.Proofs.YtbhnfohoclcjdaaGreat
namespace Go.Proofs.YtbhnfohoclcjdaaGreat
open Go.RowKit Go.Dr Go.Kd
section
variable {w0 w w' : World} {M X L : List (Nat × Obj)} {g : Nat} {ls : List Bs} {bad : Bool}
set_option maxRecDepth 100000 in
set_option maxHeartbeats 4000000 in
theorem rsig_f (R : Rd w0 M X g w ls bad) :
    Calls Tryz.prog 106 #[.pointer (some ⟨g, 0, none⟩)] w fun e w' => e = .returned (.agg (ints .u8 (if fitH 64 ls then ls.headD [] else List.replicate 64 0))) ∧ Rd w0 M X g w' ls.tail (bad || !fitH 64 ls) := by
  have HR := Lib.hid R
  obtain ⟨v, hv⟩ : ∃ v : Bs, v = if fitH 64 ls then ls.headD [] else List.replicate 64 0 := ⟨_, rfl⟩
  obtain ⟨b', hb'⟩ : ∃ b', b' = (bad || !fitH 64 ls) := ⟨_, rfl⟩
  have he := fitH_emp (s := 64) (by omega) (ls := ls) (bad := bad)
  rw [← hv, ← hb']
  rw [← hb'] at he
  unfold fitH at hv hb' he
  obtain ⟨y, hy⟩ : ∃ y, y = ls.headD [] := ⟨_, rfl⟩
  rw [← hy] at hv hb' he
  have HY := Lib.hid hy
  have HV := Lib.hid hv
  have HB' := Lib.hid hb'
  have HE := Lib.hid he
  clear R hv hb' hy he
  go_enter Tryz.func106, Tryz.ntmps106
  go_upto_region 2 with (fail)
  obtain ⟨zs, hzs⟩ : ∃ zs : List Int, zs = List.replicate 64 0 := ⟨_, rfl⟩
  refine named_world (A := fun V => Rd w0 M ((w.heap.size + 1, .cells (ints .u8 zs) 45) :: (w.heap.size, .cells (ints .u8 zs) 45) :: X) g V ls bad) (Q := fun V => Code.wp _ _ _ _ V) (by rw [hzs]; exact (HR.out.alloc _ _ rfl).alloc _ _ (by simp)) ?_
  intro V R
  have hz : zs.length = 64 := by rw [hzs, List.length_replicate]
  have hsz : (ints .u8 zs).size = 64 := by rw [size_ints, hz]
  have HZ := Lib.hid hzs
  clear hzs HR
  generalize w.heap.size + 1 = b1 at *
  generalize w.heap.size = b0 at *
  have HR := Lib.hid R
  clear R
  go_wp2_with fail
  refine (piece_f HR.out).mono ?_
  rintro e w1 ⟨p, m, c, rfl, S, R1⟩
  rw [← HY.out] at S
  have hm := S.len
  have HS := Lib.hid S
  have HM := Lib.hid hm
  clear S HR hm
  have f1 := R1.blk
  have t1 := World.at_lt f1
  have f0 := (R1.permX (List.Perm.swap ..)).blk
  have t0 := World.at_lt f0
  have hne : b1 ≠ b0 := by
    obtain ⟨q, c, err, O, h⟩ := R1.ex
    have := (O.perm ((List.perm_append_comm_assoc [_] M _).trans (List.perm_append_comm (l₁ := M)))).ne 1 2 rfl rfl (by omega)
    exact this
  have HR := Lib.hid R1
  clear R1
  by_cases h : m = 64
  · subst h
    obtain ⟨bb, off, cs, TT, fr, rfl, fc, hs2, hx⟩ := HS.out.out (by omega)
    have tc := World.at_lt fc
    have hx2 : List.take 64 (List.drop off cs.toList) = List.map (Value.int .u8) y := by
      rw [← hx, Array.toList_extract, List.extract_eq_take_drop, Nat.add_sub_cancel_left]
    have hon : ones (List.map (Value.int .u8) y) = true := by simp [ones, Value.oneCell']
    clear hx
    have d : ((64 : Int) != 64) = false := rfl
    have hlen := HM.out
    have hlay : lay zs 0 y = y := by simp [lay, hz, hlen]
    have hl32 : (ints .u8 y).size = 64 := by rw [size_ints, hlen]
    have htk : List.take 64 y = y := List.take_of_length_le (by omega)
    have hvy : v = y := by rw [HV.out, hlen]; rfl
    have HVY := Lib.hid hvy
    have hbb : b' = (bad || ls.isEmpty) := by rw [← HE.out, hlen]; simp
    have HBB := Lib.hid hbb
    have R4 := (((HR.out.put (.cells (ints .u8 y) 45)).permX (List.Perm.swap ..)).put (.cells (ints .u8 y) 45))
    have HR4 := Lib.hid R4
    clear hvy hbb R4
    go_wp2_with fail
    refine ret_cell rfl rfl rfl ?_
    exact cellRet_of HR4.out.blk (aggB_ints hlen (by kernel_rfl)) ⟨by rw [HVY.out], (HR4.out.pop.pop).eq HBB.out.symm⟩
  · have d : ((m : Int) != 64) = true := by simp; omega
    have HN := Lib.hid h
    clear h
    go_wp2_with fail
    refine (fail_r HR.out).mono ?_
    rintro e w4 ⟨rfl, R4⟩
    clear HR f1 t1 f0 t0
    have f1 := R4.blk
    have t1 := World.at_lt f1
    have f0 := (R4.permX (List.Perm.swap ..)).blk
    have t0 := World.at_lt f0
    have HR := Lib.hid R4
    clear R4
    go_wp2_with fail
    have R4 := ((HR.out.permX (List.Perm.swap ..)).put (.cells (ints .u8 zs) 45))
    refine ret_cell rfl rfl rfl ?_
    have hn := HN.out
    refine cellRet_of R4.blk (aggB_ints hz (by kernel_rfl)) ⟨?_, (R4.pop.pop).eq ?_⟩
    · rw [HV.out, HM.out, if_neg (by simpa using hn), HZ.out]
    · rw [HB'.out, HM.out]
      simp [hn]
def RdE (w0 : World) (M X : List (Nat × Obj)) (g : Nat) (W : World) (ls : List Bs) : Prop := ∃ bad, Rd w0 M X g W ls bad
set_option maxRecDepth 100000 in
set_option maxHeartbeats 2000000 in
theorem rend_f (R : Rd w0 M X g w ls bad) :
    Calls Tryz.prog 107 #[.pointer (some ⟨g, 0, none⟩)] w fun e w' => ∃ err : Int, e = .returned (.int .i64 err) ∧ (err = 0 ↔ bad = false ∧ ls = []) ∧ RdE w0 M X g w' ls := by
  obtain ⟨q, c, err, O, hE, hS⟩ := R.ex
  have f0 := O.nth 0 rfl
  have t0 := O.lt 0 rfl
  have HO := Lib.hid O
  have HE := Lib.hid hE
  have HS := Lib.hid hS
  have HR := Lib.hid R
  clear O hE hS R
  go_enter Tryz.func107, Tryz.ntmps107
  by_cases h : ls = []
  · subst h
    go_wp2_with fail
    refine bodyPost_ret (results_tmp rfl _ _ _) rfl ⟨err, rfl, ?_, ⟨bad, HR.out⟩⟩
    simpa using HE.out
  · have h0 : (0 : Int) < (ls.length : Int) := by
      have := List.length_pos_iff.2 h
      omega
    have h1 : 0 < ls.length := List.length_pos_iff.2 h
    have HN := Lib.hid h
    clear h
    go_wp2_with fail
    refine (fail_f HO.out).mono ?_
    rintro e w1 ⟨rfl, O1⟩
    have f1 := O1.nth 0 rfl
    have t1 := O1.lt 0 rfl
    have HO1 := Lib.hid O1
    obtain ⟨er2, her⟩ : ∃ er2, er2 = if err = 0 then (141 : Int) else err := ⟨_, rfl⟩
    rw [← her] at f1
    have hne : er2 ≠ 0 := by rw [her]; split <;> omega
    have HX : Hid (RdE w0 M X g w1 ls) := Lib.hid ⟨true, _, _, _, O1, by rw [← her]; simp [hne], HS.out⟩
    have HNE := Lib.hid hne
    clear O1 f0 t0 hne her HO1
    go_wp2_with fail
    refine bodyPost_ret (results_tmp rfl _ _ _) rfl ⟨er2, rfl, ?_, HX.out⟩
    have hn := HN.out
    have hne := HNE.out
    simp [hn, hne]
theorem sly_nil (M : List (Nat × Obj)) : Sly M none 0 0 [] := ⟨[], fun W _ => ⟨Sv.ofNil W, .nil⟩⟩
/-- The pieces that the reader opens. -/
def opP (B : Bs) : List Bs := (splitB B).getD []
set_option maxRecDepth 100000 in
set_option maxHeartbeats 2000000 in
theorem ropen_f {p : Option Addr} {n c : Nat} {B : Bs} (S : Sl .u8 w p n c B) (hB : isBytes B) (hn : n ≤ 100000) :
    Calls Tryz.prog 102 #[.slice p n c] w fun e w' => ∃ g M, e = .returned (.pointer (some ⟨g, 0, none⟩)) ∧ Rd w M [] g w' (opP B) (opP B).isEmpty := by
  have HS := Lib.hid S
  have HB := Lib.hid hB
  clear S hB
  obtain ⟨o, ho⟩ : ∃ o, o = splitB B := ⟨_, rfl⟩
  obtain ⟨P, hP⟩ : ∃ P, P = opP B := ⟨_, rfl⟩
  have hP2 : P = o.getD [] := by rw [hP, ho, opP]
  rw [← hP]
  have HO := Lib.hid ho
  have HP := Lib.hid hP2
  clear ho hP hP2
  go_enter Tryz.func102, Tryz.ntmps102
  go_wp2_with fail
  refine (split_f HS.out HB.out hn).mono ?_
  intro e w1 h
  rw [← HO.out] at h
  match o, h with
  | none, h =>
    obtain ⟨why, hw, rfl, F⟩ := h
    have O2 := ((OwB.start w).call F).alloc (.cells #[.slice none 0 0, .int .i64 141] 240)
    have HO2 := Lib.hid O2
    have d : (why != 0) = true := by simpa using hw
    clear O2 F
    go_wp2_with fail
    refine bodyPost_ret (results_tmp rfl _ _ _) rfl ⟨w1.heap.size, [], rfl, ?_⟩
    rw [HP.out]
    exact ⟨_, _, _, HO2.out, by simp, sly_nil _⟩
  | some ls, h =>
    obtain ⟨q, c2, M, rfl, O, hT, hS⟩ := h
    have HPs : Hid (P = ls) := HP
    have HSs := Lib.hid hS
    have HOs := Lib.hid O
    clear O hS hT
    cases ls with
    | nil =>
      have O2 := HOs.out.alloc (.cells #[.slice none 0 0, .int .i64 141] 240)
      have HO2 := Lib.hid O2
      clear O2
      go_wp2_with fail
      refine bodyPost_ret (results_tmp rfl _ _ _) rfl ⟨w1.heap.size, M, rfl, ?_⟩
      rw [HPs.out]
      exact ⟨_, _, _, by rw [List.append_nil]; exact HO2.out, by simp, sly_nil _⟩
    | cons l ls =>
      have O2 := HOs.out.alloc (.cells #[.slice q (l :: ls).length c2, .int .i64 0] 240)
      have HO2 := Lib.hid O2
      have d : ((((l :: ls).length : Nat) : Int) == 0) = false := by simp; omega
      generalize hnn : (l :: ls).length = nn at *
      have HN := Lib.hid hnn
      clear O2 hnn
      go_wp2_with fail
      refine bodyPost_ret (results_tmp rfl _ _ _) rfl ⟨w1.heap.size, M, rfl, ?_⟩
      rw [HPs.out]
      exact ⟨_, _, _, by rw [List.append_nil, HN.out]; exact HO2.out, by simp, by rw [HN.out]; exact HSs.out⟩
end
end Go.Proofs.YtbhnfohoclcjdaaGreat
