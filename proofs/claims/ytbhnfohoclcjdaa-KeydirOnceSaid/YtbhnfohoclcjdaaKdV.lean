/- The examples. -/
import Derived.Test.YtbhnfohoclcjdaaKdU
set_option linter.unusedVariables false
set_option linter.unusedSimpArgs false
namespace Go.Proofs.Ytbhnfohoclcjdaa
open Go.RowKit Go.Dr Go.Kd
/-- What a cache with two first keys holds. -/
def twoC (a b : List Int) : List Int := a ++ (b ++ zs 69)
theorem twoC_length {a b : List Int} (ha : a.length = 32) (hb : b.length = 32) : (twoC a b).length = 133 := by simp [twoC, ha, hb, zs]
theorem firstC_two {a b : List Int} (ha : a.length = 32) (hb : b.length = 32) : firstC (twoC a b) = [a, b, Kd.zeros 32, Kd.zeros 32] := by
  have e1 : (twoC a b).drop 32 = b ++ zs 69 := by unfold twoC; rw [← ha, List.drop_left]
  have e2 : (twoC a b).drop 64 = zs 69 := by rw [show 64 = 32 + 32 from rfl, ← List.drop_drop, e1, ← hb, List.drop_left]
  have e3 : (twoC a b).drop 96 = zs 37 := by rw [show 96 = 64 + 32 from rfl, ← List.drop_drop, e2]; rfl
  have h0 : (twoC a b).take 32 = a := by unfold twoC; rw [← ha, List.take_left]
  have h1 : (b ++ zs 69).take 32 = b := by rw [← hb, List.take_left]
  simp only [firstC, List.map_cons, List.map_nil, Nat.mul_zero, Nat.mul_one, Nat.reduceMul, List.drop_zero, h0, e1, e2, e3, h1]
  rfl
theorem highC_two {a b : List Int} (ha : a.length = 32) (hb : b.length = 32) : highC (twoC a b) = [0, 0, 0, 0] := by
  unfold highC
  rw [show 128 = 32 + (32 + 64) from rfl, ← List.drop_drop, ← List.drop_drop]
  unfold twoC
  rw [← ha, List.drop_left, ha, ← hb, List.drop_left]
  rfl
theorem needC_two {a b : List Int} (ha : a.length = 32) (hb : b.length = 32) : needC (twoC a b) = 0 := by
  unfold needC
  rw [el, twoC, List.getD_eq_getElem?_getD, List.getElem?_append_right (by omega), ha, List.getElem?_append_right (by omega), hb]
  rfl
theorem twoC_bytes {a b : List Int} (ha : isBytes a) (hb : isBytes b) : isBytes (twoC a b) := by
  intro x hx
  simp only [twoC, List.mem_append, zs, List.mem_replicate] at hx
  rcases hx with hx | hx | ⟨_, rfl⟩
  · exact ha x hx
  · exact hb x hx
  · omega
theorem two36 {a b : List Int} (ha : a.length = 32) (hb : b.length = 32) : spl (spl Try.zeroCells36 0 (a.map (Value.int .u8))) 32 (b.map (Value.int .u8)) = ints .u8 (a ++ (b ++ zs 64)) := by
  have h : Try.zeroCells36 = ints .u8 (zs 128) := by kernel_rfl
  rw [h, spl_ints, spl_ints]
  congr 1
  unfold lay
  rw [List.take_zero, List.nil_append, Nat.zero_add, ha, hb, List.take_append_of_le_length (by omega), List.take_of_length_le (by omega), List.append_assoc, List.drop_append, List.drop_eq_nil_of_le (by omega), ha, List.nil_append]
  rfl
theorem two39 {a b : List Int} (ha : a.length = 32) (hb : b.length = 32) : spl Try.zeroCells39 0 ((a ++ (b ++ zs 64)).map (Value.int .u8)) = ints .u8 (twoC a b) := by
  have h : Try.zeroCells39 = ints .u8 (zs 133) := by kernel_rfl
  rw [h, spl_ints]
  congr 1
  unfold lay twoC
  rw [List.take_zero, List.nil_append, Nat.zero_add, List.length_append, List.length_append, ha, hb, List.append_assoc, List.append_assoc]
  rfl
theorem ex_two : checkF ali3.1 aliC [0, 0, 0, 0] 0 0 [aliY] 4 = (Kd.zeros 32, 0, 201) := by decide
theorem ex_four : checkF ali3.1 aliC [0, 0, 0, 0] 0 1 [aliY] 5 = (Kd.zeros 32, 0, 200) := by decide
theorem E44 : ElemT Try.prog 44 29 101 136 Try.zeroCells29 := ⟨Try.underlying44, by kernel_rfl, by kernel_rfl⟩
@[go_sem] theorem one44 (w : World) (Y : Array Value) (h : Y.size = 101) : (buildOneK 44 #[(0, .agg Y)]).run Try.prog w = .ok (.slice (some ⟨w.heap.size, 0, none⟩) 1 1) (w.alloc (.cells Y 29)) :=
  E44.buildOne (by omega) (by omega) w (.agg Y) h
theorem E60 : ElemT Try.prog 60 59 162 164 Try.zeroCells59 := ⟨Try.underlying60, by kernel_rfl, by kernel_rfl⟩
@[go_sem] theorem one60 (w : World) (Y : Array Value) (h : Y.size = 162) : (buildOneK 60 #[(0, .agg Y)]).run Try.prog w = .ok (.slice (some ⟨w.heap.size, 0, none⟩) 1 1) (w.alloc (.cells Y 59)) :=
  E60.buildOne (by omega) (by omega) w (.agg Y) h
theorem ob_aliX : ObOk aliX := by
  refine ⟨by decide, by decide, by decide, by decide, by decide, by decide, by decide, by decide, by decide, by decide, ?_, ?_, rfl⟩
  · intro x hx
    simp only [aliX, key1, Kd.zeros, List.mem_cons, List.mem_replicate] at hx
    omega
  · intro x hx
    simp only [aliX, Kd.zeros, List.mem_replicate] at hx
    omega
theorem byt_makeT {T : List Tm} {t : Tm} : isBytes (makeT T t).2.1 := by
  have hz : ∀ n, isBytes (Kd.zeros n) := fun n x hx => by
    simp only [Kd.zeros, List.mem_replicate] at hx
    omega
  unfold makeT
  split
  · exact hz _
  · split
    · exact byt_nameB _
    · split
      · exact hz _
      · exact byt_nameB _
theorem byt_signF {T : List Tm} {k t : List Int} : isBytes (signF T k t).2 := by
  have hz : ∀ n, isBytes (Kd.zeros n) := fun n x hx => by
    simp only [Kd.zeros, List.mem_replicate] at hx
    omega
  unfold signF
  split
  · exact hz _
  · intro x hx
    rcases List.mem_append.1 hx with hx | hx
    · exact byt_makeT x hx
    · exact hz _ x hx
theorem ob_sig {x : Ob} (h : ObOk x) {s : Bs} (hl : s.length = 64) (hb : isBytes s) : ObOk { x with sig := s } := ⟨h.s0, h.s1, h.n0, h.n1, h.f0, h.f1, h.t0, h.t1, h.kl, hl, h.kb, hb, h.vs⟩
theorem sv_one {sz : Nat} {w : World} {g : Nat} {Y : Array Value} {T : TypeId} (hg : w.blk g = some (.cells Y T)) (hY : Y.size = sz) : Sv sz w (some ⟨g, 0, none⟩) 1 1 Y.toList :=
  ⟨by simpa using hY, Nat.le_refl 1, .inr ⟨g, 0, Y, T, (0, 0), rfl, hg, by omega, by rw [Nat.zero_add, Nat.one_mul, ← hY, Array.extract_size]⟩, by simp, fun a ha => ⟨g, 0, by simpa using ha.symm⟩⟩
section
variable {w : World}
set_option maxRecDepth 100000 in
set_option maxHeartbeats 2000000 in
theorem alive_f : Calls Try.prog 5 #[] w fun e w' => e = .returned (.bool true) ∧ Fr [] w w' := by
  go_enter Try.func5, Try.ntmps5
  go_wp2_with fail
  refine free_f.mono ?_
  rintro e w1 ⟨tb, rfl, hT, F⟩
  have HT := Lib.hid hT
  have HF := Lib.hid F
  clear hT F
  go_upto_region 2 with (fail)
  refine named_world (A := fun X => OwB w [(w1.heap.size, .cells #[.pointer (some ⟨tb, 0, none⟩)] 33)] X ∧ TabP w.heap.size tb X []) (Q := fun X => Code.wp _ _ _ _ X) ⟨((OwB.start w).call HF.out).alloc _, HT.out.fr0 ((Fr.refl [] w1).alloc _)⟩ ?_
  rintro V ⟨hV, hT⟩
  generalize w1.heap.size = b1 at hV ⊢
  have f1 := hV.nth 0 rfl
  have t1 := World.at_lt f1
  have HV := Lib.hid hV
  have HTV := Lib.hid hT
  clear hV hT
  obtain ⟨T1, hT1⟩ : ∃ T1, T1 = ali1.1 := ⟨_, rfl⟩
  obtain ⟨a1, ha1⟩ : ∃ a1, a1 = ali1.2.1 := ⟨_, rfl⟩
  obtain ⟨T2, hT2⟩ : ∃ T2, T2 = ali2.1 := ⟨_, rfl⟩
  obtain ⟨a2, ha2⟩ : ∃ a2, a2 = ali2.2.1 := ⟨_, rfl⟩
  have la1 : a1.length = 32 := by rw [ha1]; exact makeT_len _ _
  have la2 : a2.length = 32 := by rw [ha2]; exact makeT_len _ _
  have kb : ∀ n : Int, 0 ≤ n → n < 256 → isBytes (key1 n) := fun n h0 h1 x hx => by
    simp only [key1, List.mem_cons, Kd.zeros, List.mem_replicate] at hx
    rcases hx with rfl | ⟨_, rfl⟩
    · exact ⟨h0, h1⟩
    · omega
  have c1 : ∀ W : World, TabP w.heap.size tb W [] → Calls Try.prog 8 #[SU tb, .agg (ints .u8 (key1 1))] W fun e w' => e = .returned (.agg (ints .u8 a1)) ∧ TabP w.heap.size tb w' T1 ∧ FrP w.heap.size W w' := fun W h => by
    rw [ha1, hT1]; exact signer_f h rfl (kb 1 (by omega) (by omega))
  have c2 : ∀ W : World, TabP w.heap.size tb W T1 → Calls Try.prog 8 #[SU tb, .agg (ints .u8 (key1 2))] W fun e w' => e = .returned (.agg (ints .u8 a2)) ∧ TabP w.heap.size tb w' T2 ∧ FrP w.heap.size W w' := fun W h => by
    rw [ha2, hT2]; rw [hT1] at h; exact signer_f h rfl (kb 2 (by omega) (by omega))
  obtain ⟨c128, hc128⟩ : ∃ c, c = a1 ++ (a2 ++ zs 64) := ⟨_, rfl⟩
  obtain ⟨C, hC⟩ : ∃ C, C = twoC a1 a2 := ⟨_, rfl⟩
  have e36 : spl (spl Try.zeroCells36 0 (a1.map (Value.int .u8))) 32 (a2.map (Value.int .u8)) = ints .u8 c128 := by rw [hc128]; exact two36 la1 la2
  have e39 : spl Try.zeroCells39 0 (c128.map (Value.int .u8)) = ints .u8 C := by rw [hc128, hC]; exact two39 la1 la2
  have l128 : c128.length = 128 := by rw [hc128, List.length_append, List.length_append, la1, la2]; rfl
  have z39 : Try.zeroCells39.size = 133 := by kernel_rfl
  have z36 : Try.zeroCells36.size = 128 := by kernel_rfl
  have lC : C.length = 133 := by rw [hC]; exact twoC_length la1 la2
  have HC := Lib.hid hC
  clear hc128 hC
  have C1 := Lib.hid c1
  have C2 := Lib.hid c2
  have HT1 := Lib.hid hT1
  have HA1 := Lib.hid ha1
  have HT2 := Lib.hid hT2
  have HA2 := Lib.hid ha2
  have HKB := Lib.hid kb
  clear c1 c2 hT1 ha1 hT2 ha2 kb
  go_cut [2, 20, 21, 22, 23, 24, 25, 26, 27] (fun v2 _ _ _ _ _ _ _ _ wy => ∃ b2, v2 = .pointer (some ⟨b2, 0, none⟩) ∧ Hid (OwB w [(b2, .cells (ints .u8 C) 39), (b1, .cells #[.pointer (some ⟨tb, 0, none⟩)] 33)] wy) ∧ Hid (TabP w.heap.size tb wy T2))
  case first =>
    refine drawn_begin 9 (fun w' => w'.blk b1 = some (.cells #[.pointer (some ⟨tb, 0, none⟩)] 33)) (by kernel_rfl) ?_
    refine drawn_reads (fuel := 6) [0, 1, 3, 4] rfl (by kernel_rfl) f1 ?_
    repeat (first | (refine rowK_step2 rfl rfl (fun K hK => ?_); go_wp2) | (refine rowK_step rfl (fun K hK => ?_); go_simp; refine hK _ ?_; clear hK K))
    refine rowK_nil ⟨fun w' e1 => ?_, ?_⟩
    · clear f1
      repeat (first | (refine rowWp_step2 rfl rfl (fun K hK => ?_); go_wp2) | (refine rowWp_step rfl (fun K hK => ?_); go_simp; refine hK _ ?_; clear hK K))
      exact rowWp_nil rfl
    refine drawn_next2 2 8 (fuel := 5) rfl rfl (by kernel_rfl) ?_ ?_
    · intro K hK
      go_wp2_with fail
      change Calls Try.prog 8 #[SU tb, .agg (ints .u8 (key1 1))] _ _
      refine (C1.out _ (HTV.out.fr0 (Fr.refl [] V).drew)).mono ?_
      rintro e V1 ⟨rfl, hT, F⟩
      have hV1 := HV.out.drew.callT F (by simp [other, TT]) (Nat.le_refl _)
      clear f1 t1
      have f1 := hV1.nth 0 rfl
      have t1 := World.at_lt f1
      have HV1 := Lib.hid hV1
      have HTV1 := Lib.hid hT
      clear hV1 hT
      clear F
      go_wp2_with fail
      refine ⟨f1, ?_⟩
      refine drawn_next2 5 8 (fuel := 4) rfl rfl (by kernel_rfl) ?_ ?_
      · intro K hK
        go_wp2_with fail
        change Calls Try.prog 8 #[SU tb, .agg (ints .u8 (key1 2))] _ _
        refine (C2.out _ HTV1.out).mono ?_
        rintro e V2 ⟨rfl, hT, F⟩
        have hV2 := HV1.out.callT F (by simp [other, TT]) (Nat.le_refl _)
        clear f1 t1
        have f1 := hV2.nth 0 rfl
        have t1 := World.at_lt f1
        have HV2 := Lib.hid hV2
        have HTV2 := Lib.hid hT
        clear hV2 hT
        clear F
        go_wp2_with fail
        refine ⟨f1, ?_⟩
        refine drawn_reads (fuel := 2) [6, 7] rfl (by kernel_rfl) f1 ?_
        repeat (first | (refine rowK_step2 rfl rfl (fun K hK => ?_); go_wp2) | (refine rowK_step rfl (fun K hK => ?_); go_simp; refine hK _ ?_; clear hK K))
        refine rowK_nil ⟨fun w' e1 => ?_, ?_⟩
        · clear f1
          repeat (first | (refine rowWp_step2 rfl rfl (fun K hK => ?_); go_wp2) | (refine rowWp_step rfl (fun K hK => ?_); go_simp; refine hK _ ?_; clear hK K))
          exact rowWp_nil rfl
        refine drawn_next 8 (fuel := 1) rfl (by kernel_rfl) ?_
        intro K hK
        go_wp2_with fail
        refine ⟨by go_simp, ?_⟩
        refine drawn_end rfl (by kernel_rfl) ?_
        intro K hK
        go_wp2_with fail
        go_meet
        case rel => exact ⟨V2.heap.size, rfl, Lib.hid (HV2.out.allocN _ V2.heap.size rfl), Lib.hid (HTV2.out.fr0 ((Fr.refl [] V2).alloc _))⟩
      · intro K hK
        go_wp2_with fail
        refine ⟨by go_simp, ?_⟩
        refine named_world (A := fun X => OwB w [(V1.heap.size, .cells Try.zeroCells39 39), (b1, .cells #[.pointer (some ⟨tb, 0, none⟩)] 33)] X ∧ TabP w.heap.size tb X T1) (Q := fun X => Go.Dr.wpAnyS Try.prog .any _ _ _ _ _ _ _ X) (by first | exact ⟨(HV1.out.allocN _ V1.heap.size rfl).drew, (HTV1.out.fr0 (((Fr.refl [] V1).alloc _).drew))⟩ | exact ⟨HV1.out.allocN _ V1.heap.size rfl, HTV1.out.fr0 ((Fr.refl [] V1).alloc _)⟩) ?_
        rintro V2 ⟨hV2, hT⟩
        generalize V1.heap.size = b2 at hV2 ⊢
        clear f1 t1
        have f1 := hV2.nth 1 rfl
        have t1 := World.at_lt f1
        have HV2 := Lib.hid hV2
        have HTV2 := Lib.hid hT
        clear hV2 hT
        refine drawn_next 5 (fuel := 3) rfl (by kernel_rfl) ?_
        intro K hK
        go_wp2_with fail
        change Calls Try.prog 8 #[SU tb, .agg (ints .u8 (key1 2))] _ _
        refine (C2.out _ HTV2.out).mono ?_
        rintro e V3 ⟨rfl, hT, F⟩
        have hV3 := HV2.out.callT F (by simp [other, TT]) (Nat.le_refl _)
        clear f1 t1
        have f1 := hV3.nth 1 rfl
        have t1 := World.at_lt f1
        have HV3 := Lib.hid hV3
        have HTV3 := Lib.hid hT
        clear hV3 hT
        clear F
        go_wp2_with fail
        refine ⟨f1, ?_⟩
        refine drawn_reads (fuel := 1) [6, 7] rfl (by kernel_rfl) f1 ?_
        repeat (first | (refine rowK_step2 rfl rfl (fun K hK => ?_); go_wp2) | (refine rowK_step rfl (fun K hK => ?_); go_simp; refine hK _ ?_; clear hK K))
        refine rowK_nil ⟨fun w' e1 => ?_, ?_⟩
        · clear f1
          repeat (first | (refine rowWp_step2 rfl rfl (fun K hK => ?_); go_wp2) | (refine rowWp_step rfl (fun K hK => ?_); go_simp; refine hK _ ?_; clear hK K))
          exact rowWp_nil rfl
        have f2 := HV3.out.nth 0 rfl
        have t2 := World.at_lt f2
        refine drawn_end rfl (by kernel_rfl) ?_
        intro K hK
        go_wp2_with fail
        go_meet
        case rel => exact ⟨b2, rfl, Lib.hid (HV3.out.set 0 _ rfl), Lib.hid (HTV3.out.put f2 (by decide) _)⟩
    · intro K hK
      go_wp2_with fail
      refine ⟨by go_simp, ?_⟩
      refine named_world (A := fun X => OwB w [(V.heap.size, .cells Try.zeroCells39 39), (b1, .cells #[.pointer (some ⟨tb, 0, none⟩)] 33)] X ∧ TabP w.heap.size tb X []) (Q := fun X => Go.Dr.wpAnyS Try.prog .any _ _ _ _ _ _ _ X) (by first | exact ⟨(HV.out.allocN _ V.heap.size rfl).drew, (HTV.out.fr0 (((Fr.refl [] V).alloc _).drew))⟩ | exact ⟨HV.out.allocN _ V.heap.size rfl, HTV.out.fr0 ((Fr.refl [] V).alloc _)⟩) ?_
      rintro V1 ⟨hV1, hT⟩
      generalize V.heap.size = b2 at hV1 ⊢
      clear f1 t1
      have f1 := hV1.nth 1 rfl
      have t1 := World.at_lt f1
      have HV1 := Lib.hid hV1
      have HTV1 := Lib.hid hT
      clear hV1 hT
      refine drawn_next 2 (fuel := 4) rfl (by kernel_rfl) ?_
      intro K hK
      go_wp2_with fail
      change Calls Try.prog 8 #[SU tb, .agg (ints .u8 (key1 1))] _ _
      refine (C1.out _ HTV1.out).mono ?_
      rintro e V2 ⟨rfl, hT, F⟩
      have hV2 := HV1.out.callT F (by simp [other, TT]) (Nat.le_refl _)
      clear f1 t1
      have f1 := hV2.nth 1 rfl
      have t1 := World.at_lt f1
      have HV2 := Lib.hid hV2
      have HTV2 := Lib.hid hT
      clear hV2 hT
      clear F
      go_wp2_with fail
      refine ⟨f1, ?_⟩
      refine drawn_next 5 (fuel := 3) rfl (by kernel_rfl) ?_
      intro K hK
      go_wp2_with fail
      change Calls Try.prog 8 #[SU tb, .agg (ints .u8 (key1 2))] _ _
      refine (C2.out _ HTV2.out).mono ?_
      rintro e V3 ⟨rfl, hT, F⟩
      have hV3 := HV2.out.callT F (by simp [other, TT]) (Nat.le_refl _)
      clear f1 t1
      have f1 := hV3.nth 1 rfl
      have t1 := World.at_lt f1
      have HV3 := Lib.hid hV3
      have HTV3 := Lib.hid hT
      clear hV3 hT
      clear F
      go_wp2_with fail
      refine ⟨f1, ?_⟩
      refine drawn_reads (fuel := 1) [6, 7] rfl (by kernel_rfl) f1 ?_
      repeat (first | (refine rowK_step2 rfl rfl (fun K hK => ?_); go_wp2) | (refine rowK_step rfl (fun K hK => ?_); go_simp; refine hK _ ?_; clear hK K))
      refine rowK_nil ⟨fun w' e1 => ?_, ?_⟩
      · clear f1
        repeat (first | (refine rowWp_step2 rfl rfl (fun K hK => ?_); go_wp2) | (refine rowWp_step rfl (fun K hK => ?_); go_simp; refine hK _ ?_; clear hK K))
        exact rowWp_nil rfl
      have f2 := HV3.out.nth 0 rfl
      have t2 := World.at_lt f2
      refine drawn_end rfl (by kernel_rfl) ?_
      intro K hK
      go_wp2_with fail
      go_meet
      case rel => exact ⟨b2, rfl, Lib.hid (HV3.out.set 0 _ rfl), Lib.hid (HTV3.out.put f2 (by decide) _)⟩
  case rest =>
    obtain ⟨b2, rfl, hO, hT⟩ := hcut
    obtain ⟨T3, hT3⟩ : ∃ T3, T3 = ali3.1 := ⟨_, rfl⟩
    obtain ⟨Y, hY⟩ : ∃ Y, Y = obC aliY := ⟨_, rfl⟩
    have obY : ObOk aliY := ob_sig ob_aliX (signF_len _ _ _) byt_signF
    have szY : Y.size = 101 := by rw [hY, List.size_toArray, cObject_length _ _ _ _ _ _ _ obY.kl obY.sl]
    have oneY : ones Y.toList = true := by rw [hY]; exact List.all_eq_true.2 (cObject_one _ _ _ _ _ _ _ rfl rfl rfl rfl rfl)
    have c3 : ∀ W : World, TabP w.heap.size tb W T2 → Calls Try.prog 10 #[SU tb, .agg (ints .u8 (key1 1)), .agg (obC aliX)] W fun e w' => e = .returned (.agg Y) ∧ TabP w.heap.size tb w' T3 ∧ FrP w.heap.size W w' := fun W h => by
      rw [hT3, hY]; rw [HT2.out] at h; exact ksign_f h rfl (HKB.out 1 (by omega) (by omega)) ob_aliX
    have aC : firstC C = aliC := by rw [HC.out, firstC_two la1 la2, HA1.out, HA2.out]; rfl
    have hC0 : highC C = [0, 0, 0, 0] := by rw [HC.out, highC_two la1 la2]
    have nC : needC C = 0 := by rw [HC.out, needC_two la1 la2]
    have bC : isBytes C := by rw [HC.out, HA1.out, HA2.out]; exact twoC_bytes byt_makeT byt_makeT
    have c4 : ∀ W : World, TabP w.heap.size tb W T3 → Calls Try.prog 9 #[SU tb, .agg (ints .u8 C), .int .u8 0, .slice none 0 0, .int .u32 0] W fun e w' => e = .returned (.tuple #[.agg (ints .u8 a1), .int .u8 0, .int .i64 0]) ∧ Fr [] W w' := fun W h => by
      have := check_f (server := 0) (now := 0) (xs := []) h lC bC (by omega) (by omega) (Sv.ofNil W) rfl (by simp) (by omega)
      rw [aC, hC0, nC, hT3, show (((0 : Nat) : Int)) = 0 from rfl, alive_one, ← HA1.out] at this
      exact this
    have c5 : ∀ (W : World) (g : Nat), W.blk g = some (.cells Y 29) → TabP w.heap.size tb W T3 → Calls Try.prog 9 #[SU tb, .agg (ints .u8 C), .int .u8 0, .slice (some ⟨g, 0, none⟩) 1 1, .int .u32 4] W fun e w' => e = .returned (.tuple #[.agg (ints .u8 (Kd.zeros 32)), .int .u8 0, .int .i64 201]) ∧ Fr [] W w' := fun W g hg h => by
      have := check_f (server := 0) (now := 4) (xs := [aliY]) h lC bC (by omega) (by omega) (by rw [List.flatMap_cons, List.flatMap_nil, List.append_nil, ← hY]; exact sv_one hg szY) rfl (by intro x hx; rw [List.mem_singleton] at hx; rw [hx]; exact obY) (by decide)
      rw [aC, hC0, nC, hT3, show (((0 : Nat) : Int)) = 0 from rfl, show (((4 : Nat) : Int)) = 4 from rfl, ex_two] at this
      exact this
    have c6 : ∀ (W : World) (g : Nat), W.blk g = some (.cells Y 29) → TabP w.heap.size tb W T3 → Calls Try.prog 9 #[SU tb, .agg (ints .u8 C), .int .u8 0, .slice (some ⟨g, 0, none⟩) 1 1, .int .u32 5] W fun e w' => e = .returned (.tuple #[.agg (ints .u8 (key1 9)), .int .u8 1, .int .i64 0]) ∧ Fr [] W w' := fun W g hg h => by
      have := check_f (server := 0) (now := 5) (xs := [aliY]) h lC bC (by omega) (by omega) (by rw [List.flatMap_cons, List.flatMap_nil, List.append_nil, ← hY]; exact sv_one hg szY) rfl (by intro x hx; rw [List.mem_singleton] at hx; rw [hx]; exact obY) (by decide)
      rw [aC, hC0, nC, hT3, show (((0 : Nat) : Int)) = 0 from rfl, show (((5 : Nat) : Int)) = 5 from rfl, alive_three] at this
      exact this
    have c7 : ∀ (W : World) (g : Nat), W.blk g = some (.cells Y 29) → TabP w.heap.size tb W T3 → Calls Try.prog 9 #[SU tb, .agg (ints .u8 C), .int .u8 1, .slice (some ⟨g, 0, none⟩) 1 1, .int .u32 5] W fun e w' => e = .returned (.tuple #[.agg (ints .u8 (Kd.zeros 32)), .int .u8 0, .int .i64 200]) ∧ Fr [] W w' := fun W g hg h => by
      have := check_f (server := 1) (now := 5) (xs := [aliY]) h lC bC (by omega) (by omega) (by rw [List.flatMap_cons, List.flatMap_nil, List.append_nil, ← hY]; exact sv_one hg szY) rfl (by intro x hx; rw [List.mem_singleton] at hx; rw [hx]; exact obY) (by decide)
      rw [aC, hC0, nC, hT3, show (((1 : Nat) : Int)) = 1 from rfl, show (((5 : Nat) : Int)) = 5 from rfl, ex_four] at this
      exact this
    obtain ⟨Ub, hUb⟩ : ∃ Ub, Ub = Try.zeroCells59.setIfInBounds 65 (.int .u16 1) := ⟨_, rfl⟩
    obtain ⟨Zf, hZf⟩ : ∃ Zf : Option Addr → Nat → Array Value, Zf = fun q c => (cShelf (.bool true) Try.zeroCells59.toList (.slice q 0 c) (.int .u16 0)).toArray := ⟨_, rfl⟩
    have h59 : Try.zeroCells59.toList.length = 162 := by kernel_rfl
    have ho59 : ∀ v ∈ Try.zeroCells59.toList, v.oneCell' = true := List.all_eq_true.1 (show Try.zeroCells59.toList.all (·.oneCell') = true by kernel_rfl)
    have szU : Ub.size = 162 := by rw [hUb, Array.size_setIfInBounds]; exact h59
    have oneU : ones Ub.toList = true := by rw [hUb]; kernel_rfl
    have u65 : Ub[65]? = some (.int .u16 1) := by rw [hUb]; kernel_rfl
    replace u65 := (Array.getElem?_eq_some_iff.1 u65).2
    have szZ : ∀ q c, (Zf q c).size = 165 := fun q c => by rw [hZf]; show ((cShelf _ _ _ _).toArray).size = 165; rw [List.size_toArray, cShelf_length _ _ _ _ h59]
    have oneZ : ∀ q c, ones (Zf q c).toList = true := fun q c => by rw [hZf]; exact List.all_eq_true.2 (cShelf_one _ _ _ _ rfl ho59 rfl rfl)
    have getZ : ∀ q c, (Zf q c)[163]? = some (.slice q 0 c) := fun q c => by rw [hZf]; exact cShelf_get_left _ _ _ _ h59
    have c8 : ∀ (W : World) (g : Nat), W.blk g = some (.cells Ub 59) → Calls Try.prog 18 #[.agg (cShelf (.bool true) Try.zeroCells59.toList (.slice (some ⟨g, 0, none⟩) 1 1) (.int .u16 0)).toArray] W fun e w' => ∃ q c, e = .returned (.tuple #[.agg (Zf q c), .agg Ub, .bool true]) ∧ Fr [] W w' := fun W g hg => by
      refine (claim_f (n := 0) (us := []) (u := Ub.toList) h59 ho59 rfl rfl (by rw [List.append_nil]; exact sv_one hg szU) (by simpa using szU) (by rw [List.append_nil]; exact List.all_eq_true.1 oneU) (by omega)).mono ?_
      rintro e w' ⟨q, c, rfl, _, F⟩
      exact ⟨q, c, by rw [hZf], F⟩
    have C8 := Lib.hid c8
    have tC : List.take 32 C = a1 := by rw [HC.out, twoC, ← la1, List.take_left]
    have C3 := Lib.hid c3
    have C4 := Lib.hid c4
    have C5 := Lib.hid c5
    have C6 := Lib.hid c6
    have C7 := Lib.hid c7
    have HY := Lib.hid hY
    have HAC := Lib.hid aC
    clear c3 c4 c5 c6 c7 c8 hZf hY obY aC hC0 nC bC hT3 e36 e39 l128 z36 z39
    have f1 := hO.out.nth 1 rfl
    have t1 := World.at_lt f1
    go_wp2_with fail
    refine Eq.mp (congrArg (fun X => Calls Try.prog 10 #[SU tb, .agg (ints .u8 (key1 1)), .agg X] _ _) (show obC aliX = _ from by kernel_rfl)) ?_
    refine (C3.out _ hT.out).mono ?_
    rintro e W3 ⟨rfl, hT3, F⟩
    have hO3 := hO.out.callT F (by simp [other, TT]) (Nat.le_refl _)
    have HO3 := Lib.hid hO3
    have HT3 := Lib.hid hT3
    clear f1 t1 hO3 hT3 F hO hT
    have f1 := HO3.out.nth 1 rfl
    have f2 := HO3.out.nth 0 rfl
    have t1 := World.at_lt f1
    have t2 := World.at_lt f2
    have ct : List.take 133 C = C := List.take_of_length_le (by omega)
    have yall : Y.extract 0 101 = Y := by rw [← szY]; exact Array.extract_size
    go_wp2_with fail
    refine named_world (A := fun X => OwB w [(W3.heap.size, .cells Y 29), (b2, .cells (ints .u8 C) 39), (b1, .cells #[.pointer (some ⟨tb, 0, none⟩)] 33)] X ∧ TabP w.heap.size tb X T3) (Q := fun X => Calls _ _ _ X _) ⟨HO3.out.allocN _ W3.heap.size rfl, HT3.out.fr0 ((Fr.refl [] W3).alloc _)⟩ ?_
    rintro W4 ⟨hO4, hT4⟩
    clear f1 f2 t1 t2
    generalize W3.heap.size = b3 at hO4 ⊢
    refine (C4.out W4 hT4).mono ?_
    rintro e U4 ⟨rfl, F4⟩
    have HO4 := Lib.hid (hO4.call F4)
    have HT4 := Lib.hid (hT4.fr0 F4)
    clear hO4 hT4 F4
    have f1 := HO4.out.nth 2 rfl
    have f2 := HO4.out.nth 1 rfl
    have f3 := HO4.out.nth 0 rfl
    have t1 := World.at_lt f1
    have t2 := World.at_lt f2
    have t3 := World.at_lt f3
    go_wp2_with fail
    refine named_world (A := fun X => OwB w [(U4.heap.size + 1, .cells Y 29), (U4.heap.size, .cells (ints .u8 a1) 23), (b3, .cells Y 29), (b2, .cells (ints .u8 C) 39), (b1, .cells #[.pointer (some ⟨tb, 0, none⟩)] 33)] X ∧ TabP w.heap.size tb X T3) (Q := fun X => Calls _ _ _ X _) ⟨(HO4.out.allocN _ U4.heap.size rfl).allocN _ (U4.heap.size + 1) (by simp), (HT4.out.fr0 ((Fr.refl [] U4).alloc _)).fr0 ((Fr.refl [] _).alloc _)⟩ ?_
    rintro W5 ⟨hO, hT⟩
    clear f1 f2 f3 t1 t2 t3
    generalize U4.heap.size + 1 = g at hO ⊢
    generalize U4.heap.size = b4 at hO ⊢
    refine (C5.out W5 g (hO.nth 0 rfl) hT).mono ?_
    rintro e U5 ⟨rfl, F⟩
    have HO5 := Lib.hid (hO.take.call F)
    have HT5 := Lib.hid (hT.fr0 F)
    clear hO hT F
    have f1 := HO5.out.nth 3 rfl
    have f2 := HO5.out.nth 2 rfl
    have f3 := HO5.out.nth 1 rfl
    have t1 := World.at_lt f1
    have t2 := World.at_lt f2
    have t3 := World.at_lt f3
    go_wp2_with fail
    refine named_world (A := fun X => OwB w [(U5.heap.size + 1, .cells Y 29), (U5.heap.size, .cells (ints .u8 (Kd.zeros 32)) 23), (b4, .cells (ints .u8 a1) 23), (b3, .cells Y 29), (b2, .cells (ints .u8 C) 39), (b1, .cells #[.pointer (some ⟨tb, 0, none⟩)] 33)] X ∧ TabP w.heap.size tb X T3) (Q := fun X => Calls _ _ _ X _) ⟨(HO5.out.allocN _ U5.heap.size rfl).allocN _ (U5.heap.size + 1) (by simp), (HT5.out.fr0 ((Fr.refl [] U5).alloc _)).fr0 ((Fr.refl [] _).alloc _)⟩ ?_
    rintro W6 ⟨hO, hT⟩
    clear f1 f2 f3 t1 t2 t3
    generalize U5.heap.size + 1 = g at hO ⊢
    generalize U5.heap.size = b7 at hO ⊢
    refine (C6.out W6 g (hO.nth 0 rfl) hT).mono ?_
    rintro e U6 ⟨rfl, F⟩
    have HO6 := Lib.hid (hO.take.call F)
    have HT6 := Lib.hid (hT.fr0 F)
    clear hO hT F
    have f1 := HO6.out.nth 4 rfl
    have f2 := HO6.out.nth 3 rfl
    have f3 := HO6.out.nth 2 rfl
    have t1 := World.at_lt f1
    have t2 := World.at_lt f2
    have t3 := World.at_lt f3
    go_wp2_with fail
    refine named_world (A := fun X => OwB w [(U6.heap.size + 1, .cells Y 29), (U6.heap.size, .cells (ints .u8 (key1 9)) 23), (b7, .cells (ints .u8 (Kd.zeros 32)) 23), (b4, .cells (ints .u8 a1) 23), (b3, .cells Y 29), (b2, .cells (ints .u8 C) 39), (b1, .cells #[.pointer (some ⟨tb, 0, none⟩)] 33)] X ∧ TabP w.heap.size tb X T3) (Q := fun X => Calls _ _ _ X _) ⟨(HO6.out.allocN _ U6.heap.size rfl).allocN _ (U6.heap.size + 1) (by simp), (HT6.out.fr0 ((Fr.refl [] U6).alloc _)).fr0 ((Fr.refl [] _).alloc _)⟩ ?_
    rintro W7 ⟨hO, hT⟩
    clear f1 f2 f3 t1 t2 t3
    generalize U6.heap.size + 1 = g at hO ⊢
    generalize U6.heap.size = b10 at hO ⊢
    refine (C7.out W7 g (hO.nth 0 rfl) hT).mono ?_
    rintro e U7 ⟨rfl, F⟩
    have HO7 := Lib.hid (hO.take.call F)
    have HT7 := Lib.hid (hT.fr0 F)
    clear hO hT F
    have f1 := HO7.out.nth 5 rfl
    have f2 := HO7.out.nth 4 rfl
    have f3 := HO7.out.nth 3 rfl
    have t1 := World.at_lt f1
    have t2 := World.at_lt f2
    have t3 := World.at_lt f3
    go_wp2_with fail
    rw [← hUb]
    refine named_world (A := fun X => OwB w [(U7.heap.size + 1, .cells Ub 59), (U7.heap.size, .cells (ints .u8 (Kd.zeros 32)) 23), (b10, .cells (ints .u8 (key1 9)) 23), (b7, .cells (ints .u8 (Kd.zeros 32)) 23), (b4, .cells (ints .u8 a1) 23), (b3, .cells Y 29), (b2, .cells (ints .u8 C) 39), (b1, .cells #[.pointer (some ⟨tb, 0, none⟩)] 33)] X) (Q := fun X => Calls _ _ _ X _) ((HO7.out.allocN _ U7.heap.size rfl).allocN _ (U7.heap.size + 1) (by simp)) ?_
    intro W8 hO
    clear f1 f2 f3 t1 t2 t3
    generalize U7.heap.size + 1 = g at hO ⊢
    generalize U7.heap.size = b13 at hO ⊢
    refine Eq.mp (congrArg (fun X => Calls Try.prog 18 #[.agg X] _ _) (show (cShelf (.bool true) Try.zeroCells59.toList (.slice (some ⟨g, 0, none⟩) 1 1) (.int .u16 0)).toArray = _ from by kernel_rfl)) ?_
    refine (C8.out W8 g (hO.nth 0 rfl)).mono ?_
    rintro e U8 ⟨q, c, rfl, F⟩
    have hO8 := hO.call F
    have HO8 := Lib.hid hO8
    have f2 := hO8.nth 6 rfl
    have f4 := hO8.nth 4 rfl
    have f10 := hO8.nth 2 rfl
    have t2 := World.at_lt f2
    have t4 := World.at_lt f4
    have t10 := World.at_lt f10
    have sz1 := szZ q c
    have one1 := oneZ q c
    have get0 := getZ q c
    generalize Zf q c = Z at sz1 one1 get0 ⊢
    have get1 := (Array.getElem?_eq_some_iff.1 get0).2
    have h9 : (key1 9 == [9, 0, 0, 0, 0, 0, 0, 0, 0, 0, 0, 0, 0, 0, 0, 0, 0, 0, 0, 0, 0, 0, 0, 0, 0, 0, 0, 0, 0, 0, 0, 0]) = true := by decide
    have lk9 : (key1 9).length = 32 := rfl
    clear hO hO8 F szZ oneZ getZ
    go_wp2_with fail
    exact bodyPost_ret (results_tmp rfl _ _ _) rfl ⟨rfl, (HO8.out.fr.alloc _).alloc _⟩
end
end Go.Proofs.Ytbhnfohoclcjdaa
