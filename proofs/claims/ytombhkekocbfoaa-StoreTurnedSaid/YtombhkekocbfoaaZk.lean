/- Joined: PkF, SoI, SoJ, SoK, SoIt. -/
import Derived.Test.YtombhkekocbfoaaZj
import Derived.Test.YtombhkekocbfoaaZi
import Derived.Test.YtombhkekocbfoaaZg
import Derived.Test.YtombhkekocbfoaaZf
import Derived.Shelf.SlIter.Nil
import Derived.Shelf.SortM.Plain
import Derived.Shelf.SortM.SortNone
import Derived.Ground.GgzProg
import Derived.Ground.SlgmProg
import Derived.Test.YtombhkekocbfoaaProg
set_option linter.unusedVariables false
set_option linter.unusedSimpArgs false
namespace Go.Proofs.Ytombhkekocbfoaa
open Go.RowKit Go.Dr Go.Kd
section
variable {w : World}
set_option maxRecDepth 100000 in
set_option maxHeartbeats 8000000 in
theorem dsplit_f {p : Option Addr} {n c : Nat} {B : Bs} (S : Sl .u8 w p n c B) (hB : isBytes B) (hn : n ≤ 100000) :
    Calls Try.prog 65 #[.slice p n c] w fun e w' => SplitRes w (splitB B) e w' := by
  have HS := Lib.hid S
  have HB := Lib.hid hB
  obtain ⟨K0, hK0⟩ : ∃ K0, K0 = splitB B := ⟨_, rfl⟩
  rw [← hK0]
  have HK0 := Lib.hid hK0
  clear S hB hK0
  go_enter Try.func65, Try.ntmps65
  by_cases hn0 : n = 0
  · have d0 : ((n : Int) == 0) = true := by rw [hn0]; rfl
    have hb : B = [] := List.eq_nil_of_length_eq_zero (by rw [HS.out.len]; exact hn0)
    have hk : K0 = none := by rw [HK0.out, hb]; rfl
    have HKn := Lib.hid hk
    clear hk hb
    go_wp2_with fail
    refine bodyPost_ret (results_tmp2 rfl _ _ _) rfl ?_
    rw [HKn.out]
    exact ⟨20, by decide, rfl, Fr.refl _ _⟩
  have d0 : ((n : Int) == 0) = false := by rw [beq_eq_false_iff_ne]; omega
  obtain ⟨bb, off, cs, TT, fr, rfl, fc0, hs2, hx⟩ := HS.out.out (by omega)
  have hln := HS.out.len
  have hcell : ∀ j, j < n → cs[off + j]? = some (.int .u8 (el B j)) := fun j hj => by
    have := congrArg (fun l : List Value => l[j]?) hx
    simp only [Array.getElem?_toList, List.getElem?_map] at this
    rw [Array.getElem?_extract_of_lt (by omega), ← Array.getElem?_eq_getElem] at this
    rw [this, List.getElem?_eq_getElem (by omega), el, List.getD_eq_getElem?_getD, List.getElem?_eq_getElem (by omega)]
    rfl
  have HC := Lib.hid hcell
  have HLN := Lib.hid hln
  have hel : ∀ j, 0 ≤ el B j ∧ el B j < 256 := fun j => by
    rw [el, List.getD_eq_getElem?_getD]
    cases h : B[j]? with
    | none => exact ⟨Int.le_refl 0, by decide⟩
    | some y => exact HB.out y (List.mem_of_getElem? h)
  obtain ⟨k, hk⟩ : ∃ k : Nat, el B 0 = (k : Int) := ⟨(el B 0).toNat, by have := hel 0; omega⟩
  have g0 := hcell 0 (by omega)
  rw [Nat.add_zero, hk] at g0
  replace g0 := (Array.getElem?_eq_some_iff.1 g0).2
  have k256 : k < 256 := by have := hel 0; omega
  have HEL := Lib.hid hel
  have hB0 : B = (k : Int) :: B.drop 1 := by
    match B, hln, hk with
    | [], h, _ => simp at h; omega
    | x :: r, _, hk => simp [el] at hk; simp [hk]
  have hk1 : K0 = if (64 : Int) < (k : Int) then none else finP [] (takeP k (B.drop 1)) := by
    rw [HK0.out]
    conv => lhs; rw [hB0]
    rfl
  have HK1 := Lib.hid hk1
  have tc := World.at_lt fc0
  have h0n : (0 : Int) < (n : Int) := by omega
  have hc1 := HS.out.cap_
  have wk : IntKind.i64.wrap (k : Int) = (k : Int) := by rw [IntKind.wrap_i64]; omega
  clear hx hln hcell hel hk hB0 hk1
  by_cases h64 : 64 < k
  · have d6 : decide ((64 : Int) < (k : Int)) = true := by rw [decide_eq_true_eq]; omega
    have hk : K0 = none := by rw [HK1.out, if_pos (by omega)]
    have HKn := Lib.hid hk
    clear hk
    go_wp2_with fail
    refine bodyPost_ret (results_tmp2 rfl _ _ _) rfl ?_
    rw [HKn.out]
    exact ⟨4, by decide, rfl, Fr.refl _ _⟩
  have d6 : decide ((64 : Int) < (k : Int)) = false := by rw [decide_eq_false_iff_not]; omega
  have hk : K0 = finP [] (takeP k (B.drop 1)) := by rw [HK1.out, if_neg (by omega)]
  have HK2 := Lib.hid hk
  clear hk HK1
  go_upto_region 8 with (fail)
  go_loopw [4, 5, 6] (fun vo va vi wy => ∃ (i at_ : Nat) (q : Option Addr) (c2 : Nat) (us : List Value) (No M : List (Nat × Obj)) (done : List Bs), i ≤ k ∧ at_ ≤ n ∧ 1 ≤ at_ ∧ done.length = i ∧ vi = .int .i64 (i : Int) ∧ va = .int .i64 (at_ : Int) ∧ vo = .slice q i c2 ∧ Hid (K0 = finP done (takeP (k - i) (B.drop at_))) ∧ Hid (OwB w (No ++ M) wy) ∧ Hid (Parked No 22 1 q i c2 us) ∧ Hid (∀ x ∈ M, ∃ cs fr, x.2 = .cells cs 5 fr) ∧ Hid (∀ W', Has M W' → Sls W' us done)) (fun _ _ vi _ => (k - intOf vi).toNat)
  case atStart => exact ⟨0, 1, none, 0, [], [], [], [], by omega, by omega, by omega, rfl, rfl, rfl, rfl, HK2, Lib.hid (OwB.start w), Lib.hid (Parked.nil _ _), Lib.hid (by simp), Lib.hid fun _ _ => .nil⟩
  case round =>
    obtain ⟨i, at_, q, c2, us, No, M, done, hik, han, ha1, hdl, rfl, rfl, rfl, hK, hO, hP, hM, hU⟩ := hrel
    have HDL := Lib.hid hdl
    clear hdl
    have fc := hO.out.fr.get fc0 (by simp)
    have tc2 := World.at_lt fc
    by_cases hlt : i < k
    · have d1 : decide ((i : Int) < (k : Int)) = true := by rw [decide_eq_true_eq]; omega
      obtain ⟨kf, hkf⟩ : ∃ kf, k - i = kf + 1 := ⟨k - i - 1, by omega⟩
      have HKF := Lib.hid hkf
      have wd : IntKind.i64.wrap ((n : Int) - (at_ : Int)) = ((n - at_ : Nat) : Int) := by rw [IntKind.wrap_i64]; omega
      by_cases h2 : n - at_ < 2
      · have d2 : decide (((n - at_ : Nat) : Int) < 2) = true := by rw [decide_eq_true_eq]; omega
        have hk : K0 = none := by rw [hK.out, HKF.out, takeP_short (by rw [List.length_drop, HLN.out]; exact h2), finP_none]
        have HKn := Lib.hid hk
        clear hk hkf
        go_wp2_with fail
        refine bodyPost_ret (results_tmp2 rfl _ _ _) rfl ?_
        rw [HKn.out]
        exact ⟨20, by decide, rfl, hO.out.fr⟩
      have d2 : decide (((n - at_ : Nat) : Int) < 2) = false := by rw [decide_eq_false_iff_not]; omega
      obtain ⟨y0, hy0⟩ : ∃ y0 : Nat, el B at_ = (y0 : Int) := ⟨(el B at_).toNat, by have := HEL.out at_; omega⟩
      obtain ⟨y1, hy1⟩ : ∃ y1 : Nat, el B (at_ + 1) = (y1 : Int) := ⟨(el B (at_ + 1)).toNat, by have := HEL.out (at_ + 1); omega⟩
      have b0 : y0 < 256 := by have := HEL.out at_; omega
      have b1 : y1 < 256 := by have := HEL.out (at_ + 1); omega
      have ga := HC.out at_ (by omega)
      have gb := HC.out (at_ + 1) (by omega)
      rw [hy0] at ga
      rw [hy1] at gb
      have hdr : B.drop at_ = (y0 : Int) :: (y1 : Int) :: B.drop (at_ + 2) := by
        have hl := HLN.out
        rw [List.drop_eq_getElem_cons (by omega), List.drop_eq_getElem_cons (by omega)]
        have e0 : B[at_]'(by omega) = (y0 : Int) := by rw [← hy0, el, List.getD_eq_getElem?_getD, List.getElem?_eq_getElem (by omega)]; rfl
        have e1 : B[at_ + 1]'(by omega) = (y1 : Int) := by rw [← hy1, el, List.getD_eq_getElem?_getD, List.getElem?_eq_getElem (by omega)]; rfl
        rw [e0, e1]
      have HDR := Lib.hid hdr
      replace ga := (Array.getElem?_eq_some_iff.1 ga).2
      replace gb := (Array.getElem?_eq_some_iff.1 gb).2
      have w0 : IntKind.i64.wrap (y0 : Int) = (y0 : Int) := by rw [IntKind.wrap_i64]; omega
      have w1 : IntKind.i64.wrap (y1 : Int) = (y1 : Int) := by rw [IntKind.wrap_i64]; omega
      have w2 : IntKind.i64.wrap ((y0 : Int) * 256) = (y0 : Int) * 256 := by rw [IntKind.wrap_i64]; omega
      have w3 : IntKind.i64.wrap ((at_ : Int) + 1) = ((at_ + 1 : Nat) : Int) := by rw [IntKind.wrap_i64]; omega
      have w4 : IntKind.i64.wrap ((y0 : Int) * 256 + (y1 : Int)) = ((y0 * 256 + y1 : Nat) : Int) := by rw [IntKind.wrap_i64]; omega
      have w5 : IntKind.i64.wrap ((at_ : Int) + 2) = ((at_ + 2 : Nat) : Int) := by rw [IntKind.wrap_i64]; omega
      have hai : ((at_ : Nat) : Int) < (n : Int) := by omega
      have hbi : ((at_ + 1 : Nat) : Int) < (n : Int) := by omega
      have hbi2 : (at_ : Int) + 1 < (n : Int) := by omega
      have hs3 : off + at_ < cs.size := by omega
      have hs4 : off + (at_ + 1) < cs.size := by omega
      clear hy0 hy1 hdr hkf
      go_upto_region 12 with (fail)
      refine wp_region_quiet_all (C := fun w' => ∃ _ : Unit, w' = wr.drew) (by kernel_rfl) (by kernel_rfl) ⟨(), rfl⟩ ?_
      repeat (go_big_quiet_step (fail))
      refine wpQuiet_nil ?_
      intro _ hw'
      obtain ⟨_, rfl⟩ := hw'
      obtain ⟨sz, hsz⟩ : ∃ sz, sz = y0 * 256 + y1 := ⟨_, rfl⟩
      have hsz2 : (y0 : Int) * 256 + (y1 : Int) = (sz : Int) := by omega
      have HSZ := Lib.hid hsz
      have szb : sz < 65536 := by omega
      rw [← hsz] at w4
      obtain ⟨a2, ha2⟩ : ∃ a2, a2 = at_ + 2 := ⟨_, rfl⟩
      rw [← ha2] at w5
      have HA2 := Lib.hid ha2
      have HK3 : Hid (K0 = finP done (takeP (kf + 1) ((y0 : Int) :: (y1 : Int) :: B.drop a2))) := Lib.hid (by rw [hK.out, HKF.out, HDR.out, HA2.out])
      have hl2 : (B.drop a2).length = n - a2 := by rw [List.length_drop, HLN.out]
      have HL2 := Lib.hid hl2
      have a2n : a2 ≤ n := by omega
      have wd2 : IntKind.i64.wrap ((n : Int) - (a2 : Int)) = ((n - a2 : Nat) : Int) := by rw [IntKind.wrap_i64]; omega
      clear ga gb w0 w1 w2 w3 hai hbi hbi2 hs3 hs4 hsz ha2 fc tc2 hl2 d2 wd
      by_cases h1 : 4096 < sz
      · have d1 : decide ((4096 : Int) < (sz : Int)) = true := by rw [decide_eq_true_eq]; omega
        have hk : K0 = none := by rw [HK3.out, takeP_big (.inl (by rw [Int.toNat_natCast, Int.toNat_natCast, ← HSZ.out]; exact h1)), finP_none]
        have HKn := Lib.hid hk
        clear hk
        go_wp2_with fail
        refine bodyPost_ret (results_tmp2 rfl _ _ _) rfl ?_
        rw [HKn.out]
        exact ⟨5, by decide, rfl, hO.out.drew.fr⟩
      have d3 : decide ((4096 : Int) < (sz : Int)) = false := by rw [decide_eq_false_iff_not]; omega
      by_cases h2' : n - a2 < sz
      · have d4 : decide (((n - a2 : Nat) : Int) < (sz : Int)) = true := by rw [decide_eq_true_eq]; omega
        have hk : K0 = none := by rw [HK3.out, takeP_big (.inr (by rw [Int.toNat_natCast, Int.toNat_natCast, ← HSZ.out, HL2.out]; exact h2')), finP_none]
        have HKn := Lib.hid hk
        clear hk
        go_wp2_with fail
        refine bodyPost_ret (results_tmp2 rfl _ _ _) rfl ?_
        rw [HKn.out]
        exact ⟨20, by decide, rfl, hO.out.drew.fr⟩
      have d4 : decide (((n - a2 : Nat) : Int) < (sz : Int)) = false := by rw [decide_eq_false_iff_not]; omega
      have HK4 : Hid (K0 = finP (done ++ [(B.drop a2).take sz]) (takeP kf (B.drop (a2 + sz)))) := Lib.hid (by
        rw [HK3.out, finP_step (by rw [Int.toNat_natCast, Int.toNat_natCast, ← HSZ.out]; exact h1) (by rw [Int.toNat_natCast, Int.toNat_natCast, ← HSZ.out, HL2.out]; exact h2')]
        rw [Int.toNat_natCast, Int.toNat_natCast, ← HSZ.out, List.drop_drop])
      have w6 : IntKind.i64.wrap ((a2 : Int) + (sz : Int)) = ((a2 + sz : Nat) : Int) := by rw [IntKind.wrap_i64]; omega
      have hS3 : ∀ P3 C3, P3 = (if c = a2 then some (⟨bb, off, none⟩ : Addr) else some ⟨bb, off + a2, none⟩) → C3 = c - a2 → Sl .u8 w P3 sz C3 ((B.drop a2).take sz) := fun P3 C3 e1 e2 => by
        have h := HS.out.part (i := a2) (j := a2 + sz) (c := c) (by omega) (by omega) (by omega) (Nat.le_refl _)
        rw [List.drop_take, Nat.add_sub_cancel_left] at h
        rw [e1, e2]
        simpa [Addr.add_mid] using h
      have HS3 := Lib.hid hS3
      have q1 : (a2 : Int) ≤ ((a2 + sz : Nat) : Int) := by omega
      have q2 : ((a2 + sz : Nat) : Int) ≤ (n : Int) := by omega
      have q3 : ((a2 + sz : Nat) : Int) ≤ (c : Int) := by omega
      have e9 : a2 + sz - a2 = sz := by omega
      clear hS3
      go_upto_region 19 with (fail)
      generalize hnil : (Value.slice none 0 0) = vn
      have HNil := Lib.hid hnil
      clear hnil
      have HOd := Lib.hid hO.out.drew
      iterate 21 (go_step)
      rename_i hKx
      refine hKx _ _ ?_
      refine wpList_app47 (l2 := (B.drop a2).take sz) rfl _ _ rfl (by exact HNil.out.symm) (Bld.nil (OwB.start wr.drew)) rfl (by rw [e9]; exact (HS3.out _ _ rfl rfl).fr0 HOd.out.fr) (by omega) ?_
      intro q4 c4 W4 hB
      rw [show 0 + (a2 + sz - a2) = sz by omega] at hB ⊢
      rw [List.nil_append] at hB
      obtain ⟨M2, hO2, hM2, hK2⟩ := HOd.out.join hB
      have HO2 := Lib.hid hO2
      have HM2 := Lib.hid hM2
      have HKs := Lib.hid hK2
      clear hO2 hM2 hK2 hB
      go_upto_region 20 with (fail)
      iterate 10 (go_step)
      refine wpList_app86 rfl _ _ rfl rfl ((hP.out.take (HO2.out.perm (List.perm_append_comm_assoc _ _ _))).call ((Fr.refl [] W4).alloc (.cells #[.slice q4 sz c4] 22))) rfl (Sv.one (v := .slice q4 sz c4) (T := 22) (fr := (0, 0)) (World.at_alloc_new _ _ _ rfl)) (by simp [Value.oneCell']) (by omega) ?_
      intro q5 c5 W5 B5
      obtain ⟨N5, hO5, hP5⟩ := B5.park
      have HO5 := Lib.hid hO5
      have HP5 := Lib.hid hP5
      have wi : IntKind.i64.wrap ((i : Int) + 1) = ((i + 1 : Nat) : Int) := by rw [IntKind.wrap_i64]; omega
      clear hO5 hP5 B5
      go_wp2_with fail
      go_roundw
      case rel =>
        refine ⟨i + 1, a2 + sz, q5, c5, us ++ [.slice q4 sz c4], N5, M2 ++ M, done ++ [(B.drop a2).take sz], by omega, (by have := HA2.out; omega), (by have := HA2.out; omega), by rw [List.length_append, HDL.out]; rfl, by first | rfl | simp, by first | rfl | simp, rfl, Lib.hid (by rw [HK4.out, show k - (i + 1) = kf by have := HKF.out; omega]), HO5, HP5, Lib.hid ?_, Lib.hid fun W' h => (hU.out W' h.of_append.2).append (.cons (HKs.out W' h.of_append.1) .nil)⟩
        intro x hx
        rcases List.mem_append.1 hx with hx | hx
        · exact HM2.out x hx
        · exact hM.out x hx
      case measure => simp [intOf]; omega
    · obtain rfl : i = k := by omega
      have d1 : decide ((i : Int) < (i : Int)) = false := by simp
      by_cases hat : at_ < n
      · have d2 : decide ((at_ : Int) < (n : Int)) = true := by rw [decide_eq_true_eq]; omega
        have hk : K0 = none := by
          rw [hK.out, Nat.sub_self, finP_zero, if_neg]
          intro e
          have := congrArg List.length e
          rw [List.length_drop, HLN.out, List.length_nil] at this
          omega
        have HKn := Lib.hid hk
        clear hk
        go_wp2_with fail
        refine bodyPost_ret (results_tmp2 rfl _ _ _) rfl ?_
        rw [HKn.out]
        exact ⟨21, by decide, rfl, hO.out.fr⟩
      · have d2 : decide ((at_ : Int) < (n : Int)) = false := by rw [decide_eq_false_iff_not]; omega
        have hk : K0 = some done := by
          rw [hK.out, Nat.sub_self, finP_zero, if_pos]
          exact List.drop_of_length_le (by rw [HLN.out]; omega)
        have HKn := Lib.hid hk
        clear hk
        go_wp2_with fail
        refine bodyPost_ret (results_tmp2 rfl _ _ _) rfl ?_
        rw [HKn.out]
        have HP' : Parked No 22 1 q done.length c2 us := by rw [HDL.out]; exact hP.out
        exact ⟨q, c2, No ++ M, by rw [HDL.out]; rfl, hO.out, parked_ty HP' hM.out, sll_of_parked HP' hU.out⟩
end
end Go.Proofs.Ytombhkekocbfoaa
namespace Go.Proofs.Ytombhkekocbfoaa
open Go.RowKit Go.Dr Go.Kd Go.St
theorem _root_.Go.BldV.with {w0 w w' : World} {L M : List (Nat × Obj)} {e sz : Nat} {p : Option Addr} {n cap : Nat} {vs : List Value} (h : BldV w0 L e sz w p n cap vs) (O : OwB w M w') : BldV w0 (M ++ L) e sz w' p n cap vs := by
  have hlt : ∀ q ∈ L, q.1 < w.heap.size := fun q hq => World.at_lt (h.own.has q hq)
  refine ⟨⟨fun q hq => ?_, ?_, fun q hq => ?_, h.own.fr.trans O.fr⟩, O.fr.owns h.row fun _ _ => by simp, fun g hg => ⟨(h.new g hg).1, fun hm => ?_⟩⟩
  · rcases List.mem_append.1 hq with hq | hq
    · exact O.has q hq
    · exact O.fr.get (h.own.has q hq) (by simp)
  · rw [List.map_append, List.nodup_append]
    refine ⟨O.nd, h.own.nd, fun a ha c hc e => ?_⟩
    subst e
    obtain ⟨x, hx, rfl⟩ := List.mem_map.1 ha
    obtain ⟨y, hy, hxy⟩ := List.mem_map.1 hc
    have h1 := O.lo x hx
    have h2 := hlt y hy
    omega
  · rcases List.mem_append.1 hq with hq | hq
    · exact Nat.le_trans h.own.fr.size (O.lo q hq)
    · exact h.own.lo q hq
  · rw [List.map_append] at hm
    rcases List.mem_append.1 hm with hm | hm
    · obtain ⟨x, hx, rfl⟩ := List.mem_map.1 hm
      have h1 := O.lo x hx
      rcases h.row.2 with ⟨hv, _⟩ | ⟨g, c, cur, hv, _, hb, _⟩
      · cases hv; cases hg
      · cases hv
        simp only [Option.map_some, Option.some.injEq] at hg
        subst hg
        have := World.at_lt hb
        omega
    · exact (h.new g hg).2 hm
theorem info32 : (Try.prog.info? 32).map (fun i => (i.zero, i.size, i.bytes)) = some (some (.agg #[.string ByteArray.empty, .slice none 0 0, .bool false]), 3, 48) := by kernel_rfl
/-- Growing changes, with what they lie in. -/
structure Gch (w0 : World) (X : List (Nat × Obj)) (w : World) (q : Option Addr) (k c : Nat) (l : List Chg) : Prop where
  ex : ∃ (us : List Value) (M : List (Nat × Obj)), BldV w0 (M ++ X) 32 3 w q k c us ∧ ∀ W, Has M W → ChV W us l
section
variable {w0 w w' : World} {X M : List (Nat × Obj)} {q p : Option Addr} {k c m d : Nat} {l : List Chg}
theorem Gch.nil (h : OwB w0 X w) : Gch w0 X w none 0 0 [] := ⟨[], [], BldV.nil h, fun _ _ => .nil⟩
theorem Gch.call (h : Gch w0 X w q k c l) (F : Fr [] w w') : Gch w0 X w' q k c l := by
  obtain ⟨us, M, B, S⟩ := h.ex
  exact ⟨us, M, B.call F, S⟩
theorem Gch.own (h : Gch w0 X w q k c l) : OwB w0 X w := by
  obtain ⟨us, M, B, S⟩ := h.ex
  exact B.own.sub (List.sublist_append_right _ _)
theorem Gch.chs (h : Gch w0 X w q k c l) : Chs w q k c l := by
  obtain ⟨us, M, B, S⟩ := h.ex
  exact ⟨us, B.sv, S w B.own.has.of_append.1⟩
theorem Gch.with (h : Gch w0 X w q k c l) (O : OwB w M w') : Gch w0 (M ++ X) w' q k c l := by
  obtain ⟨us, N, B, S⟩ := h.ex
  exact ⟨us, N, (B.with O).perm' (by rw [← List.append_assoc, ← List.append_assoc]; exact List.Perm.append_right _ List.perm_append_comm), S⟩
theorem Gch.keep (h : Gch w0 (M ++ X) w q k c l) : ∃ us N, BldV w0 ((N ++ M) ++ X) 32 3 w q k c us ∧ ∀ W, Has (N ++ M) W → ChV W us l ∧ Has M W := by
  obtain ⟨us, N, B, S⟩ := h.ex
  exact ⟨us, N, by rw [List.append_assoc]; exact B, fun W hW => ⟨S W hW.of_append.1, hW.of_append.2⟩⟩
theorem Gch.pop {b : Nat} {o : Obj} (h : Gch w0 ((b, o) :: X) w q k c l) : Gch w0 X w q k c l := by
  obtain ⟨us, M, B, S⟩ := h.ex
  exact ⟨us, M, B.sub (List.Sublist.append (List.Sublist.refl _) (List.sublist_cons_self _ _)), S⟩
variable {ops : Array Oper} {rest : List Oper} {o : Oper} {a : Act} {Q : Exit → Act → World → Prop}
theorem wpList_app33 (hgd : o.guard = none) (s x : Operand) (ho : o.op = .call { callee := .builtin .append, args := #[s, x], argTypes := #[33, 33] })
    (hs : a.eval s = .slice q k c) {b : Nat} (hx : a.eval x = .slice (some ⟨b, 0, none⟩) 1 1) {fr : Nat × Nat} {y : Chg} (G : Gch w0 (M ++ X) w q k c l) (S : ∀ W, Has M W → Sl .u8 W p m d y.val) (hb : w.blk b = some (.cells #[.string (strB y.name), .slice p m d, .bool y.gone] 32 fr)) (hbig : k + 1 ≤ 1000000)
    (h : ∀ q' c' w', Gch w0 X w' q' (k + 1) c' (l ++ [y]) → wpList Try.prog ops Q rest (a.put o.dst (.slice q' (k + 1) c')) w') : wpList Try.prog ops Q (o :: rest) a w := by
  obtain ⟨us, N, B, hC⟩ := G.keep
  obtain ⟨i, hi, hz, hs1, hb1⟩ := info_parts info32
  have Sv3 : Sv 3 w (some ⟨b, 0, none⟩) 1 1 [.string (strB y.name), .slice p m d, .bool y.gone] :=
    ⟨rfl, Nat.le_refl 1, .inr ⟨b, 0, _, 32, fr, rfl, hb, by simp, by simp⟩, (fun h => by cases h), trivial⟩
  exact wpList_apdV hgd s x 33 33 ho Try.underlying33 hi hz hs1 (by omega) hb1 rfl hs B hx (Apd.ofSrc Try.underlying33 hi hz (by rw [hs1]; exact Sv3.src Try.underlying33 (by simp [Value.oneCell']))) (by omega) (by omega) fun q' c' w' B' => h q' c' w' ⟨us ++ [.string (strB y.name), .slice p m d, .bool y.gone], N ++ M, B', fun W hW => (hC W hW).1.append (.cons (S W (hC W hW).2) .nil)⟩
end
theorem rdChgs_snoc : ∀ (bs : List Bs) (b : Bs), rdChgs (bs ++ [b]) = (rdChgs bs).bind fun l => (rdChg b).map fun c => l ++ [c] := by
  intro bs
  induction bs with
  | nil => intro b; simp [rdChgs]; cases rdChg b <;> rfl
  | cons x bs ih =>
    intro b
    rw [List.cons_append, rdChgs, rdChgs, ih]
    cases rdChg x <;> cases rdChgs bs <;> cases rdChg b <;> rfl
theorem rdChgs_bad : ∀ {bs : List Bs} {b : Bs}, b ∈ bs → rdChg b = none → rdChgs bs = none := by
  intro bs
  induction bs with
  | nil => intro b h; cases h
  | cons x bs ih =>
    intro b h hb
    rw [rdChgs]
    rcases List.mem_cons.1 h with rfl | h
    · rw [hb]; rfl
    · rw [ih h hb]
      cases rdChg x <;> rfl
theorem sl_nil (W : World) : Sl .u8 W none 0 0 [] := ⟨rfl, Nat.le_refl 0, .inl rfl, fun _ => rfl, by simp⟩
theorem sly_one {w : World} {M : List (Nat × Obj)} {q : Option Addr} {c : Nat} {y : Bs} {us : List Value} (h : ∀ W, Has M W → Sv 1 W q 1 c us ∧ Sls W us [y]) (hM : Has M w) :
    ∃ b off cs T fr qa ca, q = some ⟨b, off, none⟩ ∧ w.blk b = some (.cells cs T fr) ∧ ∃ h0 : off < cs.size, cs[off] = .slice qa y.length ca ∧ Sl .u8 w qa y.length ca y := by
  obtain ⟨h1, h2⟩ := h w hM
  cases h2 with
  | cons h3 h4 =>
    cases h4
    obtain ⟨b, off, cs, T, fr, e1, e2, e3, e4⟩ := h1.at1 (j := 0) (by omega) (by simp)
    obtain ⟨e5, e6⟩ := Array.getElem?_eq_some_iff.1 e4
    have hl := h3.len
    subst hl
    exact ⟨b, off, cs, T, fr, _, _, e1, e2, e5, e6, h3⟩
theorem sly_two {w : World} {M : List (Nat × Obj)} {q : Option Addr} {c : Nat} {y z : Bs} {us : List Value} (h : ∀ W, Has M W → Sv 1 W q 2 c us ∧ Sls W us [y, z]) (hM : Has M w) :
    ∃ b off cs T fr qa ca qb cb, q = some ⟨b, off, none⟩ ∧ w.blk b = some (.cells cs T fr) ∧ (∃ h0 : off < cs.size, cs[off] = .slice qa y.length ca) ∧ (∃ h1 : off + 1 < cs.size, cs[off + 1] = .slice qb z.length cb) ∧ Sl .u8 w qa y.length ca y ∧ ∀ W, Has M W → Sl .u8 W qb z.length cb z := by
  obtain ⟨h1, h2⟩ := h w hM
  cases h2 with
  | cons h3 h4 =>
    cases h4 with
    | cons h5 h6 =>
      cases h6
      obtain ⟨b, off, cs, T, fr, e1, e2, e3, e4⟩ := h1.at1 (j := 0) (by omega) (by simp)
      obtain ⟨b', off', cs', T', fr', f1, f2, f3, f4⟩ := h1.at1 (j := 1) (by omega) (by simp)
      rw [e1] at f1
      cases f1
      rw [e2] at f2
      cases f2
      obtain ⟨e5, e6⟩ := Array.getElem?_eq_some_iff.1 e4
      obtain ⟨f5, f6⟩ := Array.getElem?_eq_some_iff.1 f4
      have hl := h3.len
      subst hl
      have hl2 := h5.len
      subst hl2
      refine ⟨b, off, cs, T, fr, _, _, _, _, e1, e2, ⟨e5, e6⟩, ⟨f5, f6⟩, h3, fun W hW => ?_⟩
      cases (h W hW).2 with
      | cons _ g => cases g with
        | cons g _ => exact g
theorem E33 : ElemT Try.prog 33 32 3 48 #[.string ByteArray.empty, .slice none 0 0, .bool false] := ⟨Try.underlying33, by kernel_rfl, rfl⟩
@[go_sem] theorem one33 (w : World) (cs : Array Value) (h : cs.size = 3) : (buildOneK 33 #[(0, .agg cs)]).run Try.prog w = .ok (.slice (some ⟨w.heap.size, 0, none⟩) 1 1) (w.alloc (.cells cs 32)) :=
  E33.buildOne (by omega) (by omega) w (.agg cs) h
/-- What unpack answers. -/
def UnpR (w : World) (o : Option (List Chg)) (e : Ending) (w' : World) : Prop := match o with
  | some l => ∃ q c, e = .returned (.tuple #[.slice q l.length c, .bool true]) ∧ Chs w' q l.length c l ∧ Fr [] w w'
  | none => e = .returned (.tuple #[.slice none 0 0, .bool false]) ∧ Fr [] w w'
section
variable {w : World}
theorem takeP_len : ∀ (n : Nat) (b : Bs) (ps : List Bs) (r : Bs), takeP n b = some (ps, r) → ps.length = n := by
  intro n
  induction n with
  | zero => intro b ps r h; rw [takeP] at h; cases h; rfl
  | succ n ih =>
    intro b ps r h
    match b, h with
    | [], h => cases h
    | [_], h => cases h
    | a :: c :: b, h =>
      rw [takeP] at h
      split at h
      · cases h
      · cases hq : takeP n (b.drop (a.toNat * 256 + c.toNat)) with
        | none => rw [hq] at h; cases h
        | some q =>
          obtain ⟨l, r2⟩ := q
          rw [hq] at h
          simp only [Option.map_some, Option.some.injEq, Prod.mk.injEq] at h
          obtain ⟨rfl, rfl⟩ := h
          rw [List.length_cons, ih _ _ _ hq]
theorem takeP_le : ∀ (n : Nat) (b : Bs) (ps : List Bs) (r : Bs), takeP n b = some (ps, r) → ∀ p ∈ ps, p.length ≤ 4096 := by
  intro n
  induction n with
  | zero => intro b ps r h; rw [takeP] at h; cases h; simp
  | succ n ih =>
    intro b ps r h
    match b, h with
    | [], h => cases h
    | [_], h => cases h
    | a :: c :: b, h =>
      rw [takeP] at h
      split at h
      · cases h
      · rename_i hc
        cases hq : takeP n (b.drop (a.toNat * 256 + c.toNat)) with
        | none => rw [hq] at h; cases h
        | some q =>
          obtain ⟨l, r2⟩ := q
          rw [hq] at h
          simp only [Option.map_some, Option.some.injEq, Prod.mk.injEq] at h
          obtain ⟨rfl, rfl⟩ := h
          intro p hp
          rcases List.mem_cons.1 hp with rfl | hp
          · rw [List.length_take]
            have := Nat.min_le_left (a.toNat * 256 + c.toNat) b.length
            omega
          · exact ih _ _ _ hq p hp
theorem splitB_le {b : Bs} {ps : List Bs} (h : splitB b = some ps) : ∀ p ∈ ps, p.length ≤ 4096 := by
  match b, h with
  | [], h => cases h
  | k :: b, h =>
    rw [splitB] at h
    split at h
    · cases h
    · cases hq : takeP k.toNat b with
      | none => rw [hq] at h; cases h
      | some q =>
        obtain ⟨l, r⟩ := q
        rw [hq] at h
        cases r with
        | cons x r => cases h
        | nil =>
          simp only [finP, List.nil_append, Option.some.injEq] at h
          subst h
          exact takeP_le _ _ _ _ hq
theorem splitB_len {b : Bs} {ps : List Bs} (h : splitB b = some ps) : ps.length ≤ 64 := by
  match b, h with
  | [], h => cases h
  | k :: b, h =>
    rw [splitB] at h
    split at h
    · cases h
    · cases hq : takeP k.toNat b with
      | none => rw [hq] at h; cases h
      | some q =>
        obtain ⟨l, r⟩ := q
        rw [hq] at h
        cases r with
        | cons x r => cases h
        | nil =>
          simp only [finP, List.nil_append, Option.some.injEq] at h
          subst h
          rw [takeP_len _ _ _ _ hq]
          omega
set_option maxRecDepth 100000 in
set_option maxHeartbeats 8000000 in
theorem unpack_f {p : Option Addr} {n c : Nat} {B : Bs} (S : Sl .u8 w p n c B) (hB : isBytes B) (hn : n ≤ 100000) :
    Calls Try.prog 56 #[.slice p n c] w fun e w' => UnpR w (rdPay B) e w' := by
  have HB := Lib.hid hB
  have HS := Lib.hid S
  obtain ⟨R, hR⟩ : ∃ R, R = rdPay B := ⟨_, rfl⟩
  rw [← hR]
  have HR := Lib.hid hR
  clear S hB hR
  go_enter Try.func56, Try.ntmps56
  go_wp2_with fail
  refine (split_f HS.out HB.out hn).mono ?_
  intro en w1 hsp
  cases ho : splitB B with
  | none =>
    rw [ho] at hsp
    obtain ⟨why, hw, rfl, F⟩ := hsp
    have hr : R = none := by rw [HR.out, rdPay, ho]; rfl
    have HRN := Lib.hid hr
    have HF := Lib.hid F
    have hd : (why == 0) = false := by rw [beq_eq_false_iff_ne]; exact hw
    have hd2 : (why != 0) = true := by rw [bne, hd]; rfl
    clear ho hr F
    go_wp2_with fail
    refine bodyPost_ret (results_tmp2 rfl _ _ _) rfl ?_
    rw [HRN.out]
    exact ⟨rfl, HF.out⟩
  | some ls =>
    rw [ho] at hsp
    obtain ⟨q1, c1, M1, rfl, O1, -, us1, hus1⟩ := hsp
    have hSll : Sll w1 q1 ls.length c1 ls := by obtain ⟨a, b⟩ := hus1 w1 O1.has; exact Sll.of a b
    have HLS := Lib.hid hSll
    have HF1 := Lib.hid O1.fr
    have hr : R = rdChgs ls := by rw [HR.out, rdPay, ho]; rfl
    have HRL := Lib.hid hr
    have HPB := Lib.hid (splitB_byt HB.out ho)
    have HPL := Lib.hid (splitB_le ho)
    have hlen := splitB_len ho
    obtain ⟨N, hN⟩ : ∃ N, N = ls.length := ⟨_, rfl⟩
    rw [← hN] at hlen HLS ⊢
    have HN := Lib.hid hN
    clear ho hr hN hus1 hSll O1
    go_wp2_with fail
    go_loopw [6, 21] (fun v iv wy => ∃ (i : Nat) (q : Option Addr) (cp : Nat) (l : List Chg), i ≤ N ∧ v = .slice q i cp ∧ iv = .int .i64 (i : Int) ∧ Hid (rdChgs (ls.take i) = some l ∧ Gch w1 [] wy q i cp l)) (fun _ iv _ => (N - intOf iv).toNat)
    case atStart => exact ⟨0, none, 0, [], by omega, rfl, rfl, Lib.hid ⟨rfl, Gch.nil (OwB.start w1)⟩⟩
    case round =>
      obtain ⟨i, q, cp, l, hin, rfl, rfl, hW⟩ := hrel
      by_cases hlt : i < N
      · have hd : decide ((i : Int) < (N : Int)) = true := by rw [decide_eq_true_eq]; omega
        obtain ⟨b, off, cs, TT, fr, q2, m2, c2, x, rfl, fb, hsz, hat, hx, S2⟩ := (HLS.out.fr0 hW.out.2.own.fr).at hlt
        replace hat := (Array.getElem?_eq_some_iff.1 hat).2
        have hxm := List.mem_of_getElem? hx
        have HXM := Lib.hid hxm
        have HX := Lib.hid hx
        have HS2 := Lib.hid S2
        have tb := World.at_lt fb
        have wi : IntKind.i64.wrap ((i : Int) + 1) = ((i + 1 : Nat) : Int) := by rw [IntKind.wrap_i64]; omega
        clear hx hxm S2
        go_wp2_with fail
        refine (split_f HS2.out (HPB.out x HXM.out) (by have := HPL.out x HXM.out; have := HS2.out.len; omega)).mono ?_
        intro en w2 hsp
        have HPX := Lib.hid (HPB.out x HXM.out)
        cases ho : splitB x with
        | none =>
          rw [ho] at hsp
          obtain ⟨why, hw, rfl, F⟩ := hsp
          have hr : R = none := by rw [HRL.out]; exact rdChgs_bad HXM.out (by rw [rdChg, ho])
          have HRN := Lib.hid hr
          have HF := Lib.hid (HF1.out.trans (hW.out.2.own.fr.trans F))
          have hd : (why == 0) = false := by rw [beq_eq_false_iff_ne]; exact hw
          have hd2 : (why != 0) = true := by rw [bne, hd]; rfl
          clear ho hr F
          go_wp2_with fail
          refine bodyPost_ret (results_tmp2 rfl _ _ _) rfl ?_
          rw [HRN.out]
          exact ⟨rfl, HF.out⟩
        | some ys =>
          rw [ho] at hsp
          obtain ⟨q3, c3, M3, rfl, O3, -, us3, hus3⟩ := hsp
          have HG3 := Lib.hid (hW.out.2.with O3)
          have HRI := Lib.hid hW.out.1
          have HF := Lib.hid (HF1.out.trans (hW.out.2.own.fr.trans O3.fr))
          have hSll : ∀ W, Has M3 W → Sll W q3 ys.length c3 ys := fun W hW => by obtain ⟨a, b⟩ := hus3 W hW; exact Sll.of a b
          have hM3 := O3.has
          have HUS := Lib.hid hus3
          have HM3 := Lib.hid hM3
          have HYB := Lib.hid (splitB_byt HPX.out ho)
          have hrd : rdChg x = match (some ys : Option (List Bs)) with
            | some [n] => if 1 ≤ n.length ∧ n.length ≤ 32 then some ⟨n, true, []⟩ else none
            | some [n, v] => if 1 ≤ n.length ∧ n.length ≤ 32 ∧ v.length ≤ 4000 then some ⟨n, false, v⟩ else none
            | _ => none := by rw [← ho]; rfl
          have HRD := Lib.hid hrd
          clear hW O3 ho hSll hrd fb tb hat hsz hus3 hM3
          have hbad : rdChg x = none → R = none := fun h => by rw [HRL.out]; exact rdChgs_bad HXM.out h
          have HBAD := Lib.hid hbad
          clear hbad
          match ys, HUS, HYB, HRD with
          | [], HUS, HYB, HRD =>
            have HRN := Lib.hid (HBAD.out HRD.out)
            go_wp2_with fail
            refine bodyPost_ret (results_tmp2 rfl _ _ _) rfl ?_
            rw [HRN.out]
            exact ⟨rfl, HF.out⟩
          | y :: z :: t :: ys, HUS, HYB, HRD =>
            have HRN := Lib.hid (HBAD.out HRD.out)
            have hl3 : (y :: z :: t :: ys).length = ys.length + 3 := rfl
            rw [hl3]
            obtain ⟨m3, hm3⟩ : ∃ m3, m3 = ys.length + 3 := ⟨_, rfl⟩
            have d1 : decide ((m3 : Int) < 1) = false := by rw [decide_eq_false_iff_not]; omega
            have d2 : decide ((2 : Int) < (m3 : Int)) = true := by rw [decide_eq_true_eq]; omega
            rw [← hm3]
            clear hl3 hm3
            go_wp2_with fail
            refine bodyPost_ret (results_tmp2 rfl _ _ _) rfl ?_
            rw [HRN.out]
            exact ⟨rfl, HF.out⟩
          | [y], HUS, HYB, HRD =>
            obtain ⟨b3, o3, cs3, T3, fr3, qa, ca, rfl, g3, s3, c3', Sy⟩ := sly_one HUS.out HM3.out
            have t3 := World.at_lt g3
            have hcv := conv47 Sy
            have hrd : rdChg x = if 1 ≤ y.length ∧ y.length ≤ 32 then some ⟨y, true, []⟩ else none := HRD.out
            obtain ⟨m3, hm3⟩ : ∃ m3, m3 = y.length := ⟨_, rfl⟩
            rw [← hm3] at hcv hrd c3'
            have HM := Lib.hid hm3
            have HRC := Lib.hid hrd
            clear Sy hrd hm3
            by_cases h1 : m3 < 1
            · have d1 : decide ((m3 : Int) < 1) = true := by rw [decide_eq_true_eq]; omega
              have HRN := Lib.hid (HBAD.out (by rw [HRC.out, if_neg (by omega)]))
              clear hcv
              go_wp2_with fail
              refine bodyPost_ret (results_tmp2 rfl _ _ _) rfl ?_
              rw [HRN.out]
              exact ⟨rfl, HF.out⟩
            have d1 : decide ((m3 : Int) < 1) = false := by rw [decide_eq_false_iff_not]; omega
            by_cases h2 : 32 < m3
            · have d2 : decide ((32 : Int) < (m3 : Int)) = true := by rw [decide_eq_true_eq]; omega
              have HRN := Lib.hid (HBAD.out (by rw [HRC.out, if_neg (by omega)]))
              clear hcv
              go_wp2_with fail
              refine bodyPost_ret (results_tmp2 rfl _ _ _) rfl ?_
              rw [HRN.out]
              exact ⟨rfl, HF.out⟩
            have d2 : decide ((32 : Int) < (m3 : Int)) = false := by rw [decide_eq_false_iff_not]; omega
            have HRS := Lib.hid (show rdChgs (ls.take (i + 1)) = some (l ++ [⟨y, true, []⟩]) by
              rw [List.take_add_one, HX.out]
              show rdChgs (ls.take i ++ [x]) = _
              rw [rdChgs_snoc, HRI.out, HRC.out, if_pos (by omega)]
              rfl)
            clear h1 h2
            go_wp2_with (refine wpList_app33 (y := ⟨y, true, []⟩) (p := none) (m := 0) (d := 0) rfl _ _ rfl rfl rfl (HG3.out.call (((Fr.refl [] w2).alloc _).alloc _)) (fun W _ => sl_nil W) (World.at_alloc_new _ _ _ (by simp)) (by omega) ?_)
            intro q5 c5 W5 G5
            have HG5 := Lib.hid G5
            clear G5 HG3 hcv g3 t3
            go_wp2_with fail
            go_roundw
            case rel => exact ⟨i + 1, q5, c5, _, hlt, by first | rfl | simp, by first | rfl | simp, Lib.hid ⟨HRS.out, HG5.out⟩⟩
            case measure => simp [intOf]; omega
          | [y, z], HUS, HYB, HRD =>
            obtain ⟨b3, o3, cs3, T3, fr3, qa, ca, qb, cb, rfl, g3, ⟨s3, c3'⟩, ⟨s4, c4'⟩, Sy, Sz⟩ := sly_two HUS.out HM3.out
            have HSZ := Lib.hid Sz
            have t3 := World.at_lt g3
            have hcv := conv47 Sy
            have hrd : rdChg x = if 1 ≤ y.length ∧ y.length ≤ 32 ∧ z.length ≤ 4000 then some ⟨y, false, z⟩ else none := HRD.out
            obtain ⟨m3, hm3⟩ : ∃ m3, m3 = y.length := ⟨_, rfl⟩
            rw [← hm3] at hcv hrd c3'
            obtain ⟨m4, hm4⟩ : ∃ m4, m4 = z.length := ⟨_, rfl⟩
            rw [← hm4] at hrd c4'
            have HM4 := Lib.hid hm4
            have HM := Lib.hid hm3
            have HRC := Lib.hid hrd
            clear Sy Sz hrd hm3 hm4
            by_cases h1 : m3 < 1
            · have d1 : decide ((m3 : Int) < 1) = true := by rw [decide_eq_true_eq]; omega
              have HRN := Lib.hid (HBAD.out (by rw [HRC.out, if_neg (by omega)]))
              clear hcv
              go_wp2_with fail
              refine bodyPost_ret (results_tmp2 rfl _ _ _) rfl ?_
              rw [HRN.out]
              exact ⟨rfl, HF.out⟩
            have d1 : decide ((m3 : Int) < 1) = false := by rw [decide_eq_false_iff_not]; omega
            by_cases h2 : 32 < m3
            · have d2 : decide ((32 : Int) < (m3 : Int)) = true := by rw [decide_eq_true_eq]; omega
              have HRN := Lib.hid (HBAD.out (by rw [HRC.out, if_neg (by omega)]))
              clear hcv
              go_wp2_with fail
              refine bodyPost_ret (results_tmp2 rfl _ _ _) rfl ?_
              rw [HRN.out]
              exact ⟨rfl, HF.out⟩
            have d2 : decide ((32 : Int) < (m3 : Int)) = false := by rw [decide_eq_false_iff_not]; omega
            by_cases h3 : 4000 < m4
            · have d3 : decide ((4000 : Int) < (m4 : Int)) = true := by rw [decide_eq_true_eq]; omega
              have HRN := Lib.hid (HBAD.out (by rw [HRC.out, if_neg (by omega)]))
              have HF2 := Lib.hid (fun (o : Obj) => HF.out.alloc o)
              go_wp2_with fail
              refine bodyPost_ret (results_tmp2 rfl _ _ _) rfl ?_
              rw [HRN.out]
              exact ⟨rfl, HF2.out _⟩
            have d3 : decide ((4000 : Int) < (m4 : Int)) = false := by rw [decide_eq_false_iff_not]; omega
            have HRS := Lib.hid (show rdChgs (ls.take (i + 1)) = some (l ++ [⟨y, false, z⟩]) by
              rw [List.take_add_one, HX.out]
              show rdChgs (ls.take i ++ [x]) = _
              rw [rdChgs_snoc, HRI.out, HRC.out, if_pos (by omega)]
              rfl)
            clear h1 h2 h3
            go_wp2_with (refine wpList_app33 (y := ⟨y, false, z⟩)  rfl _ _ rfl rfl rfl (HG3.out.call (((Fr.refl [] w2).alloc _).alloc _)) (by rw [HM4.out]; exact HSZ.out) (World.at_alloc_new _ _ _ (by simp)) (by omega) ?_)
            intro q5 c5 W5 G5
            have HG5 := Lib.hid G5
            clear G5 HG3 hcv g3 t3
            go_wp2_with fail
            go_roundw
            case rel => exact ⟨i + 1, q5, c5, _, hlt, by first | rfl | simp, by first | rfl | simp, Lib.hid ⟨HRS.out, HG5.out⟩⟩
            case measure => simp [intOf]; omega
      · obtain rfl : i = N := by omega
        have hd : decide ((i : Int) < (i : Int)) = false := by simp
        have htk : ls.take i = ls := List.take_of_length_le (by rw [← HN.out]; exact Nat.le_refl _)
        rw [htk] at hW
        have hll : l.length = i := hW.out.2.chs.len
        go_wp2_with fail
        refine bodyPost_ret (results_tmp2 rfl _ _ _) rfl ?_
        rw [HRL.out, hW.out.1]
        exact ⟨q, cp, by rw [hll]; rfl, by rw [hll]; exact hW.out.2.chs, HF1.out.trans hW.out.2.own.fr⟩
end
end Go.Proofs.Ytombhkekocbfoaa
namespace Go.Proofs.Ytombhkekocbfoaa
open Go.RowKit Go.Dr Go.Kd Go.St
theorem bytesAt_sl {w : World} {bb off n cap : Nat} {l : Bs} (S : Sl .u8 w (some ⟨bb, off, none⟩) n cap l) (h : 0 < n) : BytesAt w (.slice (some ⟨bb, off, none⟩) n cap) bb l := by
  obtain ⟨b, o, cs, T, fr, e, fc, hs, hx⟩ := S.out h
  cases e
  have hl := S.len
  subst hl
  exact ⟨off, fr, cap, cs, T, rfl, fc, hs, S.cap_, by apply Array.ext'; rw [hx, toList_ints]⟩
theorem BytesAt.sl {w : World} {bb : Nat} {v : Value} {l : Bs} (B : BytesAt w v bb l) : ∃ q c, v = .slice q l.length c ∧ Sl .u8 w q l.length c l := by
  obtain ⟨off, fr, cap, cs, T, rfl, fc, hs, hc, hx⟩ := B
  exact ⟨_, _, rfl, Sl.of fc hs (by rw [hx, toList_ints]) hc⟩
/-- A store's cells. -/
def stC (d hs half e c f mb : Nat) (br : Bool) : Array Value := #[.pointer (some ⟨d, 0, none⟩), .int .i64 hs, .int .i64 half, .int .u64 e, .int .u32 c, .int .u32 f, .map (some mb), .bool br]
theorem diskAt_drew {w : World} {d : Nat} {m : DM} {fp : List Nat} (D : DiskAt w d m fp) : DiskAt w.drew d m fp := by
  obtain ⟨kb, sb, p, cap, D, e, ok⟩ := D
  exact ⟨kb, sb, p, cap, ⟨D.hd, D.hk, D.hs, D.hw, D.ne1, D.ne2, D.ne3, D.nw⟩, e, ok⟩
theorem wrM_drop {m : DM} {pos i : Nat} {bs : List Bs} {x : Bs} {M : DM} {k : Nat} (h : wrM m pos bs = wrM M k (bs.drop i)) (hx : bs[i]? = some x) :
    wrM m pos bs = if (writeM M k x).1 = 0 then wrM (writeM M k x).2 (k + 1) (bs.drop (i + 1)) else (false, (writeM M k x).2) := by
  obtain ⟨hi, he⟩ := List.getElem?_eq_some_iff.1 hx
  rw [h, List.drop_eq_getElem_cons hi, wrM, he]
theorem chunks_at {b : Bs} {k i : Nat} (h : b.length = 64 * k) (hi : i < k) : (chunks b)[i]? = some ((b.take (64 * i + 64)).drop (64 * i)) := by
  rw [chunks, List.getElem?_map, List.getElem?_range (by omega), Option.map_some, List.drop_take, show 64 * i + 64 - 64 * i = 64 by omega]
theorem writeM_n (m : DM) (a : Int) (b : Bs) : (writeM m a b).2.n = m.n := by
  unfold writeM
  have := (aliveM_same m).1
  split
  · rfl
  · split <;> exact this
theorem writeM_wl (m : DM) (a : Int) (b : Bs) : (writeM m a b).2.waits.length ≤ m.waits.length + 1 := by
  unfold writeM
  have := (aliveM_same m).2.2.2
  split
  · show m.waits.length ≤ _; omega
  · split
    · simp
    · show (aliveM m).waits.length ≤ _; rw [this]; omega
theorem writeM_err {m : DM} {a : Nat} {b : Bs} (h : a < m.n) (hb : b.length = 64) : (writeM m a b).1 = 0 ∨ (writeM m a b).1 = 150 := by
  unfold writeM
  rw [show argM m a b = false by simp [argM, hb]; omega]
  simp only [Bool.false_eq_true, if_false]
  split
  · exact .inl rfl
  · exact .inr rfl
theorem syncM_err (m : DM) : (syncM m).1 = 0 ∨ (syncM m).1 = 150 := by
  unfold syncM
  split
  · exact .inl rfl
  · exact .inr rfl
/-- write's answer. -/
def PutE (y : Bool) (E : Int) : Prop := match y with
  | true => E = 0
  | false => E = 150
section
variable {w : World}
set_option maxRecDepth 100000 in
set_option maxHeartbeats 8000000 in
theorem write_f {s d hs half e c f mb at_ pos k : Nat} {br : Bool} {fr : Nat × Nat} {m : DM} {fp : List Nat} (hst : w.blk s = some (.cells (stC d hs half e c f mb br) 75 fr)) (hsf : s ∉ fp) (D : DiskAt w d m fp)
    {p : Option Addr} {n cap h2 : Nat} {b : Bs} (S : Sl .u8 w p n cap b) (hpf : ∀ g, p.map (·.block) = some g → g ∉ fp) (hn : n = 64 * k) (hk : k ≤ 4096) (hpos : h2 * hs + at_ = pos) (hp : pos + k ≤ m.n) (hsb : hs ≤ 4096) (hhb : h2 ≤ 1) (hab : at_ ≤ 4096) (hwl : m.waits.length + k ≤ 1000000) :
    Calls Try.prog 33 #[.pointer (some ⟨s, 0, none⟩), .int .i64 (h2 : Int), .int .i64 (at_ : Int), .slice p n cap] w fun en w' => ∃ E : Int, en = .returned (.int .i64 E) ∧ PutE (putM m pos b).1 E ∧ ∃ fp', DiskAt w' d (putM m pos b).2 fp' ∧ Fr fp w w' ∧ News w fp fp' := by
  subst hn
  have HST := Lib.hid hst
  have HSF := Lib.hid hsf
  have HS := Lib.hid S
  have HP := Lib.hid hpf
  have HL := Lib.hid S.len
  have hN : m.n ≤ 4096 := by obtain ⟨_, _, _, _, _, _, ok⟩ := D; exact ok.n2
  obtain ⟨SC, hSC⟩ : ∃ SC, SC = stC d hs half e c f mb br := ⟨_, rfl⟩
  have z := congrArg Array.size hSC
  simp only [stC] at z
  rw [← hSC] at hst
  have szC : SC.size = 8 := by rw [hSC]; rfl
  have x0 := Array.getElem?_eq_some_iff.1 (show SC[0]? = some (.pointer (some ⟨d, 0, none⟩)) by rw [hSC]; rfl)
  have x1 := Array.getElem?_eq_some_iff.1 (show SC[1]? = some (.int .i64 hs) by rw [hSC]; rfl)
  obtain ⟨x0', x0⟩ := x0
  obtain ⟨x1', x1⟩ := x1
  have HSS := Lib.hid hst
  have HSZ := Lib.hid z
  clear hst hsf S hpf hSC HST z
  have HD := Lib.hid (show ∃ mi fpi, wrM m pos (chunks b) = wrM mi (pos + 0) ((chunks b).drop 0) ∧ DiskAt w d mi fpi ∧ Fr fp w w ∧ News w fp fpi ∧ mi.n = m.n ∧ mi.waits.length ≤ m.waits.length + 0 from ⟨m, fp, rfl, D, Fr.refl _ _, fun k hk => .inl hk, rfl, Nat.le_refl _⟩)
  clear D
  go_enter Try.func33, Try.ntmps33
  go_wp2_with fail
  go_loopw [9] (fun iv wy => ∃ i : Nat, i ≤ k ∧ iv = .int .i64 ((64 * i : Nat) : Int) ∧ Hid (∃ mi fpi, wrM m pos (chunks b) = wrM mi (pos + i) ((chunks b).drop i) ∧ DiskAt wy d mi fpi ∧ Fr fp w wy ∧ News w fp fpi ∧ mi.n = m.n ∧ mi.waits.length ≤ m.waits.length + i)) (fun iv _ => (64 * k - intOf iv).toNat)
  case atStart => exact ⟨0, by omega, rfl, HD.out⟩
  case round =>
    obtain ⟨i, hin, rfl, hW⟩ := hrel
    obtain ⟨j, hj⟩ : ∃ j, j = 64 * i := ⟨_, rfl⟩
    rw [← hj]
    by_cases hlt : i < k
    · have hd : decide ((j : Int) < ((64 * k : Nat) : Int)) = true := by rw [decide_eq_true_eq]; omega
      obtain ⟨mi, fpi, e1, D1, F1, N1, n1, l1⟩ := hW.out
      have f1 := F1.get HSS.out HSF.out
      have t1 := World.at_lt f1
      obtain ⟨bb, off, cs, TT, fr2, rfl, fc0, hs2, hx⟩ := HS.out.out (by omega)
      have hcap := HS.out.cap_
      have q0 : (0 : Int) ≤ 64 * (i : Int) := by omega
      have q1 : 64 * (i : Int) + 64 ≤ (cap : Int) := by omega
      have q2 : 64 * (i : Int) ≤ 64 * (i : Int) + 64 := by omega
      have q3 : ¬ cap = 64 * i := by omega
      have q4 : (64 * (i : Int) + 64).toNat = 64 * i + 64 := by omega
      clear fc0 hs2 hx hcap
      have HE := Lib.hid e1
      have HD1 := Lib.hid D1
      have HF1 := Lib.hid F1
      have HN1 := Lib.hid N1
      clear hW e1 D1 F1 N1
      go_upto_region 4 with (fail)
      refine drawn_begin 21 (fun w' => w'.blk s = some (.cells SC 75 fr)) (by kernel_rfl) ?_
      refine drawn_reads (fuel := 2) [0, 1, 2, 3, 4, 5, 6, 7, 8, 9, 10, 11, 12, 13, 14, 15, 16, 17, 18, 19] rfl (by kernel_rfl) f1 ?_
      repeat (first | (refine rowK_step2 rfl rfl (fun K hK => ?_); go_wp2) | (refine rowK_step rfl (fun K hK => ?_); go_simp; refine hK _ ?_; clear hK K))
      refine rowK_nil ⟨fun w' e1 => ?_, ?_⟩
      · clear f1 t1
        have t1 := World.at_lt e1
        repeat (first | (refine rowWp_step2 rfl rfl (fun K hK => ?_); go_wp2) | (refine rowWp_step rfl (fun K hK => ?_); go_simp; refine hK _ ?_; clear hK K))
        exact rowWp_nil rfl
      refine drawn_next 20 (fuel := 1) rfl (by kernel_rfl) ?_
      intro K hK
      go_wp2_with fail
      have hpi : ((h2 : Int) * hs + at_ + i) = ((pos + i : Nat) : Int) := by subst hpos; push_cast; rfl
      rw [hpi]
      obtain ⟨x, hx⟩ : ∃ x, x = (b.take (64 * i + 64)).drop (64 * i) := ⟨_, rfl⟩
      have hxi : (chunks b)[i]? = some x := by rw [hx]; exact chunks_at (k := k) (by rw [HL.out]) hlt
      have hbf : bb ∉ fp := HP.out bb rfl
      obtain ⟨bx, ox, csx, Tx, frx, ex, fcx, -, -⟩ := HS.out.out (by omega)
      cases ex
      have hbl := World.at_lt fcx
      have hbn : bb ∉ fpi := fun h => by rcases HN1.out bb h with h | h; exact hbf h; omega
      have Sx : Sl .u8 wr (some ⟨bb, off + 64 * i, none⟩) 64 (cap - 64 * i) x := by
        have h := (sl_fr HS.out HF1.out fun g hg => HP.out g hg).part (i := 64 * i) (j := 64 * i + 64) (c := cap) (by omega) (by omega) (by omega) (Nat.le_refl _)
        rw [hx]
        rw [if_neg q3, show 64 * i + 64 - 64 * i = 64 by omega] at h
        simpa [Addr.add_mid] using h
      have hx64 : x.length = 64 := Sx.len
      have hstep := wrM_drop HE.out hxi
      have herr := writeM_err (m := mi) (a := pos + i) (b := x) (by omega) hx64
      have hn2 := writeM_n mi ((pos + i : Nat) : Int) x
      have hl2 := writeM_wl mi ((pos + i : Nat) : Int) x
      refine (write_any (diskAt_drew HD1.out) ((pos + i : Nat) : Int) _ bb x (bytesAt_sl (Sx.fr0 (Fr.refl [] wr).drew) (by omega)) hbn (by omega) (by omega)).mono ?_
      rintro en w2 ⟨rfl, fp2, D2, F2, N2⟩
      obtain ⟨W, hW⟩ : ∃ W, W = writeM mi ((pos + i : Nat) : Int) x := ⟨_, rfl⟩
      rw [← hW] at D2 hstep herr hn2 hl2 ⊢
      have F3 : Fr fp w w2 := HF1.out.seq ((Fr.refl fpi wr).drew.trans F2) (fun k hk hl => by rcases HN1.out k hk with h | h; exact h; omega)
      have N3 : News w fp fp2 := fun k hk => by
        rcases N2 k hk with h | h
        · exact HN1.out k h
        · exact .inr (Nat.le_trans HF1.out.size h)
      have f2 := F3.get HSS.out HSF.out
      have HD2 := Lib.hid D2
      have HF3 := Lib.hid F3
      have HN3 := Lib.hid N3
      have HST := Lib.hid hstep
      have HN2 := Lib.hid hn2
      have HL2 := Lib.hid hl2
      obtain ⟨E, hE⟩ : ∃ E, E = W.1 := ⟨_, rfl⟩
      rw [← hE] at herr ⊢
      have HEE := Lib.hid hE
      clear hpi hx hxi hbf fcx hbl hbn Sx hx64 hstep hn2 hl2 D2 F2 N2 F3 N3 hW hE f1 t1 HD1 HF1 HN1
      have t2 := World.at_lt f2
      go_wp2_with fail
      refine ⟨f2, ?_⟩
      refine drawn_end rfl (by kernel_rfl) ?_
      intro K hK
      rcases herr with rfl | rfl
      · go_wp2_with fail
        go_roundw
        case rel =>
          exact ⟨i + 1, hlt, by first | rfl | (congr 1; push_cast; omega) | simp, Lib.hid ⟨W.2, fp2, by rw [HST.out, ← HEE.out, if_pos rfl, Nat.add_assoc], HD2.out, HF3.out, HN3.out, by rw [HN2.out, n1], by have := HL2.out; omega⟩⟩
        case measure => simp [intOf]; omega
      · go_wp2_with fail
        refine bodyPost_ret (results_tmp rfl _ _ _) rfl ?_
        have hput : putM m pos b = (false, W.2) := by
          have h : wrM m pos (chunks b) = (false, W.2) := by rw [HST.out, ← HEE.out]; rfl
          rw [putM, h, if_neg (by simp)]
        rw [hput]
        exact ⟨150, rfl, rfl, fp2, HD2.out, HF3.out, HN3.out⟩
    · obtain rfl : i = k := by omega
      have hd : decide ((j : Int) < ((64 * i : Nat) : Int)) = false := by rw [decide_eq_false_iff_not]; omega
      obtain ⟨mi, fpi, e1, D1, F1, N1, n1, l1⟩ := hW.out
      have f1 := F1.get HSS.out HSF.out
      have t1 := World.at_lt f1
      have e2 : wrM m pos (chunks b) = (true, mi) := by rw [e1, List.drop_of_length_le (by rw [chunks_length, HL.out]; omega)]; rfl
      have hput : putM m pos b = ((syncM mi).1 == 0, (syncM mi).2) := by rw [putM, e2, if_pos rfl]
      have HPU := Lib.hid hput
      have HD1 := Lib.hid D1
      have HF1 := Lib.hid F1
      have HN1 := Lib.hid N1
      have hse := syncM_err mi
      have HSE := Lib.hid hse
      clear hW e1 D1 F1 N1 e2 hput hse
      go_wp2_with fail
      refine (sync_any HD1.out (by omega)).mono ?_
      rintro en w2 ⟨rfl, fp2, D2, F2, N2⟩
      go_wp2_with fail
      refine bodyPost_ret (results_tmp rfl _ _ _) rfl ?_
      rw [HPU.out]
      refine ⟨_, rfl, by rcases HSE.out with h | h <;> rw [h] <;> rfl, fp2, D2, HF1.out.seq F2 (fun k hk hl => by rcases HN1.out k hk with h | h; exact h; omega), fun k hk => by
        rcases N2 k hk with h | h
        · exact HN1.out k h
        · exact .inr (Nat.le_trans HF1.out.size h)⟩
end
end Go.Proofs.Ytombhkekocbfoaa
namespace Go.St
open Go.Kd Go.Dr
/-- What a name says. -/
def getL (n : Bs) (L : List (Bs × Bs)) : Option Bs := (L.find? fun x => decide (x.1 = n)).map (·.2)
theorem getL_none {n : Bs} {L : List (Bs × Bs)} (h : ∀ x ∈ L, x.1 ≠ n) : getL n L = none := by
  unfold getL
  rw [List.find?_eq_none.2 fun x hx => by simpa using h x hx]
  rfl
theorem getL_some : ∀ {L : List (Bs × Bs)} {x : Bs × Bs}, Sorted L → x ∈ L → getL x.1 L = some x.2 := by
  intro L
  induction L with
  | nil => intro x _ h; cases h
  | cons y L ih =>
    intro x hs hx
    have h2 := List.pairwise_cons.1 hs
    unfold getL
    rw [List.find?_cons]
    rcases List.mem_cons.1 hx with rfl | hx
    · simp
    · have hne : ¬ y.1 = x.1 := fun e => by
        have h3 := h2.1 x hx
        rw [e] at h3
        exact bs_irrefl _ h3
      simp only [hne, decide_false]
      exact ih h2.2 hx
end Go.St
namespace Go.Proofs.Ytombhkekocbfoaa
open Go.RowKit Go.Dr Go.Kd Go.St
theorem MapAt.look {w : World} {b : Nat} {L : List (Bs × Bs)} {fp : List Nat} (h : MapAt w b L fp) (hs : Sorted L) (hb : ∀ x ∈ L, Byt x.1) {n : Bs} (hn : Byt n) :
    ∃ q m d, (Instr.lookup 70 (.map (some b)) (.string (strB n)) true).run Try.prog w = .ok (.tuple #[.slice q m d, .bool (getL n L).isSome]) w ∧ (Instr.lookup 70 (.map (some b)) (.string (strB n)) false).run Try.prog w = .ok (.slice q m d) w ∧ Sl .u8 w q m d ((getL n L).getD []) := by
  obtain ⟨-, kvs, g, hm, hr, hv⟩ := h
  have hl := fun ok => hm.s.look (P := Try.prog) (z := .slice none 0 0) Try.underlying70 Try.underlying9 (by kernel_rfl) (strB n) ok
  cases hf : findS (strB n) kvs 0 with
  | none =>
    have h1 := getL_none ((rep_none hr hb hn).1 hf)
    refine ⟨none, 0, 0, ?_, ?_, ?_⟩
    · rw [hl true, hf, h1]; rfl
    · rw [hl false, hf]; rfl
    · rw [h1]; exact sl_nil w
  | some z =>
    obtain ⟨j, a⟩ := z
    obtain ⟨-, hj⟩ := findS_some hf
    obtain ⟨x, hx, hxe⟩ := List.mem_map.1 (hr.perm.mem_iff.1 (List.mem_of_getElem? hj))
    simp only [Prod.mk.injEq] at hxe
    have hxn : x.1 = n := strB_inj (hb x hx) hn hxe.1
    obtain ⟨q, m, d, h3, h4, -⟩ := hv x hx
    have h5 : a = .slice q m d := by rw [← hxe.2, h3]
    have h6 := getL_some hs hx
    rw [hxn] at h6
    refine ⟨q, m, d, ?_, ?_, ?_⟩
    · rw [hl true, hf, h6, h5]; rfl
    · rw [hl false, hf, h5]; rfl
    · rw [h6]; exact h4
/-- A store, as it lies. -/
structure StAt (w : World) (s d : Nat) (sp : SP) (m : DM) (fp : List Nat) : Prop where
  ex : ∃ mb, w.blk s = some (.cells (stC d (m.n / 2) sp.half sp.epoch sp.count sp.fin mb sp.broken) 75 (0, 0)) ∧ s ∉ fp ∧ DiskAt w d m fp ∧ MapAt w mb sp.L fp
section
variable {w : World}
set_option maxRecDepth 100000 in
set_option maxHeartbeats 2000000 in
theorem epoch_f {s d : Nat} {sp : SP} {m : DM} {fp : List Nat} (T : StAt w s d sp m fp) : Calls Try.prog 24 #[.pointer (some ⟨s, 0, none⟩)] w fun en w' => en = .returned (.int .u64 (sp.epoch : Int)) ∧ w' = w := by
  obtain ⟨mb, f0, -⟩ := T.ex
  unfold stC at f0
  have t0 := World.at_lt f0
  clear T
  go_enter Try.func24, Try.ntmps24
  go_wp2_with fail
  exact bodyPost_ret (results_tmp rfl _ _ _) rfl ⟨rfl, rfl⟩
set_option maxRecDepth 100000 in
set_option maxHeartbeats 2000000 in
theorem get_sf {s d : Nat} {sp : SP} {m : DM} {fp : List Nat} (T : StAt w s d sp m fp) (hs : Sorted sp.L) (hb : ∀ x ∈ sp.L, Byt x.1) (h4 : ∀ x ∈ sp.L, x.2.length ≤ 4000) {n : Bs} (hn : Byt n) :
    Calls Try.prog 12 #[.pointer (some ⟨s, 0, none⟩), .string (strB n)] w fun en w' => ∃ q m c, en = .returned (.tuple #[.slice q m c, .bool (getL n sp.L).isSome]) ∧ Bld w [] .u8 5 w' q m c ((getL n sp.L).getD []) := by
  obtain ⟨mb, f0, -, -, M⟩ := T.ex
  unfold stC at f0
  have t0 := World.at_lt f0
  obtain ⟨q, m1, c, hl, -, S⟩ := M.look hs hb hn
  have hlen : m1 ≤ 4000 := by
    rw [← S.len]
    cases hg : getL n sp.L with
    | none => simp
    | some v =>
      unfold getL at hg
      cases hf : sp.L.find? (fun x => decide (x.1 = n)) with
      | none => rw [hf] at hg; cases hg
      | some x =>
        rw [hf] at hg
        cases hg
        exact h4 x (List.mem_of_find?_eq_some hf)
  have HS := Lib.hid S
  obtain ⟨g, hg⟩ : ∃ g, g = getL n sp.L := ⟨_, rfl⟩
  rw [← hg] at hl HS ⊢
  obtain ⟨X, hX⟩ : ∃ X, X = strB n := ⟨_, rfl⟩
  rw [← hX] at hl ⊢
  clear T M S hg hX hs hb h4
  go_enter Try.func12, Try.ntmps12
  go_wp2_with fail
  refine (clone_f HS.out (by omega)).mono ?_
  rintro en w2 ⟨q2, c2, rfl, B⟩
  have HB := Lib.hid B
  clear B
  go_wp2_with fail
  exact bodyPost_ret (results_tmp2 rfl _ _ _) rfl ⟨_, _, _, rfl, HB.out⟩
end
end Go.Proofs.Ytombhkekocbfoaa
namespace Go.Proofs
open Go.RowKit Go.Maps Go.Sort Go.Shelf
def Try.keys60_ren : Go.Shelf.Ren := ⟨fun | 7 => 60 | 10 => 72 | n => n, fun | 23 => 70 | 26 => 9 | 3 => 22 | 28 => 115 | 0 => 0 | 27 => 114 | 33 => 128 | 4 => 4 | n => n, fun | n => n⟩
theorem Try.keys60 : Go.Proofs.SlLaysZ.n7 Try.prog Try.keys60_ren := {
  mixed := by kernel_rfl
  f7 := ⟨Try.f60.name, by decide, Try.func60.trans (congrArg some (by kernel_rfl))⟩
  f10 := ⟨Try.f72.name, by decide, Try.func72.trans (congrArg some (by kernel_rfl))⟩
  t0 := Try.underlying0
  a0 := Try.isAgg0
  z0 := Try.sizeOf0
  v0 := Try.zeroValue0
  t4 := Try.underlying4
  a4 := Try.isAgg4
  z4 := Try.sizeOf4
  v4 := Try.zeroValue4
  t23 := Try.underlying70
  a23 := Try.isAgg70
  z23 := Try.sizeOf70
  v23 := Try.zeroValue70
  t26 := Try.underlying9
  a26 := Try.isAgg9
  z26 := Try.sizeOf9
  v26 := Try.zeroValue9
  t27 := Try.underlying114
  a27 := Try.isAgg114
  z27 := Try.sizeOf114
  v27 := Try.zeroValue114
  t28 := Try.underlying115
  a28 := Try.isAgg115
  z28 := Try.sizeOf115
  v28 := Try.zeroValue115
  t33 := Try.underlying128
  a33 := Try.isAgg128
  z33 := Try.sizeOf128
  v33 := Try.zeroValue128 }
def Try.sorted59_ren : Go.Shelf.Ren := ⟨fun | 6 => 59 | 8 => 70 | 9 => 71 | 11 => 75 | 13 => 77 | 12 => 76 | 23 => 87 | 24 => 88 | 14 => 78 | 15 => 79 | 16 => 80 | 17 => 81 | 18 => 82 | 19 => 83 | 20 => 84 | 21 => 85 | 22 => 86 | 25 => 89 | 26 => 90 | 27 => 91 | 28 => 92 | 29 => 93 | 30 => 94 | 31 => 95 | n => n, fun | 26 => 9 | 28 => 115 | 24 => 112 | 0 => 0 | 3 => 3 | 37 => 67 | 48 => 71 | 50 => 54 | 4 => 4 | 40 => 135 | 39 => 134 | 45 => 140 | 5 => 5 | 9 => 9 | 51 => 144 | 55 => 147 | 57 => 149 | 58 => 150 | 33 => 128 | n => n, fun | n => n⟩
theorem Try.sorted59 : Go.Proofs.SlLaysZ.n6 Try.prog Try.sorted59_ren := {
  mixed := by kernel_rfl
  f6 := ⟨Try.f59.name, by decide, Try.func59.trans (congrArg some (by kernel_rfl))⟩
  f8 := ⟨Try.f70.name, by decide, Try.func70.trans (congrArg some (by kernel_rfl))⟩
  f11 := ⟨Try.f75.name, by decide, Try.func75.trans (congrArg some (by kernel_rfl))⟩
  t0 := Try.underlying0
  a0 := Try.isAgg0
  z0 := Try.sizeOf0
  v0 := Try.zeroValue0
  t24 := Try.underlying112
  a24 := Try.isAgg112
  z24 := Try.sizeOf112
  v24 := Try.zeroValue112
  t26 := Try.underlying9
  a26 := Try.isAgg9
  z26 := Try.sizeOf9
  v26 := Try.zeroValue9
  t28 := Try.underlying115
  a28 := Try.isAgg115
  z28 := Try.sizeOf115
  v28 := Try.zeroValue115
  i26 := by kernel_rfl }
def Try.sort71_ren : Go.Shelf.Ren := ⟨fun | 6 => 71 | 8 => 77 | 9 => 76 | 19 => 87 | 20 => 88 | 21 => 78 | 22 => 79 | 23 => 80 | 24 => 81 | 25 => 82 | 26 => 83 | 27 => 84 | 28 => 85 | 29 => 86 | 36 => 89 | 31 => 90 | 32 => 91 | 37 => 92 | 38 => 93 | 39 => 94 | 41 => 95 | n => n, fun | 27 => 112 | 29 => 9 | 3 => 3 | 32 => 67 | 26 => 112 | 0 => 0 | 44 => 71 | 46 => 54 | 4 => 4 | 36 => 135 | 35 => 134 | 41 => 140 | 5 => 5 | 9 => 9 | 53 => 144 | 57 => 147 | 63 => 149 | 64 => 150 | n => n, fun | n => n⟩
theorem Try.sort71 : Go.Proofs.SlLaysM.n6 Try.prog Try.sort71_ren := {
  mixed := by kernel_rfl
  f6 := ⟨Try.f71.name, by decide, Try.func71.trans (congrArg some (by kernel_rfl))⟩
  f8 := Try.func77.trans (congrArg some (by kernel_rfl))
  f9 := ⟨Try.f76.name, by decide, Try.func76.trans (congrArg some (by kernel_rfl))⟩
  f19 := Try.func87.trans (congrArg some (by kernel_rfl))
  f20 := Try.func88.trans (congrArg some (by kernel_rfl))
  f21 := ⟨Try.f78.name, by decide, Try.func78.trans (congrArg some (by kernel_rfl))⟩
  f22 := ⟨Try.f79.name, by decide, Try.func79.trans (congrArg some (by kernel_rfl))⟩
  f23 := ⟨Try.f80.name, by decide, Try.func80.trans (congrArg some (by kernel_rfl))⟩
  f24 := ⟨Try.f81.name, by decide, Try.func81.trans (congrArg some (by kernel_rfl))⟩
  f25 := ⟨Try.f82.name, by decide, Try.func82.trans (congrArg some (by kernel_rfl))⟩
  f26 := ⟨Try.f83.name, by decide, Try.func83.trans (congrArg some (by kernel_rfl))⟩
  f27 := ⟨Try.f84.name, by decide, Try.func84.trans (congrArg some (by kernel_rfl))⟩
  f28 := ⟨Try.f85.name, by decide, Try.func85.trans (congrArg some (by kernel_rfl))⟩
  f29 := ⟨Try.f86.name, by decide, Try.func86.trans (congrArg some (by kernel_rfl))⟩
  f31 := Try.func90.trans (congrArg some (by kernel_rfl))
  f32 := Try.func91.trans (congrArg some (by kernel_rfl))
  f36 := ⟨Try.f89.name, by decide, Try.func89.trans (congrArg some (by kernel_rfl))⟩
  f37 := ⟨Try.f92.name, by decide, Try.func92.trans (congrArg some (by kernel_rfl))⟩
  f38 := ⟨Try.f93.name, by decide, Try.func93.trans (congrArg some (by kernel_rfl))⟩
  f39 := ⟨Try.f94.name, by decide, Try.func94.trans (congrArg some (by kernel_rfl))⟩
  f41 := ⟨Try.f95.name, by decide, Try.func95.trans (congrArg some (by kernel_rfl))⟩
  t0 := Try.underlying0
  a0 := Try.isAgg0
  z0 := Try.sizeOf0
  v0 := Try.zeroValue0
  t3 := Try.underlying3
  a3 := Try.isAgg3
  z3 := Try.sizeOf3
  v3 := Try.zeroValue3
  t4 := Try.underlying4
  a4 := Try.isAgg4
  z4 := Try.sizeOf4
  v4 := Try.zeroValue4
  t5 := Try.underlying5
  a5 := Try.isAgg5
  z5 := Try.sizeOf5
  v5 := Try.zeroValue5
  t9 := Try.underlying9
  a9 := Try.isAgg9
  z9 := Try.sizeOf9
  v9 := Try.zeroValue9
  t26 := Try.underlying112
  a26 := Try.isAgg112
  z26 := Try.sizeOf112
  v26 := Try.zeroValue112
  t27 := Try.underlying112
  a27 := Try.isAgg112
  z27 := Try.sizeOf112
  v27 := Try.zeroValue112
  t29 := Try.underlying9
  a29 := Try.isAgg9
  z29 := Try.sizeOf9
  v29 := Try.zeroValue9
  t32 := Try.underlying67
  a32 := Try.isAgg67
  z32 := Try.sizeOf67
  v32 := Try.zeroValue67
  t35 := Try.underlying134
  a35 := Try.isAgg134
  z35 := Try.sizeOf134
  v35 := Try.zeroValue134
  t36 := Try.underlying135
  a36 := Try.isAgg135
  z36 := Try.sizeOf135
  v36 := Try.zeroValue135
  t41 := Try.underlying140
  a41 := Try.isAgg140
  z41 := Try.sizeOf140
  v41 := Try.zeroValue140
  t44 := Try.underlying71
  a44 := Try.isAgg71
  z44 := Try.sizeOf71
  v44 := Try.zeroValue71
  t46 := Try.underlying54
  a46 := Try.isAgg54
  z46 := Try.sizeOf54
  v46 := Try.zeroValue54
  t53 := Try.underlying144
  a53 := Try.isAgg144
  z53 := Try.sizeOf144
  v53 := Try.zeroValue144
  t57 := Try.underlying147
  a57 := Try.isAgg147
  z57 := Try.sizeOf147
  v57 := Try.zeroValue147
  t63 := Try.underlying149
  a63 := Try.isAgg149
  z63 := Try.sizeOf149
  v63 := Try.zeroValue149
  t64 := Try.underlying150
  a64 := Try.isAgg150
  z64 := Try.sizeOf150
  v64 := Try.zeroValue150 }
/-- slices.Sort's two contracts at this dump, at the fence that asks nothing. -/
theorem Try.sorts59 (m : Nat) : AnyZ.SortsIn Try.prog Try.sorted59_ren Fence.wide m :=
  ⟨fun blk off cap ss W hH hblk hsz => callsIn_wide.2 (AnyM.slices_Sort_string Try.sort71 blk off cap ss W hH hblk hsz),
   fun p cap W => callsIn_wide.2 (AnyM.slices_Sort_string_none Try.sort71 p cap W)⟩

/-- **maps.Keys[map[string][]byte,string,[]byte], at whatever map, the nil one too:** a function value over ONE NEW BLOCK, which holds the map. -/
theorem Try.maps_Keys_60 (mb : Option Nat) (W : World) : CallsIn Fence.wide 5 Try.prog 60 #[.map mb] W fun e w' => e = .returned (.func (.func 72) #[] #[.pointer (some ⟨W.heap.size, 0, none⟩)]) ∧ w' = W.alloc (.cells #[.map mb] 70) :=
  AnyZ.keys_in Try.keys60 Fence.wide 5 trivial rfl mb W

set_option maxHeartbeats 1000000 in
/-- **slices.Sorted[string] AT WHAT maps.Keys[map[string][]byte,string,[]byte] HANDED BACK FOR A MAP THAT IS NOT nil** ('w': the world AHEAD of maps.Keys' call): A NEW SLICE THAT HOLDS THE MAP's KEYS, SORTED; nil just where it has none; nothing that lay before has turned. -/
theorem Try.slices_Sorted_keys_59_60 {H : Type} (b nn : Nat) (D0 : DataW H) (R : Value → Option (DataW H × List MemPlace)) (w : World) (hown : w.ownsMap Try.prog 9 R b nn D0) (hmax : Maps.size D0 ≤ maxLen) (hbytes : Maps.size D0 * 16 ≤ 140737488355328) :
    CallsIn Fence.wide 5 Try.prog 59 #[.func (.func 72) #[] #[.pointer (some ⟨w.heap.size, 0, none⟩)]] (w.alloc (.cells #[.map (some b)] 70)) fun e w' => ∃ (v : Value) (ss : List (List UInt8)), e = .returned v ∧ ss.Perm (strKeys D0) ∧
      w'.ownsRow (w.alloc (.cells #[.map (some b)] 70)).heap.size 9 1 v ss.length ((ss.mergeSort (fun x y => decide (x ≤ y))).map encStr) ∧ (v = .slice none 0 0 ↔ ss = []) ∧ Below (w.alloc (.cells #[.map (some b)] 70)).heap.size (w.alloc (.cells #[.map (some b)] 70)) w' := by
  have hbl := hown.lt
  have hseq : SeqGives Fence.wide 2 Try.prog 72 #[.pointer (some ⟨w.heap.size, 0, none⟩)] encStr (fun ss => ss.Perm (strKeys D0)) (Maps.size D0) (w.alloc (.cells #[.map (some b)] 70)) :=
    AnyZ.keys_gives (ρ := Try.keys60_ren) { Try.keys60 with } Fence.wide _ trivial rfl (by omega) w.heap.size b nn D0 _ (by simp) (by simp) (by
      obtain ⟨es, clock, hb, Ft, hs, hD⟩ := hown
      exact ⟨es, clock, (Below.heap_alloc _ _ b hbl).trans hb, Ft, hs, hD⟩)
  exact AnyZ.sorted_in Try.sorted59 Fence.wide 5 trivial trivial trivial trivial rfl (by omega) (Try.sorts59 _) (enters_of Try.func71 (by kernel_rfl) rfl) 72 #[.pointer (some ⟨w.heap.size, 0, none⟩)] trivial (enters_of Try.func72 (by kernel_rfl) rfl) _ _ hmax hbytes _ hseq

end Go.Proofs
