/- The bundles of a device that has no one-time keys. -/
import Derived.Test.YtbhnfohoclcjdaaKeE
set_option linter.unusedVariables false
set_option linter.unusedSimpArgs false
namespace Go.Proofs.Ytbhnfohoclcjdaa
open Go.RowKit Go.Dr Go.Kd
theorem info51 : (Try.prog.info? 51).map (fun i => (i.zero.map (·.cells.size), i.size, i.bytes)) = some (some 33, 33, 34) := by kernel_rfl
theorem info51_parts : ∃ i z, Try.prog.info? 51 = some i ∧ i.zero = some z ∧ z.cells.size = 33 ∧ i.size = 33 ∧ i.bytes = 34 := by
  have h := info51
  cases hi : Try.prog.info? 51 with
  | none => rw [hi] at h; cases h
  | some i =>
    rw [hi] at h
    simp only [Option.map_some, Option.some.injEq, Prod.mk.injEq] at h
    cases hz : i.zero with
    | none => rw [hz] at h; cases h.1
    | some z =>
      rw [hz] at h
      simp only [Option.map_some, Option.some.injEq] at h
      exact ⟨i, z, rfl, hz, h.1, h.2.1, h.2.2⟩
theorem E52 : ElemT Try.prog 52 51 33 34 (cOnce (.int .u16 0) (zs 32)).toArray := ⟨Try.underlying52, by kernel_rfl, by kernel_rfl⟩
@[go_sem] theorem one52 (w : World) (Y : Array Value) (h : Y.size = 33) : (buildOneK 52 #[(0, .agg Y)]).run Try.prog w = .ok (.slice (some ⟨w.heap.size, 0, none⟩) 1 1) (w.alloc (.cells Y 51)) :=
  E52.buildOne (by omega) (by omega) w (.agg Y) h
section
variable {w0 w : World} {L : List (Nat × Obj)} {p : Option Addr} {n cap : Nat} {vs : List Value} {ops : Array Oper} {rest : List Oper} {o : Oper} {a : Act} {Q : Exit → Act → World → Prop}
/-- []Once: append of a slice. -/
theorem wpList_app52 (hgd : o.guard = none) (s x : Operand) (ho : o.op = .call { callee := .builtin .append, args := #[s, x], argTypes := #[52, 52] })
    (hs : a.eval s = .slice p n cap) (B : BldV w0 L 51 33 w p n cap vs) {q : Option Addr} {m c : Nat} {us : List Value} (hx : a.eval x = .slice q m c) (S : Sv 33 w q m c us) (h1 : ∀ u ∈ us, u.oneCell' = true) (hbig : n + m ≤ 1000000)
    (h : ∀ p' cap' w', BldV w0 L 51 33 w' p' (n + m) cap' (vs ++ us) → wpList Try.prog ops Q rest (a.put o.dst (.slice p' (n + m) cap')) w') : wpList Try.prog ops Q (o :: rest) a w := by
  obtain ⟨i, z, hi, hz, hzs, hs1, hb1⟩ := info51_parts
  exact wpList_apdV hgd s x 52 52 ho Try.underlying52 hi hz hs1 (by omega) hb1 hzs hs B hx (Apd.ofSrc Try.underlying52 hi hz (by rw [hs1]; exact S.src Try.underlying52 h1)) (by omega) (by omega) h
end
theorem acc_once {a b c : List Int} (ha : a.length = 32) (hb : b.length = 32) (hc : c.length = 32) : (acC a b c).extract 64 97 = (cOnce (.int .u16 0) c).toArray := by
  have e : (64 : Nat) = (a.map (Value.int .u8) ++ b.map (Value.int .u8)).length := by simp [ha, hb]
  have e2 : (97 : Nat) = (a.map (Value.int .u8) ++ b.map (Value.int .u8)).length + (cOnce (.int .u16 0) c).length := by rw [cOnce_length _ _ hc]; simp [ha, hb]
  have e3 : acC a b c = ((a.map (Value.int .u8) ++ b.map (Value.int .u8)) ++ (cOnce (.int .u16 0) c ++ [Value.slice none 0 0, Value.int .u16 1])).toArray := by simp [acC, cAccount, cOnce]
  rw [e3, List.extract_toArray, e2]
  conv => lhs; rw [e]
  rw [List.extract_eq_take_drop, List.drop_left, Nat.add_sub_cancel_left, List.take_left]
set_option maxRecDepth 100000 in
theorem bun_built {d : Nat} {a b c : List Int} (ha : a.length = 32) (hb : b.length = 32) (hc : c.length = 32) :
    spl ((spl (spl (Try.zeroCells59.setIfInBounds 0 (.int .u8 (d : Int))) 1 (a.map (Value.int .u8))) 33 (b.map (Value.int .u8))).setIfInBounds 65 (.int .u16 0)) 66 (c.map (Value.int .u8)) = bnC ⟨d, a, b, 0, c, zs 64⟩ := by
  have hz : Try.zeroCells59 = (cBundle (.int .u8 0) (zs 32) (zs 32) (.int .u16 0) (zs 32) (zs 64)).toArray := by kernel_rfl
  have l0 : (zs 32).length = 32 := rfl
  have l6 : (zs 64).length = 64 := rfl
  rw [hz, cBundle_set_device _ _ _ _ _ _ _ l0 l0 l0 l6, cBundle_spl_agree _ _ _ _ _ _ _ l0 l0 l0 l6 ha, cBundle_spl_signer _ _ _ _ _ _ _ ha l0 l0 l6 hb, cBundle_set_id _ _ _ _ _ _ _ ha hb l0 l6, cBundle_spl_once _ _ _ _ _ _ _ ha hb l0 l6 hc]
section
variable {w : World}
set_option maxRecDepth 100000 in
set_option maxHeartbeats 2000000 in
theorem bundles_f {lo tb : Nat} {T : List Tm} {a b c : List Int} {dv : Nat} (h : TabP lo tb w T) (ha : Key32 a) (hb : Key32 b) (hc : Key32 c) (hd : dv < 256) :
    Calls Try.prog 14 #[SU tb, .agg (acC a b c), .int .u8 (dv : Int)] w fun e w' => ∃ q cap x T', e = .returned (.slice q 1 cap) ∧ BnOk x ∧ x.id = 0 ∧ BldV w'.void [] 59 162 w' q 1 cap (bnC x).toList ∧ TabP lo tb w' T' ∧ FrP lo w w' ∧ ∀ g, q.map (·.block) = some g → w.heap.size ≤ g := by
  have H := Lib.hid h
  obtain ⟨xs, hxs⟩ : ∃ xs, xs = acC a b c := ⟨_, rfl⟩
  have hsz : xs.size = 99 := by rw [hxs, List.size_toArray, cAccount_length _ _ _ _ _ _ ha.len hb.len hc.len]
  have xall : xs.extract 0 99 = xs := by rw [← hsz]; exact Array.extract_size
  have x1 : xs.extract 32 64 = ints .u8 b := by rw [hxs]; exact cAccount_ext_sign _ _ _ _ _ _ ha.len hb.len hc.len
  have x2 : xs.extract 64 97 = (cOnce (.int .u16 0) c).toArray := by rw [hxs]; exact acc_once ha.len hb.len hc.len
  have x3 : xs[97]? = some (.slice none 0 0) := by rw [hxs]; exact cAccount_get_left _ _ _ _ _ _ ha.len hb.len hc.len
  replace x3 := (Array.getElem?_eq_some_iff.1 x3).2
  have c1 : ∀ W : World, TabP lo tb W T → Calls Try.prog 13 #[SU tb, .agg xs] W fun e w' => ∃ x y T', e = .returned (.tuple #[.agg (ints .u8 x), .agg (ints .u8 y)]) ∧ Key32 x ∧ Key32 y ∧ TabP lo tb w' T' ∧ FrP lo W w' := fun W hW => by rw [hxs]; exact apublic_f hW ha hb hc
  have C1 := Lib.hid c1
  have HK2 := Lib.hid hb
  have HK3 := Lib.hid hc
  rw [← hxs]
  clear h hxs ha hb hc c1
  go_enter Try.func14, Try.ntmps14
  go_upto_region 1 with (fail)
  refine named_world (A := fun X => OwB w [(w.heap.size + 1, .cells xs 54), (w.heap.size, .cells #[.pointer (some ⟨tb, 0, none⟩)] 33)] X) (Q := fun X => Code.wp _ _ _ _ X) (((OwB.start w).allocN _ w.heap.size rfl).allocN _ (w.heap.size + 1) (by simp)) ?_
  intro V hV
  have HFV := Lib.hid (FrT.of (t := TT) (lo := lo) hV.fr)
  have HTV := Lib.hid (H.out.fr0 hV.fr)
  generalize w.heap.size + 1 = b4 at hV ⊢
  generalize w.heap.size = b3 at hV ⊢
  have hlw : V.void.heap.size ≤ lo := Nat.zero_le _
  have HOV := Lib.hid (hV.weak V.void_fr (Nat.zero_le _))
  have f4 := hV.nth 0 rfl
  have f3 := hV.nth 1 rfl
  have t4 := World.at_lt f4
  have t3 := World.at_lt f3
  clear hV
  go_wp2_with fail
  refine (C1.out V HTV.out).mono ?_
  rintro e V1 ⟨k1, k2, T1, rfl, hk1, hk2, hT, F⟩
  have hO := HOV.out.callT F (by simp [other, TT]) hlw
  have HTV1 := Lib.hid hT
  have HFV1 := Lib.hid (HFV.out.trans F)
  have HOV1 := Lib.hid hO
  have lk1 := hk1.len
  have lk2 := hk2.len
  have y1 : lay (zs 32) 0 k1 = k1 := lay_full lk1
  have y2 : lay (zs 32) 0 k2 = k2 := lay_full lk2
  have s1 : (ints .u8 k1).size = 32 := by rw [size_ints, lk1]
  have s2 : (ints .u8 k2).size = 32 := by rw [size_ints, lk2]
  clear f3 f4 t3 t4 hT F hO
  go_upto_region 2 with (fail)
  refine named_world (A := fun X => OwB V.void [(V1.heap.size + 1, .cells (ints .u8 k2) 23), (V1.heap.size, .cells (ints .u8 k1) 23), (b4, .cells xs 54), (b3, .cells #[.pointer (some ⟨tb, 0, none⟩)] 33)] X ∧ TabP lo tb X T1 ∧ FrT TT lo w X) (Q := fun X => Code.wp _ _ _ _ X) ⟨(HOV1.out.allocN _ V1.heap.size rfl).allocN _ (V1.heap.size + 1) (by simp), HTV1.out.fr0 (((Fr.refl [] _).alloc _).alloc _), (HFV1.out.alloc _).alloc _⟩ ?_
  rintro V2 ⟨hO, hT, hF⟩
  generalize V1.heap.size + 1 = b8 at hO ⊢
  generalize V1.heap.size = b7 at hO ⊢
  have HOV2 := Lib.hid hO
  have HTV2 := Lib.hid hT
  have HFV2 := Lib.hid hF
  have f4 := hO.nth 2 rfl
  have t4 := World.at_lt f4
  clear hO hT hF
  obtain ⟨ys, hys⟩ : ∃ ys, ys = (cOnce (.int .u16 0) c).toArray := ⟨_, rfl⟩
  rw [← hys] at x2
  have sy : ys.size = 33 := by rw [hys, List.size_toArray, cOnce_length _ _ HK3.out.len]
  have oy : ∀ u ∈ ys.toList, u.oneCell' = true := by rw [hys]; exact cOnce_one _ _ rfl
  have z1 : ys[0]? = some (.int .u16 0) := by rw [hys]; exact cOnce_get_id _ _ HK3.out.len
  replace z1 := (Array.getElem?_eq_some_iff.1 z1).2
  have z2 : ys.extract 1 33 = ints .u8 c := by rw [hys]; exact cOnce_ext_sec _ _ HK3.out.len
  have yall : ys.extract 0 33 = ys := by rw [← sy]; exact Array.extract_size
  have oney : ones ys.toList = true := List.all_eq_true.2 oy
  have yn : spl ys 33 [] = ys := by
    have e33 : (33 : Nat) = ys.toList.length := by rw [Array.length_toList, sy]
    rw [e33]
    simp [spl]
  have HOY := Lib.hid oy
  clear oy hys
  go_wp2_with fail
  refine named_world (A := fun X => OwB V.void [(V2.heap.size, .cells ys 51), (b8, .cells (ints .u8 k2) 23), (b7, .cells (ints .u8 k1) 23), (b4, .cells xs 54), (b3, .cells #[.pointer (some ⟨tb, 0, none⟩)] 33)] X ∧ TabP lo tb X T1 ∧ FrT TT lo w X) (Q := fun X => Code.wp _ _ _ _ X) ⟨HOV2.out.allocN _ V2.heap.size rfl, HTV2.out.fr0 ((Fr.refl [] _).alloc _), HFV2.out.alloc _⟩ ?_
  rintro V3 ⟨hO, hT, hF⟩
  generalize V2.heap.size = b9 at hO ⊢
  have HOV3 := Lib.hid hO
  have HTV3 := Lib.hid hT
  have HFV3 := Lib.hid hF
  clear f4 t4
  have f9 := hO.nth 0 rfl
  have t9 := World.at_lt f9
  clear hO hT hF
  refine wp_loop_rounds 2 ?_
  rw [rounds_succ]
  go_upto_region 6 with (fail)
  refine named_world (A := fun X => OwB V.void [(V3.heap.size, .cells ys 51), (b9, .cells ys 51), (b8, .cells (ints .u8 k2) 23), (b7, .cells (ints .u8 k1) 23), (b4, .cells xs 54), (b3, .cells #[.pointer (some ⟨tb, 0, none⟩)] 33)] X ∧ TabP lo tb X T1 ∧ FrT TT lo w X) (Q := fun X => Code.wp _ _ _ _ X) ⟨HOV3.out.allocN _ V3.heap.size rfl, HTV3.out.fr0 ((Fr.refl [] _).alloc _), HFV3.out.alloc _⟩ ?_
  rintro V4 ⟨hO, hT, hF⟩
  generalize V3.heap.size = b11 at hO ⊢
  have HOV4 := Lib.hid hO
  have HTV4 := Lib.hid hT
  have HFV4 := Lib.hid hF
  clear f9 t9 hO hT hF
  go_cut [9, 12, 30, 31, 32, 33, 34, 35, 36, 37, 38, 39] (fun v9 v12 _ _ _ _ _ _ _ _ _ _ wy => ∃ p9 n9 c9 b12 k T', v9 = .slice p9 n9 c9 ∧ Hid (p9 = none ∧ n9 = 0 ∧ c9 = 0) ∧ v12 = .pointer (some ⟨b12, 0, none⟩) ∧ Key32 k ∧ Hid (OwB V.void [(b12, .cells (bnC ⟨dv, k1, k2, 0, k, zs 64⟩) 59), (b11, .cells ys 51), (b9, .cells ys 51), (b8, .cells (ints .u8 k2) 23), (b7, .cells (ints .u8 k1) 23), (b4, .cells xs 54), (b3, .cells #[.pointer (some ⟨tb, 0, none⟩)] 33)] wy) ∧ Hid (TabP lo tb wy T') ∧ Hid (FrT TT lo w wy) ∧ w.heap.size ≤ b12)
  case first =>
    have f3 := HOV4.out.nth 5 rfl
    have f7 := HOV4.out.nth 3 rfl
    have f8 := HOV4.out.nth 2 rfl
    have f11 := HOV4.out.nth 0 rfl
    have t3 := World.at_lt f3
    have t7 := World.at_lt f7
    have t8 := World.at_lt f8
    have t11 := World.at_lt f11
    have hz59 : Try.zeroCells59.size = 162 := by kernel_rfl
    refine drawn_begin 11 (fun w' => w'.blk b3 = some (.cells #[.pointer (some ⟨tb, 0, none⟩)] 33) ∧ w'.blk b7 = some (.cells (ints .u8 k1) 23) ∧ w'.blk b8 = some (.cells (ints .u8 k2) 23) ∧ w'.blk b11 = some (.cells ys 51)) (by kernel_rfl) ?_
    refine drawn_reads (fuel := 4) [0, 1, 2, 3, 4, 5, 6, 7] rfl (by kernel_rfl) ⟨f3, f7, f8, f11⟩ ?_
    repeat (first | (refine rowK_step2 rfl rfl (fun K hK => ?_); go_wp2) | (refine rowK_step rfl (fun K hK => ?_); go_simp; refine hK _ ?_; clear hK K))
    refine rowK_nil ⟨fun w' e1 => ?_, ?_⟩
    · obtain ⟨e1, e2, e3, e4⟩ := e1
      clear f3 f7 f8 f11 t3 t7 t8 t11
      repeat (first | (refine rowWp_step2 rfl rfl (fun K hK => ?_); go_wp2) | (refine rowWp_step rfl (fun K hK => ?_); go_simp; refine hK _ ?_; clear hK K))
      exact rowWp_nil rfl
    refine drawn_next2 8 10 (fuel := 3) rfl rfl (by kernel_rfl) ?_ ?_
    · intro K hK
      go_wp2_with fail
      refine (public_k (HTV4.out.fr0 (Fr.refl [] _).drew) HK3.out).mono ?_
      rintro e V5 ⟨k5, T5, rfl, hk5, hT, F⟩
      have hO := (HOV4.out.drew).callT F (by simp [other, TT]) hlw
      clear f3 f7 f8 f11 t3 t7 t8 t11
      have f3 := hO.nth 5 rfl
      have f7 := hO.nth 3 rfl
      have f8 := hO.nth 2 rfl
      have f11 := hO.nth 0 rfl
      have t3 := World.at_lt f3
      have t7 := World.at_lt f7
      have t8 := World.at_lt f8
      have t11 := World.at_lt f11
      have HOV5 := Lib.hid hO
      have HTV5 := Lib.hid hT
      have HFV5 := Lib.hid (HFV4.out.trans ((FrT.of (Fr.refl [] _).drew).trans F))
      clear hO hT F
      go_wp2_with fail
      refine ⟨⟨f3, f7, f8, f11⟩, ?_⟩
      have lkn := hk5.len
      obtain ⟨B, hB⟩ : ∃ B, B = bnC ⟨dv, k1, k2, 0, k5, zs 64⟩ := ⟨_, rfl⟩
      have eB : spl ((spl (spl (Try.zeroCells59.setIfInBounds 0 (.int .u8 (dv : Int))) 1 (k1.map (Value.int .u8))) 33 (k2.map (Value.int .u8))).setIfInBounds 65 (.int .u16 0)) 66 (k5.map (Value.int .u8)) = B := by rw [hB]; exact bun_built lk1 lk2 lkn
      have szB : B.size = 162 := by rw [hB, List.size_toArray, cBundle_length _ _ _ _ _ _ lk1 lk2 lkn rfl]
      have oneB : ones B.toList = true := by rw [hB]; exact List.all_eq_true.2 (cBundle_one _ _ _ _ _ _ rfl rfl)
      have HB := Lib.hid hB
      clear hB
      refine drawn_reads (fuel := 2) [9] rfl (by kernel_rfl) ⟨f3, f7, f8, f11⟩ ?_
      repeat (first | (refine rowK_step2 rfl rfl (fun K hK => ?_); go_wp2) | (refine rowK_step rfl (fun K hK => ?_); go_simp; refine hK _ ?_; clear hK K))
      refine rowK_nil ⟨fun w' e1 => ?_, ?_⟩
      · clear f3 f7 f8 f11 t3 t7 t8 t11 e1
        repeat (first | (refine rowWp_step2 rfl rfl (fun K hK => ?_); go_wp2) | (refine rowWp_step rfl (fun K hK => ?_); go_simp; refine hK _ ?_; clear hK K))
        exact rowWp_nil rfl
      refine drawn_next 10 (fuel := 1) rfl (by kernel_rfl) ?_
      intro K hK
      go_wp2_with fail
      refine ⟨⟨by go_simp, by go_simp, by go_simp, by go_simp⟩, ?_⟩
      refine named_world (A := fun X => OwB V.void [(V5.heap.size, .cells Try.zeroCells59 59), (b11, .cells ys 51), (b9, .cells ys 51), (b8, .cells (ints .u8 k2) 23), (b7, .cells (ints .u8 k1) 23), (b4, .cells xs 54), (b3, .cells #[.pointer (some ⟨tb, 0, none⟩)] 33)] X ∧ TabP lo tb X T5 ∧ FrT TT lo w X) (Q := fun X => Go.Dr.wpAnyS Try.prog .any _ _ _ _ _ _ _ X) (by first | exact ⟨HOV5.out.allocN _ V5.heap.size rfl, HTV5.out.fr0 ((Fr.refl [] _).alloc _), HFV5.out.alloc _⟩ | exact ⟨(HOV5.out.drew.allocN _ V5.heap.size rfl), HTV5.out.fr0 (((Fr.refl [] _).drew).alloc _), (HFV5.out.drew).alloc _⟩ | exact ⟨(HOV5.out.allocN _ V5.heap.size rfl).drew, HTV5.out.fr0 (((Fr.refl [] _).alloc _).drew), (HFV5.out.alloc _).drew⟩) ?_
      rintro V6 ⟨hO, hT, hF⟩
      have l12 : w.heap.size ≤ V5.heap.size := HFV5.out.size
      generalize V5.heap.size = b12 at hO l12 ⊢
      have HOV6 := Lib.hid hO
      have HTV6 := Lib.hid hT
      have HFV6 := Lib.hid hF
      clear f3 f7 f8 f11 t3 t7 t8 t11
      have f3 := hO.nth 6 rfl
      have f7 := hO.nth 4 rfl
      have f8 := hO.nth 3 rfl
      have f11 := hO.nth 1 rfl
      have t3 := World.at_lt f3
      have t7 := World.at_lt f7
      have t8 := World.at_lt f8
      have t11 := World.at_lt f11
      clear hO hT hF
      have f12 := HOV6.out.nth 0 rfl
      have t12 := World.at_lt f12
      refine drawn_end rfl (by kernel_rfl) ?_
      intro K hK
      go_wp2_with fail
      go_meet
      case rel => exact ⟨none, 0, 0, b12, k5, T5, rfl, Lib.hid ⟨rfl, rfl, rfl⟩, rfl, hk5, by rw [← HB.out]; exact Lib.hid (HOV6.out.set 0 _ rfl), Lib.hid (HTV6.out.put f12 (by decide) _), Lib.hid (HFV6.out.put _ l12), l12⟩
    · intro K hK
      go_wp2_with fail
      refine ⟨⟨by go_simp, by go_simp, by go_simp, by go_simp⟩, ?_⟩
      refine named_world (A := fun X => OwB V.void [(V4.heap.size, .cells Try.zeroCells59 59), (b11, .cells ys 51), (b9, .cells ys 51), (b8, .cells (ints .u8 k2) 23), (b7, .cells (ints .u8 k1) 23), (b4, .cells xs 54), (b3, .cells #[.pointer (some ⟨tb, 0, none⟩)] 33)] X ∧ TabP lo tb X T1 ∧ FrT TT lo w X) (Q := fun X => Go.Dr.wpAnyS Try.prog .any _ _ _ _ _ _ _ X) (by first | exact ⟨HOV4.out.allocN _ V4.heap.size rfl, HTV4.out.fr0 ((Fr.refl [] _).alloc _), HFV4.out.alloc _⟩ | exact ⟨(HOV4.out.drew.allocN _ V4.heap.size rfl), HTV4.out.fr0 (((Fr.refl [] _).drew).alloc _), (HFV4.out.drew).alloc _⟩ | exact ⟨(HOV4.out.allocN _ V4.heap.size rfl).drew, HTV4.out.fr0 (((Fr.refl [] _).alloc _).drew), (HFV4.out.alloc _).drew⟩) ?_
      rintro V6 ⟨hO, hT, hF⟩
      have l12 : w.heap.size ≤ V4.heap.size := HFV4.out.size
      generalize V4.heap.size = b12 at hO l12 ⊢
      have HOV6 := Lib.hid hO
      have HTV6 := Lib.hid hT
      have HFV6 := Lib.hid hF
      clear f3 f7 f8 f11 t3 t7 t8 t11
      have f3 := hO.nth 6 rfl
      have f7 := hO.nth 4 rfl
      have f8 := hO.nth 3 rfl
      have f11 := hO.nth 1 rfl
      have t3 := World.at_lt f3
      have t7 := World.at_lt f7
      have t8 := World.at_lt f8
      have t11 := World.at_lt f11
      clear hO hT hF
      refine drawn_next 8 (fuel := 2) rfl (by kernel_rfl) ?_
      intro K hK
      go_wp2_with fail
      refine (public_k (HTV6.out) HK3.out).mono ?_
      rintro e V7 ⟨k7, T7, rfl, hk7, hT, F⟩
      have hO := (HOV6.out).callT F (by simp [other, TT]) hlw
      clear f3 f7 f8 f11 t3 t7 t8 t11
      have f3 := hO.nth 6 rfl
      have f7 := hO.nth 4 rfl
      have f8 := hO.nth 3 rfl
      have f11 := hO.nth 1 rfl
      have t3 := World.at_lt f3
      have t7 := World.at_lt f7
      have t8 := World.at_lt f8
      have t11 := World.at_lt f11
      have HOV7 := Lib.hid hO
      have HTV7 := Lib.hid hT
      have HFV7 := Lib.hid (HFV6.out.trans F)
      clear hO hT F
      go_wp2_with fail
      refine ⟨⟨f3, f7, f8, f11⟩, ?_⟩
      have lkn := hk7.len
      obtain ⟨B, hB⟩ : ∃ B, B = bnC ⟨dv, k1, k2, 0, k7, zs 64⟩ := ⟨_, rfl⟩
      have eB : spl ((spl (spl (Try.zeroCells59.setIfInBounds 0 (.int .u8 (dv : Int))) 1 (k1.map (Value.int .u8))) 33 (k2.map (Value.int .u8))).setIfInBounds 65 (.int .u16 0)) 66 (k7.map (Value.int .u8)) = B := by rw [hB]; exact bun_built lk1 lk2 lkn
      have szB : B.size = 162 := by rw [hB, List.size_toArray, cBundle_length _ _ _ _ _ _ lk1 lk2 lkn rfl]
      have oneB : ones B.toList = true := by rw [hB]; exact List.all_eq_true.2 (cBundle_one _ _ _ _ _ _ rfl rfl)
      have HB := Lib.hid hB
      clear hB
      refine drawn_reads (fuel := 1) [9] rfl (by kernel_rfl) ⟨f3, f7, f8, f11⟩ ?_
      repeat (first | (refine rowK_step2 rfl rfl (fun K hK => ?_); go_wp2) | (refine rowK_step rfl (fun K hK => ?_); go_simp; refine hK _ ?_; clear hK K))
      refine rowK_nil ⟨fun w' e1 => ?_, ?_⟩
      · clear f3 f7 f8 f11 t3 t7 t8 t11 e1
        repeat (first | (refine rowWp_step2 rfl rfl (fun K hK => ?_); go_wp2) | (refine rowWp_step rfl (fun K hK => ?_); go_simp; refine hK _ ?_; clear hK K))
        exact rowWp_nil rfl
      have f12 := HOV7.out.nth 0 rfl
      have t12 := World.at_lt f12
      refine drawn_end rfl (by kernel_rfl) ?_
      intro K hK
      go_wp2_with fail
      go_meet
      case rel => exact ⟨none, 0, 0, b12, k7, T7, rfl, Lib.hid ⟨rfl, rfl, rfl⟩, rfl, hk7, by rw [← HB.out]; exact Lib.hid (HOV7.out.set 0 _ rfl), Lib.hid (HTV7.out.put f12 (by decide) _), Lib.hid (HFV7.out.put _ l12), l12⟩
  case rest =>
    obtain ⟨p9, n9, c9, b12, k9, T9, rfl, H9, rfl, hk9, HOc, HTc, HFc, l12⟩ := hcut
    have lk9 := hk9.len
    obtain ⟨x, hx⟩ : ∃ x : Bn, x = ⟨dv, k1, k2, 0, k9, zs 64⟩ := ⟨_, rfl⟩
    have xok : BnOk x := by
      rw [hx]
      refine ⟨by show (0 : Int) ≤ (dv : Int); omega, by show (dv : Int) < 256; omega, by show (0 : Int) ≤ 0; omega, by show (0 : Int) < 65536; omega, lk1, lk2, lk9, rfl, hk1.byt, hk2.byt, hk9.byt, ?_⟩
      intro u hu
      rw [zs, List.mem_replicate] at hu
      omega
    have xid : x.id = 0 := by rw [hx]
    obtain ⟨B, hB⟩ : ∃ B, B = bnC x := ⟨_, rfl⟩
    have hB2 : bnC ⟨dv, k1, k2, 0, k9, zs 64⟩ = B := by rw [hB, hx]
    rw [hB2] at HOc
    have szB : B.size = 162 := by rw [hB, List.size_toArray, cBundle_length _ _ _ _ _ _ xok.al xok.sl xok.ol xok.gl]
    have Ball : B.extract 0 162 = B := by rw [← szB]; exact Array.extract_size
    have c2 : ∀ W : World, Calls Try.prog 28 #[.agg B] W fun e w' => ∃ q m c, e = .returned (.slice q m c) ∧ Bld W [] .u8 5 w' q m c (bunText x) := fun W => by rw [hB]; exact btext_f xok
    have C2 := Lib.hid c2
    have HX := Lib.hid xok
    have HB := Lib.hid hB
    have HXI := Lib.hid xid
    clear c2 xok hB hB2 hx xid
    have f3 := HOc.out.nth 6 rfl
    have f4 := HOc.out.nth 5 rfl
    have f12 := HOc.out.nth 0 rfl
    have t3 := World.at_lt f3
    have t4 := World.at_lt f4
    have t12 := World.at_lt f12
    go_upto_region 7 with (fail)
    refine drawn_begin 6 (fun w' => w'.blk b3 = some (.cells #[.pointer (some ⟨tb, 0, none⟩)] 33) ∧ w'.blk b4 = some (.cells xs 54) ∧ w'.blk b12 = some (.cells B 59)) (by kernel_rfl) ?_
    refine drawn_reads (fuel := 4) [0, 1, 2, 3] rfl (by kernel_rfl) ⟨f3, f4, f12⟩ ?_
    repeat (first | (refine rowK_step2 rfl rfl (fun K hK => ?_); go_wp2) | (refine rowK_step rfl (fun K hK => ?_); go_simp; refine hK _ ?_; clear hK K))
    refine rowK_nil ⟨fun w' e1 => ?_, ?_⟩
    · obtain ⟨e1, e2, e3⟩ := e1
      clear f3 f4 f12 t3 t4 t12
      repeat (first | (refine rowWp_step2 rfl rfl (fun K hK => ?_); go_wp2) | (refine rowWp_step rfl (fun K hK => ?_); go_simp; refine hK _ ?_; clear hK K))
      exact rowWp_nil rfl
    refine drawn_next 4 (fuel := 3) rfl (by kernel_rfl) ?_
    intro K hK
    go_wp2_with fail
    refine (C2.out _).mono ?_
    rintro e V8 ⟨q, m, cc, rfl, hBt⟩
    have hO := HOc.out.drew.call hBt.own.fr
    clear f3 f4 f12 t3 t4 t12
    have f3 := hO.nth 6 rfl
    have f4 := hO.nth 5 rfl
    have f12 := hO.nth 0 rfl
    have t3 := World.at_lt f3
    have t4 := World.at_lt f4
    have t12 := World.at_lt f12
    have HOV8 := Lib.hid hO
    have HTV8 := Lib.hid (HTc.out.fr0 (((Fr.refl [] _).drew).trans hBt.own.fr))
    have HFV8 := Lib.hid (HFc.out.trans (FrT.of (((Fr.refl [] _).drew).trans hBt.own.fr)))
    have HBt := Lib.hid hBt
    clear hO hBt
    go_wp2_with fail
    refine ⟨⟨f3, f4, f12⟩, ?_⟩
    refine drawn_next 5 (fuel := 2) rfl (by kernel_rfl) ?_
    intro K hK
    go_wp2_with fail
    refine (sign_f HTV8.out HK2.out.len HK2.out.byt HBt.out.sl (isBytes_bun HX.out)).mono ?_
    rintro e V9 ⟨rfl, hT, F⟩
    have hO := HOV8.out.callT F (by simp [other, TT]) hlw
    clear f3 f4 f12 t3 t4 t12
    have f3 := hO.nth 6 rfl
    have f4 := hO.nth 5 rfl
    have f12 := hO.nth 0 rfl
    have t3 := World.at_lt f3
    have t4 := World.at_lt f4
    have t12 := World.at_lt f12
    have HOV9 := Lib.hid hO
    have HTV9 := Lib.hid hT
    have HFV9 := Lib.hid (HFV8.out.trans F)
    clear hO hT F
    obtain ⟨g, hg⟩ : ∃ g, g = (signF T9 b (bunText x)).2 := ⟨_, rfl⟩
    obtain ⟨T10, hT10⟩ : ∃ X, X = (signF T9 b (bunText x)).1 := ⟨_, rfl⟩
    rw [← hg]
    rw [← hT10] at HTV9
    have lg : g.length = 64 := by rw [hg]; exact signF_len _ _ _
    have yok : BnOk { x with sig := g } := ⟨HX.out.d0, HX.out.d1, HX.out.i0, HX.out.i1, HX.out.al, HX.out.sl, HX.out.ol, lg, HX.out.ab, HX.out.sb, HX.out.ob, by rw [hg]; exact byt_signF⟩
    obtain ⟨C, hC⟩ : ∃ C, C = bnC { x with sig := g } := ⟨_, rfl⟩
    have eC : spl B 98 (g.map (Value.int .u8)) = C := by rw [HB.out, hC]; exact cBundle_spl_sig _ _ _ _ _ _ _ HX.out.al HX.out.sl HX.out.ol HX.out.gl lg
    have szC : C.size = 162 := by rw [hC, List.size_toArray, cBundle_length _ _ _ _ _ _ yok.al yok.sl yok.ol yok.gl]
    have Call : C.extract 0 162 = C := by rw [← szC]; exact Array.extract_size
    have oC : ∀ u ∈ C.toList, u.oneCell' = true := by rw [hC]; exact cBundle_one _ _ _ _ _ _ rfl rfl
    have sg : (ints .u8 g).size = 64 := by rw [size_ints, lg]
    have HOC := Lib.hid oC
    have HC := Lib.hid hC
    have HY := Lib.hid yok
    clear hg hT10 oC hC yok
    go_wp2_with fail
    refine ⟨⟨f3, f4, f12⟩, ?_⟩
    refine drawn_end rfl (by kernel_rfl) ?_
    intro K hK
    go_upto_region 8 with (fail)
    refine named_world (A := fun X => OwB V.void [(b12, .cells C 59), (b11, .cells ys 51), (b9, .cells ys 51), (b8, .cells (ints .u8 k2) 23), (b7, .cells (ints .u8 k1) 23), (b4, .cells xs 54), (b3, .cells #[.pointer (some ⟨tb, 0, none⟩)] 33)] X ∧ TabP lo tb X T10 ∧ FrT TT lo w X) (Q := fun X => Code.wp _ _ _ _ X) (by first | exact ⟨HOV9.out.set 0 _ rfl, HTV9.out.put f12 (by decide) _, HFV9.out.put _ l12⟩) ?_
    rintro V10 ⟨hO, hT, hF⟩
    clear f3 f4 f12 t3 t4 t12
    have f12 := hO.nth 0 rfl
    have t12 := World.at_lt f12
    have HOV10 := Lib.hid hO
    have HTV10 := Lib.hid hT
    have HFV10 := Lib.hid hF
    clear hO hT hF
    go_wp2_with (refine wpList_app60 rfl _ _ rfl rfl (show BldV V10 [] 59 162 _ p9 n9 c9 [] by obtain ⟨rfl, rfl, rfl⟩ := H9.out; exact BldV.nil (((OwB.start V10).alloc _).take)) rfl (sv_one (by first | exact (HOV10.out.alloc _).nth 0 rfl | (go_simp; done)) szC) HOC.out (by have := H9.out.2.1; omega) ?_)
    intro q9 cap9 W B9
    have HTW := Lib.hid (HTV10.out.fr0 B9.own.fr)
    have HFW := Lib.hid (HFV10.out.trans (FrT.of B9.own.fr))
    have HB9 := Lib.hid B9
    clear B9 f12 t12
    obtain ⟨n1, hn1⟩ : ∃ n1, n1 = n9 + 1 := ⟨_, rfl⟩
    rw [← hn1] at HB9 ⊢
    have HN1 := Lib.hid hn1
    clear hn1
    go_wp2_with fail
    rw [rounds_succ]
    go_wp2_with fail
    have e1 : n1 = 1 := by have := H9.out.2.1; have := HN1.out; omega
    subst e1
    exact bodyPost_ret (results_tmp rfl _ _ _) rfl ⟨q9, cap9, _, T10, rfl, HY.out, HXI.out, ⟨OwB.hold W, by have h := HB9.out.row; rw [HC.out] at h; exact h, fun g hg => ⟨Nat.zero_le _, by simp⟩⟩, HTW.out, HFW.out, fun g hg => Nat.le_trans HFV10.out.size (HB9.out.new g hg).1⟩
end
end Go.Proofs.Ytbhnfohoclcjdaa
