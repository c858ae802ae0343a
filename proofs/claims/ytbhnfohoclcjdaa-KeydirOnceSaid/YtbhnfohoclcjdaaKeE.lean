/- A device's public keys. -/
import Derived.Test.YtbhnfohoclcjdaaKeD
set_option linter.unusedVariables false
set_option linter.unusedSimpArgs false
namespace Go.Proofs.Ytbhnfohoclcjdaa
open Go.RowKit Go.Dr Go.Kd
theorem lay_full {k : List Int} (h : k.length = 32) : lay (zs 32) 0 k = k := by
  unfold lay
  rw [List.take_zero, List.nil_append, h, List.drop_of_length_le (by decide), List.append_nil]
section
variable {w : World}
set_option maxRecDepth 100000 in
set_option maxHeartbeats 2000000 in
theorem apublic_f {lo tb : Nat} {T : List Tm} {a b c : List Int} (h : TabP lo tb w T) (ha : Key32 a) (hb : Key32 b) (hc : Key32 c) :
    Calls Try.prog 13 #[SU tb, .agg (acC a b c)] w fun e w' => ∃ x y T', e = .returned (.tuple #[.agg (ints .u8 x), .agg (ints .u8 y)]) ∧ Key32 x ∧ Key32 y ∧ TabP lo tb w' T' ∧ FrP lo w w' := by
  have H := Lib.hid h
  obtain ⟨xs, hxs⟩ : ∃ xs, xs = acC a b c := ⟨_, rfl⟩
  have hsz : xs.size = 99 := by rw [hxs, List.size_toArray, cAccount_length _ _ _ _ _ _ ha.len hb.len hc.len]
  have x0 : xs.extract 0 32 = ints .u8 a := by rw [hxs]; exact cAccount_ext_agree _ _ _ _ _ _ ha.len hb.len hc.len
  have x1 : xs.extract 32 64 = ints .u8 b := by rw [hxs]; exact cAccount_ext_sign _ _ _ _ _ _ ha.len hb.len hc.len
  have HK1 := Lib.hid ha
  have HK2 := Lib.hid hb
  rw [← hxs]
  clear h hxs ha hb hc
  go_enter Try.func13, Try.ntmps13
  go_upto_region 1 with (fail)
  refine named_world (A := fun X => OwB w [(w.heap.size + 1 + 1 + 1, .cells (ints .u8 (zs 32)) 23), (w.heap.size + 1 + 1, .cells (ints .u8 (zs 32)) 23), (w.heap.size + 1, .cells xs 54), (w.heap.size, .cells #[.pointer (some ⟨tb, 0, none⟩)] 33)] X) (Q := fun X => Code.wp _ _ _ _ X) (((((OwB.start w).allocN _ w.heap.size rfl).allocN _ (w.heap.size + 1) (by simp)).allocN _ (w.heap.size + 1 + 1) (by simp)).allocN _ (w.heap.size + 1 + 1 + 1) (by simp)) ?_
  intro V hV
  have HTV := Lib.hid (H.out.fr0 hV.fr)
  have HFV := Lib.hid (FrT.of (t := TT) (lo := lo) hV.fr)
  generalize w.heap.size + 1 + 1 + 1 = b5 at hV ⊢
  generalize w.heap.size + 1 + 1 = b4 at hV ⊢
  generalize w.heap.size + 1 = b3 at hV ⊢
  generalize w.heap.size = b2 at hV ⊢
  have l5 := hV.low 0 rfl
  have l4 := hV.low 1 rfl
  have n45 : b4 ≠ b5 := hV.ne 1 0 rfl rfl (by decide)
  have hV2 : OwB V.void _ V := hV.weak V.void_fr (Nat.zero_le _)
  have hlw : V.void.heap.size ≤ lo := Nat.zero_le _
  have f3 := hV.nth 2 rfl
  have f2 := hV.nth 3 rfl
  have t3 := World.at_lt f3
  have t2 := World.at_lt f2
  have HOV := Lib.hid hV2
  clear hV hV2
  refine drawn_begin 9 (fun w' => w'.blk b2 = some (.cells #[.pointer (some ⟨tb, 0, none⟩)] 33) ∧ w'.blk b3 = some (.cells xs 54)) (by kernel_rfl) ?_
  refine drawn_reads (fuel := 4) [0, 1, 2, 4, 5, 6] rfl (by kernel_rfl) ⟨f2, f3⟩ ?_
  repeat (first | (refine rowK_step2 rfl rfl (fun K hK => ?_); go_wp2) | (refine rowK_step rfl (fun K hK => ?_); go_simp; refine hK _ ?_; clear hK K))
  refine rowK_nil ⟨fun w' e1 => ?_, ?_⟩
  · obtain ⟨e1, e2⟩ := e1
    clear f2 f3
    repeat (first | (refine rowWp_step2 rfl rfl (fun K hK => ?_); go_wp2) | (refine rowWp_step rfl (fun K hK => ?_); go_simp; refine hK _ ?_; clear hK K))
    exact rowWp_nil rfl
  refine drawn_next 3 (fuel := 3) rfl (by kernel_rfl) ?_
  intro K hK
  go_wp2_with fail
  refine (public_k (HTV.out.fr0 (Fr.refl [] _).drew) HK1.out).mono ?_
  rintro e V1 ⟨k1, T1, rfl, hk1, hT, F⟩
  have hO := (HOV.out.drew).callT F (by simp [other, TT]) hlw
  clear f2 f3 t2 t3
  have f2 := hO.nth 3 rfl
  have f3 := hO.nth 2 rfl
  have t2 := World.at_lt f2
  have t3 := World.at_lt f3
  have HOV1 := Lib.hid hO
  have HTV1 := Lib.hid hT
  have HFV1 := Lib.hid (HFV.out.trans ((FrT.of (Fr.refl [] _).drew).trans F))
  clear hO hT F
  go_wp2_with fail
  refine ⟨⟨f2, f3⟩, ?_⟩
  refine drawn_next 7 (fuel := 2) rfl (by kernel_rfl) ?_
  intro K hK
  go_wp2_with fail
  refine (signer_k HTV1.out HK2.out).mono ?_
  rintro e V2 ⟨k2, T2, rfl, hk2, hT, F⟩
  have hO := (HOV1.out).callT F (by simp [other, TT]) hlw
  clear f2 f3 t2 t3
  have f2 := hO.nth 3 rfl
  have f3 := hO.nth 2 rfl
  have t2 := World.at_lt f2
  have t3 := World.at_lt f3
  have HOV2 := Lib.hid hO
  have HTV2 := Lib.hid hT
  have HFV2 := Lib.hid (HFV1.out.trans F)
  clear hO hT F
  go_wp2_with fail
  refine ⟨⟨f2, f3⟩, ?_⟩
  refine drawn_next 8 (fuel := 1) rfl (by kernel_rfl) ?_
  intro K hK
  have f4 := HOV2.out.nth 1 rfl
  have t4 := World.at_lt f4
  have f5 := HOV2.out.nth 0 rfl
  have t5 := World.at_lt f5
  have lk1 := hk1.len
  have lk2 := hk2.len
  have y1 : lay (zs 32) 0 k1 = k1 := lay_full lk1
  have y2 : lay (zs 32) 0 k2 = k2 := lay_full lk2
  have s1 : (ints .u8 k1).size = 32 := by rw [size_ints, lk1]
  have s2 : (ints .u8 k2).size = 32 := by rw [size_ints, lk2]
  go_wp2_with fail
  have hO := HOV2.out.set 1 (.cells (ints .u8 k1) 23) rfl
  refine ⟨⟨hO.nth 3 rfl, hO.nth 2 rfl⟩, ?_⟩
  generalize hV3 : V2.put b4 (Obj.cells (ints .u8 k1) 23) = V3 at hO ⊢
  have HTV3 : Hid (TabP lo tb V3 T2) := Lib.hid (by rw [← hV3]; exact HTV2.out.put f4 (by decide) _)
  have HFV3 : Hid (FrT TT lo w V3) := Lib.hid (by rw [← hV3]; exact HFV2.out.put _ l4)
  clear f2 f3 t2 t3 f4 t4 f5 t5 hV3
  have f4 := hO.nth 1 rfl
  have t4 := World.at_lt f4
  have f5 := hO.nth 0 rfl
  have t5 := World.at_lt f5
  refine drawn_end rfl (by kernel_rfl) ?_
  intro K hK
  go_wp2_with fail
  have hO4 := hO.set 0 (.cells (ints .u8 k2) 23) rfl
  have g4 := hO4.nth 1 rfl
  have g5 := hO4.nth 0 rfl
  clear f4 t4 f5 t5
  refine ret_cell2 rfl rfl rfl rfl ?_
  go_simp
  refine ⟨by kernel_rfl, k1, k2, ⟨rfl, rfl⟩, hk1, hk2, ⟨T2, ?_⟩, HFV3.out.put _ l5⟩
  exact HTV3.out.put (hO.nth 0 rfl) (by decide) _
end
end Go.Proofs.Ytbhnfohoclcjdaa
