/- Joined: DcE. -/
import Derived.Test.YtbhnfohoclcjdaaGreatZn
set_option linter.unusedVariables false
set_option linter.unusedSimpArgs false
namespace Go.Proofs.YtbhnfohoclcjdaaGreat
open Go.RowKit Go.Dr Go.Kd
theorem put_keep {w : World} {b c : Nat} {o x : Obj} (h : w.blk c = some x) (hn : b ≠ c) : (w.put b o).blk c = some x := by rw [World.at_put_other _ _ _ _ hn]; exact h
section
variable {w : World}
set_option maxRecDepth 100000 in
set_option maxHeartbeats 2000000 in
theorem dfree_f : Calls Tryz.prog 8 #[] w fun e w' => ∃ tb, e = .returned (SU tb) ∧ DTabP w.heap.size tb w' [] ∧ Fr [] w w' := by
  go_enter Tryz.func8, Tryz.ntmps8
  go_wp2_with fail
  refine ret_cell rfl rfl rfl ?_
  go_simp
  have hO := ((OwB.start w).allocN (.cells #[.pointer (some ⟨w.heap.size + 1, 0, none⟩)] 31) w.heap.size rfl).allocN (.cells #[.slice none 0 0] 98) (w.heap.size + 1) (by simp)
  exact ⟨by kernel_rfl, DTab.new (t := DT) (hO.drop 1), hO.fr⟩
set_option maxRecDepth 100000 in
set_option maxHeartbeats 2000000 in
theorem dsigner_f {lo tb : Nat} {T : List Tm} {k : List Int} (h : DTabP lo tb w T) (hk : k.length = 32) (hb : isBytes k) :
    Calls Tryz.prog 11 #[SU tb, .agg (ints .u8 k)] w fun e w' => e = .returned (.agg (ints .u8 (makeT T (5, [k])).2.1)) ∧ DTabP lo tb w' (makeT T (5, [k])).1 ∧ FrD lo w w' := by
  have H := Lib.hid h
  have HB := Lib.hid hb
  obtain ⟨k9, hke⟩ : ∃ k9, (makeT T (5, [k])).2.1 = k9 := ⟨_, rfl⟩
  obtain ⟨ok9, hok⟩ : ∃ ok9, (makeT T (5, [k])).2.2 = ok9 := ⟨_, rfl⟩
  have hk2 : k9.length = 32 := by rw [← hke]; exact makeT_len T (5, [k])
  have HKE := Lib.hid hke
  have HOKE := Lib.hid hok
  have s9 : (ints .u8 k9).size = 32 := by rw [size_ints, hk2]
  have y9 : lay (zs 32) 0 k9 = k9 := lay_full hk2
  clear h hb hke hok
  go_enter Tryz.func11, Tryz.ntmps11
  go_upto_region 3 with (fail)
  have l4 : w.heap.size ≤ w.heap.size + 1 + 1 := by omega
  refine named_world (A := fun X => OwB w.void [(w.heap.size + 1 + 1, .cells (ints .u8 (zs 32)) 33), (w.heap.size + 1, .cells (ints .u8 k) 33), (w.heap.size, .cells #[.pointer (some ⟨tb, 0, none⟩)] 31)] X ∧ DTabP lo tb X T ∧ FrD lo w X) (Q := fun X => Code.wp _ _ _ _ X) ⟨(((OwB.hold w).allocN _ w.heap.size rfl).allocN _ (w.heap.size + 1) (by simp)).allocN _ (w.heap.size + 1 + 1) (by simp), H.out.fr0 ((((Fr.refl [] w).alloc _).alloc _).alloc _), .of ((((Fr.refl [] w).alloc _).alloc _).alloc _)⟩ ?_
  rintro V ⟨hV, hT, hF⟩
  generalize w.heap.size + 1 + 1 = b4 at hV l4 ⊢
  generalize w.heap.size + 1 = b3 at hV ⊢
  generalize w.heap.size = b2 at hV ⊢
  have HV := Lib.hid hV
  have HTV := Lib.hid hT
  have HFV := Lib.hid hF
  clear hV hT hF
  refine drawn_begin 10 (fun w' => w'.blk b2 = some (.cells #[.pointer (some ⟨tb, 0, none⟩)] 31) ∧ w'.blk b3 = some (.cells (ints .u8 k) 33)) (by kernel_rfl) ?_
  have f2 := HV.out.nth 2 rfl
  have f3 := HV.out.nth 1 rfl
  have t2 := World.at_lt f2
  have t3 := World.at_lt f3
  refine drawn_reads (fuel := 8) [0, 1, 2] rfl (by kernel_rfl) ⟨f2, f3⟩ ?_
  repeat (first | (refine rowK_step2 rfl rfl (fun K hK => ?_); go_wp2) | (refine rowK_step rfl (fun K hK => ?_); go_simp; refine hK _ ?_; clear hK K))
  refine rowK_nil ⟨fun w' e1 => ?_, ?_⟩
  · obtain ⟨e1, e2⟩ := e1
    clear f2 f3 t2 t3
    repeat (first | (refine rowWp_step2 rfl rfl (fun K hK => ?_); go_wp2) | (refine rowWp_step rfl (fun K hK => ?_); go_simp; refine hK _ ?_; clear hK K))
    exact rowWp_nil rfl
  have HV1 := Lib.hid HV.out.drew
  have HTV1 := Lib.hid (HTV.out.fr0 (Fr.refl [] V).drew)
  have HFV1 := Lib.hid HFV.out.drew
  refine drawn_next2 3 8 (fuel := 7) rfl rfl (by kernel_rfl) ?_ ?_
  · intro K hK
    go_wp2_with fail
    refine ⟨⟨by go_simp, by go_simp⟩, ?_⟩
    refine named_world (A := fun X => OwB w.void ([(V.heap.size, .cells #[.slice (some ⟨b3, 0, none⟩) 32 32] 49), (b4, .cells (ints .u8 (zs 32)) 33), (b3, .cells (ints .u8 k) 33), (b2, .cells #[.pointer (some ⟨tb, 0, none⟩)] 31)]) X ∧ DTabP lo tb X T ∧ FrD lo w X) (Q := fun X => Go.Dr.wpAnyS Tryz.prog .any _ _ _ _ _ _ _ X) ⟨HV1.out.allocN _ _ rfl, HTV1.out.fr0 ((Fr.refl [] V.drew).alloc _), HFV1.out.alloc _⟩ ?_
    rintro U1 ⟨hU, hT, hF⟩
    clear f2 f3 t2 t3
    generalize V.heap.size = bx at hU ⊢
    have f2 := hU.nth 3 rfl
    have f3 := hU.nth 2 rfl
    have t2 := World.at_lt f2
    have t3 := World.at_lt f3
    have HU1 := Lib.hid hU
    have HTU1 := Lib.hid hT
    have HFU1 := Lib.hid hF
    clear hU hT hF
    refine drawn_next2 4 8 (fuel := 6) rfl rfl (by kernel_rfl) ?_ ?_
    · intro K hK
      go_wp2_with fail
      refine (dmake_f HTU1.out (sll_one (HU1.out.nth 2 rfl) (HU1.out.nth 0 rfl) hk) (good_one (by decide) (by decide) hk HB.out)).mono ?_
      rintro e U2 ⟨rfl, hT, F⟩
      have HU2 := Lib.hid (HU1.out.callT F (by simp [other, DT]) (Nat.zero_le _))
      have HTU2 := Lib.hid hT
      have HFU2 := Lib.hid (HFU1.out.trans F)
      rw [HKE.out, HOKE.out]
      clear hT F f2 f3 t2 t3
      have f2 := HU2.out.nth 3 rfl
      have f3 := HU2.out.nth 2 rfl
      have t2 := World.at_lt f2
      have t3 := World.at_lt f3
      go_wp2_with fail
      refine ⟨⟨f2, f3⟩, ?_⟩
      refine drawn_reads (fuel := 3) [5, 6, 7] rfl (by kernel_rfl) ⟨f2, f3⟩ ?_
      repeat (first | (refine rowK_step2 rfl rfl (fun K hK => ?_); go_wp2) | (refine rowK_step rfl (fun K hK => ?_); go_simp; refine hK _ ?_; clear hK K))
      refine rowK_nil ⟨fun w' e1 => ?_, ?_⟩
      · obtain ⟨e1, e2⟩ := e1
        clear f2 f3 t2 t3
        repeat (first | (refine rowWp_step2 rfl rfl (fun K hK => ?_); go_wp2) | (refine rowWp_step rfl (fun K hK => ?_); go_simp; refine hK _ ?_; clear hK K))
        exact rowWp_nil rfl
      refine drawn_next 8 (fuel := 2) rfl (by kernel_rfl) ?_
      intro K hK
      go_wp2_with fail
      refine ⟨⟨by go_simp, by go_simp⟩, ?_⟩
      refine named_world (A := fun X => OwB w.void ([(U2.heap.size, .cells (ints .u8 (zs 32)) 33), (bx, .cells #[.slice (some ⟨b3, 0, none⟩) 32 32] 49), (b4, .cells (ints .u8 (zs 32)) 33), (b3, .cells (ints .u8 k) 33), (b2, .cells #[.pointer (some ⟨tb, 0, none⟩)] 31)]) X ∧ DTabP lo tb X (makeT T (5, [k])).1 ∧ FrD lo w X) (Q := fun X => Go.Dr.wpAnyS Tryz.prog .any _ _ _ _ _ _ _ X) ⟨HU2.out.allocN _ _ rfl, HTU2.out.fr0 ((Fr.refl [] U2).alloc _), HFU2.out.alloc _⟩ ?_
      rintro U3 ⟨hU, hT, hF⟩
      clear f2 f3 t2 t3
      have la : w.heap.size ≤ U2.heap.size := HFU2.out.size
      generalize U2.heap.size = ba at hU la ⊢
      have f2 := hU.nth 4 rfl
      have f3 := hU.nth 3 rfl
      have t2 := World.at_lt f2
      have t3 := World.at_lt f3
      have HU3 := Lib.hid hU
      have HTU3 := Lib.hid hT
      have HFU3 := Lib.hid hF
      clear hU hT hF
      have fa := HU3.out.nth 0 rfl
      have f4 := HU3.out.nth 2 rfl
      have ta := World.at_lt fa
      have t4 := World.at_lt f4
      have na4 := HU3.out.ne 0 2 rfl rfl (by decide)
      have n4a := na4.symm
      have na2 := HU3.out.ne 0 4 rfl rfl (by decide)
      have na3 := HU3.out.ne 0 3 rfl rfl (by decide)
      have n2a := na2.symm
      have n3a := na3.symm
      refine drawn_next 9 (fuel := 1) rfl (by kernel_rfl) ?_
      intro K hK
      go_wp2_with fail
      refine ⟨⟨by go_simp, by go_simp⟩, ?_⟩
      clear f2 f3 t2 t3 na2 n2a na3 n3a
      refine drawn_end rfl (by kernel_rfl) ?_
      intro K hK
      go_wp2_with fail
      refine ret_cell rfl rfl rfl ?_
      go_simp
      exact ⟨by kernel_rfl, by rw [HKE.out], (HTU3.out.put fa (by decide) _).put (put_keep f4 na4) (by decide) _, (HFU3.out.put _ la).put _ l4⟩
    · intro K hK
      go_wp2_with fail
      refine ⟨⟨by go_simp, by go_simp⟩, ?_⟩
      refine named_world (A := fun X => OwB w.void ([(U1.heap.size, .cells (ints .u8 (zs 32)) 33), (bx, .cells #[.slice (some ⟨b3, 0, none⟩) 32 32] 49), (b4, .cells (ints .u8 (zs 32)) 33), (b3, .cells (ints .u8 k) 33), (b2, .cells #[.pointer (some ⟨tb, 0, none⟩)] 31)]) X ∧ DTabP lo tb X T ∧ FrD lo w X) (Q := fun X => Go.Dr.wpAnyS Tryz.prog .any _ _ _ _ _ _ _ X) ⟨HU1.out.allocN _ _ rfl, HTU1.out.fr0 ((Fr.refl [] U1).alloc _), HFU1.out.alloc _⟩ ?_
      rintro U4 ⟨hU, hT, hF⟩
      clear f2 f3 t2 t3
      have la : w.heap.size ≤ U1.heap.size := HFU1.out.size
      generalize U1.heap.size = ba at hU la ⊢
      have f2 := hU.nth 4 rfl
      have f3 := hU.nth 3 rfl
      have t2 := World.at_lt f2
      have t3 := World.at_lt f3
      have HU4 := Lib.hid hU
      have HTU4 := Lib.hid hT
      have HFU4 := Lib.hid hF
      clear hU hT hF
      refine drawn_next 4 (fuel := 5) rfl (by kernel_rfl) ?_
      intro K hK
      go_wp2_with fail
      refine (dmake_f HTU4.out (sll_one (HU4.out.nth 3 rfl) (HU4.out.nth 1 rfl) hk) (good_one (by decide) (by decide) hk HB.out)).mono ?_
      rintro e U5 ⟨rfl, hT, F⟩
      have HU5 := Lib.hid (HU4.out.callT F (by simp [other, DT]) (Nat.zero_le _))
      have HTU5 := Lib.hid hT
      have HFU5 := Lib.hid (HFU4.out.trans F)
      rw [HKE.out, HOKE.out]
      clear hT F f2 f3 t2 t3
      have f2 := HU5.out.nth 4 rfl
      have f3 := HU5.out.nth 3 rfl
      have t2 := World.at_lt f2
      have t3 := World.at_lt f3
      go_wp2_with fail
      refine ⟨⟨f2, f3⟩, ?_⟩
      refine drawn_reads (fuel := 2) [5, 6, 7] rfl (by kernel_rfl) ⟨f2, f3⟩ ?_
      repeat (first | (refine rowK_step2 rfl rfl (fun K hK => ?_); go_wp2) | (refine rowK_step rfl (fun K hK => ?_); go_simp; refine hK _ ?_; clear hK K))
      refine rowK_nil ⟨fun w' e1 => ?_, ?_⟩
      · obtain ⟨e1, e2⟩ := e1
        clear f2 f3 t2 t3
        repeat (first | (refine rowWp_step2 rfl rfl (fun K hK => ?_); go_wp2) | (refine rowWp_step rfl (fun K hK => ?_); go_simp; refine hK _ ?_; clear hK K))
        exact rowWp_nil rfl
      have fa := HU5.out.nth 0 rfl
      have f4 := HU5.out.nth 2 rfl
      have ta := World.at_lt fa
      have t4 := World.at_lt f4
      have na4 := HU5.out.ne 0 2 rfl rfl (by decide)
      have n4a := na4.symm
      have na2 := HU5.out.ne 0 4 rfl rfl (by decide)
      have na3 := HU5.out.ne 0 3 rfl rfl (by decide)
      have n2a := na2.symm
      have n3a := na3.symm
      refine drawn_next 9 (fuel := 1) rfl (by kernel_rfl) ?_
      intro K hK
      go_wp2_with fail
      refine ⟨⟨by go_simp, by go_simp⟩, ?_⟩
      clear f2 f3 t2 t3 na2 n2a na3 n3a
      refine drawn_end rfl (by kernel_rfl) ?_
      intro K hK
      go_wp2_with fail
      refine ret_cell rfl rfl rfl ?_
      go_simp
      exact ⟨by kernel_rfl, by rw [HKE.out], (HTU5.out.put fa (by decide) _).put (put_keep f4 na4) (by decide) _, (HFU5.out.put _ la).put _ l4⟩
  · intro K hK
    go_wp2_with fail
    refine ⟨⟨by go_simp, by go_simp⟩, ?_⟩
    refine named_world (A := fun X => OwB w.void ([(V.heap.size, .cells (ints .u8 (zs 32)) 33), (b4, .cells (ints .u8 (zs 32)) 33), (b3, .cells (ints .u8 k) 33), (b2, .cells #[.pointer (some ⟨tb, 0, none⟩)] 31)]) X ∧ DTabP lo tb X T ∧ FrD lo w X) (Q := fun X => Go.Dr.wpAnyS Tryz.prog .any _ _ _ _ _ _ _ X) ⟨HV1.out.allocN _ _ rfl, HTV1.out.fr0 ((Fr.refl [] V.drew).alloc _), HFV1.out.alloc _⟩ ?_
    rintro U6 ⟨hU, hT, hF⟩
    clear f2 f3 t2 t3
    have la : w.heap.size ≤ V.heap.size := HFV1.out.size
    generalize V.heap.size = ba at hU la ⊢
    have f2 := hU.nth 3 rfl
    have f3 := hU.nth 2 rfl
    have t2 := World.at_lt f2
    have t3 := World.at_lt f3
    have HU6 := Lib.hid hU
    have HTU6 := Lib.hid hT
    have HFU6 := Lib.hid hF
    clear hU hT hF
    refine drawn_next 3 (fuel := 6) rfl (by kernel_rfl) ?_
    intro K hK
    go_wp2_with fail
    refine ⟨⟨by go_simp, by go_simp⟩, ?_⟩
    refine named_world (A := fun X => OwB w.void ([(U6.heap.size, .cells #[.slice (some ⟨b3, 0, none⟩) 32 32] 49), (ba, .cells (ints .u8 (zs 32)) 33), (b4, .cells (ints .u8 (zs 32)) 33), (b3, .cells (ints .u8 k) 33), (b2, .cells #[.pointer (some ⟨tb, 0, none⟩)] 31)]) X ∧ DTabP lo tb X T ∧ FrD lo w X) (Q := fun X => Go.Dr.wpAnyS Tryz.prog .any _ _ _ _ _ _ _ X) ⟨HU6.out.allocN _ _ rfl, HTU6.out.fr0 ((Fr.refl [] U6).alloc _), HFU6.out.alloc _⟩ ?_
    rintro U7 ⟨hU, hT, hF⟩
    clear f2 f3 t2 t3
    generalize U6.heap.size = bx at hU ⊢
    have f2 := hU.nth 4 rfl
    have f3 := hU.nth 3 rfl
    have t2 := World.at_lt f2
    have t3 := World.at_lt f3
    have HU7 := Lib.hid hU
    have HTU7 := Lib.hid hT
    have HFU7 := Lib.hid hF
    clear hU hT hF
    refine drawn_next 4 (fuel := 5) rfl (by kernel_rfl) ?_
    intro K hK
    go_wp2_with fail
    refine (dmake_f HTU7.out (sll_one (HU7.out.nth 3 rfl) (HU7.out.nth 0 rfl) hk) (good_one (by decide) (by decide) hk HB.out)).mono ?_
    rintro e U8 ⟨rfl, hT, F⟩
    have HU8 := Lib.hid (HU7.out.callT F (by simp [other, DT]) (Nat.zero_le _))
    have HTU8 := Lib.hid hT
    have HFU8 := Lib.hid (HFU7.out.trans F)
    rw [HKE.out, HOKE.out]
    clear hT F f2 f3 t2 t3
    have f2 := HU8.out.nth 4 rfl
    have f3 := HU8.out.nth 3 rfl
    have t2 := World.at_lt f2
    have t3 := World.at_lt f3
    go_wp2_with fail
    refine ⟨⟨f2, f3⟩, ?_⟩
    refine drawn_reads (fuel := 2) [5, 6, 7] rfl (by kernel_rfl) ⟨f2, f3⟩ ?_
    repeat (first | (refine rowK_step2 rfl rfl (fun K hK => ?_); go_wp2) | (refine rowK_step rfl (fun K hK => ?_); go_simp; refine hK _ ?_; clear hK K))
    refine rowK_nil ⟨fun w' e1 => ?_, ?_⟩
    · obtain ⟨e1, e2⟩ := e1
      clear f2 f3 t2 t3
      repeat (first | (refine rowWp_step2 rfl rfl (fun K hK => ?_); go_wp2) | (refine rowWp_step rfl (fun K hK => ?_); go_simp; refine hK _ ?_; clear hK K))
      exact rowWp_nil rfl
    have fa := HU8.out.nth 1 rfl
    have f4 := HU8.out.nth 2 rfl
    have ta := World.at_lt fa
    have t4 := World.at_lt f4
    have na4 := HU8.out.ne 1 2 rfl rfl (by decide)
    have n4a := na4.symm
    have na2 := HU8.out.ne 1 4 rfl rfl (by decide)
    have na3 := HU8.out.ne 1 3 rfl rfl (by decide)
    have n2a := na2.symm
    have n3a := na3.symm
    refine drawn_next 9 (fuel := 1) rfl (by kernel_rfl) ?_
    intro K hK
    go_wp2_with fail
    refine ⟨⟨by go_simp, by go_simp⟩, ?_⟩
    clear f2 f3 t2 t3 na2 n2a na3 n3a
    refine drawn_end rfl (by kernel_rfl) ?_
    intro K hK
    go_wp2_with fail
    refine ret_cell rfl rfl rfl ?_
    go_simp
    exact ⟨by kernel_rfl, by rw [HKE.out], (HTU8.out.put fa (by decide) _).put (put_keep f4 na4) (by decide) _, (HFU8.out.put _ la).put _ l4⟩
set_option maxRecDepth 100000 in
set_option maxHeartbeats 2000000 in
theorem dpublic_f {lo tb : Nat} {T : List Tm} {k : List Int} (h : DTabP lo tb w T) (hk : k.length = 32) (hb : isBytes k) :
    Calls Tryz.prog 24 #[SU tb, .agg (ints .u8 k)] w fun e w' => e = .returned (.agg (ints .u8 (makeT T (2, [k])).2.1)) ∧ DTabP lo tb w' (makeT T (2, [k])).1 ∧ FrD lo w w' := by
  have H := Lib.hid h
  have HB := Lib.hid hb
  obtain ⟨k9, hke⟩ : ∃ k9, (makeT T (2, [k])).2.1 = k9 := ⟨_, rfl⟩
  obtain ⟨ok9, hok⟩ : ∃ ok9, (makeT T (2, [k])).2.2 = ok9 := ⟨_, rfl⟩
  have hk2 : k9.length = 32 := by rw [← hke]; exact makeT_len T (2, [k])
  have HKE := Lib.hid hke
  have HOKE := Lib.hid hok
  have s9 : (ints .u8 k9).size = 32 := by rw [size_ints, hk2]
  have y9 : lay (zs 32) 0 k9 = k9 := lay_full hk2
  clear h hb hke hok
  go_enter Tryz.func24, Tryz.ntmps24
  go_upto_region 3 with (fail)
  have l4 : w.heap.size ≤ w.heap.size + 1 + 1 := by omega
  refine named_world (A := fun X => OwB w.void [(w.heap.size + 1 + 1, .cells (ints .u8 (zs 32)) 33), (w.heap.size + 1, .cells (ints .u8 k) 33), (w.heap.size, .cells #[.pointer (some ⟨tb, 0, none⟩)] 31)] X ∧ DTabP lo tb X T ∧ FrD lo w X) (Q := fun X => Code.wp _ _ _ _ X) ⟨(((OwB.hold w).allocN _ w.heap.size rfl).allocN _ (w.heap.size + 1) (by simp)).allocN _ (w.heap.size + 1 + 1) (by simp), H.out.fr0 ((((Fr.refl [] w).alloc _).alloc _).alloc _), .of ((((Fr.refl [] w).alloc _).alloc _).alloc _)⟩ ?_
  rintro V ⟨hV, hT, hF⟩
  generalize w.heap.size + 1 + 1 = b4 at hV l4 ⊢
  generalize w.heap.size + 1 = b3 at hV ⊢
  generalize w.heap.size = b2 at hV ⊢
  have HV := Lib.hid hV
  have HTV := Lib.hid hT
  have HFV := Lib.hid hF
  clear hV hT hF
  refine drawn_begin 10 (fun w' => w'.blk b2 = some (.cells #[.pointer (some ⟨tb, 0, none⟩)] 31) ∧ w'.blk b3 = some (.cells (ints .u8 k) 33)) (by kernel_rfl) ?_
  have f2 := HV.out.nth 2 rfl
  have f3 := HV.out.nth 1 rfl
  have t2 := World.at_lt f2
  have t3 := World.at_lt f3
  refine drawn_reads (fuel := 8) [0, 1, 2] rfl (by kernel_rfl) ⟨f2, f3⟩ ?_
  repeat (first | (refine rowK_step2 rfl rfl (fun K hK => ?_); go_wp2) | (refine rowK_step rfl (fun K hK => ?_); go_simp; refine hK _ ?_; clear hK K))
  refine rowK_nil ⟨fun w' e1 => ?_, ?_⟩
  · obtain ⟨e1, e2⟩ := e1
    clear f2 f3 t2 t3
    repeat (first | (refine rowWp_step2 rfl rfl (fun K hK => ?_); go_wp2) | (refine rowWp_step rfl (fun K hK => ?_); go_simp; refine hK _ ?_; clear hK K))
    exact rowWp_nil rfl
  have HV1 := Lib.hid HV.out.drew
  have HTV1 := Lib.hid (HTV.out.fr0 (Fr.refl [] V).drew)
  have HFV1 := Lib.hid HFV.out.drew
  refine drawn_next2 3 8 (fuel := 7) rfl rfl (by kernel_rfl) ?_ ?_
  · intro K hK
    go_wp2_with fail
    refine ⟨⟨by go_simp, by go_simp⟩, ?_⟩
    refine named_world (A := fun X => OwB w.void ([(V.heap.size, .cells #[.slice (some ⟨b3, 0, none⟩) 32 32] 49), (b4, .cells (ints .u8 (zs 32)) 33), (b3, .cells (ints .u8 k) 33), (b2, .cells #[.pointer (some ⟨tb, 0, none⟩)] 31)]) X ∧ DTabP lo tb X T ∧ FrD lo w X) (Q := fun X => Go.Dr.wpAnyS Tryz.prog .any _ _ _ _ _ _ _ X) ⟨HV1.out.allocN _ _ rfl, HTV1.out.fr0 ((Fr.refl [] V.drew).alloc _), HFV1.out.alloc _⟩ ?_
    rintro U1 ⟨hU, hT, hF⟩
    clear f2 f3 t2 t3
    generalize V.heap.size = bx at hU ⊢
    have f2 := hU.nth 3 rfl
    have f3 := hU.nth 2 rfl
    have t2 := World.at_lt f2
    have t3 := World.at_lt f3
    have HU1 := Lib.hid hU
    have HTU1 := Lib.hid hT
    have HFU1 := Lib.hid hF
    clear hU hT hF
    refine drawn_next2 4 8 (fuel := 6) rfl rfl (by kernel_rfl) ?_ ?_
    · intro K hK
      go_wp2_with fail
      refine (dmake_f HTU1.out (sll_one (HU1.out.nth 2 rfl) (HU1.out.nth 0 rfl) hk) (good_one (by decide) (by decide) hk HB.out)).mono ?_
      rintro e U2 ⟨rfl, hT, F⟩
      have HU2 := Lib.hid (HU1.out.callT F (by simp [other, DT]) (Nat.zero_le _))
      have HTU2 := Lib.hid hT
      have HFU2 := Lib.hid (HFU1.out.trans F)
      rw [HKE.out, HOKE.out]
      clear hT F f2 f3 t2 t3
      have f2 := HU2.out.nth 3 rfl
      have f3 := HU2.out.nth 2 rfl
      have t2 := World.at_lt f2
      have t3 := World.at_lt f3
      go_wp2_with fail
      refine ⟨⟨f2, f3⟩, ?_⟩
      refine drawn_reads (fuel := 3) [5, 6, 7] rfl (by kernel_rfl) ⟨f2, f3⟩ ?_
      repeat (first | (refine rowK_step2 rfl rfl (fun K hK => ?_); go_wp2) | (refine rowK_step rfl (fun K hK => ?_); go_simp; refine hK _ ?_; clear hK K))
      refine rowK_nil ⟨fun w' e1 => ?_, ?_⟩
      · obtain ⟨e1, e2⟩ := e1
        clear f2 f3 t2 t3
        repeat (first | (refine rowWp_step2 rfl rfl (fun K hK => ?_); go_wp2) | (refine rowWp_step rfl (fun K hK => ?_); go_simp; refine hK _ ?_; clear hK K))
        exact rowWp_nil rfl
      refine drawn_next 8 (fuel := 2) rfl (by kernel_rfl) ?_
      intro K hK
      go_wp2_with fail
      refine ⟨⟨by go_simp, by go_simp⟩, ?_⟩
      refine named_world (A := fun X => OwB w.void ([(U2.heap.size, .cells (ints .u8 (zs 32)) 33), (bx, .cells #[.slice (some ⟨b3, 0, none⟩) 32 32] 49), (b4, .cells (ints .u8 (zs 32)) 33), (b3, .cells (ints .u8 k) 33), (b2, .cells #[.pointer (some ⟨tb, 0, none⟩)] 31)]) X ∧ DTabP lo tb X (makeT T (2, [k])).1 ∧ FrD lo w X) (Q := fun X => Go.Dr.wpAnyS Tryz.prog .any _ _ _ _ _ _ _ X) ⟨HU2.out.allocN _ _ rfl, HTU2.out.fr0 ((Fr.refl [] U2).alloc _), HFU2.out.alloc _⟩ ?_
      rintro U3 ⟨hU, hT, hF⟩
      clear f2 f3 t2 t3
      have la : w.heap.size ≤ U2.heap.size := HFU2.out.size
      generalize U2.heap.size = ba at hU la ⊢
      have f2 := hU.nth 4 rfl
      have f3 := hU.nth 3 rfl
      have t2 := World.at_lt f2
      have t3 := World.at_lt f3
      have HU3 := Lib.hid hU
      have HTU3 := Lib.hid hT
      have HFU3 := Lib.hid hF
      clear hU hT hF
      have fa := HU3.out.nth 0 rfl
      have f4 := HU3.out.nth 2 rfl
      have ta := World.at_lt fa
      have t4 := World.at_lt f4
      have na4 := HU3.out.ne 0 2 rfl rfl (by decide)
      have n4a := na4.symm
      have na2 := HU3.out.ne 0 4 rfl rfl (by decide)
      have na3 := HU3.out.ne 0 3 rfl rfl (by decide)
      have n2a := na2.symm
      have n3a := na3.symm
      refine drawn_next 9 (fuel := 1) rfl (by kernel_rfl) ?_
      intro K hK
      go_wp2_with fail
      refine ⟨⟨by go_simp, by go_simp⟩, ?_⟩
      clear f2 f3 t2 t3 na2 n2a na3 n3a
      refine drawn_end rfl (by kernel_rfl) ?_
      intro K hK
      go_wp2_with fail
      refine ret_cell rfl rfl rfl ?_
      go_simp
      exact ⟨by kernel_rfl, by rw [HKE.out], (HTU3.out.put fa (by decide) _).put (put_keep f4 na4) (by decide) _, (HFU3.out.put _ la).put _ l4⟩
    · intro K hK
      go_wp2_with fail
      refine ⟨⟨by go_simp, by go_simp⟩, ?_⟩
      refine named_world (A := fun X => OwB w.void ([(U1.heap.size, .cells (ints .u8 (zs 32)) 33), (bx, .cells #[.slice (some ⟨b3, 0, none⟩) 32 32] 49), (b4, .cells (ints .u8 (zs 32)) 33), (b3, .cells (ints .u8 k) 33), (b2, .cells #[.pointer (some ⟨tb, 0, none⟩)] 31)]) X ∧ DTabP lo tb X T ∧ FrD lo w X) (Q := fun X => Go.Dr.wpAnyS Tryz.prog .any _ _ _ _ _ _ _ X) ⟨HU1.out.allocN _ _ rfl, HTU1.out.fr0 ((Fr.refl [] U1).alloc _), HFU1.out.alloc _⟩ ?_
      rintro U4 ⟨hU, hT, hF⟩
      clear f2 f3 t2 t3
      have la : w.heap.size ≤ U1.heap.size := HFU1.out.size
      generalize U1.heap.size = ba at hU la ⊢
      have f2 := hU.nth 4 rfl
      have f3 := hU.nth 3 rfl
      have t2 := World.at_lt f2
      have t3 := World.at_lt f3
      have HU4 := Lib.hid hU
      have HTU4 := Lib.hid hT
      have HFU4 := Lib.hid hF
      clear hU hT hF
      refine drawn_next 4 (fuel := 5) rfl (by kernel_rfl) ?_
      intro K hK
      go_wp2_with fail
      refine (dmake_f HTU4.out (sll_one (HU4.out.nth 3 rfl) (HU4.out.nth 1 rfl) hk) (good_one (by decide) (by decide) hk HB.out)).mono ?_
      rintro e U5 ⟨rfl, hT, F⟩
      have HU5 := Lib.hid (HU4.out.callT F (by simp [other, DT]) (Nat.zero_le _))
      have HTU5 := Lib.hid hT
      have HFU5 := Lib.hid (HFU4.out.trans F)
      rw [HKE.out, HOKE.out]
      clear hT F f2 f3 t2 t3
      have f2 := HU5.out.nth 4 rfl
      have f3 := HU5.out.nth 3 rfl
      have t2 := World.at_lt f2
      have t3 := World.at_lt f3
      go_wp2_with fail
      refine ⟨⟨f2, f3⟩, ?_⟩
      refine drawn_reads (fuel := 2) [5, 6, 7] rfl (by kernel_rfl) ⟨f2, f3⟩ ?_
      repeat (first | (refine rowK_step2 rfl rfl (fun K hK => ?_); go_wp2) | (refine rowK_step rfl (fun K hK => ?_); go_simp; refine hK _ ?_; clear hK K))
      refine rowK_nil ⟨fun w' e1 => ?_, ?_⟩
      · obtain ⟨e1, e2⟩ := e1
        clear f2 f3 t2 t3
        repeat (first | (refine rowWp_step2 rfl rfl (fun K hK => ?_); go_wp2) | (refine rowWp_step rfl (fun K hK => ?_); go_simp; refine hK _ ?_; clear hK K))
        exact rowWp_nil rfl
      have fa := HU5.out.nth 0 rfl
      have f4 := HU5.out.nth 2 rfl
      have ta := World.at_lt fa
      have t4 := World.at_lt f4
      have na4 := HU5.out.ne 0 2 rfl rfl (by decide)
      have n4a := na4.symm
      have na2 := HU5.out.ne 0 4 rfl rfl (by decide)
      have na3 := HU5.out.ne 0 3 rfl rfl (by decide)
      have n2a := na2.symm
      have n3a := na3.symm
      refine drawn_next 9 (fuel := 1) rfl (by kernel_rfl) ?_
      intro K hK
      go_wp2_with fail
      refine ⟨⟨by go_simp, by go_simp⟩, ?_⟩
      clear f2 f3 t2 t3 na2 n2a na3 n3a
      refine drawn_end rfl (by kernel_rfl) ?_
      intro K hK
      go_wp2_with fail
      refine ret_cell rfl rfl rfl ?_
      go_simp
      exact ⟨by kernel_rfl, by rw [HKE.out], (HTU5.out.put fa (by decide) _).put (put_keep f4 na4) (by decide) _, (HFU5.out.put _ la).put _ l4⟩
  · intro K hK
    go_wp2_with fail
    refine ⟨⟨by go_simp, by go_simp⟩, ?_⟩
    refine named_world (A := fun X => OwB w.void ([(V.heap.size, .cells (ints .u8 (zs 32)) 33), (b4, .cells (ints .u8 (zs 32)) 33), (b3, .cells (ints .u8 k) 33), (b2, .cells #[.pointer (some ⟨tb, 0, none⟩)] 31)]) X ∧ DTabP lo tb X T ∧ FrD lo w X) (Q := fun X => Go.Dr.wpAnyS Tryz.prog .any _ _ _ _ _ _ _ X) ⟨HV1.out.allocN _ _ rfl, HTV1.out.fr0 ((Fr.refl [] V.drew).alloc _), HFV1.out.alloc _⟩ ?_
    rintro U6 ⟨hU, hT, hF⟩
    clear f2 f3 t2 t3
    have la : w.heap.size ≤ V.heap.size := HFV1.out.size
    generalize V.heap.size = ba at hU la ⊢
    have f2 := hU.nth 3 rfl
    have f3 := hU.nth 2 rfl
    have t2 := World.at_lt f2
    have t3 := World.at_lt f3
    have HU6 := Lib.hid hU
    have HTU6 := Lib.hid hT
    have HFU6 := Lib.hid hF
    clear hU hT hF
    refine drawn_next 3 (fuel := 6) rfl (by kernel_rfl) ?_
    intro K hK
    go_wp2_with fail
    refine ⟨⟨by go_simp, by go_simp⟩, ?_⟩
    refine named_world (A := fun X => OwB w.void ([(U6.heap.size, .cells #[.slice (some ⟨b3, 0, none⟩) 32 32] 49), (ba, .cells (ints .u8 (zs 32)) 33), (b4, .cells (ints .u8 (zs 32)) 33), (b3, .cells (ints .u8 k) 33), (b2, .cells #[.pointer (some ⟨tb, 0, none⟩)] 31)]) X ∧ DTabP lo tb X T ∧ FrD lo w X) (Q := fun X => Go.Dr.wpAnyS Tryz.prog .any _ _ _ _ _ _ _ X) ⟨HU6.out.allocN _ _ rfl, HTU6.out.fr0 ((Fr.refl [] U6).alloc _), HFU6.out.alloc _⟩ ?_
    rintro U7 ⟨hU, hT, hF⟩
    clear f2 f3 t2 t3
    generalize U6.heap.size = bx at hU ⊢
    have f2 := hU.nth 4 rfl
    have f3 := hU.nth 3 rfl
    have t2 := World.at_lt f2
    have t3 := World.at_lt f3
    have HU7 := Lib.hid hU
    have HTU7 := Lib.hid hT
    have HFU7 := Lib.hid hF
    clear hU hT hF
    refine drawn_next 4 (fuel := 5) rfl (by kernel_rfl) ?_
    intro K hK
    go_wp2_with fail
    refine (dmake_f HTU7.out (sll_one (HU7.out.nth 3 rfl) (HU7.out.nth 0 rfl) hk) (good_one (by decide) (by decide) hk HB.out)).mono ?_
    rintro e U8 ⟨rfl, hT, F⟩
    have HU8 := Lib.hid (HU7.out.callT F (by simp [other, DT]) (Nat.zero_le _))
    have HTU8 := Lib.hid hT
    have HFU8 := Lib.hid (HFU7.out.trans F)
    rw [HKE.out, HOKE.out]
    clear hT F f2 f3 t2 t3
    have f2 := HU8.out.nth 4 rfl
    have f3 := HU8.out.nth 3 rfl
    have t2 := World.at_lt f2
    have t3 := World.at_lt f3
    go_wp2_with fail
    refine ⟨⟨f2, f3⟩, ?_⟩
    refine drawn_reads (fuel := 2) [5, 6, 7] rfl (by kernel_rfl) ⟨f2, f3⟩ ?_
    repeat (first | (refine rowK_step2 rfl rfl (fun K hK => ?_); go_wp2) | (refine rowK_step rfl (fun K hK => ?_); go_simp; refine hK _ ?_; clear hK K))
    refine rowK_nil ⟨fun w' e1 => ?_, ?_⟩
    · obtain ⟨e1, e2⟩ := e1
      clear f2 f3 t2 t3
      repeat (first | (refine rowWp_step2 rfl rfl (fun K hK => ?_); go_wp2) | (refine rowWp_step rfl (fun K hK => ?_); go_simp; refine hK _ ?_; clear hK K))
      exact rowWp_nil rfl
    have fa := HU8.out.nth 1 rfl
    have f4 := HU8.out.nth 2 rfl
    have ta := World.at_lt fa
    have t4 := World.at_lt f4
    have na4 := HU8.out.ne 1 2 rfl rfl (by decide)
    have n4a := na4.symm
    have na2 := HU8.out.ne 1 4 rfl rfl (by decide)
    have na3 := HU8.out.ne 1 3 rfl rfl (by decide)
    have n2a := na2.symm
    have n3a := na3.symm
    refine drawn_next 9 (fuel := 1) rfl (by kernel_rfl) ?_
    intro K hK
    go_wp2_with fail
    refine ⟨⟨by go_simp, by go_simp⟩, ?_⟩
    clear f2 f3 t2 t3 na2 n2a na3 n3a
    refine drawn_end rfl (by kernel_rfl) ?_
    intro K hK
    go_wp2_with fail
    refine ret_cell rfl rfl rfl ?_
    go_simp
    exact ⟨by kernel_rfl, by rw [HKE.out], (HTU8.out.put fa (by decide) _).put (put_keep f4 na4) (by decide) _, (HFU8.out.put _ la).put _ l4⟩
set_option maxRecDepth 100000 in
set_option maxHeartbeats 2000000 in
theorem dfresh_f {lo tb : Nat} {T : List Tm} {k : List Int} (h : DTabP lo tb w T) (hk : k.length = 32) (hb : isBytes k) :
    Calls Tryz.prog 54 #[SU tb, .agg (ints .u8 k)] w fun e w' => e = .returned (.agg (ints .u8 (makeT T (1, [k])).2.1)) ∧ DTabP lo tb w' (makeT T (1, [k])).1 ∧ FrD lo w w' := by
  have H := Lib.hid h
  have HB := Lib.hid hb
  obtain ⟨k9, hke⟩ : ∃ k9, (makeT T (1, [k])).2.1 = k9 := ⟨_, rfl⟩
  obtain ⟨ok9, hok⟩ : ∃ ok9, (makeT T (1, [k])).2.2 = ok9 := ⟨_, rfl⟩
  have hk2 : k9.length = 32 := by rw [← hke]; exact makeT_len T (1, [k])
  have HKE := Lib.hid hke
  have HOKE := Lib.hid hok
  have s9 : (ints .u8 k9).size = 32 := by rw [size_ints, hk2]
  have y9 : lay (zs 32) 0 k9 = k9 := lay_full hk2
  clear h hb hke hok
  go_enter Tryz.func54, Tryz.ntmps54
  go_upto_region 3 with (fail)
  have l4 : w.heap.size ≤ w.heap.size + 1 + 1 := by omega
  refine named_world (A := fun X => OwB w.void [(w.heap.size + 1 + 1, .cells (ints .u8 (zs 32)) 33), (w.heap.size + 1, .cells (ints .u8 k) 33), (w.heap.size, .cells #[.pointer (some ⟨tb, 0, none⟩)] 31)] X ∧ DTabP lo tb X T ∧ FrD lo w X) (Q := fun X => Code.wp _ _ _ _ X) ⟨(((OwB.hold w).allocN _ w.heap.size rfl).allocN _ (w.heap.size + 1) (by simp)).allocN _ (w.heap.size + 1 + 1) (by simp), H.out.fr0 ((((Fr.refl [] w).alloc _).alloc _).alloc _), .of ((((Fr.refl [] w).alloc _).alloc _).alloc _)⟩ ?_
  rintro V ⟨hV, hT, hF⟩
  generalize w.heap.size + 1 + 1 = b4 at hV l4 ⊢
  generalize w.heap.size + 1 = b3 at hV ⊢
  generalize w.heap.size = b2 at hV ⊢
  have HV := Lib.hid hV
  have HTV := Lib.hid hT
  have HFV := Lib.hid hF
  clear hV hT hF
  refine drawn_begin 10 (fun w' => w'.blk b2 = some (.cells #[.pointer (some ⟨tb, 0, none⟩)] 31) ∧ w'.blk b3 = some (.cells (ints .u8 k) 33)) (by kernel_rfl) ?_
  have f2 := HV.out.nth 2 rfl
  have f3 := HV.out.nth 1 rfl
  have t2 := World.at_lt f2
  have t3 := World.at_lt f3
  refine drawn_reads (fuel := 8) [0, 1, 2] rfl (by kernel_rfl) ⟨f2, f3⟩ ?_
  repeat (first | (refine rowK_step2 rfl rfl (fun K hK => ?_); go_wp2) | (refine rowK_step rfl (fun K hK => ?_); go_simp; refine hK _ ?_; clear hK K))
  refine rowK_nil ⟨fun w' e1 => ?_, ?_⟩
  · obtain ⟨e1, e2⟩ := e1
    clear f2 f3 t2 t3
    repeat (first | (refine rowWp_step2 rfl rfl (fun K hK => ?_); go_wp2) | (refine rowWp_step rfl (fun K hK => ?_); go_simp; refine hK _ ?_; clear hK K))
    exact rowWp_nil rfl
  have HV1 := Lib.hid HV.out.drew
  have HTV1 := Lib.hid (HTV.out.fr0 (Fr.refl [] V).drew)
  have HFV1 := Lib.hid HFV.out.drew
  refine drawn_next2 3 8 (fuel := 7) rfl rfl (by kernel_rfl) ?_ ?_
  · intro K hK
    go_wp2_with fail
    refine ⟨⟨by go_simp, by go_simp⟩, ?_⟩
    refine named_world (A := fun X => OwB w.void ([(V.heap.size, .cells #[.slice (some ⟨b3, 0, none⟩) 32 32] 49), (b4, .cells (ints .u8 (zs 32)) 33), (b3, .cells (ints .u8 k) 33), (b2, .cells #[.pointer (some ⟨tb, 0, none⟩)] 31)]) X ∧ DTabP lo tb X T ∧ FrD lo w X) (Q := fun X => Go.Dr.wpAnyS Tryz.prog .any _ _ _ _ _ _ _ X) ⟨HV1.out.allocN _ _ rfl, HTV1.out.fr0 ((Fr.refl [] V.drew).alloc _), HFV1.out.alloc _⟩ ?_
    rintro U1 ⟨hU, hT, hF⟩
    clear f2 f3 t2 t3
    generalize V.heap.size = bx at hU ⊢
    have f2 := hU.nth 3 rfl
    have f3 := hU.nth 2 rfl
    have t2 := World.at_lt f2
    have t3 := World.at_lt f3
    have HU1 := Lib.hid hU
    have HTU1 := Lib.hid hT
    have HFU1 := Lib.hid hF
    clear hU hT hF
    refine drawn_next2 4 8 (fuel := 6) rfl rfl (by kernel_rfl) ?_ ?_
    · intro K hK
      go_wp2_with fail
      refine (dmake_f HTU1.out (sll_one (HU1.out.nth 2 rfl) (HU1.out.nth 0 rfl) hk) (good_one (by decide) (by decide) hk HB.out)).mono ?_
      rintro e U2 ⟨rfl, hT, F⟩
      have HU2 := Lib.hid (HU1.out.callT F (by simp [other, DT]) (Nat.zero_le _))
      have HTU2 := Lib.hid hT
      have HFU2 := Lib.hid (HFU1.out.trans F)
      rw [HKE.out, HOKE.out]
      clear hT F f2 f3 t2 t3
      have f2 := HU2.out.nth 3 rfl
      have f3 := HU2.out.nth 2 rfl
      have t2 := World.at_lt f2
      have t3 := World.at_lt f3
      go_wp2_with fail
      refine ⟨⟨f2, f3⟩, ?_⟩
      refine drawn_reads (fuel := 3) [5, 6, 7] rfl (by kernel_rfl) ⟨f2, f3⟩ ?_
      repeat (first | (refine rowK_step2 rfl rfl (fun K hK => ?_); go_wp2) | (refine rowK_step rfl (fun K hK => ?_); go_simp; refine hK _ ?_; clear hK K))
      refine rowK_nil ⟨fun w' e1 => ?_, ?_⟩
      · obtain ⟨e1, e2⟩ := e1
        clear f2 f3 t2 t3
        repeat (first | (refine rowWp_step2 rfl rfl (fun K hK => ?_); go_wp2) | (refine rowWp_step rfl (fun K hK => ?_); go_simp; refine hK _ ?_; clear hK K))
        exact rowWp_nil rfl
      refine drawn_next 8 (fuel := 2) rfl (by kernel_rfl) ?_
      intro K hK
      go_wp2_with fail
      refine ⟨⟨by go_simp, by go_simp⟩, ?_⟩
      refine named_world (A := fun X => OwB w.void ([(U2.heap.size, .cells (ints .u8 (zs 32)) 33), (bx, .cells #[.slice (some ⟨b3, 0, none⟩) 32 32] 49), (b4, .cells (ints .u8 (zs 32)) 33), (b3, .cells (ints .u8 k) 33), (b2, .cells #[.pointer (some ⟨tb, 0, none⟩)] 31)]) X ∧ DTabP lo tb X (makeT T (1, [k])).1 ∧ FrD lo w X) (Q := fun X => Go.Dr.wpAnyS Tryz.prog .any _ _ _ _ _ _ _ X) ⟨HU2.out.allocN _ _ rfl, HTU2.out.fr0 ((Fr.refl [] U2).alloc _), HFU2.out.alloc _⟩ ?_
      rintro U3 ⟨hU, hT, hF⟩
      clear f2 f3 t2 t3
      have la : w.heap.size ≤ U2.heap.size := HFU2.out.size
      generalize U2.heap.size = ba at hU la ⊢
      have f2 := hU.nth 4 rfl
      have f3 := hU.nth 3 rfl
      have t2 := World.at_lt f2
      have t3 := World.at_lt f3
      have HU3 := Lib.hid hU
      have HTU3 := Lib.hid hT
      have HFU3 := Lib.hid hF
      clear hU hT hF
      have fa := HU3.out.nth 0 rfl
      have f4 := HU3.out.nth 2 rfl
      have ta := World.at_lt fa
      have t4 := World.at_lt f4
      have na4 := HU3.out.ne 0 2 rfl rfl (by decide)
      have n4a := na4.symm
      have na2 := HU3.out.ne 0 4 rfl rfl (by decide)
      have na3 := HU3.out.ne 0 3 rfl rfl (by decide)
      have n2a := na2.symm
      have n3a := na3.symm
      refine drawn_next 9 (fuel := 1) rfl (by kernel_rfl) ?_
      intro K hK
      go_wp2_with fail
      refine ⟨⟨by go_simp, by go_simp⟩, ?_⟩
      clear f2 f3 t2 t3 na2 n2a na3 n3a
      refine drawn_end rfl (by kernel_rfl) ?_
      intro K hK
      go_wp2_with fail
      refine ret_cell rfl rfl rfl ?_
      go_simp
      exact ⟨by kernel_rfl, by rw [HKE.out], (HTU3.out.put fa (by decide) _).put (put_keep f4 na4) (by decide) _, (HFU3.out.put _ la).put _ l4⟩
    · intro K hK
      go_wp2_with fail
      refine ⟨⟨by go_simp, by go_simp⟩, ?_⟩
      refine named_world (A := fun X => OwB w.void ([(U1.heap.size, .cells (ints .u8 (zs 32)) 33), (bx, .cells #[.slice (some ⟨b3, 0, none⟩) 32 32] 49), (b4, .cells (ints .u8 (zs 32)) 33), (b3, .cells (ints .u8 k) 33), (b2, .cells #[.pointer (some ⟨tb, 0, none⟩)] 31)]) X ∧ DTabP lo tb X T ∧ FrD lo w X) (Q := fun X => Go.Dr.wpAnyS Tryz.prog .any _ _ _ _ _ _ _ X) ⟨HU1.out.allocN _ _ rfl, HTU1.out.fr0 ((Fr.refl [] U1).alloc _), HFU1.out.alloc _⟩ ?_
      rintro U4 ⟨hU, hT, hF⟩
      clear f2 f3 t2 t3
      have la : w.heap.size ≤ U1.heap.size := HFU1.out.size
      generalize U1.heap.size = ba at hU la ⊢
      have f2 := hU.nth 4 rfl
      have f3 := hU.nth 3 rfl
      have t2 := World.at_lt f2
      have t3 := World.at_lt f3
      have HU4 := Lib.hid hU
      have HTU4 := Lib.hid hT
      have HFU4 := Lib.hid hF
      clear hU hT hF
      refine drawn_next 4 (fuel := 5) rfl (by kernel_rfl) ?_
      intro K hK
      go_wp2_with fail
      refine (dmake_f HTU4.out (sll_one (HU4.out.nth 3 rfl) (HU4.out.nth 1 rfl) hk) (good_one (by decide) (by decide) hk HB.out)).mono ?_
      rintro e U5 ⟨rfl, hT, F⟩
      have HU5 := Lib.hid (HU4.out.callT F (by simp [other, DT]) (Nat.zero_le _))
      have HTU5 := Lib.hid hT
      have HFU5 := Lib.hid (HFU4.out.trans F)
      rw [HKE.out, HOKE.out]
      clear hT F f2 f3 t2 t3
      have f2 := HU5.out.nth 4 rfl
      have f3 := HU5.out.nth 3 rfl
      have t2 := World.at_lt f2
      have t3 := World.at_lt f3
      go_wp2_with fail
      refine ⟨⟨f2, f3⟩, ?_⟩
      refine drawn_reads (fuel := 2) [5, 6, 7] rfl (by kernel_rfl) ⟨f2, f3⟩ ?_
      repeat (first | (refine rowK_step2 rfl rfl (fun K hK => ?_); go_wp2) | (refine rowK_step rfl (fun K hK => ?_); go_simp; refine hK _ ?_; clear hK K))
      refine rowK_nil ⟨fun w' e1 => ?_, ?_⟩
      · obtain ⟨e1, e2⟩ := e1
        clear f2 f3 t2 t3
        repeat (first | (refine rowWp_step2 rfl rfl (fun K hK => ?_); go_wp2) | (refine rowWp_step rfl (fun K hK => ?_); go_simp; refine hK _ ?_; clear hK K))
        exact rowWp_nil rfl
      have fa := HU5.out.nth 0 rfl
      have f4 := HU5.out.nth 2 rfl
      have ta := World.at_lt fa
      have t4 := World.at_lt f4
      have na4 := HU5.out.ne 0 2 rfl rfl (by decide)
      have n4a := na4.symm
      have na2 := HU5.out.ne 0 4 rfl rfl (by decide)
      have na3 := HU5.out.ne 0 3 rfl rfl (by decide)
      have n2a := na2.symm
      have n3a := na3.symm
      refine drawn_next 9 (fuel := 1) rfl (by kernel_rfl) ?_
      intro K hK
      go_wp2_with fail
      refine ⟨⟨by go_simp, by go_simp⟩, ?_⟩
      clear f2 f3 t2 t3 na2 n2a na3 n3a
      refine drawn_end rfl (by kernel_rfl) ?_
      intro K hK
      go_wp2_with fail
      refine ret_cell rfl rfl rfl ?_
      go_simp
      exact ⟨by kernel_rfl, by rw [HKE.out], (HTU5.out.put fa (by decide) _).put (put_keep f4 na4) (by decide) _, (HFU5.out.put _ la).put _ l4⟩
  · intro K hK
    go_wp2_with fail
    refine ⟨⟨by go_simp, by go_simp⟩, ?_⟩
    refine named_world (A := fun X => OwB w.void ([(V.heap.size, .cells (ints .u8 (zs 32)) 33), (b4, .cells (ints .u8 (zs 32)) 33), (b3, .cells (ints .u8 k) 33), (b2, .cells #[.pointer (some ⟨tb, 0, none⟩)] 31)]) X ∧ DTabP lo tb X T ∧ FrD lo w X) (Q := fun X => Go.Dr.wpAnyS Tryz.prog .any _ _ _ _ _ _ _ X) ⟨HV1.out.allocN _ _ rfl, HTV1.out.fr0 ((Fr.refl [] V.drew).alloc _), HFV1.out.alloc _⟩ ?_
    rintro U6 ⟨hU, hT, hF⟩
    clear f2 f3 t2 t3
    have la : w.heap.size ≤ V.heap.size := HFV1.out.size
    generalize V.heap.size = ba at hU la ⊢
    have f2 := hU.nth 3 rfl
    have f3 := hU.nth 2 rfl
    have t2 := World.at_lt f2
    have t3 := World.at_lt f3
    have HU6 := Lib.hid hU
    have HTU6 := Lib.hid hT
    have HFU6 := Lib.hid hF
    clear hU hT hF
    refine drawn_next 3 (fuel := 6) rfl (by kernel_rfl) ?_
    intro K hK
    go_wp2_with fail
    refine ⟨⟨by go_simp, by go_simp⟩, ?_⟩
    refine named_world (A := fun X => OwB w.void ([(U6.heap.size, .cells #[.slice (some ⟨b3, 0, none⟩) 32 32] 49), (ba, .cells (ints .u8 (zs 32)) 33), (b4, .cells (ints .u8 (zs 32)) 33), (b3, .cells (ints .u8 k) 33), (b2, .cells #[.pointer (some ⟨tb, 0, none⟩)] 31)]) X ∧ DTabP lo tb X T ∧ FrD lo w X) (Q := fun X => Go.Dr.wpAnyS Tryz.prog .any _ _ _ _ _ _ _ X) ⟨HU6.out.allocN _ _ rfl, HTU6.out.fr0 ((Fr.refl [] U6).alloc _), HFU6.out.alloc _⟩ ?_
    rintro U7 ⟨hU, hT, hF⟩
    clear f2 f3 t2 t3
    generalize U6.heap.size = bx at hU ⊢
    have f2 := hU.nth 4 rfl
    have f3 := hU.nth 3 rfl
    have t2 := World.at_lt f2
    have t3 := World.at_lt f3
    have HU7 := Lib.hid hU
    have HTU7 := Lib.hid hT
    have HFU7 := Lib.hid hF
    clear hU hT hF
    refine drawn_next 4 (fuel := 5) rfl (by kernel_rfl) ?_
    intro K hK
    go_wp2_with fail
    refine (dmake_f HTU7.out (sll_one (HU7.out.nth 3 rfl) (HU7.out.nth 0 rfl) hk) (good_one (by decide) (by decide) hk HB.out)).mono ?_
    rintro e U8 ⟨rfl, hT, F⟩
    have HU8 := Lib.hid (HU7.out.callT F (by simp [other, DT]) (Nat.zero_le _))
    have HTU8 := Lib.hid hT
    have HFU8 := Lib.hid (HFU7.out.trans F)
    rw [HKE.out, HOKE.out]
    clear hT F f2 f3 t2 t3
    have f2 := HU8.out.nth 4 rfl
    have f3 := HU8.out.nth 3 rfl
    have t2 := World.at_lt f2
    have t3 := World.at_lt f3
    go_wp2_with fail
    refine ⟨⟨f2, f3⟩, ?_⟩
    refine drawn_reads (fuel := 2) [5, 6, 7] rfl (by kernel_rfl) ⟨f2, f3⟩ ?_
    repeat (first | (refine rowK_step2 rfl rfl (fun K hK => ?_); go_wp2) | (refine rowK_step rfl (fun K hK => ?_); go_simp; refine hK _ ?_; clear hK K))
    refine rowK_nil ⟨fun w' e1 => ?_, ?_⟩
    · obtain ⟨e1, e2⟩ := e1
      clear f2 f3 t2 t3
      repeat (first | (refine rowWp_step2 rfl rfl (fun K hK => ?_); go_wp2) | (refine rowWp_step rfl (fun K hK => ?_); go_simp; refine hK _ ?_; clear hK K))
      exact rowWp_nil rfl
    have fa := HU8.out.nth 1 rfl
    have f4 := HU8.out.nth 2 rfl
    have ta := World.at_lt fa
    have t4 := World.at_lt f4
    have na4 := HU8.out.ne 1 2 rfl rfl (by decide)
    have n4a := na4.symm
    have na2 := HU8.out.ne 1 4 rfl rfl (by decide)
    have na3 := HU8.out.ne 1 3 rfl rfl (by decide)
    have n2a := na2.symm
    have n3a := na3.symm
    refine drawn_next 9 (fuel := 1) rfl (by kernel_rfl) ?_
    intro K hK
    go_wp2_with fail
    refine ⟨⟨by go_simp, by go_simp⟩, ?_⟩
    clear f2 f3 t2 t3 na2 n2a na3 n3a
    refine drawn_end rfl (by kernel_rfl) ?_
    intro K hK
    go_wp2_with fail
    refine ret_cell rfl rfl rfl ?_
    go_simp
    exact ⟨by kernel_rfl, by rw [HKE.out], (HTU8.out.put fa (by decide) _).put (put_keep f4 na4) (by decide) _, (HFU8.out.put _ la).put _ l4⟩
set_option maxRecDepth 100000 in
set_option maxHeartbeats 2000000 in
theorem dsign_f {lo tb : Nat} {T : List Tm} {k t : List Int} {p : Option Addr} {n cap : Nat} (h : DTabP lo tb w T) (hk : k.length = 32) (hb : isBytes k) (S : Sl .u8 w p n cap t) (ht : isBytes t) (hst : ∀ X, FrD lo w X → Sl .u8 X p n cap t) :
    Calls Tryz.prog 25 #[SU tb, .agg (ints .u8 k), .slice p n cap] w fun e w' => e = .returned (.agg (ints .u8 (signF T k t).2)) ∧ DTabP lo tb w' (signF T k t).1 ∧ FrD lo w w' := by
  have H := Lib.hid h
  have HB := Lib.hid hb
  have HTB := Lib.hid ht
  have HN := Lib.hid S.len
  have HSS := Lib.hid (fun X (L : List (Nat × Obj)) (_ : OwB w.void L X) (hF : FrD lo w X) => hst X hF)
  obtain ⟨k9, hke⟩ : ∃ k9, (makeT T (6, [k, t])).2.1 = k9 := ⟨_, rfl⟩
  obtain ⟨ok9, hok⟩ : ∃ ok9, (makeT T (6, [k, t])).2.2 = ok9 := ⟨_, rfl⟩
  have hk2 : k9.length = 32 := by rw [← hke]; exact makeT_len T (6, [k, t])
  have HKE := Lib.hid hke
  have HOKE := Lib.hid hok
  have s9 : (ints .u8 k9).size = 32 := by rw [size_ints, hk2]
  have sz64 : (ints .u8 (k9 ++ zs 32)).size = 64 := by rw [size_ints, List.length_append, hk2]; rfl
  have y9 : lay (zs 32) 0 k9 = k9 := lay_full hk2
  have y10 : lay (zs 64) 0 k9 = k9 ++ zs 32 := by simp [lay, zs, hk2]
  have y11 : lay (zs 64) 0 (k9 ++ zs 32) = k9 ++ zs 32 := by simp [lay, zs, hk2]
  clear h hb hke hok S ht hst
  go_enter Tryz.func25, Tryz.ntmps25
  go_upto_region 2 with (fail)
  have l4 : w.heap.size ≤ w.heap.size + 1 + 1 := by omega
  have l7 : w.heap.size ≤ w.heap.size + 1 + 1 + 1 := by omega
  refine named_world (A := fun X => OwB w.void [(w.heap.size + 1 + 1 + 1, .cells (ints .u8 (zs 64)) 44), (w.heap.size + 1 + 1, .cells (ints .u8 (zs 64)) 44), (w.heap.size + 1, .cells (ints .u8 k) 33), (w.heap.size, .cells #[.pointer (some ⟨tb, 0, none⟩)] 31)] X ∧ DTabP lo tb X T ∧ FrD lo w X) (Q := fun X => Code.wp _ _ _ _ X) ⟨((((OwB.hold w).allocN _ w.heap.size rfl).allocN _ (w.heap.size + 1) (by simp)).allocN _ (w.heap.size + 1 + 1) (by simp)).allocN _ (w.heap.size + 1 + 1 + 1) (by simp), H.out.fr0 (((((Fr.refl [] w).alloc _).alloc _).alloc _).alloc _), .of (((((Fr.refl [] w).alloc _).alloc _).alloc _).alloc _)⟩ ?_
  rintro V ⟨hV, hT, hF⟩
  generalize w.heap.size + 1 + 1 + 1 = b7 at hV l7 ⊢
  generalize w.heap.size + 1 + 1 = b4 at hV l4 ⊢
  generalize w.heap.size + 1 = b3 at hV ⊢
  generalize w.heap.size = b2 at hV ⊢
  have HV := Lib.hid hV
  have HTV := Lib.hid hT
  have HFV := Lib.hid hF
  clear hV hT hF
  by_cases hn : 4096 < n
  · have d1 : decide ((n : Int) > 4096) = true := by rw [decide_eq_true_eq]; omega
    have hsg : signF T k t = (T, zeros 64) := by unfold signF; rw [if_pos (by rw [HN.out]; exact hn)]
    have HSG := Lib.hid hsg
    have f7 := HV.out.nth 0 rfl
    have f4 := HV.out.nth 1 rfl
    have t7 := World.at_lt f7
    have t4 := World.at_lt f4
    have n74 := HV.out.ne 0 1 rfl rfl (by decide)
    have n47 := n74.symm
    clear hsg
    go_wp2_with fail
    refine ret_cell rfl rfl rfl ?_
    go_simp
    rw [HSG.out]
    exact ⟨by kernel_rfl, by kernel_rfl, HTV.out.put f4 (by decide) _, HFV.out.put _ l4⟩
  · have d1 : decide ((n : Int) > 4096) = false := by rw [decide_eq_false_iff_not]; omega
    have hsg : signF T k t = ((makeT T (6, [k, t])).1, k9 ++ zs 32) := by unfold signF; rw [if_neg (by rw [HN.out]; exact hn), HKE.out]; rfl
    have HSG := Lib.hid hsg
    have hl4 : t.length ≤ 4096 := by rw [HN.out]; omega
    clear hsg
    have f2 := HV.out.nth 3 rfl
    have f3 := HV.out.nth 2 rfl
    have t2 := World.at_lt f2
    have t3 := World.at_lt f3
    go_upto_region 6 with (fail)
    refine drawn_begin 11 (fun w' => w'.blk b2 = some (.cells #[.pointer (some ⟨tb, 0, none⟩)] 31) ∧ w'.blk b3 = some (.cells (ints .u8 k) 33)) (by kernel_rfl) ?_
    refine drawn_reads (fuel := 8) [0, 1, 2, 3] rfl (by kernel_rfl) ⟨f2, f3⟩ ?_
    repeat (first | (refine rowK_step2 rfl rfl (fun K hK => ?_); go_wp2) | (refine rowK_step rfl (fun K hK => ?_); go_simp; refine hK _ ?_; clear hK K))
    refine rowK_nil ⟨fun w' e1 => ?_, ?_⟩
    · obtain ⟨e1, e2⟩ := e1
      clear f2 f3 t2 t3
      repeat (first | (refine rowWp_step2 rfl rfl (fun K hK => ?_); go_wp2) | (refine rowWp_step rfl (fun K hK => ?_); go_simp; refine hK _ ?_; clear hK K))
      exact rowWp_nil rfl
    have HV1 := Lib.hid HV.out.drew
    have HTV1 := Lib.hid (HTV.out.fr0 (Fr.refl [] V).drew)
    have HFV1 := Lib.hid HFV.out.drew
    refine drawn_next2 4 9 (fuel := 7) rfl rfl (by kernel_rfl) ?_ ?_
    · intro K hK
      go_wp2_with fail
      refine ⟨⟨by go_simp, by go_simp⟩, ?_⟩
      refine named_world (A := fun X => OwB w.void ([(V.heap.size, .cells #[.slice (some ⟨b3, 0, none⟩) 32 32, .slice p n cap] 49), (b7, .cells (ints .u8 (zs 64)) 44), (b4, .cells (ints .u8 (zs 64)) 44), (b3, .cells (ints .u8 k) 33), (b2, .cells #[.pointer (some ⟨tb, 0, none⟩)] 31)]) X ∧ DTabP lo tb X T ∧ FrD lo w X) (Q := fun X => Go.Dr.wpAnyS Tryz.prog .any _ _ _ _ _ _ _ X) ⟨HV1.out.allocN _ _ rfl, HTV1.out.fr0 ((Fr.refl [] V.drew).alloc _), HFV1.out.alloc _⟩ ?_
      rintro U1 ⟨hU, hT, hF⟩
      clear f2 f3 t2 t3
      generalize V.heap.size = bx at hU ⊢
      have f2 := hU.nth 4 rfl
      have f3 := hU.nth 3 rfl
      have t2 := World.at_lt f2
      have t3 := World.at_lt f3
      have HU1 := Lib.hid hU
      have HTU1 := Lib.hid hT
      have HFU1 := Lib.hid hF
      clear hU hT hF
      refine drawn_next2 5 9 (fuel := 6) rfl rfl (by kernel_rfl) ?_ ?_
      · intro K hK
        go_wp2_with fail
        refine (dmake_f HTU1.out (sll_two (HU1.out.nth 3 rfl) (HSS.out _ _ HU1.out HFU1.out) (HU1.out.nth 0 rfl) hk) (good_two (by decide) (by decide) hk HB.out hl4 HTB.out)).mono ?_
        rintro e U2 ⟨rfl, hT, F⟩
        have HU2 := Lib.hid (HU1.out.callT F (by simp [other, DT]) (Nat.zero_le _))
        have HTU2 := Lib.hid hT
        have HFU2 := Lib.hid (HFU1.out.trans F)
        rw [HKE.out, HOKE.out]
        clear hT F f2 f3 t2 t3
        have f2 := HU2.out.nth 4 rfl
        have f3 := HU2.out.nth 3 rfl
        have t2 := World.at_lt f2
        have t3 := World.at_lt f3
        go_wp2_with fail
        refine ⟨⟨f2, f3⟩, ?_⟩
        refine drawn_reads (fuel := 3) [6, 7, 8] rfl (by kernel_rfl) ⟨f2, f3⟩ ?_
        repeat (first | (refine rowK_step2 rfl rfl (fun K hK => ?_); go_wp2) | (refine rowK_step rfl (fun K hK => ?_); go_simp; refine hK _ ?_; clear hK K))
        refine rowK_nil ⟨fun w' e1 => ?_, ?_⟩
        · obtain ⟨e1, e2⟩ := e1
          clear f2 f3 t2 t3
          repeat (first | (refine rowWp_step2 rfl rfl (fun K hK => ?_); go_wp2) | (refine rowWp_step rfl (fun K hK => ?_); go_simp; refine hK _ ?_; clear hK K))
          exact rowWp_nil rfl
        refine drawn_next 9 (fuel := 2) rfl (by kernel_rfl) ?_
        intro K hK
        go_wp2_with fail
        refine ⟨⟨by go_simp, by go_simp⟩, ?_⟩
        refine named_world (A := fun X => OwB w.void ([(U2.heap.size, .cells (ints .u8 (zs 32)) 33), (bx, .cells #[.slice (some ⟨b3, 0, none⟩) 32 32, .slice p n cap] 49), (b7, .cells (ints .u8 (zs 64)) 44), (b4, .cells (ints .u8 (zs 64)) 44), (b3, .cells (ints .u8 k) 33), (b2, .cells #[.pointer (some ⟨tb, 0, none⟩)] 31)]) X ∧ DTabP lo tb X (makeT T (6, [k, t])).1 ∧ FrD lo w X) (Q := fun X => Go.Dr.wpAnyS Tryz.prog .any _ _ _ _ _ _ _ X) ⟨HU2.out.allocN _ _ rfl, HTU2.out.fr0 ((Fr.refl [] U2).alloc _), HFU2.out.alloc _⟩ ?_
        rintro U3 ⟨hU, hT, hF⟩
        clear f2 f3 t2 t3
        have la : w.heap.size ≤ U2.heap.size := HFU2.out.size
        generalize U2.heap.size = ba at hU la ⊢
        have f2 := hU.nth 5 rfl
        have f3 := hU.nth 4 rfl
        have t2 := World.at_lt f2
        have t3 := World.at_lt f3
        have HU3 := Lib.hid hU
        have HTU3 := Lib.hid hT
        have HFU3 := Lib.hid hF
        clear hU hT hF
        have fa := HU3.out.nth 0 rfl
        have f4 := HU3.out.nth 3 rfl
        have ta := World.at_lt fa
        have t4 := World.at_lt f4
        have na4 := HU3.out.ne 0 3 rfl rfl (by decide)
        have n4a := na4.symm
        have na2 := HU3.out.ne 0 5 rfl rfl (by decide)
        have na3 := HU3.out.ne 0 4 rfl rfl (by decide)
        have n2a := na2.symm
        have n3a := na3.symm
        refine drawn_next 10 (fuel := 1) rfl (by kernel_rfl) ?_
        intro K hK
        go_wp2_with fail
        refine ⟨⟨by go_simp, by go_simp⟩, ?_⟩
        clear f2 f3 t2 t3 na2 n2a na3 n3a
        refine drawn_end rfl (by kernel_rfl) ?_
        intro K hK
        go_upto_region 7 with (fail)
        refine named_world (A := fun X => OwB w.void [(ba, .cells (ints .u8 k9) 33), (bx, .cells #[.slice (some ⟨b3, 0, none⟩) 32 32, .slice p n cap] 49), (b7, .cells (ints .u8 (zs 64)) 44), (b4, .cells (ints .u8 (zs 64)) 44), (b3, .cells (ints .u8 k) 33), (b2, .cells #[.pointer (some ⟨tb, 0, none⟩)] 31)] X ∧ DTabP lo tb X (makeT T (6, [k, t])).1 ∧ FrD lo w X) (Q := fun X => Code.wp _ _ _ _ X) ⟨HU3.out.set 0 _ rfl, HTU3.out.put fa (by decide) _, HFU3.out.put _ la⟩ ?_
        rintro U20 ⟨hU, hT, hF⟩
        have HU20 := Lib.hid hU
        have HT20 := Lib.hid hT
        have HF20 := Lib.hid hF
        clear hU hT hF fa f4 ta t4
        have fa := HU20.out.nth 0 rfl
        have f7 := HU20.out.nth 2 rfl
        have ta := World.at_lt fa
        have t7 := World.at_lt f7
        have na7 := HU20.out.ne 0 2 rfl rfl (by decide)
        have n7a := na7.symm
        refine drawn_begin 2 (fun w' => w'.blk b7 = some (.cells (ints .u8 (zs 64)) 44) ∧ w'.blk ba = some (.cells (ints .u8 k9) 33)) (by kernel_rfl) ?_
        refine drawn_reads (fuel := 1) [0, 1] rfl (by kernel_rfl) ⟨f7, fa⟩ ?_
        repeat (first | (refine rowK_step2 rfl rfl (fun K hK => ?_); go_wp2) | (refine rowK_step rfl (fun K hK => ?_); go_simp; refine hK _ ?_; clear hK K))
        refine rowK_nil ⟨fun w' e1 => ?_, ?_⟩
        · obtain ⟨e1, e2⟩ := e1
          clear fa f7 ta t7
          repeat (first | (refine rowWp_step2 rfl rfl (fun K hK => ?_); go_wp2) | (refine rowWp_step rfl (fun K hK => ?_); go_simp; refine hK _ ?_; clear hK K))
          exact rowWp_nil rfl
        refine drawn_end rfl (by kernel_rfl) ?_
        intro K hK
        go_upto_region 8 with (fail)
        refine named_world (A := fun X => OwB w.void [(ba, .cells (ints .u8 k9) 33), (bx, .cells #[.slice (some ⟨b3, 0, none⟩) 32 32, .slice p n cap] 49), (b7, .cells (ints .u8 (k9 ++ zs 32)) 44), (b4, .cells (ints .u8 (zs 64)) 44), (b3, .cells (ints .u8 k) 33), (b2, .cells #[.pointer (some ⟨tb, 0, none⟩)] 31)] X ∧ DTabP lo tb X (makeT T (6, [k, t])).1 ∧ FrD lo w X) (Q := fun X => Code.wp _ _ _ _ X) ⟨HU20.out.drew.set 2 _ rfl, (HT20.out.fr0 (Fr.refl [] U20).drew).put f7 (by decide) _, HF20.out.drew.put _ l7⟩ ?_
        rintro U21 ⟨hU, hT, hF⟩
        have HU21 := Lib.hid hU
        have HT21 := Lib.hid hT
        have HF21 := Lib.hid hF
        clear hU hT hF fa f7 ta t7
        have f7 := HU21.out.nth 2 rfl
        have f4 := HU21.out.nth 3 rfl
        have t7 := World.at_lt f7
        have t4 := World.at_lt f4
        have n74 := HU21.out.ne 2 3 rfl rfl (by decide)
        have n47 := n74.symm
        go_wp2_with fail
        refine ret_cell rfl rfl rfl ?_
        go_simp
        rw [HSG.out]
        exact ⟨by kernel_rfl, rfl, HT21.out.put f4 (by decide) _, HF21.out.put _ l4⟩
      · intro K hK
        go_wp2_with fail
        refine ⟨⟨by go_simp, by go_simp⟩, ?_⟩
        refine named_world (A := fun X => OwB w.void ([(U1.heap.size, .cells (ints .u8 (zs 32)) 33), (bx, .cells #[.slice (some ⟨b3, 0, none⟩) 32 32, .slice p n cap] 49), (b7, .cells (ints .u8 (zs 64)) 44), (b4, .cells (ints .u8 (zs 64)) 44), (b3, .cells (ints .u8 k) 33), (b2, .cells #[.pointer (some ⟨tb, 0, none⟩)] 31)]) X ∧ DTabP lo tb X T ∧ FrD lo w X) (Q := fun X => Go.Dr.wpAnyS Tryz.prog .any _ _ _ _ _ _ _ X) ⟨HU1.out.allocN _ _ rfl, HTU1.out.fr0 ((Fr.refl [] U1).alloc _), HFU1.out.alloc _⟩ ?_
        rintro U4 ⟨hU, hT, hF⟩
        clear f2 f3 t2 t3
        have la : w.heap.size ≤ U1.heap.size := HFU1.out.size
        generalize U1.heap.size = ba at hU la ⊢
        have f2 := hU.nth 5 rfl
        have f3 := hU.nth 4 rfl
        have t2 := World.at_lt f2
        have t3 := World.at_lt f3
        have HU4 := Lib.hid hU
        have HTU4 := Lib.hid hT
        have HFU4 := Lib.hid hF
        clear hU hT hF
        refine drawn_next 5 (fuel := 5) rfl (by kernel_rfl) ?_
        intro K hK
        go_wp2_with fail
        refine (dmake_f HTU4.out (sll_two (HU4.out.nth 4 rfl) (HSS.out _ _ HU4.out HFU4.out) (HU4.out.nth 1 rfl) hk) (good_two (by decide) (by decide) hk HB.out hl4 HTB.out)).mono ?_
        rintro e U5 ⟨rfl, hT, F⟩
        have HU5 := Lib.hid (HU4.out.callT F (by simp [other, DT]) (Nat.zero_le _))
        have HTU5 := Lib.hid hT
        have HFU5 := Lib.hid (HFU4.out.trans F)
        rw [HKE.out, HOKE.out]
        clear hT F f2 f3 t2 t3
        have f2 := HU5.out.nth 5 rfl
        have f3 := HU5.out.nth 4 rfl
        have t2 := World.at_lt f2
        have t3 := World.at_lt f3
        go_wp2_with fail
        refine ⟨⟨f2, f3⟩, ?_⟩
        refine drawn_reads (fuel := 2) [6, 7, 8] rfl (by kernel_rfl) ⟨f2, f3⟩ ?_
        repeat (first | (refine rowK_step2 rfl rfl (fun K hK => ?_); go_wp2) | (refine rowK_step rfl (fun K hK => ?_); go_simp; refine hK _ ?_; clear hK K))
        refine rowK_nil ⟨fun w' e1 => ?_, ?_⟩
        · obtain ⟨e1, e2⟩ := e1
          clear f2 f3 t2 t3
          repeat (first | (refine rowWp_step2 rfl rfl (fun K hK => ?_); go_wp2) | (refine rowWp_step rfl (fun K hK => ?_); go_simp; refine hK _ ?_; clear hK K))
          exact rowWp_nil rfl
        have fa := HU5.out.nth 0 rfl
        have f4 := HU5.out.nth 3 rfl
        have ta := World.at_lt fa
        have t4 := World.at_lt f4
        have na4 := HU5.out.ne 0 3 rfl rfl (by decide)
        have n4a := na4.symm
        have na2 := HU5.out.ne 0 5 rfl rfl (by decide)
        have na3 := HU5.out.ne 0 4 rfl rfl (by decide)
        have n2a := na2.symm
        have n3a := na3.symm
        refine drawn_next 10 (fuel := 1) rfl (by kernel_rfl) ?_
        intro K hK
        go_wp2_with fail
        refine ⟨⟨by go_simp, by go_simp⟩, ?_⟩
        clear f2 f3 t2 t3 na2 n2a na3 n3a
        refine drawn_end rfl (by kernel_rfl) ?_
        intro K hK
        go_upto_region 7 with (fail)
        refine named_world (A := fun X => OwB w.void [(ba, .cells (ints .u8 k9) 33), (bx, .cells #[.slice (some ⟨b3, 0, none⟩) 32 32, .slice p n cap] 49), (b7, .cells (ints .u8 (zs 64)) 44), (b4, .cells (ints .u8 (zs 64)) 44), (b3, .cells (ints .u8 k) 33), (b2, .cells #[.pointer (some ⟨tb, 0, none⟩)] 31)] X ∧ DTabP lo tb X (makeT T (6, [k, t])).1 ∧ FrD lo w X) (Q := fun X => Code.wp _ _ _ _ X) ⟨HU5.out.set 0 _ rfl, HTU5.out.put fa (by decide) _, HFU5.out.put _ la⟩ ?_
        rintro U20 ⟨hU, hT, hF⟩
        have HU20 := Lib.hid hU
        have HT20 := Lib.hid hT
        have HF20 := Lib.hid hF
        clear hU hT hF fa f4 ta t4
        have fa := HU20.out.nth 0 rfl
        have f7 := HU20.out.nth 2 rfl
        have ta := World.at_lt fa
        have t7 := World.at_lt f7
        have na7 := HU20.out.ne 0 2 rfl rfl (by decide)
        have n7a := na7.symm
        refine drawn_begin 2 (fun w' => w'.blk b7 = some (.cells (ints .u8 (zs 64)) 44) ∧ w'.blk ba = some (.cells (ints .u8 k9) 33)) (by kernel_rfl) ?_
        refine drawn_reads (fuel := 1) [0, 1] rfl (by kernel_rfl) ⟨f7, fa⟩ ?_
        repeat (first | (refine rowK_step2 rfl rfl (fun K hK => ?_); go_wp2) | (refine rowK_step rfl (fun K hK => ?_); go_simp; refine hK _ ?_; clear hK K))
        refine rowK_nil ⟨fun w' e1 => ?_, ?_⟩
        · obtain ⟨e1, e2⟩ := e1
          clear fa f7 ta t7
          repeat (first | (refine rowWp_step2 rfl rfl (fun K hK => ?_); go_wp2) | (refine rowWp_step rfl (fun K hK => ?_); go_simp; refine hK _ ?_; clear hK K))
          exact rowWp_nil rfl
        refine drawn_end rfl (by kernel_rfl) ?_
        intro K hK
        go_upto_region 8 with (fail)
        refine named_world (A := fun X => OwB w.void [(ba, .cells (ints .u8 k9) 33), (bx, .cells #[.slice (some ⟨b3, 0, none⟩) 32 32, .slice p n cap] 49), (b7, .cells (ints .u8 (k9 ++ zs 32)) 44), (b4, .cells (ints .u8 (zs 64)) 44), (b3, .cells (ints .u8 k) 33), (b2, .cells #[.pointer (some ⟨tb, 0, none⟩)] 31)] X ∧ DTabP lo tb X (makeT T (6, [k, t])).1 ∧ FrD lo w X) (Q := fun X => Code.wp _ _ _ _ X) ⟨HU20.out.drew.set 2 _ rfl, (HT20.out.fr0 (Fr.refl [] U20).drew).put f7 (by decide) _, HF20.out.drew.put _ l7⟩ ?_
        rintro U21 ⟨hU, hT, hF⟩
        have HU21 := Lib.hid hU
        have HT21 := Lib.hid hT
        have HF21 := Lib.hid hF
        clear hU hT hF fa f7 ta t7
        have f7 := HU21.out.nth 2 rfl
        have f4 := HU21.out.nth 3 rfl
        have t7 := World.at_lt f7
        have t4 := World.at_lt f4
        have n74 := HU21.out.ne 2 3 rfl rfl (by decide)
        have n47 := n74.symm
        go_wp2_with fail
        refine ret_cell rfl rfl rfl ?_
        go_simp
        rw [HSG.out]
        exact ⟨by kernel_rfl, rfl, HT21.out.put f4 (by decide) _, HF21.out.put _ l4⟩
    · intro K hK
      go_wp2_with fail
      refine ⟨⟨by go_simp, by go_simp⟩, ?_⟩
      refine named_world (A := fun X => OwB w.void ([(V.heap.size, .cells (ints .u8 (zs 32)) 33), (b7, .cells (ints .u8 (zs 64)) 44), (b4, .cells (ints .u8 (zs 64)) 44), (b3, .cells (ints .u8 k) 33), (b2, .cells #[.pointer (some ⟨tb, 0, none⟩)] 31)]) X ∧ DTabP lo tb X T ∧ FrD lo w X) (Q := fun X => Go.Dr.wpAnyS Tryz.prog .any _ _ _ _ _ _ _ X) ⟨HV1.out.allocN _ _ rfl, HTV1.out.fr0 ((Fr.refl [] V.drew).alloc _), HFV1.out.alloc _⟩ ?_
      rintro U6 ⟨hU, hT, hF⟩
      clear f2 f3 t2 t3
      have la : w.heap.size ≤ V.heap.size := HFV1.out.size
      generalize V.heap.size = ba at hU la ⊢
      have f2 := hU.nth 4 rfl
      have f3 := hU.nth 3 rfl
      have t2 := World.at_lt f2
      have t3 := World.at_lt f3
      have HU6 := Lib.hid hU
      have HTU6 := Lib.hid hT
      have HFU6 := Lib.hid hF
      clear hU hT hF
      refine drawn_next 4 (fuel := 6) rfl (by kernel_rfl) ?_
      intro K hK
      go_wp2_with fail
      refine ⟨⟨by go_simp, by go_simp⟩, ?_⟩
      refine named_world (A := fun X => OwB w.void ([(U6.heap.size, .cells #[.slice (some ⟨b3, 0, none⟩) 32 32, .slice p n cap] 49), (ba, .cells (ints .u8 (zs 32)) 33), (b7, .cells (ints .u8 (zs 64)) 44), (b4, .cells (ints .u8 (zs 64)) 44), (b3, .cells (ints .u8 k) 33), (b2, .cells #[.pointer (some ⟨tb, 0, none⟩)] 31)]) X ∧ DTabP lo tb X T ∧ FrD lo w X) (Q := fun X => Go.Dr.wpAnyS Tryz.prog .any _ _ _ _ _ _ _ X) ⟨HU6.out.allocN _ _ rfl, HTU6.out.fr0 ((Fr.refl [] U6).alloc _), HFU6.out.alloc _⟩ ?_
      rintro U7 ⟨hU, hT, hF⟩
      clear f2 f3 t2 t3
      generalize U6.heap.size = bx at hU ⊢
      have f2 := hU.nth 5 rfl
      have f3 := hU.nth 4 rfl
      have t2 := World.at_lt f2
      have t3 := World.at_lt f3
      have HU7 := Lib.hid hU
      have HTU7 := Lib.hid hT
      have HFU7 := Lib.hid hF
      clear hU hT hF
      refine drawn_next 5 (fuel := 5) rfl (by kernel_rfl) ?_
      intro K hK
      go_wp2_with fail
      refine (dmake_f HTU7.out (sll_two (HU7.out.nth 4 rfl) (HSS.out _ _ HU7.out HFU7.out) (HU7.out.nth 0 rfl) hk) (good_two (by decide) (by decide) hk HB.out hl4 HTB.out)).mono ?_
      rintro e U8 ⟨rfl, hT, F⟩
      have HU8 := Lib.hid (HU7.out.callT F (by simp [other, DT]) (Nat.zero_le _))
      have HTU8 := Lib.hid hT
      have HFU8 := Lib.hid (HFU7.out.trans F)
      rw [HKE.out, HOKE.out]
      clear hT F f2 f3 t2 t3
      have f2 := HU8.out.nth 5 rfl
      have f3 := HU8.out.nth 4 rfl
      have t2 := World.at_lt f2
      have t3 := World.at_lt f3
      go_wp2_with fail
      refine ⟨⟨f2, f3⟩, ?_⟩
      refine drawn_reads (fuel := 2) [6, 7, 8] rfl (by kernel_rfl) ⟨f2, f3⟩ ?_
      repeat (first | (refine rowK_step2 rfl rfl (fun K hK => ?_); go_wp2) | (refine rowK_step rfl (fun K hK => ?_); go_simp; refine hK _ ?_; clear hK K))
      refine rowK_nil ⟨fun w' e1 => ?_, ?_⟩
      · obtain ⟨e1, e2⟩ := e1
        clear f2 f3 t2 t3
        repeat (first | (refine rowWp_step2 rfl rfl (fun K hK => ?_); go_wp2) | (refine rowWp_step rfl (fun K hK => ?_); go_simp; refine hK _ ?_; clear hK K))
        exact rowWp_nil rfl
      have fa := HU8.out.nth 1 rfl
      have f4 := HU8.out.nth 3 rfl
      have ta := World.at_lt fa
      have t4 := World.at_lt f4
      have na4 := HU8.out.ne 1 3 rfl rfl (by decide)
      have n4a := na4.symm
      have na2 := HU8.out.ne 1 5 rfl rfl (by decide)
      have na3 := HU8.out.ne 1 4 rfl rfl (by decide)
      have n2a := na2.symm
      have n3a := na3.symm
      refine drawn_next 10 (fuel := 1) rfl (by kernel_rfl) ?_
      intro K hK
      go_wp2_with fail
      refine ⟨⟨by go_simp, by go_simp⟩, ?_⟩
      clear f2 f3 t2 t3 na2 n2a na3 n3a
      refine drawn_end rfl (by kernel_rfl) ?_
      intro K hK
      go_upto_region 7 with (fail)
      refine named_world (A := fun X => OwB w.void [(bx, .cells #[.slice (some ⟨b3, 0, none⟩) 32 32, .slice p n cap] 49), (ba, .cells (ints .u8 k9) 33), (b7, .cells (ints .u8 (zs 64)) 44), (b4, .cells (ints .u8 (zs 64)) 44), (b3, .cells (ints .u8 k) 33), (b2, .cells #[.pointer (some ⟨tb, 0, none⟩)] 31)] X ∧ DTabP lo tb X (makeT T (6, [k, t])).1 ∧ FrD lo w X) (Q := fun X => Code.wp _ _ _ _ X) ⟨HU8.out.set 1 _ rfl, HTU8.out.put fa (by decide) _, HFU8.out.put _ la⟩ ?_
      rintro U20 ⟨hU, hT, hF⟩
      have HU20 := Lib.hid hU
      have HT20 := Lib.hid hT
      have HF20 := Lib.hid hF
      clear hU hT hF fa f4 ta t4
      have fa := HU20.out.nth 1 rfl
      have f7 := HU20.out.nth 2 rfl
      have ta := World.at_lt fa
      have t7 := World.at_lt f7
      have na7 := HU20.out.ne 1 2 rfl rfl (by decide)
      have n7a := na7.symm
      refine drawn_begin 2 (fun w' => w'.blk b7 = some (.cells (ints .u8 (zs 64)) 44) ∧ w'.blk ba = some (.cells (ints .u8 k9) 33)) (by kernel_rfl) ?_
      refine drawn_reads (fuel := 1) [0, 1] rfl (by kernel_rfl) ⟨f7, fa⟩ ?_
      repeat (first | (refine rowK_step2 rfl rfl (fun K hK => ?_); go_wp2) | (refine rowK_step rfl (fun K hK => ?_); go_simp; refine hK _ ?_; clear hK K))
      refine rowK_nil ⟨fun w' e1 => ?_, ?_⟩
      · obtain ⟨e1, e2⟩ := e1
        clear fa f7 ta t7
        repeat (first | (refine rowWp_step2 rfl rfl (fun K hK => ?_); go_wp2) | (refine rowWp_step rfl (fun K hK => ?_); go_simp; refine hK _ ?_; clear hK K))
        exact rowWp_nil rfl
      refine drawn_end rfl (by kernel_rfl) ?_
      intro K hK
      go_upto_region 8 with (fail)
      refine named_world (A := fun X => OwB w.void [(bx, .cells #[.slice (some ⟨b3, 0, none⟩) 32 32, .slice p n cap] 49), (ba, .cells (ints .u8 k9) 33), (b7, .cells (ints .u8 (k9 ++ zs 32)) 44), (b4, .cells (ints .u8 (zs 64)) 44), (b3, .cells (ints .u8 k) 33), (b2, .cells #[.pointer (some ⟨tb, 0, none⟩)] 31)] X ∧ DTabP lo tb X (makeT T (6, [k, t])).1 ∧ FrD lo w X) (Q := fun X => Code.wp _ _ _ _ X) ⟨HU20.out.drew.set 2 _ rfl, (HT20.out.fr0 (Fr.refl [] U20).drew).put f7 (by decide) _, HF20.out.drew.put _ l7⟩ ?_
      rintro U21 ⟨hU, hT, hF⟩
      have HU21 := Lib.hid hU
      have HT21 := Lib.hid hT
      have HF21 := Lib.hid hF
      clear hU hT hF fa f7 ta t7
      have f7 := HU21.out.nth 2 rfl
      have f4 := HU21.out.nth 3 rfl
      have t7 := World.at_lt f7
      have t4 := World.at_lt f4
      have n74 := HU21.out.ne 2 3 rfl rfl (by decide)
      have n47 := n74.symm
      go_wp2_with fail
      refine ret_cell rfl rfl rfl ?_
      go_simp
      rw [HSG.out]
      exact ⟨by kernel_rfl, rfl, HT21.out.put f4 (by decide) _, HF21.out.put _ l4⟩
end
end Go.Proofs.YtbhnfohoclcjdaaGreat
