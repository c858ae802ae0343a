/- Joined: KeH, KeI, KeJ. -/
import Derived.Test.YtbhnfohoclcjdaaGreatZk
set_option linter.unusedVariables false
set_option linter.unusedSimpArgs false
namespace Go.Proofs.YtbhnfohoclcjdaaGreat
open Go.RowKit Go.Dr Go.Kd
section
variable {w : World}
set_option maxRecDepth 100000 in
set_option maxHeartbeats 8000000 in
theorem rtext_f {x : Bn} (hx : BnOk x) : Calls Tryz.prog 26 #[.agg (bnC x)] w fun e w' => ∃ q m c, e = .returned (.slice q m c) ∧ Bld w [] .u8 5 w' q m c (bunText x) := by
  obtain ⟨d, hd⟩ := Int.eq_ofNat_of_zero_le hx.d0
  obtain ⟨i, hi⟩ := Int.eq_ofNat_of_zero_le hx.i0
  have d1 : d < 256 := by have := hx.d1; omega
  have i1 : i < 65536 := by have := hx.i1; omega
  have la := hx.al
  have ls := hx.sl
  have lo := hx.ol
  obtain ⟨xs, hxs⟩ : ∃ xs, xs = bnC x := ⟨_, rfl⟩
  have hsz : xs.size = 162 := by rw [hxs, List.size_toArray, cBundle_length _ _ _ _ _ _ hx.al hx.sl hx.ol hx.gl]
  have x0 : xs[0]? = some (.int .u8 (d : Int)) := by rw [hxs, ← hd]; exact cBundle_get_device _ _ _ _ _ _ hx.al hx.sl hx.ol hx.gl
  have x1 : xs.extract 1 33 = ints .u8 x.agree := by rw [hxs]; exact cBundle_ext_agree _ _ _ _ _ _ hx.al hx.sl hx.ol hx.gl
  have x2 : xs.extract 33 65 = ints .u8 x.signer := by rw [hxs]; exact cBundle_ext_signer _ _ _ _ _ _ hx.al hx.sl hx.ol hx.gl
  have x3 : xs[65]? = some (.int .u16 (i : Int)) := by rw [hxs, ← hi]; exact cBundle_get_id _ _ _ _ _ _ hx.al hx.sl hx.ol hx.gl
  have x4 : xs.extract 66 98 = ints .u8 x.once := by rw [hxs]; exact cBundle_ext_once _ _ _ _ _ _ hx.al hx.sl hx.ol hx.gl
  have e9 : bunText x = joinB [[111, 110, 99, 101], putB d 1, x.agree, x.signer, putB i 2, x.once] := by simp only [bunText, hd, hi, Int.toNat_natCast]
  rw [← hxs]
  have HE := Lib.hid e9
  clear hxs e9 hd hi
  generalize x.agree = ag at la x1 HE
  generalize x.signer = sg at ls x2 HE
  generalize x.once = on at lo x4 HE
  replace x0 := (Array.getElem?_eq_some_iff.1 x0).2
  replace x3 := (Array.getElem?_eq_some_iff.1 x3).2
  have HX1 := Lib.hid x1
  have HX2 := Lib.hid x2
  have HX4 := Lib.hid x4
  clear x1 x2 x4
  go_enter Tryz.func26, Tryz.ntmps26
  go_upto_region 1 with (fail)
  refine named_world (A := fun X => OwB w [(w.heap.size, .cells xs 65)] X) (Q := fun X => Code.wp _ _ _ _ X) ((OwB.start w).allocN _ w.heap.size rfl) ?_
  intro V hV
  generalize w.heap.size = b0 at hV ⊢
  have f0 := hV.nth 0 rfl
  have t0 := World.at_lt f0
  have HV := Lib.hid hV
  clear hV
  refine drawn_begin 17 (fun w' => w'.blk b0 = some (.cells xs 65)) (by kernel_rfl) ?_
  refine drawn_reads (fuel := 7) [2, 3, 5, 6, 7, 8, 9, 10, 11, 13, 14] rfl (by kernel_rfl) f0 ?_
  repeat (first | (refine rowK_step2 rfl rfl (fun K hK => ?_); go_wp2) | (refine rowK_step rfl (fun K hK => ?_); go_simp; refine hK _ ?_; clear hK K))
  refine rowK_nil ⟨fun w' e1 => ?_, ?_⟩
  · clear f0 t0
    repeat (first | (refine rowWp_step2 rfl rfl (fun K hK => ?_); go_wp2) | (refine rowWp_step rfl (fun K hK => ?_); go_simp; refine hK _ ?_; clear hK K))
    exact rowWp_nil rfl
  refine drawn_next3 0 4 12 (fuel := 6) rfl rfl rfl (by kernel_rfl) ?_ ?_ ?_ 
  · intro K hK
    go_wp2_with fail
    refine ⟨by go_simp, ?_⟩
    refine named_world (A := fun X => OwB w [(V.heap.size, .cells #[.int .u8 111, .int .u8 110, .int .u8 99, .int .u8 101] 5), (b0, .cells xs 65)] X) (Q := fun X => Go.Dr.wpAnyS Tryz.prog .any _ _ _ _ _ _ _ X) (by first | exact HV.out.allocN _ V.heap.size rfl | exact HV.out.drew.allocN _ V.heap.size rfl | exact (HV.out.allocN _ V.heap.size rfl).drew) ?_
    intro U1 hO
    generalize V.heap.size = bl at hO ⊢
    have HU1 := Lib.hid hO
    clear f0 t0 hO
    have f0 := HU1.out.nth 1 rfl
    have t0 := World.at_lt f0
    refine drawn_next3 1 4 12 (fuel := 5) rfl rfl rfl (by kernel_rfl) ?_ ?_ ?_ 
    · intro K hK
      have hconv : (convert 49 49 (.slice (some ⟨bl, 0, none⟩) 4 4)).run Tryz.prog U1 = .ok (.slice (some ⟨bl, 0, none⟩) 4 4) (U1.put bl (.cells #[.int .u8 111, .int .u8 110, .int .u8 99, .int .u8 101] 5 (4, 5))) := run_convert_mark 4 4 (HU1.out.nth 0 rfl) Tryz.underlying49 Tryz.underlying5
      go_wp2_with fail
      have hO := HU1.out.set 0 (.cells #[.int .u8 111, .int .u8 110, .int .u8 99, .int .u8 101] 5 (4, 5)) rfl
      refine ⟨hO.nth 1 rfl, ?_⟩
      refine named_world (A := fun X => OwB w [(bl, .cells #[.int .u8 111, .int .u8 110, .int .u8 99, .int .u8 101] 5 (4, 5)), (b0, .cells xs 65)] X) (Q := fun X => Go.Dr.wpAnyS Tryz.prog .any _ _ _ _ _ _ _ X) hO ?_
      clear hO hconv
      intro U2 hO
      have HU2 := Lib.hid hO
      clear f0 t0 hO
      have f0 := HU2.out.nth 1 rfl
      have t0 := World.at_lt f0
      refine drawn_next2 4 12 (fuel := 4) rfl rfl (by kernel_rfl) ?_ ?_ 
      · intro K hK
        go_wp2_with fail
        refine ⟨by go_simp, ?_⟩
        refine named_world (A := fun X => OwB w [(U2.heap.size, .cells #[.int .u8 (d : Int)] 5), (bl, .cells #[.int .u8 111, .int .u8 110, .int .u8 99, .int .u8 101] 5 (4, 5)), (b0, .cells xs 65)] X) (Q := fun X => Go.Dr.wpAnyS Tryz.prog .any _ _ _ _ _ _ _ X) (by first | exact HU2.out.allocN _ U2.heap.size rfl | exact HU2.out.drew.allocN _ U2.heap.size rfl | exact (HU2.out.allocN _ U2.heap.size rfl).drew) ?_
        intro U3 hO
        generalize U2.heap.size = bd at hO ⊢
        have HU3 := Lib.hid hO
        clear f0 t0 hO
        have f0 := HU3.out.nth 2 rfl
        have t0 := World.at_lt f0
        refine drawn_next 12 (fuel := 3) rfl (by kernel_rfl) ?_
        intro K hK
        go_wp2_with fail
        refine (rnum_b (n := i) (s := 2) (by omega) (by omega) (by omega)).mono ?_
        rintro e U4 ⟨bn, rfl, gb, lb, F⟩
        have hO := (HU3.out.call F).room gb (HU3.out.fresh lb) (Nat.le_trans HU3.out.fr.size lb)
        have HU4 := Lib.hid hO
        clear f0 t0 hO gb lb F
        have f0 := HU4.out.nth 3 rfl
        have t0 := World.at_lt f0
        go_wp2_with fail
        refine ⟨f0, ?_⟩
        refine drawn_next 15 (fuel := 2) rfl (by kernel_rfl) ?_
        intro K hK
        go_wp2_with fail
        refine ⟨by go_simp, ?_⟩
        refine named_world (A := fun X => OwB w ((U4.heap.size, .cells #[.slice (some ⟨bl, 0, none⟩) 4 4, .slice (some ⟨bd, 0, none⟩) 1 1, .slice (some ⟨b0, 1, none⟩) 32 32, .slice (some ⟨b0, 33, none⟩) 32 32, .slice (some ⟨bn, 0, none⟩) 2 2, .slice (some ⟨b0, 66, none⟩) 32 32] 49) :: [(bn, .cells (ints .u8 (putB i 2)) 5), (bd, .cells #[.int .u8 (d : Int)] 5), (bl, .cells #[.int .u8 111, .int .u8 110, .int .u8 99, .int .u8 101] 5 (4, 5)), (b0, .cells xs 65)]) X) (Q := fun X => Go.Dr.wpAnyS Tryz.prog .any _ _ _ _ _ _ _ X) (HU4.out.allocN _ U4.heap.size rfl) ?_
        intro U5 hO
        generalize U4.heap.size = bx at hO ⊢
        have S := sll_six (hO.nth 4 rfl) hsz HX1.out HX2.out HX4.out (hO.nth 3 rfl) (hO.nth 2 rfl) d1 (hO.nth 1 rfl) (hO.nth 0 rfl)
        have HS := Lib.hid S
        have HF := Lib.hid hO
        clear f0 t0 S hO
        have f0 := HF.out.nth 4 rfl
        have t0 := World.at_lt f0
        refine drawn_next 16 (fuel := 1) rfl (by kernel_rfl) ?_
        intro K hK
        go_wp2_with fail
        refine (rall_f HS.out (by simp [fits, putB_len, la, ls, lo])).mono ?_
        rintro e W ⟨q, m, c, rfl, B⟩
        have HB := Lib.hid B
        have HF2 := Lib.hid (HF.out.call B.own.fr)
        clear f0 t0 B
        have f0 := HF2.out.nth 4 rfl
        have t0 := World.at_lt f0
        go_wp2_with fail
        refine ⟨f0, ?_⟩
        refine drawn_end rfl (by kernel_rfl) ?_
        intro K hK
        go_wp2_with fail
        rw [HE.out]
        exact bodyPost_ret (results_tmp rfl _ _ _) rfl ⟨q, m, c, rfl, HB.out.lift (((OwB.start w).call HF.out.fr))⟩
      · intro K hK
        go_wp2_with fail
        refine (rnum_b (n := i) (s := 2) (by omega) (by omega) (by omega)).mono ?_
        rintro e U6 ⟨bn, rfl, gb, lb, F⟩
        have hO := (HU2.out.call F).room gb (HU2.out.fresh lb) (Nat.le_trans HU2.out.fr.size lb)
        have HU6 := Lib.hid hO
        clear f0 t0 hO gb lb F
        have f0 := HU6.out.nth 2 rfl
        have t0 := World.at_lt f0
        go_wp2_with fail
        refine ⟨f0, ?_⟩
        refine drawn_next 4 (fuel := 3) rfl (by kernel_rfl) ?_
        intro K hK
        go_wp2_with fail
        refine ⟨by go_simp, ?_⟩
        refine named_world (A := fun X => OwB w [(U6.heap.size, .cells #[.int .u8 (d : Int)] 5), (bn, .cells (ints .u8 (putB i 2)) 5), (bl, .cells #[.int .u8 111, .int .u8 110, .int .u8 99, .int .u8 101] 5 (4, 5)), (b0, .cells xs 65)] X) (Q := fun X => Go.Dr.wpAnyS Tryz.prog .any _ _ _ _ _ _ _ X) (by first | exact HU6.out.allocN _ U6.heap.size rfl | exact HU6.out.drew.allocN _ U6.heap.size rfl | exact (HU6.out.allocN _ U6.heap.size rfl).drew) ?_
        intro U7 hO
        generalize U6.heap.size = bd at hO ⊢
        have HU7 := Lib.hid hO
        clear f0 t0 hO
        have f0 := HU7.out.nth 3 rfl
        have t0 := World.at_lt f0
        refine drawn_next 15 (fuel := 2) rfl (by kernel_rfl) ?_
        intro K hK
        go_wp2_with fail
        refine ⟨by go_simp, ?_⟩
        refine named_world (A := fun X => OwB w ((U7.heap.size, .cells #[.slice (some ⟨bl, 0, none⟩) 4 4, .slice (some ⟨bd, 0, none⟩) 1 1, .slice (some ⟨b0, 1, none⟩) 32 32, .slice (some ⟨b0, 33, none⟩) 32 32, .slice (some ⟨bn, 0, none⟩) 2 2, .slice (some ⟨b0, 66, none⟩) 32 32] 49) :: [(bd, .cells #[.int .u8 (d : Int)] 5), (bn, .cells (ints .u8 (putB i 2)) 5), (bl, .cells #[.int .u8 111, .int .u8 110, .int .u8 99, .int .u8 101] 5 (4, 5)), (b0, .cells xs 65)]) X) (Q := fun X => Go.Dr.wpAnyS Tryz.prog .any _ _ _ _ _ _ _ X) (HU7.out.allocN _ U7.heap.size rfl) ?_
        intro U8 hO
        generalize U7.heap.size = bx at hO ⊢
        have S := sll_six (hO.nth 4 rfl) hsz HX1.out HX2.out HX4.out (hO.nth 3 rfl) (hO.nth 1 rfl) d1 (hO.nth 2 rfl) (hO.nth 0 rfl)
        have HS := Lib.hid S
        have HF := Lib.hid hO
        clear f0 t0 S hO
        have f0 := HF.out.nth 4 rfl
        have t0 := World.at_lt f0
        refine drawn_next 16 (fuel := 1) rfl (by kernel_rfl) ?_
        intro K hK
        go_wp2_with fail
        refine (rall_f HS.out (by simp [fits, putB_len, la, ls, lo])).mono ?_
        rintro e W ⟨q, m, c, rfl, B⟩
        have HB := Lib.hid B
        have HF2 := Lib.hid (HF.out.call B.own.fr)
        clear f0 t0 B
        have f0 := HF2.out.nth 4 rfl
        have t0 := World.at_lt f0
        go_wp2_with fail
        refine ⟨f0, ?_⟩
        refine drawn_end rfl (by kernel_rfl) ?_
        intro K hK
        go_wp2_with fail
        rw [HE.out]
        exact bodyPost_ret (results_tmp rfl _ _ _) rfl ⟨q, m, c, rfl, HB.out.lift (((OwB.start w).call HF.out.fr))⟩
    · intro K hK
      go_wp2_with fail
      refine ⟨by go_simp, ?_⟩
      refine named_world (A := fun X => OwB w [(U1.heap.size, .cells #[.int .u8 (d : Int)] 5), (bl, .cells #[.int .u8 111, .int .u8 110, .int .u8 99, .int .u8 101] 5), (b0, .cells xs 65)] X) (Q := fun X => Go.Dr.wpAnyS Tryz.prog .any _ _ _ _ _ _ _ X) (by first | exact HU1.out.allocN _ U1.heap.size rfl | exact HU1.out.drew.allocN _ U1.heap.size rfl | exact (HU1.out.allocN _ U1.heap.size rfl).drew) ?_
      intro U9 hO
      generalize U1.heap.size = bd at hO ⊢
      have HU9 := Lib.hid hO
      clear f0 t0 hO
      have f0 := HU9.out.nth 2 rfl
      have t0 := World.at_lt f0
      refine drawn_next2 1 12 (fuel := 4) rfl rfl (by kernel_rfl) ?_ ?_ 
      · intro K hK
        have hconv : (convert 49 49 (.slice (some ⟨bl, 0, none⟩) 4 4)).run Tryz.prog U9 = .ok (.slice (some ⟨bl, 0, none⟩) 4 4) (U9.put bl (.cells #[.int .u8 111, .int .u8 110, .int .u8 99, .int .u8 101] 5 (4, 5))) := run_convert_mark 4 4 (HU9.out.nth 1 rfl) Tryz.underlying49 Tryz.underlying5
        go_wp2_with fail
        have hO := HU9.out.set 1 (.cells #[.int .u8 111, .int .u8 110, .int .u8 99, .int .u8 101] 5 (4, 5)) rfl
        refine ⟨hO.nth 2 rfl, ?_⟩
        refine named_world (A := fun X => OwB w [(bd, .cells #[.int .u8 (d : Int)] 5), (bl, .cells #[.int .u8 111, .int .u8 110, .int .u8 99, .int .u8 101] 5 (4, 5)), (b0, .cells xs 65)] X) (Q := fun X => Go.Dr.wpAnyS Tryz.prog .any _ _ _ _ _ _ _ X) hO ?_
        clear hO hconv
        intro U10 hO
        have HU10 := Lib.hid hO
        clear f0 t0 hO
        have f0 := HU10.out.nth 2 rfl
        have t0 := World.at_lt f0
        refine drawn_next 12 (fuel := 3) rfl (by kernel_rfl) ?_
        intro K hK
        go_wp2_with fail
        refine (rnum_b (n := i) (s := 2) (by omega) (by omega) (by omega)).mono ?_
        rintro e U11 ⟨bn, rfl, gb, lb, F⟩
        have hO := (HU10.out.call F).room gb (HU10.out.fresh lb) (Nat.le_trans HU10.out.fr.size lb)
        have HU11 := Lib.hid hO
        clear f0 t0 hO gb lb F
        have f0 := HU11.out.nth 3 rfl
        have t0 := World.at_lt f0
        go_wp2_with fail
        refine ⟨f0, ?_⟩
        refine drawn_next 15 (fuel := 2) rfl (by kernel_rfl) ?_
        intro K hK
        go_wp2_with fail
        refine ⟨by go_simp, ?_⟩
        refine named_world (A := fun X => OwB w ((U11.heap.size, .cells #[.slice (some ⟨bl, 0, none⟩) 4 4, .slice (some ⟨bd, 0, none⟩) 1 1, .slice (some ⟨b0, 1, none⟩) 32 32, .slice (some ⟨b0, 33, none⟩) 32 32, .slice (some ⟨bn, 0, none⟩) 2 2, .slice (some ⟨b0, 66, none⟩) 32 32] 49) :: [(bn, .cells (ints .u8 (putB i 2)) 5), (bd, .cells #[.int .u8 (d : Int)] 5), (bl, .cells #[.int .u8 111, .int .u8 110, .int .u8 99, .int .u8 101] 5 (4, 5)), (b0, .cells xs 65)]) X) (Q := fun X => Go.Dr.wpAnyS Tryz.prog .any _ _ _ _ _ _ _ X) (HU11.out.allocN _ U11.heap.size rfl) ?_
        intro U12 hO
        generalize U11.heap.size = bx at hO ⊢
        have S := sll_six (hO.nth 4 rfl) hsz HX1.out HX2.out HX4.out (hO.nth 3 rfl) (hO.nth 2 rfl) d1 (hO.nth 1 rfl) (hO.nth 0 rfl)
        have HS := Lib.hid S
        have HF := Lib.hid hO
        clear f0 t0 S hO
        have f0 := HF.out.nth 4 rfl
        have t0 := World.at_lt f0
        refine drawn_next 16 (fuel := 1) rfl (by kernel_rfl) ?_
        intro K hK
        go_wp2_with fail
        refine (rall_f HS.out (by simp [fits, putB_len, la, ls, lo])).mono ?_
        rintro e W ⟨q, m, c, rfl, B⟩
        have HB := Lib.hid B
        have HF2 := Lib.hid (HF.out.call B.own.fr)
        clear f0 t0 B
        have f0 := HF2.out.nth 4 rfl
        have t0 := World.at_lt f0
        go_wp2_with fail
        refine ⟨f0, ?_⟩
        refine drawn_end rfl (by kernel_rfl) ?_
        intro K hK
        go_wp2_with fail
        rw [HE.out]
        exact bodyPost_ret (results_tmp rfl _ _ _) rfl ⟨q, m, c, rfl, HB.out.lift (((OwB.start w).call HF.out.fr))⟩
      · intro K hK
        go_wp2_with fail
        refine (rnum_b (n := i) (s := 2) (by omega) (by omega) (by omega)).mono ?_
        rintro e U13 ⟨bn, rfl, gb, lb, F⟩
        have hO := (HU9.out.call F).room gb (HU9.out.fresh lb) (Nat.le_trans HU9.out.fr.size lb)
        have HU13 := Lib.hid hO
        clear f0 t0 hO gb lb F
        have f0 := HU13.out.nth 3 rfl
        have t0 := World.at_lt f0
        go_wp2_with fail
        refine ⟨f0, ?_⟩
        refine drawn_next 1 (fuel := 3) rfl (by kernel_rfl) ?_
        intro K hK
        have hconv : (convert 49 49 (.slice (some ⟨bl, 0, none⟩) 4 4)).run Tryz.prog U13 = .ok (.slice (some ⟨bl, 0, none⟩) 4 4) (U13.put bl (.cells #[.int .u8 111, .int .u8 110, .int .u8 99, .int .u8 101] 5 (4, 5))) := run_convert_mark 4 4 (HU13.out.nth 2 rfl) Tryz.underlying49 Tryz.underlying5
        go_wp2_with fail
        have hO := HU13.out.set 2 (.cells #[.int .u8 111, .int .u8 110, .int .u8 99, .int .u8 101] 5 (4, 5)) rfl
        refine ⟨hO.nth 3 rfl, ?_⟩
        refine named_world (A := fun X => OwB w [(bn, .cells (ints .u8 (putB i 2)) 5), (bd, .cells #[.int .u8 (d : Int)] 5), (bl, .cells #[.int .u8 111, .int .u8 110, .int .u8 99, .int .u8 101] 5 (4, 5)), (b0, .cells xs 65)] X) (Q := fun X => Go.Dr.wpAnyS Tryz.prog .any _ _ _ _ _ _ _ X) hO ?_
        clear hO hconv
        intro U14 hO
        have HU14 := Lib.hid hO
        clear f0 t0 hO
        have f0 := HU14.out.nth 3 rfl
        have t0 := World.at_lt f0
        refine drawn_next 15 (fuel := 2) rfl (by kernel_rfl) ?_
        intro K hK
        go_wp2_with fail
        refine ⟨by go_simp, ?_⟩
        refine named_world (A := fun X => OwB w ((U14.heap.size, .cells #[.slice (some ⟨bl, 0, none⟩) 4 4, .slice (some ⟨bd, 0, none⟩) 1 1, .slice (some ⟨b0, 1, none⟩) 32 32, .slice (some ⟨b0, 33, none⟩) 32 32, .slice (some ⟨bn, 0, none⟩) 2 2, .slice (some ⟨b0, 66, none⟩) 32 32] 49) :: [(bn, .cells (ints .u8 (putB i 2)) 5), (bd, .cells #[.int .u8 (d : Int)] 5), (bl, .cells #[.int .u8 111, .int .u8 110, .int .u8 99, .int .u8 101] 5 (4, 5)), (b0, .cells xs 65)]) X) (Q := fun X => Go.Dr.wpAnyS Tryz.prog .any _ _ _ _ _ _ _ X) (HU14.out.allocN _ U14.heap.size rfl) ?_
        intro U15 hO
        generalize U14.heap.size = bx at hO ⊢
        have S := sll_six (hO.nth 4 rfl) hsz HX1.out HX2.out HX4.out (hO.nth 3 rfl) (hO.nth 2 rfl) d1 (hO.nth 1 rfl) (hO.nth 0 rfl)
        have HS := Lib.hid S
        have HF := Lib.hid hO
        clear f0 t0 S hO
        have f0 := HF.out.nth 4 rfl
        have t0 := World.at_lt f0
        refine drawn_next 16 (fuel := 1) rfl (by kernel_rfl) ?_
        intro K hK
        go_wp2_with fail
        refine (rall_f HS.out (by simp [fits, putB_len, la, ls, lo])).mono ?_
        rintro e W ⟨q, m, c, rfl, B⟩
        have HB := Lib.hid B
        have HF2 := Lib.hid (HF.out.call B.own.fr)
        clear f0 t0 B
        have f0 := HF2.out.nth 4 rfl
        have t0 := World.at_lt f0
        go_wp2_with fail
        refine ⟨f0, ?_⟩
        refine drawn_end rfl (by kernel_rfl) ?_
        intro K hK
        go_wp2_with fail
        rw [HE.out]
        exact bodyPost_ret (results_tmp rfl _ _ _) rfl ⟨q, m, c, rfl, HB.out.lift (((OwB.start w).call HF.out.fr))⟩
    · intro K hK
      go_wp2_with fail
      refine (rnum_b (n := i) (s := 2) (by omega) (by omega) (by omega)).mono ?_
      rintro e U16 ⟨bn, rfl, gb, lb, F⟩
      have hO := (HU1.out.call F).room gb (HU1.out.fresh lb) (Nat.le_trans HU1.out.fr.size lb)
      have HU16 := Lib.hid hO
      clear f0 t0 hO gb lb F
      have f0 := HU16.out.nth 2 rfl
      have t0 := World.at_lt f0
      go_wp2_with fail
      refine ⟨f0, ?_⟩
      refine drawn_next2 1 4 (fuel := 4) rfl rfl (by kernel_rfl) ?_ ?_ 
      · intro K hK
        have hconv : (convert 49 49 (.slice (some ⟨bl, 0, none⟩) 4 4)).run Tryz.prog U16 = .ok (.slice (some ⟨bl, 0, none⟩) 4 4) (U16.put bl (.cells #[.int .u8 111, .int .u8 110, .int .u8 99, .int .u8 101] 5 (4, 5))) := run_convert_mark 4 4 (HU16.out.nth 1 rfl) Tryz.underlying49 Tryz.underlying5
        go_wp2_with fail
        have hO := HU16.out.set 1 (.cells #[.int .u8 111, .int .u8 110, .int .u8 99, .int .u8 101] 5 (4, 5)) rfl
        refine ⟨hO.nth 2 rfl, ?_⟩
        refine named_world (A := fun X => OwB w [(bn, .cells (ints .u8 (putB i 2)) 5), (bl, .cells #[.int .u8 111, .int .u8 110, .int .u8 99, .int .u8 101] 5 (4, 5)), (b0, .cells xs 65)] X) (Q := fun X => Go.Dr.wpAnyS Tryz.prog .any _ _ _ _ _ _ _ X) hO ?_
        clear hO hconv
        intro U17 hO
        have HU17 := Lib.hid hO
        clear f0 t0 hO
        have f0 := HU17.out.nth 2 rfl
        have t0 := World.at_lt f0
        refine drawn_next 4 (fuel := 3) rfl (by kernel_rfl) ?_
        intro K hK
        go_wp2_with fail
        refine ⟨by go_simp, ?_⟩
        refine named_world (A := fun X => OwB w [(U17.heap.size, .cells #[.int .u8 (d : Int)] 5), (bn, .cells (ints .u8 (putB i 2)) 5), (bl, .cells #[.int .u8 111, .int .u8 110, .int .u8 99, .int .u8 101] 5 (4, 5)), (b0, .cells xs 65)] X) (Q := fun X => Go.Dr.wpAnyS Tryz.prog .any _ _ _ _ _ _ _ X) (by first | exact HU17.out.allocN _ U17.heap.size rfl | exact HU17.out.drew.allocN _ U17.heap.size rfl | exact (HU17.out.allocN _ U17.heap.size rfl).drew) ?_
        intro U18 hO
        generalize U17.heap.size = bd at hO ⊢
        have HU18 := Lib.hid hO
        clear f0 t0 hO
        have f0 := HU18.out.nth 3 rfl
        have t0 := World.at_lt f0
        refine drawn_next 15 (fuel := 2) rfl (by kernel_rfl) ?_
        intro K hK
        go_wp2_with fail
        refine ⟨by go_simp, ?_⟩
        refine named_world (A := fun X => OwB w ((U18.heap.size, .cells #[.slice (some ⟨bl, 0, none⟩) 4 4, .slice (some ⟨bd, 0, none⟩) 1 1, .slice (some ⟨b0, 1, none⟩) 32 32, .slice (some ⟨b0, 33, none⟩) 32 32, .slice (some ⟨bn, 0, none⟩) 2 2, .slice (some ⟨b0, 66, none⟩) 32 32] 49) :: [(bd, .cells #[.int .u8 (d : Int)] 5), (bn, .cells (ints .u8 (putB i 2)) 5), (bl, .cells #[.int .u8 111, .int .u8 110, .int .u8 99, .int .u8 101] 5 (4, 5)), (b0, .cells xs 65)]) X) (Q := fun X => Go.Dr.wpAnyS Tryz.prog .any _ _ _ _ _ _ _ X) (HU18.out.allocN _ U18.heap.size rfl) ?_
        intro U19 hO
        generalize U18.heap.size = bx at hO ⊢
        have S := sll_six (hO.nth 4 rfl) hsz HX1.out HX2.out HX4.out (hO.nth 3 rfl) (hO.nth 1 rfl) d1 (hO.nth 2 rfl) (hO.nth 0 rfl)
        have HS := Lib.hid S
        have HF := Lib.hid hO
        clear f0 t0 S hO
        have f0 := HF.out.nth 4 rfl
        have t0 := World.at_lt f0
        refine drawn_next 16 (fuel := 1) rfl (by kernel_rfl) ?_
        intro K hK
        go_wp2_with fail
        refine (rall_f HS.out (by simp [fits, putB_len, la, ls, lo])).mono ?_
        rintro e W ⟨q, m, c, rfl, B⟩
        have HB := Lib.hid B
        have HF2 := Lib.hid (HF.out.call B.own.fr)
        clear f0 t0 B
        have f0 := HF2.out.nth 4 rfl
        have t0 := World.at_lt f0
        go_wp2_with fail
        refine ⟨f0, ?_⟩
        refine drawn_end rfl (by kernel_rfl) ?_
        intro K hK
        go_wp2_with fail
        rw [HE.out]
        exact bodyPost_ret (results_tmp rfl _ _ _) rfl ⟨q, m, c, rfl, HB.out.lift (((OwB.start w).call HF.out.fr))⟩
      · intro K hK
        go_wp2_with fail
        refine ⟨by go_simp, ?_⟩
        refine named_world (A := fun X => OwB w [(U16.heap.size, .cells #[.int .u8 (d : Int)] 5), (bn, .cells (ints .u8 (putB i 2)) 5), (bl, .cells #[.int .u8 111, .int .u8 110, .int .u8 99, .int .u8 101] 5), (b0, .cells xs 65)] X) (Q := fun X => Go.Dr.wpAnyS Tryz.prog .any _ _ _ _ _ _ _ X) (by first | exact HU16.out.allocN _ U16.heap.size rfl | exact HU16.out.drew.allocN _ U16.heap.size rfl | exact (HU16.out.allocN _ U16.heap.size rfl).drew) ?_
        intro U20 hO
        generalize U16.heap.size = bd at hO ⊢
        have HU20 := Lib.hid hO
        clear f0 t0 hO
        have f0 := HU20.out.nth 3 rfl
        have t0 := World.at_lt f0
        refine drawn_next 1 (fuel := 3) rfl (by kernel_rfl) ?_
        intro K hK
        have hconv : (convert 49 49 (.slice (some ⟨bl, 0, none⟩) 4 4)).run Tryz.prog U20 = .ok (.slice (some ⟨bl, 0, none⟩) 4 4) (U20.put bl (.cells #[.int .u8 111, .int .u8 110, .int .u8 99, .int .u8 101] 5 (4, 5))) := run_convert_mark 4 4 (HU20.out.nth 2 rfl) Tryz.underlying49 Tryz.underlying5
        go_wp2_with fail
        have hO := HU20.out.set 2 (.cells #[.int .u8 111, .int .u8 110, .int .u8 99, .int .u8 101] 5 (4, 5)) rfl
        refine ⟨hO.nth 3 rfl, ?_⟩
        refine named_world (A := fun X => OwB w [(bd, .cells #[.int .u8 (d : Int)] 5), (bn, .cells (ints .u8 (putB i 2)) 5), (bl, .cells #[.int .u8 111, .int .u8 110, .int .u8 99, .int .u8 101] 5 (4, 5)), (b0, .cells xs 65)] X) (Q := fun X => Go.Dr.wpAnyS Tryz.prog .any _ _ _ _ _ _ _ X) hO ?_
        clear hO hconv
        intro U21 hO
        have HU21 := Lib.hid hO
        clear f0 t0 hO
        have f0 := HU21.out.nth 3 rfl
        have t0 := World.at_lt f0
        refine drawn_next 15 (fuel := 2) rfl (by kernel_rfl) ?_
        intro K hK
        go_wp2_with fail
        refine ⟨by go_simp, ?_⟩
        refine named_world (A := fun X => OwB w ((U21.heap.size, .cells #[.slice (some ⟨bl, 0, none⟩) 4 4, .slice (some ⟨bd, 0, none⟩) 1 1, .slice (some ⟨b0, 1, none⟩) 32 32, .slice (some ⟨b0, 33, none⟩) 32 32, .slice (some ⟨bn, 0, none⟩) 2 2, .slice (some ⟨b0, 66, none⟩) 32 32] 49) :: [(bd, .cells #[.int .u8 (d : Int)] 5), (bn, .cells (ints .u8 (putB i 2)) 5), (bl, .cells #[.int .u8 111, .int .u8 110, .int .u8 99, .int .u8 101] 5 (4, 5)), (b0, .cells xs 65)]) X) (Q := fun X => Go.Dr.wpAnyS Tryz.prog .any _ _ _ _ _ _ _ X) (HU21.out.allocN _ U21.heap.size rfl) ?_
        intro U22 hO
        generalize U21.heap.size = bx at hO ⊢
        have S := sll_six (hO.nth 4 rfl) hsz HX1.out HX2.out HX4.out (hO.nth 3 rfl) (hO.nth 1 rfl) d1 (hO.nth 2 rfl) (hO.nth 0 rfl)
        have HS := Lib.hid S
        have HF := Lib.hid hO
        clear f0 t0 S hO
        have f0 := HF.out.nth 4 rfl
        have t0 := World.at_lt f0
        refine drawn_next 16 (fuel := 1) rfl (by kernel_rfl) ?_
        intro K hK
        go_wp2_with fail
        refine (rall_f HS.out (by simp [fits, putB_len, la, ls, lo])).mono ?_
        rintro e W ⟨q, m, c, rfl, B⟩
        have HB := Lib.hid B
        have HF2 := Lib.hid (HF.out.call B.own.fr)
        clear f0 t0 B
        have f0 := HF2.out.nth 4 rfl
        have t0 := World.at_lt f0
        go_wp2_with fail
        refine ⟨f0, ?_⟩
        refine drawn_end rfl (by kernel_rfl) ?_
        intro K hK
        go_wp2_with fail
        rw [HE.out]
        exact bodyPost_ret (results_tmp rfl _ _ _) rfl ⟨q, m, c, rfl, HB.out.lift (((OwB.start w).call HF.out.fr))⟩
  · intro K hK
    go_wp2_with fail
    refine ⟨by go_simp, ?_⟩
    refine named_world (A := fun X => OwB w [(V.heap.size, .cells #[.int .u8 (d : Int)] 5), (b0, .cells xs 65)] X) (Q := fun X => Go.Dr.wpAnyS Tryz.prog .any _ _ _ _ _ _ _ X) (by first | exact HV.out.allocN _ V.heap.size rfl | exact HV.out.drew.allocN _ V.heap.size rfl | exact (HV.out.allocN _ V.heap.size rfl).drew) ?_
    intro U23 hO
    generalize V.heap.size = bd at hO ⊢
    have HU23 := Lib.hid hO
    clear f0 t0 hO
    have f0 := HU23.out.nth 1 rfl
    have t0 := World.at_lt f0
    refine drawn_next2 0 12 (fuel := 5) rfl rfl (by kernel_rfl) ?_ ?_ 
    · intro K hK
      go_wp2_with fail
      refine ⟨by go_simp, ?_⟩
      refine named_world (A := fun X => OwB w [(U23.heap.size, .cells #[.int .u8 111, .int .u8 110, .int .u8 99, .int .u8 101] 5), (bd, .cells #[.int .u8 (d : Int)] 5), (b0, .cells xs 65)] X) (Q := fun X => Go.Dr.wpAnyS Tryz.prog .any _ _ _ _ _ _ _ X) (by first | exact HU23.out.allocN _ U23.heap.size rfl | exact HU23.out.drew.allocN _ U23.heap.size rfl | exact (HU23.out.allocN _ U23.heap.size rfl).drew) ?_
      intro U24 hO
      generalize U23.heap.size = bl at hO ⊢
      have HU24 := Lib.hid hO
      clear f0 t0 hO
      have f0 := HU24.out.nth 2 rfl
      have t0 := World.at_lt f0
      refine drawn_next2 1 12 (fuel := 4) rfl rfl (by kernel_rfl) ?_ ?_ 
      · intro K hK
        have hconv : (convert 49 49 (.slice (some ⟨bl, 0, none⟩) 4 4)).run Tryz.prog U24 = .ok (.slice (some ⟨bl, 0, none⟩) 4 4) (U24.put bl (.cells #[.int .u8 111, .int .u8 110, .int .u8 99, .int .u8 101] 5 (4, 5))) := run_convert_mark 4 4 (HU24.out.nth 0 rfl) Tryz.underlying49 Tryz.underlying5
        go_wp2_with fail
        have hO := HU24.out.set 0 (.cells #[.int .u8 111, .int .u8 110, .int .u8 99, .int .u8 101] 5 (4, 5)) rfl
        refine ⟨hO.nth 2 rfl, ?_⟩
        refine named_world (A := fun X => OwB w [(bl, .cells #[.int .u8 111, .int .u8 110, .int .u8 99, .int .u8 101] 5 (4, 5)), (bd, .cells #[.int .u8 (d : Int)] 5), (b0, .cells xs 65)] X) (Q := fun X => Go.Dr.wpAnyS Tryz.prog .any _ _ _ _ _ _ _ X) hO ?_
        clear hO hconv
        intro U25 hO
        have HU25 := Lib.hid hO
        clear f0 t0 hO
        have f0 := HU25.out.nth 2 rfl
        have t0 := World.at_lt f0
        refine drawn_next 12 (fuel := 3) rfl (by kernel_rfl) ?_
        intro K hK
        go_wp2_with fail
        refine (rnum_b (n := i) (s := 2) (by omega) (by omega) (by omega)).mono ?_
        rintro e U26 ⟨bn, rfl, gb, lb, F⟩
        have hO := (HU25.out.call F).room gb (HU25.out.fresh lb) (Nat.le_trans HU25.out.fr.size lb)
        have HU26 := Lib.hid hO
        clear f0 t0 hO gb lb F
        have f0 := HU26.out.nth 3 rfl
        have t0 := World.at_lt f0
        go_wp2_with fail
        refine ⟨f0, ?_⟩
        refine drawn_next 15 (fuel := 2) rfl (by kernel_rfl) ?_
        intro K hK
        go_wp2_with fail
        refine ⟨by go_simp, ?_⟩
        refine named_world (A := fun X => OwB w ((U26.heap.size, .cells #[.slice (some ⟨bl, 0, none⟩) 4 4, .slice (some ⟨bd, 0, none⟩) 1 1, .slice (some ⟨b0, 1, none⟩) 32 32, .slice (some ⟨b0, 33, none⟩) 32 32, .slice (some ⟨bn, 0, none⟩) 2 2, .slice (some ⟨b0, 66, none⟩) 32 32] 49) :: [(bn, .cells (ints .u8 (putB i 2)) 5), (bl, .cells #[.int .u8 111, .int .u8 110, .int .u8 99, .int .u8 101] 5 (4, 5)), (bd, .cells #[.int .u8 (d : Int)] 5), (b0, .cells xs 65)]) X) (Q := fun X => Go.Dr.wpAnyS Tryz.prog .any _ _ _ _ _ _ _ X) (HU26.out.allocN _ U26.heap.size rfl) ?_
        intro U27 hO
        generalize U26.heap.size = bx at hO ⊢
        have S := sll_six (hO.nth 4 rfl) hsz HX1.out HX2.out HX4.out (hO.nth 2 rfl) (hO.nth 3 rfl) d1 (hO.nth 1 rfl) (hO.nth 0 rfl)
        have HS := Lib.hid S
        have HF := Lib.hid hO
        clear f0 t0 S hO
        have f0 := HF.out.nth 4 rfl
        have t0 := World.at_lt f0
        refine drawn_next 16 (fuel := 1) rfl (by kernel_rfl) ?_
        intro K hK
        go_wp2_with fail
        refine (rall_f HS.out (by simp [fits, putB_len, la, ls, lo])).mono ?_
        rintro e W ⟨q, m, c, rfl, B⟩
        have HB := Lib.hid B
        have HF2 := Lib.hid (HF.out.call B.own.fr)
        clear f0 t0 B
        have f0 := HF2.out.nth 4 rfl
        have t0 := World.at_lt f0
        go_wp2_with fail
        refine ⟨f0, ?_⟩
        refine drawn_end rfl (by kernel_rfl) ?_
        intro K hK
        go_wp2_with fail
        rw [HE.out]
        exact bodyPost_ret (results_tmp rfl _ _ _) rfl ⟨q, m, c, rfl, HB.out.lift (((OwB.start w).call HF.out.fr))⟩
      · intro K hK
        go_wp2_with fail
        refine (rnum_b (n := i) (s := 2) (by omega) (by omega) (by omega)).mono ?_
        rintro e U28 ⟨bn, rfl, gb, lb, F⟩
        have hO := (HU24.out.call F).room gb (HU24.out.fresh lb) (Nat.le_trans HU24.out.fr.size lb)
        have HU28 := Lib.hid hO
        clear f0 t0 hO gb lb F
        have f0 := HU28.out.nth 3 rfl
        have t0 := World.at_lt f0
        go_wp2_with fail
        refine ⟨f0, ?_⟩
        refine drawn_next 1 (fuel := 3) rfl (by kernel_rfl) ?_
        intro K hK
        have hconv : (convert 49 49 (.slice (some ⟨bl, 0, none⟩) 4 4)).run Tryz.prog U28 = .ok (.slice (some ⟨bl, 0, none⟩) 4 4) (U28.put bl (.cells #[.int .u8 111, .int .u8 110, .int .u8 99, .int .u8 101] 5 (4, 5))) := run_convert_mark 4 4 (HU28.out.nth 1 rfl) Tryz.underlying49 Tryz.underlying5
        go_wp2_with fail
        have hO := HU28.out.set 1 (.cells #[.int .u8 111, .int .u8 110, .int .u8 99, .int .u8 101] 5 (4, 5)) rfl
        refine ⟨hO.nth 3 rfl, ?_⟩
        refine named_world (A := fun X => OwB w [(bn, .cells (ints .u8 (putB i 2)) 5), (bl, .cells #[.int .u8 111, .int .u8 110, .int .u8 99, .int .u8 101] 5 (4, 5)), (bd, .cells #[.int .u8 (d : Int)] 5), (b0, .cells xs 65)] X) (Q := fun X => Go.Dr.wpAnyS Tryz.prog .any _ _ _ _ _ _ _ X) hO ?_
        clear hO hconv
        intro U29 hO
        have HU29 := Lib.hid hO
        clear f0 t0 hO
        have f0 := HU29.out.nth 3 rfl
        have t0 := World.at_lt f0
        refine drawn_next 15 (fuel := 2) rfl (by kernel_rfl) ?_
        intro K hK
        go_wp2_with fail
        refine ⟨by go_simp, ?_⟩
        refine named_world (A := fun X => OwB w ((U29.heap.size, .cells #[.slice (some ⟨bl, 0, none⟩) 4 4, .slice (some ⟨bd, 0, none⟩) 1 1, .slice (some ⟨b0, 1, none⟩) 32 32, .slice (some ⟨b0, 33, none⟩) 32 32, .slice (some ⟨bn, 0, none⟩) 2 2, .slice (some ⟨b0, 66, none⟩) 32 32] 49) :: [(bn, .cells (ints .u8 (putB i 2)) 5), (bl, .cells #[.int .u8 111, .int .u8 110, .int .u8 99, .int .u8 101] 5 (4, 5)), (bd, .cells #[.int .u8 (d : Int)] 5), (b0, .cells xs 65)]) X) (Q := fun X => Go.Dr.wpAnyS Tryz.prog .any _ _ _ _ _ _ _ X) (HU29.out.allocN _ U29.heap.size rfl) ?_
        intro U30 hO
        generalize U29.heap.size = bx at hO ⊢
        have S := sll_six (hO.nth 4 rfl) hsz HX1.out HX2.out HX4.out (hO.nth 2 rfl) (hO.nth 3 rfl) d1 (hO.nth 1 rfl) (hO.nth 0 rfl)
        have HS := Lib.hid S
        have HF := Lib.hid hO
        clear f0 t0 S hO
        have f0 := HF.out.nth 4 rfl
        have t0 := World.at_lt f0
        refine drawn_next 16 (fuel := 1) rfl (by kernel_rfl) ?_
        intro K hK
        go_wp2_with fail
        refine (rall_f HS.out (by simp [fits, putB_len, la, ls, lo])).mono ?_
        rintro e W ⟨q, m, c, rfl, B⟩
        have HB := Lib.hid B
        have HF2 := Lib.hid (HF.out.call B.own.fr)
        clear f0 t0 B
        have f0 := HF2.out.nth 4 rfl
        have t0 := World.at_lt f0
        go_wp2_with fail
        refine ⟨f0, ?_⟩
        refine drawn_end rfl (by kernel_rfl) ?_
        intro K hK
        go_wp2_with fail
        rw [HE.out]
        exact bodyPost_ret (results_tmp rfl _ _ _) rfl ⟨q, m, c, rfl, HB.out.lift (((OwB.start w).call HF.out.fr))⟩
    · intro K hK
      go_wp2_with fail
      refine (rnum_b (n := i) (s := 2) (by omega) (by omega) (by omega)).mono ?_
      rintro e U31 ⟨bn, rfl, gb, lb, F⟩
      have hO := (HU23.out.call F).room gb (HU23.out.fresh lb) (Nat.le_trans HU23.out.fr.size lb)
      have HU31 := Lib.hid hO
      clear f0 t0 hO gb lb F
      have f0 := HU31.out.nth 2 rfl
      have t0 := World.at_lt f0
      go_wp2_with fail
      refine ⟨f0, ?_⟩
      refine drawn_next 0 (fuel := 4) rfl (by kernel_rfl) ?_
      intro K hK
      go_wp2_with fail
      refine ⟨by go_simp, ?_⟩
      refine named_world (A := fun X => OwB w [(U31.heap.size, .cells #[.int .u8 111, .int .u8 110, .int .u8 99, .int .u8 101] 5), (bn, .cells (ints .u8 (putB i 2)) 5), (bd, .cells #[.int .u8 (d : Int)] 5), (b0, .cells xs 65)] X) (Q := fun X => Go.Dr.wpAnyS Tryz.prog .any _ _ _ _ _ _ _ X) (by first | exact HU31.out.allocN _ U31.heap.size rfl | exact HU31.out.drew.allocN _ U31.heap.size rfl | exact (HU31.out.allocN _ U31.heap.size rfl).drew) ?_
      intro U32 hO
      generalize U31.heap.size = bl at hO ⊢
      have HU32 := Lib.hid hO
      clear f0 t0 hO
      have f0 := HU32.out.nth 3 rfl
      have t0 := World.at_lt f0
      refine drawn_next 1 (fuel := 3) rfl (by kernel_rfl) ?_
      intro K hK
      have hconv : (convert 49 49 (.slice (some ⟨bl, 0, none⟩) 4 4)).run Tryz.prog U32 = .ok (.slice (some ⟨bl, 0, none⟩) 4 4) (U32.put bl (.cells #[.int .u8 111, .int .u8 110, .int .u8 99, .int .u8 101] 5 (4, 5))) := run_convert_mark 4 4 (HU32.out.nth 0 rfl) Tryz.underlying49 Tryz.underlying5
      go_wp2_with fail
      have hO := HU32.out.set 0 (.cells #[.int .u8 111, .int .u8 110, .int .u8 99, .int .u8 101] 5 (4, 5)) rfl
      refine ⟨hO.nth 3 rfl, ?_⟩
      refine named_world (A := fun X => OwB w [(bl, .cells #[.int .u8 111, .int .u8 110, .int .u8 99, .int .u8 101] 5 (4, 5)), (bn, .cells (ints .u8 (putB i 2)) 5), (bd, .cells #[.int .u8 (d : Int)] 5), (b0, .cells xs 65)] X) (Q := fun X => Go.Dr.wpAnyS Tryz.prog .any _ _ _ _ _ _ _ X) hO ?_
      clear hO hconv
      intro U33 hO
      have HU33 := Lib.hid hO
      clear f0 t0 hO
      have f0 := HU33.out.nth 3 rfl
      have t0 := World.at_lt f0
      refine drawn_next 15 (fuel := 2) rfl (by kernel_rfl) ?_
      intro K hK
      go_wp2_with fail
      refine ⟨by go_simp, ?_⟩
      refine named_world (A := fun X => OwB w ((U33.heap.size, .cells #[.slice (some ⟨bl, 0, none⟩) 4 4, .slice (some ⟨bd, 0, none⟩) 1 1, .slice (some ⟨b0, 1, none⟩) 32 32, .slice (some ⟨b0, 33, none⟩) 32 32, .slice (some ⟨bn, 0, none⟩) 2 2, .slice (some ⟨b0, 66, none⟩) 32 32] 49) :: [(bl, .cells #[.int .u8 111, .int .u8 110, .int .u8 99, .int .u8 101] 5 (4, 5)), (bn, .cells (ints .u8 (putB i 2)) 5), (bd, .cells #[.int .u8 (d : Int)] 5), (b0, .cells xs 65)]) X) (Q := fun X => Go.Dr.wpAnyS Tryz.prog .any _ _ _ _ _ _ _ X) (HU33.out.allocN _ U33.heap.size rfl) ?_
      intro U34 hO
      generalize U33.heap.size = bx at hO ⊢
      have S := sll_six (hO.nth 4 rfl) hsz HX1.out HX2.out HX4.out (hO.nth 1 rfl) (hO.nth 3 rfl) d1 (hO.nth 2 rfl) (hO.nth 0 rfl)
      have HS := Lib.hid S
      have HF := Lib.hid hO
      clear f0 t0 S hO
      have f0 := HF.out.nth 4 rfl
      have t0 := World.at_lt f0
      refine drawn_next 16 (fuel := 1) rfl (by kernel_rfl) ?_
      intro K hK
      go_wp2_with fail
      refine (rall_f HS.out (by simp [fits, putB_len, la, ls, lo])).mono ?_
      rintro e W ⟨q, m, c, rfl, B⟩
      have HB := Lib.hid B
      have HF2 := Lib.hid (HF.out.call B.own.fr)
      clear f0 t0 B
      have f0 := HF2.out.nth 4 rfl
      have t0 := World.at_lt f0
      go_wp2_with fail
      refine ⟨f0, ?_⟩
      refine drawn_end rfl (by kernel_rfl) ?_
      intro K hK
      go_wp2_with fail
      rw [HE.out]
      exact bodyPost_ret (results_tmp rfl _ _ _) rfl ⟨q, m, c, rfl, HB.out.lift (((OwB.start w).call HF.out.fr))⟩
  · intro K hK
    go_wp2_with fail
    refine (rnum_b (n := i) (s := 2) (by omega) (by omega) (by omega)).mono ?_
    rintro e U35 ⟨bn, rfl, gb, lb, F⟩
    have hO := (HV.out.drew.call F).room gb (HV.out.drew.fresh lb) (Nat.le_trans HV.out.drew.fr.size lb)
    have HU35 := Lib.hid hO
    clear f0 t0 hO gb lb F
    have f0 := HU35.out.nth 1 rfl
    have t0 := World.at_lt f0
    go_wp2_with fail
    refine ⟨f0, ?_⟩
    refine drawn_next2 0 4 (fuel := 5) rfl rfl (by kernel_rfl) ?_ ?_ 
    · intro K hK
      go_wp2_with fail
      refine ⟨by go_simp, ?_⟩
      refine named_world (A := fun X => OwB w [(U35.heap.size, .cells #[.int .u8 111, .int .u8 110, .int .u8 99, .int .u8 101] 5), (bn, .cells (ints .u8 (putB i 2)) 5), (b0, .cells xs 65)] X) (Q := fun X => Go.Dr.wpAnyS Tryz.prog .any _ _ _ _ _ _ _ X) (by first | exact HU35.out.allocN _ U35.heap.size rfl | exact HU35.out.drew.allocN _ U35.heap.size rfl | exact (HU35.out.allocN _ U35.heap.size rfl).drew) ?_
      intro U36 hO
      generalize U35.heap.size = bl at hO ⊢
      have HU36 := Lib.hid hO
      clear f0 t0 hO
      have f0 := HU36.out.nth 2 rfl
      have t0 := World.at_lt f0
      refine drawn_next2 1 4 (fuel := 4) rfl rfl (by kernel_rfl) ?_ ?_ 
      · intro K hK
        have hconv : (convert 49 49 (.slice (some ⟨bl, 0, none⟩) 4 4)).run Tryz.prog U36 = .ok (.slice (some ⟨bl, 0, none⟩) 4 4) (U36.put bl (.cells #[.int .u8 111, .int .u8 110, .int .u8 99, .int .u8 101] 5 (4, 5))) := run_convert_mark 4 4 (HU36.out.nth 0 rfl) Tryz.underlying49 Tryz.underlying5
        go_wp2_with fail
        have hO := HU36.out.set 0 (.cells #[.int .u8 111, .int .u8 110, .int .u8 99, .int .u8 101] 5 (4, 5)) rfl
        refine ⟨hO.nth 2 rfl, ?_⟩
        refine named_world (A := fun X => OwB w [(bl, .cells #[.int .u8 111, .int .u8 110, .int .u8 99, .int .u8 101] 5 (4, 5)), (bn, .cells (ints .u8 (putB i 2)) 5), (b0, .cells xs 65)] X) (Q := fun X => Go.Dr.wpAnyS Tryz.prog .any _ _ _ _ _ _ _ X) hO ?_
        clear hO hconv
        intro U37 hO
        have HU37 := Lib.hid hO
        clear f0 t0 hO
        have f0 := HU37.out.nth 2 rfl
        have t0 := World.at_lt f0
        refine drawn_next 4 (fuel := 3) rfl (by kernel_rfl) ?_
        intro K hK
        go_wp2_with fail
        refine ⟨by go_simp, ?_⟩
        refine named_world (A := fun X => OwB w [(U37.heap.size, .cells #[.int .u8 (d : Int)] 5), (bl, .cells #[.int .u8 111, .int .u8 110, .int .u8 99, .int .u8 101] 5 (4, 5)), (bn, .cells (ints .u8 (putB i 2)) 5), (b0, .cells xs 65)] X) (Q := fun X => Go.Dr.wpAnyS Tryz.prog .any _ _ _ _ _ _ _ X) (by first | exact HU37.out.allocN _ U37.heap.size rfl | exact HU37.out.drew.allocN _ U37.heap.size rfl | exact (HU37.out.allocN _ U37.heap.size rfl).drew) ?_
        intro U38 hO
        generalize U37.heap.size = bd at hO ⊢
        have HU38 := Lib.hid hO
        clear f0 t0 hO
        have f0 := HU38.out.nth 3 rfl
        have t0 := World.at_lt f0
        refine drawn_next 15 (fuel := 2) rfl (by kernel_rfl) ?_
        intro K hK
        go_wp2_with fail
        refine ⟨by go_simp, ?_⟩
        refine named_world (A := fun X => OwB w ((U38.heap.size, .cells #[.slice (some ⟨bl, 0, none⟩) 4 4, .slice (some ⟨bd, 0, none⟩) 1 1, .slice (some ⟨b0, 1, none⟩) 32 32, .slice (some ⟨b0, 33, none⟩) 32 32, .slice (some ⟨bn, 0, none⟩) 2 2, .slice (some ⟨b0, 66, none⟩) 32 32] 49) :: [(bd, .cells #[.int .u8 (d : Int)] 5), (bl, .cells #[.int .u8 111, .int .u8 110, .int .u8 99, .int .u8 101] 5 (4, 5)), (bn, .cells (ints .u8 (putB i 2)) 5), (b0, .cells xs 65)]) X) (Q := fun X => Go.Dr.wpAnyS Tryz.prog .any _ _ _ _ _ _ _ X) (HU38.out.allocN _ U38.heap.size rfl) ?_
        intro U39 hO
        generalize U38.heap.size = bx at hO ⊢
        have S := sll_six (hO.nth 4 rfl) hsz HX1.out HX2.out HX4.out (hO.nth 2 rfl) (hO.nth 1 rfl) d1 (hO.nth 3 rfl) (hO.nth 0 rfl)
        have HS := Lib.hid S
        have HF := Lib.hid hO
        clear f0 t0 S hO
        have f0 := HF.out.nth 4 rfl
        have t0 := World.at_lt f0
        refine drawn_next 16 (fuel := 1) rfl (by kernel_rfl) ?_
        intro K hK
        go_wp2_with fail
        refine (rall_f HS.out (by simp [fits, putB_len, la, ls, lo])).mono ?_
        rintro e W ⟨q, m, c, rfl, B⟩
        have HB := Lib.hid B
        have HF2 := Lib.hid (HF.out.call B.own.fr)
        clear f0 t0 B
        have f0 := HF2.out.nth 4 rfl
        have t0 := World.at_lt f0
        go_wp2_with fail
        refine ⟨f0, ?_⟩
        refine drawn_end rfl (by kernel_rfl) ?_
        intro K hK
        go_wp2_with fail
        rw [HE.out]
        exact bodyPost_ret (results_tmp rfl _ _ _) rfl ⟨q, m, c, rfl, HB.out.lift (((OwB.start w).call HF.out.fr))⟩
      · intro K hK
        go_wp2_with fail
        refine ⟨by go_simp, ?_⟩
        refine named_world (A := fun X => OwB w [(U36.heap.size, .cells #[.int .u8 (d : Int)] 5), (bl, .cells #[.int .u8 111, .int .u8 110, .int .u8 99, .int .u8 101] 5), (bn, .cells (ints .u8 (putB i 2)) 5), (b0, .cells xs 65)] X) (Q := fun X => Go.Dr.wpAnyS Tryz.prog .any _ _ _ _ _ _ _ X) (by first | exact HU36.out.allocN _ U36.heap.size rfl | exact HU36.out.drew.allocN _ U36.heap.size rfl | exact (HU36.out.allocN _ U36.heap.size rfl).drew) ?_
        intro U40 hO
        generalize U36.heap.size = bd at hO ⊢
        have HU40 := Lib.hid hO
        clear f0 t0 hO
        have f0 := HU40.out.nth 3 rfl
        have t0 := World.at_lt f0
        refine drawn_next 1 (fuel := 3) rfl (by kernel_rfl) ?_
        intro K hK
        have hconv : (convert 49 49 (.slice (some ⟨bl, 0, none⟩) 4 4)).run Tryz.prog U40 = .ok (.slice (some ⟨bl, 0, none⟩) 4 4) (U40.put bl (.cells #[.int .u8 111, .int .u8 110, .int .u8 99, .int .u8 101] 5 (4, 5))) := run_convert_mark 4 4 (HU40.out.nth 1 rfl) Tryz.underlying49 Tryz.underlying5
        go_wp2_with fail
        have hO := HU40.out.set 1 (.cells #[.int .u8 111, .int .u8 110, .int .u8 99, .int .u8 101] 5 (4, 5)) rfl
        refine ⟨hO.nth 3 rfl, ?_⟩
        refine named_world (A := fun X => OwB w [(bd, .cells #[.int .u8 (d : Int)] 5), (bl, .cells #[.int .u8 111, .int .u8 110, .int .u8 99, .int .u8 101] 5 (4, 5)), (bn, .cells (ints .u8 (putB i 2)) 5), (b0, .cells xs 65)] X) (Q := fun X => Go.Dr.wpAnyS Tryz.prog .any _ _ _ _ _ _ _ X) hO ?_
        clear hO hconv
        intro U41 hO
        have HU41 := Lib.hid hO
        clear f0 t0 hO
        have f0 := HU41.out.nth 3 rfl
        have t0 := World.at_lt f0
        refine drawn_next 15 (fuel := 2) rfl (by kernel_rfl) ?_
        intro K hK
        go_wp2_with fail
        refine ⟨by go_simp, ?_⟩
        refine named_world (A := fun X => OwB w ((U41.heap.size, .cells #[.slice (some ⟨bl, 0, none⟩) 4 4, .slice (some ⟨bd, 0, none⟩) 1 1, .slice (some ⟨b0, 1, none⟩) 32 32, .slice (some ⟨b0, 33, none⟩) 32 32, .slice (some ⟨bn, 0, none⟩) 2 2, .slice (some ⟨b0, 66, none⟩) 32 32] 49) :: [(bd, .cells #[.int .u8 (d : Int)] 5), (bl, .cells #[.int .u8 111, .int .u8 110, .int .u8 99, .int .u8 101] 5 (4, 5)), (bn, .cells (ints .u8 (putB i 2)) 5), (b0, .cells xs 65)]) X) (Q := fun X => Go.Dr.wpAnyS Tryz.prog .any _ _ _ _ _ _ _ X) (HU41.out.allocN _ U41.heap.size rfl) ?_
        intro U42 hO
        generalize U41.heap.size = bx at hO ⊢
        have S := sll_six (hO.nth 4 rfl) hsz HX1.out HX2.out HX4.out (hO.nth 2 rfl) (hO.nth 1 rfl) d1 (hO.nth 3 rfl) (hO.nth 0 rfl)
        have HS := Lib.hid S
        have HF := Lib.hid hO
        clear f0 t0 S hO
        have f0 := HF.out.nth 4 rfl
        have t0 := World.at_lt f0
        refine drawn_next 16 (fuel := 1) rfl (by kernel_rfl) ?_
        intro K hK
        go_wp2_with fail
        refine (rall_f HS.out (by simp [fits, putB_len, la, ls, lo])).mono ?_
        rintro e W ⟨q, m, c, rfl, B⟩
        have HB := Lib.hid B
        have HF2 := Lib.hid (HF.out.call B.own.fr)
        clear f0 t0 B
        have f0 := HF2.out.nth 4 rfl
        have t0 := World.at_lt f0
        go_wp2_with fail
        refine ⟨f0, ?_⟩
        refine drawn_end rfl (by kernel_rfl) ?_
        intro K hK
        go_wp2_with fail
        rw [HE.out]
        exact bodyPost_ret (results_tmp rfl _ _ _) rfl ⟨q, m, c, rfl, HB.out.lift (((OwB.start w).call HF.out.fr))⟩
    · intro K hK
      go_wp2_with fail
      refine ⟨by go_simp, ?_⟩
      refine named_world (A := fun X => OwB w [(U35.heap.size, .cells #[.int .u8 (d : Int)] 5), (bn, .cells (ints .u8 (putB i 2)) 5), (b0, .cells xs 65)] X) (Q := fun X => Go.Dr.wpAnyS Tryz.prog .any _ _ _ _ _ _ _ X) (by first | exact HU35.out.allocN _ U35.heap.size rfl | exact HU35.out.drew.allocN _ U35.heap.size rfl | exact (HU35.out.allocN _ U35.heap.size rfl).drew) ?_
      intro U43 hO
      generalize U35.heap.size = bd at hO ⊢
      have HU43 := Lib.hid hO
      clear f0 t0 hO
      have f0 := HU43.out.nth 2 rfl
      have t0 := World.at_lt f0
      refine drawn_next 0 (fuel := 4) rfl (by kernel_rfl) ?_
      intro K hK
      go_wp2_with fail
      refine ⟨by go_simp, ?_⟩
      refine named_world (A := fun X => OwB w [(U43.heap.size, .cells #[.int .u8 111, .int .u8 110, .int .u8 99, .int .u8 101] 5), (bd, .cells #[.int .u8 (d : Int)] 5), (bn, .cells (ints .u8 (putB i 2)) 5), (b0, .cells xs 65)] X) (Q := fun X => Go.Dr.wpAnyS Tryz.prog .any _ _ _ _ _ _ _ X) (by first | exact HU43.out.allocN _ U43.heap.size rfl | exact HU43.out.drew.allocN _ U43.heap.size rfl | exact (HU43.out.allocN _ U43.heap.size rfl).drew) ?_
      intro U44 hO
      generalize U43.heap.size = bl at hO ⊢
      have HU44 := Lib.hid hO
      clear f0 t0 hO
      have f0 := HU44.out.nth 3 rfl
      have t0 := World.at_lt f0
      refine drawn_next 1 (fuel := 3) rfl (by kernel_rfl) ?_
      intro K hK
      have hconv : (convert 49 49 (.slice (some ⟨bl, 0, none⟩) 4 4)).run Tryz.prog U44 = .ok (.slice (some ⟨bl, 0, none⟩) 4 4) (U44.put bl (.cells #[.int .u8 111, .int .u8 110, .int .u8 99, .int .u8 101] 5 (4, 5))) := run_convert_mark 4 4 (HU44.out.nth 0 rfl) Tryz.underlying49 Tryz.underlying5
      go_wp2_with fail
      have hO := HU44.out.set 0 (.cells #[.int .u8 111, .int .u8 110, .int .u8 99, .int .u8 101] 5 (4, 5)) rfl
      refine ⟨hO.nth 3 rfl, ?_⟩
      refine named_world (A := fun X => OwB w [(bl, .cells #[.int .u8 111, .int .u8 110, .int .u8 99, .int .u8 101] 5 (4, 5)), (bd, .cells #[.int .u8 (d : Int)] 5), (bn, .cells (ints .u8 (putB i 2)) 5), (b0, .cells xs 65)] X) (Q := fun X => Go.Dr.wpAnyS Tryz.prog .any _ _ _ _ _ _ _ X) hO ?_
      clear hO hconv
      intro U45 hO
      have HU45 := Lib.hid hO
      clear f0 t0 hO
      have f0 := HU45.out.nth 3 rfl
      have t0 := World.at_lt f0
      refine drawn_next 15 (fuel := 2) rfl (by kernel_rfl) ?_
      intro K hK
      go_wp2_with fail
      refine ⟨by go_simp, ?_⟩
      refine named_world (A := fun X => OwB w ((U45.heap.size, .cells #[.slice (some ⟨bl, 0, none⟩) 4 4, .slice (some ⟨bd, 0, none⟩) 1 1, .slice (some ⟨b0, 1, none⟩) 32 32, .slice (some ⟨b0, 33, none⟩) 32 32, .slice (some ⟨bn, 0, none⟩) 2 2, .slice (some ⟨b0, 66, none⟩) 32 32] 49) :: [(bl, .cells #[.int .u8 111, .int .u8 110, .int .u8 99, .int .u8 101] 5 (4, 5)), (bd, .cells #[.int .u8 (d : Int)] 5), (bn, .cells (ints .u8 (putB i 2)) 5), (b0, .cells xs 65)]) X) (Q := fun X => Go.Dr.wpAnyS Tryz.prog .any _ _ _ _ _ _ _ X) (HU45.out.allocN _ U45.heap.size rfl) ?_
      intro U46 hO
      generalize U45.heap.size = bx at hO ⊢
      have S := sll_six (hO.nth 4 rfl) hsz HX1.out HX2.out HX4.out (hO.nth 1 rfl) (hO.nth 2 rfl) d1 (hO.nth 3 rfl) (hO.nth 0 rfl)
      have HS := Lib.hid S
      have HF := Lib.hid hO
      clear f0 t0 S hO
      have f0 := HF.out.nth 4 rfl
      have t0 := World.at_lt f0
      refine drawn_next 16 (fuel := 1) rfl (by kernel_rfl) ?_
      intro K hK
      go_wp2_with fail
      refine (rall_f HS.out (by simp [fits, putB_len, la, ls, lo])).mono ?_
      rintro e W ⟨q, m, c, rfl, B⟩
      have HB := Lib.hid B
      have HF2 := Lib.hid (HF.out.call B.own.fr)
      clear f0 t0 B
      have f0 := HF2.out.nth 4 rfl
      have t0 := World.at_lt f0
      go_wp2_with fail
      refine ⟨f0, ?_⟩
      refine drawn_end rfl (by kernel_rfl) ?_
      intro K hK
      go_wp2_with fail
      rw [HE.out]
      exact bodyPost_ret (results_tmp rfl _ _ _) rfl ⟨q, m, c, rfl, HB.out.lift (((OwB.start w).call HF.out.fr))⟩
end
end Go.Proofs.YtbhnfohoclcjdaaGreat
namespace Go.Proofs.YtbhnfohoclcjdaaGreat
open Go.RowKit Go.Dr Go.Kd
section
variable {w : World}
set_option maxRecDepth 100000 in
theorem bclone_nil : Calls Tryz.prog 60 #[.slice none 0 0] w fun e w' => e = .returned (.slice none 0 0) ∧ Fr [] w w' := by
  have hq : (binOp .eql 66 (.slice none 0 0) (.slice none 0 0)).run Tryz.prog w = .ok (.bool true) w := by
    exact Lib.run_eql_slice_nil w 66 65 none 0 0 0 0 Tryz.underlying66
  go_enter Tryz.func60, Tryz.ntmps60
  go_wp2_with fail
  exact bodyPost_ret (results_tmp rfl _ _ _) rfl ⟨rfl, Fr.refl _ _⟩
/-- An empty slice, nil or not. -/
def Emp (w : World) (p : Option Addr) (cap : Nat) : Prop := (p = none ∧ cap = 0) ∨ ∃ a, p = some a ∧ Sv 162 w (some a) 0 cap []
theorem Emp.fr {fp : List Nat} {w w' : World} {p : Option Addr} {cap : Nat} (h : Emp w p cap) (F : Fr fp w w') (hn : ∀ b, p.map (·.block) = some b → b ∉ fp) : Emp w' p cap :=
  h.imp id fun ⟨a, h1, h2⟩ => ⟨a, h1, h2.fr F (by rw [← h1]; exact hn)⟩
theorem Emp.fr0 {w w' : World} {p : Option Addr} {cap : Nat} (h : Emp w p cap) (F : Fr [] w w') : Emp w' p cap :=
  h.imp id fun ⟨a, h1, h2⟩ => ⟨a, h1, h2.fr0 F⟩
theorem bclone_zero {p : Option Addr} {cap : Nat} (h : Emp w p cap) : Calls Tryz.prog 60 #[.slice p 0 cap] w fun e w' => ∃ q c, e = .returned (.slice q 0 c) ∧ Emp w' q c ∧ (∀ b, q.map (·.block) = some b → w.heap.size ≤ b) ∧ Fr [] w w' := by
  rcases h with ⟨rfl, rfl⟩ | ⟨a, rfl, S⟩
  · exact bclone_nil.mono fun e w' ⟨h1, h2⟩ => ⟨none, 0, h1, .inl ⟨rfl, rfl⟩, (fun b hb => by cases hb), h2⟩
  · refine (bclone_f S (by simp) (by omega)).mono fun e w' ⟨q, c, h1, B⟩ => ⟨q, c, h1, ?_, (fun b hb => (B.new b hb).1), B.own.fr⟩
    cases q with
    | none =>
      rcases B.row.2 with hh | ⟨b, cp, cs, hh, _⟩
      · have hc : c = 0 := by have := hh.1; simpa using this
        exact .inl ⟨rfl, hc⟩
      · cases hh
    | some g => exact .inr ⟨g, rfl, B.sv⟩
set_option maxRecDepth 100000 in
set_option maxHeartbeats 2000000 in
/-- Nothing is left: the fallback, where there is one. -/
theorem claim_none {last : Value} {fall : List Value} {hs : Bool} {p : Option Addr} {cap : Nat} (hf : fall.length = 162) (hfo : ∀ v ∈ fall, v.oneCell' = true) (hl : last.oneCell' = true) (S : Emp w p cap) :
    Calls Tryz.prog 31 #[.agg (cShelf (.bool hs) fall (.slice p 0 cap) last).toArray] w fun e w' => ∃ q c u, e = .returned (.tuple #[.agg (cShelf (.bool hs) fall (.slice q 0 c) last).toArray, .agg u, .bool hs]) ∧ (hs = true → u = fall.toArray) ∧ (hs = false → u = Tryz.zeroCells65) ∧ Emp w' q c ∧ Fr [] w w' := by
  obtain ⟨xs, hxs⟩ : ∃ xs, xs = (cShelf (.bool hs) fall (.slice p 0 cap) last).toArray := ⟨_, rfl⟩
  have hsz : xs.size = 165 := by rw [hxs, List.size_toArray, cShelf_length _ _ _ _ hf]
  have x1 : xs[163]? = some (.slice p 0 cap) := by rw [hxs]; exact cShelf_get_left _ _ _ _ hf
  replace x1 := (Array.getElem?_eq_some_iff.1 x1).2
  have HXS := Lib.hid hxs
  rw [← hxs]
  have HS := Lib.hid S
  clear hxs S
  go_enter Tryz.func31, Tryz.ntmps31
  go_wp2_with fail
  refine named_world (A := fun X => OwB w [(w.heap.size + 1 + 1, .cells Tryz.zeroCells65 65), (w.heap.size + 1, .cells Tryz.zeroCells68 68), (w.heap.size, .cells xs 68)] X) (Q := fun X => Calls Tryz.prog 60 _ X _) ((((OwB.start w).allocN _ w.heap.size rfl).allocN _ (w.heap.size + 1) (by simp)).allocN _ (w.heap.size + 1 + 1) (by simp)) ?_
  intro V hV
  generalize w.heap.size + 1 + 1 = b3 at hV ⊢
  generalize w.heap.size + 1 = b2 at hV ⊢
  generalize w.heap.size = b1 at hV ⊢
  have HV := Lib.hid hV
  clear hV
  refine (bclone_zero (HS.out.fr0 HV.out.fr)).mono ?_
  rintro e W ⟨q, c, rfl, hE, hqn, F⟩
  have HO := Lib.hid (OwB.call HV.out F)
  have HE := Lib.hid hE
  have f1 := HO.out.nth 2 rfl
  have f2 := HO.out.nth 1 rfl
  have f3 := HO.out.nth 0 rfl
  have n12 := HO.out.ne 2 1 rfl rfl (by decide)
  have n13 := HO.out.ne 2 0 rfl rfl (by decide)
  have n23 := HO.out.ne 1 0 rfl rfl (by decide)
  have n21 := n12.symm
  have n31 := n13.symm
  have n32 := n23.symm
  have t1 := World.at_lt f1
  have t2 := World.at_lt f2
  have t3 := World.at_lt f3
  obtain ⟨ys, hys⟩ : ∃ ys, ys = (cShelf (.bool hs) fall (.slice q 0 c) last).toArray := ⟨_, rfl⟩
  have hszy : ys.size = 165 := by rw [hys, List.size_toArray, cShelf_length _ _ _ _ hf]
  have y0 : ys[0]? = some (.bool hs) := by rw [hys]; exact cShelf_get_has _ _ _ _ hf
  have y1 : ys[163]? = some (.slice q 0 c) := by rw [hys]; exact cShelf_get_left _ _ _ _ hf
  replace y0 := (Array.getElem?_eq_some_iff.1 y0).2
  replace y1 := (Array.getElem?_eq_some_iff.1 y1).2
  have xset : xs.setIfInBounds 163 (.slice q 0 c) = ys := by rw [HXS.out, hys]; exact cShelf_set_left _ _ _ _ _ hf
  have yext : ys.extract 1 163 = fall.toArray := by rw [hys]; exact cShelf_ext_fall _ _ _ _ hf
  have yall : ys.extract 0 165 = ys := by rw [← hszy]; exact Array.extract_size
  have yones : ones ys.toList = true := by rw [hys]; exact List.all_eq_true.2 (cShelf_one _ _ _ _ rfl hfo rfl hl)
  have fones : ones fall = true := List.all_eq_true.2 hfo
  have HYS := Lib.hid hys
  have HQ : Hid (∀ b, q.map (·.block) = some b → b ∉ [b1, b2, b3]) := Lib.hid (fun b hb hm => by
    have h0 := hqn b hb
    have h1 := HV.out.lt 2 rfl
    have h2 := HV.out.lt 1 rfl
    have h3 := HV.out.lt 0 rfl
    simp only [List.mem_cons, List.not_mem_nil, or_false] at hm
    omega)
  have l1 := HO.out.low 2 rfl
  have l2 := HO.out.low 1 rfl
  have l3 := HO.out.low 0 rfl
  have hz59 : Tryz.zeroCells65.size = 162 := by kernel_rfl
  have hz62 : Tryz.zeroCells68.size = 165 := by kernel_rfl
  clear hys hE F hqn
  cases hs with
  | false =>
    go_wp2_with fail
    refine ret_cell2_tmp rfl rfl rfl rfl ?_
    go_simp
    refine ⟨by kernel_rfl, by kernel_rfl, q, c, _, ⟨by rw [HYS.out], rfl⟩, rfl, ?_, ?_⟩
    · exact HE.out.fr ((((Fr.refl [b1, b2, b3] W).put b1 _ (by simp)).put b2 _ (by simp)).put b3 _ (by simp)) HQ.out
    · exact ((HO.out.fr.put b1 _ (fun h => by omega)).put b2 _ (fun h => by omega)).put b3 _ (fun h => by omega)
  | true =>
    go_upto_region 8 with (fail)
    refine named_world (A := fun X => OwB w [(b3, .cells Tryz.zeroCells65 65), (b2, .cells Tryz.zeroCells68 68), (b1, .cells ys 68)] X ∧ Fr [b1, b2, b3] W X) (Q := fun X => Code.wp _ _ _ _ X) ⟨HO.out.set 2 _ rfl, (Fr.refl [b1, b2, b3] W).put b1 _ (by simp)⟩ ?_
    rintro U ⟨hU, hFU⟩
    clear f1 f2 f3 t1 t2 t3
    have f1 := hU.nth 2 rfl
    have f2 := hU.nth 1 rfl
    have f3 := hU.nth 0 rfl
    have t1 := World.at_lt f1
    have t2 := World.at_lt f2
    have t3 := World.at_lt f3
    have HU := Lib.hid hU
    have HFU := Lib.hid hFU
    clear hU hFU
    refine drawn_begin 4 (fun w' => w'.blk b1 = some (.cells ys 68)) (by kernel_rfl) ?_
    refine drawn_reads (fuel := 3) [0, 1, 2] rfl (by kernel_rfl) f1 ?_
    repeat (first | (refine rowK_step2 rfl rfl (fun K hK => ?_); go_wp2) | (refine rowK_step rfl (fun K hK => ?_); go_simp; refine hK _ ?_; clear hK K))
    refine rowK_nil ⟨fun w' e1 => ?_, ?_⟩
    · clear f1
      repeat (first | (refine rowWp_step2 rfl rfl (fun K hK => ?_); go_wp2) | (refine rowWp_step rfl (fun K hK => ?_); go_simp; refine hK _ ?_; clear hK K))
      exact rowWp_nil rfl
    refine drawn_next 3 (fuel := 2) rfl (by kernel_rfl) ?_
    intro K hK
    go_wp2_with fail
    refine ⟨by go_simp, ?_⟩
    refine drawn_end rfl (by kernel_rfl) ?_
    intro K hK
    go_wp2_with fail
    refine ret_cell2_tmp rfl rfl rfl rfl ?_
    go_simp
    refine ⟨by kernel_rfl, by kernel_rfl, q, c, _, ⟨by rw [HYS.out], rfl⟩, rfl, ?_, ?_⟩
    · exact HE.out.fr (((HFU.out.put b2 _ (by simp)).put b3 _ (by simp)).drew) HQ.out
    · exact ((HU.out.fr.put b2 _ (fun h => by omega)).put b3 _ (fun h => by omega)).drew
end
end Go.Proofs.YtbhnfohoclcjdaaGreat
namespace Go.Proofs.YtbhnfohoclcjdaaGreat
open Go.RowKit Go.Dr Go.Kd
section
variable {w : World}
/-- A slice of bundles, nil or not. -/
def Lf (w : World) (p : Option Addr) (n cap : Nat) (vs : List Value) : Prop := (p = none ∧ n = 0 ∧ cap = 0 ∧ vs = []) ∨ ∃ a, p = some a ∧ Sv 162 w (some a) n cap vs
theorem Lf.fr {fp : List Nat} {w w' : World} {p : Option Addr} {n cap : Nat} {vs : List Value} (h : Lf w p n cap vs) (F : Fr fp w w') (hn : ∀ b, p.map (·.block) = some b → b ∉ fp) : Lf w' p n cap vs :=
  h.imp id fun ⟨a, h1, h2⟩ => ⟨a, h1, h2.fr F (by rw [← h1]; exact hn)⟩
theorem Lf.fr0 {w w' : World} {p : Option Addr} {n cap : Nat} {vs : List Value} (h : Lf w p n cap vs) (F : Fr [] w w') : Lf w' p n cap vs := h.fr F fun _ _ => by simp
theorem Lf.emp {p : Option Addr} {cap : Nat} (h : Lf w p 0 cap []) : Emp w p cap := h.imp (fun ⟨h1, _, h3, _⟩ => ⟨h1, h3⟩) id
theorem Emp.lf {p : Option Addr} {cap : Nat} (h : Emp w p cap) : Lf w p 0 cap [] := h.imp (fun ⟨h1, h3⟩ => ⟨h1, rfl, h3, rfl⟩) id
theorem bclone_any {p : Option Addr} {n cap : Nat} {vs : List Value} (h : Lf w p n cap vs) (h1 : ∀ u ∈ vs, u.oneCell' = true) (hn : n ≤ 100000) :
    Calls Tryz.prog 60 #[.slice p n cap] w fun e w' => ∃ q c, e = .returned (.slice q n c) ∧ BldV w [] 65 162 w' q n c vs := by
  rcases h with ⟨rfl, rfl, rfl, rfl⟩ | ⟨a, rfl, S⟩
  · exact bclone_nil.mono fun e w' ⟨h1, h2⟩ => ⟨none, 0, h1, BldV.nil ((OwB.start w).call h2)⟩
  · exact bclone_f S h1 hn
theorem BldV.lf {w0 w : World} {L : List (Nat × Obj)} {q : Option Addr} {n c : Nat} {vs : List Value} (B : BldV w0 L 65 162 w q n c vs) : Lf w q n c vs := by
  cases q with
  | none =>
    have h1 := B.len
    rcases B.row.2 with hh | ⟨b, cp, cs, hh, _⟩
    · obtain ⟨h2, h3⟩ := hh
      simp only [Value.slice.injEq] at h2
      obtain ⟨-, h4, h5⟩ := h2
      subst h4
      exact .inl ⟨rfl, rfl, h5, List.eq_nil_of_length_eq_zero (by omega)⟩
    · cases hh
  | some g => exact .inr ⟨g, rfl, B.sv⟩
end
end Go.Proofs.YtbhnfohoclcjdaaGreat
