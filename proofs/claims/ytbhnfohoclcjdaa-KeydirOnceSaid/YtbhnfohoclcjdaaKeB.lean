/- Public keys; whether a bundle is signed. -/
import Derived.Test.YtbhnfohoclcjdaaKeA
set_option linter.unusedVariables false
set_option linter.unusedSimpArgs false
namespace Go.Proofs.Ytbhnfohoclcjdaa
open Go.RowKit Go.Dr Go.Kd
section
variable {w : World}
set_option maxRecDepth 100000 in
set_option maxHeartbeats 2000000 in
theorem public_f {lo tb : Nat} {T : List Tm} {k : List Int} (h : TabP lo tb w T) (hk : k.length = 32) (hb : isBytes k) :
    Calls Try.prog 27 #[SU tb, .agg (ints .u8 k)] w fun e w' => e = .returned (.agg (ints .u8 (makeT T (2, [k])).2.1)) ∧ TabP lo tb w' (makeT T (2, [k])).1 ∧ FrP lo w w' := by
  have H := Lib.hid h
  have HB := Lib.hid hb
  clear h hb
  go_enter Try.func27, Try.ntmps27
  go_wp2_with fail
  refine named_world (A := fun X => OwB w [(w.heap.size + 1 + 1, .cells (ints .u8 (zs 32)) 23), (w.heap.size + 1, .cells (ints .u8 k) 23), (w.heap.size, .cells #[.pointer (some ⟨tb, 0, none⟩)] 33)] X) (Q := fun X => Code.wp _ _ _ _ X) ((((OwB.start w).allocN _ w.heap.size rfl).allocN _ (w.heap.size + 1) (by simp)).allocN _ (w.heap.size + 1 + 1) (by simp)) ?_
  intro V hV
  generalize w.heap.size + 1 + 1 = b4 at hV ⊢
  generalize w.heap.size + 1 = b3 at hV ⊢
  generalize w.heap.size = b2 at hV ⊢
  have f2 := hV.nth 2 rfl
  have f3 := hV.nth 1 rfl
  have t2 := World.at_lt f2
  have t3 := World.at_lt f3
  have HV := Lib.hid hV
  clear hV
  refine drawn_begin 4 (fun w' => w'.blk b2 = some (.cells #[.pointer (some ⟨tb, 0, none⟩)] 33) ∧ w'.blk b3 = some (.cells (ints .u8 k) 23)) (by kernel_rfl) ?_
  refine drawn_reads (fuel := 3) [0, 1] rfl (by kernel_rfl) ⟨f2, f3⟩ ?_
  repeat (first | (refine rowK_step2 rfl rfl (fun K hK => ?_); go_wp2) | (refine rowK_step rfl (fun K hK => ?_); go_simp; refine hK _ ?_; clear hK K))
  refine rowK_nil ⟨fun w' e1 => ?_, ?_⟩
  · obtain ⟨e1, e2⟩ := e1
    clear f2 f3
    repeat (first | (refine rowWp_step2 rfl rfl (fun K hK => ?_); go_wp2) | (refine rowWp_step rfl (fun K hK => ?_); go_simp; refine hK _ ?_; clear hK K))
    exact rowWp_nil rfl
  refine drawn_next 2 (fuel := 2) rfl (by kernel_rfl) ?_
  intro K hK
  go_wp2_with fail
  refine ⟨⟨by go_simp, by go_simp⟩, ?_⟩
  refine drawn_next 3 (fuel := 1) rfl (by kernel_rfl) ?_
  intro K hK
  go_wp2_with fail
  refine named_world (A := fun X => OwB w [(V.heap.size, .cells #[.slice (some ⟨b3, 0, none⟩) 32 32] 47), (b4, .cells (ints .u8 (zs 32)) 23), (b3, .cells (ints .u8 k) 23), (b2, .cells #[.pointer (some ⟨tb, 0, none⟩)] 33)] X) (Q := fun X => Calls Try.prog 20 _ X _) (HV.out.allocN _ V.heap.size rfl).drew ?_
  intro V5 hV5
  clear f2 f3 t2 t3
  generalize V.heap.size = bx at hV5 ⊢
  refine (mk_f (H.out.fr0 hV5.fr) (sll_one (hV5.nth 2 rfl) (hV5.nth 0 rfl) hk) (good_one (by decide) (by decide) hk HB.out)).mono ?_
  rintro e w1 ⟨rfl, hT, F⟩
  have f4 := F.get (hV5.nth 1 rfl) (.inr ⟨by decide, by decide⟩)
  have f3 := F.get (hV5.nth 2 rfl) (.inr ⟨by decide, by decide⟩)
  have f2 := F.get (hV5.nth 3 rfl) (.inr ⟨by decide, by decide⟩)
  have l4 := hV5.low 1 rfl
  have t4 := World.at_lt f4
  have HT := Lib.hid hT
  have HF := Lib.hid ((FrT.of hV5.fr).trans F)
  have hk2 := makeT_len T (2, [k])
  generalize hke : (makeT T (2, [k])).2.1 = k2 at hk2 ⊢
  have HKE := Lib.hid hke
  clear hT F hV5 hke
  go_wp2_with fail
  refine ⟨⟨f2, f3⟩, ?_⟩
  refine drawn_end rfl (by kernel_rfl) ?_
  intro K hK
  go_wp2_with fail
  refine ret_cell rfl rfl rfl ?_
  go_simp
  exact ⟨by kernel_rfl, by rw [HKE.out], HT.out.put f4 (by decide) _, HF.out.put _ l4⟩
theorem verify_s {lo tb : Nat} {T : List Tm} {k t s : List Int} {p : Option Addr} {n cap : Nat} (h : TabP lo tb w T) (hk : k.length = 32) (hb : isBytes k) (S : Sl .u8 w p n cap t) (ht : isBytes t) (hs : s.length = 64) (hsb : isBytes s) :
    Calls Try.prog 22 #[SU tb, .agg (ints .u8 k), .slice p n cap, .agg (ints .u8 s)] w fun e w' => e = .returned (.bool (verifyF T k t s)) ∧ Fr [] w w' := by
  have e : s = s.take 32 ++ s.drop 32 := (List.take_append_drop 32 s).symm
  rw [e]
  exact verify_f h hk hb S ht (by rw [List.length_take]; omega) (by rw [List.length_drop]; omega) (fun y hy => hsb y (List.mem_of_mem_take hy))
set_option maxRecDepth 100000 in
set_option maxHeartbeats 2000000 in
theorem acheck_f {lo tb : Nat} {T : List Tm} {x : Bn} (h : TabP lo tb w T) (hx : BnOk x) :
    Calls Try.prog 33 #[SU tb, .agg (bnC x)] w fun e w' => e = .returned (.bool (verifyF T x.signer (bunText x) x.sig)) ∧ Fr [] w w' := by
  have H := Lib.hid h
  obtain ⟨xs, hxs⟩ : ∃ xs, xs = bnC x := ⟨_, rfl⟩
  have hsz : xs.size = 162 := by rw [hxs, List.size_toArray, cBundle_length _ _ _ _ _ _ hx.al hx.sl hx.ol hx.gl]
  have xall : xs.extract 0 162 = xs := by rw [← hsz]; exact Array.extract_size
  have x2 : xs.extract 33 65 = ints .u8 x.signer := by rw [hxs]; exact cBundle_ext_signer _ _ _ _ _ _ hx.al hx.sl hx.ol hx.gl
  have x5 : xs.extract 98 162 = ints .u8 x.sig := by rw [hxs]; exact cBundle_ext_sig _ _ _ _ _ _ hx.al hx.sl hx.ol hx.gl
  have c1 : ∀ W : World, Calls Try.prog 28 #[.agg xs] W fun e w' => ∃ q m c, e = .returned (.slice q m c) ∧ Bld W [] .u8 5 w' q m c (bunText x) := fun W => by rw [hxs]; exact btext_f hx
  have C1 := Lib.hid c1
  have HX := Lib.hid hx
  rw [← hxs]
  clear h hx hxs c1
  go_enter Try.func33, Try.ntmps33
  go_upto_region 1 with (fail)
  refine named_world (A := fun X => OwB w [(w.heap.size + 1, .cells xs 59), (w.heap.size, .cells #[.pointer (some ⟨tb, 0, none⟩)] 33)] X) (Q := fun X => Code.wp _ _ _ _ X) (((OwB.start w).allocN _ w.heap.size rfl).allocN _ (w.heap.size + 1) (by simp)) ?_
  intro V hV
  generalize w.heap.size + 1 = b3 at hV ⊢
  generalize w.heap.size = b2 at hV ⊢
  have f3 := hV.nth 0 rfl
  have f2 := hV.nth 1 rfl
  have t3 := World.at_lt f3
  have t2 := World.at_lt f2
  have HV := Lib.hid hV
  clear hV
  refine drawn_begin 8 (fun w' => w'.blk b2 = some (.cells #[.pointer (some ⟨tb, 0, none⟩)] 33) ∧ w'.blk b3 = some (.cells xs 59)) (by kernel_rfl) ?_
  refine drawn_reads (fuel := 3) [0, 1, 2, 3, 5, 6] rfl (by kernel_rfl) ⟨f2, f3⟩ ?_
  repeat (first | (refine rowK_step2 rfl rfl (fun K hK => ?_); go_wp2) | (refine rowK_step rfl (fun K hK => ?_); go_simp; refine hK _ ?_; clear hK K))
  refine rowK_nil ⟨fun w' e1 => ?_, ?_⟩
  · obtain ⟨e1, e2⟩ := e1
    clear f2 f3
    repeat (first | (refine rowWp_step2 rfl rfl (fun K hK => ?_); go_wp2) | (refine rowWp_step rfl (fun K hK => ?_); go_simp; refine hK _ ?_; clear hK K))
    exact rowWp_nil rfl
  refine drawn_next 4 (fuel := 2) rfl (by kernel_rfl) ?_
  intro K hK
  go_wp2_with fail
  refine (C1.out _).mono ?_
  rintro e V1 ⟨q, m, c, rfl, hB⟩
  have hV1 := HV.out.drew.call hB.own.fr
  clear f2 f3 t2 t3
  have f3 := hV1.nth 0 rfl
  have f2 := hV1.nth 1 rfl
  have HV1 := Lib.hid hV1
  have HBt := Lib.hid hB
  clear hV1 hB
  go_wp2_with fail
  refine ⟨⟨f2, f3⟩, ?_⟩
  refine drawn_next 7 (fuel := 1) rfl (by kernel_rfl) ?_
  intro K hK
  go_wp2_with fail
  refine (verify_s (H.out.fr0 HV1.out.fr) HX.out.sl HX.out.sb HBt.out.sl (isBytes_bun HX.out) HX.out.gl HX.out.gb).mono ?_
  rintro e V2 ⟨rfl, F⟩
  have hV2 := HV1.out.call F
  clear f2 f3
  have f3 := hV2.nth 0 rfl
  have f2 := hV2.nth 1 rfl
  have HV2 := Lib.hid hV2
  clear hV2 F
  go_wp2_with fail
  refine ⟨⟨f2, f3⟩, ?_⟩
  refine drawn_end rfl (by kernel_rfl) ?_
  intro K hK
  go_wp2_with fail
  exact bodyPost_ret (results_tmp rfl _ _ _) rfl ⟨rfl, HV2.out.fr⟩
end
end Go.Proofs.Ytbhnfohoclcjdaa
