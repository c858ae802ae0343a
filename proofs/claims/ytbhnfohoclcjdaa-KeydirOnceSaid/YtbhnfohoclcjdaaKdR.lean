/- A server signs an object. -/
import Derived.Test.YtbhnfohoclcjdaaKdQ
set_option linter.unusedVariables false
set_option linter.unusedSimpArgs false
namespace Go.Proofs.Ytbhnfohoclcjdaa
open Go.RowKit Go.Dr Go.Kd
section
variable {w : World}
set_option maxRecDepth 100000 in
set_option maxHeartbeats 2000000 in
theorem eq27_nil (w : World) : (binOp .eql 27 (.slice none 0 0) (.slice none 0 0)).run Try.prog w = .ok (.bool true) w := by
  kernel_rfl
set_option maxRecDepth 100000 in
set_option maxHeartbeats 2000000 in
theorem clone0_f : Calls Try.prog 25 #[.slice none 0 0] w fun e w' => e = .returned (.slice none 0 0) ∧ Fr [] w w' := by
  have HF := Lib.hid (Fr.refl [] w)
  have hq := eq27_nil w
  go_enter Try.func25, Try.ntmps25
  go_wp2_with fail
  exact bodyPost_ret (results_tmp rfl _ _ _) rfl ⟨rfl, HF.out⟩
theorem signF_len (T : List Tm) (k t : List Int) : (signF T k t).2.length = 64 := by
  unfold signF
  split
  · rfl
  · show ((makeT T (6, [k, t])).2.1 ++ Kd.zeros 32).length = 64
    rw [List.length_append, makeT_len]
    rfl
/-- An object without vouches, as cells. -/
abbrev obC (x : Ob) : Array Value := (cObject (.int .u8 x.server) (.int .u8 x.n) x.key (.int .u32 x.frm) (.int .u32 x.til) x.sig (.slice none 0 0)).toArray
structure ObOk (x : Ob) : Prop where
  s0 : 0 ≤ x.server
  s1 : x.server < 256
  n0 : 0 ≤ x.n
  n1 : x.n < 256
  f0 : 0 ≤ x.frm
  f1 : x.frm < 4294967296
  t0 : 0 ≤ x.til
  t1 : x.til < 4294967296
  kl : x.key.length = 32
  sl : x.sig.length = 64
  kb : isBytes x.key
  sb : isBytes x.sig
  vs : x.vs = []
theorem otext_o {x : Ob} (h : ObOk x) : Calls Try.prog 23 #[.agg (obC x)] w fun e w' => ∃ q m c, e = .returned (.slice q m c) ∧ Bld w [] .u8 5 w' q m c (objText x) := by
  obtain ⟨server, n, key, frm, til, sig, vs⟩ := x
  obtain ⟨s0, s1, n0, n1, f0, f1, t0, t1, kl, sl, kb, sb, hv⟩ := h
  simp only at *
  subst hv
  obtain ⟨s, rfl⟩ := Int.eq_ofNat_of_zero_le s0
  obtain ⟨m, rfl⟩ := Int.eq_ofNat_of_zero_le n0
  obtain ⟨f, rfl⟩ := Int.eq_ofNat_of_zero_le f0
  obtain ⟨t, rfl⟩ := Int.eq_ofNat_of_zero_le t0
  exact otext_f (by omega) (by omega) (by omega) (by omega) kl sl rfl
theorem isBytes_obj {x : Ob} (h : ObOk x) : isBytes (objText x) := by
  have hp : ∀ k s, isBytes (putB k s) := fun k s y hy => by
    simp only [putB, List.mem_map] at hy
    obtain ⟨i, _, rfl⟩ := hy
    omega
  refine isBytes_join (by simp [fits, putB_len, h.kl]) ?_
  intro l hl
  simp only [List.mem_cons, List.not_mem_nil, or_false] at hl
  rcases hl with rfl | rfl | rfl | rfl | rfl | rfl
  · intro y hy; simp only [List.mem_cons, List.not_mem_nil, or_false] at hy; omega
  · exact hp _ _
  · exact hp _ _
  · exact h.kb
  · exact hp _ _
  · exact hp _ _
set_option maxRecDepth 100000 in
set_option maxHeartbeats 2000000 in
theorem ksign_f {lo tb : Nat} {T : List Tm} {k : List Int} {x : Ob} (h : TabP lo tb w T) (hk : k.length = 32) (hb : isBytes k) (hx : ObOk x) :
    Calls Try.prog 10 #[SU tb, .agg (ints .u8 k), .agg (obC x)] w fun e w' => e = .returned (.agg (obC { x with sig := (signF T k (objText x)).2 })) ∧ TabP lo tb w' (signF T k (objText x)).1 ∧ FrP lo w w' := by
  have H := Lib.hid h
  have HB := Lib.hid hb
  obtain ⟨xs, hxs⟩ : ∃ xs, xs = obC x := ⟨_, rfl⟩
  have hsz : xs.size = 101 := by rw [hxs, List.size_toArray, cObject_length _ _ _ _ _ _ _ hx.kl hx.sl]
  have x6 : xs[100]? = some (.slice none 0 0) := by rw [hxs]; exact cObject_get_vs _ _ _ _ _ _ _ hx.kl hx.sl
  replace x6 := (Array.getElem?_eq_some_iff.1 x6).2
  have xset : xs.setIfInBounds 100 (.slice none 0 0) = xs := by rw [hxs]; exact cObject_set_vs _ _ _ _ _ _ _ _ hx.kl hx.sl
  have xall : xs.extract 0 101 = xs := by rw [← hsz]; exact Array.extract_size
  rw [← hxs]
  have c1 : ∀ W : World, Calls Try.prog 23 #[.agg xs] W fun e w' => ∃ q m c, e = .returned (.slice q m c) ∧ Bld W [] .u8 5 w' q m c (objText x) := fun W => by rw [hxs]; exact otext_o hx
  have C1 := Lib.hid c1
  clear c1
  have HX := Lib.hid hxs
  have HO := Lib.hid hx
  clear h hb hxs hx
  go_enter Try.func10, Try.ntmps10
  go_wp2_with fail
  have hz : Try.zeroCells29.size = 101 := by kernel_rfl
  refine named_world (A := fun X => OwB w [(w.heap.size + 1 + 1 + 1, .cells Try.zeroCells29 29), (w.heap.size + 1 + 1, .cells xs 29), (w.heap.size + 1, .cells (ints .u8 k) 23), (w.heap.size, .cells #[.pointer (some ⟨tb, 0, none⟩)] 33)] X) (Q := fun X => Calls Try.prog 25 _ X _) (((((OwB.start w).allocN _ w.heap.size rfl).allocN _ (w.heap.size + 1) (by simp)).allocN _ (w.heap.size + 1 + 1) (by simp)).allocN _ (w.heap.size + 1 + 1 + 1) (by simp)) ?_
  intro V hV
  generalize w.heap.size + 1 + 1 + 1 = b6 at hV ⊢
  generalize w.heap.size + 1 + 1 = b5 at hV ⊢
  generalize w.heap.size + 1 = b4 at hV ⊢
  generalize w.heap.size = b3 at hV ⊢
  refine clone0_f.mono ?_
  rintro e V1 ⟨rfl, F1⟩
  have hV1 := hV.call F1
  clear hV F1
  have f5 := hV1.nth 1 rfl
  have t5 := World.at_lt f5
  have HV1 := Lib.hid hV1
  clear hV1
  go_upto_region 2 with (fail)
  refine named_world (A := fun X => OwB w [(b6, .cells Try.zeroCells29 29), (b5, .cells xs 29), (b4, .cells (ints .u8 k) 23), (b3, .cells #[.pointer (some ⟨tb, 0, none⟩)] 33)] X) (Q := fun X => Code.wp _ _ _ _ X) (HV1.out.set 1 _ rfl) ?_
  clear f5 t5 HV1
  intro U hU
  have f5 := hU.nth 1 rfl
  have f4 := hU.nth 2 rfl
  have f3 := hU.nth 3 rfl
  have t5 := World.at_lt f5
  have t4 := World.at_lt f4
  have t3 := World.at_lt f3
  have HU := Lib.hid hU
  clear hU
  refine drawn_begin 5 (fun w' => w'.blk b3 = some (.cells #[.pointer (some ⟨tb, 0, none⟩)] 33) ∧ w'.blk b4 = some (.cells (ints .u8 k) 23) ∧ w'.blk b5 = some (.cells xs 29)) (by kernel_rfl) ?_
  refine drawn_reads (fuel := 4) [0, 1, 2] rfl (by kernel_rfl) ⟨f3, f4, f5⟩ ?_
  repeat (first | (refine rowK_step2 rfl rfl (fun K hK => ?_); go_wp2) | (refine rowK_step rfl (fun K hK => ?_); go_simp; refine hK _ ?_; clear hK K))
  refine rowK_nil ⟨fun w' e1 => ?_, ?_⟩
  · obtain ⟨e1, e2, e3⟩ := e1
    clear f3 f4 f5
    repeat (first | (refine rowWp_step2 rfl rfl (fun K hK => ?_); go_wp2) | (refine rowWp_step rfl (fun K hK => ?_); go_simp; refine hK _ ?_; clear hK K))
    exact rowWp_nil rfl
  refine drawn_next 3 (fuel := 3) rfl (by kernel_rfl) ?_
  intro K hK
  go_wp2_with fail
  refine (C1.out _).mono ?_
  rintro e U1 ⟨q, m, c, rfl, hB⟩
  have hU1 := HU.out.drew.call hB.own.fr
  clear f3 f4 f5 t3 t4 t5
  have f5 := hU1.nth 1 rfl
  have f4 := hU1.nth 2 rfl
  have f3 := hU1.nth 3 rfl
  have t5 := World.at_lt f5
  have t4 := World.at_lt f4
  have t3 := World.at_lt f3
  have HU1 := Lib.hid hU1
  have HBt := Lib.hid hB
  clear hU1 hB
  go_wp2_with fail
  refine ⟨⟨f3, f4, f5⟩, ?_⟩
  refine drawn_next 4 (fuel := 2) rfl (by kernel_rfl) ?_
  intro K hK
  go_wp2_with fail
  refine (sign_f (H.out.fr0 HU1.out.fr) hk HB.out HBt.out.sl (isBytes_obj HO.out)).mono ?_
  rintro e U2 ⟨rfl, hT, F⟩
  have l6 := HU1.out.low 0 rfl
  have l5 := HU1.out.low 1 rfl
  have n65 := HU1.out.ne 0 1 rfl rfl (by decide)
  have n56 := n65.symm
  have FF := (FrT.of (t := TT) (lo := lo) HU1.out.fr).trans F
  have f6 := F.get (HU1.out.nth 0 rfl) (.inr ⟨by decide, by decide⟩)
  replace f5 := F.get f5 (.inr ⟨by decide, by decide⟩)
  replace f4 := F.get f4 (.inr ⟨by decide, by decide⟩)
  replace f3 := F.get f3 (.inr ⟨by decide, by decide⟩)
  clear t3 t4 t5
  have t6 := World.at_lt f6
  have t5 := World.at_lt f5
  have HT := Lib.hid hT
  have HF := Lib.hid FF
  have hsl := signF_len T k (objText x)
  obtain ⟨s2, hs2⟩ : ∃ s2, s2 = (signF T k (objText x)).2 := ⟨_, rfl⟩
  rw [← hs2] at hsl ⊢
  have HS2 := Lib.hid hs2
  obtain ⟨ys, hys⟩ : ∃ ys, ys = obC { x with sig := s2 } := ⟨_, rfl⟩
  have xspl : spl xs 36 (s2.map (Value.int .u8)) = ys := by rw [HX.out, hys]; exact cObject_spl_sig _ _ _ _ _ _ _ _ HO.out.kl HO.out.sl hsl
  have hszy : ys.size = 101 := by rw [hys, List.size_toArray, cObject_length _ _ _ _ _ _ _ HO.out.kl hsl]
  have yall : ys.extract 0 101 = ys := by rw [← hszy]; exact Array.extract_size
  have yones : ones ys.toList = true := by rw [hys]; exact List.all_eq_true.2 (cObject_one _ _ _ _ _ _ _ rfl rfl rfl rfl rfl)
  have HY := Lib.hid hys
  clear hT F FF hs2 hys
  go_wp2_with fail
  refine ⟨⟨f3, f4, f5⟩, ?_⟩
  refine drawn_end rfl (by kernel_rfl) ?_
  intro K hK
  go_wp2_with fail
  refine ret_cell rfl rfl rfl ?_
  go_simp
  exact ⟨by kernel_rfl, by rw [HY.out, HS2.out], (HT.out.put f5 (by decide) _).put (by rw [World.at_put_other _ _ _ _ n56]; exact f6) (by decide) _, (HF.out.put _ l5).put _ l6⟩
set_option maxRecDepth 100000 in
set_option maxHeartbeats 2000000 in
/-- The suite that is asked for: the free one. -/
theorem suite_f : Calls Try.prog 6 #[.bool true] w fun e w' => ∃ tb, e = .returned (SU tb) ∧ TabP w.heap.size tb w' [] ∧ Fr [] w w' := by
  go_enter Try.func6, Try.ntmps6
  go_wp2_with fail
  have hO := (OwB.start w).allocN (.cells #[.pointer none] 33) w.heap.size rfl
  refine free_f.mono ?_
  rintro e w1 ⟨tb, rfl, hT, F⟩
  have hlo := hT.lower
  have hlt := hT.lt
  rw [World.size_alloc] at hlo
  have f0 := F.get (hO.nth 0 rfl) (by simp)
  have t0 := World.at_lt f0
  have HT := Lib.hid hT
  have HF := Lib.hid ((hO.call F).fr)
  clear hT F hO
  go_wp2_with fail
  refine ret_cell rfl rfl rfl ?_
  go_simp
  exact ⟨by kernel_rfl, (HT.out.put f0 (by decide) _).mono (by simp), HF.out.put _ _ (fun h => by omega)⟩
end
end Go.Proofs.Ytbhnfohoclcjdaa
