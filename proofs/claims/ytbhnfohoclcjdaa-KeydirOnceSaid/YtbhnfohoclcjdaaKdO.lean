/- The free suite: what it is, and terms of it. -/
import Derived.Test.YtbhnfohoclcjdaaKdN
set_option linter.unusedVariables false
set_option linter.unusedSimpArgs false
namespace Go.Proofs.Ytbhnfohoclcjdaa
open Go.RowKit Go.Dr Go.Kd
/-- The free suite of a table, as a value. -/
abbrev SU (tb : Nat) : Value := .agg #[.pointer (some ⟨tb, 0, none⟩)]
section
variable {w : World}
set_option maxRecDepth 100000 in
set_option maxHeartbeats 2000000 in
theorem new_f : Calls Try.prog 26 #[] w fun e w' => ∃ tb, e = .returned (.pointer (some ⟨tb, 0, none⟩)) ∧ TabP w.heap.size tb w' [] ∧ Fr [] w w' := by
  go_enter Try.func26, Try.ntmps26
  have hO := ((OwB.start w).allocN (.map #[] 0) w.heap.size rfl).allocN (.cells #[.slice none 0 0, .map (some w.heap.size)] 116) (w.heap.size + 1) (by simp)
  have HO := Lib.hid hO
  clear hO
  have hmk : (Instr.makeMap 113 none).run Try.prog w = .ok (.map (some w.heap.size)) (w.alloc (.map #[] 0)) := by
    simp [Instr.makeMap, go_sem]
  go_wp2_with fail
  exact bodyPost_ret (results_tmp rfl _ _ _) rfl ⟨w.heap.size + 1, rfl, Tab.new (t := TT) HO.out, HO.out.fr⟩
set_option maxRecDepth 100000 in
set_option maxHeartbeats 2000000 in
theorem free_f : Calls Try.prog 11 #[] w fun e w' => ∃ tb, e = .returned (SU tb) ∧ TabP w.heap.size tb w' [] ∧ Fr [] w w' := by
  go_enter Try.func11, Try.ntmps11
  go_wp2_with fail
  have hO := (OwB.start w).allocN (.cells #[.pointer none] 33) w.heap.size rfl
  refine new_f.mono ?_
  rintro e w1 ⟨tb, rfl, hT, F⟩
  have hlo := hT.lower
  have hlt := hT.lt
  rw [World.size_alloc] at hlo
  have f0 := F.get (hO.nth 0 rfl) (by simp)
  have t0 := World.at_lt f0
  have HT := Lib.hid hT
  have HF := Lib.hid ((hO.call F).fr)
  clear hT F hO
  go_wp2_with fail
  refine ret_cell rfl rfl rfl ?_
  go_simp
  exact ⟨by kernel_rfl, (HT.out.put f0 (by decide) _).mono (by simp), HF.out.put _ _ (fun h => by omega)⟩
set_option maxRecDepth 100000 in
set_option maxHeartbeats 2000000 in
theorem mk_f {lo tb : Nat} {T : List Tm} {q : Option Addr} {m c : Nat} {ps : List (List Int)} {kind : Int} (h : TabP lo tb w T) (S : Sll w q m c ps) (hg : goodT (kind, ps)) :
    Calls Try.prog 20 #[SU tb, .int .i64 kind, .slice q m c] w fun e w' => e = .returned (.agg (ints .u8 (makeT T (kind, ps)).2.1)) ∧ TabP lo tb w' (makeT T (kind, ps)).1 ∧ FrP lo w w' := by
  have H := Lib.hid h
  have HS := Lib.hid S
  have HG := Lib.hid hg
  clear h S hg
  go_enter Try.func20, Try.ntmps20
  go_wp2_with fail
  refine named_world (A := fun X => OwB w [(w.heap.size + 1, .cells (ints .u8 (zs 32)) 23), (w.heap.size, .cells #[.pointer (some ⟨tb, 0, none⟩)] 33)] X) (Q := fun X => Calls Try.prog 34 _ X _) (((OwB.start w).allocN _ w.heap.size rfl).allocN _ (w.heap.size + 1) (by simp)) ?_
  intro V hV
  generalize w.heap.size + 1 = b6 at hV ⊢
  generalize w.heap.size = b3 at hV ⊢
  refine (make_f (H.out.fr0 hV.fr) (HS.out.fr0 hV.fr) HG.out).mono ?_
  rintro e w1 ⟨rfl, hT, F⟩
  have f6 := F.get (hV.nth 0 rfl) (.inr ⟨by decide, by decide⟩)
  have f3 := F.get (hV.nth 1 rfl) (.inr ⟨by decide, by decide⟩)
  have n36 := hV.ne 0 1 rfl rfl (by decide)
  have l6 := hV.low 0 rfl
  have t6 := World.at_lt f6
  have HT := Lib.hid hT
  have HF := Lib.hid ((FrT.of hV.fr).trans F)
  have hk := makeT_len T (kind, ps)
  generalize hke : (makeT T (kind, ps)).2.1 = k at hk ⊢
  have HKE := Lib.hid hke
  clear hT F hV hke
  go_wp2_with fail
  refine ret_cell rfl rfl rfl ?_
  go_simp
  exact ⟨by kernel_rfl, by rw [HKE.out], (HT.out.put f6 (by decide) _).fr0 ((Fr.refl [] _).alloc _), (HF.out.put _ l6).alloc _⟩
/-- A term of one part, of a secret that lies in a box. -/
theorem sll_one {V : World} {b bx : Nat} {k : List Int} {T1 T2 : TypeId} (h1 : V.blk b = some (.cells (ints .u8 k) T1)) (h2 : V.blk bx = some (.cells #[.slice (some ⟨b, 0, none⟩) 32 32] T2)) (hk : k.length = 32) : Sll V (some ⟨bx, 0, none⟩) 1 1 [k] :=
  Sll.of (Sv.one h2) (.cons (Sl.whole h1 hk) .nil)
theorem good_one {kind : Int} {k : List Int} (h1 : 1 ≤ kind) (h8 : kind ≤ 8) (hk : k.length = 32) (hb : isBytes k) : goodT (kind, [k]) :=
  ⟨by simp [fits, hk], by simpa using hb, h1, h8⟩
set_option maxRecDepth 100000 in
set_option maxHeartbeats 2000000 in
theorem fresh_f {lo tb : Nat} {T : List Tm} {k : List Int} (h : TabP lo tb w T) (hk : k.length = 32) (hb : isBytes k) :
    Calls Try.prog 7 #[SU tb, .agg (ints .u8 k)] w fun e w' => e = .returned (.agg (ints .u8 (makeT T (1, [k])).2.1)) ∧ TabP lo tb w' (makeT T (1, [k])).1 ∧ FrP lo w w' := by
  have H := Lib.hid h
  have HB := Lib.hid hb
  clear h hb
  go_enter Try.func7, Try.ntmps7
  go_wp2_with fail
  refine named_world (A := fun X => OwB w [(w.heap.size + 1 + 1, .cells (ints .u8 (zs 32)) 23), (w.heap.size + 1, .cells (ints .u8 k) 23), (w.heap.size, .cells #[.pointer (some ⟨tb, 0, none⟩)] 33)] X) (Q := fun X => Code.wp _ _ _ _ X) ((((OwB.start w).allocN _ w.heap.size rfl).allocN _ (w.heap.size + 1) (by simp)).allocN _ (w.heap.size + 1 + 1) (by simp)) ?_
  intro V hV
  generalize w.heap.size + 1 + 1 = b4 at hV ⊢
  generalize w.heap.size + 1 = b3 at hV ⊢
  generalize w.heap.size = b2 at hV ⊢
  have f2 := hV.nth 2 rfl
  have f3 := hV.nth 1 rfl
  have t2 := World.at_lt f2
  have t3 := World.at_lt f3
  have HV := Lib.hid hV
  clear hV
  refine drawn_begin 4 (fun w' => w'.blk b2 = some (.cells #[.pointer (some ⟨tb, 0, none⟩)] 33) ∧ w'.blk b3 = some (.cells (ints .u8 k) 23)) (by kernel_rfl) ?_
  refine drawn_reads (fuel := 3) [0, 1] rfl (by kernel_rfl) ⟨f2, f3⟩ ?_
  repeat (first | (refine rowK_step2 rfl rfl (fun K hK => ?_); go_wp2) | (refine rowK_step rfl (fun K hK => ?_); go_simp; refine hK _ ?_; clear hK K))
  refine rowK_nil ⟨fun w' e1 => ?_, ?_⟩
  · obtain ⟨e1, e2⟩ := e1
    clear f2 f3
    repeat (first | (refine rowWp_step2 rfl rfl (fun K hK => ?_); go_wp2) | (refine rowWp_step rfl (fun K hK => ?_); go_simp; refine hK _ ?_; clear hK K))
    exact rowWp_nil rfl
  refine drawn_next 2 (fuel := 2) rfl (by kernel_rfl) ?_
  intro K hK
  go_wp2_with fail
  refine ⟨⟨by go_simp, by go_simp⟩, ?_⟩
  refine drawn_next 3 (fuel := 1) rfl (by kernel_rfl) ?_
  intro K hK
  go_wp2_with fail
  refine named_world (A := fun X => OwB w [(V.heap.size, .cells #[.slice (some ⟨b3, 0, none⟩) 32 32] 47), (b4, .cells (ints .u8 (zs 32)) 23), (b3, .cells (ints .u8 k) 23), (b2, .cells #[.pointer (some ⟨tb, 0, none⟩)] 33)] X) (Q := fun X => Calls Try.prog 20 _ X _) (HV.out.allocN _ V.heap.size rfl).drew ?_
  intro V5 hV5
  clear f2 f3 t2 t3
  generalize V.heap.size = bx at hV5 ⊢
  refine (mk_f (H.out.fr0 hV5.fr) (sll_one (hV5.nth 2 rfl) (hV5.nth 0 rfl) hk) (good_one (by decide) (by decide) hk HB.out)).mono ?_
  rintro e w1 ⟨rfl, hT, F⟩
  have f4 := F.get (hV5.nth 1 rfl) (.inr ⟨by decide, by decide⟩)
  have f3 := F.get (hV5.nth 2 rfl) (.inr ⟨by decide, by decide⟩)
  have f2 := F.get (hV5.nth 3 rfl) (.inr ⟨by decide, by decide⟩)
  have l4 := hV5.low 1 rfl
  have t4 := World.at_lt f4
  have HT := Lib.hid hT
  have HF := Lib.hid ((FrT.of hV5.fr).trans F)
  have hk2 := makeT_len T (1, [k])
  generalize hke : (makeT T (1, [k])).2.1 = k2 at hk2 ⊢
  have HKE := Lib.hid hke
  clear hT F hV5 hke
  go_wp2_with fail
  refine ⟨⟨f2, f3⟩, ?_⟩
  refine drawn_end rfl (by kernel_rfl) ?_
  intro K hK
  go_wp2_with fail
  refine ret_cell rfl rfl rfl ?_
  go_simp
  exact ⟨by kernel_rfl, by rw [HKE.out], HT.out.put f4 (by decide) _, HF.out.put _ l4⟩
set_option maxRecDepth 100000 in
set_option maxHeartbeats 2000000 in
theorem signer_f {lo tb : Nat} {T : List Tm} {k : List Int} (h : TabP lo tb w T) (hk : k.length = 32) (hb : isBytes k) :
    Calls Try.prog 8 #[SU tb, .agg (ints .u8 k)] w fun e w' => e = .returned (.agg (ints .u8 (makeT T (5, [k])).2.1)) ∧ TabP lo tb w' (makeT T (5, [k])).1 ∧ FrP lo w w' := by
  have H := Lib.hid h
  have HB := Lib.hid hb
  clear h hb
  go_enter Try.func8, Try.ntmps8
  go_wp2_with fail
  refine named_world (A := fun X => OwB w [(w.heap.size + 1 + 1, .cells (ints .u8 (zs 32)) 23), (w.heap.size + 1, .cells (ints .u8 k) 23), (w.heap.size, .cells #[.pointer (some ⟨tb, 0, none⟩)] 33)] X) (Q := fun X => Code.wp _ _ _ _ X) ((((OwB.start w).allocN _ w.heap.size rfl).allocN _ (w.heap.size + 1) (by simp)).allocN _ (w.heap.size + 1 + 1) (by simp)) ?_
  intro V hV
  generalize w.heap.size + 1 + 1 = b4 at hV ⊢
  generalize w.heap.size + 1 = b3 at hV ⊢
  generalize w.heap.size = b2 at hV ⊢
  have f2 := hV.nth 2 rfl
  have f3 := hV.nth 1 rfl
  have t2 := World.at_lt f2
  have t3 := World.at_lt f3
  have HV := Lib.hid hV
  clear hV
  refine drawn_begin 4 (fun w' => w'.blk b2 = some (.cells #[.pointer (some ⟨tb, 0, none⟩)] 33) ∧ w'.blk b3 = some (.cells (ints .u8 k) 23)) (by kernel_rfl) ?_
  refine drawn_reads (fuel := 3) [0, 1] rfl (by kernel_rfl) ⟨f2, f3⟩ ?_
  repeat (first | (refine rowK_step2 rfl rfl (fun K hK => ?_); go_wp2) | (refine rowK_step rfl (fun K hK => ?_); go_simp; refine hK _ ?_; clear hK K))
  refine rowK_nil ⟨fun w' e1 => ?_, ?_⟩
  · obtain ⟨e1, e2⟩ := e1
    clear f2 f3
    repeat (first | (refine rowWp_step2 rfl rfl (fun K hK => ?_); go_wp2) | (refine rowWp_step rfl (fun K hK => ?_); go_simp; refine hK _ ?_; clear hK K))
    exact rowWp_nil rfl
  refine drawn_next 2 (fuel := 2) rfl (by kernel_rfl) ?_
  intro K hK
  go_wp2_with fail
  refine ⟨⟨by go_simp, by go_simp⟩, ?_⟩
  refine drawn_next 3 (fuel := 1) rfl (by kernel_rfl) ?_
  intro K hK
  go_wp2_with fail
  refine named_world (A := fun X => OwB w [(V.heap.size, .cells #[.slice (some ⟨b3, 0, none⟩) 32 32] 47), (b4, .cells (ints .u8 (zs 32)) 23), (b3, .cells (ints .u8 k) 23), (b2, .cells #[.pointer (some ⟨tb, 0, none⟩)] 33)] X) (Q := fun X => Calls Try.prog 20 _ X _) (HV.out.allocN _ V.heap.size rfl).drew ?_
  intro V5 hV5
  clear f2 f3 t2 t3
  generalize V.heap.size = bx at hV5 ⊢
  refine (mk_f (H.out.fr0 hV5.fr) (sll_one (hV5.nth 2 rfl) (hV5.nth 0 rfl) hk) (good_one (by decide) (by decide) hk HB.out)).mono ?_
  rintro e w1 ⟨rfl, hT, F⟩
  have f4 := F.get (hV5.nth 1 rfl) (.inr ⟨by decide, by decide⟩)
  have f3 := F.get (hV5.nth 2 rfl) (.inr ⟨by decide, by decide⟩)
  have f2 := F.get (hV5.nth 3 rfl) (.inr ⟨by decide, by decide⟩)
  have l4 := hV5.low 1 rfl
  have t4 := World.at_lt f4
  have HT := Lib.hid hT
  have HF := Lib.hid ((FrT.of hV5.fr).trans F)
  have hk2 := makeT_len T (5, [k])
  generalize hke : (makeT T (5, [k])).2.1 = k2 at hk2 ⊢
  have HKE := Lib.hid hke
  clear hT F hV5 hke
  go_wp2_with fail
  refine ⟨⟨f2, f3⟩, ?_⟩
  refine drawn_end rfl (by kernel_rfl) ?_
  intro K hK
  go_wp2_with fail
  refine ret_cell rfl rfl rfl ?_
  go_simp
  exact ⟨by kernel_rfl, by rw [HKE.out], HT.out.put f4 (by decide) _, HF.out.put _ l4⟩
end
end Go.Proofs.Ytbhnfohoclcjdaa
