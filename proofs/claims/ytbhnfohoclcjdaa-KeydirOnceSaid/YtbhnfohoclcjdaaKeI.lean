/- A shelf with nothing left: clone, claim. -/
import Derived.Test.YtbhnfohoclcjdaaKeH
set_option linter.unusedVariables false
set_option linter.unusedSimpArgs false
namespace Go.Proofs.Ytbhnfohoclcjdaa
open Go.RowKit Go.Dr Go.Kd
section
variable {w : World}
set_option maxRecDepth 100000 in
theorem bclone_nil : Calls Try.prog 32 #[.slice none 0 0] w fun e w' => e = .returned (.slice none 0 0) ∧ Fr [] w w' := by
  have hq : (binOp .eql 60 (.slice none 0 0) (.slice none 0 0)).run Try.prog w = .ok (.bool true) w := by
    exact Lib.run_eql_slice_nil w 60 59 none 0 0 0 0 Try.underlying60
  go_enter Try.func32, Try.ntmps32
  go_wp2_with fail
  exact bodyPost_ret (results_tmp rfl _ _ _) rfl ⟨rfl, Fr.refl _ _⟩
/-- An empty slice, nil or not. -/
def Emp (w : World) (p : Option Addr) (cap : Nat) : Prop := (p = none ∧ cap = 0) ∨ ∃ a, p = some a ∧ Sv 162 w (some a) 0 cap []
theorem Emp.fr {fp : List Nat} {w w' : World} {p : Option Addr} {cap : Nat} (h : Emp w p cap) (F : Fr fp w w') (hn : ∀ b, p.map (·.block) = some b → b ∉ fp) : Emp w' p cap :=
  h.imp id fun ⟨a, h1, h2⟩ => ⟨a, h1, h2.fr F (by rw [← h1]; exact hn)⟩
theorem Emp.fr0 {w w' : World} {p : Option Addr} {cap : Nat} (h : Emp w p cap) (F : Fr [] w w') : Emp w' p cap :=
  h.imp id fun ⟨a, h1, h2⟩ => ⟨a, h1, h2.fr0 F⟩
theorem bclone_zero {p : Option Addr} {cap : Nat} (h : Emp w p cap) : Calls Try.prog 32 #[.slice p 0 cap] w fun e w' => ∃ q c, e = .returned (.slice q 0 c) ∧ Emp w' q c ∧ (∀ b, q.map (·.block) = some b → w.heap.size ≤ b) ∧ Fr [] w w' := by
  rcases h with ⟨rfl, rfl⟩ | ⟨a, rfl, S⟩
  · exact bclone_nil.mono fun e w' ⟨h1, h2⟩ => ⟨none, 0, h1, .inl ⟨rfl, rfl⟩, (fun b hb => by cases hb), h2⟩
  · refine (bclone_f S (by simp) (by omega)).mono fun e w' ⟨q, c, h1, B⟩ => ⟨q, c, h1, ?_, (fun b hb => (B.new b hb).1), B.own.fr⟩
    cases q with
    | none =>
      rcases B.row.2 with hh | ⟨b, cp, cs, hh, _⟩
      · have hc : c = 0 := by have := hh.1; simpa using this
        exact .inl ⟨rfl, hc⟩
      · cases hh
    | some g => exact .inr ⟨g, rfl, B.sv⟩
set_option maxRecDepth 100000 in
set_option maxHeartbeats 2000000 in
/-- Nothing is left: the fallback, where there is one. -/
theorem claim_none {last : Value} {fall : List Value} {hs : Bool} {p : Option Addr} {cap : Nat} (hf : fall.length = 162) (hfo : ∀ v ∈ fall, v.oneCell' = true) (hl : last.oneCell' = true) (S : Emp w p cap) :
    Calls Try.prog 18 #[.agg (cShelf (.bool hs) fall (.slice p 0 cap) last).toArray] w fun e w' => ∃ q c u, e = .returned (.tuple #[.agg (cShelf (.bool hs) fall (.slice q 0 c) last).toArray, .agg u, .bool hs]) ∧ (hs = true → u = fall.toArray) ∧ (hs = false → u = Try.zeroCells59) ∧ Emp w' q c ∧ Fr [] w w' := by
  obtain ⟨xs, hxs⟩ : ∃ xs, xs = (cShelf (.bool hs) fall (.slice p 0 cap) last).toArray := ⟨_, rfl⟩
  have hsz : xs.size = 165 := by rw [hxs, List.size_toArray, cShelf_length _ _ _ _ hf]
  have x1 : xs[163]? = some (.slice p 0 cap) := by rw [hxs]; exact cShelf_get_left _ _ _ _ hf
  replace x1 := (Array.getElem?_eq_some_iff.1 x1).2
  have HXS := Lib.hid hxs
  rw [← hxs]
  have HS := Lib.hid S
  clear hxs S
  go_enter Try.func18, Try.ntmps18
  go_wp2_with fail
  refine named_world (A := fun X => OwB w [(w.heap.size + 1 + 1, .cells Try.zeroCells59 59), (w.heap.size + 1, .cells Try.zeroCells62 62), (w.heap.size, .cells xs 62)] X) (Q := fun X => Calls Try.prog 32 _ X _) ((((OwB.start w).allocN _ w.heap.size rfl).allocN _ (w.heap.size + 1) (by simp)).allocN _ (w.heap.size + 1 + 1) (by simp)) ?_
  intro V hV
  generalize w.heap.size + 1 + 1 = b3 at hV ⊢
  generalize w.heap.size + 1 = b2 at hV ⊢
  generalize w.heap.size = b1 at hV ⊢
  have HV := Lib.hid hV
  clear hV
  refine (bclone_zero (HS.out.fr0 HV.out.fr)).mono ?_
  rintro e W ⟨q, c, rfl, hE, hqn, F⟩
  have HO := Lib.hid (OwB.call HV.out F)
  have HE := Lib.hid hE
  have f1 := HO.out.nth 2 rfl
  have f2 := HO.out.nth 1 rfl
  have f3 := HO.out.nth 0 rfl
  have n12 := HO.out.ne 2 1 rfl rfl (by decide)
  have n13 := HO.out.ne 2 0 rfl rfl (by decide)
  have n23 := HO.out.ne 1 0 rfl rfl (by decide)
  have n21 := n12.symm
  have n31 := n13.symm
  have n32 := n23.symm
  have t1 := World.at_lt f1
  have t2 := World.at_lt f2
  have t3 := World.at_lt f3
  obtain ⟨ys, hys⟩ : ∃ ys, ys = (cShelf (.bool hs) fall (.slice q 0 c) last).toArray := ⟨_, rfl⟩
  have hszy : ys.size = 165 := by rw [hys, List.size_toArray, cShelf_length _ _ _ _ hf]
  have y0 : ys[0]? = some (.bool hs) := by rw [hys]; exact cShelf_get_has _ _ _ _ hf
  have y1 : ys[163]? = some (.slice q 0 c) := by rw [hys]; exact cShelf_get_left _ _ _ _ hf
  replace y0 := (Array.getElem?_eq_some_iff.1 y0).2
  replace y1 := (Array.getElem?_eq_some_iff.1 y1).2
  have xset : xs.setIfInBounds 163 (.slice q 0 c) = ys := by rw [HXS.out, hys]; exact cShelf_set_left _ _ _ _ _ hf
  have yext : ys.extract 1 163 = fall.toArray := by rw [hys]; exact cShelf_ext_fall _ _ _ _ hf
  have yall : ys.extract 0 165 = ys := by rw [← hszy]; exact Array.extract_size
  have yones : ones ys.toList = true := by rw [hys]; exact List.all_eq_true.2 (cShelf_one _ _ _ _ rfl hfo rfl hl)
  have fones : ones fall = true := List.all_eq_true.2 hfo
  have HYS := Lib.hid hys
  have HQ : Hid (∀ b, q.map (·.block) = some b → b ∉ [b1, b2, b3]) := Lib.hid (fun b hb hm => by
    have h0 := hqn b hb
    have h1 := HV.out.lt 2 rfl
    have h2 := HV.out.lt 1 rfl
    have h3 := HV.out.lt 0 rfl
    simp only [List.mem_cons, List.not_mem_nil, or_false] at hm
    omega)
  have l1 := HO.out.low 2 rfl
  have l2 := HO.out.low 1 rfl
  have l3 := HO.out.low 0 rfl
  have hz59 : Try.zeroCells59.size = 162 := by kernel_rfl
  have hz62 : Try.zeroCells62.size = 165 := by kernel_rfl
  clear hys hE F hqn
  cases hs with
  | false =>
    go_wp2_with fail
    refine ret_cell2_tmp rfl rfl rfl rfl ?_
    go_simp
    refine ⟨by kernel_rfl, by kernel_rfl, q, c, _, ⟨by rw [HYS.out], rfl⟩, rfl, ?_, ?_⟩
    · exact HE.out.fr ((((Fr.refl [b1, b2, b3] W).put b1 _ (by simp)).put b2 _ (by simp)).put b3 _ (by simp)) HQ.out
    · exact ((HO.out.fr.put b1 _ (fun h => by omega)).put b2 _ (fun h => by omega)).put b3 _ (fun h => by omega)
  | true =>
    go_upto_region 8 with (fail)
    refine named_world (A := fun X => OwB w [(b3, .cells Try.zeroCells59 59), (b2, .cells Try.zeroCells62 62), (b1, .cells ys 62)] X ∧ Fr [b1, b2, b3] W X) (Q := fun X => Code.wp _ _ _ _ X) ⟨HO.out.set 2 _ rfl, (Fr.refl [b1, b2, b3] W).put b1 _ (by simp)⟩ ?_
    rintro U ⟨hU, hFU⟩
    clear f1 f2 f3 t1 t2 t3
    have f1 := hU.nth 2 rfl
    have f2 := hU.nth 1 rfl
    have f3 := hU.nth 0 rfl
    have t1 := World.at_lt f1
    have t2 := World.at_lt f2
    have t3 := World.at_lt f3
    have HU := Lib.hid hU
    have HFU := Lib.hid hFU
    clear hU hFU
    refine drawn_begin 4 (fun w' => w'.blk b1 = some (.cells ys 62)) (by kernel_rfl) ?_
    refine drawn_reads (fuel := 3) [0, 1, 2] rfl (by kernel_rfl) f1 ?_
    repeat (first | (refine rowK_step2 rfl rfl (fun K hK => ?_); go_wp2) | (refine rowK_step rfl (fun K hK => ?_); go_simp; refine hK _ ?_; clear hK K))
    refine rowK_nil ⟨fun w' e1 => ?_, ?_⟩
    · clear f1
      repeat (first | (refine rowWp_step2 rfl rfl (fun K hK => ?_); go_wp2) | (refine rowWp_step rfl (fun K hK => ?_); go_simp; refine hK _ ?_; clear hK K))
      exact rowWp_nil rfl
    refine drawn_next 3 (fuel := 2) rfl (by kernel_rfl) ?_
    intro K hK
    go_wp2_with fail
    refine ⟨by go_simp, ?_⟩
    refine drawn_end rfl (by kernel_rfl) ?_
    intro K hK
    go_wp2_with fail
    refine ret_cell2_tmp rfl rfl rfl rfl ?_
    go_simp
    refine ⟨by kernel_rfl, by kernel_rfl, q, c, _, ⟨by rw [HYS.out], rfl⟩, rfl, ?_, ?_⟩
    · exact HE.out.fr (((HFU.out.put b2 _ (by simp)).put b3 _ (by simp)).drew) HQ.out
    · exact ((HU.out.fr.put b2 _ (fun h => by omega)).put b3 _ (fun h => by omega)).drew
end
end Go.Proofs.Ytbhnfohoclcjdaa
