/- CurveSums: so many times the base and so many times more are as many times as both together, and the order times the base is the zero point; for all numbers. -/
import Derived.Test.YtakhmmnklkckpaaZf
import Derived.Test.YtakhmmnklkckpaaCwE
namespace Go.Proofs.Ytakhmmnklkckpaa.curveSums
open Go.ChangeShapes Go.WideShapes Go.ChangeAt Go.RowKit Go.Dr

theorem wf_u32 {n : Int} (h : (Lit.int .u32 n).wf = true) : 0 ≤ n ∧ n ≤ 4294967295 := by
  simp [Lit.wf, IntKind.min, IntKind.max, IntKind.signed, IntKind.bits] at h; omega
set_option maxRecDepth 100000 in
theorem lifted (os : Os) (started : os.Started) (H : Type) (enc : TypeId × Value → H) :
    ReturnsInHanded {} Try.checked os 18 .any (Rows.curveSumsSpec.pre6 enc Try.prog Try.f18 Rows.curveSumsRow.domain false) (Rows.curveSumsSpec.post enc Try.prog Try.f18 false true false false) := by
  refine returnsInHanded_of_change (C := Try.checked) own started (by kernel_rfl) Try.func18
    (ChangeSpec.witness6 (enc := enc) (C := Try.checked) false ⟨#[], #[.int .u32 0, .int .u32 0], []⟩ 8 (by kernel_rfl) (by kernel_rfl) (by kernel_rfl) (by kernel_rfl)) ?_
  intro W base args ds gs before hval0 hW hcnd _
  have hval : ∀ (j : Nat) t v, Try.f18.params[j]? = some t → args[j]? = some v → Value.okWide Try.prog W .any base t v := hval0
  have hW' := hW
  obtain ⟨p, q, hA0, hV, rfl, hfz, hnd⟩ := hW
  have hA : DataW.TrodAll enc Try.prog W 0 (fun _ => true) true Try.f18.params.toList args.toList ds p := hA0
  rw [Try.params18] at hA hval
  obtain ⟨v0, vs0, d0, ds0, p0, q0, hargs0, rfl, rfl, h0, r0⟩ := trodAll_cons hA
  obtain ⟨v1, vs1, d1, ds1, p1, q1, hargs1, rfl, rfl, h1, r1⟩ := trodAll_cons r0
  obtain ⟨rfl, rfl, rfl⟩ := trodAll_nil r1
  subst hargs1
  obtain rfl : args = #[v0, v1] := by cases args; simp_all
  obtain ⟨rfl, rfl⟩ := trodVars_none hV
  have lt0 : ∀ x ∈ p0, x.block < W.heap.size := by obtain ⟨m, hm⟩ := h0; exact DataW.trod_lt m _ _ _ hm
  have lt1 : ∀ x ∈ p1, x.block < W.heap.size := by obtain ⟨m, hm⟩ := h1; exact DataW.trod_lt m _ _ _ hm
  obtain ⟨a0, rfl, rfl, rfl, wf0⟩ := open_int Try.underlying64 (hval 0 64 v0 rfl rfl) h0
  have ba0 : 0 ≤ a0 ∧ a0 < 4294967296 := by have := wf_u32 wf0; omega
  obtain ⟨a1, rfl, rfl, rfl, wf1⟩ := open_int Try.underlying64 (hval 1 64 v1 rfl rfl) h1
  have ba1 : 0 ≤ a1 ∧ a1 < 4294967296 := by have := wf_u32 wf1; omega
  clear hA0 hval0
  refine (curveSums_walk a0 a1 ba0 ba1).mono fun e W' ⟨he, hF⟩ => ?_
  subst he
  have bel := Fr.below hF
  exact ⟨_, rfl, _, _, _, [], _, [], hW', trodAll_mk1 (shut_bool Try.underlying4 _), (trodAll_cons_mk (Below.trod laidOut (by kernel_rfl) (of_decide_eq_true (by kernel_rfl)) h0 bel lt0) (trodAll_cons_mk (Below.trod laidOut (by kernel_rfl) (of_decide_eq_true (by kernel_rfl)) h1 bel lt1) trodAll_mk0)), rfl, bel.frame _, fun h => by cases h⟩

theorem fact1 : (Rows.curveSumsRow.wf (OpenSpec.ofChange Rows.curveSumsSpec)) = true := by kernel_rfl
theorem fact2 : (laidOutB Try.pinned.checked.prog) = true := by kernel_rfl
theorem fact3 : (mapsRowed Try.pinned.checked.prog) = true := mapsRowedFact
theorem fact4 : (Try.f18.params.all (Try.pinned.checked.prog.readableRec ·)) = true := by kernel_rfl
theorem fact5 : (namedTie Try.pinned.checked.prog Rows.curveSumsRow.named Rows.curveSumsSpec.vars) = true := by kernel_rfl
theorem fact6 : ((Rows.curveSumsRow.stops == [])) = true := by kernel_rfl
theorem fact7 : ((Try.pinned.checked.prog.stops == [])) = true := by kernel_rfl
theorem fact8 : ((Rows.curveSumsRow.knobs == [])) = true := by kernel_rfl
theorem fact9 : ((Try.pinned.checked.prog.stopKnobs == [])) = true := by kernel_rfl
theorem fact10 : ((Rows.curveSumsRow.inPlace == Try.pinned.checked.prog.inPlace 18)) = true := by kernel_rfl
theorem fact11 : ((Rows.curveSumsRow.unfollowed == Try.pinned.checked.prog.unfollowed 18)) = true := by kernel_rfl
theorem fact12 : ((Rows.curveSumsRow.recurses == Try.pinned.checked.prog.recurses 18)) = true := by kernel_rfl
theorem fact13 : ((Rows.curveSumsRow.named == Try.pinned.checked.prog.varsNamed 18)) = true := by kernel_rfl
theorem fact14 : ((Rows.curveSumsRow.maps == (Try.f18.params.toList ++ Rows.curveSumsSpec.plain.varTypes Try.pinned.checked.prog).any (Try.pinned.checked.prog.mapsRec ·))) = true := by kernel_rfl
theorem fact15 : ((Rows.curveSumsRow.ifaces == (Try.f18.params.toList ++ Rows.curveSumsSpec.plain.varTypes Try.pinned.checked.prog).any (Try.pinned.checked.prog.ifacesRec ·))) = true := by kernel_rfl
theorem fact16 : ((Rows.curveSumsRow.mapsOut == Try.pinned.checked.prog.mapsAmong Try.f18.resultTypes.toList)) = true := by kernel_rfl
theorem fact17 : ((Rows.curveSumsRow.loops == (Try.f18.params.toList ++ Rows.curveSumsSpec.plain.varTypes Try.pinned.checked.prog).any (Try.pinned.checked.prog.loopsFrom ·))) = true := by kernel_rfl
theorem fact18 : ((Rows.curveSumsRow.wideKeys == (Try.f18.params.toList ++ Rows.curveSumsSpec.plain.varTypes Try.pinned.checked.prog ++ Try.f18.resultTypes.toList).any (Try.pinned.checked.prog.wideKeysFrom ·))) = true := by kernel_rfl
theorem fact19 : (Rows.curveSumsSpec.vars.all (Try.pinned.checked.prog.varReadable ·)) = true := by kernel_rfl
theorem fact20 : (Try.f18.resultTypes.all (fun t => Try.pinned.checked.prog.readableRec t && decide (t < Try.pinned.checked.prog.types.size))) = true := by kernel_rfl
theorem fact21 : ((Rows.curveSumsRow.ifacesOut == Try.f18.resultTypes.toList.any (Try.pinned.checked.prog.ifacesRec ·))) = true := by kernel_rfl
theorem fact22 : ((Rows.curveSumsRow.loopsOut == Try.f18.resultTypes.toList.any (Try.pinned.checked.prog.loopsFrom ·))) = true := by kernel_rfl
theorem fact23 : ((Rows.curveSumsRow.plainKeys == Try.pinned.checked.prog.plainKeys)) = true := by kernel_rfl
theorem fact24 : (Rows.curveSumsRow.shortTexts.isNone) = true := by kernel_rfl
theorem fact25 : (Try.pinned.checked.prog.stopsHeard) = true := by kernel_rfl
theorem fact26 : (Try.pinned.checked.prog.mayEnter) = true := mayEnterFact
theorem fact27 : ((Rows.curveSumsRow.lifted == Try.pinned.checked.prog.liftsFinal)) = true := liftsFact
theorem fact28 : ((Try.pinned.checked.prog.make == some Rows.curveSumsRow.make)) = true := makeFact
theorem fact29 : ((Rows.curveSumsRow.kinds == (if Rows.curveSumsRow.domain.isEmpty then [] else Try.f18.params.toList.map fun t => match Try.pinned.checked.prog.underlying t with | some (.int k) => some k | _ => none))) = true := by kernel_rfl
theorem fact30 : ((Rows.curveSumsRow.pinned == Rows.curveSumsRow.pinnedBy)) = true := by kernel_rfl
theorem fact31 : ((Rows.curveSumsRow.veiled == (Try.f18.params.toList ++ Rows.curveSumsSpec.plain.varTypes Try.pinned.checked.prog ++ Try.f18.resultTypes.toList).any (Try.pinned.checked.prog.veiledRec ·))) = true := by kernel_rfl
theorem fact32 : (Rows.curveSumsRow.veiledFits Try.pinned.checked.prog Try.f18.params.toList (Try.f18.params.toList ++ Rows.curveSumsSpec.plain.varTypes Try.pinned.checked.prog ++ Try.f18.resultTypes.toList)) = true := by kernel_rfl
set_option maxRecDepth 100000 in
theorem facts : joinedFacts Try.pinned.checked.prog 18 Try.f18 Rows.curveSumsSpec Rows.curveSumsRow = true := by
  unfold joinedFacts
  exact (and_true' (and_true' (and_true' (and_true' (and_true' (and_true' (and_true' (and_true' (and_true' (and_true' (and_true' (and_true' (and_true' (and_true' (and_true' (and_true' (and_true' (and_true' (and_true' (and_true' (and_true' (and_true' (and_true' (and_true' (and_true' (and_true' (and_true' (and_true' (and_true' (and_true' (and_true' fact1 fact2) fact3) fact4) fact5) fact6) fact7) fact8) fact9) fact10) fact11) fact12) fact13) fact14) fact15) fact16) fact17) fact18) fact19) fact20) fact21) fact22) fact23) fact24) fact25) fact26) fact27) fact28) fact29) fact30) fact31) fact32)

theorem over : Rows.curveSumsRow.holds Try.pinned (OpenSpec.ofChange Rows.curveSumsSpec) :=
  OpenClaim.holds_of_wide 18 Try.f18 rfl rfl rfl rfl rfl rfl rfl ⟨rfl, rfl, rfl, rfl, rfl⟩ rfl rfl rfl rfl rfl (by kernel_rfl) Try.func18 facts
    (of_decide_eq_true (by kernel_rfl)) (by unfold Func.isWrapper; first | (rw [if_pos (by decide +kernel)]; kernel_rfl) | (rw [if_neg (by decide +kernel)]; exact ⟨rfl, rfl⟩))
    (fun os started H enc _ => lifted os started H enc)

theorem proved : Rows.CurveSumsSaid := over
#print axioms proved
end Go.Proofs.Ytakhmmnklkckpaa.curveSums
