/- SignMore: a signature whose second half is L more is refused; for all seeds and texts. -/
import Derived.Test.YtakhmmnklkckpaaZf
import Derived.Test.YtakhmmnklkckpaaSgN
import Derived.Test.YtakhmmnklkckpaaSgJ
namespace Go.Proofs.Ytakhmmnklkckpaa.signMore
open Go.ChangeShapes Go.WideShapes Go.ChangeAt Go.RowKit Go.Dr

set_option maxRecDepth 100000 in
theorem lifted (os : Os) (started : os.Started) (H : Type) (enc : TypeId × Value → H) :
    ReturnsInHanded {} Try.checked os 24 .any (Rows.signMoreSpec.pre6 enc Try.prog Try.f24 Rows.signMoreRow.domain false) (Rows.signMoreSpec.post enc Try.prog Try.f24 false true false false) := by
  refine returnsInHanded_of_change (C := Try.checked) own started (by kernel_rfl) Try.func24
    (ChangeSpec.witness6 (enc := enc) (C := Try.checked) false ⟨#[], #[.agg (Array.replicate 32 (.int .u8 0)), .slice none 0 0], []⟩ 8 (by kernel_rfl) (by kernel_rfl) (by kernel_rfl) (by kernel_rfl)) ?_
  intro W base args ds gs before hval0 hW hcnd _
  have hval : ∀ (j : Nat) t v, Try.f24.params[j]? = some t → args[j]? = some v → Value.okWide Try.prog W .any base t v := hval0
  have hW' := hW
  obtain ⟨p, q, hA0, hV, rfl, hfz, hnd⟩ := hW
  have hA : DataW.TrodAll enc Try.prog W 0 (fun _ => true) true Try.f24.params.toList args.toList ds p := hA0
  rw [Try.params24] at hA hval
  obtain ⟨v0, vs0, d0, ds0, p0, q0, hargs0, rfl, rfl, h0, r0⟩ := trodAll_cons hA
  obtain ⟨v1, vs1, d1, ds1, p1, q1, hargs1, rfl, rfl, h1, r1⟩ := trodAll_cons r0
  obtain ⟨rfl, rfl, rfl⟩ := trodAll_nil r1
  subst hargs1
  obtain rfl : args = #[v0, v1] := by cases args; simp_all
  obtain ⟨rfl, rfl⟩ := trodVars_none hV
  have lt0 : ∀ x ∈ p0, x.block < W.heap.size := by obtain ⟨m, hm⟩ := h0; exact DataW.trod_lt m _ _ _ hm
  have lt1 : ∀ x ∈ p1, x.block < W.heap.size := by obtain ⟨m, hm⟩ := h1; exact DataW.trod_lt m _ _ _ hm
  obtain ⟨a0, rfl, la0, ba0⟩ := open22 (hval 0 22 v0 rfl rfl) h0
  obtain ⟨sp1, sn1, sc1, a1, rfl, sl1, ba1, bd1⟩ := open68 (hval 1 68 v1 rfl rfl) h1
  clear hA0 hval0
  refine (signMore_walk  la0 ba0 sl1 ba1).mono fun e W' ⟨he, hF⟩ => ?_
  subst he
  have bel := Fr.below hF
  exact ⟨_, rfl, _, _, _, [], _, [], hW', trodAll_mk1 (shut_bool Try.underlying4 _), (trodAll_cons_mk (Below.trod laidOut (by kernel_rfl) (of_decide_eq_true (by kernel_rfl)) h0 bel lt0) (trodAll_cons_mk (Below.trod laidOut (by kernel_rfl) (of_decide_eq_true (by kernel_rfl)) h1 bel lt1) trodAll_mk0)), rfl, bel.frame _, fun h => by cases h⟩

theorem fact1 : (Rows.signMoreRow.wf (OpenSpec.ofChange Rows.signMoreSpec)) = true := by kernel_rfl
theorem fact2 : (laidOutB Try.pinned.checked.prog) = true := by kernel_rfl
theorem fact3 : (mapsRowed Try.pinned.checked.prog) = true := mapsRowedFact
theorem fact4 : (Try.f24.params.all (Try.pinned.checked.prog.readableRec ·)) = true := by kernel_rfl
theorem fact5 : (namedTie Try.pinned.checked.prog Rows.signMoreRow.named Rows.signMoreSpec.vars) = true := by kernel_rfl
theorem fact6 : ((Rows.signMoreRow.stops == [])) = true := by kernel_rfl
theorem fact7 : ((Try.pinned.checked.prog.stops == [])) = true := by kernel_rfl
theorem fact8 : ((Rows.signMoreRow.knobs == [])) = true := by kernel_rfl
theorem fact9 : ((Try.pinned.checked.prog.stopKnobs == [])) = true := by kernel_rfl
theorem fact10 : ((Rows.signMoreRow.inPlace == Try.pinned.checked.prog.inPlace 24)) = true := by kernel_rfl
theorem fact11 : ((Rows.signMoreRow.unfollowed == Try.pinned.checked.prog.unfollowed 24)) = true := by kernel_rfl
theorem fact12 : ((Rows.signMoreRow.recurses == Try.pinned.checked.prog.recurses 24)) = true := by kernel_rfl
theorem fact13 : ((Rows.signMoreRow.named == Try.pinned.checked.prog.varsNamed 24)) = true := by kernel_rfl
theorem fact14 : ((Rows.signMoreRow.maps == (Try.f24.params.toList ++ Rows.signMoreSpec.plain.varTypes Try.pinned.checked.prog).any (Try.pinned.checked.prog.mapsRec ·))) = true := by kernel_rfl
theorem fact15 : ((Rows.signMoreRow.ifaces == (Try.f24.params.toList ++ Rows.signMoreSpec.plain.varTypes Try.pinned.checked.prog).any (Try.pinned.checked.prog.ifacesRec ·))) = true := by kernel_rfl
theorem fact16 : ((Rows.signMoreRow.mapsOut == Try.pinned.checked.prog.mapsAmong Try.f24.resultTypes.toList)) = true := by kernel_rfl
theorem fact17 : ((Rows.signMoreRow.loops == (Try.f24.params.toList ++ Rows.signMoreSpec.plain.varTypes Try.pinned.checked.prog).any (Try.pinned.checked.prog.loopsFrom ·))) = true := by kernel_rfl
theorem fact18 : ((Rows.signMoreRow.wideKeys == (Try.f24.params.toList ++ Rows.signMoreSpec.plain.varTypes Try.pinned.checked.prog ++ Try.f24.resultTypes.toList).any (Try.pinned.checked.prog.wideKeysFrom ·))) = true := by kernel_rfl
theorem fact19 : (Rows.signMoreSpec.vars.all (Try.pinned.checked.prog.varReadable ·)) = true := by kernel_rfl
theorem fact20 : (Try.f24.resultTypes.all (fun t => Try.pinned.checked.prog.readableRec t && decide (t < Try.pinned.checked.prog.types.size))) = true := by kernel_rfl
theorem fact21 : ((Rows.signMoreRow.ifacesOut == Try.f24.resultTypes.toList.any (Try.pinned.checked.prog.ifacesRec ·))) = true := by kernel_rfl
theorem fact22 : ((Rows.signMoreRow.loopsOut == Try.f24.resultTypes.toList.any (Try.pinned.checked.prog.loopsFrom ·))) = true := by kernel_rfl
theorem fact23 : ((Rows.signMoreRow.plainKeys == Try.pinned.checked.prog.plainKeys)) = true := by kernel_rfl
theorem fact24 : (Rows.signMoreRow.shortTexts.isNone) = true := by kernel_rfl
theorem fact25 : (Try.pinned.checked.prog.stopsHeard) = true := by kernel_rfl
theorem fact26 : (Try.pinned.checked.prog.mayEnter) = true := mayEnterFact
theorem fact27 : ((Rows.signMoreRow.lifted == Try.pinned.checked.prog.liftsFinal)) = true := liftsFact
theorem fact28 : ((Try.pinned.checked.prog.make == some Rows.signMoreRow.make)) = true := makeFact
theorem fact29 : ((Rows.signMoreRow.kinds == (if Rows.signMoreRow.domain.isEmpty then [] else Try.f24.params.toList.map fun t => match Try.pinned.checked.prog.underlying t with | some (.int k) => some k | _ => none))) = true := by kernel_rfl
theorem fact30 : ((Rows.signMoreRow.pinned == Rows.signMoreRow.pinnedBy)) = true := by kernel_rfl
theorem fact31 : ((Rows.signMoreRow.veiled == (Try.f24.params.toList ++ Rows.signMoreSpec.plain.varTypes Try.pinned.checked.prog ++ Try.f24.resultTypes.toList).any (Try.pinned.checked.prog.veiledRec ·))) = true := by kernel_rfl
theorem fact32 : (Rows.signMoreRow.veiledFits Try.pinned.checked.prog Try.f24.params.toList (Try.f24.params.toList ++ Rows.signMoreSpec.plain.varTypes Try.pinned.checked.prog ++ Try.f24.resultTypes.toList)) = true := by kernel_rfl
set_option maxRecDepth 100000 in
theorem facts : joinedFacts Try.pinned.checked.prog 24 Try.f24 Rows.signMoreSpec Rows.signMoreRow = true := by
  unfold joinedFacts
  exact (and_true' (and_true' (and_true' (and_true' (and_true' (and_true' (and_true' (and_true' (and_true' (and_true' (and_true' (and_true' (and_true' (and_true' (and_true' (and_true' (and_true' (and_true' (and_true' (and_true' (and_true' (and_true' (and_true' (and_true' (and_true' (and_true' (and_true' (and_true' (and_true' (and_true' (and_true' fact1 fact2) fact3) fact4) fact5) fact6) fact7) fact8) fact9) fact10) fact11) fact12) fact13) fact14) fact15) fact16) fact17) fact18) fact19) fact20) fact21) fact22) fact23) fact24) fact25) fact26) fact27) fact28) fact29) fact30) fact31) fact32)

theorem over : Rows.signMoreRow.holds Try.pinned (OpenSpec.ofChange Rows.signMoreSpec) :=
  OpenClaim.holds_of_wide 24 Try.f24 rfl rfl rfl rfl rfl rfl rfl ⟨rfl, rfl, rfl, rfl, rfl⟩ rfl rfl rfl rfl rfl (by kernel_rfl) Try.func24 facts
    (of_decide_eq_true (by kernel_rfl)) (by unfold Func.isWrapper; first | (rw [if_pos (by decide +kernel)]; kernel_rfl) | (rw [if_neg (by decide +kernel)]; exact ⟨rfl, rfl⟩))
    (fun os started H enc _ => lifted os started H enc)

theorem proved : Rows.SignMoreSaid := over
#print axioms proved
end Go.Proofs.Ytakhmmnklkckpaa.signMore
