/- StorePlays is true for every input: no condition. Whatever is committed, wherever the disk dies, and whatever a crash keeps: errors, values, epoch, and the bytes of the disk are the document's. -/
import Derived.Test.YtombhkekocbfoaaZs
set_option linter.unusedVariables false
set_option linter.unusedSimpArgs false
namespace Go.Proofs.Ytombhkekocbfoaa.storePlays
open Go.ChangeShapes Go.WideShapes Go.ChangeAt Go.RowKit Go.Dr

set_option maxRecDepth 100000 in
theorem lifted (os : Os) (started : os.Started) (H : Type) (enc : TypeId × Value → H) :
    ReturnsInHanded {} Try.checked os 7 .any (Rows.storePlaysSpec.pre6 enc Try.prog Try.f7 Rows.storePlaysRow.domain false) (Rows.storePlaysSpec.post enc Try.prog Try.f7 false true false false) := by
  refine returnsInHanded_of_change_sized (C := Try.checked) own started (by kernel_rfl) Try.func7
    (ChangeSpec.witness6 (enc := enc) (C := Try.checked) false ⟨#[], #[.int .i64 0, .slice none 0 0], []⟩ 8 (by kernel_rfl) (by kernel_rfl) (by kernel_rfl) (by kernel_rfl)) ?_
  intro W base args ds gs before hval0 hW _ hsz0 _
  have hsz : (DataW.weightsEach Try.prog (Try.f7.params.toList ++ Rows.storePlaysSpec.plain.varTypes Try.prog) (ds ++ gs)).all (· ≤ reachBytes) = true := hsz0
  clear hsz0
  have hval : ∀ (j : Nat) t v, Try.f7.params[j]? = some t → args[j]? = some v → Value.okWide Try.prog W .any base t v := hval0
  have hW' := hW
  obtain ⟨p, q, hA0, hV, rfl, hfz, hnd⟩ := hW
  have hA : DataW.TrodAll enc Try.prog W 0 (fun _ => true) true Try.f7.params.toList args.toList ds p := hA0
  rw [Try.params7] at hA hval hsz
  obtain ⟨v0, vs0, d0, ds0, p0, q0, hargs0, rfl, rfl, h0, r0⟩ := trodAll_cons hA
  obtain ⟨v1, vs1, d1, ds1, p1, q1, hargs1, rfl, rfl, h1, r1⟩ := trodAll_cons r0
  obtain ⟨rfl, rfl, rfl⟩ := trodAll_nil r1
  subst hargs1
  obtain rfl : args = #[v0, v1] := by cases args; simp_all
  obtain ⟨rfl, rfl⟩ := trodVars_none hV
  have lt0 : ∀ x ∈ p0, x.block < W.heap.size := by obtain ⟨m, hm⟩ := h0; exact DataW.trod_lt m _ _ _ hm
  have lt1 : ∀ x ∈ p1, x.block < W.heap.size := by obtain ⟨m, hm⟩ := h1; exact DataW.trod_lt m _ _ _ hm
  obtain ⟨a0, rfl, _, _, w0⟩ := open_int Try.underlying3 (hval 0 3 v0 rfl rfl) h0
  obtain ⟨P1, n1, c1, l1, rfl, C1, bl1⟩ := openSteps (hval 1 59 v1 rfl rfl) h1
  clear hA0 hval0
  refine (storePlays_walk (wf_i64' w0) C1 bl1).mono fun e W' ⟨he, hF⟩ => ?_
  subst he
  have bel := Fr.below hF
  exact ⟨_, rfl, _, _, _, [], _, [], hW', trodAll_mk1 (shut_bool Try.underlying4 _), (trodAll_cons_mk (Below.trod laidOut (by kernel_rfl) (of_decide_eq_true (by kernel_rfl)) h0 bel lt0) (trodAll_cons_mk (Below.trod laidOut (by kernel_rfl) (of_decide_eq_true (by kernel_rfl)) h1 bel lt1) trodAll_mk0)), rfl, bel.frame _, fun h => by cases h⟩

theorem fact1 : (Rows.storePlaysRow.wf (OpenSpec.ofChange Rows.storePlaysSpec)) = true := by kernel_rfl
theorem fact2 : (laidOutB Try.pinned.checked.prog) = true := by kernel_rfl
theorem fact3 : (mapsRowed Try.pinned.checked.prog) = true := mapsRowedFact
theorem fact4 : (Try.f7.params.all (Try.pinned.checked.prog.readableRec ·)) = true := by kernel_rfl
theorem fact5 : (namedTie Try.pinned.checked.prog Rows.storePlaysRow.named Rows.storePlaysSpec.vars) = true := by kernel_rfl
theorem fact6 : ((Rows.storePlaysRow.stops == [])) = true := by kernel_rfl
theorem fact7 : ((Try.pinned.checked.prog.stops == [])) = true := by kernel_rfl
theorem fact8 : ((Rows.storePlaysRow.knobs == [])) = true := by kernel_rfl
theorem fact9 : ((Try.pinned.checked.prog.stopKnobs == [])) = true := by kernel_rfl
theorem fact10 : ((Rows.storePlaysRow.inPlace == Try.pinned.checked.prog.inPlace 7)) = true := by kernel_rfl
theorem fact11 : ((Rows.storePlaysRow.unfollowed == Try.pinned.checked.prog.unfollowed 7)) = true := by kernel_rfl
theorem fact12 : ((Rows.storePlaysRow.recurses == Try.pinned.checked.prog.recurses 7)) = true := by kernel_rfl
theorem fact13 : ((Rows.storePlaysRow.named == Try.pinned.checked.prog.varsNamed 7)) = true := by kernel_rfl
theorem fact14 : ((Rows.storePlaysRow.maps == (Try.f7.params.toList ++ Rows.storePlaysSpec.plain.varTypes Try.pinned.checked.prog).any (Try.pinned.checked.prog.mapsRec ·))) = true := by kernel_rfl
theorem fact15 : ((Rows.storePlaysRow.ifaces == (Try.f7.params.toList ++ Rows.storePlaysSpec.plain.varTypes Try.pinned.checked.prog).any (Try.pinned.checked.prog.ifacesRec ·))) = true := by kernel_rfl
theorem fact16 : ((Rows.storePlaysRow.mapsOut == Try.pinned.checked.prog.mapsAmong Try.f7.resultTypes.toList)) = true := by kernel_rfl
theorem fact17 : ((Rows.storePlaysRow.loops == (Try.f7.params.toList ++ Rows.storePlaysSpec.plain.varTypes Try.pinned.checked.prog).any (Try.pinned.checked.prog.loopsFrom ·))) = true := by kernel_rfl
theorem fact18 : ((Rows.storePlaysRow.wideKeys == (Try.f7.params.toList ++ Rows.storePlaysSpec.plain.varTypes Try.pinned.checked.prog ++ Try.f7.resultTypes.toList).any (Try.pinned.checked.prog.wideKeysFrom ·))) = true := by kernel_rfl
theorem fact19 : (Rows.storePlaysSpec.vars.all (Try.pinned.checked.prog.varReadable ·)) = true := by kernel_rfl
theorem fact20 : (Try.f7.resultTypes.all (fun t => Try.pinned.checked.prog.readableRec t && decide (t < Try.pinned.checked.prog.types.size))) = true := by kernel_rfl
theorem fact21 : ((Rows.storePlaysRow.ifacesOut == Try.f7.resultTypes.toList.any (Try.pinned.checked.prog.ifacesRec ·))) = true := by kernel_rfl
theorem fact22 : ((Rows.storePlaysRow.loopsOut == Try.f7.resultTypes.toList.any (Try.pinned.checked.prog.loopsFrom ·))) = true := by kernel_rfl
theorem fact23 : ((Rows.storePlaysRow.plainKeys == Try.pinned.checked.prog.plainKeys)) = true := by kernel_rfl
theorem fact24 : (Rows.storePlaysRow.shortTexts.isNone) = true := by kernel_rfl
theorem fact25 : (Try.pinned.checked.prog.stopsHeard) = true := by kernel_rfl
theorem fact26 : (Try.pinned.checked.prog.mayEnter) = true := mayEnterFact
theorem fact27 : ((Rows.storePlaysRow.lifted == Try.pinned.checked.prog.liftsFinal)) = true := liftsFact
theorem fact28 : ((Try.pinned.checked.prog.make == some Rows.storePlaysRow.make)) = true := makeFact
theorem fact29 : ((Rows.storePlaysRow.kinds == (if Rows.storePlaysRow.domain.isEmpty then [] else Try.f7.params.toList.map fun t => match Try.pinned.checked.prog.underlying t with | some (.int k) => some k | _ => none))) = true := by kernel_rfl
theorem fact30 : ((Rows.storePlaysRow.pinned == Rows.storePlaysRow.pinnedBy)) = true := by kernel_rfl
theorem fact31 : ((Rows.storePlaysRow.veiled == (Try.f7.params.toList ++ Rows.storePlaysSpec.plain.varTypes Try.pinned.checked.prog ++ Try.f7.resultTypes.toList).any (Try.pinned.checked.prog.veiledRec ·))) = true := by kernel_rfl
theorem fact32 : (Rows.storePlaysRow.veiledFits Try.pinned.checked.prog Try.f7.params.toList (Try.f7.params.toList ++ Rows.storePlaysSpec.plain.varTypes Try.pinned.checked.prog ++ Try.f7.resultTypes.toList)) = true := by kernel_rfl
set_option maxRecDepth 100000 in
theorem facts : joinedFacts Try.pinned.checked.prog 7 Try.f7 Rows.storePlaysSpec Rows.storePlaysRow = true := by
  unfold joinedFacts
  exact (and_true' (and_true' (and_true' (and_true' (and_true' (and_true' (and_true' (and_true' (and_true' (and_true' (and_true' (and_true' (and_true' (and_true' (and_true' (and_true' (and_true' (and_true' (and_true' (and_true' (and_true' (and_true' (and_true' (and_true' (and_true' (and_true' (and_true' (and_true' (and_true' (and_true' (and_true' fact1 fact2) fact3) fact4) fact5) fact6) fact7) fact8) fact9) fact10) fact11) fact12) fact13) fact14) fact15) fact16) fact17) fact18) fact19) fact20) fact21) fact22) fact23) fact24) fact25) fact26) fact27) fact28) fact29) fact30) fact31) fact32)

theorem over : Rows.storePlaysRow.holds Try.pinned (OpenSpec.ofChange Rows.storePlaysSpec) :=
  OpenClaim.holds_of_wide 7 Try.f7 rfl rfl rfl rfl rfl rfl rfl ⟨rfl, rfl, rfl, rfl, rfl⟩ rfl rfl rfl rfl rfl (by kernel_rfl) Try.func7 facts
    (of_decide_eq_true (by kernel_rfl)) (by unfold Func.isWrapper; first | (rw [if_pos (by decide +kernel)]; kernel_rfl) | (rw [if_neg (by decide +kernel)]; exact ⟨rfl, rfl⟩))
    (fun os started H enc _ => lifted os started H enc)

theorem proved : Rows.StorePlaysSaid := over
#print axioms proved
end Go.Proofs.Ytombhkekocbfoaa.storePlays
