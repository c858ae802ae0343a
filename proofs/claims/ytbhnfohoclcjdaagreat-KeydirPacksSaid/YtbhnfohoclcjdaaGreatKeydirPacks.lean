/- KeydirPacks: a shelf's bytes are what the document says, and are read as it; which bytes are a shelf's is what the document says; for all shelves and bytes. -/
import Derived.Test.YtbhnfohoclcjdaaGreatZq
import Derived.Test.YtbhnfohoclcjdaaGreatZw
set_option linter.unusedVariables false
set_option linter.unusedSimpArgs false
namespace Go.Proofs.YtbhnfohoclcjdaaGreat.keydirPacks
open Go.ChangeShapes Go.WideShapes Go.ChangeAt Go.RowKit Go.Dr

set_option maxRecDepth 100000 in
theorem lifted (os : Os) (started : os.Started) (H : Type) (enc : TypeId × Value → H) :
    ReturnsInHanded {} Tryz.checked os 5 .any (Rows.keydirPacksSpec.pre6 enc Tryz.prog Tryz.f5 Rows.keydirPacksRow.domain false) (Rows.keydirPacksSpec.post enc Tryz.prog Tryz.f5 false true false false) := by
  refine returnsInHanded_of_change (C := Tryz.checked) own started (by kernel_rfl) Tryz.func5
    (ChangeSpec.witness6 (enc := enc) (C := Tryz.checked) false ⟨#[], #[.agg Tryz.zeroCells68, .slice none 0 0], []⟩ 8 (by kernel_rfl) (by kernel_rfl) (by kernel_rfl) (by kernel_rfl)) ?_
  intro W base args ds gs before hval0 hW hcnd _
  have hval : ∀ (j : Nat) t v, Tryz.f5.params[j]? = some t → args[j]? = some v → Value.okWide Tryz.prog W .any base t v := hval0
  have hW' := hW
  obtain ⟨p, q, hA0, hV, rfl, hfz, hnd⟩ := hW
  have hA : DataW.TrodAll enc Tryz.prog W 0 (fun _ => true) true Tryz.f5.params.toList args.toList ds p := hA0
  rw [Tryz.params5] at hA hval
  obtain ⟨v0, vs0, d0, ds0, p0, q0, hargs0, rfl, rfl, h0, r0⟩ := trodAll_cons hA
  obtain ⟨v1, vs1, d1, ds1, p1, q1, hargs1, rfl, rfl, h1, r1⟩ := trodAll_cons r0
  obtain ⟨rfl, rfl, rfl⟩ := trodAll_nil r1
  subst hargs1
  obtain rfl : args = #[v0, v1] := by cases args; simp_all
  obtain ⟨rfl, rfl⟩ := trodVars_none hV
  have lt0 : ∀ x ∈ p0, x.block < W.heap.size := by obtain ⟨m, hm⟩ := h0; exact DataW.trod_lt m _ _ _ hm
  have lt1 : ∀ x ∈ p1, x.block < W.heap.size := by obtain ⟨m, hm⟩ := h1; exact DataW.trod_lt m _ _ _ hm
  obtain ⟨hs0, f0, P0, n0, c0, last0, l0, rfl, okf0, la0, lb0, SL0, okl0, ml0⟩ := open68 (hval 0 68 v0 rfl rfl) h0
  obtain ⟨P1, n1, c1, l1, rfl, SL1, bl1⟩ := open49 (hval 1 49 v1 rfl rfl) h1
  clear hA0 hval0
  refine (keydirPacks_walk2 okf0 la0 lb0 SL0 okl0 ml0 SL1 bl1).mono fun e W' ⟨he, hF⟩ => ?_
  subst he
  have bel := Fr.below hF
  exact ⟨_, rfl, _, _, _, [], _, [], hW', trodAll_mk1 (shut_bool Tryz.underlying4 _), (trodAll_cons_mk (Below.trod laidOut (by kernel_rfl) (of_decide_eq_true (by kernel_rfl)) h0 bel lt0) (trodAll_cons_mk (Below.trod laidOut (by kernel_rfl) (of_decide_eq_true (by kernel_rfl)) h1 bel lt1) trodAll_mk0)), rfl, bel.frame _, fun h => by cases h⟩

theorem fact1 : (Rows.keydirPacksRow.wf (OpenSpec.ofChange Rows.keydirPacksSpec)) = true := by kernel_rfl
theorem fact2 : (laidOutB Tryz.pinned.checked.prog) = true := by kernel_rfl
theorem fact3 : (mapsRowed Tryz.pinned.checked.prog) = true := mapsRowedFact
theorem fact4 : (Tryz.f5.params.all (Tryz.pinned.checked.prog.readableRec ·)) = true := by kernel_rfl
theorem fact5 : (namedTie Tryz.pinned.checked.prog Rows.keydirPacksRow.named Rows.keydirPacksSpec.vars) = true := by kernel_rfl
theorem fact6 : ((Rows.keydirPacksRow.stops == [])) = true := by kernel_rfl
theorem fact7 : ((Tryz.pinned.checked.prog.stops == [])) = true := by kernel_rfl
theorem fact8 : ((Rows.keydirPacksRow.knobs == [])) = true := by kernel_rfl
theorem fact9 : ((Tryz.pinned.checked.prog.stopKnobs == [])) = true := by kernel_rfl
theorem fact10 : ((Rows.keydirPacksRow.inPlace == Tryz.pinned.checked.prog.inPlace 5)) = true := by kernel_rfl
theorem fact11 : ((Rows.keydirPacksRow.unfollowed == Tryz.pinned.checked.prog.unfollowed 5)) = true := by kernel_rfl
theorem fact12 : ((Rows.keydirPacksRow.recurses == Tryz.pinned.checked.prog.recurses 5)) = true := by kernel_rfl
theorem fact13 : ((Rows.keydirPacksRow.named == Tryz.pinned.checked.prog.varsNamed 5)) = true := by kernel_rfl
theorem fact14 : ((Rows.keydirPacksRow.maps == (Tryz.f5.params.toList ++ Rows.keydirPacksSpec.plain.varTypes Tryz.pinned.checked.prog).any (Tryz.pinned.checked.prog.mapsRec ·))) = true := by kernel_rfl
theorem fact15 : ((Rows.keydirPacksRow.ifaces == (Tryz.f5.params.toList ++ Rows.keydirPacksSpec.plain.varTypes Tryz.pinned.checked.prog).any (Tryz.pinned.checked.prog.ifacesRec ·))) = true := by kernel_rfl
theorem fact16 : ((Rows.keydirPacksRow.mapsOut == Tryz.pinned.checked.prog.mapsAmong Tryz.f5.resultTypes.toList)) = true := by kernel_rfl
theorem fact17 : ((Rows.keydirPacksRow.loops == (Tryz.f5.params.toList ++ Rows.keydirPacksSpec.plain.varTypes Tryz.pinned.checked.prog).any (Tryz.pinned.checked.prog.loopsFrom ·))) = true := by kernel_rfl
theorem fact18 : ((Rows.keydirPacksRow.wideKeys == (Tryz.f5.params.toList ++ Rows.keydirPacksSpec.plain.varTypes Tryz.pinned.checked.prog ++ Tryz.f5.resultTypes.toList).any (Tryz.pinned.checked.prog.wideKeysFrom ·))) = true := by kernel_rfl
theorem fact19 : (Rows.keydirPacksSpec.vars.all (Tryz.pinned.checked.prog.varReadable ·)) = true := by kernel_rfl
theorem fact20 : (Tryz.f5.resultTypes.all (fun t => Tryz.pinned.checked.prog.readableRec t && decide (t < Tryz.pinned.checked.prog.types.size))) = true := by kernel_rfl
theorem fact21 : ((Rows.keydirPacksRow.ifacesOut == Tryz.f5.resultTypes.toList.any (Tryz.pinned.checked.prog.ifacesRec ·))) = true := by kernel_rfl
theorem fact22 : ((Rows.keydirPacksRow.loopsOut == Tryz.f5.resultTypes.toList.any (Tryz.pinned.checked.prog.loopsFrom ·))) = true := by kernel_rfl
theorem fact23 : ((Rows.keydirPacksRow.plainKeys == Tryz.pinned.checked.prog.plainKeys)) = true := by kernel_rfl
theorem fact24 : (Rows.keydirPacksRow.shortTexts.isNone) = true := by kernel_rfl
theorem fact25 : (Tryz.pinned.checked.prog.stopsHeard) = true := by kernel_rfl
theorem fact26 : (Tryz.pinned.checked.prog.mayEnter) = true := mayEnterFact
theorem fact27 : ((Rows.keydirPacksRow.lifted == Tryz.pinned.checked.prog.liftsFinal)) = true := liftsFact
theorem fact28 : ((Tryz.pinned.checked.prog.make == some Rows.keydirPacksRow.make)) = true := makeFact
theorem fact29 : ((Rows.keydirPacksRow.kinds == (if Rows.keydirPacksRow.domain.isEmpty then [] else Tryz.f5.params.toList.map fun t => match Tryz.pinned.checked.prog.underlying t with | some (.int k) => some k | _ => none))) = true := by kernel_rfl
theorem fact30 : ((Rows.keydirPacksRow.pinned == Rows.keydirPacksRow.pinnedBy)) = true := by kernel_rfl
theorem fact31 : ((Rows.keydirPacksRow.veiled == (Tryz.f5.params.toList ++ Rows.keydirPacksSpec.plain.varTypes Tryz.pinned.checked.prog ++ Tryz.f5.resultTypes.toList).any (Tryz.pinned.checked.prog.veiledRec ·))) = true := by kernel_rfl
theorem fact32 : (Rows.keydirPacksRow.veiledFits Tryz.pinned.checked.prog Tryz.f5.params.toList (Tryz.f5.params.toList ++ Rows.keydirPacksSpec.plain.varTypes Tryz.pinned.checked.prog ++ Tryz.f5.resultTypes.toList)) = true := by kernel_rfl
set_option maxRecDepth 100000 in
theorem facts : joinedFacts Tryz.pinned.checked.prog 5 Tryz.f5 Rows.keydirPacksSpec Rows.keydirPacksRow = true := by
  unfold joinedFacts
  exact (and_true' (and_true' (and_true' (and_true' (and_true' (and_true' (and_true' (and_true' (and_true' (and_true' (and_true' (and_true' (and_true' (and_true' (and_true' (and_true' (and_true' (and_true' (and_true' (and_true' (and_true' (and_true' (and_true' (and_true' (and_true' (and_true' (and_true' (and_true' (and_true' (and_true' (and_true' fact1 fact2) fact3) fact4) fact5) fact6) fact7) fact8) fact9) fact10) fact11) fact12) fact13) fact14) fact15) fact16) fact17) fact18) fact19) fact20) fact21) fact22) fact23) fact24) fact25) fact26) fact27) fact28) fact29) fact30) fact31) fact32)

theorem over : Rows.keydirPacksRow.holds Tryz.pinned (OpenSpec.ofChange Rows.keydirPacksSpec) :=
  OpenClaim.holds_of_wide 5 Tryz.f5 rfl rfl rfl rfl rfl rfl rfl ⟨rfl, rfl, rfl, rfl, rfl⟩ rfl rfl rfl rfl rfl (by kernel_rfl) Tryz.func5 facts
    (of_decide_eq_true (by kernel_rfl)) (by unfold Func.isWrapper; first | (rw [if_pos (by decide +kernel)]; kernel_rfl) | (rw [if_neg (by decide +kernel)]; exact ⟨rfl, rfl⟩))
    (fun os started H enc _ => lifted os started H enc)

theorem proved : Rows.KeydirPacksSaid := over
#print axioms proved
end Go.Proofs.YtbhnfohoclcjdaaGreat.keydirPacks
