/- KeydirFree: in the free suite an object that is not signed by the key ahead is not checked; for all objects, keys and times. -/
import Derived.Test.YtbhnfohoclcjdaaKdY
import Derived.Test.YtbhnfohoclcjdaaKdW
set_option linter.unusedVariables false
set_option linter.unusedSimpArgs false
namespace Go.Proofs.Ytbhnfohoclcjdaa.keydirFree
open Go.ChangeShapes Go.WideShapes Go.ChangeAt Go.RowKit Go.Dr

set_option maxRecDepth 100000 in
theorem lifted (os : Os) (started : os.Started) (H : Type) (enc : TypeId × Value → H) :
    ReturnsInHanded {} Try.checked os 3 .any (Rows.keydirFreeSpec.pre6 enc Try.prog Try.f3 Rows.keydirFreeRow.domain false) (Rows.keydirFreeSpec.post enc Try.prog Try.f3 false true false false) := by
  refine returnsInHanded_of_change (C := Try.checked) own started (by kernel_rfl) Try.func3
    (ChangeSpec.witness6 (enc := enc) (C := Try.checked) false ⟨#[], #[.agg (#[.int .u8 0, .int .u8 0] ++ Array.replicate 32 (.int .u8 0) ++ #[.int .u32 0, .int .u32 0] ++ Array.replicate 64 (.int .u8 0) ++ #[.slice none 0 0]), .agg (Array.replicate 32 (.int .u8 0)), .int .u32 0], []⟩ 8 (by kernel_rfl) (by kernel_rfl) (by kernel_rfl) (by kernel_rfl)) ?_
  intro W base args ds gs before hval0 hW hcnd _
  have hval : ∀ (j : Nat) t v, Try.f3.params[j]? = some t → args[j]? = some v → Value.okWide Try.prog W .any base t v := hval0
  have hW' := hW
  obtain ⟨p, q, hA0, hV, rfl, hfz, hnd⟩ := hW
  have hA : DataW.TrodAll enc Try.prog W 0 (fun _ => true) true Try.f3.params.toList args.toList ds p := hA0
  rw [Try.params3] at hA hval
  obtain ⟨v0, vs0, d0, ds0, p0, q0, hargs0, rfl, rfl, h0, r0⟩ := trodAll_cons hA
  obtain ⟨v1, vs1, d1, ds1, p1, q1, hargs1, rfl, rfl, h1, r1⟩ := trodAll_cons r0
  obtain ⟨v2, vs2, d2, ds2, p2, q2, hargs2, rfl, rfl, h2, r2⟩ := trodAll_cons r1
  obtain ⟨rfl, rfl, rfl⟩ := trodAll_nil r2
  subst hargs1
  subst hargs2
  obtain rfl : args = #[v0, v1, v2] := by cases args; simp_all
  obtain ⟨rfl, rfl⟩ := trodVars_none hV
  have lt0 : ∀ x ∈ p0, x.block < W.heap.size := by obtain ⟨m, hm⟩ := h0; exact DataW.trod_lt m _ _ _ hm
  have lt1 : ∀ x ∈ p1, x.block < W.heap.size := by obtain ⟨m, hm⟩ := h1; exact DataW.trod_lt m _ _ _ hm
  have lt2 : ∀ x ∈ p2, x.block < W.heap.size := by obtain ⟨m, hm⟩ := h2; exact DataW.trod_lt m _ _ _ hm
  obtain ⟨s0, n0, k0, f0, t0, g0, p0', m0, c0, rfl, lk0, lg0, bk0, bg0, f00, f10, t00, t10⟩ := open29 (hval 0 29 v0 rfl rfl)
  obtain ⟨a1, rfl, la1, ba1⟩ := open22 (hval 1 22 v1 rfl rfl)
  obtain ⟨a2, rfl, ha2, hb2⟩ := open24 (hval 2 24 v2 rfl rfl)
  clear hA0 hval0
  refine (keydirFree_walk lk0 lg0 bk0 bg0 f00 f10 t00 t10 la1 ba1 ha2 hb2).mono fun e W' ⟨he, hF⟩ => ?_
  subst he
  have bel := Fr.below hF
  exact ⟨_, rfl, _, _, _, [], _, [], hW', trodAll_mk1 (shut_bool Try.underlying4 _), (trodAll_cons_mk (Below.trod laidOut (by kernel_rfl) (of_decide_eq_true (by kernel_rfl)) h0 bel lt0) (trodAll_cons_mk (Below.trod laidOut (by kernel_rfl) (of_decide_eq_true (by kernel_rfl)) h1 bel lt1) (trodAll_cons_mk (Below.trod laidOut (by kernel_rfl) (of_decide_eq_true (by kernel_rfl)) h2 bel lt2) trodAll_mk0))), rfl, bel.frame _, fun h => by cases h⟩

theorem fact1 : (Rows.keydirFreeRow.wf (OpenSpec.ofChange Rows.keydirFreeSpec)) = true := by kernel_rfl
theorem fact2 : (laidOutB Try.pinned.checked.prog) = true := by kernel_rfl
theorem fact3 : (mapsRowed Try.pinned.checked.prog) = true := mapsRowedFact
theorem fact4 : (Try.f3.params.all (Try.pinned.checked.prog.readableRec ·)) = true := by kernel_rfl
theorem fact5 : (namedTie Try.pinned.checked.prog Rows.keydirFreeRow.named Rows.keydirFreeSpec.vars) = true := by kernel_rfl
theorem fact6 : ((Rows.keydirFreeRow.stops == [])) = true := by kernel_rfl
theorem fact7 : ((Try.pinned.checked.prog.stops == [])) = true := by kernel_rfl
theorem fact8 : ((Rows.keydirFreeRow.knobs == [])) = true := by kernel_rfl
theorem fact9 : ((Try.pinned.checked.prog.stopKnobs == [])) = true := by kernel_rfl
theorem fact10 : ((Rows.keydirFreeRow.inPlace == Try.pinned.checked.prog.inPlace 3)) = true := by kernel_rfl
theorem fact11 : ((Rows.keydirFreeRow.unfollowed == Try.pinned.checked.prog.unfollowed 3)) = true := by kernel_rfl
theorem fact12 : ((Rows.keydirFreeRow.recurses == Try.pinned.checked.prog.recurses 3)) = true := by kernel_rfl
theorem fact13 : ((Rows.keydirFreeRow.named == Try.pinned.checked.prog.varsNamed 3)) = true := by kernel_rfl
theorem fact14 : ((Rows.keydirFreeRow.maps == (Try.f3.params.toList ++ Rows.keydirFreeSpec.plain.varTypes Try.pinned.checked.prog).any (Try.pinned.checked.prog.mapsRec ·))) = true := by kernel_rfl
theorem fact15 : ((Rows.keydirFreeRow.ifaces == (Try.f3.params.toList ++ Rows.keydirFreeSpec.plain.varTypes Try.pinned.checked.prog).any (Try.pinned.checked.prog.ifacesRec ·))) = true := by kernel_rfl
theorem fact16 : ((Rows.keydirFreeRow.mapsOut == Try.pinned.checked.prog.mapsAmong Try.f3.resultTypes.toList)) = true := by kernel_rfl
theorem fact17 : ((Rows.keydirFreeRow.loops == (Try.f3.params.toList ++ Rows.keydirFreeSpec.plain.varTypes Try.pinned.checked.prog).any (Try.pinned.checked.prog.loopsFrom ·))) = true := by kernel_rfl
theorem fact18 : ((Rows.keydirFreeRow.wideKeys == (Try.f3.params.toList ++ Rows.keydirFreeSpec.plain.varTypes Try.pinned.checked.prog ++ Try.f3.resultTypes.toList).any (Try.pinned.checked.prog.wideKeysFrom ·))) = true := by kernel_rfl
theorem fact19 : (Rows.keydirFreeSpec.vars.all (Try.pinned.checked.prog.varReadable ·)) = true := by kernel_rfl
theorem fact20 : (Try.f3.resultTypes.all (fun t => Try.pinned.checked.prog.readableRec t && decide (t < Try.pinned.checked.prog.types.size))) = true := by kernel_rfl
theorem fact21 : ((Rows.keydirFreeRow.ifacesOut == Try.f3.resultTypes.toList.any (Try.pinned.checked.prog.ifacesRec ·))) = true := by kernel_rfl
theorem fact22 : ((Rows.keydirFreeRow.loopsOut == Try.f3.resultTypes.toList.any (Try.pinned.checked.prog.loopsFrom ·))) = true := by kernel_rfl
theorem fact23 : ((Rows.keydirFreeRow.plainKeys == Try.pinned.checked.prog.plainKeys)) = true := by kernel_rfl
theorem fact24 : (Rows.keydirFreeRow.shortTexts.isNone) = true := by kernel_rfl
theorem fact25 : (Try.pinned.checked.prog.stopsHeard) = true := by kernel_rfl
theorem fact26 : (Try.pinned.checked.prog.mayEnter) = true := mayEnterFact
theorem fact27 : ((Rows.keydirFreeRow.lifted == Try.pinned.checked.prog.liftsFinal)) = true := liftsFact
theorem fact28 : ((Try.pinned.checked.prog.make == some Rows.keydirFreeRow.make)) = true := makeFact
theorem fact29 : ((Rows.keydirFreeRow.kinds == (if Rows.keydirFreeRow.domain.isEmpty then [] else Try.f3.params.toList.map fun t => match Try.pinned.checked.prog.underlying t with | some (.int k) => some k | _ => none))) = true := by kernel_rfl
theorem fact30 : ((Rows.keydirFreeRow.pinned == Rows.keydirFreeRow.pinnedBy)) = true := by kernel_rfl
theorem fact31 : ((Rows.keydirFreeRow.veiled == (Try.f3.params.toList ++ Rows.keydirFreeSpec.plain.varTypes Try.pinned.checked.prog ++ Try.f3.resultTypes.toList).any (Try.pinned.checked.prog.veiledRec ·))) = true := by kernel_rfl
theorem fact32 : (Rows.keydirFreeRow.veiledFits Try.pinned.checked.prog Try.f3.params.toList (Try.f3.params.toList ++ Rows.keydirFreeSpec.plain.varTypes Try.pinned.checked.prog ++ Try.f3.resultTypes.toList)) = true := by kernel_rfl
set_option maxRecDepth 100000 in
theorem facts : joinedFacts Try.pinned.checked.prog 3 Try.f3 Rows.keydirFreeSpec Rows.keydirFreeRow = true := by
  unfold joinedFacts
  exact (and_true' (and_true' (and_true' (and_true' (and_true' (and_true' (and_true' (and_true' (and_true' (and_true' (and_true' (and_true' (and_true' (and_true' (and_true' (and_true' (and_true' (and_true' (and_true' (and_true' (and_true' (and_true' (and_true' (and_true' (and_true' (and_true' (and_true' (and_true' (and_true' (and_true' (and_true' fact1 fact2) fact3) fact4) fact5) fact6) fact7) fact8) fact9) fact10) fact11) fact12) fact13) fact14) fact15) fact16) fact17) fact18) fact19) fact20) fact21) fact22) fact23) fact24) fact25) fact26) fact27) fact28) fact29) fact30) fact31) fact32)

theorem over : Rows.keydirFreeRow.holds Try.pinned (OpenSpec.ofChange Rows.keydirFreeSpec) :=
  OpenClaim.holds_of_wide 3 Try.f3 rfl rfl rfl rfl rfl rfl rfl ⟨rfl, rfl, rfl, rfl, rfl⟩ rfl rfl rfl rfl rfl (by kernel_rfl) Try.func3 facts
    (of_decide_eq_true (by kernel_rfl)) (by unfold Func.isWrapper; first | (rw [if_pos (by decide +kernel)]; kernel_rfl) | (rw [if_neg (by decide +kernel)]; exact ⟨rfl, rfl⟩))
    (fun os started H enc _ => lifted os started H enc)

theorem proved : Rows.KeydirFreeSaid := over
#print axioms proved
end Go.Proofs.Ytbhnfohoclcjdaa.keydirFree
