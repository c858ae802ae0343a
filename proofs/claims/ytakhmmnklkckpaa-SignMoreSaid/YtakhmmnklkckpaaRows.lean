/-
  No cell of these rows narrows 'for every input' (looked for: loops, veiled, ifaces, maps, wideKeys, modest, calm, conditions, laid).
  DERIVED. THE GIVEN ROWS OF THIS SEAT. 22 by the template 'for every input the law returns true; each argument reads behind the call as it read before'; 0 by the template 'total and deterministic' (their statements: YtakhmmnklkckpaaTotals.lean).
  GIVEN WITH THE SEED: the statements are not yours to turn. If you find one false, say at which input.
  Laid BY PROGRAM, IN A SANDBOX (cutbox-rows.mjs): the forced cells as the released guide's own fill.sh prints them over the translation 2039a0c1a8ad9028… (all of the seat's roots in one cut). By AI agents, Wed Nov 11 2026. No macro, syntax, notation, axiom, sorry.
-/
import Derived.Test.YtakhmmnklkckpaaChecked
import GoSem.Claim
import GoSem.ClaimJoined
import GoSem.ClaimMapViews
import Derived.JoinedTies
import Derived.KernelRfl
namespace Go.Proofs.Ytakhmmnklkckpaa
/- THE CELL 'sum', in the pinned program and in every row, IS THE sha256 OF THE DUMP (.gsa) THAT YtakhmmnklkckpaaProg.lean LOADS. Nothing in Lean hashes anything: it is a label: what it is worth is what the hold of that sum in a sandbox is worth. -/
noncomputable def Try.pinned : Pinned := { name := "ytakhmmnklkckpaa", sum := "2039a0c1a8ad902884660ac8ae7f4e5bccbe4dd2891984a0f1fdba5eb374e6c1", checked := Try.checked }
namespace Rows
def none {H : Type} : Left H := { results := [], args := [] }

/-- 'missivelaw07.FieldBytes': WHATEVER THE INPUT: true; the input reads as it did. -/
def fieldBytesSpec : ChangeSpec := { name := "fieldBytes", fn := fun _ => fun
  | [d] => { results := [.lit (.bool true)], args := [d] }
  | _ => none }
def fieldBytesRow : OpenClaim := { program := "ytakhmmnklkckpaa", sum := "2039a0c1a8ad902884660ac8ae7f4e5bccbe4dd2891984a0f1fdba5eb374e6c1", func := "missive/missivelaw07.FieldBytes", spec := "fieldBytes", inPlace := ["math/bits.Add64"], unfollowed := true, recurses := true, apart := false }
def FieldBytesSaid : Prop := fieldBytesRow.holds Try.pinned (OpenSpec.ofChange fieldBytesSpec)

/-- ITS FALSE NEIGHBOUR: 'it returns false'. Refute it at one input. -/
def fieldBytesWrong : ChangeSpec := { name := "fieldBytes", fn := fun _ => fun
  | [d] => { results := [.lit (.bool false)], args := [d] }
  | _ => none }
def FieldBytesWrongFalsely : Prop := fieldBytesRow.holds Try.pinned (OpenSpec.ofChange fieldBytesWrong)

/-- 'missivelaw07.FieldSums': WHATEVER THE INPUT: true; the input reads as it did. -/
def fieldSumsSpec : ChangeSpec := { name := "fieldSums", fn := fun _ => fun
  | [d1, d2] => { results := [.lit (.bool true)], args := [d1, d2] }
  | _ => none }
def fieldSumsRow : OpenClaim := { program := "ytakhmmnklkckpaa", sum := "2039a0c1a8ad902884660ac8ae7f4e5bccbe4dd2891984a0f1fdba5eb374e6c1", func := "missive/missivelaw07.FieldSums", spec := "fieldSums", inPlace := ["math/bits.Add64"], unfollowed := true, recurses := true, apart := false }
def FieldSumsSaid : Prop := fieldSumsRow.holds Try.pinned (OpenSpec.ofChange fieldSumsSpec)

/-- ITS FALSE NEIGHBOUR: 'it returns false'. Refute it at one input. -/
def fieldSumsWrong : ChangeSpec := { name := "fieldSums", fn := fun _ => fun
  | [d1, d2] => { results := [.lit (.bool false)], args := [d1, d2] }
  | _ => none }
def FieldSumsWrongFalsely : Prop := fieldSumsRow.holds Try.pinned (OpenSpec.ofChange fieldSumsWrong)

/-- 'missivelaw07.FieldProducts': WHATEVER THE INPUT: true; the input reads as it did. -/
def fieldProductsSpec : ChangeSpec := { name := "fieldProducts", fn := fun _ => fun
  | [d1, d2, d3] => { results := [.lit (.bool true)], args := [d1, d2, d3] }
  | _ => none }
def fieldProductsRow : OpenClaim := { program := "ytakhmmnklkckpaa", sum := "2039a0c1a8ad902884660ac8ae7f4e5bccbe4dd2891984a0f1fdba5eb374e6c1", func := "missive/missivelaw07.FieldProducts", spec := "fieldProducts", inPlace := ["math/bits.Add64"], unfollowed := true, recurses := true, apart := false }
def FieldProductsSaid : Prop := fieldProductsRow.holds Try.pinned (OpenSpec.ofChange fieldProductsSpec)

/-- ITS FALSE NEIGHBOUR: 'it returns false'. Refute it at one input. -/
def fieldProductsWrong : ChangeSpec := { name := "fieldProducts", fn := fun _ => fun
  | [d1, d2, d3] => { results := [.lit (.bool false)], args := [d1, d2, d3] }
  | _ => none }
def FieldProductsWrongFalsely : Prop := fieldProductsRow.holds Try.pinned (OpenSpec.ofChange fieldProductsWrong)

/-- 'missivelaw07.FieldRoots': WHATEVER THE INPUT: true; the input reads as it did. -/
def fieldRootsSpec : ChangeSpec := { name := "fieldRoots", fn := fun _ => fun
  | [d] => { results := [.lit (.bool true)], args := [d] }
  | _ => none }
def fieldRootsRow : OpenClaim := { program := "ytakhmmnklkckpaa", sum := "2039a0c1a8ad902884660ac8ae7f4e5bccbe4dd2891984a0f1fdba5eb374e6c1", func := "missive/missivelaw07.FieldRoots", spec := "fieldRoots", inPlace := ["math/bits.Add64"], unfollowed := true, recurses := true, apart := false }
def FieldRootsSaid : Prop := fieldRootsRow.holds Try.pinned (OpenSpec.ofChange fieldRootsSpec)

/-- ITS FALSE NEIGHBOUR: 'it returns false'. Refute it at one input. -/
def fieldRootsWrong : ChangeSpec := { name := "fieldRoots", fn := fun _ => fun
  | [d] => { results := [.lit (.bool false)], args := [d] }
  | _ => none }
def FieldRootsWrongFalsely : Prop := fieldRootsRow.holds Try.pinned (OpenSpec.ofChange fieldRootsWrong)

/-- 'missivelaw07.FieldSquares': WHATEVER THE INPUT: true; the input reads as it did. -/
def fieldSquaresSpec : ChangeSpec := { name := "fieldSquares", fn := fun _ => fun
  | [d] => { results := [.lit (.bool true)], args := [d] }
  | _ => none }
def fieldSquaresRow : OpenClaim := { program := "ytakhmmnklkckpaa", sum := "2039a0c1a8ad902884660ac8ae7f4e5bccbe4dd2891984a0f1fdba5eb374e6c1", func := "missive/missivelaw07.FieldSquares", spec := "fieldSquares", inPlace := ["math/bits.Add64"], unfollowed := true, recurses := true, apart := false }
def FieldSquaresSaid : Prop := fieldSquaresRow.holds Try.pinned (OpenSpec.ofChange fieldSquaresSpec)

/-- ITS FALSE NEIGHBOUR: 'it returns false'. Refute it at one input. -/
def fieldSquaresWrong : ChangeSpec := { name := "fieldSquares", fn := fun _ => fun
  | [d] => { results := [.lit (.bool false)], args := [d] }
  | _ => none }
def FieldSquaresWrongFalsely : Prop := fieldSquaresRow.holds Try.pinned (OpenSpec.ofChange fieldSquaresWrong)

/-- 'missivelaw07.FieldRing': WHATEVER THE INPUT: true; the input reads as it did. -/
def fieldRingSpec : ChangeSpec := { name := "fieldRing", fn := fun _ => fun
  | [d1, d2, d3] => { results := [.lit (.bool true)], args := [d1, d2, d3] }
  | _ => none }
def fieldRingRow : OpenClaim := { program := "ytakhmmnklkckpaa", sum := "2039a0c1a8ad902884660ac8ae7f4e5bccbe4dd2891984a0f1fdba5eb374e6c1", func := "missive/missivelaw07.FieldRing", spec := "fieldRing", inPlace := ["math/bits.Add64"], unfollowed := true, recurses := true, apart := false }
def FieldRingSaid : Prop := fieldRingRow.holds Try.pinned (OpenSpec.ofChange fieldRingSpec)

/-- ITS FALSE NEIGHBOUR: 'it returns false'. Refute it at one input. -/
def fieldRingWrong : ChangeSpec := { name := "fieldRing", fn := fun _ => fun
  | [d1, d2, d3] => { results := [.lit (.bool false)], args := [d1, d2, d3] }
  | _ => none }
def FieldRingWrongFalsely : Prop := fieldRingRow.holds Try.pinned (OpenSpec.ofChange fieldRingWrong)

/-- 'missivelaw07.FieldInverts': WHATEVER THE INPUT: true; the input reads as it did. -/
def fieldInvertsSpec : ChangeSpec := { name := "fieldInverts", fn := fun _ => fun
  | [d] => { results := [.lit (.bool true)], args := [d] }
  | _ => none }
def fieldInvertsRow : OpenClaim := { program := "ytakhmmnklkckpaa", sum := "2039a0c1a8ad902884660ac8ae7f4e5bccbe4dd2891984a0f1fdba5eb374e6c1", func := "missive/missivelaw07.FieldInverts", spec := "fieldInverts", inPlace := ["math/bits.Add64"], unfollowed := true, recurses := true, apart := false }
def FieldInvertsSaid : Prop := fieldInvertsRow.holds Try.pinned (OpenSpec.ofChange fieldInvertsSpec)

/-- ITS FALSE NEIGHBOUR: 'it returns false'. Refute it at one input. -/
def fieldInvertsWrong : ChangeSpec := { name := "fieldInverts", fn := fun _ => fun
  | [d] => { results := [.lit (.bool false)], args := [d] }
  | _ => none }
def FieldInvertsWrongFalsely : Prop := fieldInvertsRow.holds Try.pinned (OpenSpec.ofChange fieldInvertsWrong)

/-- 'missivelaw09.LadderMuls': WHATEVER THE INPUT: true; the input reads as it did. -/
def ladderMulsSpec : ChangeSpec := { name := "ladderMuls", fn := fun _ => fun
  | [d1, d2] => { results := [.lit (.bool true)], args := [d1, d2] }
  | _ => none }
def ladderMulsRow : OpenClaim := { program := "ytakhmmnklkckpaa", sum := "2039a0c1a8ad902884660ac8ae7f4e5bccbe4dd2891984a0f1fdba5eb374e6c1", func := "missive/missivelaw09.LadderMuls", spec := "ladderMuls", inPlace := ["math/bits.Add64"], unfollowed := true, recurses := true, apart := false }
def LadderMulsSaid : Prop := ladderMulsRow.holds Try.pinned (OpenSpec.ofChange ladderMulsSpec)

/-- ITS FALSE NEIGHBOUR: 'it returns false'. Refute it at one input. -/
def ladderMulsWrong : ChangeSpec := { name := "ladderMuls", fn := fun _ => fun
  | [d1, d2] => { results := [.lit (.bool false)], args := [d1, d2] }
  | _ => none }
def LadderMulsWrongFalsely : Prop := ladderMulsRow.holds Try.pinned (OpenSpec.ofChange ladderMulsWrong)

/-- 'missivelaw09.LadderBases': WHATEVER THE INPUT: true; the input reads as it did. -/
def ladderBasesSpec : ChangeSpec := { name := "ladderBases", fn := fun _ => fun
  | [d] => { results := [.lit (.bool true)], args := [d] }
  | _ => none }
def ladderBasesRow : OpenClaim := { program := "ytakhmmnklkckpaa", sum := "2039a0c1a8ad902884660ac8ae7f4e5bccbe4dd2891984a0f1fdba5eb374e6c1", func := "missive/missivelaw09.LadderBases", spec := "ladderBases", inPlace := ["math/bits.Add64"], unfollowed := true, recurses := true, apart := false }
def LadderBasesSaid : Prop := ladderBasesRow.holds Try.pinned (OpenSpec.ofChange ladderBasesSpec)

/-- ITS FALSE NEIGHBOUR: 'it returns false'. Refute it at one input. -/
def ladderBasesWrong : ChangeSpec := { name := "ladderBases", fn := fun _ => fun
  | [d] => { results := [.lit (.bool false)], args := [d] }
  | _ => none }
def LadderBasesWrongFalsely : Prop := ladderBasesRow.holds Try.pinned (OpenSpec.ofChange ladderBasesWrong)

/-- 'missivelaw09.LadderShared': WHATEVER THE INPUT: true; the input reads as it did. -/
def ladderSharedSpec : ChangeSpec := { name := "ladderShared", fn := fun _ => fun
  | [d1, d2] => { results := [.lit (.bool true)], args := [d1, d2] }
  | _ => none }
def ladderSharedRow : OpenClaim := { program := "ytakhmmnklkckpaa", sum := "2039a0c1a8ad902884660ac8ae7f4e5bccbe4dd2891984a0f1fdba5eb374e6c1", func := "missive/missivelaw09.LadderShared", spec := "ladderShared", inPlace := ["math/bits.Add64"], unfollowed := true, recurses := true, apart := false }
def LadderSharedSaid : Prop := ladderSharedRow.holds Try.pinned (OpenSpec.ofChange ladderSharedSpec)

/-- ITS FALSE NEIGHBOUR: 'it returns false'. Refute it at one input. -/
def ladderSharedWrong : ChangeSpec := { name := "ladderShared", fn := fun _ => fun
  | [d1, d2] => { results := [.lit (.bool false)], args := [d1, d2] }
  | _ => none }
def LadderSharedWrongFalsely : Prop := ladderSharedRow.holds Try.pinned (OpenSpec.ofChange ladderSharedWrong)

/-- 'missivelaw09.LadderTurns': WHATEVER THE INPUT: true; the input reads as it did. -/
def ladderTurnsSpec : ChangeSpec := { name := "ladderTurns", fn := fun _ => fun
  | [d1, d2, d3] => { results := [.lit (.bool true)], args := [d1, d2, d3] }
  | _ => none }
def ladderTurnsRow : OpenClaim := { program := "ytakhmmnklkckpaa", sum := "2039a0c1a8ad902884660ac8ae7f4e5bccbe4dd2891984a0f1fdba5eb374e6c1", func := "missive/missivelaw09.LadderTurns", spec := "ladderTurns", inPlace := ["math/bits.Add64"], unfollowed := true, recurses := true, apart := false }
def LadderTurnsSaid : Prop := ladderTurnsRow.holds Try.pinned (OpenSpec.ofChange ladderTurnsSpec)

/-- ITS FALSE NEIGHBOUR: 'it returns false'. Refute it at one input. -/
def ladderTurnsWrong : ChangeSpec := { name := "ladderTurns", fn := fun _ => fun
  | [d1, d2, d3] => { results := [.lit (.bool false)], args := [d1, d2, d3] }
  | _ => none }
def LadderTurnsWrongFalsely : Prop := ladderTurnsRow.holds Try.pinned (OpenSpec.ofChange ladderTurnsWrong)

/-- 'missivelaw09.LadderBits': WHATEVER THE INPUT: true; the input reads as it did. -/
def ladderBitsSpec : ChangeSpec := { name := "ladderBits", fn := fun _ => fun
  | [d1, d2, d3, d4] => { results := [.lit (.bool true)], args := [d1, d2, d3, d4] }
  | _ => none }
def ladderBitsRow : OpenClaim := { program := "ytakhmmnklkckpaa", sum := "2039a0c1a8ad902884660ac8ae7f4e5bccbe4dd2891984a0f1fdba5eb374e6c1", func := "missive/missivelaw09.LadderBits", spec := "ladderBits", inPlace := ["math/bits.Add64"], unfollowed := true, recurses := true, apart := false }
def LadderBitsSaid : Prop := ladderBitsRow.holds Try.pinned (OpenSpec.ofChange ladderBitsSpec)

/-- ITS FALSE NEIGHBOUR: 'it returns false'. Refute it at one input. -/
def ladderBitsWrong : ChangeSpec := { name := "ladderBits", fn := fun _ => fun
  | [d1, d2, d3, d4] => { results := [.lit (.bool false)], args := [d1, d2, d3, d4] }
  | _ => none }
def LadderBitsWrongFalsely : Prop := ladderBitsRow.holds Try.pinned (OpenSpec.ofChange ladderBitsWrong)

/-- 'missivelaw10.CurveDecodes': WHATEVER THE INPUT: true; the input reads as it did. -/
def curveDecodesSpec : ChangeSpec := { name := "curveDecodes", fn := fun _ => fun
  | [d] => { results := [.lit (.bool true)], args := [d] }
  | _ => none }
def curveDecodesRow : OpenClaim := { program := "ytakhmmnklkckpaa", sum := "2039a0c1a8ad902884660ac8ae7f4e5bccbe4dd2891984a0f1fdba5eb374e6c1", func := "missive/missivelaw10.CurveDecodes", spec := "curveDecodes", inPlace := ["math/bits.Add64"], unfollowed := true, recurses := true, apart := false }
def CurveDecodesSaid : Prop := curveDecodesRow.holds Try.pinned (OpenSpec.ofChange curveDecodesSpec)

/-- ITS FALSE NEIGHBOUR: 'it returns false'. Refute it at one input. -/
def curveDecodesWrong : ChangeSpec := { name := "curveDecodes", fn := fun _ => fun
  | [d] => { results := [.lit (.bool false)], args := [d] }
  | _ => none }
def CurveDecodesWrongFalsely : Prop := curveDecodesRow.holds Try.pinned (OpenSpec.ofChange curveDecodesWrong)

/-- 'missivelaw10.CurveAdds': WHATEVER THE INPUT: true; the input reads as it did. -/
def curveAddsSpec : ChangeSpec := { name := "curveAdds", fn := fun _ => fun
  | [d1, d2] => { results := [.lit (.bool true)], args := [d1, d2] }
  | _ => none }
def curveAddsRow : OpenClaim := { program := "ytakhmmnklkckpaa", sum := "2039a0c1a8ad902884660ac8ae7f4e5bccbe4dd2891984a0f1fdba5eb374e6c1", func := "missive/missivelaw10.CurveAdds", spec := "curveAdds", inPlace := ["math/bits.Add64"], unfollowed := true, recurses := true, apart := false }
def CurveAddsSaid : Prop := curveAddsRow.holds Try.pinned (OpenSpec.ofChange curveAddsSpec)

/-- ITS FALSE NEIGHBOUR: 'it returns false'. Refute it at one input. -/
def curveAddsWrong : ChangeSpec := { name := "curveAdds", fn := fun _ => fun
  | [d1, d2] => { results := [.lit (.bool false)], args := [d1, d2] }
  | _ => none }
def CurveAddsWrongFalsely : Prop := curveAddsRow.holds Try.pinned (OpenSpec.ofChange curveAddsWrong)

/-- 'missivelaw10.CurveMuls': WHATEVER THE INPUT: true; the input reads as it did. -/
def curveMulsSpec : ChangeSpec := { name := "curveMuls", fn := fun _ => fun
  | [d1, d2] => { results := [.lit (.bool true)], args := [d1, d2] }
  | _ => none }
def curveMulsRow : OpenClaim := { program := "ytakhmmnklkckpaa", sum := "2039a0c1a8ad902884660ac8ae7f4e5bccbe4dd2891984a0f1fdba5eb374e6c1", func := "missive/missivelaw10.CurveMuls", spec := "curveMuls", inPlace := ["math/bits.Add64"], unfollowed := true, recurses := true, apart := false }
def CurveMulsSaid : Prop := curveMulsRow.holds Try.pinned (OpenSpec.ofChange curveMulsSpec)

/-- ITS FALSE NEIGHBOUR: 'it returns false'. Refute it at one input. -/
def curveMulsWrong : ChangeSpec := { name := "curveMuls", fn := fun _ => fun
  | [d1, d2] => { results := [.lit (.bool false)], args := [d1, d2] }
  | _ => none }
def CurveMulsWrongFalsely : Prop := curveMulsRow.holds Try.pinned (OpenSpec.ofChange curveMulsWrong)

/-- 'missivelaw10.CurveSums': WHATEVER THE INPUT: true; the input reads as it did. -/
def curveSumsSpec : ChangeSpec := { name := "curveSums", fn := fun _ => fun
  | [d1, d2] => { results := [.lit (.bool true)], args := [d1, d2] }
  | _ => none }
def curveSumsRow : OpenClaim := { program := "ytakhmmnklkckpaa", sum := "2039a0c1a8ad902884660ac8ae7f4e5bccbe4dd2891984a0f1fdba5eb374e6c1", func := "missive/missivelaw10.CurveSums", spec := "curveSums", inPlace := ["math/bits.Add64"], unfollowed := true, recurses := true, apart := false }
def CurveSumsSaid : Prop := curveSumsRow.holds Try.pinned (OpenSpec.ofChange curveSumsSpec)

/-- ITS FALSE NEIGHBOUR: 'it returns false'. Refute it at one input. -/
def curveSumsWrong : ChangeSpec := { name := "curveSums", fn := fun _ => fun
  | [d1, d2] => { results := [.lit (.bool false)], args := [d1, d2] }
  | _ => none }
def CurveSumsWrongFalsely : Prop := curveSumsRow.holds Try.pinned (OpenSpec.ofChange curveSumsWrong)

/-- 'missivelaw10.CurveGroup': WHATEVER THE INPUT: true; the input reads as it did. -/
def curveGroupSpec : ChangeSpec := { name := "curveGroup", fn := fun _ => fun
  | [d1, d2, d3] => { results := [.lit (.bool true)], args := [d1, d2, d3] }
  | _ => none }
def curveGroupRow : OpenClaim := { program := "ytakhmmnklkckpaa", sum := "2039a0c1a8ad902884660ac8ae7f4e5bccbe4dd2891984a0f1fdba5eb374e6c1", func := "missive/missivelaw10.CurveGroup", spec := "curveGroup", inPlace := ["math/bits.Add64"], unfollowed := true, recurses := true, apart := false }
def CurveGroupSaid : Prop := curveGroupRow.holds Try.pinned (OpenSpec.ofChange curveGroupSpec)

/-- ITS FALSE NEIGHBOUR: 'it returns false'. Refute it at one input. -/
def curveGroupWrong : ChangeSpec := { name := "curveGroup", fn := fun _ => fun
  | [d1, d2, d3] => { results := [.lit (.bool false)], args := [d1, d2, d3] }
  | _ => none }
def CurveGroupWrongFalsely : Prop := curveGroupRow.holds Try.pinned (OpenSpec.ofChange curveGroupWrong)

/-- 'missivelaw11.SignPublics': WHATEVER THE INPUT: true; the input reads as it did. -/
def signPublicsSpec : ChangeSpec := { name := "signPublics", fn := fun _ => fun
  | [d] => { results := [.lit (.bool true)], args := [d] }
  | _ => none }
def signPublicsRow : OpenClaim := { program := "ytakhmmnklkckpaa", sum := "2039a0c1a8ad902884660ac8ae7f4e5bccbe4dd2891984a0f1fdba5eb374e6c1", func := "missive/missivelaw11.SignPublics", spec := "signPublics", inPlace := ["math/bits.Add64"], unfollowed := true, recurses := true, apart := false }
def SignPublicsSaid : Prop := signPublicsRow.holds Try.pinned (OpenSpec.ofChange signPublicsSpec)

/-- ITS FALSE NEIGHBOUR: 'it returns false'. Refute it at one input. -/
def signPublicsWrong : ChangeSpec := { name := "signPublics", fn := fun _ => fun
  | [d] => { results := [.lit (.bool false)], args := [d] }
  | _ => none }
def SignPublicsWrongFalsely : Prop := signPublicsRow.holds Try.pinned (OpenSpec.ofChange signPublicsWrong)

/-- 'missivelaw11.SignVerifies': WHATEVER THE INPUT: true; the input reads as it did. -/
def signVerifiesSpec : ChangeSpec := { name := "signVerifies", fn := fun _ => fun
  | [d1, d2, d3] => { results := [.lit (.bool true)], args := [d1, d2, d3] }
  | _ => none }
def signVerifiesRow : OpenClaim := { program := "ytakhmmnklkckpaa", sum := "2039a0c1a8ad902884660ac8ae7f4e5bccbe4dd2891984a0f1fdba5eb374e6c1", func := "missive/missivelaw11.SignVerifies", spec := "signVerifies", inPlace := ["math/bits.Add64", "math/bits.Sub64"], unfollowed := true, recurses := true, apart := false }
def SignVerifiesSaid : Prop := signVerifiesRow.holds Try.pinned (OpenSpec.ofChange signVerifiesSpec)

/-- ITS FALSE NEIGHBOUR: 'it returns false'. Refute it at one input. -/
def signVerifiesWrong : ChangeSpec := { name := "signVerifies", fn := fun _ => fun
  | [d1, d2, d3] => { results := [.lit (.bool false)], args := [d1, d2, d3] }
  | _ => none }
def SignVerifiesWrongFalsely : Prop := signVerifiesRow.holds Try.pinned (OpenSpec.ofChange signVerifiesWrong)

/-- 'missivelaw11.SignSigns': WHATEVER THE INPUT: true; the input reads as it did. -/
def signSignsSpec : ChangeSpec := { name := "signSigns", fn := fun _ => fun
  | [d1, d2] => { results := [.lit (.bool true)], args := [d1, d2] }
  | _ => none }
def signSignsRow : OpenClaim := { program := "ytakhmmnklkckpaa", sum := "2039a0c1a8ad902884660ac8ae7f4e5bccbe4dd2891984a0f1fdba5eb374e6c1", func := "missive/missivelaw11.SignSigns", spec := "signSigns", inPlace := ["math/bits.Add64", "math/bits.Sub64"], unfollowed := true, recurses := true, apart := false }
def SignSignsSaid : Prop := signSignsRow.holds Try.pinned (OpenSpec.ofChange signSignsSpec)

/-- ITS FALSE NEIGHBOUR: 'it returns false'. Refute it at one input. -/
def signSignsWrong : ChangeSpec := { name := "signSigns", fn := fun _ => fun
  | [d1, d2] => { results := [.lit (.bool false)], args := [d1, d2] }
  | _ => none }
def SignSignsWrongFalsely : Prop := signSignsRow.holds Try.pinned (OpenSpec.ofChange signSignsWrong)

/-- 'missivelaw11.SignBack': WHATEVER THE INPUT: true; the input reads as it did. -/
def signBackSpec : ChangeSpec := { name := "signBack", fn := fun _ => fun
  | [d1, d2] => { results := [.lit (.bool true)], args := [d1, d2] }
  | _ => none }
def signBackRow : OpenClaim := { program := "ytakhmmnklkckpaa", sum := "2039a0c1a8ad902884660ac8ae7f4e5bccbe4dd2891984a0f1fdba5eb374e6c1", func := "missive/missivelaw11.SignBack", spec := "signBack", inPlace := ["math/bits.Add64", "math/bits.Sub64"], unfollowed := true, recurses := true, apart := false }
def SignBackSaid : Prop := signBackRow.holds Try.pinned (OpenSpec.ofChange signBackSpec)

/-- ITS FALSE NEIGHBOUR: 'it returns false'. Refute it at one input. -/
def signBackWrong : ChangeSpec := { name := "signBack", fn := fun _ => fun
  | [d1, d2] => { results := [.lit (.bool false)], args := [d1, d2] }
  | _ => none }
def SignBackWrongFalsely : Prop := signBackRow.holds Try.pinned (OpenSpec.ofChange signBackWrong)

/-- 'missivelaw11.SignMore': WHATEVER THE INPUT: true; the input reads as it did. -/
def signMoreSpec : ChangeSpec := { name := "signMore", fn := fun _ => fun
  | [d1, d2] => { results := [.lit (.bool true)], args := [d1, d2] }
  | _ => none }
def signMoreRow : OpenClaim := { program := "ytakhmmnklkckpaa", sum := "2039a0c1a8ad902884660ac8ae7f4e5bccbe4dd2891984a0f1fdba5eb374e6c1", func := "missive/missivelaw11.SignMore", spec := "signMore", inPlace := ["math/bits.Add64", "math/bits.Sub64"], unfollowed := true, recurses := true, apart := false }
def SignMoreSaid : Prop := signMoreRow.holds Try.pinned (OpenSpec.ofChange signMoreSpec)

/-- ITS FALSE NEIGHBOUR: 'it returns false'. Refute it at one input. -/
def signMoreWrong : ChangeSpec := { name := "signMore", fn := fun _ => fun
  | [d1, d2] => { results := [.lit (.bool false)], args := [d1, d2] }
  | _ => none }
def SignMoreWrongFalsely : Prop := signMoreRow.holds Try.pinned (OpenSpec.ofChange signMoreWrong)

/- THE SECOND FORM. 'bulk': how many values and letters a reading holds, each counted each time it is reached (what is shared counts as often as it is met; a slice's spare places count too). A statement '..UptoSaid' is the law's where the arguments, and the package variables that the reading takes, are together of bulk at most 1048576: NARROWER than '..Said'. Prove '..Said' where nothing that the law and all that it calls make is longer than what came in: it says more and counts as full. Else prove '..UptoSaid'. A law counts once. -/
mutual
def uptoBulk {H : Type} : DataW H → Nat
  | .lit (.string bytes) => bytes.length + 1
  | .lit _ => 1
  | .nil => 1
  | .ptr d => uptoBulk d + 1
  | .slice elems spare => uptoBulkAll elems + uptoBulkAll spare + 1
  | .agg parts => uptoBulkAll parts + 1
  | .iface _ d => uptoBulk d + 1
  | .map entries => uptoBulkEntries entries + 1
  | .held _ => 1
def uptoBulkAll {H : Type} : List (DataW H) → Nat
  | [] => 0
  | d :: r => uptoBulk d + uptoBulkAll r
def uptoBulkEntries {H : Type} : List (Lit × DataW H) → Nat
  | [] => 0
  | x :: r => uptoBulkEntry x + uptoBulkEntries r
def uptoBulkEntry {H : Type} : Lit × DataW H → Nat
  | (.string bytes, d) => bytes.length + uptoBulk d + 1
  | (_, d) => uptoBulk d + 1
 end
def uptoSmall : (H : Type) → List (DataW H) → Bool := fun _ ds => decide (uptoBulkAll ds ≤ 1048576)
def OpenSpec.upto (s : _root_.Go.ChangeSpec) : _root_.Go.OpenSpec := { _root_.Go.OpenSpec.ofChange s with cond := some uptoSmall }

/-- 'missivelaw07.FieldBytes', WHERE WHAT IT READS IS OF BULK AT MOST 1048576: true; the input reads as it did. -/
def fieldBytesUptoRow : OpenClaim := { program := "ytakhmmnklkckpaa", sum := "2039a0c1a8ad902884660ac8ae7f4e5bccbe4dd2891984a0f1fdba5eb374e6c1", func := "missive/missivelaw07.FieldBytes", spec := "fieldBytes", inPlace := ["math/bits.Add64"], unfollowed := true, recurses := true, apart := false, narrowed := true }
def FieldBytesUptoSaid : Prop := fieldBytesUptoRow.holds Try.pinned (OpenSpec.upto fieldBytesSpec)

/-- 'missivelaw07.FieldSums', WHERE WHAT IT READS IS OF BULK AT MOST 1048576: true; the input reads as it did. -/
def fieldSumsUptoRow : OpenClaim := { program := "ytakhmmnklkckpaa", sum := "2039a0c1a8ad902884660ac8ae7f4e5bccbe4dd2891984a0f1fdba5eb374e6c1", func := "missive/missivelaw07.FieldSums", spec := "fieldSums", inPlace := ["math/bits.Add64"], unfollowed := true, recurses := true, apart := false, narrowed := true }
def FieldSumsUptoSaid : Prop := fieldSumsUptoRow.holds Try.pinned (OpenSpec.upto fieldSumsSpec)

/-- 'missivelaw07.FieldProducts', WHERE WHAT IT READS IS OF BULK AT MOST 1048576: true; the input reads as it did. -/
def fieldProductsUptoRow : OpenClaim := { program := "ytakhmmnklkckpaa", sum := "2039a0c1a8ad902884660ac8ae7f4e5bccbe4dd2891984a0f1fdba5eb374e6c1", func := "missive/missivelaw07.FieldProducts", spec := "fieldProducts", inPlace := ["math/bits.Add64"], unfollowed := true, recurses := true, apart := false, narrowed := true }
def FieldProductsUptoSaid : Prop := fieldProductsUptoRow.holds Try.pinned (OpenSpec.upto fieldProductsSpec)

/-- 'missivelaw07.FieldRoots', WHERE WHAT IT READS IS OF BULK AT MOST 1048576: true; the input reads as it did. -/
def fieldRootsUptoRow : OpenClaim := { program := "ytakhmmnklkckpaa", sum := "2039a0c1a8ad902884660ac8ae7f4e5bccbe4dd2891984a0f1fdba5eb374e6c1", func := "missive/missivelaw07.FieldRoots", spec := "fieldRoots", inPlace := ["math/bits.Add64"], unfollowed := true, recurses := true, apart := false, narrowed := true }
def FieldRootsUptoSaid : Prop := fieldRootsUptoRow.holds Try.pinned (OpenSpec.upto fieldRootsSpec)

/-- 'missivelaw07.FieldSquares', WHERE WHAT IT READS IS OF BULK AT MOST 1048576: true; the input reads as it did. -/
def fieldSquaresUptoRow : OpenClaim := { program := "ytakhmmnklkckpaa", sum := "2039a0c1a8ad902884660ac8ae7f4e5bccbe4dd2891984a0f1fdba5eb374e6c1", func := "missive/missivelaw07.FieldSquares", spec := "fieldSquares", inPlace := ["math/bits.Add64"], unfollowed := true, recurses := true, apart := false, narrowed := true }
def FieldSquaresUptoSaid : Prop := fieldSquaresUptoRow.holds Try.pinned (OpenSpec.upto fieldSquaresSpec)

/-- 'missivelaw07.FieldRing', WHERE WHAT IT READS IS OF BULK AT MOST 1048576: true; the input reads as it did. -/
def fieldRingUptoRow : OpenClaim := { program := "ytakhmmnklkckpaa", sum := "2039a0c1a8ad902884660ac8ae7f4e5bccbe4dd2891984a0f1fdba5eb374e6c1", func := "missive/missivelaw07.FieldRing", spec := "fieldRing", inPlace := ["math/bits.Add64"], unfollowed := true, recurses := true, apart := false, narrowed := true }
def FieldRingUptoSaid : Prop := fieldRingUptoRow.holds Try.pinned (OpenSpec.upto fieldRingSpec)

/-- 'missivelaw07.FieldInverts', WHERE WHAT IT READS IS OF BULK AT MOST 1048576: true; the input reads as it did. -/
def fieldInvertsUptoRow : OpenClaim := { program := "ytakhmmnklkckpaa", sum := "2039a0c1a8ad902884660ac8ae7f4e5bccbe4dd2891984a0f1fdba5eb374e6c1", func := "missive/missivelaw07.FieldInverts", spec := "fieldInverts", inPlace := ["math/bits.Add64"], unfollowed := true, recurses := true, apart := false, narrowed := true }
def FieldInvertsUptoSaid : Prop := fieldInvertsUptoRow.holds Try.pinned (OpenSpec.upto fieldInvertsSpec)

/-- 'missivelaw09.LadderMuls', WHERE WHAT IT READS IS OF BULK AT MOST 1048576: true; the input reads as it did. -/
def ladderMulsUptoRow : OpenClaim := { program := "ytakhmmnklkckpaa", sum := "2039a0c1a8ad902884660ac8ae7f4e5bccbe4dd2891984a0f1fdba5eb374e6c1", func := "missive/missivelaw09.LadderMuls", spec := "ladderMuls", inPlace := ["math/bits.Add64"], unfollowed := true, recurses := true, apart := false, narrowed := true }
def LadderMulsUptoSaid : Prop := ladderMulsUptoRow.holds Try.pinned (OpenSpec.upto ladderMulsSpec)

/-- 'missivelaw09.LadderBases', WHERE WHAT IT READS IS OF BULK AT MOST 1048576: true; the input reads as it did. -/
def ladderBasesUptoRow : OpenClaim := { program := "ytakhmmnklkckpaa", sum := "2039a0c1a8ad902884660ac8ae7f4e5bccbe4dd2891984a0f1fdba5eb374e6c1", func := "missive/missivelaw09.LadderBases", spec := "ladderBases", inPlace := ["math/bits.Add64"], unfollowed := true, recurses := true, apart := false, narrowed := true }
def LadderBasesUptoSaid : Prop := ladderBasesUptoRow.holds Try.pinned (OpenSpec.upto ladderBasesSpec)

/-- 'missivelaw09.LadderShared', WHERE WHAT IT READS IS OF BULK AT MOST 1048576: true; the input reads as it did. -/
def ladderSharedUptoRow : OpenClaim := { program := "ytakhmmnklkckpaa", sum := "2039a0c1a8ad902884660ac8ae7f4e5bccbe4dd2891984a0f1fdba5eb374e6c1", func := "missive/missivelaw09.LadderShared", spec := "ladderShared", inPlace := ["math/bits.Add64"], unfollowed := true, recurses := true, apart := false, narrowed := true }
def LadderSharedUptoSaid : Prop := ladderSharedUptoRow.holds Try.pinned (OpenSpec.upto ladderSharedSpec)

/-- 'missivelaw09.LadderTurns', WHERE WHAT IT READS IS OF BULK AT MOST 1048576: true; the input reads as it did. -/
def ladderTurnsUptoRow : OpenClaim := { program := "ytakhmmnklkckpaa", sum := "2039a0c1a8ad902884660ac8ae7f4e5bccbe4dd2891984a0f1fdba5eb374e6c1", func := "missive/missivelaw09.LadderTurns", spec := "ladderTurns", inPlace := ["math/bits.Add64"], unfollowed := true, recurses := true, apart := false, narrowed := true }
def LadderTurnsUptoSaid : Prop := ladderTurnsUptoRow.holds Try.pinned (OpenSpec.upto ladderTurnsSpec)

/-- 'missivelaw09.LadderBits', WHERE WHAT IT READS IS OF BULK AT MOST 1048576: true; the input reads as it did. -/
def ladderBitsUptoRow : OpenClaim := { program := "ytakhmmnklkckpaa", sum := "2039a0c1a8ad902884660ac8ae7f4e5bccbe4dd2891984a0f1fdba5eb374e6c1", func := "missive/missivelaw09.LadderBits", spec := "ladderBits", inPlace := ["math/bits.Add64"], unfollowed := true, recurses := true, apart := false, narrowed := true }
def LadderBitsUptoSaid : Prop := ladderBitsUptoRow.holds Try.pinned (OpenSpec.upto ladderBitsSpec)

/-- 'missivelaw10.CurveDecodes', WHERE WHAT IT READS IS OF BULK AT MOST 1048576: true; the input reads as it did. -/
def curveDecodesUptoRow : OpenClaim := { program := "ytakhmmnklkckpaa", sum := "2039a0c1a8ad902884660ac8ae7f4e5bccbe4dd2891984a0f1fdba5eb374e6c1", func := "missive/missivelaw10.CurveDecodes", spec := "curveDecodes", inPlace := ["math/bits.Add64"], unfollowed := true, recurses := true, apart := false, narrowed := true }
def CurveDecodesUptoSaid : Prop := curveDecodesUptoRow.holds Try.pinned (OpenSpec.upto curveDecodesSpec)

/-- 'missivelaw10.CurveAdds', WHERE WHAT IT READS IS OF BULK AT MOST 1048576: true; the input reads as it did. -/
def curveAddsUptoRow : OpenClaim := { program := "ytakhmmnklkckpaa", sum := "2039a0c1a8ad902884660ac8ae7f4e5bccbe4dd2891984a0f1fdba5eb374e6c1", func := "missive/missivelaw10.CurveAdds", spec := "curveAdds", inPlace := ["math/bits.Add64"], unfollowed := true, recurses := true, apart := false, narrowed := true }
def CurveAddsUptoSaid : Prop := curveAddsUptoRow.holds Try.pinned (OpenSpec.upto curveAddsSpec)

/-- 'missivelaw10.CurveMuls', WHERE WHAT IT READS IS OF BULK AT MOST 1048576: true; the input reads as it did. -/
def curveMulsUptoRow : OpenClaim := { program := "ytakhmmnklkckpaa", sum := "2039a0c1a8ad902884660ac8ae7f4e5bccbe4dd2891984a0f1fdba5eb374e6c1", func := "missive/missivelaw10.CurveMuls", spec := "curveMuls", inPlace := ["math/bits.Add64"], unfollowed := true, recurses := true, apart := false, narrowed := true }
def CurveMulsUptoSaid : Prop := curveMulsUptoRow.holds Try.pinned (OpenSpec.upto curveMulsSpec)

/-- 'missivelaw10.CurveSums', WHERE WHAT IT READS IS OF BULK AT MOST 1048576: true; the input reads as it did. -/
def curveSumsUptoRow : OpenClaim := { program := "ytakhmmnklkckpaa", sum := "2039a0c1a8ad902884660ac8ae7f4e5bccbe4dd2891984a0f1fdba5eb374e6c1", func := "missive/missivelaw10.CurveSums", spec := "curveSums", inPlace := ["math/bits.Add64"], unfollowed := true, recurses := true, apart := false, narrowed := true }
def CurveSumsUptoSaid : Prop := curveSumsUptoRow.holds Try.pinned (OpenSpec.upto curveSumsSpec)

/-- 'missivelaw10.CurveGroup', WHERE WHAT IT READS IS OF BULK AT MOST 1048576: true; the input reads as it did. -/
def curveGroupUptoRow : OpenClaim := { program := "ytakhmmnklkckpaa", sum := "2039a0c1a8ad902884660ac8ae7f4e5bccbe4dd2891984a0f1fdba5eb374e6c1", func := "missive/missivelaw10.CurveGroup", spec := "curveGroup", inPlace := ["math/bits.Add64"], unfollowed := true, recurses := true, apart := false, narrowed := true }
def CurveGroupUptoSaid : Prop := curveGroupUptoRow.holds Try.pinned (OpenSpec.upto curveGroupSpec)

/-- 'missivelaw11.SignPublics', WHERE WHAT IT READS IS OF BULK AT MOST 1048576: true; the input reads as it did. -/
def signPublicsUptoRow : OpenClaim := { program := "ytakhmmnklkckpaa", sum := "2039a0c1a8ad902884660ac8ae7f4e5bccbe4dd2891984a0f1fdba5eb374e6c1", func := "missive/missivelaw11.SignPublics", spec := "signPublics", inPlace := ["math/bits.Add64"], unfollowed := true, recurses := true, apart := false, narrowed := true }
def SignPublicsUptoSaid : Prop := signPublicsUptoRow.holds Try.pinned (OpenSpec.upto signPublicsSpec)

/-- 'missivelaw11.SignVerifies', WHERE WHAT IT READS IS OF BULK AT MOST 1048576: true; the input reads as it did. -/
def signVerifiesUptoRow : OpenClaim := { program := "ytakhmmnklkckpaa", sum := "2039a0c1a8ad902884660ac8ae7f4e5bccbe4dd2891984a0f1fdba5eb374e6c1", func := "missive/missivelaw11.SignVerifies", spec := "signVerifies", inPlace := ["math/bits.Add64", "math/bits.Sub64"], unfollowed := true, recurses := true, apart := false, narrowed := true }
def SignVerifiesUptoSaid : Prop := signVerifiesUptoRow.holds Try.pinned (OpenSpec.upto signVerifiesSpec)

/-- 'missivelaw11.SignSigns', WHERE WHAT IT READS IS OF BULK AT MOST 1048576: true; the input reads as it did. -/
def signSignsUptoRow : OpenClaim := { program := "ytakhmmnklkckpaa", sum := "2039a0c1a8ad902884660ac8ae7f4e5bccbe4dd2891984a0f1fdba5eb374e6c1", func := "missive/missivelaw11.SignSigns", spec := "signSigns", inPlace := ["math/bits.Add64", "math/bits.Sub64"], unfollowed := true, recurses := true, apart := false, narrowed := true }
def SignSignsUptoSaid : Prop := signSignsUptoRow.holds Try.pinned (OpenSpec.upto signSignsSpec)

/-- 'missivelaw11.SignBack', WHERE WHAT IT READS IS OF BULK AT MOST 1048576: true; the input reads as it did. -/
def signBackUptoRow : OpenClaim := { program := "ytakhmmnklkckpaa", sum := "2039a0c1a8ad902884660ac8ae7f4e5bccbe4dd2891984a0f1fdba5eb374e6c1", func := "missive/missivelaw11.SignBack", spec := "signBack", inPlace := ["math/bits.Add64", "math/bits.Sub64"], unfollowed := true, recurses := true, apart := false, narrowed := true }
def SignBackUptoSaid : Prop := signBackUptoRow.holds Try.pinned (OpenSpec.upto signBackSpec)

/-- 'missivelaw11.SignMore', WHERE WHAT IT READS IS OF BULK AT MOST 1048576: true; the input reads as it did. -/
def signMoreUptoRow : OpenClaim := { program := "ytakhmmnklkckpaa", sum := "2039a0c1a8ad902884660ac8ae7f4e5bccbe4dd2891984a0f1fdba5eb374e6c1", func := "missive/missivelaw11.SignMore", spec := "signMore", inPlace := ["math/bits.Add64", "math/bits.Sub64"], unfollowed := true, recurses := true, apart := false, narrowed := true }
def SignMoreUptoSaid : Prop := signMoreUptoRow.holds Try.pinned (OpenSpec.upto signMoreSpec)

end Rows
end Go.Proofs.Ytakhmmnklkckpaa
