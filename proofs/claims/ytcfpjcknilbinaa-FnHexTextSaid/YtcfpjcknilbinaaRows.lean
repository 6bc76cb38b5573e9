/-
  No cell of these rows narrows 'for every input' (looked for: loops, veiled, ifaces, maps, wideKeys, modest, calm, conditions, laid).
  DERIVED. THE GIVEN ROWS OF THIS SEAT. 31 by the template 'for every input the law returns true; each argument reads behind the call as it read before'; 0 by the template 'total and deterministic' (their statements: YtcfpjcknilbinaaTotals.lean).
  GIVEN WITH THE SEED: the statements are not yours to turn. If you find one false, say at which input.
  Laid BY PROGRAM, IN A SANDBOX (cutbox-rows.mjs): the forced cells as the released guide's own fill.sh prints them over the translation 28e522da24624571… (all of the seat's roots in one cut). By AI agents, Wed Nov 11 2026. No macro, syntax, notation, axiom, sorry.
-/
import Derived.Test.YtcfpjcknilbinaaChecked
import GoSem.Claim
import GoSem.ClaimJoined
import GoSem.ClaimMapViews
import Derived.JoinedTies
import Derived.KernelRfl
namespace Go.Proofs.Ytcfpjcknilbinaa
/- THE CELL 'sum', in the pinned program and in every row, IS THE sha256 OF THE DUMP (.gsa) THAT YtcfpjcknilbinaaProg.lean LOADS. Nothing in Lean hashes anything: it is a label: what it is worth is what the hold of that sum in a sandbox is worth. -/
noncomputable def Try.pinned : Pinned := { name := "ytcfpjcknilbinaa", sum := "28e522da2462457173e805409f54ee72b43f7668d7c3ddcc441934c0b9b45404", checked := Try.checked }
namespace Rows
def none {H : Type} : Left H := { results := [], args := [] }

/-- 'laws.FnExactConstants': WHATEVER THE INPUT: true; the input reads as it did. -/
def fnExactConstantsSpec : ChangeSpec := { name := "fnExactConstants", fn := fun _ => fun
  | [] => { results := [.lit (.bool true)], args := [] }
  | _ => none }
def fnExactConstantsRow : OpenClaim := { program := "ytcfpjcknilbinaa", sum := "28e522da2462457173e805409f54ee72b43f7668d7c3ddcc441934c0b9b45404", func := "loop.example/g03311/laws.FnExactConstants", spec := "fnExactConstants", apart := false }
def FnExactConstantsSaid : Prop := fnExactConstantsRow.holds Try.pinned (OpenSpec.ofChange fnExactConstantsSpec)

/-- ITS FALSE NEIGHBOUR: 'it returns false'. Refute it at one input. -/
def fnExactConstantsWrong : ChangeSpec := { name := "fnExactConstants", fn := fun _ => fun
  | [] => { results := [.lit (.bool false)], args := [] }
  | _ => none }
def FnExactConstantsWrongFalsely : Prop := fnExactConstantsRow.holds Try.pinned (OpenSpec.ofChange fnExactConstantsWrong)

/-- 'laws.FnExactCubeOk': WHATEVER THE INPUT: true; the input reads as it did. -/
def fnExactCubeOkSpec : ChangeSpec := { name := "fnExactCubeOk", fn := fun _ => fun
  | [d1, d2] => { results := [.lit (.bool true)], args := [d1, d2] }
  | _ => none }
def fnExactCubeOkRow : OpenClaim := { program := "ytcfpjcknilbinaa", sum := "28e522da2462457173e805409f54ee72b43f7668d7c3ddcc441934c0b9b45404", func := "loop.example/g03311/laws.FnExactCubeOk", spec := "fnExactCubeOk", apart := false }
def FnExactCubeOkSaid : Prop := fnExactCubeOkRow.holds Try.pinned (OpenSpec.ofChange fnExactCubeOkSpec)

/-- ITS FALSE NEIGHBOUR: 'it returns false'. Refute it at one input. -/
def fnExactCubeOkWrong : ChangeSpec := { name := "fnExactCubeOk", fn := fun _ => fun
  | [d1, d2] => { results := [.lit (.bool false)], args := [d1, d2] }
  | _ => none }
def FnExactCubeOkWrongFalsely : Prop := fnExactCubeOkRow.holds Try.pinned (OpenSpec.ofChange fnExactCubeOkWrong)

/-- 'laws.FnExactTableOk': WHATEVER THE INPUT: true; the input reads as it did. -/
def fnExactTableOkSpec : ChangeSpec := { name := "fnExactTableOk", fn := fun _ => fun
  | [d] => { results := [.lit (.bool true)], args := [d] }
  | _ => none }
def fnExactTableOkRow : OpenClaim := { program := "ytcfpjcknilbinaa", sum := "28e522da2462457173e805409f54ee72b43f7668d7c3ddcc441934c0b9b45404", func := "loop.example/g03311/laws.FnExactTableOk", spec := "fnExactTableOk", apart := false }
def FnExactTableOkSaid : Prop := fnExactTableOkRow.holds Try.pinned (OpenSpec.ofChange fnExactTableOkSpec)

/-- ITS FALSE NEIGHBOUR: 'it returns false'. Refute it at one input. -/
def fnExactTableOkWrong : ChangeSpec := { name := "fnExactTableOk", fn := fun _ => fun
  | [d] => { results := [.lit (.bool false)], args := [d] }
  | _ => none }
def FnExactTableOkWrongFalsely : Prop := fnExactTableOkRow.holds Try.pinned (OpenSpec.ofChange fnExactTableOkWrong)

/-- 'laws.FnExactClamp': WHATEVER THE INPUT: true; the input reads as it did. -/
def fnExactClampSpec : ChangeSpec := { name := "fnExactClamp", fn := fun _ => fun
  | [d1, d2, d3] => { results := [.lit (.bool true)], args := [d1, d2, d3] }
  | _ => none }
def fnExactClampRow : OpenClaim := { program := "ytcfpjcknilbinaa", sum := "28e522da2462457173e805409f54ee72b43f7668d7c3ddcc441934c0b9b45404", func := "loop.example/g03311/laws.FnExactClamp", spec := "fnExactClamp", apart := false }
def FnExactClampSaid : Prop := fnExactClampRow.holds Try.pinned (OpenSpec.ofChange fnExactClampSpec)

/-- ITS FALSE NEIGHBOUR: 'it returns false'. Refute it at one input. -/
def fnExactClampWrong : ChangeSpec := { name := "fnExactClamp", fn := fun _ => fun
  | [d1, d2, d3] => { results := [.lit (.bool false)], args := [d1, d2, d3] }
  | _ => none }
def FnExactClampWrongFalsely : Prop := fnExactClampRow.holds Try.pinned (OpenSpec.ofChange fnExactClampWrong)

/-- 'laws.FnExactCubeHas': WHATEVER THE INPUT: true; the input reads as it did. -/
def fnExactCubeHasSpec : ChangeSpec := { name := "fnExactCubeHas", fn := fun _ => fun
  | [d1, d2, d3] => { results := [.lit (.bool true)], args := [d1, d2, d3] }
  | _ => none }
def fnExactCubeHasRow : OpenClaim := { program := "ytcfpjcknilbinaa", sum := "28e522da2462457173e805409f54ee72b43f7668d7c3ddcc441934c0b9b45404", func := "loop.example/g03311/laws.FnExactCubeHas", spec := "fnExactCubeHas", apart := false }
def FnExactCubeHasSaid : Prop := fnExactCubeHasRow.holds Try.pinned (OpenSpec.ofChange fnExactCubeHasSpec)

/-- ITS FALSE NEIGHBOUR: 'it returns false'. Refute it at one input. -/
def fnExactCubeHasWrong : ChangeSpec := { name := "fnExactCubeHas", fn := fun _ => fun
  | [d1, d2, d3] => { results := [.lit (.bool false)], args := [d1, d2, d3] }
  | _ => none }
def FnExactCubeHasWrongFalsely : Prop := fnExactCubeHasRow.holds Try.pinned (OpenSpec.ofChange fnExactCubeHasWrong)

/-- 'laws.FnExactTableEval': WHATEVER THE INPUT: true; the input reads as it did. -/
def fnExactTableEvalSpec : ChangeSpec := { name := "fnExactTableEval", fn := fun _ => fun
  | [d1, d2] => { results := [.lit (.bool true)], args := [d1, d2] }
  | _ => none }
def fnExactTableEvalRow : OpenClaim := { program := "ytcfpjcknilbinaa", sum := "28e522da2462457173e805409f54ee72b43f7668d7c3ddcc441934c0b9b45404", func := "loop.example/g03311/laws.FnExactTableEval", spec := "fnExactTableEval", apart := false }
def FnExactTableEvalSaid : Prop := fnExactTableEvalRow.holds Try.pinned (OpenSpec.ofChange fnExactTableEvalSpec)

/-- ITS FALSE NEIGHBOUR: 'it returns false'. Refute it at one input. -/
def fnExactTableEvalWrong : ChangeSpec := { name := "fnExactTableEval", fn := fun _ => fun
  | [d1, d2] => { results := [.lit (.bool false)], args := [d1, d2] }
  | _ => none }
def FnExactTableEvalWrongFalsely : Prop := fnExactTableEvalRow.holds Try.pinned (OpenSpec.ofChange fnExactTableEvalWrong)

/-- 'laws.FnExactEncodeHex': WHATEVER THE INPUT: true; the input reads as it did. -/
def fnExactEncodeHexSpec : ChangeSpec := { name := "fnExactEncodeHex", fn := fun _ => fun
  | [d] => { results := [.lit (.bool true)], args := [d] }
  | _ => none }
def fnExactEncodeHexRow : OpenClaim := { program := "ytcfpjcknilbinaa", sum := "28e522da2462457173e805409f54ee72b43f7668d7c3ddcc441934c0b9b45404", func := "loop.example/g03311/laws.FnExactEncodeHex", spec := "fnExactEncodeHex", apart := false }
def FnExactEncodeHexSaid : Prop := fnExactEncodeHexRow.holds Try.pinned (OpenSpec.ofChange fnExactEncodeHexSpec)

/-- ITS FALSE NEIGHBOUR: 'it returns false'. Refute it at one input. -/
def fnExactEncodeHexWrong : ChangeSpec := { name := "fnExactEncodeHex", fn := fun _ => fun
  | [d] => { results := [.lit (.bool false)], args := [d] }
  | _ => none }
def FnExactEncodeHexWrongFalsely : Prop := fnExactEncodeHexRow.holds Try.pinned (OpenSpec.ofChange fnExactEncodeHexWrong)

/-- 'laws.FnExactTableVar': WHATEVER THE INPUT: true; the input reads as it did. -/
def fnExactTableVarSpec : ChangeSpec := { name := "fnExactTableVar", fn := fun _ => fun
  | [d1, d2] => { results := [.lit (.bool true)], args := [d1, d2] }
  | _ => none }
def fnExactTableVarRow : OpenClaim := { program := "ytcfpjcknilbinaa", sum := "28e522da2462457173e805409f54ee72b43f7668d7c3ddcc441934c0b9b45404", func := "loop.example/g03311/laws.FnExactTableVar", spec := "fnExactTableVar", unfollowed := true, recurses := true, apart := false }
def FnExactTableVarSaid : Prop := fnExactTableVarRow.holds Try.pinned (OpenSpec.ofChange fnExactTableVarSpec)

/-- ITS FALSE NEIGHBOUR: 'it returns false'. Refute it at one input. -/
def fnExactTableVarWrong : ChangeSpec := { name := "fnExactTableVar", fn := fun _ => fun
  | [d1, d2] => { results := [.lit (.bool false)], args := [d1, d2] }
  | _ => none }
def FnExactTableVarWrongFalsely : Prop := fnExactTableVarRow.holds Try.pinned (OpenSpec.ofChange fnExactTableVarWrong)

/-- 'laws.FnExactTableAnd': WHATEVER THE INPUT: true; the input reads as it did. -/
def fnExactTableAndSpec : ChangeSpec := { name := "fnExactTableAnd", fn := fun _ => fun
  | [d1, d2] => { results := [.lit (.bool true)], args := [d1, d2] }
  | _ => none }
def fnExactTableAndRow : OpenClaim := { program := "ytcfpjcknilbinaa", sum := "28e522da2462457173e805409f54ee72b43f7668d7c3ddcc441934c0b9b45404", func := "loop.example/g03311/laws.FnExactTableAnd", spec := "fnExactTableAnd", apart := false }
def FnExactTableAndSaid : Prop := fnExactTableAndRow.holds Try.pinned (OpenSpec.ofChange fnExactTableAndSpec)

/-- ITS FALSE NEIGHBOUR: 'it returns false'. Refute it at one input. -/
def fnExactTableAndWrong : ChangeSpec := { name := "fnExactTableAnd", fn := fun _ => fun
  | [d1, d2] => { results := [.lit (.bool false)], args := [d1, d2] }
  | _ => none }
def FnExactTableAndWrongFalsely : Prop := fnExactTableAndRow.holds Try.pinned (OpenSpec.ofChange fnExactTableAndWrong)

/-- 'laws.FnExactTableXor': WHATEVER THE INPUT: true; the input reads as it did. -/
def fnExactTableXorSpec : ChangeSpec := { name := "fnExactTableXor", fn := fun _ => fun
  | [d1, d2] => { results := [.lit (.bool true)], args := [d1, d2] }
  | _ => none }
def fnExactTableXorRow : OpenClaim := { program := "ytcfpjcknilbinaa", sum := "28e522da2462457173e805409f54ee72b43f7668d7c3ddcc441934c0b9b45404", func := "loop.example/g03311/laws.FnExactTableXor", spec := "fnExactTableXor", apart := false }
def FnExactTableXorSaid : Prop := fnExactTableXorRow.holds Try.pinned (OpenSpec.ofChange fnExactTableXorSpec)

/-- ITS FALSE NEIGHBOUR: 'it returns false'. Refute it at one input. -/
def fnExactTableXorWrong : ChangeSpec := { name := "fnExactTableXor", fn := fun _ => fun
  | [d1, d2] => { results := [.lit (.bool false)], args := [d1, d2] }
  | _ => none }
def FnExactTableXorWrongFalsely : Prop := fnExactTableXorRow.holds Try.pinned (OpenSpec.ofChange fnExactTableXorWrong)

/-- 'laws.FnExactFormatInt': WHATEVER THE INPUT: true; the input reads as it did. -/
def fnExactFormatIntSpec : ChangeSpec := { name := "fnExactFormatInt", fn := fun _ => fun
  | [d] => { results := [.lit (.bool true)], args := [d] }
  | _ => none }
def fnExactFormatIntRow : OpenClaim := { program := "ytcfpjcknilbinaa", sum := "28e522da2462457173e805409f54ee72b43f7668d7c3ddcc441934c0b9b45404", func := "loop.example/g03311/laws.FnExactFormatInt", spec := "fnExactFormatInt", apart := false }
def FnExactFormatIntSaid : Prop := fnExactFormatIntRow.holds Try.pinned (OpenSpec.ofChange fnExactFormatIntSpec)

/-- ITS FALSE NEIGHBOUR: 'it returns false'. Refute it at one input. -/
def fnExactFormatIntWrong : ChangeSpec := { name := "fnExactFormatInt", fn := fun _ => fun
  | [d] => { results := [.lit (.bool false)], args := [d] }
  | _ => none }
def FnExactFormatIntWrongFalsely : Prop := fnExactFormatIntRow.holds Try.pinned (OpenSpec.ofChange fnExactFormatIntWrong)

/-- 'laws.FnExactDecodeHex': WHATEVER THE INPUT: true; the input reads as it did. -/
def fnExactDecodeHexSpec : ChangeSpec := { name := "fnExactDecodeHex", fn := fun _ => fun
  | [d] => { results := [.lit (.bool true)], args := [d] }
  | _ => none }
def fnExactDecodeHexRow : OpenClaim := { program := "ytcfpjcknilbinaa", sum := "28e522da2462457173e805409f54ee72b43f7668d7c3ddcc441934c0b9b45404", func := "loop.example/g03311/laws.FnExactDecodeHex", spec := "fnExactDecodeHex", apart := false }
def FnExactDecodeHexSaid : Prop := fnExactDecodeHexRow.holds Try.pinned (OpenSpec.ofChange fnExactDecodeHexSpec)

/-- ITS FALSE NEIGHBOUR: 'it returns false'. Refute it at one input. -/
def fnExactDecodeHexWrong : ChangeSpec := { name := "fnExactDecodeHex", fn := fun _ => fun
  | [d] => { results := [.lit (.bool false)], args := [d] }
  | _ => none }
def FnExactDecodeHexWrongFalsely : Prop := fnExactDecodeHexRow.holds Try.pinned (OpenSpec.ofChange fnExactDecodeHexWrong)

/-- 'laws.FnExactTableNot': WHATEVER THE INPUT: true; the input reads as it did. -/
def fnExactTableNotSpec : ChangeSpec := { name := "fnExactTableNot", fn := fun _ => fun
  | [d] => { results := [.lit (.bool true)], args := [d] }
  | _ => none }
def fnExactTableNotRow : OpenClaim := { program := "ytcfpjcknilbinaa", sum := "28e522da2462457173e805409f54ee72b43f7668d7c3ddcc441934c0b9b45404", func := "loop.example/g03311/laws.FnExactTableNot", spec := "fnExactTableNot", unfollowed := true, recurses := true, apart := false }
def FnExactTableNotSaid : Prop := fnExactTableNotRow.holds Try.pinned (OpenSpec.ofChange fnExactTableNotSpec)

/-- ITS FALSE NEIGHBOUR: 'it returns false'. Refute it at one input. -/
def fnExactTableNotWrong : ChangeSpec := { name := "fnExactTableNot", fn := fun _ => fun
  | [d] => { results := [.lit (.bool false)], args := [d] }
  | _ => none }
def FnExactTableNotWrongFalsely : Prop := fnExactTableNotRow.holds Try.pinned (OpenSpec.ofChange fnExactTableNotWrong)

/-- 'laws.FnExactParseUint': WHATEVER THE INPUT: true; the input reads as it did. -/
def fnExactParseUintSpec : ChangeSpec := { name := "fnExactParseUint", fn := fun _ => fun
  | [d] => { results := [.lit (.bool true)], args := [d] }
  | _ => none }
def fnExactParseUintRow : OpenClaim := { program := "ytcfpjcknilbinaa", sum := "28e522da2462457173e805409f54ee72b43f7668d7c3ddcc441934c0b9b45404", func := "loop.example/g03311/laws.FnExactParseUint", spec := "fnExactParseUint", apart := false }
def FnExactParseUintSaid : Prop := fnExactParseUintRow.holds Try.pinned (OpenSpec.ofChange fnExactParseUintSpec)

/-- ITS FALSE NEIGHBOUR: 'it returns false'. Refute it at one input. -/
def fnExactParseUintWrong : ChangeSpec := { name := "fnExactParseUint", fn := fun _ => fun
  | [d] => { results := [.lit (.bool false)], args := [d] }
  | _ => none }
def FnExactParseUintWrongFalsely : Prop := fnExactParseUintRow.holds Try.pinned (OpenSpec.ofChange fnExactParseUintWrong)

/-- 'laws.FnClamped': WHATEVER THE INPUT: true; the input reads as it did. -/
def fnClampedSpec : ChangeSpec := { name := "fnClamped", fn := fun _ => fun
  | [d] => { results := [.lit (.bool true)], args := [d] }
  | _ => none }
def fnClampedRow : OpenClaim := { program := "ytcfpjcknilbinaa", sum := "28e522da2462457173e805409f54ee72b43f7668d7c3ddcc441934c0b9b45404", func := "loop.example/g03311/laws.FnClamped", spec := "fnClamped", apart := false }
def FnClampedSaid : Prop := fnClampedRow.holds Try.pinned (OpenSpec.ofChange fnClampedSpec)

/-- ITS FALSE NEIGHBOUR: 'it returns false'. Refute it at one input. -/
def fnClampedWrong : ChangeSpec := { name := "fnClamped", fn := fun _ => fun
  | [d] => { results := [.lit (.bool false)], args := [d] }
  | _ => none }
def FnClampedWrongFalsely : Prop := fnClampedRow.holds Try.pinned (OpenSpec.ofChange fnClampedWrong)

/-- 'laws.FnExactTableDepends': WHATEVER THE INPUT: true; the input reads as it did. -/
def fnExactTableDependsSpec : ChangeSpec := { name := "fnExactTableDepends", fn := fun _ => fun
  | [d1, d2] => { results := [.lit (.bool true)], args := [d1, d2] }
  | _ => none }
def fnExactTableDependsRow : OpenClaim := { program := "ytcfpjcknilbinaa", sum := "28e522da2462457173e805409f54ee72b43f7668d7c3ddcc441934c0b9b45404", func := "loop.example/g03311/laws.FnExactTableDepends", spec := "fnExactTableDepends", unfollowed := true, recurses := true, apart := false }
def FnExactTableDependsSaid : Prop := fnExactTableDependsRow.holds Try.pinned (OpenSpec.ofChange fnExactTableDependsSpec)

/-- ITS FALSE NEIGHBOUR: 'it returns false'. Refute it at one input. -/
def fnExactTableDependsWrong : ChangeSpec := { name := "fnExactTableDepends", fn := fun _ => fun
  | [d1, d2] => { results := [.lit (.bool false)], args := [d1, d2] }
  | _ => none }
def FnExactTableDependsWrongFalsely : Prop := fnExactTableDependsRow.holds Try.pinned (OpenSpec.ofChange fnExactTableDependsWrong)

/-- 'laws.FnExactTableCofactor': WHATEVER THE INPUT: true; the input reads as it did. -/
def fnExactTableCofactorSpec : ChangeSpec := { name := "fnExactTableCofactor", fn := fun _ => fun
  | [d1, d2, d3] => { results := [.lit (.bool true)], args := [d1, d2, d3] }
  | _ => none }
def fnExactTableCofactorRow : OpenClaim := { program := "ytcfpjcknilbinaa", sum := "28e522da2462457173e805409f54ee72b43f7668d7c3ddcc441934c0b9b45404", func := "loop.example/g03311/laws.FnExactTableCofactor", spec := "fnExactTableCofactor", unfollowed := true, recurses := true, apart := false }
def FnExactTableCofactorSaid : Prop := fnExactTableCofactorRow.holds Try.pinned (OpenSpec.ofChange fnExactTableCofactorSpec)

/-- ITS FALSE NEIGHBOUR: 'it returns false'. Refute it at one input. -/
def fnExactTableCofactorWrong : ChangeSpec := { name := "fnExactTableCofactor", fn := fun _ => fun
  | [d1, d2, d3] => { results := [.lit (.bool false)], args := [d1, d2, d3] }
  | _ => none }
def FnExactTableCofactorWrongFalsely : Prop := fnExactTableCofactorRow.holds Try.pinned (OpenSpec.ofChange fnExactTableCofactorWrong)

/-- 'laws.FnNumbers': WHATEVER THE INPUT: true; the input reads as it did. -/
def fnNumbersSpec : ChangeSpec := { name := "fnNumbers", fn := fun _ => fun
  | [d] => { results := [.lit (.bool true)], args := [d] }
  | _ => none }
def fnNumbersRow : OpenClaim := { program := "ytcfpjcknilbinaa", sum := "28e522da2462457173e805409f54ee72b43f7668d7c3ddcc441934c0b9b45404", func := "loop.example/g03311/laws.FnNumbers", spec := "fnNumbers", apart := false }
def FnNumbersSaid : Prop := fnNumbersRow.holds Try.pinned (OpenSpec.ofChange fnNumbersSpec)

/-- ITS FALSE NEIGHBOUR: 'it returns false'. Refute it at one input. -/
def fnNumbersWrong : ChangeSpec := { name := "fnNumbers", fn := fun _ => fun
  | [d] => { results := [.lit (.bool false)], args := [d] }
  | _ => none }
def FnNumbersWrongFalsely : Prop := fnNumbersRow.holds Try.pinned (OpenSpec.ofChange fnNumbersWrong)

/-- 'laws.FnExactSplitFields': WHATEVER THE INPUT: true; the input reads as it did. -/
def fnExactSplitFieldsSpec : ChangeSpec := { name := "fnExactSplitFields", fn := fun _ => fun
  | [d] => { results := [.lit (.bool true)], args := [d] }
  | _ => none }
def fnExactSplitFieldsRow : OpenClaim := { program := "ytcfpjcknilbinaa", sum := "28e522da2462457173e805409f54ee72b43f7668d7c3ddcc441934c0b9b45404", func := "loop.example/g03311/laws.FnExactSplitFields", spec := "fnExactSplitFields", apart := false }
def FnExactSplitFieldsSaid : Prop := fnExactSplitFieldsRow.holds Try.pinned (OpenSpec.ofChange fnExactSplitFieldsSpec)

/-- ITS FALSE NEIGHBOUR: 'it returns false'. Refute it at one input. -/
def fnExactSplitFieldsWrong : ChangeSpec := { name := "fnExactSplitFields", fn := fun _ => fun
  | [d] => { results := [.lit (.bool false)], args := [d] }
  | _ => none }
def FnExactSplitFieldsWrongFalsely : Prop := fnExactSplitFieldsRow.holds Try.pinned (OpenSpec.ofChange fnExactSplitFieldsWrong)

/-- 'laws.FnExactCoverLiterals': WHATEVER THE INPUT: true; the input reads as it did. -/
def fnExactCoverLiteralsSpec : ChangeSpec := { name := "fnExactCoverLiterals", fn := fun _ => fun
  | [d1, d2] => { results := [.lit (.bool true)], args := [d1, d2] }
  | _ => none }
def fnExactCoverLiteralsRow : OpenClaim := { program := "ytcfpjcknilbinaa", sum := "28e522da2462457173e805409f54ee72b43f7668d7c3ddcc441934c0b9b45404", func := "loop.example/g03311/laws.FnExactCoverLiterals", spec := "fnExactCoverLiterals", apart := false }
def FnExactCoverLiteralsSaid : Prop := fnExactCoverLiteralsRow.holds Try.pinned (OpenSpec.ofChange fnExactCoverLiteralsSpec)

/-- ITS FALSE NEIGHBOUR: 'it returns false'. Refute it at one input. -/
def fnExactCoverLiteralsWrong : ChangeSpec := { name := "fnExactCoverLiterals", fn := fun _ => fun
  | [d1, d2] => { results := [.lit (.bool false)], args := [d1, d2] }
  | _ => none }
def FnExactCoverLiteralsWrongFalsely : Prop := fnExactCoverLiteralsRow.holds Try.pinned (OpenSpec.ofChange fnExactCoverLiteralsWrong)

/-- 'laws.FnHexText': WHATEVER THE INPUT: true; the input reads as it did. -/
def fnHexTextSpec : ChangeSpec := { name := "fnHexText", fn := fun _ => fun
  | [d] => { results := [.lit (.bool true)], args := [d] }
  | _ => none }
def fnHexTextRow : OpenClaim := { program := "ytcfpjcknilbinaa", sum := "28e522da2462457173e805409f54ee72b43f7668d7c3ddcc441934c0b9b45404", func := "loop.example/g03311/laws.FnHexText", spec := "fnHexText", apart := false }
def FnHexTextSaid : Prop := fnHexTextRow.holds Try.pinned (OpenSpec.ofChange fnHexTextSpec)

/-- ITS FALSE NEIGHBOUR: 'it returns false'. Refute it at one input. -/
def fnHexTextWrong : ChangeSpec := { name := "fnHexText", fn := fun _ => fun
  | [d] => { results := [.lit (.bool false)], args := [d] }
  | _ => none }
def FnHexTextWrongFalsely : Prop := fnHexTextRow.holds Try.pinned (OpenSpec.ofChange fnHexTextWrong)

/-- 'laws.FnExactTableSupport': WHATEVER THE INPUT: true; the input reads as it did. -/
def fnExactTableSupportSpec : ChangeSpec := { name := "fnExactTableSupport", fn := fun _ => fun
  | [d] => { results := [.lit (.bool true)], args := [d] }
  | _ => none }
def fnExactTableSupportRow : OpenClaim := { program := "ytcfpjcknilbinaa", sum := "28e522da2462457173e805409f54ee72b43f7668d7c3ddcc441934c0b9b45404", func := "loop.example/g03311/laws.FnExactTableSupport", spec := "fnExactTableSupport", unfollowed := true, recurses := true, apart := false }
def FnExactTableSupportSaid : Prop := fnExactTableSupportRow.holds Try.pinned (OpenSpec.ofChange fnExactTableSupportSpec)

/-- ITS FALSE NEIGHBOUR: 'it returns false'. Refute it at one input. -/
def fnExactTableSupportWrong : ChangeSpec := { name := "fnExactTableSupport", fn := fun _ => fun
  | [d] => { results := [.lit (.bool false)], args := [d] }
  | _ => none }
def FnExactTableSupportWrongFalsely : Prop := fnExactTableSupportRow.holds Try.pinned (OpenSpec.ofChange fnExactTableSupportWrong)

/-- 'laws.FnExactCoverTable': WHATEVER THE INPUT: true; the input reads as it did. -/
def fnExactCoverTableSpec : ChangeSpec := { name := "fnExactCoverTable", fn := fun _ => fun
  | [d1, d2] => { results := [.lit (.bool true)], args := [d1, d2] }
  | _ => none }
def fnExactCoverTableRow : OpenClaim := { program := "ytcfpjcknilbinaa", sum := "28e522da2462457173e805409f54ee72b43f7668d7c3ddcc441934c0b9b45404", func := "loop.example/g03311/laws.FnExactCoverTable", spec := "fnExactCoverTable", unfollowed := true, recurses := true, apart := false }
def FnExactCoverTableSaid : Prop := fnExactCoverTableRow.holds Try.pinned (OpenSpec.ofChange fnExactCoverTableSpec)

/-- ITS FALSE NEIGHBOUR: 'it returns false'. Refute it at one input. -/
def fnExactCoverTableWrong : ChangeSpec := { name := "fnExactCoverTable", fn := fun _ => fun
  | [d1, d2] => { results := [.lit (.bool false)], args := [d1, d2] }
  | _ => none }
def FnExactCoverTableWrongFalsely : Prop := fnExactCoverTableRow.holds Try.pinned (OpenSpec.ofChange fnExactCoverTableWrong)

/-- 'laws.FnExactPrimeCubes': WHATEVER THE INPUT: true; the input reads as it did. -/
def fnExactPrimeCubesSpec : ChangeSpec := { name := "fnExactPrimeCubes", fn := fun _ => fun
  | [d] => { results := [.lit (.bool true)], args := [d] }
  | _ => none }
def fnExactPrimeCubesRow : OpenClaim := { program := "ytcfpjcknilbinaa", sum := "28e522da2462457173e805409f54ee72b43f7668d7c3ddcc441934c0b9b45404", func := "loop.example/g03311/laws.FnExactPrimeCubes", spec := "fnExactPrimeCubes", apart := false }
def FnExactPrimeCubesSaid : Prop := fnExactPrimeCubesRow.holds Try.pinned (OpenSpec.ofChange fnExactPrimeCubesSpec)

/-- ITS FALSE NEIGHBOUR: 'it returns false'. Refute it at one input. -/
def fnExactPrimeCubesWrong : ChangeSpec := { name := "fnExactPrimeCubes", fn := fun _ => fun
  | [d] => { results := [.lit (.bool false)], args := [d] }
  | _ => none }
def FnExactPrimeCubesWrongFalsely : Prop := fnExactPrimeCubesRow.holds Try.pinned (OpenSpec.ofChange fnExactPrimeCubesWrong)

/-- 'laws.FnShannon': WHATEVER THE INPUT: true; the input reads as it did. -/
def fnShannonSpec : ChangeSpec := { name := "fnShannon", fn := fun _ => fun
  | [d] => { results := [.lit (.bool true)], args := [d] }
  | _ => none }
def fnShannonRow : OpenClaim := { program := "ytcfpjcknilbinaa", sum := "28e522da2462457173e805409f54ee72b43f7668d7c3ddcc441934c0b9b45404", func := "loop.example/g03311/laws.FnShannon", spec := "fnShannon", unfollowed := true, recurses := true, apart := false }
def FnShannonSaid : Prop := fnShannonRow.holds Try.pinned (OpenSpec.ofChange fnShannonSpec)

/-- ITS FALSE NEIGHBOUR: 'it returns false'. Refute it at one input. -/
def fnShannonWrong : ChangeSpec := { name := "fnShannon", fn := fun _ => fun
  | [d] => { results := [.lit (.bool false)], args := [d] }
  | _ => none }
def FnShannonWrongFalsely : Prop := fnShannonRow.holds Try.pinned (OpenSpec.ofChange fnShannonWrong)

/-- 'laws.FnFieldsAgain': WHATEVER THE INPUT: true; the input reads as it did. -/
def fnFieldsAgainSpec : ChangeSpec := { name := "fnFieldsAgain", fn := fun _ => fun
  | [d] => { results := [.lit (.bool true)], args := [d] }
  | _ => none }
def fnFieldsAgainRow : OpenClaim := { program := "ytcfpjcknilbinaa", sum := "28e522da2462457173e805409f54ee72b43f7668d7c3ddcc441934c0b9b45404", func := "loop.example/g03311/laws.FnFieldsAgain", spec := "fnFieldsAgain", apart := false }
def FnFieldsAgainSaid : Prop := fnFieldsAgainRow.holds Try.pinned (OpenSpec.ofChange fnFieldsAgainSpec)

/-- ITS FALSE NEIGHBOUR: 'it returns false'. Refute it at one input. -/
def fnFieldsAgainWrong : ChangeSpec := { name := "fnFieldsAgain", fn := fun _ => fun
  | [d] => { results := [.lit (.bool false)], args := [d] }
  | _ => none }
def FnFieldsAgainWrongFalsely : Prop := fnFieldsAgainRow.holds Try.pinned (OpenSpec.ofChange fnFieldsAgainWrong)

/-- 'laws.FnExactTableShrink': WHATEVER THE INPUT: true; the input reads as it did. -/
def fnExactTableShrinkSpec : ChangeSpec := { name := "fnExactTableShrink", fn := fun _ => fun
  | [d] => { results := [.lit (.bool true)], args := [d] }
  | _ => none }
def fnExactTableShrinkRow : OpenClaim := { program := "ytcfpjcknilbinaa", sum := "28e522da2462457173e805409f54ee72b43f7668d7c3ddcc441934c0b9b45404", func := "loop.example/g03311/laws.FnExactTableShrink", spec := "fnExactTableShrink", unfollowed := true, recurses := true, apart := false }
def FnExactTableShrinkSaid : Prop := fnExactTableShrinkRow.holds Try.pinned (OpenSpec.ofChange fnExactTableShrinkSpec)

/-- ITS FALSE NEIGHBOUR: 'it returns false'. Refute it at one input. -/
def fnExactTableShrinkWrong : ChangeSpec := { name := "fnExactTableShrink", fn := fun _ => fun
  | [d] => { results := [.lit (.bool false)], args := [d] }
  | _ => none }
def FnExactTableShrinkWrongFalsely : Prop := fnExactTableShrinkRow.holds Try.pinned (OpenSpec.ofChange fnExactTableShrinkWrong)

/-- 'laws.FnShrunk': WHATEVER THE INPUT: true; the input reads as it did. -/
def fnShrunkSpec : ChangeSpec := { name := "fnShrunk", fn := fun _ => fun
  | [d] => { results := [.lit (.bool true)], args := [d] }
  | _ => none }
def fnShrunkRow : OpenClaim := { program := "ytcfpjcknilbinaa", sum := "28e522da2462457173e805409f54ee72b43f7668d7c3ddcc441934c0b9b45404", func := "loop.example/g03311/laws.FnShrunk", spec := "fnShrunk", unfollowed := true, recurses := true, apart := false }
def FnShrunkSaid : Prop := fnShrunkRow.holds Try.pinned (OpenSpec.ofChange fnShrunkSpec)

/-- ITS FALSE NEIGHBOUR: 'it returns false'. Refute it at one input. -/
def fnShrunkWrong : ChangeSpec := { name := "fnShrunk", fn := fun _ => fun
  | [d] => { results := [.lit (.bool false)], args := [d] }
  | _ => none }
def FnShrunkWrongFalsely : Prop := fnShrunkRow.holds Try.pinned (OpenSpec.ofChange fnShrunkWrong)

/-- 'laws.FnCoverExact': WHATEVER THE INPUT: true; the input reads as it did. -/
def fnCoverExactSpec : ChangeSpec := { name := "fnCoverExact", fn := fun _ => fun
  | [d] => { results := [.lit (.bool true)], args := [d] }
  | _ => none }
def fnCoverExactRow : OpenClaim := { program := "ytcfpjcknilbinaa", sum := "28e522da2462457173e805409f54ee72b43f7668d7c3ddcc441934c0b9b45404", func := "loop.example/g03311/laws.FnCoverExact", spec := "fnCoverExact", unfollowed := true, recurses := true, apart := false }
def FnCoverExactSaid : Prop := fnCoverExactRow.holds Try.pinned (OpenSpec.ofChange fnCoverExactSpec)

/-- ITS FALSE NEIGHBOUR: 'it returns false'. Refute it at one input. -/
def fnCoverExactWrong : ChangeSpec := { name := "fnCoverExact", fn := fun _ => fun
  | [d] => { results := [.lit (.bool false)], args := [d] }
  | _ => none }
def FnCoverExactWrongFalsely : Prop := fnCoverExactRow.holds Try.pinned (OpenSpec.ofChange fnCoverExactWrong)

/-- 'laws.FnCoverNeedsAll': WHATEVER THE INPUT: true; the input reads as it did. -/
def fnCoverNeedsAllSpec : ChangeSpec := { name := "fnCoverNeedsAll", fn := fun _ => fun
  | [d] => { results := [.lit (.bool true)], args := [d] }
  | _ => none }
def fnCoverNeedsAllRow : OpenClaim := { program := "ytcfpjcknilbinaa", sum := "28e522da2462457173e805409f54ee72b43f7668d7c3ddcc441934c0b9b45404", func := "loop.example/g03311/laws.FnCoverNeedsAll", spec := "fnCoverNeedsAll", unfollowed := true, recurses := true, apart := false }
def FnCoverNeedsAllSaid : Prop := fnCoverNeedsAllRow.holds Try.pinned (OpenSpec.ofChange fnCoverNeedsAllSpec)

/-- ITS FALSE NEIGHBOUR: 'it returns false'. Refute it at one input. -/
def fnCoverNeedsAllWrong : ChangeSpec := { name := "fnCoverNeedsAll", fn := fun _ => fun
  | [d] => { results := [.lit (.bool false)], args := [d] }
  | _ => none }
def FnCoverNeedsAllWrongFalsely : Prop := fnCoverNeedsAllRow.holds Try.pinned (OpenSpec.ofChange fnCoverNeedsAllWrong)

/-- 'laws.FnExactMinimalCover': WHATEVER THE INPUT: true; the input reads as it did. -/
def fnExactMinimalCoverSpec : ChangeSpec := { name := "fnExactMinimalCover", fn := fun _ => fun
  | [d] => { results := [.lit (.bool true)], args := [d] }
  | _ => none }
def fnExactMinimalCoverRow : OpenClaim := { program := "ytcfpjcknilbinaa", sum := "28e522da2462457173e805409f54ee72b43f7668d7c3ddcc441934c0b9b45404", func := "loop.example/g03311/laws.FnExactMinimalCover", spec := "fnExactMinimalCover", unfollowed := true, recurses := true, apart := false }
def FnExactMinimalCoverSaid : Prop := fnExactMinimalCoverRow.holds Try.pinned (OpenSpec.ofChange fnExactMinimalCoverSpec)

/-- ITS FALSE NEIGHBOUR: 'it returns false'. Refute it at one input. -/
def fnExactMinimalCoverWrong : ChangeSpec := { name := "fnExactMinimalCover", fn := fun _ => fun
  | [d] => { results := [.lit (.bool false)], args := [d] }
  | _ => none }
def FnExactMinimalCoverWrongFalsely : Prop := fnExactMinimalCoverRow.holds Try.pinned (OpenSpec.ofChange fnExactMinimalCoverWrong)

/- THE SECOND FORM. 'bulk': how many values and letters a reading holds, each counted each time it is reached (what is shared counts as often as it is met; a slice's spare places count too). A statement '..UptoSaid' is the law's where the arguments, and the package variables that the reading takes, are together of bulk at most 1048576: NARROWER than '..Said'. Prove '..Said' where nothing that the law and all that it calls make is longer than what came in: it says more and counts as full. Else prove '..UptoSaid'. A law counts once. -/
mutual
def uptoBulk {H : Type} : DataW H → Nat
  | .lit (.string bytes) => bytes.length + 1
  | .lit _ => 1
  | .nil => 1
  | .ptr d => uptoBulk d + 1
  | .slice elems spare => uptoBulkAll elems + uptoBulkAll spare + 1
  | .agg parts => uptoBulkAll parts + 1
  | .iface _ d => uptoBulk d + 1
  | .map entries => uptoBulkEntries entries + 1
  | .held _ => 1
def uptoBulkAll {H : Type} : List (DataW H) → Nat
  | [] => 0
  | d :: r => uptoBulk d + uptoBulkAll r
def uptoBulkEntries {H : Type} : List (Lit × DataW H) → Nat
  | [] => 0
  | x :: r => uptoBulkEntry x + uptoBulkEntries r
def uptoBulkEntry {H : Type} : Lit × DataW H → Nat
  | (.string bytes, d) => bytes.length + uptoBulk d + 1
  | (_, d) => uptoBulk d + 1
 end
def uptoSmall : (H : Type) → List (DataW H) → Bool := fun _ ds => decide (uptoBulkAll ds ≤ 1048576)
def OpenSpec.upto (s : _root_.Go.ChangeSpec) : _root_.Go.OpenSpec := { _root_.Go.OpenSpec.ofChange s with cond := some uptoSmall }

/-- 'laws.FnExactConstants', WHERE WHAT IT READS IS OF BULK AT MOST 1048576: true; the input reads as it did. -/
def fnExactConstantsUptoRow : OpenClaim := { program := "ytcfpjcknilbinaa", sum := "28e522da2462457173e805409f54ee72b43f7668d7c3ddcc441934c0b9b45404", func := "loop.example/g03311/laws.FnExactConstants", spec := "fnExactConstants", apart := false, narrowed := true }
def FnExactConstantsUptoSaid : Prop := fnExactConstantsUptoRow.holds Try.pinned (OpenSpec.upto fnExactConstantsSpec)

/-- 'laws.FnExactCubeOk', WHERE WHAT IT READS IS OF BULK AT MOST 1048576: true; the input reads as it did. -/
def fnExactCubeOkUptoRow : OpenClaim := { program := "ytcfpjcknilbinaa", sum := "28e522da2462457173e805409f54ee72b43f7668d7c3ddcc441934c0b9b45404", func := "loop.example/g03311/laws.FnExactCubeOk", spec := "fnExactCubeOk", apart := false, narrowed := true }
def FnExactCubeOkUptoSaid : Prop := fnExactCubeOkUptoRow.holds Try.pinned (OpenSpec.upto fnExactCubeOkSpec)

/-- 'laws.FnExactTableOk', WHERE WHAT IT READS IS OF BULK AT MOST 1048576: true; the input reads as it did. -/
def fnExactTableOkUptoRow : OpenClaim := { program := "ytcfpjcknilbinaa", sum := "28e522da2462457173e805409f54ee72b43f7668d7c3ddcc441934c0b9b45404", func := "loop.example/g03311/laws.FnExactTableOk", spec := "fnExactTableOk", apart := false, narrowed := true }
def FnExactTableOkUptoSaid : Prop := fnExactTableOkUptoRow.holds Try.pinned (OpenSpec.upto fnExactTableOkSpec)

/-- 'laws.FnExactClamp', WHERE WHAT IT READS IS OF BULK AT MOST 1048576: true; the input reads as it did. -/
def fnExactClampUptoRow : OpenClaim := { program := "ytcfpjcknilbinaa", sum := "28e522da2462457173e805409f54ee72b43f7668d7c3ddcc441934c0b9b45404", func := "loop.example/g03311/laws.FnExactClamp", spec := "fnExactClamp", apart := false, narrowed := true }
def FnExactClampUptoSaid : Prop := fnExactClampUptoRow.holds Try.pinned (OpenSpec.upto fnExactClampSpec)

/-- 'laws.FnExactCubeHas', WHERE WHAT IT READS IS OF BULK AT MOST 1048576: true; the input reads as it did. -/
def fnExactCubeHasUptoRow : OpenClaim := { program := "ytcfpjcknilbinaa", sum := "28e522da2462457173e805409f54ee72b43f7668d7c3ddcc441934c0b9b45404", func := "loop.example/g03311/laws.FnExactCubeHas", spec := "fnExactCubeHas", apart := false, narrowed := true }
def FnExactCubeHasUptoSaid : Prop := fnExactCubeHasUptoRow.holds Try.pinned (OpenSpec.upto fnExactCubeHasSpec)

/-- 'laws.FnExactTableEval', WHERE WHAT IT READS IS OF BULK AT MOST 1048576: true; the input reads as it did. -/
def fnExactTableEvalUptoRow : OpenClaim := { program := "ytcfpjcknilbinaa", sum := "28e522da2462457173e805409f54ee72b43f7668d7c3ddcc441934c0b9b45404", func := "loop.example/g03311/laws.FnExactTableEval", spec := "fnExactTableEval", apart := false, narrowed := true }
def FnExactTableEvalUptoSaid : Prop := fnExactTableEvalUptoRow.holds Try.pinned (OpenSpec.upto fnExactTableEvalSpec)

/-- 'laws.FnExactEncodeHex', WHERE WHAT IT READS IS OF BULK AT MOST 1048576: true; the input reads as it did. -/
def fnExactEncodeHexUptoRow : OpenClaim := { program := "ytcfpjcknilbinaa", sum := "28e522da2462457173e805409f54ee72b43f7668d7c3ddcc441934c0b9b45404", func := "loop.example/g03311/laws.FnExactEncodeHex", spec := "fnExactEncodeHex", apart := false, narrowed := true }
def FnExactEncodeHexUptoSaid : Prop := fnExactEncodeHexUptoRow.holds Try.pinned (OpenSpec.upto fnExactEncodeHexSpec)

/-- 'laws.FnExactTableVar', WHERE WHAT IT READS IS OF BULK AT MOST 1048576: true; the input reads as it did. -/
def fnExactTableVarUptoRow : OpenClaim := { program := "ytcfpjcknilbinaa", sum := "28e522da2462457173e805409f54ee72b43f7668d7c3ddcc441934c0b9b45404", func := "loop.example/g03311/laws.FnExactTableVar", spec := "fnExactTableVar", unfollowed := true, recurses := true, apart := false, narrowed := true }
def FnExactTableVarUptoSaid : Prop := fnExactTableVarUptoRow.holds Try.pinned (OpenSpec.upto fnExactTableVarSpec)

/-- 'laws.FnExactTableAnd', WHERE WHAT IT READS IS OF BULK AT MOST 1048576: true; the input reads as it did. -/
def fnExactTableAndUptoRow : OpenClaim := { program := "ytcfpjcknilbinaa", sum := "28e522da2462457173e805409f54ee72b43f7668d7c3ddcc441934c0b9b45404", func := "loop.example/g03311/laws.FnExactTableAnd", spec := "fnExactTableAnd", apart := false, narrowed := true }
def FnExactTableAndUptoSaid : Prop := fnExactTableAndUptoRow.holds Try.pinned (OpenSpec.upto fnExactTableAndSpec)

/-- 'laws.FnExactTableXor', WHERE WHAT IT READS IS OF BULK AT MOST 1048576: true; the input reads as it did. -/
def fnExactTableXorUptoRow : OpenClaim := { program := "ytcfpjcknilbinaa", sum := "28e522da2462457173e805409f54ee72b43f7668d7c3ddcc441934c0b9b45404", func := "loop.example/g03311/laws.FnExactTableXor", spec := "fnExactTableXor", apart := false, narrowed := true }
def FnExactTableXorUptoSaid : Prop := fnExactTableXorUptoRow.holds Try.pinned (OpenSpec.upto fnExactTableXorSpec)

/-- 'laws.FnExactFormatInt', WHERE WHAT IT READS IS OF BULK AT MOST 1048576: true; the input reads as it did. -/
def fnExactFormatIntUptoRow : OpenClaim := { program := "ytcfpjcknilbinaa", sum := "28e522da2462457173e805409f54ee72b43f7668d7c3ddcc441934c0b9b45404", func := "loop.example/g03311/laws.FnExactFormatInt", spec := "fnExactFormatInt", apart := false, narrowed := true }
def FnExactFormatIntUptoSaid : Prop := fnExactFormatIntUptoRow.holds Try.pinned (OpenSpec.upto fnExactFormatIntSpec)

/-- 'laws.FnExactDecodeHex', WHERE WHAT IT READS IS OF BULK AT MOST 1048576: true; the input reads as it did. -/
def fnExactDecodeHexUptoRow : OpenClaim := { program := "ytcfpjcknilbinaa", sum := "28e522da2462457173e805409f54ee72b43f7668d7c3ddcc441934c0b9b45404", func := "loop.example/g03311/laws.FnExactDecodeHex", spec := "fnExactDecodeHex", apart := false, narrowed := true }
def FnExactDecodeHexUptoSaid : Prop := fnExactDecodeHexUptoRow.holds Try.pinned (OpenSpec.upto fnExactDecodeHexSpec)

/-- 'laws.FnExactTableNot', WHERE WHAT IT READS IS OF BULK AT MOST 1048576: true; the input reads as it did. -/
def fnExactTableNotUptoRow : OpenClaim := { program := "ytcfpjcknilbinaa", sum := "28e522da2462457173e805409f54ee72b43f7668d7c3ddcc441934c0b9b45404", func := "loop.example/g03311/laws.FnExactTableNot", spec := "fnExactTableNot", unfollowed := true, recurses := true, apart := false, narrowed := true }
def FnExactTableNotUptoSaid : Prop := fnExactTableNotUptoRow.holds Try.pinned (OpenSpec.upto fnExactTableNotSpec)

/-- 'laws.FnExactParseUint', WHERE WHAT IT READS IS OF BULK AT MOST 1048576: true; the input reads as it did. -/
def fnExactParseUintUptoRow : OpenClaim := { program := "ytcfpjcknilbinaa", sum := "28e522da2462457173e805409f54ee72b43f7668d7c3ddcc441934c0b9b45404", func := "loop.example/g03311/laws.FnExactParseUint", spec := "fnExactParseUint", apart := false, narrowed := true }
def FnExactParseUintUptoSaid : Prop := fnExactParseUintUptoRow.holds Try.pinned (OpenSpec.upto fnExactParseUintSpec)

/-- 'laws.FnClamped', WHERE WHAT IT READS IS OF BULK AT MOST 1048576: true; the input reads as it did. -/
def fnClampedUptoRow : OpenClaim := { program := "ytcfpjcknilbinaa", sum := "28e522da2462457173e805409f54ee72b43f7668d7c3ddcc441934c0b9b45404", func := "loop.example/g03311/laws.FnClamped", spec := "fnClamped", apart := false, narrowed := true }
def FnClampedUptoSaid : Prop := fnClampedUptoRow.holds Try.pinned (OpenSpec.upto fnClampedSpec)

/-- 'laws.FnExactTableDepends', WHERE WHAT IT READS IS OF BULK AT MOST 1048576: true; the input reads as it did. -/
def fnExactTableDependsUptoRow : OpenClaim := { program := "ytcfpjcknilbinaa", sum := "28e522da2462457173e805409f54ee72b43f7668d7c3ddcc441934c0b9b45404", func := "loop.example/g03311/laws.FnExactTableDepends", spec := "fnExactTableDepends", unfollowed := true, recurses := true, apart := false, narrowed := true }
def FnExactTableDependsUptoSaid : Prop := fnExactTableDependsUptoRow.holds Try.pinned (OpenSpec.upto fnExactTableDependsSpec)

/-- 'laws.FnExactTableCofactor', WHERE WHAT IT READS IS OF BULK AT MOST 1048576: true; the input reads as it did. -/
def fnExactTableCofactorUptoRow : OpenClaim := { program := "ytcfpjcknilbinaa", sum := "28e522da2462457173e805409f54ee72b43f7668d7c3ddcc441934c0b9b45404", func := "loop.example/g03311/laws.FnExactTableCofactor", spec := "fnExactTableCofactor", unfollowed := true, recurses := true, apart := false, narrowed := true }
def FnExactTableCofactorUptoSaid : Prop := fnExactTableCofactorUptoRow.holds Try.pinned (OpenSpec.upto fnExactTableCofactorSpec)

/-- 'laws.FnNumbers', WHERE WHAT IT READS IS OF BULK AT MOST 1048576: true; the input reads as it did. -/
def fnNumbersUptoRow : OpenClaim := { program := "ytcfpjcknilbinaa", sum := "28e522da2462457173e805409f54ee72b43f7668d7c3ddcc441934c0b9b45404", func := "loop.example/g03311/laws.FnNumbers", spec := "fnNumbers", apart := false, narrowed := true }
def FnNumbersUptoSaid : Prop := fnNumbersUptoRow.holds Try.pinned (OpenSpec.upto fnNumbersSpec)

/-- 'laws.FnExactSplitFields', WHERE WHAT IT READS IS OF BULK AT MOST 1048576: true; the input reads as it did. -/
def fnExactSplitFieldsUptoRow : OpenClaim := { program := "ytcfpjcknilbinaa", sum := "28e522da2462457173e805409f54ee72b43f7668d7c3ddcc441934c0b9b45404", func := "loop.example/g03311/laws.FnExactSplitFields", spec := "fnExactSplitFields", apart := false, narrowed := true }
def FnExactSplitFieldsUptoSaid : Prop := fnExactSplitFieldsUptoRow.holds Try.pinned (OpenSpec.upto fnExactSplitFieldsSpec)

/-- 'laws.FnExactCoverLiterals', WHERE WHAT IT READS IS OF BULK AT MOST 1048576: true; the input reads as it did. -/
def fnExactCoverLiteralsUptoRow : OpenClaim := { program := "ytcfpjcknilbinaa", sum := "28e522da2462457173e805409f54ee72b43f7668d7c3ddcc441934c0b9b45404", func := "loop.example/g03311/laws.FnExactCoverLiterals", spec := "fnExactCoverLiterals", apart := false, narrowed := true }
def FnExactCoverLiteralsUptoSaid : Prop := fnExactCoverLiteralsUptoRow.holds Try.pinned (OpenSpec.upto fnExactCoverLiteralsSpec)

/-- 'laws.FnHexText', WHERE WHAT IT READS IS OF BULK AT MOST 1048576: true; the input reads as it did. -/
def fnHexTextUptoRow : OpenClaim := { program := "ytcfpjcknilbinaa", sum := "28e522da2462457173e805409f54ee72b43f7668d7c3ddcc441934c0b9b45404", func := "loop.example/g03311/laws.FnHexText", spec := "fnHexText", apart := false, narrowed := true }
def FnHexTextUptoSaid : Prop := fnHexTextUptoRow.holds Try.pinned (OpenSpec.upto fnHexTextSpec)

/-- 'laws.FnExactTableSupport', WHERE WHAT IT READS IS OF BULK AT MOST 1048576: true; the input reads as it did. -/
def fnExactTableSupportUptoRow : OpenClaim := { program := "ytcfpjcknilbinaa", sum := "28e522da2462457173e805409f54ee72b43f7668d7c3ddcc441934c0b9b45404", func := "loop.example/g03311/laws.FnExactTableSupport", spec := "fnExactTableSupport", unfollowed := true, recurses := true, apart := false, narrowed := true }
def FnExactTableSupportUptoSaid : Prop := fnExactTableSupportUptoRow.holds Try.pinned (OpenSpec.upto fnExactTableSupportSpec)

/-- 'laws.FnExactCoverTable', WHERE WHAT IT READS IS OF BULK AT MOST 1048576: true; the input reads as it did. -/
def fnExactCoverTableUptoRow : OpenClaim := { program := "ytcfpjcknilbinaa", sum := "28e522da2462457173e805409f54ee72b43f7668d7c3ddcc441934c0b9b45404", func := "loop.example/g03311/laws.FnExactCoverTable", spec := "fnExactCoverTable", unfollowed := true, recurses := true, apart := false, narrowed := true }
def FnExactCoverTableUptoSaid : Prop := fnExactCoverTableUptoRow.holds Try.pinned (OpenSpec.upto fnExactCoverTableSpec)

/-- 'laws.FnExactPrimeCubes', WHERE WHAT IT READS IS OF BULK AT MOST 1048576: true; the input reads as it did. -/
def fnExactPrimeCubesUptoRow : OpenClaim := { program := "ytcfpjcknilbinaa", sum := "28e522da2462457173e805409f54ee72b43f7668d7c3ddcc441934c0b9b45404", func := "loop.example/g03311/laws.FnExactPrimeCubes", spec := "fnExactPrimeCubes", apart := false, narrowed := true }
def FnExactPrimeCubesUptoSaid : Prop := fnExactPrimeCubesUptoRow.holds Try.pinned (OpenSpec.upto fnExactPrimeCubesSpec)

/-- 'laws.FnShannon', WHERE WHAT IT READS IS OF BULK AT MOST 1048576: true; the input reads as it did. -/
def fnShannonUptoRow : OpenClaim := { program := "ytcfpjcknilbinaa", sum := "28e522da2462457173e805409f54ee72b43f7668d7c3ddcc441934c0b9b45404", func := "loop.example/g03311/laws.FnShannon", spec := "fnShannon", unfollowed := true, recurses := true, apart := false, narrowed := true }
def FnShannonUptoSaid : Prop := fnShannonUptoRow.holds Try.pinned (OpenSpec.upto fnShannonSpec)

/-- 'laws.FnFieldsAgain', WHERE WHAT IT READS IS OF BULK AT MOST 1048576: true; the input reads as it did. -/
def fnFieldsAgainUptoRow : OpenClaim := { program := "ytcfpjcknilbinaa", sum := "28e522da2462457173e805409f54ee72b43f7668d7c3ddcc441934c0b9b45404", func := "loop.example/g03311/laws.FnFieldsAgain", spec := "fnFieldsAgain", apart := false, narrowed := true }
def FnFieldsAgainUptoSaid : Prop := fnFieldsAgainUptoRow.holds Try.pinned (OpenSpec.upto fnFieldsAgainSpec)

/-- 'laws.FnExactTableShrink', WHERE WHAT IT READS IS OF BULK AT MOST 1048576: true; the input reads as it did. -/
def fnExactTableShrinkUptoRow : OpenClaim := { program := "ytcfpjcknilbinaa", sum := "28e522da2462457173e805409f54ee72b43f7668d7c3ddcc441934c0b9b45404", func := "loop.example/g03311/laws.FnExactTableShrink", spec := "fnExactTableShrink", unfollowed := true, recurses := true, apart := false, narrowed := true }
def FnExactTableShrinkUptoSaid : Prop := fnExactTableShrinkUptoRow.holds Try.pinned (OpenSpec.upto fnExactTableShrinkSpec)

/-- 'laws.FnShrunk', WHERE WHAT IT READS IS OF BULK AT MOST 1048576: true; the input reads as it did. -/
def fnShrunkUptoRow : OpenClaim := { program := "ytcfpjcknilbinaa", sum := "28e522da2462457173e805409f54ee72b43f7668d7c3ddcc441934c0b9b45404", func := "loop.example/g03311/laws.FnShrunk", spec := "fnShrunk", unfollowed := true, recurses := true, apart := false, narrowed := true }
def FnShrunkUptoSaid : Prop := fnShrunkUptoRow.holds Try.pinned (OpenSpec.upto fnShrunkSpec)

/-- 'laws.FnCoverExact', WHERE WHAT IT READS IS OF BULK AT MOST 1048576: true; the input reads as it did. -/
def fnCoverExactUptoRow : OpenClaim := { program := "ytcfpjcknilbinaa", sum := "28e522da2462457173e805409f54ee72b43f7668d7c3ddcc441934c0b9b45404", func := "loop.example/g03311/laws.FnCoverExact", spec := "fnCoverExact", unfollowed := true, recurses := true, apart := false, narrowed := true }
def FnCoverExactUptoSaid : Prop := fnCoverExactUptoRow.holds Try.pinned (OpenSpec.upto fnCoverExactSpec)

/-- 'laws.FnCoverNeedsAll', WHERE WHAT IT READS IS OF BULK AT MOST 1048576: true; the input reads as it did. -/
def fnCoverNeedsAllUptoRow : OpenClaim := { program := "ytcfpjcknilbinaa", sum := "28e522da2462457173e805409f54ee72b43f7668d7c3ddcc441934c0b9b45404", func := "loop.example/g03311/laws.FnCoverNeedsAll", spec := "fnCoverNeedsAll", unfollowed := true, recurses := true, apart := false, narrowed := true }
def FnCoverNeedsAllUptoSaid : Prop := fnCoverNeedsAllUptoRow.holds Try.pinned (OpenSpec.upto fnCoverNeedsAllSpec)

/-- 'laws.FnExactMinimalCover', WHERE WHAT IT READS IS OF BULK AT MOST 1048576: true; the input reads as it did. -/
def fnExactMinimalCoverUptoRow : OpenClaim := { program := "ytcfpjcknilbinaa", sum := "28e522da2462457173e805409f54ee72b43f7668d7c3ddcc441934c0b9b45404", func := "loop.example/g03311/laws.FnExactMinimalCover", spec := "fnExactMinimalCover", unfollowed := true, recurses := true, apart := false, narrowed := true }
def FnExactMinimalCoverUptoSaid : Prop := fnExactMinimalCoverUptoRow.holds Try.pinned (OpenSpec.upto fnExactMinimalCoverSpec)

end Rows
end Go.Proofs.Ytcfpjcknilbinaa
