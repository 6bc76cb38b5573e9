/-
  No cell of these rows narrows 'for every input' (looked for: loops, veiled, ifaces, maps, wideKeys, modest, calm, conditions, laid).
  DERIVED. THE GIVEN ROWS OF THIS SEAT. 11 by the template 'for every input the law returns true; each argument reads behind the call as it read before'; 0 by the template 'total and deterministic' (their statements: YtimccjpggcgklaaTotals.lean).
  GIVEN WITH THE SEED: the statements are not yours to turn. If you find one false, say at which input.
  Laid BY PROGRAM, IN A SANDBOX (cutbox-rows.mjs): the forced cells as the released guide's own fill.sh prints them over the translation 555d36d9df1fe65c… (all of the seat's roots in one cut). By AI agents, Wed Nov 11 2026. No macro, syntax, notation, axiom, sorry.
-/
import Derived.Test.YtimccjpggcgklaaChecked
import GoSem.Claim
import GoSem.ClaimJoined
import GoSem.ClaimMapViews
import Derived.JoinedTies
import Derived.KernelRfl
namespace Go.Proofs.Ytimccjpggcgklaa
/- THE CELL 'sum', in the pinned program and in every row, IS THE sha256 OF THE DUMP (.gsa) THAT YtimccjpggcgklaaProg.lean LOADS. Nothing in Lean hashes anything: it is a label: what it is worth is what the hold of that sum in a sandbox is worth. -/
noncomputable def Try.pinned : Pinned := { name := "ytimccjpggcgklaa", sum := "555d36d9df1fe65c2a4728513261754db0f31731f68f97a7320bec0ab774df71", checked := Try.checked }
namespace Rows
def none {H : Type} : Left H := { results := [], args := [] }

/-- 'laws.FnExactOpArity': WHATEVER THE INPUT: true; the input reads as it did. -/
def fnExactOpAritySpec : ChangeSpec := { name := "fnExactOpArity", fn := fun _ => fun
  | [d] => { results := [.lit (.bool true)], args := [d] }
  | _ => none }
def fnExactOpArityRow : OpenClaim := { program := "ytimccjpggcgklaa", sum := "555d36d9df1fe65c2a4728513261754db0f31731f68f97a7320bec0ab774df71", func := "loop.example/g03311/laws.FnExactOpArity", spec := "fnExactOpArity", apart := false }
def FnExactOpAritySaid : Prop := fnExactOpArityRow.holds Try.pinned (OpenSpec.ofChange fnExactOpAritySpec)

/-- ITS FALSE NEIGHBOUR: 'it returns false'. Refute it at one input. -/
def fnExactOpArityWrong : ChangeSpec := { name := "fnExactOpArity", fn := fun _ => fun
  | [d] => { results := [.lit (.bool false)], args := [d] }
  | _ => none }
def FnExactOpArityWrongFalsely : Prop := fnExactOpArityRow.holds Try.pinned (OpenSpec.ofChange fnExactOpArityWrong)

/-- 'laws.FnExactOpsOk': WHATEVER THE INPUT: true; the input reads as it did. -/
def fnExactOpsOkSpec : ChangeSpec := { name := "fnExactOpsOk", fn := fun _ => fun
  | [d1, d2] => { results := [.lit (.bool true)], args := [d1, d2] }
  | _ => none }
def fnExactOpsOkRow : OpenClaim := { program := "ytimccjpggcgklaa", sum := "555d36d9df1fe65c2a4728513261754db0f31731f68f97a7320bec0ab774df71", func := "loop.example/g03311/laws.FnExactOpsOk", spec := "fnExactOpsOk", apart := false }
def FnExactOpsOkSaid : Prop := fnExactOpsOkRow.holds Try.pinned (OpenSpec.ofChange fnExactOpsOkSpec)

/-- ITS FALSE NEIGHBOUR: 'it returns false'. Refute it at one input. -/
def fnExactOpsOkWrong : ChangeSpec := { name := "fnExactOpsOk", fn := fun _ => fun
  | [d1, d2] => { results := [.lit (.bool false)], args := [d1, d2] }
  | _ => none }
def FnExactOpsOkWrongFalsely : Prop := fnExactOpsOkRow.holds Try.pinned (OpenSpec.ofChange fnExactOpsOkWrong)

/-- 'laws.FnPrefixOps': WHATEVER THE INPUT: true; the input reads as it did. -/
def fnPrefixOpsSpec : ChangeSpec := { name := "fnPrefixOps", fn := fun _ => fun
  | [d] => { results := [.lit (.bool true)], args := [d] }
  | _ => none }
def fnPrefixOpsRow : OpenClaim := { program := "ytimccjpggcgklaa", sum := "555d36d9df1fe65c2a4728513261754db0f31731f68f97a7320bec0ab774df71", func := "loop.example/g03311/laws.FnPrefixOps", spec := "fnPrefixOps", recurses := true, apart := false }
def FnPrefixOpsSaid : Prop := fnPrefixOpsRow.holds Try.pinned (OpenSpec.ofChange fnPrefixOpsSpec)

/-- ITS FALSE NEIGHBOUR: 'it returns false'. Refute it at one input. -/
def fnPrefixOpsWrong : ChangeSpec := { name := "fnPrefixOps", fn := fun _ => fun
  | [d] => { results := [.lit (.bool false)], args := [d] }
  | _ => none }
def FnPrefixOpsWrongFalsely : Prop := fnPrefixOpsRow.holds Try.pinned (OpenSpec.ofChange fnPrefixOpsWrong)

/-- 'laws.FnExactSampleNet': WHATEVER THE INPUT: true; the input reads as it did. -/
def fnExactSampleNetSpec : ChangeSpec := { name := "fnExactSampleNet", fn := fun _ => fun
  | [] => { results := [.lit (.bool true)], args := [] }
  | _ => none }
def fnExactSampleNetRow : OpenClaim := { program := "ytimccjpggcgklaa", sum := "555d36d9df1fe65c2a4728513261754db0f31731f68f97a7320bec0ab774df71", func := "loop.example/g03311/laws.FnExactSampleNet", spec := "fnExactSampleNet", apart := false }
def FnExactSampleNetSaid : Prop := fnExactSampleNetRow.holds Try.pinned (OpenSpec.ofChange fnExactSampleNetSpec)

/-- ITS FALSE NEIGHBOUR: 'it returns false'. Refute it at one input. -/
def fnExactSampleNetWrong : ChangeSpec := { name := "fnExactSampleNet", fn := fun _ => fun
  | [] => { results := [.lit (.bool false)], args := [] }
  | _ => none }
def FnExactSampleNetWrongFalsely : Prop := fnExactSampleNetRow.holds Try.pinned (OpenSpec.ofChange fnExactSampleNetWrong)

/-- 'laws.FnExactNodeCount': WHATEVER THE INPUT: true; the input reads as it did. -/
def fnExactNodeCountSpec : ChangeSpec := { name := "fnExactNodeCount", fn := fun _ => fun
  | [d] => { results := [.lit (.bool true)], args := [d] }
  | _ => none }
def fnExactNodeCountRow : OpenClaim := { program := "ytimccjpggcgklaa", sum := "555d36d9df1fe65c2a4728513261754db0f31731f68f97a7320bec0ab774df71", func := "loop.example/g03311/laws.FnExactNodeCount", spec := "fnExactNodeCount", apart := false }
def FnExactNodeCountSaid : Prop := fnExactNodeCountRow.holds Try.pinned (OpenSpec.ofChange fnExactNodeCountSpec)

/-- ITS FALSE NEIGHBOUR: 'it returns false'. Refute it at one input. -/
def fnExactNodeCountWrong : ChangeSpec := { name := "fnExactNodeCount", fn := fun _ => fun
  | [d] => { results := [.lit (.bool false)], args := [d] }
  | _ => none }
def FnExactNodeCountWrongFalsely : Prop := fnExactNodeCountRow.holds Try.pinned (OpenSpec.ofChange fnExactNodeCountWrong)

/-- 'laws.FnExactNetOk': WHATEVER THE INPUT: true; the input reads as it did. -/
def fnExactNetOkSpec : ChangeSpec := { name := "fnExactNetOk", fn := fun _ => fun
  | [d] => { results := [.lit (.bool true)], args := [d] }
  | _ => none }
def fnExactNetOkRow : OpenClaim := { program := "ytimccjpggcgklaa", sum := "555d36d9df1fe65c2a4728513261754db0f31731f68f97a7320bec0ab774df71", func := "loop.example/g03311/laws.FnExactNetOk", spec := "fnExactNetOk", apart := false }
def FnExactNetOkSaid : Prop := fnExactNetOkRow.holds Try.pinned (OpenSpec.ofChange fnExactNetOkSpec)

/-- ITS FALSE NEIGHBOUR: 'it returns false'. Refute it at one input. -/
def fnExactNetOkWrong : ChangeSpec := { name := "fnExactNetOk", fn := fun _ => fun
  | [d] => { results := [.lit (.bool false)], args := [d] }
  | _ => none }
def FnExactNetOkWrongFalsely : Prop := fnExactNetOkRow.holds Try.pinned (OpenSpec.ofChange fnExactNetOkWrong)

/-- 'laws.FnDepthIsLevel': WHATEVER THE INPUT: true; the input reads as it did. -/
def fnDepthIsLevelSpec : ChangeSpec := { name := "fnDepthIsLevel", fn := fun _ => fun
  | [d] => { results := [.lit (.bool true)], args := [d] }
  | _ => none }
def fnDepthIsLevelRow : OpenClaim := { program := "ytimccjpggcgklaa", sum := "555d36d9df1fe65c2a4728513261754db0f31731f68f97a7320bec0ab774df71", func := "loop.example/g03311/laws.FnDepthIsLevel", spec := "fnDepthIsLevel", recurses := true, apart := false }
def FnDepthIsLevelSaid : Prop := fnDepthIsLevelRow.holds Try.pinned (OpenSpec.ofChange fnDepthIsLevelSpec)

/-- ITS FALSE NEIGHBOUR: 'it returns false'. Refute it at one input. -/
def fnDepthIsLevelWrong : ChangeSpec := { name := "fnDepthIsLevel", fn := fun _ => fun
  | [d] => { results := [.lit (.bool false)], args := [d] }
  | _ => none }
def FnDepthIsLevelWrongFalsely : Prop := fnDepthIsLevelRow.holds Try.pinned (OpenSpec.ofChange fnDepthIsLevelWrong)

/-- 'laws.FnExactExprValue': WHATEVER THE INPUT: true; the input reads as it did. -/
def fnExactExprValueSpec : ChangeSpec := { name := "fnExactExprValue", fn := fun _ => fun
  | [d1, d2, d3] => { results := [.lit (.bool true)], args := [d1, d2, d3] }
  | _ => none }
def fnExactExprValueRow : OpenClaim := { program := "ytimccjpggcgklaa", sum := "555d36d9df1fe65c2a4728513261754db0f31731f68f97a7320bec0ab774df71", func := "loop.example/g03311/laws.FnExactExprValue", spec := "fnExactExprValue", recurses := true, apart := false }
def FnExactExprValueSaid : Prop := fnExactExprValueRow.holds Try.pinned (OpenSpec.ofChange fnExactExprValueSpec)

/-- ITS FALSE NEIGHBOUR: 'it returns false'. Refute it at one input. -/
def fnExactExprValueWrong : ChangeSpec := { name := "fnExactExprValue", fn := fun _ => fun
  | [d1, d2, d3] => { results := [.lit (.bool false)], args := [d1, d2, d3] }
  | _ => none }
def FnExactExprValueWrongFalsely : Prop := fnExactExprValueRow.holds Try.pinned (OpenSpec.ofChange fnExactExprValueWrong)

/-- 'laws.FnExactSampleDesign': WHATEVER THE INPUT: true; the input reads as it did. -/
def fnExactSampleDesignSpec : ChangeSpec := { name := "fnExactSampleDesign", fn := fun _ => fun
  | [] => { results := [.lit (.bool true)], args := [] }
  | _ => none }
def fnExactSampleDesignRow : OpenClaim := { program := "ytimccjpggcgklaa", sum := "555d36d9df1fe65c2a4728513261754db0f31731f68f97a7320bec0ab774df71", func := "loop.example/g03311/laws.FnExactSampleDesign", spec := "fnExactSampleDesign", apart := false }
def FnExactSampleDesignSaid : Prop := fnExactSampleDesignRow.holds Try.pinned (OpenSpec.ofChange fnExactSampleDesignSpec)

/-- ITS FALSE NEIGHBOUR: 'it returns false'. Refute it at one input. -/
def fnExactSampleDesignWrong : ChangeSpec := { name := "fnExactSampleDesign", fn := fun _ => fun
  | [] => { results := [.lit (.bool false)], args := [] }
  | _ => none }
def FnExactSampleDesignWrongFalsely : Prop := fnExactSampleDesignRow.holds Try.pinned (OpenSpec.ofChange fnExactSampleDesignWrong)

/-- 'laws.FnExactPortsOf': WHATEVER THE INPUT: true; the input reads as it did. -/
def fnExactPortsOfSpec : ChangeSpec := { name := "fnExactPortsOf", fn := fun _ => fun
  | [d] => { results := [.lit (.bool true)], args := [d] }
  | _ => none }
def fnExactPortsOfRow : OpenClaim := { program := "ytimccjpggcgklaa", sum := "555d36d9df1fe65c2a4728513261754db0f31731f68f97a7320bec0ab774df71", func := "loop.example/g03311/laws.FnExactPortsOf", spec := "fnExactPortsOf", apart := false }
def FnExactPortsOfSaid : Prop := fnExactPortsOfRow.holds Try.pinned (OpenSpec.ofChange fnExactPortsOfSpec)

/-- ITS FALSE NEIGHBOUR: 'it returns false'. Refute it at one input. -/
def fnExactPortsOfWrong : ChangeSpec := { name := "fnExactPortsOf", fn := fun _ => fun
  | [d] => { results := [.lit (.bool false)], args := [d] }
  | _ => none }
def FnExactPortsOfWrongFalsely : Prop := fnExactPortsOfRow.holds Try.pinned (OpenSpec.ofChange fnExactPortsOfWrong)

/-- 'laws.FnExactPortWidths': WHATEVER THE INPUT: true; the input reads as it did. -/
def fnExactPortWidthsSpec : ChangeSpec := { name := "fnExactPortWidths", fn := fun _ => fun
  | [d1, d2] => { results := [.lit (.bool true)], args := [d1, d2] }
  | _ => none }
def fnExactPortWidthsRow : OpenClaim := { program := "ytimccjpggcgklaa", sum := "555d36d9df1fe65c2a4728513261754db0f31731f68f97a7320bec0ab774df71", func := "loop.example/g03311/laws.FnExactPortWidths", spec := "fnExactPortWidths", apart := false }
def FnExactPortWidthsSaid : Prop := fnExactPortWidthsRow.holds Try.pinned (OpenSpec.ofChange fnExactPortWidthsSpec)

/-- ITS FALSE NEIGHBOUR: 'it returns false'. Refute it at one input. -/
def fnExactPortWidthsWrong : ChangeSpec := { name := "fnExactPortWidths", fn := fun _ => fun
  | [d1, d2] => { results := [.lit (.bool false)], args := [d1, d2] }
  | _ => none }
def FnExactPortWidthsWrongFalsely : Prop := fnExactPortWidthsRow.holds Try.pinned (OpenSpec.ofChange fnExactPortWidthsWrong)

/- THE SECOND FORM. 'bulk': how many values and letters a reading holds, each counted each time it is reached (what is shared counts as often as it is met; a slice's spare places count too). A statement '..UptoSaid' is the law's where the arguments, and the package variables that the reading takes, are together of bulk at most 1048576: NARROWER than '..Said'. Prove '..Said' where nothing that the law and all that it calls make is longer than what came in: it says more and counts as full. Else prove '..UptoSaid'. A law counts once. -/
mutual
def uptoBulk {H : Type} : DataW H → Nat
  | .lit (.string bytes) => bytes.length + 1
  | .lit _ => 1
  | .nil => 1
  | .ptr d => uptoBulk d + 1
  | .slice elems spare => uptoBulkAll elems + uptoBulkAll spare + 1
  | .agg parts => uptoBulkAll parts + 1
  | .iface _ d => uptoBulk d + 1
  | .map entries => uptoBulkEntries entries + 1
  | .held _ => 1
def uptoBulkAll {H : Type} : List (DataW H) → Nat
  | [] => 0
  | d :: r => uptoBulk d + uptoBulkAll r
def uptoBulkEntries {H : Type} : List (Lit × DataW H) → Nat
  | [] => 0
  | x :: r => uptoBulkEntry x + uptoBulkEntries r
def uptoBulkEntry {H : Type} : Lit × DataW H → Nat
  | (.string bytes, d) => bytes.length + uptoBulk d + 1
  | (_, d) => uptoBulk d + 1
 end
def uptoSmall : (H : Type) → List (DataW H) → Bool := fun _ ds => decide (uptoBulkAll ds ≤ 1048576)
def OpenSpec.upto (s : _root_.Go.ChangeSpec) : _root_.Go.OpenSpec := { _root_.Go.OpenSpec.ofChange s with cond := some uptoSmall }

/-- 'laws.FnExactOpArity', WHERE WHAT IT READS IS OF BULK AT MOST 1048576: true; the input reads as it did. -/
def fnExactOpArityUptoRow : OpenClaim := { program := "ytimccjpggcgklaa", sum := "555d36d9df1fe65c2a4728513261754db0f31731f68f97a7320bec0ab774df71", func := "loop.example/g03311/laws.FnExactOpArity", spec := "fnExactOpArity", apart := false, narrowed := true }
def FnExactOpArityUptoSaid : Prop := fnExactOpArityUptoRow.holds Try.pinned (OpenSpec.upto fnExactOpAritySpec)

/-- 'laws.FnExactOpsOk', WHERE WHAT IT READS IS OF BULK AT MOST 1048576: true; the input reads as it did. -/
def fnExactOpsOkUptoRow : OpenClaim := { program := "ytimccjpggcgklaa", sum := "555d36d9df1fe65c2a4728513261754db0f31731f68f97a7320bec0ab774df71", func := "loop.example/g03311/laws.FnExactOpsOk", spec := "fnExactOpsOk", apart := false, narrowed := true }
def FnExactOpsOkUptoSaid : Prop := fnExactOpsOkUptoRow.holds Try.pinned (OpenSpec.upto fnExactOpsOkSpec)

/-- 'laws.FnPrefixOps', WHERE WHAT IT READS IS OF BULK AT MOST 1048576: true; the input reads as it did. -/
def fnPrefixOpsUptoRow : OpenClaim := { program := "ytimccjpggcgklaa", sum := "555d36d9df1fe65c2a4728513261754db0f31731f68f97a7320bec0ab774df71", func := "loop.example/g03311/laws.FnPrefixOps", spec := "fnPrefixOps", recurses := true, apart := false, narrowed := true }
def FnPrefixOpsUptoSaid : Prop := fnPrefixOpsUptoRow.holds Try.pinned (OpenSpec.upto fnPrefixOpsSpec)

/-- 'laws.FnExactSampleNet', WHERE WHAT IT READS IS OF BULK AT MOST 1048576: true; the input reads as it did. -/
def fnExactSampleNetUptoRow : OpenClaim := { program := "ytimccjpggcgklaa", sum := "555d36d9df1fe65c2a4728513261754db0f31731f68f97a7320bec0ab774df71", func := "loop.example/g03311/laws.FnExactSampleNet", spec := "fnExactSampleNet", apart := false, narrowed := true }
def FnExactSampleNetUptoSaid : Prop := fnExactSampleNetUptoRow.holds Try.pinned (OpenSpec.upto fnExactSampleNetSpec)

/-- 'laws.FnExactNodeCount', WHERE WHAT IT READS IS OF BULK AT MOST 1048576: true; the input reads as it did. -/
def fnExactNodeCountUptoRow : OpenClaim := { program := "ytimccjpggcgklaa", sum := "555d36d9df1fe65c2a4728513261754db0f31731f68f97a7320bec0ab774df71", func := "loop.example/g03311/laws.FnExactNodeCount", spec := "fnExactNodeCount", apart := false, narrowed := true }
def FnExactNodeCountUptoSaid : Prop := fnExactNodeCountUptoRow.holds Try.pinned (OpenSpec.upto fnExactNodeCountSpec)

/-- 'laws.FnExactNetOk', WHERE WHAT IT READS IS OF BULK AT MOST 1048576: true; the input reads as it did. -/
def fnExactNetOkUptoRow : OpenClaim := { program := "ytimccjpggcgklaa", sum := "555d36d9df1fe65c2a4728513261754db0f31731f68f97a7320bec0ab774df71", func := "loop.example/g03311/laws.FnExactNetOk", spec := "fnExactNetOk", apart := false, narrowed := true }
def FnExactNetOkUptoSaid : Prop := fnExactNetOkUptoRow.holds Try.pinned (OpenSpec.upto fnExactNetOkSpec)

/-- 'laws.FnDepthIsLevel', WHERE WHAT IT READS IS OF BULK AT MOST 1048576: true; the input reads as it did. -/
def fnDepthIsLevelUptoRow : OpenClaim := { program := "ytimccjpggcgklaa", sum := "555d36d9df1fe65c2a4728513261754db0f31731f68f97a7320bec0ab774df71", func := "loop.example/g03311/laws.FnDepthIsLevel", spec := "fnDepthIsLevel", recurses := true, apart := false, narrowed := true }
def FnDepthIsLevelUptoSaid : Prop := fnDepthIsLevelUptoRow.holds Try.pinned (OpenSpec.upto fnDepthIsLevelSpec)

/-- 'laws.FnExactExprValue', WHERE WHAT IT READS IS OF BULK AT MOST 1048576: true; the input reads as it did. -/
def fnExactExprValueUptoRow : OpenClaim := { program := "ytimccjpggcgklaa", sum := "555d36d9df1fe65c2a4728513261754db0f31731f68f97a7320bec0ab774df71", func := "loop.example/g03311/laws.FnExactExprValue", spec := "fnExactExprValue", recurses := true, apart := false, narrowed := true }
def FnExactExprValueUptoSaid : Prop := fnExactExprValueUptoRow.holds Try.pinned (OpenSpec.upto fnExactExprValueSpec)

/-- 'laws.FnExactSampleDesign', WHERE WHAT IT READS IS OF BULK AT MOST 1048576: true; the input reads as it did. -/
def fnExactSampleDesignUptoRow : OpenClaim := { program := "ytimccjpggcgklaa", sum := "555d36d9df1fe65c2a4728513261754db0f31731f68f97a7320bec0ab774df71", func := "loop.example/g03311/laws.FnExactSampleDesign", spec := "fnExactSampleDesign", apart := false, narrowed := true }
def FnExactSampleDesignUptoSaid : Prop := fnExactSampleDesignUptoRow.holds Try.pinned (OpenSpec.upto fnExactSampleDesignSpec)

/-- 'laws.FnExactPortsOf', WHERE WHAT IT READS IS OF BULK AT MOST 1048576: true; the input reads as it did. -/
def fnExactPortsOfUptoRow : OpenClaim := { program := "ytimccjpggcgklaa", sum := "555d36d9df1fe65c2a4728513261754db0f31731f68f97a7320bec0ab774df71", func := "loop.example/g03311/laws.FnExactPortsOf", spec := "fnExactPortsOf", apart := false, narrowed := true }
def FnExactPortsOfUptoSaid : Prop := fnExactPortsOfUptoRow.holds Try.pinned (OpenSpec.upto fnExactPortsOfSpec)

/-- 'laws.FnExactPortWidths', WHERE WHAT IT READS IS OF BULK AT MOST 1048576: true; the input reads as it did. -/
def fnExactPortWidthsUptoRow : OpenClaim := { program := "ytimccjpggcgklaa", sum := "555d36d9df1fe65c2a4728513261754db0f31731f68f97a7320bec0ab774df71", func := "loop.example/g03311/laws.FnExactPortWidths", spec := "fnExactPortWidths", apart := false, narrowed := true }
def FnExactPortWidthsUptoSaid : Prop := fnExactPortWidthsUptoRow.holds Try.pinned (OpenSpec.upto fnExactPortWidthsSpec)

end Rows
end Go.Proofs.Ytimccjpggcgklaa
