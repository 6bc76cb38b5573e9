/-
  No cell of these rows narrows 'for every input' (looked for: loops, veiled, ifaces, maps, wideKeys, modest, calm, conditions, laid).
  DERIVED. THE GIVEN ROWS OF THIS SEAT. 5 by the template 'for every input the law returns true; each argument reads behind the call as it read before'; 0 by the template 'total and deterministic' (their statements: YtlkjdhjeecogjaaTotals.lean).
  GIVEN WITH THE SEED: the statements are not yours to turn. If you find one false, say at which input.
  Laid BY PROGRAM, IN A SANDBOX (cutbox-rows.mjs): the forced cells as the released guide's own fill.sh prints them over the translation 378a3e2c7ad15579… (all of the seat's roots in one cut). By AI agents, Wed Nov 11 2026. No macro, syntax, notation, axiom, sorry.
-/
import Derived.Test.YtlkjdhjeecogjaaChecked
import GoSem.Claim
import GoSem.ClaimJoined
import GoSem.ClaimMapViews
import Derived.JoinedTies
import Derived.KernelRfl
namespace Go.Proofs.Ytlkjdhjeecogjaa
/- THE CELL 'sum', in the pinned program and in every row, IS THE sha256 OF THE DUMP (.gsa) THAT YtlkjdhjeecogjaaProg.lean LOADS. Nothing in Lean hashes anything: it is a label: what it is worth is what the hold of that sum in a sandbox is worth. -/
noncomputable def Try.pinned : Pinned := { name := "ytlkjdhjeecogjaa", sum := "378a3e2c7ad15579ddd1c301584978a55d50f8a98ad55a3da311b72c5e546b9d", checked := Try.checked }
namespace Rows
def none {H : Type} : Left H := { results := [], args := [] }

/-- 'laws.FnExactFlatStep': WHATEVER THE INPUT: true; the input reads as it did. -/
def fnExactFlatStepSpec : ChangeSpec := { name := "fnExactFlatStep", fn := fun _ => fun
  | [d1, d2, d3] => { results := [.lit (.bool true)], args := [d1, d2, d3] }
  | _ => none }
def fnExactFlatStepRow : OpenClaim := { program := "ytlkjdhjeecogjaa", sum := "378a3e2c7ad15579ddd1c301584978a55d50f8a98ad55a3da311b72c5e546b9d", func := "loop.example/g03311/laws.FnExactFlatStep", spec := "fnExactFlatStep", unfollowed := true, recurses := true, apart := false }
def FnExactFlatStepSaid : Prop := fnExactFlatStepRow.holds Try.pinned (OpenSpec.ofChange fnExactFlatStepSpec)

/-- ITS FALSE NEIGHBOUR: 'it returns false'. Refute it at one input. -/
def fnExactFlatStepWrong : ChangeSpec := { name := "fnExactFlatStep", fn := fun _ => fun
  | [d1, d2, d3] => { results := [.lit (.bool false)], args := [d1, d2, d3] }
  | _ => none }
def FnExactFlatStepWrongFalsely : Prop := fnExactFlatStepRow.holds Try.pinned (OpenSpec.ofChange fnExactFlatStepWrong)

/-- 'laws.FnExactInstanceOf': WHATEVER THE INPUT: true; the input reads as it did. -/
def fnExactInstanceOfSpec : ChangeSpec := { name := "fnExactInstanceOf", fn := fun _ => fun
  | [d1, d2] => { results := [.lit (.bool true)], args := [d1, d2] }
  | _ => none }
def fnExactInstanceOfRow : OpenClaim := { program := "ytlkjdhjeecogjaa", sum := "378a3e2c7ad15579ddd1c301584978a55d50f8a98ad55a3da311b72c5e546b9d", func := "loop.example/g03311/laws.FnExactInstanceOf", spec := "fnExactInstanceOf", unfollowed := true, recurses := true, apart := false }
def FnExactInstanceOfSaid : Prop := fnExactInstanceOfRow.holds Try.pinned (OpenSpec.ofChange fnExactInstanceOfSpec)

/-- ITS FALSE NEIGHBOUR: 'it returns false'. Refute it at one input. -/
def fnExactInstanceOfWrong : ChangeSpec := { name := "fnExactInstanceOf", fn := fun _ => fun
  | [d1, d2] => { results := [.lit (.bool false)], args := [d1, d2] }
  | _ => none }
def FnExactInstanceOfWrongFalsely : Prop := fnExactInstanceOfRow.holds Try.pinned (OpenSpec.ofChange fnExactInstanceOfWrong)

/-- 'laws.FnExactFlatten': WHATEVER THE INPUT: true; the input reads as it did. -/
def fnExactFlattenSpec : ChangeSpec := { name := "fnExactFlatten", fn := fun _ => fun
  | [d1, d2] => { results := [.lit (.bool true)], args := [d1, d2] }
  | _ => none }
def fnExactFlattenRow : OpenClaim := { program := "ytlkjdhjeecogjaa", sum := "378a3e2c7ad15579ddd1c301584978a55d50f8a98ad55a3da311b72c5e546b9d", func := "loop.example/g03311/laws.FnExactFlatten", spec := "fnExactFlatten", unfollowed := true, recurses := true, apart := false }
def FnExactFlattenSaid : Prop := fnExactFlattenRow.holds Try.pinned (OpenSpec.ofChange fnExactFlattenSpec)

/-- ITS FALSE NEIGHBOUR: 'it returns false'. Refute it at one input. -/
def fnExactFlattenWrong : ChangeSpec := { name := "fnExactFlatten", fn := fun _ => fun
  | [d1, d2] => { results := [.lit (.bool false)], args := [d1, d2] }
  | _ => none }
def FnExactFlattenWrongFalsely : Prop := fnExactFlattenRow.holds Try.pinned (OpenSpec.ofChange fnExactFlattenWrong)

/-- 'laws.FnPrefixOps': WHATEVER THE INPUT: true; the input reads as it did. -/
def fnPrefixOpsSpec : ChangeSpec := { name := "fnPrefixOps", fn := fun _ => fun
  | [d] => { results := [.lit (.bool true)], args := [d] }
  | _ => none }
def fnPrefixOpsRow : OpenClaim := { program := "ytlkjdhjeecogjaa", sum := "378a3e2c7ad15579ddd1c301584978a55d50f8a98ad55a3da311b72c5e546b9d", func := "loop.example/g03311/laws.FnPrefixOps", spec := "fnPrefixOps", recurses := true, apart := false }
def FnPrefixOpsSaid : Prop := fnPrefixOpsRow.holds Try.pinned (OpenSpec.ofChange fnPrefixOpsSpec)

/-- ITS FALSE NEIGHBOUR: 'it returns false'. Refute it at one input. -/
def fnPrefixOpsWrong : ChangeSpec := { name := "fnPrefixOps", fn := fun _ => fun
  | [d] => { results := [.lit (.bool false)], args := [d] }
  | _ => none }
def FnPrefixOpsWrongFalsely : Prop := fnPrefixOpsRow.holds Try.pinned (OpenSpec.ofChange fnPrefixOpsWrong)

/-- 'laws.FnDepthIsLevel': WHATEVER THE INPUT: true; the input reads as it did. -/
def fnDepthIsLevelSpec : ChangeSpec := { name := "fnDepthIsLevel", fn := fun _ => fun
  | [d] => { results := [.lit (.bool true)], args := [d] }
  | _ => none }
def fnDepthIsLevelRow : OpenClaim := { program := "ytlkjdhjeecogjaa", sum := "378a3e2c7ad15579ddd1c301584978a55d50f8a98ad55a3da311b72c5e546b9d", func := "loop.example/g03311/laws.FnDepthIsLevel", spec := "fnDepthIsLevel", recurses := true, apart := false }
def FnDepthIsLevelSaid : Prop := fnDepthIsLevelRow.holds Try.pinned (OpenSpec.ofChange fnDepthIsLevelSpec)

/-- ITS FALSE NEIGHBOUR: 'it returns false'. Refute it at one input. -/
def fnDepthIsLevelWrong : ChangeSpec := { name := "fnDepthIsLevel", fn := fun _ => fun
  | [d] => { results := [.lit (.bool false)], args := [d] }
  | _ => none }
def FnDepthIsLevelWrongFalsely : Prop := fnDepthIsLevelRow.holds Try.pinned (OpenSpec.ofChange fnDepthIsLevelWrong)

/- THE SECOND FORM. 'bulk': how many values and letters a reading holds, each counted each time it is reached (what is shared counts as often as it is met; a slice's spare places count too). A statement '..UptoSaid' is the law's where the arguments, and the package variables that the reading takes, are together of bulk at most 1048576: NARROWER than '..Said'. Prove '..Said' where nothing that the law and all that it calls make is longer than what came in: it says more and counts as full. Else prove '..UptoSaid'. A law counts once. -/
mutual
def uptoBulk {H : Type} : DataW H → Nat
  | .lit (.string bytes) => bytes.length + 1
  | .lit _ => 1
  | .nil => 1
  | .ptr d => uptoBulk d + 1
  | .slice elems spare => uptoBulkAll elems + uptoBulkAll spare + 1
  | .agg parts => uptoBulkAll parts + 1
  | .iface _ d => uptoBulk d + 1
  | .map entries => uptoBulkEntries entries + 1
  | .held _ => 1
def uptoBulkAll {H : Type} : List (DataW H) → Nat
  | [] => 0
  | d :: r => uptoBulk d + uptoBulkAll r
def uptoBulkEntries {H : Type} : List (Lit × DataW H) → Nat
  | [] => 0
  | x :: r => uptoBulkEntry x + uptoBulkEntries r
def uptoBulkEntry {H : Type} : Lit × DataW H → Nat
  | (.string bytes, d) => bytes.length + uptoBulk d + 1
  | (_, d) => uptoBulk d + 1
 end
def uptoSmall : (H : Type) → List (DataW H) → Bool := fun _ ds => decide (uptoBulkAll ds ≤ 1048576)
def OpenSpec.upto (s : _root_.Go.ChangeSpec) : _root_.Go.OpenSpec := { _root_.Go.OpenSpec.ofChange s with cond := some uptoSmall }

/-- 'laws.FnExactFlatStep', WHERE WHAT IT READS IS OF BULK AT MOST 1048576: true; the input reads as it did. -/
def fnExactFlatStepUptoRow : OpenClaim := { program := "ytlkjdhjeecogjaa", sum := "378a3e2c7ad15579ddd1c301584978a55d50f8a98ad55a3da311b72c5e546b9d", func := "loop.example/g03311/laws.FnExactFlatStep", spec := "fnExactFlatStep", unfollowed := true, recurses := true, apart := false, narrowed := true }
def FnExactFlatStepUptoSaid : Prop := fnExactFlatStepUptoRow.holds Try.pinned (OpenSpec.upto fnExactFlatStepSpec)

/-- 'laws.FnExactInstanceOf', WHERE WHAT IT READS IS OF BULK AT MOST 1048576: true; the input reads as it did. -/
def fnExactInstanceOfUptoRow : OpenClaim := { program := "ytlkjdhjeecogjaa", sum := "378a3e2c7ad15579ddd1c301584978a55d50f8a98ad55a3da311b72c5e546b9d", func := "loop.example/g03311/laws.FnExactInstanceOf", spec := "fnExactInstanceOf", unfollowed := true, recurses := true, apart := false, narrowed := true }
def FnExactInstanceOfUptoSaid : Prop := fnExactInstanceOfUptoRow.holds Try.pinned (OpenSpec.upto fnExactInstanceOfSpec)

/-- 'laws.FnExactFlatten', WHERE WHAT IT READS IS OF BULK AT MOST 1048576: true; the input reads as it did. -/
def fnExactFlattenUptoRow : OpenClaim := { program := "ytlkjdhjeecogjaa", sum := "378a3e2c7ad15579ddd1c301584978a55d50f8a98ad55a3da311b72c5e546b9d", func := "loop.example/g03311/laws.FnExactFlatten", spec := "fnExactFlatten", unfollowed := true, recurses := true, apart := false, narrowed := true }
def FnExactFlattenUptoSaid : Prop := fnExactFlattenUptoRow.holds Try.pinned (OpenSpec.upto fnExactFlattenSpec)

/-- 'laws.FnPrefixOps', WHERE WHAT IT READS IS OF BULK AT MOST 1048576: true; the input reads as it did. -/
def fnPrefixOpsUptoRow : OpenClaim := { program := "ytlkjdhjeecogjaa", sum := "378a3e2c7ad15579ddd1c301584978a55d50f8a98ad55a3da311b72c5e546b9d", func := "loop.example/g03311/laws.FnPrefixOps", spec := "fnPrefixOps", recurses := true, apart := false, narrowed := true }
def FnPrefixOpsUptoSaid : Prop := fnPrefixOpsUptoRow.holds Try.pinned (OpenSpec.upto fnPrefixOpsSpec)

/-- 'laws.FnDepthIsLevel', WHERE WHAT IT READS IS OF BULK AT MOST 1048576: true; the input reads as it did. -/
def fnDepthIsLevelUptoRow : OpenClaim := { program := "ytlkjdhjeecogjaa", sum := "378a3e2c7ad15579ddd1c301584978a55d50f8a98ad55a3da311b72c5e546b9d", func := "loop.example/g03311/laws.FnDepthIsLevel", spec := "fnDepthIsLevel", recurses := true, apart := false, narrowed := true }
def FnDepthIsLevelUptoSaid : Prop := fnDepthIsLevelUptoRow.holds Try.pinned (OpenSpec.upto fnDepthIsLevelSpec)

end Rows
end Go.Proofs.Ytlkjdhjeecogjaa
