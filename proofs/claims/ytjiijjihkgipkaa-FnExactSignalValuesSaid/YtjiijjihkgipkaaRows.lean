/-
  No cell of these rows narrows 'for every input' (looked for: loops, veiled, ifaces, maps, wideKeys, modest, calm, conditions, laid).
  DERIVED. THE GIVEN ROWS OF THIS SEAT. 12 by the template 'for every input the law returns true; each argument reads behind the call as it read before'; 0 by the template 'total and deterministic' (their statements: YtjiijjihkgipkaaTotals.lean).
  GIVEN WITH THE SEED: the statements are not yours to turn. If you find one false, say at which input.
  Laid BY PROGRAM, IN A SANDBOX (cutbox-rows.mjs): the forced cells as the released guide's own fill.sh prints them over the translation a78fa402845ffadb… (all of the seat's roots in one cut). By AI agents, Wed Nov 11 2026. No macro, syntax, notation, axiom, sorry.
-/
import Derived.Test.YtjiijjihkgipkaaChecked
import GoSem.Claim
import GoSem.ClaimJoined
import GoSem.ClaimMapViews
import Derived.JoinedTies
import Derived.KernelRfl
namespace Go.Proofs.Ytjiijjihkgipkaa
/- THE CELL 'sum', in the pinned program and in every row, IS THE sha256 OF THE DUMP (.gsa) THAT YtjiijjihkgipkaaProg.lean LOADS. Nothing in Lean hashes anything: it is a label: what it is worth is what the hold of that sum in a sandbox is worth. -/
noncomputable def Try.pinned : Pinned := { name := "ytjiijjihkgipkaa", sum := "a78fa402845ffadbc03ab7b0551061c9c8eb4b486157a52928c3af65a6c8771b", checked := Try.checked }
namespace Rows
def none {H : Type} : Left H := { results := [], args := [] }

/-- 'laws.FnExactDriverCount': WHATEVER THE INPUT: true; the input reads as it did. -/
def fnExactDriverCountSpec : ChangeSpec := { name := "fnExactDriverCount", fn := fun _ => fun
  | [d1, d2, d3] => { results := [.lit (.bool true)], args := [d1, d2, d3] }
  | _ => none }
def fnExactDriverCountRow : OpenClaim := { program := "ytjiijjihkgipkaa", sum := "a78fa402845ffadbc03ab7b0551061c9c8eb4b486157a52928c3af65a6c8771b", func := "loop.example/g03311/laws.FnExactDriverCount", spec := "fnExactDriverCount", unfollowed := true, recurses := true, apart := false }
def FnExactDriverCountSaid : Prop := fnExactDriverCountRow.holds Try.pinned (OpenSpec.ofChange fnExactDriverCountSpec)

/-- ITS FALSE NEIGHBOUR: 'it returns false'. Refute it at one input. -/
def fnExactDriverCountWrong : ChangeSpec := { name := "fnExactDriverCount", fn := fun _ => fun
  | [d1, d2, d3] => { results := [.lit (.bool false)], args := [d1, d2, d3] }
  | _ => none }
def FnExactDriverCountWrongFalsely : Prop := fnExactDriverCountRow.holds Try.pinned (OpenSpec.ofChange fnExactDriverCountWrong)

/-- 'laws.FnExactModuleOk': WHATEVER THE INPUT: true; the input reads as it did. -/
def fnExactModuleOkSpec : ChangeSpec := { name := "fnExactModuleOk", fn := fun _ => fun
  | [d1, d2] => { results := [.lit (.bool true)], args := [d1, d2] }
  | _ => none }
def fnExactModuleOkRow : OpenClaim := { program := "ytjiijjihkgipkaa", sum := "a78fa402845ffadbc03ab7b0551061c9c8eb4b486157a52928c3af65a6c8771b", func := "loop.example/g03311/laws.FnExactModuleOk", spec := "fnExactModuleOk", unfollowed := true, recurses := true, apart := false }
def FnExactModuleOkSaid : Prop := fnExactModuleOkRow.holds Try.pinned (OpenSpec.ofChange fnExactModuleOkSpec)

/-- ITS FALSE NEIGHBOUR: 'it returns false'. Refute it at one input. -/
def fnExactModuleOkWrong : ChangeSpec := { name := "fnExactModuleOk", fn := fun _ => fun
  | [d1, d2] => { results := [.lit (.bool false)], args := [d1, d2] }
  | _ => none }
def FnExactModuleOkWrongFalsely : Prop := fnExactModuleOkRow.holds Try.pinned (OpenSpec.ofChange fnExactModuleOkWrong)

/-- 'laws.FnExactDesignOk': WHATEVER THE INPUT: true; the input reads as it did. -/
def fnExactDesignOkSpec : ChangeSpec := { name := "fnExactDesignOk", fn := fun _ => fun
  | [d] => { results := [.lit (.bool true)], args := [d] }
  | _ => none }
def fnExactDesignOkRow : OpenClaim := { program := "ytjiijjihkgipkaa", sum := "a78fa402845ffadbc03ab7b0551061c9c8eb4b486157a52928c3af65a6c8771b", func := "loop.example/g03311/laws.FnExactDesignOk", spec := "fnExactDesignOk", unfollowed := true, recurses := true, apart := false }
def FnExactDesignOkSaid : Prop := fnExactDesignOkRow.holds Try.pinned (OpenSpec.ofChange fnExactDesignOkSpec)

/-- ITS FALSE NEIGHBOUR: 'it returns false'. Refute it at one input. -/
def fnExactDesignOkWrong : ChangeSpec := { name := "fnExactDesignOk", fn := fun _ => fun
  | [d] => { results := [.lit (.bool false)], args := [d] }
  | _ => none }
def FnExactDesignOkWrongFalsely : Prop := fnExactDesignOkRow.holds Try.pinned (OpenSpec.ofChange fnExactDesignOkWrong)

/-- 'laws.FnExactEvalOrder': WHATEVER THE INPUT: true; the input reads as it did. -/
def fnExactEvalOrderSpec : ChangeSpec := { name := "fnExactEvalOrder", fn := fun _ => fun
  | [d] => { results := [.lit (.bool true)], args := [d] }
  | _ => none }
def fnExactEvalOrderRow : OpenClaim := { program := "ytjiijjihkgipkaa", sum := "a78fa402845ffadbc03ab7b0551061c9c8eb4b486157a52928c3af65a6c8771b", func := "loop.example/g03311/laws.FnExactEvalOrder", spec := "fnExactEvalOrder", unfollowed := true, recurses := true, apart := false }
def FnExactEvalOrderSaid : Prop := fnExactEvalOrderRow.holds Try.pinned (OpenSpec.ofChange fnExactEvalOrderSpec)

/-- ITS FALSE NEIGHBOUR: 'it returns false'. Refute it at one input. -/
def fnExactEvalOrderWrong : ChangeSpec := { name := "fnExactEvalOrder", fn := fun _ => fun
  | [d] => { results := [.lit (.bool false)], args := [d] }
  | _ => none }
def FnExactEvalOrderWrongFalsely : Prop := fnExactEvalOrderRow.holds Try.pinned (OpenSpec.ofChange fnExactEvalOrderWrong)

/-- 'laws.FnExactFlatOk': WHATEVER THE INPUT: true; the input reads as it did. -/
def fnExactFlatOkSpec : ChangeSpec := { name := "fnExactFlatOk", fn := fun _ => fun
  | [d] => { results := [.lit (.bool true)], args := [d] }
  | _ => none }
def fnExactFlatOkRow : OpenClaim := { program := "ytjiijjihkgipkaa", sum := "a78fa402845ffadbc03ab7b0551061c9c8eb4b486157a52928c3af65a6c8771b", func := "loop.example/g03311/laws.FnExactFlatOk", spec := "fnExactFlatOk", unfollowed := true, recurses := true, apart := false }
def FnExactFlatOkSaid : Prop := fnExactFlatOkRow.holds Try.pinned (OpenSpec.ofChange fnExactFlatOkSpec)

/-- ITS FALSE NEIGHBOUR: 'it returns false'. Refute it at one input. -/
def fnExactFlatOkWrong : ChangeSpec := { name := "fnExactFlatOk", fn := fun _ => fun
  | [d] => { results := [.lit (.bool false)], args := [d] }
  | _ => none }
def FnExactFlatOkWrongFalsely : Prop := fnExactFlatOkRow.holds Try.pinned (OpenSpec.ofChange fnExactFlatOkWrong)

/-- 'laws.FnExactInstanceOf': WHATEVER THE INPUT: true; the input reads as it did. -/
def fnExactInstanceOfSpec : ChangeSpec := { name := "fnExactInstanceOf", fn := fun _ => fun
  | [d1, d2] => { results := [.lit (.bool true)], args := [d1, d2] }
  | _ => none }
def fnExactInstanceOfRow : OpenClaim := { program := "ytjiijjihkgipkaa", sum := "a78fa402845ffadbc03ab7b0551061c9c8eb4b486157a52928c3af65a6c8771b", func := "loop.example/g03311/laws.FnExactInstanceOf", spec := "fnExactInstanceOf", unfollowed := true, recurses := true, apart := false }
def FnExactInstanceOfSaid : Prop := fnExactInstanceOfRow.holds Try.pinned (OpenSpec.ofChange fnExactInstanceOfSpec)

/-- ITS FALSE NEIGHBOUR: 'it returns false'. Refute it at one input. -/
def fnExactInstanceOfWrong : ChangeSpec := { name := "fnExactInstanceOf", fn := fun _ => fun
  | [d1, d2] => { results := [.lit (.bool false)], args := [d1, d2] }
  | _ => none }
def FnExactInstanceOfWrongFalsely : Prop := fnExactInstanceOfRow.holds Try.pinned (OpenSpec.ofChange fnExactInstanceOfWrong)

/-- 'laws.FnExactFlatten': WHATEVER THE INPUT: true; the input reads as it did. -/
def fnExactFlattenSpec : ChangeSpec := { name := "fnExactFlatten", fn := fun _ => fun
  | [d1, d2] => { results := [.lit (.bool true)], args := [d1, d2] }
  | _ => none }
def fnExactFlattenRow : OpenClaim := { program := "ytjiijjihkgipkaa", sum := "a78fa402845ffadbc03ab7b0551061c9c8eb4b486157a52928c3af65a6c8771b", func := "loop.example/g03311/laws.FnExactFlatten", spec := "fnExactFlatten", unfollowed := true, recurses := true, apart := false }
def FnExactFlattenSaid : Prop := fnExactFlattenRow.holds Try.pinned (OpenSpec.ofChange fnExactFlattenSpec)

/-- ITS FALSE NEIGHBOUR: 'it returns false'. Refute it at one input. -/
def fnExactFlattenWrong : ChangeSpec := { name := "fnExactFlatten", fn := fun _ => fun
  | [d1, d2] => { results := [.lit (.bool false)], args := [d1, d2] }
  | _ => none }
def FnExactFlattenWrongFalsely : Prop := fnExactFlattenRow.holds Try.pinned (OpenSpec.ofChange fnExactFlattenWrong)

/-- 'laws.FnExactWordStateOk': WHATEVER THE INPUT: true; the input reads as it did. -/
def fnExactWordStateOkSpec : ChangeSpec := { name := "fnExactWordStateOk", fn := fun _ => fun
  | [d1, d2] => { results := [.lit (.bool true)], args := [d1, d2] }
  | _ => none }
def fnExactWordStateOkRow : OpenClaim := { program := "ytjiijjihkgipkaa", sum := "a78fa402845ffadbc03ab7b0551061c9c8eb4b486157a52928c3af65a6c8771b", func := "loop.example/g03311/laws.FnExactWordStateOk", spec := "fnExactWordStateOk", unfollowed := true, recurses := true, apart := false }
def FnExactWordStateOkSaid : Prop := fnExactWordStateOkRow.holds Try.pinned (OpenSpec.ofChange fnExactWordStateOkSpec)

/-- ITS FALSE NEIGHBOUR: 'it returns false'. Refute it at one input. -/
def fnExactWordStateOkWrong : ChangeSpec := { name := "fnExactWordStateOk", fn := fun _ => fun
  | [d1, d2] => { results := [.lit (.bool false)], args := [d1, d2] }
  | _ => none }
def FnExactWordStateOkWrongFalsely : Prop := fnExactWordStateOkRow.holds Try.pinned (OpenSpec.ofChange fnExactWordStateOkWrong)

/-- 'laws.FnExactFlatStart': WHATEVER THE INPUT: true; the input reads as it did. -/
def fnExactFlatStartSpec : ChangeSpec := { name := "fnExactFlatStart", fn := fun _ => fun
  | [d] => { results := [.lit (.bool true)], args := [d] }
  | _ => none }
def fnExactFlatStartRow : OpenClaim := { program := "ytjiijjihkgipkaa", sum := "a78fa402845ffadbc03ab7b0551061c9c8eb4b486157a52928c3af65a6c8771b", func := "loop.example/g03311/laws.FnExactFlatStart", spec := "fnExactFlatStart", unfollowed := true, recurses := true, apart := false }
def FnExactFlatStartSaid : Prop := fnExactFlatStartRow.holds Try.pinned (OpenSpec.ofChange fnExactFlatStartSpec)

/-- ITS FALSE NEIGHBOUR: 'it returns false'. Refute it at one input. -/
def fnExactFlatStartWrong : ChangeSpec := { name := "fnExactFlatStart", fn := fun _ => fun
  | [d] => { results := [.lit (.bool false)], args := [d] }
  | _ => none }
def FnExactFlatStartWrongFalsely : Prop := fnExactFlatStartRow.holds Try.pinned (OpenSpec.ofChange fnExactFlatStartWrong)

/-- 'laws.FnExactSignalValues': WHATEVER THE INPUT: true; the input reads as it did. -/
def fnExactSignalValuesSpec : ChangeSpec := { name := "fnExactSignalValues", fn := fun _ => fun
  | [d1, d2, d3] => { results := [.lit (.bool true)], args := [d1, d2, d3] }
  | _ => none }
def fnExactSignalValuesRow : OpenClaim := { program := "ytjiijjihkgipkaa", sum := "a78fa402845ffadbc03ab7b0551061c9c8eb4b486157a52928c3af65a6c8771b", func := "loop.example/g03311/laws.FnExactSignalValues", spec := "fnExactSignalValues", unfollowed := true, recurses := true, apart := false }
def FnExactSignalValuesSaid : Prop := fnExactSignalValuesRow.holds Try.pinned (OpenSpec.ofChange fnExactSignalValuesSpec)

/-- ITS FALSE NEIGHBOUR: 'it returns false'. Refute it at one input. -/
def fnExactSignalValuesWrong : ChangeSpec := { name := "fnExactSignalValues", fn := fun _ => fun
  | [d1, d2, d3] => { results := [.lit (.bool false)], args := [d1, d2, d3] }
  | _ => none }
def FnExactSignalValuesWrongFalsely : Prop := fnExactSignalValuesRow.holds Try.pinned (OpenSpec.ofChange fnExactSignalValuesWrong)

/-- 'laws.FnExactFlatStep': WHATEVER THE INPUT: true; the input reads as it did. -/
def fnExactFlatStepSpec : ChangeSpec := { name := "fnExactFlatStep", fn := fun _ => fun
  | [d1, d2, d3] => { results := [.lit (.bool true)], args := [d1, d2, d3] }
  | _ => none }
def fnExactFlatStepRow : OpenClaim := { program := "ytjiijjihkgipkaa", sum := "a78fa402845ffadbc03ab7b0551061c9c8eb4b486157a52928c3af65a6c8771b", func := "loop.example/g03311/laws.FnExactFlatStep", spec := "fnExactFlatStep", unfollowed := true, recurses := true, apart := false }
def FnExactFlatStepSaid : Prop := fnExactFlatStepRow.holds Try.pinned (OpenSpec.ofChange fnExactFlatStepSpec)

/-- ITS FALSE NEIGHBOUR: 'it returns false'. Refute it at one input. -/
def fnExactFlatStepWrong : ChangeSpec := { name := "fnExactFlatStep", fn := fun _ => fun
  | [d1, d2, d3] => { results := [.lit (.bool false)], args := [d1, d2, d3] }
  | _ => none }
def FnExactFlatStepWrongFalsely : Prop := fnExactFlatStepRow.holds Try.pinned (OpenSpec.ofChange fnExactFlatStepWrong)

/-- 'laws.FnExactFlatTrace': WHATEVER THE INPUT: true; the input reads as it did. -/
def fnExactFlatTraceSpec : ChangeSpec := { name := "fnExactFlatTrace", fn := fun _ => fun
  | [d1, d2] => { results := [.lit (.bool true)], args := [d1, d2] }
  | _ => none }
def fnExactFlatTraceRow : OpenClaim := { program := "ytjiijjihkgipkaa", sum := "a78fa402845ffadbc03ab7b0551061c9c8eb4b486157a52928c3af65a6c8771b", func := "loop.example/g03311/laws.FnExactFlatTrace", spec := "fnExactFlatTrace", unfollowed := true, recurses := true, apart := false }
def FnExactFlatTraceSaid : Prop := fnExactFlatTraceRow.holds Try.pinned (OpenSpec.ofChange fnExactFlatTraceSpec)

/-- ITS FALSE NEIGHBOUR: 'it returns false'. Refute it at one input. -/
def fnExactFlatTraceWrong : ChangeSpec := { name := "fnExactFlatTrace", fn := fun _ => fun
  | [d1, d2] => { results := [.lit (.bool false)], args := [d1, d2] }
  | _ => none }
def FnExactFlatTraceWrongFalsely : Prop := fnExactFlatTraceRow.holds Try.pinned (OpenSpec.ofChange fnExactFlatTraceWrong)

/- THE SECOND FORM. 'bulk': how many values and letters a reading holds, each counted each time it is reached (what is shared counts as often as it is met; a slice's spare places count too). A statement '..UptoSaid' is the law's where the arguments, and the package variables that the reading takes, are together of bulk at most 1048576: NARROWER than '..Said'. Prove '..Said' where nothing that the law and all that it calls make is longer than what came in: it says more and counts as full. Else prove '..UptoSaid'. A law counts once. -/
mutual
def uptoBulk {H : Type} : DataW H → Nat
  | .lit (.string bytes) => bytes.length + 1
  | .lit _ => 1
  | .nil => 1
  | .ptr d => uptoBulk d + 1
  | .slice elems spare => uptoBulkAll elems + uptoBulkAll spare + 1
  | .agg parts => uptoBulkAll parts + 1
  | .iface _ d => uptoBulk d + 1
  | .map entries => uptoBulkEntries entries + 1
  | .held _ => 1
def uptoBulkAll {H : Type} : List (DataW H) → Nat
  | [] => 0
  | d :: r => uptoBulk d + uptoBulkAll r
def uptoBulkEntries {H : Type} : List (Lit × DataW H) → Nat
  | [] => 0
  | x :: r => uptoBulkEntry x + uptoBulkEntries r
def uptoBulkEntry {H : Type} : Lit × DataW H → Nat
  | (.string bytes, d) => bytes.length + uptoBulk d + 1
  | (_, d) => uptoBulk d + 1
 end
def uptoSmall : (H : Type) → List (DataW H) → Bool := fun _ ds => decide (uptoBulkAll ds ≤ 1048576)
def OpenSpec.upto (s : _root_.Go.ChangeSpec) : _root_.Go.OpenSpec := { _root_.Go.OpenSpec.ofChange s with cond := some uptoSmall }

/-- 'laws.FnExactDriverCount', WHERE WHAT IT READS IS OF BULK AT MOST 1048576: true; the input reads as it did. -/
def fnExactDriverCountUptoRow : OpenClaim := { program := "ytjiijjihkgipkaa", sum := "a78fa402845ffadbc03ab7b0551061c9c8eb4b486157a52928c3af65a6c8771b", func := "loop.example/g03311/laws.FnExactDriverCount", spec := "fnExactDriverCount", unfollowed := true, recurses := true, apart := false, narrowed := true }
def FnExactDriverCountUptoSaid : Prop := fnExactDriverCountUptoRow.holds Try.pinned (OpenSpec.upto fnExactDriverCountSpec)

/-- 'laws.FnExactModuleOk', WHERE WHAT IT READS IS OF BULK AT MOST 1048576: true; the input reads as it did. -/
def fnExactModuleOkUptoRow : OpenClaim := { program := "ytjiijjihkgipkaa", sum := "a78fa402845ffadbc03ab7b0551061c9c8eb4b486157a52928c3af65a6c8771b", func := "loop.example/g03311/laws.FnExactModuleOk", spec := "fnExactModuleOk", unfollowed := true, recurses := true, apart := false, narrowed := true }
def FnExactModuleOkUptoSaid : Prop := fnExactModuleOkUptoRow.holds Try.pinned (OpenSpec.upto fnExactModuleOkSpec)

/-- 'laws.FnExactDesignOk', WHERE WHAT IT READS IS OF BULK AT MOST 1048576: true; the input reads as it did. -/
def fnExactDesignOkUptoRow : OpenClaim := { program := "ytjiijjihkgipkaa", sum := "a78fa402845ffadbc03ab7b0551061c9c8eb4b486157a52928c3af65a6c8771b", func := "loop.example/g03311/laws.FnExactDesignOk", spec := "fnExactDesignOk", unfollowed := true, recurses := true, apart := false, narrowed := true }
def FnExactDesignOkUptoSaid : Prop := fnExactDesignOkUptoRow.holds Try.pinned (OpenSpec.upto fnExactDesignOkSpec)

/-- 'laws.FnExactEvalOrder', WHERE WHAT IT READS IS OF BULK AT MOST 1048576: true; the input reads as it did. -/
def fnExactEvalOrderUptoRow : OpenClaim := { program := "ytjiijjihkgipkaa", sum := "a78fa402845ffadbc03ab7b0551061c9c8eb4b486157a52928c3af65a6c8771b", func := "loop.example/g03311/laws.FnExactEvalOrder", spec := "fnExactEvalOrder", unfollowed := true, recurses := true, apart := false, narrowed := true }
def FnExactEvalOrderUptoSaid : Prop := fnExactEvalOrderUptoRow.holds Try.pinned (OpenSpec.upto fnExactEvalOrderSpec)

/-- 'laws.FnExactFlatOk', WHERE WHAT IT READS IS OF BULK AT MOST 1048576: true; the input reads as it did. -/
def fnExactFlatOkUptoRow : OpenClaim := { program := "ytjiijjihkgipkaa", sum := "a78fa402845ffadbc03ab7b0551061c9c8eb4b486157a52928c3af65a6c8771b", func := "loop.example/g03311/laws.FnExactFlatOk", spec := "fnExactFlatOk", unfollowed := true, recurses := true, apart := false, narrowed := true }
def FnExactFlatOkUptoSaid : Prop := fnExactFlatOkUptoRow.holds Try.pinned (OpenSpec.upto fnExactFlatOkSpec)

/-- 'laws.FnExactInstanceOf', WHERE WHAT IT READS IS OF BULK AT MOST 1048576: true; the input reads as it did. -/
def fnExactInstanceOfUptoRow : OpenClaim := { program := "ytjiijjihkgipkaa", sum := "a78fa402845ffadbc03ab7b0551061c9c8eb4b486157a52928c3af65a6c8771b", func := "loop.example/g03311/laws.FnExactInstanceOf", spec := "fnExactInstanceOf", unfollowed := true, recurses := true, apart := false, narrowed := true }
def FnExactInstanceOfUptoSaid : Prop := fnExactInstanceOfUptoRow.holds Try.pinned (OpenSpec.upto fnExactInstanceOfSpec)

/-- 'laws.FnExactFlatten', WHERE WHAT IT READS IS OF BULK AT MOST 1048576: true; the input reads as it did. -/
def fnExactFlattenUptoRow : OpenClaim := { program := "ytjiijjihkgipkaa", sum := "a78fa402845ffadbc03ab7b0551061c9c8eb4b486157a52928c3af65a6c8771b", func := "loop.example/g03311/laws.FnExactFlatten", spec := "fnExactFlatten", unfollowed := true, recurses := true, apart := false, narrowed := true }
def FnExactFlattenUptoSaid : Prop := fnExactFlattenUptoRow.holds Try.pinned (OpenSpec.upto fnExactFlattenSpec)

/-- 'laws.FnExactWordStateOk', WHERE WHAT IT READS IS OF BULK AT MOST 1048576: true; the input reads as it did. -/
def fnExactWordStateOkUptoRow : OpenClaim := { program := "ytjiijjihkgipkaa", sum := "a78fa402845ffadbc03ab7b0551061c9c8eb4b486157a52928c3af65a6c8771b", func := "loop.example/g03311/laws.FnExactWordStateOk", spec := "fnExactWordStateOk", unfollowed := true, recurses := true, apart := false, narrowed := true }
def FnExactWordStateOkUptoSaid : Prop := fnExactWordStateOkUptoRow.holds Try.pinned (OpenSpec.upto fnExactWordStateOkSpec)

/-- 'laws.FnExactFlatStart', WHERE WHAT IT READS IS OF BULK AT MOST 1048576: true; the input reads as it did. -/
def fnExactFlatStartUptoRow : OpenClaim := { program := "ytjiijjihkgipkaa", sum := "a78fa402845ffadbc03ab7b0551061c9c8eb4b486157a52928c3af65a6c8771b", func := "loop.example/g03311/laws.FnExactFlatStart", spec := "fnExactFlatStart", unfollowed := true, recurses := true, apart := false, narrowed := true }
def FnExactFlatStartUptoSaid : Prop := fnExactFlatStartUptoRow.holds Try.pinned (OpenSpec.upto fnExactFlatStartSpec)

/-- 'laws.FnExactSignalValues', WHERE WHAT IT READS IS OF BULK AT MOST 1048576: true; the input reads as it did. -/
def fnExactSignalValuesUptoRow : OpenClaim := { program := "ytjiijjihkgipkaa", sum := "a78fa402845ffadbc03ab7b0551061c9c8eb4b486157a52928c3af65a6c8771b", func := "loop.example/g03311/laws.FnExactSignalValues", spec := "fnExactSignalValues", unfollowed := true, recurses := true, apart := false, narrowed := true }
def FnExactSignalValuesUptoSaid : Prop := fnExactSignalValuesUptoRow.holds Try.pinned (OpenSpec.upto fnExactSignalValuesSpec)

/-- 'laws.FnExactFlatStep', WHERE WHAT IT READS IS OF BULK AT MOST 1048576: true; the input reads as it did. -/
def fnExactFlatStepUptoRow : OpenClaim := { program := "ytjiijjihkgipkaa", sum := "a78fa402845ffadbc03ab7b0551061c9c8eb4b486157a52928c3af65a6c8771b", func := "loop.example/g03311/laws.FnExactFlatStep", spec := "fnExactFlatStep", unfollowed := true, recurses := true, apart := false, narrowed := true }
def FnExactFlatStepUptoSaid : Prop := fnExactFlatStepUptoRow.holds Try.pinned (OpenSpec.upto fnExactFlatStepSpec)

/-- 'laws.FnExactFlatTrace', WHERE WHAT IT READS IS OF BULK AT MOST 1048576: true; the input reads as it did. -/
def fnExactFlatTraceUptoRow : OpenClaim := { program := "ytjiijjihkgipkaa", sum := "a78fa402845ffadbc03ab7b0551061c9c8eb4b486157a52928c3af65a6c8771b", func := "loop.example/g03311/laws.FnExactFlatTrace", spec := "fnExactFlatTrace", unfollowed := true, recurses := true, apart := false, narrowed := true }
def FnExactFlatTraceUptoSaid : Prop := fnExactFlatTraceUptoRow.holds Try.pinned (OpenSpec.upto fnExactFlatTraceSpec)

end Rows
end Go.Proofs.Ytjiijjihkgipkaa
