/-
  No cell of these rows narrows 'for every input' (looked for: loops, veiled, ifaces, maps, wideKeys, modest, calm, conditions, laid).
  DERIVED. THE GIVEN ROWS OF THIS SEAT. 9 by the template 'for every input the law returns true; each argument reads behind the call as it read before'; 0 by the template 'total and deterministic' (their statements: YtbkgjgpoohlieaaTotals.lean).
  GIVEN WITH THE SEED: the statements are not yours to turn. If you find one false, say at which input.
  Laid BY PROGRAM, IN A SANDBOX (cutbox-rows.mjs): the forced cells as the released guide's own fill.sh prints them over the translation 4a7de43be6dd2944… (all of the seat's roots in one cut). By AI agents, Wed Nov 11 2026. No macro, syntax, notation, axiom, sorry.
-/
import Derived.Test.YtbkgjgpoohlieaaChecked
import GoSem.Claim
import GoSem.ClaimJoined
import GoSem.ClaimMapViews
import Derived.JoinedTies
import Derived.KernelRfl
namespace Go.Proofs.Ytbkgjgpoohlieaa
/- THE CELL 'sum', in the pinned program and in every row, IS THE sha256 OF THE DUMP (.gsa) THAT YtbkgjgpoohlieaaProg.lean LOADS. Nothing in Lean hashes anything: it is a label: what it is worth is what the hold of that sum in a sandbox is worth. -/
noncomputable def Try.pinned : Pinned := { name := "ytbkgjgpoohlieaa", sum := "4a7de43be6dd294479d00941a880fc64ead0385917fc4afbed8ba38f3d0727dc", checked := Try.checked }
namespace Rows
def none {H : Type} : Left H := { results := [], args := [] }

/-- 'laws.FnFieldsAgain': WHATEVER THE INPUT: true; the input reads as it did. -/
def fnFieldsAgainSpec : ChangeSpec := { name := "fnFieldsAgain", fn := fun _ => fun
  | [d] => { results := [.lit (.bool true)], args := [d] }
  | _ => none }
def fnFieldsAgainRow : OpenClaim := { program := "ytbkgjgpoohlieaa", sum := "4a7de43be6dd294479d00941a880fc64ead0385917fc4afbed8ba38f3d0727dc", func := "loop.example/g03311/laws.FnFieldsAgain", spec := "fnFieldsAgain", apart := false }
def FnFieldsAgainSaid : Prop := fnFieldsAgainRow.holds Try.pinned (OpenSpec.ofChange fnFieldsAgainSpec)

/-- ITS FALSE NEIGHBOUR: 'it returns false'. Refute it at one input. -/
def fnFieldsAgainWrong : ChangeSpec := { name := "fnFieldsAgain", fn := fun _ => fun
  | [d] => { results := [.lit (.bool false)], args := [d] }
  | _ => none }
def FnFieldsAgainWrongFalsely : Prop := fnFieldsAgainRow.holds Try.pinned (OpenSpec.ofChange fnFieldsAgainWrong)

/-- 'laws.FnShannon': WHATEVER THE INPUT: true; the input reads as it did. -/
def fnShannonSpec : ChangeSpec := { name := "fnShannon", fn := fun _ => fun
  | [d] => { results := [.lit (.bool true)], args := [d] }
  | _ => none }
def fnShannonRow : OpenClaim := { program := "ytbkgjgpoohlieaa", sum := "4a7de43be6dd294479d00941a880fc64ead0385917fc4afbed8ba38f3d0727dc", func := "loop.example/g03311/laws.FnShannon", spec := "fnShannon", unfollowed := true, recurses := true, apart := false }
def FnShannonSaid : Prop := fnShannonRow.holds Try.pinned (OpenSpec.ofChange fnShannonSpec)

/-- ITS FALSE NEIGHBOUR: 'it returns false'. Refute it at one input. -/
def fnShannonWrong : ChangeSpec := { name := "fnShannon", fn := fun _ => fun
  | [d] => { results := [.lit (.bool false)], args := [d] }
  | _ => none }
def FnShannonWrongFalsely : Prop := fnShannonRow.holds Try.pinned (OpenSpec.ofChange fnShannonWrong)

/-- 'laws.FnShrunk': WHATEVER THE INPUT: true; the input reads as it did. -/
def fnShrunkSpec : ChangeSpec := { name := "fnShrunk", fn := fun _ => fun
  | [d] => { results := [.lit (.bool true)], args := [d] }
  | _ => none }
def fnShrunkRow : OpenClaim := { program := "ytbkgjgpoohlieaa", sum := "4a7de43be6dd294479d00941a880fc64ead0385917fc4afbed8ba38f3d0727dc", func := "loop.example/g03311/laws.FnShrunk", spec := "fnShrunk", unfollowed := true, recurses := true, apart := false }
def FnShrunkSaid : Prop := fnShrunkRow.holds Try.pinned (OpenSpec.ofChange fnShrunkSpec)

/-- ITS FALSE NEIGHBOUR: 'it returns false'. Refute it at one input. -/
def fnShrunkWrong : ChangeSpec := { name := "fnShrunk", fn := fun _ => fun
  | [d] => { results := [.lit (.bool false)], args := [d] }
  | _ => none }
def FnShrunkWrongFalsely : Prop := fnShrunkRow.holds Try.pinned (OpenSpec.ofChange fnShrunkWrong)

/-- 'laws.FnExactCoverLiterals': WHATEVER THE INPUT: true; the input reads as it did. -/
def fnExactCoverLiteralsSpec : ChangeSpec := { name := "fnExactCoverLiterals", fn := fun _ => fun
  | [d1, d2] => { results := [.lit (.bool true)], args := [d1, d2] }
  | _ => none }
def fnExactCoverLiteralsRow : OpenClaim := { program := "ytbkgjgpoohlieaa", sum := "4a7de43be6dd294479d00941a880fc64ead0385917fc4afbed8ba38f3d0727dc", func := "loop.example/g03311/laws.FnExactCoverLiterals", spec := "fnExactCoverLiterals", apart := false }
def FnExactCoverLiteralsSaid : Prop := fnExactCoverLiteralsRow.holds Try.pinned (OpenSpec.ofChange fnExactCoverLiteralsSpec)

/-- ITS FALSE NEIGHBOUR: 'it returns false'. Refute it at one input. -/
def fnExactCoverLiteralsWrong : ChangeSpec := { name := "fnExactCoverLiterals", fn := fun _ => fun
  | [d1, d2] => { results := [.lit (.bool false)], args := [d1, d2] }
  | _ => none }
def FnExactCoverLiteralsWrongFalsely : Prop := fnExactCoverLiteralsRow.holds Try.pinned (OpenSpec.ofChange fnExactCoverLiteralsWrong)

/-- 'laws.FnExactCoverTable': WHATEVER THE INPUT: true; the input reads as it did. -/
def fnExactCoverTableSpec : ChangeSpec := { name := "fnExactCoverTable", fn := fun _ => fun
  | [d1, d2] => { results := [.lit (.bool true)], args := [d1, d2] }
  | _ => none }
def fnExactCoverTableRow : OpenClaim := { program := "ytbkgjgpoohlieaa", sum := "4a7de43be6dd294479d00941a880fc64ead0385917fc4afbed8ba38f3d0727dc", func := "loop.example/g03311/laws.FnExactCoverTable", spec := "fnExactCoverTable", unfollowed := true, recurses := true, apart := false }
def FnExactCoverTableSaid : Prop := fnExactCoverTableRow.holds Try.pinned (OpenSpec.ofChange fnExactCoverTableSpec)

/-- ITS FALSE NEIGHBOUR: 'it returns false'. Refute it at one input. -/
def fnExactCoverTableWrong : ChangeSpec := { name := "fnExactCoverTable", fn := fun _ => fun
  | [d1, d2] => { results := [.lit (.bool false)], args := [d1, d2] }
  | _ => none }
def FnExactCoverTableWrongFalsely : Prop := fnExactCoverTableRow.holds Try.pinned (OpenSpec.ofChange fnExactCoverTableWrong)

/-- 'laws.FnExactPrimeCubes': WHATEVER THE INPUT: true; the input reads as it did. -/
def fnExactPrimeCubesSpec : ChangeSpec := { name := "fnExactPrimeCubes", fn := fun _ => fun
  | [d] => { results := [.lit (.bool true)], args := [d] }
  | _ => none }
def fnExactPrimeCubesRow : OpenClaim := { program := "ytbkgjgpoohlieaa", sum := "4a7de43be6dd294479d00941a880fc64ead0385917fc4afbed8ba38f3d0727dc", func := "loop.example/g03311/laws.FnExactPrimeCubes", spec := "fnExactPrimeCubes", apart := false }
def FnExactPrimeCubesSaid : Prop := fnExactPrimeCubesRow.holds Try.pinned (OpenSpec.ofChange fnExactPrimeCubesSpec)

/-- ITS FALSE NEIGHBOUR: 'it returns false'. Refute it at one input. -/
def fnExactPrimeCubesWrong : ChangeSpec := { name := "fnExactPrimeCubes", fn := fun _ => fun
  | [d] => { results := [.lit (.bool false)], args := [d] }
  | _ => none }
def FnExactPrimeCubesWrongFalsely : Prop := fnExactPrimeCubesRow.holds Try.pinned (OpenSpec.ofChange fnExactPrimeCubesWrong)

/-- 'laws.FnExactMinimalCover': WHATEVER THE INPUT: true; the input reads as it did. -/
def fnExactMinimalCoverSpec : ChangeSpec := { name := "fnExactMinimalCover", fn := fun _ => fun
  | [d] => { results := [.lit (.bool true)], args := [d] }
  | _ => none }
def fnExactMinimalCoverRow : OpenClaim := { program := "ytbkgjgpoohlieaa", sum := "4a7de43be6dd294479d00941a880fc64ead0385917fc4afbed8ba38f3d0727dc", func := "loop.example/g03311/laws.FnExactMinimalCover", spec := "fnExactMinimalCover", unfollowed := true, recurses := true, apart := false }
def FnExactMinimalCoverSaid : Prop := fnExactMinimalCoverRow.holds Try.pinned (OpenSpec.ofChange fnExactMinimalCoverSpec)

/-- ITS FALSE NEIGHBOUR: 'it returns false'. Refute it at one input. -/
def fnExactMinimalCoverWrong : ChangeSpec := { name := "fnExactMinimalCover", fn := fun _ => fun
  | [d] => { results := [.lit (.bool false)], args := [d] }
  | _ => none }
def FnExactMinimalCoverWrongFalsely : Prop := fnExactMinimalCoverRow.holds Try.pinned (OpenSpec.ofChange fnExactMinimalCoverWrong)

/-- 'laws.FnCoverExact': WHATEVER THE INPUT: true; the input reads as it did. -/
def fnCoverExactSpec : ChangeSpec := { name := "fnCoverExact", fn := fun _ => fun
  | [d] => { results := [.lit (.bool true)], args := [d] }
  | _ => none }
def fnCoverExactRow : OpenClaim := { program := "ytbkgjgpoohlieaa", sum := "4a7de43be6dd294479d00941a880fc64ead0385917fc4afbed8ba38f3d0727dc", func := "loop.example/g03311/laws.FnCoverExact", spec := "fnCoverExact", unfollowed := true, recurses := true, apart := false }
def FnCoverExactSaid : Prop := fnCoverExactRow.holds Try.pinned (OpenSpec.ofChange fnCoverExactSpec)

/-- ITS FALSE NEIGHBOUR: 'it returns false'. Refute it at one input. -/
def fnCoverExactWrong : ChangeSpec := { name := "fnCoverExact", fn := fun _ => fun
  | [d] => { results := [.lit (.bool false)], args := [d] }
  | _ => none }
def FnCoverExactWrongFalsely : Prop := fnCoverExactRow.holds Try.pinned (OpenSpec.ofChange fnCoverExactWrong)

/-- 'laws.FnCoverNeedsAll': WHATEVER THE INPUT: true; the input reads as it did. -/
def fnCoverNeedsAllSpec : ChangeSpec := { name := "fnCoverNeedsAll", fn := fun _ => fun
  | [d] => { results := [.lit (.bool true)], args := [d] }
  | _ => none }
def fnCoverNeedsAllRow : OpenClaim := { program := "ytbkgjgpoohlieaa", sum := "4a7de43be6dd294479d00941a880fc64ead0385917fc4afbed8ba38f3d0727dc", func := "loop.example/g03311/laws.FnCoverNeedsAll", spec := "fnCoverNeedsAll", unfollowed := true, recurses := true, apart := false }
def FnCoverNeedsAllSaid : Prop := fnCoverNeedsAllRow.holds Try.pinned (OpenSpec.ofChange fnCoverNeedsAllSpec)

/-- ITS FALSE NEIGHBOUR: 'it returns false'. Refute it at one input. -/
def fnCoverNeedsAllWrong : ChangeSpec := { name := "fnCoverNeedsAll", fn := fun _ => fun
  | [d] => { results := [.lit (.bool false)], args := [d] }
  | _ => none }
def FnCoverNeedsAllWrongFalsely : Prop := fnCoverNeedsAllRow.holds Try.pinned (OpenSpec.ofChange fnCoverNeedsAllWrong)

/- THE SECOND FORM. 'bulk': how many values and letters a reading holds, each counted each time it is reached (what is shared counts as often as it is met; a slice's spare places count too). A statement '..UptoSaid' is the law's where the arguments, and the package variables that the reading takes, are together of bulk at most 1048576: NARROWER than '..Said'. Prove '..Said' where nothing that the law and all that it calls make is longer than what came in: it says more and counts as full. Else prove '..UptoSaid'. A law counts once. -/
mutual
def uptoBulk {H : Type} : DataW H → Nat
  | .lit (.string bytes) => bytes.length + 1
  | .lit _ => 1
  | .nil => 1
  | .ptr d => uptoBulk d + 1
  | .slice elems spare => uptoBulkAll elems + uptoBulkAll spare + 1
  | .agg parts => uptoBulkAll parts + 1
  | .iface _ d => uptoBulk d + 1
  | .map entries => uptoBulkEntries entries + 1
  | .held _ => 1
def uptoBulkAll {H : Type} : List (DataW H) → Nat
  | [] => 0
  | d :: r => uptoBulk d + uptoBulkAll r
def uptoBulkEntries {H : Type} : List (Lit × DataW H) → Nat
  | [] => 0
  | x :: r => uptoBulkEntry x + uptoBulkEntries r
def uptoBulkEntry {H : Type} : Lit × DataW H → Nat
  | (.string bytes, d) => bytes.length + uptoBulk d + 1
  | (_, d) => uptoBulk d + 1
 end
def uptoSmall : (H : Type) → List (DataW H) → Bool := fun _ ds => decide (uptoBulkAll ds ≤ 1048576)
def OpenSpec.upto (s : _root_.Go.ChangeSpec) : _root_.Go.OpenSpec := { _root_.Go.OpenSpec.ofChange s with cond := some uptoSmall }

/-- 'laws.FnFieldsAgain', WHERE WHAT IT READS IS OF BULK AT MOST 1048576: true; the input reads as it did. -/
def fnFieldsAgainUptoRow : OpenClaim := { program := "ytbkgjgpoohlieaa", sum := "4a7de43be6dd294479d00941a880fc64ead0385917fc4afbed8ba38f3d0727dc", func := "loop.example/g03311/laws.FnFieldsAgain", spec := "fnFieldsAgain", apart := false, narrowed := true }
def FnFieldsAgainUptoSaid : Prop := fnFieldsAgainUptoRow.holds Try.pinned (OpenSpec.upto fnFieldsAgainSpec)

/-- 'laws.FnShannon', WHERE WHAT IT READS IS OF BULK AT MOST 1048576: true; the input reads as it did. -/
def fnShannonUptoRow : OpenClaim := { program := "ytbkgjgpoohlieaa", sum := "4a7de43be6dd294479d00941a880fc64ead0385917fc4afbed8ba38f3d0727dc", func := "loop.example/g03311/laws.FnShannon", spec := "fnShannon", unfollowed := true, recurses := true, apart := false, narrowed := true }
def FnShannonUptoSaid : Prop := fnShannonUptoRow.holds Try.pinned (OpenSpec.upto fnShannonSpec)

/-- 'laws.FnShrunk', WHERE WHAT IT READS IS OF BULK AT MOST 1048576: true; the input reads as it did. -/
def fnShrunkUptoRow : OpenClaim := { program := "ytbkgjgpoohlieaa", sum := "4a7de43be6dd294479d00941a880fc64ead0385917fc4afbed8ba38f3d0727dc", func := "loop.example/g03311/laws.FnShrunk", spec := "fnShrunk", unfollowed := true, recurses := true, apart := false, narrowed := true }
def FnShrunkUptoSaid : Prop := fnShrunkUptoRow.holds Try.pinned (OpenSpec.upto fnShrunkSpec)

/-- 'laws.FnExactCoverLiterals', WHERE WHAT IT READS IS OF BULK AT MOST 1048576: true; the input reads as it did. -/
def fnExactCoverLiteralsUptoRow : OpenClaim := { program := "ytbkgjgpoohlieaa", sum := "4a7de43be6dd294479d00941a880fc64ead0385917fc4afbed8ba38f3d0727dc", func := "loop.example/g03311/laws.FnExactCoverLiterals", spec := "fnExactCoverLiterals", apart := false, narrowed := true }
def FnExactCoverLiteralsUptoSaid : Prop := fnExactCoverLiteralsUptoRow.holds Try.pinned (OpenSpec.upto fnExactCoverLiteralsSpec)

/-- 'laws.FnExactCoverTable', WHERE WHAT IT READS IS OF BULK AT MOST 1048576: true; the input reads as it did. -/
def fnExactCoverTableUptoRow : OpenClaim := { program := "ytbkgjgpoohlieaa", sum := "4a7de43be6dd294479d00941a880fc64ead0385917fc4afbed8ba38f3d0727dc", func := "loop.example/g03311/laws.FnExactCoverTable", spec := "fnExactCoverTable", unfollowed := true, recurses := true, apart := false, narrowed := true }
def FnExactCoverTableUptoSaid : Prop := fnExactCoverTableUptoRow.holds Try.pinned (OpenSpec.upto fnExactCoverTableSpec)

/-- 'laws.FnExactPrimeCubes', WHERE WHAT IT READS IS OF BULK AT MOST 1048576: true; the input reads as it did. -/
def fnExactPrimeCubesUptoRow : OpenClaim := { program := "ytbkgjgpoohlieaa", sum := "4a7de43be6dd294479d00941a880fc64ead0385917fc4afbed8ba38f3d0727dc", func := "loop.example/g03311/laws.FnExactPrimeCubes", spec := "fnExactPrimeCubes", apart := false, narrowed := true }
def FnExactPrimeCubesUptoSaid : Prop := fnExactPrimeCubesUptoRow.holds Try.pinned (OpenSpec.upto fnExactPrimeCubesSpec)

/-- 'laws.FnExactMinimalCover', WHERE WHAT IT READS IS OF BULK AT MOST 1048576: true; the input reads as it did. -/
def fnExactMinimalCoverUptoRow : OpenClaim := { program := "ytbkgjgpoohlieaa", sum := "4a7de43be6dd294479d00941a880fc64ead0385917fc4afbed8ba38f3d0727dc", func := "loop.example/g03311/laws.FnExactMinimalCover", spec := "fnExactMinimalCover", unfollowed := true, recurses := true, apart := false, narrowed := true }
def FnExactMinimalCoverUptoSaid : Prop := fnExactMinimalCoverUptoRow.holds Try.pinned (OpenSpec.upto fnExactMinimalCoverSpec)

/-- 'laws.FnCoverExact', WHERE WHAT IT READS IS OF BULK AT MOST 1048576: true; the input reads as it did. -/
def fnCoverExactUptoRow : OpenClaim := { program := "ytbkgjgpoohlieaa", sum := "4a7de43be6dd294479d00941a880fc64ead0385917fc4afbed8ba38f3d0727dc", func := "loop.example/g03311/laws.FnCoverExact", spec := "fnCoverExact", unfollowed := true, recurses := true, apart := false, narrowed := true }
def FnCoverExactUptoSaid : Prop := fnCoverExactUptoRow.holds Try.pinned (OpenSpec.upto fnCoverExactSpec)

/-- 'laws.FnCoverNeedsAll', WHERE WHAT IT READS IS OF BULK AT MOST 1048576: true; the input reads as it did. -/
def fnCoverNeedsAllUptoRow : OpenClaim := { program := "ytbkgjgpoohlieaa", sum := "4a7de43be6dd294479d00941a880fc64ead0385917fc4afbed8ba38f3d0727dc", func := "loop.example/g03311/laws.FnCoverNeedsAll", spec := "fnCoverNeedsAll", unfollowed := true, recurses := true, apart := false, narrowed := true }
def FnCoverNeedsAllUptoSaid : Prop := fnCoverNeedsAllUptoRow.holds Try.pinned (OpenSpec.upto fnCoverNeedsAllSpec)

end Rows
end Go.Proofs.Ytbkgjgpoohlieaa
