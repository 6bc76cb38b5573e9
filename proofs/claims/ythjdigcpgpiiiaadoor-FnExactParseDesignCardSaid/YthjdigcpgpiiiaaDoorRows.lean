/-
  NARROWER THAN 'FOR EVERY INPUT', by the rows' own cells (each row's printed sentence says how): FnExactParseDesign: laid · FnTextRound: laid.
  DERIVED. THE GIVEN ROWS OF THIS SEAT. 2 by the template 'for every input the law returns true; each argument reads behind the call as it read before'; 0 by the template 'total and deterministic' (their statements: YthjdigcpgpiiiaaDoorTotals.lean).
  GIVEN WITH THE SEED: the statements are not yours to turn. If you find one false, say at which input.
  Laid BY PROGRAM, IN A SANDBOX (cutbox-rows.mjs): the forced cells as the released guide's own fill.sh prints them over the translation ba0adbb57773aa18… (all of the seat's roots in one cut). By AI agents, Wed Nov 11 2026. No macro, syntax, notation, axiom, sorry.
-/
import Derived.Test.YthjdigcpgpiiiaaDoorChecked
import GoSem.Claim
import GoSem.ClaimJoined
import GoSem.ClaimMapViews
import Derived.JoinedTies
import Derived.KernelRfl
namespace Go.Proofs.YthjdigcpgpiiiaaDoor
/- THE CELL 'sum', in the pinned program and in every row, IS THE sha256 OF THE DUMP (.gsa) THAT YthjdigcpgpiiiaaDoorProg.lean LOADS. Nothing in Lean hashes anything: it is a label: what it is worth is what the hold of that sum in a sandbox is worth. -/
noncomputable def Tryd.pinned : Pinned := { name := "ythjdigcpgpiiiaadoor", sum := "ba0adbb57773aa1827727f4f9527f06c9cb95f4ce66c6362410413b6dae8be9f", checked := Tryd.checked }
namespace Rows
def none {H : Type} : Left H := { results := [], args := [] }

/- WHAT THE LISTED PACKAGE-LEVEL VARIABLES READ AS WHEN THE CALL BEGINS. Each datum BY PROGRAM (the guide's laid-datum.mjs) off the statement by which the dump's own 'gosem.cut.vars' lays the variable. In a bare row this is a premise. The card (YthjdigcpgpiiiaaDoorCards.lean) ties it to the program's text. -/
def laid_loop_example_g03311_impl_signs {H : Type} : DataW H := .slice [.lit (.string [126]), .lit (.string [38]), .lit (.string [124]), .lit (.string [94]), .lit (.string [43]), .lit (.string [45]), .lit (.string [61]), .lit (.string [60]), .lit (.string [63])] []

/-- 'laws.FnExactParseDesign': WHATEVER THE INPUT: true; the input reads as it did. -/
def fnExactParseDesignSpec : ChangeSpec := { name := "fnExactParseDesign", vars := ["loop.example/g03311/impl.signs"], fn := fun _ => fun
  | [d, g1] => { results := [.lit (.bool true)], args := [d], vars := [g1] }
  | _ => none }
def fnExactParseDesignRow : OpenClaim := { program := "ythjdigcpgpiiiaadoor", sum := "ba0adbb57773aa1827727f4f9527f06c9cb95f4ce66c6362410413b6dae8be9f", func := "loop.example/g03311/laws.FnExactParseDesign", spec := "fnExactParseDesign", unfollowed := true, recurses := true, named := ["loop.example/g03311/impl.signs"], apart := false, laid := [("loop.example/g03311/impl.signs", laid_loop_example_g03311_impl_signs)] }
def FnExactParseDesignSaid : Prop := fnExactParseDesignRow.holds Tryd.pinned (OpenSpec.ofChange fnExactParseDesignSpec)

/-- ITS FALSE NEIGHBOUR: 'it returns false'. Refute it at one input. -/
def fnExactParseDesignWrong : ChangeSpec := { name := "fnExactParseDesign", vars := ["loop.example/g03311/impl.signs"], fn := fun _ => fun
  | [d, g1] => { results := [.lit (.bool false)], args := [d], vars := [g1] }
  | _ => none }
def FnExactParseDesignWrongFalsely : Prop := fnExactParseDesignRow.holds Tryd.pinned (OpenSpec.ofChange fnExactParseDesignWrong)

/-- 'laws.FnTextRound': WHATEVER THE INPUT: true; the input reads as it did. -/
def fnTextRoundSpec : ChangeSpec := { name := "fnTextRound", vars := ["loop.example/g03311/impl.signs"], fn := fun _ => fun
  | [d, g1] => { results := [.lit (.bool true)], args := [d], vars := [g1] }
  | _ => none }
def fnTextRoundRow : OpenClaim := { program := "ythjdigcpgpiiiaadoor", sum := "ba0adbb57773aa1827727f4f9527f06c9cb95f4ce66c6362410413b6dae8be9f", func := "loop.example/g03311/laws.FnTextRound", spec := "fnTextRound", unfollowed := true, recurses := true, named := ["loop.example/g03311/impl.signs"], apart := false, laid := [("loop.example/g03311/impl.signs", laid_loop_example_g03311_impl_signs)] }
def FnTextRoundSaid : Prop := fnTextRoundRow.holds Tryd.pinned (OpenSpec.ofChange fnTextRoundSpec)

/-- ITS FALSE NEIGHBOUR: 'it returns false'. Refute it at one input. -/
def fnTextRoundWrong : ChangeSpec := { name := "fnTextRound", vars := ["loop.example/g03311/impl.signs"], fn := fun _ => fun
  | [d, g1] => { results := [.lit (.bool false)], args := [d], vars := [g1] }
  | _ => none }
def FnTextRoundWrongFalsely : Prop := fnTextRoundRow.holds Tryd.pinned (OpenSpec.ofChange fnTextRoundWrong)

/- THE SECOND FORM. 'bulk': how many values and letters a reading holds, each counted each time it is reached (what is shared counts as often as it is met; a slice's spare places count too). A statement '..UptoSaid' is the law's where the arguments, and the package variables that the reading takes, are together of bulk at most 1048576: NARROWER than '..Said'. Prove '..Said' where nothing that the law and all that it calls make is longer than what came in: it says more and counts as full. Else prove '..UptoSaid'. A law counts once. -/
mutual
def uptoBulk {H : Type} : DataW H → Nat
  | .lit (.string bytes) => bytes.length + 1
  | .lit _ => 1
  | .nil => 1
  | .ptr d => uptoBulk d + 1
  | .slice elems spare => uptoBulkAll elems + uptoBulkAll spare + 1
  | .agg parts => uptoBulkAll parts + 1
  | .iface _ d => uptoBulk d + 1
  | .map entries => uptoBulkEntries entries + 1
  | .held _ => 1
def uptoBulkAll {H : Type} : List (DataW H) → Nat
  | [] => 0
  | d :: r => uptoBulk d + uptoBulkAll r
def uptoBulkEntries {H : Type} : List (Lit × DataW H) → Nat
  | [] => 0
  | x :: r => uptoBulkEntry x + uptoBulkEntries r
def uptoBulkEntry {H : Type} : Lit × DataW H → Nat
  | (.string bytes, d) => bytes.length + uptoBulk d + 1
  | (_, d) => uptoBulk d + 1
 end
def uptoSmall : (H : Type) → List (DataW H) → Bool := fun _ ds => decide (uptoBulkAll ds ≤ 1048576)
def OpenSpec.upto (s : _root_.Go.ChangeSpec) : _root_.Go.OpenSpec := { _root_.Go.OpenSpec.ofChange s with cond := some uptoSmall }

/-- 'laws.FnExactParseDesign', WHERE WHAT IT READS IS OF BULK AT MOST 1048576: true; the input reads as it did. -/
def fnExactParseDesignUptoRow : OpenClaim := { program := "ythjdigcpgpiiiaadoor", sum := "ba0adbb57773aa1827727f4f9527f06c9cb95f4ce66c6362410413b6dae8be9f", func := "loop.example/g03311/laws.FnExactParseDesign", spec := "fnExactParseDesign", unfollowed := true, recurses := true, named := ["loop.example/g03311/impl.signs"], apart := false, laid := [("loop.example/g03311/impl.signs", laid_loop_example_g03311_impl_signs)], narrowed := true }
def FnExactParseDesignUptoSaid : Prop := fnExactParseDesignUptoRow.holds Tryd.pinned (OpenSpec.upto fnExactParseDesignSpec)

/-- 'laws.FnTextRound', WHERE WHAT IT READS IS OF BULK AT MOST 1048576: true; the input reads as it did. -/
def fnTextRoundUptoRow : OpenClaim := { program := "ythjdigcpgpiiiaadoor", sum := "ba0adbb57773aa1827727f4f9527f06c9cb95f4ce66c6362410413b6dae8be9f", func := "loop.example/g03311/laws.FnTextRound", spec := "fnTextRound", unfollowed := true, recurses := true, named := ["loop.example/g03311/impl.signs"], apart := false, laid := [("loop.example/g03311/impl.signs", laid_loop_example_g03311_impl_signs)], narrowed := true }
def FnTextRoundUptoSaid : Prop := fnTextRoundUptoRow.holds Tryd.pinned (OpenSpec.upto fnTextRoundSpec)

end Rows
end Go.Proofs.YthjdigcpgpiiiaaDoor
