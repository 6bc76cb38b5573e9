/-
  NARROWER THAN 'FOR EVERY INPUT', by the rows' own cells (each row's printed sentence says how): FnExactFormatModule: laid · FnExactFormatDesign: laid · FnExactParseDesign: laid · FnTextRound: laid.
  DERIVED. THE GIVEN ROWS OF THIS SEAT. 4 by the template 'for every input the law returns true; each argument reads behind the call as it read before'; 0 by the template 'total and deterministic' (their statements: YtlgbdpcobbbglaaDoorTotals.lean).
  GIVEN WITH THE SEED: the statements are not yours to turn. If you find one false, say at which input.
  Laid BY PROGRAM, IN A SANDBOX (cutbox-rows.mjs): the forced cells as the released guide's own fill.sh prints them over the translation 2eca0aed76834c74… (all of the seat's roots in one cut). By AI agents, Wed Nov 11 2026. No macro, syntax, notation, axiom, sorry.
-/
import Derived.Test.YtlgbdpcobbbglaaDoorChecked
import GoSem.Claim
import GoSem.ClaimJoined
import GoSem.ClaimMapViews
import Derived.JoinedTies
import Derived.KernelRfl
namespace Go.Proofs.YtlgbdpcobbbglaaDoor
/- THE CELL 'sum', in the pinned program and in every row, IS THE sha256 OF THE DUMP (.gsa) THAT YtlgbdpcobbbglaaDoorProg.lean LOADS. Nothing in Lean hashes anything: it is a label: what it is worth is what the hold of that sum in a sandbox is worth. -/
noncomputable def Tryd.pinned : Pinned := { name := "ytlgbdpcobbbglaadoor", sum := "2eca0aed76834c74aa448dfdc6fe5f5078158dd4e07e3c8bf2d95f7388b64c6c", checked := Tryd.checked }
namespace Rows
def none {H : Type} : Left H := { results := [], args := [] }

/- WHAT THE LISTED PACKAGE-LEVEL VARIABLES READ AS WHEN THE CALL BEGINS. Each datum BY PROGRAM (the guide's laid-datum.mjs) off the statement by which the dump's own 'gosem.cut.vars' lays the variable. In a bare row this is a premise. The card (YtlgbdpcobbbglaaDoorCards.lean) ties it to the program's text. -/
def laid_loop_example_g03311_impl_signs {H : Type} : DataW H := .slice [.lit (.string [126]), .lit (.string [38]), .lit (.string [124]), .lit (.string [94]), .lit (.string [43]), .lit (.string [45]), .lit (.string [61]), .lit (.string [60]), .lit (.string [63])] []

/-- 'laws.FnExactFormatModule': WHATEVER THE INPUT: true; the input reads as it did. -/
def fnExactFormatModuleSpec : ChangeSpec := { name := "fnExactFormatModule", vars := ["loop.example/g03311/impl.signs"], fn := fun _ => fun
  | [d1, d2, g1] => { results := [.lit (.bool true)], args := [d1, d2], vars := [g1] }
  | _ => none }
def fnExactFormatModuleRow : OpenClaim := { program := "ytlgbdpcobbbglaadoor", sum := "2eca0aed76834c74aa448dfdc6fe5f5078158dd4e07e3c8bf2d95f7388b64c6c", func := "loop.example/g03311/laws.FnExactFormatModule", spec := "fnExactFormatModule", unfollowed := true, recurses := true, named := ["loop.example/g03311/impl.signs"], apart := false, laid := [("loop.example/g03311/impl.signs", laid_loop_example_g03311_impl_signs)] }
def FnExactFormatModuleSaid : Prop := fnExactFormatModuleRow.holds Tryd.pinned (OpenSpec.ofChange fnExactFormatModuleSpec)

/-- ITS FALSE NEIGHBOUR: 'it returns false'. Refute it at one input. -/
def fnExactFormatModuleWrong : ChangeSpec := { name := "fnExactFormatModule", vars := ["loop.example/g03311/impl.signs"], fn := fun _ => fun
  | [d1, d2, g1] => { results := [.lit (.bool false)], args := [d1, d2], vars := [g1] }
  | _ => none }
def FnExactFormatModuleWrongFalsely : Prop := fnExactFormatModuleRow.holds Tryd.pinned (OpenSpec.ofChange fnExactFormatModuleWrong)

/-- 'laws.FnExactFormatDesign': WHATEVER THE INPUT: true; the input reads as it did. -/
def fnExactFormatDesignSpec : ChangeSpec := { name := "fnExactFormatDesign", vars := ["loop.example/g03311/impl.signs"], fn := fun _ => fun
  | [d, g1] => { results := [.lit (.bool true)], args := [d], vars := [g1] }
  | _ => none }
def fnExactFormatDesignRow : OpenClaim := { program := "ytlgbdpcobbbglaadoor", sum := "2eca0aed76834c74aa448dfdc6fe5f5078158dd4e07e3c8bf2d95f7388b64c6c", func := "loop.example/g03311/laws.FnExactFormatDesign", spec := "fnExactFormatDesign", unfollowed := true, recurses := true, named := ["loop.example/g03311/impl.signs"], apart := false, laid := [("loop.example/g03311/impl.signs", laid_loop_example_g03311_impl_signs)] }
def FnExactFormatDesignSaid : Prop := fnExactFormatDesignRow.holds Tryd.pinned (OpenSpec.ofChange fnExactFormatDesignSpec)

/-- ITS FALSE NEIGHBOUR: 'it returns false'. Refute it at one input. -/
def fnExactFormatDesignWrong : ChangeSpec := { name := "fnExactFormatDesign", vars := ["loop.example/g03311/impl.signs"], fn := fun _ => fun
  | [d, g1] => { results := [.lit (.bool false)], args := [d], vars := [g1] }
  | _ => none }
def FnExactFormatDesignWrongFalsely : Prop := fnExactFormatDesignRow.holds Tryd.pinned (OpenSpec.ofChange fnExactFormatDesignWrong)

/-- 'laws.FnExactParseDesign': WHATEVER THE INPUT: true; the input reads as it did. -/
def fnExactParseDesignSpec : ChangeSpec := { name := "fnExactParseDesign", vars := ["loop.example/g03311/impl.signs"], fn := fun _ => fun
  | [d, g1] => { results := [.lit (.bool true)], args := [d], vars := [g1] }
  | _ => none }
def fnExactParseDesignRow : OpenClaim := { program := "ytlgbdpcobbbglaadoor", sum := "2eca0aed76834c74aa448dfdc6fe5f5078158dd4e07e3c8bf2d95f7388b64c6c", func := "loop.example/g03311/laws.FnExactParseDesign", spec := "fnExactParseDesign", unfollowed := true, recurses := true, named := ["loop.example/g03311/impl.signs"], apart := false, laid := [("loop.example/g03311/impl.signs", laid_loop_example_g03311_impl_signs)] }
def FnExactParseDesignSaid : Prop := fnExactParseDesignRow.holds Tryd.pinned (OpenSpec.ofChange fnExactParseDesignSpec)

/-- ITS FALSE NEIGHBOUR: 'it returns false'. Refute it at one input. -/
def fnExactParseDesignWrong : ChangeSpec := { name := "fnExactParseDesign", vars := ["loop.example/g03311/impl.signs"], fn := fun _ => fun
  | [d, g1] => { results := [.lit (.bool false)], args := [d], vars := [g1] }
  | _ => none }
def FnExactParseDesignWrongFalsely : Prop := fnExactParseDesignRow.holds Tryd.pinned (OpenSpec.ofChange fnExactParseDesignWrong)

/-- 'laws.FnTextRound': WHATEVER THE INPUT: true; the input reads as it did. -/
def fnTextRoundSpec : ChangeSpec := { name := "fnTextRound", vars := ["loop.example/g03311/impl.signs"], fn := fun _ => fun
  | [d, g1] => { results := [.lit (.bool true)], args := [d], vars := [g1] }
  | _ => none }
def fnTextRoundRow : OpenClaim := { program := "ytlgbdpcobbbglaadoor", sum := "2eca0aed76834c74aa448dfdc6fe5f5078158dd4e07e3c8bf2d95f7388b64c6c", func := "loop.example/g03311/laws.FnTextRound", spec := "fnTextRound", unfollowed := true, recurses := true, named := ["loop.example/g03311/impl.signs"], apart := false, laid := [("loop.example/g03311/impl.signs", laid_loop_example_g03311_impl_signs)] }
def FnTextRoundSaid : Prop := fnTextRoundRow.holds Tryd.pinned (OpenSpec.ofChange fnTextRoundSpec)

/-- ITS FALSE NEIGHBOUR: 'it returns false'. Refute it at one input. -/
def fnTextRoundWrong : ChangeSpec := { name := "fnTextRound", vars := ["loop.example/g03311/impl.signs"], fn := fun _ => fun
  | [d, g1] => { results := [.lit (.bool false)], args := [d], vars := [g1] }
  | _ => none }
def FnTextRoundWrongFalsely : Prop := fnTextRoundRow.holds Tryd.pinned (OpenSpec.ofChange fnTextRoundWrong)

/- THE SECOND FORM. 'bulk': how many values and letters a reading holds, each counted each time it is reached (what is shared counts as often as it is met; a slice's spare places count too). A statement '..UptoSaid' is the law's where the arguments, and the package variables that the reading takes, are together of bulk at most 1048576: NARROWER than '..Said'. Prove '..Said' where nothing that the law and all that it calls make is longer than what came in: it says more and counts as full. Else prove '..UptoSaid'. A law counts once. -/
mutual
def uptoBulk {H : Type} : DataW H → Nat
  | .lit (.string bytes) => bytes.length + 1
  | .lit _ => 1
  | .nil => 1
  | .ptr d => uptoBulk d + 1
  | .slice elems spare => uptoBulkAll elems + uptoBulkAll spare + 1
  | .agg parts => uptoBulkAll parts + 1
  | .iface _ d => uptoBulk d + 1
  | .map entries => uptoBulkEntries entries + 1
  | .held _ => 1
def uptoBulkAll {H : Type} : List (DataW H) → Nat
  | [] => 0
  | d :: r => uptoBulk d + uptoBulkAll r
def uptoBulkEntries {H : Type} : List (Lit × DataW H) → Nat
  | [] => 0
  | x :: r => uptoBulkEntry x + uptoBulkEntries r
def uptoBulkEntry {H : Type} : Lit × DataW H → Nat
  | (.string bytes, d) => bytes.length + uptoBulk d + 1
  | (_, d) => uptoBulk d + 1
 end
def uptoSmall : (H : Type) → List (DataW H) → Bool := fun _ ds => decide (uptoBulkAll ds ≤ 1048576)
def OpenSpec.upto (s : _root_.Go.ChangeSpec) : _root_.Go.OpenSpec := { _root_.Go.OpenSpec.ofChange s with cond := some uptoSmall }

/-- 'laws.FnExactFormatModule', WHERE WHAT IT READS IS OF BULK AT MOST 1048576: true; the input reads as it did. -/
def fnExactFormatModuleUptoRow : OpenClaim := { program := "ytlgbdpcobbbglaadoor", sum := "2eca0aed76834c74aa448dfdc6fe5f5078158dd4e07e3c8bf2d95f7388b64c6c", func := "loop.example/g03311/laws.FnExactFormatModule", spec := "fnExactFormatModule", unfollowed := true, recurses := true, named := ["loop.example/g03311/impl.signs"], apart := false, laid := [("loop.example/g03311/impl.signs", laid_loop_example_g03311_impl_signs)], narrowed := true }
def FnExactFormatModuleUptoSaid : Prop := fnExactFormatModuleUptoRow.holds Tryd.pinned (OpenSpec.upto fnExactFormatModuleSpec)

/-- 'laws.FnExactFormatDesign', WHERE WHAT IT READS IS OF BULK AT MOST 1048576: true; the input reads as it did. -/
def fnExactFormatDesignUptoRow : OpenClaim := { program := "ytlgbdpcobbbglaadoor", sum := "2eca0aed76834c74aa448dfdc6fe5f5078158dd4e07e3c8bf2d95f7388b64c6c", func := "loop.example/g03311/laws.FnExactFormatDesign", spec := "fnExactFormatDesign", unfollowed := true, recurses := true, named := ["loop.example/g03311/impl.signs"], apart := false, laid := [("loop.example/g03311/impl.signs", laid_loop_example_g03311_impl_signs)], narrowed := true }
def FnExactFormatDesignUptoSaid : Prop := fnExactFormatDesignUptoRow.holds Tryd.pinned (OpenSpec.upto fnExactFormatDesignSpec)

/-- 'laws.FnExactParseDesign', WHERE WHAT IT READS IS OF BULK AT MOST 1048576: true; the input reads as it did. -/
def fnExactParseDesignUptoRow : OpenClaim := { program := "ytlgbdpcobbbglaadoor", sum := "2eca0aed76834c74aa448dfdc6fe5f5078158dd4e07e3c8bf2d95f7388b64c6c", func := "loop.example/g03311/laws.FnExactParseDesign", spec := "fnExactParseDesign", unfollowed := true, recurses := true, named := ["loop.example/g03311/impl.signs"], apart := false, laid := [("loop.example/g03311/impl.signs", laid_loop_example_g03311_impl_signs)], narrowed := true }
def FnExactParseDesignUptoSaid : Prop := fnExactParseDesignUptoRow.holds Tryd.pinned (OpenSpec.upto fnExactParseDesignSpec)

/-- 'laws.FnTextRound', WHERE WHAT IT READS IS OF BULK AT MOST 1048576: true; the input reads as it did. -/
def fnTextRoundUptoRow : OpenClaim := { program := "ytlgbdpcobbbglaadoor", sum := "2eca0aed76834c74aa448dfdc6fe5f5078158dd4e07e3c8bf2d95f7388b64c6c", func := "loop.example/g03311/laws.FnTextRound", spec := "fnTextRound", unfollowed := true, recurses := true, named := ["loop.example/g03311/impl.signs"], apart := false, laid := [("loop.example/g03311/impl.signs", laid_loop_example_g03311_impl_signs)], narrowed := true }
def FnTextRoundUptoSaid : Prop := fnTextRoundUptoRow.holds Tryd.pinned (OpenSpec.upto fnTextRoundSpec)

end Rows
end Go.Proofs.YtlgbdpcobbbglaaDoor
