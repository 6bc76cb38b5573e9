/-
  DERIVED. GIVEN WITH THE SEED: THE CARDS: each row of YthjdigcpgpiiiaaDoorRows.lean that lists a variable, with what it lists TIED to the program's text (the seventh form; the later family's looks); each row that meets fmt, with fmt's text TOLD by the authors' own Lean function (tested against real Go, not proved from fmt's source: count such statements apart). THE CARD IS WHAT COUNTS. Prove the row's statement (the work); the ties are given (YthjdigcpgpiiiaaDoorTie.lean); close each card by the builder's one call (the guide's Derived/Test/ToyasCard.lean, 'card_holds'). Laid BY PROGRAM, IN A SANDBOX (cutbox-door.mjs). By AI agents, Wed Nov 11 2026. No macro, syntax, notation, axiom, sorry.
-/
import Derived.Test.YthjdigcpgpiiiaaDoorRows
import GoSem.ClaimSeven
namespace Go.Proofs.YthjdigcpgpiiiaaDoor
namespace Rows

/-- THE TIED CARD OF 'laws.FnExactParseDesign'. -/
def fnExactParseDesignCard : Claim7 := { stood := { row := fnExactParseDesignRow, standIns := [], harness := (true, "f3b71423a2caaf185bc296c4b50f283b0d72fc23d7c30786e5f2603e9e22dfdd"), looks := false }, kinds := [], alts := [], laidByText := true, laidKinds := [.data], laidTests := true, laidLooks := .later }
def FnExactParseDesignCardSaid : Prop := Claim7.holds Tryd.pinned (.plain (OpenSpec.ofChange fnExactParseDesignSpec)) fnExactParseDesignCard

/-- THE TIED CARD OF 'laws.FnTextRound'. -/
def fnTextRoundCard : Claim7 := { stood := { row := fnTextRoundRow, standIns := [], harness := (true, "f3b71423a2caaf185bc296c4b50f283b0d72fc23d7c30786e5f2603e9e22dfdd"), looks := false }, kinds := [], alts := [], laidByText := true, laidKinds := [.data], laidTests := true, laidLooks := .later }
def FnTextRoundCardSaid : Prop := Claim7.holds Tryd.pinned (.plain (OpenSpec.ofChange fnTextRoundSpec)) fnTextRoundCard

/-- THE SECOND FORM's CARD OF 'laws.FnExactParseDesign'. -/
def fnExactParseDesignUptoCard : Claim7 := { stood := { row := fnExactParseDesignUptoRow, standIns := [], harness := (true, "f3b71423a2caaf185bc296c4b50f283b0d72fc23d7c30786e5f2603e9e22dfdd"), looks := false }, kinds := [], alts := [], laidByText := true, laidKinds := [.data], laidTests := true, laidLooks := .later }
def FnExactParseDesignUptoCardSaid : Prop := Claim7.holds Tryd.pinned (.plain (OpenSpec.upto fnExactParseDesignSpec)) fnExactParseDesignUptoCard

/-- THE SECOND FORM's CARD OF 'laws.FnTextRound'. -/
def fnTextRoundUptoCard : Claim7 := { stood := { row := fnTextRoundUptoRow, standIns := [], harness := (true, "f3b71423a2caaf185bc296c4b50f283b0d72fc23d7c30786e5f2603e9e22dfdd"), looks := false }, kinds := [], alts := [], laidByText := true, laidKinds := [.data], laidTests := true, laidLooks := .later }
def FnTextRoundUptoCardSaid : Prop := Claim7.holds Tryd.pinned (.plain (OpenSpec.upto fnTextRoundSpec)) fnTextRoundUptoCard
end Rows
end Go.Proofs.YthjdigcpgpiiiaaDoor
