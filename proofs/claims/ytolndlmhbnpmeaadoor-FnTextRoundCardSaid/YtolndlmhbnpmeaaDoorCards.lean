/-
  DERIVED. GIVEN WITH THE SEED: THE CARDS: each row of YtolndlmhbnpmeaaDoorRows.lean that lists a variable, with what it lists TIED to the program's text (the seventh form; the later family's looks); each row that meets fmt, with fmt's text TOLD by the authors' own Lean function (tested against real Go, not proved from fmt's source: count such statements apart). THE CARD IS WHAT COUNTS. Prove the row's statement (the work); the ties are given (YtolndlmhbnpmeaaDoorTie.lean); close each card by the builder's one call (the guide's Derived/Test/ToyasCard.lean, 'card_holds'). Laid BY PROGRAM, IN A SANDBOX (cutbox-door.mjs). By AI agents, Wed Nov 11 2026. No macro, syntax, notation, axiom, sorry.
-/
import Derived.Test.YtolndlmhbnpmeaaDoorRows
import GoSem.ClaimSeven
namespace Go.Proofs.YtolndlmhbnpmeaaDoor
namespace Rows

/-- THE TIED CARD OF 'laws.FnTextRound'. -/
def fnTextRoundCard : Claim7 := { stood := { row := fnTextRoundRow, standIns := [], harness := (true, "a631cb16558e78cfec58a4f9ba249ecc5ace1a08f370d3a5fc7150c38afc9ddb"), looks := false }, kinds := [], alts := [], laidByText := true, laidKinds := [.data], laidTests := true, laidLooks := .later }
def FnTextRoundCardSaid : Prop := Claim7.holds Tryd.pinned (.plain (OpenSpec.ofChange fnTextRoundSpec)) fnTextRoundCard

/-- THE SECOND FORM's CARD OF 'laws.FnTextRound'. -/
def fnTextRoundUptoCard : Claim7 := { stood := { row := fnTextRoundUptoRow, standIns := [], harness := (true, "a631cb16558e78cfec58a4f9ba249ecc5ace1a08f370d3a5fc7150c38afc9ddb"), looks := false }, kinds := [], alts := [], laidByText := true, laidKinds := [.data], laidTests := true, laidLooks := .later }
def FnTextRoundUptoCardSaid : Prop := Claim7.holds Tryd.pinned (.plain (OpenSpec.upto fnTextRoundSpec)) fnTextRoundUptoCard
end Rows
end Go.Proofs.YtolndlmhbnpmeaaDoor
