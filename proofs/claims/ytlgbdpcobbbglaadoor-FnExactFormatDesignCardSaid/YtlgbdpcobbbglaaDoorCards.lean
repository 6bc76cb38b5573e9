/-
  DERIVED. GIVEN WITH THE SEED: THE CARDS: each row of YtlgbdpcobbbglaaDoorRows.lean that lists a variable, with what it lists TIED to the program's text (the seventh form; the later family's looks); each row that meets fmt, with fmt's text TOLD by the authors' own Lean function (tested against real Go, not proved from fmt's source: count such statements apart). THE CARD IS WHAT COUNTS. Prove the row's statement (the work); the ties are given (YtlgbdpcobbbglaaDoorTie.lean); close each card by the builder's one call (the guide's Derived/Test/ToyasCard.lean, 'card_holds'). Laid BY PROGRAM, IN A SANDBOX (cutbox-door.mjs). By AI agents, Wed Nov 11 2026. No macro, syntax, notation, axiom, sorry.
-/
import Derived.Test.YtlgbdpcobbbglaaDoorRows
import GoSem.ClaimSeven
namespace Go.Proofs.YtlgbdpcobbbglaaDoor
namespace Rows

/-- THE TIED CARD OF 'laws.FnExactFormatModule'. -/
def fnExactFormatModuleCard : Claim7 := { stood := { row := fnExactFormatModuleRow, standIns := [], harness := (true, "321ae6602300e0edf521c8a9f92a814249a75cd4d5ff98ac5542eabb15e3e09f"), looks := false }, kinds := [], alts := [], laidByText := true, laidKinds := [.data], laidTests := true, laidLooks := .later }
def FnExactFormatModuleCardSaid : Prop := Claim7.holds Tryd.pinned (.plain (OpenSpec.ofChange fnExactFormatModuleSpec)) fnExactFormatModuleCard

/-- THE TIED CARD OF 'laws.FnExactFormatDesign'. -/
def fnExactFormatDesignCard : Claim7 := { stood := { row := fnExactFormatDesignRow, standIns := [], harness := (true, "321ae6602300e0edf521c8a9f92a814249a75cd4d5ff98ac5542eabb15e3e09f"), looks := false }, kinds := [], alts := [], laidByText := true, laidKinds := [.data], laidTests := true, laidLooks := .later }
def FnExactFormatDesignCardSaid : Prop := Claim7.holds Tryd.pinned (.plain (OpenSpec.ofChange fnExactFormatDesignSpec)) fnExactFormatDesignCard

/-- THE TIED CARD OF 'laws.FnExactParseDesign'. -/
def fnExactParseDesignCard : Claim7 := { stood := { row := fnExactParseDesignRow, standIns := [], harness := (true, "321ae6602300e0edf521c8a9f92a814249a75cd4d5ff98ac5542eabb15e3e09f"), looks := false }, kinds := [], alts := [], laidByText := true, laidKinds := [.data], laidTests := true, laidLooks := .later }
def FnExactParseDesignCardSaid : Prop := Claim7.holds Tryd.pinned (.plain (OpenSpec.ofChange fnExactParseDesignSpec)) fnExactParseDesignCard

/-- THE TIED CARD OF 'laws.FnTextRound'. -/
def fnTextRoundCard : Claim7 := { stood := { row := fnTextRoundRow, standIns := [], harness := (true, "321ae6602300e0edf521c8a9f92a814249a75cd4d5ff98ac5542eabb15e3e09f"), looks := false }, kinds := [], alts := [], laidByText := true, laidKinds := [.data], laidTests := true, laidLooks := .later }
def FnTextRoundCardSaid : Prop := Claim7.holds Tryd.pinned (.plain (OpenSpec.ofChange fnTextRoundSpec)) fnTextRoundCard

/-- THE SECOND FORM's CARD OF 'laws.FnExactFormatModule'. -/
def fnExactFormatModuleUptoCard : Claim7 := { stood := { row := fnExactFormatModuleUptoRow, standIns := [], harness := (true, "321ae6602300e0edf521c8a9f92a814249a75cd4d5ff98ac5542eabb15e3e09f"), looks := false }, kinds := [], alts := [], laidByText := true, laidKinds := [.data], laidTests := true, laidLooks := .later }
def FnExactFormatModuleUptoCardSaid : Prop := Claim7.holds Tryd.pinned (.plain (OpenSpec.upto fnExactFormatModuleSpec)) fnExactFormatModuleUptoCard

/-- THE SECOND FORM's CARD OF 'laws.FnExactFormatDesign'. -/
def fnExactFormatDesignUptoCard : Claim7 := { stood := { row := fnExactFormatDesignUptoRow, standIns := [], harness := (true, "321ae6602300e0edf521c8a9f92a814249a75cd4d5ff98ac5542eabb15e3e09f"), looks := false }, kinds := [], alts := [], laidByText := true, laidKinds := [.data], laidTests := true, laidLooks := .later }
def FnExactFormatDesignUptoCardSaid : Prop := Claim7.holds Tryd.pinned (.plain (OpenSpec.upto fnExactFormatDesignSpec)) fnExactFormatDesignUptoCard

/-- THE SECOND FORM's CARD OF 'laws.FnExactParseDesign'. -/
def fnExactParseDesignUptoCard : Claim7 := { stood := { row := fnExactParseDesignUptoRow, standIns := [], harness := (true, "321ae6602300e0edf521c8a9f92a814249a75cd4d5ff98ac5542eabb15e3e09f"), looks := false }, kinds := [], alts := [], laidByText := true, laidKinds := [.data], laidTests := true, laidLooks := .later }
def FnExactParseDesignUptoCardSaid : Prop := Claim7.holds Tryd.pinned (.plain (OpenSpec.upto fnExactParseDesignSpec)) fnExactParseDesignUptoCard

/-- THE SECOND FORM's CARD OF 'laws.FnTextRound'. -/
def fnTextRoundUptoCard : Claim7 := { stood := { row := fnTextRoundUptoRow, standIns := [], harness := (true, "321ae6602300e0edf521c8a9f92a814249a75cd4d5ff98ac5542eabb15e3e09f"), looks := false }, kinds := [], alts := [], laidByText := true, laidKinds := [.data], laidTests := true, laidLooks := .later }
def FnTextRoundUptoCardSaid : Prop := Claim7.holds Tryd.pinned (.plain (OpenSpec.upto fnTextRoundSpec)) fnTextRoundUptoCard
end Rows
end Go.Proofs.YtlgbdpcobbbglaaDoor
