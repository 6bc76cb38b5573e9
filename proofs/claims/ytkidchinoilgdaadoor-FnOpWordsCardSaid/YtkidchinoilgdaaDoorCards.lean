/-
  DERIVED. GIVEN WITH THE SEED: THE CARDS: each row of YtkidchinoilgdaaDoorRows.lean that lists a variable, with what it lists TIED to the program's text (the seventh form; the later family's looks); each row that meets fmt, with fmt's text TOLD by the authors' own Lean function (tested against real Go, not proved from fmt's source: count such statements apart). THE CARD IS WHAT COUNTS. Prove the row's statement (the work); the ties are given (YtkidchinoilgdaaDoorTie.lean); close each card by the builder's one call (the guide's Derived/Test/ToyasCard.lean, 'card_holds'). Laid BY PROGRAM, IN A SANDBOX (cutbox-door.mjs). By AI agents, Wed Nov 11 2026. No macro, syntax, notation, axiom, sorry.
-/
import Derived.Test.YtkidchinoilgdaaDoorRows
import GoSem.ClaimSeven
namespace Go.Proofs.YtkidchinoilgdaaDoor
namespace Rows

/-- THE TIED CARD OF 'laws.FnExactOpText'. -/
def fnExactOpTextCard : Claim7 := { stood := { row := fnExactOpTextRow, standIns := [], harness := (true, "8e8cacc9ed087cad2d3dc61f9c05f0e9f9f64e732aefaa00d4d9a6f4d795df06"), looks := false }, kinds := [], alts := [], laidByText := true, laidKinds := [.data], laidTests := true, laidLooks := .later }
def FnExactOpTextCardSaid : Prop := Claim7.holds Tryd.pinned (.plain (OpenSpec.ofChange fnExactOpTextSpec)) fnExactOpTextCard

/-- THE TIED CARD OF 'laws.FnExactParseOp'. -/
def fnExactParseOpCard : Claim7 := { stood := { row := fnExactParseOpRow, standIns := [], harness := (true, "8e8cacc9ed087cad2d3dc61f9c05f0e9f9f64e732aefaa00d4d9a6f4d795df06"), looks := false }, kinds := [], alts := [], laidByText := true, laidKinds := [.data], laidTests := true, laidLooks := .later }
def FnExactParseOpCardSaid : Prop := Claim7.holds Tryd.pinned (.plain (OpenSpec.ofChange fnExactParseOpSpec)) fnExactParseOpCard

/-- THE TIED CARD OF 'laws.FnOpWords'. -/
def fnOpWordsCard : Claim7 := { stood := { row := fnOpWordsRow, standIns := [], harness := (true, "8e8cacc9ed087cad2d3dc61f9c05f0e9f9f64e732aefaa00d4d9a6f4d795df06"), looks := false }, kinds := [], alts := [], laidByText := true, laidKinds := [.data], laidTests := true, laidLooks := .later }
def FnOpWordsCardSaid : Prop := Claim7.holds Tryd.pinned (.plain (OpenSpec.ofChange fnOpWordsSpec)) fnOpWordsCard

/-- THE TIED CARD OF 'laws.FnExactFormatModule'. -/
def fnExactFormatModuleCard : Claim7 := { stood := { row := fnExactFormatModuleRow, standIns := [], harness := (true, "8e8cacc9ed087cad2d3dc61f9c05f0e9f9f64e732aefaa00d4d9a6f4d795df06"), looks := false }, kinds := [], alts := [], laidByText := true, laidKinds := [.data], laidTests := true, laidLooks := .later }
def FnExactFormatModuleCardSaid : Prop := Claim7.holds Tryd.pinned (.plain (OpenSpec.ofChange fnExactFormatModuleSpec)) fnExactFormatModuleCard

/-- THE TIED CARD OF 'laws.FnExactFormatDesign'. -/
def fnExactFormatDesignCard : Claim7 := { stood := { row := fnExactFormatDesignRow, standIns := [], harness := (true, "8e8cacc9ed087cad2d3dc61f9c05f0e9f9f64e732aefaa00d4d9a6f4d795df06"), looks := false }, kinds := [], alts := [], laidByText := true, laidKinds := [.data], laidTests := true, laidLooks := .later }
def FnExactFormatDesignCardSaid : Prop := Claim7.holds Tryd.pinned (.plain (OpenSpec.ofChange fnExactFormatDesignSpec)) fnExactFormatDesignCard

/-- THE TIED CARD OF 'laws.FnExactParseDesign'. -/
def fnExactParseDesignCard : Claim7 := { stood := { row := fnExactParseDesignRow, standIns := [], harness := (true, "8e8cacc9ed087cad2d3dc61f9c05f0e9f9f64e732aefaa00d4d9a6f4d795df06"), looks := false }, kinds := [], alts := [], laidByText := true, laidKinds := [.data], laidTests := true, laidLooks := .later }
def FnExactParseDesignCardSaid : Prop := Claim7.holds Tryd.pinned (.plain (OpenSpec.ofChange fnExactParseDesignSpec)) fnExactParseDesignCard

/-- THE TIED CARD OF 'laws.FnTextRound'. -/
def fnTextRoundCard : Claim7 := { stood := { row := fnTextRoundRow, standIns := [], harness := (true, "8e8cacc9ed087cad2d3dc61f9c05f0e9f9f64e732aefaa00d4d9a6f4d795df06"), looks := false }, kinds := [], alts := [], laidByText := true, laidKinds := [.data], laidTests := true, laidLooks := .later }
def FnTextRoundCardSaid : Prop := Claim7.holds Tryd.pinned (.plain (OpenSpec.ofChange fnTextRoundSpec)) fnTextRoundCard

/-- THE SECOND FORM's CARD OF 'laws.FnExactOpText'. -/
def fnExactOpTextUptoCard : Claim7 := { stood := { row := fnExactOpTextUptoRow, standIns := [], harness := (true, "8e8cacc9ed087cad2d3dc61f9c05f0e9f9f64e732aefaa00d4d9a6f4d795df06"), looks := false }, kinds := [], alts := [], laidByText := true, laidKinds := [.data], laidTests := true, laidLooks := .later }
def FnExactOpTextUptoCardSaid : Prop := Claim7.holds Tryd.pinned (.plain (OpenSpec.upto fnExactOpTextSpec)) fnExactOpTextUptoCard

/-- THE SECOND FORM's CARD OF 'laws.FnExactParseOp'. -/
def fnExactParseOpUptoCard : Claim7 := { stood := { row := fnExactParseOpUptoRow, standIns := [], harness := (true, "8e8cacc9ed087cad2d3dc61f9c05f0e9f9f64e732aefaa00d4d9a6f4d795df06"), looks := false }, kinds := [], alts := [], laidByText := true, laidKinds := [.data], laidTests := true, laidLooks := .later }
def FnExactParseOpUptoCardSaid : Prop := Claim7.holds Tryd.pinned (.plain (OpenSpec.upto fnExactParseOpSpec)) fnExactParseOpUptoCard

/-- THE SECOND FORM's CARD OF 'laws.FnOpWords'. -/
def fnOpWordsUptoCard : Claim7 := { stood := { row := fnOpWordsUptoRow, standIns := [], harness := (true, "8e8cacc9ed087cad2d3dc61f9c05f0e9f9f64e732aefaa00d4d9a6f4d795df06"), looks := false }, kinds := [], alts := [], laidByText := true, laidKinds := [.data], laidTests := true, laidLooks := .later }
def FnOpWordsUptoCardSaid : Prop := Claim7.holds Tryd.pinned (.plain (OpenSpec.upto fnOpWordsSpec)) fnOpWordsUptoCard

/-- THE SECOND FORM's CARD OF 'laws.FnExactFormatModule'. -/
def fnExactFormatModuleUptoCard : Claim7 := { stood := { row := fnExactFormatModuleUptoRow, standIns := [], harness := (true, "8e8cacc9ed087cad2d3dc61f9c05f0e9f9f64e732aefaa00d4d9a6f4d795df06"), looks := false }, kinds := [], alts := [], laidByText := true, laidKinds := [.data], laidTests := true, laidLooks := .later }
def FnExactFormatModuleUptoCardSaid : Prop := Claim7.holds Tryd.pinned (.plain (OpenSpec.upto fnExactFormatModuleSpec)) fnExactFormatModuleUptoCard

/-- THE SECOND FORM's CARD OF 'laws.FnExactFormatDesign'. -/
def fnExactFormatDesignUptoCard : Claim7 := { stood := { row := fnExactFormatDesignUptoRow, standIns := [], harness := (true, "8e8cacc9ed087cad2d3dc61f9c05f0e9f9f64e732aefaa00d4d9a6f4d795df06"), looks := false }, kinds := [], alts := [], laidByText := true, laidKinds := [.data], laidTests := true, laidLooks := .later }
def FnExactFormatDesignUptoCardSaid : Prop := Claim7.holds Tryd.pinned (.plain (OpenSpec.upto fnExactFormatDesignSpec)) fnExactFormatDesignUptoCard

/-- THE SECOND FORM's CARD OF 'laws.FnExactParseDesign'. -/
def fnExactParseDesignUptoCard : Claim7 := { stood := { row := fnExactParseDesignUptoRow, standIns := [], harness := (true, "8e8cacc9ed087cad2d3dc61f9c05f0e9f9f64e732aefaa00d4d9a6f4d795df06"), looks := false }, kinds := [], alts := [], laidByText := true, laidKinds := [.data], laidTests := true, laidLooks := .later }
def FnExactParseDesignUptoCardSaid : Prop := Claim7.holds Tryd.pinned (.plain (OpenSpec.upto fnExactParseDesignSpec)) fnExactParseDesignUptoCard

/-- THE SECOND FORM's CARD OF 'laws.FnTextRound'. -/
def fnTextRoundUptoCard : Claim7 := { stood := { row := fnTextRoundUptoRow, standIns := [], harness := (true, "8e8cacc9ed087cad2d3dc61f9c05f0e9f9f64e732aefaa00d4d9a6f4d795df06"), looks := false }, kinds := [], alts := [], laidByText := true, laidKinds := [.data], laidTests := true, laidLooks := .later }
def FnTextRoundUptoCardSaid : Prop := Claim7.holds Tryd.pinned (.plain (OpenSpec.upto fnTextRoundSpec)) fnTextRoundUptoCard
end Rows
end Go.Proofs.YtkidchinoilgdaaDoor
