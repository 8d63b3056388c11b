/-
  DERIVED. GIVEN WITH THE SEED: THE CARDS: each row of YtnbacdmlaedppaaGreatDoorRows.lean that lists a variable, with what it lists TIED to the program's text (the seventh form; the later family's looks); each row that meets fmt, with fmt's text TOLD by the authors' own Lean function (tested against real Go, not proved from fmt's source: count such statements apart). THE CARD IS WHAT COUNTS. Prove the row's statement (the work); the ties are given (YtnbacdmlaedppaaGreatDoorTie.lean); close each card by the builder's one call (the guide's Derived/Test/ToyasCard.lean, 'card_holds'). Laid BY PROGRAM, IN A SANDBOX (cutbox-door.mjs). By AI agents, Wed Nov 11 2026. No macro, syntax, notation, axiom, sorry.
-/
import Derived.Test.YtnbacdmlaedppaaGreatDoorRows
import GoSem.ClaimSeven
namespace Go.Proofs.YtnbacdmlaedppaaGreatDoor
namespace Rows

/-- THE TIED CARD OF 'ordinallaw20.ParserParses'. -/
def parserParsesCard : Claim7 := { stood := { row := parserParsesRow, standIns := [], harness := (true, "2df40da0b970bbdb501dd9ff954c78caaea7c5e32b82c844791c6093ba8e6f50"), looks := true }, kinds := [], alts := [], laidByText := true, laidKinds := [.data, .data, .data, .sentinel, .sentinel, .data], laidTests := true, laidLooks := .later }
def ParserParsesCardSaid : Prop := Claim7.holds Tryz.pinned (.plain (OpenSpec.ofChange parserParsesSpec)) parserParsesCard

/-- THE TIED CARD OF 'ordinallaw20.ParserOrders'. -/
def parserOrdersCard : Claim7 := { stood := { row := parserOrdersRow, standIns := [], harness := (true, "2df40da0b970bbdb501dd9ff954c78caaea7c5e32b82c844791c6093ba8e6f50"), looks := true }, kinds := [], alts := [], laidByText := true, laidKinds := [.data, .data, .data, .sentinel, .sentinel, .data], laidTests := true, laidLooks := .later }
def ParserOrdersCardSaid : Prop := Claim7.holds Tryz.pinned (.plain (OpenSpec.ofChange parserOrdersSpec)) parserOrdersCard

/-- THE TIED CARD OF 'ordinallaw20.ParserRules'. -/
def parserRulesCard : Claim7 := { stood := { row := parserRulesRow, standIns := [], harness := (true, "2df40da0b970bbdb501dd9ff954c78caaea7c5e32b82c844791c6093ba8e6f50"), looks := true }, kinds := [], alts := [], laidByText := true, laidKinds := [.data, .data, .data, .sentinel, .sentinel, .data], laidTests := true, laidLooks := .later }
def ParserRulesCardSaid : Prop := Claim7.holds Tryz.pinned (.plain (OpenSpec.ofChange parserRulesSpec)) parserRulesCard

/-- THE TIED CARD OF 'ordinallaw20.ParserBlanks'. -/
def parserBlanksCard : Claim7 := { stood := { row := parserBlanksRow, standIns := [], harness := (true, "2df40da0b970bbdb501dd9ff954c78caaea7c5e32b82c844791c6093ba8e6f50"), looks := true }, kinds := [], alts := [], laidByText := true, laidKinds := [.data, .data, .data, .sentinel, .sentinel, .data], laidTests := true, laidLooks := .later }
def ParserBlanksCardSaid : Prop := Claim7.holds Tryz.pinned (.plain (OpenSpec.ofChange parserBlanksSpec)) parserBlanksCard

/-- THE TIED CARD OF 'ordinallaw20.ParserUnions'. -/
def parserUnionsCard : Claim7 := { stood := { row := parserUnionsRow, standIns := [], harness := (true, "2df40da0b970bbdb501dd9ff954c78caaea7c5e32b82c844791c6093ba8e6f50"), looks := true }, kinds := [], alts := [], laidByText := true, laidKinds := [.data, .data, .data, .sentinel, .sentinel, .data], laidTests := true, laidLooks := .later }
def ParserUnionsCardSaid : Prop := Claim7.holds Tryz.pinned (.plain (OpenSpec.ofChange parserUnionsSpec)) parserUnionsCard

/-- THE TIED CARD OF 'ordinallaw20.ParserBack'. -/
def parserBackCard : Claim7 := { stood := { row := parserBackRow, standIns := [], harness := (true, "2df40da0b970bbdb501dd9ff954c78caaea7c5e32b82c844791c6093ba8e6f50"), looks := true }, kinds := [], alts := [], laidByText := true, laidKinds := [.data, .data, .data, .sentinel, .sentinel, .data], laidTests := true, laidLooks := .later }
def ParserBackCardSaid : Prop := Claim7.holds Tryz.pinned (.plain (OpenSpec.ofChange parserBackSpec)) parserBackCard

/-- THE SECOND FORM's CARD OF 'ordinallaw20.ParserParses'. -/
def parserParsesUptoCard : Claim7 := { stood := { row := parserParsesUptoRow, standIns := [], harness := (true, "2df40da0b970bbdb501dd9ff954c78caaea7c5e32b82c844791c6093ba8e6f50"), looks := true }, kinds := [], alts := [], laidByText := true, laidKinds := [.data, .data, .data, .sentinel, .sentinel, .data], laidTests := true, laidLooks := .later }
def ParserParsesUptoCardSaid : Prop := Claim7.holds Tryz.pinned (.plain (OpenSpec.upto parserParsesSpec)) parserParsesUptoCard

/-- THE SECOND FORM's CARD OF 'ordinallaw20.ParserOrders'. -/
def parserOrdersUptoCard : Claim7 := { stood := { row := parserOrdersUptoRow, standIns := [], harness := (true, "2df40da0b970bbdb501dd9ff954c78caaea7c5e32b82c844791c6093ba8e6f50"), looks := true }, kinds := [], alts := [], laidByText := true, laidKinds := [.data, .data, .data, .sentinel, .sentinel, .data], laidTests := true, laidLooks := .later }
def ParserOrdersUptoCardSaid : Prop := Claim7.holds Tryz.pinned (.plain (OpenSpec.upto parserOrdersSpec)) parserOrdersUptoCard

/-- THE SECOND FORM's CARD OF 'ordinallaw20.ParserRules'. -/
def parserRulesUptoCard : Claim7 := { stood := { row := parserRulesUptoRow, standIns := [], harness := (true, "2df40da0b970bbdb501dd9ff954c78caaea7c5e32b82c844791c6093ba8e6f50"), looks := true }, kinds := [], alts := [], laidByText := true, laidKinds := [.data, .data, .data, .sentinel, .sentinel, .data], laidTests := true, laidLooks := .later }
def ParserRulesUptoCardSaid : Prop := Claim7.holds Tryz.pinned (.plain (OpenSpec.upto parserRulesSpec)) parserRulesUptoCard

/-- THE SECOND FORM's CARD OF 'ordinallaw20.ParserBlanks'. -/
def parserBlanksUptoCard : Claim7 := { stood := { row := parserBlanksUptoRow, standIns := [], harness := (true, "2df40da0b970bbdb501dd9ff954c78caaea7c5e32b82c844791c6093ba8e6f50"), looks := true }, kinds := [], alts := [], laidByText := true, laidKinds := [.data, .data, .data, .sentinel, .sentinel, .data], laidTests := true, laidLooks := .later }
def ParserBlanksUptoCardSaid : Prop := Claim7.holds Tryz.pinned (.plain (OpenSpec.upto parserBlanksSpec)) parserBlanksUptoCard

/-- THE SECOND FORM's CARD OF 'ordinallaw20.ParserUnions'. -/
def parserUnionsUptoCard : Claim7 := { stood := { row := parserUnionsUptoRow, standIns := [], harness := (true, "2df40da0b970bbdb501dd9ff954c78caaea7c5e32b82c844791c6093ba8e6f50"), looks := true }, kinds := [], alts := [], laidByText := true, laidKinds := [.data, .data, .data, .sentinel, .sentinel, .data], laidTests := true, laidLooks := .later }
def ParserUnionsUptoCardSaid : Prop := Claim7.holds Tryz.pinned (.plain (OpenSpec.upto parserUnionsSpec)) parserUnionsUptoCard

/-- THE SECOND FORM's CARD OF 'ordinallaw20.ParserBack'. -/
def parserBackUptoCard : Claim7 := { stood := { row := parserBackUptoRow, standIns := [], harness := (true, "2df40da0b970bbdb501dd9ff954c78caaea7c5e32b82c844791c6093ba8e6f50"), looks := true }, kinds := [], alts := [], laidByText := true, laidKinds := [.data, .data, .data, .sentinel, .sentinel, .data], laidTests := true, laidLooks := .later }
def ParserBackUptoCardSaid : Prop := Claim7.holds Tryz.pinned (.plain (OpenSpec.upto parserBackSpec)) parserBackUptoCard
end Rows
end Go.Proofs.YtnbacdmlaedppaaGreatDoor
