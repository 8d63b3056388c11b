/-
  DERIVED. GIVEN WITH THE SEED: THE CARDS: each row of YtjhnopnppimnhaaGreatDoorRows.lean that lists a variable, with what it lists TIED to the program's text (the seventh form; the later family's looks); each row that meets fmt, with fmt's text TOLD by the authors' own Lean function (tested against real Go, not proved from fmt's source: count such statements apart). THE CARD IS WHAT COUNTS. Prove the row's statement (the work); the ties are given (YtjhnopnppimnhaaGreatDoorTie.lean); close each card by the builder's one call (the guide's Derived/Test/ToyasCard.lean, 'card_holds'). Laid BY PROGRAM, IN A SANDBOX (cutbox-door.mjs). By AI agents, Wed Nov 11 2026. No macro, syntax, notation, axiom, sorry.
-/
import Derived.Test.YtjhnopnppimnhaaGreatDoorRows
import GoSem.ClaimSeven
namespace Go.Proofs.YtjhnopnppimnhaaGreatDoor
namespace Rows

/-- THE TIED CARD OF 'ordinallaw60.ScriptTexts'. -/
def scriptTextsCard : Claim7 := { stood := { row := scriptTextsRow, standIns := [], harness := (true, "e4c4afaefd3bab7fb47f0ca39d32d536cd0d985b4734ddee93e5bc2b34846f0a"), looks := true }, kinds := [], alts := [], laidByText := true, laidKinds := [.data, .data, .data, .sentinel, .sentinel, .data, .data], laidTests := true, laidLooks := .later }
def ScriptTextsCardSaid : Prop := Claim7.holds Tryz.pinned (.plain (OpenSpec.ofChange scriptTextsSpec)) scriptTextsCard

/-- THE TIED CARD OF 'ordinallaw60.ScriptStops'. -/
def scriptStopsCard : Claim7 := { stood := { row := scriptStopsRow, standIns := [], harness := (true, "e4c4afaefd3bab7fb47f0ca39d32d536cd0d985b4734ddee93e5bc2b34846f0a"), looks := true }, kinds := [], alts := [], laidByText := true, laidKinds := [.data, .data, .data, .sentinel, .sentinel, .data, .data], laidTests := true, laidLooks := .later }
def ScriptStopsCardSaid : Prop := Claim7.holds Tryz.pinned (.plain (OpenSpec.ofChange scriptStopsSpec)) scriptStopsCard

/-- THE TIED CARD OF 'ordinallaw60.ScriptNames'. -/
def scriptNamesCard : Claim7 := { stood := { row := scriptNamesRow, standIns := [], harness := (true, "e4c4afaefd3bab7fb47f0ca39d32d536cd0d985b4734ddee93e5bc2b34846f0a"), looks := true }, kinds := [], alts := [], laidByText := true, laidKinds := [.data, .data, .data, .sentinel, .sentinel, .data, .data], laidTests := true, laidLooks := .later }
def ScriptNamesCardSaid : Prop := Claim7.holds Tryz.pinned (.plain (OpenSpec.ofChange scriptNamesSpec)) scriptNamesCard

/-- THE TIED CARD OF 'ordinallaw60.ScriptJoins'. -/
def scriptJoinsCard : Claim7 := { stood := { row := scriptJoinsRow, standIns := [], harness := (true, "e4c4afaefd3bab7fb47f0ca39d32d536cd0d985b4734ddee93e5bc2b34846f0a"), looks := true }, kinds := [], alts := [], laidByText := true, laidKinds := [.data, .data, .data, .sentinel, .sentinel, .data, .data], laidTests := true, laidLooks := .later }
def ScriptJoinsCardSaid : Prop := Claim7.holds Tryz.pinned (.plain (OpenSpec.ofChange scriptJoinsSpec)) scriptJoinsCard

/-- THE SECOND FORM's CARD OF 'ordinallaw60.ScriptTexts'. -/
def scriptTextsUptoCard : Claim7 := { stood := { row := scriptTextsUptoRow, standIns := [], harness := (true, "e4c4afaefd3bab7fb47f0ca39d32d536cd0d985b4734ddee93e5bc2b34846f0a"), looks := true }, kinds := [], alts := [], laidByText := true, laidKinds := [.data, .data, .data, .sentinel, .sentinel, .data, .data], laidTests := true, laidLooks := .later }
def ScriptTextsUptoCardSaid : Prop := Claim7.holds Tryz.pinned (.plain (OpenSpec.upto scriptTextsSpec)) scriptTextsUptoCard

/-- THE SECOND FORM's CARD OF 'ordinallaw60.ScriptStops'. -/
def scriptStopsUptoCard : Claim7 := { stood := { row := scriptStopsUptoRow, standIns := [], harness := (true, "e4c4afaefd3bab7fb47f0ca39d32d536cd0d985b4734ddee93e5bc2b34846f0a"), looks := true }, kinds := [], alts := [], laidByText := true, laidKinds := [.data, .data, .data, .sentinel, .sentinel, .data, .data], laidTests := true, laidLooks := .later }
def ScriptStopsUptoCardSaid : Prop := Claim7.holds Tryz.pinned (.plain (OpenSpec.upto scriptStopsSpec)) scriptStopsUptoCard

/-- THE SECOND FORM's CARD OF 'ordinallaw60.ScriptNames'. -/
def scriptNamesUptoCard : Claim7 := { stood := { row := scriptNamesUptoRow, standIns := [], harness := (true, "e4c4afaefd3bab7fb47f0ca39d32d536cd0d985b4734ddee93e5bc2b34846f0a"), looks := true }, kinds := [], alts := [], laidByText := true, laidKinds := [.data, .data, .data, .sentinel, .sentinel, .data, .data], laidTests := true, laidLooks := .later }
def ScriptNamesUptoCardSaid : Prop := Claim7.holds Tryz.pinned (.plain (OpenSpec.upto scriptNamesSpec)) scriptNamesUptoCard

/-- THE SECOND FORM's CARD OF 'ordinallaw60.ScriptJoins'. -/
def scriptJoinsUptoCard : Claim7 := { stood := { row := scriptJoinsUptoRow, standIns := [], harness := (true, "e4c4afaefd3bab7fb47f0ca39d32d536cd0d985b4734ddee93e5bc2b34846f0a"), looks := true }, kinds := [], alts := [], laidByText := true, laidKinds := [.data, .data, .data, .sentinel, .sentinel, .data, .data], laidTests := true, laidLooks := .later }
def ScriptJoinsUptoCardSaid : Prop := Claim7.holds Tryz.pinned (.plain (OpenSpec.upto scriptJoinsSpec)) scriptJoinsUptoCard
end Rows
end Go.Proofs.YtjhnopnppimnhaaGreatDoor
