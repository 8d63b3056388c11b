/-
  DERIVED. GIVEN WITH THE SEED: THE CARDS: each row of YtgeapgbebbapmaaDoorRows.lean that lists a variable, with what it lists TIED to the program's text (the seventh form; the later family's looks); each row that meets fmt, with fmt's text TOLD by the authors' own Lean function (tested against real Go, not proved from fmt's source: count such statements apart). THE CARD IS WHAT COUNTS. Prove the row's statement (the work); the ties are given (YtgeapgbebbapmaaDoorTie.lean); close each card by the builder's one call (the guide's Derived/Test/ToyasCard.lean, 'card_holds'). Laid BY PROGRAM, IN A SANDBOX (cutbox-door.mjs). By AI agents, Wed Nov 11 2026. No macro, syntax, notation, axiom, sorry.
-/
import Derived.Test.YtgeapgbebbapmaaDoorRows
import GoSem.ClaimSeven
namespace Go.Proofs.YtgeapgbebbapmaaDoor
namespace Rows

/-- THE TIED CARD OF 'ordinallaw19.AstChecks'. -/
def astChecksCard : Claim7 := { stood := { row := astChecksRow, standIns := [], harness := (true, "fc68148684b81140f2756e372b3816dbb97daecf8be43e0c94740957bb3c9b70"), looks := false }, kinds := [], alts := [], laidByText := true, laidKinds := [.data, .data, .data], laidTests := true, laidLooks := .later }
def AstChecksCardSaid : Prop := Claim7.holds Tryd.pinned (.plain (OpenSpec.ofChange astChecksSpec)) astChecksCard

/-- THE TIED CARD OF 'ordinallaw19.AstPrints'. -/
def astPrintsCard : Claim7 := { stood := { row := astPrintsRow, standIns := [], harness := (true, "fc68148684b81140f2756e372b3816dbb97daecf8be43e0c94740957bb3c9b70"), looks := false }, kinds := [], alts := [], laidByText := true, laidKinds := [.data, .data, .data], laidTests := true, laidLooks := .later }
def AstPrintsCardSaid : Prop := Claim7.holds Tryd.pinned (.plain (OpenSpec.ofChange astPrintsSpec)) astPrintsCard

/-- THE TIED CARD OF 'ordinallaw19.AstTexts'. -/
def astTextsCard : Claim7 := { stood := { row := astTextsRow, standIns := [], harness := (true, "fc68148684b81140f2756e372b3816dbb97daecf8be43e0c94740957bb3c9b70"), looks := false }, kinds := [], alts := [], laidByText := true, laidKinds := [.data, .data, .data], laidTests := true, laidLooks := .later }
def AstTextsCardSaid : Prop := Claim7.holds Tryd.pinned (.plain (OpenSpec.ofChange astTextsSpec)) astTextsCard

/-- THE TIED CARD OF 'ordinallaw19.AstRenames'. -/
def astRenamesCard : Claim7 := { stood := { row := astRenamesRow, standIns := [], harness := (true, "fc68148684b81140f2756e372b3816dbb97daecf8be43e0c94740957bb3c9b70"), looks := false }, kinds := [], alts := [], laidByText := true, laidKinds := [.data, .data, .data], laidTests := true, laidLooks := .later }
def AstRenamesCardSaid : Prop := Claim7.holds Tryd.pinned (.plain (OpenSpec.ofChange astRenamesSpec)) astRenamesCard

/-- THE TIED CARD OF 'ordinallaw19.AstMoves'. -/
def astMovesCard : Claim7 := { stood := { row := astMovesRow, standIns := [], harness := (true, "fc68148684b81140f2756e372b3816dbb97daecf8be43e0c94740957bb3c9b70"), looks := false }, kinds := [], alts := [], laidByText := true, laidKinds := [.data, .data, .data], laidTests := true, laidLooks := .later }
def AstMovesCardSaid : Prop := Claim7.holds Tryd.pinned (.plain (OpenSpec.ofChange astMovesSpec)) astMovesCard

/-- THE TIED CARD OF 'ordinallaw19.AstTurns'. -/
def astTurnsCard : Claim7 := { stood := { row := astTurnsRow, standIns := [], harness := (true, "fc68148684b81140f2756e372b3816dbb97daecf8be43e0c94740957bb3c9b70"), looks := false }, kinds := [], alts := [], laidByText := true, laidKinds := [.data, .data, .data], laidTests := true, laidLooks := .later }
def AstTurnsCardSaid : Prop := Claim7.holds Tryd.pinned (.plain (OpenSpec.ofChange astTurnsSpec)) astTurnsCard

/-- THE SECOND FORM's CARD OF 'ordinallaw19.AstChecks'. -/
def astChecksUptoCard : Claim7 := { stood := { row := astChecksUptoRow, standIns := [], harness := (true, "fc68148684b81140f2756e372b3816dbb97daecf8be43e0c94740957bb3c9b70"), looks := false }, kinds := [], alts := [], laidByText := true, laidKinds := [.data, .data, .data], laidTests := true, laidLooks := .later }
def AstChecksUptoCardSaid : Prop := Claim7.holds Tryd.pinned (.plain (OpenSpec.upto astChecksSpec)) astChecksUptoCard

/-- THE SECOND FORM's CARD OF 'ordinallaw19.AstPrints'. -/
def astPrintsUptoCard : Claim7 := { stood := { row := astPrintsUptoRow, standIns := [], harness := (true, "fc68148684b81140f2756e372b3816dbb97daecf8be43e0c94740957bb3c9b70"), looks := false }, kinds := [], alts := [], laidByText := true, laidKinds := [.data, .data, .data], laidTests := true, laidLooks := .later }
def AstPrintsUptoCardSaid : Prop := Claim7.holds Tryd.pinned (.plain (OpenSpec.upto astPrintsSpec)) astPrintsUptoCard

/-- THE SECOND FORM's CARD OF 'ordinallaw19.AstTexts'. -/
def astTextsUptoCard : Claim7 := { stood := { row := astTextsUptoRow, standIns := [], harness := (true, "fc68148684b81140f2756e372b3816dbb97daecf8be43e0c94740957bb3c9b70"), looks := false }, kinds := [], alts := [], laidByText := true, laidKinds := [.data, .data, .data], laidTests := true, laidLooks := .later }
def AstTextsUptoCardSaid : Prop := Claim7.holds Tryd.pinned (.plain (OpenSpec.upto astTextsSpec)) astTextsUptoCard

/-- THE SECOND FORM's CARD OF 'ordinallaw19.AstRenames'. -/
def astRenamesUptoCard : Claim7 := { stood := { row := astRenamesUptoRow, standIns := [], harness := (true, "fc68148684b81140f2756e372b3816dbb97daecf8be43e0c94740957bb3c9b70"), looks := false }, kinds := [], alts := [], laidByText := true, laidKinds := [.data, .data, .data], laidTests := true, laidLooks := .later }
def AstRenamesUptoCardSaid : Prop := Claim7.holds Tryd.pinned (.plain (OpenSpec.upto astRenamesSpec)) astRenamesUptoCard

/-- THE SECOND FORM's CARD OF 'ordinallaw19.AstMoves'. -/
def astMovesUptoCard : Claim7 := { stood := { row := astMovesUptoRow, standIns := [], harness := (true, "fc68148684b81140f2756e372b3816dbb97daecf8be43e0c94740957bb3c9b70"), looks := false }, kinds := [], alts := [], laidByText := true, laidKinds := [.data, .data, .data], laidTests := true, laidLooks := .later }
def AstMovesUptoCardSaid : Prop := Claim7.holds Tryd.pinned (.plain (OpenSpec.upto astMovesSpec)) astMovesUptoCard

/-- THE SECOND FORM's CARD OF 'ordinallaw19.AstTurns'. -/
def astTurnsUptoCard : Claim7 := { stood := { row := astTurnsUptoRow, standIns := [], harness := (true, "fc68148684b81140f2756e372b3816dbb97daecf8be43e0c94740957bb3c9b70"), looks := false }, kinds := [], alts := [], laidByText := true, laidKinds := [.data, .data, .data], laidTests := true, laidLooks := .later }
def AstTurnsUptoCardSaid : Prop := Claim7.holds Tryd.pinned (.plain (OpenSpec.upto astTurnsSpec)) astTurnsUptoCard
end Rows
end Go.Proofs.YtgeapgbebbapmaaDoor
