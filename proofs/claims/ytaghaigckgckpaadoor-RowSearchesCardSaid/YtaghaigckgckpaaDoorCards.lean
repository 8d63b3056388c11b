/-
  DERIVED. GIVEN WITH THE SEED: THE CARDS: each row of YtaghaigckgckpaaDoorRows.lean that lists a variable, with what it lists TIED to the program's text (the seventh form; the later family's looks); each row that meets fmt, with fmt's text TOLD by the authors' own Lean function (tested against real Go, not proved from fmt's source: count such statements apart). THE CARD IS WHAT COUNTS. Prove the row's statement (the work); the ties are given (YtaghaigckgckpaaDoorTie.lean); close each card by the builder's one call (the guide's Derived/Test/ToyasCard.lean, 'card_holds'). Laid BY PROGRAM, IN A SANDBOX (cutbox-door.mjs). By AI agents, Wed Nov 11 2026. No macro, syntax, notation, axiom, sorry.
-/
import Derived.Test.YtaghaigckgckpaaDoorRows
import GoSem.ClaimSeven
namespace Go.Proofs.YtaghaigckgckpaaDoor
namespace Rows

/-- THE TIED CARD OF 'ordinallaw02.RowSorts'. -/
def rowSortsCard : Claim7 := { stood := { row := rowSortsRow, standIns := [], harness := (true, "9c6585a07ecf1cba1c0a4e66b665887dc3f34de411f283ac1e38836eba802a48"), looks := false }, kinds := [], alts := [], laidByText := true, laidKinds := [.data, .data, .data], laidTests := true, laidLooks := .later }
def RowSortsCardSaid : Prop := Claim7.holds Tryd.pinned (.plain (OpenSpec.ofChange rowSortsSpec)) rowSortsCard

/-- THE TIED CARD OF 'ordinallaw02.RowSearches'. -/
def rowSearchesCard : Claim7 := { stood := { row := rowSearchesRow, standIns := [], harness := (true, "9c6585a07ecf1cba1c0a4e66b665887dc3f34de411f283ac1e38836eba802a48"), looks := false }, kinds := [], alts := [], laidByText := true, laidKinds := [.data, .data, .data], laidTests := true, laidLooks := .later }
def RowSearchesCardSaid : Prop := Claim7.holds Tryd.pinned (.plain (OpenSpec.ofChange rowSearchesSpec)) rowSearchesCard

/-- THE SECOND FORM's CARD OF 'ordinallaw02.RowSorts'. -/
def rowSortsUptoCard : Claim7 := { stood := { row := rowSortsUptoRow, standIns := [], harness := (true, "9c6585a07ecf1cba1c0a4e66b665887dc3f34de411f283ac1e38836eba802a48"), looks := false }, kinds := [], alts := [], laidByText := true, laidKinds := [.data, .data, .data], laidTests := true, laidLooks := .later }
def RowSortsUptoCardSaid : Prop := Claim7.holds Tryd.pinned (.plain (OpenSpec.upto rowSortsSpec)) rowSortsUptoCard

/-- THE SECOND FORM's CARD OF 'ordinallaw02.RowSearches'. -/
def rowSearchesUptoCard : Claim7 := { stood := { row := rowSearchesUptoRow, standIns := [], harness := (true, "9c6585a07ecf1cba1c0a4e66b665887dc3f34de411f283ac1e38836eba802a48"), looks := false }, kinds := [], alts := [], laidByText := true, laidKinds := [.data, .data, .data], laidTests := true, laidLooks := .later }
def RowSearchesUptoCardSaid : Prop := Claim7.holds Tryd.pinned (.plain (OpenSpec.upto rowSearchesSpec)) rowSearchesUptoCard
end Rows
end Go.Proofs.YtaghaigckgckpaaDoor
