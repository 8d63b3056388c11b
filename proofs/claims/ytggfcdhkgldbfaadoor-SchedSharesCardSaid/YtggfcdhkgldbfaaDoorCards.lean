/-
  DERIVED. GIVEN WITH THE SEED: THE CARDS: each row of YtggfcdhkgldbfaaDoorRows.lean that lists a variable, with what it lists TIED to the program's text (the seventh form; the later family's looks); each row that meets fmt, with fmt's text TOLD by the authors' own Lean function (tested against real Go, not proved from fmt's source: count such statements apart). THE CARD IS WHAT COUNTS. Prove the row's statement (the work); the ties are given (YtggfcdhkgldbfaaDoorTie.lean); close each card by the builder's one call (the guide's Derived/Test/ToyasCard.lean, 'card_holds'). Laid BY PROGRAM, IN A SANDBOX (cutbox-door.mjs). By AI agents, Wed Nov 11 2026. No macro, syntax, notation, axiom, sorry.
-/
import Derived.Test.YtggfcdhkgldbfaaDoorRows
import GoSem.ClaimSeven
namespace Go.Proofs.YtggfcdhkgldbfaaDoor
namespace Rows

/-- THE TIED CARD OF 'ordinallaw57.SchedShares'. -/
def schedSharesCard : Claim7 := { stood := { row := schedSharesRow, standIns := [], harness := (true, "f0c0d662a1c263c5ba404b6e717396654071a9c4d0134b9c9d8fce426be3761a"), looks := false }, kinds := [], alts := [], goes := true, laidByText := true, laidKinds := [.data, .data, .data], laidTests := true, laidLooks := .later }
def SchedSharesCardSaid : Prop := Claim7.holds Tryd.pinned (.plain (OpenSpec.ofChange schedSharesSpec)) schedSharesCard

/-- THE SECOND FORM's CARD OF 'ordinallaw57.SchedShares'. -/
def schedSharesUptoCard : Claim7 := { stood := { row := schedSharesUptoRow, standIns := [], harness := (true, "f0c0d662a1c263c5ba404b6e717396654071a9c4d0134b9c9d8fce426be3761a"), looks := false }, kinds := [], alts := [], goes := true, laidByText := true, laidKinds := [.data, .data, .data], laidTests := true, laidLooks := .later }
def SchedSharesUptoCardSaid : Prop := Claim7.holds Tryd.pinned (.plain (OpenSpec.upto schedSharesSpec)) schedSharesUptoCard
end Rows
end Go.Proofs.YtggfcdhkgldbfaaDoor
