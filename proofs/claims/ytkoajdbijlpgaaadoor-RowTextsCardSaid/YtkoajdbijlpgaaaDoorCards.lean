/-
  DERIVED. GIVEN WITH THE SEED: THE CARDS: each row of YtkoajdbijlpgaaaDoorRows.lean that lists a variable, with what it lists TIED to the program's text (the seventh form; the later family's looks); each row that meets fmt, with fmt's text TOLD by the authors' own Lean function (tested against real Go, not proved from fmt's source: count such statements apart). THE CARD IS WHAT COUNTS. Prove the row's statement (the work); the ties are given (YtkoajdbijlpgaaaDoorTie.lean); close each card by the builder's one call (the guide's Derived/Test/ToyasCard.lean, 'card_holds'). Laid BY PROGRAM, IN A SANDBOX (cutbox-door.mjs). By AI agents, Wed Nov 11 2026. No macro, syntax, notation, axiom, sorry.
-/
import Derived.Test.YtkoajdbijlpgaaaDoorRows
import GoSem.ClaimSeven
namespace Go.Proofs.YtkoajdbijlpgaaaDoor
namespace Rows

/-- THE TIED CARD OF 'ordinallaw02.RowOrders'. -/
def rowOrdersCard : Claim7 := { stood := { row := rowOrdersRow, standIns := [], harness := (true, "96689acbc1e9df58b06032f0492e24b442834d5796ad96eec5b2ffe7db403d23"), looks := true }, kinds := [], alts := [], laidByText := true, laidKinds := [.data, .data, .data], laidTests := true, laidLooks := .later }
def RowOrdersCardSaid : Prop := Claim7.holds Tryd.pinned (.plain (OpenSpec.ofChange rowOrdersSpec)) rowOrdersCard

/-- THE TIED CARD OF 'ordinallaw02.RowProjects'. -/
def rowProjectsCard : Claim7 := { stood := { row := rowProjectsRow, standIns := [], harness := (true, "96689acbc1e9df58b06032f0492e24b442834d5796ad96eec5b2ffe7db403d23"), looks := true }, kinds := [], alts := [], laidByText := true, laidKinds := [.data, .data, .data], laidTests := true, laidLooks := .later }
def RowProjectsCardSaid : Prop := Claim7.holds Tryd.pinned (.plain (OpenSpec.ofChange rowProjectsSpec)) rowProjectsCard

/-- THE TIED CARD OF 'ordinallaw02.RowCompares'. -/
def rowComparesCard : Claim7 := { stood := { row := rowComparesRow, standIns := [], harness := (true, "96689acbc1e9df58b06032f0492e24b442834d5796ad96eec5b2ffe7db403d23"), looks := true }, kinds := [], alts := [], laidByText := true, laidKinds := [.data, .data, .data], laidTests := true, laidLooks := .later }
def RowComparesCardSaid : Prop := Claim7.holds Tryd.pinned (.plain (OpenSpec.ofChange rowComparesSpec)) rowComparesCard

/-- THE TIED CARD OF 'ordinallaw02.RowKeys'. -/
def rowKeysCard : Claim7 := { stood := { row := rowKeysRow, standIns := [], harness := (true, "96689acbc1e9df58b06032f0492e24b442834d5796ad96eec5b2ffe7db403d23"), looks := true }, kinds := [], alts := [], laidByText := true, laidKinds := [.data, .data, .data], laidTests := true, laidLooks := .later }
def RowKeysCardSaid : Prop := Claim7.holds Tryd.pinned (.plain (OpenSpec.ofChange rowKeysSpec)) rowKeysCard

/-- THE TIED CARD OF 'ordinallaw02.RowSorts'. -/
def rowSortsCard : Claim7 := { stood := { row := rowSortsRow, standIns := [], harness := (true, "96689acbc1e9df58b06032f0492e24b442834d5796ad96eec5b2ffe7db403d23"), looks := true }, kinds := [], alts := [], laidByText := true, laidKinds := [.data, .data, .data], laidTests := true, laidLooks := .later }
def RowSortsCardSaid : Prop := Claim7.holds Tryd.pinned (.plain (OpenSpec.ofChange rowSortsSpec)) rowSortsCard

/-- THE TIED CARD OF 'ordinallaw02.RowSearches'. -/
def rowSearchesCard : Claim7 := { stood := { row := rowSearchesRow, standIns := [], harness := (true, "96689acbc1e9df58b06032f0492e24b442834d5796ad96eec5b2ffe7db403d23"), looks := true }, kinds := [], alts := [], laidByText := true, laidKinds := [.data, .data, .data], laidTests := true, laidLooks := .later }
def RowSearchesCardSaid : Prop := Claim7.holds Tryd.pinned (.plain (OpenSpec.ofChange rowSearchesSpec)) rowSearchesCard

/-- THE TIED CARD OF 'ordinallaw01.ValueMakes'. -/
def valueMakesCard : Claim7 := { stood := { row := valueMakesRow, standIns := [], harness := (true, "96689acbc1e9df58b06032f0492e24b442834d5796ad96eec5b2ffe7db403d23"), looks := true }, kinds := [], alts := [], laidByText := true, laidKinds := [.data, .data, .data, .sentinel, .sentinel], laidTests := true, laidLooks := .later }
def ValueMakesCardSaid : Prop := Claim7.holds Tryd.pinned (.plain (OpenSpec.ofChange valueMakesSpec)) valueMakesCard

/-- THE TIED CARD OF 'ordinallaw01.ValueCompares'. -/
def valueComparesCard : Claim7 := { stood := { row := valueComparesRow, standIns := [], harness := (true, "96689acbc1e9df58b06032f0492e24b442834d5796ad96eec5b2ffe7db403d23"), looks := true }, kinds := [], alts := [], laidByText := true, laidKinds := [.data, .data, .data, .sentinel, .sentinel], laidTests := true, laidLooks := .later }
def ValueComparesCardSaid : Prop := Claim7.holds Tryd.pinned (.plain (OpenSpec.ofChange valueComparesSpec)) valueComparesCard

/-- THE TIED CARD OF 'ordinallaw01.ValueOrders'. -/
def valueOrdersCard : Claim7 := { stood := { row := valueOrdersRow, standIns := [], harness := (true, "96689acbc1e9df58b06032f0492e24b442834d5796ad96eec5b2ffe7db403d23"), looks := true }, kinds := [], alts := [], laidByText := true, laidKinds := [.data, .data, .data, .sentinel, .sentinel], laidTests := true, laidLooks := .later }
def ValueOrdersCardSaid : Prop := Claim7.holds Tryd.pinned (.plain (OpenSpec.ofChange valueOrdersSpec)) valueOrdersCard

/-- THE TIED CARD OF 'ordinallaw01.ValueTexts'. -/
def valueTextsCard : Claim7 := { stood := { row := valueTextsRow, standIns := [], harness := (true, "96689acbc1e9df58b06032f0492e24b442834d5796ad96eec5b2ffe7db403d23"), looks := true }, kinds := [], alts := [], laidByText := true, laidKinds := [.data, .data, .data, .sentinel, .sentinel], laidTests := true, laidLooks := .later }
def ValueTextsCardSaid : Prop := Claim7.holds Tryd.pinned (.plain (OpenSpec.ofChange valueTextsSpec)) valueTextsCard

/-- THE TIED CARD OF 'ordinallaw01.ValueParses'. -/
def valueParsesCard : Claim7 := { stood := { row := valueParsesRow, standIns := [], harness := (true, "96689acbc1e9df58b06032f0492e24b442834d5796ad96eec5b2ffe7db403d23"), looks := true }, kinds := [], alts := [], laidByText := true, laidKinds := [.data, .data, .data, .sentinel, .sentinel], laidTests := true, laidLooks := .later }
def ValueParsesCardSaid : Prop := Claim7.holds Tryd.pinned (.plain (OpenSpec.ofChange valueParsesSpec)) valueParsesCard

/-- THE TIED CARD OF 'ordinallaw01.ValueDiffers'. -/
def valueDiffersCard : Claim7 := { stood := { row := valueDiffersRow, standIns := [], harness := (true, "96689acbc1e9df58b06032f0492e24b442834d5796ad96eec5b2ffe7db403d23"), looks := true }, kinds := [], alts := [], laidByText := true, laidKinds := [.data, .data, .data, .sentinel, .sentinel], laidTests := true, laidLooks := .later }
def ValueDiffersCardSaid : Prop := Claim7.holds Tryd.pinned (.plain (OpenSpec.ofChange valueDiffersSpec)) valueDiffersCard

/-- THE TIED CARD OF 'ordinallaw01.ValueHolds'. -/
def valueHoldsCard : Claim7 := { stood := { row := valueHoldsRow, standIns := [], harness := (true, "96689acbc1e9df58b06032f0492e24b442834d5796ad96eec5b2ffe7db403d23"), looks := true }, kinds := [], alts := [], laidByText := true, laidKinds := [.data, .data, .data, .sentinel, .sentinel], laidTests := true, laidLooks := .later }
def ValueHoldsCardSaid : Prop := Claim7.holds Tryd.pinned (.plain (OpenSpec.ofChange valueHoldsSpec)) valueHoldsCard

/-- THE TIED CARD OF 'ordinallaw02.RowTexts'. -/
def rowTextsCard : Claim7 := { stood := { row := rowTextsRow, standIns := [], harness := (true, "96689acbc1e9df58b06032f0492e24b442834d5796ad96eec5b2ffe7db403d23"), looks := true }, kinds := [], alts := [], laidByText := true, laidKinds := [.data, .data, .data, .sentinel, .sentinel], laidTests := true, laidLooks := .later }
def RowTextsCardSaid : Prop := Claim7.holds Tryd.pinned (.plain (OpenSpec.ofChange rowTextsSpec)) rowTextsCard

/-- THE SECOND FORM's CARD OF 'ordinallaw02.RowOrders'. -/
def rowOrdersUptoCard : Claim7 := { stood := { row := rowOrdersUptoRow, standIns := [], harness := (true, "96689acbc1e9df58b06032f0492e24b442834d5796ad96eec5b2ffe7db403d23"), looks := true }, kinds := [], alts := [], laidByText := true, laidKinds := [.data, .data, .data], laidTests := true, laidLooks := .later }
def RowOrdersUptoCardSaid : Prop := Claim7.holds Tryd.pinned (.plain (OpenSpec.upto rowOrdersSpec)) rowOrdersUptoCard

/-- THE SECOND FORM's CARD OF 'ordinallaw02.RowProjects'. -/
def rowProjectsUptoCard : Claim7 := { stood := { row := rowProjectsUptoRow, standIns := [], harness := (true, "96689acbc1e9df58b06032f0492e24b442834d5796ad96eec5b2ffe7db403d23"), looks := true }, kinds := [], alts := [], laidByText := true, laidKinds := [.data, .data, .data], laidTests := true, laidLooks := .later }
def RowProjectsUptoCardSaid : Prop := Claim7.holds Tryd.pinned (.plain (OpenSpec.upto rowProjectsSpec)) rowProjectsUptoCard

/-- THE SECOND FORM's CARD OF 'ordinallaw02.RowCompares'. -/
def rowComparesUptoCard : Claim7 := { stood := { row := rowComparesUptoRow, standIns := [], harness := (true, "96689acbc1e9df58b06032f0492e24b442834d5796ad96eec5b2ffe7db403d23"), looks := true }, kinds := [], alts := [], laidByText := true, laidKinds := [.data, .data, .data], laidTests := true, laidLooks := .later }
def RowComparesUptoCardSaid : Prop := Claim7.holds Tryd.pinned (.plain (OpenSpec.upto rowComparesSpec)) rowComparesUptoCard

/-- THE SECOND FORM's CARD OF 'ordinallaw02.RowKeys'. -/
def rowKeysUptoCard : Claim7 := { stood := { row := rowKeysUptoRow, standIns := [], harness := (true, "96689acbc1e9df58b06032f0492e24b442834d5796ad96eec5b2ffe7db403d23"), looks := true }, kinds := [], alts := [], laidByText := true, laidKinds := [.data, .data, .data], laidTests := true, laidLooks := .later }
def RowKeysUptoCardSaid : Prop := Claim7.holds Tryd.pinned (.plain (OpenSpec.upto rowKeysSpec)) rowKeysUptoCard

/-- THE SECOND FORM's CARD OF 'ordinallaw02.RowSorts'. -/
def rowSortsUptoCard : Claim7 := { stood := { row := rowSortsUptoRow, standIns := [], harness := (true, "96689acbc1e9df58b06032f0492e24b442834d5796ad96eec5b2ffe7db403d23"), looks := true }, kinds := [], alts := [], laidByText := true, laidKinds := [.data, .data, .data], laidTests := true, laidLooks := .later }
def RowSortsUptoCardSaid : Prop := Claim7.holds Tryd.pinned (.plain (OpenSpec.upto rowSortsSpec)) rowSortsUptoCard

/-- THE SECOND FORM's CARD OF 'ordinallaw02.RowSearches'. -/
def rowSearchesUptoCard : Claim7 := { stood := { row := rowSearchesUptoRow, standIns := [], harness := (true, "96689acbc1e9df58b06032f0492e24b442834d5796ad96eec5b2ffe7db403d23"), looks := true }, kinds := [], alts := [], laidByText := true, laidKinds := [.data, .data, .data], laidTests := true, laidLooks := .later }
def RowSearchesUptoCardSaid : Prop := Claim7.holds Tryd.pinned (.plain (OpenSpec.upto rowSearchesSpec)) rowSearchesUptoCard

/-- THE SECOND FORM's CARD OF 'ordinallaw01.ValueMakes'. -/
def valueMakesUptoCard : Claim7 := { stood := { row := valueMakesUptoRow, standIns := [], harness := (true, "96689acbc1e9df58b06032f0492e24b442834d5796ad96eec5b2ffe7db403d23"), looks := true }, kinds := [], alts := [], laidByText := true, laidKinds := [.data, .data, .data, .sentinel, .sentinel], laidTests := true, laidLooks := .later }
def ValueMakesUptoCardSaid : Prop := Claim7.holds Tryd.pinned (.plain (OpenSpec.upto valueMakesSpec)) valueMakesUptoCard

/-- THE SECOND FORM's CARD OF 'ordinallaw01.ValueCompares'. -/
def valueComparesUptoCard : Claim7 := { stood := { row := valueComparesUptoRow, standIns := [], harness := (true, "96689acbc1e9df58b06032f0492e24b442834d5796ad96eec5b2ffe7db403d23"), looks := true }, kinds := [], alts := [], laidByText := true, laidKinds := [.data, .data, .data, .sentinel, .sentinel], laidTests := true, laidLooks := .later }
def ValueComparesUptoCardSaid : Prop := Claim7.holds Tryd.pinned (.plain (OpenSpec.upto valueComparesSpec)) valueComparesUptoCard

/-- THE SECOND FORM's CARD OF 'ordinallaw01.ValueOrders'. -/
def valueOrdersUptoCard : Claim7 := { stood := { row := valueOrdersUptoRow, standIns := [], harness := (true, "96689acbc1e9df58b06032f0492e24b442834d5796ad96eec5b2ffe7db403d23"), looks := true }, kinds := [], alts := [], laidByText := true, laidKinds := [.data, .data, .data, .sentinel, .sentinel], laidTests := true, laidLooks := .later }
def ValueOrdersUptoCardSaid : Prop := Claim7.holds Tryd.pinned (.plain (OpenSpec.upto valueOrdersSpec)) valueOrdersUptoCard

/-- THE SECOND FORM's CARD OF 'ordinallaw01.ValueTexts'. -/
def valueTextsUptoCard : Claim7 := { stood := { row := valueTextsUptoRow, standIns := [], harness := (true, "96689acbc1e9df58b06032f0492e24b442834d5796ad96eec5b2ffe7db403d23"), looks := true }, kinds := [], alts := [], laidByText := true, laidKinds := [.data, .data, .data, .sentinel, .sentinel], laidTests := true, laidLooks := .later }
def ValueTextsUptoCardSaid : Prop := Claim7.holds Tryd.pinned (.plain (OpenSpec.upto valueTextsSpec)) valueTextsUptoCard

/-- THE SECOND FORM's CARD OF 'ordinallaw01.ValueParses'. -/
def valueParsesUptoCard : Claim7 := { stood := { row := valueParsesUptoRow, standIns := [], harness := (true, "96689acbc1e9df58b06032f0492e24b442834d5796ad96eec5b2ffe7db403d23"), looks := true }, kinds := [], alts := [], laidByText := true, laidKinds := [.data, .data, .data, .sentinel, .sentinel], laidTests := true, laidLooks := .later }
def ValueParsesUptoCardSaid : Prop := Claim7.holds Tryd.pinned (.plain (OpenSpec.upto valueParsesSpec)) valueParsesUptoCard

/-- THE SECOND FORM's CARD OF 'ordinallaw01.ValueDiffers'. -/
def valueDiffersUptoCard : Claim7 := { stood := { row := valueDiffersUptoRow, standIns := [], harness := (true, "96689acbc1e9df58b06032f0492e24b442834d5796ad96eec5b2ffe7db403d23"), looks := true }, kinds := [], alts := [], laidByText := true, laidKinds := [.data, .data, .data, .sentinel, .sentinel], laidTests := true, laidLooks := .later }
def ValueDiffersUptoCardSaid : Prop := Claim7.holds Tryd.pinned (.plain (OpenSpec.upto valueDiffersSpec)) valueDiffersUptoCard

/-- THE SECOND FORM's CARD OF 'ordinallaw01.ValueHolds'. -/
def valueHoldsUptoCard : Claim7 := { stood := { row := valueHoldsUptoRow, standIns := [], harness := (true, "96689acbc1e9df58b06032f0492e24b442834d5796ad96eec5b2ffe7db403d23"), looks := true }, kinds := [], alts := [], laidByText := true, laidKinds := [.data, .data, .data, .sentinel, .sentinel], laidTests := true, laidLooks := .later }
def ValueHoldsUptoCardSaid : Prop := Claim7.holds Tryd.pinned (.plain (OpenSpec.upto valueHoldsSpec)) valueHoldsUptoCard

/-- THE SECOND FORM's CARD OF 'ordinallaw02.RowTexts'. -/
def rowTextsUptoCard : Claim7 := { stood := { row := rowTextsUptoRow, standIns := [], harness := (true, "96689acbc1e9df58b06032f0492e24b442834d5796ad96eec5b2ffe7db403d23"), looks := true }, kinds := [], alts := [], laidByText := true, laidKinds := [.data, .data, .data, .sentinel, .sentinel], laidTests := true, laidLooks := .later }
def RowTextsUptoCardSaid : Prop := Claim7.holds Tryd.pinned (.plain (OpenSpec.upto rowTextsSpec)) rowTextsUptoCard
end Rows
end Go.Proofs.YtkoajdbijlpgaaaDoor
