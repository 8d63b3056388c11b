/-
  NARROWER THAN 'FOR EVERY INPUT', by the rows' own cells (each row's printed sentence says how): RowOrders: laid · RowProjects: laid · RowCompares: laid · RowKeys: laid · RowSorts: laid · RowSearches: laid · ValueMakes: laid · ValueCompares: laid · ValueOrders: laid · ValueTexts: laid · ValueParses: laid · ValueDiffers: laid · ValueHolds: laid · RowTexts: laid.
  DERIVED. THE GIVEN ROWS OF THIS SEAT. 14 by the template 'for every input the law returns true; each argument reads behind the call as it read before'; 0 by the template 'total and deterministic' (their statements: YtkoajdbijlpgaaaDoorTotals.lean).
  GIVEN WITH THE SEED: the statements are not yours to turn. If you find one false, say at which input.
  Laid BY PROGRAM, IN A SANDBOX (cutbox-rows.mjs): the forced cells as the released guide's own fill.sh prints them over the translation a6fdfd4bef0b8a25… (all of the seat's roots in one cut). By AI agents, Wed Nov 11 2026. No macro, syntax, notation, axiom, sorry.
-/
import Derived.Test.YtkoajdbijlpgaaaDoorChecked
import GoSem.Claim
import GoSem.ClaimJoined
import GoSem.ClaimMapViews
import Derived.JoinedTies
import Derived.KernelRfl
namespace Go.Proofs.YtkoajdbijlpgaaaDoor
/- THE CELL 'sum', in the pinned program and in every row, IS THE sha256 OF THE DUMP (.gsa) THAT YtkoajdbijlpgaaaDoorProg.lean LOADS. Nothing in Lean hashes anything: it is a label: what it is worth is what the hold of that sum in a sandbox is worth. -/
noncomputable def Tryd.pinned : Pinned := { name := "ytkoajdbijlpgaaadoor", sum := "a6fdfd4bef0b8a250e065a61f50201bb7074426637e34966dffe7d5cd2855203", checked := Tryd.checked }
namespace Rows
def none {H : Type} : Left H := { results := [], args := [] }

/- WHAT THE LISTED PACKAGE-LEVEL VARIABLES READ AS WHEN THE CALL BEGINS. Each datum BY PROGRAM (the guide's laid-datum.mjs) off the statement by which the dump's own 'gosem.cut.vars' lays the variable. In a bare row this is a premise. The card (YtkoajdbijlpgaaaDoorCards.lean) ties it to the program's text. -/
def laid_math_bits_deBruijn32tab {H : Type} : DataW H := .agg [.lit (.int .u8 0), .lit (.int .u8 1), .lit (.int .u8 28), .lit (.int .u8 2), .lit (.int .u8 29), .lit (.int .u8 14), .lit (.int .u8 24), .lit (.int .u8 3), .lit (.int .u8 30), .lit (.int .u8 22), .lit (.int .u8 20), .lit (.int .u8 15), .lit (.int .u8 25), .lit (.int .u8 17), .lit (.int .u8 4), .lit (.int .u8 8), .lit (.int .u8 31), .lit (.int .u8 27), .lit (.int .u8 13), .lit (.int .u8 23), .lit (.int .u8 21), .lit (.int .u8 19), .lit (.int .u8 16), .lit (.int .u8 7), .lit (.int .u8 26), .lit (.int .u8 12), .lit (.int .u8 18), .lit (.int .u8 6), .lit (.int .u8 11), .lit (.int .u8 5), .lit (.int .u8 10), .lit (.int .u8 9)]
def laid_math_bits_deBruijn64tab {H : Type} : DataW H := .agg [.lit (.int .u8 0), .lit (.int .u8 1), .lit (.int .u8 56), .lit (.int .u8 2), .lit (.int .u8 57), .lit (.int .u8 49), .lit (.int .u8 28), .lit (.int .u8 3), .lit (.int .u8 61), .lit (.int .u8 58), .lit (.int .u8 42), .lit (.int .u8 50), .lit (.int .u8 38), .lit (.int .u8 29), .lit (.int .u8 17), .lit (.int .u8 4), .lit (.int .u8 62), .lit (.int .u8 47), .lit (.int .u8 59), .lit (.int .u8 36), .lit (.int .u8 45), .lit (.int .u8 43), .lit (.int .u8 51), .lit (.int .u8 22), .lit (.int .u8 53), .lit (.int .u8 39), .lit (.int .u8 33), .lit (.int .u8 30), .lit (.int .u8 24), .lit (.int .u8 18), .lit (.int .u8 12), .lit (.int .u8 5), .lit (.int .u8 63), .lit (.int .u8 55), .lit (.int .u8 48), .lit (.int .u8 27), .lit (.int .u8 60), .lit (.int .u8 41), .lit (.int .u8 37), .lit (.int .u8 16), .lit (.int .u8 46), .lit (.int .u8 35), .lit (.int .u8 44), .lit (.int .u8 21), .lit (.int .u8 52), .lit (.int .u8 32), .lit (.int .u8 23), .lit (.int .u8 11), .lit (.int .u8 54), .lit (.int .u8 26), .lit (.int .u8 40), .lit (.int .u8 15), .lit (.int .u8 34), .lit (.int .u8 20), .lit (.int .u8 31), .lit (.int .u8 10), .lit (.int .u8 25), .lit (.int .u8 14), .lit (.int .u8 19), .lit (.int .u8 9), .lit (.int .u8 13), .lit (.int .u8 8), .lit (.int .u8 7), .lit (.int .u8 6)]
def laid_internal_strconv_uint64pow10 {H : Type} : DataW H := .agg [.lit (.int .u64 1), .lit (.int .u64 10), .lit (.int .u64 100), .lit (.int .u64 1000), .lit (.int .u64 10000), .lit (.int .u64 100000), .lit (.int .u64 1000000), .lit (.int .u64 10000000), .lit (.int .u64 100000000), .lit (.int .u64 1000000000), .lit (.int .u64 10000000000), .lit (.int .u64 100000000000), .lit (.int .u64 1000000000000), .lit (.int .u64 10000000000000), .lit (.int .u64 100000000000000), .lit (.int .u64 1000000000000000), .lit (.int .u64 10000000000000000), .lit (.int .u64 100000000000000000), .lit (.int .u64 1000000000000000000), .lit (.int .u64 10000000000000000000)]
def laid_strconv_ErrRange {H : Type} : DataW H := .iface "*errors.errorString" (.ptr (.agg [.lit (.string [118, 97, 108, 117, 101, 32, 111, 117, 116, 32, 111, 102, 32, 114, 97, 110, 103, 101])]))
def laid_strconv_ErrSyntax {H : Type} : DataW H := .iface "*errors.errorString" (.ptr (.agg [.lit (.string [105, 110, 118, 97, 108, 105, 100, 32, 115, 121, 110, 116, 97, 120])]))

/-- 'ordinallaw02.RowOrders': WHATEVER THE INPUT: true; the input reads as it did. -/
def rowOrdersSpec : ChangeSpec := { name := "rowOrders", fn := fun _ => fun
  | [d1, d2] => { results := [.lit (.bool true)], args := [d1, d2] }
  | _ => none }
def rowOrdersRow : OpenClaim := { program := "ytkoajdbijlpgaaadoor", sum := "a6fdfd4bef0b8a250e065a61f50201bb7074426637e34966dffe7d5cd2855203", func := "ordinal/ordinallaw02.RowOrders", spec := "rowOrders", inPlace := ["internal/abi.NoEscape", "internal/bytealg.abigen_runtime_cmpstring"], named := ["internal/strconv.uint64pow10", "math/bits.deBruijn32tab", "math/bits.deBruijn64tab"], apart := false, laid := [("math/bits.deBruijn32tab", laid_math_bits_deBruijn32tab), ("math/bits.deBruijn64tab", laid_math_bits_deBruijn64tab), ("internal/strconv.uint64pow10", laid_internal_strconv_uint64pow10)] }
def RowOrdersSaid : Prop := rowOrdersRow.holds Tryd.pinned (OpenSpec.ofChange rowOrdersSpec)

/-- ITS FALSE NEIGHBOUR: 'it returns false'. Refute it at one input. -/
def rowOrdersWrong : ChangeSpec := { name := "rowOrders", fn := fun _ => fun
  | [d1, d2] => { results := [.lit (.bool false)], args := [d1, d2] }
  | _ => none }
def RowOrdersWrongFalsely : Prop := rowOrdersRow.holds Tryd.pinned (OpenSpec.ofChange rowOrdersWrong)

/-- 'ordinallaw02.RowProjects': WHATEVER THE INPUT: true; the input reads as it did. -/
def rowProjectsSpec : ChangeSpec := { name := "rowProjects", fn := fun _ => fun
  | [d1, d2] => { results := [.lit (.bool true)], args := [d1, d2] }
  | _ => none }
def rowProjectsRow : OpenClaim := { program := "ytkoajdbijlpgaaadoor", sum := "a6fdfd4bef0b8a250e065a61f50201bb7074426637e34966dffe7d5cd2855203", func := "ordinal/ordinallaw02.RowProjects", spec := "rowProjects", inPlace := ["internal/abi.NoEscape", "internal/bytealg.abigen_runtime_cmpstring"], named := ["internal/strconv.uint64pow10", "math/bits.deBruijn32tab", "math/bits.deBruijn64tab"], apart := false, laid := [("math/bits.deBruijn32tab", laid_math_bits_deBruijn32tab), ("math/bits.deBruijn64tab", laid_math_bits_deBruijn64tab), ("internal/strconv.uint64pow10", laid_internal_strconv_uint64pow10)] }
def RowProjectsSaid : Prop := rowProjectsRow.holds Tryd.pinned (OpenSpec.ofChange rowProjectsSpec)

/-- ITS FALSE NEIGHBOUR: 'it returns false'. Refute it at one input. -/
def rowProjectsWrong : ChangeSpec := { name := "rowProjects", fn := fun _ => fun
  | [d1, d2] => { results := [.lit (.bool false)], args := [d1, d2] }
  | _ => none }
def RowProjectsWrongFalsely : Prop := rowProjectsRow.holds Tryd.pinned (OpenSpec.ofChange rowProjectsWrong)

/-- 'ordinallaw02.RowCompares': WHATEVER THE INPUT: true; the input reads as it did. -/
def rowComparesSpec : ChangeSpec := { name := "rowCompares", fn := fun _ => fun
  | [d1, d2, d3] => { results := [.lit (.bool true)], args := [d1, d2, d3] }
  | _ => none }
def rowComparesRow : OpenClaim := { program := "ytkoajdbijlpgaaadoor", sum := "a6fdfd4bef0b8a250e065a61f50201bb7074426637e34966dffe7d5cd2855203", func := "ordinal/ordinallaw02.RowCompares", spec := "rowCompares", inPlace := ["internal/abi.NoEscape", "internal/bytealg.abigen_runtime_cmpstring"], named := ["internal/strconv.uint64pow10", "math/bits.deBruijn32tab", "math/bits.deBruijn64tab"], apart := false, laid := [("math/bits.deBruijn32tab", laid_math_bits_deBruijn32tab), ("math/bits.deBruijn64tab", laid_math_bits_deBruijn64tab), ("internal/strconv.uint64pow10", laid_internal_strconv_uint64pow10)] }
def RowComparesSaid : Prop := rowComparesRow.holds Tryd.pinned (OpenSpec.ofChange rowComparesSpec)

/-- ITS FALSE NEIGHBOUR: 'it returns false'. Refute it at one input. -/
def rowComparesWrong : ChangeSpec := { name := "rowCompares", fn := fun _ => fun
  | [d1, d2, d3] => { results := [.lit (.bool false)], args := [d1, d2, d3] }
  | _ => none }
def RowComparesWrongFalsely : Prop := rowComparesRow.holds Tryd.pinned (OpenSpec.ofChange rowComparesWrong)

/-- 'ordinallaw02.RowKeys': WHATEVER THE INPUT: true; the input reads as it did. -/
def rowKeysSpec : ChangeSpec := { name := "rowKeys", fn := fun _ => fun
  | [d1, d2] => { results := [.lit (.bool true)], args := [d1, d2] }
  | _ => none }
def rowKeysRow : OpenClaim := { program := "ytkoajdbijlpgaaadoor", sum := "a6fdfd4bef0b8a250e065a61f50201bb7074426637e34966dffe7d5cd2855203", func := "ordinal/ordinallaw02.RowKeys", spec := "rowKeys", inPlace := ["internal/abi.NoEscape", "internal/bytealg.abigen_runtime_cmpstring"], named := ["internal/strconv.uint64pow10", "math/bits.deBruijn32tab", "math/bits.deBruijn64tab"], apart := false, laid := [("math/bits.deBruijn32tab", laid_math_bits_deBruijn32tab), ("math/bits.deBruijn64tab", laid_math_bits_deBruijn64tab), ("internal/strconv.uint64pow10", laid_internal_strconv_uint64pow10)] }
def RowKeysSaid : Prop := rowKeysRow.holds Tryd.pinned (OpenSpec.ofChange rowKeysSpec)

/-- ITS FALSE NEIGHBOUR: 'it returns false'. Refute it at one input. -/
def rowKeysWrong : ChangeSpec := { name := "rowKeys", fn := fun _ => fun
  | [d1, d2] => { results := [.lit (.bool false)], args := [d1, d2] }
  | _ => none }
def RowKeysWrongFalsely : Prop := rowKeysRow.holds Tryd.pinned (OpenSpec.ofChange rowKeysWrong)

/-- 'ordinallaw02.RowSorts': WHATEVER THE INPUT: true; the input reads as it did. -/
def rowSortsSpec : ChangeSpec := { name := "rowSorts", fn := fun _ => fun
  | [d1, d2] => { results := [.lit (.bool true)], args := [d1, d2] }
  | _ => none }
def rowSortsRow : OpenClaim := { program := "ytkoajdbijlpgaaadoor", sum := "a6fdfd4bef0b8a250e065a61f50201bb7074426637e34966dffe7d5cd2855203", func := "ordinal/ordinallaw02.RowSorts", spec := "rowSorts", inPlace := ["internal/abi.NoEscape", "internal/bytealg.abigen_runtime_cmpstring"], unfollowed := true, recurses := true, named := ["internal/strconv.uint64pow10", "math/bits.deBruijn32tab", "math/bits.deBruijn64tab"], apart := false, laid := [("math/bits.deBruijn32tab", laid_math_bits_deBruijn32tab), ("math/bits.deBruijn64tab", laid_math_bits_deBruijn64tab), ("internal/strconv.uint64pow10", laid_internal_strconv_uint64pow10)] }
def RowSortsSaid : Prop := rowSortsRow.holds Tryd.pinned (OpenSpec.ofChange rowSortsSpec)

/-- ITS FALSE NEIGHBOUR: 'it returns false'. Refute it at one input. -/
def rowSortsWrong : ChangeSpec := { name := "rowSorts", fn := fun _ => fun
  | [d1, d2] => { results := [.lit (.bool false)], args := [d1, d2] }
  | _ => none }
def RowSortsWrongFalsely : Prop := rowSortsRow.holds Tryd.pinned (OpenSpec.ofChange rowSortsWrong)

/-- 'ordinallaw02.RowSearches': WHATEVER THE INPUT: true; the input reads as it did. -/
def rowSearchesSpec : ChangeSpec := { name := "rowSearches", fn := fun _ => fun
  | [d1, d2, d3] => { results := [.lit (.bool true)], args := [d1, d2, d3] }
  | _ => none }
def rowSearchesRow : OpenClaim := { program := "ytkoajdbijlpgaaadoor", sum := "a6fdfd4bef0b8a250e065a61f50201bb7074426637e34966dffe7d5cd2855203", func := "ordinal/ordinallaw02.RowSearches", spec := "rowSearches", inPlace := ["internal/abi.NoEscape", "internal/bytealg.abigen_runtime_cmpstring"], unfollowed := true, recurses := true, named := ["internal/strconv.uint64pow10", "math/bits.deBruijn32tab", "math/bits.deBruijn64tab"], apart := false, laid := [("math/bits.deBruijn32tab", laid_math_bits_deBruijn32tab), ("math/bits.deBruijn64tab", laid_math_bits_deBruijn64tab), ("internal/strconv.uint64pow10", laid_internal_strconv_uint64pow10)] }
def RowSearchesSaid : Prop := rowSearchesRow.holds Tryd.pinned (OpenSpec.ofChange rowSearchesSpec)

/-- ITS FALSE NEIGHBOUR: 'it returns false'. Refute it at one input. -/
def rowSearchesWrong : ChangeSpec := { name := "rowSearches", fn := fun _ => fun
  | [d1, d2, d3] => { results := [.lit (.bool false)], args := [d1, d2, d3] }
  | _ => none }
def RowSearchesWrongFalsely : Prop := rowSearchesRow.holds Tryd.pinned (OpenSpec.ofChange rowSearchesWrong)

/-- 'ordinallaw01.ValueMakes': WHATEVER THE INPUT: true; the input reads as it did. -/
def valueMakesSpec : ChangeSpec := { name := "valueMakes", fn := fun _ => fun
  | [d1, d2, d3] => { results := [.lit (.bool true)], args := [d1, d2, d3] }
  | _ => none }
def valueMakesRow : OpenClaim := { program := "ytkoajdbijlpgaaadoor", sum := "a6fdfd4bef0b8a250e065a61f50201bb7074426637e34966dffe7d5cd2855203", func := "ordinal/ordinallaw01.ValueMakes", spec := "valueMakes", inPlace := ["internal/bytealg.IndexByteString", "internal/bytealg.abigen_runtime_cmpstring"], named := ["strconv.ErrSyntax", "strconv.ErrRange", "internal/strconv.uint64pow10", "math/bits.deBruijn32tab", "math/bits.deBruijn64tab"], apart := false, laid := [("math/bits.deBruijn32tab", laid_math_bits_deBruijn32tab), ("math/bits.deBruijn64tab", laid_math_bits_deBruijn64tab), ("internal/strconv.uint64pow10", laid_internal_strconv_uint64pow10), ("strconv.ErrRange", laid_strconv_ErrRange), ("strconv.ErrSyntax", laid_strconv_ErrSyntax)] }
def ValueMakesSaid : Prop := valueMakesRow.holds Tryd.pinned (OpenSpec.ofChange valueMakesSpec)

/-- ITS FALSE NEIGHBOUR: 'it returns false'. Refute it at one input. -/
def valueMakesWrong : ChangeSpec := { name := "valueMakes", fn := fun _ => fun
  | [d1, d2, d3] => { results := [.lit (.bool false)], args := [d1, d2, d3] }
  | _ => none }
def ValueMakesWrongFalsely : Prop := valueMakesRow.holds Tryd.pinned (OpenSpec.ofChange valueMakesWrong)

/-- 'ordinallaw01.ValueCompares': WHATEVER THE INPUT: true; the input reads as it did. -/
def valueComparesSpec : ChangeSpec := { name := "valueCompares", fn := fun _ => fun
  | [d1, d2] => { results := [.lit (.bool true)], args := [d1, d2] }
  | _ => none }
def valueComparesRow : OpenClaim := { program := "ytkoajdbijlpgaaadoor", sum := "a6fdfd4bef0b8a250e065a61f50201bb7074426637e34966dffe7d5cd2855203", func := "ordinal/ordinallaw01.ValueCompares", spec := "valueCompares", inPlace := ["internal/bytealg.IndexByteString", "internal/bytealg.abigen_runtime_cmpstring"], named := ["strconv.ErrSyntax", "strconv.ErrRange", "internal/strconv.uint64pow10", "math/bits.deBruijn32tab", "math/bits.deBruijn64tab"], apart := false, laid := [("math/bits.deBruijn32tab", laid_math_bits_deBruijn32tab), ("math/bits.deBruijn64tab", laid_math_bits_deBruijn64tab), ("internal/strconv.uint64pow10", laid_internal_strconv_uint64pow10), ("strconv.ErrRange", laid_strconv_ErrRange), ("strconv.ErrSyntax", laid_strconv_ErrSyntax)] }
def ValueComparesSaid : Prop := valueComparesRow.holds Tryd.pinned (OpenSpec.ofChange valueComparesSpec)

/-- ITS FALSE NEIGHBOUR: 'it returns false'. Refute it at one input. -/
def valueComparesWrong : ChangeSpec := { name := "valueCompares", fn := fun _ => fun
  | [d1, d2] => { results := [.lit (.bool false)], args := [d1, d2] }
  | _ => none }
def ValueComparesWrongFalsely : Prop := valueComparesRow.holds Tryd.pinned (OpenSpec.ofChange valueComparesWrong)

/-- 'ordinallaw01.ValueOrders': WHATEVER THE INPUT: true; the input reads as it did. -/
def valueOrdersSpec : ChangeSpec := { name := "valueOrders", fn := fun _ => fun
  | [d1, d2, d3] => { results := [.lit (.bool true)], args := [d1, d2, d3] }
  | _ => none }
def valueOrdersRow : OpenClaim := { program := "ytkoajdbijlpgaaadoor", sum := "a6fdfd4bef0b8a250e065a61f50201bb7074426637e34966dffe7d5cd2855203", func := "ordinal/ordinallaw01.ValueOrders", spec := "valueOrders", inPlace := ["internal/bytealg.IndexByteString", "internal/bytealg.abigen_runtime_cmpstring"], named := ["strconv.ErrSyntax", "strconv.ErrRange", "internal/strconv.uint64pow10", "math/bits.deBruijn32tab", "math/bits.deBruijn64tab"], apart := false, laid := [("math/bits.deBruijn32tab", laid_math_bits_deBruijn32tab), ("math/bits.deBruijn64tab", laid_math_bits_deBruijn64tab), ("internal/strconv.uint64pow10", laid_internal_strconv_uint64pow10), ("strconv.ErrRange", laid_strconv_ErrRange), ("strconv.ErrSyntax", laid_strconv_ErrSyntax)] }
def ValueOrdersSaid : Prop := valueOrdersRow.holds Tryd.pinned (OpenSpec.ofChange valueOrdersSpec)

/-- ITS FALSE NEIGHBOUR: 'it returns false'. Refute it at one input. -/
def valueOrdersWrong : ChangeSpec := { name := "valueOrders", fn := fun _ => fun
  | [d1, d2, d3] => { results := [.lit (.bool false)], args := [d1, d2, d3] }
  | _ => none }
def ValueOrdersWrongFalsely : Prop := valueOrdersRow.holds Tryd.pinned (OpenSpec.ofChange valueOrdersWrong)

/-- 'ordinallaw01.ValueTexts': WHATEVER THE INPUT: true; the input reads as it did. -/
def valueTextsSpec : ChangeSpec := { name := "valueTexts", fn := fun _ => fun
  | [d] => { results := [.lit (.bool true)], args := [d] }
  | _ => none }
def valueTextsRow : OpenClaim := { program := "ytkoajdbijlpgaaadoor", sum := "a6fdfd4bef0b8a250e065a61f50201bb7074426637e34966dffe7d5cd2855203", func := "ordinal/ordinallaw01.ValueTexts", spec := "valueTexts", inPlace := ["internal/bytealg.IndexByteString", "internal/bytealg.abigen_runtime_cmpstring"], recurses := true, named := ["strconv.ErrSyntax", "strconv.ErrRange", "internal/strconv.uint64pow10", "math/bits.deBruijn32tab", "math/bits.deBruijn64tab"], apart := false, laid := [("math/bits.deBruijn32tab", laid_math_bits_deBruijn32tab), ("math/bits.deBruijn64tab", laid_math_bits_deBruijn64tab), ("internal/strconv.uint64pow10", laid_internal_strconv_uint64pow10), ("strconv.ErrRange", laid_strconv_ErrRange), ("strconv.ErrSyntax", laid_strconv_ErrSyntax)] }
def ValueTextsSaid : Prop := valueTextsRow.holds Tryd.pinned (OpenSpec.ofChange valueTextsSpec)

/-- ITS FALSE NEIGHBOUR: 'it returns false'. Refute it at one input. -/
def valueTextsWrong : ChangeSpec := { name := "valueTexts", fn := fun _ => fun
  | [d] => { results := [.lit (.bool false)], args := [d] }
  | _ => none }
def ValueTextsWrongFalsely : Prop := valueTextsRow.holds Tryd.pinned (OpenSpec.ofChange valueTextsWrong)

/-- 'ordinallaw01.ValueParses': WHATEVER THE INPUT: true; the input reads as it did. -/
def valueParsesSpec : ChangeSpec := { name := "valueParses", fn := fun _ => fun
  | [d] => { results := [.lit (.bool true)], args := [d] }
  | _ => none }
def valueParsesRow : OpenClaim := { program := "ytkoajdbijlpgaaadoor", sum := "a6fdfd4bef0b8a250e065a61f50201bb7074426637e34966dffe7d5cd2855203", func := "ordinal/ordinallaw01.ValueParses", spec := "valueParses", inPlace := ["internal/bytealg.IndexByteString", "internal/bytealg.abigen_runtime_cmpstring"], named := ["strconv.ErrSyntax", "strconv.ErrRange", "internal/strconv.uint64pow10", "math/bits.deBruijn32tab", "math/bits.deBruijn64tab"], apart := false, laid := [("math/bits.deBruijn32tab", laid_math_bits_deBruijn32tab), ("math/bits.deBruijn64tab", laid_math_bits_deBruijn64tab), ("internal/strconv.uint64pow10", laid_internal_strconv_uint64pow10), ("strconv.ErrRange", laid_strconv_ErrRange), ("strconv.ErrSyntax", laid_strconv_ErrSyntax)] }
def ValueParsesSaid : Prop := valueParsesRow.holds Tryd.pinned (OpenSpec.ofChange valueParsesSpec)

/-- ITS FALSE NEIGHBOUR: 'it returns false'. Refute it at one input. -/
def valueParsesWrong : ChangeSpec := { name := "valueParses", fn := fun _ => fun
  | [d] => { results := [.lit (.bool false)], args := [d] }
  | _ => none }
def ValueParsesWrongFalsely : Prop := valueParsesRow.holds Tryd.pinned (OpenSpec.ofChange valueParsesWrong)

/-- 'ordinallaw01.ValueDiffers': WHATEVER THE INPUT: true; the input reads as it did. -/
def valueDiffersSpec : ChangeSpec := { name := "valueDiffers", fn := fun _ => fun
  | [d1, d2] => { results := [.lit (.bool true)], args := [d1, d2] }
  | _ => none }
def valueDiffersRow : OpenClaim := { program := "ytkoajdbijlpgaaadoor", sum := "a6fdfd4bef0b8a250e065a61f50201bb7074426637e34966dffe7d5cd2855203", func := "ordinal/ordinallaw01.ValueDiffers", spec := "valueDiffers", inPlace := ["internal/bytealg.IndexByteString", "internal/bytealg.abigen_runtime_cmpstring"], named := ["strconv.ErrSyntax", "strconv.ErrRange", "internal/strconv.uint64pow10", "math/bits.deBruijn32tab", "math/bits.deBruijn64tab"], apart := false, laid := [("math/bits.deBruijn32tab", laid_math_bits_deBruijn32tab), ("math/bits.deBruijn64tab", laid_math_bits_deBruijn64tab), ("internal/strconv.uint64pow10", laid_internal_strconv_uint64pow10), ("strconv.ErrRange", laid_strconv_ErrRange), ("strconv.ErrSyntax", laid_strconv_ErrSyntax)] }
def ValueDiffersSaid : Prop := valueDiffersRow.holds Tryd.pinned (OpenSpec.ofChange valueDiffersSpec)

/-- ITS FALSE NEIGHBOUR: 'it returns false'. Refute it at one input. -/
def valueDiffersWrong : ChangeSpec := { name := "valueDiffers", fn := fun _ => fun
  | [d1, d2] => { results := [.lit (.bool false)], args := [d1, d2] }
  | _ => none }
def ValueDiffersWrongFalsely : Prop := valueDiffersRow.holds Tryd.pinned (OpenSpec.ofChange valueDiffersWrong)

/-- 'ordinallaw01.ValueHolds': WHATEVER THE INPUT: true; the input reads as it did. -/
def valueHoldsSpec : ChangeSpec := { name := "valueHolds", fn := fun _ => fun
  | [d1, d2, d3] => { results := [.lit (.bool true)], args := [d1, d2, d3] }
  | _ => none }
def valueHoldsRow : OpenClaim := { program := "ytkoajdbijlpgaaadoor", sum := "a6fdfd4bef0b8a250e065a61f50201bb7074426637e34966dffe7d5cd2855203", func := "ordinal/ordinallaw01.ValueHolds", spec := "valueHolds", inPlace := ["internal/bytealg.IndexByteString", "internal/bytealg.abigen_runtime_cmpstring"], named := ["strconv.ErrSyntax", "strconv.ErrRange", "internal/strconv.uint64pow10", "math/bits.deBruijn32tab", "math/bits.deBruijn64tab"], apart := false, laid := [("math/bits.deBruijn32tab", laid_math_bits_deBruijn32tab), ("math/bits.deBruijn64tab", laid_math_bits_deBruijn64tab), ("internal/strconv.uint64pow10", laid_internal_strconv_uint64pow10), ("strconv.ErrRange", laid_strconv_ErrRange), ("strconv.ErrSyntax", laid_strconv_ErrSyntax)] }
def ValueHoldsSaid : Prop := valueHoldsRow.holds Tryd.pinned (OpenSpec.ofChange valueHoldsSpec)

/-- ITS FALSE NEIGHBOUR: 'it returns false'. Refute it at one input. -/
def valueHoldsWrong : ChangeSpec := { name := "valueHolds", fn := fun _ => fun
  | [d1, d2, d3] => { results := [.lit (.bool false)], args := [d1, d2, d3] }
  | _ => none }
def ValueHoldsWrongFalsely : Prop := valueHoldsRow.holds Tryd.pinned (OpenSpec.ofChange valueHoldsWrong)

/-- 'ordinallaw02.RowTexts': WHATEVER THE INPUT: true; the input reads as it did. -/
def rowTextsSpec : ChangeSpec := { name := "rowTexts", fn := fun _ => fun
  | [d1, d2] => { results := [.lit (.bool true)], args := [d1, d2] }
  | _ => none }
def rowTextsRow : OpenClaim := { program := "ytkoajdbijlpgaaadoor", sum := "a6fdfd4bef0b8a250e065a61f50201bb7074426637e34966dffe7d5cd2855203", func := "ordinal/ordinallaw02.RowTexts", spec := "rowTexts", inPlace := ["internal/abi.NoEscape", "internal/bytealg.abigen_runtime_cmpstring", "internal/bytealg.IndexByteString"], recurses := true, named := ["internal/strconv.uint64pow10", "math/bits.deBruijn32tab", "math/bits.deBruijn64tab", "strconv.ErrSyntax", "strconv.ErrRange"], apart := false, laid := [("math/bits.deBruijn32tab", laid_math_bits_deBruijn32tab), ("math/bits.deBruijn64tab", laid_math_bits_deBruijn64tab), ("internal/strconv.uint64pow10", laid_internal_strconv_uint64pow10), ("strconv.ErrRange", laid_strconv_ErrRange), ("strconv.ErrSyntax", laid_strconv_ErrSyntax)] }
def RowTextsSaid : Prop := rowTextsRow.holds Tryd.pinned (OpenSpec.ofChange rowTextsSpec)

/-- ITS FALSE NEIGHBOUR: 'it returns false'. Refute it at one input. -/
def rowTextsWrong : ChangeSpec := { name := "rowTexts", fn := fun _ => fun
  | [d1, d2] => { results := [.lit (.bool false)], args := [d1, d2] }
  | _ => none }
def RowTextsWrongFalsely : Prop := rowTextsRow.holds Tryd.pinned (OpenSpec.ofChange rowTextsWrong)

/- THE SECOND FORM. 'bulk': how many values and letters a reading holds, each counted each time it is reached (what is shared counts as often as it is met; a slice's spare places count too). A statement '..UptoSaid' is the law's where the arguments, and the package variables that the reading takes, are together of bulk at most 1048576: NARROWER than '..Said'. Prove '..Said' where nothing that the law and all that it calls make is longer than what came in: it says more and counts as full. Else prove '..UptoSaid'. A law counts once. -/
mutual
def uptoBulk {H : Type} : DataW H → Nat
  | .lit (.string bytes) => bytes.length + 1
  | .lit _ => 1
  | .nil => 1
  | .ptr d => uptoBulk d + 1
  | .slice elems spare => uptoBulkAll elems + uptoBulkAll spare + 1
  | .agg parts => uptoBulkAll parts + 1
  | .iface _ d => uptoBulk d + 1
  | .map entries => uptoBulkEntries entries + 1
  | .held _ => 1
def uptoBulkAll {H : Type} : List (DataW H) → Nat
  | [] => 0
  | d :: r => uptoBulk d + uptoBulkAll r
def uptoBulkEntries {H : Type} : List (Lit × DataW H) → Nat
  | [] => 0
  | x :: r => uptoBulkEntry x + uptoBulkEntries r
def uptoBulkEntry {H : Type} : Lit × DataW H → Nat
  | (.string bytes, d) => bytes.length + uptoBulk d + 1
  | (_, d) => uptoBulk d + 1
 end
def uptoSmall : (H : Type) → List (DataW H) → Bool := fun _ ds => decide (uptoBulkAll ds ≤ 1048576)
def OpenSpec.upto (s : _root_.Go.ChangeSpec) : _root_.Go.OpenSpec := { _root_.Go.OpenSpec.ofChange s with cond := some uptoSmall }

/-- 'ordinallaw02.RowOrders', WHERE WHAT IT READS IS OF BULK AT MOST 1048576: true; the input reads as it did. -/
def rowOrdersUptoRow : OpenClaim := { program := "ytkoajdbijlpgaaadoor", sum := "a6fdfd4bef0b8a250e065a61f50201bb7074426637e34966dffe7d5cd2855203", func := "ordinal/ordinallaw02.RowOrders", spec := "rowOrders", inPlace := ["internal/abi.NoEscape", "internal/bytealg.abigen_runtime_cmpstring"], named := ["internal/strconv.uint64pow10", "math/bits.deBruijn32tab", "math/bits.deBruijn64tab"], apart := false, laid := [("math/bits.deBruijn32tab", laid_math_bits_deBruijn32tab), ("math/bits.deBruijn64tab", laid_math_bits_deBruijn64tab), ("internal/strconv.uint64pow10", laid_internal_strconv_uint64pow10)], narrowed := true }
def RowOrdersUptoSaid : Prop := rowOrdersUptoRow.holds Tryd.pinned (OpenSpec.upto rowOrdersSpec)

/-- 'ordinallaw02.RowProjects', WHERE WHAT IT READS IS OF BULK AT MOST 1048576: true; the input reads as it did. -/
def rowProjectsUptoRow : OpenClaim := { program := "ytkoajdbijlpgaaadoor", sum := "a6fdfd4bef0b8a250e065a61f50201bb7074426637e34966dffe7d5cd2855203", func := "ordinal/ordinallaw02.RowProjects", spec := "rowProjects", inPlace := ["internal/abi.NoEscape", "internal/bytealg.abigen_runtime_cmpstring"], named := ["internal/strconv.uint64pow10", "math/bits.deBruijn32tab", "math/bits.deBruijn64tab"], apart := false, laid := [("math/bits.deBruijn32tab", laid_math_bits_deBruijn32tab), ("math/bits.deBruijn64tab", laid_math_bits_deBruijn64tab), ("internal/strconv.uint64pow10", laid_internal_strconv_uint64pow10)], narrowed := true }
def RowProjectsUptoSaid : Prop := rowProjectsUptoRow.holds Tryd.pinned (OpenSpec.upto rowProjectsSpec)

/-- 'ordinallaw02.RowCompares', WHERE WHAT IT READS IS OF BULK AT MOST 1048576: true; the input reads as it did. -/
def rowComparesUptoRow : OpenClaim := { program := "ytkoajdbijlpgaaadoor", sum := "a6fdfd4bef0b8a250e065a61f50201bb7074426637e34966dffe7d5cd2855203", func := "ordinal/ordinallaw02.RowCompares", spec := "rowCompares", inPlace := ["internal/abi.NoEscape", "internal/bytealg.abigen_runtime_cmpstring"], named := ["internal/strconv.uint64pow10", "math/bits.deBruijn32tab", "math/bits.deBruijn64tab"], apart := false, laid := [("math/bits.deBruijn32tab", laid_math_bits_deBruijn32tab), ("math/bits.deBruijn64tab", laid_math_bits_deBruijn64tab), ("internal/strconv.uint64pow10", laid_internal_strconv_uint64pow10)], narrowed := true }
def RowComparesUptoSaid : Prop := rowComparesUptoRow.holds Tryd.pinned (OpenSpec.upto rowComparesSpec)

/-- 'ordinallaw02.RowKeys', WHERE WHAT IT READS IS OF BULK AT MOST 1048576: true; the input reads as it did. -/
def rowKeysUptoRow : OpenClaim := { program := "ytkoajdbijlpgaaadoor", sum := "a6fdfd4bef0b8a250e065a61f50201bb7074426637e34966dffe7d5cd2855203", func := "ordinal/ordinallaw02.RowKeys", spec := "rowKeys", inPlace := ["internal/abi.NoEscape", "internal/bytealg.abigen_runtime_cmpstring"], named := ["internal/strconv.uint64pow10", "math/bits.deBruijn32tab", "math/bits.deBruijn64tab"], apart := false, laid := [("math/bits.deBruijn32tab", laid_math_bits_deBruijn32tab), ("math/bits.deBruijn64tab", laid_math_bits_deBruijn64tab), ("internal/strconv.uint64pow10", laid_internal_strconv_uint64pow10)], narrowed := true }
def RowKeysUptoSaid : Prop := rowKeysUptoRow.holds Tryd.pinned (OpenSpec.upto rowKeysSpec)

/-- 'ordinallaw02.RowSorts', WHERE WHAT IT READS IS OF BULK AT MOST 1048576: true; the input reads as it did. -/
def rowSortsUptoRow : OpenClaim := { program := "ytkoajdbijlpgaaadoor", sum := "a6fdfd4bef0b8a250e065a61f50201bb7074426637e34966dffe7d5cd2855203", func := "ordinal/ordinallaw02.RowSorts", spec := "rowSorts", inPlace := ["internal/abi.NoEscape", "internal/bytealg.abigen_runtime_cmpstring"], unfollowed := true, recurses := true, named := ["internal/strconv.uint64pow10", "math/bits.deBruijn32tab", "math/bits.deBruijn64tab"], apart := false, laid := [("math/bits.deBruijn32tab", laid_math_bits_deBruijn32tab), ("math/bits.deBruijn64tab", laid_math_bits_deBruijn64tab), ("internal/strconv.uint64pow10", laid_internal_strconv_uint64pow10)], narrowed := true }
def RowSortsUptoSaid : Prop := rowSortsUptoRow.holds Tryd.pinned (OpenSpec.upto rowSortsSpec)

/-- 'ordinallaw02.RowSearches', WHERE WHAT IT READS IS OF BULK AT MOST 1048576: true; the input reads as it did. -/
def rowSearchesUptoRow : OpenClaim := { program := "ytkoajdbijlpgaaadoor", sum := "a6fdfd4bef0b8a250e065a61f50201bb7074426637e34966dffe7d5cd2855203", func := "ordinal/ordinallaw02.RowSearches", spec := "rowSearches", inPlace := ["internal/abi.NoEscape", "internal/bytealg.abigen_runtime_cmpstring"], unfollowed := true, recurses := true, named := ["internal/strconv.uint64pow10", "math/bits.deBruijn32tab", "math/bits.deBruijn64tab"], apart := false, laid := [("math/bits.deBruijn32tab", laid_math_bits_deBruijn32tab), ("math/bits.deBruijn64tab", laid_math_bits_deBruijn64tab), ("internal/strconv.uint64pow10", laid_internal_strconv_uint64pow10)], narrowed := true }
def RowSearchesUptoSaid : Prop := rowSearchesUptoRow.holds Tryd.pinned (OpenSpec.upto rowSearchesSpec)

/-- 'ordinallaw01.ValueMakes', WHERE WHAT IT READS IS OF BULK AT MOST 1048576: true; the input reads as it did. -/
def valueMakesUptoRow : OpenClaim := { program := "ytkoajdbijlpgaaadoor", sum := "a6fdfd4bef0b8a250e065a61f50201bb7074426637e34966dffe7d5cd2855203", func := "ordinal/ordinallaw01.ValueMakes", spec := "valueMakes", inPlace := ["internal/bytealg.IndexByteString", "internal/bytealg.abigen_runtime_cmpstring"], named := ["strconv.ErrSyntax", "strconv.ErrRange", "internal/strconv.uint64pow10", "math/bits.deBruijn32tab", "math/bits.deBruijn64tab"], apart := false, laid := [("math/bits.deBruijn32tab", laid_math_bits_deBruijn32tab), ("math/bits.deBruijn64tab", laid_math_bits_deBruijn64tab), ("internal/strconv.uint64pow10", laid_internal_strconv_uint64pow10), ("strconv.ErrRange", laid_strconv_ErrRange), ("strconv.ErrSyntax", laid_strconv_ErrSyntax)], narrowed := true }
def ValueMakesUptoSaid : Prop := valueMakesUptoRow.holds Tryd.pinned (OpenSpec.upto valueMakesSpec)

/-- 'ordinallaw01.ValueCompares', WHERE WHAT IT READS IS OF BULK AT MOST 1048576: true; the input reads as it did. -/
def valueComparesUptoRow : OpenClaim := { program := "ytkoajdbijlpgaaadoor", sum := "a6fdfd4bef0b8a250e065a61f50201bb7074426637e34966dffe7d5cd2855203", func := "ordinal/ordinallaw01.ValueCompares", spec := "valueCompares", inPlace := ["internal/bytealg.IndexByteString", "internal/bytealg.abigen_runtime_cmpstring"], named := ["strconv.ErrSyntax", "strconv.ErrRange", "internal/strconv.uint64pow10", "math/bits.deBruijn32tab", "math/bits.deBruijn64tab"], apart := false, laid := [("math/bits.deBruijn32tab", laid_math_bits_deBruijn32tab), ("math/bits.deBruijn64tab", laid_math_bits_deBruijn64tab), ("internal/strconv.uint64pow10", laid_internal_strconv_uint64pow10), ("strconv.ErrRange", laid_strconv_ErrRange), ("strconv.ErrSyntax", laid_strconv_ErrSyntax)], narrowed := true }
def ValueComparesUptoSaid : Prop := valueComparesUptoRow.holds Tryd.pinned (OpenSpec.upto valueComparesSpec)

/-- 'ordinallaw01.ValueOrders', WHERE WHAT IT READS IS OF BULK AT MOST 1048576: true; the input reads as it did. -/
def valueOrdersUptoRow : OpenClaim := { program := "ytkoajdbijlpgaaadoor", sum := "a6fdfd4bef0b8a250e065a61f50201bb7074426637e34966dffe7d5cd2855203", func := "ordinal/ordinallaw01.ValueOrders", spec := "valueOrders", inPlace := ["internal/bytealg.IndexByteString", "internal/bytealg.abigen_runtime_cmpstring"], named := ["strconv.ErrSyntax", "strconv.ErrRange", "internal/strconv.uint64pow10", "math/bits.deBruijn32tab", "math/bits.deBruijn64tab"], apart := false, laid := [("math/bits.deBruijn32tab", laid_math_bits_deBruijn32tab), ("math/bits.deBruijn64tab", laid_math_bits_deBruijn64tab), ("internal/strconv.uint64pow10", laid_internal_strconv_uint64pow10), ("strconv.ErrRange", laid_strconv_ErrRange), ("strconv.ErrSyntax", laid_strconv_ErrSyntax)], narrowed := true }
def ValueOrdersUptoSaid : Prop := valueOrdersUptoRow.holds Tryd.pinned (OpenSpec.upto valueOrdersSpec)

/-- 'ordinallaw01.ValueTexts', WHERE WHAT IT READS IS OF BULK AT MOST 1048576: true; the input reads as it did. -/
def valueTextsUptoRow : OpenClaim := { program := "ytkoajdbijlpgaaadoor", sum := "a6fdfd4bef0b8a250e065a61f50201bb7074426637e34966dffe7d5cd2855203", func := "ordinal/ordinallaw01.ValueTexts", spec := "valueTexts", inPlace := ["internal/bytealg.IndexByteString", "internal/bytealg.abigen_runtime_cmpstring"], recurses := true, named := ["strconv.ErrSyntax", "strconv.ErrRange", "internal/strconv.uint64pow10", "math/bits.deBruijn32tab", "math/bits.deBruijn64tab"], apart := false, laid := [("math/bits.deBruijn32tab", laid_math_bits_deBruijn32tab), ("math/bits.deBruijn64tab", laid_math_bits_deBruijn64tab), ("internal/strconv.uint64pow10", laid_internal_strconv_uint64pow10), ("strconv.ErrRange", laid_strconv_ErrRange), ("strconv.ErrSyntax", laid_strconv_ErrSyntax)], narrowed := true }
def ValueTextsUptoSaid : Prop := valueTextsUptoRow.holds Tryd.pinned (OpenSpec.upto valueTextsSpec)

/-- 'ordinallaw01.ValueParses', WHERE WHAT IT READS IS OF BULK AT MOST 1048576: true; the input reads as it did. -/
def valueParsesUptoRow : OpenClaim := { program := "ytkoajdbijlpgaaadoor", sum := "a6fdfd4bef0b8a250e065a61f50201bb7074426637e34966dffe7d5cd2855203", func := "ordinal/ordinallaw01.ValueParses", spec := "valueParses", inPlace := ["internal/bytealg.IndexByteString", "internal/bytealg.abigen_runtime_cmpstring"], named := ["strconv.ErrSyntax", "strconv.ErrRange", "internal/strconv.uint64pow10", "math/bits.deBruijn32tab", "math/bits.deBruijn64tab"], apart := false, laid := [("math/bits.deBruijn32tab", laid_math_bits_deBruijn32tab), ("math/bits.deBruijn64tab", laid_math_bits_deBruijn64tab), ("internal/strconv.uint64pow10", laid_internal_strconv_uint64pow10), ("strconv.ErrRange", laid_strconv_ErrRange), ("strconv.ErrSyntax", laid_strconv_ErrSyntax)], narrowed := true }
def ValueParsesUptoSaid : Prop := valueParsesUptoRow.holds Tryd.pinned (OpenSpec.upto valueParsesSpec)

/-- 'ordinallaw01.ValueDiffers', WHERE WHAT IT READS IS OF BULK AT MOST 1048576: true; the input reads as it did. -/
def valueDiffersUptoRow : OpenClaim := { program := "ytkoajdbijlpgaaadoor", sum := "a6fdfd4bef0b8a250e065a61f50201bb7074426637e34966dffe7d5cd2855203", func := "ordinal/ordinallaw01.ValueDiffers", spec := "valueDiffers", inPlace := ["internal/bytealg.IndexByteString", "internal/bytealg.abigen_runtime_cmpstring"], named := ["strconv.ErrSyntax", "strconv.ErrRange", "internal/strconv.uint64pow10", "math/bits.deBruijn32tab", "math/bits.deBruijn64tab"], apart := false, laid := [("math/bits.deBruijn32tab", laid_math_bits_deBruijn32tab), ("math/bits.deBruijn64tab", laid_math_bits_deBruijn64tab), ("internal/strconv.uint64pow10", laid_internal_strconv_uint64pow10), ("strconv.ErrRange", laid_strconv_ErrRange), ("strconv.ErrSyntax", laid_strconv_ErrSyntax)], narrowed := true }
def ValueDiffersUptoSaid : Prop := valueDiffersUptoRow.holds Tryd.pinned (OpenSpec.upto valueDiffersSpec)

/-- 'ordinallaw01.ValueHolds', WHERE WHAT IT READS IS OF BULK AT MOST 1048576: true; the input reads as it did. -/
def valueHoldsUptoRow : OpenClaim := { program := "ytkoajdbijlpgaaadoor", sum := "a6fdfd4bef0b8a250e065a61f50201bb7074426637e34966dffe7d5cd2855203", func := "ordinal/ordinallaw01.ValueHolds", spec := "valueHolds", inPlace := ["internal/bytealg.IndexByteString", "internal/bytealg.abigen_runtime_cmpstring"], named := ["strconv.ErrSyntax", "strconv.ErrRange", "internal/strconv.uint64pow10", "math/bits.deBruijn32tab", "math/bits.deBruijn64tab"], apart := false, laid := [("math/bits.deBruijn32tab", laid_math_bits_deBruijn32tab), ("math/bits.deBruijn64tab", laid_math_bits_deBruijn64tab), ("internal/strconv.uint64pow10", laid_internal_strconv_uint64pow10), ("strconv.ErrRange", laid_strconv_ErrRange), ("strconv.ErrSyntax", laid_strconv_ErrSyntax)], narrowed := true }
def ValueHoldsUptoSaid : Prop := valueHoldsUptoRow.holds Tryd.pinned (OpenSpec.upto valueHoldsSpec)

/-- 'ordinallaw02.RowTexts', WHERE WHAT IT READS IS OF BULK AT MOST 1048576: true; the input reads as it did. -/
def rowTextsUptoRow : OpenClaim := { program := "ytkoajdbijlpgaaadoor", sum := "a6fdfd4bef0b8a250e065a61f50201bb7074426637e34966dffe7d5cd2855203", func := "ordinal/ordinallaw02.RowTexts", spec := "rowTexts", inPlace := ["internal/abi.NoEscape", "internal/bytealg.abigen_runtime_cmpstring", "internal/bytealg.IndexByteString"], recurses := true, named := ["internal/strconv.uint64pow10", "math/bits.deBruijn32tab", "math/bits.deBruijn64tab", "strconv.ErrSyntax", "strconv.ErrRange"], apart := false, laid := [("math/bits.deBruijn32tab", laid_math_bits_deBruijn32tab), ("math/bits.deBruijn64tab", laid_math_bits_deBruijn64tab), ("internal/strconv.uint64pow10", laid_internal_strconv_uint64pow10), ("strconv.ErrRange", laid_strconv_ErrRange), ("strconv.ErrSyntax", laid_strconv_ErrSyntax)], narrowed := true }
def RowTextsUptoSaid : Prop := rowTextsUptoRow.holds Tryd.pinned (OpenSpec.upto rowTextsSpec)

end Rows
end Go.Proofs.YtkoajdbijlpgaaaDoor
