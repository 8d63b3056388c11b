/-
  No cell of these rows narrows 'for every input' (looked for: loops, veiled, ifaces, maps, wideKeys, modest, calm, conditions, laid).
  DERIVED. THE GIVEN ROWS OF THIS SEAT. 7 by the template 'for every input the law returns true; each argument reads behind the call as it read before'; 0 by the template 'total and deterministic' (their statements: YtgeapgbebbapmaaTotals.lean).
  GIVEN WITH THE SEED: the statements are not yours to turn. If you find one false, say at which input.
  Laid BY PROGRAM, IN A SANDBOX (cutbox-rows.mjs): the forced cells as the released guide's own fill.sh prints them over the translation f93287277f960a3a… (all of the seat's roots in one cut). By AI agents, Wed Nov 11 2026. No macro, syntax, notation, axiom, sorry.
-/
import Derived.Test.YtgeapgbebbapmaaChecked
import GoSem.Claim
import GoSem.ClaimJoined
import GoSem.ClaimMapViews
import Derived.JoinedTies
import Derived.KernelRfl
namespace Go.Proofs.Ytgeapgbebbapmaa
/- THE CELL 'sum', in the pinned program and in every row, IS THE sha256 OF THE DUMP (.gsa) THAT YtgeapgbebbapmaaProg.lean LOADS. Nothing in Lean hashes anything: it is a label: what it is worth is what the hold of that sum in a sandbox is worth. -/
noncomputable def Try.pinned : Pinned := { name := "ytgeapgbebbapmaa", sum := "f93287277f960a3a3e044071fdab5225ed103ffa86818b84280174063ac76fb7", checked := Try.checked }
namespace Rows
def none {H : Type} : Left H := { results := [], args := [] }

/-- 'ordinallaw21.CheckTypes': WHATEVER THE INPUT: true; the input reads as it did. -/
def checkTypesSpec : ChangeSpec := { name := "checkTypes", fn := fun _ => fun
  | [d1, d2] => { results := [.lit (.bool true)], args := [d1, d2] }
  | _ => none }
def checkTypesRow : OpenClaim := { program := "ytgeapgbebbapmaa", sum := "f93287277f960a3a3e044071fdab5225ed103ffa86818b84280174063ac76fb7", func := "ordinal/ordinallaw21.CheckTypes", spec := "checkTypes", unfollowed := true, recurses := true, apart := false }
def CheckTypesSaid : Prop := checkTypesRow.holds Try.pinned (OpenSpec.ofChange checkTypesSpec)

/-- ITS FALSE NEIGHBOUR: 'it returns false'. Refute it at one input. -/
def checkTypesWrong : ChangeSpec := { name := "checkTypes", fn := fun _ => fun
  | [d1, d2] => { results := [.lit (.bool false)], args := [d1, d2] }
  | _ => none }
def CheckTypesWrongFalsely : Prop := checkTypesRow.holds Try.pinned (OpenSpec.ofChange checkTypesWrong)

/-- 'ordinallaw21.CheckGuards': WHATEVER THE INPUT: true; the input reads as it did. -/
def checkGuardsSpec : ChangeSpec := { name := "checkGuards", fn := fun _ => fun
  | [d1, d2] => { results := [.lit (.bool true)], args := [d1, d2] }
  | _ => none }
def checkGuardsRow : OpenClaim := { program := "ytgeapgbebbapmaa", sum := "f93287277f960a3a3e044071fdab5225ed103ffa86818b84280174063ac76fb7", func := "ordinal/ordinallaw21.CheckGuards", spec := "checkGuards", unfollowed := true, recurses := true, apart := false }
def CheckGuardsSaid : Prop := checkGuardsRow.holds Try.pinned (OpenSpec.ofChange checkGuardsSpec)

/-- ITS FALSE NEIGHBOUR: 'it returns false'. Refute it at one input. -/
def checkGuardsWrong : ChangeSpec := { name := "checkGuards", fn := fun _ => fun
  | [d1, d2] => { results := [.lit (.bool false)], args := [d1, d2] }
  | _ => none }
def CheckGuardsWrongFalsely : Prop := checkGuardsRow.holds Try.pinned (OpenSpec.ofChange checkGuardsWrong)

/-- 'ordinallaw21.CheckGuarded': WHATEVER THE INPUT: true; the input reads as it did. -/
def checkGuardedSpec : ChangeSpec := { name := "checkGuarded", fn := fun _ => fun
  | [d1, d2] => { results := [.lit (.bool true)], args := [d1, d2] }
  | _ => none }
def checkGuardedRow : OpenClaim := { program := "ytgeapgbebbapmaa", sum := "f93287277f960a3a3e044071fdab5225ed103ffa86818b84280174063ac76fb7", func := "ordinal/ordinallaw21.CheckGuarded", spec := "checkGuarded", unfollowed := true, recurses := true, apart := false }
def CheckGuardedSaid : Prop := checkGuardedRow.holds Try.pinned (OpenSpec.ofChange checkGuardedSpec)

/-- ITS FALSE NEIGHBOUR: 'it returns false'. Refute it at one input. -/
def checkGuardedWrong : ChangeSpec := { name := "checkGuarded", fn := fun _ => fun
  | [d1, d2] => { results := [.lit (.bool false)], args := [d1, d2] }
  | _ => none }
def CheckGuardedWrongFalsely : Prop := checkGuardedRow.holds Try.pinned (OpenSpec.ofChange checkGuardedWrong)

/-- 'ordinallaw21.CheckUnused': WHATEVER THE INPUT: true; the input reads as it did. -/
def checkUnusedSpec : ChangeSpec := { name := "checkUnused", fn := fun _ => fun
  | [d1, d2, d3] => { results := [.lit (.bool true)], args := [d1, d2, d3] }
  | _ => none }
def checkUnusedRow : OpenClaim := { program := "ytgeapgbebbapmaa", sum := "f93287277f960a3a3e044071fdab5225ed103ffa86818b84280174063ac76fb7", func := "ordinal/ordinallaw21.CheckUnused", spec := "checkUnused", unfollowed := true, recurses := true, apart := false }
def CheckUnusedSaid : Prop := checkUnusedRow.holds Try.pinned (OpenSpec.ofChange checkUnusedSpec)

/-- ITS FALSE NEIGHBOUR: 'it returns false'. Refute it at one input. -/
def checkUnusedWrong : ChangeSpec := { name := "checkUnused", fn := fun _ => fun
  | [d1, d2, d3] => { results := [.lit (.bool false)], args := [d1, d2, d3] }
  | _ => none }
def CheckUnusedWrongFalsely : Prop := checkUnusedRow.holds Try.pinned (OpenSpec.ofChange checkUnusedWrong)

/-- 'ordinallaw21.CheckTurns': WHATEVER THE INPUT: true; the input reads as it did. -/
def checkTurnsSpec : ChangeSpec := { name := "checkTurns", fn := fun _ => fun
  | [d1, d2, d3] => { results := [.lit (.bool true)], args := [d1, d2, d3] }
  | _ => none }
def checkTurnsRow : OpenClaim := { program := "ytgeapgbebbapmaa", sum := "f93287277f960a3a3e044071fdab5225ed103ffa86818b84280174063ac76fb7", func := "ordinal/ordinallaw21.CheckTurns", spec := "checkTurns", unfollowed := true, recurses := true, apart := false }
def CheckTurnsSaid : Prop := checkTurnsRow.holds Try.pinned (OpenSpec.ofChange checkTurnsSpec)

/-- ITS FALSE NEIGHBOUR: 'it returns false'. Refute it at one input. -/
def checkTurnsWrong : ChangeSpec := { name := "checkTurns", fn := fun _ => fun
  | [d1, d2, d3] => { results := [.lit (.bool false)], args := [d1, d2, d3] }
  | _ => none }
def CheckTurnsWrongFalsely : Prop := checkTurnsRow.holds Try.pinned (OpenSpec.ofChange checkTurnsWrong)

/-- 'ordinallaw21.CheckRepeats': WHATEVER THE INPUT: true; the input reads as it did. -/
def checkRepeatsSpec : ChangeSpec := { name := "checkRepeats", fn := fun _ => fun
  | [d1, d2, d3] => { results := [.lit (.bool true)], args := [d1, d2, d3] }
  | _ => none }
def checkRepeatsRow : OpenClaim := { program := "ytgeapgbebbapmaa", sum := "f93287277f960a3a3e044071fdab5225ed103ffa86818b84280174063ac76fb7", func := "ordinal/ordinallaw21.CheckRepeats", spec := "checkRepeats", unfollowed := true, recurses := true, apart := false }
def CheckRepeatsSaid : Prop := checkRepeatsRow.holds Try.pinned (OpenSpec.ofChange checkRepeatsSpec)

/-- ITS FALSE NEIGHBOUR: 'it returns false'. Refute it at one input. -/
def checkRepeatsWrong : ChangeSpec := { name := "checkRepeats", fn := fun _ => fun
  | [d1, d2, d3] => { results := [.lit (.bool false)], args := [d1, d2, d3] }
  | _ => none }
def CheckRepeatsWrongFalsely : Prop := checkRepeatsRow.holds Try.pinned (OpenSpec.ofChange checkRepeatsWrong)

/-- 'ordinallaw21.CheckRenames': WHATEVER THE INPUT: true; the input reads as it did. -/
def checkRenamesSpec : ChangeSpec := { name := "checkRenames", fn := fun _ => fun
  | [d1, d2, d3] => { results := [.lit (.bool true)], args := [d1, d2, d3] }
  | _ => none }
def checkRenamesRow : OpenClaim := { program := "ytgeapgbebbapmaa", sum := "f93287277f960a3a3e044071fdab5225ed103ffa86818b84280174063ac76fb7", func := "ordinal/ordinallaw21.CheckRenames", spec := "checkRenames", unfollowed := true, recurses := true, apart := false }
def CheckRenamesSaid : Prop := checkRenamesRow.holds Try.pinned (OpenSpec.ofChange checkRenamesSpec)

/-- ITS FALSE NEIGHBOUR: 'it returns false'. Refute it at one input. -/
def checkRenamesWrong : ChangeSpec := { name := "checkRenames", fn := fun _ => fun
  | [d1, d2, d3] => { results := [.lit (.bool false)], args := [d1, d2, d3] }
  | _ => none }
def CheckRenamesWrongFalsely : Prop := checkRenamesRow.holds Try.pinned (OpenSpec.ofChange checkRenamesWrong)

/- THE SECOND FORM. 'bulk': how many values and letters a reading holds, each counted each time it is reached (what is shared counts as often as it is met; a slice's spare places count too). A statement '..UptoSaid' is the law's where the arguments, and the package variables that the reading takes, are together of bulk at most 1048576: NARROWER than '..Said'. Prove '..Said' where nothing that the law and all that it calls make is longer than what came in: it says more and counts as full. Else prove '..UptoSaid'. A law counts once. -/
mutual
def uptoBulk {H : Type} : DataW H → Nat
  | .lit (.string bytes) => bytes.length + 1
  | .lit _ => 1
  | .nil => 1
  | .ptr d => uptoBulk d + 1
  | .slice elems spare => uptoBulkAll elems + uptoBulkAll spare + 1
  | .agg parts => uptoBulkAll parts + 1
  | .iface _ d => uptoBulk d + 1
  | .map entries => uptoBulkEntries entries + 1
  | .held _ => 1
def uptoBulkAll {H : Type} : List (DataW H) → Nat
  | [] => 0
  | d :: r => uptoBulk d + uptoBulkAll r
def uptoBulkEntries {H : Type} : List (Lit × DataW H) → Nat
  | [] => 0
  | x :: r => uptoBulkEntry x + uptoBulkEntries r
def uptoBulkEntry {H : Type} : Lit × DataW H → Nat
  | (.string bytes, d) => bytes.length + uptoBulk d + 1
  | (_, d) => uptoBulk d + 1
 end
def uptoSmall : (H : Type) → List (DataW H) → Bool := fun _ ds => decide (uptoBulkAll ds ≤ 1048576)
def OpenSpec.upto (s : _root_.Go.ChangeSpec) : _root_.Go.OpenSpec := { _root_.Go.OpenSpec.ofChange s with cond := some uptoSmall }

/-- 'ordinallaw21.CheckTypes', WHERE WHAT IT READS IS OF BULK AT MOST 1048576: true; the input reads as it did. -/
def checkTypesUptoRow : OpenClaim := { program := "ytgeapgbebbapmaa", sum := "f93287277f960a3a3e044071fdab5225ed103ffa86818b84280174063ac76fb7", func := "ordinal/ordinallaw21.CheckTypes", spec := "checkTypes", unfollowed := true, recurses := true, apart := false, narrowed := true }
def CheckTypesUptoSaid : Prop := checkTypesUptoRow.holds Try.pinned (OpenSpec.upto checkTypesSpec)

/-- 'ordinallaw21.CheckGuards', WHERE WHAT IT READS IS OF BULK AT MOST 1048576: true; the input reads as it did. -/
def checkGuardsUptoRow : OpenClaim := { program := "ytgeapgbebbapmaa", sum := "f93287277f960a3a3e044071fdab5225ed103ffa86818b84280174063ac76fb7", func := "ordinal/ordinallaw21.CheckGuards", spec := "checkGuards", unfollowed := true, recurses := true, apart := false, narrowed := true }
def CheckGuardsUptoSaid : Prop := checkGuardsUptoRow.holds Try.pinned (OpenSpec.upto checkGuardsSpec)

/-- 'ordinallaw21.CheckGuarded', WHERE WHAT IT READS IS OF BULK AT MOST 1048576: true; the input reads as it did. -/
def checkGuardedUptoRow : OpenClaim := { program := "ytgeapgbebbapmaa", sum := "f93287277f960a3a3e044071fdab5225ed103ffa86818b84280174063ac76fb7", func := "ordinal/ordinallaw21.CheckGuarded", spec := "checkGuarded", unfollowed := true, recurses := true, apart := false, narrowed := true }
def CheckGuardedUptoSaid : Prop := checkGuardedUptoRow.holds Try.pinned (OpenSpec.upto checkGuardedSpec)

/-- 'ordinallaw21.CheckUnused', WHERE WHAT IT READS IS OF BULK AT MOST 1048576: true; the input reads as it did. -/
def checkUnusedUptoRow : OpenClaim := { program := "ytgeapgbebbapmaa", sum := "f93287277f960a3a3e044071fdab5225ed103ffa86818b84280174063ac76fb7", func := "ordinal/ordinallaw21.CheckUnused", spec := "checkUnused", unfollowed := true, recurses := true, apart := false, narrowed := true }
def CheckUnusedUptoSaid : Prop := checkUnusedUptoRow.holds Try.pinned (OpenSpec.upto checkUnusedSpec)

/-- 'ordinallaw21.CheckTurns', WHERE WHAT IT READS IS OF BULK AT MOST 1048576: true; the input reads as it did. -/
def checkTurnsUptoRow : OpenClaim := { program := "ytgeapgbebbapmaa", sum := "f93287277f960a3a3e044071fdab5225ed103ffa86818b84280174063ac76fb7", func := "ordinal/ordinallaw21.CheckTurns", spec := "checkTurns", unfollowed := true, recurses := true, apart := false, narrowed := true }
def CheckTurnsUptoSaid : Prop := checkTurnsUptoRow.holds Try.pinned (OpenSpec.upto checkTurnsSpec)

/-- 'ordinallaw21.CheckRepeats', WHERE WHAT IT READS IS OF BULK AT MOST 1048576: true; the input reads as it did. -/
def checkRepeatsUptoRow : OpenClaim := { program := "ytgeapgbebbapmaa", sum := "f93287277f960a3a3e044071fdab5225ed103ffa86818b84280174063ac76fb7", func := "ordinal/ordinallaw21.CheckRepeats", spec := "checkRepeats", unfollowed := true, recurses := true, apart := false, narrowed := true }
def CheckRepeatsUptoSaid : Prop := checkRepeatsUptoRow.holds Try.pinned (OpenSpec.upto checkRepeatsSpec)

/-- 'ordinallaw21.CheckRenames', WHERE WHAT IT READS IS OF BULK AT MOST 1048576: true; the input reads as it did. -/
def checkRenamesUptoRow : OpenClaim := { program := "ytgeapgbebbapmaa", sum := "f93287277f960a3a3e044071fdab5225ed103ffa86818b84280174063ac76fb7", func := "ordinal/ordinallaw21.CheckRenames", spec := "checkRenames", unfollowed := true, recurses := true, apart := false, narrowed := true }
def CheckRenamesUptoSaid : Prop := checkRenamesUptoRow.holds Try.pinned (OpenSpec.upto checkRenamesSpec)

end Rows
end Go.Proofs.Ytgeapgbebbapmaa
