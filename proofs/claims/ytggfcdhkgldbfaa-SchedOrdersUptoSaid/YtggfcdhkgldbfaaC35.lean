/-
  PARTS of a claim, merged by segs.py: CwOrG.
-/
import Derived.Test.YtggfcdhkgldbfaaC28
namespace Go.Proofs.Ytggfcdhkgldbfaa
set_option linter.unusedSimpArgs false
set_option linter.unusedVariables false

/-! ### CwOrG -/
section
open Go Go.Conc Go.RowKit Go.ConcR.Gen Cw

def gv (T : Array Value) (i : Nat) : Value := (T[i]?).getD undef
theorem gv_of {T : Array Value} {i : Nat} {v : Value} (h : T[i]? = some v) : gv T i = v := by simp [gv, h]
theorem arr_eq (T : Array Value) (n : Nat) (h : T.size = n) : T = ((List.range n).map (gv T)).toArray := by
  subst h
  apply Array.ext
  · simp
  · intro i h1 h2
    simp [gv, h1]
theorem arrG159 (T : Array Value) (h : T.size = 159) : T = #[gv T 0, gv T 1, gv T 2, gv T 3, gv T 4, gv T 5, gv T 6, gv T 7, gv T 8, gv T 9, gv T 10, gv T 11, gv T 12, gv T 13, gv T 14, gv T 15, gv T 16, gv T 17, gv T 18, gv T 19, gv T 20, gv T 21, gv T 22, gv T 23, gv T 24, gv T 25, gv T 26, gv T 27, gv T 28, gv T 29, gv T 30, gv T 31, gv T 32, gv T 33, gv T 34, gv T 35, gv T 36, gv T 37, gv T 38, gv T 39, gv T 40, gv T 41, gv T 42, gv T 43, gv T 44, gv T 45, gv T 46, gv T 47, gv T 48, gv T 49, gv T 50, gv T 51, gv T 52, gv T 53, gv T 54, gv T 55, gv T 56, gv T 57, gv T 58, gv T 59, gv T 60, gv T 61, gv T 62, gv T 63, gv T 64, gv T 65, gv T 66, gv T 67, gv T 68, gv T 69, gv T 70, gv T 71, gv T 72, gv T 73, gv T 74, gv T 75, gv T 76, gv T 77, gv T 78, gv T 79, gv T 80, gv T 81, gv T 82, gv T 83, gv T 84, gv T 85, gv T 86, gv T 87, gv T 88, gv T 89, gv T 90, gv T 91, gv T 92, gv T 93, gv T 94, gv T 95, gv T 96, gv T 97, gv T 98, gv T 99, gv T 100, gv T 101, gv T 102, gv T 103, gv T 104, gv T 105, gv T 106, gv T 107, gv T 108, gv T 109, gv T 110, gv T 111, gv T 112, gv T 113, gv T 114, gv T 115, gv T 116, gv T 117, gv T 118, gv T 119, gv T 120, gv T 121, gv T 122, gv T 123, gv T 124, gv T 125, gv T 126, gv T 127, gv T 128, gv T 129, gv T 130, gv T 131, gv T 132, gv T 133, gv T 134, gv T 135, gv T 136, gv T 137, gv T 138, gv T 139, gv T 140, gv T 141, gv T 142, gv T 143, gv T 144, gv T 145, gv T 146, gv T 147, gv T 148, gv T 149, gv T 150, gv T 151, gv T 152, gv T 153, gv T 154, gv T 155, gv T 156, gv T 157, gv T 158] := (arr_eq T 159 h).trans (by rfl)
end
end Go.Proofs.Ytggfcdhkgldbfaa
