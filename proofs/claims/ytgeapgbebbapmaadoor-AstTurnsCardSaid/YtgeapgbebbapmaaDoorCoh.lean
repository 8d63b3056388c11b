/-
  SMALL TOOLS: a cell read from its block. Nothing of the program.
-/
import Derived.Test.YtgeapgbebbapmaaDoorKit
import Derived.Test.YtgeapgbebbapmaaDoorRes
import Derived.Lib.Builder
namespace Go.Proofs.YtgeapgbebbapmaaDoor
open Go.RowKit
theorem coh {w : World} {b o : Nat} {vs : Array Value} {e : TypeId} {fz : Nat × Nat} (h : w.heap[b]? = some (.cells vs e fz)) {v : Value} (hv : vs[o]? = some v) : w.cell? ⟨b, o, none⟩ = some v := by
  rw [Lib.cell_of_heap h]; exact hv
end Go.Proofs.YtgeapgbebbapmaaDoor
