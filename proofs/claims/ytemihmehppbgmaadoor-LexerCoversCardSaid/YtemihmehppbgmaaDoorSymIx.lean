/-
  '[i]' OF THE ARRAY OF SYMBOLS.
-/
import Derived.Test.YtemihmehppbgmaaDoorLw2
namespace Go.Proofs.YtemihmehppbgmaaDoor
open Go.RowKit
abbrev symCells : Array Value := #[.string ⟨#[58, 45]⟩, .string ⟨#[33, 61]⟩, .string ⟨#[60, 61]⟩, .string ⟨#[62, 61]⟩, .string ⟨#[40]⟩, .string ⟨#[41]⟩, .string ⟨#[44]⟩, .string ⟨#[59]⟩, .string ⟨#[124]⟩, .string ⟨#[61]⟩, .string ⟨#[60]⟩, .string ⟨#[62]⟩]
theorem sym_ix0 (w : World) : (Instr.index 81 (.agg symCells) (.int .i64 0)).run Tryd.prog w = .ok (.string ⟨#[58, 45]⟩) w := by
  simp [Instr.index, run_underlying Tryd.underlying81, asIntOf, part, go_sem, Tryd.isAgg9, Tryd.sizeOf9]
theorem sym_ix1 (w : World) : (Instr.index 81 (.agg symCells) (.int .i64 1)).run Tryd.prog w = .ok (.string ⟨#[33, 61]⟩) w := by
  simp [Instr.index, run_underlying Tryd.underlying81, asIntOf, part, go_sem, Tryd.isAgg9, Tryd.sizeOf9]
theorem sym_ix2 (w : World) : (Instr.index 81 (.agg symCells) (.int .i64 2)).run Tryd.prog w = .ok (.string ⟨#[60, 61]⟩) w := by
  simp [Instr.index, run_underlying Tryd.underlying81, asIntOf, part, go_sem, Tryd.isAgg9, Tryd.sizeOf9]
theorem sym_ix3 (w : World) : (Instr.index 81 (.agg symCells) (.int .i64 3)).run Tryd.prog w = .ok (.string ⟨#[62, 61]⟩) w := by
  simp [Instr.index, run_underlying Tryd.underlying81, asIntOf, part, go_sem, Tryd.isAgg9, Tryd.sizeOf9]
theorem sym_ix4 (w : World) : (Instr.index 81 (.agg symCells) (.int .i64 4)).run Tryd.prog w = .ok (.string ⟨#[40]⟩) w := by
  simp [Instr.index, run_underlying Tryd.underlying81, asIntOf, part, go_sem, Tryd.isAgg9, Tryd.sizeOf9]
theorem sym_ix5 (w : World) : (Instr.index 81 (.agg symCells) (.int .i64 5)).run Tryd.prog w = .ok (.string ⟨#[41]⟩) w := by
  simp [Instr.index, run_underlying Tryd.underlying81, asIntOf, part, go_sem, Tryd.isAgg9, Tryd.sizeOf9]
theorem sym_ix6 (w : World) : (Instr.index 81 (.agg symCells) (.int .i64 6)).run Tryd.prog w = .ok (.string ⟨#[44]⟩) w := by
  simp [Instr.index, run_underlying Tryd.underlying81, asIntOf, part, go_sem, Tryd.isAgg9, Tryd.sizeOf9]
theorem sym_ix7 (w : World) : (Instr.index 81 (.agg symCells) (.int .i64 7)).run Tryd.prog w = .ok (.string ⟨#[59]⟩) w := by
  simp [Instr.index, run_underlying Tryd.underlying81, asIntOf, part, go_sem, Tryd.isAgg9, Tryd.sizeOf9]
theorem sym_ix8 (w : World) : (Instr.index 81 (.agg symCells) (.int .i64 8)).run Tryd.prog w = .ok (.string ⟨#[124]⟩) w := by
  simp [Instr.index, run_underlying Tryd.underlying81, asIntOf, part, go_sem, Tryd.isAgg9, Tryd.sizeOf9]
theorem sym_ix9 (w : World) : (Instr.index 81 (.agg symCells) (.int .i64 9)).run Tryd.prog w = .ok (.string ⟨#[61]⟩) w := by
  simp [Instr.index, run_underlying Tryd.underlying81, asIntOf, part, go_sem, Tryd.isAgg9, Tryd.sizeOf9]
theorem sym_ix10 (w : World) : (Instr.index 81 (.agg symCells) (.int .i64 10)).run Tryd.prog w = .ok (.string ⟨#[60]⟩) w := by
  simp [Instr.index, run_underlying Tryd.underlying81, asIntOf, part, go_sem, Tryd.isAgg9, Tryd.sizeOf9]
theorem sym_ix11 (w : World) : (Instr.index 81 (.agg symCells) (.int .i64 11)).run Tryd.prog w = .ok (.string ⟨#[62]⟩) w := by
  simp [Instr.index, run_underlying Tryd.underlying81, asIntOf, part, go_sem, Tryd.isAgg9, Tryd.sizeOf9]
end Go.Proofs.YtemihmehppbgmaaDoor
