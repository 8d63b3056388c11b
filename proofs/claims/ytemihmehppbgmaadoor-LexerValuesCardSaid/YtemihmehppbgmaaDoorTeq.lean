/-
  '==' ON TWO TOKENS THAT ARE ALIKE.
-/
import Derived.Test.YtemihmehppbgmaaDoorVeq
import Derived.Test.YtemihmehppbgmaaDoorLw4
namespace Go.Proofs.YtemihmehppbgmaaDoor
open Go.RowKit

theorem guardTok : Tryd.prog.eqGuardType Tryd.prog.depth 37 = false := by kernel_rfl
theorem heldTok : Tryd.prog.stoodInHeld 37 = false := by kernel_rfl
theorem structTok : Tryd.prog.underlying 37 = some (.struct (Tryd.prog.fieldsOf 37)) := by kernel_rfl
theorem eq_tok (k : Int) (s : ByteArray) (v : V) (a : Int) (w : World) :
    (Op.equalIn 10000 37 (.agg #[.int .i64 k, .string s, .int .i64 v.k, .int .i64 v.n, .string v.s, .int .i64 a]) (.agg #[.int .i64 k, .string s, .int .i64 v.k, .int .i64 v.n, .string v.s, .int .i64 a])).run Tryd.prog w = .ok true w := by
  rw [run_equalIn_agg w 9999 _ _ _ structTok heldTok]
  simp [go_sem, Tryd.underlying35, Tryd.underlying3, Tryd.underlying2, Tryd.underlying9]
end Go.Proofs.YtemihmehppbgmaaDoor
