/-
  THE TABLE's ROW of a byte.
-/
import Derived.Test.YtgeapgbebbapmaaDoorKit
import Derived.Test.YtgeapgbebbapmaaDoorProg
import Derived.OwnWalk
import Derived.KernelRfl
namespace Go.Proofs.YtgeapgbebbapmaaDoor
open Go.RowKit

theorem infoByte : (Tryd.prog.info? 5).map (fun i => (i.zero, i.size, i.bytes)) = some (some (.int .u8 0), 1, 1) := by kernel_rfl
end Go.Proofs.YtgeapgbebbapmaaDoor
