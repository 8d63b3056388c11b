/-
  THE TABLE's ROW of a byte.
-/
import Derived.Test.YtaghaigckgckpaaDoorKit
import Derived.Test.YtaghaigckgckpaaDoorProg
import Derived.OwnWalk
import Derived.KernelRfl
namespace Go.Proofs.YtaghaigckgckpaaDoor
open Go.RowKit

theorem infoByte : (Tryd.prog.info? 5).map (fun i => (i.zero, i.size, i.bytes)) = some (some (.int .u8 0), 1, 1) := by kernel_rfl
end Go.Proofs.YtaghaigckgckpaaDoor
