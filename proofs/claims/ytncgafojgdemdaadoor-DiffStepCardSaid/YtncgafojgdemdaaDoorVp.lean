/-
  THE PROGRAM FOLLOWS Go's MIXED ORDERS. No condition.
-/
import Derived.Test.YtncgafojgdemdaaDoorVo
import Derived.Test.YtncgafojgdemdaaDoorChecked
namespace Go.Proofs.YtncgafojgdemdaaDoor.Vc

theorem mixed : Go.Proofs.Tryd.prog.follows .mixedOrders = true := by kernel_rfl

end Go.Proofs.YtncgafojgdemdaaDoor.Vc
