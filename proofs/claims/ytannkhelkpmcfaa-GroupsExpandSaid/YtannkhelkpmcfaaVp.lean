/-
  THE PROGRAM FOLLOWS Go's MIXED ORDERS. No condition.
-/
import Derived.Test.YtannkhelkpmcfaaVo
import Derived.Test.YtannkhelkpmcfaaChecked
namespace Go.Proofs.Ytannkhelkpmcfaa.Vc

theorem mixed : Go.Proofs.Try.prog.follows .mixedOrders = true := by kernel_rfl

end Go.Proofs.Ytannkhelkpmcfaa.Vc
