/-
  THE PROGRAM FOLLOWS Go's MIXED ORDERS. No condition.
-/
import Derived.Test.YtkbciolghkcjoaaVo
import Derived.Test.YtkbciolghkcjoaaChecked
namespace Go.Proofs.Ytkbciolghkcjoaa.Vc

theorem mixed : Go.Proofs.Try.prog.follows .mixedOrders = true := by kernel_rfl

end Go.Proofs.Ytkbciolghkcjoaa.Vc
