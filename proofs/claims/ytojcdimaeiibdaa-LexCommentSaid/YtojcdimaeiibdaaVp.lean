/-
  THE PROGRAM FOLLOWS Go's MIXED ORDERS. No condition.
-/
import Derived.Test.YtojcdimaeiibdaaVo
import Derived.Test.YtojcdimaeiibdaaChecked
namespace Go.Proofs.Ytojcdimaeiibdaa.Vc

theorem mixed : Go.Proofs.Try.prog.follows .mixedOrders = true := by kernel_rfl

end Go.Proofs.Ytojcdimaeiibdaa.Vc
