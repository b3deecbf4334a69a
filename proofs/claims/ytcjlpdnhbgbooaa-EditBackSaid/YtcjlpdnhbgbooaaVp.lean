/-
  THE PROGRAM FOLLOWS Go's MIXED ORDERS. No condition.
-/
import Derived.Test.YtcjlpdnhbgbooaaVo
import Derived.Test.YtcjlpdnhbgbooaaChecked
namespace Go.Proofs.Ytcjlpdnhbgbooaa.Vc

theorem mixed : Go.Proofs.Try.prog.follows .mixedOrders = true := by kernel_rfl

end Go.Proofs.Ytcjlpdnhbgbooaa.Vc
