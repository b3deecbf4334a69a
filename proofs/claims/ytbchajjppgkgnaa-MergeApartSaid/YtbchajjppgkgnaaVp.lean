/-
  THE PROGRAM FOLLOWS Go's MIXED ORDERS. No condition.
-/
import Derived.Test.YtbchajjppgkgnaaVo
import Derived.Test.YtbchajjppgkgnaaChecked
namespace Go.Proofs.Ytbchajjppgkgnaa.Vc

theorem mixed : Go.Proofs.Try.prog.follows .mixedOrders = true := by kernel_rfl

end Go.Proofs.Ytbchajjppgkgnaa.Vc
