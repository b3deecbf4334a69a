/-
  THE PROGRAM FOLLOWS Go's MIXED ORDERS. No condition.
-/
import Derived.Test.YtnkinnhgahpcoaaVo
import Derived.Test.YtnkinnhgahpcoaaChecked
namespace Go.Proofs.Ytnkinnhgahpcoaa.Vc

theorem mixed : Go.Proofs.Try.prog.follows .mixedOrders = true := by kernel_rfl

end Go.Proofs.Ytnkinnhgahpcoaa.Vc
