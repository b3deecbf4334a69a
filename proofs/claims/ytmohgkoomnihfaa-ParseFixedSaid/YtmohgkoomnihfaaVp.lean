/-
  THE PROGRAM FOLLOWS Go's MIXED ORDERS. No condition.
-/
import Derived.Test.YtmohgkoomnihfaaVo
import Derived.Test.YtmohgkoomnihfaaChecked
namespace Go.Proofs.Ytmohgkoomnihfaa.Vc

theorem mixed : Go.Proofs.Try.prog.follows .mixedOrders = true := by kernel_rfl

end Go.Proofs.Ytmohgkoomnihfaa.Vc
