/-
  DiffOnce HOLDS (the card: the tables that the library lays, tied to its text): no path stands twice in a difference, nor one under another one that is Gone. No condition.
-/
import Derived.Test.YtncgafojgdemdaaDoorDv
import Derived.Test.YtncgafojgdemdaaDoorC5
set_option linter.unusedVariables false
set_option linter.unusedSimpArgs false
namespace Go.Proofs.YtncgafojgdemdaaDoor

theorem diff_once : Rows.DiffOnceCardSaid := DiffOnce_card fun x _ => Vc.P7 6000 x.1 x.2.1 true (Vc.L_once 6000 x.1 x.2.1 (by decide))

end Go.Proofs.YtncgafojgdemdaaDoor
