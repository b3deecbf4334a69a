/-
  DiffStep HOLDS (the card: the tables that the library lays, tied to its text): a path that is added to a tree is told by as many Adds as lines are new, and by nothing else. No condition.
-/
import Derived.Test.YtncgafojgdemdaaDoorDv
import Derived.Test.YtncgafojgdemdaaDoorC6
set_option linter.unusedVariables false
set_option linter.unusedSimpArgs false
namespace Go.Proofs.YtncgafojgdemdaaDoor

theorem diff_step : Rows.DiffStepCardSaid := DiffStep_card fun x _ => Vc.P8 6000 x.1 x.2.1 true (Vc.L_step 6000 x.1 x.2.1 (by decide))

end Go.Proofs.YtncgafojgdemdaaDoor
