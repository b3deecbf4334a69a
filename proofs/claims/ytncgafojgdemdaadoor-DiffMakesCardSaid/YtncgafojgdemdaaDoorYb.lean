/-
  DiffMakes HOLDS (the card: the tables that the library lays, tied to its text): the first tree, with the difference applied, is the second one; there is none just between equal trees. No condition.
-/
import Derived.Test.YtncgafojgdemdaaDoorDv
import Derived.Test.YtncgafojgdemdaaDoorC2
set_option linter.unusedVariables false
set_option linter.unusedSimpArgs false
namespace Go.Proofs.YtncgafojgdemdaaDoor

theorem diff_makes : Rows.DiffMakesCardSaid := DiffMakes_card fun x _ => Vc.P4 6000 x.1 x.2.1 true (Vc.L_makes 6000 x.1 x.2.1 (by decide))

end Go.Proofs.YtncgafojgdemdaaDoor
