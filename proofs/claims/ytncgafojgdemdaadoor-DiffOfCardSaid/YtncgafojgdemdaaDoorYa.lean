/-
  DiffOf HOLDS (the card: the tables that the library lays, tied to its text): the difference of any two trees, as changes and as rows, is what the document says, or refused. No condition.
-/
import Derived.Test.YtncgafojgdemdaaDoorDv
import Derived.Test.YtncgafojgdemdaaDoorC1
set_option linter.unusedVariables false
set_option linter.unusedSimpArgs false
namespace Go.Proofs.YtncgafojgdemdaaDoor

theorem diff_of : Rows.DiffOfCardSaid := DiffOf_card fun x _ => Vc.P3 6000 x.1 x.2.1 true (Vc.L_of 6000 x.1 x.2.1 (by decide))

end Go.Proofs.YtncgafojgdemdaaDoor
