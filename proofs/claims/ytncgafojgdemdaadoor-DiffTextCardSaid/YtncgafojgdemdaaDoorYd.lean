/-
  DiffText HOLDS (the card: the tables that the library lays, tied to its text): the rows of any changes are what the document says. No condition.
-/
import Derived.Test.YtncgafojgdemdaaDoorDv
import Derived.Test.YtncgafojgdemdaaDoorC4
set_option linter.unusedVariables false
set_option linter.unusedSimpArgs false
namespace Go.Proofs.YtncgafojgdemdaaDoor

theorem diff_text : Rows.DiffTextCardSaid := DiffText_card fun x _ => Vc.P6 6000 x.1 true (Vc.L_text 6000 x.1 (by decide))

end Go.Proofs.YtncgafojgdemdaaDoor
