/-
  DiffBack HOLDS (the card: the tables that the library lays, tied to its text): the difference there, and that back, one behind the other, change nothing. No condition.
-/
import Derived.Test.YtncgafojgdemdaaDoorDv
import Derived.Test.YtncgafojgdemdaaDoorC3
set_option linter.unusedVariables false
set_option linter.unusedSimpArgs false
namespace Go.Proofs.YtncgafojgdemdaaDoor

theorem diff_back : Rows.DiffBackCardSaid := DiffBack_card fun x _ => Vc.P5 6000 x.1 x.2.1 true (Vc.L_back 6000 x.1 x.2.1 (by decide))

end Go.Proofs.YtncgafojgdemdaaDoor
