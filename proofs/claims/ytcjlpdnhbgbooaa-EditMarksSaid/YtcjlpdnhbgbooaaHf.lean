/-
  EditMarks HOLDS: a mark that is set, and taken off, leaves the tree as it was. No condition.
-/
import Derived.Test.YtcjlpdnhbgbooaaEm
import Derived.Test.YtcjlpdnhbgbooaaC6
set_option linter.unusedVariables false
set_option linter.unusedSimpArgs false
namespace Go.Proofs.Ytcjlpdnhbgbooaa

theorem edit_marks : Rows.EditMarksSaid := EditMarks_of fun x _ => Vc.P8 6000 x.1 x.2.1 x.2.2.1 true (Vc.L_marks 6000 x.1 x.2.1 x.2.2.1 (by decide))

end Go.Proofs.Ytcjlpdnhbgbooaa
