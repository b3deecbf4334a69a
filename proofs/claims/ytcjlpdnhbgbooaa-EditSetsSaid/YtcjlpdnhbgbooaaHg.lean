/-
  EditSets HOLDS: a path that is set is there; set again it changes nothing. No condition.
-/
import Derived.Test.YtcjlpdnhbgbooaaEm
import Derived.Test.YtcjlpdnhbgbooaaC7
set_option linter.unusedVariables false
set_option linter.unusedSimpArgs false
namespace Go.Proofs.Ytcjlpdnhbgbooaa

theorem edit_sets : Rows.EditSetsSaid := EditSets_of fun x _ => Vc.P9 6000 x.1 x.2.1 true (Vc.L_sets 6000 x.1 x.2.1 (by decide))

end Go.Proofs.Ytcjlpdnhbgbooaa
