/-
  EditTree HOLDS: whatever is done, a tree stays a tree; with an error nothing has changed. No condition.
-/
import Derived.Test.YtcjlpdnhbgbooaaEl
import Derived.Test.YtcjlpdnhbgbooaaC2
set_option linter.unusedVariables false
set_option linter.unusedSimpArgs false
namespace Go.Proofs.Ytcjlpdnhbgbooaa

theorem edit_tree : Rows.EditTreeSaid := EditTree_of fun x _ => Vc.P4 6000 x.1 true (Vc.L_tree 6000 x.1 (by decide))

end Go.Proofs.Ytcjlpdnhbgbooaa
