/-
  EditBack HOLDS: a part that is renamed, and renamed back, is as it was; so is a tree whose copy is deleted. No condition.
-/
import Derived.Test.YtcjlpdnhbgbooaaEl
import Derived.Test.YtcjlpdnhbgbooaaC4
set_option linter.unusedVariables false
set_option linter.unusedSimpArgs false
namespace Go.Proofs.Ytcjlpdnhbgbooaa

theorem edit_back : Rows.EditBackSaid := EditBack_of fun x _ => Vc.P6 6000 x.1 x.2.1 x.2.2.1 true (Vc.L_back 6000 x.1 x.2.1 x.2.2.1 (by decide))

end Go.Proofs.Ytcjlpdnhbgbooaa
