/-
  EditLocked HOLDS: what is locked stays, whatever is done, but that its own Protect may go. No condition.
-/
import Derived.Test.YtcjlpdnhbgbooaaEl
import Derived.Test.YtcjlpdnhbgbooaaC3
set_option linter.unusedVariables false
set_option linter.unusedSimpArgs false
namespace Go.Proofs.Ytcjlpdnhbgbooaa

theorem edit_locked : Rows.EditLockedSaid := EditLocked_of fun x _ => Vc.P5 6000 x.1 x.2.1 true (Vc.L_locked 6000 x.1 x.2.1 (by decide))

end Go.Proofs.Ytcjlpdnhbgbooaa
