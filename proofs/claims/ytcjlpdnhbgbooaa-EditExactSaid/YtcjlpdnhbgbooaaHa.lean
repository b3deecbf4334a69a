/-
  EditExact HOLDS: whatever is done to any lines is what the document says, or refused. No condition.
-/
import Derived.Test.YtcjlpdnhbgbooaaEl
import Derived.Test.YtcjlpdnhbgbooaaC1
set_option linter.unusedVariables false
set_option linter.unusedSimpArgs false
namespace Go.Proofs.Ytcjlpdnhbgbooaa

theorem edit_exact : Rows.EditExactSaid := EditExact_of fun x _ => Vc.P3 6000 x.1 x.2.1 true (Vc.L_exact 6000 x.1 x.2.1 (by decide))

end Go.Proofs.Ytcjlpdnhbgbooaa
