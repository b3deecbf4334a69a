/-
  EditGone HOLDS: what is deleted is gone, with all that stands under it, and nothing else. No condition.
-/
import Derived.Test.YtcjlpdnhbgbooaaEm
import Derived.Test.YtcjlpdnhbgbooaaC5
set_option linter.unusedVariables false
set_option linter.unusedSimpArgs false
namespace Go.Proofs.Ytcjlpdnhbgbooaa

theorem edit_gone : Rows.EditGoneSaid := EditGone_of fun x _ => Vc.P7 6000 x.1 x.2.1 true (Vc.L_gone 6000 x.1 x.2.1 (by decide))

end Go.Proofs.Ytcjlpdnhbgbooaa
