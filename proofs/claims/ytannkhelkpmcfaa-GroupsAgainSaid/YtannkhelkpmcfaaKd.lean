/-
  GroupsAgain HOLDS: expanded again it changes nothing. No condition.
-/
import Derived.Test.YtannkhelkpmcfaaUl
import Derived.Test.YtannkhelkpmcfaaC4
set_option linter.unusedVariables false
set_option linter.unusedSimpArgs false
namespace Go.Proofs.Ytannkhelkpmcfaa

theorem groups_again : Rows.GroupsAgainSaid := GroupsAgain_of fun x _ => Vc.P6 100000001 x.1 true (Vc.L_again 100000001 x.1 (by decide))

end Go.Proofs.Ytannkhelkpmcfaa
