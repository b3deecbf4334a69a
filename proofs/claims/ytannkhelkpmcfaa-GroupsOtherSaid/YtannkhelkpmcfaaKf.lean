/-
  GroupsOther HOLDS: a group that is not applied makes no difference. No condition.
-/
import Derived.Test.YtannkhelkpmcfaaUm
import Derived.Test.YtannkhelkpmcfaaC6
set_option linter.unusedVariables false
set_option linter.unusedSimpArgs false
namespace Go.Proofs.Ytannkhelkpmcfaa

theorem groups_other : Rows.GroupsOtherSaid := GroupsOther_of fun x _ => Vc.P8 100000001 x.1 x.2.1 true (Vc.L_other 100000001 x.1 x.2.1 (by decide))

end Go.Proofs.Ytannkhelkpmcfaa
