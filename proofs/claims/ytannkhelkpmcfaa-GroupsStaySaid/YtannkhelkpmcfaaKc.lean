/-
  GroupsStay HOLDS: what is explicit stays, and each line that is new is the beginning of a path of a group. No condition.
-/
import Derived.Test.YtannkhelkpmcfaaUn
import Derived.Test.YtannkhelkpmcfaaC3
set_option linter.unusedVariables false
set_option linter.unusedSimpArgs false
namespace Go.Proofs.Ytannkhelkpmcfaa

theorem groups_stay : Rows.GroupsStaySaid := GroupsStay_of fun x _ => Vc.P5 100000001 x.1 true (Vc.L_stay 100000001 x.1 (by decide))

end Go.Proofs.Ytannkhelkpmcfaa
