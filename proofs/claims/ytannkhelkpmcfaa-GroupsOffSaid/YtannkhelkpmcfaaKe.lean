/-
  GroupsOff HOLDS: a line that is inactive is as if it, and what stands under it, were not there. No condition.
-/
import Derived.Test.YtannkhelkpmcfaaUl
import Derived.Test.YtannkhelkpmcfaaC5
set_option linter.unusedVariables false
set_option linter.unusedSimpArgs false
namespace Go.Proofs.Ytannkhelkpmcfaa

theorem groups_off : Rows.GroupsOffSaid := GroupsOff_of fun x _ => Vc.P7 100000001 x.1 true (Vc.L_off 100000001 x.1 (by decide))

end Go.Proofs.Ytannkhelkpmcfaa
