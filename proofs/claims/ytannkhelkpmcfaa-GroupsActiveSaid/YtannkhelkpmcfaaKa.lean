/-
  GroupsActive HOLDS: the active tree, and what is explicit, of any lines, are what the document says, or refused. No condition.
-/
import Derived.Test.YtannkhelkpmcfaaUl
import Derived.Test.YtannkhelkpmcfaaC1
set_option linter.unusedVariables false
set_option linter.unusedSimpArgs false
namespace Go.Proofs.Ytannkhelkpmcfaa

theorem groups_active : Rows.GroupsActiveSaid := GroupsActive_of fun x _ => Vc.P3 100000001 x.1 true (Vc.L_active 100000001 x.1 (by decide))

end Go.Proofs.Ytannkhelkpmcfaa
