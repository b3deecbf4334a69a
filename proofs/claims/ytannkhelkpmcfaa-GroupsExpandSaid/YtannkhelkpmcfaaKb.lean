/-
  GroupsExpand HOLDS: any lines, expanded, and the paths of any group, are what the document says, or refused. No condition.
-/
import Derived.Test.YtannkhelkpmcfaaUl
import Derived.Test.YtannkhelkpmcfaaC2
set_option linter.unusedVariables false
set_option linter.unusedSimpArgs false
namespace Go.Proofs.Ytannkhelkpmcfaa

theorem groups_expand : Rows.GroupsExpandSaid := GroupsExpand_of fun x _ => Vc.P4 100000001 x.1 x.2.1 true (Vc.L_expand 100000001 x.1 x.2.1 (by decide))

end Go.Proofs.Ytannkhelkpmcfaa
