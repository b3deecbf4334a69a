/-
  GroupsPaths HOLDS: of a group that is applied alone all paths that are inherited are there. No condition.
-/
import Derived.Test.YtannkhelkpmcfaaUm
import Derived.Test.YtannkhelkpmcfaaC7
set_option linter.unusedVariables false
set_option linter.unusedSimpArgs false
namespace Go.Proofs.Ytannkhelkpmcfaa

theorem groups_paths : Rows.GroupsPathsSaid := GroupsPaths_of fun x _ => Vc.P9 100000001 x.1 x.2.1 true (Vc.L_paths 100000001 x.1 x.2.1 (by decide))

end Go.Proofs.Ytannkhelkpmcfaa
