/-
  TreeKids HOLDS. No condition.
-/
import Derived.Test.YtinbdleemjpkpaaTm
import Derived.Test.YtinbdleemjpkpaaC
set_option linter.unusedVariables false
set_option linter.unusedSimpArgs false
namespace Go.Proofs.Ytinbdleemjpkpaa

theorem tree_kids : Rows.TreeKidsSaid := TreeKids_of fun x h => Vc.P7 3000 x.1 true (Vc.L_kids 3000 x.1 (by decide))

end Go.Proofs.Ytinbdleemjpkpaa
