/-
  TreeFinds HOLDS. No condition.
-/
import Derived.Test.YtinbdleemjpkpaaTm
import Derived.Test.YtinbdleemjpkpaaC
set_option linter.unusedVariables false
set_option linter.unusedSimpArgs false
namespace Go.Proofs.Ytinbdleemjpkpaa

theorem tree_finds : Rows.TreeFindsSaid := TreeFinds_of fun x h => Vc.P4 3000 x.1 x.2.1 true (Vc.L_finds 3000 x.1 x.2.1 (by decide))

end Go.Proofs.Ytinbdleemjpkpaa
