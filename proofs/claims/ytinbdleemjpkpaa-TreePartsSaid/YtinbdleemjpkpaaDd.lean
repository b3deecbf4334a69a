/-
  TreeParts HOLDS. No condition.
-/
import Derived.Test.YtinbdleemjpkpaaTm
import Derived.Test.YtinbdleemjpkpaaC
set_option linter.unusedVariables false
set_option linter.unusedSimpArgs false
namespace Go.Proofs.Ytinbdleemjpkpaa

theorem tree_parts : Rows.TreePartsSaid := TreeParts_of fun x h => Vc.P6 3000 x.1 x.2.1 true (Vc.L_parts 3000 x.1 x.2.1 (by decide))

end Go.Proofs.Ytinbdleemjpkpaa
