/-
  TreePaths HOLDS. No condition.
-/
import Derived.Test.YtinbdleemjpkpaaTm
import Derived.Test.YtinbdleemjpkpaaC
set_option linter.unusedVariables false
set_option linter.unusedSimpArgs false
namespace Go.Proofs.Ytinbdleemjpkpaa

theorem tree_paths : Rows.TreePathsSaid := TreePaths_of fun x h => Vc.P5 3000 x.1 true (Vc.L_paths 3000 x.1 (by decide))

end Go.Proofs.Ytinbdleemjpkpaa
