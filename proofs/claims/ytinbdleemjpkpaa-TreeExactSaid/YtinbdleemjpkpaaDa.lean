/-
  TreeExact HOLDS: what any lines are, and have at any place, is what the document says. No condition.
-/
import Derived.Test.YtinbdleemjpkpaaTl
import Derived.Test.YtinbdleemjpkpaaC
set_option linter.unusedVariables false
set_option linter.unusedSimpArgs false
namespace Go.Proofs.Ytinbdleemjpkpaa

theorem tree_exact : Rows.TreeExactSaid := TreeExact_of fun x _ => Vc.P3 3000 x.1 x.2.1 true (Vc.L_exact 3000 x.1 x.2.1 (by decide))

end Go.Proofs.Ytinbdleemjpkpaa
