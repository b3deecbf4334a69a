/-
  PatchMakes HOLDS: the first list, with the patch between applied, is the second one. No condition.
-/
import Derived.Test.YtnkinnhgahpcoaaAl
import Derived.Test.YtnkinnhgahpcoaaC2
set_option linter.unusedVariables false
set_option linter.unusedSimpArgs false
namespace Go.Proofs.Ytnkinnhgahpcoaa

theorem patch_makes : Rows.PatchMakesSaid := PatchMakes_of fun x hx => Vc.P4 (100001 + x.1.length + x.2.1.length) x.1 x.2.1 true (Vc.L_makes (100001 + x.1.length + x.2.1.length) x.1 x.2.1 hx.1.1 hx.2.1.1 (by omega))

end Go.Proofs.Ytnkinnhgahpcoaa
