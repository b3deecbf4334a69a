/-
  PatchLeast HOLDS: any patch that brings one list to another has each entry of the patch between. No condition.
-/
import Derived.Test.YtnkinnhgahpcoaaAl
import Derived.Test.YtnkinnhgahpcoaaC3
set_option linter.unusedVariables false
set_option linter.unusedSimpArgs false
namespace Go.Proofs.Ytnkinnhgahpcoaa

theorem patch_least : Rows.PatchLeastSaid := PatchLeast_of fun x hx => Vc.P5 (100001 + x.1.length + x.2.1.length + x.2.2.1.1.length + x.2.2.1.2.length) x.1 x.2.1 x.2.2.1 true (Vc.L_least (100001 + x.1.length + x.2.1.length + x.2.2.1.1.length + x.2.2.1.2.length) x.1 x.2.1 x.2.2.1 hx.1.1 hx.2.1.1 hx.2.2.1.1.1 hx.2.2.1.2.1 (by omega))

end Go.Proofs.Ytnkinnhgahpcoaa
