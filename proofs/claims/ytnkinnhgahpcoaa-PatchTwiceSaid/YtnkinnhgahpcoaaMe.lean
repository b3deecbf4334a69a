/-
  PatchTwice HOLDS: what is applied twice is as if it were applied once. No condition.
-/
import Derived.Test.YtnkinnhgahpcoaaAl
import Derived.Test.YtnkinnhgahpcoaaC5
set_option linter.unusedVariables false
set_option linter.unusedSimpArgs false
namespace Go.Proofs.Ytnkinnhgahpcoaa

theorem patch_twice : Rows.PatchTwiceSaid := PatchTwice_of fun x hx => Vc.P7 (100001 + x.1.length + x.2.1.1.length + x.2.1.2.length) x.1 x.2.1 true (Vc.L_twice (100001 + x.1.length + x.2.1.1.length + x.2.1.2.length) x.1 x.2.1 hx.1.1 hx.2.1.1.1 hx.2.1.2.1 (by omega))

end Go.Proofs.Ytnkinnhgahpcoaa
