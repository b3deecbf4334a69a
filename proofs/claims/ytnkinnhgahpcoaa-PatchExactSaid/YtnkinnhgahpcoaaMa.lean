/-
  PatchExact HOLDS: what is between lists, and what a patch does, is what the document says. No condition.
-/
import Derived.Test.YtnkinnhgahpcoaaAl
import Derived.Test.YtnkinnhgahpcoaaC1
set_option linter.unusedVariables false
set_option linter.unusedSimpArgs false
namespace Go.Proofs.Ytnkinnhgahpcoaa

theorem patch_exact : Rows.PatchExactSaid := PatchExact_of fun x hx => Vc.P3 (100001 + x.1.length + x.2.1.length + x.2.2.1.1.length + x.2.2.1.2.length) x.1 x.2.1 x.2.2.1 x.2.2.2.1 true (Vc.L_exact (100001 + x.1.length + x.2.1.length + x.2.2.1.1.length + x.2.2.1.2.length) x.1 x.2.1 x.2.2.1 x.2.2.2.1 hx.1.1 hx.2.1.1 hx.2.2.1.1.1 hx.2.2.1.2.1 (by omega))

end Go.Proofs.Ytnkinnhgahpcoaa
