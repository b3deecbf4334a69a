/-
  PatchChain HOLDS: patches, one behind the other. No condition.
-/
import Derived.Test.YtnkinnhgahpcoaaAl
import Derived.Test.YtnkinnhgahpcoaaC6
set_option linter.unusedVariables false
set_option linter.unusedSimpArgs false
namespace Go.Proofs.Ytnkinnhgahpcoaa

theorem patch_chain : Rows.PatchChainSaid := PatchChain_of fun x hx => Vc.P8 (100001 + x.1.length + x.2.1.length + x.2.2.1.length) x.1 x.2.1 x.2.2.1 true (Vc.L_chain (100001 + x.1.length + x.2.1.length + x.2.2.1.length) x.1 x.2.1 x.2.2.1 hx.1.1 hx.2.1.1 hx.2.2.1.1 (by omega))

end Go.Proofs.Ytnkinnhgahpcoaa
