/-
  PatchHosts HOLDS: hosts may be patched one by one, in any order. No condition.
-/
import Derived.Test.YtnkinnhgahpcoaaAm
import Derived.Test.YtnkinnhgahpcoaaC4
set_option linter.unusedVariables false
set_option linter.unusedSimpArgs false
namespace Go.Proofs.Ytnkinnhgahpcoaa

theorem patch_hosts : Rows.PatchHostsSaid := PatchHosts_of fun x hx => Vc.P6 (100001 + x.1.length + x.2.1.length) x.1 x.2.1 x.2.2.1 true (Vc.L_hosts (100001 + x.1.length + x.2.1.length) x.1 x.2.1 x.2.2.1 (Vc.u8_range hx.2.2.1).1 (Vc.u8_range hx.2.2.1).2 hx.1.1 hx.2.1.1 (by omega))

end Go.Proofs.Ytnkinnhgahpcoaa
