/-
  PatchParts HOLDS: a patch is those of its hosts alone, together. No condition.
-/
import Derived.Test.YtnkinnhgahpcoaaAm
import Derived.Test.YtnkinnhgahpcoaaC7
set_option linter.unusedVariables false
set_option linter.unusedSimpArgs false
namespace Go.Proofs.Ytnkinnhgahpcoaa

theorem patch_parts : Rows.PatchPartsSaid := PatchParts_of fun x hx => Vc.P9 (100001 + x.1.1.length + x.1.2.length) x.1 true (Vc.L_parts (100001 + x.1.1.length + x.1.2.length) x.1 hx.1.1.1 hx.1.2.1 (by omega))

end Go.Proofs.Ytnkinnhgahpcoaa
