/-
  ParseCut HOLDS: of a tree's text that is cut off, but at the end of a part of Depth 0, there is no tree. No condition.
-/
import Derived.Test.YtmohgkoomnihfaaWj
import Derived.Test.YtmohgkoomnihfaaC5
set_option linter.unusedVariables false
set_option linter.unusedSimpArgs false
namespace Go.Proofs.Ytmohgkoomnihfaa

theorem parse_cut : Rows.ParseCutSaid := ParseCut_of fun x hx => Vc.P7 2000000 x.1 x.2.1 true (Vc.L_cut 2000000 x.1 x.2.1 (Vc.u_range hx.2.1 (.inr rfl)).1 (Vc.u_range hx.2.1 (.inr rfl)).2 (by decide))

end Go.Proofs.Ytmohgkoomnihfaa
