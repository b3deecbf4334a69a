/-
  ParseExact HOLDS: the tree of any text, or where there is none, and why. No condition.
-/
import Derived.Test.YtmohgkoomnihfaaWj
import Derived.Test.YtmohgkoomnihfaaC1
set_option linter.unusedVariables false
set_option linter.unusedSimpArgs false
namespace Go.Proofs.Ytmohgkoomnihfaa

theorem parse_exact : Rows.ParseExactSaid := ParseExact_of fun x _ => Vc.P3 2000000 x.1 true (Vc.L_exact 2000000 x.1 (by decide))

end Go.Proofs.Ytmohgkoomnihfaa
