/-
  ParseFixed HOLDS: of a text that is a tree the text of that tree is that tree, and its own text. No condition.
-/
import Derived.Test.YtmohgkoomnihfaaWj
import Derived.Test.YtmohgkoomnihfaaC7
set_option linter.unusedVariables false
set_option linter.unusedSimpArgs false
namespace Go.Proofs.Ytmohgkoomnihfaa

theorem parse_fixed : Rows.ParseFixedSaid := ParseFixed_of fun x _ => Vc.P9 2000000 x.1 true (Vc.L_fixed 2000000 x.1 (by decide))

end Go.Proofs.Ytmohgkoomnihfaa
