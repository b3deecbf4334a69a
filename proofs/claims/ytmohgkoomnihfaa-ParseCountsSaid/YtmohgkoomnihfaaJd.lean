/-
  ParseCounts HOLDS: a text that is a tree has as many Names as that has lines. No condition.
-/
import Derived.Test.YtmohgkoomnihfaaWj
import Derived.Test.YtmohgkoomnihfaaC4
set_option linter.unusedVariables false
set_option linter.unusedSimpArgs false
namespace Go.Proofs.Ytmohgkoomnihfaa

theorem parse_counts : Rows.ParseCountsSaid := ParseCounts_of fun x _ => Vc.P6 2000000 x.1 true (Vc.L_counts 2000000 x.1 (by decide))

end Go.Proofs.Ytmohgkoomnihfaa
