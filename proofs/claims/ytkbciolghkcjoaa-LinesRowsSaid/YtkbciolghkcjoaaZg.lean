/-
  LinesRows HOLDS: a tree's commands are a set for each leaf, and one more for each mark. No condition.
-/
import Derived.Test.YtkbciolghkcjoaaPr
import Derived.Test.YtkbciolghkcjoaaC7
set_option linter.unusedVariables false
set_option linter.unusedSimpArgs false
namespace Go.Proofs.Ytkbciolghkcjoaa

theorem lines_rows : Rows.LinesRowsSaid := LinesRows_of fun x _ => Vc.P9 2000000 x.1 true (Vc.L_rows 2000000 x.1 (by decide))

end Go.Proofs.Ytkbciolghkcjoaa
