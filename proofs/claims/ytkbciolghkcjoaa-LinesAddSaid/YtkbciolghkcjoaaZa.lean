/-
  LinesAdd HOLDS: any path, added to any lines, is what the document says, or refused. No condition.
-/
import Derived.Test.YtkbciolghkcjoaaPq
import Derived.Test.YtkbciolghkcjoaaC1
set_option linter.unusedVariables false
set_option linter.unusedSimpArgs false
namespace Go.Proofs.Ytkbciolghkcjoaa

theorem lines_add : Rows.LinesAddSaid := LinesAdd_of fun x _ => Vc.P3 2000000 x.1 x.2.1 true (Vc.L_add 2000000 x.1 x.2.1 (by decide))

end Go.Proofs.Ytkbciolghkcjoaa
