/-
  LinesBack HOLDS: the commands of a tree are read as that tree. No condition.
-/
import Derived.Test.YtkbciolghkcjoaaPq
import Derived.Test.YtkbciolghkcjoaaC3
set_option linter.unusedVariables false
set_option linter.unusedSimpArgs false
namespace Go.Proofs.Ytkbciolghkcjoaa

theorem lines_back : Rows.LinesBackSaid := LinesBack_of fun x _ => Vc.P5 2000000 x.1 true (Vc.L_back 2000000 x.1 (by decide))

end Go.Proofs.Ytkbciolghkcjoaa
