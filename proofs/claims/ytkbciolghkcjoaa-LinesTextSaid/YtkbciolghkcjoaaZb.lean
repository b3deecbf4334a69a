/-
  LinesText HOLDS: the commands of any lines are what the document says, or refused. No condition.
-/
import Derived.Test.YtkbciolghkcjoaaPq
import Derived.Test.YtkbciolghkcjoaaC2
set_option linter.unusedVariables false
set_option linter.unusedSimpArgs false
namespace Go.Proofs.Ytkbciolghkcjoaa

theorem lines_text : Rows.LinesTextSaid := LinesText_of fun x _ => Vc.P4 2000000 x.1 true (Vc.L_text 2000000 x.1 (by decide))

end Go.Proofs.Ytkbciolghkcjoaa
