/-
  LinesGrows HOLDS: a path that is added is there, with all that was there, as it was. No condition.
-/
import Derived.Test.YtkbciolghkcjoaaPr
import Derived.Test.YtkbciolghkcjoaaC5
set_option linter.unusedVariables false
set_option linter.unusedSimpArgs false
namespace Go.Proofs.Ytkbciolghkcjoaa

theorem lines_grows : Rows.LinesGrowsSaid := LinesGrows_of fun x _ => Vc.P7 2000000 x.1 x.2.1 true (Vc.L_grows 2000000 x.1 x.2.1 (by decide))

end Go.Proofs.Ytkbciolghkcjoaa
