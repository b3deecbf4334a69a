/-
  LinesTwice HOLDS: commands that stand twice do no more than once. No condition.
-/
import Derived.Test.YtkbciolghkcjoaaPq
import Derived.Test.YtkbciolghkcjoaaC4
set_option linter.unusedVariables false
set_option linter.unusedSimpArgs false
namespace Go.Proofs.Ytkbciolghkcjoaa

theorem lines_twice : Rows.LinesTwiceSaid := LinesTwice_of fun x _ => Vc.P6 2000000 x.1 true (Vc.L_twice 2000000 x.1 (by decide))

end Go.Proofs.Ytkbciolghkcjoaa
