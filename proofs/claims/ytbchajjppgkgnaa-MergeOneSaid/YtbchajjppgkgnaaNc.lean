/-
  MergeOne HOLDS: where one side is the base the other side is what comes out; where both are the same, that. No condition.
-/
import Derived.Test.YtbchajjppgkgnaaMs
import Derived.Test.YtbchajjppgkgnaaC3
set_option linter.unusedVariables false
set_option linter.unusedSimpArgs false
namespace Go.Proofs.Ytbchajjppgkgnaa

theorem merge_one : Rows.MergeOneSaid := MergeOne_of fun x _ => Vc.P5 6000 x.1 x.2.1 true (Vc.L_one 6000 x.1 x.2.1 (by decide))

end Go.Proofs.Ytbchajjppgkgnaa
