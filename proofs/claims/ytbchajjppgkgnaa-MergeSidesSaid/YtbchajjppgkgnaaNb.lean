/-
  MergeSides HOLDS: sides may change places. No condition.
-/
import Derived.Test.YtbchajjppgkgnaaMs
import Derived.Test.YtbchajjppgkgnaaC2
set_option linter.unusedVariables false
set_option linter.unusedSimpArgs false
namespace Go.Proofs.Ytbchajjppgkgnaa

theorem merge_sides : Rows.MergeSidesSaid := MergeSides_of fun x _ => Vc.P4 6000 x.1 x.2.1 x.2.2.1 true (Vc.L_sides 6000 x.1 x.2.1 x.2.2.1 (by decide))

end Go.Proofs.Ytbchajjppgkgnaa
