/-
  MergeAgain HOLDS: what comes out, merged with either side once more, over the same base, is the same. No condition.
-/
import Derived.Test.YtbchajjppgkgnaaMs
import Derived.Test.YtbchajjppgkgnaaC5
set_option linter.unusedVariables false
set_option linter.unusedSimpArgs false
namespace Go.Proofs.Ytbchajjppgkgnaa

theorem merge_again : Rows.MergeAgainSaid := MergeAgain_of fun x _ => Vc.P7 6000 x.1 x.2.1 x.2.2.1 true (Vc.L_again 6000 x.1 x.2.1 x.2.2.1 (by decide))

end Go.Proofs.Ytbchajjppgkgnaa
