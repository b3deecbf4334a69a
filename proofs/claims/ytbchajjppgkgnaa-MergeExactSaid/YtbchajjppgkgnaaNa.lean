/-
  MergeExact HOLDS: what any three trees make, or which paths conflict, is what the document says, or refused. No condition.
-/
import Derived.Test.YtbchajjppgkgnaaMs
import Derived.Test.YtbchajjppgkgnaaC1
set_option linter.unusedVariables false
set_option linter.unusedSimpArgs false
namespace Go.Proofs.Ytbchajjppgkgnaa

theorem merge_exact : Rows.MergeExactSaid := MergeExact_of fun x _ => Vc.P3 6000 x.1 x.2.1 x.2.2.1 true (Vc.L_exact 6000 x.1 x.2.1 x.2.2.1 (by decide))

end Go.Proofs.Ytbchajjppgkgnaa
