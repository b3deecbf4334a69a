/-
  MergeTrue HOLDS: what comes out is a tree, each of whose lines, with its mark, one side has; a path that both sides have kept as the base has it is there so. No condition.
-/
import Derived.Test.YtbchajjppgkgnaaMs
import Derived.Test.YtbchajjppgkgnaaC4
set_option linter.unusedVariables false
set_option linter.unusedSimpArgs false
namespace Go.Proofs.Ytbchajjppgkgnaa

theorem merge_true : Rows.MergeTrueSaid := MergeTrue_of fun x _ => Vc.P6 6000 x.1 x.2.1 x.2.2.1 true (Vc.L_true 6000 x.1 x.2.1 x.2.2.1 (by decide))

end Go.Proofs.Ytbchajjppgkgnaa
