/-
  MergeApart HOLDS: sides that have changed parts of unlike first words never conflict: what comes out is the base, with both differences applied. No condition.
-/
import Derived.Test.YtbchajjppgkgnaaMv
import Derived.Test.YtbchajjppgkgnaaC6
set_option linter.unusedVariables false
set_option linter.unusedSimpArgs false
namespace Go.Proofs.Ytbchajjppgkgnaa

theorem merge_apart : Rows.MergeApartSaid := MergeApart_of fun x _ => Vc.P8 6000 x.1 x.2.1 x.2.2.1 true (Vc.L_apart 6000 x.1 x.2.1 x.2.2.1 (by decide))

end Go.Proofs.Ytbchajjppgkgnaa
