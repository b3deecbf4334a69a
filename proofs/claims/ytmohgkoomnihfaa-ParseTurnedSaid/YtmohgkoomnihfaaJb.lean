/-
  ParseTurned HOLDS: siblings may change places. No condition.
-/
import Derived.Test.YtmohgkoomnihfaaWj
import Derived.Test.YtmohgkoomnihfaaC2
set_option linter.unusedVariables false
set_option linter.unusedSimpArgs false
namespace Go.Proofs.Ytmohgkoomnihfaa

theorem parse_turned : Rows.ParseTurnedSaid := ParseTurned_of fun x _ => Vc.P4 2000000 x.1 x.2.1 true (Vc.L_turned 2000000 x.1 x.2.1 (by decide))

end Go.Proofs.Ytmohgkoomnihfaa
