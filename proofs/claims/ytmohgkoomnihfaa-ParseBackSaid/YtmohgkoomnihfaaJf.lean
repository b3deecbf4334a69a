/-
  ParseBack HOLDS: the text of a tree is that tree. No condition.
-/
import Derived.Test.YtmohgkoomnihfaaWj
import Derived.Test.YtmohgkoomnihfaaC6
set_option linter.unusedVariables false
set_option linter.unusedSimpArgs false
namespace Go.Proofs.Ytmohgkoomnihfaa

theorem parse_back : Rows.ParseBackSaid := ParseBack_of fun x _ => Vc.P8 2000000 x.1 true (Vc.L_back 2000000 x.1 (by decide))

end Go.Proofs.Ytmohgkoomnihfaa
