/-
  LexRises HOLDS: tokens stand at places that rise. No condition.
-/
import Derived.Test.YtojcdimaeiibdaaLm
import Derived.Test.YtojcdimaeiibdaaC7
set_option linter.unusedVariables false
set_option linter.unusedSimpArgs false
namespace Go.Proofs.Ytojcdimaeiibdaa

theorem lex_rises : Rows.LexRisesSaid := LexRises_of fun x _ => Vc.P9 3000 x.1 true (Vc.law_rises 3000 x.1 (by decide))

end Go.Proofs.Ytojcdimaeiibdaa
