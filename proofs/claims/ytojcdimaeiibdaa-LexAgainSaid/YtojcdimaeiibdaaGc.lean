/-
  LexAgain HOLDS: tokens, written one blank apart, are the same tokens. No condition.
-/
import Derived.Test.YtojcdimaeiibdaaLn
import Derived.Test.YtojcdimaeiibdaaC3
set_option linter.unusedVariables false
set_option linter.unusedSimpArgs false
namespace Go.Proofs.Ytojcdimaeiibdaa

theorem lex_again : Rows.LexAgainSaid := LexAgain_of fun x _ => Vc.P5 300000 x.1 true (Vc.law_again 300000 x.1 (by decide))

end Go.Proofs.Ytojcdimaeiibdaa
