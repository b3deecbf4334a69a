/-
  LexExact HOLDS: the tokens of any text, or where there are none, and why, are what the document says. No condition.
-/
import Derived.Test.YtojcdimaeiibdaaLl
import Derived.Test.YtojcdimaeiibdaaC1
set_option linter.unusedVariables false
set_option linter.unusedSimpArgs false
namespace Go.Proofs.Ytojcdimaeiibdaa

theorem lex_exact : Rows.LexExactSaid := LexExact_of fun x _ => Vc.P3 3000 x.1 true (Vc.law_exact 3000 x.1 (by decide))

end Go.Proofs.Ytojcdimaeiibdaa
