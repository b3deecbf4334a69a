/-
  LexJoins HOLDS: the tokens of two texts, a byte 10 between, are those of both. No condition.
-/
import Derived.Test.YtojcdimaeiibdaaLm
import Derived.Test.YtojcdimaeiibdaaC4
set_option linter.unusedVariables false
set_option linter.unusedSimpArgs false
namespace Go.Proofs.Ytojcdimaeiibdaa

theorem lex_joins : Rows.LexJoinsSaid := LexJoins_of fun x _ => Vc.P6 3000 x.1 x.2.1 true (Vc.law_joins 3000 x.1 x.2.1 (by decide))

end Go.Proofs.Ytojcdimaeiibdaa
