/-
  LexComment HOLDS: a comment between two texts turns nothing but places. No condition.
-/
import Derived.Test.YtojcdimaeiibdaaLm
import Derived.Test.YtojcdimaeiibdaaC5
set_option linter.unusedVariables false
set_option linter.unusedSimpArgs false
namespace Go.Proofs.Ytojcdimaeiibdaa

theorem lex_comment : Rows.LexCommentSaid := LexComment_of fun x _ => Vc.P7 3000 x.1 x.2.1 x.2.2.1 true (Vc.law_comment 3000 x.1 x.2.1 x.2.2.1 (by decide))

end Go.Proofs.Ytojcdimaeiibdaa
