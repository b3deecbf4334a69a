/-
  LexPlace HOLDS: the line and the byte of any place in any text are what the document says. No condition.
-/
import Derived.Test.YtojcdimaeiibdaaLl
import Derived.Test.YtojcdimaeiibdaaC2
set_option linter.unusedVariables false
set_option linter.unusedSimpArgs false
namespace Go.Proofs.Ytojcdimaeiibdaa

theorem lex_place : Rows.LexPlaceSaid := LexPlace_of fun x _ => Vc.P4 3000 x.1 x.2.1 true (Vc.law_place 3000 x.1 x.2.1 (by decide))

end Go.Proofs.Ytojcdimaeiibdaa
