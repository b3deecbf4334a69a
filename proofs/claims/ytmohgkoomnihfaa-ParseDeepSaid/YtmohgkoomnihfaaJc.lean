/-
  ParseDeep HOLDS: an open line in so many others is read up to a Depth of 15. No condition.
-/
import Derived.Test.YtmohgkoomnihfaaWj
import Derived.Test.YtmohgkoomnihfaaC3
set_option linter.unusedVariables false
set_option linter.unusedSimpArgs false
namespace Go.Proofs.Ytmohgkoomnihfaa

theorem parse_deep : Rows.ParseDeepSaid := ParseDeep_of fun x hx => Vc.P5 2000000 x.1 x.2.1 true (Vc.L_deep 2000000 x.1 x.2.1 (Vc.u_range hx.1 (.inl rfl)).1 (Vc.u_range hx.1 (.inl rfl)).2 (by decide))

end Go.Proofs.Ytmohgkoomnihfaa
