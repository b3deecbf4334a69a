/-
  slices.SortFunc's family, at this program. No condition.
-/
import Derived.Test.YtbchajjppgkgnaaProg
import Derived.Shelf.SlSortCmp.NoneTotal
import Derived.Shelf.Lay
import Derived.Ground.SlsfProg
set_option linter.unusedVariables false
set_option linter.unusedSimpArgs false
namespace Go.Proofs
open Go.Shelf
shelf_lay_g SlLaysF.n6 Slsf 6 at Try 36 as Try.sortL
end Go.Proofs
