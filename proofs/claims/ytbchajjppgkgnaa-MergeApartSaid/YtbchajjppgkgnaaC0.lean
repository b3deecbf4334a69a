/-
  EACH STATEMENT OF THIS SEAT, OUT OF THE LAW TOLD OF DATA: if the law's call answers true for all data, the given row holds. No condition.
-/
import Derived.Test.YtbchajjppgkgnaaVy
import Derived.Test.YtbchajjppgkgnaaVp
import Derived.Test.YtbchajjppgkgnaaRows
import Derived.Shelf.Vars
set_option linter.unusedVariables false
set_option linter.unusedSimpArgs false
namespace Go.Proofs.Ytbchajjppgkgnaa
open Go.ChangeShapes Go.WideShapes Go.ChangeAt Go.RowKit

theorem Try.own : ownKnob Try.prog.godebug = none := by kernel_rfl
theorem Try.laidOut : laidOutB Try.prog = true := by kernel_rfl

theorem Try.glb {W : World} (h : W.ShapedOpen Try.prog) : Vc.Glb Try.prog W fun b => b < W.heap.size :=
  Vc.glb_of_list [] (by kernel_rfl) fun g hg => by
    cases hg

end Go.Proofs.Ytbchajjppgkgnaa
