/-
  EACH STATEMENT OF THIS SEAT, OUT OF THE LAW TOLD OF DATA: if the law's call answers true for all data, the given row holds. No condition.
-/
import Derived.Test.YtnkinnhgahpcoaaVy
import Derived.Test.YtnkinnhgahpcoaaVp
import Derived.Test.YtnkinnhgahpcoaaRows
import Derived.Shelf.Vars
set_option linter.unusedVariables false
set_option linter.unusedSimpArgs false
namespace Go.Proofs.Ytnkinnhgahpcoaa
open Go.ChangeShapes Go.WideShapes Go.ChangeAt Go.RowKit

theorem Try.own : ownKnob Try.prog.godebug = none := by kernel_rfl
theorem Try.laidOut : laidOutB Try.prog = true := by kernel_rfl

theorem Try.glb {W : World} (h : W.ShapedOpen Try.prog) : Vc.Glb Try.prog W fun b => b < W.heap.size :=
  Vc.glb_of_list [0] (by kernel_rfl) (by kernel_rfl) fun g hg => by
    rcases List.mem_cons.1 hg with rfl | hg
    · exact Go.Proofs.cell_of_shapedOpen_int (zero := #[.int .i64 0]) (t := 3) h (of_decide_eq_true (by kernel_rfl)) (by kernel_rfl) rfl (by kernel_rfl) (by kernel_rfl) Try.underlying3
    cases hg

end Go.Proofs.Ytnkinnhgahpcoaa
