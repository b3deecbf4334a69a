/-
  LinesOrder HOLDS: paths that are added make the same tree in any order. No condition.
-/
import Derived.Test.YtkbciolghkcjoaaPs
import Derived.Test.YtkbciolghkcjoaaC6
set_option linter.unusedVariables false
set_option linter.unusedSimpArgs false
namespace Go.Proofs.Ytkbciolghkcjoaa

theorem Vc.u8_wf {i : Int} (h : Vc.wfI (.int .u8) i) {q : Prop} (k : 0 ≤ i → i < 256 → q) : q := by
  have h' : (Lit.int .u8 i).wf = true := h
  have h2 : IntKind.u8.min ≤ i ∧ i ≤ IntKind.u8.max := by simpa [Lit.wf] using h'
  have m1 : IntKind.u8.min = 0 := by decide
  have m2 : IntKind.u8.max = 255 := by decide
  exact k (by omega) (by omega)

theorem lines_order : Rows.LinesOrderSaid := LinesOrder_of fun x h => Vc.P8 2000000 x.1 x.2.1 true (Vc.u8_wf h.2.1 fun h0 h1 => Vc.L_order 2000000 x.1 x.2.1 h0 h1 (by decide))

end Go.Proofs.Ytkbciolghkcjoaa
