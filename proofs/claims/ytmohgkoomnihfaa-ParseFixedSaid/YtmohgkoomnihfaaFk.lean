/-
  WHAT THE FUNCTIONS DO WITH DATA, printed by a program from the translation. No condition.
-/
import Derived.Test.YtmohgkoomnihfaaVx
import Derived.Test.YtmohgkoomnihfaaVp
import Derived.Test.YtmohgkoomnihfaaTa
set_option linter.unusedVariables false
set_option linter.unusedSimpArgs false
set_option maxRecDepth 100000
namespace Go.Proofs.Ytmohgkoomnihfaa.Vc
open Go.RowKit

/-! (*ferryslip/parse.parser).name$1 -/
def E67 : Bool → D := fun x => encV tB x
noncomputable def V67 (N : Nat) (a0 : (Ln × Int)) (c0 : Int) (c1 : Bs) : Vt Bool (Option D) (fun q => some (E67 q)) :=
  .br (a0.2 == c0) (.leaf (a0.1.2.1 == c1)) (.leaf false)
noncomputable def F67 (N : Nat) (a0 : (Ln × Int)) (c0 : Int) (c1 : Bs) : Option Bool := (V67 N a0 c0 c1).eval
def t67 : List (Nat × List Nat × List (Nat × Sh)) := []
theorem P67 (N : Nat) (a0 : (Ln × Int)) (c0 : Int) (c1 : Bs) : ∀ r, F67 N a0 c0 c1 = some r → Spec Try.prog 67 [.agg [.val tI a0.1.1, .val tS a0.1.2.1, .val tI a0.1.2.2, .val tI a0.2], .ept [.val tI c0], .ept [.val tS c1]] (E67 r) := fun r h => Spec_of (fn := Try.f67) rfl rfl rfl rfl false (wpc_sound (tbl := t67) (μ := []) mixed _ _ _ (by
  have h1 := Vt.sound _ h
  refine Eq.mp ?_ h1
  kernel_rfl))

end Go.Proofs.Ytmohgkoomnihfaa.Vc
