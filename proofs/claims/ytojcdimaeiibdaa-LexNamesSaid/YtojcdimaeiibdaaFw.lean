/-
  WHAT THE FUNCTIONS DO WITH DATA, printed by a program from the translation. No condition.
-/
import Derived.Test.YtojcdimaeiibdaaVp
import Derived.Test.YtojcdimaeiibdaaBb
set_option linter.unusedVariables false
set_option linter.unusedSimpArgs false
namespace Go.Proofs.Ytojcdimaeiibdaa.Vc
open Go.RowKit

/-! (*strings.Builder).WriteByte -/
def E50g : (Bool × (List Int)) → D := fun _ => .bad
noncomputable def V50g (N : Nat) (a0 : (Bool × (List Int))) (a1 : Int) : Vt (Bool × (List Int)) (Option D × Option (gTy [.slf, .row 5 (.int .u8)]).I) (fun q => (some (E50g q), some (q : (gTy [.slf, .row 5 (.int .u8)]).I))) :=
  .cr (P56g N (true, a0.2)) (fun x1 => .ck (room (x1.2.length + ([a1] : (List Int)).length)) (.leaf (true, (x1.2 ++ ([a1] : (List Int))))))
noncomputable def F50g (N : Nat) (a0 : (Bool × (List Int))) (a1 : Int) : Option (Bool × (List Int)) := (V50g N a0 a1).eval
def t50g : List (Nat × List Nat × List (Nat × Sh)) := []
theorem P50g (N : Nat) (a0 : (Bool × (List Int))) (a1 : Int) : ∀ r, F50g N a0 a1 = some r → SpecG Try.prog 50 65 [.slf, .row 5 (.int .u8)] a0 [.val (.int .u8) a1] r (E50g r) := fun r h => SpecG_of2 (fn := Try.f50) rfl rfl rfl rfl (.inl rfl) (wpc_sound (tbl := t50g) (μ := [4000056]) mixed _ _ _ (by
  have h1 := Vt.sound _ h
  refine Eq.mp ?_ h1
  kernel_rfl))

end Go.Proofs.Ytojcdimaeiibdaa.Vc
