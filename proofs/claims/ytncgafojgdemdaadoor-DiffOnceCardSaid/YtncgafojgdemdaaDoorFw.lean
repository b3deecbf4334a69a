/-
  WHAT THE FUNCTIONS DO WITH DATA, printed by a program from the translation. No condition.
-/
import Derived.Test.YtncgafojgdemdaaDoorVp
import Derived.Test.YtncgafojgdemdaaDoorBb
set_option linter.unusedVariables false
set_option linter.unusedSimpArgs false
set_option maxRecDepth 100000
namespace Go.Proofs.YtncgafojgdemdaaDoor.Vc
open Go.RowKit

/-! (*strings.Builder).WriteByte -/
def E47g : (Bool × (List Int)) → D := fun _ => .bad
noncomputable def V47g (N : Nat) (a0 : (Bool × (List Int))) (a1 : Int) : Vt (Bool × (List Int)) (Option D × Option (gTy [.slf, .row 5 (.int .u8)]).I) (fun q => (some (E47g q), some (q : (gTy [.slf, .row 5 (.int .u8)]).I))) :=
  .cr (P45g N (true, a0.2)) (fun x1 => .ck (room (x1.2.length + ([a1] : (List Int)).length)) (.leaf (true, (x1.2 ++ ([a1] : (List Int))))))
noncomputable def F47g (N : Nat) (a0 : (Bool × (List Int))) (a1 : Int) : Option (Bool × (List Int)) := (V47g N a0 a1).eval
def t47g : List (Nat × List Nat × List (Nat × Sh)) := []
theorem P47g (N : Nat) (a0 : (Bool × (List Int))) (a1 : Int) : ∀ r, F47g N a0 a1 = some r → SpecG Tryd.prog 47 61 [.slf, .row 5 (.int .u8)] a0 [.val (.int .u8) a1] r (E47g r) := fun r h => SpecG_of2 (fn := Tryd.f47) rfl rfl rfl rfl (.inl rfl) (wpc_sound (tbl := t47g) (μ := [4000045]) mixed _ _ _ (by
  have h1 := Vt.sound _ h
  refine Eq.mp ?_ h1
  kernel_rfl))

/-! (*strings.Builder).WriteString -/
def E29g : (Bool × (List Int)) → D := fun _ => .bad
noncomputable def V29g (N : Nat) (a0 : (Bool × (List Int))) (a1 : Bs) : Vt (Bool × (List Int)) (Option D × Option (gTy [.slf, .row 5 (.int .u8)]).I) (fun q => (some (E29g q), some (q : (gTy [.slf, .row 5 (.int .u8)]).I))) :=
  .cr (P45g N (true, a0.2)) (fun x1 => .ck (room (x1.2.length + a1.length)) (.leaf (true, (x1.2 ++ bts a1))))
noncomputable def F29g (N : Nat) (a0 : (Bool × (List Int))) (a1 : Bs) : Option (Bool × (List Int)) := (V29g N a0 a1).eval
def t29g : List (Nat × List Nat × List (Nat × Sh)) := []
theorem P29g (N : Nat) (a0 : (Bool × (List Int))) (a1 : Bs) : ∀ r, F29g N a0 a1 = some r → SpecG Tryd.prog 29 61 [.slf, .row 5 (.int .u8)] a0 [.val tS a1] r (E29g r) := fun r h => SpecG_of2 (fn := Tryd.f29) rfl rfl rfl rfl (.inl rfl) (wpc_sound (tbl := t29g) (μ := [4000045]) mixed _ _ _ (by
  have h1 := Vt.sound _ h
  refine Eq.mp ?_ h1
  kernel_rfl))

end Go.Proofs.YtncgafojgdemdaaDoor.Vc
