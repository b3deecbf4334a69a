/-
  WHAT THE FUNCTIONS DO WITH DATA, printed by a program from the translation. No condition.
-/
import Derived.Test.YtmohgkoomnihfaaVp
import Derived.Test.YtmohgkoomnihfaaBb
set_option linter.unusedVariables false
set_option linter.unusedSimpArgs false
set_option maxRecDepth 100000
namespace Go.Proofs.Ytmohgkoomnihfaa.Vc
open Go.RowKit

/-! (*strings.Builder).WriteString -/
def E34g : (Bool × (List Int)) → D := fun _ => .bad
noncomputable def V34g (N : Nat) (a0 : (Bool × (List Int))) (a1 : Bs) : Vt (Bool × (List Int)) (Option D × Option (gTy [.slf, .row 5 (.int .u8)]).I) (fun q => (some (E34g q), some (q : (gTy [.slf, .row 5 (.int .u8)]).I))) :=
  .cr (P58g N (true, a0.2)) (fun x1 => .ck (room (x1.2.length + a1.length)) (.leaf (true, (x1.2 ++ bts a1))))
noncomputable def F34g (N : Nat) (a0 : (Bool × (List Int))) (a1 : Bs) : Option (Bool × (List Int)) := (V34g N a0 a1).eval
def t34g : List (Nat × List Nat × List (Nat × Sh)) := []
theorem P34g (N : Nat) (a0 : (Bool × (List Int))) (a1 : Bs) : ∀ r, F34g N a0 a1 = some r → SpecG Try.prog 34 71 [.slf, .row 5 (.int .u8)] a0 [.val tS a1] r (E34g r) := fun r h => SpecG_of2 (fn := Try.f34) rfl rfl rfl rfl (.inl rfl) (wpc_sound (tbl := t34g) (μ := [4000058]) mixed _ _ _ (by
  have h1 := Vt.sound _ h
  refine Eq.mp ?_ h1
  kernel_rfl))

/-! (*strings.Builder).WriteByte -/
def E56g : (Bool × (List Int)) → D := fun _ => .bad
noncomputable def V56g (N : Nat) (a0 : (Bool × (List Int))) (a1 : Int) : Vt (Bool × (List Int)) (Option D × Option (gTy [.slf, .row 5 (.int .u8)]).I) (fun q => (some (E56g q), some (q : (gTy [.slf, .row 5 (.int .u8)]).I))) :=
  .cr (P58g N (true, a0.2)) (fun x1 => .ck (room (x1.2.length + ([a1] : (List Int)).length)) (.leaf (true, (x1.2 ++ ([a1] : (List Int))))))
noncomputable def F56g (N : Nat) (a0 : (Bool × (List Int))) (a1 : Int) : Option (Bool × (List Int)) := (V56g N a0 a1).eval
def t56g : List (Nat × List Nat × List (Nat × Sh)) := []
theorem P56g (N : Nat) (a0 : (Bool × (List Int))) (a1 : Int) : ∀ r, F56g N a0 a1 = some r → SpecG Try.prog 56 71 [.slf, .row 5 (.int .u8)] a0 [.val (.int .u8) a1] r (E56g r) := fun r h => SpecG_of2 (fn := Try.f56) rfl rfl rfl rfl (.inl rfl) (wpc_sound (tbl := t56g) (μ := [4000058]) mixed _ _ _ (by
  have h1 := Vt.sound _ h
  refine Eq.mp ?_ h1
  kernel_rfl))

end Go.Proofs.Ytmohgkoomnihfaa.Vc
