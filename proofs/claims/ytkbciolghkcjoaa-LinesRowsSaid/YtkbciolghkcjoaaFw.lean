/-
  WHAT THE FUNCTIONS DO WITH DATA, printed by a program from the translation. No condition.
-/
import Derived.Test.YtkbciolghkcjoaaVp
import Derived.Test.YtkbciolghkcjoaaBb
set_option linter.unusedVariables false
set_option linter.unusedSimpArgs false
set_option maxRecDepth 100000
namespace Go.Proofs.Ytkbciolghkcjoaa.Vc
open Go.RowKit

/-! (*strings.Builder).WriteByte -/
def E63g : (Bool × (List Int)) → D := fun _ => .bad
noncomputable def V63g (N : Nat) (a0 : (Bool × (List Int))) (a1 : Int) : Vt (Bool × (List Int)) (Option D × Option (gTy [.slf, .row 5 (.int .u8)]).I) (fun q => (some (E63g q), some (q : (gTy [.slf, .row 5 (.int .u8)]).I))) :=
  .cr (P51g N (true, a0.2)) (fun x1 => .ck (room (x1.2.length + ([a1] : (List Int)).length)) (.leaf (true, (x1.2 ++ ([a1] : (List Int))))))
noncomputable def F63g (N : Nat) (a0 : (Bool × (List Int))) (a1 : Int) : Option (Bool × (List Int)) := (V63g N a0 a1).eval
def t63g : List (Nat × List Nat × List (Nat × Sh)) := []
theorem P63g (N : Nat) (a0 : (Bool × (List Int))) (a1 : Int) : ∀ r, F63g N a0 a1 = some r → SpecG Try.prog 63 59 [.slf, .row 5 (.int .u8)] a0 [.val (.int .u8) a1] r (E63g r) := fun r h => SpecG_of2 (fn := Try.f63) rfl rfl rfl rfl (.inl rfl) (wpc_sound (tbl := t63g) (μ := [4000051]) mixed _ _ _ (by
  have h1 := Vt.sound _ h
  refine Eq.mp ?_ h1
  kernel_rfl))

/-! (*strings.Builder).WriteString -/
def E30g : (Bool × (List Int)) → D := fun _ => .bad
noncomputable def V30g (N : Nat) (a0 : (Bool × (List Int))) (a1 : Bs) : Vt (Bool × (List Int)) (Option D × Option (gTy [.slf, .row 5 (.int .u8)]).I) (fun q => (some (E30g q), some (q : (gTy [.slf, .row 5 (.int .u8)]).I))) :=
  .cr (P51g N (true, a0.2)) (fun x1 => .ck (room (x1.2.length + a1.length)) (.leaf (true, (x1.2 ++ bts a1))))
noncomputable def F30g (N : Nat) (a0 : (Bool × (List Int))) (a1 : Bs) : Option (Bool × (List Int)) := (V30g N a0 a1).eval
def t30g : List (Nat × List Nat × List (Nat × Sh)) := []
theorem P30g (N : Nat) (a0 : (Bool × (List Int))) (a1 : Bs) : ∀ r, F30g N a0 a1 = some r → SpecG Try.prog 30 59 [.slf, .row 5 (.int .u8)] a0 [.val tS a1] r (E30g r) := fun r h => SpecG_of2 (fn := Try.f30) rfl rfl rfl rfl (.inl rfl) (wpc_sound (tbl := t30g) (μ := [4000051]) mixed _ _ _ (by
  have h1 := Vt.sound _ h
  refine Eq.mp ?_ h1
  kernel_rfl))

end Go.Proofs.Ytkbciolghkcjoaa.Vc
