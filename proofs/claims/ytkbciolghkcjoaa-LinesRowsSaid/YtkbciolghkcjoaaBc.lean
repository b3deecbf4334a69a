/-
  strings.Builder: WriteByte, of a builder whose buffer may be nil. No condition.
-/
import Derived.Test.YtkbciolghkcjoaaFw
set_option linter.unusedVariables false
set_option linter.unusedSimpArgs false
namespace Go.Proofs.Ytkbciolghkcjoaa.Vc
open Go.RowKit Go.Proofs

def E63b : Bool × List Int → D := fun _ => .bad
/-- A byte more. -/
noncomputable def F63b (N : Nat) (x : Bool × List Int) (c : Int) : Option (Bool × List Int) := (F63g N x c).bind fun y => if y.2 = [] then none else some y
theorem P63b (N : Nat) (x : Bool × List Int) (c : Int) : ∀ r, F63b N x c = some r → SpecG Try.prog 63 59 [.slf, .buf 5] x [.val (.int .u8) c] r (E63b r) := fun r h => by
  unfold F63b at h
  cases h1 : F63g N x c with
  | none => rw [h1] at h; cases h
  | some y =>
    rw [h1] at h
    have h' : (if y.2 = [] then none else some y) = some r := h
    by_cases h2 : y.2 = []
    · rw [if_pos h2] at h'; cases h'
    · rw [if_neg h2] at h'
      have e : y = r := by simpa using h'
      subst e
      exact SpecG_buf (P63g N x c y h1) h2

def E30b : Bool × List Int → D := fun _ => .bad
/-- A text more. -/
noncomputable def F30b (N : Nat) (x : Bool × List Int) (c : Bs) : Option (Bool × List Int) := (F30g N x c).bind fun y => if y.2 = [] then none else some y
theorem P30b (N : Nat) (x : Bool × List Int) (c : Bs) : ∀ r, F30b N x c = some r → SpecG Try.prog 30 59 [.slf, .buf 5] x [.val tS c] r (E30b r) := fun r h => by
  unfold F30b at h
  cases h1 : F30g N x c with
  | none => rw [h1] at h; cases h
  | some y =>
    rw [h1] at h
    have h' : (if y.2 = [] then none else some y) = some r := h
    by_cases h2 : y.2 = []
    · rw [if_pos h2] at h'; cases h'
    · rw [if_neg h2] at h'
      have e : y = r := by simpa using h'
      subst e
      exact SpecG_buf (P30g N x c y h1) h2

end Go.Proofs.Ytkbciolghkcjoaa.Vc
