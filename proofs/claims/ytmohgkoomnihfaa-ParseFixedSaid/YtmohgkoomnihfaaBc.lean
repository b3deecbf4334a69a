/-
  strings.Builder: WriteByte, of a builder whose buffer may be nil. No condition.
-/
import Derived.Test.YtmohgkoomnihfaaFw
set_option linter.unusedVariables false
set_option linter.unusedSimpArgs false
namespace Go.Proofs.Ytmohgkoomnihfaa.Vc
open Go.RowKit Go.Proofs

def E56b : Bool × List Int → D := fun _ => .bad
/-- A byte more. -/
noncomputable def F56b (N : Nat) (x : Bool × List Int) (c : Int) : Option (Bool × List Int) := (F56g N x c).bind fun y => if y.2 = [] then none else some y
theorem P56b (N : Nat) (x : Bool × List Int) (c : Int) : ∀ r, F56b N x c = some r → SpecG Try.prog 56 71 [.slf, .buf 5] x [.val (.int .u8) c] r (E56b r) := fun r h => by
  unfold F56b at h
  cases h1 : F56g N x c with
  | none => rw [h1] at h; cases h
  | some y =>
    rw [h1] at h
    have h' : (if y.2 = [] then none else some y) = some r := h
    by_cases h2 : y.2 = []
    · rw [if_pos h2] at h'; cases h'
    · rw [if_neg h2] at h'
      have e : y = r := by simpa using h'
      subst e
      exact SpecG_buf (P56g N x c y h1) h2

def E34b : Bool × List Int → D := fun _ => .bad
/-- A text more. -/
noncomputable def F34b (N : Nat) (x : Bool × List Int) (c : Bs) : Option (Bool × List Int) := (F34g N x c).bind fun y => if y.2 = [] then none else some y
theorem P34b (N : Nat) (x : Bool × List Int) (c : Bs) : ∀ r, F34b N x c = some r → SpecG Try.prog 34 71 [.slf, .buf 5] x [.val tS c] r (E34b r) := fun r h => by
  unfold F34b at h
  cases h1 : F34g N x c with
  | none => rw [h1] at h; cases h
  | some y =>
    rw [h1] at h
    have h' : (if y.2 = [] then none else some y) = some r := h
    by_cases h2 : y.2 = []
    · rw [if_pos h2] at h'; cases h'
    · rw [if_neg h2] at h'
      have e : y = r := by simpa using h'
      subst e
      exact SpecG_buf (P34g N x c y h1) h2

end Go.Proofs.Ytmohgkoomnihfaa.Vc
