/-
  strings.Builder: WriteByte, of a builder whose buffer may be nil. No condition.
-/
import Derived.Test.YtojcdimaeiibdaaFw
set_option linter.unusedVariables false
set_option linter.unusedSimpArgs false
namespace Go.Proofs.Ytojcdimaeiibdaa.Vc
open Go.RowKit Go.Proofs

def E50b : Bool × List Int → D := fun _ => .bad
/-- A byte more. -/
noncomputable def F50b (N : Nat) (x : Bool × List Int) (c : Int) : Option (Bool × List Int) := (F50g N x c).bind fun y => if y.2 = [] then none else some y
theorem P50b (N : Nat) (x : Bool × List Int) (c : Int) : ∀ r, F50b N x c = some r → SpecG Try.prog 50 65 [.slf, .buf 5] x [.val (.int .u8) c] r (E50b r) := fun r h => by
  unfold F50b at h
  cases h1 : F50g N x c with
  | none => rw [h1] at h; cases h
  | some y =>
    rw [h1] at h
    have h' : (if y.2 = [] then none else some y) = some r := h
    by_cases h2 : y.2 = []
    · rw [if_pos h2] at h'; cases h'
    · rw [if_neg h2] at h'
      have e : y = r := by simpa using h'
      subst e
      exact SpecG_buf (P50g N x c y h1) h2

end Go.Proofs.Ytojcdimaeiibdaa.Vc
