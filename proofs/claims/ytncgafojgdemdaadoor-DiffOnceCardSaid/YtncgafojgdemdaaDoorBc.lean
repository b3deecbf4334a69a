/-
  strings.Builder: WriteByte, of a builder whose buffer may be nil. No condition.
-/
import Derived.Test.YtncgafojgdemdaaDoorFw
set_option linter.unusedVariables false
set_option linter.unusedSimpArgs false
namespace Go.Proofs.YtncgafojgdemdaaDoor.Vc
open Go.RowKit Go.Proofs

def E47b : Bool × List Int → D := fun _ => .bad
/-- A byte more. -/
noncomputable def F47b (N : Nat) (x : Bool × List Int) (c : Int) : Option (Bool × List Int) := (F47g N x c).bind fun y => if y.2 = [] then none else some y
theorem P47b (N : Nat) (x : Bool × List Int) (c : Int) : ∀ r, F47b N x c = some r → SpecG Tryd.prog 47 61 [.slf, .buf 5] x [.val (.int .u8) c] r (E47b r) := fun r h => by
  unfold F47b at h
  cases h1 : F47g N x c with
  | none => rw [h1] at h; cases h
  | some y =>
    rw [h1] at h
    have h' : (if y.2 = [] then none else some y) = some r := h
    by_cases h2 : y.2 = []
    · rw [if_pos h2] at h'; cases h'
    · rw [if_neg h2] at h'
      have e : y = r := by simpa using h'
      subst e
      exact SpecG_buf (P47g N x c y h1) h2

def E29b : Bool × List Int → D := fun _ => .bad
/-- A text more. -/
noncomputable def F29b (N : Nat) (x : Bool × List Int) (c : Bs) : Option (Bool × List Int) := (F29g N x c).bind fun y => if y.2 = [] then none else some y
theorem P29b (N : Nat) (x : Bool × List Int) (c : Bs) : ∀ r, F29b N x c = some r → SpecG Tryd.prog 29 61 [.slf, .buf 5] x [.val tS c] r (E29b r) := fun r h => by
  unfold F29b at h
  cases h1 : F29g N x c with
  | none => rw [h1] at h; cases h
  | some y =>
    rw [h1] at h
    have h' : (if y.2 = [] then none else some y) = some r := h
    by_cases h2 : y.2 = []
    · rw [if_pos h2] at h'; cases h'
    · rw [if_neg h2] at h'
      have e : y = r := by simpa using h'
      subst e
      exact SpecG_buf (P29g N x c y h1) h2

end Go.Proofs.YtncgafojgdemdaaDoor.Vc
