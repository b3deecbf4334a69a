/-
  slices.Reverse AT []string: THE SHELF's CONTRACT, IN OUR WORDS: the row holds what it held, from its end on. No condition.
-/
import Derived.Test.YtkbciolghkcjoaaVx
import Derived.Test.YtkbciolghkcjoaaVp
import Derived.Test.YtkbciolghkcjoaaSh
set_option linter.unusedVariables false
set_option linter.unusedSimpArgs false
namespace Go.Proofs.Ytkbciolghkcjoaa.Vc
open Go.RowKit Go.Sort Go.Proofs

noncomputable def F42r (_ : Nat) (a0 : List Bs) : Option (List Bs) := some a0.reverse
theorem P42r (N : Nat) (a0 : List Bs) : ∀ r, F42r N a0 = some r → SpecR Try.prog 42 9 tS a0 [] r (.tup []) := fun r h => by
  have : a0.reverse = r := by simpa [F42r] using h
  subst this
  refine SpecR_str (by simp) (enter_of (fn := Try.f42) rfl rfl rfl) (fun A vs w F _ _ hsz => ?_) (fun w g cap vs F _ hsz _ hH hl => ?_)
  · have hv : vs = #[] := Array.eq_empty_of_size_eq_zero (by simpa using hsz)
    subst hv
    refine (Try.slices_Reverse_string_empty A 0 w).mono ?_
    rintro en w' ⟨rfl, rfl⟩
    exact ⟨rfl, ⟨rfl, rfl, rfl, Nat.le_refl _, fun _ _ _ => rfl⟩⟩
  · have hv : vs = #[] := Array.eq_empty_of_size_eq_zero (by simpa using hsz)
    subst hv
    refine (Try.slices_Reverse_string g 0 cap a0 w hH (by unfold maxLen at hl; omega)).mono ?_
    rintro en w' ⟨rfl, n, rfl⟩
    exact ⟨rfl, n, #[], by rw [grow_empty]⟩

end Go.Proofs.Ytkbciolghkcjoaa.Vc
