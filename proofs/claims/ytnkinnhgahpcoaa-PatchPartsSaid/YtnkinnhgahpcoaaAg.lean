/-
  slices.DeleteFunc at entries, by the closures of package patch. No condition.
-/
import Derived.Test.YtnkinnhgahpcoaaFk
import Derived.Test.YtnkinnhgahpcoaaAf
set_option linter.unusedVariables false
set_option linter.unusedSimpArgs false
set_option maxRecDepth 100000
namespace Go.Proofs.Ytnkinnhgahpcoaa.Vc
open Go.RowKit Go.Proofs Go.Lib

open Classical in
noncomputable def F32tK33 (N : Nat) (a0 : List En) (c0 : List En) : Option (List En) :=
  if ∀ x, (F33 N x c0).isSome = true then some (a0.filter fun x => !(F33 N x c0).getD false) else none
def E32tK33 : List En → D := fun x => .own 44 tEn x
theorem P32tK33 (N : Nat) (xs : List En) (c0 : List En) : ∀ r, F32tK33 N xs c0 = some r →
    SpecT Try.prog 32 44 tEn xs [.clo 33 [.ept [.val (.list tEn) c0]]] (E32tK33 r) := fun r h => by
  unfold F32tK33 at h
  split at h
  · rename_i hall
    cases h
    refine SpecT_del (p := fun x => (F33 N x c0).getD false) (enter_of (fn := Try.f33) rfl rfl rfl) (fun x => ?_) xs
    have h1 := hall x
    cases hF : F33 N x c0 with
    | none => rw [hF] at h1; cases h1
    | some b => exact P33 N x c0 b hF
  · cases h

noncomputable def F32tK37 (N : Nat) (a0 : List En) (c0 : Bs) : Option (List En) := some (a0.filter fun x => x.1 == c0)
def E32tK37 : List En → D := fun x => .own 44 tEn x
theorem P32tK37 (N : Nat) (xs : List En) (c0 : Bs) : ∀ r, F32tK37 N xs c0 = some r →
    SpecT Try.prog 32 44 tEn xs [.clo 37 [.ept [.val tS c0]]] (E32tK37 r) := fun r h => by
  cases h
  have e : (xs.filter fun x => x.1 == c0) = xs.filter fun x => !!(x.1 == c0) := by simp only [Bool.not_not]
  rw [e]
  exact SpecT_del (p := fun x => !(x.1 == c0)) (enter_of (fn := Try.f37) rfl rfl rfl) (fun x => P37 N x c0 _ rfl) xs

end Go.Proofs.Ytnkinnhgahpcoaa.Vc
