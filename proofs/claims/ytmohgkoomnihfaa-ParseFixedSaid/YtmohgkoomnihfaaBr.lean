/-
  strings.Repeat: from the shelf's contract to what it does with data. No condition.
-/
import Derived.Test.YtmohgkoomnihfaaBs
set_option linter.unusedVariables false
set_option linter.unusedSimpArgs false
set_option maxRecDepth 100000
namespace Go.Proofs.Ytmohgkoomnihfaa.Vc
open Go.RowKit Go.Proofs

def E59 : Bs → D := fun x => encV tS x
def F59 (N : Nat) (s : Bs) (c : Int) : Option Bs := if 0 ≤ c ∧ c ≤ 1000 ∧ s.length ≤ 1000 then some (Lib.repeatL s c.toNat) else none
theorem P59 (N : Nat) (s : Bs) (c : Int) : ∀ r, F59 N s c = some r → Spec Try.prog 59 [.val tS s, .val tI c] (E59 r) := fun r h => by
  unfold F59 at h
  split at h
  · rename_i hc
    obtain ⟨h0, h1, h2⟩ := hc
    cases h
    refine ⟨enter_of (fn := Try.f59) rfl rfl rfl, fun w vs F hF hgl hsz hargs => ?_⟩
    obtain ⟨v, n, rfl, hv, hn⟩ := two_args (hsz := hsz) hargs
    obtain ⟨S, rfl, hS⟩ := arg_str hv
    have hn' : n = .int .i64 c := arg_int hn
    subst hn'
    have hlen : S.size ≤ 1000 := by
      have : S.data.toList.length = s.length := congrArg List.length hS
      rw [Array.length_toList] at this
      show S.data.size ≤ 1000
      omega
    obtain ⟨k, rfl⟩ : ∃ k : Nat, c = (k : Int) := ⟨c.toNat, by omega⟩
    have hmul : S.size * k ≤ 1000 * 1000 := Nat.mul_le_mul hlen (by omega)
    have hC := Try.strings_Repeat S k w (by omega) (by omega)
    rw [hS] at hC
    refine Calls.mono hC ?_
    rintro en w' ⟨rfl, hb⟩
    exact ⟨_, F, none, rfl, hb, fun _ h => h, fun g hg => ⟨Nat.lt_of_lt_of_le (hF g hg) hb.size, .inl hg⟩, fun g hg => (by cases hg), ⟨_, rfl, by simp⟩⟩
  · cases h

end Go.Proofs.Ytmohgkoomnihfaa.Vc
