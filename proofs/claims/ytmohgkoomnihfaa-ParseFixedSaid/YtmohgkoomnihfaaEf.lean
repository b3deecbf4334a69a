/-
  WHAT THE FUNCTIONS OF PACKAGES lines (Add) AND edit ANSWER. No condition.
-/
import Derived.Test.YtmohgkoomnihfaaTg
import Derived.Test.YtmohgkoomnihfaaEs
set_option linter.unusedVariables false
set_option linter.unusedSimpArgs false
namespace Go.Proofs.Ytmohgkoomnihfaa.Vc

theorem slc0 {α : Type} (l : List α) (b : Int) : slc l 0 b = l.take b.toNat := by simp [slc]
theorem slcE {α : Type} (l : List α) (a : Int) : slc l a (l.length : Int) = l.drop a.toNat := by
  unfold slc
  rw [Int.toNat_natCast, List.take_of_length_le]
  rw [List.length_drop]; exact Nat.le_refl _
theorem fndS_eq (t : List Ln) (q : List Bs) : fndS t q = if rightS t = true then fnd t q else none := rfl
/-! ### Locks -/

theorem bit2 {m : Int} (h0 : 0 ≤ m) (h3 : m ≤ 3) : (IntKind.i64.wrap (((BitVec.ofInt IntKind.i64.bits m &&& BitVec.ofInt IntKind.i64.bits 2).toNat : Int)) != 0) = decide (1 < m) := by
  have : m = 0 ∨ m = 1 ∨ m = 2 ∨ m = 3 := by omega
  rcases this with rfl | rfl | rfl | rfl <;> decide
theorem mark_ok {t : List Ln} (h : rf [] t = true) {i : Nat} (hi : i < t.length) : 0 ≤ (t.getD i (0, [], 0)).2.2 ∧ (t.getD i (0, [], 0)).2.2 ≤ 3 := by
  rw [getD_of_lt t hi]
  have := snd_iff.1 (rf_at h hi).1
  omega

def keptS (t : List Ln) (q : List Bs) : Bool := rightS t && keptN t q q.length
theorem keptS_eq {t : List Ln} {q : List Bs} : keptS t q = !((List.range q.length).all fun k => !(rightS t && hot (gt t (q.take (k + 1))))) := by
  unfold keptS keptN
  cases rightS t
  · simp
  · simp only [Bool.true_and]
    rw [List.any_eq_not_all_not]

theorem keptN_init (t : List Ln) (q : List Bs) : keptN t q.dropLast q.dropLast.length = keptN t q (q.length - 1) := by
  rw [Bool.eq_iff_iff, kept_all, kept_above]
/-! ### Parts -/

def shutB (t : List Ln) (q : List Bs) (i : Nat) : Bool := keptN t q q.length || (partN t i).any fun l => decide (1 < l.2.2)
theorem slc_part (t : List Ln) (i : Nat) : slc t (i : Int) (endN t i : Int) = partN t i := by unfold slc partN; simp
/-! ### A path more -/

theorem kidsS_eq (t : List Ln) (i : Int) : kidsS t i = kidsL t i := rfl
theorem kids_in {t : List Ln} {i k : Int} (h : k ∈ kidsL t i) : 0 ≤ k ∧ k < t.length := by
  unfold kidsL at h
  obtain ⟨j, hj, rfl⟩ := List.mem_map.1 h
  have := List.mem_range.1 (List.mem_filter.1 hj).1
  omega
theorem kids_len (t : List Ln) (i : Int) : (kidsL t i).length ≤ t.length := by
  unfold kidsL
  rw [List.length_map]
  have := List.length_filter_le (fun k => underN t k == i) (List.range t.length)
  simpa using this

end Go.Proofs.Ytmohgkoomnihfaa.Vc
