/-
  WHAT MORE FUNCTIONS ON TREES ANSWER: paths, kids, leaves, finding; the document's answers. No condition.
-/
import Derived.Test.YtmohgkoomnihfaaTf
set_option linter.unusedVariables false
set_option linter.unusedSimpArgs false
namespace Go.Proofs.Ytmohgkoomnihfaa.Vc

/-! ### Plain laws -/

theorem filter_range_split (p : Nat → Bool) {a e n : Nat} (h1 : a ≤ e) (h2 : e ≤ n) (hp : ∀ k, k < n → p k = true → a ≤ k ∧ k < e) : (List.range n).filter p = (List.range' a (e - a)).filter p := by
  rw [List.range_eq_range']
  have e1 : List.range' 0 n = List.range' 0 a ++ (List.range' a (e - a) ++ List.range' e (n - e)) := by
    rw [show List.range' e (n - e) = List.range' (a + 1 * (e - a)) (n - e) by congr 1; omega, List.range'_append,
      show List.range' a (e - a + (n - e)) = List.range' (0 + 1 * a) (e - a + (n - e)) by congr 1; omega, List.range'_append]
    congr 1; omega
  rw [e1, List.filter_append, List.filter_append]
  have f1 : (List.range' 0 a).filter p = [] := by
    rw [List.filter_eq_nil_iff]
    intro k hk hpk
    rw [List.mem_range'_1] at hk
    have := hp k (by omega) hpk
    omega
  have f2 : (List.range' e (n - e)).filter p = [] := by
    rw [List.filter_eq_nil_iff]
    intro k hk hpk
    rw [List.mem_range'_1] at hk
    have := hp k (by omega) hpk
    omega
  rw [f1, f2]; simp

theorem map_range'_getD (h : Ln → Ln) (t : List Ln) (i n : Nat) (hn : i + n ≤ t.length) : (List.range' i n).map (fun k => h (t.getD k (0, [], 0))) = ((t.drop i).take n).map h := by
  apply List.ext_getElem
  · simp; omega
  · intro j h1 h2
    simp only [List.length_map, List.length_range'] at h1
    simp [show i + j < t.length by omega]

/-- Nothing but deeper lines behind. -/
theorem end_succ_iff (t : List Ln) {k : Nat} (hk : k < t.length) : endN t k = k + 1 ↔ (k + 1 = t.length ∨ (t.getD (k + 1) (0, [], 0)).1 ≤ (t.getD k (0, [], 0)).1) := by
  unfold endN
  rcases Nat.lt_or_ge (k + 1) t.length with h | h
  · rw [List.drop_eq_getElem_cons h, cntD, getD_of_lt t h]
    split
    · constructor
      · intro e; omega
      · intro e; omega
    · constructor
      · intro e; right; omega
      · intro e; rfl
  · rw [List.drop_of_length_le h]
    constructor
    · intro _; left; omega
    · intro _; rfl

def kidsS (t : List Ln) (i : Int) : List Int := ((List.range t.length).filter fun k => underN t k == i).map fun k : Nat => (k : Int)
def leavesS (t : List Ln) : List Int := ((List.range t.length).filter fun k => endN t k == k + 1).map fun k : Nat => (k : Int)
def fndS (t : List Ln) (q : List Bs) : Option Nat := if rightS t = true then (pths [] t).findIdx? (· == q) else none

theorem pths_mem {t : List Ln} {q : List Bs} : q ∈ pths [] t ↔ ∃ i, i < t.length ∧ pth t i = q := by
  constructor
  · intro h
    obtain ⟨i, hi⟩ := List.getElem?_of_mem h
    have hl : i < t.length := by have := (List.getElem?_eq_some_iff.1 hi).1; simpa using this
    exact ⟨i, hl, by unfold pth; rw [List.getD_eq_getElem?_getD, hi]; rfl⟩
  · rintro ⟨i, hi, rfl⟩
    unfold pth
    rw [List.getD_eq_getElem?_getD, List.getElem?_eq_getElem (by simpa using hi)]
    exact List.getElem_mem _
theorem pth_inj {t : List Ln} (h : rf [] t = true) {i j : Nat} (hi : i < t.length) (hj : j < t.length) (he : pth t i = pth t j) : i = j := by
  have hn := pths_nodup t [] h
  unfold pth at he
  rw [List.getD_eq_getElem?_getD, List.getD_eq_getElem?_getD, List.getElem?_eq_getElem (by simpa using hi), List.getElem?_eq_getElem (by simpa using hj)] at he
  exact (List.getElem_inj hn).1 (by simpa using he)
theorem fnd_some {t : List Ln} (h : rightS t = true) {q : List Bs} {i : Nat} (hi : i < t.length) (he : pth t i = q) : fndS t q = some i := by
  unfold fndS
  rw [if_pos h, List.findIdx?_eq_some_iff_getElem]
  have hr := (rightS_iff.1 h).2
  have hget : ∀ k (hk : k < (pths [] t).length), (pths [] t)[k] = pth t k := fun k hk => by unfold pth; rw [List.getD_eq_getElem?_getD, List.getElem?_eq_getElem hk]; rfl
  refine ⟨by simpa using hi, by rw [hget]; simpa using he, fun j hj => ?_⟩
  rw [hget j (by simp; omega)]
  simp only [beq_iff_eq]
  intro e
  have := pth_inj hr (by omega) hi (e.trans he.symm)
  omega
theorem fnd_none {t : List Ln} {q : List Bs} (he : ∀ i, i < t.length → pth t i ≠ q) : fndS t q = none := by
  unfold fndS
  split
  · rw [List.findIdx?_eq_none_iff]
    intro x hx
    obtain ⟨i, hi, rfl⟩ := pths_mem.1 hx
    simpa using he i hi
  · rfl
theorem fnd_spec {t : List Ln} {q : List Bs} {i : Nat} (h : fndS t q = some i) : rightS t = true ∧ i < t.length ∧ pth t i = q := by
  unfold fndS at h
  split at h
  · rename_i hr
    rw [List.findIdx?_eq_some_iff_getElem] at h
    obtain ⟨h1, h2, _⟩ := h
    refine ⟨hr, by simpa using h1, ?_⟩
    unfold pth
    rw [List.getD_eq_getElem?_getD, List.getElem?_eq_getElem h1]
    simpa using h2
  · cases h
theorem fnd_none' {t : List Ln} (h : rightS t = true) {q : List Bs} (hn : fndS t q = none) : ∀ i, i < t.length → pth t i ≠ q := fun i hi e => by
  rw [fnd_some h hi e] at hn; cases hn

/-! ### The program's -/

theorem pths_drop {t : List Ln} {i j : Nat} (h1 : i ≤ j) (h2 : j < t.length) : pth t j ∈ pths (after [] (t.take i)) (t.drop i) := by
  have h3 := pths_append [] (t.take i) (t.drop i)
  rw [List.take_append_drop] at h3
  unfold pth
  rw [List.getD_eq_getElem?_getD, h3, List.getElem?_append_right (by simp; omega)]
  rw [List.getElem?_eq_getElem (by simp; omega)]
  exact List.getElem_mem _

end Go.Proofs.Ytmohgkoomnihfaa.Vc
