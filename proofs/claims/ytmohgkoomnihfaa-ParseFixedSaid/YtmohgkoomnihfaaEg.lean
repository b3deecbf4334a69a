/-
  WHAT lines.Add AND THE FUNCTIONS OF PACKAGE edit ANSWER: paths, marks, parts. No condition.
-/
import Derived.Test.YtmohgkoomnihfaaEf
set_option linter.unusedVariables false
set_option linter.unusedSimpArgs false
namespace Go.Proofs.Ytmohgkoomnihfaa.Vc

theorem getD_lt {t : List Bs} {i : Nat} (h : i < t.length) : t.getD i [] = t[i] := by simp [h]
theorem addE_len {t : List Ln} {q : List Bs} : addL t q = addN t q q.length := rfl

def setS (t : List Ln) (q : List Bs) : List Ln × Int := if addE t q = 0 then (if keptN t q q.length = true then (t, 12) else (addL t q, 0)) else (t, addE t q)
/-! ### Parts -/

def delS (t : List Ln) (q : List Bs) : List Ln × Int :=
  if rightS t = true then (if q = [] then (t, 1) else match fnd t q with | none => (t, 3) | some i => if shutB t q i = true then (t, 12) else (cutT t i, 0)) else (t, 1)
def hasB (m bit : Int) : Bool := if bit = 1 then decide (m % 2 = 1) else decide (1 < m)
def setM (m bit : Int) (on : Bool) : Int := if on = true then (if hasB m bit = true then m else m + bit) else (if hasB m bit = true then m - bit else m)
theorem or_bit {m bit : Int} (h0 : 0 ≤ m) (h3 : m ≤ 3) (hb : bit = 1 ∨ bit = 2) : IntKind.i64.wrap (((BitVec.ofInt IntKind.i64.bits m ||| BitVec.ofInt IntKind.i64.bits bit).toNat : Int)) = setM m bit true := by
  have : m = 0 ∨ m = 1 ∨ m = 2 ∨ m = 3 := by omega
  rcases this with rfl | rfl | rfl | rfl <;> rcases hb with rfl | rfl <;> decide
theorem andn_bit {m bit : Int} (h0 : 0 ≤ m) (h3 : m ≤ 3) (hb : bit = 1 ∨ bit = 2) : IntKind.i64.wrap (((BitVec.ofInt IntKind.i64.bits m &&& ~~~BitVec.ofInt IntKind.i64.bits bit).toNat : Int)) = setM m bit false := by
  have : m = 0 ∨ m = 1 ∨ m = 2 ∨ m = 3 := by omega
  rcases this with rfl | rfl | rfl | rfl <;> rcases hb with rfl | rfl <;> decide
theorem setM_ok {m bit : Int} (h0 : 0 ≤ m) (h3 : m ≤ 3) (hb : bit = 1 ∨ bit = 2) (on : Bool) : 0 ≤ setM m bit on ∧ setM m bit on ≤ 3 := by
  have : m = 0 ∨ m = 1 ∨ m = 2 ∨ m = 3 := by omega
  rcases this with rfl | rfl | rfl | rfl <;> rcases hb with rfl | rfl <;> cases on <;> decide

/-- A line with another mark. -/
def withM (t : List Ln) (i : Nat) (m : Int) : List Ln := t.set i ((t.getD i (0, [], 0)).1, (t.getD i (0, [], 0)).2.1, m)
def markS (t : List Ln) (q : List Bs) (bit : Int) (on : Bool) : List Ln × Int :=
  if bit = 1 ∨ bit = 2 then (if rightS t = true then (if q = [] then (t, 1) else match fnd t q with
    | none => (t, 3)
    | some i => if keptN t q (q.length - 1) = true then (t, 12) else if bit = 1 ∧ 1 < (t.getD i (0, [], 0)).2.2 then (t, 12) else (withM t i (setM (t.getD i (0, [], 0)).2.2 bit on), 0)) else (t, 1)) else (t, 1)

/-! ### Under another last word -/

/-- All but the last word of a path are there: one line more. -/
theorem addL_one {t : List Ln} (h : rf [] t = true) {u : List Bs} {w : Bs} (hq : gt t (u ++ [w]) = none) (hu : u = [] ∨ gt t u ≠ none) : addL t (u ++ [w]) = insT t (u ++ [w]) 0 := by
  have key : ∀ k, k ≤ u.length → addN t (u ++ [w]) k = t := by
    intro k
    induction k with
    | zero => intro _; rfl
    | succ k ih =>
      intro hk
      rw [addN_succ, ih (by omega)]
      unfold addK
      rw [if_neg]
      have hu2 : u ≠ [] := fun e => by subst e; simp at hk
      have hg : gt t u ≠ none := hu.resolve_left hu2
      have : u = (u ++ [w]).take (k + 1) ++ u.drop (k + 1) := by
        rw [List.take_append_of_le_length hk, List.take_append_drop]
      rw [this] at hg
      refine gt_pre h (fun e => ?_) hg
      have := congrArg List.length e
      simp at this
  unfold addL
  have hl : (u ++ [w]).length = u.length + 1 := by simp
  rw [hl, addN_succ, key _ (Nat.le_refl _)]
  unfold addK
  have e : (u ++ [w]).take (u.length + 1) = u ++ [w] := List.take_of_length_le (by simp)
  rw [e, if_pos hq]

theorem insT_set (t : List Ln) (q : List Bs) (m m' : Int) : (insT t q m).set (plc t q) (((q.length : Int) - 1), q.getLastD [], m') = insT t q m' := by
  have hl : (t.take (plc t q)).length = plc t q := by have := plc_le t q; rw [List.length_take]; omega
  unfold insT ln
  rw [List.set_append_right _ _ (by omega), hl, Nat.sub_self]; rfl
theorem insT_getD (t : List Ln) (q : List Bs) (m : Int) : (insT t q m).getD (plc t q) (0, [], 0) = (((q.length : Int) - 1), q.getLastD [], m) := by
  have hl : (t.take (plc t q)).length = plc t q := by have := plc_le t q; rw [List.length_take]; omega
  unfold insT
  rw [List.getD_eq_getElem?_getD, List.getElem?_append_right (by omega), hl, Nat.sub_self]; rfl

/-- A part that is there. -/
theorem part_facts {t : List Ln} (hrf : rf [] t = true) {q : List Bs} {i : Nat} (hf : fnd t q = some i) : q ≠ [] ∧ q.length ≤ 16 ∧ (∀ x ∈ q.dropLast, x.length ≤ 40) ∧ (q.dropLast = [] ∨ gt t q.dropLast ≠ none) ∧ partN t i ≠ [] ∧ (partN t i).length = endN t i - i ∧ ∀ l ∈ partN t i, 0 ≤ l.2.2 ∧ l.2.2 ≤ 3 := by
  obtain ⟨hi, hp⟩ := fnd_of hf
  have hle := endN_le t hi
  have hgt := endN_gt t i
  have hg := fnd_gt hrf hf
  obtain ⟨h1, h2, _⟩ := gt_sound hrf hg
  refine ⟨h1, h2, fun x hx => ?_, ?_, ?_, ?_, fun l hl => ?_⟩
  · obtain ⟨k, hk, rfl⟩ := List.getElem_of_mem hx
    have hk' : k < q.length - 1 := by simpa using hk
    have hne : q.take (k + 1) ≠ [] := fun e => by
      have := congrArg List.length e
      rw [List.length_take, List.length_nil] at this; omega
    have hgp : gt t (q.take (k + 1)) ≠ none := gt_pre hrf hne (s := q.drop (k + 1)) (by rw [List.take_append_drop, hg]; simp)
    cases hgq : gt t (q.take (k + 1)) with
    | none => exact absurd hgq hgp
    | some m =>
      have := (gt_sound hrf hgq).2.2.1
      rw [take_last (by omega)] at this
      simpa using this
  · by_cases h3 : q.dropLast = []
    · exact .inl h3
    · right
      refine gt_pre hrf h3 (s := [q.getLast h1]) ?_
      rw [List.dropLast_concat_getLast, hg]; simp
  · rw [part_eq t hi]; simp
  · unfold partN; simp; omega
  · have hm : l ∈ t := List.mem_of_mem_drop (List.mem_of_mem_take hl)
    obtain ⟨j, hj, rfl⟩ := List.getElem_of_mem hm
    have := snd_iff.1 (rf_at hrf hj).1
    omega

def renS (t : List Ln) (q : List Bs) (w : Bs) : List Ln × Int :=
  if 40 < w.length then (t, 1) else if rightS t = true then (if q = [] then (t, 1) else match fnd t q with
    | none => (t, 3)
    | some i => if shutB t q i = true then (t, 12) else if gt t (q.dropLast ++ [w]) = none then (graftT (cutT t i) (q.dropLast ++ [w]) (partN t i), 0) else (t, 4)) else (t, 1)
def copS (t : List Ln) (q : List Bs) (w : Bs) : List Ln × Int :=
  if 40 < w.length then (t, 1) else if rightS t = true then (if q = [] then (t, 1) else match fnd t q with
    | none => (t, 3)
    | some i => if keptN t q (q.length - 1) = true then (t, 12) else if gt t (q.dropLast ++ [w]) = none then (if 200 < t.length + (endN t i - i) then (t, 5) else (graftT t (q.dropLast ++ [w]) (partN t i), 0)) else (t, 4)) else (t, 1)

end Go.Proofs.Ytmohgkoomnihfaa.Vc
