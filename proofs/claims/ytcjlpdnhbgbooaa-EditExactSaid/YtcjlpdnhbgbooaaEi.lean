/-
  WHAT IS DONE AND WHAT SHOULD BE DONE: the same. No condition.
-/
import Derived.Test.YtcjlpdnhbgbooaaEh
set_option linter.unusedVariables false
set_option linter.unusedSimpArgs false
namespace Go.Proofs.Ytcjlpdnhbgbooaa.Vc

abbrev Act4 := Int × List Bs × Int × Bs
def doS (t : List Ln) (a : Act4) : List Ln × Int :=
  if a.1 = 1 then delS t a.2.1 else if a.1 = 2 then markS t a.2.1 a.2.2.1 true else if a.1 = 3 then markS t a.2.1 a.2.2.1 false
  else if a.1 = 4 then renS t a.2.1 a.2.2.2 else if a.1 = 5 then copS t a.2.1 a.2.2.2 else setS t a.2.1

theorem E_do (N : Nat) (t : List Ln) (a : Act4) (hN : 1000 < N) (ht : t.length + 16 < N) (hq : a.2.1.length < N) (hq2 : a.2.1.length ≤ 1000000) : F13 N t a = some (doS t a) := by
  unfold F13 V13 doS
  obtain ⟨k, q, bit, w⟩ := a
  simp only at hq hq2
  simp only [ev_br, ev_leaf, ev_c1, ev_c2, ev_c3, ev_c4, ev_cr, ev_cr2, ev_f0, ev_f1, ev_f2, obind_some, decide_eq_true_eq, Bool.not_eq_true', Bool.true_eq_false, Bool.false_eq_true, if_true, if_false, reduceCtorEq, E_delete N t q hN (by omega) hq (by omega), E_mark N t q _ _ hN (by omega) hq (by omega), E_rename N t q w hN (by omega) hq hq2, E_copy N t q w hN (by omega) hq (by omega), E_set N t q hN (by omega) hq (by omega), beq_iff_eq]
  by_cases h1 : k = 1
  · simp [h1]
  · by_cases h2 : k = 2
    · simp [h2]
    · by_cases h3 : k = 3
      · simp [h3]
      · by_cases h4 : k = 4
        · simp [h4]
        · by_cases h5 : k = 5
          · simp [h5]
          · simp [h1, h2, h3, h4, h5]

theorem tmod2 {m : Int} (h0 : 0 ≤ m) : m.tmod 2 = m % 2 := Int.tmod_eq_emod_of_nonneg h0

theorem R_turn1 (N : Nat) (t : List Ln) (q : List Bs) (bit : Int) (w : Bs) (hN : 5000 < N) (ht : t.length + 16 < N) (hq : q.length < N) (hq2 : q.length ≤ 1000000) : F32 N t 1 q bit w = some (delS t q) := by
  unfold F32 V32 delS
  simp (config := { decide := true }) only [ev_br, ev_leaf, ev_c1, ev_c2, ev_c3, ev_c4, ev_cr, ev_cr2, ev_f0, ev_f1, ev_f2, obind_some, decide_eq_true_eq, Bool.not_eq_true', Bool.true_eq_false, Bool.false_eq_true, if_true, if_false, reduceCtorEq, R_right N t (by omega)]
  by_cases hr : rightS t = true
  · obtain ⟨h200, hrf⟩ := rightS_iff.1 hr
    simp only [hr, if_true, Bool.true_eq_false, if_false]
    by_cases hq0 : q = []
    · simp [hq0]
    · have hb : ((q.length : Int) == 0) = false := by simp; exact hq0
      have hqp := List.length_pos_iff.2 hq0
      have e1 : ((q.length : Int) - 1).toNat = q.length - 1 := by omega
      have hF := R_finds N t q hrf (by omega) (by omega) ht
      rw [hb, if_neg hq0]
      simp only [ev_br, ev_leaf, ev_c1, ev_c2, ev_c3, ev_c4, ev_cr, ev_cr2, ev_f0, ev_f1, ev_f2, obind_some, decide_eq_true_eq, Bool.not_eq_true', Bool.true_eq_false, Bool.false_eq_true, if_true, if_false, reduceCtorEq, hF]
      cases hf : fnd t q with
      | none => simp
      | some i =>
        have hi := (fnd_of hf).1
        have h3 : ¬ (i : Int) < 0 := by omega
        simp (disch := omega) only [ev_br, ev_leaf, ev_c1, ev_c2, ev_c3, ev_c4, ev_cr, ev_cr2, ev_f0, ev_f1, ev_f2, obind_some, decide_eq_true_eq, Bool.not_eq_true', Bool.true_eq_false, Bool.false_eq_true, if_true, if_false, reduceCtorEq, h3, wrapI, R_kept N t q _ hr (show (q.length : Int) - 1 ≤ q.length by omega) ht hq2 hq, R_shut N t q hr hi ht hq hq2, R_without N t hi (by omega) (by omega)]
        split <;> rfl
  · have hr' : rightS t = false := by simpa using hr
    simp [hr']

theorem R_turn2 (N : Nat) (t : List Ln) (q : List Bs) (bit : Int) (w : Bs) (hN : 5000 < N) (ht : t.length + 16 < N) (hq : q.length < N) (hq2 : q.length ≤ 1000000) : F32 N t 2 q bit w = some (markS t q bit true) := by
  unfold F32 V32 markS
  by_cases hb : bit = 1 ∨ bit = 2
  · rw [if_pos hb]
    rcases hb with rfl | rfl
    all_goals
      simp (config := { decide := true }) only [ev_br, ev_leaf, ev_c1, ev_c2, ev_c3, ev_c4, ev_cr, ev_cr2, ev_f0, ev_f1, ev_f2, obind_some, decide_eq_true_eq, Bool.not_eq_true', Bool.true_eq_false, Bool.false_eq_true, if_true, if_false, reduceCtorEq, R_right N t (by omega)]
      by_cases hr : rightS t = true
      · obtain ⟨h200, hrf⟩ := rightS_iff.1 hr
        simp only [hr, if_true, Bool.true_eq_false, if_false]
        by_cases hq0 : q = []
        · simp [hq0]
        · have hb : ((q.length : Int) == 0) = false := by simp; exact hq0
          have hqp := List.length_pos_iff.2 hq0
          have e1 : ((q.length : Int) - 1).toNat = q.length - 1 := by omega
          have hF := R_finds N t q hrf (by omega) (by omega) ht
          rw [hb, if_neg hq0]
          simp only [ev_br, ev_leaf, ev_c1, ev_c2, ev_c3, ev_c4, ev_cr, ev_cr2, ev_f0, ev_f1, ev_f2, obind_some, decide_eq_true_eq, Bool.not_eq_true', Bool.true_eq_false, Bool.false_eq_true, if_true, if_false, reduceCtorEq, hF]
          cases hf : fnd t q with
          | none => simp
          | some i =>
            have hi := (fnd_of hf).1
            have h3 : ¬ (i : Int) < 0 := by omega
            have c1 : inR (i : Int) t.length := ⟨by omega, by omega⟩
            have r1 : room t.length := by show _ ≤ _; omega
            have hm := mark_ok hrf hi
            simp (disch := omega) only [ev_br, ev_leaf, ev_c1, ev_c2, ev_c3, ev_c4, ev_cr, ev_cr2, ev_f0, ev_f1, ev_f2, obind_some, decide_eq_true_eq, Bool.not_eq_true', Bool.true_eq_false, Bool.false_eq_true, if_true, if_false, reduceCtorEq, h3, wrapI, R_kept N t q _ hr (show (q.length : Int) - 1 ≤ q.length by omega) ht hq2 hq, e1]
            by_cases hk : keptN t q (q.length - 1) = true
            · simp only [hk, if_true]
            · simp only [hk, if_false, Bool.false_eq_true]
              have hat : atI tLn t (i : Int) = t.getD i (0, [], 0) := rfl
              obtain ⟨l, hl⟩ : ∃ l, t.getD i (0, [], 0) = l := ⟨_, rfl⟩
              rw [hl] at hm hat
              unfold withM
              rw [hl]
              obtain ⟨d, x, m⟩ := l
              have hm' : m = 0 ∨ m = 1 ∨ m = 2 ∨ m = 3 := by simp only at hm; omega
              have hid : t.set i (d, x, m) = t := by
                have h5 : t[i] = (d, x, m) := by rw [← getD_of_lt t hi]; exact hl
                rw [← h5, List.set_getElem_self]
              have hge : ∀ y : Ln, (t.set i y).getD i (0, [], 0) = y := fun y => by
                rw [List.getD_eq_getElem?_getD, List.getElem?_set_self hi]; rfl
              have hge2 : ∀ y : Ln, atI tLn (t.set i y) (i : Int) = y := hge
              have c3 : ∀ y : Ln, inR (i : Int) (t.set i y).length := fun y => by rw [List.length_set]; exact c1
              rcases hm' with rfl | rfl | rfl | rfl <;> simp (config := { decide := true }) (disch := first | assumption | omega) only [ev_br, ev_leaf, ev_c1, ev_c2, ev_c3, ev_c4, ev_cr, ev_cr2, ev_f0, ev_f1, ev_f2, obind_some, decide_eq_true_eq, Bool.not_eq_true', Bool.true_eq_false, Bool.false_eq_true, if_true, if_false, reduceCtorEq, ev_ck, hat, hge2, c3, Int.toNat_natCast, hid, wrapI, setM, hasB, List.set_set] <;> first | rfl | (simp; done) | skip
      · have hr' : rightS t = false := by simpa using hr
        simp [hr']
  · rw [if_neg hb]
    have h1 : ¬ bit = 1 := fun h => hb (.inl h)
    have h2 : ¬ bit = 2 := fun h => hb (.inr h)
    have h1' : (bit != 1) = true := by simpa using h1
    have h2' : (bit != 2) = true := by simpa using h2
    simp (config := { decide := true }) only [ev_br, ev_leaf, ev_c1, ev_c2, ev_c3, ev_c4, ev_cr, ev_cr2, ev_f0, ev_f1, ev_f2, obind_some, decide_eq_true_eq, Bool.not_eq_true', Bool.true_eq_false, Bool.false_eq_true, if_true, if_false, reduceCtorEq, h1', h2']

theorem R_turn3 (N : Nat) (t : List Ln) (q : List Bs) (bit : Int) (w : Bs) (hN : 5000 < N) (ht : t.length + 16 < N) (hq : q.length < N) (hq2 : q.length ≤ 1000000) : F32 N t 3 q bit w = some (markS t q bit false) := by
  unfold F32 V32 markS
  by_cases hb : bit = 1 ∨ bit = 2
  · rw [if_pos hb]
    rcases hb with rfl | rfl
    all_goals
      simp (config := { decide := true }) only [ev_br, ev_leaf, ev_c1, ev_c2, ev_c3, ev_c4, ev_cr, ev_cr2, ev_f0, ev_f1, ev_f2, obind_some, decide_eq_true_eq, Bool.not_eq_true', Bool.true_eq_false, Bool.false_eq_true, if_true, if_false, reduceCtorEq, R_right N t (by omega)]
      by_cases hr : rightS t = true
      · obtain ⟨h200, hrf⟩ := rightS_iff.1 hr
        simp only [hr, if_true, Bool.true_eq_false, if_false]
        by_cases hq0 : q = []
        · simp [hq0]
        · have hb : ((q.length : Int) == 0) = false := by simp; exact hq0
          have hqp := List.length_pos_iff.2 hq0
          have e1 : ((q.length : Int) - 1).toNat = q.length - 1 := by omega
          have hF := R_finds N t q hrf (by omega) (by omega) ht
          rw [hb, if_neg hq0]
          simp only [ev_br, ev_leaf, ev_c1, ev_c2, ev_c3, ev_c4, ev_cr, ev_cr2, ev_f0, ev_f1, ev_f2, obind_some, decide_eq_true_eq, Bool.not_eq_true', Bool.true_eq_false, Bool.false_eq_true, if_true, if_false, reduceCtorEq, hF]
          cases hf : fnd t q with
          | none => simp
          | some i =>
            have hi := (fnd_of hf).1
            have h3 : ¬ (i : Int) < 0 := by omega
            have c1 : inR (i : Int) t.length := ⟨by omega, by omega⟩
            have r1 : room t.length := by show _ ≤ _; omega
            have hm := mark_ok hrf hi
            simp (disch := omega) only [ev_br, ev_leaf, ev_c1, ev_c2, ev_c3, ev_c4, ev_cr, ev_cr2, ev_f0, ev_f1, ev_f2, obind_some, decide_eq_true_eq, Bool.not_eq_true', Bool.true_eq_false, Bool.false_eq_true, if_true, if_false, reduceCtorEq, h3, wrapI, R_kept N t q _ hr (show (q.length : Int) - 1 ≤ q.length by omega) ht hq2 hq, e1]
            by_cases hk : keptN t q (q.length - 1) = true
            · simp only [hk, if_true]
            · simp only [hk, if_false, Bool.false_eq_true]
              have hat : atI tLn t (i : Int) = t.getD i (0, [], 0) := rfl
              obtain ⟨l, hl⟩ : ∃ l, t.getD i (0, [], 0) = l := ⟨_, rfl⟩
              rw [hl] at hm hat
              unfold withM
              rw [hl]
              obtain ⟨d, x, m⟩ := l
              have hm' : m = 0 ∨ m = 1 ∨ m = 2 ∨ m = 3 := by simp only at hm; omega
              have hid : t.set i (d, x, m) = t := by
                have h5 : t[i] = (d, x, m) := by rw [← getD_of_lt t hi]; exact hl
                rw [← h5, List.set_getElem_self]
              have hge : ∀ y : Ln, (t.set i y).getD i (0, [], 0) = y := fun y => by
                rw [List.getD_eq_getElem?_getD, List.getElem?_set_self hi]; rfl
              have hge2 : ∀ y : Ln, atI tLn (t.set i y) (i : Int) = y := hge
              have c3 : ∀ y : Ln, inR (i : Int) (t.set i y).length := fun y => by rw [List.length_set]; exact c1
              rcases hm' with rfl | rfl | rfl | rfl <;> simp (config := { decide := true }) (disch := first | assumption | omega) only [ev_br, ev_leaf, ev_c1, ev_c2, ev_c3, ev_c4, ev_cr, ev_cr2, ev_f0, ev_f1, ev_f2, obind_some, decide_eq_true_eq, Bool.not_eq_true', Bool.true_eq_false, Bool.false_eq_true, if_true, if_false, reduceCtorEq, ev_ck, hat, hge2, c3, Int.toNat_natCast, hid, wrapI, setM, hasB, List.set_set] <;> first | rfl | (simp; done) | skip
      · have hr' : rightS t = false := by simpa using hr
        simp [hr']
  · rw [if_neg hb]
    have h1 : ¬ bit = 1 := fun h => hb (.inl h)
    have h2 : ¬ bit = 2 := fun h => hb (.inr h)
    have h1' : (bit != 1) = true := by simpa using h1
    have h2' : (bit != 2) = true := by simpa using h2
    simp (config := { decide := true }) only [ev_br, ev_leaf, ev_c1, ev_c2, ev_c3, ev_c4, ev_cr, ev_cr2, ev_f0, ev_f1, ev_f2, obind_some, decide_eq_true_eq, Bool.not_eq_true', Bool.true_eq_false, Bool.false_eq_true, if_true, if_false, reduceCtorEq, h1', h2']

theorem R_turn5 (N : Nat) (t : List Ln) (q : List Bs) (bit : Int) (w : Bs) (hN : 5000 < N) (ht : t.length + 16 < N) (hq : q.length < N) (hq2 : q.length ≤ 1000000) : F32 N t 5 q bit w = some (copS t q w) := by
  unfold F32 V32 copS
  by_cases hw : 40 < w.length
  · rw [if_pos hw]
    have hw' : (40 : Int) < (w.length : Int) := by omega
    simp (config := { decide := true }) only [ev_br, ev_leaf, ev_c1, ev_c2, ev_c3, ev_c4, ev_cr, ev_cr2, ev_f0, ev_f1, ev_f2, obind_some, decide_eq_true_eq, Bool.not_eq_true', Bool.true_eq_false, Bool.false_eq_true, if_true, if_false, reduceCtorEq, hw']
  · rw [if_neg hw]
    have hw' : ¬ (40 : Int) < (w.length : Int) := by omega
    simp (config := { decide := true }) only [ev_br, ev_leaf, ev_c1, ev_c2, ev_c3, ev_c4, ev_cr, ev_cr2, ev_f0, ev_f1, ev_f2, obind_some, decide_eq_true_eq, Bool.not_eq_true', Bool.true_eq_false, Bool.false_eq_true, if_true, if_false, reduceCtorEq, hw', R_right N t (by omega)]
    by_cases hr : rightS t = true
    · obtain ⟨h200, hrf⟩ := rightS_iff.1 hr
      simp only [hr, if_true, Bool.true_eq_false, if_false]
      by_cases hq0 : q = []
      · simp [hq0]
      · have hb : ((q.length : Int) == 0) = false := by simp; exact hq0
        have hqp := List.length_pos_iff.2 hq0
        have e1 : ((q.length : Int) - 1).toNat = q.length - 1 := by omega
        have hF := R_finds N t q hrf (by omega) (by omega) ht
        rw [hb, if_neg hq0]
        simp only [ev_br, ev_leaf, ev_c1, ev_c2, ev_c3, ev_c4, ev_cr, ev_cr2, ev_f0, ev_f1, ev_f2, obind_some, decide_eq_true_eq, Bool.not_eq_true', Bool.true_eq_false, Bool.false_eq_true, if_true, if_false, reduceCtorEq, hF]
        cases hf : fnd t q with
        | none => simp
        | some i =>
          obtain ⟨hi, hp⟩ := fnd_of hf
          have h3 : ¬ (i : Int) < 0 := by omega
          have hle := endN_le t hi
          have hgt := endN_gt t i
          have hsl := sub_len t hi
          obtain ⟨k1, k2, k3, k4, k5, k6, k7⟩ := part_facts hrf hf
          have hS := R_sub N t (i : Int) hr (by omega) (by omega) (by omega)
          rw [Int.toNat_natCast] at hS
          simp (config := { decide := true }) (disch := omega) only [ev_br, ev_leaf, ev_c1, ev_c2, ev_c3, ev_c4, ev_cr, ev_cr2, ev_f0, ev_f1, ev_f2, obind_some, decide_eq_true_eq, Bool.not_eq_true', Bool.true_eq_false, Bool.false_eq_true, if_true, if_false, reduceCtorEq, h3, wrapI, R_kept N t q _ hr (show (q.length : Int) - 1 ≤ q.length by omega) ht hq2 hq, e1, slc0, ← List.dropLast_eq_take]
          by_cases hk : keptN t q (q.length - 1) = true
          · simp only [hk, if_true]
          · simp only [hk, if_false, Bool.false_eq_true]
            have ck1 : (0 : Int) ≤ 0 ∧ (0 : Int) ≤ (q.length : Int) - 1 ∧ (q.length : Int) - 1 ≤ (q.length : Int) := by omega
            have ck2 : True ∧ (0 : Int) ≤ (q.length : Int) - 1 ∧ (q.length : Int) - 1 ≤ (q.length : Int) := ⟨trivial, by omega, by omega⟩
            have hW := R_with N q.dropLast w (by simp; omega)
            have hF2 := R_finds N t (q.dropLast ++ [w]) hrf (by omega) (by simp; omega) ht
            simp (config := { decide := true }) (disch := first | assumption | omega) only [ev_br, ev_leaf, ev_c1, ev_c2, ev_c3, ev_c4, ev_cr, ev_cr2, ev_f0, ev_f1, ev_f2, obind_some, decide_eq_true_eq, Bool.not_eq_true', Bool.true_eq_false, Bool.false_eq_true, if_true, if_false, reduceCtorEq, ev_ck ck1, ev_ck ck2, wrapI, slc0, e1, ← List.dropLast_eq_take, hW, hF2]
            cases hg : fnd t (q.dropLast ++ [w]) with
            | some j =>
              have hgn : gt t (q.dropLast ++ [w]) ≠ none := fun h => by rw [fnd_none0.2 h] at hg; cases hg
              have : (0 : Int) ≤ (j : Int) := by omega
              simp only [this, if_true, hgn, if_false]
            | none =>
              have hgn := fnd_none0.1 hg
              have hP := R_putS N t t q w hr hi hp hrf (by omega) hgn (by omega) k4 hN
              have : ¬ (0 : Int) ≤ -1 := by omega
              simp (config := { decide := true }) (disch := first | assumption | omega) only [ev_br, ev_leaf, ev_c1, ev_c2, ev_c3, ev_c4, ev_cr, ev_cr2, ev_f0, ev_f1, ev_f2, obind_some, decide_eq_true_eq, Bool.not_eq_true', Bool.true_eq_false, Bool.false_eq_true, if_true, if_false, reduceCtorEq, this, hgn, hS, wrapI, hP, hsl]
              by_cases hlong : 200 < t.length + (endN t i - i)
              · have : (200 : Int) < (t.length : Int) + ((endN t i - i : Nat) : Int) := by omega
                simp only [this, hlong, if_true]
              · have : ¬ (200 : Int) < (t.length : Int) + ((endN t i - i : Nat) : Int) := by omega
                simp only [this, hlong, if_false]
    · have hr' : rightS t = false := by simpa using hr
      simp [hr']

theorem R_turn4 (N : Nat) (t : List Ln) (q : List Bs) (bit : Int) (w : Bs) (hN : 5000 < N) (ht : t.length + 16 < N) (hq : q.length < N) (hq2 : q.length ≤ 1000000) : F32 N t 4 q bit w = some (renS t q w) := by
  unfold F32 V32 renS
  by_cases hw : 40 < w.length
  · rw [if_pos hw]
    have hw' : (40 : Int) < (w.length : Int) := by omega
    simp (config := { decide := true }) only [ev_br, ev_leaf, ev_c1, ev_c2, ev_c3, ev_c4, ev_cr, ev_cr2, ev_f0, ev_f1, ev_f2, obind_some, decide_eq_true_eq, Bool.not_eq_true', Bool.true_eq_false, Bool.false_eq_true, if_true, if_false, reduceCtorEq, hw']
  · rw [if_neg hw]
    have hw' : ¬ (40 : Int) < (w.length : Int) := by omega
    simp (config := { decide := true }) only [ev_br, ev_leaf, ev_c1, ev_c2, ev_c3, ev_c4, ev_cr, ev_cr2, ev_f0, ev_f1, ev_f2, obind_some, decide_eq_true_eq, Bool.not_eq_true', Bool.true_eq_false, Bool.false_eq_true, if_true, if_false, reduceCtorEq, hw', R_right N t (by omega)]
    by_cases hr : rightS t = true
    · obtain ⟨h200, hrf⟩ := rightS_iff.1 hr
      simp only [hr, if_true, Bool.true_eq_false, if_false]
      by_cases hq0 : q = []
      · simp [hq0]
      · have hb : ((q.length : Int) == 0) = false := by simp; exact hq0
        have hqp := List.length_pos_iff.2 hq0
        have e1 : ((q.length : Int) - 1).toNat = q.length - 1 := by omega
        have hF := R_finds N t q hrf (by omega) (by omega) ht
        rw [hb, if_neg hq0]
        simp only [ev_br, ev_leaf, ev_c1, ev_c2, ev_c3, ev_c4, ev_cr, ev_cr2, ev_f0, ev_f1, ev_f2, obind_some, decide_eq_true_eq, Bool.not_eq_true', Bool.true_eq_false, Bool.false_eq_true, if_true, if_false, reduceCtorEq, hF]
        cases hf : fnd t q with
        | none => simp
        | some i =>
          obtain ⟨hi, hp⟩ := fnd_of hf
          have h3 : ¬ (i : Int) < 0 := by omega
          have hle := endN_le t hi
          have hgt := endN_gt t i
          have hsl := sub_len t hi
          obtain ⟨k1, k2, k3, k4, k5, k6, k7⟩ := part_facts hrf hf
          have hS := R_sub N t (i : Int) hr (by omega) (by omega) (by omega)
          rw [Int.toNat_natCast] at hS
          obtain ⟨c1, c2⟩ := cut_tree hrf hi
          have hcl : (cutT t i).length + (endN t i - i) = t.length := by unfold cutT; simp; omega
          have hku : q.dropLast = [] ∨ gt (cutT t i) q.dropLast ≠ none := by
            rcases k4 with k4 | k4
            · exact .inl k4
            · right
              rw [c2, if_neg (fun h => ?_)]
              · exact k4
              · have := h.length_le
                rw [hp] at this
                simp at this
                omega
          simp (config := { decide := true }) (disch := omega) only [ev_br, ev_leaf, ev_c1, ev_c2, ev_c3, ev_c4, ev_cr, ev_cr2, ev_f0, ev_f1, ev_f2, obind_some, decide_eq_true_eq, Bool.not_eq_true', Bool.true_eq_false, Bool.false_eq_true, if_true, if_false, reduceCtorEq, h3, wrapI, R_kept N t q _ hr (show (q.length : Int) - 1 ≤ q.length by omega) ht hq2 hq, e1, slc0, ← List.dropLast_eq_take, R_shut N t q hr hi ht hq hq2]
          by_cases hk : shutB t q i = true
          · simp only [hk, if_true]
          · simp only [hk, if_false, Bool.false_eq_true]
            have ck1 : (0 : Int) ≤ 0 ∧ (0 : Int) ≤ (q.length : Int) - 1 ∧ (q.length : Int) - 1 ≤ (q.length : Int) := by omega
            have ck2 : True ∧ (0 : Int) ≤ (q.length : Int) - 1 ∧ (q.length : Int) - 1 ≤ (q.length : Int) := ⟨trivial, by omega, by omega⟩
            have hW := R_with N q.dropLast w (by simp; omega)
            have hF2 := R_finds N t (q.dropLast ++ [w]) hrf (by omega) (by simp; omega) ht
            simp (config := { decide := true }) (disch := first | assumption | omega) only [ev_br, ev_leaf, ev_c1, ev_c2, ev_c3, ev_c4, ev_cr, ev_cr2, ev_f0, ev_f1, ev_f2, obind_some, decide_eq_true_eq, Bool.not_eq_true', Bool.true_eq_false, Bool.false_eq_true, if_true, if_false, reduceCtorEq, ev_ck ck1, ev_ck ck2, wrapI, slc0, e1, ← List.dropLast_eq_take, hW, hF2]
            cases hg : fnd t (q.dropLast ++ [w]) with
            | some j =>
              have hgn : gt t (q.dropLast ++ [w]) ≠ none := fun h => by rw [fnd_none0.2 h] at hg; cases hg
              have : (0 : Int) ≤ (j : Int) := by omega
              simp only [this, if_true, hgn, if_false]
            | none =>
              have hgn := fnd_none0.1 hg
              have hgc : gt (cutT t i) (q.dropLast ++ [w]) = none := by rw [c2]; split <;> first | rfl | exact hgn
              have hP := R_putS N t (cutT t i) q w hr hi hp c1 (by omega) hgc (by omega) hku hN
              have hWo := R_without N t hi (by omega) (by omega)
              have : ¬ (0 : Int) ≤ -1 := by omega
              simp (config := { decide := true }) (disch := first | assumption | omega) only [ev_br, ev_leaf, ev_c1, ev_c2, ev_c3, ev_c4, ev_cr, ev_cr2, ev_f0, ev_f1, ev_f2, obind_some, decide_eq_true_eq, Bool.not_eq_true', Bool.true_eq_false, Bool.false_eq_true, if_true, if_false, reduceCtorEq, this, hgn, hS, hP, hWo]
    · have hr' : rightS t = false := by simpa using hr
      simp [hr']

theorem E_want (N : Nat) (t : List Ln) (a : Act4) (hN : 5000 < N) (ht : t.length + 16 < N) (hq : a.2.1.length < N) (hq2 : a.2.1.length ≤ 1000000) : F14 N t a = some (doS t a) := by
  unfold F14 V14 doS
  obtain ⟨k, q, bit, w⟩ := a
  simp only at hq hq2
  simp only [ev_br, ev_leaf, ev_c1, ev_c2, ev_c3, ev_c4, ev_cr, ev_cr2, ev_f0, ev_f1, ev_f2, obind_some, decide_eq_true_eq, Bool.not_eq_true', Bool.true_eq_false, Bool.false_eq_true, if_true, if_false, reduceCtorEq, R_set N t q (by omega) ht hq hq2]
  by_cases h1 : k = 1
  · subst h1
    simp (config := { decide := true }) only [ev_br, ev_leaf, ev_c1, ev_c2, ev_c3, ev_c4, ev_cr, ev_cr2, ev_f0, ev_f1, ev_f2, obind_some, decide_eq_true_eq, Bool.not_eq_true', Bool.true_eq_false, Bool.false_eq_true, if_true, if_false, reduceCtorEq, R_turn1 N t q bit w hN ht hq hq2]
  · by_cases h2 : k = 2
    · subst h2
      simp (config := { decide := true }) only [ev_br, ev_leaf, ev_c1, ev_c2, ev_c3, ev_c4, ev_cr, ev_cr2, ev_f0, ev_f1, ev_f2, obind_some, decide_eq_true_eq, Bool.not_eq_true', Bool.true_eq_false, Bool.false_eq_true, if_true, if_false, reduceCtorEq, R_turn2 N t q bit w hN ht hq hq2]
    · by_cases h3 : k = 3
      · subst h3
        simp (config := { decide := true }) only [ev_br, ev_leaf, ev_c1, ev_c2, ev_c3, ev_c4, ev_cr, ev_cr2, ev_f0, ev_f1, ev_f2, obind_some, decide_eq_true_eq, Bool.not_eq_true', Bool.true_eq_false, Bool.false_eq_true, if_true, if_false, reduceCtorEq, R_turn3 N t q bit w hN ht hq hq2]
      · by_cases h4 : k = 4
        · subst h4
          simp (config := { decide := true }) only [ev_br, ev_leaf, ev_c1, ev_c2, ev_c3, ev_c4, ev_cr, ev_cr2, ev_f0, ev_f1, ev_f2, obind_some, decide_eq_true_eq, Bool.not_eq_true', Bool.true_eq_false, Bool.false_eq_true, if_true, if_false, reduceCtorEq, R_turn4 N t q bit w hN ht hq hq2]
        · by_cases h5 : k = 5
          · subst h5
            simp (config := { decide := true }) only [ev_br, ev_leaf, ev_c1, ev_c2, ev_c3, ev_c4, ev_cr, ev_cr2, ev_f0, ev_f1, ev_f2, obind_some, decide_eq_true_eq, Bool.not_eq_true', Bool.true_eq_false, Bool.false_eq_true, if_true, if_false, reduceCtorEq, R_turn5 N t q bit w hN ht hq hq2]
          · simp only [h1, h2, h3, h4, h5, if_false]
            by_cases h6 : k < 1
            · rw [if_pos h6]
            · rw [if_neg h6, if_pos (by omega)]

end Go.Proofs.Ytcjlpdnhbgbooaa.Vc
