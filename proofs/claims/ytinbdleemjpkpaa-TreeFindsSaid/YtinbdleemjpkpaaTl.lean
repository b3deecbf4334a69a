/-
  THE LAWS ON TREES, TOLD OF DATA. No condition.
-/
import Derived.Test.YtinbdleemjpkpaaTh
set_option linter.unusedVariables false
set_option linter.unusedSimpArgs false
namespace Go.Proofs.Ytinbdleemjpkpaa.Vc

theorem smallS_len {t : List Ln} (h : smallS t = true) : t.length ≤ 220 := by simp [smallS] at h; exact h.1
theorem filter_range_len (p : Nat → Bool) (n : Nat) : ((List.range n).filter p).length ≤ n := by
  have := List.length_filter_le p (List.range n); simpa using this
theorem kidsS_len (t : List Ln) (i : Int) : (kidsS t i).length ≤ t.length := by unfold kidsS; rw [List.length_map]; exact filter_range_len _ _
theorem leavesS_len (t : List Ln) : (leavesS t).length ≤ t.length := by unfold leavesS; rw [List.length_map]; exact filter_range_len _ _

theorem L_exact (N : Nat) (t : List Ln) (i : Int) (hN : 2000 < N) : F3 N t i = some true := by
  unfold F3 V3
  simp only [ev_br, ev_leaf, ev_c1, ev_c2, ev_c3, ev_c4, ev_cr, ev_cr2, ev_f0, ev_f1, ev_f2, obind_some, decide_eq_true_eq, Bool.not_eq_true', Bool.true_eq_false, Bool.false_eq_true, if_true, if_false, reduceCtorEq, F_small N t (by omega), F_awake N (by omega)]
  by_cases hs : smallS t = true
  · have hl := smallS_len hs
    have hN' : t.length < N := by omega
    simp only [ev_br, ev_leaf, ev_c1, ev_c2, ev_c3, ev_c4, ev_cr, ev_cr2, ev_f0, ev_f1, ev_f2, obind_some, decide_eq_true_eq, Bool.not_eq_true', Bool.true_eq_false, Bool.false_eq_true, if_true, if_false, reduceCtorEq, hs, R_right N t hN', F_right N t hN', beq_self_eq_true, F_path N t i hN', F_kids N t i hN', F_under N t i hN', F_end N t i hN', F_sub N t i hN']
    by_cases hr : rightS t = true
    · simp only [ev_br, ev_leaf, ev_c1, ev_c2, ev_c3, ev_c4, ev_cr, ev_cr2, ev_f0, ev_f1, ev_f2, obind_some, decide_eq_true_eq, Bool.not_eq_true', Bool.true_eq_false, Bool.false_eq_true, if_true, if_false, reduceCtorEq, hr, true_and]
      by_cases h1 : i < -1
      · have hth : thereS t i = false := by cases h : thereS t i with
          | false => rfl
          | true => have := (thereS_iff.1 h).1; omega
        have hk : ¬ (-1 ≤ i ∧ i < (t.length : Int)) := by omega
        simp [h1, hth, hk]
      · rw [if_neg h1]
        by_cases h2 : (t.length : Int) ≤ i
        · have hth : thereS t i = false := by cases h : thereS t i with
            | false => rfl
            | true => have := (thereS_iff.1 h).2.1; omega
          have hk : ¬ (-1 ≤ i ∧ i < (t.length : Int)) := by omega
          simp [h2, hth, hk]
        · rw [if_neg h2]
          have hk : -1 ≤ i ∧ i < (t.length : Int) := by omega
          have hkl := kidsS_len t i
          simp only [ev_br, ev_leaf, ev_c1, ev_c2, ev_c3, ev_c4, ev_cr, ev_cr2, ev_f0, ev_f1, ev_f2, obind_some, decide_eq_true_eq, Bool.not_eq_true', Bool.true_eq_false, Bool.false_eq_true, if_true, if_false, reduceCtorEq, hk, and_self, R_kids N t i (by omega) hN', F_ints N _ _ (show (kidsS t i).length < N by omega) (by unfold maxLen; omega), decide_true]
          by_cases h3 : i = -1
          · have hth : thereS t i = false := by cases h : thereS t i with
              | false => rfl
              | true => have := (thereS_iff.1 h).1; omega
            simp [h3]
            subst h3
            simp [hth]
          · have hth : thereS t i = true := thereS_iff.2 ⟨by omega, by omega, hr⟩
            rw [if_neg (by simpa using h3)]
            have hil : i.toNat < t.length := by omega
            have hpl := pth_len (rightS_iff.1 hr).2 hil
            have hb := snd_iff.1 (rf_at (rightS_iff.1 hr).2 hil).1
            have hsl : (subN t i.toNat).length ≤ 220 := by
              unfold subN partN; simp; omega
            simp only [ev_br, ev_leaf, ev_c1, ev_c2, ev_c3, ev_c4, ev_cr, ev_cr2, ev_f0, ev_f1, ev_f2, obind_some, decide_eq_true_eq, Bool.not_eq_true', Bool.true_eq_false, Bool.false_eq_true, if_true, if_false, reduceCtorEq, hth, R_under N t i (by omega) (by omega) (by omega) hN', R_end N t i (by omega) (by omega) (by omega) hN', R_path N t i hr (by omega) (by omega) hN', R_sub N t i hr (by omega) (by omega) hN', obind_some, beq_self_eq_true,
              F_equal N _ _ (show (pth t i.toNat).length < N by omega) (by unfold maxLen; omega), F_same N _ _ (show (subN t i.toNat).length < N by omega) (by unfold maxLen; omega), decide_true]
    · have hr' : rightS t = false := by simpa using hr
      have hth : thereS t i = false := by simp [thereS, hr']
      simp [hr', hth]
  · simp [hs]

end Go.Proofs.Ytinbdleemjpkpaa.Vc
