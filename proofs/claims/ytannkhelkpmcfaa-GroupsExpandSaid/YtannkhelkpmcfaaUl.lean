/-
  THE LAWS ON GROUPS, told of data (1). No condition.
-/
import Derived.Test.YtannkhelkpmcfaaUx
set_option linter.unusedVariables false
set_option linter.unusedSimpArgs false
namespace Go.Proofs.Ytannkhelkpmcfaa.Vc

theorem expand_len {t : List Ln} (hr : rightS t = true) : (expandS t).1.length ≤ 200 := by
  by_cases h : (expandS t).2 = 0
  · exact (rightS_iff.1 (expand_map hr h).1).1
  · rw [expand_err h]; simp

theorem L_active (N : Nat) (t : List Ln) (hN : 100000000 < N) : F3 N t = some true := by
  unfold F3 V3
  simp only [ev_br, ev_leaf, ev_c1, ev_c2, ev_c3, ev_c4, ev_cr, ev_cr2, ev_f0, ev_f1, ev_f2, obind_some, decide_eq_true_eq, Bool.not_eq_true', Bool.true_eq_false, Bool.false_eq_true, if_true, if_false, reduceCtorEq, F_few N t (by omega), E_awake N hN]
  by_cases hf : fewS t = true
  · have hl := few_len hf
    simp only [ev_br, ev_leaf, ev_c1, ev_c2, ev_c3, ev_c4, ev_cr, ev_cr2, ev_f0, ev_f1, ev_f2, obind_some, decide_eq_true_eq, Bool.not_eq_true', Bool.true_eq_false, Bool.false_eq_true, if_true, if_false, reduceCtorEq, hf, E_active N t (by omega), E_explicit N t (by omega), R_right N t (by omega)]
    by_cases hr : rightS t = true
    · have hal := act_len t
      have hxl := exp_len t
      simp only [ev_br, ev_leaf, ev_c1, ev_c2, ev_c3, ev_c4, ev_cr, ev_cr2, ev_f0, ev_f1, ev_f2, obind_some, decide_eq_true_eq, Bool.not_eq_true', Bool.true_eq_false, Bool.false_eq_true, if_true, if_false, reduceCtorEq, hr, bne_self_eq_false, beq_self_eq_true, R_active N t hr (by omega), R_explicit N t hr (by omega), F_same N (actL t) (actL t) (by omega) (by unfold maxLen; omega), F_same N (expL t) (expL t) (by omega) (by unfold maxLen; omega), decide_true]
    · have hr' : rightS t = false := by simpa using hr
      simp (config := { decide := true }) only [ev_br, ev_leaf, ev_c1, ev_c2, ev_c3, ev_c4, ev_cr, ev_cr2, ev_f0, ev_f1, ev_f2, obind_some, decide_eq_true_eq, Bool.not_eq_true', Bool.true_eq_false, Bool.false_eq_true, if_true, if_false, reduceCtorEq, hr', List.length_nil]
  · have hf' : fewS t = false := by simpa using hf
    simp only [ev_br, ev_leaf, ev_c1, ev_c2, ev_c3, ev_c4, ev_cr, ev_cr2, ev_f0, ev_f1, ev_f2, obind_some, decide_eq_true_eq, Bool.not_eq_true', Bool.true_eq_false, Bool.false_eq_true, if_true, if_false, reduceCtorEq, hf']

theorem L_expand (N : Nat) (t : List Ln) (g : Bs) (hN : 100000000 < N) : F4 N t g = some true := by
  unfold F4 V4
  simp only [ev_br, ev_leaf, ev_c1, ev_c2, ev_c3, ev_c4, ev_cr, ev_cr2, ev_f0, ev_f1, ev_f2, obind_some, decide_eq_true_eq, Bool.not_eq_true', Bool.true_eq_false, Bool.false_eq_true, if_true, if_false, reduceCtorEq, F_few N t (by omega), E_awake N hN]
  by_cases hf : fewS t = true
  · have hl := few_len hf
    simp only [ev_br, ev_leaf, ev_c1, ev_c2, ev_c3, ev_c4, ev_cr, ev_cr2, ev_f0, ev_f1, ev_f2, obind_some, decide_eq_true_eq, Bool.not_eq_true', Bool.true_eq_false, Bool.false_eq_true, if_true, if_false, reduceCtorEq, hf]
    by_cases hg : (100 : Int) < (g.length : Int)
    · rw [if_pos hg]
    · rw [if_neg hg]
      simp only [ev_br, ev_leaf, ev_c1, ev_c2, ev_c3, ev_c4, ev_cr, ev_cr2, ev_f0, ev_f1, ev_f2, obind_some, decide_eq_true_eq, Bool.not_eq_true', Bool.true_eq_false, Bool.false_eq_true, if_true, if_false, reduceCtorEq, E_expand N t hN (by omega), E_paths N t g (by omega) (by omega), R_right N t (by omega)]
      by_cases hr : rightS t = true
      · obtain ⟨b, hb⟩ := F_brief N t hr (by omega)
        have hrf := (rightS_iff.1 hr).2
        have hel := expand_len hr
        have hpl := paths_len hr g
        simp only [ev_br, ev_leaf, ev_c1, ev_c2, ev_c3, ev_c4, ev_cr, ev_cr2, ev_f0, ev_f1, ev_f2, obind_some, decide_eq_true_eq, Bool.not_eq_true', Bool.true_eq_false, Bool.false_eq_true, if_true, if_false, reduceCtorEq, hr, hb]
        cases b with
        | false => rfl
        | true =>
          simp only [ev_br, ev_leaf, ev_c1, ev_c2, ev_c3, ev_c4, ev_cr, ev_cr2, ev_f0, ev_f1, ev_f2, obind_some, decide_eq_true_eq, Bool.not_eq_true', Bool.true_eq_false, Bool.false_eq_true, if_true, if_false, reduceCtorEq, R_expand N t hr hN, R_paths N t g hr (by omega), F_same N (expandS t).1 (expandS t).1 (by omega) (by unfold maxLen; omega), beq_self_eq_true, decide_true,
            F_same2 N (pathsS t g).1 (pathsS t g).1 (by omega) (by omega) (fun p hp => by have := (paths_ne hrf hp).2; omega)]
      · have hr' : rightS t = false := by simpa using hr
        simp (config := { decide := true }) only [ev_br, ev_leaf, ev_c1, ev_c2, ev_c3, ev_c4, ev_cr, ev_cr2, ev_f0, ev_f1, ev_f2, obind_some, decide_eq_true_eq, Bool.not_eq_true', Bool.true_eq_false, Bool.false_eq_true, if_true, if_false, reduceCtorEq, hr', List.length_nil]
  · have hf' : fewS t = false := by simpa using hf
    simp only [ev_br, ev_leaf, ev_c1, ev_c2, ev_c3, ev_c4, ev_cr, ev_cr2, ev_f0, ev_f1, ev_f2, obind_some, decide_eq_true_eq, Bool.not_eq_true', Bool.true_eq_false, Bool.false_eq_true, if_true, if_false, reduceCtorEq, hf']

theorem L_off (N : Nat) (t : List Ln) (hN : 100000000 < N) : F7 N t = some true := by
  unfold F7 V7
  simp only [ev_br, ev_leaf, ev_c1, ev_c2, ev_c3, ev_c4, ev_cr, ev_cr2, ev_f0, ev_f1, ev_f2, obind_some, decide_eq_true_eq, Bool.not_eq_true', Bool.true_eq_false, Bool.false_eq_true, if_true, if_false, reduceCtorEq, F_few N t (by omega), E_awake N hN]
  by_cases hf : fewS t = true
  · have hl := few_len hf
    simp only [ev_br, ev_leaf, ev_c1, ev_c2, ev_c3, ev_c4, ev_cr, ev_cr2, ev_f0, ev_f1, ev_f2, obind_some, decide_eq_true_eq, Bool.not_eq_true', Bool.true_eq_false, Bool.false_eq_true, if_true, if_false, reduceCtorEq, hf, R_right N t (by omega)]
    by_cases hr : rightS t = true
    · obtain ⟨b, hb⟩ := F_brief N t hr (by omega)
      have hrf := (rightS_iff.1 hr).2
      have hel := expand_len hr
      have hal := act_len t
      have hra := act_right hr
      simp only [ev_br, ev_leaf, ev_c1, ev_c2, ev_c3, ev_c4, ev_cr, ev_cr2, ev_f0, ev_f1, ev_f2, obind_some, decide_eq_true_eq, Bool.not_eq_true', Bool.true_eq_false, Bool.false_eq_true, if_true, if_false, reduceCtorEq, hr, hb]
      cases b with
      | false => rfl
      | true =>
        simp only [ev_br, ev_leaf, ev_c1, ev_c2, ev_c3, ev_c4, ev_cr, ev_cr2, ev_f0, ev_f1, ev_f2, obind_some, decide_eq_true_eq, Bool.not_eq_true', Bool.true_eq_false, Bool.false_eq_true, if_true, if_false, reduceCtorEq, E_active N t (by omega), hr, E_expand N t hN (by omega), E_expand N (actL t) hN (by omega), hra, expand_act hrf, F_right N (actL t) (by omega), beq_self_eq_true, F_same N (expandS t).1 (expandS t).1 (by omega) (by unfold maxLen; omega), decide_true]
    · have hr' : rightS t = false := by simpa using hr
      simp only [ev_br, ev_leaf, ev_c1, ev_c2, ev_c3, ev_c4, ev_cr, ev_cr2, ev_f0, ev_f1, ev_f2, obind_some, decide_eq_true_eq, Bool.not_eq_true', Bool.true_eq_false, Bool.false_eq_true, if_true, if_false, reduceCtorEq, hr']
  · have hf' : fewS t = false := by simpa using hf
    simp only [ev_br, ev_leaf, ev_c1, ev_c2, ev_c3, ev_c4, ev_cr, ev_cr2, ev_f0, ev_f1, ev_f2, obind_some, decide_eq_true_eq, Bool.not_eq_true', Bool.true_eq_false, Bool.false_eq_true, if_true, if_false, reduceCtorEq, hf']

def plainAt (t : List Ln) (k : Nat) : Bool := decide ((t.getD k (0, [], 0)).2.2 = 0) && !ownW ((pth t k).headD [])
theorem plainLoop (N : Nat) (t a b : List Ln) (e : Int) (hr : rightS t = true) (hN : 1000 < N) :
    ∃ x, W6_9 N (t, a, b, e, true, t, (t.length : Int), 0) = some (.brk 0 x) ∧ x.1 = t ∧ x.2.1 = a ∧ x.2.2.1 = b ∧ x.2.2.2.1 = e ∧ x.2.2.2.2.1 = (List.range t.length).all (plainAt t) := by
  obtain ⟨h200, hrf⟩ := rightS_iff.1 hr
  obtain ⟨o, ho, hp⟩ := runLoop_post (R := Bool) (step := fun x => L6_9 N x.1 x.2.1 x.2.2.1 x.2.2.2.1 x.2.2.2.2.1 x.2.2.2.2.2.1 x.2.2.2.2.2.2.1 x.2.2.2.2.2.2.2)
    (fun x => x.1 = t ∧ x.2.1 = a ∧ x.2.2.1 = b ∧ x.2.2.2.1 = e ∧ x.2.2.2.2.2.1 = t ∧ x.2.2.2.2.2.2.1 = (t.length : Int) ∧ 0 ≤ x.2.2.2.2.2.2.2 ∧ x.2.2.2.2.2.2.2 ≤ t.length ∧ x.2.2.2.2.1 = (List.range x.2.2.2.2.2.2.2.toNat).all (plainAt t)) (fun x => (t.length - x.2.2.2.2.2.2.2).toNat)
    (fun o => ∃ x, o = .brk 0 x ∧ x.1 = t ∧ x.2.1 = a ∧ x.2.2.1 = b ∧ x.2.2.2.1 = e ∧ x.2.2.2.2.1 = (List.range t.length).all (plainAt t))
    (by
      rintro ⟨t', a', b', e', pl, t2, n, i⟩ ⟨e1, e2, e3, e4, e5, e6, h0, hle, hpl⟩
      dsimp only at e1 e2 e3 e4 e5 e6 h0 hle hpl ⊢
      subst e1; subst e2; subst e3; subst e4; subst e5; subst e6
      by_cases hi : i < (t2.length : Int)
      · have hil : i.toNat < t2.length := by omega
        have c1 : inR i t2.length := ⟨h0, hi⟩
        have hpn := pth_ne_nil hil
        have hpos := List.length_pos_iff.2 hpn
        have c0 : inR 0 (pth t2 i.toNat).length := ⟨by omega, by omega⟩
        have hh : atI tS (pth t2 i.toNat) 0 = (pth t2 i.toNat).headD [] := by
          cases hp : pth t2 i.toNat with
          | nil => exact absurd hp hpn
          | cons x r => rfl
        have hat : atI tLn t2 i = t2.getD i.toNat (0, [], 0) := rfl
        have e1 : (i + 1).toNat = i.toNat + 1 := by omega
        have hwi : IntKind.i64.wrap (i + 1) = i + 1 := wrapI (by omega) (by omega)
        have hstep : L6_9 N t2 a' b' e' pl t2 (t2.length : Int) i = some (.next (t2, a', b', e', pl && plainAt t2 i.toNat, t2, (t2.length : Int), i + 1)) := by
          unfold L6_9 U6_9 plainAt ownW grp apl
          obtain ⟨w, hw⟩ : ∃ w, (pth t2 i.toNat).headD [] = w := ⟨_, rfl⟩
          obtain ⟨m, hm⟩ : ∃ m, (t2.getD i.toNat (0, [], 0)).2.2 = m := ⟨_, rfl⟩
          rw [hw] at hh
          simp only [ev_br, ev_leaf, ev_c1, ev_c2, ev_c3, ev_c4, ev_cr, ev_cr2, ev_f0, ev_f1, ev_f2, obind_some, decide_eq_true_eq, Bool.not_eq_true', Bool.true_eq_false, Bool.false_eq_true, if_true, if_false, reduceCtorEq, hi, ev_ck c1, R_path N t2 i hr h0 hi (by omega), ev_ck c0, hh, hat, hwi, hm, hw]
          cases pl <;> cases hm0 : (m == 0) <;> cases h1 : (w == [103, 114, 111, 117, 112, 115]) <;> cases h2 : (w == [97, 112, 112, 108, 121]) <;> simp_all
        refine ⟨_, hstep, .inl ⟨_, rfl, ⟨rfl, rfl, rfl, rfl, rfl, rfl, by simp only; omega, by simp only; omega, ?_⟩, by simp only; omega⟩⟩
        simp only
        rw [e1, List.range_succ, List.all_append, ← hpl]
        simp
      · refine ⟨.brk 0 (t2, a', b', e', pl, t2, (t2.length : Int), i), by unfold L6_9 U6_9; simp [hi], .inr ⟨by simp, _, rfl, rfl, rfl, rfl, rfl, ?_⟩⟩
        have : i.toNat = t2.length := by omega
        rw [this] at hpl
        exact hpl) N (t, a, b, e, true, t, (t.length : Int), 0) ⟨rfl, rfl, rfl, rfl, rfl, rfl, by simp, by simp, by simp⟩ (by simp only; omega)
  obtain ⟨x, rfl, h⟩ := hp
  exact ⟨x, ho, h⟩

theorem L_again (N : Nat) (t : List Ln) (hN : 100000000 < N) : F6 N t = some true := by
  unfold F6 V6
  simp only [ev_br, ev_leaf, ev_c1, ev_c2, ev_c3, ev_c4, ev_cr, ev_cr2, ev_f0, ev_f1, ev_f2, obind_some, decide_eq_true_eq, Bool.not_eq_true', Bool.true_eq_false, Bool.false_eq_true, if_true, if_false, reduceCtorEq, F_few N t (by omega), E_awake N hN]
  by_cases hf : fewS t = true
  · have hl := few_len hf
    simp only [ev_br, ev_leaf, ev_c1, ev_c2, ev_c3, ev_c4, ev_cr, ev_cr2, ev_f0, ev_f1, ev_f2, obind_some, decide_eq_true_eq, Bool.not_eq_true', Bool.true_eq_false, Bool.false_eq_true, if_true, if_false, reduceCtorEq, hf, R_right N t (by omega)]
    by_cases hr : rightS t = true
    · obtain ⟨b, hb⟩ := F_brief N t hr (by omega)
      have hrf := (rightS_iff.1 hr).2
      have hel := expand_len hr
      simp only [ev_br, ev_leaf, ev_c1, ev_c2, ev_c3, ev_c4, ev_cr, ev_cr2, ev_f0, ev_f1, ev_f2, obind_some, decide_eq_true_eq, Bool.not_eq_true', Bool.true_eq_false, Bool.false_eq_true, if_true, if_false, reduceCtorEq, hr, hb]
      cases b with
      | false => rfl
      | true =>
        simp only [ev_br, ev_leaf, ev_c1, ev_c2, ev_c3, ev_c4, ev_cr, ev_cr2, ev_f0, ev_f1, ev_f2, obind_some, decide_eq_true_eq, Bool.not_eq_true', Bool.true_eq_false, Bool.false_eq_true, if_true, if_false, reduceCtorEq, E_expand N t hN (by omega), hr]
        by_cases he : (expandS t).2 = 0
        · have hru := (expand_map hr he).1
          have hne : ((expandS t).2 != 0) = false := by simpa using he
          obtain ⟨⟨x1, x2, x3, x4, x5, x6⟩, hx, h1, h2, h3, h4, h5⟩ := plainLoop N t (expandS t).1 (expandS t).1 0 hr (by omega)
          dsimp only at h1 h2 h3 h4 h5
          subst h1; subst h2; subst h3; subst h4; subst h5
          simp only [ev_br, ev_leaf, ev_c1, ev_c2, ev_c3, ev_c4, ev_cr, ev_cr2, ev_f0, ev_f1, ev_f2, obind_some, decide_eq_true_eq, Bool.not_eq_true', Bool.true_eq_false, Bool.false_eq_true, if_true, if_false, reduceCtorEq, hne, E_expand N (expandS x1).1 hN (by omega), hru, expand_twice hr he, hx, lp1_brk, beq_self_eq_true, F_same N (expandS x1).1 (expandS x1).1 (by omega) (by unfold maxLen; omega), decide_true]
          cases hpl : (List.range x1.length).all (plainAt x1) with
          | false => rfl
          | true =>
            have hfix : expandS x1 = (x1, 0) := plain_fix hr fun p m hg => by
              obtain ⟨k, hk, h1, h2⟩ := gt_some hrf hg
              have := List.all_eq_true.1 hpl k (List.mem_range.2 hk)
              unfold plainAt at this
              rw [Bool.and_eq_true, Bool.not_eq_true', decide_eq_true_eq, getD_of_lt x1 hk, h1, h2] at this
              exact this
            simp only [ev_br, ev_leaf, ev_c1, ev_c2, ev_c3, ev_c4, ev_cr, ev_cr2, ev_f0, ev_f1, ev_f2, obind_some, decide_eq_true_eq, Bool.not_eq_true', Bool.true_eq_false, Bool.false_eq_true, if_true, if_false, reduceCtorEq, hfix, F_same N x1 x1 (by omega) (by unfold maxLen; omega), decide_true]
        · have hne : ((expandS t).2 != 0) = true := by simpa using he
          simp (config := { decide := true }) only [ev_br, ev_leaf, ev_c1, ev_c2, ev_c3, ev_c4, ev_cr, ev_cr2, ev_f0, ev_f1, ev_f2, obind_some, decide_eq_true_eq, Bool.not_eq_true', Bool.true_eq_false, Bool.false_eq_true, if_true, if_false, reduceCtorEq, hne, expand_err he, List.length_nil]
    · have hr' : rightS t = false := by simpa using hr
      simp only [ev_br, ev_leaf, ev_c1, ev_c2, ev_c3, ev_c4, ev_cr, ev_cr2, ev_f0, ev_f1, ev_f2, obind_some, decide_eq_true_eq, Bool.not_eq_true', Bool.true_eq_false, Bool.false_eq_true, if_true, if_false, reduceCtorEq, hr']
  · have hf' : fewS t = false := by simpa using hf
    simp only [ev_br, ev_leaf, ev_c1, ev_c2, ev_c3, ev_c4, ev_cr, ev_cr2, ev_f0, ev_f1, ev_f2, obind_some, decide_eq_true_eq, Bool.not_eq_true', Bool.true_eq_false, Bool.false_eq_true, if_true, if_false, reduceCtorEq, hf']

end Go.Proofs.Ytannkhelkpmcfaa.Vc
