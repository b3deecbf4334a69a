/-
  THE LAWS ON EDITING, told of data. No condition.
-/
import Derived.Test.YtcjlpdnhbgbooaaEj
set_option linter.unusedVariables false
set_option linter.unusedSimpArgs false
namespace Go.Proofs.Ytcjlpdnhbgbooaa.Vc

theorem EV_nil {N : Nat} (hN : 5000 < N) : N > 0 := by omega

theorem E_awake (N : Nat) (hN : 5000 < N) : F12 N = some true := by
  unfold F12 V12
  have s1 : setS [] [[97], [98]] = ([(0, [97], 0), (1, [98], 0)], 0) := by decide
  have s2 : markS [(0, [97], 0), (1, [98], 0)] [[97]] 2 true = ([(0, [97], 2), (1, [98], 0)], 0) := by decide
  have s3 : setS [(0, [97], 2), (1, [98], 0)] [[97], [99]] = ([(0, [97], 2), (1, [98], 0)], 12) := by decide
  have s4 : markS [(0, [97], 2), (1, [98], 0)] [[97]] 2 false = ([(0, [97], 0), (1, [98], 0)], 0) := by decide
  have s5 : renS [(0, [97], 0), (1, [98], 0)] [[97]] [122] = ([(0, [122], 0), (1, [98], 0)], 0) := by decide
  have s6 : copS [(0, [122], 0), (1, [98], 0)] [[122]] [121] = ([(0, [121], 0), (1, [98], 0), (0, [122], 0), (1, [98], 0)], 0) := by decide
  have s7 : delS [(0, [121], 0), (1, [98], 0), (0, [122], 0), (1, [98], 0)] [[122]] = ([(0, [121], 0), (1, [98], 0)], 0) := by decide
  have s8 : keptS [(0, [97], 2), (1, [98], 0)] [[97], [113]] = true := by decide
  have s9 : (rightS [(0, [97], 2), (1, [98], 0)] && keptN [(0, [97], 2), (1, [98], 0)] [[97]] (([[97]] : List Bs).length - 1)) = false := by decide
  have l2 : ∀ a b : Ln, ([a, b] : List Ln).length = 2 := fun _ _ => rfl
  have l4 : ∀ a b c d : Ln, ([a, b, c, d] : List Ln).length = 4 := fun _ _ _ _ => rfl
  have e1 := E_set N [] [[97], [98]] (by omega) (by simp; omega) (by simp; omega) (by simp)
  have e2 := E_mark N [(0, [97], 0), (1, [98], 0)] [[97]] 2 true (by omega) (by simp; omega) (by simp; omega) (by simp)
  have e3 := E_set N [(0, [97], 2), (1, [98], 0)] [[97], [99]] (by omega) (by simp; omega) (by simp; omega) (by simp)
  have e4 := E_mark N [(0, [97], 2), (1, [98], 0)] [[97]] 2 false (by omega) (by simp; omega) (by simp; omega) (by simp)
  have e5 := E_rename N [(0, [97], 0), (1, [98], 0)] [[97]] [122] (by omega) (by simp; omega) (by simp; omega) (by simp)
  have e6 := E_copy N [(0, [122], 0), (1, [98], 0)] [[122]] [121] (by omega) (by simp; omega) (by simp; omega) (by simp)
  have e7 := E_delete N [(0, [121], 0), (1, [98], 0), (0, [122], 0), (1, [98], 0)] [[122]] (by omega) (by simp; omega) (by simp; omega) (by simp)
  have e8 := E_locked N [(0, [97], 2), (1, [98], 0)] [[97], [113]] (by simp; omega) (by simp; omega) (by simp)
  have e9 := E_above N [(0, [97], 2), (1, [98], 0)] [[97]] (by simp; omega) (by simp; omega) (by simp)
  rw [s1] at e1
  rw [s2] at e2
  rw [s3] at e3
  rw [s4] at e4
  rw [s5] at e5
  rw [s6] at e6
  rw [s7] at e7
  rw [s8] at e8
  rw [s9] at e9
  have c1 : inR 0 ([(0, [121], 0), (1, [98], 0)] : List Ln).length := ⟨by simp, by simp⟩
  have hat : atI tLn [(0, [121], 0), (1, [98], 0)] 0 = ((0, [121], 0) : Ln) := rfl
  simp (config := { decide := true }) only [ev_br, ev_leaf, ev_c1, ev_c2, ev_c3, ev_c4, ev_cr, ev_cr2, ev_f0, ev_f1, ev_f2, obind_some, decide_eq_true_eq, Bool.not_eq_true', Bool.true_eq_false, Bool.false_eq_true, if_true, if_false, reduceCtorEq, e1, e2, e3, e4, e5, e6, e7, e8, e9, ev_ck c1, hat, l2, ev_ck trivial]

theorem small_len {t : List Ln} (h : smallS t = true) : t.length ≤ 220 := by
  unfold smallS at h
  simp only [Bool.and_eq_true, decide_eq_true_eq] at h
  exact h.1
theorem short_len {q : List Bs} (h : shortS q = true) : q.length ≤ 40 := by
  unfold shortS at h
  simp only [Bool.and_eq_true, decide_eq_true_eq] at h
  exact h.1

theorem L_exact (N : Nat) (t : List Ln) (a : Act4) (hN : 5000 < N) : F3 N t a = some true := by
  unfold F3 V3
  simp only [ev_br, ev_leaf, ev_c1, ev_c2, ev_c3, ev_c4, ev_cr, ev_cr2, ev_f0, ev_f1, ev_f2, obind_some, decide_eq_true_eq, Bool.not_eq_true', Bool.true_eq_false, Bool.false_eq_true, if_true, if_false, reduceCtorEq, F_small N t (by omega), F_short N a.2.1 (by omega), E_awake N hN]
  by_cases hs : smallS t = true
  · have hl := small_len hs
    by_cases hq : shortS a.2.1 = true
    · have hq' := short_len hq
      simp only [ev_br, ev_leaf, ev_c1, ev_c2, ev_c3, ev_c4, ev_cr, ev_cr2, ev_f0, ev_f1, ev_f2, obind_some, decide_eq_true_eq, Bool.not_eq_true', Bool.true_eq_false, Bool.false_eq_true, if_true, if_false, reduceCtorEq, hs, hq]
      by_cases hw : (100 : Int) < (a.2.2.2.length : Int)
      · rw [if_pos hw]
      · rw [if_neg hw]
        have hd := do_len t a
        simp only [ev_br, ev_leaf, ev_c1, ev_c2, ev_c3, ev_c4, ev_cr, ev_cr2, ev_f0, ev_f1, ev_f2, obind_some, decide_eq_true_eq, Bool.not_eq_true', Bool.true_eq_false, Bool.false_eq_true, if_true, if_false, reduceCtorEq, E_do N t a (by omega) (by omega) (by omega) (by omega), E_want N t a hN (by omega) (by omega) (by omega), R_right N t (by omega), F_same N (doS t a).1 (doS t a).1 (by omega) (by unfold maxLen; omega),
          E_locked N t a.2.1 (by omega) (by omega) (by omega), E_above N t a.2.1 (by omega) (by omega) (by omega), decide_true, beq_self_eq_true]
        by_cases hr : rightS t = true
        · have k1 := R_kept N t a.2.1 (a.2.1.length : Int) hr (Int.le_refl _) (by omega) (by omega) (by omega)
          have k2 := R_kept N t a.2.1 ((a.2.1.length : Int) - 1) hr (by omega) (by omega) (by omega) (by omega)
          have e1 : ((a.2.1.length : Int) - 1).toNat = a.2.1.length - 1 := by omega
          rw [Int.toNat_natCast] at k1
          rw [e1] at k2
          simp (disch := omega) only [ev_br, ev_leaf, ev_c1, ev_c2, ev_c3, ev_c4, ev_cr, ev_cr2, ev_f0, ev_f1, ev_f2, obind_some, decide_eq_true_eq, Bool.not_eq_true', Bool.true_eq_false, Bool.false_eq_true, if_true, if_false, reduceCtorEq, hr, wrapI, k1, k2, keptS, Bool.true_and, beq_self_eq_true]
        · have hr' : rightS t = false := by simpa using hr
          simp only [ev_br, ev_leaf, ev_c1, ev_c2, ev_c3, ev_c4, ev_cr, ev_cr2, ev_f0, ev_f1, ev_f2, obind_some, decide_eq_true_eq, Bool.not_eq_true', Bool.true_eq_false, Bool.false_eq_true, if_true, if_false, reduceCtorEq, hr', keptS, Bool.false_and, beq_self_eq_true]
    · simp [hs, hq]
  · simp [hs]

theorem L_tree (N : Nat) (acts : List Act4) (hN : 5000 < N) : F4 N acts = some true := by
  unfold F4 V4
  simp only [ev_br, ev_leaf, ev_c1, ev_c2, ev_c3, ev_c4, ev_cr, ev_cr2, ev_f0, ev_f1, ev_f2, obind_some, decide_eq_true_eq, Bool.not_eq_true', Bool.true_eq_false, Bool.false_eq_true, if_true, if_false, reduceCtorEq, E_awake N hN]
  obtain ⟨o, ho, hp⟩ := runLoop_post (R := Bool) (step := fun x => L4_3 N x.1 x.2.1 x.2.2)
    (fun x => x.1 = acts ∧ rightS x.2.1 = true ∧ 0 ≤ x.2.2 ∧ x.2.2 ≤ 30) (fun x => (30 - x.2.2).toNat)
    (fun o => o = .ret true ∨ ∃ x, o = .brk 0 x)
    (by
      rintro ⟨acs, t, i⟩ ⟨e1, hr, h0, h30⟩
      dsimp only at e1 hr h0 h30 ⊢
      subst e1
      unfold L4_3 U4_3
      by_cases hi : i < (acs.length : Int)
      · by_cases hi2 : i < 30
        · have c1 : inR i acs.length := ⟨h0, hi⟩
          obtain ⟨a, ha⟩ : ∃ a : Act4, atI (.pair tI (.pair (.list tS) (.pair tI tS))) acs i = a := ⟨_, rfl⟩
          have h200 := (rightS_iff.1 hr).1
          simp (disch := first | assumption | omega) only [ev_br, ev_leaf, ev_c1, ev_c2, ev_c3, ev_c4, ev_cr, ev_cr2, ev_f0, ev_f1, ev_f2, obind_some, decide_eq_true_eq, Bool.not_eq_true', Bool.true_eq_false, Bool.false_eq_true, if_true, if_false, reduceCtorEq, hi, hi2, ev_ck, ha, wrapI, F_short N a.2.1 (by omega), E_awake N hN]
          by_cases h16 : (16 : Int) < (a.2.1.length : Int)
          · rw [if_pos h16]
            exact ⟨_, rfl, .inr ⟨by simp, .inl rfl⟩⟩
          · rw [if_neg h16]
            by_cases hq : shortS a.2.1 = true
            · simp only [hq, ev_br, ev_leaf, ev_c1, ev_c2, ev_c3, ev_c4, ev_cr, ev_cr2, ev_f0, ev_f1, ev_f2, obind_some, decide_eq_true_eq, Bool.not_eq_true', Bool.true_eq_false, Bool.false_eq_true, if_true, if_false, reduceCtorEq]
              by_cases hw : (100 : Int) < (a.2.2.2.length : Int)
              · rw [if_pos hw]
                exact ⟨_, rfl, .inr ⟨by simp, .inl rfl⟩⟩
              · rw [if_neg hw]
                have hd := do_len t a
                simp only [ev_br, ev_leaf, ev_c1, ev_c2, ev_c3, ev_c4, ev_cr, ev_cr2, ev_f0, ev_f1, ev_f2, obind_some, decide_eq_true_eq, Bool.not_eq_true', Bool.true_eq_false, Bool.false_eq_true, if_true, if_false, reduceCtorEq, E_do N t a (by omega) (by omega) (by omega) (by omega), F_right N (doS t a).1 (by omega), F_same N t (doS t a).1 (by omega) (by unfold maxLen; omega)]
                have hright : rightS (doS t a).1 = true := by
                  rcases do_or t a with ⟨_, h⟩ | ⟨_, _, h⟩
                  · rw [h]; exact hr
                  · exact h
                simp only [hright, ev_br, ev_leaf, ev_c1, ev_c2, ev_c3, ev_c4, ev_cr, ev_cr2, ev_f0, ev_f1, ev_f2, obind_some, decide_eq_true_eq, Bool.not_eq_true', Bool.true_eq_false, Bool.false_eq_true, if_true, if_false, reduceCtorEq]
                rcases do_or t a with ⟨h1, h2⟩ | ⟨h1, h2, h3⟩
                · have hne : ((doS t a).2 != 0) = true := by simpa using h1
                  simp only [hne, h2, ev_br, ev_leaf, ev_c1, ev_c2, ev_c3, ev_c4, ev_cr, ev_cr2, ev_f0, ev_f1, ev_f2, obind_some, decide_eq_true_eq, Bool.not_eq_true', Bool.true_eq_false, Bool.false_eq_true, if_true, if_false, reduceCtorEq, decide_true]
                  exact ⟨_, rfl, .inl ⟨_, rfl, ⟨rfl, hr, by simp only; omega, by simp only; omega⟩, by simp only; omega⟩⟩
                · have hne : ((doS t a).2 != 0) = false := by simpa using h1
                  simp only [hne, ev_br, ev_leaf, ev_c1, ev_c2, ev_c3, ev_c4, ev_cr, ev_cr2, ev_f0, ev_f1, ev_f2, obind_some, decide_eq_true_eq, Bool.not_eq_true', Bool.true_eq_false, Bool.false_eq_true, if_true, if_false, reduceCtorEq]
                  exact ⟨_, rfl, .inl ⟨_, rfl, ⟨rfl, hright, by simp only; omega, by simp only; omega⟩, by simp only; omega⟩⟩
            · have hq' : shortS a.2.1 = false := by simpa using hq
              simp only [hq', ev_br, ev_leaf, ev_c1, ev_c2, ev_c3, ev_c4, ev_cr, ev_cr2, ev_f0, ev_f1, ev_f2, obind_some, decide_eq_true_eq, Bool.not_eq_true', Bool.true_eq_false, Bool.false_eq_true, if_true, if_false, reduceCtorEq]
              exact ⟨_, rfl, .inr ⟨by simp, .inl rfl⟩⟩
        · exact ⟨.brk 0 (acs, t, i), by simp [hi, hi2], .inr ⟨by simp, .inr ⟨_, rfl⟩⟩⟩
      · exact ⟨.brk 0 (acs, t, i), by simp [hi], .inr ⟨by simp, .inr ⟨_, rfl⟩⟩⟩) N (acts, [], 0) ⟨rfl, rfl, by simp, by simp⟩ (by simp only; omega)
  unfold W4_3
  rw [ho]
  rcases hp with rfl | ⟨x, rfl⟩
  · rfl
  · rw [lp1_brk]

/-- The line of a path that a tree has with this mark. -/
theorem line_eq {t u : List Ln} (ht : rf [] t = true) (hu : rf [] u = true) {i k : Nat} (hi : i < t.length) (hk : k < u.length) (hp : pth u k = pth t i) (hm : (u[k]).2.2 = (t[i]).2.2) : u[k] = t[i] := by
  rw [← ln_get hu hk, ← ln_get ht hi, hp, hm]

theorem ln_beq' (a b : Ln) : (!((a.1 == b.1) && ((a.2.1 == b.2.1) && ((a.2.2 == b.2.2) && true)))) = decide (a ≠ b) := by
  rw [ln_beq]
  by_cases h : a = b
  · subst h; simp
  · simp [h]

theorem L_locked (N : Nat) (t : List Ln) (a : Act4) (hN : 5000 < N) : F5 N t a = some true := by
  unfold F5 V5
  simp only [ev_br, ev_leaf, ev_c1, ev_c2, ev_c3, ev_c4, ev_cr, ev_cr2, ev_f0, ev_f1, ev_f2, obind_some, decide_eq_true_eq, Bool.not_eq_true', Bool.true_eq_false, Bool.false_eq_true, if_true, if_false, reduceCtorEq, F_small N t (by omega), F_short N a.2.1 (by omega), E_awake N hN]
  by_cases hs : smallS t = true
  · have hl := small_len hs
    simp only [ev_br, ev_leaf, ev_c1, ev_c2, ev_c3, ev_c4, ev_cr, ev_cr2, ev_f0, ev_f1, ev_f2, obind_some, decide_eq_true_eq, Bool.not_eq_true', Bool.true_eq_false, Bool.false_eq_true, if_true, if_false, reduceCtorEq, hs, R_right N t (by omega)]
    by_cases h60 : (60 : Int) < (t.length : Int)
    · rw [if_pos h60]
    · rw [if_neg h60]
      by_cases hr : rightS t = true
      · obtain ⟨h200, hrf⟩ := rightS_iff.1 hr
        simp only [ev_br, ev_leaf, ev_c1, ev_c2, ev_c3, ev_c4, ev_cr, ev_cr2, ev_f0, ev_f1, ev_f2, obind_some, decide_eq_true_eq, Bool.not_eq_true', Bool.true_eq_false, Bool.false_eq_true, if_true, if_false, reduceCtorEq, hr]
        by_cases hq : shortS a.2.1 = true
        · have hq' := short_len hq
          simp only [ev_br, ev_leaf, ev_c1, ev_c2, ev_c3, ev_c4, ev_cr, ev_cr2, ev_f0, ev_f1, ev_f2, obind_some, decide_eq_true_eq, Bool.not_eq_true', Bool.true_eq_false, Bool.false_eq_true, if_true, if_false, reduceCtorEq, hq]
          by_cases hw : (100 : Int) < (a.2.2.2.length : Int)
          · rw [if_pos hw]
          · rw [if_neg hw]
            have hd := do_len t a
            simp only [ev_br, ev_leaf, ev_c1, ev_c2, ev_c3, ev_c4, ev_cr, ev_cr2, ev_f0, ev_f1, ev_f2, obind_some, decide_eq_true_eq, Bool.not_eq_true', Bool.true_eq_false, Bool.false_eq_true, if_true, if_false, reduceCtorEq, E_do N t a (by omega) (by omega) (by omega) (by omega)]
            obtain ⟨u, hu⟩ : ∃ u, (doS t a).1 = u := ⟨_, rfl⟩
            have hru : rightS u = true := by
              rcases do_or t a with ⟨_, h⟩ | ⟨_, _, h⟩
              · rw [← hu, h]; exact hr
              · rw [← hu]; exact h
            obtain ⟨hu200, hurf⟩ := rightS_iff.1 hru
            rw [hu]
            obtain ⟨o, ho, hp⟩ := runLoop_post (R := Bool) (step := fun x => L5_5 N x.1 x.2.1 x.2.2.1 x.2.2.2.1 x.2.2.2.2)
              (fun x => x.1 = t ∧ x.2.1 = u ∧ x.2.2.1 = t ∧ x.2.2.2.1 = (t.length : Int) ∧ 0 ≤ x.2.2.2.2 ∧ x.2.2.2.2 ≤ t.length) (fun x => (t.length - x.2.2.2.2).toNat)
              (fun o => ∃ x, o = .brk 0 x)
              (by
                rintro ⟨t1, u1, t2, n, i⟩ ⟨e1, e2, e3, e4, h0, hle⟩
                dsimp only at e1 e2 e3 e4 h0 hle ⊢
                subst e1; subst e2; subst e3; subst e4
                unfold L5_5 U5_5
                by_cases hi : i < (t2.length : Int)
                · have c1 : inR i t2.length := ⟨h0, hi⟩
                  have hil : i.toNat < t2.length := by omega
                  have hpl := pth_len hrf hil
                  have hb := snd_iff.1 (rf_at hrf hil).1
                  have hgt := gt_at hrf hil
                  have hat : atI tLn t2 i = t2[i.toNat] := by rw [atI_nat, getD_of_lt t2 hil]
                  have goon : ∃ o, (some (Lp.next (t2, u1, t2, (t2.length : Int), i + 1)) : Option (Lp (List Ln × List Ln × List Ln × Int × Int) Bool)) = some o ∧ ((∃ y, o = .next y ∧ (y.1 = t2 ∧ y.2.1 = u1 ∧ y.2.2.1 = t2 ∧ y.2.2.2.1 = (t2.length : Int) ∧ 0 ≤ y.2.2.2.2 ∧ y.2.2.2.2 ≤ t2.length) ∧ (t2.length - y.2.2.2.2).toNat < (t2.length - i).toNat) ∨ ((∀ y, o ≠ .next y) ∧ ∃ x, o = .brk 0 x)) :=
                    ⟨_, rfl, .inl ⟨_, rfl, ⟨rfl, rfl, rfl, rfl, by simp only; omega, by simp only; omega⟩, by simp only; omega⟩⟩
                  simp (disch := first | assumption | omega) only [ev_br, ev_leaf, ev_c1, ev_c2, ev_c3, ev_c4, ev_cr, ev_cr2, ev_f0, ev_f1, ev_f2, obind_some, decide_eq_true_eq, Bool.not_eq_true', Bool.true_eq_false, Bool.false_eq_true, if_true, if_false, reduceCtorEq, hi, ev_ck, wrapI, R_path N t2 i hr h0 hi (by omega), E_locked N t2 (pth t2 i.toNat) (by omega) (by omega) (by omega), E_above N t2 (pth t2 i.toNat) (by omega) (by omega) (by omega), F_find N u1 _ (show u1.length < N by omega), fndS_eq, hru, hat]
                  by_cases hk : keptS t2 (pth t2 i.toNat) = true
                  · have hk' : keptN t2 (pth t2 i.toNat) (pth t2 i.toNat).length = true := by unfold keptS at hk; rw [hr, Bool.true_and] at hk; exact hk
                    obtain ⟨m', g1, g2, g3⟩ := do_locked hr a hgt hk'
                    rw [hu] at g1
                    obtain ⟨k, hfk, hmk⟩ := gt_fnd hurf g1
                    obtain ⟨hkl, hkp⟩ := fnd_of hfk
                    have c2 : inR (k : Int) u1.length := ⟨by omega, by omega⟩
                    have hmu := snd_iff.1 (rf_at hurf hkl).1
                    have hatk : atI tLn u1 (k : Int) = u1[k] := by rw [atI_nat, Int.toNat_natCast, getD_of_lt u1 hkl]
                    rw [getD_of_lt u1 hkl] at hmk
                    have htm : (((u1[k]).2.2.tmod 2) != ((t2[i.toNat]).2.2.tmod 2)) = false := by
                      rw [tmod2 (by omega), tmod2 (by omega), hmk, g2]; simp
                    have two : (2 : Int) ≠ 0 := by omega
                    simp only [ev_br, ev_leaf, ev_c1, ev_c2, ev_c3, ev_c4, ev_cr, ev_cr2, ev_f0, ev_f1, ev_f2, obind_some, decide_eq_true_eq, Bool.not_eq_true', Bool.true_eq_false, Bool.false_eq_true, if_true, if_false, reduceCtorEq, hk, hfk, ev_ck c2, hatk, htm, ev_ck two, hr, Bool.true_and]
                    by_cases hab : keptN t2 (pth t2 i.toNat) ((pth t2 i.toNat).length - 1) = true
                    · have hmm := g3 hab
                      have hle : u1[k] = t2[i.toNat] := line_eq hrf hurf hil hkl hkp (by rw [hmk, hmm])
                      simp only [ev_br, ev_leaf, ev_c1, ev_c2, ev_c3, ev_c4, ev_cr, ev_cr2, ev_f0, ev_f1, ev_f2, obind_some, decide_eq_true_eq, Bool.not_eq_true', Bool.true_eq_false, Bool.false_eq_true, if_true, if_false, reduceCtorEq, hab, hle, beq_self_eq_true, Bool.and_self]
                      exact goon
                    · simp only [hab, ev_br, ev_leaf, ev_c1, ev_c2, ev_c3, ev_c4, ev_cr, ev_cr2, ev_f0, ev_f1, ev_f2, obind_some, decide_eq_true_eq, Bool.not_eq_true', Bool.true_eq_false, Bool.false_eq_true, if_true, if_false, reduceCtorEq]
                      exact goon
                  · have hk' : keptS t2 (pth t2 i.toNat) = false := by simpa using hk
                    simp only [ev_br, ev_leaf, ev_c1, ev_c2, ev_c3, ev_c4, ev_cr, ev_cr2, ev_f0, ev_f1, ev_f2, obind_some, decide_eq_true_eq, Bool.not_eq_true', Bool.true_eq_false, Bool.false_eq_true, if_true, if_false, reduceCtorEq, hk']
                    exact goon
                · exact ⟨.brk 0 (t2, u1, t2, (t2.length : Int), i), by simp [hi], .inr ⟨by simp, ⟨_, rfl⟩⟩⟩) N (t, u, t, (t.length : Int), 0) ⟨rfl, rfl, rfl, rfl, by simp, by simp⟩ (by simp only; omega)
            unfold W5_5
            rw [ho]
            obtain ⟨x, rfl⟩ := hp
            rw [lp1_brk]
        · have hq' : shortS a.2.1 = false := by simpa using hq
          simp only [ev_br, ev_leaf, ev_c1, ev_c2, ev_c3, ev_c4, ev_cr, ev_cr2, ev_f0, ev_f1, ev_f2, obind_some, decide_eq_true_eq, Bool.not_eq_true', Bool.true_eq_false, Bool.false_eq_true, if_true, if_false, reduceCtorEq, hq']
      · have hr' : rightS t = false := by simpa using hr
        simp only [ev_br, ev_leaf, ev_c1, ev_c2, ev_c3, ev_c4, ev_cr, ev_cr2, ev_f0, ev_f1, ev_f2, obind_some, decide_eq_true_eq, Bool.not_eq_true', Bool.true_eq_false, Bool.false_eq_true, if_true, if_false, reduceCtorEq, hr']
  · have hs' : smallS t = false := by simpa using hs
    simp only [ev_br, ev_leaf, ev_c1, ev_c2, ev_c3, ev_c4, ev_cr, ev_cr2, ev_f0, ev_f1, ev_f2, obind_some, decide_eq_true_eq, Bool.not_eq_true', Bool.true_eq_false, Bool.false_eq_true, if_true, if_false, reduceCtorEq, hs']

theorem ren_len (t : List Ln) (q : List Bs) (w : Bs) : (renS t q w).1.length ≤ t.length + 200 := by
  rcases ren_or t q w with ⟨_, h⟩ | ⟨_, _, i, _, _, _, _, h, _⟩
  · rw [h]; omega
  · have := (rightS_iff.1 h).1; omega
theorem cop_len (t : List Ln) (q : List Bs) (w : Bs) : (copS t q w).1.length ≤ t.length + 200 := by
  rcases cop_or t q w with ⟨_, h⟩ | ⟨_, _, i, _, _, _, _, h, _⟩
  · rw [h]; omega
  · have := (rightS_iff.1 h).1; omega
theorem del_len (t : List Ln) (q : List Bs) : (delS t q).1.length ≤ t.length := by
  rcases del_or t q with ⟨_, h⟩ | ⟨_, i, _, hf, _, h, _⟩
  · rw [h]; omega
  · rw [h]; have := cut_len (fnd_of hf).1; omega
theorem set_len (t : List Ln) (q : List Bs) : (setS t q).1.length ≤ t.length + 200 := by
  rcases set_or t q with ⟨_, h⟩ | ⟨_, _, _, _, h, h2, _⟩
  · rw [h]; omega
  · rw [h]; have := (rightS_iff.1 h2).1; omega
theorem mark_len (t : List Ln) (q : List Bs) (bit : Int) (on : Bool) : (markS t q bit on).1.length = t.length := by
  rcases mark_or t q bit on with ⟨_, h⟩ | ⟨_, _, i, m, _, _, _, _, _, _, _, _, h, _⟩
  · rw [h]
  · rw [h]; unfold withM; simp

theorem L_back (N : Nat) (t : List Ln) (q : List Bs) (w : Bs) (hN : 5000 < N) : F6 N t q w = some true := by
  unfold F6 V6
  simp only [ev_br, ev_leaf, ev_c1, ev_c2, ev_c3, ev_c4, ev_cr, ev_cr2, ev_f0, ev_f1, ev_f2, obind_some, decide_eq_true_eq, Bool.not_eq_true', Bool.true_eq_false, Bool.false_eq_true, if_true, if_false, reduceCtorEq, F_small N t (by omega), F_short N q (by omega), E_awake N hN]
  by_cases hs : smallS t = true
  · have hl := small_len hs
    simp only [ev_br, ev_leaf, ev_c1, ev_c2, ev_c3, ev_c4, ev_cr, ev_cr2, ev_f0, ev_f1, ev_f2, obind_some, decide_eq_true_eq, Bool.not_eq_true', Bool.true_eq_false, Bool.false_eq_true, if_true, if_false, reduceCtorEq, hs, R_right N t (by omega)]
    by_cases h60 : (60 : Int) < (t.length : Int)
    · rw [if_pos h60]
    · rw [if_neg h60]
      by_cases hr : rightS t = true
      · simp only [ev_br, ev_leaf, ev_c1, ev_c2, ev_c3, ev_c4, ev_cr, ev_cr2, ev_f0, ev_f1, ev_f2, obind_some, decide_eq_true_eq, Bool.not_eq_true', Bool.true_eq_false, Bool.false_eq_true, if_true, if_false, reduceCtorEq, hr]
        by_cases hq : shortS q = true
        · have hq' := short_len hq
          simp only [ev_br, ev_leaf, ev_c1, ev_c2, ev_c3, ev_c4, ev_cr, ev_cr2, ev_f0, ev_f1, ev_f2, obind_some, decide_eq_true_eq, Bool.not_eq_true', Bool.true_eq_false, Bool.false_eq_true, if_true, if_false, reduceCtorEq, hq]
          by_cases hw : (100 : Int) < (w.length : Int)
          · rw [if_pos hw]
          · rw [if_neg hw]
            by_cases hq0 : q = []
            · simp [hq0]
            · have hb : ((q.length : Int) == 0) = false := by simp; exact hq0
              have hqp := List.length_pos_iff.2 hq0
              have e1 : ((q.length : Int) - 1).toNat = q.length - 1 := by omega
              have ck1 : (0 : Int) ≤ 0 ∧ (0 : Int) ≤ (q.length : Int) - 1 ∧ (q.length : Int) - 1 ≤ (q.length : Int) := by omega
              have hW := R_with N q.dropLast w (by simp; omega)
              have c1 : inR ((q.length : Int) - 1) q.length := ⟨by omega, by omega⟩
              have hat : atI tS q ((q.length : Int) - 1) = q.getLast hq0 := by
                show q.getD _ [] = _
                rw [e1, getD_lt (by omega), List.getLast_eq_getElem]
              have hrl := ren_len t q w
              have hcl := cop_len t q w
              have hdl := del_len (copS t q w).1 (q.dropLast ++ [w])
              have hrl2 := ren_len (renS t q w).1 (q.dropLast ++ [w]) (q.getLast hq0)
              have htl : (q.dropLast ++ [w]).length = q.length := by simp; omega
              have hE2 := E_rename N (renS t q w).1 (q.dropLast ++ [w]) (q.getLast hq0) (by omega) (by omega) (by omega) (by omega)
              have hD := E_delete N (copS t q w).1 (q.dropLast ++ [w]) (by omega) (by omega) (by omega) (by omega)
              have hSc := F_same N (copS t q w).1 t (by omega) (by unfold maxLen; omega)
              have hSd := F_same N (delS (copS t q w).1 (q.dropLast ++ [w])).1 t (by omega) (by unfold maxLen; omega)
              have hSr := F_same N t (renS (renS t q w).1 (q.dropLast ++ [w]) (q.getLast hq0)).1 (by omega) (by unfold maxLen; omega)
              rw [hb]
              simp (config := { maxSteps := 3000000 }) (disch := first | assumption | omega) only [ev_br, ev_leaf, ev_c1, ev_c2, ev_c3, ev_c4, ev_cr, ev_cr2, ev_f0, ev_f1, ev_f2, obind_some, decide_eq_true_eq, Bool.not_eq_true', Bool.true_eq_false, Bool.false_eq_true, if_true, if_false, reduceCtorEq, wrapI, ev_ck ck1, slc0, e1, ← List.dropLast_eq_take, hW, E_rename N t q w (by omega) (by omega) (by omega) (by omega), E_copy N t q w (by omega) (by omega) (by omega) (by omega), hE2, hD, ev_ck c1, hat, hSc, hSd, hSr]
              -- the copy
              have hcopy : (if ((copS t q w).2 != 0) = true then (if decide ((copS t q w).1 = t) = true then some true else some false) else
                  if ((delS (copS t q w).1 (q.dropLast ++ [w])).2 == 0) = true then (if decide ((delS (copS t q w).1 (q.dropLast ++ [w])).1 = t) = true then some true else if ((delS (copS t q w).1 (q.dropLast ++ [w])).2 == 12) = true then some true else some false)
                  else if ((delS (copS t q w).1 (q.dropLast ++ [w])).2 == 12) = true then some true else some false) = some true := by
                by_cases hc : (copS t q w).2 = 0
                · rcases cop_back hr hc with h | h
                  · simp [hc, h]
                  · simp [hc, h]
                · rcases cop_or t q w with ⟨h1, h2⟩ | ⟨h1, _⟩
                  · simp [h1, h2]
                  · exact absurd h1 hc
              simp only [decide_eq_true_eq] at hcopy
              by_cases he : (renS t q w).2 = 0
              · have hbk := ren_back hr he hq0
                have hlen : (renS t q w).1.length = t.length := by
                  rcases ren_or t q w with ⟨h, _⟩ | ⟨_, _, i, _, _, _, _, _, h, _⟩
                  · exact absurd he h
                  · exact h
                simp only [he, hbk, hlen, beq_self_eq_true, bne_self_eq_false, decide_true, ev_br, ev_leaf, ev_c1, ev_c2, ev_c3, ev_c4, ev_cr, ev_cr2, ev_f0, ev_f1, ev_f2, obind_some, decide_eq_true_eq, Bool.not_eq_true', Bool.true_eq_false, Bool.false_eq_true, if_true, if_false, reduceCtorEq]
                exact hcopy
              · have he' : ((renS t q w).2 == 0) = false := by simpa using he
                simp only [he', ev_br, ev_leaf, ev_c1, ev_c2, ev_c3, ev_c4, ev_cr, ev_cr2, ev_f0, ev_f1, ev_f2, obind_some, decide_eq_true_eq, Bool.not_eq_true', Bool.true_eq_false, Bool.false_eq_true, if_true, if_false, reduceCtorEq]
                exact hcopy
        · have hq' : shortS q = false := by simpa using hq
          simp only [ev_br, ev_leaf, ev_c1, ev_c2, ev_c3, ev_c4, ev_cr, ev_cr2, ev_f0, ev_f1, ev_f2, obind_some, decide_eq_true_eq, Bool.not_eq_true', Bool.true_eq_false, Bool.false_eq_true, if_true, if_false, reduceCtorEq, hq']
      · have hr' : rightS t = false := by simpa using hr
        simp only [ev_br, ev_leaf, ev_c1, ev_c2, ev_c3, ev_c4, ev_cr, ev_cr2, ev_f0, ev_f1, ev_f2, obind_some, decide_eq_true_eq, Bool.not_eq_true', Bool.true_eq_false, Bool.false_eq_true, if_true, if_false, reduceCtorEq, hr']
  · have hs' : smallS t = false := by simpa using hs
    simp only [ev_br, ev_leaf, ev_c1, ev_c2, ev_c3, ev_c4, ev_cr, ev_cr2, ev_f0, ev_f1, ev_f2, obind_some, decide_eq_true_eq, Bool.not_eq_true', Bool.true_eq_false, Bool.false_eq_true, if_true, if_false, reduceCtorEq, hs']

end Go.Proofs.Ytcjlpdnhbgbooaa.Vc
