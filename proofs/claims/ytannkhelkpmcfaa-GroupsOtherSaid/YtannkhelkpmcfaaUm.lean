/-
  THE LAWS ON GROUPS, told of data (2). No condition.
-/
import Derived.Test.YtannkhelkpmcfaaUl
set_option linter.unusedVariables false
set_option linter.unusedSimpArgs false
namespace Go.Proofs.Ytannkhelkpmcfaa.Vc

/-! ### A group that is not applied -/

theorem othLoop (N : Nat) (t g : List Ln) (ht : rf [] t = true) (hg : rf [] g = true) (hz : gt t [grp, zz] = none) (h40 : t.length ≤ 40) (g40 : g.length ≤ 40) (hN : 100000000 < N) :
    W8_10 N (t, g, othU1 t, g, (g.length : Int), 0) = some (.ret true) ∨
    ((∀ j, j < g.length → (pth g j).length ≤ 14) ∧ W8_10 N (t, g, othU1 t, g, (g.length : Int), 0) = some (.brk 0 (t, g, othN t g g.length, g, (g.length : Int), (g.length : Int)))) := by
  have hgr : rightS g = true := rightS_iff.2 ⟨by omega, hg⟩
  obtain ⟨o, ho, hp⟩ := runLoop_post (R := Bool) (step := fun x => L8_10 N x.1 x.2.1 x.2.2.1 x.2.2.2.1 x.2.2.2.2.1 x.2.2.2.2.2)
    (fun x => x.1 = t ∧ x.2.1 = g ∧ x.2.2.2.1 = g ∧ x.2.2.2.2.1 = (g.length : Int) ∧ 0 ≤ x.2.2.2.2.2 ∧ x.2.2.2.2.2 ≤ g.length ∧ x.2.2.1 = othN t g x.2.2.2.2.2.toNat ∧ ∀ j, j < x.2.2.2.2.2.toNat → (pth g j).length ≤ 14) (fun x => (g.length - x.2.2.2.2.2).toNat)
    (fun o => o = .ret true ∨ ((∀ j, j < g.length → (pth g j).length ≤ 14) ∧ o = .brk 0 (t, g, othN t g g.length, g, (g.length : Int), (g.length : Int))))
    (by
      rintro ⟨t', g', u, g3, n, i⟩ ⟨e1, e2, e3, e4, h0, hle, hu, hall⟩
      dsimp only at e1 e2 e3 e4 h0 hle hu hall ⊢
      subst e1; subst e3; subst e4; subst e2
      unfold L8_10 U8_10
      by_cases hi : i < (g'.length : Int)
      · have hil : i.toNat < g'.length := by omega
        have c1 : inR i g'.length := ⟨h0, hi⟩
        have e1 : (i + 1).toNat = i.toNat + 1 := by omega
        have hwi : IntKind.i64.wrap (i + 1) = i + 1 := wrapI (by omega) (by omega)
        have hpn := pth_ne_nil hil
        have hpl := pth_len hg hil
        have hb := snd_iff.1 (rf_at hg hil).1
        have hat : atI tLn g' i = g'.getD i.toNat (0, [], 0) := rfl
        have hgz : ([([103, 114, 111, 117, 112, 115] : Bs), [122, 122]] : List Bs) = [grp, zz] := rfl
        have hr1 : room (([grp, zz] : List Bs).length + (pth g' i.toNat).length) := by show _ ≤ _; simp; omega
        simp only [ev_br, ev_leaf, ev_c1, ev_c2, ev_c3, ev_c4, ev_cr, ev_cr2, ev_f0, ev_f1, ev_f2, obind_some, decide_eq_true_eq, Bool.not_eq_true', Bool.true_eq_false, Bool.false_eq_true, if_true, if_false, reduceCtorEq, hi, ev_ck c1, R_path N g' i hgr h0 hi (by omega), hgz, ev_ck hr1, E_awake N hN]
        by_cases h16 : (16 : Int) < (([grp, zz] ++ pth g' i.toNat).length : Int)
        · rw [if_pos h16]
          exact ⟨_, rfl, .inr ⟨by simp, .inl rfl⟩⟩
        · rw [if_neg h16]
          have h14 : (pth g' i.toNat).length ≤ 14 := by
            rw [List.length_append] at h16
            simp at h16; omega
          obtain ⟨s1, s2⟩ := oth_step ht hg hz hil hall
          obtain ⟨i1, i2, _, _, _⟩ := oth_inv ht hg hz i.toNat (by omega) hall
          have hwl : IntKind.i64.wrap ((([grp, zz] ++ pth g' i.toNat).length : Int) - 1) = (([grp, zz] ++ pth g' i.toNat).length : Int) - 1 := wrapI (by omega) (by omega)
          have ck1 : (0 : Int) ≤ 0 ∧ (0 : Int) ≤ (([grp, zz] ++ pth g' i.toNat).length : Int) - 1 ∧ (([grp, zz] ++ pth g' i.toNat).length : Int) - 1 ≤ (([grp, zz] ++ pth g' i.toNat).length : Int) := by
            rw [List.length_append]; simp; omega
          have e2 : ((([grp, zz] ++ pth g' i.toNat).length : Int) - 1).toNat = ([grp, zz] ++ pth g' i.toNat).length - 1 := by omega
          have hdl : ([grp, zz] ++ pth g' i.toNat).dropLast = [grp, zz] ++ (pth g' i.toNat).dropLast := List.dropLast_append_of_ne_nil hpn
          have hla : (pth g' i.toNat).getLast hpn = (g'.getD i.toNat (0, [], 0)).2.1 := by rw [← getLastD_ne hpn]; exact pth_last hg hil
          have hwhole : [grp, zz] ++ (pth g' i.toNat).dropLast ++ [(g'.getD i.toNat (0, [], 0)).2.1] = [grp, zz] ++ pth g' i.toNat := by
            rw [List.append_assoc, ← hla, List.dropLast_concat_getLast]
          have hP := R_put N (othN t' g' i.toNat) ([grp, zz] ++ (pth g' i.toNat).dropLast) (g'.getD i.toNat (0, [], 0)).2.1 (g'.getD i.toNat (0, [], 0)).2.2 i1 (by omega) (by rw [hwhole]; exact s1) (.inr s2) (by omega) (by simp; omega)
          rw [hwhole, ← othN_succ] at hP
          simp only [ev_br, ev_leaf, ev_c1, ev_c2, ev_c3, ev_c4, ev_cr, ev_cr2, ev_f0, ev_f1, ev_f2, obind_some, decide_eq_true_eq, Bool.not_eq_true', Bool.true_eq_false, Bool.false_eq_true, if_true, if_false, reduceCtorEq, hwl, ev_ck ck1, slc0, e2, ← List.dropLast_eq_take, hdl, hat, hu, hP, hwi]
          refine ⟨_, rfl, .inl ⟨_, rfl, ⟨rfl, rfl, rfl, rfl, by simp only; omega, by simp only; omega, ?_, fun j hj => ?_⟩, by simp only; omega⟩⟩
          · simp only
            rw [e1]
          · simp only at hj
            rcases Nat.lt_or_ge j i.toNat with h | h
            · exact hall j h
            · have : j = i.toNat := by omega
              rw [this]; exact h14
      · have hie : i = (g'.length : Int) := by omega
        subst hie
        rw [Int.toNat_natCast] at hu hall
        exact ⟨.brk 0 (t', g', u, g', (g'.length : Int), (g'.length : Int)), by simp, .inr ⟨by simp, .inr ⟨hall, by rw [hu]⟩⟩⟩) N (t, g, othU1 t, g, (g.length : Int), 0) ⟨rfl, rfl, rfl, rfl, by simp, by simp, rfl, fun j hj => by simp at hj⟩ (by simp only; omega)
  unfold W8_10
  rw [ho]
  rcases hp with rfl | ⟨h, rfl⟩
  · exact .inl rfl
  · exact .inr ⟨h, rfl⟩

theorem L_other (N : Nat) (t g : List Ln) (hN : 100000000 < N) : F8 N t g = some true := by
  unfold F8 V8
  simp only [ev_br, ev_leaf, ev_c1, ev_c2, ev_c3, ev_c4, ev_cr, ev_cr2, ev_f0, ev_f1, ev_f2, obind_some, decide_eq_true_eq, Bool.not_eq_true', Bool.true_eq_false, Bool.false_eq_true, if_true, if_false, reduceCtorEq, F_few N t (by omega), F_few N g (by omega), E_awake N hN]
  by_cases hf : fewS t = true
  · have hl := few_len hf
    by_cases hfg : fewS g = true
    · have hlg := few_len hfg
      simp only [ev_br, ev_leaf, ev_c1, ev_c2, ev_c3, ev_c4, ev_cr, ev_cr2, ev_f0, ev_f1, ev_f2, obind_some, decide_eq_true_eq, Bool.not_eq_true', Bool.true_eq_false, Bool.false_eq_true, if_true, if_false, reduceCtorEq, hf, hfg]
      by_cases h40 : (40 : Int) < (t.length : Int)
      · rw [if_pos h40]
      · rw [if_neg h40]
        by_cases g40 : (40 : Int) < (g.length : Int)
        · rw [if_pos g40]
        · rw [if_neg g40]
          simp only [ev_br, ev_leaf, ev_c1, ev_c2, ev_c3, ev_c4, ev_cr, ev_cr2, ev_f0, ev_f1, ev_f2, obind_some, decide_eq_true_eq, Bool.not_eq_true', Bool.true_eq_false, Bool.false_eq_true, if_true, if_false, reduceCtorEq, R_right N t (by omega), R_right N g (by omega)]
          by_cases hr : rightS t = true
          · by_cases hrg : rightS g = true
            · obtain ⟨b, hb⟩ := F_brief N t hr (by omega)
              have hrf := (rightS_iff.1 hr).2
              have hgf := (rightS_iff.1 hrg).2
              have hel := expand_len hr
              simp only [ev_br, ev_leaf, ev_c1, ev_c2, ev_c3, ev_c4, ev_cr, ev_cr2, ev_f0, ev_f1, ev_f2, obind_some, decide_eq_true_eq, Bool.not_eq_true', Bool.true_eq_false, Bool.false_eq_true, if_true, if_false, reduceCtorEq, hr, hrg, hb]
              cases b with
              | false => rfl
              | true =>
                have hgz : ([([103, 114, 111, 117, 112, 115] : Bs), [122, 122]] : List Bs) = [grp, zz] := rfl
                have haz : ([([97, 112, 112, 108, 121] : Bs), [122, 122]] : List Bs) = [apl, zz] := rfl
                have hg1 : ([([103, 114, 111, 117, 112, 115] : Bs)] : List Bs) = [grp] := rfl
                have f1 := R_finds N t [apl, zz] hrf (by omega) (by simp) (by omega)
                have f2 := R_finds N t [grp, zz] hrf (by omega) (by simp) (by omega)
                have f3 := R_finds N t [grp] hrf (by omega) (by simp) (by omega)
                simp only [ev_br, ev_leaf, ev_c1, ev_c2, ev_c3, ev_c4, ev_cr, ev_cr2, ev_f0, ev_f1, ev_f2, obind_some, decide_eq_true_eq, Bool.not_eq_true', Bool.true_eq_false, Bool.false_eq_true, if_true, if_false, reduceCtorEq, hgz, haz, hg1, f1, f2, f3]
                cases ha : fnd t [apl, zz] with
                | some i =>
                  have : (0 : Int) ≤ (i : Int) := by omega
                  simp only [this, if_true]
                | none =>
                  have hz0 : ¬ (0 : Int) ≤ -1 := by omega
                  simp only [hz0, if_false]
                  cases hz : fnd t [grp, zz] with
                  | some i =>
                    have : (0 : Int) ≤ (i : Int) := by omega
                    simp only [this, if_true]
                  | none =>
                    have hz' := fnd_none0.1 hz
                    have ha' := fnd_none0.1 ha
                    simp only [hz0, if_false]
                    have hg0 : ([103, 114, 111, 117, 112, 115] : Bs) = grp := rfl
                    have hzz0 : ([122, 122] : Bs) = zz := rfl
                    obtain ⟨k1, k2, k3, k4, k5⟩ := oth0 hrf
                    obtain ⟨m1, m2, m3, m4, m5⟩ := oth1 hrf hz'
                    have hput : F31o N (othU0 t) [grp] zz 0 = some (othU1 t) := R_put N (othU0 t) [grp] zz 0 k1 (by omega) m1 (.inr k4) (by omega) (by simp)
                    have fin : (∀ j, j < g.length → (pth g j).length ≤ 14) → E8 = E8 ∧ F18 N (othN t g g.length) = some (expandS t) := fun hall => by
                      obtain ⟨o1, o2⟩ := oth_same hr hgf hz' ha' hall (by omega)
                      have := (rightS_iff.1 o1).1
                      have h := E_expand N (othN t g g.length) hN (by omega)
                      rw [o1, if_pos rfl, o2] at h
                      exact ⟨rfl, h⟩
                    have hE := E_expand N t hN (by omega)
                    rw [hr, if_pos rfl] at hE
                    have hS := F_same N (expandS t).1 (expandS t).1 (by omega) (by unfold maxLen; omega)
                    cases hg : fnd t [grp] with
                    | none =>
                      have hg' := fnd_none0.1 hg
                      have hneg : (-1 : Int) < 0 := by omega
                      have hput0 : F31o N t [] grp 0 = some (othU0 t) := by
                        have := R_put N t [] grp 0 hrf (by omega) hg' (.inl rfl) (by omega) (by simp)
                        rw [this]
                        unfold othU0
                        rw [if_pos hg']; rfl
                      simp only [hneg, if_true, ev_br, ev_leaf, ev_c1, ev_c2, ev_c3, ev_c4, ev_cr, ev_cr2, ev_f0, ev_f1, ev_f2, obind_some, decide_eq_true_eq, Bool.not_eq_true', Bool.true_eq_false, Bool.false_eq_true, if_true, if_false, reduceCtorEq, hg0, hzz0, hput0, hput]
                      rcases othLoop N t g hrf hgf hz' (by omega) (by omega) hN with h | ⟨hall, h⟩
                      · rw [h]; rfl
                      · simp only [h, lp1_brk, hE, (fin hall).2, ev_br, ev_leaf, ev_c1, ev_c2, ev_c3, ev_c4, ev_cr, ev_cr2, ev_f0, ev_f1, ev_f2, obind_some, decide_eq_true_eq, Bool.not_eq_true', Bool.true_eq_false, Bool.false_eq_true, if_true, if_false, reduceCtorEq, beq_self_eq_true, hS, decide_true]
                    | some i =>
                      have hg' : gt t [grp] ≠ none := fun h => by rw [fnd_none0.2 h] at hg; cases hg
                      have hneg : ¬ (i : Int) < 0 := by omega
                      have hU : othU0 t = t := by unfold othU0; rw [if_neg hg']
                      rw [hU] at hput
                      simp only [hneg, if_false, ev_br, ev_leaf, ev_c1, ev_c2, ev_c3, ev_c4, ev_cr, ev_cr2, ev_f0, ev_f1, ev_f2, obind_some, decide_eq_true_eq, Bool.not_eq_true', Bool.true_eq_false, Bool.false_eq_true, if_true, if_false, reduceCtorEq, hg0, hzz0, hput]
                      rcases othLoop N t g hrf hgf hz' (by omega) (by omega) hN with h | ⟨hall, h⟩
                      · rw [h]; rfl
                      · simp only [h, lp1_brk, hE, (fin hall).2, ev_br, ev_leaf, ev_c1, ev_c2, ev_c3, ev_c4, ev_cr, ev_cr2, ev_f0, ev_f1, ev_f2, obind_some, decide_eq_true_eq, Bool.not_eq_true', Bool.true_eq_false, Bool.false_eq_true, if_true, if_false, reduceCtorEq, beq_self_eq_true, hS, decide_true]
            · have hrg' : rightS g = false := by simpa using hrg
              simp only [ev_br, ev_leaf, ev_c1, ev_c2, ev_c3, ev_c4, ev_cr, ev_cr2, ev_f0, ev_f1, ev_f2, obind_some, decide_eq_true_eq, Bool.not_eq_true', Bool.true_eq_false, Bool.false_eq_true, if_true, if_false, reduceCtorEq, hr, hrg']
          · have hr' : rightS t = false := by simpa using hr
            simp only [ev_br, ev_leaf, ev_c1, ev_c2, ev_c3, ev_c4, ev_cr, ev_cr2, ev_f0, ev_f1, ev_f2, obind_some, decide_eq_true_eq, Bool.not_eq_true', Bool.true_eq_false, Bool.false_eq_true, if_true, if_false, reduceCtorEq, hr']
    · have hfg' : fewS g = false := by simpa using hfg
      simp only [ev_br, ev_leaf, ev_c1, ev_c2, ev_c3, ev_c4, ev_cr, ev_cr2, ev_f0, ev_f1, ev_f2, obind_some, decide_eq_true_eq, Bool.not_eq_true', Bool.true_eq_false, Bool.false_eq_true, if_true, if_false, reduceCtorEq, hf, hfg']
  · have hf' : fewS t = false := by simpa using hf
    simp only [ev_br, ev_leaf, ev_c1, ev_c2, ev_c3, ev_c4, ev_cr, ev_cr2, ev_f0, ev_f1, ev_f2, obind_some, decide_eq_true_eq, Bool.not_eq_true', Bool.true_eq_false, Bool.false_eq_true, if_true, if_false, reduceCtorEq, hf']

/-! ### The paths of a group -/

theorem L_paths (N : Nat) (t : List Ln) (g : Bs) (hN : 100000000 < N) : F9 N t g = some true := by
  unfold F9 V9
  simp only [ev_br, ev_leaf, ev_c1, ev_c2, ev_c3, ev_c4, ev_cr, ev_cr2, ev_f0, ev_f1, ev_f2, obind_some, decide_eq_true_eq, Bool.not_eq_true', Bool.true_eq_false, Bool.false_eq_true, if_true, if_false, reduceCtorEq, F_few N t (by omega), E_awake N hN]
  by_cases hf : fewS t = true
  · have hl := few_len hf
    simp only [ev_br, ev_leaf, ev_c1, ev_c2, ev_c3, ev_c4, ev_cr, ev_cr2, ev_f0, ev_f1, ev_f2, obind_some, decide_eq_true_eq, Bool.not_eq_true', Bool.true_eq_false, Bool.false_eq_true, if_true, if_false, reduceCtorEq, hf, R_right N t (by omega)]
    by_cases hr : rightS t = true
    · obtain ⟨b, hb⟩ := F_brief N t hr (by omega)
      have hrf := (rightS_iff.1 hr).2
      have hel := expand_len hr
      have hra := act_right hr
      have hrx := exp_right hr
      simp only [ev_br, ev_leaf, ev_c1, ev_c2, ev_c3, ev_c4, ev_cr, ev_cr2, ev_f0, ev_f1, ev_f2, obind_some, decide_eq_true_eq, Bool.not_eq_true', Bool.true_eq_false, Bool.false_eq_true, if_true, if_false, reduceCtorEq, hr, hb]
      cases b with
      | false => rfl
      | true =>
        simp only [ev_br, ev_leaf, ev_c1, ev_c2, ev_c3, ev_c4, ev_cr, ev_cr2, ev_f0, ev_f1, ev_f2, obind_some, decide_eq_true_eq, Bool.not_eq_true', Bool.true_eq_false, Bool.false_eq_true, if_true, if_false, reduceCtorEq]
        by_cases hg : (100 : Int) < (g.length : Int)
        · rw [if_pos hg]
        · rw [if_neg hg]
          have hapl : ([([97, 112, 112, 108, 121] : Bs)] : List Bs) = [apl] := rfl
          simp only [ev_br, ev_leaf, ev_c1, ev_c2, ev_c3, ev_c4, ev_cr, ev_cr2, ev_f0, ev_f1, ev_f2, obind_some, decide_eq_true_eq, Bool.not_eq_true', Bool.true_eq_false, Bool.false_eq_true, if_true, if_false, reduceCtorEq, E_paths N t g (by omega) (by omega), hr, E_explicit N t (by omega), E_expand N t hN (by omega), R_active N t hr (by omega), hapl, R_words N (actL t) [apl] hra (by simp) (by omega)]
          by_cases he : (pathsS t g).2 = 0
          · have hne : ((pathsS t g).2 != 0) = false := by simpa using he
            simp only [hne, ev_br, ev_leaf, ev_c1, ev_c2, ev_c3, ev_c4, ev_cr, ev_cr2, ev_f0, ev_f1, ev_f2, obind_some, decide_eq_true_eq, Bool.not_eq_true', Bool.true_eq_false, Bool.false_eq_true, if_true, if_false, reduceCtorEq]
            have hpl := paths_len hr g
            obtain ⟨o, ho, hp⟩ := runLoop_post (R := Bool) (step := fun x => L9_10 N x.1 x.2.1 x.2.2.1 x.2.2.2.1 x.2.2.2.2.1 x.2.2.2.2.2.1 x.2.2.2.2.2.2.1 x.2.2.2.2.2.2.2)
              (fun x => x.1 = g ∧ x.2.1 = expL t ∧ x.2.2.1 = (expandS t).1 ∧ x.2.2.2.1 = (expandS t).2 ∧ x.2.2.2.2.1 = wordsS (actL t) [apl] ∧ x.2.2.2.2.2.1 = (pathsS t g).1 ∧ x.2.2.2.2.2.2.1 = ((pathsS t g).1.length : Int) ∧ 0 ≤ x.2.2.2.2.2.2.2 ∧ x.2.2.2.2.2.2.2 ≤ (pathsS t g).1.length) (fun x => ((pathsS t g).1.length - x.2.2.2.2.2.2.2).toNat)
              (fun o => ∃ x, o = .brk 0 x)
              (by
                rintro ⟨g', x, u, h, ws, ps, n, i⟩ ⟨e1, e2, e3, e4, e5, e6, e7, h0, hle⟩
                dsimp only at e1 e2 e3 e4 e5 e6 e7 h0 hle ⊢
                subst e1; subst e7
                by_cases hi : i < ((pathsS t g').1.length : Int)
                · have hil : i.toNat < ps.length := by rw [e6]; omega
                  have c1 : inR i ps.length := ⟨h0, by rw [e6]; exact hi⟩
                  have hat : atI (.list tS) ps i = ps[i.toNat] := by show ps.getD _ _ = _; simp [hil]
                  have hmem := List.getElem_mem hil
                  obtain ⟨p, hpd⟩ : ∃ p, ps[i.toNat] = p := ⟨_, rfl⟩
                  rw [hpd] at hat hmem
                  rw [e6] at hmem
                  obtain ⟨k1, k2⟩ := paths_ne hrf hmem
                  have hpos := List.length_pos_iff.2 k1
                  have c0 : inR 0 p.length := ⟨by omega, by omega⟩
                  have hat0 : atI tS p 0 = p.headD [] := by
                    cases p with
                    | nil => exact absurd rfl k1
                    | cons a r => rfl
                  obtain ⟨w, hw⟩ : ∃ w, p.headD [] = w := ⟨_, rfl⟩
                  rw [hw] at hat0
                  have hwi : IntKind.i64.wrap (i + 1) = i + 1 := wrapI (by omega) (by omega)
                  have hp0 : ((p.length : Int) == 0) = false := by rw [beq_eq_false_iff_ne]; omega
                  have hstep : L9_10 N g' x u h ws ps ((pathsS t g').1.length : Int) i = some (.next (g', x, u, h, ws, ps, ((pathsS t g').1.length : Int), i + 1)) := by
                    unfold L9_10 U9_10
                    simp only [ev_br, ev_leaf, ev_c1, ev_c2, ev_c3, ev_c4, ev_cr, ev_cr2, ev_f0, ev_f1, ev_f2, obind_some, decide_eq_true_eq, Bool.not_eq_true', Bool.true_eq_false, Bool.false_eq_true, if_true, if_false, reduceCtorEq, hi, ev_ck c1, hat, hp0, ev_ck c0, hat0, hwi, beq_iff_eq]
                    by_cases hh : h = 0
                    · have hne2 : (h != 0) = false := by simpa using hh
                      by_cases hws : ws.length = 1
                      · have hws1 : ((ws.length : Int) != 1) = false := by rw [hws]; rfl
                        have cw : inR 0 ws.length := ⟨by omega, by omega⟩
                        by_cases h1 : w = [103, 114, 111, 117, 112, 115]
                        · simp only [if_pos h1, hne2, hws1, ev_br, ev_leaf, ev_c1, ev_c2, ev_c3, ev_c4, ev_cr, ev_cr2, ev_f0, ev_f1, ev_f2, obind_some, decide_eq_true_eq, Bool.not_eq_true', Bool.true_eq_false, Bool.false_eq_true, if_true, if_false, reduceCtorEq, ev_ck cw]
                          split <;> rfl
                        · simp only [if_neg h1, hne2, hws1, ev_br, ev_leaf, ev_c1, ev_c2, ev_c3, ev_c4, ev_cr, ev_cr2, ev_f0, ev_f1, ev_f2, obind_some, decide_eq_true_eq, Bool.not_eq_true', Bool.true_eq_false, Bool.false_eq_true, if_true, if_false, reduceCtorEq, ev_ck cw]
                          by_cases hg1 : atI tS ws 0 = g'
                          · have hg2 : ¬ (atI tS ws 0 == g') = false := by simpa using hg1
                            rw [if_neg hg2]
                            simp only [beq_iff_eq]
                            by_cases h2 : w = [97, 112, 112, 108, 121]
                            · simp only [if_pos h2]
                            · simp only [if_neg h2]
                              -- inherited: there
                              have hinh : ∀ (hx : p.length = 1 ∨ wordsS x p.dropLast = []), ∃ k, fndS u p = some k := fun hx => by
                                have hib : inhB (expL t) p = true := by
                                  unfold inhB ownW grp apl
                                  rw [hw]
                                  rw [e2] at hx
                                  simp [h1, h2, hx]
                                have hwsg : wordsS (actL t) [apl] = [g'] := by
                                  rw [← e5, ← hg1]
                                  match ws, hws with
                                  | [y], _ => rfl
                                have hall : p ∈ allS t := by
                                  unfold allS
                                  rw [hwsg]
                                  simpa using hmem
                                have hgt := (expand_map hr (by rw [← e4]; exact hh)).2.2.2.2 p hall hib
                                rw [← e3] at hgt
                                rw [fndS_eq, show rightS u = true by rw [e3]; exact rightS_iff.2 ⟨hel, (expand_map hr (by rw [← e4]; exact hh)).1 |> rightS_iff.1 |>.2⟩, if_pos rfl]
                                cases hf : fnd u p with
                                | none => exact absurd (fnd_none0.1 hf) hgt
                                | some k => exact ⟨k, rfl⟩
                              have hF := F_find N u p (by rw [e3]; omega)
                              by_cases h3 : (1 : Int) < (p.length : Int)
                              · have hw1 : IntKind.i64.wrap ((p.length : Int) - 1) = (p.length : Int) - 1 := wrapI (by omega) (by omega)
                                have ck1 : (0 : Int) ≤ 0 ∧ (0 : Int) ≤ (p.length : Int) - 1 ∧ (p.length : Int) - 1 ≤ (p.length : Int) := by omega
                                have e2' : ((p.length : Int) - 1).toNat = p.length - 1 := by omega
                                have hR := R_words N x p.dropLast (by rw [e2]; exact hrx) (by simp; omega) (by omega)
                                simp only [if_pos h3, ev_br, ev_leaf, ev_c1, ev_c2, ev_c3, ev_c4, ev_cr, ev_cr2, ev_f0, ev_f1, ev_f2, obind_some, decide_eq_true_eq, Bool.not_eq_true', Bool.true_eq_false, Bool.false_eq_true, if_true, if_false, reduceCtorEq, hw1, ev_ck ck1, slc0, e2', ← List.dropLast_eq_take, hR]
                                by_cases h4 : wordsS x p.dropLast = []
                                · have h5 : ¬ (0 : Int) < ((wordsS x p.dropLast).length : Int) := by rw [h4]; simp
                                  obtain ⟨k, hk⟩ := hinh (.inr h4)
                                  simp only [if_neg h5, hF, ev_br, ev_leaf, ev_c1, ev_c2, ev_c3, ev_c4, ev_cr, ev_cr2, ev_f0, ev_f1, ev_f2, obind_some, decide_eq_true_eq, Bool.not_eq_true', Bool.true_eq_false, Bool.false_eq_true, if_true, if_false, reduceCtorEq, hk]
                                · have h5 : (0 : Int) < ((wordsS x p.dropLast).length : Int) := by have := List.length_pos_iff.2 h4; omega
                                  simp only [if_pos h5]
                              · obtain ⟨k, hk⟩ := hinh (.inl (by omega))
                                simp only [if_neg h3, hF, ev_br, ev_leaf, ev_c1, ev_c2, ev_c3, ev_c4, ev_cr, ev_cr2, ev_f0, ev_f1, ev_f2, obind_some, decide_eq_true_eq, Bool.not_eq_true', Bool.true_eq_false, Bool.false_eq_true, if_true, if_false, reduceCtorEq, hk]
                          · have hg2 : (atI tS ws 0 == g') = false := by simpa using hg1
                            rw [if_pos hg2]
                      · have hws1 : ((ws.length : Int) != 1) = true := by rw [bne_iff_ne]; omega
                        simp only [hne2, hws1, ev_br, ev_leaf, ev_c1, ev_c2, ev_c3, ev_c4, ev_cr, ev_cr2, ev_f0, ev_f1, ev_f2, obind_some, decide_eq_true_eq, Bool.not_eq_true', Bool.true_eq_false, Bool.false_eq_true, if_true, if_false, reduceCtorEq]
                        split <;> rfl
                    · have hne2 : (h != 0) = true := by simpa using hh
                      simp only [hne2, ev_br, ev_leaf, ev_c1, ev_c2, ev_c3, ev_c4, ev_cr, ev_cr2, ev_f0, ev_f1, ev_f2, obind_some, decide_eq_true_eq, Bool.not_eq_true', Bool.true_eq_false, Bool.false_eq_true, if_true, if_false, reduceCtorEq]
                      split <;> rfl
                  exact ⟨_, hstep, .inl ⟨_, rfl, ⟨rfl, e2, e3, e4, e5, e6, rfl, by simp only; omega, by simp only; omega⟩, by simp only; omega⟩⟩
                · exact ⟨.brk 0 (g', x, u, h, ws, ps, ((pathsS t g').1.length : Int), i), by unfold L9_10 U9_10; simp [hi], .inr ⟨by simp, _, rfl⟩⟩) N (g, expL t, (expandS t).1, (expandS t).2, wordsS (actL t) [apl], (pathsS t g).1, ((pathsS t g).1.length : Int), 0) ⟨rfl, rfl, rfl, rfl, rfl, rfl, rfl, by simp, by simp⟩ (by simp only; omega)
            unfold W9_10
            rw [ho]
            obtain ⟨x, rfl⟩ := hp
            rw [lp1_brk]
          · have hne : ((pathsS t g).2 != 0) = true := by simpa using he
            have hpe : (pathsS t g).1 = [] := by
              unfold pathsS at he ⊢
              split at he
              · rename_i hc; rw [if_pos hc]
              · exact absurd rfl he
            simp (config := { decide := true }) only [ev_br, ev_leaf, ev_c1, ev_c2, ev_c3, ev_c4, ev_cr, ev_cr2, ev_f0, ev_f1, ev_f2, obind_some, decide_eq_true_eq, Bool.not_eq_true', Bool.true_eq_false, Bool.false_eq_true, if_true, if_false, reduceCtorEq, hne, hpe, List.length_nil]
    · have hr' : rightS t = false := by simpa using hr
      simp only [ev_br, ev_leaf, ev_c1, ev_c2, ev_c3, ev_c4, ev_cr, ev_cr2, ev_f0, ev_f1, ev_f2, obind_some, decide_eq_true_eq, Bool.not_eq_true', Bool.true_eq_false, Bool.false_eq_true, if_true, if_false, reduceCtorEq, hr']
  · have hf' : fewS t = false := by simpa using hf
    simp only [ev_br, ev_leaf, ev_c1, ev_c2, ev_c3, ev_c4, ev_cr, ev_cr2, ev_f0, ev_f1, ev_f2, obind_some, decide_eq_true_eq, Bool.not_eq_true', Bool.true_eq_false, Bool.false_eq_true, if_true, if_false, reduceCtorEq, hf']

end Go.Proofs.Ytannkhelkpmcfaa.Vc
