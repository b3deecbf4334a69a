/-
  WHAT THE DOCUMENT EXPANDS; THE LAWS' OWN HELPERS. No condition.
-/
import Derived.Test.YtannkhelkpmcfaaUr
import Derived.Test.YtannkhelkpmcfaaUw
set_option linter.unusedVariables false
set_option linter.unusedSimpArgs false
namespace Go.Proofs.Ytannkhelkpmcfaa.Vc

theorem addAll_append (x : List Ln) : ∀ (ps qs : List (List Bs)) (out : List Ln), addAll x out (ps ++ qs) = if (addAll x out ps).2 = 0 then addAll x (addAll x out ps).1 qs else addAll x out ps
  | [], qs, out => by simp [addAll]
  | p :: ps, qs, out => by
    rw [List.cons_append, addAll, addAll]
    split
    · split
      · exact addAll_append x ps qs _
      · rfl
    · exact addAll_append x ps qs _

theorem R_inner (N : Nat) (t x : List Ln) (gs : List Bs) (out : List Ln) (i0 : Int) (hr : rightS x = true) (hN : 100000000 < N) (ps : List (List Bs)) (hps : ∀ p ∈ ps, p ≠ [] ∧ p.length ≤ 1000) (hl : ps.length ≤ 50000000) (hol : out.length ≤ 200) :
    ((addAll x out ps).2 = 0 ∧ (addAll x out ps).1.length ≤ 200 ∧ W21_15 N (t, x, gs, out, i0, ps, 0) = some (.brk 0 (t, x, gs, (addAll x out ps).1, i0, ps, (ps.length : Int)))) ∨
    ((addAll x out ps).2 ≠ 0 ∧ W21_15 N (t, x, gs, out, i0, ps, 0) = some (.ret (addAll x out ps))) := by
  obtain ⟨o, ho, hp⟩ := runLoop_post (R := List Ln × Int) (step := fun y => L21_15 N y.1 y.2.1 y.2.2.1 y.2.2.2.1 y.2.2.2.2.1 y.2.2.2.2.2.1 y.2.2.2.2.2.2)
    (fun y => y.1 = t ∧ y.2.1 = x ∧ y.2.2.1 = gs ∧ y.2.2.2.2.1 = i0 ∧ y.2.2.2.2.2.1 = ps ∧ 0 ≤ y.2.2.2.2.2.2 ∧ y.2.2.2.2.2.2 ≤ ps.length ∧ y.2.2.2.1.length ≤ 200 ∧ addAll x y.2.2.2.1 (ps.drop y.2.2.2.2.2.2.toNat) = addAll x out ps) (fun y => (ps.length - y.2.2.2.2.2.2).toNat)
    (fun o => ((addAll x out ps).2 = 0 ∧ (addAll x out ps).1.length ≤ 200 ∧ o = .brk 0 (t, x, gs, (addAll x out ps).1, i0, ps, (ps.length : Int))) ∨ ((addAll x out ps).2 ≠ 0 ∧ o = .ret (addAll x out ps)))
    (by
      rintro ⟨t', x', gs', out', i0', ps', i⟩ ⟨e1, e2, e3, e4, e5, h0, hle, hol', hadd⟩
      dsimp only at e1 e2 e3 e4 e5 h0 hle hol' hadd ⊢
      subst e1; subst e2; subst e3; subst e4; subst e5
      by_cases hi : i < ps'.length
      · have hil : i.toNat < ps'.length := by omega
        have c1 : inR i ps'.length := ⟨h0, hi⟩
        have hat : atI (.list tS) ps' i = ps'[i.toNat] := by show ps'.getD _ _ = _; simp [hil]
        obtain ⟨k1, k2⟩ := hps _ (List.getElem_mem hil)
        rw [List.drop_eq_getElem_cons hil, addAll] at hadd
        obtain ⟨p, hpd⟩ : ∃ p, ps'[i.toNat] = p := ⟨_, rfl⟩
        rw [hpd] at hat k1 k2 hadd
        have hpos := List.length_pos_iff.2 k1
        have c0 : inR 0 p.length := ⟨by omega, by omega⟩
        have hat0 : atI tS p 0 = p.headD [] := by
          cases p with
          | nil => exact absurd rfl k1
          | cons a r => rfl
        have e1 : (i + 1).toNat = i.toNat + 1 := by omega
        obtain ⟨w, hw⟩ : ∃ w, p.headD [] = w := ⟨_, rfl⟩
        rw [hw] at hat0
        have hwi : IntKind.i64.wrap (i + 1) = i + 1 := wrapI (by omega) (by omega)
        have hRa := R_add N out' p (by omega) (by omega) (by omega) (by omega)
        have hstep : L21_15 N t' x' gs' out' i0' ps' i = some (if inhB x' p = true then (if addE out' p = 0 then .next (t', x', gs', addL out' p, i0', ps', i + 1) else .ret ([], addE out' p)) else .next (t', x', gs', out', i0', ps', i + 1)) := by
          unfold L21_15 U21_15
          have add : inhB x' p = true → (if (addS out' p).2 = 0 then some (Lp.next (t', x', gs', (addS out' p).1, i0', ps', i + 1)) else some (Lp.ret (([] : List Ln), (addS out' p).2)) : Option (Lp (List Ln × List Ln × List Bs × List Ln × Int × List (List Bs) × Int) (List Ln × Int))) = some (if inhB x' p = true then (if addE out' p = 0 then .next (t', x', gs', addL out' p, i0', ps', i + 1) else .ret ([], addE out' p)) else .next (t', x', gs', out', i0', ps', i + 1)) := fun hb => by
            rw [if_pos hb]
            unfold addS
            by_cases he : addE out' p = 0
            · simp [he]
            · simp [he]
          by_cases h1 : w = [103, 114, 111, 117, 112, 115]
          · have hb : inhB x' p = false := by unfold inhB ownW grp; rw [hw, h1]; simp
            simp only [ev_br, ev_leaf, ev_c1, ev_c2, ev_c3, ev_c4, ev_cr, ev_cr2, ev_f0, ev_f1, ev_f2, obind_some, decide_eq_true_eq, Bool.not_eq_true', Bool.true_eq_false, Bool.false_eq_true, if_true, if_false, reduceCtorEq, hi, ev_ck c1, hat, ev_ck c0, hat0, beq_iff_eq, h1, if_true, hwi]
            rw [if_neg (by rw [hb]; simp)]
          · by_cases h2 : w = [97, 112, 112, 108, 121]
            · have hb : inhB x' p = false := by unfold inhB ownW apl; rw [hw, h2]; simp
              simp only [ev_br, ev_leaf, ev_c1, ev_c2, ev_c3, ev_c4, ev_cr, ev_cr2, ev_f0, ev_f1, ev_f2, obind_some, decide_eq_true_eq, Bool.not_eq_true', Bool.true_eq_false, Bool.false_eq_true, if_true, if_false, reduceCtorEq, hi, ev_ck c1, hat, ev_ck c0, hat0, beq_iff_eq, if_neg h1, if_pos h2, hwi]
              rw [if_neg (by rw [hb]; simp)]
            · have how : ownW w = false := by unfold ownW grp apl; simp [h1, h2]
              by_cases h3 : 1 < p.length
              · have h3' : (1 : Int) < (p.length : Int) := by omega
                have hw1 : IntKind.i64.wrap ((p.length : Int) - 1) = (p.length : Int) - 1 := wrapI (by omega) (by omega)
                have ck1 : (0 : Int) ≤ 0 ∧ (0 : Int) ≤ (p.length : Int) - 1 ∧ (p.length : Int) - 1 ≤ (p.length : Int) := by omega
                have e2 : ((p.length : Int) - 1).toNat = p.length - 1 := by omega
                have hR := R_words N x' p.dropLast hr (by simp; omega) (by omega)
                simp only [ev_br, ev_leaf, ev_c1, ev_c2, ev_c3, ev_c4, ev_cr, ev_cr2, ev_f0, ev_f1, ev_f2, obind_some, decide_eq_true_eq, Bool.not_eq_true', Bool.true_eq_false, Bool.false_eq_true, if_true, if_false, reduceCtorEq, hi, ev_ck c1, hat, ev_ck c0, hat0, beq_iff_eq, h1, h2, if_false, hwi, h3', if_true, hw1, ev_ck ck1, slc0, e2, ← List.dropLast_eq_take, hR]
                by_cases h4 : wordsS x' p.dropLast = []
                · have hb : inhB x' p = true := by unfold inhB; rw [hw, how, h4]; simp
                  have h5 : ¬ (0 : Int) < ((wordsS x' p.dropLast).length : Int) := by rw [h4]; simp
                  simp only [h5, if_false, hRa, ev_br, ev_leaf, ev_c1, ev_c2, ev_c3, ev_c4, ev_cr, ev_cr2, ev_f0, ev_f1, ev_f2, obind_some, decide_eq_true_eq, Bool.not_eq_true', Bool.true_eq_false, Bool.false_eq_true, if_true, if_false, reduceCtorEq, bne_iff_ne, ne_eq, ite_not]
                  exact add hb
                · have hb : inhB x' p = false := by unfold inhB; rw [hw, how]; simp [h4]; omega
                  have h5 : (0 : Int) < ((wordsS x' p.dropLast).length : Int) := by have := List.length_pos_iff.2 h4; omega
                  simp only [h5, if_true]
                  rw [if_neg (by rw [hb]; simp)]
              · have h3' : ¬ (1 : Int) < (p.length : Int) := by omega
                have hb : inhB x' p = true := by
                  unfold inhB; rw [hw, how]
                  have : p.length = 1 := by omega
                  simp [this]
                simp only [ev_br, ev_leaf, ev_c1, ev_c2, ev_c3, ev_c4, ev_cr, ev_cr2, ev_f0, ev_f1, ev_f2, obind_some, decide_eq_true_eq, Bool.not_eq_true', Bool.true_eq_false, Bool.false_eq_true, if_true, if_false, reduceCtorEq, hi, ev_ck c1, hat, ev_ck c0, hat0, beq_iff_eq, h1, h2, if_false, hwi, h3', hRa, bne_iff_ne, ne_eq, ite_not]
                exact add hb
        rw [hstep]
        refine ⟨_, rfl, ?_⟩
        by_cases hb : inhB x' p = true
        · rw [if_pos hb] at hadd
          by_cases he : addE out' p = 0
          · rw [if_pos he] at hadd
            have hl2 := (addE_ok he).2.2.2.2
            rw [if_pos hb, if_pos he]
            exact .inl ⟨_, rfl, ⟨rfl, rfl, rfl, rfl, rfl, by simp only; omega, by simp only; omega, hl2, by simp only; rw [e1]; exact hadd⟩, by simp only; omega⟩
          · rw [if_neg he] at hadd
            rw [if_pos hb, if_neg he]
            refine .inr ⟨by simp, .inr ⟨?_, by rw [← hadd]⟩⟩
            rw [← hadd]; exact he
        · rw [if_neg hb] at hadd
          rw [if_neg hb]
          exact .inl ⟨_, rfl, ⟨rfl, rfl, rfl, rfl, rfl, by simp only; omega, by simp only; omega, hol', by simp only; rw [e1]; exact hadd⟩, by simp only; omega⟩
      · rw [List.drop_of_length_le (by omega)] at hadd
        have hie : i = (ps'.length : Int) := by omega
        subst hie
        refine ⟨.brk 0 (t', x', gs', out', i0', ps', (ps'.length : Int)), by unfold L21_15 U21_15; simp, .inr ⟨by simp, .inl ?_⟩⟩
        rw [← hadd]
        exact ⟨rfl, hol', rfl⟩) N (t, x, gs, out, i0, ps, 0) ⟨rfl, rfl, rfl, rfl, rfl, by simp, by simp, hol, by simp⟩ (by simp only; omega)
  unfold W21_15
  rw [ho]
  rcases hp with ⟨h1, h2, rfl⟩ | ⟨h1, rfl⟩
  · exact .inl ⟨h1, h2, rfl⟩
  · exact .inr ⟨h1, rfl⟩

theorem R_errs (N : Nat) (t x : List Ln) (gs : List Bs) (hr : rightS t = true) (hN : 100000000 < N) (hl : gs.length ≤ 200) :
    (gs.all (fun g => decide (gt (actL t) [grp, g] ≠ none)) = true ∧ W21_4 N (t, x, gs, 0) = some (.brk 0 (t, x, gs, (gs.length : Int)))) ∨
    (gs.all (fun g => decide (gt (actL t) [grp, g] ≠ none)) = false ∧ W21_4 N (t, x, gs, 0) = some (.ret ([], 3))) := by
  obtain ⟨o, ho, hp⟩ := runLoop_post (R := List Ln × Int) (step := fun y => L21_4 N y.1 y.2.1 y.2.2.1 y.2.2.2)
    (fun y => y.1 = t ∧ y.2.1 = x ∧ y.2.2.1 = gs ∧ 0 ≤ y.2.2.2 ∧ y.2.2.2 ≤ gs.length ∧ (gs.take y.2.2.2.toNat).all (fun g => decide (gt (actL t) [grp, g] ≠ none)) = true) (fun y => (gs.length - y.2.2.2).toNat)
    (fun o => (gs.all (fun g => decide (gt (actL t) [grp, g] ≠ none)) = true ∧ o = .brk 0 (t, x, gs, (gs.length : Int))) ∨ (gs.all (fun g => decide (gt (actL t) [grp, g] ≠ none)) = false ∧ o = .ret ([], 3)))
    (by
      rintro ⟨t', x', gs', i⟩ ⟨e1, e2, e3, h0, hle, hall⟩
      dsimp only at e1 e2 e3 h0 hle hall ⊢
      subst e1; subst e2; subst e3
      unfold L21_4 U21_4
      by_cases hi : i < gs'.length
      · have hil : i.toNat < gs'.length := by omega
        have c1 : inR i gs'.length := ⟨h0, hi⟩
        have hat : atI tS gs' i = gs'[i.toNat] := by show gs'.getD _ _ = _; simp [hil]
        have e1 : (i + 1).toNat = i.toNat + 1 := by omega
        have hR := R_paths N t' gs'[i.toNat] hr (by omega)
        simp (disch := first | assumption | omega) only [ev_br, ev_leaf, ev_c1, ev_c2, ev_c3, ev_c4, ev_cr, ev_cr2, ev_f0, ev_f1, ev_f2, obind_some, decide_eq_true_eq, Bool.not_eq_true', Bool.true_eq_false, Bool.false_eq_true, if_true, if_false, reduceCtorEq, hi, ev_ck c1, wrapI, hat, hR]
        by_cases hg : gt (actL t') [grp, gs'[i.toNat]] = none
        · have hpe : pathsS t' gs'[i.toNat] = ([], 3) := by unfold pathsS; rw [if_pos hg]
          rw [hpe]
          refine ⟨.ret ([], 3), by simp, .inr ⟨by simp, .inr ⟨?_, rfl⟩⟩⟩
          rw [List.all_eq_false]
          exact ⟨_, List.getElem_mem hil, by simp [hg]⟩
        · have hpe : (pathsS t' gs'[i.toNat]).2 = 0 := by unfold pathsS; rw [if_neg hg]
          simp only [hpe, bne_self_eq_false, Bool.false_eq_true, if_false]
          refine ⟨_, rfl, .inl ⟨_, rfl, ⟨rfl, rfl, rfl, by simp only; omega, by simp only; omega, ?_⟩, by simp only; omega⟩⟩
          simp only
          rw [e1, List.take_succ_eq_append_getElem hil, List.all_append, hall]
          simp [hg]
      · have hie : i = (gs'.length : Int) := by omega
        subst hie
        rw [Int.toNat_natCast, List.take_length] at hall
        exact ⟨.brk 0 (t', x', gs', (gs'.length : Int)), by simp, .inr ⟨by simp, .inl ⟨hall, rfl⟩⟩⟩) N (t, x, gs, 0) ⟨rfl, rfl, rfl, by simp, by simp, by simp⟩ (by simp only; omega)
  unfold W21_4
  rw [ho]
  rcases hp with ⟨h, rfl⟩ | ⟨h, rfl⟩
  · exact .inl ⟨h, rfl⟩
  · exact .inr ⟨h, rfl⟩

theorem R_outer (N : Nat) (t x : List Ln) (gs : List Bs) (hr : rightS t = true) (hx : rightS x = true) (hN : 100000000 < N) (hl : gs.length ≤ 200) :
    lp1 (W21_11 N (t, x, gs, x, 0)) id (fun y => some (y.2.2.2.1, (0 : Int))) = some (addAll x x (gs.flatMap fun g => (pathsS t g).1)) := by
  have hrf := (rightS_iff.1 hr).2
  obtain ⟨o, ho, hp⟩ := runLoop_post (R := List Ln × Int) (step := fun y => L21_11 N y.1 y.2.1 y.2.2.1 y.2.2.2.1 y.2.2.2.2)
    (fun y => y.1 = t ∧ y.2.1 = x ∧ y.2.2.1 = gs ∧ 0 ≤ y.2.2.2.2 ∧ y.2.2.2.2 ≤ gs.length ∧ y.2.2.2.1.length ≤ 200 ∧ addAll x y.2.2.2.1 ((gs.drop y.2.2.2.2.toNat).flatMap fun g => (pathsS t g).1) = addAll x x (gs.flatMap fun g => (pathsS t g).1)) (fun y => (gs.length - y.2.2.2.2).toNat)
    (fun o => o = .ret (addAll x x (gs.flatMap fun g => (pathsS t g).1)) ∨ ∃ y, o = .brk 0 y ∧ (y.2.2.2.1, (0 : Int)) = addAll x x (gs.flatMap fun g => (pathsS t g).1))
    (by
      rintro ⟨t', x', gs', out, i⟩ ⟨e1, e2, e3, h0, hle, hol, hadd⟩
      dsimp only at e1 e2 e3 h0 hle hol hadd ⊢
      subst e1; subst e2; subst e3
      unfold L21_11 U21_11
      by_cases hi : i < gs'.length
      · have hil : i.toNat < gs'.length := by omega
        have c1 : inR i gs'.length := ⟨h0, hi⟩
        have hat : atI tS gs' i = gs'[i.toNat] := by show gs'.getD _ _ = _; simp [hil]
        have e1 : (i + 1).toNat = i.toNat + 1 := by omega
        have hR := R_paths N t' gs'[i.toNat] hr (by omega)
        have hpl := paths_len hr gs'[i.toNat]
        rw [List.drop_eq_getElem_cons hil, List.flatMap_cons, addAll_append] at hadd
        simp only [ev_br, ev_leaf, ev_c1, ev_c2, ev_c3, ev_c4, ev_cr, ev_cr2, ev_f0, ev_f1, ev_f2, obind_some, decide_eq_true_eq, Bool.not_eq_true', Bool.true_eq_false, Bool.false_eq_true, if_true, if_false, reduceCtorEq, hi, ev_ck c1, hat, hR, Vt.g1, ev_loop1]
        rcases R_inner N t' x' gs' out i hx hN (pathsS t' gs'[i.toNat]).1 (fun p hp => by
          have := paths_ne hrf hp
          exact ⟨this.1, by omega⟩) (by omega) hol with ⟨h1, h2, h3⟩ | ⟨h1, h3⟩
        · rw [if_pos h1] at hadd
          rw [h3, lp1_brk]
          simp (disch := omega) only [ev_br, ev_leaf, ev_c1, ev_c2, ev_c3, ev_c4, ev_cr, ev_cr2, ev_f0, ev_f1, ev_f2, obind_some, decide_eq_true_eq, Bool.not_eq_true', Bool.true_eq_false, Bool.false_eq_true, if_true, if_false, reduceCtorEq, wrapI]
          refine ⟨_, rfl, .inl ⟨_, rfl, ⟨rfl, rfl, rfl, by simp only; omega, by simp only; omega, h2, ?_⟩, by simp only; omega⟩⟩
          simp only
          rw [e1]; exact hadd
        · rw [if_neg h1] at hadd
          rw [h3, hadd]
          exact ⟨_, rfl, .inr ⟨by simp, .inl rfl⟩⟩
      · rw [List.drop_of_length_le (by omega)] at hadd
        exact ⟨.brk 0 (t', x', gs', out, i), by simp [hi], .inr ⟨by simp, .inr ⟨_, rfl, hadd⟩⟩⟩) N (t, x, gs, x, 0) ⟨rfl, rfl, rfl, by simp, by simp, (rightS_iff.1 hx).1, by simp⟩ (by simp only; omega)
  unfold W21_11
  rw [ho]
  rcases hp with rfl | ⟨y, rfl, h⟩
  · rfl
  · rw [lp1_brk, h]

theorem R_expand (N : Nat) (t : List Ln) (hr : rightS t = true) (hN : 100000000 < N) : F21 N t = some (expandS t) := by
  obtain ⟨h200, hrf⟩ := rightS_iff.1 hr
  have hra := act_right hr
  have hrx := exp_right hr
  have hal := act_len t
  have hwl := words_len (actL t) [apl]
  have hapl : ([([97, 112, 112, 108, 121] : Bs)] : List Bs) = [apl] := rfl
  unfold F21 V21
  simp only [ev_br, ev_leaf, ev_c1, ev_c2, ev_c3, ev_c4, ev_cr, ev_cr2, ev_f0, ev_f1, ev_f2, obind_some, decide_eq_true_eq, Bool.not_eq_true', Bool.true_eq_false, Bool.false_eq_true, if_true, if_false, reduceCtorEq, R_explicit N t hr (by omega), R_active N t hr (by omega), hapl, R_words N (actL t) [apl] hra (by simp) (by omega)]
  unfold expandS
  rcases R_errs N t (expL t) (wordsS (actL t) [apl]) hr hN (by omega) with ⟨h1, h2⟩ | ⟨h1, h2⟩
  · rw [h2, h1, if_pos rfl, lp1_brk]
    exact R_outer N t (expL t) (wordsS (actL t) [apl]) hr hrx hN (by omega)
  · rw [h2, h1]; rfl

/-! ### Helpers -/

def fewS (t : List Ln) : Bool := smallS t && decide (t.length ≤ 60)
theorem F_few (N : Nat) (t : List Ln) (hN : 220 < N) : F10 N t = some (fewS t) := by
  unfold F10 V10 fewS
  simp only [ev_br, ev_leaf, ev_c1, ev_c2, ev_c3, ev_c4, ev_cr, ev_cr2, ev_f0, ev_f1, ev_f2, obind_some, decide_eq_true_eq, Bool.not_eq_true', Bool.true_eq_false, Bool.false_eq_true, if_true, if_false, reduceCtorEq, F_small N t hN]
  cases smallS t with
  | false => rfl
  | true =>
    have : decide ((t.length : Int) ≤ 60) = decide (t.length ≤ 60) := by
      rw [Bool.eq_iff_iff, decide_eq_true_iff, decide_eq_true_iff]; omega
    simp [this]
theorem few_len {t : List Ln} (h : fewS t = true) : t.length ≤ 60 := by
  unfold fewS at h
  simp only [Bool.and_eq_true, decide_eq_true_eq] at h
  exact h.2

theorem F_same2 (N : Nat) (a b : List (List Bs)) (hN : a.length < N) (hm : a.length ≤ 1000000000) (hl : ∀ p ∈ a, p.length < N ∧ p.length ≤ 1000) : F23 N a b = some (decide (a = b)) := by
  unfold F23 V23
  by_cases h0 : a.length = b.length
  · have h0' : ((a.length : Int) != (b.length : Int)) = false := by rw [h0]; simp
    obtain ⟨o, ho, hp⟩ := runLoop_post (R := Bool) (step := fun x => L23_4 N x.1 x.2.1 x.2.2.1 x.2.2.2)
      (fun x => x.1 = a ∧ x.2.1 = b ∧ x.2.2.1 = (a.length : Int) ∧ 0 ≤ x.2.2.2 ∧ x.2.2.2 ≤ a.length ∧ a.take x.2.2.2.toNat = b.take x.2.2.2.toNat) (fun x => (a.length - x.2.2.2).toNat)
      (fun o => (o = .ret false ∧ a ≠ b) ∨ ((∃ x, o = .brk 0 x) ∧ a = b))
      (by
        rintro ⟨a', b', n, i⟩ ⟨e1, e2, e3, k0, kle, heq⟩
        dsimp only at e1 e2 e3 k0 kle heq ⊢
        subst e1; subst e2; subst e3
        unfold L23_4 U23_4
        by_cases hi : i < (a'.length : Int)
        · have hia : i.toNat < a'.length := by omega
          have hib : i.toNat < b'.length := by omega
          have c1 : inR i a'.length := ⟨k0, hi⟩
          have c2 : inR i b'.length := ⟨k0, by omega⟩
          have hat : atI (.list tS) a' i = a'[i.toNat] := by show a'.getD _ _ = _; simp [hia]
          have hat2 : atI (.list tS) b' i = b'[i.toNat] := by show b'.getD _ _ = _; simp [hib]
          obtain ⟨l1, l2⟩ := hl _ (List.getElem_mem hia)
          have e1 : (i + 1).toNat = i.toNat + 1 := by omega
          simp (disch := first | assumption | omega) only [ev_br, ev_leaf, ev_c1, ev_c2, ev_c3, ev_c4, ev_cr, ev_cr2, ev_f0, ev_f1, ev_f2, obind_some, decide_eq_true_eq, Bool.not_eq_true', Bool.true_eq_false, Bool.false_eq_true, if_true, if_false, reduceCtorEq, hi, ev_ck c1, ev_ck c2, hat, hat2, F_equal N a'[i.toNat] b'[i.toNat] l1 (by unfold maxLen; omega), wrapI]
          by_cases he : a'[i.toNat] = b'[i.toNat]
          · simp only [he, decide_true, Bool.not_true, Bool.false_eq_true, if_false]
            refine ⟨_, rfl, .inl ⟨_, rfl, ⟨rfl, rfl, rfl, by simp only; omega, by simp only; omega, ?_⟩, by simp only; omega⟩⟩
            simp only
            rw [e1, List.take_succ_eq_append_getElem hia, List.take_succ_eq_append_getElem hib, heq, he]
          · refine ⟨.ret false, by simp [he], .inr ⟨by simp, .inl ⟨rfl, fun h => he ?_⟩⟩⟩
            subst h; rfl
        · refine ⟨.brk 0 (a', b', (a'.length : Int), i), by simp [hi], .inr ⟨by simp, .inr ⟨⟨_, rfl⟩, ?_⟩⟩⟩
          have : i.toNat = a'.length := by omega
          rw [this, List.take_length, h0, List.take_length] at heq
          exact heq) N (a, b, (a.length : Int), 0) ⟨rfl, rfl, rfl, by simp, by simp, by simp⟩ (by simp only; omega)
    simp only [ev_br, ev_leaf, ev_c1, ev_c2, ev_c3, ev_c4, ev_cr, ev_cr2, ev_f0, ev_f1, ev_f2, obind_some, decide_eq_true_eq, Bool.not_eq_true', Bool.true_eq_false, Bool.false_eq_true, if_true, if_false, reduceCtorEq, h0']
    unfold W23_4
    rw [ho]
    rcases hp with ⟨rfl, h⟩ | ⟨⟨x, rfl⟩, h⟩
    · rw [decide_eq_false h]; rfl
    · rw [decide_eq_true h]; rfl
  · have h0' : ((a.length : Int) != (b.length : Int)) = true := by
      rw [bne_iff_ne]; omega
    simp only [ev_br, ev_leaf, ev_c1, ev_c2, ev_c3, ev_c4, ev_cr, ev_cr2, ev_f0, ev_f1, ev_f2, obind_some, decide_eq_true_eq, Bool.not_eq_true', Bool.true_eq_false, Bool.false_eq_true, if_true, if_false, reduceCtorEq, h0']
    rw [decide_eq_false (fun h => h0 (by rw [h]))]

theorem F_brief (N : Nat) (t : List Ln) (hr : rightS t = true) (hN : 1000 < N) : ∃ b, F20 N t = some b := by
  obtain ⟨h200, hrf⟩ := rightS_iff.1 hr
  have inner : ∀ (i m : Int), 0 ≤ i → i < t.length → ∃ x, W20_6 N (t, 0, i, m, i) = some (.brk 0 x) ∧ x.1 = t ∧ x.2.2.2.1 = m ∧ x.2.2.2.2 = i := by
    intro i m hi0 hil
    obtain ⟨o, ho, hp⟩ := runLoop_post (R := Bool) (step := fun x => L20_6 N x.1 x.2.1 x.2.2.1 x.2.2.2.1 x.2.2.2.2)
      (fun x => x.1 = t ∧ x.2.2.2.1 = m ∧ x.2.2.2.2 = i ∧ -1 ≤ x.2.2.1 ∧ x.2.2.1 < t.length ∧ 0 ≤ x.2.1 ∧ x.2.1 ≤ 1000 - x.2.2.1) (fun x => (x.2.2.1 + 1).toNat)
      (fun o => ∃ x, o = .brk 0 x ∧ x.1 = t ∧ x.2.2.2.1 = m ∧ x.2.2.2.2 = i)
      (by
        rintro ⟨t', n, k, m', i'⟩ ⟨e1, e2, e3, k0, kl, n0, nl⟩
        dsimp only at e1 e2 e3 k0 kl n0 nl ⊢
        subst e1; subst e2; subst e3
        unfold L20_6 U20_6
        by_cases hk : 0 ≤ k
        · have c1 : inR k t'.length := ⟨hk, kl⟩
          have hun := R_under N t' k hk kl (by omega) (by omega)
          have hult := unS_lt t' (t'.getD k.toNat (0, [], 0)).1 k.toNat
          have huge := unS_ge t' (t'.getD k.toNat (0, [], 0)).1 k.toNat
          have hud : underN t' k.toNat = unS t' (t'.getD k.toNat (0, [], 0)).1 k.toNat := rfl
          have hwn : IntKind.i64.wrap (n + 1) = n + 1 := wrapI (by omega) (by omega)
          simp only [ev_br, ev_leaf, ev_c1, ev_c2, ev_c3, ev_c4, ev_cr, ev_cr2, ev_f0, ev_f1, ev_f2, obind_some, decide_eq_true_eq, Bool.not_eq_true', Bool.true_eq_false, Bool.false_eq_true, if_true, if_false, reduceCtorEq, hk, ev_ck c1, hun, hwn]
          split
          · exact ⟨_, rfl, .inl ⟨_, rfl, ⟨rfl, rfl, rfl, by simp only; omega, by simp only; omega, by simp only; omega, by simp only; omega⟩, by simp only; omega⟩⟩
          · exact ⟨_, rfl, .inl ⟨_, rfl, ⟨rfl, rfl, rfl, by simp only; omega, by simp only; omega, by simp only; omega, by simp only; omega⟩, by simp only; omega⟩⟩
        · exact ⟨.brk 0 (t', n, k, m', i'), by simp [hk], .inr ⟨by simp, _, rfl, rfl, rfl, rfl⟩⟩) N (t, 0, i, m, i) ⟨rfl, rfl, rfl, by simp only; omega, by simp only; omega, by simp only; omega, by simp only; omega⟩ (by simp only; omega)
    obtain ⟨x, rfl, h⟩ := hp
    exact ⟨x, ho, h⟩
  obtain ⟨o, ho, hp⟩ := runLoop_post (R := Bool) (step := fun x => L20_2 N x.1 x.2.1 x.2.2)
    (fun x => x.1 = t ∧ x.2.1 = (t.length : Int) ∧ 0 ≤ x.2.2 ∧ x.2.2 ≤ t.length) (fun x => (t.length - x.2.2).toNat)
    (fun o => (∃ b, o = .ret b) ∨ ∃ x, o = .brk 0 x)
    (by
      rintro ⟨t', n, i⟩ ⟨e1, e2, k0, kl⟩
      dsimp only at e1 e2 k0 kl ⊢
      subst e1; subst e2
      unfold L20_2 U20_2
      by_cases hi : i < (t'.length : Int)
      · obtain ⟨⟨x1, x2, x3, x4, x5⟩, hx, h1, h2, h3⟩ := inner i (t'.length : Int) k0 hi
        dsimp only at h1 h2 h3
        subst h1; subst h2; subst h3
        have hwi : IntKind.i64.wrap (x5 + 1) = x5 + 1 := wrapI (by omega) (by omega)
        simp only [ev_br, decide_eq_true hi, if_true, Vt.g1, ev_loop1, hx, lp1_brk, ev_leaf, hwi]
        split
        · exact ⟨_, rfl, .inr ⟨by simp, .inl ⟨_, rfl⟩⟩⟩
        · exact ⟨_, rfl, .inl ⟨_, rfl, ⟨rfl, rfl, by simp only; omega, by simp only; omega⟩, by simp only; omega⟩⟩
      · exact ⟨.brk 0 (t', (t'.length : Int), i), by simp [hi], .inr ⟨by simp, .inr ⟨_, rfl⟩⟩⟩) N (t, (t.length : Int), 0) ⟨rfl, rfl, by simp, by simp⟩ (by simp only; omega)
  unfold F20 V20
  simp only [ev_br, ev_leaf, ev_c1, ev_c2, ev_c3, ev_c4, ev_cr, ev_cr2, ev_f0, ev_f1, ev_f2, obind_some, decide_eq_true_eq, Bool.not_eq_true', Bool.true_eq_false, Bool.false_eq_true, if_true, if_false, reduceCtorEq]
  unfold W20_2
  rw [ho]
  rcases hp with ⟨b, rfl⟩ | ⟨x, rfl⟩
  · exact ⟨b, rfl⟩
  · exact ⟨true, rfl⟩

theorem E_awake (N : Nat) (hN : 100000000 < N) : F11 N = some true := by
  unfold F11 V11
  obtain ⟨t, ht⟩ : ∃ t : List Ln, t = [(0, [97, 112, 112, 108, 121], 0), (1, [103], 0), (0, [103, 114, 111, 117, 112, 115], 0), (1, [103], 0), (2, [104], 0), (3, [42], 0), (4, [109], 0), (5, [57], 0), (0, [104], 0), (1, [97], 0), (1, [98], 0), (2, [109], 0), (3, [49], 0)] := ⟨_, rfl⟩
  have hr : rightS t = true := by rw [ht]; decide
  have hl : t.length = 13 := by rw [ht]; rfl
  have s1 : expandS t = ([(0, [104], 0), (1, [97], 0), (2, [109], 0), (3, [57], 0), (1, [98], 0), (2, [109], 0), (3, [49], 0)], 0) := by rw [ht]; decide +kernel
  have s2 : pathsS t [103] = ([[[104], [97], [109], [57]], [[104], [98], [109], [57]]], 0) := by rw [ht]; decide +kernel
  have s3 : pathsS t [113] = ([], 3) := by rw [ht]; decide +kernel
  have e1 := E_expand N t hN (by omega)
  have e2 := E_paths N t [103] (by omega) (by omega)
  have e3 := E_paths N t [113] (by omega) (by omega)
  rw [hr, if_pos rfl] at e1 e2 e3
  rw [s1] at e1
  rw [s2] at e2
  rw [s3] at e3
  have f1 := F_find N [(0, [104], 0), (1, [97], 0), (2, [109], 0), (3, [57], 0), (1, [98], 0), (2, [109], 0), (3, [49], 0)] [[104], [97], [109], [57]] (by simp; omega)
  have f2 := F_find N [(0, [104], 0), (1, [97], 0), (2, [109], 0), (3, [57], 0), (1, [98], 0), (2, [109], 0), (3, [49], 0)] [[104], [98], [109], [57]] (by simp; omega)
  have g1 : fndS [(0, [104], 0), (1, [97], 0), (2, [109], 0), (3, [57], 0), (1, [98], 0), (2, [109], 0), (3, [49], 0)] [[104], [97], [109], [57]] = some 3 := by decide
  have g2 : fndS [(0, [104], 0), (1, [97], 0), (2, [109], 0), (3, [57], 0), (1, [98], 0), (2, [109], 0), (3, [49], 0)] [[104], [98], [109], [57]] = none := by decide
  rw [g1] at f1
  rw [g2] at f2
  rw [ht] at e1 e2 e3
  simp (config := { decide := true }) only [ev_br, ev_leaf, ev_c1, ev_c2, ev_c3, ev_c4, ev_cr, ev_cr2, ev_f0, ev_f1, ev_f2, obind_some, decide_eq_true_eq, Bool.not_eq_true', Bool.true_eq_false, Bool.false_eq_true, if_true, if_false, reduceCtorEq, e1, e2, e3, f1, f2, List.length_cons, List.length_nil]

end Go.Proofs.Ytannkhelkpmcfaa.Vc
