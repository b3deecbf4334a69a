/-
  THE LAWS ON EDITING, told of data: gone, marks, sets. No condition.
-/
import Derived.Test.YtcjlpdnhbgbooaaEl
set_option linter.unusedVariables false
set_option linter.unusedSimpArgs false
namespace Go.Proofs.Ytcjlpdnhbgbooaa.Vc

theorem pre_take {q p : List Bs} : p.take q.length = q ↔ q <+: p := by
  rw [List.prefix_iff_eq_take]; exact eq_comm

theorem L_gone (N : Nat) (t : List Ln) (q : List Bs) (hN : 5000 < N) : F7 N t q = some true := by
  unfold F7 V7
  simp only [ev_br, ev_leaf, ev_c1, ev_c2, ev_c3, ev_c4, ev_cr, ev_cr2, ev_f0, ev_f1, ev_f2, obind_some, decide_eq_true_eq, Bool.not_eq_true', Bool.true_eq_false, Bool.false_eq_true, if_true, if_false, reduceCtorEq, F_small N t (by omega), F_short N q (by omega), E_awake N hN]
  by_cases hs : smallS t = true
  · have hl := small_len hs
    simp only [ev_br, ev_leaf, ev_c1, ev_c2, ev_c3, ev_c4, ev_cr, ev_cr2, ev_f0, ev_f1, ev_f2, obind_some, decide_eq_true_eq, Bool.not_eq_true', Bool.true_eq_false, Bool.false_eq_true, if_true, if_false, reduceCtorEq, hs, R_right N t (by omega)]
    by_cases h60 : (60 : Int) < (t.length : Int)
    · rw [if_pos h60]
    · rw [if_neg h60]
      by_cases hr : rightS t = true
      · obtain ⟨h200, hrf⟩ := rightS_iff.1 hr
        simp only [ev_br, ev_leaf, ev_c1, ev_c2, ev_c3, ev_c4, ev_cr, ev_cr2, ev_f0, ev_f1, ev_f2, obind_some, decide_eq_true_eq, Bool.not_eq_true', Bool.true_eq_false, Bool.false_eq_true, if_true, if_false, reduceCtorEq, hr]
        by_cases hq : shortS q = true
        · have hq' := short_len hq
          have hdl := del_len t q
          simp only [ev_br, ev_leaf, ev_c1, ev_c2, ev_c3, ev_c4, ev_cr, ev_cr2, ev_f0, ev_f1, ev_f2, obind_some, decide_eq_true_eq, Bool.not_eq_true', Bool.true_eq_false, Bool.false_eq_true, if_true, if_false, reduceCtorEq, hq, E_delete N t q (by omega) (by omega) (by omega) (by omega), F_same N (delS t q).1 t (by omega) (by unfold maxLen; omega)]
          rcases del_or t q with ⟨h1, h2⟩ | ⟨h1, i0, _, hf, hs2, h3, hru, hg⟩
          · have hne : ((delS t q).2 != 0) = true := by simpa using h1
            simp only [hne, h2, ev_br, ev_leaf, ev_c1, ev_c2, ev_c3, ev_c4, ev_cr, ev_cr2, ev_f0, ev_f1, ev_f2, obind_some, decide_eq_true_eq, Bool.not_eq_true', Bool.true_eq_false, Bool.false_eq_true, if_true, if_false, reduceCtorEq, decide_true]
          · have hne : ((delS t q).2 != 0) = false := by simpa using h1
            rw [h3] at hdl
            simp only [hne, ev_br, ev_leaf, ev_c1, ev_c2, ev_c3, ev_c4, ev_cr, ev_cr2, ev_f0, ev_f1, ev_f2, obind_some, decide_eq_true_eq, Bool.not_eq_true', Bool.true_eq_false, Bool.false_eq_true, if_true, if_false, reduceCtorEq, h3]
            obtain ⟨u, hu⟩ : ∃ u, cutT t i0 = u := ⟨_, rfl⟩
            rw [hu] at hru hg hdl ⊢
            obtain ⟨hu200, hurf⟩ := rightS_iff.1 hru
            obtain ⟨o, ho, hp⟩ := runLoop_post (R := Bool) (step := fun x => L7_7 N x.1 x.2.1 x.2.2.1 x.2.2.2.1 x.2.2.2.2.1 x.2.2.2.2.2)
              (fun x => x.1 = t ∧ x.2.1 = q ∧ x.2.2.1 = u ∧ x.2.2.2.1 = t ∧ x.2.2.2.2.1 = (t.length : Int) ∧ 0 ≤ x.2.2.2.2.2 ∧ x.2.2.2.2.2 ≤ t.length) (fun x => (t.length - x.2.2.2.2.2).toNat)
              (fun o => ∃ x, o = .brk 0 x)
              (by
                rintro ⟨t1, q1, u1, t2, n, i⟩ ⟨e1, e2, e3, e4, e5, h0, hle⟩
                dsimp only at e1 e2 e3 e4 e5 h0 hle ⊢
                subst e1; subst e2; subst e3; subst e4; subst e5
                unfold L7_7 U7_7
                by_cases hi : i < (t2.length : Int)
                · have c1 : inR i t2.length := ⟨h0, hi⟩
                  have hil : i.toNat < t2.length := by omega
                  have hpl := pth_len hrf hil
                  have hb := snd_iff.1 (rf_at hrf hil).1
                  have hgt := gt_at hrf hil
                  have hat : atI tLn t2 i = t2[i.toNat] := by rw [atI_nat, getD_of_lt t2 hil]
                  have goon : ∃ o, (some (Lp.next (t2, q1, u1, t2, (t2.length : Int), i + 1)) : Option (Lp (List Ln × List Bs × List Ln × List Ln × Int × Int) Bool)) = some o ∧ ((∃ y, o = .next y ∧ (y.1 = t2 ∧ y.2.1 = q1 ∧ y.2.2.1 = u1 ∧ y.2.2.2.1 = t2 ∧ y.2.2.2.2.1 = (t2.length : Int) ∧ 0 ≤ y.2.2.2.2.2 ∧ y.2.2.2.2.2 ≤ t2.length) ∧ (t2.length - y.2.2.2.2.2).toNat < (t2.length - i).toNat) ∨ ((∀ y, o ≠ .next y) ∧ ∃ x, o = .brk 0 x)) :=
                    ⟨_, rfl, .inl ⟨_, rfl, ⟨rfl, rfl, rfl, rfl, rfl, by simp only; omega, by simp only; omega⟩, by simp only; omega⟩⟩
                  have hkeep : ¬ q1 <+: pth t2 i.toNat → ∃ k : Nat, fnd u1 (pth t2 i.toNat) = some k ∧ k < u1.length ∧ atI tLn u1 (k : Int) = t2[i.toNat] := fun hn => by
                    have hgu := hg (pth t2 i.toNat)
                    rw [if_neg hn, hgt] at hgu
                    obtain ⟨k, hfk, hmk⟩ := gt_fnd hurf hgu
                    obtain ⟨hkl, hkp⟩ := fnd_of hfk
                    rw [getD_of_lt u1 hkl] at hmk
                    exact ⟨k, hfk, hkl, by rw [atI_nat, Int.toNat_natCast, getD_of_lt u1 hkl]; exact line_eq hrf hurf hil hkl hkp hmk⟩
                  have hF := F_find N u1 (pth t2 i.toNat) (by omega)
                  rw [fndS_eq, if_pos hru] at hF
                  simp (disch := first | assumption | omega) only [ev_br, ev_leaf, ev_c1, ev_c2, ev_c3, ev_c4, ev_cr, ev_cr2, ev_f0, ev_f1, ev_f2, obind_some, decide_eq_true_eq, Bool.not_eq_true', Bool.true_eq_false, Bool.false_eq_true, if_true, if_false, reduceCtorEq, hi, ev_ck, wrapI, R_path N t2 i hr h0 hi (by omega), hat]
                  by_cases hlen : (q1.length : Int) ≤ ((pth t2 i.toNat).length : Int)
                  · have hEq := F_equal N ((pth t2 i.toNat).take q1.length) q1 (by rw [List.length_take]; omega) (by rw [List.length_take]; unfold maxLen; omega)
                    rw [if_pos hlen]
                    simp only [ev_br, ev_leaf, ev_c1, ev_c2, ev_c3, ev_c4, ev_cr, ev_cr2, ev_f0, ev_f1, ev_f2, obind_some, decide_eq_true_eq, Bool.not_eq_true', Bool.true_eq_false, Bool.false_eq_true, if_true, if_false, reduceCtorEq, slc0, Int.toNat_natCast, hEq, hF]
                    by_cases hpp : q1 <+: pth t2 i.toNat
                    · have hn : fnd u1 (pth t2 i.toNat) = none := fnd_none0.2 (by rw [hg, if_pos hpp])
                      simp only [decide_eq_true (pre_take.2 hpp), hn, ev_br, ev_leaf, ev_c1, ev_c2, ev_c3, ev_c4, ev_cr, ev_cr2, ev_f0, ev_f1, ev_f2, obind_some, decide_eq_true_eq, Bool.not_eq_true', Bool.true_eq_false, Bool.false_eq_true, if_true, if_false, reduceCtorEq, beq_iff_eq]
                      exact goon
                    · obtain ⟨k, hfk, hkl, hk⟩ := hkeep hpp
                      have c2 : inR (k : Int) u1.length := ⟨by omega, by omega⟩
                      simp only [decide_eq_false (fun h => hpp (pre_take.1 h)), hfk, ev_br, ev_leaf, ev_c1, ev_c2, ev_c3, ev_c4, ev_cr, ev_cr2, ev_f0, ev_f1, ev_f2, obind_some, decide_eq_true_eq, Bool.not_eq_true', Bool.true_eq_false, Bool.false_eq_true, if_true, if_false, reduceCtorEq, ev_ck c2, hk, beq_self_eq_true, Bool.and_self, beq_iff_eq]
                      exact goon
                  · have hpp : ¬ q1 <+: pth t2 i.toNat := fun h => hlen (by have := h.length_le; omega)
                    obtain ⟨k, hfk, hkl, hk⟩ := hkeep hpp
                    have c2 : inR (k : Int) u1.length := ⟨by omega, by omega⟩
                    rw [if_neg hlen]
                    simp only [ev_br, ev_leaf, ev_c1, ev_c2, ev_c3, ev_c4, ev_cr, ev_cr2, ev_f0, ev_f1, ev_f2, obind_some, decide_eq_true_eq, Bool.not_eq_true', Bool.true_eq_false, Bool.false_eq_true, if_true, if_false, reduceCtorEq, hF, hfk, ev_ck c2, hk, beq_self_eq_true, Bool.and_self, beq_iff_eq]
                    exact goon
                · exact ⟨.brk 0 (t2, q1, u1, t2, (t2.length : Int), i), by simp [hi], .inr ⟨by simp, ⟨_, rfl⟩⟩⟩) N (t, q, u, t, (t.length : Int), 0) ⟨rfl, rfl, rfl, rfl, rfl, by simp, by simp⟩ (by simp only; omega)
            unfold W7_7
            rw [ho]
            obtain ⟨x, rfl⟩ := hp
            rw [lp1_brk]
        · have hq' : shortS q = false := by simpa using hq
          simp only [ev_br, ev_leaf, ev_c1, ev_c2, ev_c3, ev_c4, ev_cr, ev_cr2, ev_f0, ev_f1, ev_f2, obind_some, decide_eq_true_eq, Bool.not_eq_true', Bool.true_eq_false, Bool.false_eq_true, if_true, if_false, reduceCtorEq, hq']
      · have hr' : rightS t = false := by simpa using hr
        simp only [ev_br, ev_leaf, ev_c1, ev_c2, ev_c3, ev_c4, ev_cr, ev_cr2, ev_f0, ev_f1, ev_f2, obind_some, decide_eq_true_eq, Bool.not_eq_true', Bool.true_eq_false, Bool.false_eq_true, if_true, if_false, reduceCtorEq, hr']
  · have hs' : smallS t = false := by simpa using hs
    simp only [ev_br, ev_leaf, ev_c1, ev_c2, ev_c3, ev_c4, ev_cr, ev_cr2, ev_f0, ev_f1, ev_f2, obind_some, decide_eq_true_eq, Bool.not_eq_true', Bool.true_eq_false, Bool.false_eq_true, if_true, if_false, reduceCtorEq, hs']

/-! ### Marks -/

theorem pths_marks : ∀ (l l' : List Ln) (p : List Bs), l.map (fun x => (x.1, x.2.1)) = l'.map (fun x => (x.1, x.2.1)) → pths p l = pths p l'
  | [], [], _, _ => rfl
  | [], _ :: _, _, h => by simp at h
  | _ :: _, [], _, h => by simp at h
  | a :: l, b :: l', p, h => by
    simp only [List.map_cons, List.cons.injEq, Prod.mk.injEq] at h
    obtain ⟨⟨h1, h2⟩, h3⟩ := h
    have : nx p a = nx p b := by unfold nx; rw [h1, h2]
    unfold pths
    rw [this, pths_marks l l' _ h3]
theorem withM_fnd (t : List Ln) {i : Nat} (hi : i < t.length) (m : Int) (q : List Bs) : fnd (withM t i m) q = fnd t q := by
  unfold fnd
  rw [pths_marks (withM t i m) t [] ?_]
  unfold withM
  rw [List.map_set]
  apply List.ext_getElem
  · simp
  · intro j h1 h2
    rw [List.getElem_set]
    split
    · rename_i e; subst e; rw [getD_of_lt t hi]; simp
    · rfl
theorem withM_withM (t : List Ln) {i : Nat} (hi : i < t.length) (m m' : Int) : withM (withM t i m) i m' = withM t i m' := by
  unfold withM
  rw [List.set_set]
  congr 1
  rw [List.getD_eq_getElem?_getD, List.getElem?_set_self hi]; rfl
theorem withM_self (t : List Ln) {i : Nat} (hi : i < t.length) : withM t i (t.getD i (0, [], 0)).2.2 = t := by
  unfold withM
  rw [getD_of_lt t hi]
  exact List.set_getElem_self hi
theorem withM_get (t : List Ln) {i : Nat} (hi : i < t.length) (m : Int) : (withM t i m).getD i (0, [], 0) = ((t.getD i (0, [], 0)).1, (t.getD i (0, [], 0)).2.1, m) := by
  unfold withM
  rw [List.getD_eq_getElem?_getD, List.getElem?_set_self hi]; rfl

theorem setM_facts {m bit : Int} (h0 : 0 ≤ m) (h3 : m ≤ 3) (hb : bit = 1 ∨ bit = 2) (hn : ¬(bit = 1 ∧ 1 < m)) :
    hasB (setM m bit true) bit = true ∧ setM (setM m bit true) bit true = setM m bit true ∧ hasB (setM (setM m bit true) bit false) bit = false ∧ (hasB m bit = false → setM (setM m bit true) bit false = m) ∧ ¬(bit = 1 ∧ 1 < setM m bit true) := by
  have : m = 0 ∨ m = 1 ∨ m = 2 ∨ m = 3 := by omega
  rcases this with rfl | rfl | rfl | rfl <;> rcases hb with rfl | rfl <;> revert hn <;> decide
theorem andB {m bit : Int} (h0 : 0 ≤ m) (h3 : m ≤ 3) (hb : bit = 1 ∨ bit = 2) : IntKind.i64.wrap (((BitVec.ofInt IntKind.i64.bits m &&& BitVec.ofInt IntKind.i64.bits bit).toNat : Int)) = if hasB m bit = true then bit else 0 := by
  have : m = 0 ∨ m = 1 ∨ m = 2 ∨ m = 3 := by omega
  rcases this with rfl | rfl | rfl | rfl <;> rcases hb with rfl | rfl <;> decide

theorem mark_marks {t : List Ln} {q : List Bs} {bit : Int} (he : (markS t q bit true).2 = 0) : ∃ i m, fnd t q = some i ∧ m = (t.getD i (0, [], 0)).2.2 ∧ 0 ≤ m ∧ m ≤ 3 ∧ (bit = 1 ∨ bit = 2) ∧ ¬(bit = 1 ∧ 1 < m) ∧ (markS t q bit true).1 = withM t i (setM m bit true) ∧
    markS (markS t q bit true).1 q bit true = ((markS t q bit true).1, 0) ∧ markS (markS t q bit true).1 q bit false = (withM t i (setM (setM m bit true) bit false), 0) := by
  rcases mark_or t q bit true with ⟨h, _⟩ | ⟨_, hb, i, m, hr, hf, hg, hm, h0, h3, hk, hn, hu, hru, hgu⟩
  · exact absurd he h
  · obtain ⟨h200, hrf⟩ := rightS_iff.1 hr
    have hi := (fnd_of hf).1
    refine ⟨i, m, hf, hm, h0, h3, hb, hn, hu, ?_⟩
    rw [hu]
    obtain ⟨f1, f2, f3, f4, f5⟩ := setM_facts h0 h3 hb hn
    have hq0 : q ≠ [] := (part_facts hrf hf).1
    have hfu := withM_fnd t hi (setM m bit true) q
    rw [hf] at hfu
    have hku : keptN (withM t i (setM m bit true)) q (q.length - 1) = false := by
      cases hx : keptN (withM t i (setM m bit true)) q (q.length - 1) with
      | false => rfl
      | true =>
        obtain ⟨p, m', p1, p2, p3⟩ := kept_above.1 hx
        rw [hgu, if_neg (fun e => by
          rw [e] at p1
          have := p1.length_le
          have := List.length_pos_iff.2 hq0
          simp at *
          omega)] at p2
        rw [kept_above.2 ⟨p, m', p1, p2, p3⟩] at hk
        cases hk
    have hget := withM_get t hi (setM m bit true)
    constructor
    · unfold markS
      rw [if_pos hb, if_pos hru, if_neg hq0, hfu]
      simp only [hku, hget]
      rw [if_neg (by simp), if_neg f5, f2, withM_withM t hi]
    · unfold markS
      rw [if_pos hb, if_pos hru, if_neg hq0, hfu]
      simp only [hku, hget]
      rw [if_neg (by simp), if_neg f5, withM_withM t hi]

theorem L_marks (N : Nat) (t : List Ln) (q : List Bs) (pr : Bool) (hN : 5000 < N) : F8 N t q pr = some true := by
  unfold F8 V8
  simp only [ev_br, ev_leaf, ev_c1, ev_c2, ev_c3, ev_c4, ev_cr, ev_cr2, ev_f0, ev_f1, ev_f2, obind_some, decide_eq_true_eq, Bool.not_eq_true', Bool.true_eq_false, Bool.false_eq_true, if_true, if_false, reduceCtorEq, F_small N t (by omega), F_short N q (by omega), E_awake N hN]
  by_cases hs : smallS t = true
  · have hl := small_len hs
    simp only [ev_br, ev_leaf, ev_c1, ev_c2, ev_c3, ev_c4, ev_cr, ev_cr2, ev_f0, ev_f1, ev_f2, obind_some, decide_eq_true_eq, Bool.not_eq_true', Bool.true_eq_false, Bool.false_eq_true, if_true, if_false, reduceCtorEq, hs, R_right N t (by omega)]
    by_cases h60 : (60 : Int) < (t.length : Int)
    · rw [if_pos h60]
    · rw [if_neg h60]
      by_cases hr : rightS t = true
      · obtain ⟨h200, hrf⟩ := rightS_iff.1 hr
        simp only [ev_br, ev_leaf, ev_c1, ev_c2, ev_c3, ev_c4, ev_cr, ev_cr2, ev_f0, ev_f1, ev_f2, obind_some, decide_eq_true_eq, Bool.not_eq_true', Bool.true_eq_false, Bool.false_eq_true, if_true, if_false, reduceCtorEq, hr]
        by_cases hq : shortS q = true
        · have hq' := short_len hq
          simp only [ev_br, ev_leaf, ev_c1, ev_c2, ev_c3, ev_c4, ev_cr, ev_cr2, ev_f0, ev_f1, ev_f2, obind_some, decide_eq_true_eq, Bool.not_eq_true', Bool.true_eq_false, Bool.false_eq_true, if_true, if_false, reduceCtorEq, hq]
          have main : ∀ bit : Int, (bit = 1 ∨ bit = 2) → ((markS t q bit true).2 ≠ 0 ∧ (markS t q bit true).1 = t) ∨ ((markS t q bit true).2 = 0 ∧ ∃ (i : Nat) (m : Int), i < t.length ∧ F29 N t q = some (i : Int) ∧ m = (t.getD i (0, [], 0)).2.2 ∧ 0 ≤ m ∧ m ≤ 3 ∧ ¬(bit = 1 ∧ 1 < m) ∧ (markS t q bit true).1 = withM t i (setM m bit true) ∧
              markS (markS t q bit true).1 q bit true = ((markS t q bit true).1, 0) ∧ markS (markS t q bit true).1 q bit false = (withM t i (setM (setM m bit true) bit false), 0)) := fun bit hb => by
            by_cases he : (markS t q bit true).2 = 0
            · right
              obtain ⟨i, m, hf, hm, h0, h3, _, hn, h4, h5, h6⟩ := mark_marks he
              have hF := R_finds N t q hrf (by omega) (by omega) (by omega)
              rw [hf] at hF
              exact ⟨he, i, m, (fnd_of hf).1, hF, hm, h0, h3, hn, h4, h5, h6⟩
            · left
              rcases mark_or t q bit true with h | ⟨h, _⟩
              · exact h
              · exact absurd h he
          have hml := fun bit on => mark_len t q bit on
          cases pr with
          | true =>
            have hE := E_mark N t q 2 true (by omega) (by omega) (by omega) (by omega)
            have hEt := E_mark N (markS t q 2 true).1 q 2 true (by omega) (by rw [hml]; omega) (by omega) (by omega)
            have hEf := E_mark N (markS t q 2 true).1 q 2 false (by omega) (by rw [hml]; omega) (by omega) (by omega)
            have hS := F_same N (markS t q 2 true).1 t (by rw [hml]; omega) (by rw [hml]; unfold maxLen; omega)
            simp only [ev_br, ev_leaf, ev_c1, ev_c2, ev_c3, ev_c4, ev_cr, ev_cr2, ev_f0, ev_f1, ev_f2, obind_some, decide_eq_true_eq, Bool.not_eq_true', Bool.true_eq_false, Bool.false_eq_true, if_true, if_false, reduceCtorEq, hE, hEt, hEf, hS]
            rcases main 2 (.inr rfl) with ⟨h1, h2⟩ | ⟨h1, i, m, hi, hF, hm, h0, h3, hn, h4, h5, h6⟩
            · have hne : ((markS t q 2 true).2 != 0) = true := by simpa using h1
              simp only [hne, h2, ev_br, ev_leaf, ev_c1, ev_c2, ev_c3, ev_c4, ev_cr, ev_cr2, ev_f0, ev_f1, ev_f2, obind_some, decide_eq_true_eq, Bool.not_eq_true', Bool.true_eq_false, Bool.false_eq_true, if_true, if_false, reduceCtorEq, decide_true]
            · have hne : ((markS t q 2 true).2 != 0) = false := by simpa using h1
              have hS2 := F_same N (markS t q 2 true).1 (markS t q 2 true).1 (by rw [hml]; omega) (by rw [hml]; unfold maxLen; omega)
              obtain ⟨f1, f2, f3, f4, f5⟩ := setM_facts h0 h3 (.inr rfl : (2 : Int) = 1 ∨ (2 : Int) = 2) hn
              have hwl : ∀ m', (withM t i m').length = t.length := fun m' => by unfold withM; simp
              have g1 := withM_get t hi (setM m 2 true)
              have g2 := withM_get t hi (setM (setM m 2 true) 2 false)
              have o1 := setM_ok h0 h3 (.inr rfl : (2 : Int) = 1 ∨ (2 : Int) = 2) true
              have o2 := setM_ok o1.1 o1.2 (.inr rfl : (2 : Int) = 1 ∨ (2 : Int) = 2) false
              have a1 := andB o1.1 o1.2 (.inr rfl : (2 : Int) = 1 ∨ (2 : Int) = 2)
              have a2 := andB o2.1 o2.2 (.inr rfl : (2 : Int) = 1 ∨ (2 : Int) = 2)
              have a3 := andB h0 h3 (.inr rfl : (2 : Int) = 1 ∨ (2 : Int) = 2)
              have hS3 := F_same N (withM t i (setM (setM m 2 true) 2 false)) t (by rw [hwl]; omega) (by rw [hwl]; unfold maxLen; omega)
              have hi0 : ¬ (i : Int) < 0 := by omega
              have c1 : ∀ m', inR (i : Int) (withM t i m').length := fun m' => by rw [hwl]; exact ⟨by omega, by omega⟩
              have c2 : inR (i : Int) t.length := ⟨by omega, by omega⟩
              have hml2 : ((markS t q 2 true).1.length : Int) = (t.length : Int) := by rw [hml]
              simp only [hne, h5, h6, hF, ev_br, ev_leaf, ev_c1, ev_c2, ev_c3, ev_c4, ev_cr, ev_cr2, ev_f0, ev_f1, ev_f2, obind_some, decide_eq_true_eq, Bool.not_eq_true', Bool.true_eq_false, Bool.false_eq_true, if_true, if_false, reduceCtorEq, bne_self_eq_false, hi0, hml2, hwl, hS2, hS3, decide_true]
              simp only [h4, ev_ck (c1 _), ev_ck c2, ev_br, ev_leaf, ev_c1, ev_c2, ev_c3, ev_c4, ev_cr, ev_cr2, ev_f0, ev_f1, ev_f2, obind_some, decide_eq_true_eq, Bool.not_eq_true', Bool.true_eq_false, Bool.false_eq_true, if_true, if_false, reduceCtorEq, atI_nat, Int.toNat_natCast, g1, g2, a1, a2, ← hm, a3, f1, f3]
              simp (config := { decide := true }) only [if_true, if_false, Bool.false_eq_true]
              by_cases hh : hasB m 2 = true
              · simp (config := { decide := true }) only [hh, if_true]
              · have hh' : hasB m 2 = false := by simpa using hh
                have : withM t i (setM (setM m 2 true) 2 false) = t := by rw [f4 hh', hm]; exact withM_self t hi
                simp (config := { decide := true }) only [hh', this, if_true, if_false, Bool.false_eq_true]
          | false =>
            have hE := E_mark N t q 1 true (by omega) (by omega) (by omega) (by omega)
            have hEt := E_mark N (markS t q 1 true).1 q 1 true (by omega) (by rw [hml]; omega) (by omega) (by omega)
            have hEf := E_mark N (markS t q 1 true).1 q 1 false (by omega) (by rw [hml]; omega) (by omega) (by omega)
            have hS := F_same N (markS t q 1 true).1 t (by rw [hml]; omega) (by rw [hml]; unfold maxLen; omega)
            simp only [ev_br, ev_leaf, ev_c1, ev_c2, ev_c3, ev_c4, ev_cr, ev_cr2, ev_f0, ev_f1, ev_f2, obind_some, decide_eq_true_eq, Bool.not_eq_true', Bool.true_eq_false, Bool.false_eq_true, if_true, if_false, reduceCtorEq, hE, hEt, hEf, hS]
            rcases main 1 (.inl rfl) with ⟨h1, h2⟩ | ⟨h1, i, m, hi, hF, hm, h0, h3, hn, h4, h5, h6⟩
            · have hne : ((markS t q 1 true).2 != 0) = true := by simpa using h1
              simp only [hne, h2, ev_br, ev_leaf, ev_c1, ev_c2, ev_c3, ev_c4, ev_cr, ev_cr2, ev_f0, ev_f1, ev_f2, obind_some, decide_eq_true_eq, Bool.not_eq_true', Bool.true_eq_false, Bool.false_eq_true, if_true, if_false, reduceCtorEq, decide_true]
            · have hne : ((markS t q 1 true).2 != 0) = false := by simpa using h1
              have hS2 := F_same N (markS t q 1 true).1 (markS t q 1 true).1 (by rw [hml]; omega) (by rw [hml]; unfold maxLen; omega)
              obtain ⟨f1, f2, f3, f4, f5⟩ := setM_facts h0 h3 (.inl rfl : (1 : Int) = 1 ∨ (1 : Int) = 2) hn
              have hwl : ∀ m', (withM t i m').length = t.length := fun m' => by unfold withM; simp
              have g1 := withM_get t hi (setM m 1 true)
              have g2 := withM_get t hi (setM (setM m 1 true) 1 false)
              have o1 := setM_ok h0 h3 (.inl rfl : (1 : Int) = 1 ∨ (1 : Int) = 2) true
              have o2 := setM_ok o1.1 o1.2 (.inl rfl : (1 : Int) = 1 ∨ (1 : Int) = 2) false
              have a1 := andB o1.1 o1.2 (.inl rfl : (1 : Int) = 1 ∨ (1 : Int) = 2)
              have a2 := andB o2.1 o2.2 (.inl rfl : (1 : Int) = 1 ∨ (1 : Int) = 2)
              have a3 := andB h0 h3 (.inl rfl : (1 : Int) = 1 ∨ (1 : Int) = 2)
              have hS3 := F_same N (withM t i (setM (setM m 1 true) 1 false)) t (by rw [hwl]; omega) (by rw [hwl]; unfold maxLen; omega)
              have hi0 : ¬ (i : Int) < 0 := by omega
              have c1 : ∀ m', inR (i : Int) (withM t i m').length := fun m' => by rw [hwl]; exact ⟨by omega, by omega⟩
              have c2 : inR (i : Int) t.length := ⟨by omega, by omega⟩
              have hml2 : ((markS t q 1 true).1.length : Int) = (t.length : Int) := by rw [hml]
              simp only [hne, h5, h6, hF, ev_br, ev_leaf, ev_c1, ev_c2, ev_c3, ev_c4, ev_cr, ev_cr2, ev_f0, ev_f1, ev_f2, obind_some, decide_eq_true_eq, Bool.not_eq_true', Bool.true_eq_false, Bool.false_eq_true, if_true, if_false, reduceCtorEq, bne_self_eq_false, hi0, hml2, hwl, hS2, hS3, decide_true]
              simp only [h4, ev_ck (c1 _), ev_ck c2, ev_br, ev_leaf, ev_c1, ev_c2, ev_c3, ev_c4, ev_cr, ev_cr2, ev_f0, ev_f1, ev_f2, obind_some, decide_eq_true_eq, Bool.not_eq_true', Bool.true_eq_false, Bool.false_eq_true, if_true, if_false, reduceCtorEq, atI_nat, Int.toNat_natCast, g1, g2, a1, a2, ← hm, a3, f1, f3]
              simp (config := { decide := true }) only [if_true, if_false, Bool.false_eq_true]
              by_cases hh : hasB m 1 = true
              · simp (config := { decide := true }) only [hh, if_true]
              · have hh' : hasB m 1 = false := by simpa using hh
                have : withM t i (setM (setM m 1 true) 1 false) = t := by rw [f4 hh', hm]; exact withM_self t hi
                simp (config := { decide := true }) only [hh', this, if_true, if_false, Bool.false_eq_true]
        · have hq' : shortS q = false := by simpa using hq
          simp only [ev_br, ev_leaf, ev_c1, ev_c2, ev_c3, ev_c4, ev_cr, ev_cr2, ev_f0, ev_f1, ev_f2, obind_some, decide_eq_true_eq, Bool.not_eq_true', Bool.true_eq_false, Bool.false_eq_true, if_true, if_false, reduceCtorEq, hq']
      · have hr' : rightS t = false := by simpa using hr
        simp only [ev_br, ev_leaf, ev_c1, ev_c2, ev_c3, ev_c4, ev_cr, ev_cr2, ev_f0, ev_f1, ev_f2, obind_some, decide_eq_true_eq, Bool.not_eq_true', Bool.true_eq_false, Bool.false_eq_true, if_true, if_false, reduceCtorEq, hr']
  · have hs' : smallS t = false := by simpa using hs
    simp only [ev_br, ev_leaf, ev_c1, ev_c2, ev_c3, ev_c4, ev_cr, ev_cr2, ev_f0, ev_f1, ev_f2, obind_some, decide_eq_true_eq, Bool.not_eq_true', Bool.true_eq_false, Bool.false_eq_true, if_true, if_false, reduceCtorEq, hs']

/-! ### Paths that are set -/

theorem addL_id {t : List Ln} {q : List Bs} (h : ∀ k, k < q.length → gt t (q.take (k + 1)) ≠ none) : addL t q = t := by
  have key : ∀ k, k ≤ q.length → addN t q k = t := by
    intro k
    induction k with
    | zero => intro _; rfl
    | succ k ih =>
      intro hk
      rw [addN_succ, ih (by omega)]
      unfold addK
      rw [if_neg (h k (by omega))]
  exact key _ (Nat.le_refl _)
theorem addL_there {t : List Ln} (hrf : rf [] t = true) {q : List Bs} (h : gt t q ≠ none) : addL t q = t := addL_id fun k hk => by
  refine gt_pre hrf (s := q.drop (k + 1)) (fun e => ?_) (by rw [List.take_append_drop]; exact h)
  have := congrArg List.length e
  rw [List.length_take, List.length_nil] at this; omega
theorem addN_take (t : List Ln) (q : List Bs) (n : Nat) : ∀ k, k ≤ n → n ≤ q.length → addN t (q.take n) k = addN t q k
  | 0, _, _ => rfl
  | k + 1, hk, hn => by
    rw [addN_succ, addN_succ, addN_take t q n k (by omega) hn]
    unfold addK
    rw [List.take_take, Nat.min_eq_left (by omega)]

theorem set_again {t : List Ln} {q : List Bs} (he : (setS t q).2 = 0) : setS (setS t q).1 q = ((setS t q).1, 0) ∧ gt (setS t q).1 q ≠ none := by
  rcases set_or t q with ⟨h, _⟩ | ⟨_, ha, hr, hk, hu, hru, hg⟩
  · exact absurd he h
  · rw [hu]
    obtain ⟨h200, hurf⟩ := rightS_iff.1 hru
    obtain ⟨a1, a2, a3, a4, a5⟩ := addE_ok ha
    have hq : gt (addL t q) q ≠ none := by
      rw [hg]
      split
      · simp
      · rename_i h1
        exact fun h2 => h1 ⟨h2, a2, List.prefix_refl _⟩
    have hid := addL_there hurf hq
    have hE : addE (addL t q) q = 0 := by
      unfold addE
      rw [if_pos hru, if_neg a2, longW_iff.2 a3, if_neg (by simp), if_neg (by omega), hid, if_neg (by omega)]
    have hku : keptN (addL t q) q q.length = false := by
      cases hx : keptN (addL t q) q q.length with
      | false => rfl
      | true =>
        obtain ⟨p, m, p1, p2, p3⟩ := kept_all.1 hx
        rw [hg] at p2
        split at p2
        · have := Option.some.inj p2; omega
        · rw [kept_all.2 ⟨p, m, p1, p2, p3⟩] at hk; cases hk
    refine ⟨?_, hq⟩
    unfold setS
    rw [if_pos hE, hku, if_neg (by simp), hid]

theorem set_del {t : List Ln} {q : List Bs} (he : (setS t q).2 = 0) (hn : gt t q = none) :
    (1 < q.length → (setS t q.dropLast).2 = 0 ∧ delS (setS t q).1 q = ((setS t q.dropLast).1, 0)) ∧ (q.length ≤ 1 → delS (setS t q).1 q = (t, 0)) := by
  obtain ⟨_, hgq⟩ := set_again he
  rcases set_or t q with ⟨h, _⟩ | ⟨_, ha, hr, hk, hu, hru, hg⟩
  · exact absurd he h
  · rw [hu] at hgq ⊢
    obtain ⟨h200, hrf⟩ := rightS_iff.1 hr
    obtain ⟨hu200, hurf⟩ := rightS_iff.1 hru
    obtain ⟨a1, a2, a3, a4, a5⟩ := addE_ok ha
    have hqp := List.length_pos_iff.2 a2
    cases hf : fnd (addL t q) q with
    | none => exact absurd (fnd_none0.1 hf) hgq
    | some i =>
      have hsf : shutB (addL t q) q i = false := (shut_false hurf hf).2 fun p m hgp hpp => by
        rw [hg] at hgp
        split at hgp
        · have := Option.some.inj hgp; omega
        · rcases hpp with h1 | h1
          · rcases Int.lt_or_le 1 m with h2 | h2
            · rw [kept_all.2 ⟨p, m, h1, hgp, h2⟩] at hk; cases hk
            · exact h2
          · obtain ⟨s, rfl⟩ := h1
            exact absurd hn (gt_pre hrf a2 (s := s) (by rw [hgp]; simp))
      have hdel : delS (addL t q) q = (cutT (addL t q) i, 0) := by
        unfold delS
        rw [if_pos hru, if_neg a2, hf]
        simp only [hsf]
        rfl
      rcases del_or (addL t q) q with ⟨h, _⟩ | ⟨_, j, _, hf', _, hc, hrc, hgc⟩
      · rw [hdel] at h; exact absurd rfl h
      · rw [hf] at hf'
        have : j = i := (Option.some.inj hf').symm
        subst this
        rw [hdel]
        constructor
        · intro h1
          have hdl0 : q.dropLast ≠ [] := fun e => by
            have := congrArg List.length e
            simp at this; omega
          have hle : (addL t q.dropLast).length ≤ (addL t q).length := by
            have e1 : addL t q.dropLast = addN t q (q.length - 1) := by
              unfold addL
              rw [List.dropLast_eq_take, List.length_take, Nat.min_eq_left (by omega)]
              exact addN_take t q _ _ (Nat.le_refl _) (by omega)
            rw [e1]
            have := addN_mono t q (k := q.length - 1) 1
            rw [show q.length - 1 + 1 = q.length by omega] at this
            exact this
          have hE : addE t q.dropLast = 0 := by
            unfold addE
            rw [if_pos hr, if_neg hdl0, longW_iff.2 (fun w hw => a3 w ((List.dropLast_prefix q).subset hw)), if_neg (by simp), if_neg (by simp; omega), if_neg (by omega)]
          have hkd : keptN t q.dropLast q.dropLast.length = false := by
            cases hx : keptN t q.dropLast q.dropLast.length with
            | false => rfl
            | true =>
              obtain ⟨p, m, p1, p2, p3⟩ := kept_all.1 hx
              rw [kept_all.2 ⟨p, m, p1.trans (List.dropLast_prefix _), p2, p3⟩] at hk
              cases hk
          obtain ⟨d1, d2⟩ := addL_tree hE
          have hS : setS t q.dropLast = (addL t q.dropLast, 0) := by
            unfold setS
            rw [if_pos hE, hkd, if_neg (by simp)]
          rw [hS]
          refine ⟨rfl, Prod.ext ?_ rfl⟩
          refine gt_ext (rightS_iff.1 hrc).2 (rightS_iff.1 d1).2 fun p => ?_
          rw [hgc, d2, hg]
          by_cases hqp : q <+: p
          · rw [if_pos hqp]
            have hgp : gt t p = none := by
              cases hx : gt t p with
              | none => rfl
              | some m =>
                obtain ⟨s, rfl⟩ := hqp
                exact absurd hn (gt_pre hrf a2 (s := s) (by rw [hx]; simp))
            rw [if_neg (fun h => ?_), hgp]
            have := hqp.length_le
            have := h.2.2.length_le
            simp at this; omega
          · rw [if_neg hqp]
            have hiff : p <+: q ↔ p <+: q.dropLast := by
              constructor
              · intro h
                refine List.prefix_of_prefix_length_le h (List.dropLast_prefix _) ?_
                have h2 := h.length_le
                rcases Nat.lt_or_eq_of_le h2 with h3 | h3
                · simp; omega
                · exact absurd (by rw [h.eq_of_length h3]; exact List.prefix_refl _) hqp
              · exact fun h => h.trans (List.dropLast_prefix _)
            simp only [hiff]
        · intro h1
          refine Prod.ext ?_ rfl
          refine gt_ext (rightS_iff.1 hrc).2 hrf fun p => ?_
          rw [hgc, hg]
          by_cases hqp2 : q <+: p
          · rw [if_pos hqp2]
            cases hx : gt t p with
            | none => rfl
            | some m =>
              obtain ⟨s, rfl⟩ := hqp2
              exact absurd hn (gt_pre hrf a2 (s := s) (by rw [hx]; simp))
          · rw [if_neg hqp2, if_neg (fun h => ?_)]
            have h2 := h.2.2.length_le
            have h3 := List.length_pos_iff.2 h.2.1
            exact hqp2 (by rw [h.2.2.eq_of_length (by omega)]; exact List.prefix_refl _)

theorem L_sets (N : Nat) (t : List Ln) (q : List Bs) (hN : 5000 < N) : F9 N t q = some true := by
  unfold F9 V9
  simp only [ev_br, ev_leaf, ev_c1, ev_c2, ev_c3, ev_c4, ev_cr, ev_cr2, ev_f0, ev_f1, ev_f2, obind_some, decide_eq_true_eq, Bool.not_eq_true', Bool.true_eq_false, Bool.false_eq_true, if_true, if_false, reduceCtorEq, F_small N t (by omega), F_short N q (by omega), E_awake N hN]
  by_cases hs : smallS t = true
  · have hl := small_len hs
    simp only [ev_br, ev_leaf, ev_c1, ev_c2, ev_c3, ev_c4, ev_cr, ev_cr2, ev_f0, ev_f1, ev_f2, obind_some, decide_eq_true_eq, Bool.not_eq_true', Bool.true_eq_false, Bool.false_eq_true, if_true, if_false, reduceCtorEq, hs, R_right N t (by omega)]
    by_cases h60 : (60 : Int) < (t.length : Int)
    · rw [if_pos h60]
    · rw [if_neg h60]
      by_cases hr : rightS t = true
      · obtain ⟨h200, hrf⟩ := rightS_iff.1 hr
        simp only [ev_br, ev_leaf, ev_c1, ev_c2, ev_c3, ev_c4, ev_cr, ev_cr2, ev_f0, ev_f1, ev_f2, obind_some, decide_eq_true_eq, Bool.not_eq_true', Bool.true_eq_false, Bool.false_eq_true, if_true, if_false, reduceCtorEq, hr]
        by_cases hq : shortS q = true
        · have hq' := short_len hq
          have hsl := set_len t q
          have hE := E_set N t q (by omega) (by omega) (by omega) (by omega)
          have hE2 := E_set N (setS t q).1 q (by omega) (by omega) (by omega) (by omega)
          have hS := F_same N (setS t q).1 t (by omega) (by unfold maxLen; omega)
          simp only [ev_br, ev_leaf, ev_c1, ev_c2, ev_c3, ev_c4, ev_cr, ev_cr2, ev_f0, ev_f1, ev_f2, obind_some, decide_eq_true_eq, Bool.not_eq_true', Bool.true_eq_false, Bool.false_eq_true, if_true, if_false, reduceCtorEq, hq, hE, hE2, hS]
          by_cases he : (setS t q).2 = 0
          · have hne : ((setS t q).2 != 0) = false := by simpa using he
            obtain ⟨g1, g2⟩ := set_again he
            have hS2 := F_same N (setS t q).1 (setS t q).1 (by omega) (by unfold maxLen; omega)
            have hru : rightS (setS t q).1 = true := by
              rcases set_or t q with ⟨h, _⟩ | ⟨_, _, _, _, hu, h, _⟩
              · exact absurd he h
              · rw [hu]; exact h
            obtain ⟨hu200, hurf⟩ := rightS_iff.1 hru
            have hFu := R_finds N (setS t q).1 q hurf (by omega) (by omega) (by omega)
            have hFt := R_finds N t q hrf (by omega) (by omega) (by omega)
            cases hfu : fnd (setS t q).1 q with
            | none => exact absurd (fnd_none0.1 hfu) g2
            | some j =>
              rw [hfu] at hFu
              have hj : ¬ (j : Int) < 0 := by omega
              simp only [hne, g1, ev_br, ev_leaf, ev_c1, ev_c2, ev_c3, ev_c4, ev_cr, ev_cr2, ev_f0, ev_f1, ev_f2, obind_some, decide_eq_true_eq, Bool.not_eq_true', Bool.true_eq_false, Bool.false_eq_true, if_true, if_false, reduceCtorEq, bne_self_eq_false, hS2, decide_true, hFu, hj, hFt]
              cases hft : fnd t q with
              | some i =>
                have hgt : gt t q ≠ none := fun h => by rw [fnd_none0.2 h] at hft; cases hft
                have hid : (setS t q).1 = t := by
                  rcases set_or t q with ⟨h, _⟩ | ⟨_, _, _, _, hu, _, _⟩
                  · exact absurd he h
                  · rw [hu]; exact addL_there hrf hgt
                have hi : (0 : Int) ≤ (i : Int) := by omega
                simp only [hi, hid, ev_br, ev_leaf, ev_c1, ev_c2, ev_c3, ev_c4, ev_cr, ev_cr2, ev_f0, ev_f1, ev_f2, obind_some, decide_eq_true_eq, Bool.not_eq_true', Bool.true_eq_false, Bool.false_eq_true, if_true, if_false, reduceCtorEq, decide_true]
              | none =>
                have hgn := fnd_none0.1 hft
                obtain ⟨d1, d2⟩ := set_del he hgn
                have hdl := del_len (setS t q).1 q
                have hD := E_delete N (setS t q).1 q (by omega) (by omega) (by omega) (by omega)
                have h0 : ¬ (0 : Int) ≤ -1 := by omega
                by_cases h1 : (1 : Int) < (q.length : Int)
                · obtain ⟨d3, d4⟩ := d1 (by omega)
                  have e1 : ((q.length : Int) - 1).toNat = q.length - 1 := by omega
                  have ck1 : (0 : Int) ≤ 0 ∧ (0 : Int) ≤ (q.length : Int) - 1 ∧ (q.length : Int) - 1 ≤ (q.length : Int) := by omega
                  have hsl2 := set_len t q.dropLast
                  have hE3 := E_set N t q.dropLast (by omega) (by omega) (by simp; omega) (by simp; omega)
                  have hS3 := F_same N (setS t q.dropLast).1 (setS t q.dropLast).1 (by omega) (by unfold maxLen; omega)
                  simp (disch := first | assumption | omega) only [h0, ev_br, ev_leaf, ev_c1, ev_c2, ev_c3, ev_c4, ev_cr, ev_cr2, ev_f0, ev_f1, ev_f2, obind_some, decide_eq_true_eq, Bool.not_eq_true', Bool.true_eq_false, Bool.false_eq_true, if_true, if_false, reduceCtorEq, hD, h1, wrapI, ev_ck ck1, slc0, e1, ← List.dropLast_eq_take, hE3, d3, d4, bne_self_eq_false, beq_self_eq_true, hS3, decide_true]
                · have d4 := d2 (by omega)
                  have hS3 := F_same N t t (by omega) (by unfold maxLen; omega)
                  simp only [h0, ev_br, ev_leaf, ev_c1, ev_c2, ev_c3, ev_c4, ev_cr, ev_cr2, ev_f0, ev_f1, ev_f2, obind_some, decide_eq_true_eq, Bool.not_eq_true', Bool.true_eq_false, Bool.false_eq_true, if_true, if_false, reduceCtorEq, hD, h1, d4, beq_self_eq_true, hS3, decide_true]
          · have hne : ((setS t q).2 != 0) = true := by simpa using he
            rcases set_or t q with ⟨_, h⟩ | ⟨h, _⟩
            · simp only [hne, h, ev_br, ev_leaf, ev_c1, ev_c2, ev_c3, ev_c4, ev_cr, ev_cr2, ev_f0, ev_f1, ev_f2, obind_some, decide_eq_true_eq, Bool.not_eq_true', Bool.true_eq_false, Bool.false_eq_true, if_true, if_false, reduceCtorEq, decide_true]
            · exact absurd h he
        · have hq' : shortS q = false := by simpa using hq
          simp only [ev_br, ev_leaf, ev_c1, ev_c2, ev_c3, ev_c4, ev_cr, ev_cr2, ev_f0, ev_f1, ev_f2, obind_some, decide_eq_true_eq, Bool.not_eq_true', Bool.true_eq_false, Bool.false_eq_true, if_true, if_false, reduceCtorEq, hq']
      · have hr' : rightS t = false := by simpa using hr
        simp only [ev_br, ev_leaf, ev_c1, ev_c2, ev_c3, ev_c4, ev_cr, ev_cr2, ev_f0, ev_f1, ev_f2, obind_some, decide_eq_true_eq, Bool.not_eq_true', Bool.true_eq_false, Bool.false_eq_true, if_true, if_false, reduceCtorEq, hr']
  · have hs' : smallS t = false := by simpa using hs
    simp only [ev_br, ev_leaf, ev_c1, ev_c2, ev_c3, ev_c4, ev_cr, ev_cr2, ev_f0, ev_f1, ev_f2, obind_some, decide_eq_true_eq, Bool.not_eq_true', Bool.true_eq_false, Bool.false_eq_true, if_true, if_false, reduceCtorEq, hs']

end Go.Proofs.Ytcjlpdnhbgbooaa.Vc
