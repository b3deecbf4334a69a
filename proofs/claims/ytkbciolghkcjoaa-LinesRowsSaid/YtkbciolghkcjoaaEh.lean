/-
  WHAT THE DOCUMENT'S FUNCTIONS OF EDITING ANSWER: the same. No condition.
-/
import Derived.Test.YtkbciolghkcjoaaTh
import Derived.Test.YtkbciolghkcjoaaEg
set_option linter.unusedVariables false
set_option linter.unusedSimpArgs false
namespace Go.Proofs.Ytkbciolghkcjoaa.Vc

theorem R_finds (N : Nat) (t : List Ln) (q : List Bs) (hrf : rf [] t = true) (hm : t.length ≤ 1073741824) (hq : q.length ≤ 1073741824) (hN : t.length + 16 < N) : F28 N t q = some (match fnd t q with | some i => (i : Int) | none => -1) := by
  obtain ⟨i, ho, ⟨h0, hi, he⟩ | ⟨rfl, hn⟩⟩ := R_find0 N t q hrf hm hq hN
  · have hf : fnd t q = some i.toNat := by rw [← he]; exact fnd_at hrf (by omega)
    rw [ho, hf]; simp [Int.toNat_of_nonneg h0]
  · have hf : fnd t q = none := fnd_none0.2 (gt_none.2 hn)
    rw [ho, hf]

theorem R_putLoop (N : Nat) (t : List Ln) (u : List Bs) (w : Bs) (m : Int) (e : Int) (ks : List Int) (hk : ∀ k ∈ ks, 0 ≤ k ∧ k < t.length) (hl : ks.length ≤ 1000000) (hN : ks.length + 1 < N) :
    W29o_8 N (t, u, w, m, e, ks, (ks.length : Int) - 1) = some (.brk 0 (t, u, w, m, spotL t w ks e, ks, -1)) := by
  obtain ⟨o, ho, hp⟩ := runLoop_post (R := List Ln) (step := fun x => L29o_8 N x.1 x.2.1 x.2.2.1 x.2.2.2.1 x.2.2.2.2.1 x.2.2.2.2.2.1 x.2.2.2.2.2.2)
    (fun x => x.1 = t ∧ x.2.1 = u ∧ x.2.2.1 = w ∧ x.2.2.2.1 = m ∧ x.2.2.2.2.2.1 = ks ∧ -1 ≤ x.2.2.2.2.2.2 ∧ x.2.2.2.2.2.2 < ks.length ∧ x.2.2.2.2.1 = spotL t w (ks.drop (x.2.2.2.2.2.2 + 1).toNat) e) (fun x => (x.2.2.2.2.2.2 + 1).toNat)
    (fun o => o = .brk 0 (t, u, w, m, spotL t w ks e, ks, -1))
    (by
      rintro ⟨t', u', w', m', a, ks', i⟩ ⟨e1, e2, e3, e4, e5, h0, hle, ha⟩
      dsimp only at e1 e2 e3 e4 e5 h0 hle ha ⊢
      subst e1; subst e2; subst e3; subst e4; subst e5
      unfold L29o_8 U29o_8
      by_cases hi : 0 ≤ i
      · have hil : i.toNat < ks'.length := by omega
        have c1 : inR i ks'.length := ⟨hi, hle⟩
        have hat : atI tI ks' i = ks'[i.toNat] := by show ks'.getD _ _ = _; simp [hil]
        have c2 : inR (ks'[i.toNat]) t'.length := hk _ (List.getElem_mem hil)
        have hd := List.drop_eq_getElem_cons hil
        have hnext : spotL t' w' (ks'.drop i.toNat) e = if bl w' (t'.getD (ks'[i.toNat]).toNat (0, [], 0)).2.1 = true then ks'[i.toNat] else a := by
          rw [hd, ha, show (i + 1).toNat = i.toNat + 1 by omega]
          unfold spotL
          rw [List.find?_cons]
          cases bl w' (t'.getD (ks'[i.toNat]).toNat (0, [], 0)).2.1 <;> simp
        have e6 : (i - 1 + 1).toNat = i.toNat := by omega
        simp (disch := first | assumption | omega) only [ev_br, ev_leaf, ev_c1, ev_c2, ev_c3, ev_c4, ev_cr, ev_cr2, ev_f0, ev_f1, ev_f2, obind_some, decide_eq_true_eq, Bool.not_eq_true', Bool.true_eq_false, Bool.false_eq_true, if_true, if_false, reduceCtorEq, ev_ck, hi, wrapI, hat, atI_nat, bl_not, Bool.not_not]
        by_cases hb : bl w' (t'.getD (ks'[i.toNat]).toNat (0, [], 0)).2.1 = true
        · rw [if_pos hb] at hnext ⊢
          refine ⟨_, rfl, .inl ⟨_, rfl, ⟨rfl, rfl, rfl, rfl, rfl, by simp only; omega, by simp only; omega, ?_⟩, by simp only; omega⟩⟩
          simp only
          rw [e6, hnext]
        · rw [if_neg hb] at hnext ⊢
          refine ⟨_, rfl, .inl ⟨_, rfl, ⟨rfl, rfl, rfl, rfl, rfl, by simp only; omega, by simp only; omega, ?_⟩, by simp only; omega⟩⟩
          simp only
          rw [e6, hnext]
      · have : i = -1 := by omega
        subst this
        refine ⟨.brk 0 (t', u', w', m', a, ks', -1), by simp, .inr ⟨by simp, ?_⟩⟩
        rw [ha]; rfl) N (t, u, w, m, e, ks, (ks.length : Int) - 1) ⟨rfl, rfl, rfl, rfl, rfl, by simp only; omega, by simp only; omega, by
          simp only
          rw [show ((ks.length : Int) - 1 + 1).toNat = ks.length by omega, List.drop_length]; rfl⟩ (by simp only; omega)
  unfold W29o_8
  rw [ho, hp]

theorem R_put (N : Nat) (t : List Ln) (u : List Bs) (w : Bs) (m : Int) (hrf : rf [] t = true) (ht : t.length ≤ 100000) (hq : gt t (u ++ [w]) = none) (hu : u = [] ∨ gt t u ≠ none) (hN : t.length + 16 < N) (hul : u.length ≤ 100000) : F29o N t u w m = some (insT t (u ++ [w]) m) := by
  unfold F29o V29o
  have fin : ∀ p : Nat, p ≤ t.length → (p : Int) = plc t (u ++ [w]) → slc t 0 (p : Int) ++ ([((u.length : Int), w, m)] : List Ln) ++ slc t (p : Int) (t.length : Int) = insT t (u ++ [w]) m := by
    intro p hp he
    have : p = plc t (u ++ [w]) := by omega
    subst this
    rw [slc0, slcE, Int.toNat_natCast]
    unfold insT ln
    simp
  have hple := plc_le t (u ++ [w])
  have room1 : ∀ l : List Ln, l.length ≤ 1000000 → room l.length := fun l h => by show _ ≤ _; omega
  rcases hu with rfl | hu
  · have h1 : ¬ (0 : Int) < (([] : List Bs).length : Int) := by simp
    have hkl := kids_len t (-1)
    have hL := R_putLoop N t [] w m (t.length : Int) (kidsL t (-1)) (fun k hk => kids_in hk) (by omega) (by omega)
    have hsp := spot_root hrf (w := w) (by simpa using hq)
    rw [List.nil_append] at hple fin
    rw [hsp] at hL
    have r1 : room (slc t 0 (plc t [w] : Int)).length := by rw [slc0]; apply room1; rw [List.length_take]; omega
    have r2 : room ((slc t 0 (plc t [w] : Int)).length + ([((([] : List Bs).length : Int), w, m)] : List Ln).length) := by rw [slc0, List.length_take]; show _ ≤ _; simp; omega
    have r3 : room (((slc t 0 (plc t [w] : Int)) ++ ([((([] : List Bs).length : Int), w, m)] : List Ln)).length + (slc t (plc t [w] : Int) (t.length : Int)).length) := by
      rw [slc0, slcE]; show _ ≤ _; simp; omega
    simp (disch := omega) only [ev_br, ev_leaf, ev_c1, ev_c2, ev_c3, ev_c4, ev_cr, ev_cr2, ev_f0, ev_f1, ev_f2, obind_some, decide_eq_true_eq, Bool.not_eq_true', Bool.true_eq_false, Bool.false_eq_true, if_true, if_false, reduceCtorEq, h1, R_kids N t (-1) (by omega) (by omega), kidsS_eq, wrapI, hL, lp1_brk]
    have k1 : (0 : Int) ≤ 0 ∧ (0 : Int) ≤ (plc t [w] : Int) ∧ (plc t [w] : Int) ≤ (t.length : Int) := by omega
    have k2 : (0 : Int) ≤ (plc t [w] : Int) ∧ (plc t [w] : Int) ≤ (t.length : Int) ∧ (t.length : Int) ≤ (t.length : Int) := by omega
    simp (disch := assumption) only [ev_ck, ev_leaf]
    rw [fin _ (by omega) rfl, List.nil_append]
  · have hu0 : u ≠ [] := fun e => hu (by rw [e]; exact gt_nil t)
    have h1 : (0 : Int) < (u.length : Int) := by have := List.length_pos_iff.2 hu0; omega
    cases hf : fnd t u with
    | none => exact absurd (fnd_none0.1 hf) hu
    | some i =>
      obtain ⟨hi, hp⟩ := fnd_of hf
      have hkl := kids_len t i
      have hL := R_putLoop N t u w m (endN t i : Int) (kidsL t i) (fun k hk => kids_in hk) (by omega) (by omega)
      have hsp := spot_kid hrf hi (w := w) (by rw [hp]; exact hq)
      rw [hp] at hsp
      rw [hsp] at hL
      have r1 : room (slc t 0 (plc t (u ++ [w]) : Int)).length := by rw [slc0]; apply room1; rw [List.length_take]; omega
      have r2 : room ((slc t 0 (plc t (u ++ [w]) : Int)).length + ([((u.length : Int), w, m)] : List Ln).length) := by rw [slc0, List.length_take]; show _ ≤ _; simp; omega
      have r3 : room (((slc t 0 (plc t (u ++ [w]) : Int)) ++ ([((u.length : Int), w, m)] : List Ln)).length + (slc t (plc t (u ++ [w]) : Int) (t.length : Int)).length) := by
        rw [slc0, slcE]; show _ ≤ _; simp; omega
      simp (disch := omega) only [ev_br, ev_leaf, ev_c1, ev_c2, ev_c3, ev_c4, ev_cr, ev_cr2, ev_f0, ev_f1, ev_f2, obind_some, decide_eq_true_eq, Bool.not_eq_true', Bool.true_eq_false, Bool.false_eq_true, if_true, if_false, reduceCtorEq, h1, R_finds N t u hrf (by omega) (by omega) hN, hf, R_end N t i (by omega) (by omega) (by omega) (by omega), R_kids N t i (by omega) (by omega), kidsS_eq, Int.toNat_natCast, wrapI, hL, lp1_brk]
      have k1 : (0 : Int) ≤ 0 ∧ (0 : Int) ≤ (plc t (u ++ [w]) : Int) ∧ (plc t (u ++ [w]) : Int) ≤ (t.length : Int) := by omega
      have k2 : (0 : Int) ≤ (plc t (u ++ [w]) : Int) ∧ (plc t (u ++ [w]) : Int) ≤ (t.length : Int) ∧ (t.length : Int) ≤ (t.length : Int) := by omega
      simp (disch := assumption) only [ev_ck, ev_leaf]
      rw [fin _ (by omega) rfl]

theorem R_add (N : Nat) (t : List Ln) (q : List Bs) (hN : 1000 < N) (ht : t.length < N) (hq : q.length < N) (hq2 : q.length ≤ 1000000) : F14 N t q = some (addS t q) := by
  unfold F14 V14 addS addE
  simp only [ev_br, ev_leaf, ev_c1, ev_c2, ev_c3, ev_c4, ev_cr, ev_cr2, ev_f0, ev_f1, ev_f2, obind_some, decide_eq_true_eq, Bool.not_eq_true', Bool.true_eq_false, Bool.false_eq_true, if_true, if_false, reduceCtorEq, R_right N t ht]
  by_cases hr : rightS t = true
  · obtain ⟨h200, hrf⟩ := rightS_iff.1 hr
    simp only [hr, if_true, if_false, Bool.true_eq_false]
    by_cases hq0 : q = []
    · simp [hq0]
    · have hb : ((q.length : Int) == 0) = false := by simp; exact hq0
      rw [hb, if_neg hq0]
      simp only [Bool.false_eq_true, if_false]
      have h1 := loop_all (R := List Ln × Int) (step := fun x => L14_4 N x.1 x.2.1 x.2.2) q.length (fun k => decide ((q.getD k []).length ≤ 40)) (fun i => (t, q, i)) (t, 1) (fun i h0 hi => by
        unfold L14_4 U14_4
        by_cases h : i < q.length
        · have c1 : inR i q.length := ⟨h0, h⟩
          have hat : atI tS q i = q.getD i.toNat [] := rfl
          simp (disch := first | assumption | omega) only [ev_br, ev_leaf, ev_c1, ev_c2, ev_c3, ev_c4, ev_cr, ev_cr2, ev_f0, ev_f1, ev_f2, obind_some, decide_eq_true_eq, Bool.not_eq_true', Bool.true_eq_false, Bool.false_eq_true, if_true, if_false, reduceCtorEq, h, wrapI, ev_ck, hat]
          by_cases h2 : (q.getD i.toNat []).length ≤ 40
          · rw [if_neg (by omega), if_pos h2]
          · rw [if_pos (by omega), if_neg h2]
        · simp [h]) N hq
      have h2 : ((List.range q.length).all fun k => decide ((q.getD k []).length ≤ 40)) = !longW q := by
        rw [all_getD [] (fun w : Bs => decide (w.length ≤ 40))]
        unfold longW
        rw [List.any_eq_not_all_not, Bool.not_not]
        congr 1
        funext w
        rw [Bool.eq_iff_iff]; simp
      rw [h2] at h1
      unfold W14_4
      rw [h1]
      by_cases hl : longW q = true
      · simp [hl]
      · have hl' : longW q = false := by simpa using hl
        simp only [hl', Bool.not_false, if_true, lp1_brk, ev_br, ev_leaf, ev_c1, ev_c2, ev_c3, ev_c4, ev_cr, ev_cr2, ev_f0, ev_f1, ev_f2, obind_some, decide_eq_true_eq, Bool.not_eq_true', Bool.true_eq_false, Bool.false_eq_true, if_true, if_false, reduceCtorEq]
        by_cases h16 : 16 < q.length
        · have : (16 : Int) < (q.length : Int) := by omega
          simp [h16, this]
        · have h16' : ¬ (16 : Int) < (q.length : Int) := by omega
          rw [if_neg h16', if_neg h16]
          have h40 := longW_iff.1 hl'
          have h3 := loop_fold0 (R := List Ln × Int) (step := fun x => L14_12 N x.1 x.2.1 x.2.2.1 x.2.2.2) q.length (addK q) (fun out i => (t, q, out, i + 1)) (fun out k => out = addN t q k) (fun out k hI hk => by rw [hI, addN_succ]) (fun out k hI hk => by
            unfold L14_12 U14_12
            by_cases h : k < q.length
            · obtain ⟨g1, g2⟩ := addN_tree hrf (by omega) h40 k (by omega)
              have hol := (addN_len t q k).2
              rw [← hI] at g1 g2 hol
              have e1 : ((k : Int) + 1).toNat = k + 1 := by omega
              have e2 : ((k : Int) + 1 - 1) = (k : Int) := by omega
              have e3 : (k : Int) + 1 ≤ (q.length : Int) := by omega
              have c1 : inR (k : Int) q.length := ⟨by omega, by omega⟩
              have hat : atI tS q (k : Int) = q.getD k [] := rfl
              have htk : q.take (k + 1) = q.take k ++ [q.getD k []] := by rw [List.take_succ_eq_append_getElem h, getD_lt h]
              have hF := R_finds N out (q.take (k + 1)) g1 (by omega) (by rw [List.length_take]; omega) (by omega)
              have ck1 : (0 : Int) ≤ 0 ∧ (0 : Int) ≤ (k : Int) + 1 ∧ (k : Int) + 1 ≤ (q.length : Int) := ⟨by omega, by omega, e3⟩
              simp (disch := first | assumption | omega) only [ev_br, ev_leaf, ev_c1, ev_c2, ev_c3, ev_c4, ev_cr, ev_cr2, ev_f0, ev_f1, ev_f2, obind_some, decide_eq_true_eq, Bool.not_eq_true', Bool.true_eq_false, Bool.false_eq_true, if_true, if_false, reduceCtorEq, if_pos h, wrapI, ev_ck, slc0, e1, hF]
              unfold addK
              cases hf : fnd out (q.take (k + 1)) with
              | some i =>
                have hg : gt out (q.take (k + 1)) ≠ none := fun h => by rw [fnd_none0.2 h] at hf; cases hf
                have h4 : ¬ (i : Int) < 0 := by omega
                simp only [h4, if_false, if_neg hg, if_pos e3]
              | none =>
                have hg := fnd_none0.1 hf
                have hpar : q.take k = [] ∨ gt out (q.take k) ≠ none := by
                  by_cases h5 : q.take k = []
                  · exact .inl h5
                  · right
                    rw [g2]
                    split
                    · simp
                    · rename_i h6
                      exact fun h7 => h6 ⟨h7, h5, List.prefix_refl _⟩
                have hput := R_put N out (q.take k) (q.getD k []) 0 g1 (by omega) (by rw [← htk]; exact hg) hpar (by omega) (by rw [List.length_take]; omega)
                rw [← htk] at hput
                have h4 : (-1 : Int) < 0 := by omega
                simp (disch := first | assumption | omega) only [ev_br, ev_leaf, ev_c1, ev_c2, ev_c3, ev_c4, ev_cr, ev_cr2, ev_f0, ev_f1, ev_f2, obind_some, decide_eq_true_eq, Bool.not_eq_true', Bool.true_eq_false, Bool.false_eq_true, if_true, if_false, reduceCtorEq, h4, e2, ev_ck, wrapI, hat, Int.toNat_natCast, hput, if_pos hg, if_pos e3]
            · have e3 : ¬ (k : Int) + 1 ≤ (q.length : Int) := by omega
              simp [h, e3]) t rfl N hq
          simp only [Int.zero_add] at h3
          unfold W14_12
          rw [h3]
          have e4 : (List.range q.length).foldl (addK q) t = addL t q := rfl
          rw [e4]
          simp only [lp1_brk, ev_br, ev_leaf, ev_c1, ev_c2, ev_c3, ev_c4, ev_cr, ev_cr2, ev_f0, ev_f1, ev_f2, obind_some, decide_eq_true_eq, Bool.not_eq_true', Bool.true_eq_false, Bool.false_eq_true, if_true, if_false, reduceCtorEq]
          by_cases h5 : 200 < (addL t q).length
          · have : (200 : Int) < ((addL t q).length : Int) := by omega
            simp [h5, this]
          · have : ¬ (200 : Int) < ((addL t q).length : Int) := by omega
            simp [h5, this]
  · have hr' : rightS t = false := by simpa using hr
    simp [hr']

end Go.Proofs.Ytkbciolghkcjoaa.Vc
