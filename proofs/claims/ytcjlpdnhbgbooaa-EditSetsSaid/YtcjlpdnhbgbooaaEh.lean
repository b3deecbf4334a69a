/-
  WHAT THE DOCUMENT'S FUNCTIONS OF EDITING ANSWER: the same. No condition.
-/
import Derived.Test.YtcjlpdnhbgbooaaTh
import Derived.Test.YtcjlpdnhbgbooaaEg
set_option linter.unusedVariables false
set_option linter.unusedSimpArgs false
namespace Go.Proofs.Ytcjlpdnhbgbooaa.Vc

theorem R_finds (N : Nat) (t : List Ln) (q : List Bs) (hrf : rf [] t = true) (hm : t.length ≤ 1073741824) (hq : q.length ≤ 1073741824) (hN : t.length + 16 < N) : F29 N t q = some (match fnd t q with | some i => (i : Int) | none => -1) := by
  obtain ⟨i, ho, ⟨h0, hi, he⟩ | ⟨rfl, hn⟩⟩ := R_find0 N t q hrf hm hq hN
  · have hf : fnd t q = some i.toNat := by rw [← he]; exact fnd_at hrf (by omega)
    rw [ho, hf]; simp [Int.toNat_of_nonneg h0]
  · have hf : fnd t q = none := fnd_none0.2 (gt_none.2 hn)
    rw [ho, hf]

theorem R_kept (N : Nat) (t : List Ln) (q : List Bs) (n : Int) (hr : rightS t = true) (hn : n ≤ q.length) (hN : t.length + 16 < N) (hq : q.length ≤ 1000000) (hqN : q.length < N) : F18 N t q n = some (keptN t q n.toNat) := by
  obtain ⟨h200, hrf⟩ := rightS_iff.1 hr
  unfold F18 V18
  simp only [ev_f1, ev_leaf]
  have := loop_all (R := Bool) (step := fun x => L18_2 N x.1 x.2.1 x.2.2.1 x.2.2.2) n.toNat (fun k => !hot (gt t (q.take (k + 1)))) (fun i => (t, q, n, i + 1)) true (fun i h0 hi => by
    unfold L18_2 U18_2
    by_cases h : i < n.toNat
    · have h' : i + 1 ≤ n := by omega
      have e1 : (i + 1).toNat = i.toNat + 1 := by omega
      have hF := R_finds N t (q.take (i.toNat + 1)) hrf (by omega) (by rw [List.length_take]; omega) hN
      simp (disch := first | assumption | omega) only [ev_br, ev_leaf, ev_c1, ev_c2, ev_c3, ev_c4, ev_cr, ev_cr2, ev_f0, ev_f1, ev_f2, obind_some, decide_eq_true_eq, Bool.not_eq_true', Bool.true_eq_false, Bool.false_eq_true, if_true, if_false, reduceCtorEq, h, h', wrapI, ev_ck, slc0, e1, hF]
      cases hf : fnd t (q.take (i.toNat + 1)) with
      | none =>
        rw [fnd_none0.1 hf]
        simp [hot]
      | some j =>
        have hj := (fnd_of hf).1
        have hin : inR (j : Int) t.length := ⟨by omega, by omega⟩
        have h3 : (0 : Int) ≤ (j : Int) := by omega
        simp only [ev_br, ev_leaf, ev_c1, ev_c2, ev_c3, ev_c4, ev_cr, ev_cr2, ev_f0, ev_f1, ev_f2, obind_some, decide_eq_true_eq, Bool.not_eq_true', Bool.true_eq_false, Bool.false_eq_true, if_true, if_false, reduceCtorEq, ev_ck hin, h3]
        have hh : hot (gt t (q.take (i.toNat + 1))) = decide (1 < (t.getD j (0, [], 0)).2.2) := by rw [fnd_gt hrf hf]; rfl
        by_cases hb : 1 < (t.getD j (0, [], 0)).2.2
        · have hh' : hot (gt t (q.take (i.toNat + 1))) = true := by rw [hh]; exact decide_eq_true hb
          rw [if_pos (show 1 < (atI tLn t (j : Int)).2.2 from hb)]
          simp only [hh', Bool.true_eq_false, if_false]
        · have hh' : hot (gt t (q.take (i.toNat + 1))) = false := by rw [hh]; exact decide_eq_false hb
          rw [if_neg (show ¬ 1 < (atI tLn t (j : Int)).2.2 from hb)]
          simp only [hh', if_true]
    · have h' : ¬ i + 1 ≤ n := by omega
      simp only [ev_br, ev_leaf, ev_c1, ev_c2, ev_c3, ev_c4, ev_cr, ev_cr2, ev_f0, ev_f1, ev_f2, obind_some, decide_eq_true_eq, Bool.not_eq_true', Bool.true_eq_false, Bool.false_eq_true, if_true, if_false, reduceCtorEq, h, h']) N (by omega)
  unfold W18_2
  simp only [Int.zero_add] at this
  rw [this]
  unfold keptN
  rw [List.any_eq_not_all_not]
  cases (List.range n.toNat).all fun k => !hot (gt t (q.take (k + 1))) <;> rfl

theorem R_with (N : Nat) (q : List Bs) (w : Bs) (h : q.length ≤ 1000000) : F23o N q w = some (q ++ [w]) := by
  unfold F23o V23o
  have h1 : room q.length := by show _ ≤ _; omega
  have h2 : room (q.length + ([w] : List Bs).length) := by show _ ≤ _; simp; omega
  rw [ev_ck h1, ev_ck h2, ev_leaf]

theorem R_putLoop (N : Nat) (t : List Ln) (u : List Bs) (w : Bs) (m : Int) (e : Int) (ks : List Int) (hk : ∀ k ∈ ks, 0 ≤ k ∧ k < t.length) (hl : ks.length ≤ 1000000) (hN : ks.length + 1 < N) :
    W55o_8 N (t, u, w, m, e, ks, (ks.length : Int) - 1) = some (.brk 0 (t, u, w, m, spotL t w ks e, ks, -1)) := by
  obtain ⟨o, ho, hp⟩ := runLoop_post (R := List Ln) (step := fun x => L55o_8 N x.1 x.2.1 x.2.2.1 x.2.2.2.1 x.2.2.2.2.1 x.2.2.2.2.2.1 x.2.2.2.2.2.2)
    (fun x => x.1 = t ∧ x.2.1 = u ∧ x.2.2.1 = w ∧ x.2.2.2.1 = m ∧ x.2.2.2.2.2.1 = ks ∧ -1 ≤ x.2.2.2.2.2.2 ∧ x.2.2.2.2.2.2 < ks.length ∧ x.2.2.2.2.1 = spotL t w (ks.drop (x.2.2.2.2.2.2 + 1).toNat) e) (fun x => (x.2.2.2.2.2.2 + 1).toNat)
    (fun o => o = .brk 0 (t, u, w, m, spotL t w ks e, ks, -1))
    (by
      rintro ⟨t', u', w', m', a, ks', i⟩ ⟨e1, e2, e3, e4, e5, h0, hle, ha⟩
      dsimp only at e1 e2 e3 e4 e5 h0 hle ha ⊢
      subst e1; subst e2; subst e3; subst e4; subst e5
      unfold L55o_8 U55o_8
      by_cases hi : 0 ≤ i
      · have hil : i.toNat < ks'.length := by omega
        have c1 : inR i ks'.length := ⟨hi, hle⟩
        have hat : atI tI ks' i = ks'[i.toNat] := by show ks'.getD _ _ = _; simp [hil]
        have c2 : inR (ks'[i.toNat]) t'.length := hk _ (List.getElem_mem hil)
        have hd := List.drop_eq_getElem_cons hil
        have hnext : spotL t' w' (ks'.drop i.toNat) e = if bl w' (t'.getD (ks'[i.toNat]).toNat (0, [], 0)).2.1 = true then ks'[i.toNat] else a := by
          rw [hd, ha, show (i + 1).toNat = i.toNat + 1 by omega]
          unfold spotL
          rw [List.find?_cons]
          cases bl w' (t'.getD (ks'[i.toNat]).toNat (0, [], 0)).2.1 <;> simp
        have e6 : (i - 1 + 1).toNat = i.toNat := by omega
        simp (disch := first | assumption | omega) only [ev_br, ev_leaf, ev_c1, ev_c2, ev_c3, ev_c4, ev_cr, ev_cr2, ev_f0, ev_f1, ev_f2, obind_some, decide_eq_true_eq, Bool.not_eq_true', Bool.true_eq_false, Bool.false_eq_true, if_true, if_false, reduceCtorEq, ev_ck, hi, wrapI, hat, atI_nat, bl_not, Bool.not_not]
        by_cases hb : bl w' (t'.getD (ks'[i.toNat]).toNat (0, [], 0)).2.1 = true
        · rw [if_pos hb] at hnext ⊢
          refine ⟨_, rfl, .inl ⟨_, rfl, ⟨rfl, rfl, rfl, rfl, rfl, by simp only; omega, by simp only; omega, ?_⟩, by simp only; omega⟩⟩
          simp only
          rw [e6, hnext]
        · rw [if_neg hb] at hnext ⊢
          refine ⟨_, rfl, .inl ⟨_, rfl, ⟨rfl, rfl, rfl, rfl, rfl, by simp only; omega, by simp only; omega, ?_⟩, by simp only; omega⟩⟩
          simp only
          rw [e6, hnext]
      · have : i = -1 := by omega
        subst this
        refine ⟨.brk 0 (t', u', w', m', a, ks', -1), by simp, .inr ⟨by simp, ?_⟩⟩
        rw [ha]; rfl) N (t, u, w, m, e, ks, (ks.length : Int) - 1) ⟨rfl, rfl, rfl, rfl, rfl, by simp only; omega, by simp only; omega, by
          simp only
          rw [show ((ks.length : Int) - 1 + 1).toNat = ks.length by omega, List.drop_length]; rfl⟩ (by simp only; omega)
  unfold W55o_8
  rw [ho, hp]

theorem R_put (N : Nat) (t : List Ln) (u : List Bs) (w : Bs) (m : Int) (hrf : rf [] t = true) (ht : t.length ≤ 100000) (hq : gt t (u ++ [w]) = none) (hu : u = [] ∨ gt t u ≠ none) (hN : t.length + 16 < N) (hul : u.length ≤ 100000) : F55o N t u w m = some (insT t (u ++ [w]) m) := by
  unfold F55o V55o
  have fin : ∀ p : Nat, p ≤ t.length → (p : Int) = plc t (u ++ [w]) → slc t 0 (p : Int) ++ ([((u.length : Int), w, m)] : List Ln) ++ slc t (p : Int) (t.length : Int) = insT t (u ++ [w]) m := by
    intro p hp he
    have : p = plc t (u ++ [w]) := by omega
    subst this
    rw [slc0, slcE, Int.toNat_natCast]
    unfold insT ln
    simp
  have hple := plc_le t (u ++ [w])
  have room1 : ∀ l : List Ln, l.length ≤ 1000000 → room l.length := fun l h => by show _ ≤ _; omega
  rcases hu with rfl | hu
  · have h1 : ¬ (0 : Int) < (([] : List Bs).length : Int) := by simp
    have hkl := kids_len t (-1)
    have hL := R_putLoop N t [] w m (t.length : Int) (kidsL t (-1)) (fun k hk => kids_in hk) (by omega) (by omega)
    have hsp := spot_root hrf (w := w) (by simpa using hq)
    rw [List.nil_append] at hple fin
    rw [hsp] at hL
    have r1 : room (slc t 0 (plc t [w] : Int)).length := by rw [slc0]; apply room1; rw [List.length_take]; omega
    have r2 : room ((slc t 0 (plc t [w] : Int)).length + ([((([] : List Bs).length : Int), w, m)] : List Ln).length) := by rw [slc0, List.length_take]; show _ ≤ _; simp; omega
    have r3 : room (((slc t 0 (plc t [w] : Int)) ++ ([((([] : List Bs).length : Int), w, m)] : List Ln)).length + (slc t (plc t [w] : Int) (t.length : Int)).length) := by
      rw [slc0, slcE]; show _ ≤ _; simp; omega
    simp (disch := omega) only [ev_br, ev_leaf, ev_c1, ev_c2, ev_c3, ev_c4, ev_cr, ev_cr2, ev_f0, ev_f1, ev_f2, obind_some, decide_eq_true_eq, Bool.not_eq_true', Bool.true_eq_false, Bool.false_eq_true, if_true, if_false, reduceCtorEq, h1, R_kids N t (-1) (by omega) (by omega), kidsS_eq, wrapI, hL, lp1_brk]
    have k1 : (0 : Int) ≤ 0 ∧ (0 : Int) ≤ (plc t [w] : Int) ∧ (plc t [w] : Int) ≤ (t.length : Int) := by omega
    have k2 : (0 : Int) ≤ (plc t [w] : Int) ∧ (plc t [w] : Int) ≤ (t.length : Int) ∧ (t.length : Int) ≤ (t.length : Int) := by omega
    simp (disch := assumption) only [ev_ck, ev_leaf]
    rw [fin _ (by omega) rfl, List.nil_append]
  · have hu0 : u ≠ [] := fun e => hu (by rw [e]; exact gt_nil t)
    have h1 : (0 : Int) < (u.length : Int) := by have := List.length_pos_iff.2 hu0; omega
    cases hf : fnd t u with
    | none => exact absurd (fnd_none0.1 hf) hu
    | some i =>
      obtain ⟨hi, hp⟩ := fnd_of hf
      have hkl := kids_len t i
      have hL := R_putLoop N t u w m (endN t i : Int) (kidsL t i) (fun k hk => kids_in hk) (by omega) (by omega)
      have hsp := spot_kid hrf hi (w := w) (by rw [hp]; exact hq)
      rw [hp] at hsp
      rw [hsp] at hL
      have r1 : room (slc t 0 (plc t (u ++ [w]) : Int)).length := by rw [slc0]; apply room1; rw [List.length_take]; omega
      have r2 : room ((slc t 0 (plc t (u ++ [w]) : Int)).length + ([((u.length : Int), w, m)] : List Ln).length) := by rw [slc0, List.length_take]; show _ ≤ _; simp; omega
      have r3 : room (((slc t 0 (plc t (u ++ [w]) : Int)) ++ ([((u.length : Int), w, m)] : List Ln)).length + (slc t (plc t (u ++ [w]) : Int) (t.length : Int)).length) := by
        rw [slc0, slcE]; show _ ≤ _; simp; omega
      simp (disch := omega) only [ev_br, ev_leaf, ev_c1, ev_c2, ev_c3, ev_c4, ev_cr, ev_cr2, ev_f0, ev_f1, ev_f2, obind_some, decide_eq_true_eq, Bool.not_eq_true', Bool.true_eq_false, Bool.false_eq_true, if_true, if_false, reduceCtorEq, h1, R_finds N t u hrf (by omega) (by omega) hN, hf, R_end N t i (by omega) (by omega) (by omega) (by omega), R_kids N t i (by omega) (by omega), kidsS_eq, Int.toNat_natCast, wrapI, hL, lp1_brk]
      have k1 : (0 : Int) ≤ 0 ∧ (0 : Int) ≤ (plc t (u ++ [w]) : Int) ∧ (plc t (u ++ [w]) : Int) ≤ (t.length : Int) := by omega
      have k2 : (0 : Int) ≤ (plc t (u ++ [w]) : Int) ∧ (plc t (u ++ [w]) : Int) ≤ (t.length : Int) ∧ (t.length : Int) ≤ (t.length : Int) := by omega
      simp (disch := assumption) only [ev_ck, ev_leaf]
      rw [fin _ (by omega) rfl]

theorem R_add (N : Nat) (t : List Ln) (q : List Bs) (hN : 1000 < N) (ht : t.length < N) (hq : q.length < N) (hq2 : q.length ≤ 1000000) : F43 N t q = some (addS t q) := by
  unfold F43 V43 addS addE
  simp only [ev_br, ev_leaf, ev_c1, ev_c2, ev_c3, ev_c4, ev_cr, ev_cr2, ev_f0, ev_f1, ev_f2, obind_some, decide_eq_true_eq, Bool.not_eq_true', Bool.true_eq_false, Bool.false_eq_true, if_true, if_false, reduceCtorEq, R_right N t ht]
  by_cases hr : rightS t = true
  · obtain ⟨h200, hrf⟩ := rightS_iff.1 hr
    simp only [hr, if_true, if_false, Bool.true_eq_false]
    by_cases hq0 : q = []
    · simp [hq0]
    · have hb : ((q.length : Int) == 0) = false := by simp; exact hq0
      rw [hb, if_neg hq0]
      simp only [Bool.false_eq_true, if_false]
      have h1 := loop_all (R := List Ln × Int) (step := fun x => L43_4 N x.1 x.2.1 x.2.2) q.length (fun k => decide ((q.getD k []).length ≤ 40)) (fun i => (t, q, i)) (t, 1) (fun i h0 hi => by
        unfold L43_4 U43_4
        by_cases h : i < q.length
        · have c1 : inR i q.length := ⟨h0, h⟩
          have hat : atI tS q i = q.getD i.toNat [] := rfl
          simp (disch := first | assumption | omega) only [ev_br, ev_leaf, ev_c1, ev_c2, ev_c3, ev_c4, ev_cr, ev_cr2, ev_f0, ev_f1, ev_f2, obind_some, decide_eq_true_eq, Bool.not_eq_true', Bool.true_eq_false, Bool.false_eq_true, if_true, if_false, reduceCtorEq, h, wrapI, ev_ck, hat]
          by_cases h2 : (q.getD i.toNat []).length ≤ 40
          · rw [if_neg (by omega), if_pos h2]
          · rw [if_pos (by omega), if_neg h2]
        · simp [h]) N hq
      have h2 : ((List.range q.length).all fun k => decide ((q.getD k []).length ≤ 40)) = !longW q := by
        rw [all_getD [] (fun w : Bs => decide (w.length ≤ 40))]
        unfold longW
        rw [List.any_eq_not_all_not, Bool.not_not]
        congr 1
        funext w
        rw [Bool.eq_iff_iff]; simp
      rw [h2] at h1
      unfold W43_4
      rw [h1]
      by_cases hl : longW q = true
      · simp [hl]
      · have hl' : longW q = false := by simpa using hl
        simp only [hl', Bool.not_false, if_true, lp1_brk, ev_br, ev_leaf, ev_c1, ev_c2, ev_c3, ev_c4, ev_cr, ev_cr2, ev_f0, ev_f1, ev_f2, obind_some, decide_eq_true_eq, Bool.not_eq_true', Bool.true_eq_false, Bool.false_eq_true, if_true, if_false, reduceCtorEq]
        by_cases h16 : 16 < q.length
        · have : (16 : Int) < (q.length : Int) := by omega
          simp [h16, this]
        · have h16' : ¬ (16 : Int) < (q.length : Int) := by omega
          rw [if_neg h16', if_neg h16]
          have h40 := longW_iff.1 hl'
          have h3 := loop_fold0 (R := List Ln × Int) (step := fun x => L43_12 N x.1 x.2.1 x.2.2.1 x.2.2.2) q.length (addK q) (fun out i => (t, q, out, i + 1)) (fun out k => out = addN t q k) (fun out k hI hk => by rw [hI, addN_succ]) (fun out k hI hk => by
            unfold L43_12 U43_12
            by_cases h : k < q.length
            · obtain ⟨g1, g2⟩ := addN_tree hrf (by omega) h40 k (by omega)
              have hol := (addN_len t q k).2
              rw [← hI] at g1 g2 hol
              have e1 : ((k : Int) + 1).toNat = k + 1 := by omega
              have e2 : ((k : Int) + 1 - 1) = (k : Int) := by omega
              have e3 : (k : Int) + 1 ≤ (q.length : Int) := by omega
              have c1 : inR (k : Int) q.length := ⟨by omega, by omega⟩
              have hat : atI tS q (k : Int) = q.getD k [] := rfl
              have htk : q.take (k + 1) = q.take k ++ [q.getD k []] := by rw [List.take_succ_eq_append_getElem h, getD_lt h]
              have hF := R_finds N out (q.take (k + 1)) g1 (by omega) (by rw [List.length_take]; omega) (by omega)
              have ck1 : (0 : Int) ≤ 0 ∧ (0 : Int) ≤ (k : Int) + 1 ∧ (k : Int) + 1 ≤ (q.length : Int) := ⟨by omega, by omega, e3⟩
              simp (disch := first | assumption | omega) only [ev_br, ev_leaf, ev_c1, ev_c2, ev_c3, ev_c4, ev_cr, ev_cr2, ev_f0, ev_f1, ev_f2, obind_some, decide_eq_true_eq, Bool.not_eq_true', Bool.true_eq_false, Bool.false_eq_true, if_true, if_false, reduceCtorEq, if_pos h, wrapI, ev_ck, slc0, e1, hF]
              unfold addK
              cases hf : fnd out (q.take (k + 1)) with
              | some i =>
                have hg : gt out (q.take (k + 1)) ≠ none := fun h => by rw [fnd_none0.2 h] at hf; cases hf
                have h4 : ¬ (i : Int) < 0 := by omega
                simp only [h4, if_false, if_neg hg, if_pos e3]
              | none =>
                have hg := fnd_none0.1 hf
                have hpar : q.take k = [] ∨ gt out (q.take k) ≠ none := by
                  by_cases h5 : q.take k = []
                  · exact .inl h5
                  · right
                    rw [g2]
                    split
                    · simp
                    · rename_i h6
                      exact fun h7 => h6 ⟨h7, h5, List.prefix_refl _⟩
                have hput := R_put N out (q.take k) (q.getD k []) 0 g1 (by omega) (by rw [← htk]; exact hg) hpar (by omega) (by rw [List.length_take]; omega)
                rw [← htk] at hput
                have h4 : (-1 : Int) < 0 := by omega
                simp (disch := first | assumption | omega) only [ev_br, ev_leaf, ev_c1, ev_c2, ev_c3, ev_c4, ev_cr, ev_cr2, ev_f0, ev_f1, ev_f2, obind_some, decide_eq_true_eq, Bool.not_eq_true', Bool.true_eq_false, Bool.false_eq_true, if_true, if_false, reduceCtorEq, h4, e2, ev_ck, wrapI, hat, Int.toNat_natCast, hput, if_pos hg, if_pos e3]
            · have e3 : ¬ (k : Int) + 1 ≤ (q.length : Int) := by omega
              simp [h, e3]) t rfl N hq
          simp only [Int.zero_add] at h3
          unfold W43_12
          rw [h3]
          have e4 : (List.range q.length).foldl (addK q) t = addL t q := rfl
          rw [e4]
          simp only [lp1_brk, ev_br, ev_leaf, ev_c1, ev_c2, ev_c3, ev_c4, ev_cr, ev_cr2, ev_f0, ev_f1, ev_f2, obind_some, decide_eq_true_eq, Bool.not_eq_true', Bool.true_eq_false, Bool.false_eq_true, if_true, if_false, reduceCtorEq]
          by_cases h5 : 200 < (addL t q).length
          · have : (200 : Int) < ((addL t q).length : Int) := by omega
            simp [h5, this]
          · have : ¬ (200 : Int) < ((addL t q).length : Int) := by omega
            simp [h5, this]
  · have hr' : rightS t = false := by simpa using hr
    simp [hr']

theorem R_set (N : Nat) (t : List Ln) (q : List Bs) (hN : 1000 < N) (ht : t.length + 16 < N) (hq : q.length < N) (hq2 : q.length ≤ 1000000) : F31 N t q = some (setS t q) := by
  unfold F31 V31 setS
  simp only [ev_br, ev_leaf, ev_c1, ev_c2, ev_c3, ev_c4, ev_cr, ev_cr2, ev_f0, ev_f1, ev_f2, obind_some, decide_eq_true_eq, Bool.not_eq_true', Bool.true_eq_false, Bool.false_eq_true, if_true, if_false, reduceCtorEq, R_add N t q hN (by omega) hq hq2]
  unfold addS
  by_cases he : addE t q = 0
  · have hr := (addE_ok he).1
    simp only [he, if_true, R_kept N t q _ hr (Int.le_refl _) ht hq2 hq, Int.toNat_natCast, ev_br, ev_leaf, ev_c1, ev_c2, ev_c3, ev_c4, ev_cr, ev_cr2, ev_f0, ev_f1, ev_f2, obind_some, decide_eq_true_eq, Bool.not_eq_true', Bool.true_eq_false, Bool.false_eq_true, if_true, if_false, reduceCtorEq]
    simp
    split <;> rfl
  · simp [he]

theorem R_shut (N : Nat) (t : List Ln) (q : List Bs) {i : Nat} (hr : rightS t = true) (hi : i < t.length) (hN : t.length + 16 < N) (hqN : q.length < N) (hq : q.length ≤ 1000000) : F44 N t q i = some (shutB t q i) := by
  obtain ⟨h200, hrf⟩ := rightS_iff.1 hr
  have hle := endN_le t hi
  have hgt := endN_gt t i
  unfold F44 V44 shutB
  simp only [ev_br, ev_leaf, ev_c1, ev_c2, ev_c3, ev_c4, ev_cr, ev_cr2, ev_f0, ev_f1, ev_f2, obind_some, decide_eq_true_eq, Bool.not_eq_true', Bool.true_eq_false, Bool.false_eq_true, if_true, if_false, reduceCtorEq]
  obtain ⟨o, ho, hp⟩ := runLoop_post (R := Bool) (step := fun x => L44_2 N x.1 x.2.1 x.2.2.1 x.2.2.2)
    (fun x => x.1 = t ∧ x.2.1 = q ∧ x.2.2.1 = (i : Int) ∧ (i : Int) ≤ x.2.2.2 ∧ x.2.2.2 ≤ endN t i ∧ ∀ j, i ≤ j → j < x.2.2.2.toNat → (t.getD j (0, [], 0)).2.2 ≤ 1) (fun x => (endN t i - x.2.2.2).toNat)
    (fun o => (o = .ret true ∧ ((partN t i).any fun l => decide (1 < l.2.2)) = true) ∨ ((∃ k, o = .brk 0 (t, q, (i : Int), k)) ∧ ((partN t i).any fun l => decide (1 < l.2.2)) = false))
    (by
      rintro ⟨t', q', i', k⟩ ⟨e1, e2, e3, h0, hke, hno⟩
      dsimp only at e1 e2 e3 h0 hke hno ⊢
      subst e1; subst e2; subst e3
      unfold L44_2 U44_2
      simp only [ev_br, ev_leaf, ev_c1, ev_c2, ev_c3, ev_c4, ev_cr, ev_cr2, ev_f0, ev_f1, ev_f2, obind_some, decide_eq_true_eq, Bool.not_eq_true', Bool.true_eq_false, Bool.false_eq_true, if_true, if_false, reduceCtorEq, R_end N t' (i : Int) (by omega) (by omega) (by omega) (by omega), Int.toNat_natCast]
      by_cases hk : k < (endN t' i : Int)
      · have c1 : inR k t'.length := ⟨by omega, by omega⟩
        have hkl : k.toNat < t'.length := by omega
        simp (disch := first | assumption | omega) only [ev_br, ev_leaf, ev_c1, ev_c2, ev_c3, ev_c4, ev_cr, ev_cr2, ev_f0, ev_f1, ev_f2, obind_some, decide_eq_true_eq, Bool.not_eq_true', Bool.true_eq_false, Bool.false_eq_true, if_true, if_false, reduceCtorEq, hk, ev_ck, wrapI]
        by_cases hg : 1 < (atI tLn t' k).2.2
        · rw [if_pos hg]
          rw [atI_nat] at hg
          refine ⟨_, rfl, .inr ⟨by simp, .inl ⟨rfl, List.any_eq_true.2 ⟨t'[k.toNat], ?_, by rw [getD_of_lt t' hkl] at hg; simpa using hg⟩⟩⟩⟩
          unfold partN
          refine List.mem_take_iff_getElem.2 ⟨k.toNat - i, by simp; omega, ?_⟩
          rw [List.getElem_drop]
          congr 1; omega
        · rw [if_neg hg]
          have hg : ¬ (1 : Int) < (t'.getD k.toNat (0, [], 0)).2.2 := hg
          refine ⟨_, rfl, .inl ⟨_, rfl, ⟨rfl, rfl, rfl, by simp only; omega, by simp only; omega, fun j hj1 hj2 => ?_⟩, by simp only; omega⟩⟩
          simp only at hj2
          rcases Nat.lt_or_ge j k.toNat with h | h
          · exact hno j hj1 h
          · have : j = k.toNat := by omega
            subst this; omega
      · refine ⟨.brk 0 (t', q', (i : Int), k), by simp [hk], .inr ⟨by simp, .inr ⟨⟨_, rfl⟩, ?_⟩⟩⟩
        rw [List.any_eq_false]
        intro l hl
        unfold partN at hl
        obtain ⟨j, hj, rfl⟩ := List.getElem_of_mem hl
        have hj' : j < endN t' i - i := by simp at hj; omega
        have := hno (i + j) (by omega) (by omega)
        rw [getD_of_lt t' (by omega)] at this
        simp only [List.getElem_take, List.getElem_drop, decide_eq_true_eq]
        omega) N (t, q, (i : Int), (i : Int)) ⟨rfl, rfl, rfl, Int.le_refl _, by simp only; omega, fun j h1 h2 => by simp only at h2; omega⟩ (by simp only; omega)
  unfold W44_2
  rw [ho]
  rcases hp with ⟨rfl, h⟩ | ⟨⟨k, rfl⟩, h⟩
  · rw [h]; simp
  · rw [h, lp1_brk]
    simp only [ev_br, ev_leaf, ev_c1, ev_c2, ev_c3, ev_c4, ev_cr, ev_cr2, ev_f0, ev_f1, ev_f2, obind_some, decide_eq_true_eq, Bool.not_eq_true', Bool.true_eq_false, Bool.false_eq_true, if_true, if_false, reduceCtorEq, R_kept N t q _ hr (Int.le_refl _) hN hq hqN, Int.toNat_natCast, Bool.or_false]

theorem R_without (N : Nat) (t : List Ln) {i : Nat} (hi : i < t.length) (ht : t.length ≤ 100000) (hN : t.length < N) : F45o N t i = some (cutT t i) := by
  unfold F45o V45o
  have hle := endN_le t hi
  have hgt := endN_gt t i
  have r1 : room (slc t 0 (i : Int)).length := by rw [slc0]; show _ ≤ _; rw [List.length_take]; omega
  have r2 : room ((slc t 0 (i : Int)).length + (slc t (endN t i : Int) (t.length : Int)).length) := by rw [slc0, slcE]; show _ ≤ _; rw [List.length_take, List.length_drop]; omega
  rw [ev_ck (by omega), ev_ck r1]
  simp only [ev_br, ev_leaf, ev_c1, ev_c2, ev_c3, ev_c4, ev_cr, ev_cr2, ev_f0, ev_f1, ev_f2, obind_some, decide_eq_true_eq, Bool.not_eq_true', Bool.true_eq_false, Bool.false_eq_true, if_true, if_false, reduceCtorEq, R_end N t (i : Int) (by omega) (by omega) (by omega) hN, Int.toNat_natCast]
  rw [ev_ck (by omega), ev_ck r2, ev_leaf, slc0, slcE]
  rfl

/-- Line by line. -/
theorem R_putS (N : Nat) (t0 t : List Ln) (q : List Bs) (w : Bs) {i : Nat} (h0 : rightS t0 = true) (hi : i < t0.length) (hp : pth t0 i = q) (h : rf [] t = true) (hl : t.length ≤ 1000) (hg : gt t (q.dropLast ++ [w]) = none) (hw : w.length ≤ 40) (hu : q.dropLast = [] ∨ gt t q.dropLast ≠ none) (hN : 5000 < N) :
    F47 N t q w (subN t0 i) = some (graftT t (q.dropLast ++ [w]) (partN t0 i)) := by
  obtain ⟨h200, hrf0⟩ := rightS_iff.1 h0
  have hle := endN_le t0 hi
  have hgt := endN_gt t0 i
  have hsl := sub_len t0 hi
  obtain ⟨s1, s2⟩ := sub_tree hrf0 hi
  have hq0 : q ≠ [] := by rw [← hp]; exact pth_ne_nil hi
  have hqp := List.length_pos_iff.2 hq0
  have hdi := pth_len hrf0 hi
  rw [hp] at hdi
  have hb0 := snd_iff.1 (rf_at hrf0 hi).1
  have hq16 : q.length ≤ 16 := by omega
  obtain ⟨to, hto⟩ : ∃ to, q.dropLast ++ [w] = to := ⟨_, rfl⟩
  have htl : to.length = q.length := by rw [← hto]; simp; omega
  have hto0 : to ≠ [] := by rw [← hto]; simp
  have htd : to.dropLast = q.dropLast := by rw [← hto]; simp
  have htw : to.getLastD [] = w := by rw [← hto]; simp
  have hpar : to.dropLast = [] ∨ gt t to.dropLast ≠ none := by rw [htd]; exact hu
  rw [hto] at hg
  obtain ⟨G1, G2, G3⟩ := graft_tree hrf0 hi h hg (by rw [htl, hp]) (by rw [htw]; exact hw) hpar
  rw [hp] at G2
  have hmk : ∀ k, k < endN t0 i - i → ((subN t0 i).getD k (0, [], 0)).2.2 = (t0.getD (i + k) (0, [], 0)).2.2 := fun k hk => by
    unfold subN partN
    have e := getD_of_lt t0 (show i + k < t0.length by omega)
    rw [e, List.getD_eq_getElem?_getD, List.getElem?_map, List.getElem?_take_of_lt hk, List.getElem?_drop, List.getElem?_eq_getElem (by omega : i + k < t0.length)]
    rfl
  have hpk : ∀ k, k < endN t0 i - i → ∃ s, pth t0 (i + k) = q ++ s ∧ (pth (subN t0 i) k).drop 1 = s ∧ (0 < k → s ≠ []) ∧ (q ++ s).length ≤ 16 := fun k hk => by
    obtain ⟨s, hs⟩ := (part_pre hrf0 hi (j := i + k) (by omega)).2 ⟨by omega, by omega⟩
    rw [hp] at hs
    have hlk := pth_len hrf0 (i := i + k) (by omega)
    have hbk := snd_iff.1 (rf_at hrf0 (i := i + k) (by omega)).1
    refine ⟨s, hs.symm, ?_, fun hk0 e => ?_, by rw [hs]; omega⟩
    · rw [s2 k hk, List.drop_drop, ← hs, show (t0[i]).1.toNat + 1 = q.length by omega, List.drop_left]
    · rw [e, List.append_nil, ← hp] at hs
      have := pth_uniq hrf0 hi (by omega) hs; omega
  -- what stands behind k lines
  obtain ⟨I, hI⟩ : ∃ I : List Ln → Nat → Prop, I = fun out k => rf [] out = true ∧ out.length = t.length + k ∧ ∀ p, gt out p = if to <+: p then (match fnd t0 (q ++ p.drop to.length) with | some j => if j < i + k then some (t0.getD j (0, [], 0)).2.2 else none | none => none) else gt t p := ⟨_, rfl⟩
  have hfk : ∀ k, k < endN t0 i - i → fnd t0 (pth t0 (i + k)) = some (i + k) := fun k hk => fnd_at hrf0 (by omega)
  have hfirst : I (insT t to (t0.getD i (0, [], 0)).2.2) 1 := by
    have hm := mark_ok hrf0 hi
    obtain ⟨i1, i2⟩ := insT_tree h hg hto0 (by omega) (by rw [htw]; exact hw) hm.1 hm.2 hpar
    rw [hI]
    refine ⟨i1, insT_length _ _ _, fun p => ?_⟩
    rw [i2]
    by_cases hpt : p = to
    · subst hpt
      rw [if_pos rfl, if_pos (List.prefix_refl _), List.drop_length, List.append_nil, ← hp]
      have := hfk 0 (by omega)
      simp only [Nat.add_zero] at this
      rw [this]
      simp
    · rw [if_neg hpt]
      split
      · rename_i hpp
        obtain ⟨s, rfl⟩ := hpp
        have hs0 : s ≠ [] := fun e => hpt (by rw [e, List.append_nil])
        rw [List.drop_left]
        have hgn : gt t (to ++ s) = none := by
          cases hx : gt t (to ++ s) with
          | none => rfl
          | some m => exact absurd hg (gt_pre h hto0 (s := s) (by rw [hx]; simp))
        rw [hgn]
        cases hf : fnd t0 (q ++ s) with
        | none => rfl
        | some j =>
          obtain ⟨hj, hjp⟩ := fnd_of hf
          have := (part_pre hrf0 hi hj).1 (by rw [hp, hjp]; exact List.prefix_append _ _)
          have hji : j ≠ i := fun e => by
            rw [e, hp] at hjp
            have := congrArg List.length hjp
            simp at this
            exact hs0 this
          simp only
          rw [if_neg (by omega)]
      · rfl
  have hstep : ∀ out k, I out k → 0 < k → k < endN t0 i - i → ∀ s, pth t0 (i + k) = q ++ s → s ≠ [] → (q ++ s).length ≤ 16 →
      gt out (to ++ s) = none ∧ ((to ++ s).dropLast = [] ∨ gt out (to ++ s).dropLast ≠ none) ∧ I (insT out (to ++ s) (t0.getD (i + k) (0, [], 0)).2.2) (k + 1) := by
    intro out k hIk hk0 hk s hs hs0 hs16
    rw [hI] at hIk
    obtain ⟨o1, o2, o3⟩ := hIk
    have hfs : fnd t0 (q ++ s) = some (i + k) := by rw [← hs]; exact hfk k hk
    have hgn : gt out (to ++ s) = none := by
      rw [o3, if_pos (List.prefix_append _ _), List.drop_left, hfs]
      simp
    have hpn : gt out (to ++ s).dropLast ≠ none := by
      rw [List.dropLast_append_of_ne_nil hs0, o3, if_pos (List.prefix_append _ _), List.drop_left]
      have h1 : gt t0 (q ++ s.dropLast) ≠ none := gt_pre hrf0 (u := q ++ s.dropLast) (s := [s.getLast hs0]) (by simp [hq0]) (by
        rw [List.append_assoc, List.dropLast_concat_getLast, fnd_gt hrf0 hfs]; simp)
      cases hf : fnd t0 (q ++ s.dropLast) with
      | none => exact absurd (fnd_none0.1 hf) h1
      | some j =>
        obtain ⟨hj, hjp⟩ := fnd_of hf
        have hlt : j < i + k := (pth_lt_iff hrf0 hj (by omega)).1 (by
          rw [hjp, hs]
          have := lx_pre (q ++ s.dropLast) (s := [s.getLast hs0]) (by simp)
          rwa [List.append_assoc, List.dropLast_concat_getLast] at this)
        simp only
        rw [if_pos hlt]; simp
    have hm := mark_ok hrf0 (i := i + k) (by omega)
    have hlast : ((to ++ s).getLastD []).length ≤ 40 := by
      have := (gt_sound hrf0 (fnd_gt hrf0 hfs)).2.2.1
      rw [List.getLastD_eq_getLast?, List.getLast?_append, List.getLast?_eq_some_getLast hs0] at this ⊢
      exact this
    obtain ⟨i1, i2⟩ := insT_tree o1 hgn (by simp [hto0]) (by rw [List.length_append] at hs16 ⊢; omega) hlast hm.1 hm.2 (.inr hpn)
    refine ⟨hgn, .inr hpn, ?_⟩
    rw [hI]
    refine ⟨i1, by rw [insT_length, o2]; omega, fun p => ?_⟩
    rw [i2]
    by_cases hpt : p = to ++ s
    · subst hpt
      rw [if_pos rfl, if_pos (List.prefix_append _ _), List.drop_left, hfs]
      simp
    · rw [if_neg hpt, o3]
      split
      · rename_i hpp
        obtain ⟨s', rfl⟩ := hpp
        rw [List.drop_left]
        cases hf : fnd t0 (q ++ s') with
        | none => rfl
        | some j =>
          obtain ⟨hj, hjp⟩ := fnd_of hf
          have hjk : j ≠ i + k := fun e => by
            rw [e, hs] at hjp
            exact hpt (by rw [List.append_cancel_left hjp])
          simp only
          by_cases h1 : j < i + k
          · rw [if_pos h1, if_pos (by omega)]
          · rw [if_neg h1, if_neg (by omega)]
      · rfl
  have hlastI : ∀ out, I out (endN t0 i - i) → out = graftT t to (partN t0 i) := by
    intro out hIk
    rw [hI] at hIk
    obtain ⟨o1, o2, o3⟩ := hIk
    refine gt_ext o1 G1 fun p => ?_
    rw [o3, G2]
    split
    · rename_i hpp
      cases hf : fnd t0 (q ++ p.drop to.length) with
      | none => exact (fnd_none0.1 hf).symm
      | some j =>
        obtain ⟨hj, hjp⟩ := fnd_of hf
        have := (part_pre hrf0 hi hj).1 (by rw [hp, hjp]; exact List.prefix_append _ _)
        simp only
        rw [if_pos (by omega), fnd_gt hrf0 hf]
    · rfl
  -- the code
  unfold F47 V47
  have c0 : inR 0 (subN t0 i).length := ⟨by omega, by omega⟩
  have e0 : ((q.length : Int) - 1).toNat = q.length - 1 := by omega
  have hm0 := hmk 0 (by omega)
  simp only [Nat.add_zero] at hm0
  have hput := R_put N t q.dropLast w (t0.getD i (0, [], 0)).2.2 h (by omega) (by rw [hto]; exact hg) hu (by omega) (by simp; omega)
  have hwith := R_with N q.dropLast w (by simp; omega)
  rw [hto] at hput hwith
  rw [hto]
  have ez : ((0 : Int)).toNat = 0 := rfl
  simp (disch := first | assumption | omega) only [ev_br, ev_leaf, ev_c1, ev_c2, ev_c3, ev_c4, ev_cr, ev_cr2, ev_f0, ev_f1, ev_f2, obind_some, decide_eq_true_eq, Bool.not_eq_true', Bool.true_eq_false, Bool.false_eq_true, if_true, if_false, reduceCtorEq, wrapI, ev_ck, slc0, e0, atI_nat, ez, hm0, ← List.dropLast_eq_take, hput, hwith]
  obtain ⟨o, ho, hpost⟩ := runLoop_post (R := List Ln) (step := fun x => L47_5 N x.1 x.2.1 x.2.2.1 x.2.2.2)
    (fun x => x.1 = subN t0 i ∧ x.2.2.1 = to ∧ 1 ≤ x.2.2.2 ∧ x.2.2.2 ≤ (endN t0 i - i : Nat) ∧ I x.2.1 x.2.2.2.toNat) (fun x => (endN t0 i - i - x.2.2.2).toNat)
    (fun o => ∃ out k, o = .brk 0 (subN t0 i, out, to, k) ∧ I out (endN t0 i - i))
    (by
      rintro ⟨sb, out, to', k⟩ ⟨e1, e2, h1, hk, hIk⟩
      dsimp only at e1 e2 h1 hk hIk ⊢
      subst e1; subst e2
      unfold L47_5 U47_5
      by_cases hlt : k < ((subN t0 i).length : Int)
      · have hkn : k.toNat < endN t0 i - i := by omega
        obtain ⟨s, hs, hsd, hs0, hs16⟩ := hpk k.toNat hkn
        have hs0 := hs0 (by omega)
        obtain ⟨g1, g2, g3⟩ := hstep out k.toNat hIk (by omega) hkn s hs hs0 hs16
        have hIk' := hIk
        rw [hI] at hIk'
        obtain ⟨o1, o2, _⟩ := hIk'
        have hP := R_path0 N (subN t0 i) k s1 (by omega) (by omega) hlt (by omega)
        have hpn : 0 < (pth (subN t0 i) k.toNat).length := List.length_pos_iff.2 (pth_ne_nil (by omega))
        have c1 : inR k (subN t0 i).length := ⟨by omega, hlt⟩
        have hslen : s.length ≤ 16 := by rw [List.length_append] at hs16; omega
        have e1 : ((1 : Int)).toNat = 1 := rfl
        have hsd' : slc (pth (subN t0 i) k.toNat) 1 ((pth (subN t0 i) k.toNat).length : Int) = s := by rw [slcE, e1, hsd]
        have r1 : room to'.length := by show _ ≤ _; omega
        have r2 : room (to'.length + s.length) := by show _ ≤ _; omega
        have hsp := List.length_pos_iff.2 hs0
        have htsl : ((to' ++ s).length : Int) = (to'.length : Int) + s.length := by simp
        have e2 : (((to' ++ s).length : Int) - 1).toNat = (to' ++ s).length - 1 := by omega
        have c2 : inR (((to' ++ s).length : Int) - 1) (to' ++ s).length := ⟨by omega, by omega⟩
        have hne : to' ++ s ≠ [] := by simp [hs0]
        have hat : atI tS (to' ++ s) (((to' ++ s).length : Int) - 1) = (to' ++ s).getLastD [] := by
          show (to' ++ s).getD _ _ = _
          rw [e2, List.getLastD_eq_getLast?, List.getLast?_eq_getElem?, List.getD_eq_getElem?_getD]
          rfl
        have hsplit : (to' ++ s).dropLast ++ [(to' ++ s).getLastD []] = to' ++ s := by
          rw [getLastD_ne hne]; exact List.dropLast_concat_getLast hne
        have hput := R_put N out (to' ++ s).dropLast ((to' ++ s).getLastD []) ((subN t0 i).getD k.toNat (0, [], 0)).2.2 o1 (by omega) (by rw [hsplit]; exact g1) g2 (by omega) (by simp; omega)
        rw [hsplit, hmk _ hkn] at hput
        have hmm := hmk _ hkn
        rw [← hmm] at hput
        simp (disch := first | assumption | omega) only [ev_br, ev_leaf, ev_c1, ev_c2, ev_c3, ev_c4, ev_cr, ev_cr2, ev_f0, ev_f1, ev_f2, obind_some, decide_eq_true_eq, Bool.not_eq_true', Bool.true_eq_false, Bool.false_eq_true, if_true, if_false, reduceCtorEq, hlt, ev_ck r1, hP]
        rw [ev_ck (by omega)]
        simp (disch := first | assumption | omega) only [hsd', ev_ck r2, wrapI]
        rw [ev_ck (by omega), ev_ck c2, ev_ck c1]
        simp only [ev_br, ev_leaf, ev_c1, ev_c2, ev_c3, ev_c4, ev_cr, ev_cr2, ev_f0, ev_f1, ev_f2, obind_some, decide_eq_true_eq, Bool.not_eq_true', Bool.true_eq_false, Bool.false_eq_true, if_true, if_false, reduceCtorEq, slc0, e2, ← List.dropLast_eq_take, hat, atI_nat, hput]
        rw [hmm]
        refine ⟨_, rfl, .inl ⟨_, rfl, ⟨rfl, rfl, by simp only; omega, by simp only; omega, ?_⟩, by simp only; omega⟩⟩
        simp only
        rw [show (k + 1).toNat = k.toNat + 1 by omega]
        exact g3
      · have : k.toNat = endN t0 i - i := by omega
        rw [this] at hIk
        exact ⟨.brk 0 (subN t0 i, out, to', k), by simp [hlt], .inr ⟨by simp, ⟨out, k, rfl, hIk⟩⟩⟩) N (subN t0 i, insT t to (t0.getD i (0, [], 0)).2.2, to, 1) ⟨rfl, rfl, by simp only; omega, by simp only; omega, hfirst⟩ (by simp only; omega)
  unfold W47_5
  rw [ho]
  obtain ⟨out, k, rfl, hIk⟩ := hpost
  rw [lp1_brk, hlastI out hIk]

end Go.Proofs.Ytcjlpdnhbgbooaa.Vc
