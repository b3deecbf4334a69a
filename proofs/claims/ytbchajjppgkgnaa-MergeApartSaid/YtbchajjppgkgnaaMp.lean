/-
  WHAT THE FUNCTIONS OF PACKAGE merge ANSWER. No condition.
-/
import Derived.Test.YtbchajjppgkgnaaEg
import Derived.Test.YtbchajjppgkgnaaMt
set_option linter.unusedVariables false
set_option linter.unusedSimpArgs false
namespace Go.Proofs.Ytbchajjppgkgnaa.Vc

theorem slc_init (p : List Bs) : slc p 0 ((p.length : Int) - 1) = p.dropLast := by
  rw [slc0, List.dropLast_eq_take]
  congr 1
  omega
theorem atI_last {p : List Bs} (h : p ≠ []) : atI tS p ((p.length : Int) - 1) = p.getLastD [] := by
  have hl := List.length_pos_iff.2 h
  rw [getLastD_ne h, List.getLast_eq_getElem]
  show p.getD ((p.length : Int) - 1).toNat [] = _
  have e : ((p.length : Int) - 1).toNat = p.length - 1 := by omega
  rw [e, getD_lt (by omega)]

theorem M_state (N : Nat) (t : List Ln) (p : List Bs) (hr : rightS t = true) (hN : t.length < N) : F42 N t p = some (st t p) := by
  obtain ⟨h200, hrf⟩ := rightS_iff.1 hr
  unfold F42 V42
  simp only [ev_br, ev_leaf, ev_c1, ev_c2, ev_c3, ev_c4, ev_cr, ev_cr2, ev_f0, ev_f1, ev_f2, obind_some, decide_eq_true_eq, Bool.not_eq_true', Bool.true_eq_false, Bool.false_eq_true, if_true, if_false, reduceCtorEq, F_find N t p hN, fndS_eq, hr]
  cases hf : fnd t p with
  | none =>
    have := fnd_none0.1 hf
    simp [st, this]
  | some i =>
    obtain ⟨hi, _⟩ := fnd_of hf
    have c1 : inR (i : Int) t.length := ⟨by omega, by omega⟩
    have hg := fnd_gt hrf hf
    simp only [ev_ck c1, ev_br, ev_leaf, ev_c1, ev_c2, ev_c3, ev_c4, ev_cr, ev_cr2, ev_f0, ev_f1, ev_f2, obind_some, decide_eq_true_eq, Bool.not_eq_true', Bool.true_eq_false, Bool.false_eq_true, if_true, if_false, reduceCtorEq, st, hg]
    rfl

theorem M_decided (N : Nat) (b m t : List Ln) (p : List Bs) (hb : rightS b = true) (hm : rightS m = true) (ht : rightS t = true) (hN : 1000 < N) : F25 N (b, m, t) p = some (dcd b m t p) := by
  have h1 := right_len hb
  have h2 := right_len hm
  have h3 := right_len ht
  unfold F25 V25
  simp only [ev_br, ev_leaf, ev_c1, ev_c2, ev_c3, ev_c4, ev_cr, ev_cr2, ev_f0, ev_f1, ev_f2, obind_some, decide_eq_true_eq, Bool.not_eq_true', Bool.true_eq_false, Bool.false_eq_true, if_true, if_false, reduceCtorEq, M_state N b p hb (by omega), M_state N m p hm (by omega), M_state N t p ht (by omega), beq_iff_eq]
  unfold dcd
  by_cases c1 : st m p = st t p
  · simp [c1]
  · by_cases c2 : st t p = st b p
    · simp [c1, c2]
    · by_cases c3 : st m p = st b p
      · have c4 : ¬ st b p = st t p := fun e => c2 e.symm
        simp [c2, c3, c4]
      · simp [c1, c2, c3]

theorem M_conflicts (N : Nat) (b m t : List Ln) (p : List Bs) (hb : rightS b = true) (hm : rightS m = true) (ht : rightS t = true) (hp : p.length ≤ 1000000) (hN : 1000 < N) : F24 N (b, m, t) p = some (cfl b m t p) := by
  unfold F24 V24
  simp only [ev_br, ev_leaf, ev_c1, ev_c2, ev_c3, ev_c4, ev_cr, ev_cr2, ev_f0, ev_f1, ev_f2, obind_some, decide_eq_true_eq, Bool.not_eq_true', Bool.true_eq_false, Bool.false_eq_true, if_true, if_false, reduceCtorEq, M_decided N b m t p hb hm ht hN, beq_iff_eq, bne_iff_ne, ne_eq]
  unfold cfl
  by_cases c1 : dcd b m t p = -2
  · simp [c1]
  · by_cases c2 : dcd b m t p = -1
    · simp [c2]
    · by_cases c3 : (1 : Int) < p.length
      · have c3' : 1 < p.length := by omega
        have k1 : (0 : Int) ≤ 0 ∧ (0 : Int) ≤ ((p.length : Int) - 1) ∧ ((p.length : Int) - 1) ≤ (p.length : Int) := by omega
        simp (disch := first | assumption | omega) only [c1, c2, c3, if_false, if_true, not_false_eq_true, wrapI, ev_ck k1, ev_br, ev_leaf, ev_c1, ev_c2, ev_c3, ev_c4, ev_cr, ev_cr2, ev_f0, ev_f1, ev_f2, obind_some, decide_eq_true_eq, Bool.not_eq_true', Bool.true_eq_false, Bool.false_eq_true, if_true, if_false, reduceCtorEq, slc_init, M_decided N b m t p.dropLast hb hm ht hN]
        simp [c1, c2, c3']
        rfl
      · have c3' : ¬ 1 < p.length := by omega
        simp [c1, c2, c3, c3']

theorem pths_range (t : List Ln) : (List.range t.length).map (fun i => pth t i) = pths [] t := by
  apply List.ext_getElem (by simp)
  intro i h1 h2
  simp only [List.getElem_map, List.getElem_range]
  rw [pths_pth]

theorem M_inner (N : Nat) (acc : List (List Bs)) (t : List Ln) (l : List (List Ln)) (x y : Int) (hr : rightS t = true) (ha : acc.length ≤ 1000000) (hN : 1000 < N) :
    W23o_6 N (acc, t, l, x, y, (t.length : Int), 0) = some (.brk 0 (acc ++ pths [] t, t, l, x, y, (t.length : Int), (t.length : Int))) := by
  have h200 := right_len hr
  have := loop_fold0 (R := List (List Bs)) (step := fun x => L23o_6 N x.1 x.2.1 x.2.2.1 x.2.2.2.1 x.2.2.2.2.1 x.2.2.2.2.2.1 x.2.2.2.2.2.2) t.length
    (fun (a : List (List Bs)) k => a ++ [pth t k]) (fun a k => (a, t, l, x, y, (t.length : Int), k)) (fun a k => a.length ≤ 1000000 + k)
    (fun a k h _ => by simp; omega) (fun a k hI hk => by
      unfold L23o_6 U23o_6
      by_cases h : k < t.length
      · have hk' : (k : Int) < t.length := by omega
        have th : thereS t (k : Int) = true := thereS_iff.2 ⟨by omega, hk', hr⟩
        have hr1 : ∀ z : List Bs, room (a.length + ([z] : List (List Bs)).length) := fun z => by show _ ≤ _; simp; omega
        simp (disch := first | assumption | omega) only [ev_br, ev_leaf, ev_c1, ev_c2, ev_c3, ev_c4, ev_cr, ev_cr2, ev_f0, ev_f1, ev_f2, obind_some, decide_eq_true_eq, Bool.not_eq_true', Bool.true_eq_false, Bool.false_eq_true, if_true, if_false, reduceCtorEq, hk', h, F_path N t k (by omega), th, Int.toNat_natCast, ev_ck (hr1 _), wrapI]
      · have hk' : ¬ (k : Int) < t.length := by omega
        simp [hk', h]) acc (by omega) N (by omega)
  unfold W23o_6
  rw [this]
  have e : (List.range t.length).foldl (fun (a : List (List Bs)) k => a ++ [pth t k]) acc = acc ++ pths [] t := by
    rw [foldl_map, pths_range]
  rw [e]

theorem allP_len (b m t : List Ln) : (allP b m t).length = b.length + m.length + t.length := by unfold allP; simp; omega

theorem M_paths (N : Nat) (b m t : List Ln) (hb : rightS b = true) (hm : rightS m = true) (ht : rightS t = true) (hN : 1000 < N) : F23o N (b, m, t) = some (once (allP b m t)) := by
  have h1 := right_len hb
  have h2 := right_len hm
  have h3 := right_len ht
  unfold F23o V23o
  simp only [ev_br, ev_leaf, ev_c1, ev_c2, ev_c3, ev_c4, ev_cr, ev_cr2, ev_f0, ev_f1, ev_f2, obind_some, decide_eq_true_eq, Bool.not_eq_true', Bool.true_eq_false, Bool.false_eq_true, if_true, if_false, reduceCtorEq]
  have this := loop_fold0 (R := List (List Bs)) (step := fun x => L23o_3 N x.1 x.2.1 x.2.2.1 x.2.2.2) 3
    (fun (a : List (List Bs)) k => a ++ pths [] (([b, m, t] : List (List Ln)).getD k [])) (fun a k => (a, ([b, m, t] : List (List Ln)), (3 : Int), k)) (fun a k => a.length ≤ 200 * k)
    (fun a k h hk => by
      have : k = 0 ∨ k = 1 ∨ k = 2 := by omega
      rcases this with rfl | rfl | rfl <;> simp <;> omega) (fun a k hI hk => by
      unfold L23o_3 U23o_3
      by_cases h : k < 3
      · have hk' : (k : Int) < 3 := by omega
        have hr : rightS (([b, m, t] : List (List Ln)).getD k []) = true := by
          have : k = 0 ∨ k = 1 ∨ k = 2 := by omega
          rcases this with rfl | rfl | rfl
          · exact hb
          · exact hm
          · exact ht
        have c1 : inR (k : Int) ([b, m, t] : List (List Ln)).length := ⟨by omega, hk'⟩
        have hat : atI (.list tLn) ([b, m, t] : List (List Ln)) (k : Int) = ([b, m, t] : List (List Ln)).getD k [] := rfl
        simp (disch := first | assumption | omega) only [ev_br, decide_eq_true hk', if_true, ev_ck c1, hat, Vt.g1, ev_loop1, M_inner N a _ _ _ _ hr (by omega) hN, lp1_brk, ev_leaf, wrapI, h]
      · have hk' : ¬ (k : Int) < 3 := by omega
        simp [hk', h]) [] (by simp) N (by omega)
  have e : W23o_3 N (([] : (List (List Bs))), ([b, m, t] : (List (List Ln))), (([b, m, t] : (List (List Ln))).length : Int), 0) = some (.brk 0 (allP b m t, ([b, m, t] : List (List Ln)), (3 : Int), 3)) := this
  rw [e, lp1_brk]
  have hl := allP_len b m t
  have e1 : F36rC37 N (allP b m t) = some (sortL (allP b m t)) := by
    unfold F36rC37
    rw [if_pos (by omega)]
  have e2 : F39tC40 N (sortL (allP b m t)) = some (once (allP b m t)) := by
    unfold F39tC40
    rw [if_pos (by rw [sortL_len]; omega)]
    rfl
  simp only [ev_br, ev_leaf, ev_c1, ev_c2, ev_c3, ev_c4, ev_cr, ev_cr2, ev_f0, ev_f1, ev_f2, obind_some, decide_eq_true_eq, Bool.not_eq_true', Bool.true_eq_false, Bool.false_eq_true, if_true, if_false, reduceCtorEq, e1, e2]

/-- What the program's loop gathers. -/
def ofS (b m t : List Ln) (a : List Ln × List (List Bs)) (p : List Bs) : List Ln × List (List Bs) :=
  if cfl b m t p = true then (a.1, a.2 ++ [p]) else if dcd b m t p ≠ -1 then (a.1 ++ [ln (p, dcd b m t p)], a.2) else a
theorem ofS_all (b m t : List Ln) : ∀ (l : List (List Bs)) (a : List Ln × List (List Bs)), l.foldl (ofS b m t) a = (a.1 ++ ((l.filter fun p => !cfl b m t p && decide (dcd b m t p ≠ -1)).map fun p => ln (p, dcd b m t p)), a.2 ++ l.filter (cfl b m t))
  | [], a => by simp
  | p :: l, a => by
    rw [List.foldl_cons, ofS_all b m t l]
    unfold ofS
    by_cases h : cfl b m t p = true
    · simp [h]
    · by_cases h2 : dcd b m t p = -1
      · simp [h, h2]
      · simp [h, h2]
theorem ofS_len (b m t : List Ln) (a : List Ln × List (List Bs)) (p : List Bs) : (ofS b m t a p).1.length ≤ a.1.length + 1 ∧ (ofS b m t a p).2.length ≤ a.2.length + 1 := by
  unfold ofS
  split
  · simp
  · split
    · simp
    · simp

theorem path_small {b m t : List Ln} (hb : rightS b = true) (hm : rightS m = true) (ht : rightS t = true) {p : List Bs} (hp : p ∈ once (allP b m t)) : p ≠ [] ∧ p.length ≤ 16 := by
  rw [once_mem] at hp
  unfold allP at hp
  have key : ∀ {u : List Ln}, rightS u = true → p ∈ pths [] u → p ≠ [] ∧ p.length ≤ 16 := fun hu h => by
    have hrf := right_rf hu
    have h1 := mem_st hrf h
    have h2 := gt_sound hrf (st_some hrf h1).1
    exact ⟨h2.1, h2.2.1⟩
  rcases List.mem_append.1 hp with h | h
  · rcases List.mem_append.1 h with h | h
    · exact key hb h
    · exact key hm h
  · exact key ht h

theorem M_of (N : Nat) (b m t : List Ln) (hb : b.length < N) (hm : m.length < N) (ht : t.length < N) (hN : 1000 < N) : F11 N b m t = some (mrg b m t) := by
  unfold F11 V11
  simp only [ev_br, ev_leaf, ev_c1, ev_c2, ev_c3, ev_c4, ev_cr, ev_cr2, ev_f0, ev_f1, ev_f2, obind_some, decide_eq_true_eq, Bool.not_eq_true', Bool.true_eq_false, Bool.false_eq_true, if_true, if_false, reduceCtorEq, F_right N b hb, F_right N m hm, F_right N t ht]
  unfold mrg
  by_cases h1 : rightS b = true
  · by_cases h2 : rightS m = true
    · by_cases h3 : rightS t = true
      · obtain ⟨l, hl⟩ : ∃ l, once (allP b m t) = l := ⟨_, rfl⟩
        have hll : l.length ≤ 600 := by
          have a1 := right_len h1
          have a2 := right_len h2
          have a3 := right_len h3
          have a4 := once_len (allP b m t)
          rw [allP_len, hl] at a4
          omega
        have hps : ∀ p ∈ l, p ≠ [] ∧ p.length ≤ 16 := fun p hp => path_small h1 h2 h3 (by rw [hl]; exact hp)
        have this := loop_fold0 (R := List Ln × List (List Bs) × Int) (step := fun x => L11_7 N x.1 x.2.1 x.2.2.1 x.2.2.2.1 x.2.2.2.2.1 x.2.2.2.2.2) l.length
          (fun (a : List Ln × List (List Bs)) k => ofS b m t a (l.getD k [])) (fun a k => ((b, m, t), a.1, a.2, l, (l.length : Int), k)) (fun a k => a.1.length ≤ k ∧ a.2.length ≤ k)
          (fun a k h _ => by have := ofS_len b m t a (l.getD k []); omega) (fun a k hI hk => by
            unfold L11_7 U11_7
            by_cases h : k < l.length
            · have hk' : (k : Int) < l.length := by omega
              have c1 : inR (k : Int) l.length := ⟨by omega, hk'⟩
              have hat : atI (.list tS) l (k : Int) = l.getD k [] := rfl
              have hpm : l.getD k [] ∈ l := by rw [show l.getD k [] = l[k] by simp [h]]; exact List.getElem_mem _
              obtain ⟨p, hp⟩ : ∃ p, l.getD k [] = p := ⟨_, rfl⟩
              rw [hp] at hpm
              obtain ⟨p0, p16⟩ := hps p hpm
              have hpl := List.length_pos_iff.2 p0
              have c2 : inR ((p.length : Int) - 1) p.length := ⟨by omega, by omega⟩
              have r1 : ∀ z : List Bs, room (a.2.length + ([z] : List (List Bs)).length) := fun z => by show _ ≤ _; simp; omega
              have r2 : ∀ z : Ln, room (a.1.length + ([z] : List Ln).length) := fun z => by show _ ≤ _; simp; omega
              simp (disch := first | assumption | omega) only [ev_br, decide_eq_true hk', if_true, ev_ck c1, hat, hp, ev_c1, M_conflicts N b m t p h1 h2 h3 (by omega) hN, obind_some, h]
              unfold ofS
              by_cases hc : cfl b m t p = true
              · simp (disch := first | assumption | omega) only [hc, if_true, ev_ck (r1 _), ev_leaf, wrapI]
              · by_cases hd : dcd b m t p = -1
                · simp (disch := first | assumption | omega) [hc, hd, M_decided N b m t p h1 h2 h3 hN, wrapI]
                · have hd' : (dcd b m t p != -1) = true := by simpa using hd
                  simp (disch := first | assumption | omega) only [hc, if_false, M_decided N b m t p h1 h2 h3 hN, obind_some, hd', if_true, ev_br, wrapI, ev_ck c2, ev_ck (r2 _), ev_leaf, atI_last p0, hd, ne_eq, not_false_eq_true, Bool.false_eq_true]
                  rfl
            · have hk' : ¬ (k : Int) < l.length := by omega
              simp [hk', h]) ([], []) (by simp) N (by omega)
        have e : (List.range l.length).foldl (fun (a : List Ln × List (List Bs)) k => ofS b m t a (l.getD k [])) ([], []) = (outL b m t, badL b m t) := by
          have e1 : (List.range l.length).foldl (fun (a : List Ln × List (List Bs)) k => ofS b m t a (l.getD k [])) ([], []) = l.foldl (ofS b m t) ([], []) := by
            conv => rhs; rw [show l = (List.range l.length).map (fun k => l.getD k []) by
              apply List.ext_getElem (by simp)
              intro i h1 h2
              simp [h1]]
            rw [List.foldl_map]
          rw [e1, ofS_all, ← hl]
          unfold outL outE badL
          simp [Function.comp_def]
        rw [e] at this
        have e3 : W11_7 N ((b, m, t), ([] : List Ln), ([] : List (List Bs)), l, (l.length : Int), 0) = _ := this
        simp only [h1, h2, h3, Bool.not_true, Bool.false_eq_true, if_false, ev_br, ev_c1, M_paths N b m t h1 h2 h3 hN, hl, obind_some, ev_f1, e3, lp1_brk, and_self, if_true]
        by_cases hbad : badL b m t = []
        · have hno : ¬ ((0 : Int) < ((badL b m t).length : Int)) := by rw [hbad]; simp
          simp only [hno, decide_false, Bool.false_eq_true, if_false, hbad, if_true]
          by_cases hlong : 200 < (outL b m t).length
          · have : (200 : Int) < ((outL b m t).length : Int) := by omega
            simp [this, hlong]
          · have : ¬ (200 : Int) < ((outL b m t).length : Int) := by omega
            simp [this, hlong]
        · have hyes : (0 : Int) < ((badL b m t).length : Int) := by have := List.length_pos_iff.2 hbad; omega
          simp [hyes, hbad]
      · simp [h1, h2, h3]
    · simp [h1, h2]
  · simp [h1]

end Go.Proofs.Ytbchajjppgkgnaa.Vc
