/-
  THE LAWS ON TREES, TOLD OF DATA: places, leaves; paths; parts; kids; cuts. No condition.
-/
import Derived.Test.YtinbdleemjpkpaaTl
set_option linter.unusedVariables false
set_option linter.unusedSimpArgs false
namespace Go.Proofs.Ytinbdleemjpkpaa.Vc

theorem W_lv (N : Nat) (t : List Ln) (b : Bool) (hl : t.length ≤ 220) (hN : t.length < N) :
    W4_12 N (t, b, ([] : List Int), (t.length : Int), 0) = some (.brk 0 (t, b, (if b = true then leavesS t else []), (t.length : Int), (t.length : Int))) := by
  have := loop_fold0 (R := Bool) (step := fun x => L4_12 N x.1 x.2.1 x.2.2.1 x.2.2.2.1 x.2.2.2.2) t.length
    (fun (out : List Int) k => if (b && (endN t k == k + 1)) = true then out ++ [(k : Int)] else out) (fun out k => (t, b, out, (t.length : Int), k))
    (fun out k => out.length ≤ k) (fun out k hI hk => by
      show (if _ then _ else _ : List Int).length ≤ _
      split
      · simp; omega
      · omega) (fun out k hI hk => by
      unfold L4_12 U4_12
      by_cases h : k < t.length
      · have hk' : (k : Int) < t.length := by omega
        have hroom : room (out.length + ([(k : Int)] : List Int).length) := by show _ ≤ _; simp; omega
        cases b with
        | true =>
          simp (disch := first | assumption | omega) only [ev_br, ev_leaf, ev_c1, ev_c2, ev_c3, ev_c4, ev_cr, ev_cr2, ev_f0, ev_f1, ev_f2, obind_some, decide_eq_true_eq, Bool.not_eq_true', Bool.true_eq_false, Bool.false_eq_true, if_true, if_false, reduceCtorEq, ev_ck, hk', h, wrapI, R_end N t k (by omega) hk' (by omega) hN, Int.toNat_natCast, Bool.true_and, beq_iff_eq]
          by_cases h1 : endN t k = k + 1
          · rw [if_pos (by omega), if_pos h1]
          · rw [if_neg (by omega), if_neg h1]
        | false =>
          simp (disch := first | assumption | omega) only [ev_br, ev_leaf, ev_c1, ev_c2, ev_c3, ev_c4, ev_cr, ev_cr2, ev_f0, ev_f1, ev_f2, obind_some, decide_eq_true_eq, Bool.not_eq_true', Bool.true_eq_false, Bool.false_eq_true, if_true, if_false, reduceCtorEq, ev_ck, hk', h, wrapI, Bool.false_and]
      · have hk' : ¬ (k : Int) < t.length := by omega
        simp [hk', h]) [] (by simp) N hN
  unfold W4_12
  rw [this, foldl_fmap]
  cases b <;> simp [leavesS]

theorem L_finds (N : Nat) (t : List Ln) (q : List Bs) (hN : 2000 < N) : F4 N t q = some true := by
  unfold F4 V4
  simp only [ev_br, ev_leaf, ev_c1, ev_c2, ev_c3, ev_c4, ev_cr, ev_cr2, ev_f0, ev_f1, ev_f2, obind_some, decide_eq_true_eq, Bool.not_eq_true', Bool.true_eq_false, Bool.false_eq_true, if_true, if_false, reduceCtorEq, F_small N t (by omega), F_short N q (by omega), F_awake N (by omega)]
  by_cases hs : smallS t = true
  · have hl := smallS_len hs
    have hN' : t.length < N := by omega
    have hlv := leavesS_len t
    simp only [ev_br, ev_leaf, ev_c1, ev_c2, ev_c3, ev_c4, ev_cr, ev_cr2, ev_f0, ev_f1, ev_f2, obind_some, decide_eq_true_eq, Bool.not_eq_true', Bool.true_eq_false, Bool.false_eq_true, if_true, if_false, reduceCtorEq, hs]
    by_cases hq : shortS q = true
    · have hq' : q.length ≤ 40 := by simp [shortS] at hq; exact hq.1
      simp only [ev_br, ev_leaf, ev_c1, ev_c2, ev_c3, ev_c4, ev_cr, ev_cr2, ev_f0, ev_f1, ev_f2, obind_some, decide_eq_true_eq, Bool.not_eq_true', Bool.true_eq_false, Bool.false_eq_true, if_true, if_false, reduceCtorEq, hq, R_right N t hN', F_find N t q hN', W_lv N t _ hl hN', lp1_brk, F_leaves N t hN']
      by_cases hr : rightS t = true
      · simp only [ev_br, ev_leaf, ev_c1, ev_c2, ev_c3, ev_c4, ev_cr, ev_cr2, ev_f0, ev_f1, ev_f2, obind_some, decide_eq_true_eq, Bool.not_eq_true', Bool.true_eq_false, Bool.false_eq_true, if_true, if_false, reduceCtorEq, hr, R_find N t q hr (by omega) (by omega), F_ints N _ _ (show (leavesS t).length < N by omega) (by unfold maxLen; omega), decide_true]
        cases hf : fndS t q with
        | none => simp [imax]
        | some i => simp [imax]; omega
      · have hr' : rightS t = false := by simpa using hr
        have hf : fndS t q = none := by unfold fndS; rw [if_neg hr]
        simp only [ev_br, ev_leaf, ev_c1, ev_c2, ev_c3, ev_c4, ev_cr, ev_cr2, ev_f0, ev_f1, ev_f2, obind_some, decide_eq_true_eq, Bool.not_eq_true', Bool.true_eq_false, Bool.false_eq_true, if_true, if_false, reduceCtorEq, hr', hf, F_ints N [] [] (show ([] : List Int).length < N by simp; omega) (by simp), decide_true]
        simp [imax]
    · simp [hq]
  · simp [hs]

theorem there_of {t : List Ln} (hr : rightS t = true) {i : Int} (h0 : 0 ≤ i) (h1 : i < t.length) : thereS t i = true := thereS_iff.2 ⟨h0, h1, hr⟩

theorem L_paths (N : Nat) (t : List Ln) (hN : 2000 < N) : F5 N t = some true := by
  unfold F5 V5
  simp only [ev_br, ev_leaf, ev_c1, ev_c2, ev_c3, ev_c4, ev_cr, ev_cr2, ev_f0, ev_f1, ev_f2, obind_some, decide_eq_true_eq, Bool.not_eq_true', Bool.true_eq_false, Bool.false_eq_true, if_true, if_false, reduceCtorEq, F_small N t (by omega), F_awake N (by omega)]
  by_cases hs : smallS t = true
  · have hl := smallS_len hs
    have hN' : t.length < N := by omega
    simp only [ev_br, ev_leaf, ev_c1, ev_c2, ev_c3, ev_c4, ev_cr, ev_cr2, ev_f0, ev_f1, ev_f2, obind_some, decide_eq_true_eq, Bool.not_eq_true', Bool.true_eq_false, Bool.false_eq_true, if_true, if_false, reduceCtorEq, hs]
    by_cases h60 : (60 : Int) < t.length
    · rw [if_pos h60]
    · rw [if_neg h60, R_right N t hN']
      simp only [ev_br, ev_leaf, ev_c1, ev_c2, ev_c3, ev_c4, ev_cr, ev_cr2, ev_f0, ev_f1, ev_f2, obind_some, decide_eq_true_eq, Bool.not_eq_true', Bool.true_eq_false, Bool.false_eq_true, if_true, if_false, reduceCtorEq]
      by_cases hr : rightS t = true
      · obtain ⟨h200, hrf⟩ := rightS_iff.1 hr
        simp only [ev_br, ev_leaf, ev_c1, ev_c2, ev_c3, ev_c4, ev_cr, ev_cr2, ev_f0, ev_f1, ev_f2, obind_some, decide_eq_true_eq, Bool.not_eq_true', Bool.true_eq_false, Bool.false_eq_true, if_true, if_false, reduceCtorEq, hr]
        have := loop_all (R := Bool) (step := fun x => L5_4 N x.1 x.2.1 x.2.2) t.length (fun _ => true) (fun i => (t, (t.length : Int), i)) false (fun i h0 hi => by
          unfold L5_4 U5_4
          by_cases h : i < t.length
          · have h1 : inR i t.length := ⟨h0, h⟩
            have hil : i.toNat < t.length := by omega
            have hth := there_of hr h0 h
            have hpl := pth_len hrf hil
            have hb := snd_iff.1 (rf_at hrf hil).1
            have hfn : fndS t (pth t i.toNat) = some i.toNat := fnd_some hr hil rfl
            have hu := pth_under hrf hil
            have hat : atI tLn t i = t[i.toNat] := by rw [atI_nat, getD_of_lt t hil]
            obtain ⟨l, hll⟩ : ∃ l : Ln, t[i.toNat] = l := ⟨_, rfl⟩
            obtain ⟨p, hp⟩ : ∃ p : List Bs, pth t i.toNat = p := ⟨_, rfl⟩
            rw [hll] at hpl hb hu hat
            rw [hp] at hpl hu hfn
            simp (disch := first | assumption | omega) only [ev_br, ev_leaf, ev_c1, ev_c2, ev_c3, ev_c4, ev_cr, ev_cr2, ev_f0, ev_f1, ev_f2, obind_some, decide_eq_true_eq, Bool.not_eq_true', Bool.true_eq_false, Bool.false_eq_true, if_true, if_false, reduceCtorEq, h, F_path N t i hN', hth, F_find N t _ hN', hfn, hp, ev_ck, hat, F_under N t i hN', hpl, wrapI]
            have e0 : ((i.toNat : Int) != i) = false := by clear hu; rw [bne_eq_false_iff_eq]; omega
            have e1 : (((l.1.toNat + 1 : Nat) : Int) != l.1 + 1) = false := by clear hu; rw [bne_eq_false_iff_eq]; omega
            have e2 : inR (((l.1.toNat + 1 : Nat) : Int) - 1) (l.1.toNat + 1) := by clear hu; constructor <;> omega
            simp (disch := first | assumption | omega) only [ev_br, ev_leaf, ev_c1, ev_c2, ev_c3, ev_c4, ev_cr, ev_cr2, ev_f0, ev_f1, ev_f2, obind_some, decide_eq_true_eq, Bool.not_eq_true', Bool.true_eq_false, Bool.false_eq_true, if_true, if_false, reduceCtorEq, e0, e1, wrapI, ev_ck, bne_self_eq_false]
            have e3 : atI tS p (((l.1.toNat + 1 : Nat) : Int) - 1) = l.2.1 := by
              show p.getD _ _ = _
              rw [show (((l.1.toNat + 1 : Nat) : Int) - 1).toNat = l.1.toNat by omega]
              rcases hu with ⟨h2, _, h3⟩ | ⟨_, u, h2, h3, h4, _⟩
              · rw [h3, h2]; rfl
              · rw [h4] at hpl ⊢
                rw [List.length_append, List.length_singleton] at hpl
                rw [List.getD_eq_getElem?_getD, List.getElem?_append_right (by omega)]
                simp [show l.1.toNat - (pth t u).length = 0 by omega]
            rw [e3]
            simp only [ev_br, ev_leaf, ev_c1, ev_c2, ev_c3, ev_c4, ev_cr, ev_cr2, ev_f0, ev_f1, ev_f2, obind_some, decide_eq_true_eq, Bool.not_eq_true', Bool.true_eq_false, Bool.false_eq_true, if_true, if_false, reduceCtorEq, beq_self_eq_true, Bool.not_true]
            rcases hu with ⟨h2, h3, h4⟩ | ⟨h2, u, h3, h4, h5, h6⟩
            · simp [h2, h3]
            · have hth2 : thereS t (u : Int) = true := there_of hr (by omega) (by omega)
              have hpu : (pth t u).length = l.1.toNat := by
                rw [h5] at hpl
                rw [List.length_append, List.length_singleton] at hpl; omega
              have e4 : slc p 0 (((l.1.toNat + 1 : Nat) : Int) - 1) = pth t u := by
                unfold slc
                rw [h5]
                simp [← hpu]
              have hlp : p.length = l.1.toNat + 1 := hpl
              have e5 : (l.1 == 0) = false := by rw [beq_eq_false_iff_ne]; omega
              have e6 : ¬ ((u : Int) < 0) := by omega
              rw [h3, F_path N t _ hN', hth2, e4]
              simp (disch := first | assumption | omega) only [ev_br, ev_leaf, ev_c1, ev_c2, ev_c3, ev_c4, ev_cr, ev_cr2, ev_f0, ev_f1, ev_f2, obind_some, decide_eq_true_eq, Bool.not_eq_true', Bool.true_eq_false, Bool.false_eq_true, if_true, if_false, reduceCtorEq, e5, e6, Int.toNat_natCast, bne_self_eq_false, decide_false, beq_self_eq_true, Bool.not_true, ev_ck, F_equal N (pth t u) (pth t u) (by omega) (by unfold maxLen; omega), decide_true, Bool.not_true]
          · simp [h]) N hN'
        unfold W5_4
        rw [this, if_pos (by simp)]
        rfl
      · simp [hr]
  · simp [hs]

/-! ### Parts -/

theorem range_getD {α : Type} (d : α) (l : List α) : (List.range l.length).map (fun k => l.getD k d) = l := by
  apply List.ext_getElem
  · simp
  · intro i h1 h2; simp at h1; simp [h1]
theorem foldl_getD {α A : Type} (d : α) (h : A → α → A) (l : List α) (a : A) : (List.range l.length).foldl (fun a k => h a (l.getD k d)) a = l.foldl h a := by
  have := List.foldl_map (f := fun k => l.getD k d) (g := h) (l := List.range l.length) (init := a)
  rw [range_getD] at this
  exact this.symm
theorem foldl_app {α β : Type} (g : α → List β) : ∀ (l : List α) (a : List β), l.foldl (fun a x => a ++ g x) a = a ++ (l.map g).flatten
  | [], a => by simp
  | x :: l, a => by simp [foldl_app g l]

theorem sub_le (t : List Ln) (i : Nat) : (subN t i).length ≤ t.length := by
  unfold subN partN; simp; omega
theorem pth_deep {t : List Ln} (h : rf [] t = true) {i j : Nat} (h1 : i ≤ j) (h2 : j < endN t i) (hi : i < t.length) (hj : j < t.length) : (t[i]).1 ≤ (t[j]).1 := by
  rcases Nat.lt_or_eq_of_le h1 with h3 | h3
  · have := endN_in t i j h3 h2
    rw [getD_of_lt t hi, getD_of_lt t hj] at this
    omega
  · subst h3; exact Int.le_refl _

theorem kids_roots {t : List Ln} (h : rf [] t = true) : (kidsS t (-1)).map (fun k => subN t k.toNat) = ((List.range' 0 t.length).filter fun k => (t.getD k (0, [], 0)).1 == 0).map fun k => partN t k := by
  unfold kidsS
  rw [List.map_map, List.range_eq_range']
  have e : (List.range' 0 t.length).filter (fun k => underN t k == -1) = (List.range' 0 t.length).filter (fun k => (t.getD k (0, [], 0)).1 == 0) := by
    apply List.filter_congr
    intro k hk
    rw [List.mem_range'_1] at hk
    have hkl : k < t.length := by omega
    rw [Bool.eq_iff_iff, beq_iff_eq, beq_iff_eq, root_iff h hkl, getD_of_lt t hkl]
  rw [e]
  apply List.map_congr_left
  intro k hk
  rw [List.mem_filter, beq_iff_eq] at hk
  show subN t (k : Int).toNat = _
  rw [Int.toNat_natCast]
  unfold subN
  rw [hk.2]
  simp

theorem L_parts (N : Nat) (t : List Ln) (i : Int) (hN : 2000 < N) : F6 N t i = some true := by
  unfold F6 V6
  simp only [ev_br, ev_leaf, ev_c1, ev_c2, ev_c3, ev_c4, ev_cr, ev_cr2, ev_f0, ev_f1, ev_f2, obind_some, decide_eq_true_eq, Bool.not_eq_true', Bool.true_eq_false, Bool.false_eq_true, if_true, if_false, reduceCtorEq, F_small N t (by omega), F_awake N (by omega)]
  by_cases hs : smallS t = true
  · have hl := smallS_len hs
    have hN' : t.length < N := by omega
    simp only [ev_br, ev_leaf, ev_c1, ev_c2, ev_c3, ev_c4, ev_cr, ev_cr2, ev_f0, ev_f1, ev_f2, obind_some, decide_eq_true_eq, Bool.not_eq_true', Bool.true_eq_false, Bool.false_eq_true, if_true, if_false, reduceCtorEq, hs]
    by_cases h60 : (60 : Int) < t.length
    · rw [if_pos h60]
    · rw [if_neg h60, R_right N t hN']
      simp only [ev_br, ev_leaf, ev_c1, ev_c2, ev_c3, ev_c4, ev_cr, ev_cr2, ev_f0, ev_f1, ev_f2, obind_some, decide_eq_true_eq, Bool.not_eq_true', Bool.true_eq_false, Bool.false_eq_true, if_true, if_false, reduceCtorEq]
      by_cases hr : rightS t = true
      · obtain ⟨h200, hrf⟩ := rightS_iff.1 hr
        simp only [ev_br, ev_leaf, ev_c1, ev_c2, ev_c3, ev_c4, ev_cr, ev_cr2, ev_f0, ev_f1, ev_f2, obind_some, decide_eq_true_eq, Bool.not_eq_true', Bool.true_eq_false, Bool.false_eq_true, if_true, if_false, reduceCtorEq, hr]
        by_cases h1 : i < 0
        · rw [if_pos h1]
        · rw [if_neg h1]
          by_cases h2 : (t.length : Int) ≤ i
          · rw [if_pos h2]
          · rw [if_neg h2]
            have hil : i.toNat < t.length := by omega
            have hth := there_of hr (show 0 ≤ i by omega) (by omega)
            obtain ⟨hst, hsp⟩ := sub_tree hrf hil
            have hsl := sub_len t hil
            have hgt := endN_gt t i.toNat
            have hle := endN_le t hil
            have hb := snd_iff.1 (rf_at hrf hil).1
            have hat : atI tLn t i = t[i.toNat] := by rw [atI_nat, getD_of_lt t hil]
            obtain ⟨l, hll⟩ : ∃ l : Ln, t[i.toNat] = l := ⟨_, rfl⟩
            rw [hll] at hsp hb hat
            have hdeep := fun j h3 h4 hj => pth_deep hrf (i := i.toNat) (j := j) h3 h4 hil hj
            obtain ⟨s, hss⟩ : ∃ s, subN t i.toNat = s := ⟨_, rfl⟩
            rw [hss] at hst hsp hsl
            have hsr : rightS s = true := rightS_iff.2 ⟨by omega, hst⟩
            have hsN : s.length < N := by omega
            simp only [ev_br, ev_leaf, ev_c1, ev_c2, ev_c3, ev_c4, ev_cr, ev_cr2, ev_f0, ev_f1, ev_f2, obind_some, decide_eq_true_eq, Bool.not_eq_true', Bool.true_eq_false, Bool.false_eq_true, if_true, if_false, reduceCtorEq, F_sub N t i hN', hth, hss, F_right N s hsN, hsr, F_end N t i hN', Bool.not_true]
            rw [wrapI (by omega) (by omega), if_neg (by simp; omega)]
            have := loop_all (R := Bool) (step := fun x => L6_7 N x.1 x.2.1 x.2.2.1 x.2.2.2.1 x.2.2.2.2) s.length (fun _ => true) (fun k => (t, i, s, (s.length : Int), k)) false (fun k k0 hk => by
              unfold L6_7 U6_7
              by_cases h : k < s.length
              · have c1 : inR i t.length := ⟨by omega, by omega⟩
                have hk2 : k.toNat < endN t i.toNat - i.toNat := by omega
                have hkl : i.toNat + k.toNat < t.length := by omega
                have hth1 := there_of hsr k0 h
                have hth2 := there_of hr (show 0 ≤ i + k by omega) (by omega)
                have hpl := pth_len hrf hkl
                have hd := hdeep (i.toNat + k.toNat) (by omega) (by omega) hkl
                rw [hll] at hd
                have hsp := hsp k.toNat hk2
                have hb2 := snd_iff.1 (rf_at hrf hkl).1
                have w1 : IntKind.i64.wrap (i + k) = i + k := wrapI (by omega) (by omega)
                simp only [ev_br, ev_leaf, ev_c1, ev_c2, ev_c3, ev_c4, ev_cr, ev_cr2, ev_f0, ev_f1, ev_f2, obind_some, decide_eq_true_eq, Bool.not_eq_true', Bool.true_eq_false, Bool.false_eq_true, if_true, if_false, reduceCtorEq, h, w1, F_path N s k hsN, F_path N t _ hN', hth1, hth2, show (i + k).toNat = i.toNat + k.toNat by omega, hsp]
                obtain ⟨l2, hl2⟩ : ∃ l : Ln, t[i.toNat + k.toNat] = l := ⟨_, rfl⟩
                obtain ⟨p, hp⟩ : ∃ p : List Bs, pth t (i.toNat + k.toNat) = p := ⟨_, rfl⟩
                rw [hl2] at hpl hd hb2
                rw [hp] at hpl ⊢
                have hdl : (p.drop l.1.toNat).length = p.length - l.1.toNat := List.length_drop
                have e4 : slc p l.1 (p.length : Int) = p.drop l.1.toNat := by
                  unfold slc
                  rw [List.take_of_length_le (by simp)]
                have c2 : (0 : Int) ≤ l.1 ∧ l.1 ≤ (p.length : Int) ∧ (p.length : Int) ≤ (p.length : Int) := ⟨by omega, by omega, by omega⟩
                simp (disch := first | assumption | omega) only [ev_br, ev_leaf, ev_c1, ev_c2, ev_c3, ev_c4, ev_cr, ev_cr2, ev_f0, ev_f1, ev_f2, obind_some, decide_eq_true_eq, Bool.not_eq_true', Bool.true_eq_false, Bool.false_eq_true, if_true, if_false, reduceCtorEq, ev_ck, hat, hdl, bne_self_eq_false]
                rw [wrapI (by omega) (by omega), if_neg (by simp; omega)]
                simp (disch := first | assumption | omega) only [ev_br, ev_leaf, ev_c1, ev_c2, ev_c3, ev_c4, ev_cr, ev_cr2, ev_f0, ev_f1, ev_f2, obind_some, decide_eq_true_eq, Bool.not_eq_true', Bool.true_eq_false, Bool.false_eq_true, if_true, if_false, reduceCtorEq, ev_ck, e4, F_equal N (p.drop l.1.toNat) (p.drop l.1.toNat) (by omega) (by unfold maxLen; omega), decide_true, Bool.not_true]
                rw [wrapI (by omega) (by omega)]
              · simp [h]) N hsN
            unfold W6_7
            rw [this, if_pos (by simp)]
            have hkl := kidsS_len t (-1)
            have hk1 : rightS t = true ∧ (-1 : Int) ≤ -1 ∧ (-1 : Int) < (t.length : Int) := ⟨hr, by omega, by omega⟩
            simp only [ev_br, ev_leaf, ev_c1, ev_c2, ev_c3, ev_c4, ev_cr, ev_cr2, ev_f0, ev_f1, ev_f2, obind_some, decide_eq_true_eq, Bool.not_eq_true', Bool.true_eq_false, Bool.false_eq_true, if_true, if_false, reduceCtorEq, lp1_brk, F_kids N t (-1) hN', hk1, and_self]
            obtain ⟨ks, hks⟩ : ∃ ks, kidsS t (-1) = ks := ⟨_, rfl⟩
            have hmem : ∀ k ∈ ks, thereS t k = true := fun k hk => by
              rw [← hks] at hk
              unfold kidsS at hk
              rw [List.mem_map] at hk
              obtain ⟨m, hm, rfl⟩ := hk
              rw [List.mem_filter, List.mem_range] at hm
              exact there_of hr (by omega) (by omega)
            have hall := kids_roots hrf
            rw [hks] at hall hkl ⊢
            have := loop_fold0 (R := Bool) (step := fun x => L6_16 N x.1 x.2.1 x.2.2.1 x.2.2.2.1 x.2.2.2.2) ks.length
              (fun (out : List Ln) k => out ++ subN t (ks.getD k 0).toNat) (fun out k => (t, out, ks, (ks.length : Int), k))
              (fun out k => out.length ≤ k * 220) (fun out k hI hk => by
                have := sub_le t (ks.getD k 0).toNat
                show (_ ++ _ : List Ln).length ≤ _
                rw [List.length_append]; omega) (fun out k hI hk => by
                unfold L6_16 U6_16
                by_cases h : k < ks.length
                · have hk' : (k : Int) < ks.length := by omega
                  have c1 : inR (k : Int) ks.length := ⟨by omega, by omega⟩
                  have hat : atI tI ks (k : Int) = ks.getD k 0 := rfl
                  have hth3 : thereS t (ks.getD k 0) = true := hmem _ (by rw [List.getD_eq_getElem?_getD, List.getElem?_eq_getElem h]; exact List.getElem_mem h)
                  have hsl := sub_le t (ks.getD k 0).toNat
                  have hroom : room (out.length + (subN t (ks.getD k 0).toNat).length) := by show _ ≤ _; omega
                  simp (disch := first | assumption | omega) only [ev_br, ev_leaf, ev_c1, ev_c2, ev_c3, ev_c4, ev_cr, ev_cr2, ev_f0, ev_f1, ev_f2, obind_some, decide_eq_true_eq, Bool.not_eq_true', Bool.true_eq_false, Bool.false_eq_true, if_true, if_false, reduceCtorEq, ev_ck, hk', h, wrapI, hat, F_sub N t _ hN', hth3]
                · have hk' : ¬ (k : Int) < ks.length := by omega
                  simp [hk', h]) [] (by simp) N (by omega)
            unfold W6_16
            rw [this, lp1_brk, foldl_getD (0 : Int) (fun a k => a ++ subN t k.toNat), foldl_app, List.nil_append, hall, roots_all t.length 0 (by omega) (fun h0 => ?_) hrf, List.drop_zero]
            · simp (disch := first | assumption | omega) only [ev_br, ev_leaf, ev_c1, ev_c2, ev_c3, ev_c4, ev_cr, ev_cr2, ev_f0, ev_f1, ev_f2, obind_some, decide_eq_true_eq, Bool.not_eq_true', Bool.true_eq_false, Bool.false_eq_true, if_true, if_false, reduceCtorEq, F_same N t t hN' (by unfold maxLen; omega), decide_true]
            · have := rf_at hrf h0
              have h3 := (snd_iff.1 this.1).1
              have h4 := this.2.1
              rw [getD_of_lt t h0]
              simp [after] at h4
              omega
      · simp [hr]
  · simp [hs]

/-! ### Kids -/

theorem countP_lt (f : Nat → Int) (i : Int) : ∀ l : List Nat, l.countP (fun k => decide (f k < i + 1)) = l.countP (fun k => decide (f k < i)) + l.countP (fun k => f k == i)
  | [] => rfl
  | k :: l => by
    simp only [List.countP_cons, countP_lt f i l, decide_eq_true_eq, beq_iff_eq]
    repeat' split
    all_goals omega

theorem kids_nil {t : List Ln} (h : rf [] t = true) {i : Nat} (hi : i < t.length) : (kidsS t (i : Int)).length = 0 ↔ endN t i = i + 1 := by
  rw [List.length_eq_zero_iff]
  constructor
  · intro e
    have hgt := endN_gt t i
    have hle := endN_le t hi
    rcases Nat.lt_or_eq_of_le (show i + 1 ≤ endN t i by omega) with h1 | h1
    · exfalso
      have hi1 : i + 1 < t.length := by omega
      have h2 := endN_in t i (i + 1) (by omega) h1
      rw [getD_of_lt t hi, getD_of_lt t hi1] at h2
      obtain ⟨_, h5, _⟩ := rf_at h hi1
      rw [after_len h hi] at h5
      have h6 := (snd_iff.1 (rf_at h hi).1).1
      have h3 := (kid_iff h hi hi1).2 ⟨by omega, h1, by omega⟩
      have : ((i + 1 : Nat) : Int) ∈ kidsS t (i : Int) := by
        unfold kidsS
        rw [List.mem_map]
        exact ⟨i + 1, by rw [List.mem_filter, List.mem_range, beq_iff_eq]; exact ⟨hi1, h3⟩, rfl⟩
      rw [e] at this; cases this
    · exact h1.symm
  · intro e
    unfold kidsS
    rw [List.map_eq_nil_iff, List.filter_eq_nil_iff]
    intro k hk hu
    rw [List.mem_range] at hk
    have := (kid_iff h hi hk).1 (beq_iff_eq.1 hu)
    omega

theorem L_kids (N : Nat) (t : List Ln) (hN : 2000 < N) : F7 N t = some true := by
  unfold F7 V7
  simp only [ev_br, ev_leaf, ev_c1, ev_c2, ev_c3, ev_c4, ev_cr, ev_cr2, ev_f0, ev_f1, ev_f2, obind_some, decide_eq_true_eq, Bool.not_eq_true', Bool.true_eq_false, Bool.false_eq_true, if_true, if_false, reduceCtorEq, F_small N t (by omega), F_awake N (by omega)]
  by_cases hs : smallS t = true
  · have hl := smallS_len hs
    have hN' : t.length < N := by omega
    simp only [ev_br, ev_leaf, ev_c1, ev_c2, ev_c3, ev_c4, ev_cr, ev_cr2, ev_f0, ev_f1, ev_f2, obind_some, decide_eq_true_eq, Bool.not_eq_true', Bool.true_eq_false, Bool.false_eq_true, if_true, if_false, reduceCtorEq, hs]
    by_cases h60 : (60 : Int) < t.length
    · rw [if_pos h60]
    · rw [if_neg h60, R_right N t hN']
      simp only [ev_br, ev_leaf, ev_c1, ev_c2, ev_c3, ev_c4, ev_cr, ev_cr2, ev_f0, ev_f1, ev_f2, obind_some, decide_eq_true_eq, Bool.not_eq_true', Bool.true_eq_false, Bool.false_eq_true, if_true, if_false, reduceCtorEq]
      by_cases hr : rightS t = true
      · obtain ⟨h200, hrf⟩ := rightS_iff.1 hr
        simp only [ev_br, ev_leaf, ev_c1, ev_c2, ev_c3, ev_c4, ev_cr, ev_cr2, ev_f0, ev_f1, ev_f2, obind_some, decide_eq_true_eq, Bool.not_eq_true', Bool.true_eq_false, Bool.false_eq_true, if_true, if_false, reduceCtorEq, hr]
        obtain ⟨o, ho, hp⟩ := runLoop_post (R := Bool) (step := fun x => L7_5 N x.1 x.2.1 x.2.2.1 x.2.2.2)
          (fun x => x.1 = t ∧ -1 ≤ x.2.2.2 ∧ x.2.2.2 ≤ t.length ∧ x.2.1 = ((List.range t.length).countP (fun k => decide (underN t k < x.2.2.2)) : Int) ∧ x.2.2.1 = (((List.range t.length).filter fun k => endN t k == k + 1).countP (fun k : Nat => decide ((k : Int) < x.2.2.2)) : Int))
          (fun x => (t.length - x.2.2.2).toNat)
          (fun o => o = .brk 0 (t, (t.length : Int), ((leavesS t).length : Int), (t.length : Int)))
          (by
            rintro ⟨t', m, lv, i⟩ ⟨e1, h0, h1, hm, hlv⟩
            dsimp only at e1 h0 h1 hm hlv ⊢
            subst e1
            unfold L7_5 U7_5
            by_cases h : i < t'.length
            · have hk1 : rightS t' = true ∧ (-1 : Int) ≤ i ∧ i < (t'.length : Int) := ⟨hr, h0, h⟩
              simp only [ev_br, ev_leaf, ev_c1, ev_c2, ev_c3, ev_c4, ev_cr, ev_cr2, ev_f0, ev_f1, ev_f2, obind_some, decide_eq_true_eq, Bool.not_eq_true', Bool.true_eq_false, Bool.false_eq_true, if_true, if_false, reduceCtorEq, h, F_kids N t' i hN', hk1, and_self]
              have hkl := kidsS_len t' i
              have hkc : (kidsS t' i).length = (List.range t'.length).countP (fun k => underN t' k == i) := by
                unfold kidsS; rw [List.length_map, List.countP_eq_length_filter]
              have hml : (List.range t'.length).countP (fun k => decide (underN t' k < i)) ≤ t'.length := by
                have := List.countP_le_length (p := fun k => decide (underN t' k < i)) (l := List.range t'.length); simpa using this
              have hlvl : ((List.range t'.length).filter fun k => endN t' k == k + 1).countP (fun k : Nat => decide ((k : Int) < i)) ≤ t'.length := by
                have := List.countP_le_length (p := fun k : Nat => decide ((k : Int) < i)) (l := (List.range t'.length).filter fun k => endN t' k == k + 1)
                have := filter_range_len (fun k => endN t' k == k + 1) t'.length
                omega
              have hmem : ∀ k ∈ kidsS t' i, 0 ≤ k ∧ k < t'.length ∧ underN t' k.toNat = i := fun k hk => by
                unfold kidsS at hk
                rw [List.mem_map] at hk
                obtain ⟨m, hm, rfl⟩ := hk
                rw [List.mem_filter, List.mem_range, beq_iff_eq] at hm
                exact ⟨by omega, by omega, hm.2⟩
              have hnil := fun h0 : 0 ≤ i => kids_nil hrf (i := i.toNat) (by omega)
              -- leaves, counted so far
              have hlv2 := countP_lt (fun k : Nat => (k : Int)) i ((List.range t'.length).filter fun k => endN t' k == k + 1)
              have hlv3 : ((List.range t'.length).filter fun k => endN t' k == k + 1).countP (fun k : Nat => (k : Int) == i) = if (kidsS t' i).length = 0 ∧ 0 ≤ i then 1 else 0 := by
                rw [List.countP_filter]
                by_cases hi0 : 0 ≤ i
                · have hn := hnil hi0
                  rw [show (i.toNat : Int) = i by omega] at hn
                  have e : (List.range t'.length).countP (fun a : Nat => ((a : Int) == i) && (endN t' a == a + 1)) = (List.range t'.length).countP (fun a => (a == i.toNat) && (endN t' i.toNat == i.toNat + 1)) := by
                    apply List.countP_congr
                    intro a _
                    simp only [Bool.and_eq_true, beq_iff_eq]
                    constructor
                    · rintro ⟨rfl, h3⟩; simpa using h3
                    · rintro ⟨rfl, h3⟩; exact ⟨by omega, h3⟩
                  rw [e]
                  by_cases h3 : endN t' i.toNat = i.toNat + 1
                  · rw [if_pos ⟨hn.2 h3, hi0⟩]
                    simp only [h3, beq_self_eq_true, Bool.and_true]
                    show (List.range t'.length).count i.toNat = 1
                    rw [List.count_range]
                    simp; omega
                  · rw [if_neg (fun hh => h3 (hn.1 hh.1))]
                    have : (endN t' i.toNat == i.toNat + 1) = false := by simpa using h3
                    simp [this]
                · rw [if_neg (fun hh => hi0 hh.2), List.countP_eq_zero]
                  intro a _
                  simp only [Bool.and_eq_true, beq_iff_eq]
                  omega
              have hm2 := countP_lt (fun k => underN t' k) i (List.range t'.length)
              obtain ⟨ks, hks⟩ : ∃ ks, kidsS t' i = ks := ⟨_, rfl⟩
              rw [hks] at hkl hkc hmem hlv3 ⊢
              have inner : ∀ m lv, W7_12 N (t', m, lv, i, ks, (ks.length : Int), 0) = some (.brk 0 (t', m, lv, i, ks, (ks.length : Int), (ks.length : Int))) := fun m lv => by
                have := loop_all (R := Bool) (step := fun x => L7_12 N x.1 x.2.1 x.2.2.1 x.2.2.2.1 x.2.2.2.2.1 x.2.2.2.2.2.1 x.2.2.2.2.2.2) ks.length (fun _ => true) (fun k => (t', m, lv, i, ks, (ks.length : Int), k)) false (fun k k0 hk => by
                  unfold L7_12 U7_12
                  by_cases h : k < ks.length
                  · have c1 : inR k ks.length := ⟨by omega, by omega⟩
                    have hkl : k.toNat < ks.length := by omega
                    obtain ⟨v, hv⟩ : ∃ v : Int, atI tI ks k = v := ⟨_, rfl⟩
                    have hmv := hmem v (by
                      rw [← hv]
                      show ks.getD _ _ ∈ _
                      rw [List.getD_eq_getElem?_getD, List.getElem?_eq_getElem hkl]; exact List.getElem_mem hkl)
                    have hth := there_of hr hmv.1 hmv.2.1
                    have n1 : ¬ v < 0 := by omega
                    have n2 : ¬ (t'.length : Int) ≤ v := by omega
                    simp (disch := first | assumption | omega) only [ev_br, ev_leaf, ev_c1, ev_c2, ev_c3, ev_c4, ev_cr, ev_cr2, ev_f0, ev_f1, ev_f2, obind_some, decide_eq_true_eq, Bool.not_eq_true', Bool.true_eq_false, Bool.false_eq_true, if_true, if_false, reduceCtorEq, ev_ck, h, hv, n1, n2, F_under N t' v hN', hth, hmv.2.2, bne_self_eq_false, wrapI]
                  · simp [h]) N (by omega)
                unfold W7_12
                rw [this, if_pos (by simp)]
              simp only [Vt.g1, ev_loop1, inner, lp1_brk, ev_leaf, ev_br, ev_leaf, ev_c1, ev_c2, ev_c3, ev_c4, ev_cr, ev_cr2, ev_f0, ev_f1, ev_f2, obind_some, decide_eq_true_eq, Bool.not_eq_true', Bool.true_eq_false, Bool.false_eq_true, if_true, if_false, reduceCtorEq, beq_iff_eq]
              rw [wrapI (n := m + (ks.length : Int)) (by omega) (by omega), wrapI (n := lv + 1) (by omega) (by omega), wrapI (n := i + 1) (by omega) (by omega)]
              by_cases hz : (ks.length : Int) = 0
              · rw [if_pos hz]
                by_cases hi0 : 0 ≤ i
                · rw [if_pos hi0]
                  rw [if_pos ⟨by omega, hi0⟩] at hlv3
                  exact ⟨_, rfl, .inl ⟨_, rfl, ⟨rfl, by simp only; omega, by simp only; omega, by simp only; omega, by simp only; omega⟩, by simp only; omega⟩⟩
                · rw [if_neg hi0]
                  rw [if_neg (fun hh => hi0 hh.2)] at hlv3
                  exact ⟨_, rfl, .inl ⟨_, rfl, ⟨rfl, by simp only; omega, by simp only; omega, by simp only; omega, by simp only; omega⟩, by simp only; omega⟩⟩
              · rw [if_neg hz]
                rw [if_neg (fun hh => hz (by omega))] at hlv3
                exact ⟨_, rfl, .inl ⟨_, rfl, ⟨rfl, by simp only; omega, by simp only; omega, by simp only; omega, by simp only; omega⟩, by simp only; omega⟩⟩
            · have hi : i = t'.length := by omega
              refine ⟨.brk 0 (t', m, lv, i), by simp [h], .inr ⟨by simp, ?_⟩⟩
              subst hi
              have e1 : m = t'.length := by
                rw [hm, List.countP_eq_length.2]
                · simp
                · intro k hk
                  rw [List.mem_range] at hk
                  have := unS_lt t' (t'.getD k (0, [], 0)).1 k
                  unfold underN
                  simp only [decide_eq_true_eq]; omega
              have e2 : lv = (leavesS t').length := by
                rw [hlv, List.countP_eq_length.2]
                · unfold leavesS; rw [List.length_map]
                · intro k hk
                  rw [List.mem_filter, List.mem_range] at hk
                  simp only [decide_eq_true_eq]; omega
              rw [e1, e2]) N (t, 0, 0, -1) ⟨rfl, by simp, by simp, by
                symm
                simp only
                rw [List.countP_eq_zero.2]
                · rfl
                · intro k _
                  have := unS_ge t (t.getD k (0, [], 0)).1 k
                  unfold underN
                  simp only [decide_eq_true_eq]; omega, by
                symm
                simp only
                rw [List.countP_eq_zero.2]
                · rfl
                · intro k _
                  simp only [decide_eq_true_eq]; omega⟩ (by simp only; omega)
        subst hp
        unfold W7_5
        rw [ho, lp1_brk]
        simp only [ev_br, ev_leaf, ev_c1, ev_c2, ev_c3, ev_c4, ev_cr, ev_cr2, ev_f0, ev_f1, ev_f2, obind_some, decide_eq_true_eq, Bool.not_eq_true', Bool.true_eq_false, Bool.false_eq_true, if_true, if_false, reduceCtorEq, F_leaves N t hN', hr, beq_self_eq_true]
      · simp [hr]
  · simp [hs]

/-! ### Cuts -/

theorem L_cuts (N : Nat) (t : List Ln) (i : Int) (h0 : 0 ≤ i) (h1 : i < 256) (hN : 2000 < N) : F8 N t i = some true := by
  unfold F8 V8
  have hw : IntKind.i64.wrap i = i := wrapI (by omega) (by omega)
  simp only [ev_br, ev_leaf, ev_c1, ev_c2, ev_c3, ev_c4, ev_cr, ev_cr2, ev_f0, ev_f1, ev_f2, obind_some, decide_eq_true_eq, Bool.not_eq_true', Bool.true_eq_false, Bool.false_eq_true, if_true, if_false, reduceCtorEq, hw, F_small N t (by omega), F_awake N (by omega)]
  by_cases hs : smallS t = true
  · have hl := smallS_len hs
    have hN' : t.length < N := by omega
    simp only [ev_br, ev_leaf, ev_c1, ev_c2, ev_c3, ev_c4, ev_cr, ev_cr2, ev_f0, ev_f1, ev_f2, obind_some, decide_eq_true_eq, Bool.not_eq_true', Bool.true_eq_false, Bool.false_eq_true, if_true, if_false, reduceCtorEq, hs]
    by_cases h60 : (60 : Int) < t.length
    · rw [if_pos h60]
    · rw [if_neg h60]
      by_cases hz : (t.length : Int) = 0
      · rw [if_pos (by simpa using hz)]
      · rw [if_neg (by simpa using hz), R_right N t hN']
        simp only [ev_br, ev_leaf, ev_c1, ev_c2, ev_c3, ev_c4, ev_cr, ev_cr2, ev_f0, ev_f1, ev_f2, obind_some, decide_eq_true_eq, Bool.not_eq_true', Bool.true_eq_false, Bool.false_eq_true, if_true, if_false, reduceCtorEq]
        by_cases hr : rightS t = true
        · obtain ⟨h200, hrf⟩ := rightS_iff.1 hr
          have hk0 : 0 ≤ i.tmod (t.length : Int) := Int.tmod_nonneg _ h0
          have hk1 : i.tmod (t.length : Int) < t.length := by
            have := Int.tmod_lt_of_pos i (show (0 : Int) < t.length by omega); exact this
          obtain ⟨k, hk⟩ : ∃ k, i.tmod (t.length : Int) = k := ⟨_, rfl⟩
          rw [hk] at hk0 hk1
          have hkl : k.toNat < t.length := by omega
          have hth := there_of hr hk0 hk1
          have hgt := endN_gt t k.toNat
          have hle := endN_le t hkl
          have es1 : slc t 0 k = t.take k.toNat := by unfold slc; simp
          have es2 : slc t (endN t k.toNat : Int) (t.length : Int) = t.drop (endN t k.toNat) := by
            unfold slc
            simp only [Int.toNat_natCast]
            rw [List.take_of_length_le (by simp)]
          have hlt : (t.take k.toNat).length = k.toNat := by simp; omega
          have hld : (t.drop (endN t k.toNat)).length = t.length - endN t k.toNat := by simp
          have hr1 : rightS (t.take k.toNat) = true := rightS_iff.2 ⟨by omega, (rf_split hrf _).1⟩
          have hr2 : rightS (t.take k.toNat ++ t.drop (endN t k.toNat)) = true := rightS_iff.2 ⟨by simp; omega, rf_cut hrf hkl⟩
          have rm1 : room (k.toNat) := by show _ ≤ _; omega
          have rm2 : room (k.toNat + (t.length - endN t k.toNat)) := by show _ ≤ _; omega
          have hz' : (t.length : Int) ≠ 0 := hz
          have hlast : ((t.take k.toNat ++ t.drop (endN t k.toNat)).length : Int) < (t.length : Int) := by simp; omega
          simp (disch := first | assumption | omega) only [ev_br, ev_leaf, ev_c1, ev_c2, ev_c3, ev_c4, ev_cr, ev_cr2, ev_f0, ev_f1, ev_f2, obind_some, decide_eq_true_eq, Bool.not_eq_true', Bool.true_eq_false, Bool.false_eq_true, if_true, if_false, reduceCtorEq, hr, hk, ev_ck, es1, hlt, F_end N t k hN', hth, es2, hld, F_right N (t.take k.toNat) (by omega), F_right N (t.take k.toNat ++ t.drop (endN t k.toNat)) (by simp; omega), hr1, hr2, hlast]
        · simp [hr]
  · simp [hs]

end Go.Proofs.Ytinbdleemjpkpaa.Vc
