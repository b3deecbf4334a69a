/-
  WHAT THE DOCUMENT'S MERGING ANSWERS AS A WHOLE: the same. No condition.
-/
import Derived.Test.YtbchajjppgkgnaaMr
set_option linter.unusedVariables false
set_option linter.unusedSimpArgs false
namespace Go.Proofs.Ytbchajjppgkgnaa.Vc

def outK (b m t : List Ln) (l : List (List Bs)) : List Ln := (l.filter fun p => decide (dcd b m t p ≠ -1)).map fun p => ln (p, dcd b m t p)
theorem outK_all {b m t : List Ln} (hC : ∀ p, cfl b m t p = false) : outL b m t = outK b m t (once (allP b m t)) := by
  unfold outL outE outK
  rw [List.map_map]
  congr 1
  congr 1
  funext p
  rw [hC p]; simp
theorem outK_append (b m t : List Ln) (l l' : List (List Bs)) : outK b m t (l ++ l') = outK b m t l ++ outK b m t l' := by unfold outK; simp

theorem join_last {p : List Bs} (h : p ≠ []) : p.dropLast ++ [p.getLastD []] = p := by
  rw [getLastD_ne h, List.dropLast_concat_getLast h]

/-- Put one behind the other, in order, each line stands at the end. -/
theorem put_next {b m t : List Ln} (hb : rf [] b = true) (hm : rf [] m = true) (ht : rf [] t = true) (hC : ∀ p, cfl b m t p = false) {k : Nat} (hk : k < (once (allP b m t)).length) (hd : dcd b m t (once (allP b m t))[k] ≠ -1) :
    rf [] (outK b m t ((once (allP b m t)).take k)) = true ∧ gt (outK b m t ((once (allP b m t)).take k)) (once (allP b m t))[k] = none ∧ ((once (allP b m t))[k].dropLast = [] ∨ gt (outK b m t ((once (allP b m t)).take k)) (once (allP b m t))[k].dropLast ≠ none) ∧
    insT (outK b m t ((once (allP b m t)).take k)) (once (allP b m t))[k] (dcd b m t (once (allP b m t))[k]) = outK b m t ((once (allP b m t)).take (k + 1)) := by
  obtain ⟨ht1, ht2, _⟩ := out_tree hb hm ht hC
  have hup := once_up (allP b m t)
  obtain ⟨l, hl⟩ : ∃ l, once (allP b m t) = l := ⟨_, rfl⟩
  have hall := outK_all hC
  have hmem : ∀ p, dcd b m t p ≠ -1 → p ∈ l := fun p hp => by rw [← hl]; exact dcd_mem hb hm ht hp
  have hE : outE b m t = (l.filter fun p => decide (dcd b m t p ≠ -1)).map fun p => (p, dcd b m t p) := by
    unfold outE
    rw [hl]
    congr 1
    congr 1
    funext p
    rw [hC p]; simp
  simp only [hl] at hk hd hup hall ⊢
  obtain ⟨p, hp⟩ : ∃ p, l[k] = p := ⟨_, rfl⟩
  rw [hp] at hd ⊢
  obtain ⟨u, hu⟩ : ∃ u, outK b m t (l.take k) = u := ⟨_, rfl⟩
  have hsplit : outL b m t = u ++ outK b m t (l.drop k) := by rw [hall, ← hu, ← outK_append, List.take_append_drop]
  have hrf : rf [] u = true := by
    rw [hsplit, rf_append] at ht1
    simp only [Bool.and_eq_true] at ht1
    exact ht1.1
  have hpth : pths [] u = (l.take k).filter fun p => decide (dcd b m t p ≠ -1) := by
    have h1 : pths [] (outL b m t) = (outE b m t).map (·.1) := by
      rw [← ht2]
      unfold ents
      rw [List.map_fst_zip (by simp)]
    rw [hsplit, pths_append, hE] at h1
    have h2 : (l.filter fun p => decide (dcd b m t p ≠ -1)) = ((l.take k).filter fun p => decide (dcd b m t p ≠ -1)) ++ ((l.drop k).filter fun p => decide (dcd b m t p ≠ -1)) := by
      rw [← List.filter_append, List.take_append_drop]
    rw [h2] at h1
    simp only [List.map_append, List.map_map, Function.comp_def, List.map_id'] at h1
    refine (List.append_inj h1 ?_).1
    rw [← hu]
    unfold outK
    simp
  have hlt : ∀ q ∈ pths [] u, lx q p = true := fun q hq => by
    rw [hpth, List.mem_filter] at hq
    obtain ⟨i, hi, e⟩ := List.getElem_of_mem hq.1
    have hik : i < k := by rw [List.length_take] at hi; omega
    rw [List.getElem_take] at e
    have := (List.pairwise_iff_getElem.1 hup) i k (by omega) hk hik
    rwa [e, hp] at this
  have hpi : ∀ i, i < u.length → pth u i ∈ pths [] u := fun i hi => pths_mem.2 ⟨i, hi, rfl⟩
  rw [hu]
  refine ⟨hrf, ?_, ?_, ?_⟩
  · refine gt_none.2 fun i hi e => ?_
    have := hlt _ (hpi i hi)
    rw [e, lx_irr] at this; cases this
  · by_cases h0 : p.dropLast = []
    · exact .inl h0
    · right
      have hd2 : dcd b m t p.dropLast ≠ -1 := by
        rcases (noC (hC p)).2 with h1 | h1 | h1
        · exact absurd h1 hd
        · exfalso
          apply h0
          exact List.eq_nil_of_length_eq_zero (by simp; omega)
        · exact h1
      have hp0 : p ≠ [] := fun e => h0 (by rw [e]; rfl)
      have hin := hmem _ hd2
      obtain ⟨j, hj, e⟩ := List.getElem_of_mem hin
      have hlx : lx p.dropLast p = true := by
        have := lx_pre p.dropLast (s := [p.getLastD []]) (by simp)
        rwa [join_last hp0] at this
      have hjk : j < k := by
        rcases Nat.lt_trichotomy j k with h1 | h1 | h1
        · exact h1
        · subst h1; rw [hp] at e; rw [← e, lx_irr] at hlx; cases hlx
        · have := (List.pairwise_iff_getElem.1 hup) k j hk hj h1
          rw [hp, e] at this
          rw [lx_asymm hlx] at this; cases this
      have hmu : p.dropLast ∈ pths [] u := by
        rw [hpth, List.mem_filter]
        refine ⟨?_, by simpa using hd2⟩
        rw [← e]
        exact List.mem_take_iff_getElem.2 ⟨j, by omega, rfl⟩
      intro hg
      exact mem_st hrf hmu ((st_none hrf).2 hg)
  · have hplc : plc u p = u.length := plc_eq hrf (Nat.le_refl _) (fun i hi => hlt _ (hpi i hi)) fun h => absurd h (Nat.lt_irrefl _)
    unfold insT
    rw [hplc, List.take_length, List.drop_length, List.take_succ_eq_append_getElem hk, outK_append, hu, hp]
    unfold outK
    simp [hd]

theorem outK_len (b m t : List Ln) (l : List (List Bs)) : (outK b m t l).length ≤ l.length := by unfold outK; rw [List.length_map]; exact List.length_filter_le _ _

theorem Q_of (N : Nat) (b m t : List Ln) (hb : b.length < N) (hm : m.length < N) (ht : t.length < N) (hN : 1000 < N) : F12 N b m t = some (mrg b m t) := by
  unfold F12 V12
  simp only [ev_br, ev_leaf, ev_c1, ev_c2, ev_c3, ev_c4, ev_cr, ev_cr2, ev_f0, ev_f1, ev_f2, obind_some, decide_eq_true_eq, Bool.not_eq_true', Bool.true_eq_false, Bool.false_eq_true, if_true, if_false, reduceCtorEq, R_right N b hb, R_right N m hm, R_right N t ht]
  by_cases h1 : rightS b = true
  · by_cases h2 : rightS m = true
    · by_cases h3 : rightS t = true
      · obtain ⟨l, hl⟩ : ∃ l, once (allP b m t) = l := ⟨_, rfl⟩
        have hll : l.length ≤ 600 := by
          have a1 := right_len h1
          have a2 := right_len h2
          have a3 := right_len h3
          have a4 := once_len (allP b m t)
          rw [allP_len, hl] at a4
          omega
        have hps : ∀ p ∈ l, p ≠ [] ∧ p.length ≤ 16 := fun p hp => path_small h1 h2 h3 (by rw [hl]; exact hp)
        have hge : ∀ p, dcd b m t p ≠ -1 → dcd b m t p ≠ -2 → 0 ≤ dcd b m t p := fun p h4 h5 => (dcd_sound (right_rf h2) (right_rf h3) h4 h5).2.2.2.1
        have this := loop_fold0 (R := List Ln × List (List Bs) × Int) (step := fun x => L12_8 N x.1 x.2.1 x.2.2.1 x.2.2.2.1 x.2.2.2.2.1 x.2.2.2.2.2.1 x.2.2.2.2.2.2.1 x.2.2.2.2.2.2.2) l.length
          (fun (a : List Ln × List (List Bs)) k => ofS b m t a (l.getD k [])) (fun a k => (b, m, t, a.2, ([] : List Ln), (a.1.length : Int), l, k)) (fun a k => a.1.length ≤ k ∧ a.2.length ≤ k)
          (fun a k h _ => by have := ofS_len b m t a (l.getD k []); omega) (fun a k hI hk => by
            unfold L12_8 U12_8
            by_cases h : k < l.length
            · have hk' : (k : Int) < l.length := by omega
              have c1 : inR (k : Int) l.length := ⟨by omega, hk'⟩
              have hat : atI (.list tS) l (k : Int) = l.getD k [] := rfl
              have hpm : l.getD k [] ∈ l := by rw [show l.getD k [] = l[k] by simp [h]]; exact List.getElem_mem _
              obtain ⟨p, hp⟩ : ∃ p, l.getD k [] = p := ⟨_, rfl⟩
              rw [hp] at hpm
              obtain ⟨p0, p16⟩ := hps p hpm
              have hpl := List.length_pos_iff.2 p0
              have k1 : (0 : Int) ≤ 0 ∧ (0 : Int) ≤ ((p.length : Int) - 1) ∧ ((p.length : Int) - 1) ≤ (p.length : Int) := by omega
              have r1 : ∀ z : List Bs, room (a.2.length + ([z] : List (List Bs)).length) := fun z => by show _ ≤ _; simp; omega
              have r2 : room (a.2.length + 1) := r1 []
              have hDp := Q_decided N b m t p h1 h2 h3 (by omega) hN
              have hDu := Q_decided N b m t p.dropLast h1 h2 h3 (by simp; omega) hN
              have hgp := hge p
              simp (disch := first | assumption | omega) only [ev_br, decide_eq_true hk', if_true, ev_ck c1, hat, hp, ev_c1, hDp, obind_some, h]
              obtain ⟨c, hc⟩ : ∃ c, dcd b m t p = c := ⟨_, rfl⟩
              obtain ⟨e, he⟩ : ∃ e, dcd b m t p.dropLast = e := ⟨_, rfl⟩
              unfold ofS cfl
              rw [hc] at hgp ⊢
              rw [he] at hDu ⊢
              by_cases c2 : c = -2
              · have hb2 : (c == -2) = true := by simpa using c2
                rw [if_pos hb2, ev_ck (r1 p), ev_leaf, wrapI (by omega) (by omega)]
                simp [c2]
              · by_cases c3 : c = -1
                · subst c3
                  simp (disch := first | assumption | omega) [wrapI]
                · have hc0 := hgp c3 c2
                  by_cases c4 : 1 < p.length
                  · have c4' : (1 : Int) < p.length := by omega
                    by_cases c5 : e = -1
                    · subst c5
                      simp (disch := first | assumption | omega) only [c2, c3, hc0, c4', beq_iff_eq, if_false, decide_true, if_true, wrapI, ev_ck k1, slc_init, ev_c1, hDu, obind_some, ev_ck (r1 _), ev_leaf, decide_eq_true_eq]
                      simp [c2, c3, c4, ev_ck r2]
                    · simp (disch := first | assumption | omega) only [c2, c3, hc0, c4', beq_iff_eq, if_false, decide_true, if_true, wrapI, ev_ck k1, slc_init, ev_c1, ev_br, hDu, obind_some, c5, ev_leaf, decide_eq_true_eq]
                      simp [c2, c3, c4, c5]
                  · have c4' : ¬ (1 : Int) < p.length := by omega
                    simp (disch := first | assumption | omega) only [c2, c3, hc0, c4', beq_iff_eq, if_false, decide_true, if_true, wrapI, ev_br, ev_leaf, decide_eq_true_eq]
                    simp [c2, c3, c4]
            · have hk' : ¬ (k : Int) < l.length := by omega
              simp [hk', h]) ([], []) (by simp) N (by omega)
        have e : (List.range l.length).foldl (fun (a : List Ln × List (List Bs)) k => ofS b m t a (l.getD k [])) ([], []) = (outL b m t, badL b m t) := by
          rw [fold_range, ofS_all, ← hl]
          unfold outL outE badL
          simp [Function.comp_def]
        rw [e] at this
        have e3 : W12_8 N (b, m, t, ([] : List (List Bs)), ([] : List Ln), 0, l, 0) = some (.brk 0 (b, m, t, badL b m t, ([] : List Ln), ((outL b m t).length : Int), l, (l.length : Int))) := this
        unfold mrg
        simp only [h1, h2, h3, Bool.not_true, Bool.false_eq_true, if_false, ev_br, ev_c1, Q_paths N b m t h1 h2 h3 hN, hl, obind_some, ev_f1, e3, lp1_brk, and_self, if_true]
        by_cases hbad : badL b m t = []
        · have hno : ¬ ((0 : Int) < ((badL b m t).length : Int)) := by rw [hbad]; simp
          simp only [hno, decide_false, Bool.false_eq_true, if_false, hbad, if_true]
          by_cases hlong : 200 < (outL b m t).length
          · have : (200 : Int) < ((outL b m t).length : Int) := by omega
            simp [this, hlong]
          · have hlong' : ¬ (200 : Int) < ((outL b m t).length : Int) := by omega
            have hC := (bad_nil (right_rf h1) (right_rf h2) (right_rf h3)).1 hbad
            have hall := outK_all hC
            rw [hl] at hall
            have this := loop_fold0 (R := List Ln × List (List Bs) × Int) (step := fun x => L12_21 N x.1 x.2.1 x.2.2.1 x.2.2.2.1 x.2.2.2.2.1 x.2.2.2.2.2) l.length
              (fun (a : List Ln) k => outK b m t (l.take (k + 1))) (fun a k => (b, m, t, a, l, k)) (fun a k => a = outK b m t (l.take k))
              (fun a k h _ => rfl) (fun a k hI hk => by
                unfold L12_21 U12_21
                by_cases h : k < l.length
                · have hk' : (k : Int) < l.length := by omega
                  have c1 : inR (k : Int) l.length := ⟨by omega, hk'⟩
                  have hat : atI (.list tS) l (k : Int) = l[k] := by show l.getD k [] = _; simp [h]
                  have hnext := fun hd => put_next (right_rf h1) (right_rf h2) (right_rf h3) hC (k := k) (by rw [hl]; exact h) hd
                  simp only [hl] at hnext
                  have hsucc : outK b m t (l.take (k + 1)) = outK b m t (l.take k) ++ outK b m t [l[k]] := by
                    rw [List.take_succ_eq_append_getElem h, outK_append]
                  have hlen := outK_len b m t (l.take k)
                  rw [List.length_take] at hlen
                  obtain ⟨p, hp⟩ : ∃ p, l[k] = p := ⟨_, rfl⟩
                  obtain ⟨p0, p16⟩ := hps p (by rw [← hp]; exact List.getElem_mem _)
                  have hpl := List.length_pos_iff.2 p0
                  have k1 : (0 : Int) ≤ 0 ∧ (0 : Int) ≤ ((p.length : Int) - 1) ∧ ((p.length : Int) - 1) ≤ (p.length : Int) := by omega
                  have c2 : inR ((p.length : Int) - 1) p.length := ⟨by omega, by omega⟩
                  have hDp := Q_decided N b m t p h1 h2 h3 (by omega) hN
                  rw [hp] at hnext hat hsucc
                  simp (disch := first | assumption | omega) only [ev_br, decide_eq_true hk', if_true, ev_ck c1, hat, ev_c1, hDp, obind_some, h]
                  by_cases c3 : dcd b m t p = -1
                  · have : ¬ (0 : Int) ≤ dcd b m t p := by omega
                    have he : outK b m t [p] = [] := by unfold outK; simp [c3]
                    rw [he, List.append_nil] at hsucc
                    simp (disch := first | assumption | omega) only [this, decide_false, Bool.false_eq_true, if_false, ev_leaf, wrapI, hsucc, hI]
                  · have hc0 := hge p c3 (noC (hC p)).1
                    obtain ⟨n1, n2, n3, n4⟩ := hnext c3
                    have hput := R_put N (outK b m t (l.take k)) p.dropLast (p.getLastD []) (dcd b m t p) n1 (by omega) (by rw [join_last p0]; exact n2) n3 (by omega) (by simp; omega)
                    rw [join_last p0, n4] at hput
                    simp (disch := first | assumption | omega) only [hc0, decide_true, if_true, ev_ck k1, ev_ck c2, wrapI, slc_init, atI_last p0, hI, hput, ev_c1, obind_some, ev_leaf]
                · have hk' : ¬ (k : Int) < l.length := by omega
                  simp [hk', h]) [] rfl N (by omega)
            have e4 : ∀ n, n ≤ l.length → (List.range n).foldl (fun (a : List Ln) k => outK b m t (l.take (k + 1))) [] = outK b m t (l.take n) := by
              intro n hn
              cases n with
              | zero => rfl
              | succ n => rw [List.range_succ, List.foldl_append]; rfl
            rw [e4 _ (Nat.le_refl _), List.take_length, ← hall] at this
            have e5 : W12_21 N (b, m, t, ([] : List Ln), l, 0) = some (.brk 0 (b, m, t, outL b m t, l, (l.length : Int))) := this
            simp [hlong', e5, hlong]
        · have hyes : (0 : Int) < ((badL b m t).length : Int) := by have := List.length_pos_iff.2 hbad; omega
          simp [hyes, hbad]
      · unfold mrg; simp [h1, h2, h3]
    · unfold mrg; simp [h1, h2]
  · unfold mrg; simp [h1]

end Go.Proofs.Ytbchajjppgkgnaa.Vc
