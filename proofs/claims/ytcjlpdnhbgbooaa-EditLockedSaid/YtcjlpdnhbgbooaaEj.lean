/-
  WHAT IS DONE, told of maps: deleted, marked, renamed, copied, set. Plain lists. No condition.
-/
import Derived.Test.YtcjlpdnhbgbooaaEi
set_option linter.unusedVariables false
set_option linter.unusedSimpArgs false
namespace Go.Proofs.Ytcjlpdnhbgbooaa.Vc

/-- Nothing about this path is Protect, from above or below. -/
theorem shut_false {t : List Ln} (hrf : rf [] t = true) {q : List Bs} {i : Nat} (hf : fnd t q = some i) : shutB t q i = false ↔ ∀ p m, gt t p = some m → (p <+: q ∨ q <+: p) → m ≤ 1 := by
  obtain ⟨hi, hp⟩ := fnd_of hf
  have hle := endN_le t hi
  unfold shutB
  rw [Bool.or_eq_false_iff]
  constructor
  · rintro ⟨h1, h2⟩ p m hg (hpq | hpq)
    · rcases Int.lt_or_le 1 m with h | h
      · rw [kept_all.2 ⟨p, m, hpq, hg, h⟩] at h1; cases h1
      · exact h
    · obtain ⟨j, hj, e1, e2⟩ := gt_some hrf hg
      have := (part_pre hrf hi hj).1 (by rw [hp, e1]; exact hpq)
      rcases Int.lt_or_le 1 m with h | h
      · have h3 := List.any_eq_false.1 h2 t[j] (by
          unfold partN
          refine List.mem_take_iff_getElem.2 ⟨j - i, by simp; omega, ?_⟩
          rw [List.getElem_drop]
          congr 1; omega)
        rw [e2] at h3
        simp at h3
        omega
      · exact h
  · intro h
    constructor
    · cases hk : keptN t q q.length with
      | false => rfl
      | true =>
        obtain ⟨p, m, h1, h2, h3⟩ := kept_all.1 hk
        have := h p m h2 (.inl h1)
        omega
    · rw [List.any_eq_false]
      intro l hl
      unfold partN at hl
      obtain ⟨j, hj, rfl⟩ := List.getElem_of_mem hl
      have hj' : i + j < endN t i := by simp at hj; omega
      have h1 := h (pth t (i + j)) _ (gt_at hrf (by omega)) (.inr (by rw [← hp]; exact (part_pre hrf hi (by omega)).2 ⟨by omega, hj'⟩))
      simp only [List.getElem_take, List.getElem_drop, decide_eq_true_eq]
      omega

theorem cut_len {t : List Ln} {i : Nat} (hi : i < t.length) : (cutT t i).length + (endN t i - i) = t.length := by
  have := endN_le t hi
  have := endN_gt t i
  unfold cutT; simp; omega

theorem del_or (t : List Ln) (q : List Bs) : ((delS t q).2 ≠ 0 ∧ (delS t q).1 = t) ∨ ((delS t q).2 = 0 ∧ ∃ i, rightS t = true ∧ fnd t q = some i ∧ shutB t q i = false ∧ (delS t q).1 = cutT t i ∧ rightS (cutT t i) = true ∧ ∀ p, gt (cutT t i) p = if q <+: p then none else gt t p) := by
  unfold delS
  split
  · rename_i hr
    split
    · exact .inl ⟨by simp, rfl⟩
    · split
      · exact .inl ⟨by simp, rfl⟩
      · rename_i i hf
        split
        · exact .inl ⟨by simp, rfl⟩
        · rename_i hs
          obtain ⟨h200, hrf⟩ := rightS_iff.1 hr
          obtain ⟨hi, hp⟩ := fnd_of hf
          obtain ⟨c1, c2⟩ := cut_tree hrf hi
          have := cut_len hi
          exact .inr ⟨rfl, i, hr, hf, by simpa using hs, rfl, rightS_iff.2 ⟨by omega, c1⟩, by rw [hp] at c2; exact c2⟩
  · exact .inl ⟨by simp, rfl⟩

theorem withM_tree {t : List Ln} (hr : rightS t = true) {q : List Bs} {i : Nat} (hf : fnd t q = some i) {m : Int} (h0 : 0 ≤ m) (h3 : m ≤ 3) : rightS (withM t i m) = true ∧ (withM t i m).length = t.length ∧ ∀ p, gt (withM t i m) p = if p = q then some m else gt t p := by
  obtain ⟨h200, hrf⟩ := rightS_iff.1 hr
  obtain ⟨hi, hp⟩ := fnd_of hf
  obtain ⟨m1, m2⟩ := mark_tree hrf hi h0 h3
  unfold withM
  rw [getD_of_lt t hi]
  rw [hp] at m2
  exact ⟨rightS_iff.2 ⟨by simpa using h200, m1⟩, by simp, m2⟩

theorem mark_or (t : List Ln) (q : List Bs) (bit : Int) (on : Bool) : ((markS t q bit on).2 ≠ 0 ∧ (markS t q bit on).1 = t) ∨ ((markS t q bit on).2 = 0 ∧ (bit = 1 ∨ bit = 2) ∧ ∃ i m, rightS t = true ∧ fnd t q = some i ∧ gt t q = some m ∧ m = (t.getD i (0, [], 0)).2.2 ∧ 0 ≤ m ∧ m ≤ 3 ∧ keptN t q (q.length - 1) = false ∧ ¬(bit = 1 ∧ 1 < m) ∧
    (markS t q bit on).1 = withM t i (setM m bit on) ∧ rightS (withM t i (setM m bit on)) = true ∧ ∀ p, gt (withM t i (setM m bit on)) p = if p = q then some (setM m bit on) else gt t p) := by
  unfold markS
  split
  · rename_i hb
    split
    · rename_i hr
      split
      · exact .inl ⟨by simp, rfl⟩
      · split
        · exact .inl ⟨by simp, rfl⟩
        · rename_i i hf
          split
          · exact .inl ⟨by simp, rfl⟩
          · rename_i hk
            split
            · exact .inl ⟨by simp, rfl⟩
            · rename_i hn
              obtain ⟨h200, hrf⟩ := rightS_iff.1 hr
              have hi := (fnd_of hf).1
              have hm := mark_ok hrf hi
              have ho := setM_ok hm.1 hm.2 hb on
              have hw := withM_tree hr hf ho.1 ho.2
              exact .inr ⟨rfl, hb, i, _, hr, hf, fnd_gt hrf hf, rfl, hm.1, hm.2, by simpa using hk, hn, rfl, hw.1, hw.2.2⟩
    · exact .inl ⟨by simp, rfl⟩
  · exact .inl ⟨by simp, rfl⟩

/-- The facts of a grafted part. -/
theorem graft_facts {t t' : List Ln} (hr : rightS t = true) {q : List Bs} {w : Bs} {i : Nat} (hf : fnd t q = some i) (hw : w.length ≤ 40) (h' : rf [] t' = true) (hq' : gt t' (q.dropLast ++ [w]) = none) (hp' : q.dropLast = [] ∨ gt t' q.dropLast ≠ none) :
    rf [] (graftT t' (q.dropLast ++ [w]) (partN t i)) = true ∧ (graftT t' (q.dropLast ++ [w]) (partN t i)).length = t'.length + (endN t i - i) ∧
    ∀ p, gt (graftT t' (q.dropLast ++ [w]) (partN t i)) p = if (q.dropLast ++ [w]) <+: p then gt t (q ++ p.drop q.length) else gt t' p := by
  obtain ⟨h200, hrf⟩ := rightS_iff.1 hr
  obtain ⟨hi, hp⟩ := fnd_of hf
  have hq0 : q ≠ [] := by rw [← hp]; exact pth_ne_nil hi
  have hqp := List.length_pos_iff.2 hq0
  have hl : (q.dropLast ++ [w]).length = q.length := by simp; omega
  obtain ⟨g1, g2, g3⟩ := graft_tree hrf hi h' hq' (by rw [hl, hp]) (by simpa using hw) (by simpa using hp')
  rw [hp, hl] at g2
  exact ⟨g1, g3, g2⟩

theorem ren_or (t : List Ln) (q : List Bs) (w : Bs) : ((renS t q w).2 ≠ 0 ∧ (renS t q w).1 = t) ∨ ((renS t q w).2 = 0 ∧ w.length ≤ 40 ∧ ∃ i, rightS t = true ∧ fnd t q = some i ∧ shutB t q i = false ∧ gt t (q.dropLast ++ [w]) = none ∧ rightS (renS t q w).1 = true ∧ (renS t q w).1.length = t.length ∧
    ∀ p, gt (renS t q w).1 p = if (q.dropLast ++ [w]) <+: p then gt t (q ++ p.drop q.length) else if q <+: p then none else gt t p) := by
  unfold renS
  split
  · exact .inl ⟨by simp, rfl⟩
  · rename_i hw
    split
    · rename_i hr
      split
      · exact .inl ⟨by simp, rfl⟩
      · split
        · exact .inl ⟨by simp, rfl⟩
        · rename_i i hf
          split
          · exact .inl ⟨by simp, rfl⟩
          · rename_i hs
            split
            · rename_i hg
              obtain ⟨h200, hrf⟩ := rightS_iff.1 hr
              obtain ⟨hi, hp⟩ := fnd_of hf
              obtain ⟨k1, k2, k3, k4, k5, k6, k7⟩ := part_facts hrf hf
              obtain ⟨c1, c2⟩ := cut_tree hrf hi
              have hcl := cut_len hi
              rw [hp] at c2
              have hku : q.dropLast = [] ∨ gt (cutT t i) q.dropLast ≠ none := by
                rcases k4 with k4 | k4
                · exact .inl k4
                · right
                  rw [c2, if_neg (fun h => ?_)]
                  · exact k4
                  · have := h.length_le
                    have := List.length_pos_iff.2 k1
                    simp at *
                    omega
              have hgc : gt (cutT t i) (q.dropLast ++ [w]) = none := by rw [c2]; split <;> first | rfl | exact hg
              obtain ⟨g1, g2, g3⟩ := graft_facts hr hf (by omega) c1 hgc hku
              refine .inr ⟨rfl, by omega, i, hr, hf, by simpa using hs, hg, rightS_iff.2 ⟨by simp only; omega, g1⟩, by simp only; omega, fun p => ?_⟩
              simp only
              rw [g3, c2]
            · exact .inl ⟨by simp, rfl⟩
    · exact .inl ⟨by simp, rfl⟩

theorem cop_or (t : List Ln) (q : List Bs) (w : Bs) : ((copS t q w).2 ≠ 0 ∧ (copS t q w).1 = t) ∨ ((copS t q w).2 = 0 ∧ w.length ≤ 40 ∧ ∃ i, rightS t = true ∧ fnd t q = some i ∧ keptN t q (q.length - 1) = false ∧ gt t (q.dropLast ++ [w]) = none ∧ rightS (copS t q w).1 = true ∧
    ∀ p, gt (copS t q w).1 p = if (q.dropLast ++ [w]) <+: p then gt t (q ++ p.drop q.length) else gt t p) := by
  unfold copS
  split
  · exact .inl ⟨by simp, rfl⟩
  · rename_i hw
    split
    · rename_i hr
      split
      · exact .inl ⟨by simp, rfl⟩
      · split
        · exact .inl ⟨by simp, rfl⟩
        · rename_i i hf
          split
          · exact .inl ⟨by simp, rfl⟩
          · rename_i hs
            split
            · rename_i hg
              split
              · exact .inl ⟨by simp, rfl⟩
              · rename_i hlong
                obtain ⟨h200, hrf⟩ := rightS_iff.1 hr
                obtain ⟨k1, k2, k3, k4, k5, k6, k7⟩ := part_facts hrf hf
                obtain ⟨g1, g2, g3⟩ := graft_facts hr hf (by omega) hrf hg k4
                exact .inr ⟨rfl, by omega, i, hr, hf, by simpa using hs, hg, rightS_iff.2 ⟨by simp only; omega, g1⟩, g3⟩
            · exact .inl ⟨by simp, rfl⟩
    · exact .inl ⟨by simp, rfl⟩

theorem set_or (t : List Ln) (q : List Bs) : ((setS t q).2 ≠ 0 ∧ (setS t q).1 = t) ∨ ((setS t q).2 = 0 ∧ addE t q = 0 ∧ rightS t = true ∧ keptN t q q.length = false ∧ (setS t q).1 = addL t q ∧ rightS (addL t q) = true ∧ ∀ p, gt (addL t q) p = if gt t p = none ∧ p ≠ [] ∧ p <+: q then some 0 else gt t p) := by
  unfold setS
  split
  · rename_i he
    split
    · exact .inl ⟨by simp, rfl⟩
    · rename_i hk
      obtain ⟨a1, a2⟩ := addL_tree he
      exact .inr ⟨rfl, he, (addE_ok he).1, by simpa using hk, rfl, a1, a2⟩
  · rename_i he
    exact .inl ⟨he, rfl⟩

theorem do_or (t : List Ln) (a : Act4) : ((doS t a).2 ≠ 0 ∧ (doS t a).1 = t) ∨ ((doS t a).2 = 0 ∧ rightS t = true ∧ rightS (doS t a).1 = true) := by
  unfold doS
  split
  · rcases del_or t a.2.1 with h | ⟨h1, i, h2, _, _, h3, h4, _⟩
    · exact .inl h
    · exact .inr ⟨h1, h2, by rw [h3]; exact h4⟩
  · split
    · rcases mark_or t a.2.1 a.2.2.1 true with h | ⟨h1, _, i, m, h2, _, _, _, _, _, _, _, h3, h4, _⟩
      · exact .inl h
      · exact .inr ⟨h1, h2, by rw [h3]; exact h4⟩
    · split
      · rcases mark_or t a.2.1 a.2.2.1 false with h | ⟨h1, _, i, m, h2, _, _, _, _, _, _, _, h3, h4, _⟩
        · exact .inl h
        · exact .inr ⟨h1, h2, by rw [h3]; exact h4⟩
      · split
        · rcases ren_or t a.2.1 a.2.2.2 with h | ⟨h1, _, i, h2, _, _, _, h3, _⟩
          · exact .inl h
          · exact .inr ⟨h1, h2, h3⟩
        · split
          · rcases cop_or t a.2.1 a.2.2.2 with h | ⟨h1, _, i, h2, _, _, _, h3, _⟩
            · exact .inl h
            · exact .inr ⟨h1, h2, h3⟩
          · rcases set_or t a.2.1 with h | ⟨h1, _, h2, _, h3, h4, _⟩
            · exact .inl h
            · exact .inr ⟨h1, h2, by rw [h3]; exact h4⟩

theorem do_len (t : List Ln) (a : Act4) : (doS t a).1.length ≤ t.length + 200 := by
  rcases do_or t a with ⟨_, h⟩ | ⟨_, _, h⟩
  · rw [h]; omega
  · have := (rightS_iff.1 h).1; omega

/-- What is locked stays. -/
theorem do_locked {t : List Ln} (hr : rightS t = true) (a : Act4) {p : List Bs} {m : Int} (hg : gt t p = some m) (hk : keptN t p p.length = true) :
    ∃ m', gt (doS t a).1 p = some m' ∧ m' % 2 = m % 2 ∧ (keptN t p (p.length - 1) = true → m' = m) := by
  obtain ⟨h200, hrf⟩ := rightS_iff.1 hr
  have same : gt (doS t a).1 p = gt t p → ∃ m', gt (doS t a).1 p = some m' ∧ m' % 2 = m % 2 ∧ (keptN t p (p.length - 1) = true → m' = m) := fun h => ⟨m, h.trans hg, rfl, fun _ => rfl⟩
  obtain ⟨r, mr, hrp, hgr, hmr⟩ := kept_all.1 hk
  -- a part that is not shut does not hold the path
  have hshut : ∀ {q : List Bs} {i : Nat}, fnd t q = some i → shutB t q i = false → ¬ q <+: p := fun {q i} hf hs hqp => by
    have := (shut_false hrf hf).1 hs r mr hgr (by
      rcases Nat.le_total r.length q.length with h | h
      · exact .inl (List.prefix_of_prefix_length_le hrp hqp h)
      · exact .inr (List.prefix_of_prefix_length_le hqp hrp h))
    omega
  have hto : ∀ {u : List Bs}, u ≠ [] → gt t u = none → ¬ u <+: p := fun {u} hu0 hu hup => by
    obtain ⟨s, rfl⟩ := hup
    exact gt_pre hrf hu0 (s := s) (by rw [hg]; simp) hu
  have hmark : ∀ q bit on, gt (markS t q bit on).1 p = gt t p ∨ ∃ m', gt (markS t q bit on).1 p = some m' ∧ m' % 2 = m % 2 ∧ (keptN t p (p.length - 1) = true → m' = m) := fun q bit on => by
    rcases mark_or t q bit on with ⟨_, h⟩ | ⟨_, hb, i, m1, _, hf, hg1, _, h0, h3, hab, hn, h4, _, h5⟩
    · left; rw [h]
    · rw [h4, h5]
      by_cases hpq : p = q
      · subst hpq
        right
        rw [if_pos rfl]
        have : m1 = m := by rw [hg] at hg1; exact (Option.some.inj hg1).symm
        subst this
        refine ⟨_, rfl, ?_, fun h => by rw [hab] at h; cases h⟩
        have hown : 1 < m1 := by
          by_cases hrp2 : r = p
          · rw [hrp2, hg] at hgr
            have := Option.some.inj hgr
            omega
          · exfalso
            have : keptN t p (p.length - 1) = true := kept_above.2 ⟨r, mr, by
              obtain ⟨s, hs⟩ := hrp
              have hs0 : s ≠ [] := fun e => hrp2 (by rw [← hs, e, List.append_nil])
              rw [← hs, List.dropLast_append_of_ne_nil hs0]
              exact List.prefix_append _ _, hgr, hmr⟩
            rw [hab] at this; cases this
        have hb2 : bit = 2 := by
          rcases hb with hb | hb
          · exact absurd ⟨hb, hown⟩ hn
          · exact hb
        subst hb2
        have : m1 = 2 ∨ m1 = 3 := by omega
        rcases this with rfl | rfl <;> cases on <;> decide
      · left; rw [if_neg hpq]
  unfold doS at same ⊢
  split
  · rename_i h1
    rw [if_pos h1] at same
    rcases del_or t a.2.1 with ⟨_, h⟩ | ⟨_, i, _, hf, hs, h3, _, h4⟩
    · exact same (by rw [h])
    · refine same ?_
      rw [h3, h4, if_neg (hshut hf hs)]
  · rename_i h1
    rw [if_neg h1] at same
    split
    · rename_i h2
      rw [if_pos h2] at same
      rcases hmark a.2.1 a.2.2.1 true with h | h
      · exact same h
      · exact h
    · rename_i h2
      rw [if_neg h2] at same
      split
      · rename_i h3
        rw [if_pos h3] at same
        rcases hmark a.2.1 a.2.2.1 false with h | h
        · exact same h
        · exact h
      · rename_i h3
        rw [if_neg h3] at same
        split
        · rename_i h4
          rw [if_pos h4] at same
          rcases ren_or t a.2.1 a.2.2.2 with ⟨_, h⟩ | ⟨_, _, i, _, hf, hs, hg2, _, _, h5⟩
          · exact same (by rw [h])
          · refine same ?_
            rw [h5, if_neg (hto (by simp) hg2), if_neg (hshut hf hs)]
        · rename_i h4
          rw [if_neg h4] at same
          split
          · rename_i h5
            rw [if_pos h5] at same
            rcases cop_or t a.2.1 a.2.2.2 with ⟨_, h⟩ | ⟨_, _, i, _, hf, hs, hg2, _, h6⟩
            · exact same (by rw [h])
            · refine same ?_
              rw [h6, if_neg (hto (by simp) hg2)]
          · rename_i h5
            rw [if_neg h5] at same
            rcases set_or t a.2.1 with ⟨_, h⟩ | ⟨_, _, _, _, h6, _, h7⟩
            · exact same (by rw [h])
            · refine same ?_
              rw [h6, h7, if_neg (fun h => by rw [hg] at h; cases h.1)]

/-! ### There and back -/

theorem pre_split {a b p : List Bs} (hl : a.length = b.length) (ha : a <+: p) (hb : b <+: p) : a = b := by
  obtain ⟨s, rfl⟩ := ha
  obtain ⟨s', h⟩ := hb
  exact (List.append_inj h.symm hl).1

/-- Renamed, and renamed back. -/
theorem ren_back {t : List Ln} (hr : rightS t = true) {q : List Bs} {w : Bs} (he : (renS t q w).2 = 0) (hq0 : q ≠ []) : renS (renS t q w).1 (q.dropLast ++ [w]) (q.getLast hq0) = (t, 0) := by
  obtain ⟨h200, hrf⟩ := rightS_iff.1 hr
  have hqp := List.length_pos_iff.2 hq0
  rcases ren_or t q w with ⟨h, _⟩ | ⟨_, hw, i, _, hf, hs, hg, hru, hul, hu⟩
  · exact absurd he h
  · obtain ⟨u, hU⟩ : ∃ u, (renS t q w).1 = u := ⟨_, rfl⟩
    rw [hU] at hru hul hu ⊢
    obtain ⟨hu200, hurf⟩ := rightS_iff.1 hru
    obtain ⟨to, hto⟩ : ∃ to, q.dropLast ++ [w] = to := ⟨_, rfl⟩
    rw [hto] at hu hg ⊢
    have hto0 : to ≠ [] := by rw [← hto]; simp
    have htl : to.length = q.length := by rw [← hto]; simp; omega
    have hback : to.dropLast ++ [q.getLast hq0] = q := by
      rw [← hto, List.dropLast_concat, List.dropLast_concat_getLast]
    have hne : to ≠ q := fun e => by
      rw [e, fnd_gt hrf hf] at hg; cases hg
    have hgt : gt u to ≠ none := by
      rw [hu, if_pos (List.prefix_refl _), ← htl, List.drop_length, List.append_nil, fnd_gt hrf hf]; simp
    have hgq : gt u q = none := by
      rw [hu, if_neg (fun h => hne (pre_split htl h (List.prefix_refl _))), if_pos (List.prefix_refl _)]
    obtain ⟨k1, k2, k3, k4, k5, k6, k7⟩ := part_facts hrf hf
    have h40 : (q.getLast hq0).length ≤ 40 := by
      have := (gt_sound hrf (fnd_gt hrf hf)).2.2.1
      rwa [getLastD_ne hq0] at this
    cases hfu : fnd u to with
    | none => exact absurd (fnd_none0.1 hfu) hgt
    | some j =>
      have hsu : shutB u to j = false := (shut_false hurf hfu).2 fun p m hgp hpp => by
        have hs' := (shut_false hrf hf).1 hs
        rw [hu] at hgp
        by_cases h1 : to <+: p
        · rw [if_pos h1] at hgp
          exact hs' _ _ hgp (.inr (List.prefix_append _ _))
        · rw [if_neg h1] at hgp
          split at hgp
          · cases hgp
          · refine hs' _ _ hgp (.inl ?_)
            rcases hpp with h2 | h2
            · -- a prefix of to, other than to
              have hlen : p.length ≤ q.length - 1 := by
                rcases Nat.lt_or_ge p.length to.length with h3 | h3
                · omega
                · exact absurd (by rw [h2.eq_of_length_le h3]; exact List.prefix_refl _) h1
              have h4 : p <+: q.dropLast := by
                rw [← hto] at h2
                exact List.prefix_of_prefix_length_le h2 (List.prefix_append _ _) (by simp; omega)
              exact h4.trans (List.dropLast_prefix _)
            · exact absurd h2 h1
      rcases ren_or u to (q.getLast hq0) with ⟨h, _⟩ | ⟨h, _, j', _, hf', _, _, hrv, _, hv⟩
      · exfalso
        apply h
        unfold renS
        rw [if_neg (by omega), if_pos hru, if_neg hto0, hfu]
        simp only [hback, hgq, hsu]
        rfl
      · refine Prod.ext ?_ h
        refine gt_ext (rightS_iff.1 hrv).2 hrf fun p => ?_
        rw [hv, hback, htl]
        by_cases h1 : q <+: p
        · rw [if_pos h1]
          obtain ⟨s, rfl⟩ := h1
          rw [List.drop_left, hu, if_pos (List.prefix_append _ _)]
          rw [← htl, List.drop_left]
        · rw [if_neg h1]
          by_cases h2 : to <+: p
          · rw [if_pos h2]
            cases hx : gt t p with
            | none => rfl
            | some m =>
              obtain ⟨s, rfl⟩ := h2
              exact absurd hg (gt_pre hrf hto0 (s := s) (by rw [hx]; simp))
          · rw [if_neg h2, hu, if_neg h2, if_neg h1]

/-- Copied, and the copy deleted. -/
theorem cop_back {t : List Ln} (hr : rightS t = true) {q : List Bs} {w : Bs} (he : (copS t q w).2 = 0) : delS (copS t q w).1 (q.dropLast ++ [w]) = (t, 0) ∨ (delS (copS t q w).1 (q.dropLast ++ [w])).2 = 12 := by
  obtain ⟨h200, hrf⟩ := rightS_iff.1 hr
  rcases cop_or t q w with ⟨h, _⟩ | ⟨_, hw, i, _, hf, hs, hg, hru, hu⟩
  · exact absurd he h
  · obtain ⟨u, hU⟩ : ∃ u, (copS t q w).1 = u := ⟨_, rfl⟩
    rw [hU] at hru hu ⊢
    obtain ⟨to, hto⟩ : ∃ to, q.dropLast ++ [w] = to := ⟨_, rfl⟩
    obtain ⟨hu200, hurf⟩ := rightS_iff.1 hru
    have hq0 : q ≠ [] := (part_facts hrf hf).1
    have hqp := List.length_pos_iff.2 hq0
    rw [hto] at hu hg ⊢
    have hto0 : to ≠ [] := by rw [← hto]; simp
    have htl : to.length = q.length := by rw [← hto]; simp; omega
    have hgt : gt u to ≠ none := by
      rw [hu, if_pos (List.prefix_refl _), ← htl, List.drop_length, List.append_nil, fnd_gt hrf hf]; simp
    rcases del_or u to with ⟨h1, h2⟩ | ⟨h, j, _, hfu, _, h3, h4, h5⟩
    · right
      cases hfu : fnd u to with
      | none => exact absurd (fnd_none0.1 hfu) hgt
      | some j =>
        unfold delS at h1 ⊢
        rw [if_pos hru, if_neg hto0, hfu] at h1 ⊢
        simp only at h1 ⊢
        split
        · rfl
        · rename_i h6; rw [if_neg h6] at h1; exact absurd rfl h1
    · left
      refine Prod.ext ?_ h
      rw [h3]
      refine gt_ext (rightS_iff.1 h4).2 hrf fun p => ?_
      rw [h5]
      split
      · rename_i h6
        cases hx : gt t p with
        | none => rfl
        | some m =>
          obtain ⟨s, rfl⟩ := h6
          exact absurd hg (gt_pre hrf hto0 (s := s) (by rw [hx]; simp))
      · rename_i h6
        rw [hu, if_neg h6]

end Go.Proofs.Ytcjlpdnhbgbooaa.Vc
