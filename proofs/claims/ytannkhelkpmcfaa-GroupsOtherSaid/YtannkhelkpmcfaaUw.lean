/-
  A TREE WITH A GROUP MORE. No condition.
-/
import Derived.Test.YtannkhelkpmcfaaUs
set_option linter.unusedVariables false
set_option linter.unusedSimpArgs false
namespace Go.Proofs.Ytannkhelkpmcfaa.Vc

def othU0 (t : List Ln) : List Ln := if gt t [grp] = none then insT t [grp] 0 else t
def othU1 (t : List Ln) : List Ln := insT (othU0 t) [grp, zz] 0
def othN (t g : List Ln) (k : Nat) : List Ln := (List.range k).foldl (fun u j => insT u ([grp, zz] ++ pth g j) (g.getD j (0, [], 0)).2.2) (othU1 t)
theorem othN_succ (t g : List Ln) (k : Nat) : othN t g (k + 1) = insT (othN t g k) ([grp, zz] ++ pth g k) (g.getD k (0, [], 0)).2.2 := by
  unfold othN
  rw [List.range_succ, List.foldl_append]; rfl

theorem oth0 {t : List Ln} (h : rf [] t = true) : rf [] (othU0 t) = true ∧ (othU0 t).length ≤ t.length + 1 ∧ (∀ p, p ≠ [grp] → gt (othU0 t) p = gt t p) ∧ gt (othU0 t) [grp] ≠ none ∧ oddO (gt (othU0 t) [grp]) = oddO (gt t [grp]) := by
  unfold othU0
  split
  · rename_i hg
    obtain ⟨h1, h2⟩ := insT_tree h (q := [grp]) (m := 0) hg (by simp) (by simp) (by decide) (by decide) (by decide) (.inl rfl)
    refine ⟨h1, by rw [insT_length]; omega, fun p hp => by rw [h2, if_neg hp], by rw [h2, if_pos rfl]; simp, ?_⟩
    rw [h2, if_pos rfl, hg]; rfl
  · rename_i hg
    exact ⟨h, by omega, fun p _ => rfl, hg, rfl⟩
theorem oth1 {t : List Ln} (h : rf [] t = true) (hz : gt t [grp, zz] = none) : gt (othU0 t) [grp, zz] = none ∧ rf [] (othU1 t) = true ∧ (othU1 t).length ≤ t.length + 2 ∧ (∀ p, p ≠ [grp, zz] → gt (othU1 t) p = gt (othU0 t) p) ∧ gt (othU1 t) [grp, zz] = some 0 := by
  obtain ⟨k1, k2, k3, k4, _⟩ := oth0 h
  have hz' : gt (othU0 t) [grp, zz] = none := by rw [k3 _ (by simp)]; exact hz
  obtain ⟨h1, h2⟩ := insT_tree k1 (q := [grp, zz]) (m := 0) hz' (by simp) (by simp) (by decide) (by decide) (by decide) (.inr k4)
  refine ⟨hz', h1, by show (insT _ _ _).length ≤ _; rw [insT_length]; omega, fun p hp => ?_, ?_⟩
  · show gt (insT _ _ _) p = _
    rw [h2, if_neg hp]
  · show gt (insT _ _ _) _ = _
    rw [h2, if_pos rfl]

theorem pre_zz {p : List Bs} : [grp, zz] <+: p ↔ ∃ s, p = [grp, zz] ++ s := ⟨fun ⟨s, h⟩ => ⟨s, h.symm⟩, fun ⟨s, h⟩ => ⟨s, h.symm⟩⟩

theorem oth_inv {t g : List Ln} (h : rf [] t = true) (hg : rf [] g = true) (hz : gt t [grp, zz] = none) : ∀ k, k ≤ g.length → (∀ j, j < k → (pth g j).length ≤ 14) →
    rf [] (othN t g k) = true ∧ (othN t g k).length ≤ t.length + 2 + k ∧ (∀ p, ¬ [grp, zz] <+: p → gt (othN t g k) p = gt (othU0 t) p) ∧ gt (othN t g k) [grp, zz] ≠ none ∧
    ∀ s, s ≠ [] → (gt (othN t g k) ([grp, zz] ++ s) ≠ none ↔ ∃ j, j < k ∧ pth g j = s)
  | 0, _, _ => by
    obtain ⟨hz', k1, k2, k3, k4⟩ := oth1 h hz
    refine ⟨k1, k2, fun p hp => k3 p fun e => hp (by rw [e]; exact List.prefix_refl _), ?_, fun s hs => ?_⟩
    · show gt (othU1 t) _ ≠ none
      rw [k4]; simp
    · show gt (othU1 t) _ ≠ none ↔ _
      constructor
      · intro hn
        rw [k3 _ (by intro e; exact hs (List.append_cancel_left (e.trans (List.append_nil _).symm)))] at hn
        exact absurd hz' (gt_pre (oth0 h).1 (by simp) hn)
      · rintro ⟨j, hj, _⟩; omega
  | k + 1, hk, hl => by
    obtain ⟨i1, i2, i3, i4, i5⟩ := oth_inv h hg hz k (by omega) fun j hj => hl j (by omega)
    have hkl : k < g.length := by omega
    have hpn := pth_ne_nil hkl
    have hnone : gt (othN t g k) ([grp, zz] ++ pth g k) = none := by
      cases hx : gt (othN t g k) ([grp, zz] ++ pth g k) with
      | none => rfl
      | some m =>
        obtain ⟨j, hj, he⟩ := (i5 _ hpn).1 (by rw [hx]; simp)
        have := pth_uniq hg (by omega) hkl he
        omega
    have hm := (gt_sound hg (gt_at hg hkl))
    have h14 := hl k (by omega)
    have hlast : ([grp, zz] ++ pth g k).getLastD [] = (pth g k).getLastD [] := by
      rw [getLastD_ne (by simp), getLastD_ne hpn, List.getLast_append_of_ne_nil (by simp) hpn]
    have hdl : ([grp, zz] ++ pth g k).dropLast = [grp, zz] ++ (pth g k).dropLast := List.dropLast_append_of_ne_nil hpn
    have hpar : gt (othN t g k) ([grp, zz] ++ (pth g k).dropLast) ≠ none := by
      rcases pth_up hg hkl (List.dropLast_concat_getLast hpn).symm with h1 | ⟨j, hj, h1⟩
      · rw [h1, List.append_nil]; exact i4
      · have hd : (pth g k).dropLast ≠ [] := by rw [← h1]; exact pth_ne_nil (by omega)
        exact (i5 _ hd).2 ⟨j, hj, h1⟩
    rw [othN_succ, getD_of_lt g hkl]
    obtain ⟨h1, h2⟩ := insT_tree i1 (q := [grp, zz] ++ pth g k) (m := (g[k]).2.2) hnone (by simp) (by rw [List.length_append]; simp; omega) (by rw [hlast]; exact hm.2.2.1) hm.2.2.2.1 hm.2.2.2.2 (.inr (by rw [hdl]; exact hpar))
    refine ⟨h1, by rw [insT_length]; omega, fun p hp => ?_, ?_, fun s hs => ?_⟩
    · rw [h2, if_neg fun e => hp (by rw [e]; exact List.prefix_append _ _)]
      exact i3 p hp
    · rw [h2]
      split
      · simp
      · exact i4
    · rw [h2]
      by_cases he : s = pth g k
      · rw [if_pos (by rw [he])]
        exact ⟨fun _ => ⟨k, by omega, he.symm⟩, fun _ => by simp⟩
      · rw [if_neg fun e => he (List.append_cancel_left e), i5 s hs]
        constructor
        · rintro ⟨j, hj, e⟩; exact ⟨j, by omega, e⟩
        · rintro ⟨j, hj, e⟩
          refine ⟨j, ?_, e⟩
          rcases Nat.lt_or_ge j k with h3 | h3
          · exact h3
          · have : j = k := by omega
            rw [this] at e; exact absurd e.symm he
/-- What is added last is new, and its parent is there. -/
theorem oth_step {t g : List Ln} (h : rf [] t = true) (hg : rf [] g = true) (hz : gt t [grp, zz] = none) {k : Nat} (hk : k < g.length) (hl : ∀ j, j < k → (pth g j).length ≤ 14) :
    gt (othN t g k) ([grp, zz] ++ pth g k) = none ∧ gt (othN t g k) ([grp, zz] ++ (pth g k).dropLast) ≠ none := by
  obtain ⟨i1, i2, i3, i4, i5⟩ := oth_inv h hg hz k (by omega) hl
  have hpn := pth_ne_nil hk
  constructor
  · cases hx : gt (othN t g k) ([grp, zz] ++ pth g k) with
    | none => rfl
    | some m =>
      obtain ⟨j, hj, he⟩ := (i5 _ hpn).1 (by rw [hx]; simp)
      have := pth_uniq hg (by omega) hk he
      omega
  · rcases pth_up hg hk (List.dropLast_concat_getLast hpn).symm with h1 | ⟨j, hj, h1⟩
    · rw [h1, List.append_nil]; exact i4
    · have hd : (pth g k).dropLast ≠ [] := by rw [← h1]; exact pth_ne_nil (by omega)
      exact (i5 _ hd).2 ⟨j, hj, h1⟩

theorem oth_same {t g : List Ln} (h : rightS t = true) (hg : rf [] g = true) (hz : gt t [grp, zz] = none) (ha : gt t [apl, zz] = none) (hl : ∀ j, j < g.length → (pth g j).length ≤ 14) (hn : t.length + 2 + g.length ≤ 200) :
    rightS (othN t g g.length) = true ∧ expandS (othN t g g.length) = expandS t := by
  obtain ⟨_, hrf⟩ := rightS_iff.1 h
  obtain ⟨i1, i2, i3, i4, i5⟩ := oth_inv hrf hg hz g.length (Nat.le_refl _) hl
  obtain ⟨k1, k2, k3, k4, k5⟩ := oth0 hrf
  have hr : rightS (othN t g g.length) = true := rightS_iff.2 ⟨by omega, i1⟩
  refine ⟨hr, other_same h hr (fun p hp hp2 => by rw [i3 p hp, k3 p hp2]) ?_ ha⟩
  rw [i3 [grp] (by decide)]
  exact k5

end Go.Proofs.Ytannkhelkpmcfaa.Vc
