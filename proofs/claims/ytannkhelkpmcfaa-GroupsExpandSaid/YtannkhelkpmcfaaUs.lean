/-
  WHAT IS EXPANDED, AS A MAP; WHAT MAKES NO DIFFERENCE. No condition.
-/
import Derived.Test.YtannkhelkpmcfaaUg
set_option linter.unusedVariables false
set_option linter.unusedSimpArgs false
namespace Go.Proofs.Ytannkhelkpmcfaa.Vc

theorem pre_headD {p q : List Bs} (h : p <+: q) (hp : p ≠ []) : p.headD [] = q.headD [] := by
  obtain ⟨s, rfl⟩ := h
  exact (headD_append hp).symm

/-! ### All that is added -/

theorem addAll_len (x : List Ln) : ∀ (ps : List (List Bs)) (out : List Ln), (addAll x out ps).2 = 0 → out.length ≤ (addAll x out ps).1.length
  | [], out, _ => Nat.le_refl _
  | p :: r, out, h => by
    rw [addAll] at h ⊢
    split at h
    · rename_i hi
      split at h
      · rename_i he
        rw [if_pos hi, if_pos he]
        have h1 := addAll_len x r (addL out p) h
        have h2 := (addN_len out p p.length).1
        have h3 : (addL out p).length = (addN out p p.length).length := rfl
        omega
      · rename_i he; exact absurd h he
    · rename_i hi
      rw [if_neg hi]
      exact addAll_len x r out h
theorem addAll_err (x : List Ln) : ∀ (ps : List (List Bs)) (out : List Ln), (addAll x out ps).2 ≠ 0 → (addAll x out ps).1 = []
  | [], out, h => absurd rfl h
  | p :: r, out, h => by
    rw [addAll] at h ⊢
    split at h
    · rename_i hi
      split at h
      · rename_i he
        rw [if_pos hi, if_pos he]
        exact addAll_err x r (addL out p) h
      · rename_i he
        rw [if_pos hi, if_neg he]
    · rename_i hi
      rw [if_neg hi]
      exact addAll_err x r out h
theorem addAll_map (x : List Ln) : ∀ (ps : List (List Bs)) (out : List Ln), rightS out = true → (addAll x out ps).2 = 0 →
    rightS (addAll x out ps).1 = true ∧ (∀ p m, gt out p = some m → gt (addAll x out ps).1 p = some m) ∧
    (∀ p m, gt (addAll x out ps).1 p = some m → gt out p = some m ∨ (m = 0 ∧ p ≠ [] ∧ ∃ q, q ∈ ps ∧ inhB x q = true ∧ p <+: q)) ∧
    ∀ q, q ∈ ps → inhB x q = true → gt (addAll x out ps).1 q ≠ none
  | [], out, hr, _ => ⟨hr, fun _ _ h => h, fun _ _ h => .inl h, fun q hq => by cases hq⟩
  | p :: r, out, hr, h => by
    rw [addAll] at h ⊢
    by_cases hi : inhB x p = true
    · rw [if_pos hi] at h ⊢
      by_cases he : addE out p = 0
      · rw [if_pos he] at h ⊢
        obtain ⟨l1, l2⟩ := addL_tree he
        have hp0 := (addE_ok he).2.1
        obtain ⟨k1, k2, k3, k4⟩ := addAll_map x r (addL out p) l1 h
        refine ⟨k1, fun q m hq => k2 q m ?_, fun q m hq => ?_, fun q hq hb => ?_⟩
        · rw [l2, if_neg (fun h => by rw [hq] at h; cases h.1)]; exact hq
        · rcases k3 q m hq with h1 | ⟨h1, h2, q', h3, h4, h5⟩
          · rw [l2] at h1
            split at h1
            · rename_i hc
              injection h1 with h1
              exact .inr ⟨h1.symm, hc.2.1, p, List.mem_cons_self, hi, hc.2.2⟩
            · exact .inl h1
          · exact .inr ⟨h1, h2, q', List.mem_cons_of_mem _ h3, h4, h5⟩
        · rcases List.mem_cons.1 hq with rfl | h1
          · have : ∃ m, gt (addL out q) q = some m := by
              rw [l2]
              split
              · exact ⟨0, rfl⟩
              · rename_i hc
                cases hx : gt out q with
                | none => exact absurd ⟨hx, hp0, List.prefix_refl _⟩ hc
                | some m => exact ⟨m, rfl⟩
            obtain ⟨m, hm⟩ := this
            rw [k2 q m hm]; simp
          · exact k4 q h1 hb
      · rw [if_neg he] at h
        exact absurd h he
    · rw [if_neg hi] at h ⊢
      obtain ⟨k1, k2, k3, k4⟩ := addAll_map x r out hr h
      refine ⟨k1, k2, fun q m hq => ?_, fun q hq hb => ?_⟩
      · rcases k3 q m hq with h1 | ⟨h1, h2, q', h3, h4, h5⟩
        · exact .inl h1
        · exact .inr ⟨h1, h2, q', List.mem_cons_of_mem _ h3, h4, h5⟩
      · rcases List.mem_cons.1 hq with rfl | h1
        · exact absurd hb hi
        · exact k4 q h1 hb

def allS (t : List Ln) : List (List Bs) := (wordsS (actL t) [apl]).flatMap fun g => (pathsS t g).1
theorem expand_err {t : List Ln} (h : (expandS t).2 ≠ 0) : (expandS t).1 = [] := by
  unfold expandS at h ⊢
  split
  · rename_i hc
    rw [if_pos hc] at h
    exact addAll_err _ _ _ h
  · rfl
theorem expand_map {t : List Ln} (hr : rightS t = true) (h : (expandS t).2 = 0) :
    rightS (expandS t).1 = true ∧ (expL t).length ≤ (expandS t).1.length ∧ (∀ p m, gt (expL t) p = some m → gt (expandS t).1 p = some m) ∧
    (∀ p m, gt (expandS t).1 p = some m → gt (expL t) p = some m ∨ (m = 0 ∧ p ≠ [] ∧ ∃ q, q ∈ allS t ∧ inhB (expL t) q = true ∧ p <+: q)) ∧
    ∀ q, q ∈ allS t → inhB (expL t) q = true → gt (expandS t).1 q ≠ none := by
  unfold expandS at h ⊢
  split at h
  · rename_i hc
    rw [if_pos hc]
    obtain ⟨h1, h2, h3, h4⟩ := addAll_map (expL t) (allS t) (expL t) (exp_right hr) h
    exact ⟨h1, addAll_len _ _ _ h, h2, h3, h4⟩
  · cases h

theorem inh_own {x : List Ln} {q : List Bs} (h : inhB x q = true) : ownW (q.headD []) = false := by
  unfold inhB at h
  rw [Bool.and_eq_true, Bool.not_eq_true'] at h
  exact h.1
/-- Every line of what is expanded: no mark, no own word. -/
theorem expand_plain {t : List Ln} (hr : rightS t = true) (h : (expandS t).2 = 0) {p : List Bs} {m : Int} (hg : gt (expandS t).1 p = some m) : m = 0 ∧ ownW (p.headD []) = false := by
  obtain ⟨_, hrf⟩ := rightS_iff.1 hr
  rcases (expand_map hr h).2.2.2.1 p m hg with h1 | ⟨h1, h2, q, _, h4, h5⟩
  · have := exp_mark hrf h1
    exact ⟨this.1, this.2.1⟩
  · exact ⟨h1, by rw [pre_headD h5 h2]; exact inh_own h4⟩

/-! ### Plain trees -/

theorem off_plain {u : List Ln} (h0 : ∀ p m, gt u p = some m → m = 0) (p : List Bs) : offP u p = false := by
  cases hx : offP u p with
  | false => rfl
  | true =>
    obtain ⟨q, m, _, h2, h3⟩ := off_iff.1 hx
    have := h0 q m h2
    omega
theorem act_plain {u : List Ln} (h : rf [] u = true) (h0 : ∀ p m, gt u p = some m → m = 0) : actL u = u := by
  obtain ⟨a1, _, a3⟩ := act_tree h
  refine gt_ext a1 h fun p => ?_
  rw [a3, if_pos (off_plain h0 p)]
  cases hx : gt u p with
  | none => rfl
  | some m => rw [h0 p m hx]; rfl
theorem exp_plain {u : List Ln} (h : rf [] u = true) (h0 : ∀ p m, gt u p = some m → m = 0 ∧ ownW (p.headD []) = false) : expL u = u := by
  obtain ⟨a1, a2⟩ := exp_tree h
  refine gt_ext a1 h fun p => ?_
  rw [a2, act_plain h fun p m hg => (h0 p m hg).1]
  split
  · rfl
  · rename_i hc
    cases hx : gt u p with
    | none => rfl
    | some m => exact absurd (h0 p m hx).2 hc
theorem plain_fix {u : List Ln} (hr : rightS u = true) (h0 : ∀ p m, gt u p = some m → m = 0 ∧ ownW (p.headD []) = false) : expandS u = (u, 0) := by
  obtain ⟨_, h⟩ := rightS_iff.1 hr
  have ha := act_plain h fun p m hg => (h0 p m hg).1
  have hx := exp_plain h h0
  have hw : wordsS (actL u) [apl] = [] := by
    rw [ha]
    refine words_none h (by simp) ?_
    cases hg : gt u [apl] with
    | none => rfl
    | some m =>
      have := (h0 _ _ hg).2
      exact absurd this (by decide)
  unfold expandS
  rw [hw, hx]
  rfl
theorem expand_twice {t : List Ln} (hr : rightS t = true) (h : (expandS t).2 = 0) : expandS (expandS t).1 = ((expandS t).1, 0) := plain_fix (expand_map hr h).1 fun _ _ hg => expand_plain hr h hg

/-! ### Without what is inactive -/

theorem act_act {t : List Ln} (h : rf [] t = true) : actL (actL t) = actL t := act_plain (act_tree h).1 fun _ _ hg => (act_mark h hg).1
theorem exp_act {t : List Ln} (h : rf [] t = true) : expL (actL t) = expL t := by
  unfold expL
  rw [act_act h]
theorem paths_act {t : List Ln} (h : rf [] t = true) (g : Bs) : pathsS (actL t) g = pathsS t g := by
  unfold pathsS
  rw [act_act h, exp_act h]
theorem expand_act {t : List Ln} (h : rf [] t = true) : expandS (actL t) = expandS t := by
  unfold expandS
  rw [act_act h, exp_act h]
  simp only [paths_act h]

/-! ### Leaves under a path, by the map -/

theorem leaf_iff {a : List Ln} (h : rf [] a = true) {k : Nat} (hk : k < a.length) : endN a k = k + 1 ↔ ∀ q, gt a q ≠ none → pth a k <+: q → q = pth a k := by
  constructor
  · intro he q hq hp
    cases hx : gt a q with
    | none => exact absurd hx hq
    | some m =>
      obtain ⟨j, hj, h1, _⟩ := gt_some h hx
      subst h1
      have := (part_pre h hk hj).1 hp
      have : j = k := by omega
      rw [this]
  · intro H
    have h1 := endN_gt a k
    have h2 := endN_le a hk
    rcases Nat.lt_or_ge (k + 1) (endN a k) with h3 | h3
    · exfalso
      have hk1 : k + 1 < a.length := by omega
      have h4 := (part_pre h hk hk1).2 ⟨by omega, h3⟩
      have h5 := H (pth a (k + 1)) (by rw [gt_at h hk1]; simp) h4
      have := pth_uniq h hk1 hk h5
      omega
    · omega
theorem leafP_ents {a : List Ln} (h : rf [] a = true) (g : Bs) : leafP a g = ((ents a).filter fun e => @decide (2 < e.1.length ∧ [grp, g] <+: e.1 ∧ ∀ q, gt a q ≠ none → e.1 <+: q → q = e.1) (Classical.propDecidable _)).map (·.1) := by
  unfold leafP
  rw [ents_range, List.filter_map, List.map_map]
  have : (List.range a.length).filter (fun k => (endN a k == k + 1) && (decide (2 < (pth a k).length) && decide ([grp, g] <+: pth a k))) = (List.range a.length).filter ((fun e : List Bs × Int => @decide (2 < e.1.length ∧ [grp, g] <+: e.1 ∧ ∀ q, gt a q ≠ none → e.1 <+: q → q = e.1) (Classical.propDecidable _)) ∘ fun k => (pth a k, (a.getD k (0, [], 0)).2.2)) := by
    apply List.filter_congr
    intro k hk
    have hk := List.mem_range.1 hk
    rw [Bool.eq_iff_iff]
    simp only [Bool.and_eq_true, beq_iff_eq, decide_eq_true_eq, Function.comp, leaf_iff h hk]
    constructor
    · rintro ⟨h1, h2, h3⟩; exact ⟨h2, h3, h1⟩
    · rintro ⟨h2, h3, h1⟩; exact ⟨h1, h2, h3⟩
  rw [this]
  rfl
theorem leafP_ext {a b : List Ln} (ha : rf [] a = true) (hb : rf [] b = true) {g : Bs} (H : ∀ q, [grp, g] <+: q → gt a q = gt b q) : leafP a g = leafP b g := by
  rw [leafP_ents ha, leafP_ents hb]
  congr 1
  refine sorted_ext ((ents_ok ha).up.filter _) ((ents_ok hb).up.filter _) fun e => ?_
  rw [List.mem_filter, List.mem_filter]
  simp only [decide_eq_true_eq]
  have key : ∀ {a b : List Ln}, rf [] a = true → rf [] b = true → (∀ q, [grp, g] <+: q → gt a q = gt b q) → e ∈ ents a → 2 < e.1.length → [grp, g] <+: e.1 → (∀ q, gt a q ≠ none → e.1 <+: q → q = e.1) → e ∈ ents b ∧ 2 < e.1.length ∧ [grp, g] <+: e.1 ∧ ∀ q, gt b q ≠ none → e.1 <+: q → q = e.1 := fun ha hb H h1 h2 h3 h4 => by
    refine ⟨(gt_iff (m := e.2) hb).1 ?_, h2, h3, fun q hq hp => h4 q ?_ hp⟩
    · rw [← H _ h3]; exact (gt_iff (m := e.2) ha).2 h1
    · rw [H _ (h3.trans hp)]; exact hq
  constructor
  · rintro ⟨h1, h2, h3, h4⟩; exact key ha hb H h1 h2 h3 h4
  · rintro ⟨h1, h2, h3, h4⟩; exact key hb ha (fun q hq => (H q hq).symm) h1 h2 h3 h4

/-! ### A group that is not applied -/

def zz : Bs := [122, 122]
theorem off_same {t u : List Ln} {p : List Bs} (H : ∀ q, q <+: p → oddO (gt u q) = oddO (gt t q)) : offP u p = offP t p := by
  unfold offP
  rw [Bool.eq_iff_iff, List.any_eq_true, List.any_eq_true]
  constructor
  · rintro ⟨k, h1, h2⟩; exact ⟨k, h1, by rw [← H _ (List.take_prefix _ _)]; exact h2⟩
  · rintro ⟨k, h1, h2⟩; exact ⟨k, h1, by rw [H _ (List.take_prefix _ _)]; exact h2⟩

theorem other_same {t u : List Ln} (ht : rightS t = true) (hu : rightS u = true) (H1 : ∀ p, ¬ [grp, zz] <+: p → p ≠ [grp] → gt u p = gt t p) (H2 : oddO (gt u [grp]) = oddO (gt t [grp]))
    (H3 : gt t [apl, zz] = none) : expandS u = expandS t := by
  obtain ⟨_, htf⟩ := rightS_iff.1 ht
  obtain ⟨_, huf⟩ := rightS_iff.1 hu
  obtain ⟨at1, _, at3⟩ := act_tree htf
  obtain ⟨au1, _, au3⟩ := act_tree huf
  have hoff : ∀ p, ¬ [grp, zz] <+: p → offP u p = offP t p := fun p hp => off_same fun q hq => by
    by_cases hg : q = [grp]
    · rw [hg]; exact H2
    · rw [H1 q (fun h => hp (h.trans hq)) hg]
  have hact : ∀ p, ¬ [grp, zz] <+: p → p ≠ [grp] → gt (actL u) p = gt (actL t) p := fun p hp hg => by rw [au3, at3, hoff p hp, H1 p hp hg]
  have hexp : expL u = expL t := by
    refine gt_ext (exp_tree huf).1 (exp_tree htf).1 fun p => ?_
    rw [(exp_tree huf).2, (exp_tree htf).2]
    split
    · rename_i ho
      have hnp : ¬ [grp, zz] <+: p := fun h => by
        rw [← pre_headD h (by simp)] at ho
        exact absurd ho (by decide)
      refine hact p hnp fun h => ?_
      rw [h] at ho
      exact absurd ho (by decide)
    · rfl
  have hw : wordsS (actL u) [apl] = wordsS (actL t) [apl] := words_ext au1 at1 fun w => hact _ (fun h => by
    have := pre_headD h (by simp)
    exact absurd (show grp = apl from this) (by decide)) (by simp)
  have hpre : ∀ {g : Bs} {q : List Bs}, g ≠ zz → [grp, g] <+: q → ¬ [grp, zz] <+: q ∧ q ≠ [grp] := fun hg hq => by
    obtain ⟨s, rfl⟩ := hq
    constructor
    · rintro ⟨s', hs⟩
      simp only [List.cons_append, List.nil_append, List.cons.injEq] at hs
      exact hg hs.2.1.symm
    · simp
  have hgg : ∀ g, g ≠ zz → gt (actL u) [grp, g] = gt (actL t) [grp, g] := fun g hg => by
    obtain ⟨h1, h2⟩ := hpre hg (List.prefix_refl _)
    exact hact _ h1 h2
  have hpaths : ∀ g, g ≠ zz → pathsS u g = pathsS t g := fun g hg => by
    unfold pathsS
    rw [hgg g hg, hexp, leafP_ext au1 at1 (g := g) fun q hq => by
      obtain ⟨h1, h2⟩ := hpre hg hq
      exact hact _ h1 h2]
  have hne : ∀ g, g ∈ wordsS (actL t) [apl] → g ≠ zz := fun g hg he => by
    have h1 := (words_mem at1).1 hg
    rw [he] at h1
    refine h1 ?_
    rw [at3]
    split
    · show (gt t [apl, zz]).map _ = none
      rw [H3]; rfl
    · rfl
  unfold expandS
  rw [hw, hexp]
  have e1 : (wordsS (actL t) [apl]).all (fun g => decide (gt (actL u) [grp, g] ≠ none)) = (wordsS (actL t) [apl]).all (fun g => decide (gt (actL t) [grp, g] ≠ none)) := by
    rw [Bool.eq_iff_iff, List.all_eq_true, List.all_eq_true]
    constructor
    · intro h g hg; have := h g hg; rwa [hgg g (hne g hg)] at this
    · intro h g hg; have := h g hg; rwa [hgg g (hne g hg)]
  have e2 : (wordsS (actL t) [apl]).flatMap (fun g => (pathsS u g).1) = (wordsS (actL t) [apl]).flatMap (fun g => (pathsS t g).1) := by
    rw [List.flatMap_def, List.flatMap_def]
    congr 1
    apply List.map_congr_left
    intro g hg
    rw [hpaths g (hne g hg)]
  rw [e1, e2]

end Go.Proofs.Ytannkhelkpmcfaa.Vc
