/-
  COMMANDS ON A TREE, AS PLAIN LISTS: paths that are added, marks that are set; once more, in another order; of a tree itself. No condition.
-/
import Derived.Test.YtmohgkoomnihfaaMt
set_option linter.unusedVariables false
set_option linter.unusedSimpArgs false
namespace Go.Proofs.Ytmohgkoomnihfaa.Vc

/-! ### Paths that are added -/

def Adds (t : List Ln) : List (List Bs) → List Ln → Prop
  | [], u => t = u
  | p :: P, u => addE t p = 0 ∧ Adds (addL t p) P u
theorem adds_spec : ∀ (P : List (List Bs)) {t u : List Ln}, rightS t = true → Adds t P u → rightS u = true ∧ ∀ q, gt u q = if gt t q = none ∧ q ≠ [] ∧ ∃ p ∈ P, q <+: p then some 0 else gt t q
  | [], t, u, hr, h => by
    have : t = u := h
    subst this
    exact ⟨hr, fun q => by rw [if_neg]; rintro ⟨_, _, p, hp, _⟩; cases hp⟩
  | p :: P, t, u, hr, ⟨he, h⟩ => by
    obtain ⟨h1, h2⟩ := addL_tree he
    obtain ⟨h3, h4⟩ := adds_spec P h1 h
    refine ⟨h3, fun q => ?_⟩
    rw [h4, h2]
    by_cases hq : gt t q = none ∧ q ≠ []
    · by_cases hp : q <+: p
      · rw [if_pos (c := gt t q = none ∧ q ≠ [] ∧ q <+: p) ⟨hq.1, hq.2, hp⟩, if_neg (by rintro ⟨h, _⟩; cases h), if_pos ⟨hq.1, hq.2, p, by simp, hp⟩]
      · rw [if_neg (c := gt t q = none ∧ q ≠ [] ∧ q <+: p) (fun h => hp h.2.2)]
        by_cases hP : ∃ x ∈ P, q <+: x
        · rw [if_pos ⟨hq.1, hq.2, hP⟩, if_pos ⟨hq.1, hq.2, by obtain ⟨x, hx, h⟩ := hP; exact ⟨x, by simp [hx], h⟩⟩]
        · rw [if_neg (fun h => hP h.2.2), if_neg]
          rintro ⟨_, _, x, hx, hqx⟩
          rcases List.mem_cons.1 hx with rfl | hx
          · exact hp hqx
          · exact hP ⟨x, hx, hqx⟩
    · rw [if_neg (c := gt t q = none ∧ q ≠ [] ∧ q <+: p) (fun h => hq ⟨h.1, h.2.1⟩), if_neg (fun h => hq ⟨h.1, h.2.1⟩), if_neg (fun h => hq ⟨h.1, h.2.1⟩)]
theorem Adds.app {t v : List Ln} : ∀ {P P' : List (List Bs)} {u : List Ln}, Adds t P u → Adds u P' v → Adds t (P ++ P') v
  | [], P', u, h1, h2 => by
    have : t = u := h1
    subst this; exact h2
  | p :: P, P', u, ⟨h1, h3⟩, h2 => ⟨h1, h3.app h2⟩
/-- The same paths in another order. -/
theorem adds_order {P Q : List (List Bs)} {u v : List Ln} (h1 : Adds [] P u) (h2 : Adds [] Q v) (h : ∀ p, p ∈ P ↔ p ∈ Q) : u = v := by
  obtain ⟨a1, a2⟩ := adds_spec P (by decide) h1
  obtain ⟨b1, b2⟩ := adds_spec Q (by decide) h2
  refine gt_ext (right_rf a1) (right_rf b1) fun q => ?_
  rw [a2, b2]
  have : (∃ p ∈ P, q <+: p) ↔ ∃ p ∈ Q, q <+: p := by
    constructor
    · rintro ⟨p, hp, hq⟩; exact ⟨p, (h p).1 hp, hq⟩
    · rintro ⟨p, hp, hq⟩; exact ⟨p, (h p).2 hp, hq⟩
  simp only [this]

/-- All that is there already. -/
theorem addN_same {t : List Ln} {q : List Bs} (h : ∀ k, 0 < k → k ≤ q.length → gt t (q.take k) ≠ none) : ∀ k, k ≤ q.length → addN t q k = t
  | 0, _ => rfl
  | k + 1, hk => by
    rw [addN_succ, addN_same h k (by omega)]
    unfold addK
    rw [if_neg (h (k + 1) (by omega) hk)]
theorem addE_same {t : List Ln} {q : List Bs} (hr : rightS t = true) (h0 : q ≠ []) (h40 : ∀ w ∈ q, w.length ≤ 40) (h16 : q.length ≤ 16) (h : ∀ k, 0 < k → k ≤ q.length → gt t (q.take k) ≠ none) : addE t q = 0 ∧ addL t q = t := by
  have hs : addL t q = t := addN_same h q.length (Nat.le_refl _)
  refine ⟨?_, hs⟩
  unfold addE
  rw [if_pos hr, if_neg h0, if_neg (by rw [longW_iff.2 h40]; simp), if_neg (by omega), hs, if_neg (by have := right_len hr; omega)]

/-! ### Commands -/

abbrev Cmd := Int × List Bs
/-- Has a mark a bit? -/
def bitB (m b : Int) : Bool := if b = 1 then decide (m % 2 = 1) else decide (1 < m)
def orB (m b : Int) : Int := if bitB m b = true then m else m + b
def setB (t : List Ln) (i : Nat) (m : Int) : List Ln := t.set i ((t.getD i (0, [], 0)).1, (t.getD i (0, [], 0)).2.1, m)
def actS (t : List Ln) (c : Cmd) : List Ln × Int :=
  if c.1 = 0 then addS t c.2 else match (if rightS t = true then fnd t c.2 else none) with
    | none => (t, 3)
    | some i => (setB t i (orB (t.getD i (0, [], 0)).2.2 c.1), 0)
def Acts (t : List Ln) : List Cmd → List Ln → Prop
  | [], u => t = u
  | c :: l, u => (actS t c).2 = 0 ∧ Acts (actS t c).1 l u
theorem Acts.app {t v : List Ln} : ∀ {l l' : List Cmd} {u : List Ln}, Acts t l u → Acts u l' v → Acts t (l ++ l') v
  | [], l', u, h1, h2 => by
    have : t = u := h1
    subst this; exact h2
  | p :: l, l', u, ⟨h1, h3⟩, h2 => ⟨h1, h3.app h2⟩

def goodC (c : Cmd) : Prop := c.1 = 0 ∨ c.1 = 1 ∨ c.1 = 2
theorem orB_ok {m b : Int} (h0 : 0 ≤ m) (h3 : m ≤ 3) (hb : b = 1 ∨ b = 2) : 0 ≤ orB m b ∧ orB m b ≤ 3 ∧ bitB (orB m b) b = true ∧ ∀ x, (x = 1 ∨ x = 2) → bitB m x = true → bitB (orB m b) x = true := by
  have : m = 0 ∨ m = 1 ∨ m = 2 ∨ m = 3 := by omega
  rcases this with rfl | rfl | rfl | rfl <;> rcases hb with rfl | rfl <;> refine ⟨by decide, by decide, by decide, ?_⟩ <;> rintro x (rfl | rfl) <;> decide

/-- What is there stays, with its marks. -/
def Le (t u : List Ln) : Prop := ∀ q m, gt t q = some m → ∃ m', gt u q = some m' ∧ ∀ x, (x = 1 ∨ x = 2) → bitB m x = true → bitB m' x = true
theorem Le.refl (t : List Ln) : Le t t := fun q m h => ⟨m, h, fun _ _ h => h⟩
theorem Le.trans {t u v : List Ln} (h1 : Le t u) (h2 : Le u v) : Le t v := fun q m h => by
  obtain ⟨m1, a1, b1⟩ := h1 q m h
  obtain ⟨m2, a2, b2⟩ := h2 q m1 a1
  exact ⟨m2, a2, fun x hx hm => b2 x hx (b1 x hx hm)⟩
/-- A command has been done. -/
def Done (c : Cmd) (u : List Ln) : Prop :=
  (c.1 = 0 → c.2 ≠ [] ∧ (∀ w ∈ c.2, w.length ≤ 40) ∧ c.2.length ≤ 16 ∧ ∀ k, 0 < k → k ≤ c.2.length → gt u (c.2.take k) ≠ none) ∧ (c.1 ≠ 0 → ∃ m, gt u c.2 = some m ∧ bitB m c.1 = true)
theorem Done.mono {c : Cmd} {u v : List Ln} (hc : goodC c) (h : Done c u) (hl : Le u v) : Done c v := by
  refine ⟨fun h0 => ?_, fun h0 => ?_⟩
  · obtain ⟨a, b, c', d⟩ := h.1 h0
    refine ⟨a, b, c', fun k h1 h2 => ?_⟩
    obtain ⟨m, hm⟩ := Option.ne_none_iff_exists'.1 (d k h1 h2)
    obtain ⟨m', hm', _⟩ := hl _ _ hm
    rw [hm']; simp
  · obtain ⟨m, hm, hb⟩ := h.2 h0
    obtain ⟨m', hm', h2⟩ := hl _ _ hm
    exact ⟨m', hm', h2 c.1 (hc.elim (fun h => absurd h h0) id) hb⟩

theorem act_spec {t : List Ln} {c : Cmd} (hr : rightS t = true) (hc : goodC c) (h : (actS t c).2 = 0) : rightS (actS t c).1 = true ∧ Le t (actS t c).1 ∧ Done c (actS t c).1 := by
  have hrf := right_rf hr
  unfold actS at h ⊢
  by_cases h0 : c.1 = 0
  · rw [if_pos h0] at h ⊢
    unfold addS at h ⊢
    by_cases he : addE t c.2 = 0
    · rw [if_pos he]
      obtain ⟨h1, h2⟩ := addL_tree he
      obtain ⟨_, e1, e2, e3, _⟩ := addE_ok he
      refine ⟨h1, fun q m hq => ⟨m, ?_, fun _ _ h => h⟩, fun _ => ⟨e1, e2, e3, fun k k1 k2 => ?_⟩, fun h9 => absurd h0 h9⟩
      · rw [h2, if_neg (fun h => by rw [hq] at h; cases h.1)]; exact hq
      · rw [h2]
        split
        · simp
        · rename_i h9
          intro hg
          refine h9 ⟨hg, fun e => ?_, List.take_prefix _ _⟩
          have := congrArg List.length e
          rw [List.length_take, Nat.min_eq_left k2] at this
          have h8 : k = 0 := this
          omega
    · rw [if_neg he] at h
      exact absurd h he
  · rw [if_neg h0, if_pos hr] at h ⊢
    cases hf : fnd t c.2 with
    | none => rw [hf] at h; cases h
    | some i =>
      obtain ⟨hi, hp⟩ := fnd_of hf
      have hb : c.1 = 1 ∨ c.1 = 2 := hc.elim (fun h => absurd h h0) id
      have hg := gt_at hrf hi
      have hm := gt_sound hrf hg
      obtain ⟨o1, o2, o3, o4⟩ := orB_ok hm.2.2.2.1 hm.2.2.2.2 hb
      have hget := getD_of_lt t hi
      obtain ⟨m1, m2⟩ := mark_tree hrf hi o1 o2
      have hu : setB t i (orB (t.getD i (0, [], 0)).2.2 c.1) = t.set i ((t[i]).1, (t[i]).2.1, orB (t[i]).2.2 c.1) := by unfold setB; rw [hget]
      simp only
      rw [hu]
      rw [hp] at hg m2
      refine ⟨right_of m1 (by simp; exact right_len hr), fun q m hq => ?_, fun h9 => absurd h9 h0, fun _ => ⟨_, by rw [m2, if_pos rfl], o3⟩⟩
      rw [m2]
      by_cases hqp : q = c.2
      · subst hqp
        rw [hg] at hq
        injection hq with hq
        rw [if_pos rfl]
        exact ⟨_, rfl, fun x hx hbx => o4 x hx (by rw [hq]; exact hbx)⟩
      · rw [if_neg hqp]
        exact ⟨m, hq, fun _ _ h => h⟩
theorem act_done {u : List Ln} {c : Cmd} (hr : rightS u = true) (hc : goodC c) (h : Done c u) : actS u c = (u, 0) := by
  have hrf := right_rf hr
  unfold actS
  by_cases h0 : c.1 = 0
  · rw [if_pos h0]
    obtain ⟨a, b, c', d⟩ := h.1 h0
    obtain ⟨e1, e2⟩ := addE_same hr a b c' d
    unfold addS
    rw [if_pos e1, e2]
  · rw [if_neg h0, if_pos hr]
    obtain ⟨m, hm, hb⟩ := h.2 h0
    obtain ⟨i, hf, hi⟩ := gt_fnd hrf hm
    rw [hf]
    simp only
    obtain ⟨hl, hp⟩ := fnd_of hf
    unfold orB setB
    rw [hi, if_pos hb, ← hi]
    congr 1
    rw [getD_of_lt u hl]
    exact List.set_getElem_self hl
theorem acts_spec : ∀ (l : List Cmd) {t u : List Ln}, rightS t = true → (∀ c ∈ l, goodC c) → Acts t l u → rightS u = true ∧ Le t u ∧ ∀ c ∈ l, Done c u
  | [], t, u, hr, _, h => by
    have : t = u := h
    subst this
    exact ⟨hr, Le.refl _, fun c hc => by cases hc⟩
  | c :: l, t, u, hr, hg, ⟨h1, h2⟩ => by
    obtain ⟨a1, a2, a3⟩ := act_spec hr (hg c (by simp)) h1
    obtain ⟨b1, b2, b3⟩ := acts_spec l a1 (fun x hx => hg x (by simp [hx])) h2
    refine ⟨b1, a2.trans b2, fun x hx => ?_⟩
    rcases List.mem_cons.1 hx with rfl | hx
    · exact a3.mono (hg x (by simp)) b2
    · exact b3 x hx
theorem acts_same : ∀ (l : List Cmd) {u : List Ln}, rightS u = true → (∀ c ∈ l, goodC c ∧ Done c u) → Acts u l u
  | [], u, _, _ => rfl
  | c :: l, u, hr, h => by
    have hc := h c (by simp)
    have := act_done hr hc.1 hc.2
    refine ⟨by rw [this], ?_⟩
    rw [this]
    exact acts_same l hr fun x hx => h x (by simp [hx])
/-- Commands that stand twice do no more than once. -/
theorem acts_twice {l : List Cmd} {u : List Ln} (hg : ∀ c ∈ l, goodC c) (h : Acts [] l u) : Acts [] (l ++ l) u := by
  obtain ⟨h1, _, h3⟩ := acts_spec l (by decide) hg h
  exact h.app (acts_same l h1 fun c hc => ⟨hg c hc, h3 c hc⟩)

/-! ### A tree's own commands -/

def leafL (t : List Ln) : List Nat := (List.range t.length).filter fun k => endN t k == k + 1
def mrkC (t : List Ln) (k : Nat) : List Cmd := (if (t.getD k (0, [], 0)).2.2 % 2 = 1 then [(1, pth t k)] else []) ++ (if 1 < (t.getD k (0, [], 0)).2.2 then [(2, pth t k)] else [])
def cmdsT (t : List Ln) : List Cmd := (leafL t).map (fun k => (0, pth t k)) ++ (List.range t.length).flatMap (mrkC t)

/-- Each line is the beginning of a leaf. -/
theorem leaf_of {t : List Ln} (h : rf [] t = true) {i : Nat} (hi : i < t.length) : ∃ j ∈ leafL t, pth t i <+: pth t j := by
  have hgt := endN_gt t i
  have hle := endN_le t hi
  obtain ⟨j, hj⟩ : ∃ j, j = endN t i - 1 := ⟨_, rfl⟩
  have hjl : j < t.length := by omega
  refine ⟨j, ?_, (part_pre h hi hjl).2 ⟨by omega, by omega⟩⟩
  unfold leafL
  rw [List.mem_filter, List.mem_range]
  refine ⟨hjl, ?_⟩
  rw [beq_iff_eq]
  have hg2 := endN_gt t j
  rcases Nat.lt_or_ge (endN t j) (j + 2) with h1 | h1
  · omega
  · exfalso
    have hl2 := endN_le t hjl
    have h3 := (part_pre h hjl (show j + 1 < t.length by omega)).2 ⟨by omega, by omega⟩
    have h4 := (part_pre h hi hjl).2 ⟨by omega, by omega⟩
    have h5 := (part_pre h hi (show j + 1 < t.length by omega)).1 (h4.trans h3)
    omega

theorem nodup_len {α : Type} [DecidableEq α] : ∀ {l m : List α}, l.Nodup → (∀ x ∈ l, x ∈ m) → l.length ≤ m.length
  | [], _, _, _ => Nat.zero_le _
  | x :: l, m, h, hs => by
    obtain ⟨h1, h2⟩ := List.nodup_cons.1 h
    have hx := hs x (by simp)
    have := nodup_len (l := l) (m := m.erase x) h2 fun y hy => by
      have hne : y ≠ x := fun e => h1 (e ▸ hy)
      exact (List.mem_erase_of_ne hne).2 (hs y (by simp [hy]))
    rw [List.length_erase_of_mem hx] at this
    have := List.length_pos_of_mem hx
    simp; omega
theorem sub_lenT {t u : List Ln} (ht : rf [] t = true) (hu : rf [] u = true) (h : ∀ q, gt u q ≠ none → gt t q ≠ none) : u.length ≤ t.length := by
  have h1 := nodup_len (l := pths [] u) (m := pths [] t) (pths_nodup u [] hu) fun q hq => by
    have : gt u q ≠ none := fun e => mem_st hu hq ((st_none hu).2 e)
    exact st_mem ht fun e => h q this ((st_none ht).1 e)
  simpa using h1

/-- Beginnings of a tree's paths can be added one by one. -/
theorem adds_of {t : List Ln} (ht : rightS t = true) (hw : ∀ p, gt t p ≠ none → ∀ w ∈ p, w.length ≤ 40) : ∀ (P : List (List Bs)) {s : List Ln}, rightS s = true → (∀ q, gt s q ≠ none → gt t q ≠ none) → (∀ p ∈ P, gt t p ≠ none) → ∃ u, Adds s P u
  | [], s, _, _, _ => ⟨s, rfl⟩
  | p :: P, s, hs, hsub, hP => by
    have hrt := right_rf ht
    have hrs := right_rf hs
    have hp := hP p (by simp)
    obtain ⟨m, hm⟩ := Option.ne_none_iff_exists'.1 hp
    obtain ⟨h0, h16, _⟩ := gt_sound hrt hm
    obtain ⟨a1, a2⟩ := addN_tree hrs h16 (hw p hp) p.length (Nat.le_refl _)
    rw [List.take_length] at a2
    have hsub2 : ∀ q, gt (addL s p) q ≠ none → gt t q ≠ none := fun q hq => by
      have e : gt (addL s p) q = _ := a2 q
      rw [e] at hq
      by_cases hc : gt s q = none ∧ q ≠ [] ∧ q <+: p
      · obtain ⟨r, rfl⟩ := hc.2.2
        exact gt_pre hrt hc.2.1 hp
      · rw [if_neg hc] at hq
        exact hsub q hq
    have hl := sub_lenT hrt a1 hsub2
    have htl := right_len ht
    have he : addE s p = 0 := by
      unfold addE
      rw [if_pos hs, if_neg h0, if_neg (by rw [longW_iff.2 (hw p hp)]; simp), if_neg (by omega), if_neg (by have : (addL s p).length ≤ t.length := hl; omega)]
    obtain ⟨u, hu⟩ := adds_of ht hw P (addL_tree he).1 hsub2 fun x hx => hP x (by simp [hx])
    exact ⟨u, he, hu⟩

theorem acts_adds : ∀ (P : List (List Bs)) {t u : List Ln}, Adds t P u → Acts t (P.map fun p => (0, p)) u
  | [], _, _, h => h
  | p :: P, t, u, ⟨h1, h2⟩ => by
    have e : actS t (0, p) = (addL t p, 0) := by
      show (if (0 : Int) = 0 then addS t p else _) = _
      rw [if_pos rfl]
      unfold addS
      rw [if_pos h1]
    refine ⟨by rw [e], ?_⟩
    rw [e]
    exact acts_adds P h2

theorem words_in {b : List Ln} (hb : rf [] b = true) : ∀ (n : Nat) (p : List Bs), p.length = n → gt b p ≠ none → ∀ w ∈ p, w.length ≤ 40
  | n, p, hn, hg, w, hw => by
    obtain ⟨m, hm⟩ := Option.ne_none_iff_exists'.1 hg
    obtain ⟨h0, _, h40, _⟩ := gt_sound hb hm
    have hj : p.dropLast ++ [p.getLastD []] = p := by rw [getLastD_ne h0, List.dropLast_concat_getLast h0]
    rw [← hj] at hw
    rcases List.mem_append.1 hw with hw | hw
    · have hd0 : p.dropLast ≠ [] := List.ne_nil_of_mem hw
      have hl := List.length_pos_iff.2 h0
      exact words_in hb (n - 1) p.dropLast (by simp; omega) (gt_pre hb hd0 (s := [p.getLastD []]) (by rw [hj]; exact hg)) w hw
    · rw [List.mem_singleton] at hw; rw [hw]; exact h40
  termination_by n => n
  decreasing_by omega

theorem act_mark {v : List Ln} (hr : rightS v = true) {q : List Bs} {x b : Int} (hg : gt v q = some x) (hb : b = 1 ∨ b = 2) : ∃ w, actS v (b, q) = (w, 0) ∧ rightS w = true ∧ ∀ p, gt w p = if p = q then some (orB x b) else gt v p := by
  have hrf := right_rf hr
  obtain ⟨i, hf, hi⟩ := gt_fnd hrf hg
  obtain ⟨hl, hp⟩ := fnd_of hf
  have hm := gt_sound hrf hg
  obtain ⟨o1, o2, _, _⟩ := orB_ok hm.2.2.2.1 hm.2.2.2.2 hb
  obtain ⟨m1, m2⟩ := mark_tree hrf hl o1 o2
  have hb0 : b ≠ 0 := by omega
  refine ⟨setB v i (orB x b), ?_, ?_, ?_⟩
  · unfold actS
    simp only
    rw [if_neg hb0, if_pos hr, hf]
    simp only
    rw [hi]
  · unfold setB
    rw [getD_of_lt v hl]
    exact right_of m1 (by simp; exact right_len hr)
  · unfold setB
    rw [getD_of_lt v hl]
    rw [hp] at m2
    exact m2
theorem acts_mark {v : List Ln} (hr : rightS v = true) {t : List Ln} {k : Nat} (hm : 0 ≤ (t.getD k (0, [], 0)).2.2 ∧ (t.getD k (0, [], 0)).2.2 ≤ 3) (hg : gt v (pth t k) = some 0) :
    ∃ w, Acts v (mrkC t k) w ∧ rightS w = true ∧ ∀ p, gt w p = if p = pth t k then some (t.getD k (0, [], 0)).2.2 else gt v p := by
  obtain ⟨m, hmm⟩ : ∃ m, (t.getD k (0, [], 0)).2.2 = m := ⟨_, rfl⟩
  obtain ⟨q, hq⟩ : ∃ q, pth t k = q := ⟨_, rfl⟩
  unfold mrkC
  rw [hmm] at hm ⊢
  rw [hq] at hg ⊢
  obtain ⟨w1, a1, a2, a3⟩ := act_mark hr hg (.inl rfl)
  have e1 : orB 0 1 = 1 := by decide
  rw [e1] at a3
  obtain ⟨w2, b1, b2, b3⟩ := act_mark hr hg (.inr rfl)
  have e2 : orB 0 2 = 2 := by decide
  rw [e2] at b3
  have hg1 : gt w1 q = some 1 := by rw [a3, if_pos rfl]
  obtain ⟨w3, c1, c2, c3⟩ := act_mark a2 hg1 (.inr rfl)
  have e3 : orB 1 2 = 3 := by decide
  rw [e3] at c3
  have : m = 0 ∨ m = 1 ∨ m = 2 ∨ m = 3 := by omega
  rcases this with rfl | rfl | rfl | rfl
  · refine ⟨v, rfl, hr, fun p => ?_⟩
    split
    · rename_i h; rw [h]; exact hg
    · rfl
  · exact ⟨w1, ⟨by rw [a1], by rw [a1]; rfl⟩, a2, a3⟩
  · exact ⟨w2, ⟨by rw [b1], by rw [b1]; rfl⟩, b2, b3⟩
  · refine ⟨w3, ⟨by rw [a1], by rw [a1]; exact ⟨by rw [c1], by rw [c1]; rfl⟩⟩, c2, fun p => ?_⟩
    rw [c3]
    split
    · rfl
    · rename_i h; rw [a3, if_neg h]

theorem marks_make {t : List Ln} (ht : rightS t = true) {u : List Ln} (hu : rightS u = true) (hg : ∀ q, gt u q = (gt t q).map fun _ => 0) : ∀ n, n ≤ t.length → ∃ w, Acts u ((List.range n).flatMap (mrkC t)) w ∧ rightS w = true ∧ ∀ q, gt w q = if ∃ j, j < n ∧ pth t j = q then gt t q else gt u q
  | 0, _ => ⟨u, rfl, hu, fun q => by rw [if_neg]; rintro ⟨j, hj, _⟩; omega⟩
  | n + 1, hn => by
    have hrt := right_rf ht
    obtain ⟨w, a1, a2, a3⟩ := marks_make ht hu hg n (by omega)
    have hnl : n < t.length := by omega
    have hgn := gt_at hrt hnl
    have hm := gt_sound hrt hgn
    have hgw : gt w (pth t n) = some 0 := by
      rw [a3, if_neg, hg, hgn]
      · rfl
      · rintro ⟨j, hj, e⟩
        have := pth_uniq hrt (show j < t.length by omega) hnl e
        omega
    obtain ⟨x, b1, b2, b3⟩ := acts_mark (t := t) (k := n) a2 (by rw [getD_of_lt t hnl]; exact hm.2.2.2) hgw
    refine ⟨x, ?_, b2, fun q => ?_⟩
    · rw [List.range_succ, List.flatMap_append]
      refine a1.app ?_
      simpa using b1
    · rw [b3]
      by_cases hq : q = pth t n
      · subst hq
        rw [if_pos rfl, if_pos ⟨n, by omega, rfl⟩, hgn, getD_of_lt t hnl]
      · rw [if_neg hq, a3]
        by_cases hj : ∃ j, j < n ∧ pth t j = q
        · rw [if_pos hj, if_pos (by obtain ⟨j, h1, h2⟩ := hj; exact ⟨j, by omega, h2⟩)]
        · rw [if_neg hj, if_neg]
          rintro ⟨j, h1, h2⟩
          by_cases e : j = n
          · subst e; exact hq h2.symm
          · exact hj ⟨j, by omega, h2⟩

/-- The commands of a tree make that tree. -/
theorem cmds_make {t : List Ln} (ht : rightS t = true) : Acts [] (cmdsT t) t := by
  have hrt := right_rf ht
  have hnil : rightS ([] : List Ln) = true := by decide
  obtain ⟨u, hu⟩ := adds_of ht (fun p hp => words_in hrt p.length p rfl hp) ((leafL t).map (pth t)) (s := []) hnil (fun q hq => absurd (gt_empty q) hq) (fun p hp => by
    obtain ⟨k, hk, rfl⟩ := List.mem_map.1 hp
    have hkl : k < t.length := by
      unfold leafL at hk
      exact List.mem_range.1 (List.mem_filter.1 hk).1
    rw [gt_at hrt hkl]; simp)
  obtain ⟨h1, h2⟩ := adds_spec _ hnil hu
  have hg : ∀ q, gt u q = (gt t q).map fun _ => 0 := fun q => by
    rw [h2]
    cases hq : gt t q with
    | none =>
      rw [if_neg]
      · exact gt_empty q
      · rintro ⟨_, h0, p, hp, hpre⟩
        obtain ⟨k, hk, rfl⟩ := List.mem_map.1 hp
        have hkl : k < t.length := by
          unfold leafL at hk
          exact List.mem_range.1 (List.mem_filter.1 hk).1
        obtain ⟨s, hs⟩ := hpre
        have := gt_pre hrt h0 (s := s) (by rw [hs, gt_at hrt hkl]; simp)
        exact this hq
    | some m =>
      obtain ⟨i, hi, e, _⟩ := gt_some hrt hq
      obtain ⟨j, hj, hpre⟩ := leaf_of hrt hi
      rw [if_pos ⟨gt_empty q, (gt_sound hrt hq).1, pth t j, List.mem_map.2 ⟨j, hj, rfl⟩, by rw [← e]; exact hpre⟩]
      rfl
  obtain ⟨w, a1, a2, a3⟩ := marks_make ht h1 hg t.length (Nat.le_refl _)
  have hw : w = t := gt_ext (right_rf a2) hrt fun q => by
    rw [a3]
    split
    · rfl
    · rename_i hn
      rw [hg]
      cases hq : gt t q with
      | none => rfl
      | some m =>
        obtain ⟨i, hi, e, _⟩ := gt_some hrt hq
        exact absurd ⟨i, hi, e⟩ hn
  rw [hw] at a1
  have := (acts_adds _ hu).app a1
  unfold cmdsT
  rw [List.map_map] at this
  exact this

end Go.Proofs.Ytmohgkoomnihfaa.Vc
