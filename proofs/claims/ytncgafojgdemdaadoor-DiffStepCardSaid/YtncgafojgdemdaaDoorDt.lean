/-
  DIFFERENCES OF TREES, AS PLAIN LISTS: what goes, what comes, what is marked; what they make. No condition.
  DIFFERENCES: no path twice; a path that is added. As plain lists. No condition.
-/
import Derived.Test.YtncgafojgdemdaaDoorMt
set_option linter.unusedVariables false
set_option linter.unusedSimpArgs false
namespace Go.Proofs.YtncgafojgdemdaaDoor.Vc

section


abbrev Ch := Int × List Bs × Int
def goneB (b : List Ln) (p : List Bs) : Bool := (gt b p).isNone && (p.dropLast.isEmpty || (gt b p.dropLast).isSome)
def goneL (a b : List Ln) : List (List Bs) := (pths [] a).filter (goneB b)
def addsB (a : List Ln) (e : List Bs × Int) : Bool := (gt a e.1).isNone
def addsL (a b : List Ln) : List (List Bs × Int) := (ents b).filter (addsB a)
def mrkB (a : List Ln) (e : List Bs × Int) : Bool := (gt a e.1).isSome && decide (gt a e.1 ≠ some e.2)
def mrkL (a b : List Ln) : List (List Bs × Int) := (ents b).filter (mrkB a)
def chG (p : List Bs) : Ch := (1, p, 0)
def chA (e : List Bs × Int) : Ch := (2, e.1, e.2)
def chM (e : List Bs × Int) : Ch := (3, e.1, e.2)
def diffL (a b : List Ln) : List Ch := (goneL a b).map chG ++ (addsL a b).map chA ++ (mrkL a b).map chM

theorem mem_pths {a : List Ln} (h : rf [] a = true) {p : List Bs} : p ∈ pths [] a ↔ gt a p ≠ none := by
  constructor
  · intro hp e
    exact mem_st h hp ((st_none h).2 e)
  · intro hp
    exact st_mem h fun e => hp ((st_none h).1 e)
theorem goneB_iff {b : List Ln} {p : List Bs} : goneB b p = true ↔ gt b p = none ∧ (p.dropLast = [] ∨ gt b p.dropLast ≠ none) := by
  unfold goneB
  simp [Option.isSome_iff_ne_none]
theorem mem_gone {a b : List Ln} (ha : rf [] a = true) {p : List Bs} : p ∈ goneL a b ↔ gt a p ≠ none ∧ gt b p = none ∧ (p.dropLast = [] ∨ gt b p.dropLast ≠ none) := by
  unfold goneL
  rw [List.mem_filter, mem_pths ha, goneB_iff]
theorem mem_adds {a b : List Ln} (hb : rf [] b = true) {p : List Bs} {m : Int} : (p, m) ∈ addsL a b ↔ gt b p = some m ∧ gt a p = none := by
  unfold addsL
  rw [List.mem_filter, ← gt_iff hb]
  simp [addsB]
theorem mem_mrk {a b : List Ln} (hb : rf [] b = true) {p : List Bs} {m : Int} : (p, m) ∈ mrkL a b ↔ gt b p = some m ∧ ∃ m', gt a p = some m' ∧ m' ≠ m := by
  unfold mrkL
  rw [List.mem_filter, ← gt_iff hb]
  unfold mrkB
  cases h : gt a p with
  | none => simp
  | some m' => simp

/-- What is not there any more has a first line, from above, that is gone. -/
theorem top_gone {a b : List Ln} (ha : rf [] a = true) : ∀ (n : Nat) (q : List Bs), q.length = n → gt a q ≠ none → gt b q = none → ∃ p ∈ goneL a b, p <+: q
  | n, q, hn, h1, h2 => by
    by_cases h3 : q.dropLast = [] ∨ gt b q.dropLast ≠ none
    · exact ⟨q, (mem_gone ha).2 ⟨h1, h2, h3⟩, List.prefix_refl _⟩
    · have h4 : q.dropLast ≠ [] := fun e => h3 (.inl e)
      have h5 : gt b q.dropLast = none := by
        cases h : gt b q.dropLast with
        | none => rfl
        | some m => exact absurd (.inr (by rw [h]; simp)) h3
      have hq : q ≠ [] := fun e => h4 (by rw [e]; rfl)
      have hj : q.dropLast ++ [q.getLastD []] = q := by rw [getLastD_ne hq, List.dropLast_concat_getLast hq]
      have h6 : gt a q.dropLast ≠ none := gt_pre ha h4 (s := [q.getLastD []]) (by rw [hj]; exact h1)
      have hl := List.length_pos_iff.2 hq
      obtain ⟨p, hp, hpre⟩ := top_gone ha (n - 1) q.dropLast (by simp; omega) h6 h5
      exact ⟨p, hp, hpre.trans (List.dropLast_prefix q)⟩
  termination_by n => n
  decreasing_by omega

/-- No path that is gone stands under one that is there. -/
theorem gone_out {a b : List Ln} (ha : rf [] a = true) (hb : rf [] b = true) {p q : List Bs} (hp : p ∈ goneL a b) (hpq : p <+: q) : gt b q = none := by
  obtain ⟨h1, h2, _⟩ := (mem_gone ha).1 hp
  cases h : gt b q with
  | none => rfl
  | some m =>
    obtain ⟨s, rfl⟩ := hpq
    have hp0 : p ≠ [] := fun e => h1 (by rw [e]; exact gt_nil a)
    exact absurd h2 (gt_pre hb hp0 (by rw [h]; simp))
/-- Nor under another one that is gone. -/
theorem gone_apart {a b : List Ln} (ha : rf [] a = true) (hb : rf [] b = true) {p q : List Bs} (hp : p ∈ goneL a b) (hq : q ∈ goneL a b) (hpq : p <+: q) : p = q := by
  obtain ⟨h1, h2, _⟩ := (mem_gone ha).1 hp
  obtain ⟨g1, g2, g3⟩ := (mem_gone ha).1 hq
  obtain ⟨s, rfl⟩ := hpq
  by_cases hs : s = []
  · rw [hs, List.append_nil]
  · exfalso
    have hp0 : p ≠ [] := fun e => h1 (by rw [e]; exact gt_nil a)
    rw [List.dropLast_append_of_ne_nil hs] at g3
    rcases g3 with g3 | g3
    · exact hp0 (List.append_eq_nil_iff.1 g3).1
    · exact gt_pre hb hp0 g3 h2

/-! ### What changes do, one by one -/

def One (t : List Ln) (c : Ch) (u : List Ln) : Prop :=
  rightS t = true ∧ rightS u = true ∧
  ((c.1 = 1 ∧ c.2.2 = 0 ∧ ∃ i, fnd t c.2.1 = some i ∧ u = cutT t i) ∨
   (c.1 = 2 ∧ gt t c.2.1 = none ∧ c.2.1 ≠ [] ∧ c.2.1.length ≤ 16 ∧ (∀ w ∈ c.2.1, w.length ≤ 40) ∧ (c.2.1.dropLast = [] ∨ gt t c.2.1.dropLast ≠ none) ∧ 0 ≤ c.2.2 ∧ c.2.2 ≤ 3 ∧ u = insT t c.2.1 c.2.2) ∨
   (c.1 = 3 ∧ 0 ≤ c.2.2 ∧ c.2.2 ≤ 3 ∧ ∃ i, fnd t c.2.1 = some i ∧ u = t.set i ((t.getD i (0, [], 0)).1, (t.getD i (0, [], 0)).2.1, c.2.2)))
def Goes (t : List Ln) : List Ch → List Ln → Prop
  | [], u => t = u
  | c :: l, v => ∃ u, One t c u ∧ Goes u l v
theorem Goes.app {t v : List Ln} : ∀ {l l' : List Ch} {u : List Ln}, Goes t l u → Goes u l' v → Goes t (l ++ l') v
  | [], l', u, h1, h2 => by
    have : t = u := h1
    subst this; exact h2
  | c :: l, l', u, ⟨x, h1, h3⟩, h2 => ⟨x, h1, h3.app h2⟩

theorem fnd_of_gt {t : List Ln} (h : rf [] t = true) {q : List Bs} (hg : gt t q ≠ none) : ∃ i, fnd t q = some i ∧ i < t.length ∧ pth t i = q := by
  cases hf : fnd t q with
  | none => exact absurd (fnd_none0.1 hf) hg
  | some i => exact ⟨i, rfl, fnd_of hf⟩
theorem cutT_len (t : List Ln) {i : Nat} (hi : i < t.length) : (cutT t i).length ≤ t.length := by
  have := endN_le t hi
  have := endN_gt t i
  unfold cutT
  simp; omega

theorem goes_gone : ∀ (G : List (List Bs)) (t : List Ln), rightS t = true → (∀ p ∈ G, gt t p ≠ none) → (G.Pairwise fun p q => ¬ p <+: q) →
    ∃ u, Goes t (G.map chG) u ∧ rightS u = true ∧ u.length ≤ t.length ∧ ∀ q, gt u q = if ∃ p ∈ G, p <+: q then none else gt t q
  | [], t, hr, _, _ => ⟨t, rfl, hr, Nat.le_refl _, fun q => by simp⟩
  | p :: G, t, hr, hG, hP => by
    have hrf := right_rf hr
    obtain ⟨i, hf, hi, hp⟩ := fnd_of_gt hrf (hG p (by simp))
    obtain ⟨c1, c2⟩ := cut_tree hrf hi
    rw [hp] at c2
    have hcl := cutT_len t hi
    have hcr : rightS (cutT t i) = true := right_of c1 (by have := right_len hr; omega)
    rw [List.pairwise_cons] at hP
    obtain ⟨u, g1, g2, g3, g4⟩ := goes_gone G (cutT t i) hcr (fun q hq => by
      rw [c2, if_neg (hP.1 q hq)]; exact hG q (by simp [hq])) hP.2
    refine ⟨u, ⟨cutT t i, ⟨hr, hcr, .inl ⟨rfl, rfl, i, hf, rfl⟩⟩, g1⟩, g2, by omega, fun q => ?_⟩
    rw [g4, c2]
    by_cases h1 : ∃ x ∈ G, x <+: q
    · rw [if_pos h1, if_pos (by obtain ⟨x, hx, h⟩ := h1; exact ⟨x, by simp [hx], h⟩)]
    · rw [if_neg h1]
      by_cases h2 : p <+: q
      · rw [if_pos h2, if_pos ⟨p, by simp, h2⟩]
      · rw [if_neg h2, if_neg (by
          rintro ⟨x, hx, h⟩
          rcases List.mem_cons.1 hx with rfl | hx
          · exact h2 h
          · exact h1 ⟨x, hx, h⟩)]

theorem goes_adds : ∀ (A : List (List Bs × Int)) (t : List Ln), rightS t = true → t.length + A.length ≤ 200 → (A.Pairwise fun a b => lx a.1 b.1 = true) → (∀ e ∈ A, gt t e.1 = none) →
    (∀ e ∈ A, e.1 ≠ [] ∧ e.1.length ≤ 16 ∧ (∀ w ∈ e.1, w.length ≤ 40) ∧ 0 ≤ e.2 ∧ e.2 ≤ 3) → (∀ e ∈ A, e.1.dropLast = [] ∨ gt t e.1.dropLast ≠ none ∨ ∃ f ∈ A, f.1 = e.1.dropLast) →
    ∃ u, Goes t (A.map chA) u ∧ rightS u = true ∧ u.length = t.length + A.length ∧ ∀ q m, gt u q = some m ↔ (q, m) ∈ A ∨ gt t q = some m
  | [], t, hr, _, _, _, _, _ => ⟨t, rfl, hr, rfl, fun q m => by simp⟩
  | e :: A, t, hr, hl, hup, hno, hs, hpar => by
    have hrf := right_rf hr
    obtain ⟨p, m⟩ := e
    obtain ⟨s1, s2, s3, s4, s5⟩ := hs (p, m) (by simp)
    rw [List.pairwise_cons] at hup
    have hlast : (p.getLastD []).length ≤ 40 := by rw [getLastD_ne s1]; exact s3 _ (List.getLast_mem s1)
    have hp : p.dropLast = [] ∨ gt t p.dropLast ≠ none := by
      rcases hpar (p, m) (by simp) with h | h | ⟨f, hf, he⟩
      · exact .inl h
      · exact .inr h
      · exfalso
        have hj : p.dropLast ++ [p.getLastD []] = p := by rw [getLastD_ne s1, List.dropLast_concat_getLast s1]
        have hlt := lx_pre p.dropLast (s := [p.getLastD []]) (by simp)
        rw [hj] at hlt
        rcases List.mem_cons.1 hf with rfl | hf
        · have h9 : p.length = p.dropLast.length := congrArg List.length he
          have h8 : 0 < p.length := List.length_pos_iff.2 s1
          rw [List.length_dropLast] at h9
          omega
        · have h8 : lx p f.1 = true := hup.1 f hf
          have h7 : f.1 = p.dropLast := he
          rw [h7] at h8
          rw [lx_asymm hlt] at h8; cases h8
    obtain ⟨c1, c2⟩ := insT_tree hrf (hno (p, m) (by simp)) s1 s2 hlast s4 s5 hp
    have hil := insT_length t p m
    simp only [List.length_cons] at hl
    have hcr : rightS (insT t p m) = true := right_of c1 (by omega)
    obtain ⟨u, g1, g2, g3, g4⟩ := goes_adds A (insT t p m) hcr (by omega) hup.2 (fun f hf => by
      have hne : f.1 ≠ p := fun e => by
        have := hup.1 f hf
        simp only at this
        rw [e, lx_irr] at this; cases this
      rw [c2, if_neg hne]; exact hno f (by simp [hf])) (fun f hf => hs f (by simp [hf])) (fun f hf => by
      rcases hpar f (by simp [hf]) with h | h | ⟨g, hg, he⟩
      · exact .inl h
      · right; left
        rw [c2]
        split
        · simp
        · exact h
      · rcases List.mem_cons.1 hg with rfl | hg
        · right; left
          rw [c2, if_pos he.symm]; simp
        · exact .inr (.inr ⟨g, hg, he⟩))
    refine ⟨u, ⟨insT t p m, ⟨hr, hcr, .inr (.inl ⟨rfl, hno (p, m) (by simp), s1, s2, s3, hp, s4, s5, rfl⟩)⟩, g1⟩, g2, by simp only [List.length_cons]; omega, fun q x => ?_⟩
    rw [g4, c2]
    by_cases hq : q = p
    · subst hq
      rw [if_pos rfl]
      have h9 := hno (q, m) (by simp)
      simp only at h9
      rw [h9]
      constructor
      · rintro (h | h)
        · exact .inl (by simp [h])
        · injection h with h; subst h; exact .inl (by simp)
      · rintro (h | h)
        · rcases List.mem_cons.1 h with h | h
          · injection h with _ h; exact .inr (by rw [h])
          · exact .inl h
        · cases h
    · rw [if_neg hq]
      simp [hq]

theorem goes_mrk : ∀ (M : List (List Bs × Int)) (t : List Ln), rightS t = true → (M.Pairwise fun a b => a.1 ≠ b.1) → (∀ e ∈ M, gt t e.1 ≠ none ∧ 0 ≤ e.2 ∧ e.2 ≤ 3) →
    ∃ u, Goes t (M.map chM) u ∧ rightS u = true ∧ u.length = t.length ∧ ∀ q m, gt u q = some m ↔ (q, m) ∈ M ∨ ((∀ e ∈ M, e.1 ≠ q) ∧ gt t q = some m)
  | [], t, hr, _, _ => ⟨t, rfl, hr, rfl, fun q m => by simp⟩
  | e :: M, t, hr, hup, hs => by
    have hrf := right_rf hr
    obtain ⟨p, m⟩ := e
    obtain ⟨s1, s2, s3⟩ := hs (p, m) (by simp)
    rw [List.pairwise_cons] at hup
    obtain ⟨i, hf, hi, hp⟩ := fnd_of_gt hrf s1
    simp only at hf hp s2 s3
    obtain ⟨c1, c2⟩ := mark_tree hrf hi s2 s3
    rw [hp] at c2
    obtain ⟨x, hx⟩ : ∃ x, t.set i ((t[i]).1, (t[i]).2.1, m) = x := ⟨_, rfl⟩
    rw [hx] at c1 c2
    have hxl : x.length = t.length := by rw [← hx]; simp
    have hcr : rightS x = true := right_of c1 (by have := right_len hr; omega)
    obtain ⟨u, g1, g2, g3, g4⟩ := goes_mrk M x hcr hup.2 (fun f hf => by
      have hne : f.1 ≠ p := fun e => hup.1 f hf e.symm
      rw [c2, if_neg hne]; exact hs f (by simp [hf]))
    refine ⟨u, ⟨x, ⟨hr, hcr, .inr (.inr ⟨rfl, s2, s3, i, hf, by rw [getD_of_lt t hi]; exact hx.symm⟩)⟩, g1⟩, g2, by omega, fun q y => ?_⟩
    rw [g4, c2]
    by_cases hq : q = p
    · subst hq
      rw [if_pos rfl]
      have hn : ∀ f ∈ M, f.1 ≠ q := fun f hf e => hup.1 f hf e.symm
      constructor
      · rintro (h | ⟨_, h⟩)
        · exact absurd rfl (hn _ h)
        · injection h with h; subst h; exact .inl (by simp)
      · rintro (h | ⟨h, _⟩)
        · rcases List.mem_cons.1 h with h | h
          · injection h with _ h; exact .inr ⟨hn, by rw [h]⟩
          · exact absurd rfl (hn _ h)
        · exact absurd rfl (h (q, m) (by simp))
    · rw [if_neg hq]
      constructor
      · rintro (h | ⟨h, h2⟩)
        · exact .inl (by simp [h])
        · refine .inr ⟨fun e he => ?_, h2⟩
          rcases List.mem_cons.1 he with rfl | he
          · exact fun e => hq e.symm
          · exact h e he
      · rintro (h | ⟨h, h2⟩)
        · rcases List.mem_cons.1 h with h | h
          · injection h with h _; exact absurd h hq
          · exact .inl h
        · exact .inr ⟨fun e he => h e (by simp [he]), h2⟩

/-! ### What the difference makes -/

/-- Is a change at the first word of a path? -/
def touch (l : List Ch) (q : List Bs) : Prop := ∃ c ∈ l, c.2.1.head? = q.head?
theorem head_pre {p q : List Bs} (h : p <+: q) (h0 : p ≠ []) : p.head? = q.head? := by
  obtain ⟨s, rfl⟩ := h
  cases p with
  | nil => exact absurd rfl h0
  | cons x p => rfl
theorem mem_diff {a b : List Ln} {c : Ch} : c ∈ diffL a b ↔ (∃ p ∈ goneL a b, chG p = c) ∨ (∃ e ∈ addsL a b, chA e = c) ∨ (∃ e ∈ mrkL a b, chM e = c) := by
  unfold diffL
  simp [or_assoc]
theorem diff_none {a b : List Ln} (ha : rf [] a = true) (hb : rf [] b = true) {q : List Bs} (h : ¬touch (diffL a b) q) : gt a q = gt b q := by
  cases h1 : gt a q with
  | none =>
    cases h2 : gt b q with
    | none => rfl
    | some m => exact absurd ⟨chA (q, m), mem_diff.2 (.inr (.inl ⟨_, (mem_adds hb).2 ⟨h2, h1⟩, rfl⟩)), rfl⟩ h
  | some m =>
    cases h2 : gt b q with
    | none =>
      obtain ⟨p, hp, hpre⟩ := top_gone (b := b) ha q.length q rfl (by rw [h1]; simp) h2
      have hp0 : p ≠ [] := fun e => ((mem_gone ha).1 hp).1 (by rw [e]; exact gt_nil a)
      exact absurd ⟨chG p, mem_diff.2 (.inl ⟨_, hp, rfl⟩), head_pre hpre hp0⟩ h
    | some m' =>
      by_cases he : m = m'
      · rw [he]
      · exact absurd ⟨chM (q, m'), mem_diff.2 (.inr (.inr ⟨_, (mem_mrk hb).2 ⟨h2, m, h1, he⟩, rfl⟩)), rfl⟩ h

theorem words_of {b : List Ln} (hb : rf [] b = true) : ∀ (n : Nat) (p : List Bs), p.length = n → gt b p ≠ none → ∀ w ∈ p, w.length ≤ 40
  | n, p, hn, hg, w, hw => by
    obtain ⟨m, hm⟩ := Option.ne_none_iff_exists'.1 hg
    obtain ⟨h0, _, h40, _⟩ := gt_sound hb hm
    have hj : p.dropLast ++ [p.getLastD []] = p := by rw [getLastD_ne h0, List.dropLast_concat_getLast h0]
    rw [← hj] at hw
    rcases List.mem_append.1 hw with hw | hw
    · have hd0 : p.dropLast ≠ [] := List.ne_nil_of_mem hw
      have hl := List.length_pos_iff.2 h0
      exact words_of hb (n - 1) p.dropLast (by simp; omega) (gt_pre hb hd0 (s := [p.getLastD []]) (by rw [hj]; exact hg)) w hw
    · rw [List.mem_singleton] at hw; rw [hw]; exact h40
  termination_by n => n
  decreasing_by omega

theorem adds_len (a b : List Ln) : (addsL a b).length ≤ b.length := by
  have : (ents b).length = b.length := by unfold ents; simp
  have h2 := List.length_filter_le (addsB a) (ents b)
  unfold addsL; omega

/-- The difference of a and b, done to what is like a where it differs. -/
theorem diff_goes {x a b : List Ln} (hx : rightS x = true) (ha : rightS a = true) (hb : rightS b = true) (hl : x.length + b.length ≤ 200) (hxa : ∀ q, touch (diffL a b) q → gt x q = gt a q) :
    ∃ u, Goes x (diffL a b) u ∧ rightS u = true ∧ ∀ q, (touch (diffL a b) q → gt u q = gt b q) ∧ (¬touch (diffL a b) q → gt u q = gt x q) := by
  have hra := right_rf ha
  have hrb := right_rf hb
  have tG : ∀ p ∈ goneL a b, ∀ q, p <+: q → touch (diffL a b) q := fun p hp q hpq => ⟨chG p, mem_diff.2 (.inl ⟨p, hp, rfl⟩), head_pre hpq fun e => ((mem_gone hra).1 hp).1 (by rw [show p = [] from e]; exact gt_nil a)⟩
  have tA : ∀ e ∈ addsL a b, touch (diffL a b) e.1 := fun e he => ⟨chA e, mem_diff.2 (.inr (.inl ⟨e, he, rfl⟩)), rfl⟩
  have tM : ∀ e ∈ mrkL a b, touch (diffL a b) e.1 := fun e he => ⟨chM e, mem_diff.2 (.inr (.inr ⟨e, he, rfl⟩)), rfl⟩
  have tD : ∀ e : List Bs, touch (diffL a b) e → e.dropLast ≠ [] → touch (diffL a b) e.dropLast := fun e ⟨c, hc, h⟩ h0 => ⟨c, hc, by rw [h]; exact (head_pre (List.dropLast_prefix e) h0).symm⟩
  obtain ⟨u1, o1, r1, l1, g1⟩ := goes_gone (goneL a b) x hx (fun p hp => by
    rw [hxa p (tG p hp p (List.prefix_refl _))]; exact ((mem_gone hra).1 hp).1) (by
    have hnd : (goneL a b).Pairwise fun p q => p ≠ q := (pths_nodup a [] hra).filter _
    refine List.Pairwise.imp_of_mem ?_ hnd
    intro p q hp hq hne hpq
    exact hne (gone_apart hra hrb hp hq hpq))
  have g1' : ∀ q, touch (diffL a b) q → gt u1 q = if gt b q = none then none else gt a q := fun q hq => by
    rw [g1, hxa q hq]
    by_cases h : ∃ p ∈ goneL a b, p <+: q
    · obtain ⟨p, hp, hpq⟩ := h
      rw [if_pos ⟨p, hp, hpq⟩, if_pos (gone_out hra hrb hp hpq)]
    · rw [if_neg h]
      by_cases h2 : gt b q = none
      · rw [if_pos h2]
        cases h3 : gt a q with
        | none => rfl
        | some m => exact absurd (top_gone hra q.length q rfl (by rw [h3]; simp) h2) h
      · rw [if_neg h2]
  have hal := adds_len a b
  obtain ⟨u2, o2, r2, l2, g2⟩ := goes_adds (addsL a b) u1 r1 (by omega) ((ents_ok hrb).up.filter _) (fun e he => by
    obtain ⟨q, m⟩ := e
    obtain ⟨h1, h2⟩ := (mem_adds hrb).1 he
    rw [g1' q (tA _ he), h1, h2]; simp) (fun e he => by
    obtain ⟨q, m⟩ := e
    obtain ⟨h1, h2⟩ := (mem_adds hrb).1 he
    have h3 := gt_sound hrb h1
    exact ⟨h3.1, h3.2.1, words_of hrb q.length q rfl (by rw [h1]; simp), h3.2.2.2⟩) (fun e he => by
    obtain ⟨q, m⟩ := e
    obtain ⟨h1, h2⟩ := (mem_adds hrb).1 he
    have h3 := gt_sound hrb h1
    by_cases h0 : q.dropLast = []
    · exact .inl h0
    · right
      have hj : q.dropLast ++ [q.getLastD []] = q := by rw [getLastD_ne h3.1, List.dropLast_concat_getLast h3.1]
      have h4 : gt b q.dropLast ≠ none := gt_pre hrb h0 (s := [q.getLastD []]) (by rw [hj, h1]; simp)
      obtain ⟨m', h5⟩ := Option.ne_none_iff_exists'.1 h4
      cases h6 : gt a q.dropLast with
      | none => exact .inr ⟨(q.dropLast, m'), (mem_adds hrb).2 ⟨h5, h6⟩, rfl⟩
      | some m2 =>
        left
        simp only
        rw [g1' _ (tD _ (tA _ he) h0), if_neg h4, h6]; simp)
  have hMp : (mrkL a b).Pairwise fun e f => e.1 ≠ f.1 := ((ents_ok hrb).up.filter _).imp fun h => lx_ne h
  obtain ⟨u3, o3, r3, l3, g3⟩ := goes_mrk (mrkL a b) u2 r2 hMp (fun e he => by
    obtain ⟨q, m⟩ := e
    obtain ⟨h1, m', h2, h3⟩ := (mem_mrk hrb).1 he
    have h4 := gt_sound hrb h1
    refine ⟨?_, h4.2.2.2⟩
    have : gt u2 q = some m' := (g2 q m').2 (.inr (by rw [g1' q (tM _ he), h1, h2]; simp))
    simp only
    rw [this]; simp)
  refine ⟨u3, (o1.app o2).app o3, r3, fun q => ⟨fun hq => ?_, fun hq => ?_⟩⟩
  · apply Option.ext
    intro m
    rw [g3, g2]
    have hu1 := g1' q hq
    cases hb' : gt b q with
    | none =>
      rw [hb', if_pos rfl] at hu1
      rw [hu1]
      constructor
      · rintro (h | ⟨_, h | h⟩)
        · have := ((mem_mrk hrb).1 h).1; rw [hb'] at this; exact this
        · have := ((mem_adds hrb).1 h).1; rw [hb'] at this; exact this
        · exact h
      · intro h; cases h
    | some mb =>
      rw [hb', if_neg (by simp)] at hu1
      rw [hu1]
      cases ha' : gt a q with
      | none =>
        have hno : ∀ e ∈ mrkL a b, e.1 ≠ q := fun e he e2 => by
          obtain ⟨q', m'⟩ := e
          obtain ⟨_, m2, h2, _⟩ := (mem_mrk hrb).1 he
          simp only at e2
          rw [e2, ha'] at h2; cases h2
        constructor
        · rintro (h | ⟨_, h | h⟩)
          · exact absurd rfl (hno _ h)
          · have := ((mem_adds hrb).1 h).1; rw [hb'] at this; exact this
          · cases h
        · intro h
          exact .inr ⟨hno, .inl ((mem_adds hrb).2 ⟨by rw [hb']; exact h, ha'⟩)⟩
      | some ma =>
        by_cases hne : ma = mb
        · subst hne
          have hno : ∀ e ∈ mrkL a b, e.1 ≠ q := fun e he e2 => by
            obtain ⟨q', m'⟩ := e
            obtain ⟨h1, m2, h2, h3⟩ := (mem_mrk hrb).1 he
            simp only at e2
            rw [e2, ha'] at h2
            rw [e2, hb'] at h1
            injection h1 with h1; injection h2 with h2
            exact h3 (h2.symm.trans h1)
          constructor
          · rintro (h | ⟨_, h | h⟩)
            · exact absurd rfl (hno _ h)
            · have := ((mem_adds hrb).1 h).1; rw [hb'] at this; exact this
            · exact h
          · intro h
            exact .inr ⟨hno, .inr h⟩
        · have hin : (q, mb) ∈ mrkL a b := (mem_mrk hrb).2 ⟨hb', ma, ha', hne⟩
          constructor
          · rintro (h | ⟨h, _⟩)
            · have := ((mem_mrk hrb).1 h).1; rw [hb'] at this; exact this
            · exact absurd rfl (h _ hin)
          · intro h
            injection h with h
            exact .inl (by rw [← h]; exact hin)
  · have hu1 : gt u1 q = gt x q := by
      rw [g1, if_neg]
      rintro ⟨p, hp, hpq⟩
      exact hq (tG p hp q hpq)
    apply Option.ext
    intro m
    rw [g3, g2, hu1]
    have hA : (q, m) ∉ addsL a b := fun h => hq (tA _ h)
    have hM : (q, m) ∉ mrkL a b := fun h => hq (tM _ h)
    have hM2 : ∀ e ∈ mrkL a b, e.1 ≠ q := fun e he e2 => hq (e2 ▸ tM e he)
    constructor
    · rintro (h | ⟨_, h | h⟩)
      · exact absurd h hM
      · exact absurd h hA
      · exact h
    · intro h
      exact .inr ⟨hM2, .inr h⟩

theorem diff_makes {a b : List Ln} (ha : rightS a = true) (hb : rightS b = true) (hl : a.length + b.length ≤ 200) : Goes a (diffL a b) b := by
  obtain ⟨u, h1, h2, h3⟩ := diff_goes ha ha hb hl fun _ _ => rfl
  have : u = b := gt_ext (right_rf h2) (right_rf hb) fun q => by
    by_cases h : touch (diffL a b) q
    · exact (h3 q).1 h
    · rw [(h3 q).2 h, diff_none (right_rf ha) (right_rf hb) h]
  rwa [this] at h1
theorem diff_self {a : List Ln} (ha : rightS a = true) : diffL a a = [] := by
  have hra := right_rf ha
  have h1 : goneL a a = [] := List.eq_nil_iff_forall_not_mem.2 fun p hp => ((mem_gone hra).1 hp).1 ((mem_gone hra).1 hp).2.1
  have h2 : addsL a a = [] := List.eq_nil_iff_forall_not_mem.2 fun e he => by
    obtain ⟨q, m⟩ := e
    obtain ⟨h3, h4⟩ := (mem_adds hra).1 he
    rw [h4] at h3; cases h3
  have h3 : mrkL a a = [] := List.eq_nil_iff_forall_not_mem.2 fun e he => by
    obtain ⟨q, m⟩ := e
    obtain ⟨h3, m', h4, h5⟩ := (mem_mrk hra).1 he
    rw [h4] at h3
    injection h3 with h3
    exact h5 h3
  unfold diffL
  rw [h1, h2, h3]; rfl
theorem diff_nil {a b : List Ln} (ha : rightS a = true) (hb : rightS b = true) (hl : a.length + b.length ≤ 200) : diffL a b = [] ↔ a = b := by
  constructor
  · intro h
    have := diff_makes ha hb hl
    rw [h] at this
    exact this
  · rintro rfl; exact diff_self ha

/-! ### Sides that have changed unlike parts -/

theorem apart_makes {b m t : List Ln} (hb : rightS b = true) (hm : rightS m = true) (ht : rightS t = true) (h1 : b.length + m.length ≤ 200) (h2 : m.length + t.length ≤ 200)
    (hap : ∀ x ∈ diffL b m, ∀ y ∈ diffL b t, x.2.1.head? ≠ y.2.1.head?) : ∃ u, mrg b m t = (u, [], 0) ∧ Goes b (diffL b m ++ diffL b t) u := by
  have hrb := right_rf hb
  have hrm := right_rf hm
  have hrt := right_rf ht
  have key : ∀ q, touch (diffL b t) q → gt m q = gt b q := fun q ⟨y, hy, he⟩ => by
    refine (diff_none hrb hrm ?_).symm
    rintro ⟨x, hx, he2⟩
    exact hap x hx y hy (he2.trans he.symm)
  obtain ⟨u, g1, g2, g3⟩ := diff_goes hm hb ht h2 key
  refine ⟨u, mrg_is hb hm ht g2 fun p => ?_, (diff_makes hb hm h1).app g1⟩
  unfold dcd
  by_cases h : touch (diffL b t) p
  · have e1 : st m p = st b p := by unfold st; rw [key p h]
    have e2 : st u p = st t p := by unfold st; rw [(g3 p).1 h]
    rw [e2, e1]
    split
    · rename_i h9
      rcases h9 with h9 | h9
      · exact h9
      · exact h9.symm
    · rw [if_pos rfl]
  · have e1 : st t p = st b p := by unfold st; rw [diff_none hrb hrt h]
    have e2 : st u p = st m p := by unfold st; rw [(g3 p).2 h]
    rw [if_pos (.inr e1), e2]

/-! ### How many changes -/

theorem filter2 {α : Type} (p q : α → Bool) (h : ∀ x, p x = true → q x = false) : ∀ l : List α, (l.filter p).length + (l.filter q).length ≤ l.length
  | [] => Nat.le_refl _
  | x :: l => by
    have ih := filter2 p q h l
    rw [List.filter_cons, List.filter_cons]
    by_cases h1 : p x = true
    · rw [if_pos h1, h x h1]; simp; omega
    · rw [if_neg h1]
      split
      · simp; omega
      · simp; omega
theorem addsB_mrkB (a : List Ln) (e : List Bs × Int) (h : addsB a e = true) : mrkB a e = false := by
  unfold addsB at h
  unfold mrkB
  simp at h
  simp [h]
theorem diff_len (a b : List Ln) : (diffL a b).length ≤ a.length + b.length := by
  have h1 := List.length_filter_le (goneB b) (pths [] a)
  have h2 := filter2 (addsB a) (mrkB a) (addsB_mrkB a) (ents b)
  have h3 : (ents b).length = b.length := by unfold ents; simp
  rw [pths_length] at h1
  unfold diffL goneL addsL mrkL
  simp
  omega
theorem diff_ne {a b : List Ln} (ha : rf [] a = true) (hb : rf [] b = true) : ∀ c ∈ diffL a b, c.2.1 ≠ [] := fun c hc => by
  rcases mem_diff.1 hc with ⟨p, hp, rfl⟩ | ⟨e, he, rfl⟩ | ⟨e, he, rfl⟩
  · exact fun e => ((mem_gone ha).1 hp).1 (by rw [show p = [] from e]; exact gt_nil a)
  · obtain ⟨q, m⟩ := e
    exact (gt_sound hb ((mem_adds hb).1 he).1).1
  · obtain ⟨q, m⟩ := e
    exact (gt_sound hb ((mem_mrk hb).1 he).1).1
end

section


/-! ### No path twice -/

def Unlike (x y : Ch) : Prop := x.2.1 ≠ y.2.1 ∧ ¬(x.1 = 1 ∧ x.2.1 <+: y.2.1) ∧ ¬(y.1 = 1 ∧ y.2.1 <+: x.2.1)
theorem n21 : ¬(2 : Int) = 1 := by decide
theorem n31 : ¬(3 : Int) = 1 := by decide
theorem Unlike.sym {x y : Ch} (h : Unlike x y) : Unlike y x := ⟨h.1.symm, h.2.2, h.2.1⟩
theorem diff_once {a b : List Ln} (ha : rf [] a = true) (hb : rf [] b = true) : (diffL a b).Pairwise Unlike := by
  have hup := (ents_ok hb).up
  unfold diffL
  rw [List.pairwise_append, List.pairwise_append]
  refine ⟨⟨?_, ?_, ?_⟩, ?_, ?_⟩
  · rw [List.pairwise_map]
    have hnd : (goneL a b).Pairwise fun p q => p ≠ q := (pths_nodup a [] ha).filter _
    refine List.Pairwise.imp_of_mem ?_ hnd
    intro p q hp hq hne
    exact ⟨hne, fun h => hne (gone_apart ha hb hp hq h.2), fun h => hne (gone_apart ha hb hq hp h.2).symm⟩
  · rw [List.pairwise_map]
    exact (hup.filter (addsB a)).imp fun h => ⟨lx_ne h, fun h => n21 h.1, fun h => n21 h.1⟩
  · intro x hx y hy
    obtain ⟨p, hp, rfl⟩ := List.mem_map.1 hx
    obtain ⟨⟨q, m⟩, he, rfl⟩ := List.mem_map.1 hy
    have h1 := (mem_adds hb).1 he
    have key : ¬ p <+: q := fun h => by
      have := gone_out ha hb hp h
      rw [this] at h1; cases h1.1
    exact ⟨fun e => key (by rw [show p = q from e]; exact List.prefix_refl _), fun h => key h.2, fun h => n21 h.1⟩
  · rw [List.pairwise_map]
    exact (hup.filter (mrkB a)).imp fun h => ⟨lx_ne h, fun h => n31 h.1, fun h => n31 h.1⟩
  · intro x hx y hy
    obtain ⟨⟨q, m⟩, he, rfl⟩ := List.mem_map.1 hy
    obtain ⟨h1, m', h2, _⟩ := (mem_mrk hb).1 he
    rcases List.mem_append.1 hx with hx | hx
    · obtain ⟨p, hp, rfl⟩ := List.mem_map.1 hx
      have key : ¬ p <+: q := fun h => by
        have := gone_out ha hb hp h
        rw [this] at h1; cases h1
      exact ⟨fun e => key (by rw [show p = q from e]; exact List.prefix_refl _), fun h => key h.2, fun h => n31 h.1⟩
    · obtain ⟨⟨q', m2⟩, he', rfl⟩ := List.mem_map.1 hx
      have h3 := (mem_adds hb).1 he'
      refine ⟨fun e => ?_, fun h => n21 h.1, fun h => n31 h.1⟩
      have e' : q' = q := e
      rw [e', h2] at h3; cases h3.2

/-! ### A path that is added -/

theorem have_upto (t : List Ln) (h : rf [] t = true) (q : List Bs) : ∀ n, n ≤ q.length → ∃ j, j ≤ n ∧ (∀ k, 0 < k → k ≤ j → gt t (q.take k) ≠ none) ∧ (∀ k, j < k → k ≤ n → gt t (q.take k) = none)
  | 0, _ => ⟨0, Nat.le_refl _, fun k h1 h2 => by omega, fun k h1 h2 => by omega⟩
  | n + 1, hn => by
    obtain ⟨j, h1, h2, h3⟩ := have_upto t h q n (by omega)
    cases hg : gt t (q.take (n + 1)) with
    | none =>
      refine ⟨j, by omega, h2, fun k h4 h5 => ?_⟩
      by_cases e : k = n + 1
      · rw [e]; exact hg
      · exact h3 k h4 (by omega)
    | some m =>
      refine ⟨n + 1, Nat.le_refl _, fun k h4 h5 => ?_, fun k h4 h5 => by omega⟩
      have hpre : q.take k <+: q.take (n + 1) := by
        rw [show q.take k = (q.take (n + 1)).take k by rw [List.take_take, Nat.min_eq_left h5]]
        exact List.take_prefix _ _
      obtain ⟨s, hs⟩ := hpre
      refine gt_pre h (fun e => ?_) (s := s) (by rw [hs, hg]; simp)
      have := congrArg List.length e
      rw [List.length_take, Nat.min_eq_left (by omega)] at this
      have h9 : k = 0 := this
      omega

theorem take_pre_iff {q p : List Bs} : p <+: q ↔ ∃ k, k ≤ q.length ∧ p = q.take k := by
  constructor
  · intro h
    exact ⟨p.length, h.length_le, List.prefix_iff_eq_take.1 h⟩
  · rintro ⟨k, _, rfl⟩
    exact List.take_prefix _ _

theorem addN_grow {t : List Ln} (h : rf [] t = true) {q : List Bs} (h16 : q.length ≤ 16) (h40 : ∀ w ∈ q, w.length ≤ 40) {j : Nat} (h1 : ∀ k, 0 < k → k ≤ j → gt t (q.take k) ≠ none) (h2 : ∀ k, j < k → k ≤ q.length → gt t (q.take k) = none) :
    ∀ k, k ≤ q.length → (addN t q k).length = t.length + (k - j)
  | 0, _ => by simp [addN]
  | k + 1, hk => by
    have ih := addN_grow h h16 h40 h1 h2 k (by omega)
    obtain ⟨_, g2⟩ := addN_tree h h16 h40 k (by omega)
    have hnp : ¬ q.take (k + 1) <+: q.take k := fun hp => by
      have := hp.length_le
      rw [List.length_take, List.length_take] at this; omega
    have hself := g2 (q.take (k + 1))
    rw [if_neg (fun h3 => hnp h3.2.2)] at hself
    rw [addN_succ]
    unfold addK
    rw [hself]
    by_cases hj : k + 1 ≤ j
    · rw [if_neg (h1 (k + 1) (by omega) hj), ih]; omega
    · rw [if_pos (h2 (k + 1) (by omega) hk), insT_length, ih]; omega

theorem step_diff {t : List Ln} {q : List Bs} (he : addE t q = 0) : ∃ n, n ≤ q.length ∧ (addL t q).length = t.length + n ∧ diffL t (addL t q) = (List.range n).map fun i => ((2, q.take (q.length - n + 1 + i), 0) : Ch) := by
  obtain ⟨hr, h0, h40, h16, _⟩ := addE_ok he
  obtain ⟨hur, hgu⟩ := addL_tree he
  have hrf := right_rf hr
  have hru := right_rf hur
  obtain ⟨j, hj, a1, a2⟩ := have_upto t hrf q q.length (Nat.le_refl _)
  have hlen := addN_grow hrf h16 h40 a1 a2 q.length (Nat.le_refl _)
  have hG : goneL t (addL t q) = [] := List.eq_nil_iff_forall_not_mem.2 fun p hp => by
    obtain ⟨g1, g2, _⟩ := (mem_gone hrf).1 hp
    rw [hgu, if_neg (fun h => g1 h.1)] at g2
    exact g1 g2
  have hM : mrkL t (addL t q) = [] := List.eq_nil_iff_forall_not_mem.2 fun e hp => by
    obtain ⟨p, m⟩ := e
    obtain ⟨g1, m', g2, g3⟩ := (mem_mrk hru).1 hp
    rw [hgu, if_neg (fun h => by rw [g2] at h; cases h.1), g2] at g1
    injection g1 with g1
    exact g3 g1
  have hA : addsL t (addL t q) = (List.range (q.length - j)).map fun i => (q.take (j + 1 + i), (0 : Int)) := by
    refine sorted_ext ((ents_ok hru).up.filter _) ?_ fun e => ?_
    · rw [List.pairwise_map]
      refine List.Pairwise.imp_of_mem ?_ List.pairwise_lt_range
      intro x y hx hy hlt
      rw [List.mem_range] at hx hy
      simp only
      have e1 : q.take (j + 1 + y) = q.take (j + 1 + x) ++ (q.drop (j + 1 + x)).take (y - x) := by
        rw [show j + 1 + y = (j + 1 + x) + (y - x) by omega, List.take_add]
      rw [e1]
      refine lx_pre _ fun e2 => ?_
      have := congrArg List.length e2
      rw [List.length_take, List.length_drop] at this
      simp at this; omega
    · obtain ⟨p, m⟩ := e
      rw [List.mem_map]
      constructor
      · intro h
        obtain ⟨g1, g2⟩ := (mem_adds hru).1 h
        rw [hgu] at g1
        split at g1
        · rename_i hc
          injection g1 with g1
          obtain ⟨k, hk, rfl⟩ := take_pre_iff.1 hc.2.2
          have hk0 : 0 < k := by
            rcases Nat.eq_zero_or_pos k with e | e
            · subst e; exact absurd rfl hc.2.1
            · exact e
          have hjk : j < k := by
            rcases Nat.lt_or_ge j k with e | e
            · exact e
            · exact absurd g2 (a1 k hk0 e)
          exact ⟨k - (j + 1), List.mem_range.2 (by omega), by rw [show j + 1 + (k - (j + 1)) = k by omega, g1]⟩
        · rw [g2] at g1; cases g1
      · rintro ⟨i, hi, e⟩
        rw [List.mem_range] at hi
        injection e with e1 e2
        subst e1; subst e2
        have hno := a2 (j + 1 + i) (by omega) (by omega)
        refine (mem_adds hru).2 ⟨?_, hno⟩
        have hne : q.take (j + 1 + i) ≠ [] := fun e => by
          have := congrArg List.length e
          rw [List.length_take, Nat.min_eq_left (by omega)] at this
          have h9 : j + 1 + i = 0 := this
          omega
        rw [hgu, if_pos ⟨hno, hne, List.take_prefix _ _⟩]
  refine ⟨q.length - j, by omega, hlen, ?_⟩
  unfold diffL
  rw [hG, hM, hA]
  simp only [List.map_nil, List.nil_append, List.append_nil, List.map_map]
  refine List.map_congr_left fun i hi => ?_
  rw [show q.length - (q.length - j) + 1 + i = j + 1 + i by omega]
  rfl
end

end Go.Proofs.YtncgafojgdemdaaDoor.Vc
