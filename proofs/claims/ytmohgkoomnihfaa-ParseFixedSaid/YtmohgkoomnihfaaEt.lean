/-
  TREES AS SORTED LISTS of paths with their marks. Plain lists. No condition.
-/
import Derived.Test.YtmohgkoomnihfaaTt
set_option linter.unusedVariables false
set_option linter.unusedSimpArgs false
namespace Go.Proofs.Ytmohgkoomnihfaa.Vc

/-! ### The order of paths -/

/-- Word by word; what ends first is first. -/
def lx : List Bs → List Bs → Bool
  | _, [] => false
  | [], _ :: _ => true
  | a :: p, b :: q => bl a b || (decide (a = b) && lx p q)

theorem bl_tri (x y : Bs) : bl x y = true ∨ x = y ∨ bl y x = true := by
  have := bl_not x y
  cases h : bl y x with
  | true => exact .inr (.inr rfl)
  | false =>
    rw [show Op.bytesLess y x = false from h] at this
    simp only [Bool.not_false, Bool.or_eq_true, beq_iff_eq] at this
    rcases this with h | h
    · exact .inl h
    · exact .inr (.inl h)
theorem lx_cons {a b : Bs} {p q : List Bs} : lx (a :: p) (b :: q) = true ↔ bl a b = true ∨ (a = b ∧ lx p q = true) := by simp [lx]
theorem lx_nil (p : List Bs) : lx p [] = false := by cases p <;> rfl
theorem lx_irr : ∀ p, lx p p = false
  | [] => rfl
  | a :: p => by simp [lx, lx_irr p, bl_irr]
theorem lx_trans : ∀ {p q r : List Bs}, lx p q = true → lx q r = true → lx p r = true
  | _, [], _, h, _ => by simp [lx_nil] at h
  | _, _ :: _, [], _, h => by simp [lx_nil] at h
  | [], _ :: _, _ :: _, _, _ => rfl
  | a :: p, b :: q, c :: r, h1, h2 => by
    rw [lx_cons] at *
    rcases h1 with h1 | ⟨rfl, h1⟩ <;> rcases h2 with h2 | ⟨rfl, h2⟩
    · exact .inl (bl_trans h1 h2)
    · exact .inl h1
    · exact .inl h2
    · exact .inr ⟨rfl, lx_trans h1 h2⟩
theorem lx_asymm {p q : List Bs} (h : lx p q = true) : lx q p = false := by
  cases h' : lx q p with
  | false => rfl
  | true => have := lx_trans h h'; rw [lx_irr] at this; cases this
theorem lx_ne {p q : List Bs} (h : lx p q = true) : p ≠ q := fun e => by subst e; rw [lx_irr] at h; cases h
theorem lx_tri : ∀ (p q : List Bs), lx p q = true ∨ p = q ∨ lx q p = true
  | [], [] => .inr (.inl rfl)
  | [], _ :: _ => .inl rfl
  | _ :: _, [] => .inr (.inr rfl)
  | a :: p, b :: q => by
    rw [lx_cons, lx_cons]
    rcases bl_tri a b with h | rfl | h
    · exact .inl (.inl h)
    · rcases lx_tri p q with h | rfl | h
      · exact .inl (.inr ⟨rfl, h⟩)
      · exact .inr (.inl rfl)
      · exact .inr (.inr (.inr ⟨rfl, h⟩))
    · exact .inr (.inr (.inl h))
theorem lx_of_not {p q : List Bs} (h : lx p q = false) (hn : p ≠ q) : lx q p = true := by
  rcases lx_tri p q with h' | h' | h'
  · rw [h'] at h; cases h
  · exact absurd h' hn
  · exact h'
theorem lx_append : ∀ (p q r : List Bs), lx (p ++ q) (p ++ r) = lx q r
  | [], _, _ => rfl
  | a :: p, q, r => by simp [lx, lx_append p q r, bl_irr]
theorem lx_pre (p : List Bs) {s : List Bs} (h : s ≠ []) : lx p (p ++ s) = true := by
  have := lx_append p [] s
  rw [List.append_nil] at this
  rw [this]
  cases s with
  | nil => exact absurd rfl h
  | cons a s => rfl
theorem lx_last (p : List Bs) (a b : Bs) : lx (p ++ [a]) (p ++ [b]) = bl a b := by rw [lx_append]; simp [lx]
/-- Between a path and what is under it all is under it. -/
theorem lx_btw : ∀ {u p s : List Bs}, (u = p ∨ lx u p = true) → (p = u ++ s ∨ lx p (u ++ s) = true) → u <+: p
  | [], p, _, _, _ => List.nil_prefix
  | a :: u, [], s, h, _ => by rcases h with h | h
                              · cases h
                              · simp [lx_nil] at h
  | a :: u, b :: p, s, h1, h2 => by
    rw [lx_cons, List.cons_append, lx_cons] at *
    have hab : a = b := by
      rcases h1 with h1 | h1 | ⟨h1, _⟩
      · cases h1; rfl
      · rcases h2 with h2 | h2 | ⟨h2, _⟩
        · cases h2; rfl
        · have := bl_ne (bl_trans h1 h2); exact absurd rfl this
        · exact h2.symm
      · exact h1
    subst hab
    rw [List.cons_prefix_cons]
    refine ⟨rfl, lx_btw (s := s) ?_ ?_⟩
    · rcases h1 with h1 | h1 | ⟨_, h1⟩
      · cases h1; exact .inl rfl
      · rw [bl_irr] at h1; cases h1
      · exact .inr h1
    · rcases h2 with h2 | h2 | ⟨_, h2⟩
      · cases h2; exact .inl rfl
      · rw [bl_irr] at h2; cases h2
      · exact .inr h2
/-- Paths that part ways stay as they stand. -/
theorem lx_ext : ∀ {p q : List Bs} (s s' : List Bs), lx p q = true → ¬ p <+: q → lx (p ++ s) (q ++ s') = true
  | [], _, _, _, _, h => absurd List.nil_prefix h
  | _ :: _, [], _, _, h, _ => by simp [lx_nil] at h
  | a :: p, b :: q, s, s', h, hn => by
    rw [List.cons_append, List.cons_append, lx_cons]
    rw [lx_cons] at h
    rcases h with h | ⟨rfl, h⟩
    · exact .inl h
    · exact .inr ⟨rfl, lx_ext s s' h fun hp => hn ((List.cons_prefix_cons).2 ⟨rfl, hp⟩)⟩
theorem lx_right {p q : List Bs} (s : List Bs) (h : lx p q = true) : lx p (q ++ s) = true := by
  by_cases hs : s = []
  · subst hs; rwa [List.append_nil]
  · exact lx_trans h (lx_pre q hs)
theorem pre_le {p q : List Bs} (h : p <+: q) : p = q ∨ lx p q = true := by
  obtain ⟨s, rfl⟩ := h
  by_cases hs : s = []
  · subst hs; left; simp
  · exact .inr (lx_pre p hs)
theorem pre_anti {p q : List Bs} (h : p <+: q) : lx q p = false := by
  rcases pre_le h with rfl | h
  · exact lx_irr _
  · exact lx_asymm h

/-! ### Paths of a tree rise -/

theorem lx_nx {p : List Bs} {l : Ln} (h0 : 0 ≤ l.1) (hl : l.1 ≤ p.length) : lx p (nx p l) = true ↔ (l.1 = p.length ∨ bl (p.getD l.1.toNat []) l.2.1 = true) := by
  unfold nx
  obtain ⟨d, hd⟩ : ∃ d, l.1.toNat = d := ⟨_, rfl⟩
  have e : lx p (p.take d ++ [l.2.1]) = lx (p.drop d) [l.2.1] := by
    have := lx_append (p.take d) (p.drop d) [l.2.1]
    rwa [List.take_append_drop] at this
  rw [hd, e]
  rcases Nat.lt_or_ge d p.length with h | h
  · rw [List.drop_eq_getElem_cons h, List.getD_eq_getElem?_getD, List.getElem?_eq_getElem h]
    simp only [lx, Option.getD_some, lx_nil]
    constructor
    · intro h; right; simpa using h
    · rintro (h | h)
      · omega
      · simp [h]
  · rw [List.drop_of_length_le h]
    constructor
    · intro _; left; omega
    · intro _; rfl
theorem rf_lx {p : List Bs} {l : Ln} {r : List Ln} : rf p (l :: r) = true ↔ snd l = true ∧ l.1 ≤ p.length ∧ lx p (nx p l) = true ∧ rf (nx p l) r = true := by
  rw [rf_cons]
  constructor
  · rintro ⟨h1, h2, h3, h4⟩; exact ⟨h1, h2, (lx_nx (snd_iff.1 h1).1 h2).2 h3, h4⟩
  · rintro ⟨h1, h2, h3, h4⟩; exact ⟨h1, h2, (lx_nx (snd_iff.1 h1).1 h2).1 h3, h4⟩
theorem pths_up : ∀ (r : List Ln) (p : List Bs), rf p r = true → ∀ x ∈ pths p r, lx p x = true
  | [], _, _, _, h => by cases h
  | l :: r, p, h, x, hx => by
    rw [rf_lx] at h
    rcases List.mem_cons.1 hx with rfl | hx
    · exact h.2.2.1
    · exact lx_trans h.2.2.1 (pths_up r _ h.2.2.2 x hx)
theorem pths_sorted : ∀ (r : List Ln) (p : List Bs), rf p r = true → (pths p r).Pairwise fun a b => lx a b = true
  | [], _, _ => List.Pairwise.nil
  | l :: r, p, h => by
    rw [rf_lx] at h
    exact List.Pairwise.cons (pths_up r _ h.2.2.2) (pths_sorted r _ h.2.2.2)
theorem pths_pth (t : List Ln) {i : Nat} (h : i < (pths [] t).length) : (pths [] t)[i] = pth t i := by
  unfold pth; rw [List.getD_eq_getElem?_getD, List.getElem?_eq_getElem h]; rfl
theorem pth_lt {t : List Ln} (h : rf [] t = true) {i j : Nat} (hij : i < j) (hj : j < t.length) : lx (pth t i) (pth t j) = true := by
  have := List.pairwise_iff_getElem.1 (pths_sorted t [] h) i j (by simp; omega) (by simpa using hj) hij
  rwa [pths_pth, pths_pth] at this
theorem pth_lt_iff {t : List Ln} (h : rf [] t = true) {i j : Nat} (hi : i < t.length) (hj : j < t.length) : lx (pth t i) (pth t j) = true ↔ i < j := by
  constructor
  · intro hl
    rcases Nat.lt_trichotomy i j with h1 | h1 | h1
    · exact h1
    · subst h1; rw [lx_irr] at hl; cases hl
    · have := lx_asymm (pth_lt h h1 hi); rw [this] at hl; cases hl
  · intro hij; exact pth_lt h hij hj
theorem pth_uniq {t : List Ln} (h : rf [] t = true) {i j : Nat} (hi : i < t.length) (hj : j < t.length) (he : pth t i = pth t j) : i = j := by
  rcases Nat.lt_trichotomy i j with h1 | h1 | h1
  · exact absurd he (lx_ne (pth_lt h h1 hj))
  · exact h1
  · exact absurd he.symm (lx_ne (pth_lt h h1 hi))
theorem pth_ne_nil {t : List Ln} {i : Nat} (hi : i < t.length) : pth t i ≠ [] := by
  rw [pth_nx t hi]; simp

/-- What stands under a line, and the line: those whose paths begin with its path. -/
theorem part_pre {t : List Ln} (h : rf [] t = true) {i j : Nat} (hi : i < t.length) (hj : j < t.length) : pth t i <+: pth t j ↔ i ≤ j ∧ j < endN t i := by
  have hb := snd_iff.1 (rf_at h hi).1
  have hli := pth_len h hi
  constructor
  · intro hp
    have hij : i ≤ j := by
      rcases Nat.lt_or_ge j i with h1 | h1
      · have := pre_anti hp; rw [pth_lt h h1 hi] at this; cases this
      · exact h1
    refine ⟨hij, ?_⟩
    rcases Nat.lt_or_ge j (endN t i) with h1 | h1
    · exact h1
    · exfalso
      have hel : endN t i < t.length := by omega
      have hgt := endN_gt t i
      have h2 := endN_out t i hel
      rw [getD_of_lt t hel, getD_of_lt t hi] at h2
      obtain ⟨s, hs⟩ := hp
      have h3 : pth t i <+: pth t (endN t i) := lx_btw (s := s) (.inr (pth_lt h hgt hel)) (by
        rcases Nat.lt_or_eq_of_le h1 with h4 | h4
        · right; rw [hs]; exact pth_lt h h4 hj
        · left; rw [hs, ← h4])
      have hle := pth_len h hel
      have hbe := snd_iff.1 (rf_at h hel).1
      have := h3.eq_of_length_le (by omega)
      exact absurd this (lx_ne (pth_lt h hgt hel))
  · rintro ⟨h1, h2⟩
    rcases Nat.lt_or_eq_of_le h1 with h1 | rfl
    · have hr := (rf_split h (i + 1)).2
      have hr2 := (rf_split hr (j - i)).1
      have hd := after_deep ((t[i]).1.toNat + 1) ((t.drop (i + 1)).take (j - i)) (after [] (t.take (i + 1))) (fun l hl => by
        obtain ⟨k, hk, rfl⟩ := List.getElem_of_mem hl
        have hk' : k < j - i := by simp at hk; omega
        have hkl : i + 1 + k < t.length := by omega
        have := endN_in t i (i + 1 + k) (by omega) (by omega)
        rw [getD_of_lt t hi, getD_of_lt t hkl] at this
        simp only [List.getElem_take, List.getElem_drop]
        omega) (by rw [after_len h hi]; exact Nat.le_refl _) hr2
      have e : after (after [] (t.take (i + 1))) ((t.drop (i + 1)).take (j - i)) = pth t j := by
        have h9 : t.take (j + 1) = t.take (i + 1) ++ (t.drop (i + 1)).take (j - i) := by
          have := List.take_add (l := t) (i := i + 1) (j := j - i)
          rwa [show (i + 1) + (j - i) = j + 1 by omega] at this
        rw [pth_eq t hj, ← after_append, h9]
      rw [e, ← pth_eq t hi, List.take_of_length_le (l := pth t i) (by omega)] at hd
      rw [← hd.1]
      exact List.take_prefix _ _
    · exact List.prefix_refl _

theorem kid_pth {t : List Ln} (h : rf [] t = true) {i k : Nat} (hi : i < t.length) (hk : k < t.length) : underN t k = (i : Int) ↔ ∃ x, pth t k = pth t i ++ [x] := by
  rcases pth_under h hk with ⟨_, h2, h3⟩ | ⟨_, u, h2, h3, h4, _⟩
  · rw [h2, h3]
    constructor
    · intro e; omega
    · rintro ⟨x, e⟩
      have := congrArg List.length e
      have := pth_ne_nil hi
      cases hp : pth t i with
      | nil => exact absurd hp this
      | cons a b => rw [hp] at e; simp at e
  · rw [h2, h4]
    constructor
    · intro e
      have : u = i := by omega
      subst this; exact ⟨_, rfl⟩
    · rintro ⟨x, e⟩
      have := List.append_inj_left' e rfl
      have := pth_uniq h (by omega) hi this
      omega
theorem root_pth {t : List Ln} (h : rf [] t = true) {k : Nat} (hk : k < t.length) : underN t k = -1 ↔ ∃ x, pth t k = [x] := by
  rcases pth_under h hk with ⟨_, h2, h3⟩ | ⟨_, u, h2, h3, h4, _⟩
  · rw [h2, h3]; simp
  · rw [h2, h4]
    constructor
    · intro e; omega
    · rintro ⟨x, e⟩
      have hu := pth_ne_nil (t := t) (i := u) (by omega)
      cases hp : pth t u with
      | nil => exact absurd hp hu
      | cons a b => rw [hp] at e; simp at e
theorem pth_up {t : List Ln} (h : rf [] t = true) {k : Nat} (hk : k < t.length) {u : List Bs} {x : Bs} (e : pth t k = u ++ [x]) : u = [] ∨ ∃ j, j < k ∧ pth t j = u := by
  rcases pth_under h hk with ⟨_, _, h3⟩ | ⟨_, j, _, h3, h4, _⟩
  · left
    rw [h3] at e
    have := congrArg List.length e
    simp only [List.length_append, List.length_cons, List.length_nil] at this
    exact List.eq_nil_of_length_eq_zero (by omega)
  · right
    rw [h4] at e
    exact ⟨j, h3, List.append_inj_left' e rfl⟩
theorem pth_pre {t : List Ln} (h : rf [] t = true) : ∀ (n : Nat) {k : Nat} {u s : List Bs}, s.length = n → k < t.length → pth t k = u ++ s → u ≠ [] → ∃ j, j ≤ k ∧ pth t j = u
  | 0, k, u, s, hn, hk, e, hu => ⟨k, Nat.le_refl _, by rw [e, List.eq_nil_of_length_eq_zero hn, List.append_nil]⟩
  | n + 1, k, u, s, hn, hk, e, hu => by
    have hs : s ≠ [] := fun e => by subst e; cases hn
    rw [← List.dropLast_concat_getLast hs, ← List.append_assoc] at e
    rcases pth_up h hk e with h1 | ⟨j, hj, h1⟩
    · simp at h1; exact absurd h1.1 hu
    · obtain ⟨i, hi, h2⟩ := pth_pre h n (k := j) (u := u) (s := s.dropLast) (by simp; omega) (by omega) h1 hu
      exact ⟨i, by omega, h2⟩

/-! ### Entries: paths and marks -/

def ents (t : List Ln) : List (List Bs × Int) := (pths [] t).zip (t.map (·.2.2))
def ln (e : List Bs × Int) : Ln := ((e.1.length : Int) - 1, e.1.getLastD [], e.2)
@[simp] theorem ents_length (t : List Ln) : (ents t).length = t.length := by simp [ents]
theorem ents_get (t : List Ln) {i : Nat} (h : i < t.length) : (ents t)[i]'(by simpa using h) = (pth t i, (t[i]).2.2) := by
  simp [ents, pths_pth]
theorem mem_ents {t : List Ln} {e : List Bs × Int} : e ∈ ents t ↔ ∃ (i : Nat) (h : i < t.length), e = (pth t i, (t[i]).2.2) := by
  constructor
  · intro h
    obtain ⟨i, hi, rfl⟩ := List.getElem_of_mem h
    have hi' : i < t.length := by simpa using hi
    exact ⟨i, hi', ents_get t hi'⟩
  · rintro ⟨i, h, rfl⟩
    rw [← ents_get t h]; exact List.getElem_mem _
theorem ln_get {t : List Ln} (h : rf [] t = true) {i : Nat} (hi : i < t.length) : ln (pth t i, (t[i]).2.2) = t[i] := by
  have hb := snd_iff.1 (rf_at h hi).1
  have hl := pth_len h hi
  obtain ⟨l, hlx⟩ : ∃ l, t[i] = l := ⟨_, rfl⟩
  have hp := pth_nx t hi
  rw [hlx] at hb hl hp ⊢
  obtain ⟨d, w, m⟩ := l
  unfold ln
  simp only at *
  rw [hl, hp]
  simp
  omega
theorem ents_ln {t : List Ln} (h : rf [] t = true) : (ents t).map ln = t := by
  apply List.ext_getElem
  · simp
  · intro i h1 h2
    rw [List.getElem_map, ents_get t h2, ln_get h h2]

/-- Entries that are a tree. -/
structure Ok (es : List (List Bs × Int)) : Prop where
  up : es.Pairwise fun a b => lx a.1 b.1 = true
  one : ∀ e ∈ es, e.1 ≠ [] ∧ e.1.length ≤ 16 ∧ (e.1.getLastD []).length ≤ 40 ∧ 0 ≤ e.2 ∧ e.2 ≤ 3
  par : ∀ e ∈ es, e.1.dropLast = [] ∨ ∃ m, (e.1.dropLast, m) ∈ es

theorem ents_ok {t : List Ln} (h : rf [] t = true) : Ok (ents t) where
  up := by
    rw [List.pairwise_iff_getElem]
    intro i j hi hj hij
    rw [ents_get t (by simpa using hi), ents_get t (by simpa using hj)]
    exact pth_lt h hij (by simpa using hj)
  one := fun e he => by
    obtain ⟨i, hi, rfl⟩ := mem_ents.1 he
    have hb := snd_iff.1 (rf_at h hi).1
    have hl := pth_len h hi
    have e1 : ((pth t i).getLastD []) = (t[i]).2.1 := by have := congrArg (fun l : Ln => l.2.1) (ln_get h hi); exact this
    refine ⟨pth_ne_nil hi, ?_, ?_, hb.2.2.2.1, hb.2.2.2.2⟩
    · simp only; omega
    · simp only; rw [e1]; exact hb.2.2.1
  par := fun e he => by
    obtain ⟨i, hi, rfl⟩ := mem_ents.1 he
    simp only
    have hn := pth_ne_nil hi
    rcases pth_up h hi (List.dropLast_concat_getLast hn).symm with h1 | ⟨j, hj, h1⟩
    · exact .inl h1
    · right
      exact ⟨_, mem_ents.2 ⟨j, by omega, by rw [h1]⟩⟩

theorem getLastD_ne {p : List Bs} (h : p ≠ []) : p.getLastD [] = p.getLast h := by
  rw [List.getLastD_eq_getLast?, List.getLast?_eq_some_getLast h]; rfl
theorem ok_step : ∀ (r pre : List (List Bs × Int)) (p : List Bs), Ok (pre ++ r) → ((pre = [] ∧ p = []) ∨ ∃ m, pre.getLast? = some (p, m)) → rf p (r.map ln) = true ∧ pths p (r.map ln) = r.map (·.1)
  | [], _, _, _, _ => ⟨rfl, rfl⟩
  | (q, m) :: r, pre, p, h, hp => by
    have hm : (q, m) ∈ pre ++ (q, m) :: r := by simp
    obtain ⟨h1, h2, h3, h4, h5⟩ := h.one _ hm
    simp only at h1 h2 h3 h4 h5
    have hpq : lx p q = true := by
      rcases hp with ⟨_, rfl⟩ | ⟨m', hp⟩
      · cases q with
        | nil => exact absurd rfl h1
        | cons a b => rfl
      · have := (List.pairwise_append.1 h.up).2.2 (p, m') (List.mem_of_getLast? hp) (q, m) (by simp)
        exact this
    have hsplit : q = q.dropLast ++ [q.getLastD []] := by rw [getLastD_ne h1]; exact (List.dropLast_concat_getLast h1).symm
    -- the parent's path is a beginning of the path ahead
    have hpre : q.dropLast <+: p := by
      rcases h.par _ hm with h6 | ⟨m', h6⟩
      · simp only at h6; rw [h6]; exact List.nil_prefix
      · simp only at h6
        have h7 : lx q.dropLast q = true := by
          have := lx_pre q.dropLast (s := [q.getLastD []]) (by simp)
          rwa [← hsplit] at this
        have h8 : (q.dropLast, m') ∈ pre := by
          rcases List.mem_append.1 h6 with h9 | h9
          · exact h9
          · exfalso
            rcases List.mem_cons.1 h9 with h10 | h10
            · injection h10 with h11 _
              rw [h11, lx_irr] at h7; cases h7
            · have := (List.pairwise_cons.1 (List.pairwise_append.1 h.up).2.1).1 _ h10
              simp only at this
              rw [lx_asymm this] at h7; cases h7
        rcases hp with ⟨rfl, _⟩ | ⟨m'', hp⟩
        · cases h8
        · refine lx_btw (s := [q.getLastD []]) ?_ (.inr (by rw [← hsplit]; exact hpq))
          -- the path ahead is the last one
          obtain ⟨pre', hpre'⟩ : ∃ pre', pre = pre' ++ [(p, m'')] := by
            obtain ⟨ys, hys⟩ := List.getLast?_eq_some_iff.1 hp
            exact ⟨ys, hys⟩
          rw [hpre'] at h8
          rcases List.mem_append.1 h8 with h9 | h9
          · right
            have h10 := (List.pairwise_append.1 h.up).1
            rw [hpre'] at h10
            have := (List.pairwise_append.1 h10).2.2 _ h9 (p, m'') (by simp)
            exact this
          · left
            have : (q.dropLast, m') = (p, m'') := by simpa using h9
            injection this
    obtain ⟨s, hs⟩ := hpre
    have hd : (q.length : Int) - 1 = (q.dropLast.length : Int) := by
      have := congrArg List.length hsplit
      simp at this
      have : 0 < q.length := List.length_pos_iff.2 h1
      simp; omega
    have hnx : nx p (ln (q, m)) = q := by
      unfold nx ln
      simp only
      rw [hd, Int.toNat_natCast, ← hs, List.take_left, ← hsplit]
    have ih := ok_step r (pre ++ [(q, m)]) q (by rw [List.append_assoc]; exact h) (.inr ⟨m, by simp⟩)
    have hlen : 0 < q.length := List.length_pos_iff.2 h1
    rw [List.map_cons, rf_lx, hnx]
    refine ⟨⟨snd_iff.2 ?_, ?_, hpq, ih.1⟩, ?_⟩
    · unfold ln
      exact ⟨by simp only; omega, by simp only; omega, h3, h4, h5⟩
    · unfold ln
      simp only
      have := congrArg List.length hs
      simp only [List.length_append] at this
      omega
    · rw [pths, hnx, ih.2]; rfl
theorem ok_tree {es : List (List Bs × Int)} (h : Ok es) : rf [] (es.map ln) = true ∧ ents (es.map ln) = es := by
  obtain ⟨h1, h2⟩ := ok_step es [] [] h (.inl ⟨rfl, rfl⟩)
  refine ⟨h1, ?_⟩
  unfold ents
  rw [h2, List.map_map]
  rw [show ((fun l : Ln => l.2.2) ∘ ln) = (fun e : List Bs × Int => e.2) from rfl]
  rw [← List.unzip_fst, ← List.unzip_snd, List.zip_unzip]

/-- Sorted lists with the same members. -/
theorem sorted_ext : ∀ {a b : List (List Bs × Int)}, (a.Pairwise fun x y => lx x.1 y.1 = true) → (b.Pairwise fun x y => lx x.1 y.1 = true) → (∀ e, e ∈ a ↔ e ∈ b) → a = b
  | [], [], _, _, _ => rfl
  | [], y :: b, _, _, h => by have := (h y).2 (by simp); cases this
  | x :: a, [], _, _, h => by have := (h x).1 (by simp); cases this
  | x :: a, y :: b, ha, hb, h => by
    obtain ⟨ha1, ha2⟩ := List.pairwise_cons.1 ha
    obtain ⟨hb1, hb2⟩ := List.pairwise_cons.1 hb
    have hxy : x = y := by
      rcases List.mem_cons.1 ((h x).1 (by simp)) with h1 | h1
      · exact h1
      · rcases List.mem_cons.1 ((h y).2 (by simp)) with h2 | h2
        · exact h2.symm
        · have h3 := hb1 _ h1; have h4 := ha1 _ h2
          rw [lx_asymm h3] at h4; cases h4
    subst hxy
    congr 1
    refine sorted_ext ha2 hb2 fun e => ⟨fun he => ?_, fun he => ?_⟩
    · rcases List.mem_cons.1 ((h e).1 (by simp [he])) with rfl | h1
      · have := ha1 _ he; rw [lx_irr] at this; cases this
      · exact h1
    · rcases List.mem_cons.1 ((h e).2 (by simp [he])) with rfl | h1
      · have := hb1 _ he; rw [lx_irr] at this; cases this
      · exact h1

/-! ### A tree as a map: the mark at a path -/

def gt (t : List Ln) (q : List Bs) : Option Int := ((ents t).find? fun e => e.1 == q).map (·.2)

theorem ents_uniq {t : List Ln} (h : rf [] t = true) {q : List Bs} {m m' : Int} (h1 : (q, m) ∈ ents t) (h2 : (q, m') ∈ ents t) : m = m' := by
  obtain ⟨i, hi, e1⟩ := mem_ents.1 h1
  obtain ⟨j, hj, e2⟩ := mem_ents.1 h2
  injection e1 with a1 b1
  injection e2 with a2 b2
  have := pth_uniq h hi hj (a1.symm.trans a2)
  subst this
  rw [b1, b2]
theorem gt_iff {t : List Ln} (h : rf [] t = true) {q : List Bs} {m : Int} : gt t q = some m ↔ (q, m) ∈ ents t := by
  unfold gt
  constructor
  · intro hg
    cases hf : (ents t).find? fun e => e.1 == q with
    | none => rw [hf] at hg; cases hg
    | some e =>
      rw [hf] at hg
      have h1 := List.find?_some hf
      have h2 := List.mem_of_find?_eq_some hf
      obtain ⟨a, b⟩ := e
      simp at h1 hg
      subst h1; subst hg
      exact h2
  · intro hm
    cases hf : (ents t).find? fun e => e.1 == q with
    | none =>
      rw [List.find?_eq_none] at hf
      have := hf _ hm
      simp at this
    | some e =>
      have h1 := List.find?_some hf
      have h2 := List.mem_of_find?_eq_some hf
      obtain ⟨a, b⟩ := e
      simp at h1
      subst h1
      simp [ents_uniq h h2 hm]
theorem gt_none {t : List Ln} {q : List Bs} : gt t q = none ↔ ∀ i, i < t.length → pth t i ≠ q := by
  unfold gt
  rw [Option.map_eq_none_iff, List.find?_eq_none]
  constructor
  · intro h i hi e
    have := h _ (mem_ents.2 ⟨i, hi, rfl⟩)
    simp [e] at this
  · intro h e he
    obtain ⟨i, hi, rfl⟩ := mem_ents.1 he
    simpa using h i hi
theorem gt_at {t : List Ln} (h : rf [] t = true) {i : Nat} (hi : i < t.length) : gt t (pth t i) = some (t[i]).2.2 := (gt_iff h).2 (mem_ents.2 ⟨i, hi, rfl⟩)
theorem gt_some {t : List Ln} (h : rf [] t = true) {q : List Bs} {m : Int} (hg : gt t q = some m) : ∃ (i : Nat) (hi : i < t.length), pth t i = q ∧ (t[i]).2.2 = m := by
  obtain ⟨i, hi, e⟩ := mem_ents.1 ((gt_iff h).1 hg)
  injection e with e1 e2
  exact ⟨i, hi, e1.symm, e2.symm⟩
theorem gt_ext {t u : List Ln} (ht : rf [] t = true) (hu : rf [] u = true) (h : ∀ q, gt t q = gt u q) : t = u := by
  rw [← ents_ln ht, ← ents_ln hu]
  congr 1
  refine sorted_ext (ents_ok ht).up (ents_ok hu).up fun e => ?_
  obtain ⟨q, m⟩ := e
  rw [← gt_iff ht, ← gt_iff hu, h]
theorem gt_nil (t : List Ln) : gt t [] = none := gt_none.2 fun i hi => pth_ne_nil hi
theorem gt_empty (q : List Bs) : gt [] q = none := rfl
/-- What is ahead of a path is there. -/
theorem gt_pre {t : List Ln} (h : rf [] t = true) {u s : List Bs} (hu : u ≠ []) (hg : gt t (u ++ s) ≠ none) : gt t u ≠ none := by
  cases hm : gt t (u ++ s) with
  | none => exact absurd hm hg
  | some m =>
    obtain ⟨i, hi, e, _⟩ := gt_some h hm
    obtain ⟨j, hj, e2⟩ := pth_pre h _ rfl hi e hu
    intro hn
    exact gt_none.1 hn j (by omega) e2
theorem gt_sound {t : List Ln} (h : rf [] t = true) {q : List Bs} {m : Int} (hg : gt t q = some m) : q ≠ [] ∧ q.length ≤ 16 ∧ (q.getLastD []).length ≤ 40 ∧ 0 ≤ m ∧ m ≤ 3 := (ents_ok h).one _ ((gt_iff h).1 hg)

/-! ### A line more -/

/-- Where a path stands among the lines. -/
def plc (t : List Ln) (q : List Bs) : Nat := (pths [] t).findIdx fun p => !lx p q
theorem plc_le (t : List Ln) (q : List Bs) : plc t q ≤ t.length := by
  have := List.findIdx_le_length (p := fun p => !lx p q) (xs := pths [] t)
  unfold plc; simpa using this
theorem plc_before {t : List Ln} {q : List Bs} {i : Nat} (hi : i < plc t q) : lx (pth t i) q = true := by
  have := List.not_of_lt_findIdx (p := fun p => !lx p q) (xs := pths [] t) hi
  have hl := plc_le t q
  rw [pths_pth] at this
  simpa using this
theorem plc_behind {t : List Ln} (h : rf [] t = true) {q : List Bs} {i : Nat} (hi : plc t q ≤ i) (hl : i < t.length) : lx (pth t i) q = false := by
  have hk : plc t q < t.length := by omega
  have h1 : (pths [] t).findIdx (fun p => !lx p q) < (pths [] t).length := by rw [pths_length]; exact hk
  have h2 := List.findIdx_getElem (w := h1)
  rw [pths_pth] at h2
  have h2' : lx (pth t (plc t q)) q = false := by simpa [plc] using h2
  cases h3 : lx (pth t i) q with
  | false => rfl
  | true =>
    rcases Nat.lt_or_eq_of_le hi with h4 | h4
    · rw [lx_trans (pth_lt h h4 hl) h3] at h2'; cases h2'
    · rw [h4] at h2'; rw [h3] at h2'; cases h2'
theorem plc_eq {t : List Ln} (h : rf [] t = true) {q : List Bs} {k : Nat} (hk : k ≤ t.length) (h1 : ∀ i, i < k → lx (pth t i) q = true) (h2 : k < t.length → lx (pth t k) q = false) : plc t q = k := by
  rcases Nat.lt_trichotomy (plc t q) k with h3 | h3 | h3
  · have := plc_behind h (Nat.le_refl _) (show plc t q < t.length by omega)
    rw [h1 _ h3] at this; cases this
  · exact h3
  · have := plc_before h3
    rw [h2 (by have := plc_le t q; omega)] at this; cases this

def insT (t : List Ln) (q : List Bs) (m : Int) : List Ln := t.take (plc t q) ++ ln (q, m) :: t.drop (plc t q)
theorem insT_length (t : List Ln) (q : List Bs) (m : Int) : (insT t q m).length = t.length + 1 := by
  have := plc_le t q
  unfold insT; simp; omega

theorem mem_take_drop {α : Type} {l : List α} {k : Nat} {x : α} : (x ∈ l.take k ∨ x ∈ l.drop k) ↔ x ∈ l := by
  rw [← List.mem_append, List.take_append_drop]
theorem take_plc {t : List Ln} {q : List Bs} {e : List Bs × Int} (he : e ∈ (ents t).take (plc t q)) : lx e.1 q = true := by
  obtain ⟨i, hi, rfl⟩ := List.getElem_of_mem he
  have hi' : i < plc t q := by simp at hi; omega
  have := plc_le t q
  rw [List.getElem_take, ents_get t (by omega)]
  exact plc_before hi'
theorem drop_plc {t : List Ln} (h : rf [] t = true) {q : List Bs} (hq : gt t q = none) {e : List Bs × Int} (he : e ∈ (ents t).drop (plc t q)) : lx q e.1 = true := by
  obtain ⟨i, hi, rfl⟩ := List.getElem_of_mem he
  have hi' : plc t q + i < t.length := by simp at hi; omega
  rw [List.getElem_drop, ents_get t hi']
  exact lx_of_not (plc_behind h (by omega) hi') (gt_none.1 hq _ hi')

theorem insT_tree0 {t : List Ln} (h : rf [] t = true) {q : List Bs} {m : Int} (hq : gt t q = none) (h0 : q ≠ []) (h16 : q.length ≤ 16) (h40 : (q.getLastD []).length ≤ 40) (hm0 : 0 ≤ m) (hm3 : m ≤ 3) (hp : q.dropLast = [] ∨ gt t q.dropLast ≠ none) :
    rf [] (insT t q m) = true ∧ (∀ p, gt (insT t q m) p = if p = q then some m else gt t p) ∧ ents (insT t q m) = (ents t).take (plc t q) ++ (q, m) :: (ents t).drop (plc t q) := by
  have ho := ents_ok h
  obtain ⟨es, hes⟩ : ∃ es, (ents t).take (plc t q) ++ (q, m) :: (ents t).drop (plc t q) = es := ⟨_, rfl⟩
  have hmem : ∀ e, e ∈ es ↔ e = (q, m) ∨ e ∈ ents t := fun e => by
    rw [← hes, List.mem_append, List.mem_cons, ← mem_take_drop (l := ents t) (k := plc t q)]
    constructor
    · rintro (h | h | h)
      · exact .inr (.inl h)
      · exact .inl h
      · exact .inr (.inr h)
    · rintro (h | h | h)
      · exact .inr (.inl h)
      · exact .inl h
      · exact .inr (.inr h)
  have hup : es.Pairwise fun a b => lx a.1 b.1 = true := by
    rw [← hes]
    have hu := ho.up
    rw [← List.take_append_drop (plc t q) (ents t), List.pairwise_append] at hu
    rw [List.pairwise_append]
    refine ⟨hu.1, List.pairwise_cons.2 ⟨fun e he => drop_plc h hq he, hu.2.1⟩, fun a ha b hb => ?_⟩
    rcases List.mem_cons.1 hb with rfl | hb
    · exact take_plc ha
    · exact hu.2.2 a ha b hb
  have hok : Ok es := by
    refine ⟨hup, fun e he => ?_, fun e he => ?_⟩
    · rcases (hmem e).1 he with rfl | he
      · exact ⟨h0, h16, h40, hm0, hm3⟩
      · exact ho.one e he
    · rcases (hmem e).1 he with rfl | he
      · rcases hp with hp | hp
        · exact .inl hp
        · cases hg : gt t q.dropLast with
          | none => exact absurd hg hp
          | some m' => exact .inr ⟨m', (hmem _).2 (.inr ((gt_iff h).1 hg))⟩
      · rcases ho.par e he with h1 | ⟨m', h1⟩
        · exact .inl h1
        · exact .inr ⟨m', (hmem _).2 (.inr h1)⟩
  have hmap : es.map ln = insT t q m := by
    rw [← hes]
    unfold insT
    rw [List.map_append, List.map_cons, List.map_take, List.map_drop, ents_ln h]
  obtain ⟨h1, h2⟩ := ok_tree hok
  rw [hmap] at h1 h2
  refine ⟨h1, fun p => ?_, by rw [h2, hes]⟩
  apply Option.ext
  intro x
  rw [gt_iff h1, h2, hmem]
  by_cases hpq : p = q
  · subst hpq
    rw [if_pos rfl]
    constructor
    · rintro (h3 | h3)
      · injection h3 with _ h4; rw [h4]
      · rw [(gt_iff h).2 h3] at hq; cases hq
    · intro h3; injection h3 with h3; rw [h3]; exact .inl rfl
  · rw [if_neg hpq, gt_iff h]
    constructor
    · rintro (h3 | h3)
      · injection h3 with h4 _; exact absurd h4 hpq
      · exact h3
    · exact .inr

theorem insT_tree {t : List Ln} (h : rf [] t = true) {q : List Bs} {m : Int} (hq : gt t q = none) (h0 : q ≠ []) (h16 : q.length ≤ 16) (h40 : (q.getLastD []).length ≤ 40) (hm0 : 0 ≤ m) (hm3 : m ≤ 3) (hp : q.dropLast = [] ∨ gt t q.dropLast ≠ none) :
    rf [] (insT t q m) = true ∧ ∀ p, gt (insT t q m) p = if p = q then some m else gt t p := ⟨(insT_tree0 h hq h0 h16 h40 hm0 hm3 hp).1, (insT_tree0 h hq h0 h16 h40 hm0 hm3 hp).2.1⟩
theorem insT_pth {t : List Ln} (h : rf [] t = true) {q : List Bs} {m : Int} (hq : gt t q = none) (h0 : q ≠ []) (h16 : q.length ≤ 16) (h40 : (q.getLastD []).length ≤ 40) (hm0 : 0 ≤ m) (hm3 : m ≤ 3) (hp : q.dropLast = [] ∨ gt t q.dropLast ≠ none) :
    pth (insT t q m) (plc t q) = q := by
  have he := (insT_tree0 h hq h0 h16 h40 hm0 hm3 hp).2.2
  have hle := plc_le t q
  have hl : plc t q < (insT t q m).length := by rw [insT_length]; omega
  have h1 := ents_get (insT t q m) hl
  have h2 : (ents (insT t q m))[plc t q]? = some (q, m) := by
    have hlt : ((ents t).take (plc t q)).length = plc t q := by rw [List.length_take, ents_length]; omega
    rw [he, List.getElem?_append_right (by omega), hlt, Nat.sub_self]; rfl
  rw [List.getElem?_eq_getElem (by simpa using hl), h1] at h2
  injection h2 with h2
  injection h2 with h2 _

/-! ### A part less -/

def cutT (t : List Ln) (i : Nat) : List Ln := t.take i ++ t.drop (endN t i)
theorem cut_tree {t : List Ln} (h : rf [] t = true) {i : Nat} (hi : i < t.length) : rf [] (cutT t i) = true ∧ ∀ p, gt (cutT t i) p = if pth t i <+: p then none else gt t p := by
  have ho := ents_ok h
  have hle := endN_le t hi
  have hgt := endN_gt t i
  obtain ⟨es, hes⟩ : ∃ es, (ents t).take i ++ (ents t).drop (endN t i) = es := ⟨_, rfl⟩
  have hmem : ∀ e, e ∈ es ↔ e ∈ ents t ∧ ¬ pth t i <+: e.1 := fun e => by
    rw [← hes, List.mem_append]
    constructor
    · rintro (h1 | h1)
      · obtain ⟨j, hj, rfl⟩ := List.getElem_of_mem h1
        have hj' : j < i := by simp at hj; omega
        refine ⟨List.mem_of_mem_take h1, ?_⟩
        rw [List.getElem_take, ents_get t (by omega)]
        simp only
        rw [part_pre h hi (by omega)]; omega
      · obtain ⟨j, hj, rfl⟩ := List.getElem_of_mem h1
        have hj' : endN t i + j < t.length := by simp at hj; omega
        refine ⟨List.mem_of_mem_drop h1, ?_⟩
        rw [List.getElem_drop, ents_get t hj']
        simp only
        rw [part_pre h hi hj']; omega
    · rintro ⟨h1, h2⟩
      obtain ⟨j, hj, rfl⟩ := mem_ents.1 h1
      simp only at h2
      rw [part_pre h hi hj] at h2
      rcases Nat.lt_or_ge j i with h3 | h3
      · left
        rw [← ents_get t hj]
        exact List.mem_take_iff_getElem.2 ⟨j, by simp; omega, rfl⟩
      · right
        rw [← ents_get t hj]
        refine List.mem_drop_iff_getElem.2 ⟨j - endN t i, by simp; omega, ?_⟩
        congr 1; omega
  have hok : Ok es := by
    refine ⟨?_, fun e he => ho.one e ((hmem e).1 he).1, fun e he => ?_⟩
    · rw [← hes]
      have : ((ents t).take i ++ (ents t).drop (endN t i)).Sublist (ents t) := by
        conv => rhs; rw [← List.take_append_drop i (ents t)]
        refine List.Sublist.append_left ?_ _
        rw [show endN t i = i + (endN t i - i) by omega, ← List.drop_drop]
        exact List.drop_sublist _ _
      exact ho.up.sublist this
    · obtain ⟨h1, h2⟩ := (hmem e).1 he
      rcases ho.par e h1 with h3 | ⟨m, h3⟩
      · exact .inl h3
      · exact .inr ⟨m, (hmem _).2 ⟨h3, fun h4 => h2 (h4.trans (List.dropLast_prefix _))⟩⟩
  have hmap : es.map ln = cutT t i := by
    rw [← hes]
    unfold cutT
    rw [List.map_append, List.map_take, List.map_drop, ents_ln h]
  obtain ⟨h1, h2⟩ := ok_tree hok
  rw [hmap] at h1 h2
  refine ⟨h1, fun p => ?_⟩
  apply Option.ext
  intro x
  rw [gt_iff h1, h2, hmem]
  simp only
  split
  · rename_i hp
    constructor
    · exact fun h3 => absurd hp h3.2
    · intro h3; cases h3
  · rename_i hp
    rw [gt_iff h]
    exact ⟨fun h3 => h3.1, fun h3 => ⟨h3, hp⟩⟩

/-! ### Another mark -/

theorem mark_tree {t : List Ln} (h : rf [] t = true) {i : Nat} (hi : i < t.length) {m : Int} (h0 : 0 ≤ m) (h3 : m ≤ 3) :
    rf [] (t.set i ((t[i]).1, (t[i]).2.1, m)) = true ∧ ∀ p, gt (t.set i ((t[i]).1, (t[i]).2.1, m)) p = if p = pth t i then some m else gt t p := by
  have ho := ents_ok h
  obtain ⟨es, hes⟩ : ∃ es, (ents t).set i (pth t i, m) = es := ⟨_, rfl⟩
  have hel : es.length = t.length := by rw [← hes]; simp
  have hget : ∀ j (hj : j < t.length), es[j]'(by omega) = (pth t j, if j = i then m else (t[j]).2.2) := fun j hj => by
    subst hes
    rw [List.getElem_set]
    split
    · rename_i e; subst e; simp
    · rename_i e; rw [ents_get t hj, if_neg (fun e' => e e'.symm)]
  have hmem : ∀ p x, (p, x) ∈ es ↔ if p = pth t i then x = m else (p, x) ∈ ents t := fun p x => by
    constructor
    · intro h1
      obtain ⟨j, hj, e⟩ := List.getElem_of_mem h1
      rw [hget j (by omega)] at e
      injection e with e1 e2
      by_cases hji : j = i
      · subst hji
        rw [if_pos rfl] at e2
        rw [if_pos e1.symm, e2]
      · rw [if_neg hji] at e2
        rw [if_neg (fun h2 => hji (pth_uniq h (by omega) hi (e1.trans h2)))]
        exact mem_ents.2 ⟨j, by omega, by rw [e1, e2]⟩
    · intro h1
      by_cases hp : p = pth t i
      · rw [if_pos hp] at h1
        rw [hp, h1]
        have := hget i hi
        rw [if_pos rfl] at this
        rw [← this]; exact List.getElem_mem _
      · rw [if_neg hp] at h1
        obtain ⟨j, hj, e⟩ := mem_ents.1 h1
        have := hget j hj
        rw [if_neg (fun h2 => hp (by injection e with e1 _; rw [e1, h2]))] at this
        rw [e, ← this]; exact List.getElem_mem _
  have hok : Ok es := by
    refine ⟨?_, fun e he => ?_, fun e he => ?_⟩
    · rw [List.pairwise_iff_getElem]
      intro a b ha hb hab
      rw [hget a (by omega), hget b (by omega)]
      exact pth_lt h hab (by omega)
    · obtain ⟨p, x⟩ := e
      have h1 := (hmem p x).1 he
      by_cases hp : p = pth t i
      · rw [if_pos hp] at h1
        subst h1; subst hp
        obtain ⟨k1, k2, k3, _⟩ := ho.one _ (mem_ents.2 ⟨i, hi, rfl⟩)
        exact ⟨k1, k2, k3, h0, h3⟩
      · rw [if_neg hp] at h1
        exact ho.one _ h1
    · obtain ⟨j, hj, rfl⟩ := List.getElem_of_mem he
      rw [hget j (by omega)]
      simp only
      rcases ho.par _ (mem_ents.2 ⟨j, by omega, rfl⟩) with h1 | ⟨m', h1⟩
      · exact .inl h1
      · simp only at h1
        right
        by_cases hp : (pth t j).dropLast = pth t i
        · exact ⟨m, (hmem _ _).2 (by rw [if_pos hp])⟩
        · exact ⟨m', (hmem _ _).2 (by rw [if_neg hp]; exact h1)⟩
  have hmap : es.map ln = t.set i ((t[i]).1, (t[i]).2.1, m) := by
    apply List.ext_getElem
    · simp [hel]
    · intro j h1 h2
      have hj : j < t.length := by simpa using h2
      rw [List.getElem_map, hget j hj, List.getElem_set]
      have hl := ln_get h hj
      split
      · rename_i e
        subst e
        rw [if_pos rfl]
        unfold ln at hl ⊢
        have e1 := congrArg (fun l : Ln => l.1) hl
        have e2 := congrArg (fun l : Ln => l.2.1) hl
        simp only at e1 e2 ⊢
        rw [e1, e2]
      · rename_i e
        rw [if_neg (fun e' => e e'.symm), hl]
  obtain ⟨h1, h2⟩ := ok_tree hok
  rw [hmap] at h1 h2
  refine ⟨h1, fun p => ?_⟩
  apply Option.ext
  intro x
  rw [gt_iff h1, h2, hmem]
  split
  · rw [Option.some.injEq]; exact ⟨fun h => h.symm, fun h => h.symm⟩
  · rw [gt_iff h]

end Go.Proofs.Ytmohgkoomnihfaa.Vc
