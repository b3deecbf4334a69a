import Derived.Test.YtmohgkoomnihfaaPm
import Derived.Test.YtmohgkoomnihfaaEh
/-
  A TEXT AS A TREE, TOKEN BY TOKEN: what both readers do with tokens; plain lists. No condition.
-/
set_option linter.unusedVariables false
set_option linter.unusedSimpArgs false
namespace Go.Proofs.Ytmohgkoomnihfaa.Vc

/-! ### The reader -/

def dupB (m b : Int) : Bool := (b == 1 && decide (m % 2 = 1)) || (b == 2 && decide (1 < m))
/-- Marks ahead: their bits, what is left, and whether none stands twice. -/
def mrkS (m : Int) : List Tok → Int × List Tok × Bool
  | [] => (m, [], true)
  | x :: r => if x.1 = 5 then (if dupB m x.2.2.2 = true then (m, x :: r, false) else mrkS (m + x.2.2.2) r) else (m, x :: r, true)
def atS (L : Int) : List Tok → Int
  | [] => L
  | x :: _ => x.2.1
abbrev PR := Except (Int × Int) (List Ln × List Bs × List Tok)
/-- A Name, and what is behind it. -/
def lineS (L : Int) (t : List Ln) (p : List Bs) (m : Int) : List Tok → PR
  | [] => .error (L, 2)
  | y :: r =>
    if y.1 = 1 then
      if 16 ≤ p.length then .error (y.2.1, 6) else
      if gt t (p ++ [y.2.2.1]) ≠ none then .error (y.2.1, 4) else
      if 200 ≤ t.length then .error (y.2.1, 5) else
      match r with
      | [] => .error (L, 2)
      | z :: r' => if z.1 = 2 then .ok (insT t (p ++ [y.2.2.1]) m, p ++ [y.2.2.1], r') else if z.1 = 4 then .ok (insT t (p ++ [y.2.2.1]) m, p, r') else .error (z.2.1, 2)
    else .error (y.2.1, 2)
/-- One statement, or an end. -/
def stS (L : Int) (t : List Ln) (p : List Bs) : List Tok → PR
  | [] => .error (L, 2)
  | x :: r => if x.1 = 3 then (if p = [] then .error (x.2.1, 2) else .ok (t, p.dropLast, r))
    else if (mrkS 0 (x :: r)).2.2 = true then lineS L t p (mrkS 0 (x :: r)).1 (mrkS 0 (x :: r)).2.1 else .error (atS L (mrkS 0 (x :: r)).2.1, 2)
def runP (L : Int) : Nat → List Ln → List Bs → List Tok → Except (Int × Int) (List Ln)
  | 0, _, _, _ => .error (L, 2)
  | _ + 1, t, p, [] => if p = [] then .ok t else .error (L, 2)
  | f + 1, t, p, x :: r => match stS L t p (x :: r) with
    | .error e => .error e
    | .ok q => runP L f q.1 q.2.1 q.2.2
def runA (L : Int) (t : List Ln) (p : List Bs) (l : List Tok) : Except (Int × Int) (List Ln) := runP L (l.length + 1) t p l

theorem mrkS_cons (m : Int) (x : Tok) (r : List Tok) : mrkS m (x :: r) = if x.1 = 5 then (if dupB m x.2.2.2 = true then (m, x :: r, false) else mrkS (m + x.2.2.2) r) else (m, x :: r, true) := rfl
theorem lineS_cons (L : Int) (t : List Ln) (p : List Bs) (m : Int) (y : Tok) (r : List Tok) : lineS L t p m (y :: r) =
    if y.1 = 1 then
      if 16 ≤ p.length then .error (y.2.1, 6) else
      if gt t (p ++ [y.2.2.1]) ≠ none then .error (y.2.1, 4) else
      if 200 ≤ t.length then .error (y.2.1, 5) else
      match r with
      | [] => .error (L, 2)
      | z :: r' => if z.1 = 2 then .ok (insT t (p ++ [y.2.2.1]) m, p ++ [y.2.2.1], r') else if z.1 = 4 then .ok (insT t (p ++ [y.2.2.1]) m, p, r') else .error (z.2.1, 2)
    else .error (y.2.1, 2) := rfl
theorem stS_cons (L : Int) (t : List Ln) (p : List Bs) (x : Tok) (r : List Tok) : stS L t p (x :: r) =
    if x.1 = 3 then (if p = [] then .error (x.2.1, 2) else .ok (t, p.dropLast, r))
    else if (mrkS 0 (x :: r)).2.2 = true then lineS L t p (mrkS 0 (x :: r)).1 (mrkS 0 (x :: r)).2.1 else .error (atS L (mrkS 0 (x :: r)).2.1, 2) := rfl
theorem runP_cons (L : Int) (f : Nat) (t : List Ln) (p : List Bs) (x : Tok) (r : List Tok) : runP L (f + 1) t p (x :: r) = match stS L t p (x :: r) with
    | .error e => .error e
    | .ok q => runP L f q.1 q.2.1 q.2.2 := rfl
theorem runP_nil (L : Int) (f : Nat) (t : List Ln) (p : List Bs) : runP L (f + 1) t p [] = if p = [] then .ok t else .error (L, 2) := rfl

theorem mrkS_split : ∀ (l : List Tok) (m : Int), (mrkS m l).2.2 = true → ∃ ms, l = ms ++ (mrkS m l).2.1 ∧ (∀ x ∈ ms, x.1 = 5) ∧ mrkS m ms = ((mrkS m l).1, [], true)
  | [], m, _ => ⟨[], rfl, (by simp), rfl⟩
  | x :: r, m, h => by
    rw [mrkS_cons] at h ⊢
    by_cases h5 : x.1 = 5
    · rw [if_pos h5] at h ⊢
      by_cases hd : dupB m x.2.2.2 = true
      · rw [if_pos hd] at h; cases h
      · rw [if_neg hd] at h ⊢
        obtain ⟨ms, h1, h2, h3⟩ := mrkS_split r _ h
        refine ⟨x :: ms, by rw [List.cons_append, ← h1], fun y hy => ?_, ?_⟩
        · rcases List.mem_cons.1 hy with rfl | hy
          · exact h5
          · exact h2 y hy
        · rw [mrkS_cons]
          rw [if_pos h5, if_neg hd, h3]
    · rw [if_neg h5]
      exact ⟨[], rfl, (by simp), rfl⟩
theorem mrkS_len : ∀ (l : List Tok) (m : Int), (mrkS m l).2.1 <:+ l
  | [], m => List.suffix_refl _
  | x :: r, m => by
    rw [mrkS_cons]
    split
    · split
      · exact List.suffix_refl _
      · exact (mrkS_len r _).trans (List.suffix_cons _ _)
    · exact List.suffix_refl _
/-- Marks, and what is behind them. -/
theorem mrkS_app : ∀ (ms : List Tok) (m m' : Int) (y : Tok) (r : List Tok), mrkS m ms = (m', [], true) → (∀ x ∈ ms, x.1 = 5) → y.1 ≠ 5 → mrkS m (ms ++ y :: r) = (m', y :: r, true)
  | [], m, m', y, r, h, _, hy => by
    simp only [mrkS, Prod.mk.injEq] at h
    simp only [List.nil_append, mrkS, if_neg hy, h.1]
  | x :: ms, m, m', y, r, h, hx, hy => by
    have h5 := hx x List.mem_cons_self
    rw [mrkS_cons] at h
    rw [if_pos h5] at h
    rw [List.cons_append]
    rw [mrkS_cons]
    rw [if_pos h5]
    by_cases hd : dupB m x.2.2.2 = true
    · rw [if_pos hd] at h; simp at h
    · rw [if_neg hd] at h ⊢
      exact mrkS_app ms _ m' y r h (fun z hz => hx z (List.mem_cons_of_mem _ hz)) hy

/-- A step that can go on. -/
theorem stS_ok {L : Int} {t t' : List Ln} {p p' : List Bs} {l l' : List Tok} (h : stS L t p l = .ok (t', p', l')) :
    (∃ x, l = x :: l' ∧ x.1 = 3 ∧ p ≠ [] ∧ t' = t ∧ p' = p.dropLast) ∨
    (∃ ms y z m, l = ms ++ y :: z :: l' ∧ (∀ x ∈ ms, x.1 = 5) ∧ y.1 = 1 ∧ mrkS 0 ms = (m, [], true) ∧ p.length < 16 ∧ gt t (p ++ [y.2.2.1]) = none ∧ t.length < 200 ∧ t' = insT t (p ++ [y.2.2.1]) m ∧
      ((z.1 = 2 ∧ p' = p ++ [y.2.2.1]) ∨ (z.1 = 4 ∧ p' = p))) := by
  cases l with
  | nil => cases h
  | cons x r =>
    rw [stS_cons] at h
    by_cases h3 : x.1 = 3
    · rw [if_pos h3] at h
      by_cases hp : p = []
      · rw [if_pos hp] at h; cases h
      · rw [if_neg hp] at h
        injection h with h
        injection h with h1 h2
        injection h2 with h2 h4
        subst h4
        exact .inl ⟨x, rfl, h3, hp, h1.symm, h2.symm⟩
    · rw [if_neg h3] at h
      by_cases hm : (mrkS 0 (x :: r)).2.2 = true
      · rw [if_pos hm] at h
        obtain ⟨ms, e1, e2, e3⟩ := mrkS_split (x :: r) 0 hm
        revert e1 e3 h
        generalize (mrkS 0 (x :: r)).1 = m
        generalize (mrkS 0 (x :: r)).2.1 = q
        intro h e1 e3
        cases q with
        | nil => cases h
        | cons y q =>
          rw [lineS_cons] at h
          by_cases h1 : y.1 = 1
          · rw [if_pos h1] at h
            by_cases h16 : 16 ≤ p.length
            · rw [if_pos h16] at h; cases h
            rw [if_neg h16] at h
            by_cases hg : gt t (p ++ [y.2.2.1]) = none
            · rw [if_neg (by simp [hg])] at h
              by_cases hl : 200 ≤ t.length
              · rw [if_pos hl] at h; cases h
              rw [if_neg hl] at h
              cases q with
              | nil => cases h
              | cons z q =>
                dsimp only at h
                by_cases hz : z.1 = 2
                · rw [if_pos hz] at h
                  injection h with h
                  injection h with g1 g2
                  injection g2 with g2 g3
                  subst g3
                  exact .inr ⟨ms, y, z, m, e1, e2, h1, e3, by omega, hg, by omega, g1.symm, .inl ⟨hz, g2.symm⟩⟩
                · rw [if_neg hz] at h
                  by_cases hz4 : z.1 = 4
                  · rw [if_pos hz4] at h
                    injection h with h
                    injection h with g1 g2
                    injection g2 with g2 g3
                    subst g3
                    exact .inr ⟨ms, y, z, m, e1, e2, h1, e3, by omega, hg, by omega, g1.symm, .inr ⟨hz4, g2.symm⟩⟩
                  · rw [if_neg hz4] at h; cases h
            · rw [if_pos hg] at h; cases h
          · rw [if_neg h1] at h; cases h
      · rw [if_neg hm] at h; cases h
theorem stS_lt {L : Int} {t : List Ln} {p : List Bs} {l : List Tok} {q : List Ln × List Bs × List Tok} (h : stS L t p l = .ok q) : q.2.2.length < l.length := by
  obtain ⟨t', p', l'⟩ := q
  rcases stS_ok h with ⟨x, rfl, _⟩ | ⟨ms, y, z, m, rfl, _⟩
  · simp
  · simp; omega

theorem runP_more (L : Int) : ∀ (f g : Nat) (t : List Ln) (p : List Bs) (l : List Tok), l.length < f → l.length < g → runP L f t p l = runP L g t p l
  | 0, _, _, _, _, h, _ => by omega
  | _, 0, _, _, _, _, h => by omega
  | f + 1, g + 1, t, p, [], _, _ => rfl
  | f + 1, g + 1, t, p, x :: r, hf, hg => by
    rw [runP_cons, runP_cons]
    cases hs : stS L t p (x :: r) with
    | error e => rfl
    | ok q =>
      have := stS_lt hs
      exact runP_more L f g _ _ _ (by omega) (by omega)
theorem runA_nil (L : Int) (t : List Ln) (p : List Bs) : runA L t p [] = if p = [] then .ok t else .error (L, 2) := rfl
theorem runA_step {L : Int} {t : List Ln} {p : List Bs} {x : Tok} {r : List Tok} {q : List Ln × List Bs × List Tok} (h : stS L t p (x :: r) = .ok q) : runA L t p (x :: r) = runA L q.1 q.2.1 q.2.2 := by
  have hl := stS_lt h
  unfold runA
  rw [runP_cons, h]
  exact runP_more L _ _ _ _ _ hl (by omega)
theorem runA_err {L : Int} {t : List Ln} {p : List Bs} {x : Tok} {r : List Tok} {e : Int × Int} (h : stS L t p (x :: r) = .error e) : runA L t p (x :: r) = .error e := by
  unfold runA
  rw [runP_cons, h]
theorem runA_ok {L : Int} {t : List Ln} {p : List Bs} {l : List Tok} {u : List Ln} (h : runA L t p l = .ok u) :
    (l = [] ∧ p = [] ∧ u = t) ∨ ∃ q, stS L t p l = .ok q ∧ q.2.2.length < l.length ∧ runA L q.1 q.2.1 q.2.2 = .ok u := by
  cases l with
  | nil =>
    left
    rw [runA_nil] at h
    split at h
    · rename_i hp; injection h with h; exact ⟨rfl, hp, h.symm⟩
    · cases h
  | cons x r =>
    right
    cases hs : stS L t p (x :: r) with
    | error e => rw [runA_err hs] at h; cases h
    | ok q => rw [runA_step hs] at h; exact ⟨q, rfl, stS_lt hs, h⟩

/-! ### Places do not matter -/

def zt (x : Tok) : Tok := (x.1, 0, x.2.2)
def zE {α : Type} (e : Except (Int × Int) α) : Except (Int × Int) α := match e with
  | .ok a => .ok a
  | .error e => .error (0, e.2)
def zR (e : PR) : PR := match e with
  | .ok q => .ok (q.1, q.2.1, q.2.2.map zt)
  | .error e => .error (0, e.2)
theorem mrkS_zt : ∀ (l : List Tok) (m : Int), mrkS m (l.map zt) = ((mrkS m l).1, (mrkS m l).2.1.map zt, (mrkS m l).2.2)
  | [], m => rfl
  | x :: r, m => by
    rw [List.map_cons]
    rw [mrkS_cons, mrkS_cons]
    by_cases h5 : x.1 = 5
    · rw [if_pos h5, if_pos (show (zt x).1 = 5 from h5)]
      by_cases hd : dupB m x.2.2.2 = true
      · rw [if_pos hd, if_pos (show dupB m (zt x).2.2.2 = true from hd)]; rfl
      · rw [if_neg hd, if_neg (show ¬dupB m (zt x).2.2.2 = true from hd)]
        exact mrkS_zt r _
    · rw [if_neg h5, if_neg (show ¬(zt x).1 = 5 from h5)]; rfl
theorem lineS_zt (L : Int) (t : List Ln) (p : List Bs) (m : Int) (l : List Tok) : lineS 0 t p m (l.map zt) = zR (lineS L t p m l) := by
  cases l with
  | nil => rfl
  | cons y r =>
    rw [List.map_cons, lineS_cons, lineS_cons]
    by_cases h1 : y.1 = 1
    · rw [if_pos h1, if_pos (show (zt y).1 = 1 from h1)]
      show (if 16 ≤ p.length then _ else if gt t (p ++ [y.2.2.1]) ≠ none then _ else _) = _
      by_cases h16 : 16 ≤ p.length
      · rw [if_pos h16, if_pos h16]; rfl
      rw [if_neg h16, if_neg h16]
      by_cases hg : gt t (p ++ [y.2.2.1]) ≠ none
      · rw [if_pos hg, if_pos hg]; rfl
      rw [if_neg hg, if_neg hg]
      by_cases hl : 200 ≤ t.length
      · rw [if_pos hl, if_pos hl]; rfl
      rw [if_neg hl, if_neg hl]
      cases r with
      | nil => rfl
      | cons z r =>
        rw [List.map_cons]
        dsimp only
        by_cases hz : z.1 = 2
        · rw [if_pos hz, if_pos (show (zt z).1 = 2 from hz)]; rfl
        · rw [if_neg hz, if_neg (show ¬(zt z).1 = 2 from hz)]
          by_cases hz4 : z.1 = 4
          · rw [if_pos hz4, if_pos (show (zt z).1 = 4 from hz4)]; rfl
          · rw [if_neg hz4, if_neg (show ¬(zt z).1 = 4 from hz4)]; rfl
    · rw [if_neg h1, if_neg (show ¬(zt y).1 = 1 from h1)]; rfl
theorem stS_zt (L : Int) (t : List Ln) (p : List Bs) (l : List Tok) : stS 0 t p (l.map zt) = zR (stS L t p l) := by
  cases l with
  | nil => rfl
  | cons x r =>
    have hm := mrkS_zt (x :: r) 0
    rw [List.map_cons] at hm ⊢
    rw [stS_cons, stS_cons]
    by_cases h3 : x.1 = 3
    · rw [if_pos h3, if_pos (show (zt x).1 = 3 from h3)]
      by_cases hp : p = []
      · rw [if_pos hp, if_pos hp]; rfl
      · rw [if_neg hp, if_neg hp]; rfl
    · rw [if_neg h3, if_neg (show ¬(zt x).1 = 3 from h3), hm]
      dsimp only
      by_cases hb : (mrkS 0 (x :: r)).2.2 = true
      · rw [if_pos hb, if_pos hb]
        exact lineS_zt L t p _ _
      · rw [if_neg hb, if_neg hb]
        cases (mrkS 0 (x :: r)).2.1 <;> rfl
theorem runP_zt (L : Int) : ∀ (f : Nat) (t : List Ln) (p : List Bs) (l : List Tok), runP 0 f t p (l.map zt) = zE (runP L f t p l)
  | 0, _, _, _ => rfl
  | f + 1, t, p, [] => by
    rw [List.map_nil, runP_nil, runP_nil]
    split <;> rfl
  | f + 1, t, p, x :: r => by
    have hs := stS_zt L t p (x :: r)
    rw [List.map_cons] at hs ⊢
    rw [runP_cons, runP_cons, hs]
    cases stS L t p (x :: r) with
    | error e => rfl
    | ok q => exact runP_zt L f q.1 q.2.1 q.2.2
theorem runA_zt (L : Int) (t : List Ln) (p : List Bs) (l : List Tok) : runA 0 t p (l.map zt) = zE (runA L t p l) := by
  unfold runA
  rw [List.length_map]
  exact runP_zt L _ t p l

/-! ### What is kept -/

def gdK (x : Tok) : Prop := goodK (x.1, 0, x.2.2)
theorem mrkS_bits : ∀ (ms : List Tok) (m m' : Int), (∀ x ∈ ms, gdK x ∧ x.1 = 5) → 0 ≤ m → m ≤ 3 → mrkS m ms = (m', [], true) → 0 ≤ m' ∧ m' ≤ 3
  | [], m, m', _, h0, h3, h => by
    simp only [mrkS, Prod.mk.injEq] at h
    omega
  | x :: ms, m, m', hx, h0, h3, h => by
    obtain ⟨hg, h5⟩ := hx x List.mem_cons_self
    rw [mrkS_cons] at h
    rw [if_pos h5] at h
    by_cases hd : dupB m x.2.2.2 = true
    · rw [if_pos hd] at h; simp at h
    · rw [if_neg hd] at h
      have hb : x.2.2.2 = 1 ∨ x.2.2.2 = 2 := by
        rcases hg with ⟨g, _⟩ | ⟨g, _⟩ | ⟨_, _, g⟩
        · simp only at g; omega
        · simp only at g; omega
        · exact g
      refine mrkS_bits ms _ m' (fun y hy => hx y (List.mem_cons_of_mem _ hy)) ?_ ?_ h
      · omega
      · unfold dupB at hd
        rcases hb with hb | hb <;> rw [hb] at hd ⊢ <;> simp at hd <;> omega
/-- The tree that is read, and the path that is open. -/
structure PInv (t : List Ln) (p : List Bs) : Prop where
  tree : rf [] t = true
  few : t.length ≤ 200
  deep : p.length ≤ 16
  there : p = [] ∨ gt t p ≠ none
theorem PInv.nil : PInv [] [] := ⟨rfl, by simp, by simp, .inl rfl⟩
theorem there_drop {t : List Ln} (h : rf [] t = true) {p : List Bs} (hp : p = [] ∨ gt t p ≠ none) : p.dropLast = [] ∨ gt t p.dropLast ≠ none := by
  by_cases h1 : p.dropLast = []
  · exact .inl h1
  · right
    have hne : p ≠ [] := fun e => by subst e; exact h1 rfl
    have h2 := hp.resolve_left hne
    rw [← List.dropLast_concat_getLast hne] at h2
    exact gt_pre h h1 h2
theorem word_in {x : Tok} (h : gdK x) (h1 : x.1 = 1) : x.2.2.1.length ≤ 40 := by
  rcases h with ⟨_, g, _⟩ | ⟨g, _⟩ | ⟨g, _⟩
  · exact g
  · simp only at g; omega
  · simp only at g; omega
def cntT (k : Int) (l : List Tok) : Nat := (l.filter fun x => x.1 == k).length
theorem cntT_cons (k : Int) (x : Tok) (l : List Tok) : cntT k (x :: l) = (if x.1 = k then 1 else 0) + cntT k l := by
  unfold cntT
  rw [List.filter_cons]
  by_cases h : x.1 = k
  · rw [if_pos (by simpa using h), if_pos h, List.length_cons]; omega
  · rw [if_neg (by simpa using h), if_neg h]; omega
theorem cntT_app (k : Int) (a b : List Tok) : cntT k (a ++ b) = cntT k a + cntT k b := by unfold cntT; rw [List.filter_append, List.length_append]
theorem cntT_none (k : Int) {a : List Tok} (h : ∀ x ∈ a, x.1 ≠ k) : cntT k a = 0 := by
  unfold cntT
  rw [List.filter_eq_nil_iff.2 fun x hx => by simpa using h x hx]; rfl
theorem st_inv {L : Int} {t t' : List Ln} {p p' : List Bs} {l l' : List Tok} (hi : PInv t p) (hg : ∀ x ∈ l, gdK x) (h : stS L t p l = .ok (t', p', l')) :
    PInv t' p' ∧ (∀ x ∈ l', gdK x) ∧ t'.length + cntT 1 l' = t.length + cntT 1 l ∧ p'.length + cntT 2 l' + cntT 3 l = p.length + cntT 2 l + cntT 3 l' ∧ ∃ a z, l = a ++ z :: l' ∧ (z.1 = 2 ∨ z.1 = 3 ∨ z.1 = 4) := by
  rcases stS_ok h with ⟨x, rfl, h3, hp, rfl, rfl⟩ | ⟨ms, y, z, m, rfl, h5, h1, hm, h16, hgt, h200, rfl, hz⟩
  · refine ⟨⟨hi.tree, hi.few, by have := hi.deep; simp; omega, there_drop hi.tree hi.there⟩, fun y hy => hg y (List.mem_cons_of_mem _ hy), ?_, ?_, [], x, rfl, .inr (.inl h3)⟩
    · rw [cntT_cons, if_neg (by omega)]; omega
    · have := List.length_pos_iff.2 hp
      have e2 : cntT 2 (x :: l') = cntT 2 l' := by rw [cntT_cons, if_neg (by omega)]; omega
      have e3 : cntT 3 (x :: l') = cntT 3 l' + 1 := by rw [cntT_cons, if_pos h3]; omega
      rw [e2, e3, List.length_dropLast]; omega
  · have hgy := hg y (by simp)
    obtain ⟨b0, b3⟩ := mrkS_bits ms 0 m (fun x hx => ⟨hg x (by simp [hx]), h5 x hx⟩) (by omega) (by omega) hm
    have hl : (p ++ [y.2.2.1]).getLastD [] = y.2.2.1 := by simp
    obtain ⟨i1, i2⟩ := insT_tree hi.tree (m := m) hgt (by simp) (by simp; omega) (by rw [hl]; exact word_in hgy h1) b0 b3 (by rw [List.dropLast_concat]; exact hi.there)
    have hlen := insT_length t (p ++ [y.2.2.1]) m
    have c1 : ∀ k : Int, k ≠ 5 → cntT k ms = 0 := fun k hk => cntT_none k fun x hx => by rw [h5 x hx]; omega
    refine ⟨⟨i1, by omega, ?_, ?_⟩, fun x hx => hg x (by simp [hx]), ?_, ?_, ms ++ [y], z, by simp, ?_⟩
    · rcases hz with ⟨_, rfl⟩ | ⟨_, rfl⟩
      · simp; omega
      · omega
    · rcases hz with ⟨_, rfl⟩ | ⟨_, rfl⟩
      · right; rw [i2, if_pos rfl]; simp
      · rcases hi.there with h | h
        · exact .inl h
        · right; rw [i2]; split
          · simp
          · exact h
    · rw [cntT_app, c1 1 (by decide), cntT_cons, cntT_cons, if_pos h1, if_neg (by rcases hz with ⟨h, _⟩ | ⟨h, _⟩ <;> omega), hlen]; omega
    · have cz : ∀ k : Int, k ≠ 5 → k ≠ 1 → cntT k (ms ++ y :: z :: l') = (if z.1 = k then 1 else 0) + cntT k l' := fun k hk hk1 => by
        rw [cntT_app, c1 k hk, cntT_cons, cntT_cons, if_neg (show ¬y.1 = k by omega)]; omega
      rw [cz 2 (by decide) (by decide), cz 3 (by decide) (by decide)]
      rcases hz with ⟨h7, rfl⟩ | ⟨h7, rfl⟩
      · rw [if_pos h7, if_neg (show ¬z.1 = 3 by omega), List.length_append, List.length_singleton]; omega
      · rw [if_neg (show ¬z.1 = 2 by omega), if_neg (show ¬z.1 = 3 by omega)]; omega
    · rcases hz with ⟨h, _⟩ | ⟨h, _⟩
      · exact .inl h
      · exact .inr (.inr h)
/-- A text that is read: a tree; as many lines as Names, as many Opens as Closes; and a sign is its last token. -/
theorem run_inv {L : Int} : ∀ (n : Nat) (t : List Ln) (p : List Bs) (l : List Tok) (u : List Ln), l.length ≤ n → PInv t p → (∀ x ∈ l, gdK x) → runA L t p l = .ok u →
    rf [] u = true ∧ u.length ≤ 200 ∧ u.length = t.length + cntT 1 l ∧ p.length + cntT 2 l = cntT 3 l ∧ (l = [] ∨ ∃ a z, l = a ++ [z] ∧ (z.1 = 2 ∨ z.1 = 3 ∨ z.1 = 4)) := by
  intro n
  induction n with
  | zero =>
    intro t p l u hn hi hg h
    have : l = [] := List.eq_nil_of_length_eq_zero (by omega)
    subst this
    rcases runA_ok h with ⟨_, rfl, rfl⟩ | ⟨q, hq, hlt, _⟩
    · exact ⟨hi.tree, hi.few, by simp [cntT], by simp [cntT], .inl rfl⟩
    · simp at hlt
  | succ n ih =>
    intro t p l u hn hi hg h
    rcases runA_ok h with ⟨rfl, rfl, rfl⟩ | ⟨⟨t', p', l'⟩, hq, hlt, h2⟩
    · exact ⟨hi.tree, hi.few, by simp [cntT], by simp [cntT], .inl rfl⟩
    · obtain ⟨i1, i2, i3, i4, a, z, i5, i6⟩ := st_inv hi hg hq
      simp only at hlt h2
      obtain ⟨j1, j2, j3, j4, j5⟩ := ih t' p' l' u (by omega) i1 i2 h2
      refine ⟨j1, j2, by omega, by omega, .inr ?_⟩
      rcases j5 with rfl | ⟨a', z', rfl, hz⟩
      · exact ⟨a, z, i5, i6⟩
      · exact ⟨a ++ z :: a', z', by rw [i5]; simp, hz⟩

end Go.Proofs.Ytmohgkoomnihfaa.Vc

/-
  A TREE'S TOKENS, AND HOW THEY ARE READ: whole, behind those of another tree, cut off; lines that are all open. Plain lists. No condition.
-/
set_option linter.unusedVariables false
set_option linter.unusedSimpArgs false
namespace Go.Proofs.Ytmohgkoomnihfaa.Vc

/-! ### A tree's tokens -/

def zk (k : Int) (w : Bs) (b : Int) : Tok := (k, 0, w, b)
def mksT (m : Int) : List Tok := (if m % 2 = 1 then [zk 5 [] 1] else []) ++ (if 1 < m then [zk 5 [] 2] else [])
/-- The depth of the line ahead; 0: there is none. -/
def hdD : List Ln → Nat
  | [] => 0
  | l :: _ => l.1.toNat
def endT (d h : Nat) : List Tok := if d < h then [zk 2 [] 0] else zk 4 [] 0 :: List.replicate (d - h) (zk 3 [] 0)
def tks : List Ln → List Tok
  | [] => []
  | l :: r => mksT l.2.2 ++ zk 1 l.2.1 0 :: (endT l.1.toNat (hdD r) ++ tks r)

theorem mksT_five (m : Int) : ∀ x ∈ mksT m, x.1 = 5 := by
  intro x hx
  unfold mksT at hx
  rcases List.mem_append.1 hx with h | h
  · split at h
    · rw [List.mem_singleton.1 h]; rfl
    · cases h
  · split at h
    · rw [List.mem_singleton.1 h]; rfl
    · cases h
theorem mksT_bits {m : Int} (h0 : 0 ≤ m) (h3 : m ≤ 3) : mrkS 0 (mksT m) = (m, [], true) := by
  have : m = 0 ∨ m = 1 ∨ m = 2 ∨ m = 3 := by omega
  rcases this with rfl | rfl | rfl | rfl <;> rfl
theorem mksT_good (m : Int) : ∀ x ∈ mksT m, gdK x := by
  intro x hx
  unfold mksT at hx
  rcases List.mem_append.1 hx with h | h
  · split at h
    · rw [List.mem_singleton.1 h]; exact .inr (.inr ⟨rfl, rfl, .inl rfl⟩)
    · cases h
  · split at h
    · rw [List.mem_singleton.1 h]; exact .inr (.inr ⟨rfl, rfl, .inr rfl⟩)
    · cases h

/-- A line is read. -/
theorem st_line {L : Int} {s : List Ln} {p : List Bs} {m : Int} {w : Bs} {z : Tok} {r : List Tok} (h0 : 0 ≤ m) (h3 : m ≤ 3) (h16 : p.length < 16) (h200 : s.length < 200) (hz : z.1 = 2 ∨ z.1 = 4) :
    stS L s p (mksT m ++ zk 1 w 0 :: z :: r) = if gt s (p ++ [w]) = none then .ok (insT s (p ++ [w]) m, if z.1 = 2 then p ++ [w] else p, r) else .error (0, 4) := by
  have hm := mrkS_app (mksT m) 0 m (zk 1 w 0) (z :: r) (mksT_bits h0 h3) (mksT_five m) (show (1 : Int) ≠ 5 by decide)
  have hl : lineS L s p m (zk 1 w 0 :: z :: r) = if gt s (p ++ [w]) = none then .ok (insT s (p ++ [w]) m, if z.1 = 2 then p ++ [w] else p, r) else .error (0, 4) := by
    rw [lineS_cons]
    rw [if_pos (show (zk 1 w 0).1 = 1 from rfl), if_neg (by omega)]
    show (if gt s (p ++ [w]) ≠ none then _ else _) = _
    by_cases hg : gt s (p ++ [w]) = none
    · rw [if_neg (by simp [hg]), if_pos hg, if_neg (by omega)]
      rcases hz with h | h
      · dsimp only; rw [if_pos h, if_pos h]; rfl
      · dsimp only; rw [if_neg (by omega), if_pos h, if_neg (by omega)]; rfl
    · rw [if_pos hg, if_neg hg]; rfl
  cases hx : mksT m ++ zk 1 w 0 :: z :: r with
  | nil => simp at hx
  | cons x q =>
    have h3' : x.1 ≠ 3 := by
      cases hms : mksT m with
      | nil => rw [hms, List.nil_append] at hx; injection hx with e1 e2; rw [← e1]; show (1 : Int) ≠ 3; decide
      | cons a b => rw [hms, List.cons_append] at hx; injection hx with e1 e2; rw [← e1, mksT_five m a (by rw [hms]; simp)]; decide
    rw [stS_cons]
    rw [if_neg h3', ← hx, hm]
    dsimp only
    rw [if_pos rfl, hl]
/-- Ends are read. -/
theorem run_closes {L : Int} {s : List Ln} {r : List Tok} : ∀ (c : Nat) (p : List Bs), c ≤ p.length → runA L s p (List.replicate c (zk 3 [] 0) ++ r) = runA L s (p.take (p.length - c)) r
  | 0, p, _ => by rw [List.take_of_length_le (by omega)]; rfl
  | c + 1, p, h => by
    have hp : p ≠ [] := fun e => by subst e; simp at h
    have hs : stS L s p (zk 3 [] 0 :: (List.replicate c (zk 3 [] 0) ++ r)) = .ok (s, p.dropLast, List.replicate c (zk 3 [] 0) ++ r) := by
      rw [stS_cons]
      rw [if_pos (show (zk 3 [] 0).1 = 3 from rfl), if_neg hp]
    rw [List.replicate_succ, List.cons_append, runA_step hs]
    dsimp only
    rw [run_closes c p.dropLast (by rw [List.length_dropLast]; omega), List.length_dropLast, List.dropLast_eq_take, List.take_take]
    congr 2
    omega

/-! ### The map of the first lines -/

theorem pth_take (t : List Ln) {k i : Nat} (hi : i < k) (hk : k ≤ t.length) : pth (t.take k) i = pth t i := by
  unfold pth
  rw [pths_take, List.getD_eq_getElem?_getD, List.getElem?_take_of_lt hi, ← List.getD_eq_getElem?_getD]
theorem rf_take {t : List Ln} (h : rf [] t = true) (k : Nat) : rf [] (t.take k) = true := (rf_split h k).1
theorem gt_take_none {t : List Ln} (h : rf [] t = true) {k j : Nat} (hkj : k ≤ j) (hj : j < t.length) : gt (t.take k) (pth t j) = none := by
  rw [gt_none]
  intro i hi he
  rw [List.length_take] at hi
  rw [pth_take t (show i < k by omega) (by omega)] at he
  have := pth_uniq h (show i < t.length by omega) hj he
  omega
theorem gt_take_pth {t : List Ln} (h : rf [] t = true) {k j : Nat} (hjk : j < k) (hk : k ≤ t.length) : gt (t.take k) (pth t j) = some (t.getD j (0, [], 0)).2.2 := by
  have hj : j < (t.take k).length := by rw [List.length_take]; omega
  have := gt_at (rf_take h k) hj
  rw [pth_take t hjk hk] at this
  rw [this, getD_of_lt t (by omega)]
  simp
theorem gt_take_succ {t : List Ln} (h : rf [] t = true) {k : Nat} (hk : k < t.length) (q : List Bs) : gt (t.take (k + 1)) q = if q = pth t k then some (t[k]).2.2 else gt (t.take k) q := by
  by_cases hq : q = pth t k
  · subst hq
    rw [if_pos rfl, gt_take_pth h (by omega) (by omega), getD_of_lt t hk]
  · rw [if_neg hq]
    have hiff : ∀ m, gt (t.take (k + 1)) q = some m ↔ gt (t.take k) q = some m := by
      intro m
      constructor
      · intro hg
        obtain ⟨i, hi, e1, e2⟩ := gt_some (rf_take h _) hg
        rw [List.length_take] at hi
        rw [pth_take t (show i < k + 1 by omega) (by omega)] at e1
        have hne : i ≠ k := fun e => hq (by rw [← e1, e])
        have := gt_take_pth h (show i < k by omega) (by omega)
        rw [e1, getD_of_lt t (by omega)] at this
        rw [this, ← e2]; simp
      · intro hg
        obtain ⟨i, hi, e1, e2⟩ := gt_some (rf_take h _) hg
        rw [List.length_take] at hi
        rw [pth_take t (show i < k by omega) (by omega)] at e1
        have := gt_take_pth h (show i < k + 1 by omega) (by omega)
        rw [e1, getD_of_lt t (by omega)] at this
        rw [this, ← e2]; simp
    cases h1 : gt (t.take k) q with
    | some m => exact (hiff m).2 h1
    | none =>
      cases h2 : gt (t.take (k + 1)) q with
      | none => rfl
      | some m => rw [(hiff m).1 h2] at h1; cases h1
/-- The path that is open ahead of line k. -/
def opnP (t : List Ln) (k : Nat) : List Bs := (after [] (t.take k)).take (hdD (t.drop k))
theorem opn_line {t : List Ln} (h : rf [] t = true) {k : Nat} (hk : k < t.length) : opnP t k ++ [(t[k]).2.1] = pth t k ∧ (opnP t k).length = (t[k]).1.toNat ∧ (opnP t k = [] ∨ ∃ j, j < k ∧ pth t j = opnP t k) := by
  obtain ⟨h1, h2, _⟩ := rf_at h hk
  have hd : hdD (t.drop k) = (t[k]).1.toNat := by rw [List.drop_eq_getElem_cons hk]; rfl
  have e1 : opnP t k ++ [(t[k]).2.1] = pth t k := by unfold opnP; rw [hd, pth_nx t hk]
  refine ⟨e1, ?_, pth_up h hk e1.symm⟩
  unfold opnP
  rw [hd, List.length_take]; omega
theorem opn_end {t : List Ln} {k : Nat} (hk : t.length ≤ k) : opnP t k = [] := by
  unfold opnP
  rw [List.drop_of_length_le hk]; rfl
/-- Behind line k the path of that line is cut to the depth of the next one. -/
theorem opn_next {t : List Ln} (h : rf [] t = true) {k : Nat} (hk : k < t.length) : opnP t (k + 1) = (pth t k).take (hdD (t.drop (k + 1))) ∧ hdD (t.drop (k + 1)) ≤ (t[k]).1.toNat + 1 := by
  refine ⟨by unfold opnP; rw [pth_eq t hk], ?_⟩
  by_cases hk1 : k + 1 < t.length
  · obtain ⟨h1, h2, _⟩ := rf_at h hk1
    have hd : hdD (t.drop (k + 1)) = (t[k + 1]).1.toNat := by rw [List.drop_eq_getElem_cons hk1]; rfl
    rw [after_len h hk] at h2
    rw [hd]; omega
  · rw [List.drop_of_length_le (by omega)]; simp [hdD]

/-- What is behind a Name brings the next path. -/
theorem run_end {L : Int} {t : List Ln} (h : rf [] t = true) {k : Nat} (hk : k < t.length) {s : List Ln} {l : List Tok} (h200 : s.length < 200) (hg : gt s (pth t k) = none) :
    runA L s (opnP t k) (mksT (t[k]).2.2 ++ zk 1 (t[k]).2.1 0 :: (endT (t[k]).1.toNat (hdD (t.drop (k + 1))) ++ l)) = runA L (insT s (pth t k) (t[k]).2.2) (opnP t (k + 1)) l := by
  obtain ⟨e1, e2, _⟩ := opn_line h hk
  obtain ⟨f1, f2⟩ := opn_next h hk
  have hb := snd_iff.1 (rf_at h hk).1
  have hne : ∀ z r, mksT (t[k]).2.2 ++ zk 1 (t[k]).2.1 0 :: z :: r ≠ [] := fun z r => by simp
  have step : ∀ (z : Tok) (r : List Tok), z.1 = 2 ∨ z.1 = 4 → runA L s (opnP t k) (mksT (t[k]).2.2 ++ zk 1 (t[k]).2.1 0 :: z :: r) = runA L (insT s (pth t k) (t[k]).2.2) (if z.1 = 2 then pth t k else opnP t k) r := fun z r hz => by
    have hst := st_line (L := L) (s := s) (p := opnP t k) (w := (t[k]).2.1) (r := r) hb.2.2.2.1 hb.2.2.2.2 (by omega) h200 hz
    rw [e1, if_pos hg] at hst
    cases hx : mksT (t[k]).2.2 ++ zk 1 (t[k]).2.1 0 :: z :: r with
    | nil => exact absurd hx (hne z r)
    | cons x q =>
      rw [hx] at hst
      rw [runA_step hst]
  have hpl : (pth t k).length = (t[k]).1.toNat + 1 := pth_len h hk
  unfold endT
  by_cases hd : (t[k]).1.toNat < hdD (t.drop (k + 1))
  · rw [if_pos hd, List.singleton_append, step _ _ (.inl rfl), if_pos (show (zk 2 [] 0).1 = 2 from rfl), f1, List.take_of_length_le (by omega)]
  · rw [if_neg hd, List.cons_append, step _ _ (.inr rfl), if_neg (show ¬(zk 4 [] 0).1 = 2 by show ¬(4 : Int) = 2; decide), run_closes _ _ (by omega), e2, f1]
    congr 1
    rw [← e1, List.take_append_of_le_length (by omega), show (t[k]).1.toNat - ((t[k]).1.toNat - hdD (t.drop (k + 1))) = hdD (t.drop (k + 1)) by omega]

/-- The map of two trees, one behind the other. -/
def both (s b : List Ln) (q : List Bs) : Option Int := match gt s q with
  | some m => some m
  | none => gt b q
/-- A tree's tokens, behind another tree: both, if no word of Depth 0 is in both; else that is told. -/
theorem run_tks {b s : List Ln} (hb : rf [] b = true) (hs : rf [] s = true) (hlen : s.length + b.length ≤ 200) (l : List Tok) : ∀ (n k : Nat), k + n = b.length → ∀ v, rf [] v = true → v.length = s.length + k → (∀ q, gt v q = both s (b.take k) q) →
    (∀ j (hj : j < b.length), j < k → (b[j]).1 = 0 → gt s [(b[j]).2.1] = none) →
    ((∀ j (hj : j < b.length), (b[j]).1 = 0 → gt s [(b[j]).2.1] = none) → ∃ v', rf [] v' = true ∧ v'.length = s.length + b.length ∧ (∀ q, gt v' q = both s b q) ∧ runA 0 v (opnP b k) (tks (b.drop k) ++ l) = runA 0 v' [] l) ∧
    (¬(∀ j (hj : j < b.length), (b[j]).1 = 0 → gt s [(b[j]).2.1] = none) → runA 0 v (opnP b k) (tks (b.drop k) ++ l) = .error (0, 4)) := by
  intro n
  induction n with
  | zero =>
    intro k hk v hv hvl hvg hcl
    have hkl : b.length ≤ k := by omega
    rw [List.drop_of_length_le hkl, opn_end hkl]
    refine ⟨fun _ => ⟨v, hv, by omega, fun q => by rw [hvg, List.take_of_length_le hkl], rfl⟩, fun hn => ?_⟩
    exact absurd (fun j hj => hcl j hj (by omega)) hn
  | succ n ih =>
    intro k hk v hv hvl hvg hcl
    have hkb : k < b.length := by omega
    obtain ⟨e1, e2, e3⟩ := opn_line hb hkb
    have hsn := snd_iff.1 (rf_at hb hkb).1
    have htk : tks (b.drop k) ++ l = mksT (b[k]).2.2 ++ zk 1 (b[k]).2.1 0 :: (endT (b[k]).1.toNat (hdD (b.drop (k + 1))) ++ (tks (b.drop (k + 1)) ++ l)) := by
      rw [List.drop_eq_getElem_cons hkb, tks, List.append_assoc, List.cons_append, List.append_assoc]
    rw [htk]
    by_cases hgs : gt s (pth b k) = none
    · -- a new line
      have hgv : gt v (pth b k) = none := by rw [hvg, both, hgs]; exact gt_take_none hb (Nat.le_refl _) hkb
      rw [run_end hb hkb (by omega) hgv]
      have hq : pth b k = opnP b k ++ [(b[k]).2.1] := e1.symm
      have hpl := pth_len hb hkb
      obtain ⟨i1, i2⟩ := insT_tree hv (m := (b[k]).2.2) hgv (pth_ne_nil hkb) (by rw [hpl]; omega) (by rw [hq]; simpa using hsn.2.2.1) hsn.2.2.2.1 hsn.2.2.2.2 (by
        rw [hq, List.dropLast_concat]
        rcases e3 with h | ⟨j, hj, h⟩
        · exact .inl h
        · right
          rw [hvg, both, ← h, gt_take_pth hb hj (by omega)]
          cases gt s (pth b j) <;> simp)
      refine ih (k + 1) (by omega) _ i1 (by rw [insT_length]; omega) (fun q => ?_) (fun j hj hjk h0 => ?_)
      · rw [i2, hvg]
        unfold both
        rw [gt_take_succ hb hkb]
        by_cases hqk : q = pth b k
        · subst hqk; rw [if_pos rfl, if_pos rfl, hgs]
        · rw [if_neg hqk, if_neg hqk]
      · rcases Nat.lt_or_ge j k with h | h
        · exact hcl j hj h h0
        · have : j = k := by omega
          subst this
          have h1 : opnP b j = [] := List.eq_nil_of_length_eq_zero (by omega)
          rw [h1, List.nil_append] at e1
          rw [e1]; exact hgs
    · -- a word of Depth 0 in both
      have h0 : (b[k]).1 = 0 := by
        rcases e3 with h | ⟨j, hj, h⟩
        · rw [h] at e2; simp at e2; omega
        · exfalso
          -- the first word of that path
          cases hp : opnP b k with
          | nil => rw [hp] at h; exact pth_ne_nil (by omega) h
          | cons w0 ws =>
            have h1 : pth b k = [w0] ++ (ws ++ [(b[k]).2.1]) := by rw [← e1, hp]; simp
            obtain ⟨i, hik, hi⟩ := pth_pre hb _ rfl hkb h1 (by simp)
            have hib : i < b.length := by omega
            have hd := pth_len hb hib
            rw [hi] at hd
            simp at hd
            have hi0 := (snd_iff.1 (rf_at hb hib).1).1
            have hw : (b[i]).2.1 = w0 := by
              have h2 := pth_nx b hib
              rw [hi, show (b[i]).1.toNat = 0 by omega, List.take_zero, List.nil_append] at h2
              injection h2 with h2 _
              exact h2.symm
            have hik2 : i < k := by
              rcases Nat.lt_or_eq_of_le hik with h3 | h3
              · exact h3
              · subst h3
                have h5 := congrArg List.length (e1.trans hi)
                rw [hp] at h5
                simp at h5
            have h4 := hcl i hib hik2 (by omega)
            rw [hw] at h4
            exact gt_pre hs (show [w0] ≠ [] by simp) (show gt s ([w0] ++ (ws ++ [(b[k]).2.1])) ≠ none by rw [← h1]; exact hgs) h4
      have hp0 : opnP b k = [] := List.eq_nil_of_length_eq_zero (by omega)
      rw [hp0, List.nil_append] at e1
      refine ⟨fun hall => absurd (by rw [← e1]; exact hall k hkb h0) hgs, fun _ => ?_⟩
      have hgv : gt v ([] ++ [(b[k]).2.1]) ≠ none := by
        rw [List.nil_append, e1, hvg, both]
        cases hh : gt s (pth b k) with
        | none => exact absurd hh hgs
        | some m => simp
      obtain ⟨z, r, hzr, hz⟩ : ∃ z r, endT (b[k]).1.toNat (hdD (b.drop (k + 1))) ++ (tks (b.drop (k + 1)) ++ l) = z :: r ∧ (z.1 = 2 ∨ z.1 = 4) := by
        unfold endT
        split
        · exact ⟨_, _, rfl, .inl rfl⟩
        · exact ⟨_, _, rfl, .inr rfl⟩
      rw [hzr, hp0]
      have hst := st_line (L := 0) (s := v) (p := []) (m := (b[k]).2.2) (w := (b[k]).2.1) (r := r) hsn.2.2.2.1 hsn.2.2.2.2 (by simp) (by omega) hz
      rw [if_neg hgv] at hst
      cases hx : mksT (b[k]).2.2 ++ zk 1 (b[k]).2.1 0 :: z :: r with
      | nil => simp at hx
      | cons x q => rw [hx] at hst; exact runA_err hst

theorem opn_zero (t : List Ln) : opnP t 0 = [] := by unfold opnP; simp [after]
theorem both_nil (b : List Ln) (q : List Bs) : both [] b q = gt b q := rfl
/-- A tree's tokens are read as that tree. -/
theorem run_back {t : List Ln} (ht : rf [] t = true) (hl : t.length ≤ 200) (l : List Tok) : runA 0 [] [] (tks t ++ l) = runA 0 t [] l := by
  obtain ⟨h1, _⟩ := run_tks ht (s := []) rfl (by simpa using hl) l t.length 0 (by omega) [] rfl rfl (fun q => by rw [both_nil]; rfl) (fun j hj h => by omega)
  obtain ⟨v', h2, _, h4, h5⟩ := h1 (fun j hj _ => rfl)
  rw [opn_zero, List.drop_zero] at h5
  rw [h5, gt_ext h2 ht (fun q => by rw [h4, both_nil])]
/-- Two trees, one behind the other. -/
theorem run_two {a b : List Ln} (ha : rf [] a = true) (hb : rf [] b = true) (hl : a.length + b.length ≤ 200) :
    ((∀ j (hj : j < b.length), (b[j]).1 = 0 → gt a [(b[j]).2.1] = none) → ∃ v, rf [] v = true ∧ v.length = a.length + b.length ∧ (∀ q, gt v q = both a b q) ∧ runA 0 [] [] (tks a ++ tks b) = .ok v) ∧
    (¬(∀ j (hj : j < b.length), (b[j]).1 = 0 → gt a [(b[j]).2.1] = none) → runA 0 [] [] (tks a ++ tks b) = .error (0, 4)) := by
  rw [run_back ha (by omega)]
  obtain ⟨h1, h2⟩ := run_tks hb ha hl [] b.length 0 (by omega) a ha (by omega) (fun q => by
    unfold both
    cases gt a q with
    | some m => rfl
    | none => rw [List.take_zero, gt_empty]) (fun j hj h => by omega)
  rw [opn_zero, List.drop_zero, List.append_nil] at h1 h2
  refine ⟨fun h => ?_, h2⟩
  obtain ⟨v, g1, g2, g3, g4⟩ := h1 h
  exact ⟨v, g1, g2, g3, by rw [g4]; rfl⟩

/-! ### Cut off -/

theorem ins_next {t : List Ln} (h : rf [] t = true) {k : Nat} (hk : k < t.length) : insT (t.take k) (pth t k) (t[k]).2.2 = t.take (k + 1) := by
  obtain ⟨e1, e2, e3⟩ := opn_line h hk
  have hsn := snd_iff.1 (rf_at h hk).1
  have hq : pth t k = opnP t k ++ [(t[k]).2.1] := e1.symm
  have hpl := pth_len h hk
  obtain ⟨i1, i2⟩ := insT_tree (rf_take h k) (m := (t[k]).2.2) (gt_take_none h (Nat.le_refl _) hk) (pth_ne_nil hk) (by rw [hpl]; omega) (by rw [hq]; simpa using hsn.2.2.1) hsn.2.2.2.1 hsn.2.2.2.2 (by
    rw [hq, List.dropLast_concat]
    rcases e3 with h1 | ⟨j, hj, h1⟩
    · exact .inl h1
    · right; rw [← h1, gt_take_pth h hj (by omega)]; simp)
  exact gt_ext i1 (rf_take h _) fun q => by rw [i2, gt_take_succ h hk]
theorem five_split : ∀ {ms ns a b : List Tok} {y z : Tok}, (∀ x ∈ ms, x.1 = 5) → (∀ x ∈ ns, x.1 = 5) → y.1 ≠ 5 → z.1 ≠ 5 → ms ++ y :: a = ns ++ z :: b → ms = ns ∧ y = z ∧ a = b
  | [], [], _, _, _, _, _, _, _, _, h => by
    injection h with h1 h2
    exact ⟨rfl, h1, h2⟩
  | [], n :: ns, _, _, y, z, _, hn, hy, _, h => by
    injection h with h1 h2
    exact absurd (by rw [h1]; exact hn n List.mem_cons_self) hy
  | m :: ms, [], _, _, y, z, hm, _, _, hz, h => by
    injection h with h1 h2
    exact absurd (by rw [← h1]; exact hm m List.mem_cons_self) hz
  | m :: ms, n :: ns, _, _, y, z, hm, hn, hy, hz, h => by
    injection h with h1 h2
    obtain ⟨e1, e2, e3⟩ := five_split (fun x hx => hm x (List.mem_cons_of_mem _ hx)) (fun x hx => hn x (List.mem_cons_of_mem _ hx)) hy hz h2
    exact ⟨by rw [h1, e1], e2, e3⟩
theorem cut_closes {L : Int} {s u : List Ln} {X : List Tok} : ∀ (c : Nat) (p : List Bs) (P : List Tok), c ≤ p.length → P <+: List.replicate c (zk 3 [] 0) ++ X → runA L s p P = .ok u → ∃ P', P' <+: X ∧ runA L s (p.take (p.length - c)) P' = .ok u
  | 0, p, P, _, hp, h => ⟨P, hp, by rw [List.take_of_length_le (by omega)]; exact h⟩
  | c + 1, p, P, hc, hp, h => by
    have hne : p ≠ [] := fun e => by subst e; simp at hc
    rcases runA_ok h with ⟨rfl, e, _⟩ | ⟨q, hq, _, h2⟩
    · exact absurd e hne
    · cases P with
      | nil => cases hq
      | cons x r =>
        rw [List.replicate_succ, List.cons_append, List.cons_prefix_cons] at hp
        obtain ⟨rfl, hp⟩ := hp
        rw [stS_cons] at hq
        rw [if_pos (show (zk 3 [] 0).1 = 3 from rfl), if_neg hne] at hq
        injection hq with hq
        subst hq
        obtain ⟨P', g1, g2⟩ := cut_closes c p.dropLast r (by rw [List.length_dropLast]; omega) hp h2
        refine ⟨P', g1, ?_⟩
        rw [List.length_dropLast, List.dropLast_eq_take, List.take_take] at g2
        rw [show p.length - (c + 1) = min (p.length - 1 - c) (p.length - 1) by omega]
        exact g2
theorem run_cut {t : List Ln} (ht : rf [] t = true) (hl : t.length ≤ 200) : ∀ (n k : Nat), k + n = t.length → ∀ (P : List Tok) (u : List Ln), P <+: tks (t.drop k) → runA 0 (t.take k) (opnP t k) P = .ok u →
    ∃ j, j ≤ t.length ∧ u = t.take j ∧ (∀ (hj : j < t.length), (t[j]).1 = 0) := by
  intro n
  induction n with
  | zero =>
    intro k hk P u hP h
    rw [List.drop_of_length_le (by omega)] at hP
    have : P = [] := List.prefix_nil.1 hP
    subst this
    rw [opn_end (by omega)] at h
    rw [runA_nil, if_pos rfl] at h
    injection h with h
    exact ⟨k, by omega, h.symm, fun hj => by omega⟩
  | succ n ih =>
    intro k hk P u hP h
    have hkb : k < t.length := by omega
    obtain ⟨e1, e2, e3⟩ := opn_line ht hkb
    have hsn := snd_iff.1 (rf_at ht hkb).1
    rcases runA_ok h with ⟨rfl, e, rfl⟩ | ⟨⟨t', p', l'⟩, hq, _, h2⟩
    · rw [e] at e2
      simp at e2
      exact ⟨k, by omega, rfl, fun _ => by omega⟩
    · simp only at h2
      rw [List.drop_eq_getElem_cons hkb, tks] at hP
      obtain ⟨Q, hQ⟩ := hP
      rcases stS_ok hq with ⟨x, rfl, h3, _⟩ | ⟨ms, y, z, m, rfl, h5, h1, hm, h16, hgt, h200, rfl, hz⟩
      · exfalso
        rw [List.cons_append] at hQ
        cases hms : mksT (t[k]).2.2 with
        | nil => rw [hms, List.nil_append] at hQ; injection hQ with g1 g2; rw [g1] at h3; exact absurd (show (1 : Int) = 3 from h3) (by decide)
        | cons a b => rw [hms, List.cons_append] at hQ; injection hQ with g1 g2; have := mksT_five (t[k]).2.2 a (by rw [hms]; simp); rw [← g1, h3] at this; exact absurd this (by decide)
      · rw [List.append_assoc, List.cons_append, List.cons_append] at hQ
        obtain ⟨g1, g2, g3⟩ := five_split h5 (mksT_five _) (by omega) (show (1 : Int) ≠ 5 by decide) hQ
        subst g1
        have hm' : m = (t[k]).2.2 := by
          rw [mksT_bits hsn.2.2.2.1 hsn.2.2.2.2] at hm
          injection hm with hm _
          exact hm.symm
        subst hm'
        have hy : y.2.2.1 = (t[k]).2.1 := by rw [g2]; rfl
        rw [hy, e1, ins_next ht hkb] at h2
        rw [hy, e1] at hz
        obtain ⟨f1, f2⟩ := opn_next ht hkb
        have hpl := pth_len ht hkb
        unfold endT at g3
        by_cases hd : (t[k]).1.toNat < hdD (t.drop (k + 1))
        · rw [if_pos hd, List.singleton_append] at g3
          injection g3 with g4 g5
          have hp' : p' = opnP t (k + 1) := by
            rcases hz with ⟨_, h⟩ | ⟨h, _⟩
            · rw [h, f1, List.take_of_length_le (by omega)]
            · rw [g4] at h; exact absurd h (by decide)
          rw [hp'] at h2
          exact ih (k + 1) (by omega) l' u ⟨Q, g5⟩ h2
        · rw [if_neg hd, List.cons_append] at g3
          injection g3 with g4 g5
          have hp' : p' = opnP t k := by
            rcases hz with ⟨h, _⟩ | ⟨_, h⟩
            · rw [g4] at h; exact absurd h (by decide)
            · exact h
          rw [hp'] at h2
          obtain ⟨P', g6, g7⟩ := cut_closes _ _ l' (by omega) ⟨Q, g5⟩ h2
          have hpp : (opnP t k).take ((opnP t k).length - ((t[k]).1.toNat - hdD (t.drop (k + 1)))) = opnP t (k + 1) := by
            rw [f1, ← e1, List.take_append_of_le_length (by omega), e2]
            congr 1; omega
          rw [hpp] at g7
          exact ih (k + 1) (by omega) P' u g6 g7

end Go.Proofs.Ytmohgkoomnihfaa.Vc

/-
  A TREE'S TEXT AND ITS TOKENS; the tokens of a text that is cut off; lines that are all open. Plain lists. No condition.
-/
set_option linter.unusedVariables false
set_option linter.unusedSimpArgs false
namespace Go.Proofs.Ytmohgkoomnihfaa.Vc

/-! ### A tree's text -/

def indW (d : Nat) : Bs := List.replicate (2 * d) 32
def mksW (m : Int) : Bs := (if m % 2 = 1 then inactW ++ [32] else []) ++ (if 1 < m then protW ++ [32] else [])
/-- Ends, from depth d - 1 down to h. -/
def clsW : Nat → Nat → Bs
  | 0, _ => []
  | d + 1, h => if h ≤ d then indW d ++ (125 :: 10 :: clsW d h) else []
def endW (d h : Nat) : Bs := if d < h then [32, 123, 10] else 59 :: 10 :: clsW d h
def txt : List Ln → Bs
  | [] => []
  | l :: r => indW l.1.toNat ++ (mksW l.2.2 ++ (quoteS l.2.1 ++ (endW l.1.toNat (hdD r) ++ txt r)))

/-- A token without its place. -/
def zr (k : RTok) : Tok := (k.1, 0, k.2.2)
theorem zt_to (n : Nat) (l : List RTok) : (l.map (toTok n)).map zt = l.map zr := by rw [List.map_map]; rfl
theorem lex_ind (t : Bs) : ∀ n, lexR (List.replicate n 32 ++ t) = lexR t
  | 0 => rfl
  | n + 1 => by rw [List.replicate_succ, List.cons_append, lex_blank, lex_ind t n]
theorem appE_one (x : RTok) (e : Except (Nat × Int) (List RTok)) : consE x e = appE [x] e := by cases e <;> rfl
theorem appE_nil (e : Except (Nat × Int) (List RTok)) : appE [] e = e := by cases e <;> rfl
theorem appE_app2 (a b : List RTok) (e : Except (Nat × Int) (List RTok)) : appE a (appE b e) = appE (a ++ b) e := by cases e <;> simp [appE]
theorem lex_mk (m : Bs) (q : Int) (t : Bs) (h : (m = inactW ∧ q = 1) ∨ (m = protW ∧ q = 2)) : lexR (m ++ [32] ++ t) = appE [(5, (m ++ 32 :: t).length, [], q)] (lexR t) := by
  rw [List.append_assoc, List.singleton_append, lex_mark m q _ (stops_c (by decide) t) h, lex_blank, appE_one]
theorem lex_mks (m : Int) (t : Bs) : ∃ l, lexR (mksW m ++ t) = appE l (lexR t) ∧ l.map zr = mksT m := by
  unfold mksW mksT
  by_cases h1 : m % 2 = 1
  · by_cases h2 : 1 < m
    · rw [if_pos h1, if_pos h1, if_pos h2, if_pos h2, List.append_assoc, lex_mk inactW 1 _ (.inl ⟨rfl, rfl⟩), lex_mk protW 2 _ (.inr ⟨rfl, rfl⟩), appE_app2]
      exact ⟨_, rfl, rfl⟩
    · rw [if_pos h1, if_pos h1, if_neg h2, if_neg h2, List.append_nil, lex_mk inactW 1 _ (.inl ⟨rfl, rfl⟩)]
      exact ⟨_, rfl, rfl⟩
  · by_cases h2 : 1 < m
    · rw [if_neg h1, if_neg h1, if_pos h2, if_pos h2, List.nil_append, lex_mk protW 2 _ (.inr ⟨rfl, rfl⟩)]
      exact ⟨_, rfl, rfl⟩
    · rw [if_neg h1, if_neg h1, if_neg h2, if_neg h2, List.nil_append, List.nil_append]
      exact ⟨[], (appE_nil _).symm, rfl⟩
theorem lex_cls (h : Nat) (t : Bs) : ∀ d, ∃ l, lexR (clsW d h ++ t) = appE l (lexR t) ∧ l.map zr = List.replicate (d - h) (zk 3 [] 0)
  | 0 => ⟨[], by rw [clsW, List.nil_append, appE_nil], by rw [Nat.zero_sub]; rfl⟩
  | d + 1 => by
    obtain ⟨l, h1, h2⟩ := lex_cls h t d
    unfold clsW
    by_cases hd : h ≤ d
    · rw [if_pos hd, indW, List.append_assoc, lex_ind, List.cons_append, List.cons_append, lex_sign 125 3 _ (.inr (.inl ⟨rfl, rfl⟩)), lex_line, h1, appE_one, appE_app2]
      exact ⟨_, rfl, by rw [List.map_append, h2, show d + 1 - h = (d - h) + 1 by omega, List.replicate_succ]; rfl⟩
    · rw [if_neg hd, List.nil_append]
      exact ⟨[], (appE_nil _).symm, by rw [show d + 1 - h = 0 by omega]; rfl⟩
theorem lex_end (d h : Nat) (t : Bs) : stops (endW d h ++ t) ∧ ∃ l, lexR (endW d h ++ t) = appE l (lexR t) ∧ l.map zr = endT d h := by
  unfold endW endT
  by_cases hd : d < h
  · rw [if_pos hd, if_pos hd]
    refine ⟨stops_c (by decide) _, ?_⟩
    rw [List.cons_append, lex_blank, List.cons_append, lex_sign 123 2 _ (.inl ⟨rfl, rfl⟩), List.cons_append, lex_line, appE_one]
    exact ⟨_, rfl, rfl⟩
  · rw [if_neg hd, if_neg hd]
    refine ⟨stops_c (by decide) _, ?_⟩
    obtain ⟨l, h1, h2⟩ := lex_cls h t d
    rw [List.cons_append, lex_sign 59 4 _ (.inr (.inr ⟨rfl, rfl⟩)), List.cons_append, lex_line, h1, appE_one, appE_app2]
    exact ⟨_, rfl, by rw [List.map_append, h2]; rfl⟩
/-- A tree's text has that tree's tokens. -/
theorem lex_txt (rest : Bs) : ∀ (t : List Ln), (∀ x ∈ t, x.2.1.length ≤ 40) → ∃ l, lexR (txt t ++ rest) = appE l (lexR rest) ∧ l.map zr = tks t
  | [], _ => ⟨[], (appE_nil _).symm, rfl⟩
  | x :: r, h => by
    obtain ⟨l1, a1, a2⟩ := lex_txt rest r fun y hy => h y (List.mem_cons_of_mem _ hy)
    obtain ⟨st, l2, b1, b2⟩ := lex_end x.1.toNat (hdD r) (txt r ++ rest)
    obtain ⟨l3, c1, c2⟩ := lex_mks x.2.2 (quoteS x.2.1 ++ (endW x.1.toNat (hdD r) ++ (txt r ++ rest)))
    have e : txt (x :: r) ++ rest = indW x.1.toNat ++ (mksW x.2.2 ++ (quoteS x.2.1 ++ (endW x.1.toNat (hdD r) ++ (txt r ++ rest)))) := by
      rw [txt]; simp only [List.append_assoc]
    rw [e, indW, lex_ind, c1, lex_quote _ _ (h x List.mem_cons_self) st, b1, a1, appE_one, appE_app2, appE_app2, appE_app2]
    refine ⟨_, rfl, ?_⟩
    rw [List.map_append, List.map_append, List.map_append, a2, b2, c2, tks]
    simp [zr, zk]
theorem lex_txt0 {t : List Ln} (h : ∀ x ∈ t, x.2.1.length ≤ 40) : ∃ l, lexR (txt t) = .ok l ∧ l.map zr = tks t := by
  obtain ⟨l, h1, h2⟩ := lex_txt [] t h
  rw [List.append_nil] at h1
  refine ⟨l, by rw [h1]; show Except.ok (l ++ []) = _; rw [List.append_nil], h2⟩
theorem rf_words {t : List Ln} (h : rf [] t = true) : ∀ x ∈ t, x.2.1.length ≤ 40 := fun x hx => by
  obtain ⟨i, hi, rfl⟩ := List.getElem_of_mem hx
  exact (snd_iff.1 (rf_at h hi).1).2.2.1

/-! ### How long a text is -/

theorem indW_len (d : Nat) : (indW d).length = 2 * d := by unfold indW; simp
theorem mksW_len (m : Int) : (mksW m).length ≤ 19 := by
  unfold mksW
  by_cases h1 : m % 2 = 1 <;> by_cases h2 : 1 < m <;> simp [h1, h2, inactW, protW]
theorem clsW_len (h : Nat) : ∀ d, (clsW d h).length ≤ d * (2 * d + 2)
  | 0 => by simp [clsW]
  | d + 1 => by
    unfold clsW
    have := clsW_len h d
    split
    · simp only [List.length_append, List.length_cons, indW_len]
      have : d * (2 * d + 2) ≤ d * (2 * (d + 1) + 2) := Nat.mul_le_mul_left _ (by omega)
      rw [Nat.add_mul]; omega
    · simp
theorem endW_len {d h : Nat} (hd : d ≤ 16) : (endW d h).length ≤ 600 := by
  unfold endW
  split
  · simp
  · have h1 := clsW_len h d
    have : d * (2 * d + 2) ≤ 16 * 34 := Nat.mul_le_mul hd (by omega)
    simp only [List.length_cons]; omega
theorem txt_len : ∀ {t : List Ln}, (∀ x ∈ t, snd x = true) → (txt t).length ≤ 1000 * t.length
  | [], _ => by simp [txt]
  | x :: r, h => by
    have hx := snd_iff.1 (h x List.mem_cons_self)
    have ih := txt_len fun y hy => h y (List.mem_cons_of_mem _ hy)
    have h1 := mksW_len x.2.2
    have h2 := quote_len x.2.1
    have h3 := endW_len (d := x.1.toNat) (h := hdD r) (by omega)
    rw [txt]
    simp only [List.length_append, List.length_cons, indW_len]
    omega
theorem txt_len0 {t : List Ln} (h : rf [] t = true) : (txt t).length ≤ 1000 * t.length := txt_len fun x hx => by
  obtain ⟨i, hi, rfl⟩ := List.getElem_of_mem hx
  exact (rf_at h hi).1

/-! ### A text that is cut off -/

theorem skip_cut (b : Bs) : ∀ (s : Bs) (m m' : Md) (c : UInt8) (r : Bs), m.like m' → skipS m s = (true, c :: r) → (r ≠ [] ∨ c ≠ 47) → skipS m' (s ++ b) = (true, c :: r ++ b) := by
  intro s
  induction s with
  | nil =>
    intro m m' c r hl h
    cases m <;> simp [skipS] at h
  | cons x q ih =>
    intro m m' c r hl h hc
    cases m <;> cases m' <;> simp only [Md.like] at hl <;> simp only [skipS, List.cons_append] at h ⊢
    case n.n =>
      by_cases h1 : blankB x = true
      · rw [if_pos h1] at h ⊢; exact ih _ _ _ _ (by trivial) h hc
      rw [if_neg h1] at h ⊢
      by_cases h2 : x = 35
      · rw [if_pos h2] at h ⊢; exact ih _ _ _ _ (by trivial) h hc
      rw [if_neg h2] at h ⊢
      by_cases h3 : x = 47 ∧ q.head? = some 42
      · rw [if_pos h3] at h
        have : (q ++ b).head? = some 42 := by
          cases q with
          | nil => simp at h3
          | cons y q => exact h3.2
        rw [if_pos ⟨h3.1, this⟩]
        exact ih _ _ _ _ (by trivial) h hc
      rw [if_neg h3] at h
      injection h with _ h
      injection h with e1 e2
      subst e1; subst e2
      have : ¬(x = 47 ∧ (q ++ b).head? = some 42) := fun ⟨g1, g2⟩ => by
        cases q with
        | nil => rcases hc with hc | hc
                 · exact hc rfl
                 · exact hc g1
        | cons y q => exact h3 ⟨g1, g2⟩
      rw [if_neg this]
    case l.l =>
      by_cases h1 : x = 10
      · rw [if_pos h1] at h ⊢; exact ih _ _ _ _ (by trivial) h hc
      · rw [if_neg h1] at h ⊢; exact ih _ _ _ _ (by trivial) h hc
    case o.o => exact ih _ _ _ _ (by trivial) h hc
    case b.b x1 x2 =>
      by_cases h1 : x = 42 ∧ q.head? = some 47
      · rw [if_pos h1] at h
        have : (q ++ b).head? = some 47 := by
          cases q with
          | nil => simp at h1
          | cons y q => exact h1.2
        rw [if_pos ⟨h1.1, this⟩]
        exact ih _ _ _ _ (by trivial) h hc
      · rw [if_neg h1] at h
        cases q with
        | nil => simp [skipS] at h
        | cons y q =>
          rw [if_neg (show ¬(x = 42 ∧ (y :: q ++ b).head? = some 47) from h1)]
          exact ih _ _ _ _ (by trivial) h hc
    case e.e => exact ih _ _ _ _ (by trivial) h hc
theorem tw_cut (b : Bs) : ∀ (s : Bs), (s.takeWhile bareB).length < s.length → (s ++ b).takeWhile bareB = s.takeWhile bareB
  | [], h => by simp at h
  | c :: r, h => by
    rw [List.cons_append, List.takeWhile_cons, List.takeWhile_cons]
    split
    · rename_i hc
      rw [List.takeWhile_cons, if_pos hc] at h
      rw [tw_cut b r (by simpa using h)]
    · rfl
theorem scan_cut {s b : Bs} {k : Nat} (h : scanL s = some k) (hk : k < s.length) : scanL (s ++ b) = some k := by
  cases s with
  | nil => cases h
  | cons c r =>
    simp only [scanL, List.cons_append] at h ⊢
    by_cases hc : c = 34
    · rw [if_pos hc] at h ⊢
      obtain ⟨j, h1, rfl⟩ := Option.map_eq_some_iff.1 h
      rw [quo_app b r false j h1]; rfl
    · rw [if_neg hc] at h ⊢
      by_cases h0 : ((c :: r).takeWhile bareB).length = 0
      · rw [if_pos h0] at h; cases h
      · rw [if_neg h0] at h
        injection h with h
        have := tw_cut b (c :: r) (by omega)
        rw [List.cons_append] at this
        rw [this, if_neg h0, h]
theorem next_cut {s b r : Bs} {k : RTok} (h : nextS s = .ok (k, r)) (hr : r ≠ [] ∨ (k.1 ≠ 1 ∧ k.1 ≠ 5)) : ∃ k', zr k' = zr k ∧ nextS (s ++ b) = .ok (k', r ++ b) := by
  unfold nextS at h
  cases s with
  | nil => cases h
  | cons c r' =>
    dsimp only at h
    simp only [nextS, List.cons_append]
    by_cases h1 : c = 123
    · rw [if_pos h1] at h ⊢; injection h with h; injection h with h2 h3; subst h2; subst h3; exact ⟨(2, (c :: (r' ++ b)).length, [], 0), rfl, rfl⟩
    rw [if_neg h1] at h ⊢
    by_cases h1 : c = 125
    · rw [if_pos h1] at h ⊢; injection h with h; injection h with h2 h3; subst h2; subst h3; exact ⟨(3, (c :: (r' ++ b)).length, [], 0), rfl, rfl⟩
    rw [if_neg h1] at h ⊢
    by_cases h1 : c = 59
    · rw [if_pos h1] at h ⊢; injection h with h; injection h with h2 h3; subst h2; subst h3; exact ⟨(4, (c :: (r' ++ b)).length, [], 0), rfl, rfl⟩
    rw [if_neg h1] at h ⊢
    cases hj : scanL (c :: r') with
    | none => rw [hj] at h; cases h
    | some j =>
      rw [hj] at h
      dsimp only at h
      have hle := scan_le hj
      have fin : ∀ {g : Int × Bs × Int}, (Except.ok ((g.1, (c :: r').length, g.2), (c :: r').drop j) : Except Int (RTok × Bs)) = .ok (k, r) → g.1 = 1 ∨ g.1 = 5 → scanL (c :: (r' ++ b)) = some j ∧ (c :: (r' ++ b)).take j = (c :: r').take j ∧ (c :: (r' ++ b)).drop j = r ++ b ∧ zr k = (g.1, 0, g.2) := fun {g} he hg => by
        injection he with he
        injection he with h2 h3
        have hk1 : k.1 = g.1 := by rw [← h2]
        have hrne : r ≠ [] := by
          rcases hr with h | ⟨g1, g2⟩
          · exact h
          · rcases hg with h | h <;> omega
        have hlt : j < (c :: r').length := by
          rcases Nat.lt_or_ge j (c :: r').length with h | h
          · exact h
          · rw [List.drop_of_length_le h] at h3; exact absurd h3.symm hrne
        refine ⟨scan_cut (b := b) hj hlt, ?_, ?_, ?_⟩
        · rw [← List.cons_append, List.take_append_of_le_length hle.2]
        · rw [← List.cons_append, List.drop_append_of_le_length hle.2, h3]
        · rw [← h2]; rfl
      by_cases h4 : (c :: r').take j = inactW
      · rw [if_pos h4] at h
        obtain ⟨f1, f2, f3, f4⟩ := fin (g := (5, [], 1)) h (.inr rfl)
        rw [f1]; dsimp only; rw [f2, if_pos h4, f3]
        exact ⟨_, by rw [f4]; rfl, rfl⟩
      rw [if_neg h4] at h
      by_cases h5 : (c :: r').take j = protW
      · rw [if_pos h5] at h
        obtain ⟨f1, f2, f3, f4⟩ := fin (g := (5, [], 2)) h (.inr rfl)
        rw [f1]; dsimp only; rw [f2, if_neg h4, if_pos h5, f3]
        exact ⟨_, by rw [f4]; rfl, rfl⟩
      rw [if_neg h5] at h
      by_cases h6 : (unqS ((c :: r').take j)).2 = 0
      · rw [if_pos h6] at h
        obtain ⟨f1, f2, f3, f4⟩ := fin (g := (1, (unqS ((c :: r').take j)).1, 0)) h (.inl rfl)
        rw [f1]; dsimp only; rw [f2, if_neg h4, if_neg h5, if_pos h6, f3]
        exact ⟨_, by rw [f4]; rfl, rfl⟩
      · rw [if_neg h6] at h; cases h
theorem one_skip {s : Bs} (h : skipS .n s = (true, [47])) {l : List RTok} (hl : lexR s = .ok l) : ∃ x, l = [x] ∧ x.1 = 1 := by
  rw [lexR_eq, h] at hl
  dsimp only at hl
  have : nextS [47] = .ok ((1, 1, [47], 0), []) := by kernel_rfl
  rw [this] at hl
  dsimp only at hl
  have h0 : lexR [] = .ok [] := rfl
  rw [h0] at hl
  injection hl with hl
  exact ⟨_, hl.symm, rfl⟩
/-- The tokens of a text that is cut off are the first ones of the whole, but perhaps the last, a word or a mark. -/
theorem lex_cut (b : Bs) : ∀ (n : Nat) (a : Bs) (la l : List RTok), a.length ≤ n → lexR a = .ok la → lexR (a ++ b) = .ok l →
    (la.map zr <+: l.map zr) ∨ ∃ la' x, la = la' ++ [x] ∧ (x.1 = 1 ∨ x.1 = 5) := by
  intro n
  induction n with
  | zero =>
    intro a la l hn h1 h2
    have : a = [] := List.eq_nil_of_length_eq_zero (by omega)
    subst this
    have h0 : lexR [] = .ok [] := rfl
    rw [h0] at h1
    injection h1 with h1
    subst h1
    exact .inl List.nil_prefix
  | succ n ih =>
    intro a la l hn h1 h2
    have h1' := h1
    rw [lexR_eq] at h1
    cases hs : skipS .n a with
    | mk ok q =>
      rw [hs] at h1
      cases ok with
      | false => cases h1
      | true =>
        cases q with
        | nil =>
          injection h1 with h1
          subst h1
          exact .inl List.nil_prefix
        | cons c r =>
          by_cases hc : r = [] ∧ c = 47
          · obtain ⟨rfl, rfl⟩ := hc
            obtain ⟨x, rfl, hx⟩ := one_skip hs h1'
            exact .inr ⟨[], x, rfl, .inl hx⟩
          have hsk := skip_cut b a .n .n c r trivial hs (by
            by_cases h : r = []
            · exact .inr fun e => hc ⟨h, e⟩
            · exact .inl h)
          dsimp only at h1
          cases hn1 : nextS (c :: r) with
          | error e => rw [hn1] at h1; cases h1
          | ok kr =>
            obtain ⟨k, r'⟩ := kr
            rw [hn1] at h1
            dsimp only at h1
            cases hl2 : lexR r' with
            | error e => rw [hl2] at h1; cases h1
            | ok la2 =>
              rw [hl2] at h1
              injection h1 with h1
              subst h1
              by_cases hr : r' ≠ [] ∨ (k.1 ≠ 1 ∧ k.1 ≠ 5)
              · obtain ⟨k', e1, e2⟩ := next_cut (b := b) hn1 hr
                rw [lexR_eq, hsk, List.cons_append] at h2
                dsimp only at h2
                rw [List.cons_append] at e2
                rw [e2] at h2
                dsimp only at h2
                cases hl3 : lexR (r' ++ b) with
                | error e => rw [hl3] at h2; cases h2
                | ok l3 =>
                  rw [hl3] at h2
                  injection h2 with h2
                  subst h2
                  have hlt := next_lt hn1
                  have hsl := skip_len a .n trivial
                  rw [hs] at hsl
                  simp only at hsl
                  rcases ih r' la2 l3 (by omega) hl2 hl3 with h3 | ⟨la', x, rfl, hx⟩
                  · left
                    rw [List.map_cons, List.map_cons, e1, List.cons_prefix_cons]
                    exact ⟨rfl, h3⟩
                  · exact .inr ⟨k :: la', x, rfl, hx⟩
              · have hr0 : r' = [] := Classical.byContradiction fun e => hr (.inl e)
                subst hr0
                have h0 : lexR [] = .ok [] := rfl
                rw [h0] at hl2
                injection hl2 with hl2
                subst hl2
                refine .inr ⟨[], k, rfl, ?_⟩
                rcases Classical.em (k.1 = 1) with h | h
                · exact .inl h
                · exact .inr (Classical.byContradiction fun e => hr (.inr ⟨h, e⟩))

/-! ### Places of errors -/

theorem mrkS_at {L : Int} {l : List Tok} (hL : 0 ≤ L) (h : ∀ x ∈ l, 0 ≤ x.2.1 ∧ x.2.1 ≤ L) (m : Int) : 0 ≤ atS L (mrkS m l).2.1 ∧ atS L (mrkS m l).2.1 ≤ L := by
  have hs := mrkS_len l m
  cases hq : (mrkS m l).2.1 with
  | nil => exact ⟨hL, Int.le_refl _⟩
  | cons x r => rw [hq] at hs; exact h x (hs.subset (by simp))
theorem st_place {L : Int} {t : List Ln} {p : List Bs} {l : List Tok} {e : Int × Int} (hL : 0 ≤ L) (h : ∀ x ∈ l, 0 ≤ x.2.1 ∧ x.2.1 ≤ L) (he : stS L t p l = .error e) : 0 ≤ e.1 ∧ e.1 ≤ L ∧ e.2 ≠ 0 := by
  cases l with
  | nil => injection he with he; subst he; exact ⟨hL, Int.le_refl _, by simp⟩
  | cons x r =>
    have hx := h x List.mem_cons_self
    rw [stS_cons] at he
    split at he
    · split at he
      · injection he with he; subst he; exact ⟨hx.1, hx.2, by simp⟩
      · cases he
    · split at he
      · have hsf := mrkS_len (x :: r) 0
        revert hsf he
        generalize (mrkS 0 (x :: r)).1 = m
        generalize (mrkS 0 (x :: r)).2.1 = q
        intro he hsf
        cases q with
        | nil => injection he with he; subst he; exact ⟨hL, Int.le_refl _, by simp⟩
        | cons y q =>
          have hy := h y (hsf.subset (by simp))
          rw [lineS_cons] at he
          split at he
          · split at he
            · injection he with he; subst he; exact ⟨hy.1, hy.2, by simp⟩
            split at he
            · injection he with he; subst he; exact ⟨hy.1, hy.2, by simp⟩
            split at he
            · injection he with he; subst he; exact ⟨hy.1, hy.2, by simp⟩
            cases q with
            | nil => injection he with he; subst he; exact ⟨hL, Int.le_refl _, by simp⟩
            | cons z q =>
              have hz := h z (hsf.subset (by simp))
              dsimp only at he
              split at he
              · cases he
              split at he
              · cases he
              injection he with he; subst he; exact ⟨hz.1, hz.2, by simp⟩
          · injection he with he; subst he; exact ⟨hy.1, hy.2, by simp⟩
      · have := mrkS_at hL h 0
        injection he with he; subst he; exact ⟨this.1, this.2, by simp⟩
theorem run_place {L : Int} (hL : 0 ≤ L) : ∀ (n : Nat) (t : List Ln) (p : List Bs) (l : List Tok) (e : Int × Int), l.length ≤ n → (∀ x ∈ l, 0 ≤ x.2.1 ∧ x.2.1 ≤ L) → runA L t p l = .error e → 0 ≤ e.1 ∧ e.1 ≤ L ∧ e.2 ≠ 0 := by
  intro n
  induction n with
  | zero =>
    intro t p l e hn h he
    have : l = [] := List.eq_nil_of_length_eq_zero (by omega)
    subst this
    rw [runA_nil] at he
    split at he
    · cases he
    · injection he with he; subst he; exact ⟨hL, Int.le_refl _, by simp⟩
  | succ n ih =>
    intro t p l e hn h he
    cases l with
    | nil =>
      rw [runA_nil] at he
      split at he
      · cases he
      · injection he with he; subst he; exact ⟨hL, Int.le_refl _, by simp⟩
    | cons x r =>
      cases hs : stS L t p (x :: r) with
      | error e' => rw [runA_err hs] at he; injection he with he; subst he; exact st_place hL h hs
      | ok q =>
        rw [runA_step hs] at he
        have hlt := stS_lt hs
        have hsf : q.2.2 <:+ x :: r := by
          obtain ⟨t', p', l'⟩ := q
          rcases stS_ok hs with ⟨y, hy, _⟩ | ⟨ms, y, z, m, hy, _⟩
          · rw [hy]; exact List.suffix_cons _ _
          · rw [hy]; exact ⟨ms ++ [y, z], by simp⟩
        simp only [List.length_cons] at hn hlt
        exact ih _ _ _ e (by omega) (fun y hy => h y (hsf.subset hy)) he

/-! ### Lines that are all open -/

def chain (i : Nat) : List Ln := (List.range i).map fun j : Nat => ((j : Int), ([97] : Bs), (0 : Int))
theorem chain_len (i : Nat) : (chain i).length = i := by simp [chain]
theorem chain_succ (i : Nat) : chain (i + 1) = chain i ++ [((i : Int), [97], 0)] := by simp [chain, List.range_succ]
theorem chain_ok : ∀ i, i ≤ 16 → rf [] (chain i) = true ∧ after [] (chain i) = List.replicate i [97] ∧ ∀ j, j < i → pth (chain i) j = List.replicate (j + 1) [97]
  | 0, _ => ⟨rfl, rfl, fun j h => by omega⟩
  | i + 1, h => by
    obtain ⟨h1, h2, h3⟩ := chain_ok i (by omega)
    have e : nx (List.replicate i [97]) ((i : Int), [97], 0) = List.replicate (i + 1) [97] := by
      unfold nx
      rw [List.take_of_length_le (by simp), List.replicate_succ']
    have h4 : after [] (chain (i + 1)) = List.replicate (i + 1) [97] := by rw [chain_succ, after_append, h2]; exact e
    refine ⟨?_, h4, fun j hj => ?_⟩
    · rw [chain_succ, rf_append, h1, h2, Bool.true_and, rf_cons]
      exact ⟨snd_iff.2 ⟨by simp, by simp only; omega, by simp, by simp, by simp⟩, by simp, .inl (by simp), rfl⟩
    · rcases Nat.lt_or_ge j i with hj2 | hj2
      · rw [← h3 j hj2]
        have := pth_take (chain (i + 1)) hj2 (by rw [chain_len]; omega)
        rw [← this, chain_succ, List.take_left' (chain_len i)]
      · have : j = i := by omega
        subst this
        rw [pth_eq _ (by rw [chain_len]; omega), List.take_of_length_le (by rw [chain_len]; omega), h4]
theorem chain_ins {i : Nat} (h : i < 16) : gt (chain i) (List.replicate (i + 1) [97]) = none ∧ insT (chain i) (List.replicate (i + 1) [97]) 0 = chain (i + 1) := by
  obtain ⟨h1, h2, h3⟩ := chain_ok i (by omega)
  obtain ⟨k1, k2, k3⟩ := chain_ok (i + 1) (by omega)
  have hl : i < (chain (i + 1)).length := by rw [chain_len]; omega
  have e1 : (chain (i + 1)).take i = chain i := by rw [chain_succ, List.take_left' (chain_len i)]
  have e2 : (chain (i + 1)).take (i + 1) = chain (i + 1) := List.take_of_length_le (by rw [chain_len]; omega)
  have hn := gt_take_none k1 (Nat.le_refl _) hl
  have hi := ins_next k1 hl
  have e3 : ((chain (i + 1))[i]).2.2 = 0 := by simp [chain]
  rw [k3 i (by omega), e1] at hn hi
  rw [e3, e2] at hi
  exact ⟨hn, hi⟩

/-- 'a', an Open, so often. -/
def dpW : Nat → Bs → Bs
  | 0, e => e
  | n + 1, e => 97 :: 123 :: dpW n e
def dpC (n : Nat) : Bs := List.replicate n 125
theorem dpW_len (e : Bs) : ∀ n, (dpW n e).length = 2 * n + e.length
  | 0 => by simp [dpW]
  | n + 1 => by simp only [dpW, List.length_cons, dpW_len e n]; omega
def dpT (e : Bs) : Nat → List RTok
  | 0 => []
  | n + 1 => (1, 2 * n + 2 + e.length, [97], 0) :: (2, 2 * n + 1 + e.length, [], 0) :: dpT e n
theorem lex_dp (e : Bs) : ∀ n, lexR (dpW n e) = appE (dpT e n) (lexR e)
  | 0 => (appE_nil _).symm
  | n + 1 => by
    have hq : quoteS [97] = [97] := by kernel_rfl
    have h1 := lex_quote [97] (123 :: dpW n e) (by simp) (stops_c (by decide) _)
    have e1 : (([97] : Bs) ++ 123 :: dpW n e).length = 2 * n + 2 + e.length := by simp only [List.length_append, List.length_cons, List.length_nil, dpW_len]; omega
    have e2 : (dpW n e).length + 1 = 2 * n + 1 + e.length := by rw [dpW_len]; omega
    rw [hq, e1, lex_sign 123 2 _ (.inl ⟨rfl, rfl⟩), e2, lex_dp e n, appE_one, appE_one, appE_app2, appE_app2] at h1
    exact h1
theorem lex_cl : ∀ n, ∃ l, lexR (dpC n) = .ok l ∧ l.length = n ∧ ∀ x ∈ l, x.1 = 3
  | 0 => ⟨[], rfl, rfl, (by simp)⟩
  | n + 1 => by
    obtain ⟨l, h1, h2, h3⟩ := lex_cl n
    refine ⟨(3, (dpC n).length + 1, [], 0) :: l, ?_, by simp [h2], fun x hx => ?_⟩
    · show lexR (125 :: dpC n) = _
      rw [lex_sign 125 3 _ (.inr (.inl ⟨rfl, rfl⟩)), h1]; rfl
    · rcases List.mem_cons.1 hx with rfl | hx
      · rfl
      · exact h3 x hx
theorem run_cl {L : Int} {s : List Ln} : ∀ (l : List Tok) (p : List Bs), (∀ x ∈ l, x.1 = 3) → l.length = p.length → runA L s p l = .ok s
  | [], p, _, h => by
    have : p = [] := List.eq_nil_of_length_eq_zero (by simpa using h.symm)
    subst this
    rw [runA_nil, if_pos rfl]
  | x :: l, p, hx, h => by
    have hp : p ≠ [] := fun e => by subst e; simp at h
    have hs : stS L s p (x :: l) = .ok (s, p.dropLast, l) := by
      rw [stS_cons]
      rw [if_pos (hx x List.mem_cons_self), if_neg hp]
    rw [runA_step hs]
    exact run_cl l p.dropLast (fun y hy => hx y (List.mem_cons_of_mem _ hy)) (by rw [List.length_dropLast]; simp at h; omega)
/-- A Name and an Open. -/
theorem st_open {L : Int} {t : List Ln} {p : List Bs} {x z : Tok} {r : List Tok} (hx : x.1 = 1) (hz : z.1 = 2) : stS L t p (x :: z :: r) =
    if 16 ≤ p.length then .error (x.2.1, 6) else if gt t (p ++ [x.2.2.1]) ≠ none then .error (x.2.1, 4) else if 200 ≤ t.length then .error (x.2.1, 5) else .ok (insT t (p ++ [x.2.2.1]) 0, p ++ [x.2.2.1], r) := by
  have hm : mrkS 0 (x :: z :: r) = (0, x :: z :: r, true) := by rw [mrkS_cons, if_neg (by omega)]
  rw [stS_cons, if_neg (by omega), hm]
  dsimp only
  rw [if_pos rfl, lineS_cons, if_pos hx]
  dsimp only
  rw [if_pos hz]
theorem run_dp (N : Nat) (e : Bs) (l : List Tok) {L : Int} : ∀ (n i : Nat), i ≤ 16 → runA L (chain i) (List.replicate i [97]) ((dpT e n).map (toTok N) ++ l) =
    if i + n ≤ 16 then runA L (chain (i + n)) (List.replicate (i + n) [97]) l else .error ((N : Int) - (2 * ((n : Int) - (16 - (i : Int))) + (e.length : Int)), 6)
  | 0, i, hi => by rw [if_pos (by omega)]; rfl
  | n + 1, i, hi => by
    have hrep : List.replicate i ([97] : Bs) ++ [[97]] = List.replicate (i + 1) [97] := by rw [List.replicate_succ']
    have hc : (dpT e (n + 1)).map (toTok N) ++ l = toTok N (1, 2 * n + 2 + e.length, [97], 0) :: toTok N (2, 2 * n + 1 + e.length, [], 0) :: ((dpT e n).map (toTok N) ++ l) := rfl
    have hx := st_open (L := L) (t := chain i) (p := List.replicate i [97]) (x := toTok N (1, 2 * n + 2 + e.length, [97], 0)) (z := toTok N (2, 2 * n + 1 + e.length, [], 0)) (r := (dpT e n).map (toTok N) ++ l) rfl rfl
    have hw : (toTok N (1, 2 * n + 2 + e.length, [97], 0)).2.2.1 = [97] := rfl
    have ha : (toTok N (1, 2 * n + 2 + e.length, [97], 0)).2.1 = (N : Int) - ((2 * n + 2 + e.length : Nat) : Int) := rfl
    rw [hw, ha, List.length_replicate, hrep] at hx
    by_cases h16 : 16 ≤ i
    · rw [if_pos h16] at hx
      rw [hc, runA_err hx, if_neg (by omega)]
      congr 2
      omega
    · rw [if_neg h16] at hx
      obtain ⟨c1, c2⟩ := chain_ins (i := i) (by omega)
      rw [if_neg (by simp [c1]), chain_len, if_neg (by omega), c2] at hx
      rw [hc, runA_step hx]
      dsimp only
      rw [run_dp N e l n (i + 1) (by omega), show i + 1 + n = i + (n + 1) by omega]
      split
      · rfl
      · congr 2
        omega

end Go.Proofs.Ytmohgkoomnihfaa.Vc

/-
  THE DOCUMENT'S READER OF A TEXT, AS DATA: what it answers, token by token. No condition.
-/
set_option linter.unusedVariables false
set_option linter.unusedSimpArgs false
set_option maxRecDepth 100000
namespace Go.Proofs.Ytmohgkoomnihfaa.Vc

def resS (e : Except (Int × Int) (List Ln)) : List Ln × Int × Int := match e with
  | .ok t => (t, 0, 0)
  | .error e => ([], e.1, e.2)
/-- What is answered: the tree; or the place and the error. -/
def treeS (s : Bs) : List Ln × Int × Int := match lexR s with
  | .ok l => resS (runA (s.length : Int) [] [] (l.map (toTok s.length)))
  | .error (k, e) => ([], (s.length : Int) - (k : Int), e)

theorem drop_tok {l : List Tok} {j : Int} {y : Tok} {r : List Tok} (h0 : 0 ≤ j) (h : l.drop j.toNat = y :: r) : inR j l.length ∧ atI (.pair tI tLn) l j = y ∧ l.drop (j + 1).toNat = r ∧ j + 1 ≤ l.length := by
  have hlt : j.toNat < l.length := by
    rcases Nat.lt_or_ge j.toNat l.length with h1 | h1
    · exact h1
    · rw [List.drop_of_length_le h1] at h; cases h
  rw [List.drop_eq_getElem_cons hlt] at h
  injection h with e1 e2
  refine ⟨⟨h0, by omega⟩, ?_, by rw [← e2]; congr 1; omega, by omega⟩
  show l.getD j.toNat _ = y
  rw [List.getD_eq_getElem?_getD, List.getElem?_eq_getElem hlt, ← e1]; rfl

theorem good_bit {x : Tok} (h : gdK x) (h5 : x.1 = 5) : x.2.2.2 = 1 ∨ x.2.2.2 = 2 := by
  rcases h with ⟨g, _⟩ | ⟨g, _⟩ | ⟨_, _, g⟩
  · simp only at g; omega
  · simp only at g; omega
  · exact g

theorem R_marks (N : Nat) (s : Bs) (l : List Tok) (t : List Ln) (p : List Bs) (i : Int) (hg : ∀ x ∈ l, gdK x) (h0 : 0 ≤ i) (h1 : i ≤ l.length) (hl : l.length ≤ 1000000) (hN : l.length < N) :
    W12_14 N (s, l, t, p, i, 0) = some (if (mrkS 0 (l.drop i.toNat)).2.2 = true then .brk 0 (s, l, t, p, (l.length : Int) - ((mrkS 0 (l.drop i.toNat)).2.1.length : Int), (mrkS 0 (l.drop i.toNat)).1)
      else .ret ([], atS (s.length : Int) (mrkS 0 (l.drop i.toNat)).2.1, 2)) := by
  unfold W12_14
  refine runLoop_eq (R := List Ln × Int × Int) (step := fun x => L12_14 N x.1 x.2.1 x.2.2.1 x.2.2.2.1 x.2.2.2.2.1 x.2.2.2.2.2)
    (fun x => x.2.1 = l ∧ 0 ≤ x.2.2.2.2.1 ∧ x.2.2.2.2.1 ≤ l.length ∧ 0 ≤ x.2.2.2.2.2 ∧ x.2.2.2.2.2 ≤ 3) (fun x => (l.length - x.2.2.2.2.1).toNat)
    (fun x => if (mrkS x.2.2.2.2.2 (l.drop x.2.2.2.2.1.toNat)).2.2 = true then .brk 0 (x.1, l, x.2.2.1, x.2.2.2.1, (l.length : Int) - ((mrkS x.2.2.2.2.2 (l.drop x.2.2.2.2.1.toNat)).2.1.length : Int), (mrkS x.2.2.2.2.2 (l.drop x.2.2.2.2.1.toNat)).1)
      else .ret ([], atS (x.1.length : Int) (mrkS x.2.2.2.2.2 (l.drop x.2.2.2.2.1.toNat)).2.1, 2)) ?_ N (s, l, t, p, i, 0) ⟨rfl, h0, h1, Int.le_refl _, by simp only; omega⟩ (by simp only; omega)
  rintro ⟨s', l', t', p', j, m⟩ ⟨e1, j0, j1, m0, m3⟩
  dsimp only at e1 j0 j1 m0 m3 ⊢
  subst e1
  unfold L12_14 U12_14
  cases hd : l'.drop j.toNat with
  | nil =>
    have hj : j = l'.length := by
      have := congrArg List.length hd
      rw [List.length_drop] at this
      simp at this; omega
    right
    refine ⟨?_, fun y => by simp only [mrkS, if_true, reduceCtorEq]; exact fun h => by cases h⟩
    rw [ev_br, if_neg (by simp [hj]), ev_leaf]
    simp only [mrkS, if_true, List.length_nil, hj]
    simp
  | cons y r =>
    obtain ⟨c1, c2, c3, c4⟩ := drop_tok j0 hd
    have hlt : j < (l'.length : Int) := c1.2
    have hy : y ∈ l' := (List.drop_suffix j.toNat l').subset (by rw [hd]; simp)
    have hwj : IntKind.i64.wrap (j + 1) = j + 1 := wrapI (by omega) (by omega)
    rw [ev_br, if_pos (decide_eq_true hlt), ev_ck c1, ev_br, c2]
    by_cases h5 : y.1 = 5
    · have hb := good_bit (hg y hy) h5
      have hm : m = 0 ∨ m = 1 ∨ m = 2 ∨ m = 3 := by omega
      rw [if_pos (by simpa using h5), mrkS_cons, if_pos h5, ev_ck c1, ev_br]
      have c2' : (2 : Int) ≠ 0 := by decide
      have nx : ∀ b : Int, (b = 1 ∨ b = 2) → y.2.2.2 = b → dupB m b = false →
          (∃ z, (some (.next (s', l', t', p', j + 1, m + b)) : Option (Lp (Bs × List Tok × List Ln × List Bs × Int × Int) (List Ln × Int × Int))) = some (.next z) ∧ (z.2.1 = l' ∧ 0 ≤ z.2.2.2.2.1 ∧ z.2.2.2.2.1 ≤ l'.length ∧ 0 ≤ z.2.2.2.2.2 ∧ z.2.2.2.2.2 ≤ 3) ∧ (l'.length - z.2.2.2.2.1).toNat < (l'.length - j).toNat ∧
            (if (mrkS z.2.2.2.2.2 (l'.drop z.2.2.2.2.1.toNat)).2.2 = true then (.brk 0 (z.1, l', z.2.2.1, z.2.2.2.1, (l'.length : Int) - ((mrkS z.2.2.2.2.2 (l'.drop z.2.2.2.2.1.toNat)).2.1.length : Int), (mrkS z.2.2.2.2.2 (l'.drop z.2.2.2.2.1.toNat)).1) : Lp (Bs × List Tok × List Ln × List Bs × Int × Int) (List Ln × Int × Int))
              else .ret ([], atS (z.1.length : Int) (mrkS z.2.2.2.2.2 (l'.drop z.2.2.2.2.1.toNat)).2.1, 2)) =
            (if (mrkS (m + b) r).2.2 = true then .brk 0 (s', l', t', p', (l'.length : Int) - ((mrkS (m + b) r).2.1.length : Int), (mrkS (m + b) r).1) else .ret ([], atS (s'.length : Int) (mrkS (m + b) r).2.1, 2))) := fun b hb1 _ hdup => by
        refine ⟨_, rfl, ⟨rfl, by simp only; omega, by simp only; omega, by simp only; omega, ?_⟩, by simp only; omega, ?_⟩
        · simp only
          unfold dupB at hdup
          rcases hb1 with h | h <;> rw [h] at hdup ⊢ <;> simp at hdup <;> omega
        · dsimp only
          rw [c3]
      have wm : ∀ b : Int, (b = 1 ∨ b = 2) → IntKind.i64.wrap (m + b) = m + b := fun b hb1 => wrapI (by omega) (by omega)
      have tm : m.tmod 2 = m % 2 := Int.tmod_eq_emod_of_nonneg m0
      rcases hb with hb | hb
      · rw [hb, if_pos (by simp), ev_ck c2', ev_br, tm]
        by_cases hdp : m % 2 = 1
        · right
          have hdup : dupB m 1 = true := by unfold dupB; simp [hdp]
          rw [if_pos (by simpa using hdp), ev_ck c1, ev_leaf, if_pos hdup]
          refine ⟨?_, fun z h => ?_⟩
          · simp [atS]
          · simp at h
        · left
          have hdup : dupB m 1 = false := by unfold dupB; simp [hdp]
          rw [if_neg (by simpa using hdp), ev_ck c1, ev_br, if_neg (by simp), ev_ck c1, ev_leaf, hwj, wm 1 (.inl rfl)]
          simp only [hdup, Bool.false_eq_true, if_false]
          exact nx 1 (.inl rfl) hb hdup
      · rw [hb, if_neg (by simp), ev_ck c1, ev_br, if_pos (by simp), ev_br]
        by_cases hdp : 1 < m
        · right
          have hdup : dupB m 2 = true := by unfold dupB; simp [hdp]
          rw [if_pos (by simpa using hdp), ev_ck c1, ev_leaf, if_pos hdup]
          refine ⟨?_, fun z h => ?_⟩
          · simp [atS]
          · simp at h
        · left
          have hdup : dupB m 2 = false := by unfold dupB; simp [hdp]
          rw [if_neg (by simpa using hdp), ev_ck c1, ev_leaf, hwj, wm 2 (.inr rfl)]
          simp only [hdup, Bool.false_eq_true, if_false]
          exact nx 2 (.inr rfl) hb hdup
    · right
      rw [if_neg (by simpa using h5), ev_leaf, mrkS_cons, if_neg h5]
      refine ⟨?_, fun z h => ?_⟩
      · have hln : (l'.length : Int) - ((y :: r).length : Int) = j := by
          have := congrArg List.length hd
          rw [List.length_drop] at this
          omega
        simp only [if_true]
        rw [hln]
      · simp at h

theorem mrkS_drop {l : List Tok} {i : Int} (h0 : 0 ≤ i) (h1 : i ≤ l.length) : l.drop ((l.length : Int) - ((mrkS 0 (l.drop i.toNat)).2.1.length : Int)).toNat = (mrkS 0 (l.drop i.toNat)).2.1 := by
  have hs := (mrkS_len (l.drop i.toNat) 0).trans (List.drop_suffix i.toNat l)
  have hl := hs.length_le
  have := List.suffix_iff_eq_drop.1 hs
  rw [show ((l.length : Int) - ((mrkS 0 (l.drop i.toNat)).2.1.length : Int)).toNat = l.length - (mrkS 0 (l.drop i.toNat)).2.1.length by omega]
  exact this.symm
theorem runA_eq {L : Int} {t : List Ln} {p : List Bs} {l : List Tok} (hne : l ≠ []) : runA L t p l = match stS L t p l with
    | .error e => .error e
    | .ok q => runA L q.1 q.2.1 q.2.2 := by
  cases l with
  | nil => exact absurd rfl hne
  | cons x r =>
    cases hs : stS L t p (x :: r) with
    | error e => exact runA_err hs
    | ok q => exact runA_step hs
theorem R_loop (N : Nat) (s : Bs) (l : List Tok) (hg : ∀ x ∈ l, gdK x) (hl : l.length ≤ 1000000) (hN : l.length + 1000 < N) :
    lp1 (W12_7 N (s, l, [], [], 0)) id (fun x4 => if decide ((0 : Int) < (x4.2.2.2.1.length : Int)) = true then some (([] : List Ln), (x4.1.length : Int), (2 : Int)) else some (x4.2.2.1, (0 : Int), (0 : Int))) = some (resS (runA (s.length : Int) [] [] l)) := by
  obtain ⟨R, hR⟩ : ∃ R, resS (runA (s.length : Int) [] [] l) = R := ⟨_, rfl⟩
  obtain ⟨o, ho, hp⟩ := runLoop_post (R := List Ln × Int × Int) (step := fun x => L12_7 N x.1 x.2.1 x.2.2.1 x.2.2.2.1 x.2.2.2.2)
    (fun x => x.1 = s ∧ x.2.1 = l ∧ PInv x.2.2.1 x.2.2.2.1 ∧ 0 ≤ x.2.2.2.2 ∧ x.2.2.2.2 ≤ l.length ∧ resS (runA (s.length : Int) x.2.2.1 x.2.2.2.1 (l.drop x.2.2.2.2.toNat)) = R) (fun x => (l.length - x.2.2.2.2).toNat)
    (fun o => lp1 (some o) id (fun x4 => if decide ((0 : Int) < (x4.2.2.2.1.length : Int)) = true then some (([] : List Ln), (x4.1.length : Int), (2 : Int)) else some (x4.2.2.1, (0 : Int), (0 : Int))) = some R)
    (by
      rintro ⟨s', l', t, p, i⟩ ⟨e1, e2, hi, i0, i1, hr⟩
      dsimp only at e1 e2 hi i0 i1 hr ⊢
      subst e1; subst e2
      unfold L12_7 U12_7
      cases hd : l'.drop i.toNat with
      | nil =>
        have hii : i = l'.length := by
          have := congrArg List.length hd
          rw [List.length_drop] at this
          simp at this; omega
        refine ⟨_, by rw [ev_br, if_neg (by simp [hii]), ev_leaf], .inr ⟨fun y h => (by cases h), ?_⟩⟩
        rw [hd, runA_nil] at hr
        rw [lp1_brk]
        dsimp only
        by_cases hp0 : p = []
        · subst hp0
          rw [if_pos rfl] at hr
          rw [if_neg (by simp), ← hr]; rfl
        · rw [if_neg hp0] at hr
          have := List.length_pos_iff.2 hp0
          rw [if_pos (decide_eq_true (by omega)), ← hr]; rfl
      | cons x r =>
        obtain ⟨c1, c2, c3, c4⟩ := drop_tok i0 hd
        have hlt : i < (l'.length : Int) := c1.2
        have hwi : IntKind.i64.wrap (i + 1) = i + 1 := wrapI (by omega) (by omega)
        have hgd : ∀ y ∈ l'.drop i.toNat, gdK y := fun y hy => hg y ((List.drop_suffix _ _).subset hy)
        have hne : l'.drop i.toNat ≠ [] := by rw [hd]; simp
        rw [ev_br, if_pos (decide_eq_true hlt), ev_ck c1, ev_br, c2]
        rw [runA_eq hne] at hr
        by_cases h3 : x.1 = 3
        · rw [if_pos (by simpa using h3), ev_br]
          by_cases hp0 : p = []
          · have hst : stS (s'.length : Int) t p (l'.drop i.toNat) = .error (x.2.1, 2) := by rw [hd, stS_cons, if_pos h3, if_pos hp0]
            rw [hst] at hr
            subst hp0
            refine ⟨_, by rw [if_pos (by simp), ev_ck c1, ev_leaf], .inr ⟨fun y h => (by cases h), ?_⟩⟩
            rw [lp1_ret, ← hr]; rfl
          · have hst : stS (s'.length : Int) t p (l'.drop i.toNat) = .ok (t, p.dropLast, r) := by rw [hd, stS_cons, if_pos h3, if_neg hp0]
            have hpl := List.length_pos_iff.2 hp0
            have hdp := hi.deep
            have hwp : IntKind.i64.wrap ((p.length : Int) - 1) = (p.length : Int) - 1 := wrapI (by omega) (by omega)
            have hck : (0 : Int) ≤ 0 ∧ (0 : Int) ≤ (p.length : Int) - 1 ∧ (p.length : Int) - 1 ≤ (p.length : Int) := ⟨by omega, by omega, by omega⟩
            rw [hst] at hr
            refine ⟨_, by rw [if_neg (by simp; omega), hwp, ev_ck hck, ev_leaf, hwi], .inl ⟨_, rfl, ⟨rfl, rfl, ?_, by simp only; omega, by simp only; omega, ?_⟩, by simp only; omega⟩⟩
            · dsimp only
              rw [slc0, show ((p.length : Int) - 1).toNat = p.length - 1 by omega, ← List.dropLast_eq_take]
              exact (st_inv hi hgd hst).1
            · dsimp only
              rw [slc0, show ((p.length : Int) - 1).toNat = p.length - 1 by omega, ← List.dropLast_eq_take, c3]
              exact hr
        · have hm := R_marks N s' l' t p i hg i0 (by omega) hl (by omega)
          rw [if_neg (by simpa using h3)]
          simp only [Vt.g1, ev_loop1, hm]
          have hmd := mrkS_drop i0 (show i ≤ (l'.length : Int) by omega)
          have hms := (mrkS_len (l'.drop i.toNat) 0).length_le
          have hst0 : stS (s'.length : Int) t p (l'.drop i.toNat) = if (mrkS 0 (l'.drop i.toNat)).2.2 = true then lineS (s'.length : Int) t p (mrkS 0 (l'.drop i.toNat)).1 (mrkS 0 (l'.drop i.toNat)).2.1 else .error (atS (s'.length : Int) (mrkS 0 (l'.drop i.toNat)).2.1, 2) := by
            rw [hd, stS_cons, if_neg h3]
          have hmsub : ∀ y ∈ (mrkS 0 (l'.drop i.toNat)).2.1, gdK y := fun y hy => hgd y ((mrkS_len _ _).subset hy)
          rw [List.length_drop] at hms
          by_cases hb : (mrkS 0 (l'.drop i.toNat)).2.2 = true
          · rw [if_pos hb, lp1_brk]
            rw [if_pos hb] at hst0
            have hinv := fun t' p' l2 (hq : stS (s'.length : Int) t p (l'.drop i.toNat) = .ok (t', p', l2)) => (st_inv hi hgd hq).1
            revert hmd hms hst0 hmsub hinv
            generalize hmm : (mrkS 0 (l'.drop i.toNat)).1 = m
            generalize hqq : (mrkS 0 (l'.drop i.toNat)).2.1 = q
            intro hmd hms hst0 hmsub hinv
            obtain ⟨j, hj⟩ : ∃ j : Int, (l'.length : Int) - (q.length : Int) = j := ⟨_, rfl⟩
            rw [hj] at hmd ⊢
            have hj0 : 0 ≤ j := by omega
            cases q with
            | nil =>
              have hjl : j = (l'.length : Int) := by simp at hj; omega
              rw [hst0] at hr
              refine ⟨_, by rw [ev_br, if_pos (by simpa using hjl), ev_leaf], .inr ⟨fun y h => (by cases h), ?_⟩⟩
              rw [lp1_ret, ← hr]; rfl
            | cons y q =>
              obtain ⟨d1, d2, d3, d4⟩ := drop_tok hj0 hmd
              have hjlt : j < (l'.length : Int) := d1.2
              have hgy := hmsub y (by simp)
              have hwj : IntKind.i64.wrap (j + 1) = j + 1 := wrapI (by omega) (by omega)
              rw [lineS_cons] at hst0
              have n1 : ¬(j == (l'.length : Int)) = true := by simp; omega
              simp only [ev_br, ev_c1, ev_leaf, ev_ck0, hwj, d2, if_pos d1]
              rw [if_neg n1]
              by_cases h1 : y.1 = 1
              · rw [if_neg (by simpa using h1)]
                rw [if_pos h1] at hst0
                have hdp := hi.deep
                by_cases h16 : 16 ≤ p.length
                · rw [if_pos h16] at hst0
                  rw [hst0] at hr
                  refine ⟨_, by rw [if_pos (by simp; omega)], .inr ⟨fun y h => (by cases h), ?_⟩⟩
                  rw [lp1_ret, ← hr]; rfl
                · rw [if_neg h16] at hst0
                  have hw := R_with N p y.2.2.1 (by omega)
                  have hf := R_finds N t (p ++ [y.2.2.1]) hi.tree (by have := hi.few; omega) (by simp; omega) (by have := hi.few; omega)
                  rw [if_neg (by simp; omega), hw, obind_some, hf, obind_some]
                  by_cases hgt : gt t (p ++ [y.2.2.1]) = none
                  · have hfn := fnd_none0.2 hgt
                    rw [if_neg (by simp [hgt])] at hst0
                    rw [hfn]
                    dsimp only
                    rw [if_neg (by simp)]
                    have hfew := hi.few
                    by_cases h200 : 200 ≤ t.length
                    · rw [if_pos h200] at hst0
                      rw [hst0] at hr
                      refine ⟨_, by rw [if_pos (by simp; omega)], .inr ⟨fun y h => (by cases h), ?_⟩⟩
                      rw [lp1_ret, ← hr]; rfl
                    · rw [if_neg h200] at hst0
                      have hput := R_put N t p y.2.2.1 m hi.tree (by omega) hgt hi.there (by omega) (by omega)
                      rw [if_neg (by simp; omega), hput, obind_some]
                      cases q with
                      | nil =>
                        have hjl : j + 1 = (l'.length : Int) := by
                          have := congrArg List.length d3
                          rw [List.length_drop] at this
                          simp at this; omega
                        dsimp only at hst0
                        rw [hst0] at hr
                        refine ⟨_, by rw [if_pos (by simpa using hjl)], .inr ⟨fun y h => (by cases h), ?_⟩⟩
                        rw [lp1_ret, ← hr]; rfl
                      | cons z q =>
                        obtain ⟨f1, f2, f3, f4⟩ := drop_tok (show 0 ≤ j + 1 by omega) d3
                        have hjlt2 : j + 1 < (l'.length : Int) := f1.2
                        have hwj2 : IntKind.i64.wrap (j + 1 + 1) = j + 1 + 1 := wrapI (by omega) (by omega)
                        dsimp only at hst0
                        simp only [if_pos f1, f2, hwj2]
                        rw [if_neg (by simp; omega)]
                        by_cases hz : z.1 = 2
                        · rw [if_pos hz] at hst0
                          rw [hst0] at hr
                          refine ⟨_, by rw [if_pos (by simpa using hz)], .inl ⟨_, rfl, ⟨rfl, rfl, hinv _ _ _ hst0, by simp only; omega, by simp only; omega, ?_⟩, by simp only; omega⟩⟩
                          dsimp only
                          rw [f3]
                          exact hr
                        · rw [if_neg hz] at hst0
                          rw [if_neg (by simpa using hz)]
                          by_cases hz4 : z.1 = 4
                          · rw [if_pos hz4] at hst0
                            rw [hst0] at hr
                            refine ⟨_, by rw [if_neg (by simpa using hz4)], .inl ⟨_, rfl, ⟨rfl, rfl, hinv _ _ _ hst0, by simp only; omega, by simp only; omega, ?_⟩, by simp only; omega⟩⟩
                            dsimp only
                            rw [f3]
                            exact hr
                          · rw [if_neg hz4] at hst0
                            rw [hst0] at hr
                            refine ⟨_, by rw [if_pos (by simpa using hz4)], .inr ⟨fun y h => (by cases h), ?_⟩⟩
                            rw [lp1_ret, ← hr]; rfl
                  · rw [if_pos hgt] at hst0
                    rw [hst0] at hr
                    cases hfn : fnd t (p ++ [y.2.2.1]) with
                    | none => exact absurd (fnd_none0.1 hfn) hgt
                    | some k =>
                      have hk0 : (0 : Int) ≤ (k : Int) := Int.natCast_nonneg k
                      dsimp only
                      refine ⟨_, by rw [if_pos (decide_eq_true hk0)], .inr ⟨fun y h => (by cases h), ?_⟩⟩
                      rw [lp1_ret, ← hr]; rfl
              · rw [if_neg h1] at hst0
                rw [hst0] at hr
                refine ⟨_, by rw [if_pos (by simpa using h1)], .inr ⟨fun y h => (by cases h), ?_⟩⟩
                rw [lp1_ret, ← hr]; rfl
          · rw [if_neg hb, lp1_ret]
            rw [if_neg hb] at hst0
            rw [hst0] at hr
            refine ⟨_, rfl, .inr ⟨fun y h => (by cases h), ?_⟩⟩
            rw [lp1_ret, ← hr]; rfl) N (s, l, [], [], 0) ⟨rfl, rfl, PInv.nil, Int.le_refl _, by simp only; omega, hR⟩ (by simp only; omega)
  unfold W12_7
  rw [ho, hp, hR]

theorem toTok_good {n : Nat} {l : List RTok} (h : ∀ k ∈ l, goodK k) : ∀ x ∈ l.map (toTok n), gdK x := fun x hx => by
  obtain ⟨k, hk, rfl⟩ := List.mem_map.1 hx
  have := h k hk
  exact this
theorem R_tree (N : Nat) (s : Bs) (hN : s.length + 2000 < N) (hL : s.length ≤ 100000) : F12 N s = some (treeS s) := by
  unfold F12 V12
  rw [ev_c3, R_all N s (by omega) hL, obind_some, ev_br]
  unfold allS treeS
  cases hx : lexR s with
  | error ke =>
    obtain ⟨k, e⟩ := ke
    have he := (lex_err s.length s k e (Nat.le_refl _) hx).2.2
    dsimp only
    rw [if_pos (by simpa using he), ev_leaf]
  | ok l =>
    have hl := lex_len s l hx
    dsimp only
    rw [if_neg (by simp), ev_f1]
    have := R_loop N s (l.map (toTok s.length)) (toTok_good (lex_good hx)) (by simp; omega) (by simp; omega)
    rw [← this]
    congr 1
    funext x4
    rw [ev_br, ev_leaf, ev_leaf]

end Go.Proofs.Ytmohgkoomnihfaa.Vc

/-
  THE PROGRAM'S READER OF A TEXT, AS DATA: statement by statement. No condition.
-/
set_option linter.unusedVariables false
set_option linter.unusedSimpArgs false
set_option maxRecDepth 100000
namespace Go.Proofs.Ytmohgkoomnihfaa.Vc

/-! ### Nodes, and the tree that they are -/

abbrev PS := List Tok × (Int × (List (Ln × Int) × List Int))
def kindT : List Tok → Int
  | [] => 0
  | x :: _ => x.1
def topS (o : List Int) : Int := o.getLastD (-1)
def upP (P : List (List Bs)) (u : Int) : List Bs := if u < 0 then [] else P.getD u.toNat []
/-- Nodes, in the order in which they were read, with their paths P; those that are open; and the tree and the path that these are. -/
structure Rl (P : List (List Bs)) (nd : List (Ln × Int)) (op : List Int) (t : List Ln) (p : List Bs) : Prop where
  len : P.length = nd.length
  node : ∀ (i : Nat) (h : i < nd.length), -1 ≤ (nd[i]).2 ∧ (nd[i]).2 < i ∧ P.getD i [] = upP P (nd[i]).2 ++ [(nd[i]).1.2.1] ∧ (nd[i]).1.1 = ((P.getD i []).length : Int) - 1
  uniq : P.Nodup
  map : ∀ q m, gt t q = some m ↔ ∃ (i : Nat) (h : i < nd.length), P.getD i [] = q ∧ (nd[i]).1.2.2 = m
  tlen : t.length = nd.length
  olen : op.length = p.length
  path : ∀ (k : Nat) (h : k < op.length), 0 ≤ op[k] ∧ op[k] < nd.length ∧ P.getD (op[k]).toNat [] = p.take (k + 1)

theorem Rl.nil : Rl [] [] [] [] [] := ⟨rfl, fun i h => by simp at h, List.nodup_nil, fun q m => by
  constructor
  · intro h; rw [gt_empty] at h; cases h
  · rintro ⟨i, h, _⟩; simp at h, rfl, rfl, fun k h => by simp at h⟩
theorem getD_in {P : List (List Bs)} {i : Nat} (h : i < P.length) : P.getD i [] = P[i] := by simp [h]
theorem Rl.inj {P : List (List Bs)} {nd : List (Ln × Int)} {op : List Int} {t : List Ln} {p : List Bs} (h : Rl P nd op t p) {i j : Nat} (hi : i < nd.length) (hj : j < nd.length) (he : P.getD i [] = P.getD j []) : i = j := by
  have h1 : i < P.length := by rw [h.len]; exact hi
  have h2 : j < P.length := by rw [h.len]; exact hj
  rw [getD_in h1, getD_in h2] at he
  exact (List.getElem_inj h.uniq).1 he
theorem Rl.ne {P : List (List Bs)} {nd : List (Ln × Int)} {op : List Int} {t : List Ln} {p : List Bs} (h : Rl P nd op t p) {i : Nat} (hi : i < nd.length) : P.getD i [] ≠ [] := by
  rw [(h.node i hi).2.2.1]; simp
theorem Rl.top {P : List (List Bs)} {nd : List (Ln × Int)} {op : List Int} {t : List Ln} {p : List Bs} (h : Rl P nd op t p) : upP P (topS op) = p ∧ -1 ≤ topS op ∧ topS op < nd.length := by
  rcases List.eq_nil_or_concat op with rfl | ⟨o, k, rfl⟩
  · have : p = [] := List.eq_nil_of_length_eq_zero (by have := h.olen; simpa using this.symm)
    subst this
    exact ⟨rfl, by simp [topS], by simp [topS]; omega⟩
  · have e : topS (o.concat k) = k := by unfold topS; simp
    have hl : o.length < (o.concat k).length := by simp
    obtain ⟨h1, h2, h3⟩ := h.path o.length hl
    have hk : (o.concat k)[o.length] = k := by simp
    rw [hk] at h1 h2 h3
    have hol := h.olen
    rw [List.length_concat] at hol
    rw [List.take_of_length_le (by omega)] at h3
    rw [e]
    refine ⟨?_, by omega, h2⟩
    unfold upP
    rw [if_neg (by omega), h3]
/-- A path's node stands under the node of what is ahead of its last word. -/
theorem Rl.under {P : List (List Bs)} {nd : List (Ln × Int)} {op : List Int} {t : List Ln} {p : List Bs} (h : Rl P nd op t p) {i : Nat} (hi : i < nd.length) {u : Int} (hu : -1 ≤ u) (hun : u < nd.length) {w : Bs} (he : P.getD i [] = upP P u ++ [w]) : (nd[i]).2 = u ∧ (nd[i]).1.2.1 = w := by
  obtain ⟨h1, h2, h3, _⟩ := h.node i hi
  rw [h3] at he
  have h4 := List.append_inj' he rfl
  have h5 : (nd[i]).1.2.1 = w := by simpa using h4.2
  refine ⟨?_, h5⟩
  have h6 := h4.1
  unfold upP at h6
  by_cases a : (nd[i]).2 < 0
  · by_cases b : u < 0
    · omega
    · rw [if_pos a, if_neg b] at h6
      exact absurd h6.symm (h.ne (by omega))
  · by_cases b : u < 0
    · rw [if_neg a, if_pos b] at h6
      exact absurd h6 (h.ne (by omega))
    · rw [if_neg a, if_neg b] at h6
      have := h.inj (by omega) (by omega) h6
      omega
theorem Rl.has {P : List (List Bs)} {nd : List (Ln × Int)} {op : List Int} {t : List Ln} {p : List Bs} (h : Rl P nd op t p) (w : Bs) : (nd.any fun n => n.2 == topS op && n.1.2.1 == w) = true ↔ gt t (p ++ [w]) ≠ none := by
  obtain ⟨t1, t2, t3⟩ := h.top
  rw [List.any_eq_true]
  constructor
  · rintro ⟨n, hn, hb⟩
    obtain ⟨i, hi, rfl⟩ := List.getElem_of_mem hn
    rw [Bool.and_eq_true, beq_iff_eq, beq_iff_eq] at hb
    have h3 := (h.node i hi).2.2.1
    rw [hb.1, hb.2, t1] at h3
    rw [(h.map (p ++ [w]) (nd[i]).1.2.2).2 ⟨i, hi, h3, rfl⟩]
    simp
  · intro hg
    cases hm : gt t (p ++ [w]) with
    | none => exact absurd hm hg
    | some m =>
      obtain ⟨i, hi, h3, _⟩ := (h.map _ _).1 hm
      have := h.under hi t2 t3 (w := w) (by rw [h3, t1])
      exact ⟨nd[i], List.getElem_mem hi, by rw [this.1, this.2]; simp⟩
theorem getD_app {P : List (List Bs)} {q : List Bs} {i : Nat} (h : i < P.length) : (P ++ [q]).getD i [] = P.getD i [] := by
  rw [List.getD_eq_getElem?_getD, List.getElem?_append_left h, ← List.getD_eq_getElem?_getD]
theorem getD_end {P : List (List Bs)} {q : List Bs} : (P ++ [q]).getD P.length [] = q := by
  rw [List.getD_eq_getElem?_getD, List.getElem?_append_right (Nat.le_refl _)]; simp
theorem upP_app {P : List (List Bs)} {q : List Bs} {u : Int} (h : u < P.length) : upP (P ++ [q]) u = upP P u := by
  unfold upP
  by_cases hu : u < 0
  · rw [if_pos hu, if_pos hu]
  · rw [if_neg hu, if_neg hu, getD_app (by omega)]
/-- A line more. -/
theorem Rl.push {P : List (List Bs)} {nd : List (Ln × Int)} {op : List Int} {t : List Ln} {p : List Bs} (h : Rl P nd op t p) (hi : PInv t p) {w : Bs} {m : Int} (hg : gt t (p ++ [w]) = none) (hw : w.length ≤ 40) (h16 : p.length < 16) (m0 : 0 ≤ m) (m3 : m ≤ 3) :
    Rl (P ++ [p ++ [w]]) (nd ++ [(((op.length : Int), w, m), topS op)]) op (insT t (p ++ [w]) m) p ∧ Rl (P ++ [p ++ [w]]) (nd ++ [(((op.length : Int), w, m), topS op)]) (op ++ [(nd.length : Int)]) (insT t (p ++ [w]) m) (p ++ [w]) := by
  obtain ⟨t1, t2, t3⟩ := h.top
  have hl := h.len
  obtain ⟨i1, i2⟩ := insT_tree hi.tree (m := m) hg (by simp) (by simp; omega) (by simpa using hw) m0 m3 (by rw [List.dropLast_concat]; exact hi.there)
  have hlast : (p ++ [w] : List Bs) ∉ P := fun hm => by
    obtain ⟨i, hi', he⟩ := List.getElem_of_mem hm
    have := (h.map (p ++ [w]) (nd[i]'(by omega)).1.2.2).2 ⟨i, by omega, by rw [getD_in hi', he], rfl⟩
    rw [hg] at this; cases this
  have hnode : ∀ (i : Nat) (h : i < (nd ++ [(((op.length : Int), w, m), topS op)]).length), -1 ≤ ((nd ++ [(((op.length : Int), w, m), topS op)])[i]).2 ∧ ((nd ++ [(((op.length : Int), w, m), topS op)])[i]).2 < i ∧
      (P ++ [p ++ [w]]).getD i [] = upP (P ++ [p ++ [w]]) ((nd ++ [(((op.length : Int), w, m), topS op)])[i]).2 ++ [((nd ++ [(((op.length : Int), w, m), topS op)])[i]).1.2.1] ∧
      ((nd ++ [(((op.length : Int), w, m), topS op)])[i]).1.1 = (((P ++ [p ++ [w]]).getD i []).length : Int) - 1 := fun i hi' => by
    by_cases hin : i < nd.length
    · obtain ⟨n1, n2, n3, n4⟩ := h.node i hin
      rw [List.getElem_append_left hin, getD_app (by omega), upP_app (by omega)]
      exact ⟨n1, n2, n3, n4⟩
    · have : i = nd.length := by simp at hi'; omega
      subst this
      have e : (nd ++ [(((op.length : Int), w, m), topS op)])[nd.length] = (((op.length : Int), w, m), topS op) := by simp
      rw [e, ← hl, getD_end, upP_app (by omega), t1]
      refine ⟨t2, by rw [hl]; exact t3, rfl, ?_⟩
      have := h.olen
      simp; omega
  have hmap : ∀ q m', gt (insT t (p ++ [w]) m) q = some m' ↔ ∃ (i : Nat) (h : i < (nd ++ [(((op.length : Int), w, m), topS op)]).length), (P ++ [p ++ [w]]).getD i [] = q ∧ ((nd ++ [(((op.length : Int), w, m), topS op)])[i]).1.2.2 = m' := fun q m' => by
    rw [i2]
    constructor
    · intro hq
      by_cases hqe : q = p ++ [w]
      · rw [if_pos hqe] at hq
        injection hq with hq
        refine ⟨nd.length, by simp, by rw [← hl, getD_end, hqe], by simp [hq]⟩
      · rw [if_neg hqe] at hq
        obtain ⟨i, hi', g1, g2⟩ := (h.map q m').1 hq
        exact ⟨i, by simp; omega, by rw [getD_app (by omega), g1], by rw [List.getElem_append_left hi', g2]⟩
    · rintro ⟨i, hi', g1, g2⟩
      by_cases hin : i < nd.length
      · rw [getD_app (by omega)] at g1
        rw [List.getElem_append_left hin] at g2
        have hq := (h.map q m').2 ⟨i, hin, g1, g2⟩
        rw [if_neg fun e => by rw [e, hg] at hq; cases hq]
        exact hq
      · have : i = nd.length := by simp at hi'; omega
        subst this
        rw [← hl, getD_end] at g1
        rw [if_pos g1.symm]
        simp at g2
        rw [g2]
  have hP : (P ++ [p ++ [w]]).Nodup := by
    rw [List.nodup_append]
    exact ⟨h.uniq, by simp, fun a ha b hb => by
      have : b = p ++ [w] := by simpa using hb
      subst this
      exact fun e => hlast (by rw [← e]; exact ha)⟩
  refine ⟨⟨by simp [hl], hnode, hP, hmap, by rw [insT_length, h.tlen]; simp, h.olen, fun k hk => ?_⟩, ⟨by simp [hl], hnode, hP, hmap, by rw [insT_length, h.tlen]; simp, by simp [h.olen], fun k hk => ?_⟩⟩
  · obtain ⟨g1, g2, g3⟩ := h.path k hk
    exact ⟨g1, by simp; omega, by rw [getD_app (by omega), g3]⟩
  · by_cases hko : k < op.length
    · obtain ⟨g1, g2, g3⟩ := h.path k hko
      rw [List.getElem_append_left hko]
      have := h.olen
      exact ⟨g1, by simp; omega, by rw [getD_app (by omega), g3, List.take_append_of_le_length (by omega)]⟩
    · have : k = op.length := by simp at hk; omega
      subst this
      have e : (op ++ [(nd.length : Int)])[op.length] = (nd.length : Int) := by simp
      have ho := h.olen
      rw [e]
      exact ⟨by omega, by simp; omega, by rw [Int.toNat_natCast, ← hl, getD_end, List.take_of_length_le (by simp; omega)]⟩
/-- A line shut. -/
theorem Rl.pop {P : List (List Bs)} {nd : List (Ln × Int)} {op : List Int} {t : List Ln} {p : List Bs} (h : Rl P nd op t p) : Rl P nd op.dropLast t p.dropLast := by
  refine ⟨h.len, h.node, h.uniq, h.map, h.tlen, by simp [h.olen], fun k hk => ?_⟩
  have hk' : k < op.length := by simp at hk; omega
  obtain ⟨g1, g2, g3⟩ := h.path k hk'
  have ho := h.olen
  rw [List.getElem_dropLast]
  refine ⟨g1, g2, ?_⟩
  simp at hk
  rw [g3, List.dropLast_eq_take, List.take_take, Nat.min_eq_left (by omega)]

/-! ### The parser's methods -/

theorem F_next (N : Nat) (a : PS) : F42g N a = some (a, kindT a.1, atS a.2.1 a.1) := by
  unfold F42g V42g
  obtain ⟨l, e, nd, op⟩ := a
  cases l with
  | nil => rfl
  | cons x r =>
    have c : inR 0 ((x :: r) : List Tok).length := ⟨Int.le_refl _, by simp only [List.length_cons]; omega⟩
    rw [ev_br, if_neg (by simp; omega), ev_ck c, ev_ck c, ev_leaf]
    rfl
theorem F_top (N : Nat) (a : PS) (hl : a.2.2.2.length ≤ 1000) : F65g N a = some (a, topS a.2.2.2) := by
  unfold F65g V65g
  obtain ⟨l, e, nd, op⟩ := a
  dsimp only at hl ⊢
  rcases List.eq_nil_or_concat op with rfl | ⟨o, k, rfl⟩
  · rfl
  · have hlen : ((o.concat k).length : Int) = (o.length : Int) + 1 := by simp
    have hw : IntKind.i64.wrap (((o.concat k).length : Int) - 1) = (o.length : Int) := by rw [hlen]; rw [wrapI (by omega) (by rw [List.length_concat] at hl; omega)]; omega
    have c : inR (o.length : Int) (o.concat k).length := ⟨by omega, by omega⟩
    have hn : ¬(((o.concat k).length : Int) == 0) = true := by rw [hlen]; simp; omega
    simp only [ev_br, ev_ck0, ev_leaf, hw]
    rw [if_neg hn, if_pos c, if_pos c]
    have e1 : atI tI (o.concat k) (o.length : Int) = k := by
      show (o.concat k).getD _ _ = k
      rw [Int.toNat_natCast, List.getD_eq_getElem?_getD]
      simp
    have e2 : topS (o.concat k) = k := by unfold topS; simp
    rw [e1, e2]

theorem bits_all : ∀ m b : Int, (m = 0 ∨ m = 1 ∨ m = 2 ∨ m = 3) → (b = 1 ∨ b = 2) → (IntKind.i64.wrap (((BitVec.ofInt IntKind.i64.bits m &&& BitVec.ofInt IntKind.i64.bits b).toNat : Int)) != 0) = dupB m b ∧ (dupB m b = false → IntKind.i64.wrap (((BitVec.ofInt IntKind.i64.bits m ||| BitVec.ofInt IntKind.i64.bits b).toNat : Int)) = m + b) := by
  intro m b hm hb
  rcases hm with rfl | rfl | rfl | rfl <;> rcases hb with rfl | rfl <;> exact ⟨by kernel_rfl, fun h => by first | (cases h; done) | kernel_rfl⟩

theorem F_marks (N : Nat) (l : List Tok) (z : Int × (List (Ln × Int) × List Int)) (hg : ∀ x ∈ l, gdK x) (hl : l.length ≤ 1000000) (hN : l.length < N) :
    F43g N (l, z) = some (((mrkS 0 l).2.1, z), if (mrkS 0 l).2.2 = true then (mrkS 0 l).1 else 0, (mrkS 0 l).2.2 && (kindT (mrkS 0 l).2.1 == 1)) := by
  unfold F43g V43g
  rw [ev_f1]
  have key := runLoop_eq (R := PS × Int × Bool) (step := fun x => L43g_2 N x.1 x.2)
    (fun x => (∀ y ∈ x.1.1, gdK y) ∧ x.1.1.length ≤ 1000000 ∧ 0 ≤ x.2 ∧ x.2 ≤ 3) (fun x => x.1.1.length)
    (fun x => if (mrkS x.2 x.1.1).2.2 = true then .brk 0 (((mrkS x.2 x.1.1).2.1, x.1.2), (mrkS x.2 x.1.1).1) else .ret (((mrkS x.2 x.1.1).2.1, x.1.2), 0, false))
    (by
      rintro ⟨⟨l', z'⟩, m⟩ ⟨g1, g2, m0, m3⟩
      dsimp only at g1 g2 m0 m3 ⊢
      unfold L43g_2 U43g_2
      cases l' with
      | nil =>
        right
        refine ⟨rfl, fun y h => by simp [mrkS] at h⟩
      | cons x r =>
        have c : inR 0 ((x :: r) : List Tok).length := ⟨Int.le_refl _, by simp only [List.length_cons]; omega⟩
        have hat : atI (.pair tI tLn) (x :: r) 0 = x := rfl
        have hpos : decide ((0 : Int) < ((x :: r : List Tok).length : Int)) = true := decide_eq_true (by simp only [List.length_cons]; omega)
        have c2 : (0 : Int) ≤ 1 ∧ (1 : Int) ≤ ((x :: r : List Tok).length : Int) ∧ ((x :: r : List Tok).length : Int) ≤ ((x :: r : List Tok).length : Int) := ⟨by omega, by simp only [List.length_cons]; omega, Int.le_refl _⟩
        simp only [ev_br, ev_ck0, ev_leaf, hat, if_pos c, if_pos c2, hpos, if_true]
        by_cases h5 : x.1 = 5
        · have hb := good_bit (g1 x (by simp)) h5
          obtain ⟨b1, b2⟩ := bits_all m x.2.2.2 (by omega) hb
          rw [if_pos (by simpa using h5), b1, mrkS_cons, if_pos h5]
          cases hd : dupB m x.2.2.2 with
          | true =>
            right
            rw [if_pos rfl, if_pos rfl]
            exact ⟨by simp, fun y h => by simp at h⟩
          | false =>
            left
            rw [b2 hd]
            simp only [hd, Bool.false_eq_true, if_false]
            have hsl : slc (x :: r) 1 ((x :: r : List Tok).length : Int) = r := by rw [slcE]; rfl
            rw [hsl]
            refine ⟨_, rfl, ⟨fun y hy => g1 y (List.mem_cons_of_mem _ hy), by simp only; simp at g2; omega, by simp only; omega, ?_⟩, by simp, rfl⟩
            simp only
            unfold dupB at hd
            rcases hb with h | h <;> rw [h] at hd ⊢ <;> simp at hd <;> omega
        · right
          rw [if_neg (by simpa using h5), mrkS_cons, if_neg h5]
          exact ⟨by simp, fun y h => by simp at h⟩) N ((l, z), 0) ⟨hg, hl, Int.le_refl _, by simp only; omega⟩ (by simpa using hN)
  unfold W43g_2
  rw [key]
  dsimp only
  cases hb : (mrkS 0 l).2.2 with
  | false => simp only [Bool.false_eq_true, if_false, lp1_ret, Bool.false_and]; rfl
  | true =>
    simp only [if_true, lp1_brk, Bool.true_and]
    cases hq : (mrkS 0 l).2.1 with
    | nil => rfl
    | cons x r =>
      have c : inR 0 ((x :: r) : List Tok).length := ⟨Int.le_refl _, by simp only [List.length_cons]; omega⟩
      rw [ev_br, if_pos (decide_eq_true (by simp only [List.length_cons]; omega)), ev_ck c, ev_leaf]
      rfl

end Go.Proofs.Ytmohgkoomnihfaa.Vc

/-
  THE PROGRAM'S READER OF A TEXT, AS DATA: one statement, and all of them. No condition.
-/
set_option linter.unusedVariables false
set_option linter.unusedSimpArgs false
set_option maxRecDepth 100000
namespace Go.Proofs.Ytmohgkoomnihfaa.Vc

theorem F_reg (N : Nat) (y : Tok) (r : List Tok) (z : Int × (List (Ln × Int) × List Int)) (m : Int) (hop : z.2.2.length ≤ 1000) :
    RW44g_1 N ((y :: r, z), m) = some ((y :: r, z), m, y.2.2.1, topS z.2.2) := by
  have c : inR 0 ((y :: r) : List Tok).length := ⟨Int.le_refl _, by simp only [List.length_cons]; omega⟩
  have hT := F_top N (y :: r, z) hop
  unfold RW44g_1 RU44g_1
  dsimp only
  repeat' first
    | exact ev_leaf _
    | refine ev_nb _ _ ?_ ?_
    | (rw [ev_ck c])
    | (rw [ev_cr2, hT, obind_some]; dsimp only)

theorem F_name (N : Nat) (y : Tok) (r : List Tok) (e : Int) (nd : List (Ln × Int)) (op : List Int) (m : Int) (hop : op.length ≤ 1000) (hnd : nd.length ≤ 1000) (hl : r.length ≤ 1000000) :
    F44g N (y :: r, e, nd, op) m = some (if 16 ≤ op.length then ((y :: r, e, nd, op), 6) else if (nd.any fun n => n.2 == topS op && n.1.2.1 == y.2.2.1) = true then ((y :: r, e, nd, op), 4) else if 200 ≤ nd.length then ((y :: r, e, nd, op), 5)
      else ((r, e, nd ++ [(((op.length : Int), y.2.2.1, m), topS op)], op), 0)) := by
  unfold F44g V44g
  rw [ev_cr, F_reg N y r (e, nd, op) m hop, obind_some]
  dsimp only
  have hC : F66K67 N nd (topS op) y.2.2.1 = some (nd.any fun n => n.2 == topS op && n.1.2.1 == y.2.2.1) := if_pos (by omega)
  rw [ev_br]
  by_cases h16 : 16 ≤ op.length
  · rw [if_pos (decide_eq_true (by omega)), if_pos h16, ev_leaf]
  rw [if_neg (by simp; omega), if_neg h16, ev_c1, hC, obind_some, ev_br]
  by_cases ha : (nd.any fun n => n.2 == topS op && n.1.2.1 == y.2.2.1) = true
  · rw [if_pos ha, if_pos ha, ev_leaf]
  rw [if_neg ha, if_neg ha, ev_br]
  by_cases h200 : 200 ≤ nd.length
  · rw [if_pos (decide_eq_true (by omega)), if_pos h200, ev_leaf]
  rw [if_neg (by simp; omega), if_neg h200]
  have c1 : room (nd.length + ([(((op.length : Int), y.2.2.1, m), topS op)] : List (Ln × Int)).length) := by
    show _ ≤ _; simp only [List.length_singleton]; omega
  have c2 : (0 : Int) ≤ 1 ∧ (1 : Int) ≤ ((y :: r : List Tok).length : Int) ∧ ((y :: r : List Tok).length : Int) ≤ ((y :: r : List Tok).length : Int) := ⟨by omega, by simp only [List.length_cons]; omega, Int.le_refl _⟩
  have hsl : slc (y :: r) 1 ((y :: r : List Tok).length : Int) = r := by rw [slcE]; rfl
  refine ev_nb _ _ (ev_nb _ _ ?_ ?_) ?_ <;> rw [ev_ck c1, ev_ck c2, ev_leaf, hsl]

/-- What a statement's answer has to be. -/
def StRes (F : Option (PS × Int × Int)) (e : Int) (q : PR) : Prop := match q with
  | .error q => ∃ a, F = some (a, q.1, q.2) ∧ q.2 ≠ 0
  | .ok q => ∃ P' nd' op', F = some ((q.2.2, e, nd', op'), 0, 0) ∧ Rl P' nd' op' q.1 q.2.1
theorem StRes.err {F : Option (PS × Int × Int)} {e : Int} {a : PS} {b c : Int} (h : F = some (a, b, c)) (hc : c ≠ 0) : StRes F e (.error (b, c)) := ⟨a, h, hc⟩
theorem StRes.ok {F : Option (PS × Int × Int)} {e : Int} {P : List (List Bs)} {nd : List (Ln × Int)} {op : List Int} {t : List Ln} {p : List Bs} {l : List Tok} (h : F = some ((l, e, nd, op), 0, 0)) (hr : Rl P nd op t p) : StRes F e (.ok (t, p, l)) := ⟨P, nd, op, h, hr⟩
/-- One statement: what the document says; nodes, for lines. -/
theorem F_stmt (N : Nat) {P : List (List Bs)} {nd : List (Ln × Int)} {op : List Int} {t : List Ln} {p : List Bs} (e : Int) (x : Tok) (r : List Tok) (hr : Rl P nd op t p) (hi : PInv t p) (hg : ∀ y ∈ x :: r, gdK y) (hl : (x :: r).length ≤ 1000000) (hN : (x :: r).length < N) :
    StRes (F21g N (x :: r, e, nd, op)) e (stS e t p (x :: r)) := by
  unfold F21g V21g
  have hol := hr.olen
  have htl := hr.tlen
  have hdp := hi.deep
  have hfw := hi.few
  have cut : ∀ (y : Tok) (q : List Tok), (0 : Int) ≤ 1 ∧ (1 : Int) ≤ ((y :: q : List Tok).length : Int) ∧ ((y :: q : List Tok).length : Int) ≤ ((y :: q : List Tok).length : Int) := fun y q => ⟨by omega, by simp only [List.length_cons]; omega, Int.le_refl _⟩
  have hsl : ∀ (y : Tok) (q : List Tok), slc (y :: q) 1 ((y :: q : List Tok).length : Int) = q := fun y q => by rw [slcE]; rfl
  rw [ev_cr3, F_next, obind_some]
  dsimp only
  rw [ev_br, stS_cons]
  by_cases h3 : x.1 = 3
  · rw [if_pos (by simpa [kindT] using h3), if_pos h3, ev_br]
    by_cases hp : p = []
    · subst hp
      have hop0 : op.length = 0 := by simpa using hol
      rw [if_pos (show ((op.length : Int) == 0) = true by rw [hop0]; rfl), if_pos rfl]
      exact StRes.err (ev_leaf _) (by simp)
    · have hpl := List.length_pos_iff.2 hp
      have hw : IntKind.i64.wrap ((op.length : Int) - 1) = (op.length : Int) - 1 := wrapI (by omega) (by omega)
      have c1 : (0 : Int) ≤ (op.length : Int) - 1 ∧ (op.length : Int) - 1 ≤ (op.length : Int) := ⟨by omega, by omega⟩
      have hno : ¬((op.length : Int) == 0) = true := by rw [beq_iff_eq]; omega
      simp only [ev_ck0, ev_leaf, hw]
      rw [if_neg hp, if_neg hno, if_pos c1, if_pos (cut x r), hsl]
      refine StRes.ok ?_ hr.pop
      rw [show ((op.length : Int) - 1).toNat = op.length - 1 by omega, ← List.dropLast_eq_take]
  rw [if_neg (by simpa [kindT] using h3), if_neg h3, ev_cr3, F_marks N (x :: r) (e, nd, op) hg hl hN, obind_some]
  dsimp only
  rw [ev_cr3, F_next, obind_some]
  dsimp only
  have hsub : ∀ y ∈ (mrkS 0 (x :: r)).2.1, gdK y := fun y hy => hg y ((mrkS_len _ _).subset hy)
  have hlen := (mrkS_len (x :: r) 0).length_le
  have hbit : (mrkS 0 (x :: r)).2.2 = true → 0 ≤ (mrkS 0 (x :: r)).1 ∧ (mrkS 0 (x :: r)).1 ≤ 3 := fun h => by
    obtain ⟨ms, e1, e2, e3⟩ := mrkS_split (x :: r) 0 h
    exact mrkS_bits ms 0 _ (fun y hy => ⟨hg y (by rw [e1]; exact List.mem_append_left _ hy), e2 y hy⟩) (by omega) (by omega) e3
  revert hsub hlen hbit
  generalize (mrkS 0 (x :: r)).1 = m
  generalize (mrkS 0 (x :: r)).2.1 = q
  generalize (mrkS 0 (x :: r)).2.2 = ok
  intro hsub hlen hbit
  cases ok with
  | false =>
    simp only [Bool.false_and, Bool.not_false, ev_br, if_true, Bool.false_eq_true, if_false]
    exact StRes.err (ev_leaf _) (by simp)
  | true =>
    obtain ⟨m0, m3⟩ := hbit rfl
    simp only [Bool.true_and, if_true]
    cases q with
    | nil =>
      simp only [kindT, ev_br]
      rw [if_pos (by decide)]
      exact StRes.err (ev_leaf _) (by simp)
    | cons y q =>
      have hgy := hsub y (by simp)
      rw [lineS_cons, ev_br]
      by_cases h1 : y.1 = 1
      · rw [if_neg (by simp [kindT, h1]), if_pos h1, ev_cr2, F_name N y q e nd op m (by omega) (by omega) (by simp only [List.length_cons] at hlen hl; omega), obind_some]
        rw [hol, htl]
        by_cases h16 : 16 ≤ p.length
        · rw [if_pos h16, if_pos h16]
          simp only [ev_br]
          rw [if_pos (by decide)]
          exact StRes.err (ev_leaf _) (by simp)
        rw [if_neg h16, if_neg h16]
        have hhas := hr.has y.2.2.1
        by_cases hgt : gt t (p ++ [y.2.2.1]) = none
        · have hany : ¬(nd.any fun n => n.2 == topS op && n.1.2.1 == y.2.2.1) = true := fun h => hhas.1 h hgt
          rw [if_neg hany, if_neg (show ¬(gt t (p ++ [y.2.2.1]) ≠ none) by simp [hgt])]
          by_cases h200 : 200 ≤ nd.length
          · rw [if_pos h200, if_pos h200]
            simp only [ev_br]
            rw [if_pos (by decide)]
            exact StRes.err (ev_leaf _) (by simp)
          rw [if_neg h200, if_neg h200]
          simp only [ev_br]
          rw [if_neg (by decide), ev_cr3, F_next, obind_some]
          dsimp only
          have hw40 := word_in hgy h1
          obtain ⟨p1, p2⟩ := hr.push hi hgt hw40 (by omega) m0 m3
          rw [hol] at p1 p2
          cases q with
          | nil =>
            simp only [kindT, ev_br]
            rw [if_neg (by decide), if_neg (by decide)]
            exact StRes.err (ev_leaf _) (by simp)
          | cons z q =>
            dsimp only
            rw [ev_br]
            have hnl : ((nd ++ [(((p.length : Int), y.2.2.1, m), topS op)]).length : Int) = (nd.length : Int) + 1 := by simp
            have hwn : IntKind.i64.wrap (((nd ++ [(((p.length : Int), y.2.2.1, m), topS op)]).length : Int) - 1) = (nd.length : Int) := by rw [hnl, wrapI (by omega) (by omega)]; omega
            by_cases hz : z.1 = 2
            · rw [if_pos (by simpa [kindT] using hz), if_pos hz]
              have c1 : room (op.length + ([IntKind.i64.wrap (((nd ++ [(((p.length : Int), y.2.2.1, m), topS op)]).length : Int) - 1)] : List Int).length) := by
                show _ ≤ _; simp only [List.length_singleton]; omega
              refine StRes.ok ?_ p2
              refine ev_nb _ _ (ev_nb _ _ ?_ ?_) ?_ <;> rw [ev_ck c1, ev_ck (cut z q), ev_leaf, hsl, hwn]
            · rw [if_neg (by simpa [kindT] using hz), if_neg hz, ev_br]
              by_cases hz4 : z.1 = 4
              · rw [if_pos (by simpa [kindT] using hz4), if_pos hz4]
                refine StRes.ok ?_ p1
                rw [ev_ck (cut z q), ev_leaf, hsl]
              · rw [if_neg (by simpa [kindT] using hz4), if_neg hz4]
                exact StRes.err (ev_leaf _) (by simp)
        · rw [if_pos (hhas.2 hgt), if_pos hgt]
          simp only [ev_br]
          rw [if_pos (by decide)]
          exact StRes.err (ev_leaf _) (by simp)
      · rw [if_pos (by simpa [kindT] using h1), if_neg h1]
        exact StRes.err (ev_leaf _) (by simp)

end Go.Proofs.Ytmohgkoomnihfaa.Vc

/-
  NODES, PUT IN ORDER: the lines of the tree that they are. No condition.
-/
set_option linter.unusedVariables false
set_option linter.unusedSimpArgs false
set_option maxRecDepth 100000
namespace Go.Proofs.Ytmohgkoomnihfaa.Vc

def kidsN (nd : List (Ln × Int)) (u : Int) : List Int := ((List.range nd.length).filter fun i => (nd.getD i ((0, [], 0), 0)).2 == u).map fun i : Nat => (i : Int)
theorem mem_kids {nd : List (Ln × Int)} {u k : Int} : k ∈ kidsN nd u ↔ ∃ (i : Nat) (h : i < nd.length), k = (i : Int) ∧ (nd[i]).2 = u := by
  unfold kidsN
  rw [List.mem_map]
  constructor
  · rintro ⟨i, hi, rfl⟩
    rw [List.mem_filter, List.mem_range] at hi
    have e : nd.getD i ((0, [], 0), 0) = nd[i]'hi.1 := by simp [hi.1]
    rw [e] at hi
    exact ⟨i, hi.1, rfl, by simpa using hi.2⟩
  · rintro ⟨i, hi, rfl, hu⟩
    refine ⟨i, ?_, rfl⟩
    rw [List.mem_filter, List.mem_range]
    have e : nd.getD i ((0, [], 0), 0) = nd[i] := by simp [hi]
    rw [e]
    exact ⟨hi, by simpa using hu⟩
theorem mem_sortN {nd : List (Ln × Int)} {ks : List Int} {k : Int} : k ∈ sortN nd ks ↔ k ∈ ks := by
  unfold sortN
  exact List.mem_mergeSort
theorem wdN_get {nd : List (Ln × Int)} {i : Nat} (h : i < nd.length) : wdN nd (i : Int) = (nd[i]).1.2.1 ∧ atI (.pair tLn tI) nd (i : Int) = nd[i] := by
  have : atI (.pair tLn tI) nd (i : Int) = nd[i] := by
    show nd.getD _ _ = _
    rw [Int.toNat_natCast]; simp [h]
  exact ⟨by unfold wdN; rw [this], this⟩

/-- What stands under a node, in order, so deep at most: paths and marks. -/
def srtE (P : List (List Bs)) (nd : List (Ln × Int)) : Nat → Int → List (List Bs × Int)
  | 0, _ => []
  | f + 1, u => (sortN nd (kidsN nd u)).flatMap fun k => (P.getD k.toNat [], (atI (.pair tLn tI) nd k).1.2.2) :: srtE P nd f k

section
variable {P : List (List Bs)} {nd : List (Ln × Int)} {op : List Int} {t : List Ln} {p : List Bs}

theorem Rl.up (h : Rl P nd op t p) {i : Nat} (hi : i < nd.length) : upP P (i : Int) = P.getD i [] := by
  unfold upP
  rw [if_neg (by omega), Int.toNat_natCast]
theorem Rl.entry (h : Rl P nd op t p) {i : Nat} (hi : i < nd.length) : gt t (P.getD i []) = some (nd[i]).1.2.2 := (h.map _ _).2 ⟨i, hi, rfl, rfl⟩
theorem Rl.kid (h : Rl P nd op t p) {u k : Int} (hk : k ∈ kidsN nd u) : ∃ (i : Nat) (hi : i < nd.length), k = (i : Int) ∧ P.getD i [] = upP P u ++ [(nd[i]).1.2.1] := by
  obtain ⟨i, hi, rfl, hu⟩ := mem_kids.1 hk
  refine ⟨i, hi, rfl, ?_⟩
  rw [(h.node i hi).2.2.1, hu]
/-- Each beginning of a node's path is a node's path. -/
theorem Rl.begin (h : Rl P nd op t p) : ∀ (s : List Bs) {i : Nat} (hi : i < nd.length) {q : List Bs}, P.getD i [] = q ++ s → q ≠ [] → ∃ (j : Nat) (hj : j < nd.length), P.getD j [] = q := by
  intro s
  induction hn : s.length generalizing s with
  | zero =>
    intro i hi q he hq
    have : s = [] := List.eq_nil_of_length_eq_zero hn
    subst this
    exact ⟨i, hi, by rw [he]; simp⟩
  | succ n ih =>
    intro i hi q he hq
    obtain ⟨n1, n2, n3, n4⟩ := h.node i hi
    rcases List.eq_nil_or_concat s with rfl | ⟨s', w, rfl⟩
    · simp at hn
    · rw [n3, List.concat_eq_append, ← List.append_assoc] at he
      have h1 := (List.append_inj' he rfl).1
      have hu : ¬(nd[i]).2 < 0 := fun hneg => by
        unfold upP at h1
        rw [if_pos hneg] at h1
        have := congrArg List.length h1
        have := List.length_pos_iff.2 hq
        simp at *; omega
      unfold upP at h1
      rw [if_neg hu] at h1
      exact ih s' (by simpa using hn) (by omega) h1 hq

theorem srtE_sound (h : Rl P nd op t p) : ∀ (f : Nat) (u : Int), -1 ≤ u → u < nd.length → ∀ e ∈ srtE P nd f u, ∃ (i : Nat) (hi : i < nd.length), e = (P.getD i [], (nd[i]).1.2.2) ∧ ∃ s, s ≠ [] ∧ P.getD i [] = upP P u ++ s
  | 0, _, _, _, e, he => by cases he
  | f + 1, u, u0, u1, e, he => by
    unfold srtE at he
    obtain ⟨k, hk, he⟩ := List.mem_flatMap.1 he
    obtain ⟨i, hi, rfl, hp⟩ := h.kid (mem_sortN.1 hk)
    rcases List.mem_cons.1 he with rfl | he
    · exact ⟨i, hi, by rw [(wdN_get hi).2]; rfl, [(nd[i]).1.2.1], by simp, hp⟩
    · obtain ⟨j, hj, e1, s, hs, e2⟩ := srtE_sound h f (i : Int) (by omega) (by omega) e he
      rw [h.up hi, hp, List.append_assoc] at e2
      exact ⟨j, hj, e1, _, by simp, e2⟩
theorem srtE_full (h : Rl P nd op t p) : ∀ (f : Nat) (u : Int), -1 ≤ u → u < nd.length → ∀ (i : Nat) (hi : i < nd.length) (s : List Bs), s ≠ [] → P.getD i [] = upP P u ++ s → s.length ≤ f → (P.getD i [], (nd[i]).1.2.2) ∈ srtE P nd f u
  | 0, u, _, _, i, hi, s, hs, _, hl => by
    have := List.length_pos_iff.2 hs; omega
  | f + 1, u, u0, u1, i, hi, s, hs, he, hl => by
    cases s with
    | nil => exact absurd rfl hs
    | cons w s =>
      have he' : P.getD i [] = (upP P u ++ [w]) ++ s := by rw [he]; simp
      obtain ⟨j, hj, ej⟩ := h.begin s hi he' (by simp)
      obtain ⟨g1, g2⟩ := h.under hj u0 u1 ej
      have hk : (j : Int) ∈ sortN nd (kidsN nd u) := mem_sortN.2 (mem_kids.2 ⟨j, hj, rfl, g1⟩)
      unfold srtE
      refine List.mem_flatMap.2 ⟨(j : Int), hk, ?_⟩
      rw [(wdN_get hj).2, Int.toNat_natCast]
      by_cases hs0 : s = []
      · subst hs0
        have : i = j := h.inj hi hj (by rw [he', ej]; simp)
        subst this
        exact List.mem_cons_self
      · refine List.mem_cons_of_mem _ (srtE_full h f (j : Int) (by omega) (by omega) i hi s hs0 ?_ (by simpa using hl))
        rw [h.up hj, ej, he']
theorem pw_flat {α β : Type} {R : β → β → Prop} {f : α → List β} : ∀ {l : List α}, (∀ a ∈ l, (f a).Pairwise R) → l.Pairwise (fun a b => ∀ x ∈ f a, ∀ y ∈ f b, R x y) → (l.flatMap f).Pairwise R
  | [], _, _ => by simp
  | a :: l, h1, h2 => by
    rw [List.flatMap_cons, List.pairwise_append]
    rw [List.pairwise_cons] at h2
    refine ⟨h1 a List.mem_cons_self, pw_flat (fun b hb => h1 b (List.mem_cons_of_mem _ hb)) h2.2, fun x hx y hy => ?_⟩
    obtain ⟨b, hb, hy⟩ := List.mem_flatMap.1 hy
    exact h2.1 b hb x hx y hy
theorem sortN_up {ks : List Int} (hnd : ks.Nodup) (hu : ∀ x ∈ ks, ∀ y ∈ ks, wdN nd x = wdN nd y → x = y) : (sortN nd ks).Pairwise fun a b => bl (wdN nd a) (wdN nd b) = true := by
  have hp : (sortN nd ks).Pairwise fun a b => (!bl (wdN nd b) (wdN nd a)) = true := by
    unfold sortN
    refine List.pairwise_mergeSort (fun a b c h1 h2 => ?_) (fun a b => ?_) ks
    · rw [Bool.not_eq_true'] at *
      cases h3 : bl (wdN nd c) (wdN nd a) with
      | false => rfl
      | true =>
        rcases bl_tri (wdN nd a) (wdN nd b) with h4 | h4 | h4
        · exact absurd ((bl_trans h3 h4).symm.trans h2) (by decide)
        · rw [h4] at h3; rw [h3] at h2; cases h2
        · rw [h4] at h1; cases h1
    · cases h3 : bl (wdN nd b) (wdN nd a) with
      | false => rfl
      | true =>
        cases h4 : bl (wdN nd a) (wdN nd b) with
        | false => rfl
        | true =>
          have h5 := bl_trans h3 h4
          have h6 := bl_irr (wdN nd b)
          exact absurd (h5.symm.trans h6) (by decide)
  have hn : (sortN nd ks).Nodup := (List.mergeSort_perm ks _).nodup_iff.2 hnd
  refine List.Pairwise.imp_of_mem (fun {a b} ha hb hab => ?_) (hp.and hn)
  obtain ⟨h1, h2⟩ := hab
  rw [Bool.not_eq_true'] at h1
  rcases bl_tri (wdN nd a) (wdN nd b) with h3 | h3 | h3
  · exact h3
  · exact absurd (hu a (mem_sortN.1 ha) b (mem_sortN.1 hb) h3) h2
  · rw [h3] at h1; cases h1
theorem kids_nodup (nd : List (Ln × Int)) (u : Int) : (kidsN nd u).Nodup := by
  unfold kidsN
  rw [List.nodup_iff_pairwise_ne, List.pairwise_map]
  have h1 : ((List.range nd.length).filter fun i => (nd.getD i ((0, [], 0), 0)).2 == u).Nodup := List.Nodup.sublist List.filter_sublist List.nodup_range
  exact h1.imp fun hab e => hab (by omega)
theorem Rl.words (h : Rl P nd op t p) (u : Int) : ∀ x ∈ kidsN nd u, ∀ y ∈ kidsN nd u, wdN nd x = wdN nd y → x = y := fun x hx y hy he => by
  obtain ⟨i, hi, rfl, e1⟩ := h.kid hx
  obtain ⟨j, hj, rfl, e2⟩ := h.kid hy
  rw [(wdN_get hi).1, (wdN_get hj).1] at he
  have := h.inj hi hj (by rw [e1, e2, he])
  rw [this]
theorem srtE_up (h : Rl P nd op t p) : ∀ (f : Nat) (u : Int), -1 ≤ u → u < nd.length → (srtE P nd f u).Pairwise fun a b => lx a.1 b.1 = true
  | 0, _, _, _ => List.Pairwise.nil
  | f + 1, u, u0, u1 => by
    unfold srtE
    have under : ∀ k ∈ sortN nd (kidsN nd u), ∃ (i : Nat) (hi : i < nd.length), k = (i : Int) ∧ P.getD i [] = upP P u ++ [wdN nd k] ∧ ∀ e ∈ (P.getD k.toNat [], (atI (.pair tLn tI) nd k).1.2.2) :: srtE P nd f k, ∃ s, e.1 = upP P u ++ [wdN nd k] ++ s := fun k hk => by
      obtain ⟨i, hi, rfl, hp⟩ := h.kid (mem_sortN.1 hk)
      rw [(wdN_get hi).1]
      refine ⟨i, hi, rfl, hp, fun e he => ?_⟩
      rcases List.mem_cons.1 he with rfl | he
      · exact ⟨[], by simp only [Int.toNat_natCast]; rw [hp]; simp⟩
      · obtain ⟨j, hj, e1, s, _, e2⟩ := srtE_sound h f (i : Int) (by omega) (by omega) e he
        exact ⟨s, by rw [e1]; simp only; rw [e2, h.up hi, hp]⟩
    refine pw_flat (fun k hk => ?_) (List.Pairwise.imp_of_mem (fun {a b} ha hb hab x hx y hy => ?_) (sortN_up (nd := nd) (kids_nodup nd u) (h.words u)))
    · obtain ⟨i, hi, rfl, hp, _⟩ := under k hk
      rw [List.pairwise_cons]
      refine ⟨fun e he => ?_, srtE_up h f (i : Int) (by omega) (by omega)⟩
      obtain ⟨j, hj, e1, s, hs, e2⟩ := srtE_sound h f (i : Int) (by omega) (by omega) e he
      rw [e1]
      simp only [Int.toNat_natCast]
      rw [e2, h.up hi]
      exact lx_pre _ hs
    · obtain ⟨_, _, _, _, ga⟩ := under a ha
      obtain ⟨_, _, _, _, gb⟩ := under b hb
      obtain ⟨s, e1⟩ := ga x hx
      obtain ⟨s', e2⟩ := gb y hy
      rw [e1, e2]
      refine lx_ext s s' (by rw [lx_last]; exact hab) (fun hpre => ?_)
      have h1 := List.IsPrefix.eq_of_length hpre (by simp)
      have h2 := (List.append_inj' h1 rfl).2
      have h3 : wdN nd a = wdN nd b := by simpa using h2
      rw [h3, bl_irr] at hab; cases hab

theorem Rl.deep (h : Rl P nd op t p) (ht : rf [] t = true) {i : Nat} (hi : i < nd.length) : (P.getD i []).length ≤ 16 := (gt_sound ht (h.entry hi)).2.1
theorem Rl.line (h : Rl P nd op t p) {i : Nat} (hi : i < nd.length) : ln (P.getD i [], (nd[i]).1.2.2) = (nd[i]).1 := by
  obtain ⟨n1, n2, n3, n4⟩ := h.node i hi
  unfold ln
  have : (P.getD i []).getLastD [] = (nd[i]).1.2.1 := by rw [n3]; simp
  rw [this]
  simp only
  rw [← n4]
/-- All nodes, in order: the tree. -/
theorem srt_tree (h : Rl P nd op t p) (hi : PInv t p) {f : Nat} (hf : 16 ≤ f) : (srtE P nd f (-1)).map ln = t := by
  have hup := srtE_up h f (-1) (by omega) (by omega)
  have he : srtE P nd f (-1) = ents t := by
    refine sorted_ext hup (ents_ok hi.tree).up fun e => ⟨fun hm => ?_, fun hm => ?_⟩
    · obtain ⟨i, hi', rfl, _⟩ := srtE_sound h f (-1) (by omega) (by omega) e hm
      exact (gt_iff hi.tree).1 (h.entry hi')
    · obtain ⟨q, m⟩ := e
      have hg := (gt_iff hi.tree).2 hm
      obtain ⟨i, hi', e1, e2⟩ := (h.map q m).1 hg
      rw [← e1, ← e2]
      exact srtE_full h f (-1) (by omega) (by omega) i hi' (P.getD i []) (h.ne hi') (by unfold upP; simp) (by have := h.deep hi.tree hi'; omega)
  rw [he, ents_ln hi.tree]
theorem srtE_len (h : Rl P nd op t p) (f : Nat) (u : Int) (u0 : -1 ≤ u) (u1 : u < nd.length) : (srtE P nd f u).length ≤ nd.length := by
  have hup := srtE_up h f u u0 u1
  have hn : ((srtE P nd f u).map (·.1)).Nodup := by
    rw [List.nodup_iff_pairwise_ne, List.pairwise_map]
    exact hup.imp fun hab => lx_ne hab
  have := nodup_len hn (m := P) fun x hx => by
    obtain ⟨e, he, rfl⟩ := List.mem_map.1 hx
    obtain ⟨i, hi, rfl, _⟩ := srtE_sound h f u u0 u1 e he
    have hiP : i < P.length := by rw [h.len]; exact hi
    simp only
    rw [getD_in hiP]
    exact List.getElem_mem hiP
  rw [List.length_map, h.len] at this
  exact this

/-! ### The program's -/

theorem fold_filter {α β : Type} (q : α → Bool) (g : α → β) : ∀ (l : List α) (acc : List β), l.foldl (fun acc i => if q i = true then acc ++ [g i] else acc) acc = acc ++ (l.filter q).map g
  | [], acc => by simp
  | x :: l, acc => by
    rw [List.foldl_cons, fold_filter q g l, List.filter_cons]
    split <;> simp
theorem F_kidsP (N : Nat) (rc) (hrc) (nd : List (Ln × Int)) (u : Int) (hl : nd.length ≤ 1000) (hN : nd.length < N) :
    W22o_3 N rc hrc (u, nd, [], nd, (nd.length : Int), 0) = some (.brk 0 (u, nd, kidsN nd u, nd, (nd.length : Int), (nd.length : Int))) := by
  have := loop_fold (R := List Ln) (step := fun x => L22o_3 N rc hrc x.1 x.2.1 x.2.2.1 x.2.2.2.1 x.2.2.2.2.1 x.2.2.2.2.2) nd.length (fun (acc : List Int) i => if ((nd.getD i ((0, [], 0), 0)).2 == u) = true then acc ++ [(i : Int)] else acc)
    (fun acc i => (u, nd, acc, nd, (nd.length : Int), i)) (fun acc i => acc.length ≤ i) (fun acc i ha hi => by
      try simp only
      split
      · simp; omega
      · omega) (fun acc i ha hi => by
      unfold L22o_3 U22o_3
      dsimp only
      rw [ev_br]
      by_cases h : i < nd.length
      · have c1 : inR (i : Int) nd.length := ⟨by omega, by omega⟩
        have c2 : room (acc.length + ([(i : Int)] : List Int).length) := by show _ ≤ _; simp; omega
        have hw : IntKind.i64.wrap ((i : Int) + 1) = (i : Int) + 1 := wrapI (by omega) (by omega)
        have e1 : nd.getD i ((0, [], 0), 0) = nd[i] := by simp [h]
        rw [if_pos (decide_eq_true (by omega)), if_pos h, ev_ck c1, ev_br, (wdN_get h).2, e1]
        by_cases hu : ((nd[i]).2 == u) = true
        · rw [if_pos hu, if_pos hu, ev_ck c2, ev_leaf, hw]
        · rw [if_neg hu, if_neg hu, ev_leaf, hw]
      · rw [if_neg (by simp; omega), if_neg h, ev_leaf]) [] 0 (Nat.le_refl _) (Nat.zero_le _) N (by omega)
  unfold W22o_3
  have this : runLoop _ N (u, nd, ([] : List Int), nd, (nd.length : Int), ((0 : Nat) : Int)) = _ := this
  rw [Nat.sub_zero, ← List.range_eq_range', fold_filter (fun i => (nd.getD i ((0, [], 0), 0)).2 == u) (fun i : Nat => (i : Int)), List.nil_append] at this
  exact this
theorem F_out (N : Nat) (rc) (hrc) (nd : List (Ln × Int)) (g : Int → List Ln) (ks : List Int) (hk : ∀ k ∈ ks, 0 ≤ k ∧ k < nd.length ∧ rc nd k = some (g k)) (hks : ks.length ≤ 1000) (hl : (ks.flatMap fun k => (atI (.pair tLn tI) nd k).1 :: g k).length ≤ 1000000) (hN : ks.length < N) :
    W22o_11 N rc hrc (nd, [], ks, (ks.length : Int), 0) = some (.brk 0 (nd, ks.flatMap (fun k => (atI (.pair tLn tI) nd k).1 :: g k), ks, (ks.length : Int), (ks.length : Int))) := by
  have := loop_up (R := List Ln) (step := fun x => L22o_11 N rc hrc x.1 x.2.1 x.2.2.1 x.2.2.2.1 x.2.2.2.2) ks.length (fun i => (nd, (ks.take i).flatMap (fun k => (atI (.pair tLn tI) nd k).1 :: g k), ks, (ks.length : Int), (i : Int)))
    (fun i hi => by
      unfold L22o_11 U22o_11
      dsimp only
      obtain ⟨k0, k1, k2⟩ := hk ks[i] (List.getElem_mem hi)
      have hat : atI tI ks (i : Int) = ks[i] := by show ks.getD _ _ = _; rw [Int.toNat_natCast]; simp [hi]
      have c1 : inR (i : Int) ks.length := ⟨by omega, by omega⟩
      have c3 : inR ks[i] nd.length := ⟨k0, k1⟩
      have hw : IntKind.i64.wrap ((i : Int) + 1) = (i : Int) + 1 := wrapI (by omega) (by omega)
      have htk : ks.take (i + 1) = ks.take i ++ [ks[i]] := List.take_succ_eq_append_getElem hi
      have hfl : (ks.take (i + 1)).flatMap (fun k => (atI (.pair tLn tI) nd k).1 :: g k) = (ks.take i).flatMap (fun k => (atI (.pair tLn tI) nd k).1 :: g k) ++ ((atI (.pair tLn tI) nd ks[i]).1 :: g ks[i]) := by rw [htk, List.flatMap_append]; simp
      have hle : ((ks.take (i + 1)).flatMap (fun k => (atI (.pair tLn tI) nd k).1 :: g k)).length ≤ 1000000 := by
        refine Nat.le_trans ?_ hl
        have : ks.flatMap (fun k => (atI (.pair tLn tI) nd k).1 :: g k) = (ks.take (i + 1)).flatMap (fun k => (atI (.pair tLn tI) nd k).1 :: g k) ++ (ks.drop (i + 1)).flatMap (fun k => (atI (.pair tLn tI) nd k).1 :: g k) := by
          rw [← List.flatMap_append, List.take_append_drop]
        rw [this, List.length_append]; omega
      rw [hfl, List.length_append, List.length_cons] at hle
      have c4 : room (((ks.take i).flatMap (fun k => (atI (.pair tLn tI) nd k).1 :: g k)).length + ([(atI (.pair tLn tI) nd ks[i]).1] : List Ln).length) := by
        show _ ≤ _; simp only [List.length_singleton]; omega
      have c5 : room (((ks.take i).flatMap (fun k => (atI (.pair tLn tI) nd k).1 :: g k) ++ ([(atI (.pair tLn tI) nd ks[i]).1] : List Ln)).length + (g ks[i]).length) := by
        show _ ≤ _; simp only [List.length_append, List.length_singleton]; omega
      simp only [ev_br, ev_ck0, hat, hw]
      rw [if_pos (decide_eq_true (by omega)), if_pos c1, if_pos c1, if_pos c3]
      have one : ∀ (o : Option (List Ln)), o = some (g ks[i]) → (o.bind fun x1 => if room (((ks.take i).flatMap (fun k => (atI (.pair tLn tI) nd k).1 :: g k) ++ ([(atI (.pair tLn tI) nd ks[i]).1] : List Ln)).length + x1.length) then some (Lp.next (nd, ((ks.take i).flatMap (fun k => (atI (.pair tLn tI) nd k).1 :: g k) ++ ([(atI (.pair tLn tI) nd ks[i]).1] : List Ln)) ++ x1, ks, (ks.length : Int), (i : Int) + 1)) else none) =
          (some (.next (nd, (ks.take (i + 1)).flatMap (fun k => (atI (.pair tLn tI) nd k).1 :: g k), ks, (ks.length : Int), ((i + 1 : Nat) : Int))) : Option (Lp (List (Ln × Int) × List Ln × List Int × Int × Int) (List Ln))) := fun o ho => by
        rw [ho, obind_some, if_pos c5, hfl]
        simp
      refine ev_nb _ _ (ev_nb _ _ ?_ ?_) ?_ <;> (simp only [ev_ck0, ev_c1, ev_leaf]; rw [if_pos c4]; exact one _ k2))
    (by
      unfold L22o_11 U22o_11
      dsimp only
      rw [ev_br, if_neg (by simp), ev_leaf]) N hN
  unfold W22o_11
  rw [List.take_zero, List.flatMap_nil, List.take_of_length_le (Nat.le_refl _)] at this
  exact this

theorem F_sorted (h : Rl P nd op t p) (hi : PInv t p) (N : Nat) (hl : nd.length ≤ 200) (hN : 1000 < N) : ∀ (n : Nat) (u : Int), -1 ≤ u → u < nd.length → 17 ≤ n + (upP P u).length → (G22o N n).1 nd u = some ((srtE P nd n u).map ln)
  | 0, u, u0, u1, hn => by
    exfalso
    unfold upP at hn
    split at hn
    · simp at hn
    · rename_i hu
      have := h.deep hi.tree (i := u.toNat) (by omega)
      omega
  | n + 1, u, u0, u1, hn => by
    have ih := F_sorted h hi N hl hN n
    show (V22o N _ _ nd u).eval = _
    unfold V22o
    rw [ev_f1, F_kidsP N _ _ nd u (by omega) (by omega), lp1_brk]
    dsimp only
    have hsort : F45rK46 N (kidsN nd u) nd = some (sortN nd (kidsN nd u)) := by
      unfold F45rK46
      refine if_pos ⟨?_, fun k hk => ?_, h.words u⟩
      · unfold kidsN
        have := List.length_filter_le (fun i => (nd.getD i ((0, [], 0), 0)).2 == u) (List.range nd.length)
        rw [List.length_map, List.length_range] at *
        omega
      · obtain ⟨i, hi', rfl, _⟩ := mem_kids.1 hk
        exact ⟨by omega, by omega⟩
    rw [ev_cr, hsort, obind_some, ev_f1]
    have hkl : (sortN nd (kidsN nd u)).length ≤ 200 := by
      unfold sortN
      rw [List.length_mergeSort]
      unfold kidsN
      have := List.length_filter_le (fun i => (nd.getD i ((0, [], 0), 0)).2 == u) (List.range nd.length)
      rw [List.length_map]
      rw [List.length_range] at this
      omega
    have hflat : ((sortN nd (kidsN nd u)).flatMap fun k => (atI (.pair tLn tI) nd k).1 :: (srtE P nd n k).map ln) = (srtE P nd (n + 1) u).map ln := by
      have hu : srtE P nd (n + 1) u = (sortN nd (kidsN nd u)).flatMap fun k => (P.getD k.toNat [], (atI (.pair tLn tI) nd k).1.2.2) :: srtE P nd n k := rfl
      rw [hu, List.map_flatMap, List.flatMap_def, List.flatMap_def]
      refine congrArg List.flatten (List.map_congr_left fun k hk => ?_)
      obtain ⟨i, hi', rfl, _⟩ := mem_kids.1 (mem_sortN.1 hk)
      rw [List.map_cons, (wdN_get hi').2, Int.toNat_natCast, h.line hi']
    rw [F_out N _ _ nd (fun k => (srtE P nd n k).map ln) (sortN nd (kidsN nd u)) (fun k hk => by
      obtain ⟨i, hi', rfl, hp⟩ := h.kid (mem_sortN.1 hk)
      refine ⟨by omega, by omega, ih (i : Int) (by omega) (by omega) ?_⟩
      rw [h.up hi', hp, List.length_append]
      simp; omega) (by omega) (by
      rw [hflat, List.length_map]
      have := srtE_len h (n + 1) u u0 u1
      omega) (by omega), lp1_brk, ev_leaf, hflat]
end

/-! ### A text's tree -/

theorem F_loop (N : Nat) (s : Bs) (l : List Tok) (hg : ∀ x ∈ l, gdK x) (hl : l.length ≤ 1000000) (hN : l.length + 1000 < N) :
    lp1 (W11_5 N (s, (l, (s.length : Int), [], []))) id (fun x4 => if decide ((0 : Int) < (x4.2.2.2.2.length : Int)) = true then some (([] : List Ln), (x4.1.length : Int), (2 : Int)) else (F22o N x4.2.2.2.1 (-1)).bind fun x5 => some (x5, (0 : Int), (0 : Int))) = some (resS (runA (s.length : Int) [] [] l)) := by
  obtain ⟨R, hR⟩ : ∃ R, resS (runA (s.length : Int) [] [] l) = R := ⟨_, rfl⟩
  obtain ⟨o, ho, hp⟩ := runLoop_post (R := List Ln × Int × Int) (step := fun x => L11_5 N x.1 x.2)
    (fun x => x.1 = s ∧ x.2.2.1 = (s.length : Int) ∧ (∀ y ∈ x.2.1, gdK y) ∧ x.2.1.length ≤ l.length ∧ ∃ P t p, Rl P x.2.2.2.1 x.2.2.2.2 t p ∧ PInv t p ∧ resS (runA (s.length : Int) t p x.2.1) = R) (fun x => x.2.1.length)
    (fun o => lp1 (some o) id (fun x4 => if decide ((0 : Int) < (x4.2.2.2.2.length : Int)) = true then some (([] : List Ln), (x4.1.length : Int), (2 : Int)) else (F22o N x4.2.2.2.1 (-1)).bind fun x5 => some (x5, (0 : Int), (0 : Int))) = some R)
    (by
      rintro ⟨s', l', e, nd, op⟩ ⟨e1, e2, g1, g2, P, t, p, hr, hi, hres⟩
      dsimp only at e1 e2 g1 g2 hr hres ⊢
      subst e1; subst e2
      unfold L11_5 U11_5
      rw [ev_br]
      cases l' with
      | nil =>
        refine ⟨_, by rw [if_neg (by simp), ev_leaf], .inr ⟨fun y h => (by cases h), ?_⟩⟩
        rw [lp1_brk]
        dsimp only
        rw [runA_nil] at hres
        have hol := hr.olen
        by_cases hp0 : p = []
        · subst hp0
          rw [if_pos rfl] at hres
          have hop : op.length = 0 := by simpa using hol
          rw [if_neg (by rw [hop]; simp)]
          have hs := F_sorted hr hi N (by rw [← hr.tlen]; exact hi.few) (by omega) N (-1) (by omega) (by omega) (by omega)
          have hs' : F22o N nd (-1) = some t := by rw [← srt_tree hr hi (f := N) (by omega)]; exact hs
          rw [hs', obind_some, ← hres]; rfl
        · rw [if_neg hp0] at hres
          have := List.length_pos_iff.2 hp0
          rw [if_pos (decide_eq_true (by omega)), ← hres]; rfl
      | cons x r =>
        have hst := F_stmt N (s'.length : Int) x r hr hi g1 (by omega) (by omega)
        have hne : (x :: r : List Tok) ≠ [] := by simp
        rw [runA_eq hne] at hres
        cases hq : stS (s'.length : Int) t p (x :: r) with
        | error q =>
          rw [hq] at hst hres
          obtain ⟨a, ha, hb⟩ := hst
          refine ⟨_, by rw [if_pos (decide_eq_true (by simp only [List.length_cons]; omega)), ev_cr3, ha, obind_some, ev_br, if_pos (by simpa using hb), ev_leaf], .inr ⟨fun y h => (by cases h), ?_⟩⟩
          rw [lp1_ret, ← hres]; rfl
        | ok q =>
          rw [hq] at hst hres
          obtain ⟨P', nd', op', ha, hr'⟩ := hst
          obtain ⟨t', p', l2⟩ := q
          obtain ⟨i1, i2, _⟩ := st_inv hi g1 hq
          have hlt := stS_lt hq
          dsimp only at ha hr' hres hlt
          refine ⟨_, by rw [if_pos (decide_eq_true (by simp only [List.length_cons]; omega)), ev_cr3, ha, obind_some, ev_br, if_neg (by simp), ev_leaf], .inl ⟨_, rfl, ⟨rfl, rfl, i2, by simp only; omega, P', t', p', hr', i1, hres⟩, hlt⟩⟩) N (s, (l, (s.length : Int), [], [])) ⟨rfl, rfl, hg, Nat.le_refl _, [], [], [], Rl.nil, PInv.nil, hR⟩ (by simp only; omega)
  unfold W11_5
  rw [ho, hp, hR]
/-- What the program reads. -/
theorem F_tree (N : Nat) (s : Bs) (hN : s.length + 2000 < N) (hL : s.length ≤ 1000000) : F11 N s = some (treeS s) := by
  unfold F11 V11
  rw [ev_c3, F_all N s (by omega) (by omega), obind_some, ev_br]
  unfold allS treeS
  cases hx : lexR s with
  | error ke =>
    obtain ⟨k, e⟩ := ke
    have he := (lex_err s.length s k e (Nat.le_refl _) hx).2.2
    dsimp only
    rw [if_pos (by simpa using he), ev_leaf]
  | ok l =>
    have hl := lex_len s l hx
    dsimp only
    rw [if_neg (by simp), ev_f1]
    have := F_loop N s (l.map (toTok s.length)) (toTok_good (lex_good hx)) (by simp; omega) (by simp; omega)
    rw [← this]
    congr 1
    funext x4
    rw [ev_br, ev_leaf, ev_c1]
    rfl

end Go.Proofs.Ytmohgkoomnihfaa.Vc

/-
  A TREE'S TEXT, AS THE PROGRAM AND AS THE DOCUMENT WRITE IT. No condition.
-/
set_option linter.unusedVariables false
set_option linter.unusedSimpArgs false
set_option maxRecDepth 100000
namespace Go.Proofs.Ytmohgkoomnihfaa.Vc

theorem rep_ind : ∀ d : Nat, Lib.repeatL [32, 32] d = indW d
  | 0 => rfl
  | d + 1 => by
    show [32, 32] ++ Lib.repeatL [32, 32] d = _
    rw [rep_ind d]
    unfold indW
    rw [show 2 * (d + 1) = 2 * d + 1 + 1 by omega, List.replicate_succ, List.replicate_succ]
    rfl
theorem P_indent (N : Nat) (d : Int) (h0 : 0 ≤ d) (h1 : d ≤ 1000) : F35 N d = some (indW d.toNat) := by
  unfold F35 V35
  have h : F59 N [32, 32] d = some (Lib.repeatL [32, 32] d.toNat) := if_pos ⟨h0, h1, by simp⟩
  rw [ev_c1, h, obind_some, ev_leaf, rep_ind]
theorem bit1W {m : Int} (h0 : 0 ≤ m) (h3 : m ≤ 3) : (IntKind.i64.wrap (((BitVec.ofInt IntKind.i64.bits m &&& BitVec.ofInt IntKind.i64.bits 1).toNat : Int)) != 0) = decide (m % 2 = 1) := by
  have : m = 0 ∨ m = 1 ∨ m = 2 ∨ m = 3 := by omega
  rcases this with h | h | h | h <;> subst h <;> decide
theorem P_marksW (N : Nat) (m : Int) (h0 : 0 ≤ m) (h3 : m ≤ 3) : F36 N m = some (mksW m) := by
  unfold F36 V36
  simp only [ev_br, ev_ck0, ev_leaf, bit1W h0 h3, bit2 h0 h3]
  have c1 : room (([] : Bs).length + ([105, 110, 97, 99, 116, 105, 118, 101, 58, 32] : Bs).length) := by show _ ≤ _; simp
  have c2 : room ((([] : Bs) ++ ([105, 110, 97, 99, 116, 105, 118, 101, 58, 32] : Bs)).length + ([112, 114, 111, 116, 101, 99, 116, 58, 32] : Bs).length) := by show _ ≤ _; simp
  have c3 : room (([] : Bs).length + ([112, 114, 111, 116, 101, 99, 116, 58, 32] : Bs).length) := by show _ ≤ _; simp
  unfold mksW
  by_cases h1 : m % 2 = 1 <;> by_cases h2 : 1 < m <;> simp only [h1, h2, decide_true, decide_false, if_true, if_false, if_pos c1, if_pos c2, if_pos c3, Bool.false_eq_true] <;> rfl
theorem cls_none (d h : Nat) (hd : d ≤ h) : clsW d h = [] := by
  cases d with
  | zero => rfl
  | succ d => unfold clsW; rw [if_neg (by omega)]
theorem P_closed (N : Nat) (d h : Int) (h0 : 0 ≤ h) (hd0 : 0 ≤ d) (hd : d ≤ 100) (hN : 200 < N) : F37 N d h = some (clsW d.toNat h.toNat) := by
  unfold F37 V37
  have hw : IntKind.i64.wrap (d - 1) = d - 1 := wrapI (by omega) (by omega)
  rw [ev_f1, hw]
  obtain ⟨o, ho, i', hp⟩ := runLoop_post (R := Bs) (step := fun x => L37_3 N x.1 x.2.1 x.2.2)
    (fun x => x.1 = h ∧ -1 ≤ x.2.2 ∧ x.2.2 ≤ 99 ∧ x.2.1.length ≤ (100 - x.2.2).toNat * 300 ∧ x.2.1 ++ clsW (x.2.2 + 1).toNat h.toNat = clsW d.toNat h.toNat) (fun x => (x.2.2 + 1).toNat)
    (fun o => ∃ i', o = .brk 0 (h, clsW d.toNat h.toNat, i'))
    (by
      rintro ⟨h', out, i⟩ ⟨e1, i0, i1, hol, he⟩
      dsimp only at e1 i0 i1 hol he ⊢
      subst e1
      unfold L37_3 U37_3
      by_cases hi : h' ≤ i
      · have hwi : IntKind.i64.wrap (i - 1) = i - 1 := wrapI (by omega) (by omega)
        have hlen := indW_len i.toNat
        have c1 : room ((indW i.toNat).length + ([125, 10] : Bs).length) := by show _ ≤ _; rw [hlen]; simp; omega
        have c2 : room (out.length + (indW i.toNat ++ ([125, 10] : Bs)).length) := by show _ ≤ _; rw [List.length_append, hlen]; simp; omega
        have hcl : clsW (i + 1).toNat h'.toNat = indW i.toNat ++ ([125, 10] ++ clsW (i - 1 + 1).toNat h'.toNat) := by
          rw [show (i + 1).toNat = i.toNat + 1 by omega, show (i - 1 + 1).toNat = i.toNat by omega]
          conv => lhs; unfold clsW
          rw [if_pos (by omega)]; rfl
        refine ⟨_, by simp only [ev_br, ev_c1, ev_leaf, ev_ck0, P_indent N i (by omega) (by omega), obind_some, hwi]; rw [if_pos (decide_eq_true hi), if_pos c1, if_pos c2], .inl ⟨_, rfl, ⟨rfl, by simp only; omega, by simp only; omega, ?_, ?_⟩, by simp only; omega⟩⟩
        · simp only [List.length_append, hlen, List.length_cons, List.length_nil]
          have : (100 - (i - 1)).toNat * 300 = (100 - i).toNat * 300 + 300 := by omega
          omega
        · simp only [List.append_assoc]
          rw [← he, hcl]
      · have hcl := cls_none (i + 1).toNat h'.toNat (by omega)
        rw [hcl, List.append_nil] at he
        refine ⟨_, by rw [ev_br, if_neg (by simpa using hi), ev_leaf], .inr ⟨fun y hy => (by cases hy), i, by rw [he]⟩⟩) N (h, [], d - 1) ⟨rfl, by simp only; omega, by simp only; omega, by simp, by simp only [List.nil_append]; congr 1; omega⟩ (by simp only; omega)
  unfold W37_3
  rw [ho, hp, lp1_brk, ev_leaf]

/-- What is written of line i. -/
def pceW (t : List Ln) (i : Nat) : Bs := indW (t.getD i (0, [], 0)).1.toNat ++ (mksW (t.getD i (0, [], 0)).2.2 ++ (quoteS (t.getD i (0, [], 0)).2.1 ++ endW (t.getD i (0, [], 0)).1.toNat (hdD (t.drop (i + 1)))))
theorem txt_drop (t : List Ln) {i : Nat} (h : i < t.length) : txt (t.drop i) = pceW t i ++ txt (t.drop (i + 1)) := by
  have e : t.getD i (0, [], 0) = t[i] := getD_of_lt t h
  unfold pceW
  rw [List.drop_eq_getElem_cons h, txt, e]
  simp only [List.append_assoc]
theorem pce_ne (t : List Ln) (i : Nat) : pceW t i ≠ [] := by
  unfold pceW endW
  split <;> simp
theorem hd_next (t : List Ln) (i : Nat) : hdD (t.drop (i + 1)) = if h : i + 1 < t.length then (t[i + 1]).1.toNat else 0 := by
  split
  · rename_i h; rw [List.drop_eq_getElem_cons h]; rfl
  · rename_i h; rw [List.drop_of_length_le (by omega)]; rfl
theorem bts_len (x : Bs) : (bts x).length = x.length := by unfold bts; rw [List.length_map]
theorem F_wsW (N : Nat) (b : Bool) (t s : Bs) (hl : t.length + s.length ≤ 100000000) (h0 : t ++ s ≠ []) : F34b N (b, bts t) s = some (true, bts (t ++ s)) := by
  rw [F_ws N b (bts t) s (by rw [bts_len]; exact hl) (fun e => h0 (by
    have := congrArg List.length e
    rw [List.length_append, bts_len, bts_len, List.length_nil] at this
    exact List.eq_nil_of_length_eq_zero (by rw [List.length_append]; omega))), bts_app]

/-- What the program writes of a tree. -/
theorem P_text4 (N : Nat) (t : List Ln) (htN : t.length < N) (hN : 5000 < N) : F18 N t = some (if rightS t = true then (txt t, 0) else ([], 1)) := by
  unfold F18 V18
  rw [ev_c1, F_right N t htN, obind_some, ev_br]
  by_cases hr : rightS t = true
  · rw [if_neg (by simp [hr]), if_pos hr, ev_f1]
    obtain ⟨h200, hrf⟩ := rightS_iff.1 hr
    have htl := txt_len0 hrf
    have main := runLoop_post (R := Bs × Int) (step := fun x => L18_5 N x.1 x.2.1 x.2.2.1 x.2.2.2.1 x.2.2.2.2)
      (fun x => x.1 = t ∧ x.2.2.1 = t ∧ x.2.2.2.1 = (t.length : Int) ∧ 0 ≤ x.2.2.2.2 ∧ x.2.2.2.2 ≤ t.length ∧ ∃ acc : Bs, x.2.1 = (true, bts acc) ∧ acc ++ txt (t.drop x.2.2.2.2.toNat) = txt t) (fun x => (t.length - x.2.2.2.2).toNat)
      (fun o => ∃ j, o = .brk 0 (t, (true, bts (txt t)), t, (t.length : Int), j))
      (by
        rintro ⟨t2, b, t', n, i⟩ ⟨e1, e2, e3, i0, i1, acc, e4, hacc⟩
        dsimp only at e1 e2 e3 i0 i1 e4 hacc ⊢
        subst e4
        subst e2; subst e1
        subst e3
        unfold L18_5 U18_5
        by_cases hi : i < (t2.length : Int)
        · obtain ⟨k, rfl⟩ := Int.eq_ofNat_of_zero_le i0
          rw [Int.toNat_natCast] at hacc
          have hk : k < t2.length := by omega
          rw [txt_drop t2 hk] at hacc
          have hb := snd_iff.1 (rf_at hrf hk).1
          have c1 : inR (k : Int) t2.length := ⟨by omega, hi⟩
          have hat : atI tLn t2 (k : Int) = t2[k] := by show t2.getD _ _ = _; rw [Int.toNat_natCast]; simp [hk]
          have hgD : t2.getD k (0, [], 0) = t2[k] := getD_of_lt t2 hk
          have hw : IntKind.i64.wrap ((k : Int) + 1) = (k : Int) + 1 := wrapI (by omega) (by omega)
          have hq : F33 N (t2[k]).2.1 = some (quoteS (t2[k]).2.1, 0) := by rw [F_quote N _ (by omega), if_neg (by have := hb.2.2.1; omega)]
          have hin := P_indent N (t2[k]).1 hb.1 (by omega)
          have hmk := P_marksW N (t2[k]).2.2 hb.2.2.2.1 hb.2.2.2.2
          have hql := quote_len (t2[k]).2.1
          have hil := indW_len (t2[k]).1.toNat
          have hml := mksW_len (t2[k]).2.2
          have hal : acc.length ≤ 200000 := by
            have := congrArg List.length hacc
            rw [List.length_append] at this; omega
          have g1 : room ((indW (t2[k]).1.toNat).length + (mksW (t2[k]).2.2).length) := by show _ ≤ _; omega
          have g2 : room ((indW (t2[k]).1.toNat ++ mksW (t2[k]).2.2).length + (quoteS (t2[k]).2.1).length) := by show _ ≤ _; rw [List.length_append]; omega
          obtain ⟨q, hqd⟩ : ∃ q, (indW (t2[k]).1.toNat ++ mksW (t2[k]).2.2) ++ quoteS (t2[k]).2.1 = q := ⟨_, rfl⟩
          have hqne : q ≠ [] := by
            rw [← hqd]
            obtain ⟨c, r, hc, _⟩ := quote_head (t2[k]).2.1
            rw [hc]; simp
          have hqlen : q.length ≤ 1000 := by rw [← hqd, List.length_append, List.length_append]; omega
          have hws := F_wsW N true acc q (by omega) (by simp [hqne])
          have hpce : pceW t2 k = q ++ endW (t2[k]).1.toNat (hdD (t2.drop (k + 1))) := by
            unfold pceW; rw [hgD, ← hqd]; simp only [List.append_assoc]
          have hnx := hd_next t2 k
          have hend := endW_len (d := (t2[k]).1.toNat) (h := hdD (t2.drop (k + 1))) (by omega)
          have hlast : ∀ w : Bs, w = endW (t2[k]).1.toNat (hdD (t2.drop (k + 1))) → F34b N (true, bts (acc ++ q)) w = some (true, bts (acc ++ q ++ endW (t2[k]).1.toNat (hdD (t2.drop (k + 1))))) := fun w hwd => by
            rw [hwd]
            exact F_wsW N true (acc ++ q) _ (by rw [List.length_append]; omega) (by simp [hqne])
          refine ⟨.next (t2, (true, bts (acc ++ q ++ endW (t2[k]).1.toNat (hdD (t2.drop (k + 1))))), t2, (t2.length : Int), (k : Int) + 1), ?_, .inl ⟨_, rfl, ⟨rfl, rfl, rfl, by simp only; omega, by simp only; omega, acc ++ q ++ endW (t2[k]).1.toNat (hdD (t2.drop (k + 1))), rfl, ?_⟩, by simp only; omega⟩⟩
          · have hq' : F33 N (atI tLn t2 (k : Int)).2.1 = some (quoteS (t2[k]).2.1, 0) := by rw [hat]; exact hq
            rw [ev_br, if_pos (decide_eq_true hi), ev_ck c1, ev_c2, hq', obind_some]
            dsimp only
            have d0 : ¬decide ((t2[k]).1 < 0) = true := by have := hb.1; simp; omega
            refine ev_nb _ _ ?_ ?_ <;>
            · simp only [ev_br, ev_c1, ev_cr, ev_leaf, ev_ck0, hat, hw, obind_some, hin, hmk, if_pos g1, if_pos g2, hqd, hws]
              by_cases hk1 : k + 1 < t2.length
              · have hat1 : atI tLn t2 ((k : Int) + 1) = t2[k + 1] := by show t2.getD _ _ = _; rw [show ((k : Int) + 1).toNat = k + 1 by omega]; simp [hk1]
                have c2 : inR ((k : Int) + 1) t2.length := ⟨by omega, by omega⟩
                have hb1 := snd_iff.1 (rf_at hrf hk1).1
                rw [dif_pos hk1] at hnx
                rw [if_pos (decide_eq_true (by omega)), if_pos c2, hat1]
                by_cases hdp : (t2[k]).1 < (t2[k + 1]).1
                · have he : ([32, 123, 10] : Bs) = endW (t2[k]).1.toNat (hdD (t2.drop (k + 1))) := by unfold endW; rw [hnx, if_pos (by have := hb.1; omega)]
                  rw [if_pos (decide_eq_true hdp), hlast _ he, obind_some]
                · have hc := P_closed N (t2[k]).1 (t2[k + 1]).1 hb1.1 hb.1 (by omega) (by omega)
                  have he : ([59, 10] : Bs) ++ clsW (t2[k]).1.toNat (t2[k + 1]).1.toNat = endW (t2[k]).1.toNat (hdD (t2.drop (k + 1))) := by unfold endW; rw [hnx, if_neg (by have := hb1.1; omega)]; rfl
                  have c3 : room (([59, 10] : Bs).length + (clsW (t2[k]).1.toNat (t2[k + 1]).1.toNat).length) := by
                    show _ ≤ _
                    have := congrArg List.length he
                    rw [List.length_append] at this; omega
                  rw [if_neg (by simpa using hdp), hc, obind_some, if_pos c3, hlast _ he, obind_some]
              · rw [dif_neg hk1] at hnx
                have hc := P_closed N (t2[k]).1 0 (Int.le_refl _) hb.1 (by omega) (by omega)
                have he : ([59, 10] : Bs) ++ clsW (t2[k]).1.toNat (0 : Int).toNat = endW (t2[k]).1.toNat (hdD (t2.drop (k + 1))) := by unfold endW; rw [hnx, if_neg (by omega)]; rfl
                have c3 : room (([59, 10] : Bs).length + (clsW (t2[k]).1.toNat (0 : Int).toNat).length) := by
                  show _ ≤ _
                  have := congrArg List.length he
                  rw [List.length_append] at this; omega
                rw [if_neg (by simp; omega), if_neg d0, hc, obind_some, if_pos c3, hlast _ he, obind_some]
          · dsimp only
            rw [show ((k : Int) + 1).toNat = k + 1 by omega, ← hacc, hpce]
            simp only [List.append_assoc]
        · have hii : i = (t2.length : Int) := by omega
          subst hii
          rw [Int.toNat_natCast, List.drop_of_length_le (Nat.le_refl _)] at hacc
          have hacc' : acc = txt t2 := by rw [← hacc]; simp [txt]
          refine ⟨_, by rw [ev_br, if_neg (by simp), ev_leaf], .inr ⟨fun y hy => (by cases hy), (t2.length : Int), by rw [hacc']⟩⟩) N (t, (true, []), t, (t.length : Int), 0) ⟨rfl, rfl, rfl, Int.le_refl _, by simp only; omega, [], rfl, by simp⟩ (by simp only; omega)
    obtain ⟨o, ho, j, hp⟩ := main
    unfold W18_5
    rw [ho, hp, lp1_brk]
    dsimp only
    rw [ev_cr, F_string, obind_some, ev_leaf]
  · rw [if_pos (by simp [hr]), if_neg hr, ev_leaf]

end Go.Proofs.Ytmohgkoomnihfaa.Vc

/-
  A TREE'S TEXT, AS THE DOCUMENT WRITES IT. No condition.
-/
set_option linter.unusedVariables false
set_option linter.unusedSimpArgs false
set_option maxRecDepth 100000
namespace Go.Proofs.Ytmohgkoomnihfaa.Vc

theorem R_blanks (N : Nat) (d : Int) (h0 : 0 ≤ d) (h1 : d ≤ 1000) (hN : 2000 < N) : F26 N d = some (indW d.toNat) := by
  unfold F26 V26
  rw [ev_f1]
  have := loop_up (R := Bs) (step := fun x => L26_3 N x.1 x.2.1 x.2.2) d.toNat (fun i => (d, indW i, (i : Int)))
    (fun i hi => by
      unfold L26_3 U26_3
      dsimp only
      have hw : IntKind.i64.wrap ((i : Int) + 1) = (i : Int) + 1 := wrapI (by omega) (by omega)
      have hl := indW_len i
      have c1 : room ((indW i).length + ([32, 32] : Bs).length) := by show _ ≤ _; rw [hl]; simp; omega
      have he : indW i ++ ([32, 32] : Bs) = indW (i + 1) := by
        unfold indW
        rw [show 2 * (i + 1) = 2 * i + 1 + 1 by omega, List.replicate_succ', List.replicate_succ', List.append_assoc]; rfl
      rw [ev_br, if_pos (decide_eq_true (by omega)), ev_ck c1, ev_leaf, hw, he]
      rfl)
    (by
      unfold L26_3 U26_3
      dsimp only
      rw [ev_br, if_neg (by simp; omega), ev_leaf]) N (by omega)
  unfold W26_3
  have this : runLoop _ N (d, ([] : Bs), (0 : Int)) = _ := this
  rw [this, lp1_brk, ev_leaf]

theorem R_back (N : Nat) (t : List Ln) (s : Bs) (i d : Int) (ht : t.length ≤ 1000) : ∀ (k : Nat) (M : Nat), k < t.length → 0 ≤ unS t (d + 1) (k + 1) → k < M →
    runLoop (fun x => L16_19 N x.1 x.2.1 x.2.2.1 x.2.2.2.1 x.2.2.2.2) M (t, s, i, d, (k : Int)) = some (.brk 0 (t, s, i, d, unS t (d + 1) (k + 1)))
  | k, 0, _, _, h => by omega
  | k, M + 1, hk, hu, hM => by
    unfold runLoop
    have c1 : inR (k : Int) t.length := ⟨by omega, by omega⟩
    have hat : atI tLn t (k : Int) = t[k] := by show t.getD _ _ = _; rw [Int.toNat_natCast]; simp [hk]
    have hgD := getD_of_lt t hk
    have hstep : L16_19 N t s i d (k : Int) = some (if (t[k]).1 < d + 1 then .brk 0 (t, s, i, d, (k : Int)) else .next (t, s, i, d, (k : Int) - 1)) := by
      unfold L16_19 U16_19
      have hw : IntKind.i64.wrap ((k : Int) - 1) = (k : Int) - 1 := wrapI (by omega) (by omega)
      rw [ev_ck c1, ev_br, hat]
      by_cases h : (t[k]).1 < d + 1
      · rw [if_neg (by simp; omega), if_pos h, ev_leaf]
      · rw [if_pos (decide_eq_true (by omega)), if_neg h, ev_leaf, hw]
    dsimp only
    rw [hstep]
    conv at hu => unfold unS
    conv => rhs; unfold unS
    rw [hgD] at hu ⊢
    by_cases h : (t[k]).1 < d + 1
    · rw [if_pos h, if_pos h]
    · rw [if_neg h] at hu
      rw [if_neg h, if_neg h]
      cases k with
      | zero => simp [unS] at hu
      | succ k =>
        dsimp only
        rw [show ((k + 1 : Nat) : Int) - 1 = (k : Int) by omega]
        exact R_back N t s i d ht k M (by omega) hu (by omega)

/-- The line of depth d over line i ends with it, just where the next line is no deeper. -/
theorem end_iff {t : List Ln} (h : rf [] t = true) {i : Nat} (hi : i < t.length) {d : Nat} (hd : (d : Int) < (t[i]).1) : ∃ u : Nat, unS t ((d : Int) + 1) (i + 1) = (u : Int) ∧ u < t.length ∧ (endN t u = i + 1 ↔ hdD (t.drop (i + 1)) ≤ d) := by
  have hal := after_len h hi
  obtain ⟨u, h1, h2, _⟩ := under_path h (i + 1) (by omega) (d + 1) (by omega) (by omega)
  have h1' : unS t ((d : Int) + 1) (i + 1) = (u : Int) := h1
  obtain ⟨g1, g2, g3⟩ := (unS_spec t ((d : Int) + 1) (i + 1) u).1 h1'
  have hu : u < t.length := by omega
  have hui : u < i := by
    rcases Nat.lt_or_ge u i with a | a
    · exact a
    · have : u = i := by omega
      subst this
      rw [getD_of_lt t hu] at g2; omega
  rw [getD_of_lt t hu] at g2
  -- its depth
  have hdu : (t[u]).1 = (d : Int) := by
    have h3 := g3 (u + 1) (by omega) (by omega)
    have hu1 : u + 1 < t.length := by omega
    rw [getD_of_lt t hu1] at h3
    have h4 := (rf_at h hu1).2.1
    rw [after_len h hu] at h4
    have h5 := (snd_iff.1 (rf_at h hu).1).1
    omega
  have hge : i + 1 ≤ endN t u := by
    rcases Nat.lt_or_ge (endN t u) (i + 1) with a | a
    · have hgt := endN_gt t u
      have hlt : endN t u < t.length := by omega
      have h3 := endN_out t u hlt
      rw [getD_of_lt t hu, hdu] at h3
      have h4 := g3 (endN t u) hgt a
      omega
    · exact a
  refine ⟨u, h1', hu, ?_⟩
  rw [hd_next]
  constructor
  · intro he
    split
    · rename_i hlt
      have h3 := endN_out t u (by omega)
      rw [he, getD_of_lt t hlt, getD_of_lt t hu, hdu] at h3
      omega
    · omega
  · intro hle
    rcases Nat.lt_or_eq_of_le hge with a | a
    · exfalso
      have hlt : i + 1 < t.length := by have := endN_le t hu; omega
      rw [dif_pos hlt] at hle
      have h3 := endN_in t u (i + 1) (by omega) a
      rw [getD_of_lt t hlt, getD_of_lt t hu, hdu] at h3
      omega
    · exact a.symm

theorem R_shut4 (N : Nat) (t : List Ln) (s : Bs) {i : Nat} (h : rf [] t = true) (h200 : t.length ≤ 200) (hi : i < t.length) (hs : s.length ≤ 300000) (hN : 5000 < N) :
    W16_16 N (t, s, (i : Int), (t[i]).1 - 1) = some (.brk 0 (t, s ++ clsW (t[i]).1.toNat (hdD (t.drop (i + 1))), (i : Int), -1)) := by
  have hb := snd_iff.1 (rf_at h hi).1
  obtain ⟨hh, hhd⟩ : ∃ hh, hdD (t.drop (i + 1)) = hh := ⟨_, rfl⟩
  obtain ⟨tgt, htgt⟩ : ∃ tgt, s ++ clsW (t[i]).1.toNat hh = tgt := ⟨_, rfl⟩
  obtain ⟨o, ho, hp⟩ := runLoop_post (R := Bs) (step := fun x => L16_16 N x.1 x.2.1 x.2.2.1 x.2.2.2)
    (fun x => x.1 = t ∧ x.2.2.1 = (i : Int) ∧ -1 ≤ x.2.2.2 ∧ x.2.2.2 < (t[i]).1 ∧ x.2.1.length ≤ 300000 + (16 - x.2.2.2).toNat * 100 ∧ x.2.1 ++ clsW (x.2.2.2 + 1).toNat hh = tgt) (fun x => (x.2.2.2 + 1).toNat)
    (fun o => o = .brk 0 (t, tgt, (i : Int), -1))
    (by
      rintro ⟨t', s', i', d⟩ ⟨e1, e2, d0, d1, hsl, he⟩
      dsimp only at e1 e2 d0 d1 hsl he ⊢
      subst e1; subst e2
      unfold L16_16 U16_16
      by_cases hd0 : 0 ≤ d
      · obtain ⟨e, rfl⟩ := Int.eq_ofNat_of_zero_le hd0
        obtain ⟨u, u1, u2, u3⟩ := end_iff h hi d1
        have hbk := R_back N t' s' (i : Int) (e : Int) (by omega) i N hi (by rw [u1]; omega) (by omega)
        have hW : W16_19 N (t', s', (i : Int), (e : Int), (i : Int)) = some (.brk 0 (t', s', (i : Int), (e : Int), (u : Int))) := by
          unfold W16_19
          rw [hbk, u1]
        have hE := R_end N t' (u : Int) (by omega) (by omega) (by omega) (by omega)
        rw [Int.toNat_natCast] at hE
        have hB := R_blanks N (e : Int) (by omega) (by omega) (by omega)
        rw [Int.toNat_natCast] at hB
        have hil := indW_len e
        have hwe : IntKind.i64.wrap ((e : Int) - 1) = (e : Int) - 1 := wrapI (by omega) (by omega)
        have hwi : IntKind.i64.wrap ((i : Int) + 1) = (i : Int) + 1 := wrapI (by omega) (by omega)
        have g1 : room (s'.length + (indW e).length) := by show _ ≤ _; omega
        have g2 : room ((s' ++ indW e).length + ([125, 10] : Bs).length) := by show _ ≤ _; rw [List.length_append]; simp; omega
        simp only [ev_br, Vt.g1, ev_loop1, hW, lp1_brk, ev_c1, hE, obind_some, hwi, hB, ev_ck0, if_pos g1, if_pos g2, ev_leaf, hwe]
        rw [if_pos (decide_eq_true hd0)]
        rw [hhd] at u3
        have hcl : clsW ((e : Int) + 1).toNat hh = if hh ≤ e then indW e ++ ([125, 10] ++ clsW e hh) else [] := by
          rw [show ((e : Int) + 1).toNat = e + 1 by omega]
          conv => lhs; unfold clsW
          rfl
        by_cases hle : hh ≤ e
        · rw [if_pos (by have := u3.2 hle; rw [this]; simp)]
          rw [hcl, if_pos hle] at he
          refine ⟨_, rfl, .inl ⟨_, rfl, ⟨rfl, rfl, by simp only; omega, by simp only; omega, ?_, ?_⟩, by simp only; omega⟩⟩
          · simp only [List.length_append, hil, List.length_cons, List.length_nil]
            have : (16 - ((e : Int) - 1)).toNat * 100 = (16 - (e : Int)).toNat * 100 + 100 := by have := hb.2.1; omega
            have := hb.2.1
            omega
          · simp only [List.append_assoc]
            rw [show ((e : Int) - 1 + 1).toNat = e by omega]
            exact he
        · rw [if_neg (by
            have hne : endN t' u ≠ i + 1 := fun e2 => hle (u3.1 e2)
            rw [beq_iff_eq]; omega)]
          rw [hcl, if_neg hle] at he
          refine ⟨_, rfl, .inl ⟨_, rfl, ⟨rfl, rfl, by simp only; omega, by simp only; omega, ?_, ?_⟩, by simp only; omega⟩⟩
          · simp only
            have : (16 - ((e : Int) - 1)).toNat * 100 = (16 - (e : Int)).toNat * 100 + 100 := by have := hb.2.1; omega
            omega
          · simp only
            rw [show ((e : Int) - 1 + 1).toNat = e by omega, cls_none e hh (by omega)]
            exact he
      · have : d = -1 := by omega
        subst this
        have he' : s' = tgt := by rw [← he]; simp [clsW]
        refine ⟨_, by rw [ev_br, if_neg (by decide), ev_leaf], .inr ⟨fun y hy => (by cases hy), by rw [he']⟩⟩) N (t, s, (i : Int), (t[i]).1 - 1) ⟨rfl, rfl, by simp only; omega, by simp only; omega, by simp only; omega, by simp only; rw [← htgt]; congr 2; omega⟩ (by simp only; omega)
  unfold W16_16
  rw [ho, hp, hhd, htgt]

/-- What the document writes of a tree. -/
theorem R_text4 (N : Nat) (t : List Ln) (hr : rightS t = true) (hN : 5000 < N) : F16 N t = some (txt t) := by
  obtain ⟨h200, hrf⟩ := rightS_iff.1 hr
  unfold F16 V16
  rw [ev_f1]
  have htl := txt_len0 hrf
  obtain ⟨o, ho, j, hp⟩ := runLoop_post (R := Bs) (step := fun x => L16_3 N x.1 x.2.1 x.2.2)
    (fun x => x.1 = t ∧ 0 ≤ x.2.2 ∧ x.2.2 ≤ t.length ∧ x.2.1 ++ txt (t.drop x.2.2.toNat) = txt t) (fun x => (t.length - x.2.2).toNat)
    (fun o => ∃ j, o = .brk 0 (t, txt t, j))
    (by
      rintro ⟨t', s, i⟩ ⟨e1, i0, i1, hacc⟩
      dsimp only at e1 i0 i1 hacc ⊢
      subst e1
      unfold L16_3 U16_3
      by_cases hi : i < (t'.length : Int)
      · obtain ⟨k, rfl⟩ := Int.eq_ofNat_of_zero_le i0
        rw [Int.toNat_natCast] at hacc
        have hk : k < t'.length := by omega
        rw [txt_drop t' hk] at hacc
        have hb := snd_iff.1 (rf_at hrf hk).1
        have c1 : inR (k : Int) t'.length := ⟨by omega, hi⟩
        have hat : atI tLn t' (k : Int) = t'[k] := by show t'.getD _ _ = _; rw [Int.toNat_natCast]; simp [hk]
        have hgD : t'.getD k (0, [], 0) = t'[k] := getD_of_lt t' hk
        have hw : IntKind.i64.wrap ((k : Int) + 1) = (k : Int) + 1 := wrapI (by omega) (by omega)
        have hwd : IntKind.i64.wrap ((t'[k]).1 - 1) = (t'[k]).1 - 1 := wrapI (by omega) (by omega)
        have hq := R_quote N (t'[k]).2.1 (by have := hb.2.2.1; omega) (by have := hb.2.2.1; omega)
        have hin := R_blanks N (t'[k]).1 hb.1 (by omega) (by omega)
        have hE := R_end N t' (k : Int) (by omega) hi (by omega) (by omega)
        rw [Int.toNat_natCast] at hE
        have hql := quote_len (t'[k]).2.1
        have hil := indW_len (t'[k]).1.toNat
        have hal : s.length ≤ 200000 := by
          have := congrArg List.length hacc
          rw [List.length_append] at this; omega
        have hqm : (quoteS (t'[k]).2.1).length ≤ 162 := by have := hb.2.2.1; omega
        have him : (indW (t'[k]).1.toNat).length ≤ 32 := by omega
        have hend : ((k : Int) + 1 < (endN t' k : Int)) ↔ (t'[k]).1.toNat < hdD (t'.drop (k + 1)) := by
          rw [hd_next]
          have hgt := endN_gt t' k
          constructor
          · intro hlt
            have hl := endN_le t' hk
            have hk1 : k + 1 < t'.length := by omega
            rw [dif_pos hk1]
            have h3 := endN_in t' k (k + 1) (by omega) (by omega)
            rw [hgD, getD_of_lt t' hk1] at h3
            omega
          · intro hlt
            split at hlt
            · rename_i hk1
              rcases Nat.lt_or_ge (k + 1) (endN t' k) with a | a
              · omega
              · have he : endN t' k = k + 1 := by omega
                have h3 := endN_out t' k (by omega)
                rw [he, hgD, getD_of_lt t' hk1] at h3
                have := hb.1
                omega
            · omega
        have hL := fun (s' : Bs) (hs' : s'.length ≤ 300000) => R_shut4 N t' s' (i := k) hrf h200 hk hs' hN
        have goalE : ∀ s' : Bs, s' = s ++ pceW t' k → ∃ o, (some (.next (t', s', (k : Int) + 1)) : Option (Lp (List Ln × Bs × Int) Bs)) = some o ∧ ((∃ y, o = .next y ∧ (y.1 = t' ∧ 0 ≤ y.2.2 ∧ y.2.2 ≤ t'.length ∧ y.2.1 ++ txt (t'.drop y.2.2.toNat) = txt t') ∧ (t'.length - y.2.2).toNat < ((t'.length : Int) - (k : Int)).toNat) ∨ ((∀ y, o ≠ .next y) ∧ ∃ j, o = .brk 0 (t', txt t', j))) := fun s' hs' => by
          refine ⟨_, rfl, .inl ⟨_, rfl, ⟨rfl, by simp only; omega, by simp only; omega, ?_⟩, by simp only; omega⟩⟩
          simp only
          rw [show ((k : Int) + 1).toNat = k + 1 by omega, hs', ← hacc]
          simp only [List.append_assoc]
        have c2 : (2 : Int) ≠ 0 := by decide
        have tm : (t'[k]).2.2.tmod 2 = (t'[k]).2.2 % 2 := Int.tmod_eq_emod_of_nonneg hb.2.2.2.1
        have hpce : pceW t' k = indW (t'[k]).1.toNat ++ (mksW (t'[k]).2.2 ++ (quoteS (t'[k]).2.1 ++ endW (t'[k]).1.toNat (hdD (t'.drop (k + 1))))) := by unfold pceW; rw [hgD]
        simp only [ev_br, ev_c1, ev_leaf, ev_ck0, hat, hw, hwd, hq, hin, hE, obind_some, tm, if_pos c1, if_pos c2, Vt.g1, ev_loop1]
        rw [if_pos (decide_eq_true hi)]
        have rm : ∀ a b : Nat, a ≤ 300000 → b ≤ 1000 → room (a + b) := fun a b ha hb' => by show _ ≤ _; omega
        rw [if_pos (rm _ _ (by omega) (by omega))]
        have eqs : ∀ (m : Bs), m = mksW (t'[k]).2.2 → ∀ (b : Prop) [Decidable b], (b ↔ (t'[k]).1.toNat < hdD (t'.drop (k + 1))) →
            (((s ++ indW (t'[k]).1.toNat) ++ m) ++ quoteS (t'[k]).2.1) ++ (if b then [32, 123, 10] else [59, 10]) ++ clsW (t'[k]).1.toNat (hdD (t'.drop (k + 1))) = s ++ pceW t' k := fun m hm b _ hbd => by
          rw [hpce, hm]
          unfold endW
          by_cases hlt : (t'[k]).1.toNat < hdD (t'.drop (k + 1))
          · rw [if_pos (hbd.2 hlt), if_pos hlt, cls_none _ _ (by omega)]
            simp only [List.append_assoc, List.append_nil]
          · rw [if_neg fun h => hlt (hbd.1 h), if_neg hlt]
            simp only [List.append_assoc, List.cons_append, List.nil_append]
        by_cases m1 : (t'[k]).2.2 % 2 = 1 <;> by_cases m2 : 1 < (t'[k]).2.2 <;> by_cases hdp : (k : Int) + 1 < (endN t' k : Int)
        all_goals
          simp only [m1, m2, hdp, beq_self_eq_true, decide_true, decide_false, if_true, if_false, Bool.false_eq_true]
          try (rw [if_neg (show ¬((t'[k]).2.2 % 2 == 1) = true by simpa using m1)])
          repeat (rw [if_pos (rm _ _ (by simp only [List.length_append, List.length_cons, List.length_nil]; omega) (by first | (simp only [List.length_cons, List.length_nil]; omega) | omega))])
          rw [hL _ (by simp only [List.length_append, List.length_cons, List.length_nil]; omega), lp1_brk]
          dsimp only
          rw [hw]
          refine goalE _ ?_
          first
            | (have := eqs _ rfl _ hend; unfold mksW at this; simp only [m1, m2, hdp, if_true, if_false] at this; simpa [inactW, protW] using this)
      · have hii : i = (t'.length : Int) := by omega
        subst hii
        rw [Int.toNat_natCast, List.drop_of_length_le (Nat.le_refl _)] at hacc
        have hacc' : s = txt t' := by rw [← hacc]; simp [txt]
        refine ⟨_, by rw [ev_br, if_neg (by simp), ev_leaf], .inr ⟨fun y hy => (by cases hy), (t'.length : Int), by rw [hacc']⟩⟩) N (t, [], 0) ⟨rfl, Int.le_refl _, by simp only; omega, by simp⟩ (by simp only; omega)
  unfold W16_3
  rw [ho, hp, lp1_brk, ev_leaf]

end Go.Proofs.Ytmohgkoomnihfaa.Vc

/-
  PARSE'S STATEMENTS, AS DATA. No condition.
-/
set_option linter.unusedVariables false
set_option linter.unusedSimpArgs false
set_option maxRecDepth 100000
namespace Go.Proofs.Ytmohgkoomnihfaa.Vc

/-! ### What is answered -/

theorem rising_in : ∀ {l : List RTok} {b : Nat}, Rising b l → ∀ k ∈ l, 1 ≤ k.2.1 ∧ k.2.1 ≤ b
  | [], _, _, k, hk => by cases hk
  | x :: l, b, h, k, hk => by
    obtain ⟨h1, h2, h3⟩ := h
    rcases List.mem_cons.1 hk with rfl | hk
    · exact ⟨h2, h1⟩
    · have := rising_in h3 k hk
      exact ⟨this.1, by omega⟩
theorem toTok_at {s : Bs} {l : List RTok} (h : lexR s = .ok l) : ∀ x ∈ l.map (toTok s.length), 0 ≤ x.2.1 ∧ x.2.1 ≤ (s.length : Int) := fun x hx => by
  obtain ⟨k, hk, rfl⟩ := List.mem_map.1 hx
  have := rising_in (lex_stands h).1 k hk
  have e : (toTok s.length k).2.1 = (s.length : Int) - (k.2.1 : Int) := rfl
  rw [e]; omega
/-- A tree; or none, with a place in the text and an error. -/
theorem tree_cases (s : Bs) : (∃ t l, lexR s = .ok l ∧ runA (s.length : Int) [] [] (l.map (toTok s.length)) = .ok t ∧ treeS s = (t, 0, 0) ∧ rightS t = true) ∨ (∃ at_ e, treeS s = ([], at_, e) ∧ e ≠ 0 ∧ 0 ≤ at_ ∧ at_ ≤ (s.length : Int)) := by
  cases hx : lexR s with
  | error ke =>
    obtain ⟨k, e⟩ := ke
    obtain ⟨h1, h2, h3⟩ := lex_err s.length s k e (Nat.le_refl _) hx
    exact .inr ⟨_, _, by unfold treeS; rw [hx], h3, by omega, by omega⟩
  | ok l =>
    cases hr : runA (s.length : Int) [] [] (l.map (toTok s.length)) with
    | ok t =>
      obtain ⟨i1, i2, _⟩ := run_inv _ [] [] _ t (Nat.le_refl _) PInv.nil (toTok_good (lex_good hx)) hr
      exact .inl ⟨t, l, rfl, hr, by unfold treeS; rw [hx]; simp only; rw [hr]; rfl, rightS_iff.2 ⟨i2, i1⟩⟩
    | error e =>
      obtain ⟨h1, h2, h3⟩ := run_place (L := (s.length : Int)) (by omega) _ [] [] _ e (Nat.le_refl _) (toTok_at hx) hr
      exact .inr ⟨e.1, e.2, by unfold treeS; rw [hx]; simp only; rw [hr]; rfl, h3, h1, h2⟩
theorem tree_ok {s : Bs} {l : List RTok} {zs : List Tok} {t : List Ln} (h : lexR s = .ok l) (hz : l.map zr = zs) (hr : runA 0 [] [] zs = .ok t) : treeS s = (t, 0, 0) := by
  have h1 := runA_zt (s.length : Int) [] [] (l.map (toTok s.length))
  rw [zt_to, hz, hr] at h1
  unfold treeS
  rw [h]
  simp only
  cases h2 : runA (s.length : Int) [] [] (l.map (toTok s.length)) with
  | ok u =>
    rw [h2] at h1
    injection h1 with h1
    rw [h1]; rfl
  | error e => rw [h2] at h1; cases h1
theorem tree_err {s : Bs} {l : List RTok} {zs : List Tok} {e : Int} (h : lexR s = .ok l) (hz : l.map zr = zs) (hr : runA 0 [] [] zs = .error (0, e)) : ∃ at_, treeS s = ([], at_, e) := by
  have h1 := runA_zt (s.length : Int) [] [] (l.map (toTok s.length))
  rw [zt_to, hz, hr] at h1
  unfold treeS
  rw [h]
  simp only
  cases h2 : runA (s.length : Int) [] [] (l.map (toTok s.length)) with
  | ok u => rw [h2] at h1; cases h1
  | error q =>
    rw [h2] at h1
    injection h1 with h1
    injection h1 with _ h1
    exact ⟨q.1, by rw [h1]; rfl⟩
/-- The text of a tree is that tree. -/
theorem tree_text {t : List Ln} (hr : rightS t = true) : treeS (txt t) = (t, 0, 0) := by
  obtain ⟨h200, hrf⟩ := rightS_iff.1 hr
  obtain ⟨l, h1, h2⟩ := lex_txt0 (rf_words hrf)
  have h3 := run_back hrf h200 []
  rw [List.append_nil] at h3
  exact tree_ok h1 h2 (by rw [h3]; rfl)

def litA : Bs := [98, 59, 32, 112, 114, 111, 116, 101, 99, 116, 58, 32, 97, 32, 123, 32, 99, 59, 32, 125]
def litB : Bs := [97, 59, 32, 97, 59]
theorem litA_tree : treeS litA = ([(0, [97], 2), (1, [99], 0), (0, [98], 0)], 0, 0) := by kernel_rfl
theorem litB_tree : treeS litB = ([], 3, 4) := by kernel_rfl
theorem P_awake (N : Nat) (hN : 5000 < N) : F10 N = some true := by
  unfold F10 V10
  have hA := F_tree N litA (by show 20 + 2000 < N; omega) (by show 20 ≤ 1000000; omega)
  have hB := F_tree N litB (by show 5 + 2000 < N; omega) (by show 5 ≤ 1000000; omega)
  rw [litA_tree] at hA
  rw [litB_tree] at hB
  have hA' : F11 N [98, 59, 32, 112, 114, 111, 116, 101, 99, 116, 58, 32, 97, 32, 123, 32, 99, 59, 32, 125] = some ([(0, [97], 2), (1, [99], 0), (0, [98], 0)], 0, 0) := hA
  have hB' : F11 N [97, 59, 32, 97, 59] = some ([], 3, 4) := hB
  rw [ev_c3, hA', obind_some, ev_c3, hB', obind_some]
  rfl

/-! ### The statements -/

theorem small_len {t : List Ln} (h : smallS t = true) : t.length ≤ 220 := by
  unfold smallS at h
  simp only [Bool.and_eq_true, decide_eq_true_eq] at h
  omega

theorem L_exact (N : Nat) (s : Bs) (hN : 1000000 < N) : F3 N s = some true := by
  unfold F3 V3
  have hA := P_awake N (by omega)
  rw [ev_br]
  by_cases h : (600 : Int) < (s.length : Int)
  · rw [if_pos (decide_eq_true h), ev_c1, hA]; rfl
  · have hF := F_tree N s (by omega) (by omega)
    have hR := R_tree N s (by omega) (by omega)
    have hl : (treeS s).1.length ≤ 200 := by
      rcases tree_cases s with ⟨t, l, _, _, e, hr⟩ | ⟨a, e, h1, _⟩
      · rw [e]; exact (rightS_iff.1 hr).1
      · rw [h1]; simp
    have hS := F_same N (treeS s).1 (treeS s).1 (by omega) (by show _ ≤ 9223372036854775807; omega)
    rw [if_neg (by simpa using h)]
    simp only [ev_br, ev_leaf, ev_c1, ev_c2, ev_c3, ev_c4, ev_cr, ev_cr2, ev_f0, ev_f1, ev_f2, obind_some, decide_eq_true_eq, Bool.not_eq_true', Bool.true_eq_false, Bool.false_eq_true, if_true, if_false, reduceCtorEq, hF, hR, hS, hA, decide_true, beq_self_eq_true]

theorem L_back (N : Nat) (t : List Ln) (hN : 1000000 < N) : F8 N t = some true := by
  unfold F8 V8
  have hA := P_awake N (by omega)
  simp only [ev_br, ev_leaf, ev_c1, ev_c2, ev_c3, ev_c4, ev_cr, ev_cr2, ev_f0, ev_f1, ev_f2, obind_some, decide_eq_true_eq, Bool.not_eq_true', Bool.true_eq_false, Bool.false_eq_true, if_true, if_false, reduceCtorEq, F_small N t (by omega), hA]
  by_cases hs : smallS t = true
  · have h1 := small_len hs
    have hT := P_text4 N t (by omega) (by omega)
    have hR := R_right N t (by omega)
    by_cases hr : rightS t = true
    · have hlen := txt_len0 (rightS_iff.1 hr).2
      have hF := F_tree N (txt t) (by omega) (by omega)
      rw [tree_text hr] at hF
      have hS := F_same N t t (by omega) (by show _ ≤ 9223372036854775807; omega)
      rw [if_pos hr] at hT
      simp only [ev_br, ev_leaf, ev_c1, ev_c2, ev_c3, ev_c4, ev_cr, ev_cr2, ev_f0, ev_f1, ev_f2, obind_some, decide_eq_true_eq, Bool.not_eq_true', Bool.true_eq_false, Bool.false_eq_true, if_true, if_false, reduceCtorEq, hs, hT, hF, hS, decide_true, beq_self_eq_true, Bool.not_true, bne_self_eq_false]
    · have hr' : rightS t = false := by simpa using hr
      rw [if_neg hr] at hT
      simp (config := { decide := true }) only [ev_br, ev_leaf, ev_c1, ev_c2, ev_c3, ev_c4, ev_cr, ev_cr2, ev_f0, ev_f1, ev_f2, obind_some, decide_eq_true_eq, Bool.not_eq_true', Bool.true_eq_false, Bool.false_eq_true, if_true, if_false, reduceCtorEq, hs, hT, hR, hr', Bool.not_true, Bool.not_false]
  · simp [hs]

theorem L_fixed (N : Nat) (s : Bs) (hN : 1000000 < N) : F9 N s = some true := by
  unfold F9 V9
  have hA := P_awake N (by omega)
  rw [ev_br]
  by_cases h : (600 : Int) < (s.length : Int)
  · rw [if_pos (decide_eq_true h), ev_c1, hA]; rfl
  · have hF := F_tree N s (by omega) (by omega)
    rw [if_neg (by simpa using h), ev_c3, hF, obind_some]
    rcases tree_cases s with ⟨t, l, _, _, e, hr⟩ | ⟨a, e, h1, h2, h3, h4⟩
    · have hl := (rightS_iff.1 hr).1
      have hT := P_text4 N t (by omega) (by omega)
      rw [if_pos hr] at hT
      have hlen := txt_len0 (rightS_iff.1 hr).2
      have hF2 := F_tree N (txt t) (by omega) (by omega)
      rw [tree_text hr] at hF2
      have hS := F_same N t t (by omega) (by show _ ≤ 9223372036854775807; omega)
      have hRt := F_right N t (by omega)
      rw [e]
      simp only [ev_br, ev_leaf, ev_c1, ev_c2, ev_c3, ev_c4, ev_cr, ev_cr2, ev_f0, ev_f1, ev_f2, obind_some, decide_eq_true_eq, Bool.not_eq_true', Bool.true_eq_false, Bool.false_eq_true, if_true, if_false, reduceCtorEq, hT, hF2, hS, hRt, hr, hA, decide_true, beq_self_eq_true, bne_self_eq_false]
    · rw [h1]
      simp only [ev_br, ev_c1, ev_leaf, hA, obind_some]
      rw [if_pos (by simpa using h2), if_pos (by simp), if_pos (decide_eq_true h3), if_pos (decide_eq_true h4)]

theorem L_counts (N : Nat) (s : Bs) (hN : 1000000 < N) : F6 N s = some true := by
  unfold F6 V6
  have hA := P_awake N (by omega)
  rw [ev_br]
  by_cases h : (600 : Int) < (s.length : Int)
  · rw [if_pos (decide_eq_true h), ev_c1, hA]; rfl
  · have hF := F_tree N s (by omega) (by omega)
    have hR := R_all N s (by omega) (by omega)
    rw [if_neg (by simpa using h), ev_c3, hF, obind_some, ev_c3, hR, obind_some, ev_br]
    rcases tree_cases s with ⟨t, l, hx, hrun, e, hr⟩ | ⟨a, e, h1, h2, h3, h4⟩
    · have hal : allS s = (l.map (toTok s.length), 0, 0) := by unfold allS; rw [hx]
      have hll := lex_len s l hx
      obtain ⟨ts, hts⟩ : ∃ ts, l.map (toTok s.length) = ts := ⟨_, rfl⟩
      have htl : ts.length ≤ 600 := by rw [← hts, List.length_map]; omega
      rw [hts] at hal hrun
      obtain ⟨i1, i2, i3, i4, _⟩ := run_inv _ [] [] _ t (Nat.le_refl _) PInv.nil (by rw [← hts]; exact toTok_good (lex_good hx)) hrun
      rw [e, hal, if_neg (by simp), ev_f1]
      have hat : ∀ (i : Nat) (hi : i < ts.length), atI (.pair tI tLn) ts (i : Int) = ts[i] := fun i hi => by
        show ts.getD _ _ = _
        rw [Int.toNat_natCast]; simp [hi]
      have hW := loop_up (R := Bool) (step := fun x => L6_9 N x.1 x.2.1 x.2.2.1 x.2.2.2.1 x.2.2.2.2.1 x.2.2.2.2.2.1 x.2.2.2.2.2.2.1 x.2.2.2.2.2.2.2) ts.length
        (fun i => (t, (0 : Int), (cntT 1 (ts.take i) : Int), (cntT 2 (ts.take i) : Int), (cntT 3 (ts.take i) : Int), ts, (ts.length : Int), (i : Int)))
        (fun i hi => by
          unfold L6_9 U6_9
          have c1 : inR (i : Int) ts.length := ⟨by omega, by omega⟩
          have hw : IntKind.i64.wrap ((i : Int) + 1) = (i : Int) + 1 := wrapI (by omega) (by omega)
          have hc : ∀ k : Int, cntT k (ts.take (i + 1)) = cntT k (ts.take i) + (if (ts[i]).1 = k then 1 else 0) := fun k => by
            rw [List.take_succ_eq_append_getElem hi, cntT_app, cntT_cons]
            simp [cntT]
          have hb : ∀ k : Int, cntT k (ts.take i) ≤ 600 := fun k => by
            unfold cntT
            have := List.length_filter_le (fun x => x.1 == k) (ts.take i)
            rw [List.length_take] at this; omega
          have hwc : ∀ k : Int, IntKind.i64.wrap ((cntT k (ts.take i) : Int) + 1) = ((cntT k (ts.take i) + 1 : Nat) : Int) := fun k => by
            have := hb k
            rw [wrapI (by omega) (by omega)]; omega
          dsimp only
          simp only [ev_br, ev_ck0, ev_leaf, hat i hi, hw, hwc, if_pos c1]
          rw [if_pos (decide_eq_true (by omega)), hc 1, hc 2, hc 3]
          by_cases k1 : (ts[i]).1 = 1
          · rw [if_pos (by simpa using k1), if_pos k1, if_neg (by omega), if_neg (by omega)]; rfl
          rw [if_neg (by simpa using k1), if_neg k1]
          by_cases k2 : (ts[i]).1 = 2
          · rw [if_pos (by simpa using k2), if_pos k2, if_neg (by omega)]; rfl
          rw [if_neg (by simpa using k2), if_neg k2]
          by_cases k3 : (ts[i]).1 = 3
          · rw [if_pos (by simpa using k3), if_pos k3]; rfl
          · rw [if_neg (by simpa using k3), if_neg k3]; rfl)
        (by
          unfold L6_9 U6_9
          dsimp only
          rw [ev_br, if_neg (by simp), ev_leaf]) N (by omega)
      unfold W6_9
      rw [List.take_zero, List.take_of_length_le (Nat.le_refl _)] at hW
      have hW' : runLoop _ N (t, (0 : Int), (0 : Int), (0 : Int), (0 : Int), ts, (ts.length : Int), (0 : Int)) = _ := hW
      rw [hW', lp1_brk]
      have e1 : (cntT 1 ts : Int) = (t.length : Int) := by rw [i3]; simp
      have e2 : cntT 2 ts = cntT 3 ts := by simpa using i4
      simp only [ev_br, ev_leaf, ev_c1, ev_c2, ev_c3, ev_c4, ev_cr, ev_cr2, ev_f0, ev_f1, ev_f2, obind_some, decide_eq_true_eq, Bool.not_eq_true', Bool.true_eq_false, Bool.false_eq_true, if_true, if_false, reduceCtorEq, e1, e2, hA, beq_self_eq_true]
    · rw [h1, if_pos (by simpa using h2), ev_br, if_pos (by simp), ev_c1, hA]; rfl

theorem txt_ne {t : List Ln} (h : t ≠ []) : txt t ≠ [] := by
  cases t with
  | nil => exact absurd rfl h
  | cons x r =>
    have := txt_drop (x :: r) (i := 0) (by simp)
    rw [List.drop_zero] at this
    rw [this]
    simp [pce_ne]
theorem u_range {k : IntKind} {n : Int} (h : (Lit.int k n).wf = true) (hk : k = .u8 ∨ k = .u16) : 0 ≤ n ∧ n < 65536 := by
  have h1 : (decide (k.min ≤ n) && decide (n ≤ k.max)) = true := h
  rw [Bool.and_eq_true, decide_eq_true_eq, decide_eq_true_eq] at h1
  rcases hk with rfl | rfl
  · have e1 : IntKind.u8.min = 0 := by decide
    have e2 : IntKind.u8.max = 255 := by decide
    omega
  · have e1 : IntKind.u16.min = 0 := by decide
    have e2 : IntKind.u16.max = 65535 := by decide
    omega

theorem L_cut (N : Nat) (t : List Ln) (n : Int) (h0 : 0 ≤ n) (hn : n < 65536) (hN : 1000000 < N) : F7 N t n = some true := by
  unfold F7 V7
  have hA := P_awake N (by omega)
  simp only [ev_br, ev_leaf, ev_c1, ev_c2, ev_c3, ev_c4, ev_cr, ev_cr2, ev_f0, ev_f1, ev_f2, obind_some, decide_eq_true_eq, Bool.not_eq_true', Bool.true_eq_false, Bool.false_eq_true, if_true, if_false, reduceCtorEq, F_small N t (by omega), hA]
  by_cases hs : smallS t = true
  rotate_left
  · simp [hs]
  by_cases h60 : (60 : Int) < (t.length : Int)
  · simp [hs, h60]
  by_cases hte : t = []
  · subst hte; simp [hs]
  have hR := R_right N t (by omega)
  by_cases hr : rightS t = true
  rotate_left
  · have hr' : rightS t = false := by simpa using hr
    have htl : ¬((t.length : Int) == 0) = true := by have := List.length_pos_iff.2 hte; rw [beq_iff_eq]; omega
    simp only [ev_br, ev_leaf, ev_c1, ev_c2, ev_c3, ev_c4, ev_cr, ev_cr2, ev_f0, ev_f1, ev_f2, obind_some, decide_eq_true_eq, Bool.not_eq_true', Bool.true_eq_false, Bool.false_eq_true, if_true, if_false, reduceCtorEq, hs, h60, hR, hr', htl, decide_false, Bool.not_true, Bool.not_false]
  obtain ⟨h200, hrf⟩ := rightS_iff.1 hr
  have hX := R_text4 N t hr (by omega)
  have hlen := txt_len0 hrf
  have hpos := List.length_pos_iff.2 (txt_ne hte)
  have htl : ¬((t.length : Int) == 0) = true := by have := List.length_pos_iff.2 hte; rw [beq_iff_eq]; omega
  have hw : IntKind.i64.wrap n = n := wrapI (by omega) (by omega)
  have hm : n.tmod ((txt t).length : Int) = n % ((txt t).length : Int) := Int.tmod_eq_emod_of_nonneg h0
  obtain ⟨k, hk⟩ : ∃ k : Nat, n % ((txt t).length : Int) = (k : Int) := ⟨(n % ((txt t).length : Int)).toNat, by
    rw [Int.toNat_of_nonneg (Int.emod_nonneg _ (by omega))]⟩
  have hklt : k < (txt t).length := by have := Int.emod_lt_of_pos n (show (0 : Int) < ((txt t).length : Int) by omega); omega
  have c1 : ((txt t).length : Int) ≠ 0 := by omega
  have c2 : (0 : Int) ≤ 0 ∧ (0 : Int) ≤ (k : Int) ∧ (k : Int) ≤ ((txt t).length : Int) := ⟨by omega, by omega, by omega⟩
  have hsl : slc (txt t) 0 (k : Int) = (txt t).take k := by rw [slc0, Int.toNat_natCast]
  have htk : ((txt t).take k).length = k := by rw [List.length_take]; omega
  have hF := F_tree N ((txt t).take k) (by omega) (by omega)
  simp only [hs, h60, hR, hr, htl, decide_false, Bool.not_true, ev_br, ev_leaf, ev_c1, ev_c2, ev_c3, ev_c4, ev_cr, ev_cr2, ev_f0, ev_f1, ev_f2, obind_some, decide_eq_true_eq, Bool.not_eq_true', Bool.true_eq_false, Bool.false_eq_true, if_true, if_false, reduceCtorEq, hX, ev_ck0, hw, hm, hk, if_pos c1, if_pos c2, hsl, hF]
  rcases tree_cases ((txt t).take k) with ⟨u, la, hx, hrun, e, hru⟩ | ⟨a, e, h1, h2, h3, h4⟩
  · rw [e]
    -- its tokens are the first ones of the tree's
    obtain ⟨l, hl1, hl2⟩ := lex_txt0 (rf_words hrf)
    have hla := run_inv _ [] [] _ u (Nat.le_refl _) PInv.nil (toTok_good (lex_good hx)) hrun
    have hpre : la.map zr <+: tks t := by
      have hwhole : (txt t).take k ++ (txt t).drop k = txt t := List.take_append_drop _ _
      rcases lex_cut ((txt t).drop k) _ _ la l (Nat.le_refl _) hx (by rw [hwhole]; exact hl1) with h5 | ⟨la', x, rfl, hx1⟩
      · rw [hl2] at h5; exact h5
      · exfalso
        rcases hla.2.2.2.2 with h6 | ⟨a', z, h6, hz⟩
        · simp at h6
        · rw [List.map_append, List.map_cons, List.map_nil] at h6
          have h7 := (List.append_inj' h6 rfl).2
          injection h7 with h7
          rw [← h7] at hz
          have : (toTok ((txt t).take k).length x).1 = x.1 := rfl
          rw [this] at hz
          omega
    have hrun0 : runA 0 [] [] (la.map zr) = .ok u := by
      have h8 := runA_zt (((txt t).take k).length : Int) [] [] (la.map (toTok ((txt t).take k).length))
      rw [zt_to, hrun] at h8
      exact h8
    have hcut := run_cut hrf h200 t.length 0 (by omega) (la.map zr) u (by rw [List.drop_zero]; exact hpre) (by rw [opn_zero, List.take_zero]; exact hrun0)
    obtain ⟨j, j1, rfl, j2⟩ := hcut
    have hjl : (t.take j).length = j := by rw [List.length_take]; omega
    have hslt : slc t 0 (j : Int) = t.take j := by rw [slc0, Int.toNat_natCast]
    have hS := F_same N (t.take j) (t.take j) (by omega) (by show _ ≤ 9223372036854775807; omega)
    have c3 : (0 : Int) ≤ 0 ∧ (0 : Int) ≤ (j : Int) ∧ (j : Int) ≤ (t.length : Int) := ⟨by omega, by omega, by omega⟩
    simp only [hjl, hslt, hS, obind_some, if_pos c3, decide_true, if_true, bne_self_eq_false, Bool.false_eq_true, if_false]
    rw [if_pos (show (j : Int) ≤ (t.length : Int) by omega)]
    by_cases hjt : j = t.length
    · rw [if_pos (by simp [hjt])]
    · have hjlt : j < t.length := by omega
      have c4 : inR (j : Int) t.length := ⟨by omega, by omega⟩
      have hat : atI tLn t (j : Int) = t[j] := by show t.getD _ _ = _; rw [Int.toNat_natCast]; simp [hjlt]
      rw [if_neg (by simp; omega), if_pos c4, hat, j2 hjlt]
      rfl
  · rw [h1]
    rw [htk] at h4
    simp only []
    rw [if_pos (by simpa using h2), if_pos (by simp), if_pos h4]

theorem first_word {a : List Ln} (ha : rf [] a = true) {x : Bs} (h : gt a [x] ≠ none) : ∃ (i : Nat) (hi : i < a.length), (a[i]).1 = 0 ∧ (a[i]).2.1 = x := by
  cases hg : gt a [x] with
  | none => exact absurd hg h
  | some m =>
    obtain ⟨i, hi, e1, _⟩ := gt_some ha hg
    have hl := pth_len ha hi
    rw [e1] at hl
    have hb := (snd_iff.1 (rf_at ha hi).1).1
    have h0 : (a[i]).1 = 0 := by simp at hl; omega
    refine ⟨i, hi, h0, ?_⟩
    have := pth_nx a hi
    rw [e1, h0] at this
    simpa using this.symm
theorem word_first {a : List Ln} (ha : rf [] a = true) {i : Nat} (hi : i < a.length) (h0 : (a[i]).1 = 0) : gt a [(a[i]).2.1] ≠ none := by
  have := gt_at ha hi
  rw [pth_nx a hi, h0] at this
  simp only [Int.toNat_zero, List.take_zero, List.nil_append] at this
  rw [this]; simp
/-- No word of Depth 0 of b is one of a. -/
def Apart (a b : List Ln) : Prop := ∀ j (hj : j < b.length), (b[j]).1 = 0 → gt a [(b[j]).2.1] = none
theorem Apart.symm {a b : List Ln} (ha : rf [] a = true) (hb : rf [] b = true) (h : Apart a b) : Apart b a := fun i hi h0 => by
  cases hg : gt b [(a[i]).2.1] with
  | none => rfl
  | some m =>
    obtain ⟨j, hj, e1, e2⟩ := first_word hb (show gt b [(a[i]).2.1] ≠ none by rw [hg]; simp)
    have := h j hj e1
    rw [e2] at this
    exact absurd this (word_first ha hi h0)
theorem apart_maps {a b : List Ln} (ha : rf [] a = true) (hb : rf [] b = true) (h : Apart a b) (q : List Bs) : both a b q = both b a q := by
  unfold both
  cases h1 : gt a q with
  | none => cases h2 : gt b q <;> rfl
  | some m =>
    cases h2 : gt b q with
    | none => rfl
    | some m' =>
      exfalso
      cases q with
      | nil => rw [gt_nil] at h1; cases h1
      | cons x q =>
        have h3 : gt a [x] ≠ none := gt_pre ha (u := [x]) (s := q) (by simp) (by rw [List.singleton_append, h1]; simp)
        have h4 : gt b [x] ≠ none := gt_pre hb (u := [x]) (s := q) (by simp) (by rw [List.singleton_append, h2]; simp)
        obtain ⟨j, hj, e1, e2⟩ := first_word hb h4
        have := h j hj e1
        rw [e2] at this
        exact h3 this
theorem tree_two {a b : List Ln} (ha : rightS a = true) (hb : rightS b = true) (hl : a.length + b.length ≤ 200) :
    (Apart a b → ∃ v, treeS (txt a ++ txt b) = (v, 0, 0) ∧ rf [] v = true ∧ v.length = a.length + b.length ∧ ∀ q, gt v q = both a b q) ∧ (¬Apart a b → ∃ at_, treeS (txt a ++ txt b) = ([], at_, 4)) := by
  have hra := (rightS_iff.1 ha).2
  have hrb := (rightS_iff.1 hb).2
  obtain ⟨lb, h1, h2⟩ := lex_txt0 (rf_words hrb)
  obtain ⟨la, h3, h4⟩ := lex_txt (txt b) a (rf_words hra)
  rw [h1] at h3
  have h5 : lexR (txt a ++ txt b) = .ok (la ++ lb) := h3
  have h6 : (la ++ lb).map zr = tks a ++ tks b := by rw [List.map_append, h4, h2]
  obtain ⟨r1, r2⟩ := run_two hra hrb hl
  refine ⟨fun h => ?_, fun h => tree_err h5 h6 (r2 h)⟩
  obtain ⟨v, g1, g2, g3, g4⟩ := r1 h
  exact ⟨v, tree_ok h5 h6 g4, g1, g2, g3⟩

theorem L_turned (N : Nat) (a b : List Ln) (hN : 1000000 < N) : F4 N a b = some true := by
  unfold F4 V4
  have hA := P_awake N (by omega)
  simp only [ev_br, ev_leaf, ev_c1, ev_c2, ev_c3, ev_c4, ev_cr, ev_cr2, ev_f0, ev_f1, ev_f2, obind_some, decide_eq_true_eq, Bool.not_eq_true', Bool.true_eq_false, Bool.false_eq_true, if_true, if_false, reduceCtorEq, F_small N a (by omega), F_small N b (by omega), hA]
  by_cases hsa : smallS a = true
  rotate_left
  · simp [hsa]
  by_cases hsb : smallS b = true
  rotate_left
  · simp [hsa, hsb]
  have hla := small_len hsa
  have hlb := small_len hsb
  have hw : IntKind.i64.wrap ((a.length : Int) + (b.length : Int)) = (a.length : Int) + (b.length : Int) := wrapI (by omega) (by omega)
  by_cases h120 : (120 : Int) < (a.length : Int) + (b.length : Int)
  · simp [hsa, hsb, hw, h120]
  have hRa := R_right N a (by omega)
  have hRb := R_right N b (by omega)
  by_cases hra : rightS a = true
  rotate_left
  · have hr' : rightS a = false := by simpa using hra
    simp only [ev_br, ev_leaf, ev_c1, ev_c2, ev_c3, ev_c4, ev_cr, ev_cr2, ev_f0, ev_f1, ev_f2, obind_some, decide_eq_true_eq, Bool.not_eq_true', Bool.true_eq_false, Bool.false_eq_true, if_true, if_false, reduceCtorEq, hsa, hsb, hw, h120, hRa, hr', decide_false, Bool.not_true, Bool.not_false]
  by_cases hrb : rightS b = true
  rotate_left
  · have hr' : rightS b = false := by simpa using hrb
    simp only [ev_br, ev_leaf, ev_c1, ev_c2, ev_c3, ev_c4, ev_cr, ev_cr2, ev_f0, ev_f1, ev_f2, obind_some, decide_eq_true_eq, Bool.not_eq_true', Bool.true_eq_false, Bool.false_eq_true, if_true, if_false, reduceCtorEq, hsa, hsb, hw, h120, hRa, hra, hRb, hr', decide_false, Bool.not_true, Bool.not_false]
  have hfa := (rightS_iff.1 hra).2
  have hfb := (rightS_iff.1 hrb).2
  have hXa := R_text4 N a hra (by omega)
  have hXb := R_text4 N b hrb (by omega)
  have hta := txt_len0 hfa
  have htb := txt_len0 hfb
  have c1 : room ((txt a).length + (txt b).length) := by show _ ≤ _; omega
  have c2 : room ((txt b).length + (txt a).length) := by show _ ≤ _; omega
  have hF1 := F_tree N (txt a ++ txt b) (by rw [List.length_append]; omega) (by rw [List.length_append]; omega)
  have hF2 := F_tree N (txt b ++ txt a) (by rw [List.length_append]; omega) (by rw [List.length_append]; omega)
  simp only [ev_br, ev_leaf, ev_c1, ev_c2, ev_c3, ev_c4, ev_cr, ev_cr2, ev_f0, ev_f1, ev_f2, obind_some, decide_eq_true_eq, Bool.not_eq_true', Bool.true_eq_false, Bool.false_eq_true, if_true, if_false, reduceCtorEq, hsa, hsb, hw, h120, hRa, hra, hRb, hrb, hXa, hXb, decide_false, Bool.not_true, ev_ck0, if_pos c1, if_pos c2, hF1, hF2]
  obtain ⟨p1, p2⟩ := tree_two hra hrb (by omega)
  obtain ⟨q1, q2⟩ := tree_two hrb hra (by omega)
  by_cases hap : Apart a b
  · obtain ⟨v, e1, v1, v2, v3⟩ := p1 hap
    obtain ⟨v', e2, v1', v2', v3'⟩ := q1 (hap.symm hfa hfb)
    have hvv : v = v' := gt_ext v1 v1' fun q => by rw [v3, v3', apart_maps hfa hfb hap]
    subst hvv
    have hS := F_same N v v (by omega) (by show _ ≤ 9223372036854775807; omega)
    have hvl : (v.length : Int) = (a.length : Int) + (b.length : Int) := by omega
    rw [e1, e2]
    simp only [hS, hvl, obind_some, beq_self_eq_true, if_true, decide_true]
  · have hap' : ¬Apart b a := fun h => hap (h.symm hfb hfa)
    obtain ⟨x1, e1⟩ := p2 hap
    obtain ⟨x2, e2⟩ := q2 hap'
    have hS := F_same N ([] : List Ln) [] (by simp; omega) (by show _ ≤ 9223372036854775807; simp)
    rw [e1, e2]
    simp (config := { decide := true }) only [hS, obind_some, beq_self_eq_true, if_true, decide_true, if_false]

theorem dpW_app (e x : Bs) : ∀ n, dpW n e ++ x = dpW n (e ++ x)
  | 0 => rfl
  | n + 1 => by
    show 97 :: 123 :: (dpW n e ++ x) = _
    rw [dpW_app e x n]; rfl
theorem dpW_more (e : Bs) : ∀ n, dpW n (97 :: 123 :: e) = dpW (n + 1) e
  | 0 => rfl
  | n + 1 => by
    show 97 :: 123 :: dpW n (97 :: 123 :: e) = _
    rw [dpW_more e n]; rfl
/-- Lines that are all open: so many, and as many ends, or none. -/
theorem tree_deep (k : Nat) (e : Bs) (he : e = [] ∨ e = dpC k) : treeS (dpW k e) = if 16 < k then ([], 32, 6) else if e = [] ∧ k ≠ 0 then ([], 2 * (k : Int), 2) else (chain k, 0, 0) := by
  obtain ⟨le, h1, h2, h3⟩ : ∃ le, lexR e = .ok le ∧ ((e = [] ∧ le = []) ∨ le.length = k) ∧ ∀ x ∈ le, x.1 = 3 := by
    rcases he with rfl | rfl
    · exact ⟨[], rfl, .inl ⟨rfl, rfl⟩, (by simp)⟩
    · obtain ⟨l, g1, g2, g3⟩ := lex_cl k
      exact ⟨l, g1, .inr g2, g3⟩
  have hx : lexR (dpW k e) = .ok (dpT e k ++ le) := by rw [lex_dp, h1]; rfl
  have hlen := dpW_len e k
  unfold treeS
  rw [hx]
  simp only
  rw [List.map_append]
  have hr := run_dp (dpW k e).length e (le.map (toTok (dpW k e).length)) (L := ((dpW k e).length : Int)) k 0 (by omega)
  have hr' : runA ((dpW k e).length : Int) [] [] ((dpT e k).map (toTok (dpW k e).length) ++ le.map (toTok (dpW k e).length)) = _ := hr
  rw [hr', Nat.zero_add]
  by_cases h16 : k ≤ 16
  · rw [if_pos h16, if_neg (by omega)]
    by_cases hk : e = [] ∧ k ≠ 0
    · obtain ⟨rfl, hk0⟩ := hk
      rw [if_pos ⟨rfl, hk0⟩]
      have hle : le = [] := by
        rcases h2 with h | h
        · exact h.2
        · have h0 : lexR ([] : Bs) = .ok [] := rfl
          rw [h0] at h1
          injection h1 with h1
          exact h1.symm
      subst hle
      rw [List.map_nil, runA_nil, if_neg (by intro h; have := congrArg List.length h; simp at this; exact hk0 this)]
      unfold resS
      simp only
      rw [hlen]
      simp
    · rw [if_neg hk]
      have hll : le.length = k := by
        rcases h2 with ⟨a, b⟩ | h
        · subst b
          have : k = 0 := Classical.byContradiction fun h => hk ⟨a, h⟩
          rw [this]; rfl
        · exact h
      rw [run_cl (le.map (toTok (dpW k e).length)) (List.replicate k [97]) (fun x hx => by
        obtain ⟨y, hy, rfl⟩ := List.mem_map.1 hx
        exact h3 y hy) (by simp [hll])]
      rfl
  · rw [if_neg h16, if_pos (by omega)]
    unfold resS
    simp only
    rw [hlen]
    congr 1
    congr 1
    omega

theorem L_deep (N : Nat) (n : Int) (b : Bool) (h0 : 0 ≤ n) (hn : n < 65536) (hN : 1000000 < N) : F5 N n b = some true := by
  unfold F5 V5
  have hA := P_awake N (by omega)
  have c0 : (30 : Int) ≠ 0 := by decide
  have hm : n.tmod 30 = n % 30 := Int.tmod_eq_emod_of_nonneg h0
  have hw1 : IntKind.i64.wrap (n % 30) = n % 30 := wrapI (by omega) (by omega)
  obtain ⟨k, hk⟩ : ∃ k : Nat, 1 + n % 30 = (k : Int) := ⟨(1 + n % 30).toNat, by omega⟩
  have hk1 : 1 ≤ k := by omega
  have hk30 : k ≤ 30 := by omega
  have hw2 : IntKind.i64.wrap (1 + n % 30) = (k : Int) := by rw [hk]; exact wrapI (by omega) (by omega)
  have hW := loop_up (R := Bool) (step := fun x => L5_4 N x.1 x.2.1 x.2.2.1 x.2.2.2.1 x.2.2.2.2) k (fun i => (b, (k : Int), dpW i [], (k : Int), (i : Int)))
    (fun i hi => by
      unfold L5_4 U5_4
      dsimp only
      have hl := dpW_len [] i
      have c1 : room ((dpW i []).length + ([97, 123] : Bs).length) := by show _ ≤ _; rw [hl]; simp; omega
      have hw : IntKind.i64.wrap ((i : Int) + 1) = (i : Int) + 1 := wrapI (by omega) (by omega)
      rw [ev_br, if_pos (decide_eq_true (by omega)), ev_ck c1, ev_leaf, hw, dpW_app]
      have : dpW i ([] ++ [97, 123]) = dpW (i + 1) [] := dpW_more [] i
      rw [this]; rfl)
    (by
      unfold L5_4 U5_4
      dsimp only
      rw [ev_br, if_neg (by simp), ev_leaf]) N (by omega)
  have hW4 : W5_4 N (b, (k : Int), [], (k : Int), 0) = some (.brk 0 (b, (k : Int), dpW k [], (k : Int), (k : Int))) := hW
  have hV := loop_up (R := Bool) (step := fun x => L5_9 N x.1 x.2.1 x.2.2.1 x.2.2.2.1 x.2.2.2.2) k (fun i => (b, (k : Int), dpW k (dpC i), (k : Int), (i : Int)))
    (fun i hi => by
      unfold L5_9 U5_9
      dsimp only
      have hl := dpW_len (dpC i) k
      have hcl : (dpC i).length = i := by simp [dpC]
      have c1 : room ((dpW k (dpC i)).length + ([125] : Bs).length) := by show _ ≤ _; rw [hl, hcl]; simp; omega
      have hw : IntKind.i64.wrap ((i : Int) + 1) = (i : Int) + 1 := wrapI (by omega) (by omega)
      rw [ev_br, if_pos (decide_eq_true (by omega)), ev_ck c1, ev_leaf, hw, dpW_app]
      have : dpC i ++ [125] = dpC (i + 1) := by unfold dpC; rw [List.replicate_succ']
      rw [this]; rfl)
    (by
      unfold L5_9 U5_9
      dsimp only
      rw [ev_br, if_neg (by simp), ev_leaf]) N (by omega)
  have hV9 : W5_9 N (b, (k : Int), dpW k [], (k : Int), 0) = some (.brk 0 (b, (k : Int), dpW k (dpC k), (k : Int), (k : Int))) := hV
  have hcl : (dpC k).length = k := by simp [dpC]
  have hF1 := F_tree N (dpW k []) (by rw [dpW_len]; simp; omega) (by rw [dpW_len]; simp; omega)
  have hF2 := F_tree N (dpW k (dpC k)) (by rw [dpW_len, hcl]; omega) (by rw [dpW_len, hcl]; omega)
  have hne : dpC k ≠ [] := fun e => by rw [e] at hcl; simp at hcl; omega
  rw [tree_deep k [] (.inl rfl)] at hF1
  rw [tree_deep k (dpC k) (.inr rfl), if_neg (show ¬(dpC k = [] ∧ k ≠ 0) from fun h => hne h.1)] at hF2
  rw [if_pos (show ([] : Bs) = [] ∧ k ≠ 0 from ⟨rfl, by omega⟩)] at hF1
  have hl1 : (dpW k []).length = 2 * k := by rw [dpW_len]; simp
  rw [ev_ck c0, ev_f1, hm, hw1, hw2, hW4, lp1_brk]
  dsimp only
  rw [ev_br]
  cases b with
  | true =>
    rw [if_pos rfl, ev_f1, hV9, lp1_brk]
    dsimp only
    rw [ev_c3, hF2, obind_some]
    by_cases h16 : 16 < k
    · rw [if_pos h16]
      simp only [ev_br, ev_c1, ev_leaf, hA, obind_some]
      rw [if_pos (decide_eq_true (by omega))]
      rfl
    · rw [if_neg h16]
      have hw3 : IntKind.i64.wrap ((k : Int) - 1) = (k : Int) - 1 := wrapI (by omega) (by omega)
      have c1 : inR ((k : Int) - 1) (chain k).length := ⟨by omega, by rw [chain_len]; omega⟩
      have hat : atI tLn (chain k) ((k : Int) - 1) = ((k : Int) - 1, [97], 0) := by
        show (chain k).getD _ _ = _
        rw [show ((k : Int) - 1).toNat = k - 1 by omega, List.getD_eq_getElem?_getD, List.getElem?_eq_getElem (by rw [chain_len]; omega)]
        simp [chain]; omega
      simp only [ev_br, ev_c1, ev_leaf, ev_ck0, hA, obind_some, hw3, hat, if_pos c1, chain_len]
      rw [if_neg (by simp; omega), if_neg (by simp), if_pos (by simp), if_pos (by simp), beq_self_eq_true, if_pos rfl]
      exact if_pos ⟨by omega, by omega⟩
  | false =>
    rw [if_neg (by simp), ev_c3, hF1, obind_some]
    by_cases h16 : 16 < k
    · rw [if_pos h16]
      simp only [ev_br, ev_c1, ev_leaf, hA, obind_some]
      rw [if_pos (decide_eq_true (by omega))]
      rfl
    · rw [if_neg h16]
      simp only [ev_br, ev_c1, ev_leaf, hA, obind_some, hl1]
      rw [if_neg (by simp; omega), if_pos (by simp), if_pos (by simp), if_pos (by simp), if_pos (by simp)]

end Go.Proofs.Ytmohgkoomnihfaa.Vc

