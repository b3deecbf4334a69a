/-
  WHAT THE FUNCTIONS OF PACKAGE groups ANSWER: words, paths, what is expanded. No condition.
-/
import Derived.Test.YtannkhelkpmcfaaUf
set_option linter.unusedVariables false
set_option linter.unusedSimpArgs false
namespace Go.Proofs.Ytannkhelkpmcfaa.Vc

theorem foldl_flat {α : Type} (f : Nat → List α) : ∀ (l : List Nat) (acc : List α), l.foldl (fun (out : List α) k => out ++ f k) acc = acc ++ (l.map f).flatten
  | [], acc => by simp
  | x :: l, acc => by simp [foldl_flat f l]
theorem map_range_get {α β : Type} (d : α) (g : α → β) (l : List α) : (List.range l.length).map (fun k => g (l.getD k d)) = l.map g := by
  apply List.ext_getElem
  · simp
  · intro j h1 h2
    have hj : j < l.length := by simpa using h1
    simp [hj]

theorem E_wordsL (N : Nat) (t : List Ln) (ks : List Int) (hk : ∀ k ∈ ks, 0 ≤ k ∧ k < t.length) (hl : ks.length ≤ 1000000) (hN : ks.length < N) :
    W38o_8 N (t, [], ks, (ks.length : Int), 0) = some (.brk 0 (t, ks.map fun k => (t.getD k.toNat (0, [], 0)).2.1, ks, (ks.length : Int), (ks.length : Int))) := by
  have := loop_fold0 (R := List Bs) (step := fun x => L38o_8 N x.1 x.2.1 x.2.2.1 x.2.2.2.1 x.2.2.2.2) ks.length
    (fun (out : List Bs) k => out ++ [(t.getD (ks.getD k 0).toNat (0, [], 0)).2.1]) (fun out k => (t, out, ks, (ks.length : Int), k))
    (fun out k => out.length ≤ k) (fun out k hI hk => by simp; omega) (fun out k hI hk2 => by
      unfold L38o_8 U38o_8
      by_cases h : k < ks.length
      · have hk' : (k : Int) < ks.length := by omega
        have hat : atI tI ks (k : Int) = ks[k] := by show ks.getD _ _ = _; simp [h]
        have e1 : ks.getD k 0 = ks[k] := by simp [h]
        have c1 : inR (k : Int) ks.length := ⟨by omega, hk'⟩
        have c2 : inR (ks[k]) t.length := hk _ (List.getElem_mem h)
        have hr1 : ∀ w : Bs, room (out.length + ([w] : List Bs).length) := fun w => by show _ ≤ _; simp; omega
        simp (disch := first | assumption | omega) only [ev_br, ev_leaf, ev_c1, ev_c2, ev_c3, ev_c4, ev_cr, ev_cr2, ev_f0, ev_f1, ev_f2, obind_some, decide_eq_true_eq, Bool.not_eq_true', Bool.true_eq_false, Bool.false_eq_true, if_true, if_false, reduceCtorEq, hk', h, ev_ck, wrapI, hat, ev_ck (hr1 _), e1, atI_nat]
      · have hk' : ¬ (k : Int) < ks.length := by omega
        simp [hk', h]) [] (by simp) N hN
  unfold W38o_8
  rw [this, foldl_map, List.nil_append, map_range_get (0 : Int) (fun k => (t.getD k.toNat (0, [], 0)).2.1)]

theorem E_words (N : Nat) (t : List Ln) (u : List Bs) (hr : rightS t = true) (hN : 1000 < N) : F38o N t u = some (wordsS t u) := by
  obtain ⟨h200, hrf⟩ := rightS_iff.1 hr
  unfold F38o V38o
  simp only [ev_br, ev_leaf, ev_c1, ev_c2, ev_c3, ev_c4, ev_cr, ev_cr2, ev_f0, ev_f1, ev_f2, obind_some, decide_eq_true_eq, Bool.not_eq_true', Bool.true_eq_false, Bool.false_eq_true, if_true, if_false, reduceCtorEq, F_find N t u (by omega), fndS_eq, hr, F_kids N t _ (show t.length < N by omega)]
  cases hf : fnd t u with
  | none =>
    simp only [ev_br, ev_leaf, ev_c1, ev_c2, ev_c3, ev_c4, ev_cr, ev_cr2, ev_f0, ev_f1, ev_f2, obind_some, decide_eq_true_eq, Bool.not_eq_true', Bool.true_eq_false, Bool.false_eq_true, if_true, if_false, reduceCtorEq]
    by_cases hu : u = []
    · subst hu
      have h1 : ¬ (0 : Int) < (([] : List Bs).length : Int) := by simp
      have h2 : -1 ≤ (-1 : Int) ∧ (-1 : Int) < t.length := ⟨by omega, by omega⟩
      have hkl := kids_len t (-1)
      simp only [h1, if_false, true_and, h2, and_self, if_true, kidsS_eq]
      rw [E_wordsL N t _ (fun k hk => kids_in hk) (by omega) (by omega), lp1_brk, words_root hrf]
    · have h1 : (0 : Int) < (u.length : Int) := by have := List.length_pos_iff.2 hu; omega
      simp only [h1, if_true]
      rw [words_none hrf hu (fnd_none0.1 hf)]
  | some i =>
    obtain ⟨hi, hp⟩ := fnd_of hf
    have h2 : -1 ≤ (i : Int) ∧ (i : Int) < t.length := ⟨by omega, by omega⟩
    have hkl := kids_len t i
    simp only [ev_br, ev_leaf, ev_c1, ev_c2, ev_c3, ev_c4, ev_cr, ev_cr2, ev_f0, ev_f1, ev_f2, obind_some, decide_eq_true_eq, Bool.not_eq_true', Bool.true_eq_false, Bool.false_eq_true, if_true, if_false, reduceCtorEq, true_and, h2, and_self, kidsS_eq]
    rw [E_wordsL N t _ (fun k hk => kids_in hk) (by omega) (by omega), lp1_brk, words_kid hrf hi, hp]

theorem E_index (N : Nat) (q : List Bs) (w : Bs) (hl : q.length ≤ 1000000) (hN : q.length < N) : ∃ r : Int, F55 N q w = some r ∧ ((r = -1 ∧ ∀ j, j < q.length → q.getD j [] ≠ w) ∨ (0 ≤ r ∧ r < q.length ∧ q.getD r.toNat [] = w ∧ ∀ j, j < r.toNat → q.getD j [] ≠ w)) := by
  unfold F55 V55
  simp only [ev_br, ev_leaf, ev_c1, ev_c2, ev_c3, ev_c4, ev_cr, ev_cr2, ev_f0, ev_f1, ev_f2, obind_some, decide_eq_true_eq, Bool.not_eq_true', Bool.true_eq_false, Bool.false_eq_true, if_true, if_false, reduceCtorEq]
  obtain ⟨o, ho, hp⟩ := runLoop_post (R := Int) (step := fun x => L55_2 N x.1 x.2.1 x.2.2.1 x.2.2.2)
    (fun x => x.1 = q ∧ x.2.1 = w ∧ x.2.2.1 = (q.length : Int) ∧ 0 ≤ x.2.2.2 ∧ x.2.2.2 ≤ q.length ∧ ∀ j, j < x.2.2.2.toNat → q.getD j [] ≠ w) (fun x => (q.length - x.2.2.2).toNat)
    (fun o => (∃ r : Int, o = .ret r ∧ 0 ≤ r ∧ r < q.length ∧ q.getD r.toNat [] = w ∧ ∀ j, j < r.toNat → q.getD j [] ≠ w) ∨ ((∃ x, o = .brk 0 x) ∧ ∀ j, j < q.length → q.getD j [] ≠ w))
    (by
      rintro ⟨q', w', n, i⟩ ⟨e1, e2, e3, h0, hle, hno⟩
      dsimp only at e1 e2 e3 h0 hle hno ⊢
      subst e1; subst e2; subst e3
      unfold L55_2 U55_2
      by_cases hi : i < q'.length
      · have c1 : inR i q'.length := ⟨h0, hi⟩
        have hat : atI tS q' i = q'.getD i.toNat [] := rfl
        simp (disch := first | assumption | omega) only [ev_br, ev_leaf, ev_c1, ev_c2, ev_c3, ev_c4, ev_cr, ev_cr2, ev_f0, ev_f1, ev_f2, obind_some, decide_eq_true_eq, Bool.not_eq_true', Bool.true_eq_false, Bool.false_eq_true, if_true, if_false, reduceCtorEq, hi, ev_ck, wrapI, hat, beq_iff_eq]
        by_cases he : w' = q'.getD i.toNat []
        · rw [if_pos he]
          exact ⟨_, rfl, .inr ⟨by simp, .inl ⟨i, rfl, h0, hi, he.symm, hno⟩⟩⟩
        · rw [if_neg he]
          refine ⟨_, rfl, .inl ⟨_, rfl, ⟨rfl, rfl, rfl, by simp only; omega, by simp only; omega, fun j hj => ?_⟩, by simp only; omega⟩⟩
          simp only at hj
          rcases Nat.lt_or_ge j i.toNat with h | h
          · exact hno j h
          · have : j = i.toNat := by omega
            subst this; exact fun h => he h.symm
      · exact ⟨.brk 0 (q', w', (q'.length : Int), i), by simp [hi], .inr ⟨by simp, .inr ⟨⟨_, rfl⟩, fun j hj => hno j (by omega)⟩⟩⟩) N (q, w, (q.length : Int), 0) ⟨rfl, rfl, rfl, by simp, by simp, fun j hj => by simp at hj⟩ (by simp only; omega)
  unfold W55_2
  rw [ho]
  rcases hp with ⟨r, rfl, h1, h2, h3, h4⟩ | ⟨⟨x, rfl⟩, h⟩
  · exact ⟨r, rfl, .inr ⟨h1, h2, h3, h4⟩⟩
  · exact ⟨-1, rfl, .inl ⟨rfl, h⟩⟩

theorem starI_of {p : List Bs} {a k : Nat} (h1 : a ≤ k) (h2 : k < p.length) (h3 : p.getD k [] = [42]) (h4 : ∀ j, a ≤ j → j < k → p.getD j [] ≠ [42]) : starI p a = some k := by
  unfold starI
  rw [List.find?_range_eq_some]
  refine ⟨by rw [h3]; simp [h1], List.mem_range.2 h2, fun j hj => ?_⟩
  by_cases hja : a ≤ j
  · have := h4 j hja hj
    rw [Bool.not_eq_true', Bool.and_eq_false_iff]
    right
    simpa using this
  · simp [hja]
theorem starI_not {p : List Bs} {a : Nat} (h : ∀ j, a ≤ j → j < p.length → p.getD j [] ≠ [42]) : starI p a = none := by
  unfold starI
  rw [List.find?_eq_none]
  intro j hj
  rw [List.mem_range] at hj
  by_cases hja : a ≤ j
  · have := h j hja hj
    simp only [hja, decide_true, Bool.true_and, beq_iff_eq]
    exact this
  · simp [hja]
theorem getD_drop' (q : List Bs) (a j : Nat) : (q.drop a).getD j [] = q.getD (a + j) [] := by
  rw [List.getD_eq_getElem?_getD, List.getElem?_drop, List.getD_eq_getElem?_getD]

theorem fillF_some {x : List Ln} {p : List Bs} {a k : Nat} (m : Nat) (h : starI p a = some k) : fillF x (m + 1) p a = (wordsS x (p.take k)).flatMap fun w => fillF x m (p.set k w) (k + 1) := by
  rw [fillF, h]
theorem fillF_none {x : List Ln} {p : List Bs} {a : Nat} (m : Nat) (h : starI p a = none) : fillF x m p a = [p] := by
  cases m with
  | zero => rfl
  | succ m => rw [fillF, h]
theorem fill_max {x : List Ln} (hr : rightS x = true) (n : Nat) (p : List Bs) (a : Nat) : (fillF x n p a).length ≤ 201 := by
  obtain ⟨h200, hrf⟩ := rightS_iff.1 hr
  have h1 := fill_bound hrf n p a
  have h2 := cnt_le x (p.take a)
  omega

theorem E_filled (N : Nat) (x : List Ln) (hr : rightS x = true) (hN : 1000 < N) : ∀ (d n m : Nat) (p : List Bs) (a : Nat), p.length - a ≤ d → d < n → d ≤ m → a ≤ p.length → p.length ≤ 1000 → (G42o N n).1 x p (a : Int) = some (fillF x m p a)
  | d, 0, m, p, a, h1, h2, h3, h4, h5 => by omega
  | d, n + 1, m, p, a, h1, h2, h3, h4, h5 => by
    show (V42o N _ _ x p (a : Int)).eval = _
    unfold V42o
    obtain ⟨h200, hrf⟩ := rightS_iff.1 hr
    obtain ⟨r, hI, hcase⟩ := E_index N (p.drop a) [42] (by rw [List.length_drop]; omega) (by rw [List.length_drop]; omega)
    rw [ev_ck (by omega)]
    simp only [ev_br, ev_leaf, ev_c1, ev_c2, ev_c3, ev_c4, ev_cr, ev_cr2, ev_f0, ev_f1, ev_f2, obind_some, decide_eq_true_eq, Bool.not_eq_true', Bool.true_eq_false, Bool.false_eq_true, if_true, if_false, reduceCtorEq, slcE, Int.toNat_natCast, hI]
    rcases hcase with ⟨rfl, hno⟩ | ⟨h0, hlt, hat, hbef⟩
    · have hs : starI p a = none := starI_not fun j hj1 hj2 => by
        have := hno (j - a) (by rw [List.length_drop]; omega)
        rwa [getD_drop', show a + (j - a) = j by omega] at this
      have : (-1 : Int) < 0 := by omega
      simp only [this, if_true]
      cases m with
      | zero => rfl
      | succ m => simp [fillF, hs]
    · have hlt' : r.toNat < p.length - a := by rw [List.length_drop] at hlt; omega
      have hs : starI p a = some (a + r.toNat) := by
        refine starI_of (by omega) (by omega) (by rw [← getD_drop']; exact hat) fun j hj1 hj2 => ?_
        have := hbef (j - a) (by omega)
        rwa [getD_drop', show a + (j - a) = j by omega] at this
      have hneg : ¬ r < 0 := by omega
      cases m with
      | zero => omega
      | succ m =>
        cases d with
        | zero => omega
        | succ d =>
          obtain ⟨k, hk⟩ : ∃ k, a + r.toNat = k := ⟨_, rfl⟩
          rw [hk] at hs
          have hkl : k < p.length := by omega
          have e1 : r + (a : Int) = (k : Int) := by omega
          have w1 : IntKind.i64.wrap (r + (a : Int)) = (k : Int) := by rw [wrapI (by omega) (by omega)]; exact e1
          simp only [hneg, if_false, w1]
          rw [ev_ck (by omega)]
          simp only [ev_br, ev_leaf, ev_c1, ev_c2, ev_c3, ev_c4, ev_cr, ev_cr2, ev_f0, ev_f1, ev_f2, obind_some, decide_eq_true_eq, Bool.not_eq_true', Bool.true_eq_false, Bool.false_eq_true, if_true, if_false, reduceCtorEq, slc0, Int.toNat_natCast, E_words N x _ hr hN]
          obtain ⟨ws, hws⟩ : ∃ ws, wordsS x (p.take k) = ws := ⟨_, rfl⟩
          have hwl := words_len x (p.take k)
          rw [hws] at hwl ⊢
          have hloop := loop_fold0 (R := List (List Bs)) (step := fun y => L42o_7 N (G42o N n).1 (G42o N n).2 y.1 y.2.1 y.2.2.1 y.2.2.2.1 y.2.2.2.2.1 y.2.2.2.2.2.1 y.2.2.2.2.2.2) ws.length
            (fun (out : List (List Bs)) i => out ++ fillF x m (p.set k (ws.getD i [])) (k + 1)) (fun out i => (x, p, (k : Int), out, ws, (ws.length : Int), i))
            (fun out i => out.length ≤ 201 * i) (fun out i hI hi => by
              have := fill_max hr m (p.set k (ws.getD i [])) (k + 1)
              rw [List.length_append]; omega) (fun out i hI hi => by
              unfold L42o_7 U42o_7
              by_cases h : i < ws.length
              · have hi' : (i : Int) < ws.length := by omega
                have c1 : inR (i : Int) ws.length := ⟨by omega, hi'⟩
                have c2 : inR (k : Int) p.length := ⟨by omega, by omega⟩
                have hat : atI tS ws (i : Int) = ws.getD i [] := rfl
                have hb := fill_max hr m (p.set k (ws.getD i [])) (k + 1)
                have hrec := E_filled N x hr hN d n m (p.set k (ws.getD i [])) (k + 1) (by rw [List.length_set]; omega) (by omega) (by omega) (by rw [List.length_set]; omega) (by rw [List.length_set]; omega)
                have e2 : ((k + 1 : Nat) : Int) = (k : Int) + 1 := by omega
                rw [e2] at hrec
                have hr1 : room (out.length + (fillF x m (p.set k (ws.getD i [])) (k + 1)).length) := by show _ ≤ _; omega
                simp (disch := first | assumption | omega) only [ev_br, ev_leaf, ev_c1, ev_c2, ev_c3, ev_c4, ev_cr, ev_cr2, ev_f0, ev_f1, ev_f2, obind_some, decide_eq_true_eq, Bool.not_eq_true', Bool.true_eq_false, Bool.false_eq_true, if_true, if_false, reduceCtorEq, hi', h, ev_ck c1, F_cloneS N p (by omega), ev_ck c2, hat, Int.toNat_natCast, wrapI, hrec, ev_ck hr1]
              · have hi' : ¬ (i : Int) < ws.length := by omega
                simp [hi', h]) [] (by simp) N (by omega)
          unfold W42o_7
          rw [hloop, lp1_brk]
          have g := foldl_flat (fun i => fillF x m (p.set k (ws.getD i [])) (k + 1)) (List.range ws.length) []
          have g2 := map_range_get ([] : Bs) (fun w => fillF x m (p.set k w) (k + 1)) ws
          rw [g2] at g
          simp only at g ⊢
          rw [g, List.nil_append]
          rw [fillF_some m hs, hws, List.flatMap_def]

theorem E_fill (N : Nat) (x : List Ln) (p : List Bs) (hr : rightS x = true) (hN : 2000 < N) (hp : p.length ≤ 1000) : F42o N x p 0 = some (fillS x p) := by
  have := E_filled N x hr (by omega) p.length N p.length p 0 (by omega) (by omega) (Nat.le_refl _) (Nat.zero_le _) hp
  exact this

/-! ### The paths of a group -/

def leafP (a : List Ln) (g : Bs) : List (List Bs) := ((List.range a.length).filter fun k => (endN a k == k + 1) && (decide (2 < (pth a k).length) && decide ([grp, g] <+: pth a k))).map (pth a)
def pathsS (t : List Ln) (g : Bs) : List (List Bs) × Int := if gt (actL t) [grp, g] = none then ([], 3) else ((leafP (actL t) g).flatMap fun p => fillS (expL t) (p.drop 2), 0)

theorem leaf_sub {a : List Ln} (h : rf [] a = true) {i k : Nat} (hi : i < a.length) (hk : k < endN a i - i) : endN (subN a i) k = k + 1 ↔ endN a (i + k) = i + k + 1 := by
  have hle := endN_le a hi
  have hgt := endN_gt a i
  have hsl := sub_len a hi
  have hd : ∀ j, j < endN a i - i → ((subN a i).getD j (0, [], 0)).1 = (a.getD (i + j) (0, [], 0)).1 - (a.getD i (0, [], 0)).1 := fun j hj => by
    unfold subN partN
    have e := getD_of_lt a (show i + j < a.length by omega)
    rw [e, List.getD_eq_getElem?_getD, List.getElem?_map, List.getElem?_take_of_lt hj, List.getElem?_drop, List.getElem?_eq_getElem (by omega : i + j < a.length)]
    rfl
  rw [end_succ_iff (subN a i) (by omega), end_succ_iff a (by omega), hsl]
  rcases Nat.lt_or_ge (k + 1) (endN a i - i) with h1 | h1
  · rw [hd (k + 1) h1, hd k hk]
    constructor
    · rintro (h2 | h2)
      · omega
      · right; rw [show i + k + 1 = i + (k + 1) by omega]; omega
    · rintro (h2 | h2)
      · omega
      · right; rw [show i + k + 1 = i + (k + 1) by omega] at h2; omega
  · have e1 : i + k + 1 = endN a i := by omega
    constructor
    · intro _
      rcases Nat.lt_or_ge (endN a i) a.length with h2 | h2
      · right
        have h3 := endN_out a i h2
        rw [e1]
        rcases Nat.eq_zero_or_pos k with rfl | h4
        · simpa using h3
        · have := endN_in a i (i + k) (by omega) (by omega)
          omega
      · left; omega
    · intro _; left; omega

theorem E_paths (N : Nat) (t : List Ln) (g : Bs) (hN : 5000 < N) (ht : t.length < N) : F19o N t g = some (if rightS t = true then pathsS t g else ([], 1)) := by
  unfold F19o V19o
  simp only [ev_br, ev_leaf, ev_c1, ev_c2, ev_c3, ev_c4, ev_cr, ev_cr2, ev_f0, ev_f1, ev_f2, obind_some, decide_eq_true_eq, Bool.not_eq_true', Bool.true_eq_false, Bool.false_eq_true, if_true, if_false, reduceCtorEq, E_active N t ht, E_explicit N t ht]
  by_cases hr : rightS t = true
  · obtain ⟨h200, hrf⟩ := rightS_iff.1 hr
    have hra := act_right hr
    have hrx := exp_right hr
    obtain ⟨a, ha⟩ : ∃ a, actL t = a := ⟨_, rfl⟩
    have hal := act_len t
    unfold pathsS
    rw [ha] at hra hal ⊢
    obtain ⟨ha200, harf⟩ := rightS_iff.1 hra
    have hgrp : ([([103, 114, 111, 117, 112, 115] : Bs), g] : List Bs) = [grp, g] := rfl
    simp only [hr, if_true, bne_self_eq_false, Bool.false_eq_true, if_false, hgrp, F_find N a _ (show a.length < N by omega), fndS_eq, hra, ev_br, ev_leaf, ev_c1, ev_c2, ev_c3, ev_c4, ev_cr, ev_cr2, ev_f0, ev_f1, ev_f2, obind_some, decide_eq_true_eq, Bool.not_eq_true', Bool.true_eq_false, Bool.false_eq_true, if_true, if_false, reduceCtorEq]
    cases hf : fnd a [grp, g] with
    | none => simp [fnd_none0.1 hf]
    | some i =>
      have hg : gt a [grp, g] ≠ none := fun h => by rw [fnd_none0.2 h] at hf; cases hf
      obtain ⟨hi, hp⟩ := fnd_of hf
      have hle := endN_le a hi
      have hgt := endN_gt a i
      have hsl := sub_len a hi
      obtain ⟨s1, s2⟩ := sub_tree harf hi
      have hdi := pth_len harf hi
      rw [hp] at hdi
      have hbi := snd_iff.1 (rf_at harf hi).1
      have hd1 : (a[i]).1.toNat = 1 := by simp at hdi; omega
      rw [hd1] at s2
      obtain ⟨sb, hsb⟩ : ∃ sb, subN a i = sb := ⟨_, rfl⟩
      have hth : thereS a (i : Int) = true := thereS_iff.2 ⟨by omega, by omega, hra⟩
      have hlf := fun k hk => leaf_sub harf (k := k) hi hk
      rw [hsb] at s1 s2 hsl hlf
      have hrs : rightS sb = true := rightS_iff.2 ⟨by omega, s1⟩
      simp only [hg, if_false, ev_br, ev_leaf, ev_c1, ev_c2, ev_c3, ev_c4, ev_cr, ev_cr2, ev_f0, ev_f1, ev_f2, obind_some, decide_eq_true_eq, Bool.not_eq_true', Bool.true_eq_false, Bool.false_eq_true, if_true, if_false, reduceCtorEq, F_sub N a _ (show a.length < N by omega), hth, Int.toNat_natCast, hsb, F_leaves N sb (by omega), hrs]
      obtain ⟨ls, hls⟩ : ∃ ls : List Nat, ls = (List.range sb.length).filter fun k => endN sb k == k + 1 := ⟨_, rfl⟩
      have hll : leavesS sb = ls.map fun k : Nat => (k : Int) := by rw [hls]; rfl
      have hlm : ∀ k ∈ ls, k < sb.length := fun k hk => by
        rw [hls] at hk
        exact List.mem_range.1 (List.mem_filter.1 hk).1
      have hlsl : ls.length ≤ sb.length := by
        rw [hls]
        have := List.length_filter_le (fun k => endN sb k == k + 1) (List.range sb.length)
        simpa using this
      obtain ⟨f, hfd⟩ : ∃ f : Nat → List (List Bs), f = fun k => if 1 < (pth sb k).length then fillS (expL t) ((pth sb k).drop 1) else [] := ⟨_, rfl⟩
      have hfl : ∀ k, (f k).length ≤ 201 := fun k => by
        rw [hfd]
        show (if _ then _ else _ : List (List Bs)).length ≤ _
        split
        · exact fill_max hrx _ _ _
        · simp
      have hloop := loop_fold0 (R := List (List Bs) × Int) (step := fun y => L19o_11 N y.1 y.2.1 y.2.2.1 y.2.2.2.1 y.2.2.2.2.1 y.2.2.2.2.2) ls.length
        (fun (out : List (List Bs)) j => out ++ f (ls.getD j 0)) (fun out j => (expL t, sb, out, ls.map fun k : Nat => (k : Int), (ls.length : Int), j))
        (fun out j => out.length ≤ 201 * j) (fun out j hI hj => by have := hfl (ls.getD j 0); rw [List.length_append]; omega) (fun out j hI hj => by
          unfold L19o_11 U19o_11
          by_cases h : j < ls.length
          · have hj' : (j : Int) < ls.length := by omega
            have e1 : ls.getD j 0 = ls[j] := by simp [h]
            have hat : atI tI (ls.map fun k : Nat => (k : Int)) (j : Int) = (ls[j] : Int) := by
              show (ls.map fun k : Nat => (k : Int)).getD _ _ = _
              simp [h]
            have c1 : inR (j : Int) (ls.map fun k : Nat => (k : Int)).length := ⟨by omega, by simpa using hj'⟩
            have hk := hlm _ (List.getElem_mem h)
            have hth2 : thereS sb (ls[j] : Int) = true := thereS_iff.2 ⟨by omega, by omega, hrs⟩
            have hpl := pth_len s1 hk
            have hbl := snd_iff.1 (rf_at s1 hk).1
            have hb := hfl ls[j]
            simp (disch := first | assumption | omega) only [ev_br, ev_leaf, ev_c1, ev_c2, ev_c3, ev_c4, ev_cr, ev_cr2, ev_f0, ev_f1, ev_f2, obind_some, decide_eq_true_eq, Bool.not_eq_true', Bool.true_eq_false, Bool.false_eq_true, if_true, if_false, reduceCtorEq, hj', h, ev_ck c1, wrapI, hat, F_path N sb _ (show sb.length < N by omega), hth2, Int.toNat_natCast, e1]
            by_cases h1 : 1 < (pth sb ls[j]).length
            · have h1' : (1 : Int) < ((pth sb ls[j]).length : Int) := by omega
              have hfk : f ls[j] = fillS (expL t) ((pth sb ls[j]).drop 1) := by rw [hfd]; simp only [h1, if_true]
              have e2 : ((1 : Int)).toNat = 1 := rfl
              have hE := E_fill N (expL t) ((pth sb ls[j]).drop 1) hrx (by omega) (by rw [List.length_drop]; omega)
              have hr1 : room (out.length + (fillS (expL t) ((pth sb ls[j]).drop 1)).length) := by rw [← hfk]; show _ ≤ _; omega
              rw [if_pos h1', ev_ck (by omega)]
              simp only [ev_br, ev_leaf, ev_c1, ev_c2, ev_c3, ev_c4, ev_cr, ev_cr2, ev_f0, ev_f1, ev_f2, obind_some, decide_eq_true_eq, Bool.not_eq_true', Bool.true_eq_false, Bool.false_eq_true, if_true, if_false, reduceCtorEq, slcE, e2, hE, ev_ck hr1, hfk]
            · have h1' : ¬ (1 : Int) < ((pth sb ls[j]).length : Int) := by omega
              have hfk : f ls[j] = [] := by rw [hfd]; simp only [h1, if_false]
              rw [if_neg h1', hfk, List.append_nil]
          · have hj' : ¬ (j : Int) < ls.length := by omega
            simp [hj', h]) [] (by simp) N (by omega)
      unfold W19o_11
      have e3 : ((leavesS sb).length : Int) = (ls.length : Int) := by rw [hll]; simp
      rw [e3, hll, hloop, lp1_brk]
      simp only [Option.some.injEq, Prod.mk.injEq, and_true]
      have g1 := foldl_flat (fun j => f (ls.getD j 0)) (List.range ls.length) []
      have g2 := map_range_get (0 : Nat) f ls
      rw [g2, List.nil_append] at g1
      rw [g1, List.flatMap_def]
      -- the same leaves
      unfold leafP
      have hsplit := filter_range_split (fun k => (endN a k == k + 1) && (decide (2 < (pth a k).length) && decide ([grp, g] <+: pth a k))) (show i ≤ endN a i by omega) hle (fun k hk hpk => by
        simp only [Bool.and_eq_true, decide_eq_true_eq] at hpk
        have := (part_pre harf hi hk).1 (by rw [hp]; exact hpk.2.2)
        exact this)
      rw [hsplit, List.range'_eq_map_range, List.filter_map, List.map_map, List.map_map, hls, hsl]
      -- the leaves' list, with those that are too short
      have key : ∀ (l : List Nat), (∀ k ∈ l, k < endN a i - i) → ((l.filter fun k => endN sb k == k + 1).map f).flatten =
          ((l.filter ((fun k => (endN a k == k + 1) && (decide (2 < (pth a k).length) && decide ([grp, g] <+: pth a k))) ∘ fun x => i + x)).map ((fun p => fillS (expL t) (p.drop 2)) ∘ (pth a ∘ fun x => i + x))).flatten := by
        intro l
        induction l with
        | nil => intro _; rfl
        | cons k l ih =>
          intro hl
          have hk := hl k List.mem_cons_self
          have ih2 := ih fun j hj => hl j (List.mem_cons_of_mem _ hj)
          have hpk : pth sb k = (pth a (i + k)).drop 1 := s2 k hk
          have hpre : [grp, g] <+: pth a (i + k) := by rw [← hp]; exact (part_pre harf hi (by omega)).2 ⟨by omega, by omega⟩
          have hlen := hpre.length_le
          rw [List.filter_cons, List.filter_cons]
          have hlfk := hlf k hk
          by_cases h1 : endN sb k = k + 1
          · have h2 := hlfk.1 h1
            have e4 : (endN sb k == k + 1) = true := by simpa using h1
            have e5 : (endN a (i + k) == i + k + 1) = true := by simpa using h2
            rw [if_pos e4, List.map_cons, List.flatten_cons, ih2]
            by_cases h3 : 2 < (pth a (i + k)).length
            · have e6 : f k = fillS (expL t) ((pth a (i + k)).drop 2) := by
                rw [hfd]
                simp only
                rw [hpk, if_pos (by rw [List.length_drop]; omega), List.drop_drop]
              rw [if_pos (by simp only [Function.comp, e5, Bool.true_and, decide_eq_true h3, decide_eq_true hpre]), List.map_cons, List.flatten_cons, e6]
              rfl
            · have e6 : f k = [] := by
                rw [hfd]
                simp only
                rw [hpk, if_neg (by rw [List.length_drop]; omega)]
              rw [if_neg (by simp only [Function.comp, decide_eq_false h3, Bool.false_and, Bool.and_false]; simp), e6, List.nil_append]
          · have h2 : ¬ endN a (i + k) = i + k + 1 := fun h => h1 (hlfk.2 h)
            have e4 : (endN sb k == k + 1) = false := by simpa using h1
            have e5 : (endN a (i + k) == i + k + 1) = false := by simpa using h2
            rw [if_neg (by rw [e4]; simp), if_neg (by simp only [Function.comp, e5, Bool.false_and]; simp), ih2]
      exact key (List.range (endN a i - i)) fun k hk => List.mem_range.1 hk
  · have hr' : rightS t = false := by simpa using hr
    simp [hr']

/-! ### What is inherited -/

def inhB (x : List Ln) (p : List Bs) : Bool := !ownW (p.headD []) && (decide (p.length = 1) || decide (wordsS x p.dropLast = []))
theorem E_inh (N : Nat) (x : List Ln) (p : List Bs) (hr : rightS x = true) (hp : p ≠ []) (hl : p.length ≤ 1000) (hN : 1000 < N) : F39 N x p = some (inhB x p) := by
  unfold F39 V39 inhB
  have hpos := List.length_pos_iff.2 hp
  have c1 : inR 0 p.length := ⟨by omega, by omega⟩
  have hat : atI tS p 0 = p.headD [] := by
    cases p with
    | nil => exact absurd rfl hp
    | cons a r => rfl
  have e1 : ((p.length : Int) - 1).toNat = p.length - 1 := by omega
  simp (disch := omega) only [ev_br, ev_leaf, ev_c1, ev_c2, ev_c3, ev_c4, ev_cr, ev_cr2, ev_f0, ev_f1, ev_f2, obind_some, decide_eq_true_eq, Bool.not_eq_true', Bool.true_eq_false, Bool.false_eq_true, if_true, if_false, reduceCtorEq, ev_ck c1, hat, E_own, wrapI]
  cases ho : ownW (p.headD []) with
  | true => simp
  | false =>
    simp only [Bool.false_eq_true, if_false, Bool.not_false, Bool.true_and, beq_iff_eq]
    by_cases h1 : p.length = 1
    · have : (p.length : Int) = 1 := by omega
      simp [h1, this]
    · have h1' : ¬ (p.length : Int) = 1 := by omega
      rw [if_neg h1', ev_ck (by omega)]
      simp only [ev_br, ev_leaf, ev_c1, ev_c2, ev_c3, ev_c4, ev_cr, ev_cr2, ev_f0, ev_f1, ev_f2, obind_some, decide_eq_true_eq, Bool.not_eq_true', Bool.true_eq_false, Bool.false_eq_true, if_true, if_false, reduceCtorEq, slc0, e1, ← List.dropLast_eq_take, E_words N x _ hr hN, h1, decide_false, Bool.false_or]
      cases wordsS x p.dropLast with
      | nil => simp
      | cons a r => simp; omega

def addAll (x : List Ln) : List Ln → List (List Bs) → List Ln × Int
  | out, [] => (out, 0)
  | out, p :: r => if inhB x p = true then (if addE out p = 0 then addAll x (addL out p) r else ([], addE out p)) else addAll x out r
def expandS (t : List Ln) : List Ln × Int := if (wordsS (actL t) [apl]).all (fun g => decide (gt (actL t) [grp, g] ≠ none)) = true then addAll (expL t) (expL t) ((wordsS (actL t) [apl]).flatMap fun g => (pathsS t g).1) else ([], 3)

/-- Paths of a group have words. -/
theorem paths_ne {t : List Ln} (h : rf [] t = true) {g : Bs} {p : List Bs} (hp : p ∈ (pathsS t g).1) : p ≠ [] ∧ p.length ≤ 14 := by
  unfold pathsS at hp
  split at hp
  · cases hp
  · obtain ⟨q, hq, h1⟩ := List.mem_flatMap.1 hp
    unfold leafP at hq
    obtain ⟨k, hk, rfl⟩ := List.mem_map.1 hq
    obtain ⟨h2, h3⟩ := List.mem_filter.1 hk
    simp only [Bool.and_eq_true, decide_eq_true_eq] at h3
    have hl := fill_len _ _ _ _ p h1
    obtain ⟨a1, _, _⟩ := act_tree h
    have hkl := List.mem_range.1 h2
    have hpl := pth_len a1 hkl
    have hb := snd_iff.1 (rf_at a1 hkl).1
    rw [List.length_drop] at hl
    refine ⟨fun e => ?_, by omega⟩
    rw [e] at hl
    simp at hl; omega
theorem paths_len {t : List Ln} (hr : rightS t = true) (g : Bs) : (pathsS t g).1.length ≤ 201 * 201 := by
  unfold pathsS
  split
  · simp
  · have hrx := exp_right hr
    have hal : (leafP (actL t) g).length ≤ 200 := by
      unfold leafP
      rw [List.length_map]
      have h1 := List.length_filter_le (fun k => (endN (actL t) k == k + 1) && (decide (2 < (pth (actL t) k).length) && decide ([grp, g] <+: pth (actL t) k))) (List.range (actL t).length)
      rw [List.length_range] at h1
      have := act_len t
      have := (rightS_iff.1 hr).1
      omega
    have key : ∀ l : List (List Bs), (l.flatMap fun p => fillS (expL t) (p.drop 2)).length ≤ 201 * l.length := by
      intro l
      induction l with
      | nil => simp
      | cons p l ih =>
        have := fill_max hrx (p.drop 2).length (p.drop 2) 0
        rw [List.flatMap_cons, List.length_append, List.length_cons]
        have h2 : (fillS (expL t) (p.drop 2)).length ≤ 201 := this
        omega
    have := key (leafP (actL t) g)
    simp only
    omega

theorem E_addAll (N : Nat) (x : List Ln) (hr : rightS x = true) (hN : 100000000 < N) (ps : List (List Bs)) (hps : ∀ p ∈ ps, p ≠ [] ∧ p.length ≤ 1000) (hl : ps.length ≤ 50000000) :
    lp1 (W18_16 N (x, x, ps, (ps.length : Int), 0)) id (fun y => some (y.2.1, (0 : Int))) = some (addAll x x ps) := by
  obtain ⟨o, ho, hp⟩ := runLoop_post (R := List Ln × Int) (step := fun y => L18_16 N y.1 y.2.1 y.2.2.1 y.2.2.2.1 y.2.2.2.2)
    (fun y => y.1 = x ∧ y.2.2.1 = ps ∧ y.2.2.2.1 = (ps.length : Int) ∧ 0 ≤ y.2.2.2.2 ∧ y.2.2.2.2 ≤ ps.length ∧ y.2.1.length ≤ 200 ∧ addAll x y.2.1 (ps.drop y.2.2.2.2.toNat) = addAll x x ps) (fun y => (ps.length - y.2.2.2.2).toNat)
    (fun o => o = .ret (addAll x x ps) ∨ ∃ y, o = .brk 0 y ∧ (y.2.1, (0 : Int)) = addAll x x ps)
    (by
      rintro ⟨x', out, ps', n, i⟩ ⟨e1, e2, e3, h0, hle, hol, hadd⟩
      dsimp only at e1 e2 e3 h0 hle hol hadd ⊢
      subst e1; subst e2; subst e3
      unfold L18_16 U18_16
      by_cases hi : i < ps'.length
      · have hil : i.toNat < ps'.length := by omega
        have c1 : inR i ps'.length := ⟨h0, hi⟩
        have hat : atI (.list tS) ps' i = ps'[i.toNat] := by show ps'.getD _ _ = _; simp [hil]
        obtain ⟨k1, k2⟩ := hps _ (List.getElem_mem hil)
        rw [List.drop_eq_getElem_cons hil, addAll] at hadd
        simp (disch := first | assumption | omega) only [ev_br, ev_leaf, ev_c1, ev_c2, ev_c3, ev_c4, ev_cr, ev_cr2, ev_f0, ev_f1, ev_f2, obind_some, decide_eq_true_eq, Bool.not_eq_true', Bool.true_eq_false, Bool.false_eq_true, if_true, if_false, reduceCtorEq, hi, ev_ck c1, wrapI, hat, E_inh N x' _ hr k1 k2 (by omega), E_add N out _ (show 1000 < N by omega) (by omega) (show (ps'[i.toNat]).length < N by omega) (by omega)]
        have e1 : (i + 1).toNat = i.toNat + 1 := by omega
        by_cases hb : inhB x' ps'[i.toNat] = true
        · rw [if_pos hb] at hadd
          have hb' : ¬ inhB x' ps'[i.toNat] = false := by rw [hb]; simp
          rw [if_neg hb']
          unfold addS
          by_cases he : addE out ps'[i.toNat] = 0
          · rw [if_pos he] at hadd
            have hl2 := (addE_ok he).2.2.2.2
            simp only [he, if_true, decide_true, bne_self_eq_false, Bool.false_eq_true, if_false]
            refine ⟨_, rfl, .inl ⟨_, rfl, ⟨rfl, rfl, rfl, by simp only; omega, by simp only; omega, hl2, ?_⟩, by simp only; omega⟩⟩
            simp only
            rw [e1]; exact hadd
          · rw [if_neg he] at hadd
            have he' : (addE out ps'[i.toNat] != 0) = true := by simpa using he
            simp only [he, if_false, decide_false, Bool.false_eq_true, he', if_true]
            exact ⟨_, rfl, .inr ⟨by simp, .inl (by rw [← hadd])⟩⟩
        · rw [if_neg hb] at hadd
          have hb' : inhB x' ps'[i.toNat] = false := by simpa using hb
          rw [if_pos hb']
          refine ⟨_, rfl, .inl ⟨_, rfl, ⟨rfl, rfl, rfl, by simp only; omega, by simp only; omega, hol, ?_⟩, by simp only; omega⟩⟩
          simp only
          rw [e1]; exact hadd
      · rw [List.drop_of_length_le (by omega)] at hadd
        exact ⟨.brk 0 (x', out, ps', (ps'.length : Int), i), by simp [hi], .inr ⟨by simp, .inr ⟨_, rfl, hadd⟩⟩⟩) N (x, x, ps, (ps.length : Int), 0) ⟨rfl, rfl, rfl, by simp, by simp, (rightS_iff.1 hr).1, by simp⟩ (by simp only; omega)
  unfold W18_16
  rw [ho]
  rcases hp with rfl | ⟨y, rfl, h⟩
  · rfl
  · rw [lp1_brk, h]

theorem E_gather (N : Nat) (t x : List Ln) (gs : List Bs) (hr : rightS t = true) (hN : 100000000 < N) (hl : gs.length ≤ 200) :
    (gs.all (fun g => decide (gt (actL t) [grp, g] ≠ none)) = true ∧ W18_7 N (t, x, ([] : List (List Bs)), gs, (gs.length : Int), 0) = some (.brk 0 (t, x, gs.flatMap fun g => (pathsS t g).1, gs, (gs.length : Int), (gs.length : Int)))) ∨
    (gs.all (fun g => decide (gt (actL t) [grp, g] ≠ none)) = false ∧ W18_7 N (t, x, ([] : List (List Bs)), gs, (gs.length : Int), 0) = some (.ret ([], 3))) := by
  have h200 := (rightS_iff.1 hr).1
  obtain ⟨o, ho, hp⟩ := runLoop_post (R := List Ln × Int) (step := fun y => L18_7 N y.1 y.2.1 y.2.2.1 y.2.2.2.1 y.2.2.2.2.1 y.2.2.2.2.2)
    (fun y => y.1 = t ∧ y.2.1 = x ∧ y.2.2.2.1 = gs ∧ y.2.2.2.2.1 = (gs.length : Int) ∧ 0 ≤ y.2.2.2.2.2 ∧ y.2.2.2.2.2 ≤ gs.length ∧ y.2.2.1 = ((gs.take y.2.2.2.2.2.toNat).flatMap fun g => (pathsS t g).1) ∧ y.2.2.1.length ≤ 201 * 201 * y.2.2.2.2.2.toNat ∧ (gs.take y.2.2.2.2.2.toNat).all (fun g => decide (gt (actL t) [grp, g] ≠ none)) = true) (fun y => (gs.length - y.2.2.2.2.2).toNat)
    (fun o => (gs.all (fun g => decide (gt (actL t) [grp, g] ≠ none)) = true ∧ o = .brk 0 (t, x, gs.flatMap fun g => (pathsS t g).1, gs, (gs.length : Int), (gs.length : Int))) ∨ (gs.all (fun g => decide (gt (actL t) [grp, g] ≠ none)) = false ∧ o = .ret ([], 3)))
    (by
      rintro ⟨t', x', out, gs', n, i⟩ ⟨e1, e2, e3, e4, h0, hle, hout, hol, hall⟩
      dsimp only at e1 e2 e3 e4 h0 hle hout hol hall ⊢
      subst e1; subst e2; subst e3; subst e4
      unfold L18_7 U18_7
      by_cases hi : i < gs'.length
      · have hil : i.toNat < gs'.length := by omega
        have c1 : inR i gs'.length := ⟨h0, hi⟩
        have hat : atI tS gs' i = gs'[i.toNat] := by show gs'.getD _ _ = _; simp [hil]
        have e1 : (i + 1).toNat = i.toNat + 1 := by omega
        have hpl := paths_len hr gs'[i.toNat]
        have hE := E_paths N t' gs'[i.toNat] (by omega) (by omega)
        rw [if_pos hr] at hE
        simp (disch := first | assumption | omega) only [ev_br, ev_leaf, ev_c1, ev_c2, ev_c3, ev_c4, ev_cr, ev_cr2, ev_f0, ev_f1, ev_f2, obind_some, decide_eq_true_eq, Bool.not_eq_true', Bool.true_eq_false, Bool.false_eq_true, if_true, if_false, reduceCtorEq, hi, ev_ck c1, wrapI, hat, hE]
        by_cases hg : gt (actL t') [grp, gs'[i.toNat]] = none
        · have hpe : pathsS t' gs'[i.toNat] = ([], 3) := by unfold pathsS; rw [if_pos hg]
          rw [hpe]
          refine ⟨.ret ([], 3), by simp, .inr ⟨by simp, .inr ⟨?_, rfl⟩⟩⟩
          rw [List.all_eq_false]
          exact ⟨_, List.getElem_mem hil, by simp [hg]⟩
        · have hpe : (pathsS t' gs'[i.toNat]).2 = 0 := by unfold pathsS; rw [if_neg hg]
          have hr1 : room (out.length + (pathsS t' gs'[i.toNat]).1.length) := by show _ ≤ _; omega
          simp only [hpe, bne_self_eq_false, Bool.false_eq_true, if_false, ev_ck hr1, ev_br, ev_leaf, ev_c1, ev_c2, ev_c3, ev_c4, ev_cr, ev_cr2, ev_f0, ev_f1, ev_f2, obind_some, decide_eq_true_eq, Bool.not_eq_true', Bool.true_eq_false, Bool.false_eq_true, if_true, if_false, reduceCtorEq]
          refine ⟨_, rfl, .inl ⟨_, rfl, ⟨rfl, rfl, rfl, rfl, by simp only; omega, by simp only; omega, ?_, ?_, ?_⟩, by simp only; omega⟩⟩
          · simp only
            rw [e1, List.take_succ_eq_append_getElem hil, List.flatMap_append, hout]
            simp
          · simp only
            rw [e1, List.length_append]; omega
          · simp only
            rw [e1, List.take_succ_eq_append_getElem hil, List.all_append, hall]
            simp [hg]
      · have hie : i = (gs'.length : Int) := by omega
        subst hie
        rw [Int.toNat_natCast, List.take_length] at hout hall
        exact ⟨.brk 0 (t', x', out, gs', (gs'.length : Int), (gs'.length : Int)), by simp, .inr ⟨by simp, .inl ⟨hall, by rw [hout]⟩⟩⟩) N (t, x, [], gs, (gs.length : Int), 0) ⟨rfl, rfl, rfl, rfl, by simp, by simp, by simp, by simp, by simp⟩ (by simp only; omega)
  unfold W18_7
  rw [ho]
  rcases hp with ⟨h, rfl⟩ | ⟨h, rfl⟩
  · exact .inl ⟨h, rfl⟩
  · exact .inr ⟨h, rfl⟩

theorem all_len {t : List Ln} (hr : rightS t = true) : ∀ gs : List Bs, (gs.flatMap fun g => (pathsS t g).1).length ≤ 201 * 201 * gs.length
  | [] => by simp
  | g :: gs => by
    have := all_len hr gs
    have := paths_len hr g
    rw [List.flatMap_cons, List.length_append, List.length_cons]
    omega

theorem E_expand (N : Nat) (t : List Ln) (hN : 100000000 < N) (ht : t.length < N) : F18 N t = some (if rightS t = true then expandS t else ([], 1)) := by
  unfold F18 V18
  simp only [ev_br, ev_leaf, ev_c1, ev_c2, ev_c3, ev_c4, ev_cr, ev_cr2, ev_f0, ev_f1, ev_f2, obind_some, decide_eq_true_eq, Bool.not_eq_true', Bool.true_eq_false, Bool.false_eq_true, if_true, if_false, reduceCtorEq, E_active N t ht, E_explicit N t ht]
  by_cases hr : rightS t = true
  · obtain ⟨h200, hrf⟩ := rightS_iff.1 hr
    have hra := act_right hr
    have hrx := exp_right hr
    have hal := act_len t
    have hapl : ([([97, 112, 112, 108, 121] : Bs)] : List Bs) = [apl] := rfl
    have hwl := words_len (actL t) [apl]
    simp only [hr, if_true, bne_self_eq_false, Bool.false_eq_true, if_false, hapl, E_words N (actL t) _ hra (by omega), ev_br, ev_leaf, ev_c1, ev_c2, ev_c3, ev_c4, ev_cr, ev_cr2, ev_f0, ev_f1, ev_f2, obind_some, decide_eq_true_eq, Bool.not_eq_true', Bool.true_eq_false, Bool.false_eq_true, if_true, if_false, reduceCtorEq]
    unfold expandS
    rcases E_gather N t (expL t) (wordsS (actL t) [apl]) hr hN (by omega) with ⟨h1, h2⟩ | ⟨h1, h2⟩
    · rw [h2, h1, if_pos rfl, lp1_brk]
      have := all_len hr (wordsS (actL t) [apl])
      exact E_addAll N (expL t) hrx hN ((wordsS (actL t) [apl]).flatMap fun g => (pathsS t g).1) (fun p hp => by
        obtain ⟨g, _, hg⟩ := List.mem_flatMap.1 hp
        have := paths_ne hrf hg
        exact ⟨this.1, by omega⟩) (by omega)
    · rw [h2, h1]; simp
  · have hr' : rightS t = false := by simpa using hr
    simp [hr']

end Go.Proofs.Ytannkhelkpmcfaa.Vc
