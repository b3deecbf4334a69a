/-
  WHAT THE DOCUMENT'S FUNCTIONS OF MERGING ANSWER: the same. No condition.
-/
import Derived.Test.YtbchajjppgkgnaaEh
import Derived.Test.YtbchajjppgkgnaaMp
set_option linter.unusedVariables false
set_option linter.unusedSimpArgs false
namespace Go.Proofs.Ytbchajjppgkgnaa.Vc

theorem Q_state (N : Nat) (t : List Ln) (p : List Bs) (hr : rightS t = true) (hp : p.length ≤ 1000000) (hN : 1000 < N) : F45 N t p = some (st t p) := by
  obtain ⟨h200, hrf⟩ := rightS_iff.1 hr
  unfold F45 V45
  simp only [ev_br, ev_leaf, ev_c1, ev_c2, ev_c3, ev_c4, ev_cr, ev_cr2, ev_f0, ev_f1, ev_f2, obind_some, decide_eq_true_eq, Bool.not_eq_true', Bool.true_eq_false, Bool.false_eq_true, if_true, if_false, reduceCtorEq, R_finds N t p hrf (by omega) (by omega) (by omega)]
  cases hf : fnd t p with
  | none =>
    have := fnd_none0.1 hf
    simp [st, this]
  | some i =>
    obtain ⟨hi, _⟩ := fnd_of hf
    have c1 : inR (i : Int) t.length := ⟨by omega, by omega⟩
    have hg := fnd_gt hrf hf
    have hn : ¬ (i : Int) < 0 := by omega
    simp only [ev_ck c1, ev_br, ev_leaf, ev_c1, ev_c2, ev_c3, ev_c4, ev_cr, ev_cr2, ev_f0, ev_f1, ev_f2, obind_some, decide_eq_true_eq, Bool.not_eq_true', Bool.true_eq_false, Bool.false_eq_true, if_true, if_false, reduceCtorEq, st, hg, hn]
    rfl

theorem Q_decided (N : Nat) (b m t : List Ln) (p : List Bs) (hb : rightS b = true) (hm : rightS m = true) (ht : rightS t = true) (hp : p.length ≤ 1000000) (hN : 1000 < N) : F27 N b m t p = some (dcd b m t p) := by
  unfold F27 V27
  simp only [ev_br, ev_leaf, ev_c1, ev_c2, ev_c3, ev_c4, ev_cr, ev_cr2, ev_f0, ev_f1, ev_f2, obind_some, decide_eq_true_eq, Bool.not_eq_true', Bool.true_eq_false, Bool.false_eq_true, if_true, if_false, reduceCtorEq, Q_state N b p hb hp hN, Q_state N m p hm hp hN, Q_state N t p ht hp hN, beq_iff_eq]
  unfold dcd
  by_cases c1 : st m p = st t p
  · simp [c1]
  · by_cases c2 : st t p = st b p
    · by_cases c3 : st m p = st b p
      · exact absurd (c3.trans c2.symm) c1
      · simp [c1, c2, c3]
    · by_cases c3 : st m p = st b p
      · have c4 : ¬ st b p = st t p := fun e => c2 e.symm
        simp [c2, c3, c4]
      · simp [c1, c2, c3]

/-! ### A path, where it belongs -/

theorem lx_drop (a b : List Bs) (k : Nat) (h1 : k < a.length) (h2 : k < b.length) : lx (a.drop k) (b.drop k) = if a.getD k [] = b.getD k [] then lx (a.drop (k + 1)) (b.drop (k + 1)) else bl (a.getD k []) (b.getD k []) := by
  rw [List.drop_eq_getElem_cons h1, List.drop_eq_getElem_cons h2, getD_lt h1, getD_lt h2]
  simp only [lx]
  by_cases h : a[k] = b[k]
  · simp [h, bl_irr]
  · simp [h]

theorem Q_ahead (N : Nat) (a b : List Bs) (hl : a.length ≤ 1000000) (hN : a.length < N) : F55 N a b = some (lx a b) := by
  unfold F55 V55
  simp only [ev_f1, ev_leaf]
  obtain ⟨o, ho, hp⟩ := runLoop_post (R := Bool) (step := fun x => L55_2 N x.1 x.2.1 x.2.2)
    (fun x => x.1 = a ∧ x.2.1 = b ∧ 0 ≤ x.2.2 ∧ x.2.2 ≤ a.length ∧ lx (a.drop x.2.2.toNat) (b.drop x.2.2.toNat) = lx a b ∧ x.2.2 ≤ b.length) (fun x => (a.length - x.2.2).toNat)
    (fun o => lp1 (some o) id (fun x => some (decide ((x.1.length : Int) < (x.2.1.length : Int)))) = some (lx a b))
    (by
      rintro ⟨a', b', k⟩ ⟨e1, e2, h0, hk, hx, hkb⟩
      dsimp only at e1 e2 h0 hk hx hkb ⊢
      subst e1; subst e2
      unfold L55_2 U55_2
      by_cases c1 : k < (a'.length : Int)
      · by_cases c2 : k < (b'.length : Int)
        · have i1 : inR k a'.length := ⟨h0, c1⟩
          have i2 : inR k b'.length := ⟨h0, c2⟩
          have x1 : atI tS a' k = a'.getD k.toNat [] := rfl
          have x2 : atI tS b' k = b'.getD k.toNat [] := rfl
          rw [lx_drop a' b' k.toNat (by omega) (by omega)] at hx
          by_cases he : a'.getD k.toNat [] = b'.getD k.toNat []
          · rw [if_pos he] at hx
            have hb : (a'.getD k.toNat [] == b'.getD k.toNat []) = true := by simpa using he
            simp (disch := first | assumption | omega) only [ev_br, ev_leaf, decide_eq_true c1, decide_eq_true c2, if_true, ev_ck i1, ev_ck i2, x1, x2, hb, Bool.not_true, Bool.false_eq_true, if_false, wrapI]
            refine ⟨_, rfl, .inl ⟨_, rfl, ⟨rfl, rfl, by simp only; omega, by simp only; omega, ?_, by simp only; omega⟩, by simp only; omega⟩⟩
            simp only
            rw [show (k + 1).toNat = k.toNat + 1 by omega]
            exact hx
          · rw [if_neg he] at hx
            have hb : (a'.getD k.toNat [] == b'.getD k.toNat []) = false := by simpa using he
            simp (disch := first | assumption | omega) only [ev_br, ev_leaf, decide_eq_true c1, decide_eq_true c2, if_true, ev_ck i1, ev_ck i2, x1, x2, hb, Bool.not_false]
            exact ⟨_, rfl, .inr ⟨by simp, by rw [← hx]; rfl⟩⟩
        · have : k.toNat = b'.length := by omega
          rw [List.drop_of_length_le (l := b') (by omega), lx_nil] at hx
          refine ⟨.brk 0 (a', b', k), by simp [c1, c2], .inr ⟨by simp, ?_⟩⟩
          rw [lp1_brk, ← hx]
          simp
          omega
      · have hka : k.toNat = a'.length := by omega
        refine ⟨.brk 0 (a', b', k), by simp [c1], .inr ⟨by simp, ?_⟩⟩
        rw [lp1_brk, ← hx, List.drop_of_length_le (l := a') (by omega)]
        by_cases c2 : k < (b'.length : Int)
        · rw [List.drop_eq_getElem_cons (l := b') (by omega)]
          simp [lx]
          omega
        · rw [List.drop_of_length_le (l := b') (by omega), lx_nil]
          simp
          omega) N (a, b, 0) ⟨rfl, rfl, by simp, by simp, by simp, by simp⟩ (by simp; omega)
  unfold W55_2
  rw [ho]
  exact hp

theorem putP_take (l : List (List Bs)) (p : List Bs) {k : Nat} (hk : k < l.length) (hn : p ∉ l.take k) : insL p (l.take (k + 1)) = if (l.take k).any (lx p) = true then insL p (l.take k) ++ [l[k]] else if lx p l[k] = true then l.take k ++ [p, l[k]] else l.take k ++ [l[k], p] := by
  rw [List.take_succ_eq_append_getElem hk, insL_snoc]

/-- What has been gathered: whether the path is there yet. -/
def putD (l : List (List Bs)) (p : List Bs) (k : Nat) : Bool := (l.take k).any (lx p)
def putG (l : List (List Bs)) (p : List Bs) (k : Nat) : List (List Bs) := if putD l p k = true then insL p (l.take k) else l.take k
theorem putD_succ (l : List (List Bs)) (p : List Bs) {k : Nat} (hk : k < l.length) : putD l p (k + 1) = (putD l p k || lx p l[k]) := by
  unfold putD
  rw [List.take_succ_eq_append_getElem hk, List.any_append]
  simp
theorem putG_succ (l : List (List Bs)) (p : List Bs) {k : Nat} (hk : k < l.length) : putG l p (k + 1) = if putD l p k = true then putG l p k ++ [l[k]] else if lx p l[k] = true then putG l p k ++ [p] ++ [l[k]] else putG l p k ++ [l[k]] := by
  have h1 := putD_succ l p hk
  unfold putG
  rw [h1]
  unfold putD
  by_cases h : (l.take k).any (lx p) = true
  · rw [if_pos h, if_pos h, if_pos (by rw [h]; rfl), List.take_succ_eq_append_getElem hk, insL_snoc, if_pos h]
  · rw [if_neg h, if_neg h]
    by_cases h2 : lx p l[k] = true
    · rw [if_pos (by rw [h2]; simp), if_pos h2, List.take_succ_eq_append_getElem hk, insL_snoc, if_neg h, if_pos h2]
      simp
    · rw [if_neg (by simp only [Bool.or_eq_true]; rintro (h3 | h3); exact h h3; exact h2 h3), if_neg h2, List.take_succ_eq_append_getElem hk]
theorem putG_len (l : List (List Bs)) (p : List Bs) (k : Nat) : (putG l p k).length ≤ k + 1 := by
  unfold putG
  split
  · rw [insL_len, List.length_take]; omega
  · rw [List.length_take]; omega

theorem Q_put (N : Nat) (l : List (List Bs)) (p : List Bs) (hl : l.length ≤ 1000000) (hs : ∀ x ∈ l, x.length ≤ 1000) (hp : p.length ≤ 1000) (hN : 1000 < N) (hlN : l.length < N) : F43 N l p = some (putP l p) := by
  unfold F43 V43
  simp only [ev_f1, ev_br, ev_leaf]
  obtain ⟨o, ho, hpo⟩ := runLoop_post (R := List (List Bs)) (step := fun x => L43_4 N x.1 x.2.1 x.2.2.1 x.2.2.2.1 x.2.2.2.2)
    (fun x => ∃ k : Nat, k ≤ l.length ∧ x = (l, p, putG l p k, putD l p k, (k : Int)) ∧ p ∉ l.take k) (fun x => (l.length - x.2.2.2.2).toNat)
    (fun o => (p ∈ l ∧ o = .ret l) ∨ (p ∉ l ∧ o = .brk 0 (l, p, putG l p l.length, putD l p l.length, (l.length : Int))))
    (by
      rintro ⟨l', p', out, done, i⟩ ⟨k, hk, e, hn⟩
      injection e with e1 e; injection e with e2 e; injection e with e3 e; injection e with e4 e5
      subst e1; subst e2; subst e3; subst e4; subst e5
      dsimp only
      unfold L43_4 U43_4
      by_cases h : k < l'.length
      · have hk' : (k : Int) < l'.length := by omega
        have c1 : inR (k : Int) l'.length := ⟨by omega, hk'⟩
        have hat : atI (.list tS) l' (k : Int) = l'[k] := by show l'.getD k [] = _; simp [h]
        have hlk := hs l'[k] (List.getElem_mem h)
        have hgl := putG_len l' p' k
        have r1 : ∀ z : List Bs, room ((putG l' p' k).length + ([z] : List (List Bs)).length) := fun z => by show _ ≤ _; simp; omega
        have r2 : ∀ y z : List Bs, room ((putG l' p' k ++ [y]).length + ([z] : List (List Bs)).length) := fun y z => by show _ ≤ _; simp; omega
        have hE := F_equal N l'[k] p' (by omega) (by show _ ≤ 9223372036854775807; omega)
        have hA := Q_ahead N p' l'[k] (by omega) (by omega)
        by_cases he : l'[k] = p'
        · have hE' : F22 N l'[k] p' = some true := by rw [hE]; simp [he]
          simp (disch := first | assumption | omega) only [ev_br, ev_leaf, ev_c1, ev_c2, ev_c3, ev_c4, ev_cr, ev_cr2, ev_f0, ev_f1, ev_f2, obind_some, decide_eq_true_eq, Bool.not_eq_true', Bool.true_eq_false, Bool.false_eq_true, if_true, if_false, reduceCtorEq, hk', ev_ck c1, hat, hE']
          exact ⟨_, rfl, .inr ⟨by simp, .inl ⟨by rw [← he]; exact List.getElem_mem h, rfl⟩⟩⟩
        · have hn2 : p' ∉ l'.take (k + 1) := by
            rw [List.take_succ_eq_append_getElem h, List.mem_append, List.mem_singleton]
            rintro (h1 | h1)
            · exact hn h1
            · exact he h1.symm
          have hG := putG_succ l' p' h
          have hD := putD_succ l' p' h
          have hd0 : decide (l'[k] = p') = false := decide_eq_false he
          cases hd : putD l' p' k with
          | true =>
            rw [hd, if_pos rfl] at hG
            rw [hd, Bool.true_or] at hD
            simp (disch := first | assumption | omega) only [ev_br, ev_leaf, ev_c1, ev_c2, ev_c3, ev_c4, ev_cr, ev_cr2, ev_f0, ev_f1, ev_f2, obind_some, decide_eq_true_eq, Bool.not_eq_true', Bool.true_eq_false, Bool.false_eq_true, if_true, if_false, reduceCtorEq, hk', ev_ck c1, hat, hE, hd0, Bool.not_true, ev_ck (r1 _), wrapI]
            refine ⟨_, rfl, .inl ⟨_, rfl, ⟨k + 1, by omega, ?_, hn2⟩, by simp only; omega⟩⟩
            rw [hG, hD]; rfl
          | false =>
            rw [hd, if_neg (by simp)] at hG
            rw [hd, Bool.false_or] at hD
            cases hlx : lx p' l'[k] with
            | true =>
              rw [hlx, if_pos rfl] at hG
              rw [hlx] at hD
              simp (disch := first | assumption | omega) only [ev_br, ev_leaf, ev_c1, ev_c2, ev_c3, ev_c4, ev_cr, ev_cr2, ev_f0, ev_f1, ev_f2, obind_some, decide_eq_true_eq, Bool.not_eq_true', Bool.true_eq_false, Bool.false_eq_true, if_true, if_false, reduceCtorEq, hk', ev_ck c1, hat, hE, hd0, Bool.not_false, hA, hlx, ev_ck (r1 _), ev_ck (r2 _ _), wrapI]
              refine ⟨_, rfl, .inl ⟨_, rfl, ⟨k + 1, by omega, ?_, hn2⟩, by simp only; omega⟩⟩
              rw [hG, hD]; rfl
            | false =>
              rw [hlx, if_neg (by simp)] at hG
              rw [hlx] at hD
              simp (disch := first | assumption | omega) only [ev_br, ev_leaf, ev_c1, ev_c2, ev_c3, ev_c4, ev_cr, ev_cr2, ev_f0, ev_f1, ev_f2, obind_some, decide_eq_true_eq, Bool.not_eq_true', Bool.true_eq_false, Bool.false_eq_true, if_true, if_false, reduceCtorEq, hk', ev_ck c1, hat, hE, hd0, Bool.not_false, hA, hlx, ev_ck (r1 _), wrapI]
              refine ⟨_, rfl, .inl ⟨_, rfl, ⟨k + 1, by omega, ?_, hn2⟩, by simp only; omega⟩⟩
              rw [hG, hD]; rfl
      · have hk' : ¬ (k : Int) < l'.length := by omega
        have : k = l'.length := by omega
        subst this
        refine ⟨_, by simp only [ev_br, decide_eq_false hk', Bool.false_eq_true, if_false, ev_leaf], .inr ⟨by simp, .inr ⟨by rwa [List.take_length] at hn, rfl⟩⟩⟩) N (l, p, [], false, 0)
    ⟨0, Nat.zero_le _, by simp [putG, putD], by simp⟩ (by simp; omega)
  unfold W43_4
  rw [ho]
  unfold putP
  rcases hpo with ⟨hm, rfl⟩ | ⟨hm, rfl⟩
  · rw [if_pos hm]; rfl
  · rw [if_neg hm, lp1_brk]
    have hgl := putG_len l p l.length
    have r1 : room ((putG l p l.length).length + ([p] : List (List Bs)).length) := by show _ ≤ _; simp; omega
    cases hd : putD l p l.length with
    | true =>
      simp only [Bool.not_true, Bool.false_eq_true, if_false]
      unfold putG
      rw [if_pos hd, List.take_length]
    | false =>
      simp only [Bool.not_false, if_true, ev_ck r1, ev_leaf]
      unfold putG
      rw [if_neg (by rw [hd]; simp), List.take_length]
      unfold putD at hd
      rw [List.take_length] at hd
      rw [insL_none hd]

theorem Q_loop (ps : List (List Bs)) : ∀ (k : Nat), (List.range k).foldl (fun (a : List (List Bs)) i => putP a (ps.getD i [])) [] = (ps.take k).foldl putP [] → True := fun _ _ => trivial

theorem fold_range {α A : Type} (d : α) (l : List α) (f : A → α → A) (a : A) : (List.range l.length).foldl (fun a k => f a (l.getD k d)) a = l.foldl f a := by
  conv => rhs; rw [show l = (List.range l.length).map (fun k => l.getD k d) by
    apply List.ext_getElem (by simp)
    intro i h1 h2
    simp [h1]]
  rw [List.foldl_map]

/-- One tree's paths, put to others. -/
def putA (acc : List (List Bs)) (t : List Ln) : List (List Bs) := (pths [] t).foldl putP acc
theorem putA_range (acc : List (List Bs)) (t : List Ln) : (List.range t.length).foldl (fun (a : List (List Bs)) k => putP a (pth t k)) acc = putA acc t := by
  unfold putA
  have := fold_range ([] : List Bs) (pths [] t) putP acc
  rw [← this, show (pths [] t).length = t.length by simp]
  rfl
/-- Paths, few and short. -/
def fewP (n : Nat) (l : List (List Bs)) : Prop := l.length ≤ n ∧ ∀ x ∈ l, x.length ≤ 1000
theorem fewP_put {n : Nat} {l : List (List Bs)} {p : List Bs} (h : fewP n l) (hp : p.length ≤ 1000) : fewP (n + 1) (putP l p) := ⟨by have := putP_len l p; have := h.1; omega, fun x hx => by
  rcases putP_mem.1 hx with rfl | hx
  · exact hp
  · exact h.2 x hx⟩
theorem pth_small {t : List Ln} (hr : rightS t = true) {k : Nat} (hk : k < t.length) : (pth t k).length ≤ 1000 := by
  have := gt_sound (right_rf hr) (gt_at (right_rf hr) hk)
  omega

theorem Q_paths (N : Nat) (b m t : List Ln) (hb : rightS b = true) (hm : rightS m = true) (ht : rightS t = true) (hN : 1000 < N) : F26 N b m t = some (once (allP b m t)) := by
  have h1 := right_len hb
  have h2 := right_len hm
  have h3 := right_len ht
  have key : ∀ {u : List Ln}, rightS u = true → ∀ {n : Nat} {a : List (List Bs)} {k : Nat}, n ≤ 1000 → fewP n a → k < u.length → F44 N u (k : Int) = some (pth u k) ∧ F43 N a (pth u k) = some (putP a (pth u k)) := fun {u} hu {n a k} hn ha hk => by
    have h9 := right_len hu
    have := R_path N u (k : Int) hu (by omega) (by omega) (by omega)
    rw [Int.toNat_natCast] at this
    have h8 := ha.1
    by_cases hn9 : a.length < N
    · exact ⟨this, Q_put N a _ (by omega) ha.2 (pth_small hu hk) hN hn9⟩
    · omega
  have f1 := loop_fold0 (R := List (List Bs)) (step := fun x => L26_3 N x.1 x.2.1 x.2.2.1 x.2.2.2.1 x.2.2.2.2) b.length
    (fun (a : List (List Bs)) k => putP a (pth b k)) (fun a k => (b, m, t, a, k)) (fun a k => fewP k a) (fun a k h hk => fewP_put h (pth_small hb hk)) (fun a k hI hk => by
      unfold L26_3 U26_3
      by_cases h : k < b.length
      · have hk' : (k : Int) < b.length := by omega
        obtain ⟨q1, q2⟩ := key hb (by omega) hI h
        simp (disch := first | assumption | omega) only [ev_br, ev_leaf, ev_c1, ev_c2, ev_c3, ev_c4, ev_cr, ev_cr2, ev_f0, ev_f1, ev_f2, obind_some, decide_eq_true_eq, Bool.not_eq_true', Bool.true_eq_false, Bool.false_eq_true, if_true, if_false, reduceCtorEq, hk', h, q1, q2, wrapI]
      · have hk' : ¬ (k : Int) < b.length := by omega
        simp [hk', h]) [] ⟨Nat.le_refl _, fun x hx => by cases hx⟩ N (by omega)
  rw [putA_range] at f1
  have g1 : fewP 200 (putA [] b) := by
    have := puts_up (pths [] b) [] List.Pairwise.nil
    refine ⟨by have h9 := this.2.2; unfold putA; simp at h9; omega, fun x hx => ?_⟩
    rcases (this.2.1 x).1 hx with h | h
    · cases h
    · have := gt_sound (right_rf hb) (st_some (right_rf hb) (mem_st (right_rf hb) h)).1; omega
  have f2 := loop_fold0 (R := List (List Bs)) (step := fun x => L26_7 N x.1 x.2.1 x.2.2.1 x.2.2.2) m.length
    (fun (a : List (List Bs)) k => putP a (pth m k)) (fun a k => (m, t, a, k)) (fun a k => fewP (200 + k) a) (fun a k h hk => fewP_put h (pth_small hm hk)) (fun a k hI hk => by
      unfold L26_7 U26_7
      by_cases h : k < m.length
      · have hk' : (k : Int) < m.length := by omega
        obtain ⟨q1, q2⟩ := key hm (by omega) hI h
        simp (disch := first | assumption | omega) only [ev_br, ev_leaf, ev_c1, ev_c2, ev_c3, ev_c4, ev_cr, ev_cr2, ev_f0, ev_f1, ev_f2, obind_some, decide_eq_true_eq, Bool.not_eq_true', Bool.true_eq_false, Bool.false_eq_true, if_true, if_false, reduceCtorEq, hk', h, q1, q2, wrapI]
      · have hk' : ¬ (k : Int) < m.length := by omega
        simp [hk', h]) (putA [] b) g1 N (by omega)
  rw [putA_range] at f2
  have g2 : fewP 400 (putA (putA [] b) m) := by
    have h0 := puts_up (pths [] b) [] List.Pairwise.nil
    have := puts_up (pths [] m) (putA [] b) h0.1
    refine ⟨by have h9 := this.2.2; have := g1.1; unfold putA at *; simp at h9; omega, fun x hx => ?_⟩
    rcases (this.2.1 x).1 hx with h | h
    · exact g1.2 x h
    · have := gt_sound (right_rf hm) (st_some (right_rf hm) (mem_st (right_rf hm) h)).1; omega
  have f3 := loop_fold0 (R := List (List Bs)) (step := fun x => L26_11 N x.1 x.2.1 x.2.2) t.length
    (fun (a : List (List Bs)) k => putP a (pth t k)) (fun a k => (t, a, k)) (fun a k => fewP (400 + k) a) (fun a k h hk => fewP_put h (pth_small ht hk)) (fun a k hI hk => by
      unfold L26_11 U26_11
      by_cases h : k < t.length
      · have hk' : (k : Int) < t.length := by omega
        obtain ⟨q1, q2⟩ := key ht (by omega) hI h
        simp (disch := first | assumption | omega) only [ev_br, ev_leaf, ev_c1, ev_c2, ev_c3, ev_c4, ev_cr, ev_cr2, ev_f0, ev_f1, ev_f2, obind_some, decide_eq_true_eq, Bool.not_eq_true', Bool.true_eq_false, Bool.false_eq_true, if_true, if_false, reduceCtorEq, hk', h, q1, q2, wrapI]
      · have hk' : ¬ (k : Int) < t.length := by omega
        simp [hk', h]) (putA (putA [] b) m) g2 N (by omega)
  rw [putA_range] at f3
  have e : putA (putA (putA [] b) m) t = once (allP b m t) := by
    rw [← puts_once]
    unfold putA allP
    rw [List.foldl_append, List.foldl_append]
  rw [e] at f3
  unfold F26 V26 W26_3 W26_7 W26_11
  simp only [ev_f1, ev_leaf, f1, lp1_brk, f2, f3]

end Go.Proofs.Ytbchajjppgkgnaa.Vc
