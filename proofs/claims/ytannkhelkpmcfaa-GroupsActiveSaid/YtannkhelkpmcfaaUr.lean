/-
  WHAT THE DOCUMENT'S FUNCTIONS OF GROUPS ANSWER: the same. No condition.
-/
import Derived.Test.YtannkhelkpmcfaaEh
import Derived.Test.YtannkhelkpmcfaaUg
set_option linter.unusedVariables false
set_option linter.unusedSimpArgs false
namespace Go.Proofs.Ytannkhelkpmcfaa.Vc

theorem tmodR {m : Int} (h0 : 0 ≤ m) : (m.tmod 2 == 1) = decide (m % 2 = 1) := by
  rw [Int.tmod_eq_emod_of_nonneg h0, Bool.eq_iff_iff]; simp
theorem off_one {t : List Ln} (x : Bs) : offP t [x] = oddO (gt t [x]) := by
  have h1 := off_last (t := t) [] x
  rw [List.nil_append] at h1
  rw [h1]
  simp [offP]

theorem R_offLoop (N : Nat) (t out : List Ln) (i : Nat) (hr : rightS t = true) (hi : i < t.length) (hN : 1000 < N) :
    W16o_7 N (t, out, (i : Int), false, (i : Int)) = some (.brk 0 (t, out, (i : Int), offP t (pth t i), -1)) := by
  obtain ⟨h200, hrf⟩ := rightS_iff.1 hr
  obtain ⟨o, ho, hp⟩ := runLoop_post (R := List Ln) (step := fun x => L16o_7 N x.1 x.2.1 x.2.2.1 x.2.2.2.1 x.2.2.2.2)
    (fun x => x.1 = t ∧ x.2.1 = out ∧ x.2.2.1 = (i : Int) ∧ -1 ≤ x.2.2.2.2 ∧ x.2.2.2.2 < t.length ∧ (x.2.2.2.1 || (if 0 ≤ x.2.2.2.2 then offP t (pth t x.2.2.2.2.toNat) else false)) = offP t (pth t i)) (fun x => (x.2.2.2.2 + 1).toNat)
    (fun o => o = .brk 0 (t, out, (i : Int), offP t (pth t i), -1))
    (by
      rintro ⟨t', out', i', off, k⟩ ⟨e1, e2, e3, h0, hlt, hoff⟩
      dsimp only at e1 e2 e3 h0 hlt hoff ⊢
      subst e1; subst e2; subst e3
      unfold L16o_7 U16o_7
      by_cases hk : 0 ≤ k
      · have hkl : k.toNat < t'.length := by omega
        have c1 : inR k t'.length := ⟨hk, hlt⟩
        have hm := mark_ok hrf hkl
        have hun := R_under N t' k hk hlt (by omega) (by omega)
        have hstep : offP t' (pth t' k.toNat) = (decide ((t'.getD k.toNat (0, [], 0)).2.2 % 2 = 1) || (if 0 ≤ underN t' k.toNat then offP t' (pth t' (underN t' k.toNat).toNat) else false)) := by
          have hgk := gt_at hrf hkl
          rcases pth_under hrf hkl with ⟨_, h2, h3⟩ | ⟨_, u, h2, h3, h4, _⟩
          · rw [h3, off_one, ← h3, hgk, h2, getD_of_lt t' hkl]
            simp [oddO]
          · rw [h4, off_last, ← h4, hgk, h2, getD_of_lt t' hkl, if_pos (by omega), Int.toNat_natCast, Bool.or_comm]
            rfl
        have hult := unS_lt t' (t'.getD k.toNat (0, [], 0)).1 k.toNat
        have huge := unS_ge t' (t'.getD k.toNat (0, [], 0)).1 k.toNat
        have hud : underN t' k.toNat = unS t' (t'.getD k.toNat (0, [], 0)).1 k.toNat := rfl
        rw [if_pos hk, hstep] at hoff
        have hat : atI tLn t' k = t'.getD k.toNat (0, [], 0) := rfl
        have two : (2 : Int) ≠ 0 := by omega
        cases off with
        | true =>
          simp only [ev_br, ev_leaf, ev_c1, ev_c2, ev_c3, ev_c4, ev_cr, ev_cr2, ev_f0, ev_f1, ev_f2, obind_some, decide_eq_true_eq, Bool.not_eq_true', Bool.true_eq_false, Bool.false_eq_true, if_true, if_false, reduceCtorEq, hk, hun]
          refine ⟨_, rfl, .inl ⟨_, rfl, ⟨rfl, rfl, rfl, by simp only; omega, by simp only; omega, ?_⟩, by simp only; omega⟩⟩
          simp only [Bool.true_or] at hoff ⊢
          exact hoff
        | false =>
          simp only [ev_br, ev_leaf, ev_c1, ev_c2, ev_c3, ev_c4, ev_cr, ev_cr2, ev_f0, ev_f1, ev_f2, obind_some, decide_eq_true_eq, Bool.not_eq_true', Bool.true_eq_false, Bool.false_eq_true, if_true, if_false, reduceCtorEq, hk, hun, ev_ck c1, ev_ck two, hat, tmodR hm.1]
          refine ⟨_, rfl, .inl ⟨_, rfl, ⟨rfl, rfl, rfl, by simp only; omega, by simp only; omega, ?_⟩, by simp only; omega⟩⟩
          simp only
          rw [← hoff, Bool.false_or]
      · have : k = -1 := by omega
        subst this
        rw [if_neg (by omega), Bool.or_false] at hoff
        exact ⟨.brk 0 (t', out', (i : Int), off, -1), by simp, .inr ⟨by simp, by rw [hoff]⟩⟩) N (t, out, (i : Int), false, (i : Int)) ⟨rfl, rfl, rfl, by simp only; omega, by simp only; omega, by
        simp only
        rw [if_pos (by omega), Int.toNat_natCast, Bool.false_or]⟩ (by simp only; omega)
  unfold W16o_7
  rw [ho, hp]

theorem R_active (N : Nat) (t : List Ln) (hr : rightS t = true) (hN : 1000 < N) : F16o N t = some (actL t) := by
  obtain ⟨h200, hrf⟩ := rightS_iff.1 hr
  unfold F16o V16o
  simp only [ev_br, ev_leaf, ev_c1, ev_c2, ev_c3, ev_c4, ev_cr, ev_cr2, ev_f0, ev_f1, ev_f2, obind_some, decide_eq_true_eq, Bool.not_eq_true', Bool.true_eq_false, Bool.false_eq_true, if_true, if_false, reduceCtorEq]
  have := loop_fold0 (R := List Ln) (step := fun x => L16o_3 N x.1 x.2.1 x.2.2) t.length
    (fun (out : List Ln) k => if offP t (pth t k) = true then out else out ++ [ln (pth t k, 0)]) (fun out k => (t, out, k))
    (fun out k => out = actN t k) (fun out k hI hk => by rw [hI, actN_succ]) (fun out k hI hk => by
      unfold L16o_3 U16o_3
      by_cases h : k < t.length
      · have hk' : (k : Int) < t.length := by omega
        have c1 : inR (k : Int) t.length := ⟨by omega, hk'⟩
        have hat : atI tLn t (k : Int) = t.getD k (0, [], 0) := rfl
        have hal := actN_len t k
        have hr1 : ∀ x : Ln, room (out.length + ([x] : List Ln).length) := fun x => by rw [hI]; show _ ≤ _; simp; omega
        have hln : (((t.getD k (0, [], 0)).1, (t.getD k (0, [], 0)).2.1, 0) : Ln) = ln (pth t k, 0) := by
          have := ln_get hrf h
          unfold ln at this ⊢
          rw [getD_of_lt t h, ← this]
        simp only [ev_br, decide_eq_true hk', if_true, Vt.g1, ev_loop1, R_offLoop N t out k hr h hN, lp1_brk, h]
        cases ho : offP t (pth t k) with
        | true => simp (disch := first | assumption | omega) [wrapI]
        | false =>
          simp (disch := first | assumption | omega) only [ev_br, ev_leaf, ev_c1, ev_c2, ev_c3, ev_c4, ev_cr, ev_cr2, ev_f0, ev_f1, ev_f2, obind_some, decide_eq_true_eq, Bool.not_eq_true', Bool.true_eq_false, Bool.false_eq_true, if_true, if_false, reduceCtorEq, ev_ck c1, hat, ev_ck (hr1 _), wrapI, Bool.not_false, hln]
      · have hk' : ¬ (k : Int) < t.length := by omega
        simp [hk', h]) [] rfl N (by omega)
  unfold W16o_3
  rw [this, lp1_brk]
  simp only [Option.some.injEq]
  have g : ∀ n, (List.range n).foldl (fun (out : List Ln) k => if offP t (pth t k) = true then out else out ++ [ln (pth t k, 0)]) [] = actN t n := by
    intro n
    induction n with
    | zero => rfl
    | succ n ih => rw [List.range_succ, List.foldl_append, ih, actN_succ]; rfl
  rw [g, actN_all]

theorem R_explicit (N : Nat) (t : List Ln) (hr : rightS t = true) (hN : 1000 < N) : F17o N t = some (expL t) := by
  obtain ⟨h200, hrf⟩ := rightS_iff.1 hr
  have hra := act_right hr
  have hexp := expL_range hrf
  obtain ⟨a, ha⟩ : ∃ a, actL t = a := ⟨_, rfl⟩
  rw [ha] at hra hexp
  obtain ⟨ha200, harf⟩ := rightS_iff.1 hra
  unfold F17o V17o
  simp only [ev_br, ev_leaf, ev_c1, ev_c2, ev_c3, ev_c4, ev_cr, ev_cr2, ev_f0, ev_f1, ev_f2, obind_some, decide_eq_true_eq, Bool.not_eq_true', Bool.true_eq_false, Bool.false_eq_true, if_true, if_false, reduceCtorEq, R_active N t hr hN, ha]
  have := loop_fold0 (R := List Ln) (step := fun x => L17o_4 N x.1 x.2.1 x.2.2) a.length
    (fun (out : List Ln) k => if (!ownW ((pth a k).headD [])) = true then out ++ [a.getD k (0, [], 0)] else out) (fun out k => (a, out, k))
    (fun out k => out.length ≤ k) (fun out k hI hk => by
      show (if _ then _ else _ : List Ln).length ≤ _
      split
      · simp; omega
      · omega) (fun out k hI hk => by
      unfold L17o_4 U17o_4
      by_cases h : k < a.length
      · have hk' : (k : Int) < a.length := by omega
        have c1 : inR (k : Int) a.length := ⟨by omega, hk'⟩
        have hpn := pth_ne_nil h
        have hpl := List.length_pos_iff.2 hpn
        have c0 : inR 0 (pth a k).length := ⟨by omega, by omega⟩
        have hh : atI tS (pth a k) 0 = (pth a k).headD [] := by
          cases hp : pth a k with
          | nil => exact absurd hp hpn
          | cons x r => rfl
        obtain ⟨w, hw⟩ : ∃ w, (pth a k).headD [] = w := ⟨_, rfl⟩
        rw [hw] at hh
        have hat : atI tLn a (k : Int) = a.getD k (0, [], 0) := rfl
        have hr1 : ∀ x : Ln, room (out.length + ([x] : List Ln).length) := fun x => by show _ ≤ _; simp; omega
        simp (disch := first | assumption | omega) only [ev_br, ev_leaf, ev_c1, ev_c2, ev_c3, ev_c4, ev_cr, ev_cr2, ev_f0, ev_f1, ev_f2, obind_some, decide_eq_true_eq, Bool.not_eq_true', Bool.true_eq_false, Bool.false_eq_true, if_true, if_false, reduceCtorEq, hk', h, R_path N a k hra (by omega) hk' (by omega), Int.toNat_natCast, ev_ck c0, ev_ck c1, hh, hw, hat, ev_ck (hr1 _), wrapI]
        unfold ownW grp apl
        cases e1 : (w == [103, 114, 111, 117, 112, 115]) <;> cases e2 : (w == [97, 112, 112, 108, 121]) <;> simp
      · have hk' : ¬ (k : Int) < a.length := by omega
        simp [hk', h]) [] (by simp) N (by omega)
  unfold W17o_4
  rw [this, lp1_brk, foldl_fmap, List.nil_append, ← hexp]

theorem R_wordsL (N : Nat) (t : List Ln) (ks : List Int) (hk : ∀ k ∈ ks, 0 ≤ k ∧ k < t.length) (hl : ks.length ≤ 1000000) (hN : ks.length < N) :
    W27o_9 N (t, [], ks, 0) = some (.brk 0 (t, ks.map fun k => (t.getD k.toNat (0, [], 0)).2.1, ks, (ks.length : Int))) := by
  have := loop_fold0 (R := List Bs) (step := fun x => L27o_9 N x.1 x.2.1 x.2.2.1 x.2.2.2) ks.length
    (fun (out : List Bs) k => out ++ [(t.getD (ks.getD k 0).toNat (0, [], 0)).2.1]) (fun out k => (t, out, ks, k))
    (fun out k => out.length ≤ k) (fun out k hI hk => by simp; omega) (fun out k hI hk2 => by
      unfold L27o_9 U27o_9
      by_cases h : k < ks.length
      · have hk' : (k : Int) < ks.length := by omega
        have hat : atI tI ks (k : Int) = ks[k] := by show ks.getD _ _ = _; simp [h]
        have e1 : ks.getD k 0 = ks[k] := by simp [h]
        have c1 : inR (k : Int) ks.length := ⟨by omega, hk'⟩
        have c2 : inR (ks[k]) t.length := hk _ (List.getElem_mem h)
        have hr1 : ∀ w : Bs, room (out.length + ([w] : List Bs).length) := fun w => by show _ ≤ _; simp; omega
        simp (disch := first | assumption | omega) only [ev_br, ev_leaf, ev_c1, ev_c2, ev_c3, ev_c4, ev_cr, ev_cr2, ev_f0, ev_f1, ev_f2, obind_some, decide_eq_true_eq, Bool.not_eq_true', Bool.true_eq_false, Bool.false_eq_true, if_true, if_false, reduceCtorEq, hk', h, ev_ck, wrapI, hat, ev_ck (hr1 _), e1, atI_nat]
      · have hk' : ¬ (k : Int) < ks.length := by omega
        simp [hk', h]) [] (by simp) N hN
  unfold W27o_9
  rw [this, foldl_map, List.nil_append, map_range_get (0 : Int) (fun k => (t.getD k.toNat (0, [], 0)).2.1)]

theorem R_words (N : Nat) (t : List Ln) (u : List Bs) (hr : rightS t = true) (hu : u.length ≤ 1000000) (hN : 1000 < N) : F27o N t u = some (wordsS t u) := by
  obtain ⟨h200, hrf⟩ := rightS_iff.1 hr
  unfold F27o V27o
  simp only [ev_br, ev_leaf, ev_c1, ev_c2, ev_c3, ev_c4, ev_cr, ev_cr2, ev_f0, ev_f1, ev_f2, obind_some, decide_eq_true_eq, Bool.not_eq_true', Bool.true_eq_false, Bool.false_eq_true, if_true, if_false, reduceCtorEq]
  by_cases h0 : u = []
  · subst h0
    have h1 : ¬ (0 : Int) < (([] : List Bs).length : Int) := by simp
    have hkl := kids_len t (-1)
    simp only [h1, if_false, R_kids N t (-1) (by omega) (by omega), kidsS_eq, ev_br, ev_leaf, ev_c1, ev_c2, ev_c3, ev_c4, ev_cr, ev_cr2, ev_f0, ev_f1, ev_f2, obind_some, decide_eq_true_eq, Bool.not_eq_true', Bool.true_eq_false, Bool.false_eq_true, if_true, if_false, reduceCtorEq]
    rw [R_wordsL N t _ (fun k hk => kids_in hk) (by omega) (by omega), lp1_brk, words_root hrf]
  · have h1 : (0 : Int) < (u.length : Int) := by have := List.length_pos_iff.2 h0; omega
    simp only [h1, if_true, R_finds N t u hrf (by omega) (by omega) (by omega), ev_br, ev_leaf, ev_c1, ev_c2, ev_c3, ev_c4, ev_cr, ev_cr2, ev_f0, ev_f1, ev_f2, obind_some, decide_eq_true_eq, Bool.not_eq_true', Bool.true_eq_false, Bool.false_eq_true, if_true, if_false, reduceCtorEq]
    cases hf : fnd t u with
    | none =>
      have : (-1 : Int) < 0 := by omega
      simp only [this, if_true]
      rw [words_none hrf h0 (fnd_none0.1 hf)]
    | some i =>
      obtain ⟨hi, hp⟩ := fnd_of hf
      have hni : ¬ (i : Int) < 0 := by omega
      have hkl := kids_len t i
      simp only [hni, if_false, R_kids N t i (by omega) (by omega), kidsS_eq, ev_br, ev_leaf, ev_c1, ev_c2, ev_c3, ev_c4, ev_cr, ev_cr2, ev_f0, ev_f1, ev_f2, obind_some, decide_eq_true_eq, Bool.not_eq_true', Bool.true_eq_false, Bool.false_eq_true, if_true, if_false, reduceCtorEq]
      rw [R_wordsL N t _ (fun k hk => kids_in hk) (by omega) (by omega), lp1_brk, words_kid hrf hi, hp]

theorem R_star (N : Nat) (p : List Bs) (a : Nat) (ha : a ≤ p.length) (hp : p.length ≤ 1000000) (hN : p.length < N) : F57 N p a = some (match starI p a with | some k => (k : Int) | none => -1) := by
  unfold F57 V57
  simp only [ev_br, ev_leaf, ev_c1, ev_c2, ev_c3, ev_c4, ev_cr, ev_cr2, ev_f0, ev_f1, ev_f2, obind_some, decide_eq_true_eq, Bool.not_eq_true', Bool.true_eq_false, Bool.false_eq_true, if_true, if_false, reduceCtorEq]
  obtain ⟨o, ho, hpost⟩ := runLoop_post (R := Int) (step := fun x => L57_2 N x.1 x.2)
    (fun x => x.1 = p ∧ (a : Int) ≤ x.2 ∧ x.2 ≤ p.length ∧ ∀ j, a ≤ j → j < x.2.toNat → p.getD j [] ≠ [42]) (fun x => (p.length - x.2).toNat)
    (fun o => (∃ k : Nat, o = .ret (k : Int) ∧ starI p a = some k) ∨ ((∃ x, o = .brk 0 x) ∧ starI p a = none))
    (by
      rintro ⟨p', i⟩ ⟨e1, h0, hle, hno⟩
      dsimp only at e1 h0 hle hno ⊢
      subst e1
      unfold L57_2 U57_2
      by_cases hi : i < p'.length
      · have c1 : inR i p'.length := ⟨by omega, hi⟩
        have hat : atI tS p' i = p'.getD i.toNat [] := rfl
        simp (disch := first | assumption | omega) only [ev_br, ev_leaf, ev_c1, ev_c2, ev_c3, ev_c4, ev_cr, ev_cr2, ev_f0, ev_f1, ev_f2, obind_some, decide_eq_true_eq, Bool.not_eq_true', Bool.true_eq_false, Bool.false_eq_true, if_true, if_false, reduceCtorEq, hi, ev_ck c1, wrapI, hat, beq_iff_eq]
        by_cases he : p'.getD i.toNat [] = [42]
        · rw [if_pos he]
          refine ⟨_, rfl, .inr ⟨by simp, .inl ⟨i.toNat, by rw [Int.toNat_of_nonneg (by omega)], starI_of (by omega) (by omega) he hno⟩⟩⟩
        · rw [if_neg he]
          refine ⟨_, rfl, .inl ⟨_, rfl, ⟨rfl, by simp only; omega, by simp only; omega, fun j hj1 hj2 => ?_⟩, by simp only; omega⟩⟩
          simp only at hj2
          rcases Nat.lt_or_ge j i.toNat with h | h
          · exact hno j hj1 h
          · have : j = i.toNat := by omega
            subst this; exact he
      · exact ⟨.brk 0 (p', i), by simp [hi], .inr ⟨by simp, .inr ⟨⟨_, rfl⟩, starI_not fun j hj1 hj2 => hno j hj1 (by omega)⟩⟩⟩) N (p, (a : Int)) ⟨rfl, Int.le_refl _, by simp only; omega, fun j h1 h2 => by simp only at h2; omega⟩ (by simp only; omega)
  unfold W57_2
  rw [ho]
  rcases hpost with ⟨k, rfl, h⟩ | ⟨⟨x, rfl⟩, h⟩
  · rw [h]; rfl
  · rw [h]; rfl

theorem set_split (p : List Bs) {k : Nat} (hk : k < p.length) (w : Bs) : p.take k ++ [w] ++ p.drop (k + 1) = p.set k w := by
  rw [List.set_eq_take_append_cons_drop, if_pos hk]; simp

theorem R_filled (N : Nat) (x : List Ln) (hr : rightS x = true) (hN : 2000 < N) : ∀ (d n m : Nat) (p : List Bs) (a : Nat), p.length - a ≤ d → d < n → d ≤ m → a ≤ p.length → p.length ≤ 1000 → (G45o N n).1 x p (a : Int) = some (fillF x m p a)
  | d, 0, m, p, a, h1, h2, h3, h4, h5 => by omega
  | d, n + 1, m, p, a, h1, h2, h3, h4, h5 => by
    show (V45o N _ _ x p (a : Int)).eval = _
    unfold V45o
    obtain ⟨h200, hrf⟩ := rightS_iff.1 hr
    simp only [ev_br, ev_leaf, ev_c1, ev_c2, ev_c3, ev_c4, ev_cr, ev_cr2, ev_f0, ev_f1, ev_f2, obind_some, decide_eq_true_eq, Bool.not_eq_true', Bool.true_eq_false, Bool.false_eq_true, if_true, if_false, reduceCtorEq, R_star N p a h4 (by omega) (by omega)]
    cases hs : starI p a with
    | none =>
      have : (-1 : Int) < 0 := by omega
      simp only [this, if_true]
      rw [fillF_none m hs]
    | some k =>
      obtain ⟨s1, s2, s3, s4⟩ := starI_some hs
      have hneg : ¬ (k : Int) < 0 := by omega
      cases m with
      | zero => omega
      | succ m =>
        cases d with
        | zero => omega
        | succ d =>
          simp only [hneg, if_false]
          rw [ev_ck (by omega)]
          simp only [ev_br, ev_leaf, ev_c1, ev_c2, ev_c3, ev_c4, ev_cr, ev_cr2, ev_f0, ev_f1, ev_f2, obind_some, decide_eq_true_eq, Bool.not_eq_true', Bool.true_eq_false, Bool.false_eq_true, if_true, if_false, reduceCtorEq, slc0, Int.toNat_natCast, R_words N x (p.take k) hr (by rw [List.length_take]; omega) (by omega)]
          obtain ⟨ws, hws⟩ : ∃ ws, wordsS x (p.take k) = ws := ⟨_, rfl⟩
          have hwl := words_len x (p.take k)
          rw [hws] at hwl ⊢
          have hloop := loop_fold0 (R := List (List Bs)) (step := fun y => L45o_7 N (G45o N n).1 (G45o N n).2 y.1 y.2.1 y.2.2.1 y.2.2.2.1 y.2.2.2.2.1 y.2.2.2.2.2) ws.length
            (fun (out : List (List Bs)) i => out ++ fillF x m (p.set k (ws.getD i [])) (k + 1)) (fun out i => (x, p, (k : Int), out, ws, i))
            (fun out i => out.length ≤ 201 * i) (fun out i hI hi => by
              have := fill_max hr m (p.set k (ws.getD i [])) (k + 1)
              rw [List.length_append]; omega) (fun out i hI hi => by
              unfold L45o_7 U45o_7
              by_cases h : i < ws.length
              · have hi' : (i : Int) < ws.length := by omega
                have c1 : inR (i : Int) ws.length := ⟨by omega, hi'⟩
                have hat : atI tS ws (i : Int) = ws.getD i [] := rfl
                have hb := fill_max hr m (p.set k (ws.getD i [])) (k + 1)
                have hrec := R_filled N x hr hN d n m (p.set k (ws.getD i [])) (k + 1) (by rw [List.length_set]; omega) (by omega) (by omega) (by rw [List.length_set]; omega) (by rw [List.length_set]; omega)
                have e2 : ((k + 1 : Nat) : Int) = (k : Int) + 1 := by omega
                rw [e2] at hrec
                have e3 : ((k : Int) + 1).toNat = k + 1 := by omega
                have hr1 : room (out.length + (fillF x m (p.set k (ws.getD i [])) (k + 1)).length) := by show _ ≤ _; omega
                have hr2 : ∀ w : Bs, room ((p.take k ++ [w]).length + (p.drop (k + 1)).length) := fun w => by show _ ≤ _; simp; omega
                have ck1 : (0 : Int) ≤ 0 ∧ (0 : Int) ≤ (k : Int) ∧ (k : Int) ≤ (p.length : Int) := by omega
                have ck2 : (0 : Int) ≤ (k : Int) + 1 ∧ (k : Int) + 1 ≤ (p.length : Int) ∧ (p.length : Int) ≤ (p.length : Int) := by omega
                simp (disch := first | assumption | omega) only [ev_br, ev_leaf, ev_c1, ev_c2, ev_c3, ev_c4, ev_cr, ev_cr2, ev_f0, ev_f1, ev_f2, obind_some, decide_eq_true_eq, Bool.not_eq_true', Bool.true_eq_false, Bool.false_eq_true, if_true, if_false, reduceCtorEq, hi', h, ev_ck ck1, ev_ck c1, slc0, Int.toNat_natCast, hat, R_with N (p.take k) _ (by rw [List.length_take]; omega), wrapI, ev_ck ck2, slcE, e3, ev_ck (hr2 _), set_split p s2, hrec, ev_ck hr1]
              · have hi' : ¬ (i : Int) < ws.length := by omega
                simp [hi', h]) [] (by simp) N (by omega)
          unfold W45o_7
          rw [hloop, lp1_brk]
          have g := foldl_flat (fun i => fillF x m (p.set k (ws.getD i [])) (k + 1)) (List.range ws.length) []
          have g2 := map_range_get ([] : Bs) (fun w => fillF x m (p.set k w) (k + 1)) ws
          rw [g2] at g
          simp only at g ⊢
          rw [g, List.nil_append]
          rw [fillF_some m hs, hws, List.flatMap_def]

theorem R_fill (N : Nat) (x : List Ln) (p : List Bs) (hr : rightS x = true) (hN : 2000 < N) (hp : p.length ≤ 1000) : F45o N x p 0 = some (fillS x p) := by
  have := R_filled N x hr hN p.length N p.length p 0 (by omega) (by omega) (Nat.le_refl _) (Nat.zero_le _) hp
  exact this

theorem R_paths (N : Nat) (t : List Ln) (g : Bs) (hr : rightS t = true) (hN : 5000 < N) : F22o N t g = some (pathsS t g) := by
  obtain ⟨h200, hrf⟩ := rightS_iff.1 hr
  have hra := act_right hr
  have hrx := exp_right hr
  obtain ⟨a, ha⟩ : ∃ a, actL t = a := ⟨_, rfl⟩
  unfold F22o V22o pathsS
  rw [ha] at hra ⊢
  obtain ⟨ha200, harf⟩ := rightS_iff.1 hra
  have hgrp : ([([103, 114, 111, 117, 112, 115] : Bs), g] : List Bs) = [grp, g] := rfl
  simp only [ev_br, ev_leaf, ev_c1, ev_c2, ev_c3, ev_c4, ev_cr, ev_cr2, ev_f0, ev_f1, ev_f2, obind_some, decide_eq_true_eq, Bool.not_eq_true', Bool.true_eq_false, Bool.false_eq_true, if_true, if_false, reduceCtorEq, R_active N t hr (by omega), ha, hgrp, R_finds N a [grp, g] harf (by omega) (by simp) (by omega), R_explicit N t hr (by omega)]
  cases hf : fnd a [grp, g] with
  | none =>
    have : (-1 : Int) < 0 := by omega
    simp [fnd_none0.1 hf]
  | some i0 =>
    have hg : gt a [grp, g] ≠ none := fun h => by rw [fnd_none0.2 h] at hf; cases hf
    have hni : ¬ (i0 : Int) < 0 := by omega
    simp only [hg, if_false, hni]
    obtain ⟨P, hP⟩ : ∃ P : Nat → Bool, P = fun k => (endN a k == k + 1) && (decide (2 < (pth a k).length) && decide ([grp, g] <+: pth a k)) := ⟨_, rfl⟩
    have hloop := loop_fold0 (R := List (List Bs) × Int) (step := fun y => L22o_7 N y.1 y.2.1 y.2.2.1 y.2.2.2.1 y.2.2.2.2) a.length
      (fun (out : List (List Bs)) k => out ++ (if P k = true then fillS (expL t) ((pth a k).drop 2) else [])) (fun out k => (g, a, expL t, out, k))
      (fun out k => out.length ≤ 201 * k) (fun out k hI hk => by
        have := fill_max hrx ((pth a k).drop 2).length ((pth a k).drop 2) 0
        have h2 : (fillS (expL t) ((pth a k).drop 2)).length ≤ 201 := this
        rw [List.length_append]
        split
        · omega
        · simp; omega) (fun out k hI hk => by
        unfold L22o_7 U22o_7
        by_cases h : k < a.length
        · have hk' : (k : Int) < a.length := by omega
          have hpl := pth_len harf h
          have hbk := snd_iff.1 (rf_at harf h).1
          have hE := R_end N a (k : Int) (by omega) hk' (by omega) (by omega)
          rw [Int.toNat_natCast] at hE
          simp (disch := first | assumption | omega) only [ev_br, ev_leaf, ev_c1, ev_c2, ev_c3, ev_c4, ev_cr, ev_cr2, ev_f0, ev_f1, ev_f2, obind_some, decide_eq_true_eq, Bool.not_eq_true', Bool.true_eq_false, Bool.false_eq_true, if_true, if_false, reduceCtorEq, hk', h, R_path N a k hra (by omega) hk' (by omega), Int.toNat_natCast, wrapI, hE]
          rw [hP]
          simp only
          by_cases h2 : 2 < (pth a k).length
          · have h2' : (2 : Int) < ((pth a k).length : Int) := by omega
            have c0 : inR 0 (pth a k).length := ⟨by omega, by omega⟩
            have c1 : inR 1 (pth a k).length := ⟨by omega, by omega⟩
            obtain ⟨x0, x1, r, hr0⟩ : ∃ x0 x1 r, pth a k = x0 :: x1 :: r := by
              match hp : pth a k, h2 with
              | x0 :: x1 :: r, _ => exact ⟨x0, x1, r, rfl⟩
            have hat0 : atI tS (pth a k) 0 = x0 := by rw [hr0]; rfl
            have hat1 : atI tS (pth a k) 1 = x1 := by rw [hr0]; rfl
            have hpre : [grp, g] <+: pth a k ↔ x0 = grp ∧ x1 = g := by
              rw [hr0, List.cons_prefix_cons, List.cons_prefix_cons]
              simp [List.nil_prefix, eq_comm]
            have ck2 : (0 : Int) ≤ 2 ∧ (2 : Int) ≤ ((pth a k).length : Int) ∧ ((pth a k).length : Int) ≤ ((pth a k).length : Int) := by omega
            have e2 : ((2 : Int)).toNat = 2 := rfl
            have hF := R_fill N (expL t) ((pth a k).drop 2) hrx (by omega) (by rw [List.length_drop]; omega)
            have hfm := fill_max hrx ((pth a k).drop 2).length ((pth a k).drop 2) 0
            have hr1 : room (out.length + (fillS (expL t) ((pth a k).drop 2)).length) := by
              have : (fillS (expL t) ((pth a k).drop 2)).length ≤ 201 := hfm
              show _ ≤ _; omega
            simp only [h2', if_true, ev_ck c0, ev_ck c1, hat0, hat1, ev_br, ev_leaf, ev_c1, ev_c2, ev_c3, ev_c4, ev_cr, ev_cr2, ev_f0, ev_f1, ev_f2, obind_some, decide_eq_true_eq, Bool.not_eq_true', Bool.true_eq_false, Bool.false_eq_true, if_true, if_false, reduceCtorEq, ev_ck ck2, slcE, e2, hF, ev_ck hr1, beq_iff_eq, h2, decide_true, Bool.true_and, Bool.and_eq_true, decide_eq_true_eq]
            by_cases e0 : x0 = [103, 114, 111, 117, 112, 115]
            · rw [if_pos e0]
              by_cases e1 : x1 = g
              · rw [if_pos e1]
                have hpp : [grp, g] <+: pth a k := hpre.2 ⟨e0, e1⟩
                by_cases he : endN a k = k + 1
                · have he' : (endN a k : Int) = (k : Int) + 1 := by omega
                  rw [if_pos he', if_pos ⟨he, hpp⟩]
                · have he' : ¬ (endN a k : Int) = (k : Int) + 1 := by omega
                  rw [if_neg he', if_neg (fun h => he h.1), List.append_nil]
              · rw [if_neg e1, if_neg (fun h => e1 (hpre.1 h.2).2), List.append_nil]
            · rw [if_neg e0, if_neg (fun h => e0 (hpre.1 h.2).1), List.append_nil]
          · have h2' : ¬ (2 : Int) < ((pth a k).length : Int) := by omega
            rw [if_neg h2', if_neg (by simp [h2]), List.append_nil]
        · have hk' : ¬ (k : Int) < a.length := by omega
          simp [hk', h]) [] (by simp) N (by omega)
    unfold W22o_7
    rw [hloop, lp1_brk]
    simp only [Option.some.injEq, Prod.mk.injEq, and_true]
    rw [foldl_flat, List.nil_append]
    unfold leafP
    rw [List.flatMap_def, List.map_map, ← hP]
    have key : ∀ l : List Nat, (l.map fun k => if P k = true then fillS (expL t) ((pth a k).drop 2) else []).flatten = ((l.filter P).map ((fun p => fillS (expL t) (p.drop 2)) ∘ pth a)).flatten := by
      intro l
      induction l with
      | nil => rfl
      | cons k l ih =>
        rw [List.map_cons, List.flatten_cons, ih, List.filter_cons]
        split
        · rw [List.map_cons, List.flatten_cons]; rfl
        · rw [List.nil_append]
    exact key _

end Go.Proofs.Ytannkhelkpmcfaa.Vc
