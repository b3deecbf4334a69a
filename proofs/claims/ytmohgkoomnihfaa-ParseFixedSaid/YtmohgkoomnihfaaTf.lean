/-
  WHAT THE FUNCTIONS OF PACKAGE tree ANSWER. No condition.
-/
import Derived.Test.YtmohgkoomnihfaaTt
import Derived.Test.YtmohgkoomnihfaaFa
set_option linter.unusedVariables false
set_option linter.unusedSimpArgs false
namespace Go.Proofs.Ytmohgkoomnihfaa.Vc

theorem atI_nat (t : List Ln) (i : Int) : atI tLn t i = t.getD i.toNat (0, [], 0) := rfl
theorem drop_cons (t : List Ln) {i : Int} (h0 : 0 ≤ i) (h : i < t.length) : t.drop i.toNat = atI tLn t i :: t.drop (i + 1).toNat := by
  rw [List.drop_eq_getElem_cons (by omega : i.toNat < t.length), show (i + 1).toNat = i.toNat + 1 by omega]
  congr 1
  rw [atI_nat]; simp [show i.toNat < t.length by omega]

theorem F_sound (N : Nat) (l : Ln) : F39 N l = some (snd l) := by
  unfold F39 V39 snd
  simp only [ev_br, ev_leaf, decide_eq_true_eq]
  repeat' split
  all_goals simp [*]
  all_goals omega

theorem W_right (N : Nat) (t : List Ln) (hN : t.length < N) (h200 : t.length ≤ 200) : ∃ o, W19_6 N (([([] : Bs), [], [], [], [], [], [], [], [], [], [], [], [], [], [], []] : List Bs), (-1), t, (t.length : Int), 0) = some o ∧
    ((∃ x, o = .brk 0 x ∧ rf [] t = true) ∨ (o = .ret false ∧ rf [] t = false)) := by
  refine runLoop_post (R := Bool) (step := fun x => L19_6 N x.1 x.2.1 x.2.2.1 x.2.2.2.1 x.2.2.2.2)
    (fun x => x.2.2.1 = t ∧ x.2.2.2.1 = (t.length : Int) ∧ 0 ≤ x.2.2.2.2 ∧ x.2.2.2.2 ≤ t.length ∧ x.1.length = 16 ∧ ∃ p : List Bs, p.length ≤ 16 ∧ x.2.1 = (p.length : Int) - 1 ∧ x.1.take p.length = p ∧ rf p (t.drop x.2.2.2.2.toNat) = rf [] t)
    (fun x => (t.length - x.2.2.2.2).toNat) _
    (fun x hx => ?_) N _ ⟨rfl, rfl, by simp, by simp, rfl, [], by simp, rfl, rfl, rfl⟩ (by simpa using hN)
  obtain ⟨last, depth, t', n, i⟩ := x
  obtain ⟨h1, h2, h0, hle, hlen, p, hp16, hdp, htk, hrf⟩ := hx
  dsimp only at h1 h2 h0 hle hlen hp16 hdp htk hrf ⊢
  subst h1; subst h2
  by_cases hi : i < t'.length
  · rw [drop_cons t' h0 hi] at hrf
    have hin : inR i t'.length := ⟨h0, hi⟩
    obtain ⟨l, hl⟩ : ∃ l : Ln, atI tLn t' i = l := ⟨_, rfl⟩
    rw [hl] at hrf
    unfold L19_6 U19_6
    simp (disch := first | assumption | omega) only [ev_br, ev_leaf, ev_c1, ev_ck, decide_eq_true_eq, hi, if_true, F_sound, hl, obind_some, Bool.not_eq_true']
    by_cases hs : snd l = true
    · obtain ⟨s1, s2, s3, s4, s5⟩ := snd_iff.1 hs
      simp only [hs, Bool.true_eq_false, if_false]
      rw [wrapI (by omega) (by omega)]
      have hd : inR l.1 16 := ⟨s1, s2⟩
      have hd2 : inR l.1 last.length := by rw [hlen]; exact hd
      -- the round's end, if the line may stand
      have good : l.1 ≤ p.length → (l.1 = p.length ∨ bl (p.getD l.1.toNat []) l.2.1 = true) →
          (∀ y, y = (last.set l.1.toNat l.2.1, l.1, t', (t'.length : Int), IntKind.i64.wrap (i + 1)) → ((y.2.2.1 = t' ∧ y.2.2.2.1 = (t'.length : Int) ∧ 0 ≤ y.2.2.2.2 ∧ y.2.2.2.2 ≤ t'.length ∧ y.1.length = 16 ∧
            ∃ p : List Bs, p.length ≤ 16 ∧ y.2.1 = (p.length : Int) - 1 ∧ y.1.take p.length = p ∧ rf p (t'.drop y.2.2.2.2.toNat) = rf [] t') ∧ (t'.length - y.2.2.2.2).toNat < (t'.length - i).toNat)) := by
        intro hg1 hg2 y hy
        subst hy
        rw [wrapI (by omega) (by omega)]
        have hn := nx_len s1 hg1
        refine ⟨⟨rfl, rfl, by simp; omega, by simp; omega, by simp [hlen], nx p l, by rw [hn]; omega, by rw [hn]; simp; omega, ?_, ?_⟩, by simp; omega⟩
        · rw [hn]
          unfold nx
          simp only
          rw [List.take_succ_eq_append_getElem (by simp [hlen]; omega), List.take_set_of_le (by omega)]
          congr 1
          · rw [← htk, List.take_take, Nat.min_eq_left (by omega)]
          · simp
        · simp only
          rw [← hrf]
          rw [rf, hs, Bool.true_and, decide_eq_true hg1, Bool.true_and]
          rcases hg2 with hg2 | hg2
          · rw [decide_eq_true hg2]; simp
          · rw [hg2]; simp
      by_cases hg1 : (depth + 1 : Int) < l.1
      · refine ⟨_, by simp [hg1], .inr ⟨by simp, .inr ⟨rfl, ?_⟩⟩⟩
        rw [← hrf, rf, decide_eq_false (show ¬ l.1 ≤ (p.length : Int) by omega)]; simp
      · rw [if_neg hg1]
        by_cases hg2 : l.1 ≤ depth
        · rw [if_pos hg2]
          have hat : atI tS last l.1 = p.getD l.1.toNat [] := by
            show last.getD _ _ = _
            rw [← htk, List.getD_eq_getElem?_getD, List.getD_eq_getElem?_getD, List.getElem?_take_of_lt (by omega)]; rfl
          rw [hat, bl_not]
          by_cases hb : bl (p.getD l.1.toNat []) l.2.1 = true
          · rw [show Op.bytesLess (p.getD l.1.toNat []) l.2.1 = true from hb]
            simp (disch := first | assumption | omega) only [ev_br, ev_leaf, ev_ck, Bool.not_true, Bool.false_eq_true, if_false]
            have := good (by omega) (.inr hb) _ rfl
            exact ⟨_, rfl, .inl ⟨_, rfl, this.1, this.2⟩⟩
          · have hb' : Op.bytesLess (p.getD l.1.toNat []) l.2.1 = false := by simpa using hb
            rw [hb']
            refine ⟨.ret false, ?_, .inr ⟨by simp, .inr ⟨rfl, ?_⟩⟩⟩
            · simp (disch := first | assumption | omega) only [ev_br, ev_leaf, ev_ck, Bool.not_false, if_true]
            · rw [← hrf, rf]
              have : decide (l.1 = (p.length : Int)) = false := by simp; omega
              rw [this, show bl (p.getD l.1.toNat []) l.2.1 = false from hb']; simp
        · rw [if_neg hg2]
          simp (disch := first | assumption | omega) only [ev_leaf, ev_ck]
          have := good (by omega) (.inl (by omega)) _ rfl
          exact ⟨_, rfl, .inl ⟨_, rfl, this.1, this.2⟩⟩
    · refine ⟨_, by simp [hs], .inr ⟨by simp, .inr ⟨rfl, ?_⟩⟩⟩
      rw [← hrf]; simp [rf, hs]
  · refine ⟨.brk 0 (last, depth, t', (t'.length : Int), i), ?_, .inr ⟨by simp, .inl ⟨_, rfl, ?_⟩⟩⟩
    · simp [L19_6, U19_6, hi]
    · rw [← hrf, List.drop_of_length_le (by omega)]; rfl

theorem F_right (N : Nat) (t : List Ln) (hN : t.length < N) : F19 N t = some (rightS t) := by
  unfold F19 V19 rightS
  simp only [ev_br, ev_leaf, decide_eq_true_eq, ev_f1]
  by_cases h200 : (200 : Int) < t.length
  · rw [if_pos h200]; simp; omega
  · rw [if_neg h200]
    have hd : decide (t.length ≤ 200) = true := by simp; omega
    rw [hd, Bool.true_and]
    obtain ⟨o, ho, ⟨x, rfl, h⟩ | ⟨rfl, h⟩⟩ := W_right N t hN (by omega)
    · rw [ho, h]; rfl
    · rw [ho, h]; rfl

/-! ### Equal lists; few and short ones -/


theorem F_equal (N : Nat) (a b : List Bs) (hN : a.length < N) (hm : a.length ≤ maxLen) : F48 N a b = some (decide (a = b)) := by
  unfold F48 V48
  simp only [ev_br, ev_leaf, ev_f1, bne_iff_ne, ne_eq]
  by_cases hl : (a.length : Int) = b.length
  · rw [if_neg (by simpa using hl)]
    have := loop_all (R := Bool) (step := fun x => L48_4 N x.1 x.2.1 x.2.2) a.length (fun i => a.getD i [] == b.getD i []) (fun i => (a, b, i)) false (fun i h0 hi => by
      unfold L48_4 U48_4
      by_cases h : i < a.length
      · have h1 : inR i a.length := ⟨h0, h⟩
        have h2 : inR i b.length := ⟨h0, by omega⟩
        simp (disch := first | assumption | (unfold maxLen at hm; omega)) only [ev_br, ev_leaf, ev_ck, decide_eq_true_eq, h, if_true, wrapI]
        exact ite_not_some (a.getD i.toNat [] == b.getD i.toNat []) _ _
      · simp [h]) N hN
    unfold W48_4
    rw [this]
    by_cases he : a = b
    · rw [if_pos ((all_eq_iff [] (by omega)).2 he)]; simp [he]
    · rw [if_neg (fun h => he ((all_eq_iff [] (by omega)).1 h))]; simp [he]
  · rw [if_pos (by simpa using hl)]
    have : a ≠ b := fun h => hl (by rw [h])
    simp [this]

theorem ln_beq (a b : Ln) : ((a.1 == b.1) && ((a.2.1 == b.2.1) && ((a.2.2 == b.2.2) && true))) = (a == b) := by
  obtain ⟨a1, a2, a3⟩ := a
  obtain ⟨b1, b2, b3⟩ := b
  rw [Bool.eq_iff_iff]
  simp

theorem F_same (N : Nat) (a b : List Ln) (hN : a.length < N) (hm : a.length ≤ maxLen) : F13 N a b = some (decide (a = b)) := by
  unfold F13 V13
  simp only [ev_br, ev_leaf, ev_f1, bne_iff_ne, ne_eq]
  by_cases hl : (a.length : Int) = b.length
  · rw [if_neg (by simpa using hl)]
    have := loop_all (R := Bool) (step := fun x => L13_4 N x.1 x.2.1 x.2.2) a.length (fun i => a.getD i (0, [], 0) == b.getD i (0, [], 0)) (fun i => (a, b, i)) false (fun i h0 hi => by
      unfold L13_4 U13_4
      by_cases h : i < a.length
      · have h1 : inR i a.length := ⟨h0, h⟩
        have h2 : inR i b.length := ⟨h0, by omega⟩
        simp (disch := first | assumption | (unfold maxLen at hm; omega)) only [ev_br, ev_leaf, ev_ck, decide_eq_true_eq, h, if_true, wrapI]
        rw [ln_beq]
        exact ite_not_some (a.getD i.toNat (0, [], 0) == b.getD i.toNat (0, [], 0)) _ _
      · simp [h]) N hN
    unfold W13_4
    rw [this]
    by_cases he : a = b
    · rw [if_pos ((all_eq_iff (0, [], 0) (by omega)).2 he)]; simp [he]
    · rw [if_neg (fun h => he ((all_eq_iff (0, [], 0) (by omega)).1 h))]; simp [he]
  · rw [if_pos (by simpa using hl)]
    have : a ≠ b := fun h => hl (by rw [h])
    simp [this]

def smallS (t : List Ln) : Bool := decide (t.length ≤ 220) && t.all fun l => decide (l.2.1.length ≤ 100)
def shortS (q : List Bs) : Bool := decide (q.length ≤ 40) && q.all fun w => decide (w.length ≤ 100)

theorem F_small (N : Nat) (t : List Ln) (hN : 220 < N) : F14 N t = some (smallS t) := by
  unfold F14 V14 smallS
  simp only [ev_br, ev_leaf, ev_f1, decide_eq_true_eq]
  by_cases hl : (220 : Int) < t.length
  · rw [if_pos hl]; simp; omega
  · rw [if_neg hl, decide_eq_true (by omega), Bool.true_and]
    have := loop_all (R := Bool) (step := fun x => L14_4 N x.1 x.2) t.length (fun i => decide ((t.getD i (0, [], 0)).2.1.length ≤ 100)) (fun i => (t, i)) false (fun i h0 hi => by
      unfold L14_4 U14_4
      by_cases h : i < t.length
      · have h1 : inR i t.length := ⟨h0, h⟩
        simp (disch := first | assumption | omega) only [ev_br, ev_leaf, ev_ck, decide_eq_true_eq, h, if_true, wrapI]
        show (if (100 : Int) < ((t.getD i.toNat (0, [], 0)).2.1.length : Int) then _ else _) = _
        by_cases he : (t.getD i.toNat (0, [], 0)).2.1.length ≤ 100
        · rw [if_neg (by omega), if_pos he]
        · rw [if_pos (by omega), if_neg he]
      · simp [h]) N (by omega)
    unfold W14_4
    rw [this, all_getD (0, [], 0) (fun l : Ln => decide (l.2.1.length ≤ 100))]
    cases t.all fun l => decide (l.2.1.length ≤ 100) <;> simp

/-! ### A line's place -/

def thereS (t : List Ln) (i : Int) : Bool := decide (0 ≤ i) && (decide (i < t.length) && rightS t)
theorem thereS_iff {t : List Ln} {i : Int} : thereS t i = true ↔ 0 ≤ i ∧ i < t.length ∧ rightS t = true := by simp [thereS]

theorem map_step (f : Ln → Ln) (pt : List Ln) {k : Nat} (hk : k < pt.length) : ((pt.take k).map f ++ pt.drop k).set k (f (((pt.take k).map f ++ pt.drop k).getD k (0, [], 0))) = (pt.take (k + 1)).map f ++ pt.drop (k + 1) := by
  have h1 : ((pt.take k).map f).length = k := by simp; omega
  have h2 : ((pt.take k).map f ++ pt.drop k).getD k (0, [], 0) = pt[k] := by
    rw [List.getD_eq_getElem?_getD, List.getElem?_append_right (by omega), h1, Nat.sub_self, List.drop_eq_getElem_cons hk]; rfl
  rw [h2, List.set_append_right _ _ (by omega), h1, Nat.sub_self, List.drop_eq_getElem_cons hk, List.set_cons_zero, List.take_succ_eq_append_getElem hk, List.map_append, List.append_assoc]
  rfl
theorem map_steps (f : Ln → Ln) (pt : List Ln) : ∀ k, k ≤ pt.length → (List.range k).foldl (fun (out : List Ln) k => out.set k (f (out.getD k (0, [], 0)))) pt = (pt.take k).map f ++ pt.drop k
  | 0, _ => by simp
  | k + 1, h => by
    rw [List.range_succ, List.foldl_append, map_steps f pt k (by omega)]
    exact map_step f pt (by omega)

end Go.Proofs.Ytmohgkoomnihfaa.Vc
