/-
  WHAT THE FUNCTIONS OF PACKAGE tree ANSWER. No condition.
-/
import Derived.Test.YtkbciolghkcjoaaTt
import Derived.Test.YtkbciolghkcjoaaFa
set_option linter.unusedVariables false
set_option linter.unusedSimpArgs false
namespace Go.Proofs.Ytkbciolghkcjoaa.Vc

theorem atI_nat (t : List Ln) (i : Int) : atI tLn t i = t.getD i.toNat (0, [], 0) := rfl
theorem drop_cons (t : List Ln) {i : Int} (h0 : 0 ≤ i) (h : i < t.length) : t.drop i.toNat = atI tLn t i :: t.drop (i + 1).toNat := by
  rw [List.drop_eq_getElem_cons (by omega : i.toNat < t.length), show (i + 1).toNat = i.toNat + 1 by omega]
  congr 1
  rw [atI_nat]; simp [show i.toNat < t.length by omega]

theorem F_sound (N : Nat) (l : Ln) : F39 N l = some (snd l) := by
  unfold F39 V39 snd
  simp only [ev_br, ev_leaf, decide_eq_true_eq]
  repeat' split
  all_goals simp [*]
  all_goals omega

theorem W_right (N : Nat) (t : List Ln) (hN : t.length < N) (h200 : t.length ≤ 200) : ∃ o, W21_6 N (([([] : Bs), [], [], [], [], [], [], [], [], [], [], [], [], [], [], []] : List Bs), (-1), t, (t.length : Int), 0) = some o ∧
    ((∃ x, o = .brk 0 x ∧ rf [] t = true) ∨ (o = .ret false ∧ rf [] t = false)) := by
  refine runLoop_post (R := Bool) (step := fun x => L21_6 N x.1 x.2.1 x.2.2.1 x.2.2.2.1 x.2.2.2.2)
    (fun x => x.2.2.1 = t ∧ x.2.2.2.1 = (t.length : Int) ∧ 0 ≤ x.2.2.2.2 ∧ x.2.2.2.2 ≤ t.length ∧ x.1.length = 16 ∧ ∃ p : List Bs, p.length ≤ 16 ∧ x.2.1 = (p.length : Int) - 1 ∧ x.1.take p.length = p ∧ rf p (t.drop x.2.2.2.2.toNat) = rf [] t)
    (fun x => (t.length - x.2.2.2.2).toNat) _
    (fun x hx => ?_) N _ ⟨rfl, rfl, by simp, by simp, rfl, [], by simp, rfl, rfl, rfl⟩ (by simpa using hN)
  obtain ⟨last, depth, t', n, i⟩ := x
  obtain ⟨h1, h2, h0, hle, hlen, p, hp16, hdp, htk, hrf⟩ := hx
  dsimp only at h1 h2 h0 hle hlen hp16 hdp htk hrf ⊢
  subst h1; subst h2
  by_cases hi : i < t'.length
  · rw [drop_cons t' h0 hi] at hrf
    have hin : inR i t'.length := ⟨h0, hi⟩
    obtain ⟨l, hl⟩ : ∃ l : Ln, atI tLn t' i = l := ⟨_, rfl⟩
    rw [hl] at hrf
    unfold L21_6 U21_6
    simp (disch := first | assumption | omega) only [ev_br, ev_leaf, ev_c1, ev_ck, decide_eq_true_eq, hi, if_true, F_sound, hl, obind_some, Bool.not_eq_true']
    by_cases hs : snd l = true
    · obtain ⟨s1, s2, s3, s4, s5⟩ := snd_iff.1 hs
      simp only [hs, Bool.true_eq_false, if_false]
      rw [wrapI (by omega) (by omega)]
      have hd : inR l.1 16 := ⟨s1, s2⟩
      have hd2 : inR l.1 last.length := by rw [hlen]; exact hd
      -- the round's end, if the line may stand
      have good : l.1 ≤ p.length → (l.1 = p.length ∨ bl (p.getD l.1.toNat []) l.2.1 = true) →
          (∀ y, y = (last.set l.1.toNat l.2.1, l.1, t', (t'.length : Int), IntKind.i64.wrap (i + 1)) → ((y.2.2.1 = t' ∧ y.2.2.2.1 = (t'.length : Int) ∧ 0 ≤ y.2.2.2.2 ∧ y.2.2.2.2 ≤ t'.length ∧ y.1.length = 16 ∧
            ∃ p : List Bs, p.length ≤ 16 ∧ y.2.1 = (p.length : Int) - 1 ∧ y.1.take p.length = p ∧ rf p (t'.drop y.2.2.2.2.toNat) = rf [] t') ∧ (t'.length - y.2.2.2.2).toNat < (t'.length - i).toNat)) := by
        intro hg1 hg2 y hy
        subst hy
        rw [wrapI (by omega) (by omega)]
        have hn := nx_len s1 hg1
        refine ⟨⟨rfl, rfl, by simp; omega, by simp; omega, by simp [hlen], nx p l, by rw [hn]; omega, by rw [hn]; simp; omega, ?_, ?_⟩, by simp; omega⟩
        · rw [hn]
          unfold nx
          simp only
          rw [List.take_succ_eq_append_getElem (by simp [hlen]; omega), List.take_set_of_le (by omega)]
          congr 1
          · rw [← htk, List.take_take, Nat.min_eq_left (by omega)]
          · simp
        · simp only
          rw [← hrf]
          rw [rf, hs, Bool.true_and, decide_eq_true hg1, Bool.true_and]
          rcases hg2 with hg2 | hg2
          · rw [decide_eq_true hg2]; simp
          · rw [hg2]; simp
      by_cases hg1 : (depth + 1 : Int) < l.1
      · refine ⟨_, by simp [hg1], .inr ⟨by simp, .inr ⟨rfl, ?_⟩⟩⟩
        rw [← hrf, rf, decide_eq_false (show ¬ l.1 ≤ (p.length : Int) by omega)]; simp
      · rw [if_neg hg1]
        by_cases hg2 : l.1 ≤ depth
        · rw [if_pos hg2]
          have hat : atI tS last l.1 = p.getD l.1.toNat [] := by
            show last.getD _ _ = _
            rw [← htk, List.getD_eq_getElem?_getD, List.getD_eq_getElem?_getD, List.getElem?_take_of_lt (by omega)]; rfl
          rw [hat, bl_not]
          by_cases hb : bl (p.getD l.1.toNat []) l.2.1 = true
          · rw [show Op.bytesLess (p.getD l.1.toNat []) l.2.1 = true from hb]
            simp (disch := first | assumption | omega) only [ev_br, ev_leaf, ev_ck, Bool.not_true, Bool.false_eq_true, if_false]
            have := good (by omega) (.inr hb) _ rfl
            exact ⟨_, rfl, .inl ⟨_, rfl, this.1, this.2⟩⟩
          · have hb' : Op.bytesLess (p.getD l.1.toNat []) l.2.1 = false := by simpa using hb
            rw [hb']
            refine ⟨.ret false, ?_, .inr ⟨by simp, .inr ⟨rfl, ?_⟩⟩⟩
            · simp (disch := first | assumption | omega) only [ev_br, ev_leaf, ev_ck, Bool.not_false, if_true]
            · rw [← hrf, rf]
              have : decide (l.1 = (p.length : Int)) = false := by simp; omega
              rw [this, show bl (p.getD l.1.toNat []) l.2.1 = false from hb']; simp
        · rw [if_neg hg2]
          simp (disch := first | assumption | omega) only [ev_leaf, ev_ck]
          have := good (by omega) (.inl (by omega)) _ rfl
          exact ⟨_, rfl, .inl ⟨_, rfl, this.1, this.2⟩⟩
    · refine ⟨_, by simp [hs], .inr ⟨by simp, .inr ⟨rfl, ?_⟩⟩⟩
      rw [← hrf]; simp [rf, hs]
  · refine ⟨.brk 0 (last, depth, t', (t'.length : Int), i), ?_, .inr ⟨by simp, .inl ⟨_, rfl, ?_⟩⟩⟩
    · simp [L21_6, U21_6, hi]
    · rw [← hrf, List.drop_of_length_le (by omega)]; rfl

theorem F_right (N : Nat) (t : List Ln) (hN : t.length < N) : F21 N t = some (rightS t) := by
  unfold F21 V21 rightS
  simp only [ev_br, ev_leaf, decide_eq_true_eq, ev_f1]
  by_cases h200 : (200 : Int) < t.length
  · rw [if_pos h200]; simp; omega
  · rw [if_neg h200]
    have hd : decide (t.length ≤ 200) = true := by simp; omega
    rw [hd, Bool.true_and]
    obtain ⟨o, ho, ⟨x, rfl, h⟩ | ⟨rfl, h⟩⟩ := W_right N t hN (by omega)
    · rw [ho, h]; rfl
    · rw [ho, h]; rfl

/-! ### Equal lists; few and short ones -/


theorem F_equal (N : Nat) (a b : List Bs) (hN : a.length < N) (hm : a.length ≤ maxLen) : F49 N a b = some (decide (a = b)) := by
  unfold F49 V49
  simp only [ev_br, ev_leaf, ev_f1, bne_iff_ne, ne_eq]
  by_cases hl : (a.length : Int) = b.length
  · rw [if_neg (by simpa using hl)]
    have := loop_all (R := Bool) (step := fun x => L49_4 N x.1 x.2.1 x.2.2) a.length (fun i => a.getD i [] == b.getD i []) (fun i => (a, b, i)) false (fun i h0 hi => by
      unfold L49_4 U49_4
      by_cases h : i < a.length
      · have h1 : inR i a.length := ⟨h0, h⟩
        have h2 : inR i b.length := ⟨h0, by omega⟩
        simp (disch := first | assumption | (unfold maxLen at hm; omega)) only [ev_br, ev_leaf, ev_ck, decide_eq_true_eq, h, if_true, wrapI]
        exact ite_not_some (a.getD i.toNat [] == b.getD i.toNat []) _ _
      · simp [h]) N hN
    unfold W49_4
    rw [this]
    by_cases he : a = b
    · rw [if_pos ((all_eq_iff [] (by omega)).2 he)]; simp [he]
    · rw [if_neg (fun h => he ((all_eq_iff [] (by omega)).1 h))]; simp [he]
  · rw [if_pos (by simpa using hl)]
    have : a ≠ b := fun h => hl (by rw [h])
    simp [this]

theorem ln_beq (a b : Ln) : ((a.1 == b.1) && ((a.2.1 == b.2.1) && ((a.2.2 == b.2.2) && true))) = (a == b) := by
  obtain ⟨a1, a2, a3⟩ := a
  obtain ⟨b1, b2, b3⟩ := b
  rw [Bool.eq_iff_iff]
  simp

theorem F_same (N : Nat) (a b : List Ln) (hN : a.length < N) (hm : a.length ≤ maxLen) : F15 N a b = some (decide (a = b)) := by
  unfold F15 V15
  simp only [ev_br, ev_leaf, ev_f1, bne_iff_ne, ne_eq]
  by_cases hl : (a.length : Int) = b.length
  · rw [if_neg (by simpa using hl)]
    have := loop_all (R := Bool) (step := fun x => L15_4 N x.1 x.2.1 x.2.2) a.length (fun i => a.getD i (0, [], 0) == b.getD i (0, [], 0)) (fun i => (a, b, i)) false (fun i h0 hi => by
      unfold L15_4 U15_4
      by_cases h : i < a.length
      · have h1 : inR i a.length := ⟨h0, h⟩
        have h2 : inR i b.length := ⟨h0, by omega⟩
        simp (disch := first | assumption | (unfold maxLen at hm; omega)) only [ev_br, ev_leaf, ev_ck, decide_eq_true_eq, h, if_true, wrapI]
        rw [ln_beq]
        exact ite_not_some (a.getD i.toNat (0, [], 0) == b.getD i.toNat (0, [], 0)) _ _
      · simp [h]) N hN
    unfold W15_4
    rw [this]
    by_cases he : a = b
    · rw [if_pos ((all_eq_iff (0, [], 0) (by omega)).2 he)]; simp [he]
    · rw [if_neg (fun h => he ((all_eq_iff (0, [], 0) (by omega)).1 h))]; simp [he]
  · rw [if_pos (by simpa using hl)]
    have : a ≠ b := fun h => hl (by rw [h])
    simp [this]

def smallS (t : List Ln) : Bool := decide (t.length ≤ 220) && t.all fun l => decide (l.2.1.length ≤ 100)
def shortS (q : List Bs) : Bool := decide (q.length ≤ 40) && q.all fun w => decide (w.length ≤ 100)

theorem F_small (N : Nat) (t : List Ln) (hN : 220 < N) : F10 N t = some (smallS t) := by
  unfold F10 V10 smallS
  simp only [ev_br, ev_leaf, ev_f1, decide_eq_true_eq]
  by_cases hl : (220 : Int) < t.length
  · rw [if_pos hl]; simp; omega
  · rw [if_neg hl, decide_eq_true (by omega), Bool.true_and]
    have := loop_all (R := Bool) (step := fun x => L10_4 N x.1 x.2) t.length (fun i => decide ((t.getD i (0, [], 0)).2.1.length ≤ 100)) (fun i => (t, i)) false (fun i h0 hi => by
      unfold L10_4 U10_4
      by_cases h : i < t.length
      · have h1 : inR i t.length := ⟨h0, h⟩
        simp (disch := first | assumption | omega) only [ev_br, ev_leaf, ev_ck, decide_eq_true_eq, h, if_true, wrapI]
        show (if (100 : Int) < ((t.getD i.toNat (0, [], 0)).2.1.length : Int) then _ else _) = _
        by_cases he : (t.getD i.toNat (0, [], 0)).2.1.length ≤ 100
        · rw [if_neg (by omega), if_pos he]
        · rw [if_pos (by omega), if_neg he]
      · simp [h]) N (by omega)
    unfold W10_4
    rw [this, all_getD (0, [], 0) (fun l : Ln => decide (l.2.1.length ≤ 100))]
    cases t.all fun l => decide (l.2.1.length ≤ 100) <;> simp

theorem F_short (N : Nat) (t : List Bs) (hN : 40 < N) : F11 N t = some (shortS t) := by
  unfold F11 V11 shortS
  simp only [ev_br, ev_leaf, ev_f1, decide_eq_true_eq]
  by_cases hl : (40 : Int) < t.length
  · rw [if_pos hl]; simp; omega
  · rw [if_neg hl, decide_eq_true (by omega), Bool.true_and]
    have := loop_all (R := Bool) (step := fun x => L11_4 N x.1 x.2) t.length (fun i => decide ((t.getD i []).length ≤ 100)) (fun i => (t, i)) false (fun i h0 hi => by
      unfold L11_4 U11_4
      by_cases h : i < t.length
      · have h1 : inR i t.length := ⟨h0, h⟩
        simp (disch := first | assumption | omega) only [ev_br, ev_leaf, ev_ck, decide_eq_true_eq, h, if_true, wrapI]
        show (if (100 : Int) < ((t.getD i.toNat []).length : Int) then _ else _) = _
        by_cases he : (t.getD i.toNat []).length ≤ 100
        · rw [if_neg (by omega), if_pos he]
        · rw [if_pos (by omega), if_neg he]
      · simp [h]) N (by omega)
    unfold W11_4
    rw [this, all_getD [] (fun l : Bs => decide (l.length ≤ 100))]
    cases t.all fun l => decide (l.length ≤ 100) <;> simp

/-! ### A line's place -/

def thereS (t : List Ln) (i : Int) : Bool := decide (0 ≤ i) && (decide (i < t.length) && rightS t)
theorem thereS_iff {t : List Ln} {i : Int} : thereS t i = true ↔ 0 ≤ i ∧ i < t.length ∧ rightS t = true := by simp [thereS]

theorem F_there (N : Nat) (t : List Ln) (i : Int) (hN : t.length < N) : F40 N t i = some (thereS t i) := by
  unfold F40 V40 thereS
  simp only [ev_br, ev_leaf, ev_c1, decide_eq_true_eq, F_right N t hN, obind_some]
  by_cases h0 : 0 ≤ i <;> by_cases h1 : i < t.length <;> simp [h0, h1]

theorem F_under (N : Nat) (t : List Ln) (i : Int) (hN : t.length < N) : F41 N t i = some (if thereS t i = true then underN t i.toNat else -1) := by
  unfold F41 V41
  simp only [ev_br, ev_leaf, ev_c1, ev_f1, F_there N t i hN, obind_some, Bool.not_eq_true']
  by_cases ht : thereS t i = true
  · simp only [ht, Bool.true_eq_false, if_false, if_true]
    obtain ⟨h0, h1, hr⟩ := thereS_iff.1 ht
    have h200 := (rightS_iff.1 hr).1
    obtain ⟨o, ho, hp⟩ := runLoop_post (R := Int) (step := fun x => L41_4 N x.1 x.2.1 x.2.2)
      (fun x => x.1 = t ∧ x.2.1 = i ∧ -1 ≤ x.2.2 ∧ x.2.2 ≤ i ∧ unS t (t.getD i.toNat (0, [], 0)).1 (x.2.2 + 1).toNat = underN t i.toNat) (fun x => (x.2.2 + 1).toNat) (fun o => o = .brk 0 (t, i, underN t i.toNat))
      (by
        rintro ⟨t', i', k⟩ ⟨e1, e2, hk0, hki, hu⟩
        dsimp only at e1 e2 hk0 hki hu ⊢
        subst e1; subst e2
        unfold L41_4 U41_4
        by_cases hk : 0 ≤ k
        · have h2 : inR k t'.length := ⟨hk, by omega⟩
          have h3 : inR i' t'.length := ⟨h0, h1⟩
          rw [show (k + 1).toNat = k.toNat + 1 by omega] at hu
          unfold unS at hu
          simp (disch := first | assumption | omega) only [ev_br, ev_leaf, ev_ck, decide_eq_true_eq, hk, if_true, wrapI]
          show ∃ o, (if (t'.getD i'.toNat (0, [], 0)).1 ≤ (t'.getD k.toNat (0, [], 0)).1 then _ else _) = _ ∧ _
          split at hu
          · rename_i hlt
            rw [if_neg (by omega)]
            refine ⟨_, rfl, .inr ⟨by simp, ?_⟩⟩
            rw [← hu, Int.toNat_of_nonneg hk]
          · rename_i hge
            rw [if_pos (by omega)]
            refine ⟨_, rfl, .inl ⟨_, rfl, ⟨rfl, rfl, by simp; omega, by simp; omega, ?_⟩, by simp; omega⟩⟩
            simp only
            rw [show (k - 1 + 1).toNat = k.toNat by omega]; exact hu
        · refine ⟨.brk 0 (t', i', k), by simp [hk], .inr ⟨by simp, ?_⟩⟩
          have : k = -1 := by omega
          subst this
          rw [show ((-1 : Int) + 1).toNat = 0 from rfl] at hu
          rw [← hu]; rfl) N (t, i, i) ⟨rfl, rfl, by simp; omega, Int.le_refl _, by
            simp only; rw [show (i + 1).toNat = i.toNat + 1 by omega]; unfold underN; rw [unS, if_neg (by omega)]⟩ (by simp; omega)
    unfold W41_4
    rw [ho, hp]; rfl
  · simp [ht]

theorem F_end (N : Nat) (t : List Ln) (i : Int) (hN : t.length < N) : F47 N t i = some (if thereS t i = true then (endN t i.toNat : Int) else 0) := by
  unfold F47 V47
  simp only [ev_br, ev_leaf, ev_c1, ev_f1, F_there N t i hN, obind_some, Bool.not_eq_true']
  by_cases ht : thereS t i = true
  · simp only [ht, Bool.true_eq_false, if_false, if_true]
    obtain ⟨h0, h1, hr⟩ := thereS_iff.1 ht
    have h200 := (rightS_iff.1 hr).1
    rw [wrapI (by omega) (by omega)]
    obtain ⟨o, ho, hp⟩ := runLoop_post (R := Int) (step := fun x => L47_4 N x.1 x.2.1 x.2.2)
      (fun x => x.1 = t ∧ x.2.1 = i ∧ 0 ≤ x.2.2 ∧ x.2.2 ≤ t.length ∧ x.2.2.toNat + cntD (t.getD i.toNat (0, [], 0)).1 (t.drop x.2.2.toNat) = endN t i.toNat) (fun x => (t.length - x.2.2).toNat) (fun o => o = .brk 0 (t, i, (endN t i.toNat : Int)))
      (by
        rintro ⟨t', i', k⟩ ⟨e1, e2, hk0, hki, hu⟩
        dsimp only at e1 e2 hk0 hki hu ⊢
        subst e1; subst e2
        unfold L47_4 U47_4
        by_cases hk : k < t'.length
        · have h2 : inR k t'.length := ⟨hk0, by omega⟩
          have h3 : inR i' t'.length := ⟨h0, h1⟩
          rw [drop_cons t' hk0 hk, cntD] at hu
          simp (disch := first | assumption | omega) only [ev_br, ev_leaf, ev_ck, decide_eq_true_eq, hk, if_true, wrapI]
          show ∃ o, (if (t'.getD i'.toNat (0, [], 0)).1 < (atI tLn t' k).1 then _ else _) = _ ∧ _
          split at hu
          · rename_i hlt
            rw [if_pos hlt]
            exact ⟨_, rfl, .inl ⟨_, rfl, ⟨rfl, rfl, by simp; omega, by simp; omega, by simp only; omega⟩, by simp; omega⟩⟩
          · rename_i hge
            rw [if_neg hge]
            refine ⟨_, rfl, .inr ⟨by simp, ?_⟩⟩
            rw [← hu, Nat.add_zero, Int.toNat_of_nonneg hk0]
        · refine ⟨.brk 0 (t', i', k), by simp [hk], .inr ⟨by simp, ?_⟩⟩
          rw [List.drop_of_length_le (by omega)] at hu
          rw [← hu, cntD, Nat.add_zero, Int.toNat_of_nonneg hk0]) N (t, i, i + 1) ⟨rfl, rfl, by simp; omega, by simp; omega, by
            simp only; rw [show (i + 1).toNat = i.toNat + 1 by omega]; rfl⟩ (by simp; omega)
    unfold W47_4
    rw [ho, hp]; rfl
  · simp [ht]

theorem F_clone (N : Nat) (t : List Ln) (h : t.length ≤ 1073741824) : F26o N t = some t := by
  unfold F26o V26o
  refine ev_nq _ _ _ ?_ (fun he => by simp [he])
  rw [ev_ck (show room _ by show _ ≤ _; simpa using h)]; simp

theorem map_step (f : Ln → Ln) (pt : List Ln) {k : Nat} (hk : k < pt.length) : ((pt.take k).map f ++ pt.drop k).set k (f (((pt.take k).map f ++ pt.drop k).getD k (0, [], 0))) = (pt.take (k + 1)).map f ++ pt.drop (k + 1) := by
  have h1 : ((pt.take k).map f).length = k := by simp; omega
  have h2 : ((pt.take k).map f ++ pt.drop k).getD k (0, [], 0) = pt[k] := by
    rw [List.getD_eq_getElem?_getD, List.getElem?_append_right (by omega), h1, Nat.sub_self, List.drop_eq_getElem_cons hk]; rfl
  rw [h2, List.set_append_right _ _ (by omega), h1, Nat.sub_self, List.drop_eq_getElem_cons hk, List.set_cons_zero, List.take_succ_eq_append_getElem hk, List.map_append, List.append_assoc]
  rfl
theorem map_steps (f : Ln → Ln) (pt : List Ln) : ∀ k, k ≤ pt.length → (List.range k).foldl (fun (out : List Ln) k => out.set k (f (out.getD k (0, [], 0)))) pt = (pt.take k).map f ++ pt.drop k
  | 0, _ => by simp
  | k + 1, h => by
    rw [List.range_succ, List.foldl_append, map_steps f pt k (by omega)]
    exact map_step f pt (by omega)

end Go.Proofs.Ytkbciolghkcjoaa.Vc
