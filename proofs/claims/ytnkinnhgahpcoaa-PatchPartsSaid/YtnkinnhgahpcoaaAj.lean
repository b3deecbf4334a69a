/-
  PACKAGE patch, AND THE DOCUMENT'S, AS DATA. No condition.
-/
import Derived.Test.YtnkinnhgahpcoaaFa
import Derived.Test.YtnkinnhgahpcoaaAi
set_option linter.unusedVariables false
set_option linter.unusedSimpArgs false
set_option maxRecDepth 100000
namespace Go.Proofs.Ytnkinnhgahpcoaa.Vc

theorem loop_up {X R : Type} {step : X → Option (Lp X R)} (n : Nat) (mk : Nat → X) (h1 : ∀ i, i < n → step (mk i) = some (.next (mk (i + 1)))) (h2 : step (mk n) = some (.brk 0 (mk n))) (N : Nat) (hN : n < N) :
    runLoop step N (mk 0) = some (.brk 0 (mk n)) := by
  have key : ∀ (k : Nat) (N : Nat) (i : Nat), i + k = n → k < N → runLoop step N (mk i) = some (.brk 0 (mk n)) := by
    intro k
    induction k with
    | zero =>
      intro N i hi hN
      obtain ⟨N, rfl⟩ : ∃ M, N = M + 1 := ⟨N - 1, by omega⟩
      have : i = n := by omega
      subst this
      unfold runLoop
      rw [h2]
    | succ k ih =>
      intro N i hi hN
      obtain ⟨N, rfl⟩ : ∃ M, N = M + 1 := ⟨N - 1, by omega⟩
      unfold runLoop
      rw [h1 i (by omega)]
      exact ih N (i + 1) (by omega) (by omega)
  exact key n N 0 (by omega) hN
theorem loop_two {X R : Type} {step : X → Option (Lp X R)} {x0 x1 x2 : X} (h0 : step x0 = some (.next x1)) (h1 : step x1 = some (.next x2)) (h2 : step x2 = some (.brk 0 x2)) (N : Nat) (hN : 2 < N) : runLoop step N x0 = some (.brk 0 x2) := by
  obtain ⟨M, rfl⟩ : ∃ M, N = M + 1 + 1 + 1 := ⟨N - 3, by omega⟩
  unfold runLoop
  rw [h0]
  dsimp only
  unfold runLoop
  rw [h1]
  dsimp only
  unfold runLoop
  rw [h2]
theorem atE (l : List En) (i : Nat) (h : i < l.length) : atI tEn l (i : Int) = l[i] := by
  show l.getD _ _ = _
  rw [Int.toNat_natCast]; simp [h]
theorem atT (l : List Bs) (i : Nat) (h : i < l.length) : atI tS l (i : Int) = l[i] := by
  show l.getD _ _ = _
  rw [Int.toNat_natCast]; simp [h]
theorem eq4 (x y : En) : (x.1 == y.1 && (x.2.1 == y.2.1 && (x.2.2.1 == y.2.2.1 && (x.2.2.2 == y.2.2.2 && true)))) = decide (x = y) := by
  rw [Bool.eq_iff_iff, decide_eq_true_iff]
  exact eqE_iff x y

/-! ### Few -/

theorem F_few (N : Nat) (l : List En) (hN : l.length < N) (hm : l.length ≤ 9223372036854775807) : ∃ b, F10 N l = some b ∧ (b = true → l.length ≤ 60) := by
  unfold F10 V10
  rw [ev_f1]
  obtain ⟨o, ho, hp⟩ := runLoop_post (R := Bool) (step := fun x => L10_2 N x.1 x.2.1 x.2.2.1 x.2.2.2) (fun x => x.1 = l ∧ x.2.1 = l ∧ x.2.2.1 = (l.length : Int) ∧ 0 ≤ x.2.2.2 ∧ x.2.2.2 ≤ (l.length : Int)) (fun x => ((l.length : Int) - x.2.2.2).toNat)
    (fun o => (∃ i, o = .brk 0 (l, l, (l.length : Int), i)) ∨ o = .ret false) (by
      rintro ⟨a, b, n, i⟩ ⟨e1, e2, e3, h0, h1⟩
      dsimp only at e1 e2 e3 h0 h1 ⊢
      subst e1; subst e2; subst e3
      unfold L10_2 U10_2
      by_cases h : i < (b.length : Int)
      · have c1 : inR i b.length := ⟨h0, h⟩
        have hw : IntKind.i64.wrap (i + 1) = i + 1 := wrapI (by omega) (by omega)
        simp only [ev_br, ev_ck0, ev_leaf, if_pos c1, hw, decide_eq_true_eq]
        rw [if_pos h]
        have nx : ∃ o, (some (Lp.next (b, b, (b.length : Int), i + 1)) : Option (Lp (List En × List En × Int × Int) Bool)) = some o ∧ ((∃ y, o = .next y ∧ (y.1 = b ∧ y.2.1 = b ∧ y.2.2.1 = (b.length : Int) ∧ 0 ≤ y.2.2.2 ∧ y.2.2.2 ≤ (b.length : Int)) ∧ ((b.length : Int) - y.2.2.2).toNat < ((b.length : Int) - i).toNat) ∨ ((∀ y, o ≠ .next y) ∧ ((∃ i, o = .brk 0 (b, b, (b.length : Int), i)) ∨ o = .ret false))) :=
          ⟨_, rfl, .inl ⟨_, rfl, ⟨rfl, rfl, rfl, by simp only; omega, by simp only; omega⟩, by simp only; omega⟩⟩
        have rt : ∃ o, (some (Lp.ret false) : Option (Lp (List En × List En × Int × Int) Bool)) = some o ∧ ((∃ y, o = .next y ∧ (y.1 = b ∧ y.2.1 = b ∧ y.2.2.1 = (b.length : Int) ∧ 0 ≤ y.2.2.2 ∧ y.2.2.2 ≤ (b.length : Int)) ∧ ((b.length : Int) - y.2.2.2).toNat < ((b.length : Int) - i).toNat) ∨ ((∀ y, o ≠ .next y) ∧ ((∃ i, o = .brk 0 (b, b, (b.length : Int), i)) ∨ o = .ret false))) :=
          ⟨_, rfl, .inr ⟨fun y h => (by cases h), .inr rfl⟩⟩
        split
        · split
          · exact rt
          · split
            · exact rt
            · split
              · exact rt
              · exact nx
        · exact nx
      · refine ⟨_, by rw [ev_br, if_neg (by simpa using h), ev_leaf], .inr ⟨fun y h => (by cases h), .inl ⟨i, rfl⟩⟩⟩) N (l, l, (l.length : Int), 0) ⟨rfl, rfl, rfl, Int.le_refl _, by simp only; omega⟩ (by simp only; omega)
  unfold W10_2
  rw [ho]
  rcases hp with ⟨i, rfl⟩ | rfl
  · rw [lp1_brk]
    exact ⟨_, rfl, fun h => by have h2 : (l.length : Int) ≤ 60 := of_decide_eq_true h; omega⟩
  · exact ⟨false, rfl, fun h => by cases h⟩

/-! ### The program's -/

theorem F_clone (N : Nat) (l : List En) (hl : l.length ≤ 1000000) : F36o N l = some l := by
  unfold F36o V36o
  refine ev_nq _ _ _ ?_ fun h => by rw [ev_leaf, h]
  rw [ev_ck (show room (([] : List En).length + l.length) by show _ ≤ _; simp; omega), ev_leaf]
  rfl
theorem F_set (N : Nat) (l : List En) (hl : l.length ≤ 1000000) : F28o N l = some (setE l) := by
  unfold F28o V28o
  have h2 : F39rC35 N l = some (srtA l) := if_pos (by omega)
  rw [ev_c1, F_clone N l hl, obind_some, ev_cr, h2, obind_some, ev_cr]
  rfl
/-- The search in a list that is in order. -/
theorem F_search (N : Nat) (l : List En) (x : En) (ha : Asc ahd l) (hl : l.length ≤ 1000000) (hN : l.length < N) : ∃ i, F34C35 N l x = some (i, decide (x ∈ l)) := by
  unfold F34C35 V34C35
  rw [ev_f1]
  obtain ⟨o, ho, hp⟩ := runLoop_post (R := Int × Bool) (step := fun y => L34C35_3 N y.1 y.2.1 y.2.2.1 y.2.2.2.1 y.2.2.2.2.1 y.2.2.2.2.2)
    (fun y => y.1 = l ∧ y.2.1 = true ∧ y.2.2.1 = x ∧ y.2.2.2.1 = (l.length : Int) ∧ 0 ≤ y.2.2.2.2.1 ∧ y.2.2.2.2.1 ≤ y.2.2.2.2.2 ∧ y.2.2.2.2.2 ≤ (l.length : Int) ∧ (∀ t (h : t < l.length), (t : Int) < y.2.2.2.2.1 → ahd l[t] x = true) ∧ (∀ t (h : t < l.length), y.2.2.2.2.2 ≤ (t : Int) → ahd l[t] x = false))
    (fun y => (y.2.2.2.2.2 - y.2.2.2.2.1).toNat)
    (fun o => ∃ i : Int, o = .brk 0 (l, true, x, (l.length : Int), i, i) ∧ 0 ≤ i ∧ i ≤ (l.length : Int) ∧ (∀ t (h : t < l.length), (t : Int) < i → ahd l[t] x = true) ∧ (∀ t (h : t < l.length), i ≤ (t : Int) → ahd l[t] x = false)) (by
      rintro ⟨a, b, c, n, i, j⟩ ⟨e1, e2, e3, e4, h0, h1, h2, h3, h4⟩
      dsimp only at e1 e2 e3 e4 h0 h1 h2 h3 h4 ⊢
      subst e1; subst e2; subst e3; subst e4
      unfold L34C35_3 U34C35_3
      by_cases h : i < j
      · have hm : (IntKind.i64.wrap ((IntKind.u64.wrap (IntKind.i64.wrap (i + j))).fdiv (2 ^ (min (1 : Int).toNat (IntKind.u64.bits))))) = (i + j) / 2 := by
          rw [wrapI (n := i + j) (by omega) (by omega)]
          have e1 : IntKind.u64.wrap (i + j) = i + j := by simp [IntKind.wrap, IntKind.bits, IntKind.signed]; omega
          have e2 : (2 : Int) ^ (min (1 : Int).toNat (IntKind.u64.bits)) = 2 := by decide
          rw [e1, e2, Int.fdiv_eq_ediv_of_nonneg _ (by omega)]
          exact wrapI (by omega) (by omega)
        obtain ⟨k, hk⟩ : ∃ k : Nat, (i + j) / 2 = (k : Int) := ⟨((i + j) / 2).toNat, by omega⟩
        have hk1 : i ≤ (k : Int) := by omega
        have hk2 : (k : Int) < j := by omega
        have hkl : k < a.length := by omega
        have c1 : inR (k : Int) a.length := ⟨by omega, by omega⟩
        have hw : IntKind.i64.wrap ((k : Int) + 1) = (k : Int) + 1 := wrapI (by omega) (by omega)
        have hF : F35 N a[k] c = some (cmpE a[k] c) := rfl
        simp only [hm, hk, ev_br, ev_ck0, ev_leaf, ev_c1, atE a k hkl, hF, obind_some, hw, decide_eq_true_eq]
        rw [if_pos h, if_pos (show (0 : Int) ≤ 1 by omega), if_pos c1]
        have hlt : (cmpE a[k] c < 0) ↔ ahd a[k] c = true := by
          rw [← lt_ahd]; unfold Go.Proofs.ltOf; rw [decide_eq_true_iff]
        have hpw := List.pairwise_iff_getElem.1 ha
        by_cases hc : ahd a[k] c = true
        · rw [if_pos (hlt.2 hc)]
          refine ⟨_, rfl, .inl ⟨_, rfl, ⟨rfl, rfl, rfl, rfl, by simp only; omega, by simp only; omega, h2, fun t ht hti => ?_, h4⟩, by simp only; omega⟩⟩
          simp only at hti
          rcases Nat.lt_or_ge t k with hh | hh
          · exact ahd_trans (hpw t k ht hkl hh) hc
          · have : t = k := by omega
            subst this; exact hc
        · rw [if_neg (fun h => hc (hlt.1 h))]
          refine ⟨_, rfl, .inl ⟨_, rfl, ⟨rfl, rfl, rfl, rfl, h0, by simp only; omega, by simp only; omega, h3, fun t ht hti => ?_⟩, by simp only; omega⟩⟩
          simp only at hti
          have hc' : ahd a[k] c = false := by simpa using hc
          rcases Nat.lt_or_ge k t with hh | hh
          · cases hq : ahd a[t] c with
            | false => rfl
            | true => have := ahd_trans (hpw k t hkl ht hh) hq; rw [hc'] at this; cases this
          · have : t = k := by omega
            subst this; exact hc'
      · have : i = j := by omega
        subst this
        refine ⟨_, by rw [ev_br, if_neg (by simp), ev_leaf], .inr ⟨fun y h => (by cases h), i, rfl, h0, h2, h3, h4⟩⟩) N (l, true, x, (l.length : Int), 0, (l.length : Int))
    ⟨rfl, rfl, rfl, rfl, Int.le_refl _, by simp only; omega, Int.le_refl _, fun t ht h => by simp only at h; omega, fun t ht h => by simp only at h; omega⟩ (by simp only; omega)
  unfold W34C35_3
  rw [ho]
  obtain ⟨i, rfl, h0, h1, h2, h3⟩ := hp
  rw [lp1_brk]
  refine ⟨i, ?_⟩
  rw [ev_br]
  by_cases hi : i < (l.length : Int)
  · obtain ⟨k, rfl⟩ := Int.eq_ofNat_of_zero_le h0
    have hk : k < l.length := by omega
    have hF : F35 N l[k] x = some (cmpE l[k] x) := rfl
    rw [if_pos (decide_eq_true hi), ev_ck (show inR (k : Int) l.length from ⟨by omega, by omega⟩), ev_c1]
    dsimp only
    rw [atE l k hk, hF, obind_some, ev_leaf]
    have h4 : ahd l[k] x = false := h3 k hk (by omega)
    congr 2
    rw [Bool.eq_iff_iff, beq_iff_eq, decide_eq_true_iff]
    have hz : cmpE l[k] x = 0 ↔ l[k] = x := by
      have a1 := lt_ahd l[k] x
      unfold Go.Proofs.ltOf at a1
      constructor
      · intro h
        unfold cmpE or4 at h
        split at h
        · rename_i g; exact absurd h g
        · split at h
          · rename_i g; exact absurd h g
          · split at h
            · rename_i g; exact absurd h g
            · rename_i g1 g2 g3
              have g1 : Lib.compareBytes (l[k]).1 x.1 = 0 := by simpa using g1
              have g2 : Lib.compareInt (l[k]).2.1 x.2.1 = 0 := by simpa using g2
              have g3 : Lib.compareBytes (l[k]).2.2.1 x.2.2.1 = 0 := by simpa using g3
              exact Prod.ext ((cb_zero _ _).1 g1) (Prod.ext ((ci_zero _ _).1 g2) (Prod.ext ((cb_zero _ _).1 g3) ((cb_zero _ _).1 h)))
      · intro h
        rw [h]
        unfold cmpE or4
        simp [cb_zero, ci_zero]
    rw [hz]
    constructor
    · intro h; rw [← h]; exact List.getElem_mem hk
    · intro h
      obtain ⟨t, ht, rfl⟩ := List.getElem_of_mem h
      rcases Nat.lt_trichotomy t k with h5 | h5 | h5
      · have := h2 t ht (by omega); rw [ahd_irr] at this; cases this
      · subst h5; rfl
      · have := List.pairwise_iff_getElem.1 ha k t hk ht h5
        rw [h4] at this; cases this
  · rw [if_neg (by simpa using hi), ev_leaf]
    congr 2
    refine (decide_eq_false fun h => ?_).symm
    obtain ⟨t, ht, rfl⟩ := List.getElem_of_mem h
    have := h2 t ht (by omega)
    rw [ahd_irr] at this; cases this
theorem F_less (N : Nat) (a b : List En) (ha : a.length ≤ 1000) (hb : b.length ≤ 1000) (hN : 100000 < N) : F25o N a b = some (lessE a b) := by
  unfold F25o V25o
  have hbl : (setE b).length ≤ b.length := setG_len b
  have h1 : ∀ x, F33 N x (setE b) = some (decide (x ∈ b)) := fun x => by
    unfold F33 V33
    obtain ⟨i, hi⟩ := F_search N (setE b) x (setG_asc ahd_ord b) (by omega) (by omega)
    rw [ev_c2, hi, obind_some, ev_leaf]
    simp only [mem_setG ahd_ord]
  have h2 : F32tK33 N (setE a) (setE b) = some (lessE a b) := by
    unfold F32tK33 lessE
    rw [if_pos (fun x => by rw [h1]; rfl)]
    simp only [h1, Option.getD_some]
  rw [ev_c1, F_set N b (by omega), obind_some, ev_c1, F_set N a (by omega), obind_some, ev_cr, h2, obind_some, ev_leaf]
theorem F_of (N : Nat) (a b : List En) (ha : a.length ≤ 1000) (hb : b.length ≤ 1000) (hN : 100000 < N) : F13 N a b = some (ofE a b) := by
  unfold F13 V13
  rw [ev_c1, F_less N a b ha hb hN, obind_some, ev_c1, F_less N b a hb ha hN, obind_some, ev_leaf]
  rfl
theorem F_ofh (N : Nat) (l : List En) (h : Bs) (hl : l.length ≤ 1000) : F26o N l h = some (onlyE l h) := by
  unfold F26o V26o
  rw [ev_c1, F_clone N l (by omega), obind_some, ev_cr]
  rfl
theorem F_only (N : Nat) (p : List En × List En) (h : Bs) (h1 : p.1.length ≤ 1000) (h2 : p.2.length ≤ 1000) : F14 N p h = some (onlyE p.1 h, onlyE p.2 h) := by
  unfold F14 V14
  refine ev_nb _ _ ?_ ?_ <;> rw [ev_c1, F_ofh N p.1 h h1, obind_some, ev_c1, F_ofh N p.2 h h2, obind_some, ev_leaf]
theorem F_concat (N : Nat) (a b : List En) (ha : a.length ≤ 10000) (hb : b.length ≤ 10000) (hN : 100 < N) : F29o N [a, b] = some (a ++ b) := by
  unfold F29o V29o
  have at0 : atI (.list tEn) [a, b] 0 = a := rfl
  have at1 : atI (.list tEn) [a, b] 1 = b := rfl
  have w0 : IntKind.i64.wrap (0 + (a.length : Int)) = (a.length : Int) := by rw [wrapI (by omega) (by omega)]; omega
  have w1 : IntKind.i64.wrap ((a.length : Int) + (b.length : Int)) = (a.length : Int) + (b.length : Int) := wrapI (by omega) (by omega)
  have hA : W29o_3 N ([a, b], 0, [a, b], 2, 0) = some (.brk 0 ([a, b], (a.length : Int) + (b.length : Int), [a, b], 2, 2)) := by
    refine loop_two (R := List En) (step := fun x => L29o_3 N x.1 x.2.1 x.2.2.1 x.2.2.2.1 x.2.2.2.2) (x1 := ([a, b], (a.length : Int), [a, b], 2, 1)) ?_ ?_ ?_ N (by omega)
    · unfold L29o_3 U29o_3
      dsimp only
      rw [ev_br, if_pos (decide_eq_true (by omega)), ev_ck (show inR 0 [a, b].length from ⟨by omega, by simp⟩), at0, w0, ev_br, if_neg (by simp), ev_leaf]
      rfl
    · unfold L29o_3 U29o_3
      dsimp only
      rw [ev_br, if_pos (decide_eq_true (by omega)), ev_ck (show inR 1 [a, b].length from ⟨by omega, by simp⟩), at1, w1, ev_br, if_neg (by simp; omega), ev_leaf]
      rfl
    · unfold L29o_3 U29o_3
      dsimp only
      rw [ev_br, if_neg (by simp), ev_leaf]
  have hB : W29o_11 N ([], [a, b], 2, 0) = some (.brk 0 (a ++ b, [a, b], 2, 2)) := by
    refine loop_two (R := List En) (step := fun x => L29o_11 N x.1 x.2.1 x.2.2.1 x.2.2.2) (x1 := (a, [a, b], 2, 1)) ?_ ?_ ?_ N (by omega)
    · unfold L29o_11 U29o_11
      dsimp only
      rw [ev_br, if_pos (decide_eq_true (by omega)), ev_ck (show inR 0 [a, b].length from ⟨by omega, by simp⟩), at0, ev_ck (show room (([] : List En).length + a.length) by show _ ≤ _; simp; omega), ev_leaf]
      rfl
    · unfold L29o_11 U29o_11
      dsimp only
      rw [ev_br, if_pos (decide_eq_true (by omega)), ev_ck (show inR 1 [a, b].length from ⟨by omega, by simp⟩), at1, ev_ck (show room (a.length + b.length) by show _ ≤ _; omega), ev_leaf]
      rfl
    · unfold L29o_11 U29o_11
      dsimp only
      rw [ev_br, if_neg (by simp), ev_leaf]
  have hG : F41on N ((a.length : Int) + (b.length : Int)) = some [] := if_pos ⟨by omega, by omega⟩
  have hA' : W29o_3 N ([a, b], 0, [a, b], (([a, b] : List (List En)).length : Int), 0) = _ := hA
  rw [ev_f1, hA', lp1_brk, ev_c1, hG, obind_some, ev_f1]
  have hB' : W29o_11 N ([], [a, b], (([a, b] : List (List En)).length : Int), 0) = _ := hB
  rw [hB', lp1_brk, ev_leaf]
theorem F_apply (N : Nat) (l : List En) (p : List En × List En) (hl : l.length ≤ 1000) (h1 : p.1.length ≤ 1000) (h2 : p.2.length ≤ 1000) (hN : 100000 < N) : F18o N l p = some (applyE l p) := by
  unfold F18o V18o
  have hll := lessE_len l p.1
  have hF : F28o N (lessE l p.1 ++ p.2) = some (applyE l p) := F_set N _ (by rw [List.length_append]; omega)
  refine ev_nb _ _ ?_ ?_ <;> rw [ev_c1, F_less N l p.1 hl h1 hN, obind_some, ev_c1, F_concat N _ _ (by omega) (by omega) (by omega), obind_some, ev_c1, hF, obind_some, ev_leaf]
theorem F_hosts (N : Nat) (p : List En × List En) (h1 : p.1.length ≤ 1000) (h2 : p.2.length ≤ 1000) (hN : 100000 < N) : F21o N p = some (hostsE (p.1 ++ p.2)) := by
  unfold F21o V21o
  obtain ⟨l, hl⟩ : ∃ l, p.1 ++ p.2 = l := ⟨_, rfl⟩
  have hll : l.length ≤ 2000 := by rw [← hl, List.length_append]; omega
  rw [ev_c1, F_concat N p.1 p.2 (by omega) (by omega) (by omega), obind_some, hl, ev_f1]
  have hW : W21o_3 N ([], l, (l.length : Int), 0) = some (.brk 0 (l.map (fun x => x.1), l, (l.length : Int), (l.length : Int))) := by
    have := loop_up (R := List Bs) (step := fun x => L21o_3 N x.1 x.2.1 x.2.2.1 x.2.2.2) l.length (fun i => ((l.take i).map (fun x => x.1), l, (l.length : Int), (i : Int)))
      (fun i hi => by
        unfold L21o_3 U21o_3
        dsimp only
        have hw : IntKind.i64.wrap ((i : Int) + 1) = (i : Int) + 1 := wrapI (by omega) (by omega)
        have c1 : inR (i : Int) l.length := ⟨by omega, by omega⟩
        have c2 : room (((l.take i).map (fun x => x.1)).length + ([(l[i]).1] : List Bs).length) := by show _ ≤ _; simp; omega
        rw [ev_br, if_pos (decide_eq_true (by omega)), ev_ck c1, ev_ck c1, atE l i hi, ev_ck c2, ev_leaf, hw, List.take_succ_eq_append_getElem hi, List.map_append]
        rfl)
      (by
        unfold L21o_3 U21o_3
        dsimp only
        rw [ev_br, if_neg (by simp), ev_leaf]) N (by omega)
    rw [List.take_of_length_le (Nat.le_refl _)] at this
    exact this
  have hS : F30r N (l.map fun x => x.1) = some (srtT (l.map fun x => x.1)) := if_pos (by rw [List.length_map]; omega)
  rw [hW, lp1_brk, ev_cr, hS, obind_some, ev_cr]
  rfl

end Go.Proofs.Ytnkinnhgahpcoaa.Vc
