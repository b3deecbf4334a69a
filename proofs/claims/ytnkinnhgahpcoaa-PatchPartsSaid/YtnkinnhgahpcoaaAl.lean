/-
  PATCH's STATEMENTS, AS DATA. No condition.
-/
import Derived.Test.YtnkinnhgahpcoaaAk
set_option linter.unusedVariables false
set_option linter.unusedSimpArgs false
set_option maxRecDepth 100000
namespace Go.Proofs.Ytnkinnhgahpcoaa.Vc

def eA : En := ([97], 0, [], [])
def eB : En := ([98], 0, [], [])
def eC : En := ([99], 0, [], [])
theorem aw_of : ofE [eB, eA] [eC, eB] = ([eA], [eC]) := by
  refine Prod.ext ?_ ?_
  · refine asc_ext ahd_ord (lessE_asc _ _) (List.pairwise_singleton _ _) fun x => ?_
    show x ∈ lessE _ _ ↔ _
    rw [mem_lessE]
    constructor
    · rintro ⟨h, g⟩
      simp only [List.mem_cons, List.not_mem_nil, or_false] at h
      rcases h with rfl | rfl
      · exact absurd (by simp) g
      · simp
    · intro h
      rw [List.mem_singleton] at h
      subst h
      exact ⟨by simp, by decide⟩
  · refine asc_ext ahd_ord (lessE_asc _ _) (List.pairwise_singleton _ _) fun x => ?_
    show x ∈ lessE _ _ ↔ _
    rw [mem_lessE]
    constructor
    · rintro ⟨h, g⟩
      simp only [List.mem_cons, List.not_mem_nil, or_false] at h
      rcases h with rfl | rfl
      · simp
      · exact absurd (by simp) g
    · intro h
      rw [List.mem_singleton] at h
      subst h
      exact ⟨by simp, by decide⟩
theorem aw_apply : applyE [eA, eB] ([eA], [eC]) = [eB, eC] := by
  refine asc_ext ahd_ord (applyE_asc _ _) (List.Pairwise.cons (fun y hy => ?_) (List.pairwise_singleton _ _)) fun x => ?_
  · rw [List.mem_singleton] at hy
    subst hy
    decide
  · rw [mem_applyE]
    simp only [List.mem_cons, List.not_mem_nil, or_false]
    constructor
    · rintro (⟨h1 | h1, h2⟩ | h)
      · exact absurd h1 h2
      · exact .inl h1
      · exact .inr h
    · rintro (h | h)
      · subst h
        exact .inl ⟨.inr rfl, by decide⟩
      · exact .inr h
theorem aw_hosts : hostsE ([eA] ++ [eC]) = [[97], [99]] := by
  refine asc_ext bl_ord (hostsE_asc _) (List.Pairwise.cons (fun y hy => ?_) (List.pairwise_singleton _ _)) fun x => ?_
  · rw [List.mem_singleton] at hy
    subst hy
    decide
  · rw [mem_hostsE]
    simp only [List.cons_append, List.nil_append, List.mem_cons, List.not_mem_nil, or_false]
    constructor
    · rintro ⟨y, rfl | rfl, rfl⟩
      · exact .inl rfl
      · exact .inr rfl
    · rintro (rfl | rfl)
      · exact ⟨eA, .inl rfl, rfl⟩
      · exact ⟨eC, .inr rfl, rfl⟩
theorem P_awake (N : Nat) (hN : 100000 < N) : F11 N = some true := by
  have h1 : F13 N [eB, eA] [eC, eB] = some ([eA], [eC]) := by rw [F_of N _ _ (by simp) (by simp) hN, aw_of]
  have h2 : F18o N [eA, eB] ([eA], [eC]) = some [eB, eC] := by rw [F_apply N _ _ (by simp) (by simp) (by simp) hN, aw_apply]
  have h3 : F21o N ([eA], [eC]) = some [[97], [99]] := by rw [F_hosts N _ (by simp) (by simp) hN]; exact congrArg some aw_hosts
  have h4 : F20 N [[97], [99]] [[97], [99]] = some true := by rw [R_equal N _ _ (by simp) hN]; simp
  have h5 : F14 N ([eA], [eC]) [97] = some ([eA], []) := F_only N _ _ (by simp) (by simp)
  unfold F11 V11
  have h1' : F13 N [([98], 0, [], []), ([97], 0, [], [])] [([99], 0, [], []), ([98], 0, [], [])] = some ([eA], [eC]) := h1
  have h2' : F18o N [([97], 0, [], []), ([98], 0, [], [])] ([eA], [eC]) = some [eB, eC] := h2
  rw [ev_c1, h1', obind_some, ev_c1, h2', obind_some, ev_br, if_pos (by rfl), ev_ck (by decide), ev_br, if_pos (by decide), ev_br, if_pos (by rfl), ev_ck (by decide), ev_br, if_pos (by decide), ev_br, if_pos (by rfl), ev_ck (by decide), ev_ck (by decide), ev_br, if_pos (by decide), ev_ck (by decide), ev_ck (by decide)]
  refine ev_nb _ _ ?_ ?_
  · rw [ev_br, if_pos (by decide)]
    refine ev_nb _ _ ?_ ?_ <;> (rw [ev_c1, h3, obind_some, ev_c1, h4, obind_some, ev_br, if_pos rfl, ev_c1, h5, obind_some, ev_leaf]; rfl)
  · rw [ev_br, if_pos (by decide), ev_c1, h3, obind_some, ev_c1, h4, obind_some, ev_br, if_pos rfl, ev_c1, h5, obind_some, ev_leaf]; rfl

theorem same_self (N : Nat) (l : List En) (hl : l.length ≤ 10000) (hN : 100000 < N) : F15 N l l = some true := by
  rw [R_same N l l hl hN]; simp

/-! ### The statements -/

theorem L_exact (N : Nat) (a b : List En) (p : List En × List En) (h : Bs) (ma : a.length ≤ 9223372036854775807) (mb : b.length ≤ 9223372036854775807) (m1 : p.1.length ≤ 9223372036854775807) (m2 : p.2.length ≤ 9223372036854775807)
    (hN : 100000 + a.length + b.length + p.1.length + p.2.length < N) : F3 N a b p h = some true := by
  have hA := P_awake N (by omega)
  obtain ⟨b1, f1, k1⟩ := F_few N a (by omega) ma
  obtain ⟨b2, f2, k2⟩ := F_few N b (by omega) mb
  obtain ⟨b3, f3, k3⟩ := F_few N p.1 (by omega) m1
  obtain ⟨b4, f4, k4⟩ := F_few N p.2 (by omega) m2
  unfold F3 V3
  cases b1 with
  | false => rw [ev_c1, f1, obind_some, ev_br, if_pos (by rfl), ev_c1, hA]; rfl
  | true =>
  cases b2 with
  | false => rw [ev_c1, f1, obind_some, ev_br, if_neg (by simp), ev_c1, f2, obind_some, ev_br, if_pos (by rfl), ev_c1, hA]; rfl
  | true =>
  cases b3 with
  | false => rw [ev_c1, f1, obind_some, ev_br, if_neg (by simp), ev_c1, f2, obind_some, ev_br, if_neg (by simp), ev_c1, f3, obind_some, ev_br, if_pos (by rfl), ev_c1, hA]; rfl
  | true =>
  cases b4 with
  | false => rw [ev_c1, f1, obind_some, ev_br, if_neg (by simp), ev_c1, f2, obind_some, ev_br, if_neg (by simp), ev_c1, f3, obind_some, ev_br, if_neg (by simp), ev_c1, f4, obind_some, ev_br, if_pos (by rfl), ev_c1, hA]; rfl
  | true =>
  rw [ev_c1, f1, obind_some, ev_br, if_neg (by simp), ev_c1, f2, obind_some, ev_br, if_neg (by simp), ev_c1, f3, obind_some, ev_br, if_neg (by simp), ev_c1, f4, obind_some, ev_br, if_neg (by simp), ev_br]
  have l1 := k1 rfl
  have l2 := k2 rfl
  have l3 := k3 rfl
  have l4 := k4 rfl
  by_cases hh : (100 : Int) < (h.length : Int)
  · rw [if_pos (decide_eq_true hh), ev_c1, hA]; rfl
  · rw [if_neg (by simpa using hh)]
    have n1 := lessE_len a b
    have n2 := lessE_len b a
    have n3 : (onlyE p.1 h).length ≤ p.1.length := List.length_filter_le _ _
    have n4 : (onlyE p.2 h).length ≤ p.2.length := List.length_filter_le _ _
    have n5 := applyE_len a p
    have n6 := hostsE_len (p.1 ++ p.2)
    rw [List.length_append] at n6
    have g1 := R_refs N a (by omega) (by omega)
    have g2 := R_refs N b (by omega) (by omega)
    have g3 := R_refs N p.1 (by omega) (by omega)
    have g4 := R_refs N p.2 (by omega) (by omega)
    have g5 : F13 N a b = some (lessE a b, lessE b a) := F_of N a b (by omega) (by omega) (by omega)
    have g6 := F_only N p h (by omega) (by omega)
    have g7 := R_refs N (lessE a b) (by omega) (by omega)
    have g8 := R_refs N (lessE b a) (by omega) (by omega)
    have g9 := R_less N a b (by omega) (by omega) (by omega)
    have g10 := R_less N b a (by omega) (by omega) (by omega)
    have g11 := same_self N (lessE a b) (by omega) (by omega)
    have g12 := same_self N (lessE b a) (by omega) (by omega)
    have g13 := R_refs N (onlyE p.1 h) (by omega) (by omega)
    have g14 := R_refs N (onlyE p.2 h) (by omega) (by omega)
    have g15 := R_only N p.1 h (by omega) (by omega)
    have g16 := R_only N p.2 h (by omega) (by omega)
    have g17 := same_self N (onlyE p.1 h) (by omega) (by omega)
    have g18 := same_self N (onlyE p.2 h) (by omega) (by omega)
    have g19 := F_apply N a p (by omega) (by omega) (by omega) (by omega)
    have g20 := R_refs N (applyE a p) (by omega) (by omega)
    have g21 : F19 N a p.1 p.2 = some (applyE a p) := R_apply N a p.1 p.2 (by omega) (by omega) (by omega) (by omega)
    have g22 := same_self N (applyE a p) (by omega) (by omega)
    have g23 := F_hosts N p (by omega) (by omega) (by omega)
    have g24 : F22o N (([] ++ p.1) ++ p.2) = some (hostsE (p.1 ++ p.2)) := R_hosts N (p.1 ++ p.2) (by rw [List.length_append]; omega) (by omega)
    have g25 : F20 N (hostsE (p.1 ++ p.2)) (hostsE (p.1 ++ p.2)) = some true := by rw [R_equal N _ _ (by omega) (by omega)]; simp
    have c1 : room (([] : List En).length + p.1.length) := by show _ ≤ _; simp; omega
    have c2 : room ((([] : List En) ++ p.1).length + p.2.length) := by show _ ≤ _; simp; omega
    rw [ev_c1, g1, obind_some, ev_c1, g2, obind_some]
    refine ev_nb _ _ ?_ ?_ <;>
    (rw [ev_c1, g3, obind_some, ev_c1, g4, obind_some, ev_c1, g5, obind_some, ev_c1, g6, obind_some, ev_c1]
     dsimp only
     rw [g7, obind_some, ev_c1, g9, obind_some, ev_c1, g11, obind_some, ev_br, if_neg (by simp), ev_c1]
     rw [g8, obind_some, ev_c1, g10, obind_some, ev_c1, g12, obind_some, ev_br, if_neg (by simp), ev_c1]
     rw [g13, obind_some, ev_c1, g15, obind_some, ev_c1, g17, obind_some, ev_br, if_neg (by simp), ev_c1]
     rw [g14, obind_some, ev_c1, g16, obind_some, ev_c1, g18, obind_some, ev_br, if_neg (by simp), ev_ck c1, ev_ck c2]
     rw [ev_c1, g19, obind_some, ev_c1, g20, obind_some, ev_c1, g21, obind_some, ev_c1, g22, obind_some, ev_br, if_pos rfl, ev_c1, g23, obind_some, ev_c1, g24, obind_some, ev_c1, g25, obind_some, ev_br, if_pos rfl, ev_c1, hA, obind_some, ev_leaf])

theorem L_makes (N : Nat) (a b : List En) (ma : a.length ≤ 9223372036854775807) (mb : b.length ≤ 9223372036854775807) (hN : 100000 + a.length + b.length < N) : F4 N a b = some true := by
  have hA := P_awake N (by omega)
  obtain ⟨b1, f1, k1⟩ := F_few N a (by omega) ma
  obtain ⟨b2, f2, k2⟩ := F_few N b (by omega) mb
  unfold F4 V4
  cases b1 with
  | false => rw [ev_c1, f1, obind_some, ev_br, if_pos (by rfl), ev_c1, hA]; rfl
  | true =>
  cases b2 with
  | false => rw [ev_c1, f1, obind_some, ev_br, if_neg (by simp), ev_c1, f2, obind_some, ev_br, if_pos (by rfl), ev_c1, hA]; rfl
  | true =>
  have l1 := k1 rfl
  have l2 := k2 rfl
  have n1 := lessE_len a b
  have n2 := lessE_len b a
  have n3 : (setE a).length ≤ a.length := setG_len a
  have n4 : (setE b).length ≤ b.length := setG_len b
  have g1 := F_of N a b (by omega) (by omega) (by omega)
  have g2 := F_of N b a (by omega) (by omega) (by omega)
  have g3 : F18o N a (ofE a b) = some (setE b) := by rw [F_apply N a (ofE a b) (by omega) (by show (lessE a b).length ≤ _; omega) (by show (lessE b a).length ≤ _; omega) (by omega), make_set]
  have g4 : F18o N b (ofE b a) = some (setE a) := by rw [F_apply N b (ofE b a) (by omega) (by show (lessE b a).length ≤ _; omega) (by show (lessE a b).length ≤ _; omega) (by omega), make_set]
  have g5 := R_refs N (setE b) (by omega) (by omega)
  have g6 := R_refs N (setE a) (by omega) (by omega)
  have g7 := R_refs N b (by omega) (by omega)
  have g8 := R_refs N a (by omega) (by omega)
  have g9 := R_set N b (by omega) (by omega)
  have g10 := R_set N a (by omega) (by omega)
  have g11 := same_self N (setE b) (by omega) (by omega)
  have g12 := same_self N (setE a) (by omega) (by omega)
  rw [ev_c1, f1, obind_some, ev_br, if_neg (by simp), ev_c1, f2, obind_some, ev_br, if_neg (by simp), ev_c1, g1, obind_some, ev_c1, g2, obind_some]
  refine ev_nb _ _ ?_ ?_ <;>
  rw [ev_c1, g3, obind_some, ev_c1, g4, obind_some, ev_c1, g5, obind_some, ev_c1, g7, obind_some, ev_c1, g9, obind_some, ev_c1, g11, obind_some, ev_br, if_pos rfl, ev_c1, g6, obind_some, ev_c1, g8, obind_some, ev_c1, g10, obind_some, ev_c1, g12, obind_some, ev_br, if_pos rfl, ev_c1, hA, obind_some, ev_leaf]

theorem L_least (N : Nat) (a b : List En) (p : List En × List En) (ma : a.length ≤ 9223372036854775807) (mb : b.length ≤ 9223372036854775807) (m1 : p.1.length ≤ 9223372036854775807) (m2 : p.2.length ≤ 9223372036854775807)
    (hN : 100000 + a.length + b.length + p.1.length + p.2.length < N) : F5 N a b p = some true := by
  have hA := P_awake N (by omega)
  obtain ⟨b1, f1, k1⟩ := F_few N a (by omega) ma
  obtain ⟨b2, f2, k2⟩ := F_few N b (by omega) mb
  obtain ⟨b3, f3, k3⟩ := F_few N p.1 (by omega) m1
  obtain ⟨b4, f4, k4⟩ := F_few N p.2 (by omega) m2
  unfold F5 V5
  cases b1 with
  | false => rw [ev_c1, f1, obind_some, ev_br, if_pos (by rfl), ev_c1, hA]; rfl
  | true =>
  cases b2 with
  | false => rw [ev_c1, f1, obind_some, ev_br, if_neg (by simp), ev_c1, f2, obind_some, ev_br, if_pos (by rfl), ev_c1, hA]; rfl
  | true =>
  cases b3 with
  | false => rw [ev_c1, f1, obind_some, ev_br, if_neg (by simp), ev_c1, f2, obind_some, ev_br, if_neg (by simp), ev_c1, f3, obind_some, ev_br, if_pos (by rfl), ev_c1, hA]; rfl
  | true =>
  cases b4 with
  | false => rw [ev_c1, f1, obind_some, ev_br, if_neg (by simp), ev_c1, f2, obind_some, ev_br, if_neg (by simp), ev_c1, f3, obind_some, ev_br, if_neg (by simp), ev_c1, f4, obind_some, ev_br, if_pos (by rfl), ev_c1, hA]; rfl
  | true =>
  rw [ev_c1, f1, obind_some, ev_br, if_neg (by simp), ev_c1, f2, obind_some, ev_br, if_neg (by simp), ev_c1, f3, obind_some, ev_br, if_neg (by simp), ev_c1, f4, obind_some, ev_br, if_neg (by simp)]
  have l1 := k1 rfl
  have l2 := k2 rfl
  have l3 := k3 rfl
  have l4 := k4 rfl
  have n1 := lessE_len a b
  have n2 := lessE_len b a
  have n4 : (setE b).length ≤ b.length := setG_len b
  have n5 := applyE_len a p
  have g1 := F_apply N a p (by omega) (by omega) (by omega) (by omega)
  have g2 := R_refs N (applyE a p) (by omega) (by omega)
  have g3 := R_refs N b (by omega) (by omega)
  have g4 := R_set N b (by omega) (by omega)
  have g5 := R_same N (applyE a p) (setE b) (by omega) (by omega)
  have g6 : F13 N a b = some (lessE a b, lessE b a) := F_of N a b (by omega) (by omega) (by omega)
  have g7 := R_refs N p.1 (by omega) (by omega)
  have g8 := R_refs N p.2 (by omega) (by omega)
  rw [ev_c1, g1, obind_some, ev_c1, g2, obind_some, ev_c1, g3, obind_some, ev_c1, g4, obind_some, ev_c1, g5, obind_some, ev_br]
  by_cases heq : applyE a p = setE b
  rotate_left
  · rw [if_pos (by simp [heq]), ev_c1, hA, obind_some, ev_leaf]
  · rw [if_neg (by simp [heq]), ev_c1, g6, obind_some, ev_f1]
    have hmem : ∀ x, ((x ∈ a ∧ x ∉ p.1) ∨ x ∈ p.2) ↔ x ∈ b := fun x => by rw [← mem_applyE, heq, mem_setG ahd_ord]
    have d1 : ∀ x ∈ lessE a b, x ∈ p.1 := fun x hx => by
      rw [mem_lessE] at hx
      exact Classical.byContradiction fun hn => hx.2 ((hmem x).1 (.inl ⟨hx.1, hn⟩))
    have d2 : ∀ x ∈ lessE b a, x ∈ p.2 := fun x hx => by
      rw [mem_lessE] at hx
      rcases (hmem x).2 hx.1 with h | h
      · exact absurd h.1 hx.2
      · exact h
    have hW : W5_8 N (p, (lessE a b, lessE b a), lessE a b, ((lessE a b).length : Int), 0) = some (.brk 0 (p, (lessE a b, lessE b a), lessE a b, ((lessE a b).length : Int), ((lessE a b).length : Int))) := by
      refine loop_up (R := Bool) (step := fun x => L5_8 N x.1 x.2.1 x.2.2.1 x.2.2.2.1 x.2.2.2.2) (lessE a b).length (fun i => (p, (lessE a b, lessE b a), lessE a b, ((lessE a b).length : Int), (i : Int))) (fun i hi => ?_) ?_ N (by omega)
      · unfold L5_8 U5_8
        dsimp only
        have hw : IntKind.i64.wrap ((i : Int) + 1) = (i : Int) + 1 := wrapI (by omega) (by omega)
        have hin : F24 N p.1 (atI tEn (lessE a b) (i : Int)) = some true := by
          rw [atE _ i hi, R_in N p.1 _ (by omega) (by omega), decide_eq_true (d1 _ (List.getElem_mem hi))]
        rw [ev_br, if_pos (decide_eq_true (by omega)), ev_ck (show inR (i : Int) (lessE a b).length from ⟨by omega, by omega⟩)]
        refine ev_nb _ _ ?_ ?_ <;> (rw [ev_c1, g7, obind_some, ev_c1, hin, obind_some, ev_br, if_neg (by simp), ev_leaf, hw]; rfl)
      · unfold L5_8 U5_8
        dsimp only
        rw [ev_br, if_neg (by simp), ev_leaf]
    have hV : W5_14 N (p, lessE b a, ((lessE b a).length : Int), 0) = some (.brk 0 (p, lessE b a, ((lessE b a).length : Int), ((lessE b a).length : Int))) := by
      refine loop_up (R := Bool) (step := fun x => L5_14 N x.1 x.2.1 x.2.2.1 x.2.2.2) (lessE b a).length (fun i => (p, lessE b a, ((lessE b a).length : Int), (i : Int))) (fun i hi => ?_) ?_ N (by omega)
      · unfold L5_14 U5_14
        dsimp only
        have hw : IntKind.i64.wrap ((i : Int) + 1) = (i : Int) + 1 := wrapI (by omega) (by omega)
        have hin : F24 N p.2 (atI tEn (lessE b a) (i : Int)) = some true := by
          rw [atE _ i hi, R_in N p.2 _ (by omega) (by omega), decide_eq_true (d2 _ (List.getElem_mem hi))]
        rw [ev_br, if_pos (decide_eq_true (by omega)), ev_ck (show inR (i : Int) (lessE b a).length from ⟨by omega, by omega⟩)]
        refine ev_nb _ _ ?_ ?_ <;> (rw [ev_c1, g8, obind_some, ev_c1, hin, obind_some, ev_br, if_neg (by simp), ev_leaf, hw]; rfl)
      · unfold L5_14 U5_14
        dsimp only
        rw [ev_br, if_neg (by simp), ev_leaf]
    rw [hW, lp1_brk, ev_f1]
    dsimp only
    rw [hV, lp1_brk, ev_c1, hA, obind_some, ev_leaf]

theorem L_twice (N : Nat) (l : List En) (p : List En × List En) (ma : l.length ≤ 9223372036854775807) (m1 : p.1.length ≤ 9223372036854775807) (m2 : p.2.length ≤ 9223372036854775807)
    (hN : 100000 + l.length + p.1.length + p.2.length < N) : F7 N l p = some true := by
  have hA := P_awake N (by omega)
  obtain ⟨b1, f1, k1⟩ := F_few N l (by omega) ma
  obtain ⟨b3, f3, k3⟩ := F_few N p.1 (by omega) m1
  obtain ⟨b4, f4, k4⟩ := F_few N p.2 (by omega) m2
  unfold F7 V7
  cases b1 with
  | false => rw [ev_c1, f1, obind_some, ev_br, if_pos (by rfl), ev_c1, hA]; rfl
  | true =>
  cases b3 with
  | false => rw [ev_c1, f1, obind_some, ev_br, if_neg (by simp), ev_c1, f3, obind_some, ev_br, if_pos (by rfl), ev_c1, hA]; rfl
  | true =>
  cases b4 with
  | false => rw [ev_c1, f1, obind_some, ev_br, if_neg (by simp), ev_c1, f3, obind_some, ev_br, if_neg (by simp), ev_c1, f4, obind_some, ev_br, if_pos (by rfl), ev_c1, hA]; rfl
  | true =>
  have l1 := k1 rfl
  have l3 := k3 rfl
  have l4 := k4 rfl
  have n5 := applyE_len l p
  have g1 := F_apply N l p (by omega) (by omega) (by omega) (by omega)
  have g2 : F18o N (applyE l p) p = some (applyE l p) := by rw [F_apply N (applyE l p) p (by omega) (by omega) (by omega) (by omega), twice_set]
  have g3 : F13 N l l = some ([], []) := by
    rw [F_of N l l (by omega) (by omega) (by omega)]
    unfold ofE
    rw [self_less]
  have g4 := R_refs N (applyE l p) (by omega) (by omega)
  have g5 := same_self N (applyE l p) (by omega) (by omega)
  rw [ev_c1, f1, obind_some, ev_br, if_neg (by simp), ev_c1, f3, obind_some, ev_br, if_neg (by simp), ev_c1, f4, obind_some, ev_br, if_neg (by simp), ev_c1, g1, obind_some, ev_c1, g2, obind_some, ev_c1, g3, obind_some]
  simp only [ev_c1, g4, obind_some, g5, ev_br, hA, ev_leaf, if_true]
  rfl

theorem L_chain (N : Nat) (a b c : List En) (ma : a.length ≤ 9223372036854775807) (mb : b.length ≤ 9223372036854775807) (mc : c.length ≤ 9223372036854775807)
    (hN : 100000 + a.length + b.length + c.length < N) : F8 N a b c = some true := by
  have hA := P_awake N (by omega)
  obtain ⟨b1, f1, k1⟩ := F_few N a (by omega) ma
  obtain ⟨b3, f3, k3⟩ := F_few N b (by omega) mb
  obtain ⟨b4, f4, k4⟩ := F_few N c (by omega) mc
  unfold F8 V8
  cases b1 with
  | false => rw [ev_c1, f1, obind_some, ev_br, if_pos (by rfl), ev_c1, hA]; rfl
  | true =>
  cases b3 with
  | false => rw [ev_c1, f1, obind_some, ev_br, if_neg (by simp), ev_c1, f3, obind_some, ev_br, if_pos (by rfl), ev_c1, hA]; rfl
  | true =>
  cases b4 with
  | false => rw [ev_c1, f1, obind_some, ev_br, if_neg (by simp), ev_c1, f3, obind_some, ev_br, if_neg (by simp), ev_c1, f4, obind_some, ev_br, if_pos (by rfl), ev_c1, hA]; rfl
  | true =>
  have l1 := k1 rfl
  have l3 := k3 rfl
  have l4 := k4 rfl
  have n1 := lessE_len a b
  have n2 := lessE_len b a
  have n3 := lessE_len b c
  have n4 := lessE_len c b
  have n5 := lessE_len a c
  have n6 := lessE_len c a
  have n7 : (setE b).length ≤ b.length := setG_len b
  have n8 : (setE c).length ≤ c.length := setG_len c
  have g1 := F_of N a b (by omega) (by omega) (by omega)
  have g2 := F_of N b c (by omega) (by omega) (by omega)
  have g3 := F_of N a c (by omega) (by omega) (by omega)
  have g4 : F18o N a (ofE a b) = some (setE b) := by rw [F_apply N a (ofE a b) (by omega) (by show (lessE a b).length ≤ _; omega) (by show (lessE b a).length ≤ _; omega) (by omega), make_set]
  have g5 : F18o N a (ofE a c) = some (setE c) := by rw [F_apply N a (ofE a c) (by omega) (by show (lessE a c).length ≤ _; omega) (by show (lessE c a).length ≤ _; omega) (by omega), make_set]
  have hch : applyE (setE b) (ofE b c) = setE c := by
    have := chain_set a b c
    rw [make_set, make_set] at this
    exact this
  have g6 : F18o N (setE b) (ofE b c) = some (setE c) := by rw [F_apply N (setE b) (ofE b c) (by omega) (by show (lessE b c).length ≤ _; omega) (by show (lessE c b).length ≤ _; omega) (by omega), hch]
  have g7 := R_refs N (setE c) (by omega) (by omega)
  have g8 := same_self N (setE c) (by omega) (by omega)
  rw [ev_c1, f1, obind_some, ev_br, if_neg (by simp), ev_c1, f3, obind_some, ev_br, if_neg (by simp), ev_c1, f4, obind_some, ev_br, if_neg (by simp), ev_c1, g1, obind_some, ev_c1, g4, obind_some, ev_c1, g2, obind_some, ev_c1, g6, obind_some, ev_c1, g3, obind_some, ev_c1, g5, obind_some]
  simp only [ev_c1, g7, obind_some, g8, ev_br, hA, ev_leaf, if_true]

end Go.Proofs.Ytnkinnhgahpcoaa.Vc
