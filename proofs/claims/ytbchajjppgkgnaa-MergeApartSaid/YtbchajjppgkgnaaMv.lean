/-
  THE LAW ON SIDES THAT HAVE CHANGED UNLIKE PARTS, told of data. No condition.
-/
import Derived.Test.YtbchajjppgkgnaaMs
import Derived.Test.YtbchajjppgkgnaaDp
set_option linter.unusedVariables false
set_option linter.unusedSimpArgs false
namespace Go.Proofs.Ytbchajjppgkgnaa.Vc

theorem head_getD {p q : List Bs} (hp : p ≠ []) (hq : q ≠ []) : (atI tS p 0 == atI tS q 0) = decide (p.head? = q.head?) := by
  cases p with
  | nil => exact absurd rfl hp
  | cons x p =>
    cases q with
    | nil => exact absurd rfl hq
    | cons y q =>
      show (x == y) = _
      simp [Bool.beq_eq_decide_eq]

theorem A_inner (N : Nat) (b m t : List Ln) (la lb : List Ch) (x : Ch) (n i : Int) (hx : x.2.1 ≠ []) (hy : ∀ y ∈ lb, y.2.1 ≠ []) (hl : lb.length ≤ 1000) (hN : 5000 < N) :
    (W8_11 N (b, m, t, la, lb, x, la, n, i, lb, (lb.length : Int), 0) = some (.ret true)) ∨
    (W8_11 N (b, m, t, la, lb, x, la, n, i, lb, (lb.length : Int), 0) = some (.brk 0 (b, m, t, la, lb, x, la, n, i, lb, (lb.length : Int), (lb.length : Int))) ∧ ∀ y ∈ lb, x.2.1.head? ≠ y.2.1.head?) := by
  obtain ⟨o, ho, hp⟩ := runLoop_post (R := Bool) (step := fun x => L8_11 N x.1 x.2.1 x.2.2.1 x.2.2.2.1 x.2.2.2.2.1 x.2.2.2.2.2.1 x.2.2.2.2.2.2.1 x.2.2.2.2.2.2.2.1 x.2.2.2.2.2.2.2.2.1 x.2.2.2.2.2.2.2.2.2.1 x.2.2.2.2.2.2.2.2.2.2.1 x.2.2.2.2.2.2.2.2.2.2.2)
    (fun z => ∃ k : Nat, k ≤ lb.length ∧ z = (b, m, t, la, lb, x, la, n, i, lb, (lb.length : Int), (k : Int)) ∧ ∀ y ∈ lb.take k, x.2.1.head? ≠ y.2.1.head?) (fun z => (lb.length - z.2.2.2.2.2.2.2.2.2.2.2).toNat)
    (fun o => o = .ret true ∨ (o = .brk 0 (b, m, t, la, lb, x, la, n, i, lb, (lb.length : Int), (lb.length : Int)) ∧ ∀ y ∈ lb, x.2.1.head? ≠ y.2.1.head?))
    (by
      rintro z ⟨k, hk, rfl, hall⟩
      dsimp only
      unfold L8_11 U8_11
      by_cases h : k < lb.length
      · have hk' : (k : Int) < lb.length := by omega
        have c1 : inR (k : Int) lb.length := ⟨by omega, hk'⟩
        have hat : atI (.pair tI (.pair (.list tS) tI)) lb (k : Int) = lb[k] := by show lb.getD k _ = _; simp [h]
        have hy1 := hy lb[k] (List.getElem_mem h)
        obtain ⟨y, hyk⟩ : ∃ y, lb[k] = y := ⟨_, rfl⟩
        rw [hyk] at hat hy1
        have l1 : inR 0 x.2.1.length := ⟨by omega, by have := List.length_pos_iff.2 hx; omega⟩
        have l2 : inR 0 y.2.1.length := ⟨by omega, by have := List.length_pos_iff.2 hy1; omega⟩
        by_cases hh : x.2.1.head? = y.2.1.head?
        · simp (disch := first | assumption | omega) only [ev_br, ev_leaf, ev_c1, ev_c2, ev_c3, ev_c4, ev_cr, ev_cr2, ev_f0, ev_f1, ev_f2, obind_some, decide_eq_true_eq, Bool.not_eq_true', Bool.true_eq_false, Bool.false_eq_true, if_true, if_false, reduceCtorEq, hk', ev_ck c1, hat, len_ne hx, len_ne hy1, ev_ck l1, ev_ck l2, head_getD hx hy1, decide_eq_true hh, M_awake N hN]
          exact ⟨_, rfl, .inr ⟨by simp, .inl rfl⟩⟩
        · simp (disch := first | assumption | omega) only [ev_br, ev_leaf, ev_c1, ev_c2, ev_c3, ev_c4, ev_cr, ev_cr2, ev_f0, ev_f1, ev_f2, obind_some, decide_eq_true_eq, Bool.not_eq_true', Bool.true_eq_false, Bool.false_eq_true, if_true, if_false, reduceCtorEq, hk', ev_ck c1, hat, len_ne hx, len_ne hy1, ev_ck l1, ev_ck l2, head_getD hx hy1, decide_eq_false hh, wrapI]
          refine ⟨_, rfl, .inl ⟨_, rfl, ⟨k + 1, by omega, rfl, fun y' hy' => ?_⟩, by simp only; omega⟩⟩
          rw [List.take_succ_eq_append_getElem h, List.mem_append, List.mem_singleton] at hy'
          rcases hy' with hy' | rfl
          · exact hall y' hy'
          · rw [hyk]; exact hh
      · have hk' : ¬ (k : Int) < lb.length := by omega
        have : k = lb.length := by omega
        subst this
        rw [List.take_length] at hall
        exact ⟨_, by simp only [ev_br, decide_eq_false hk', Bool.false_eq_true, if_false, ev_leaf], .inr ⟨by simp, .inr ⟨rfl, hall⟩⟩⟩) N (b, m, t, la, lb, x, la, n, i, lb, (lb.length : Int), 0) ⟨0, Nat.zero_le _, rfl, fun y hy => by simp at hy⟩ (by simp; omega)
  have hW : W8_11 N (b, m, t, la, lb, x, la, n, i, lb, (lb.length : Int), 0) = some o := ho
  rcases hp with rfl | ⟨rfl, hp⟩
  · exact .inl hW
  · exact .inr ⟨hW, hp⟩

theorem A_outer (N : Nat) (b m t : List Ln) (la lb : List Ch) (hx : ∀ x ∈ la, x.2.1 ≠ []) (hy : ∀ y ∈ lb, y.2.1 ≠ []) (hla : la.length ≤ 1000) (hl : lb.length ≤ 1000) (hN : 5000 < N) :
    (W8_8 N (b, m, t, la, lb, la, (la.length : Int), 0) = some (.ret true)) ∨
    (W8_8 N (b, m, t, la, lb, la, (la.length : Int), 0) = some (.brk 0 (b, m, t, la, lb, la, (la.length : Int), (la.length : Int))) ∧ ∀ x ∈ la, ∀ y ∈ lb, x.2.1.head? ≠ y.2.1.head?) := by
  obtain ⟨o, ho, hp⟩ := runLoop_post (R := Bool) (step := fun x => L8_8 N x.1 x.2.1 x.2.2.1 x.2.2.2.1 x.2.2.2.2.1 x.2.2.2.2.2.1 x.2.2.2.2.2.2.1 x.2.2.2.2.2.2.2)
    (fun z => ∃ k : Nat, k ≤ la.length ∧ z = (b, m, t, la, lb, la, (la.length : Int), (k : Int)) ∧ ∀ x ∈ la.take k, ∀ y ∈ lb, x.2.1.head? ≠ y.2.1.head?) (fun z => (la.length - z.2.2.2.2.2.2.2).toNat)
    (fun o => o = .ret true ∨ (o = .brk 0 (b, m, t, la, lb, la, (la.length : Int), (la.length : Int)) ∧ ∀ x ∈ la, ∀ y ∈ lb, x.2.1.head? ≠ y.2.1.head?))
    (by
      rintro z ⟨k, hk, rfl, hall⟩
      dsimp only
      unfold L8_8 U8_8
      by_cases h : k < la.length
      · have hk' : (k : Int) < la.length := by omega
        have c1 : inR (k : Int) la.length := ⟨by omega, hk'⟩
        have hat : atI (.pair tI (.pair (.list tS) tI)) la (k : Int) = la[k] := by show la.getD k _ = _; simp [h]
        have hx1 := hx la[k] (List.getElem_mem h)
        have hwi : IntKind.i64.wrap ((k : Int) + 1) = (k : Int) + 1 := wrapI (by omega) (by omega)
        rcases A_inner N b m t la lb la[k] (la.length : Int) (k : Int) hx1 hy hl hN with hI | ⟨hI, hh⟩
        · simp only [ev_br, decide_eq_true hk', if_true, ev_ck c1, hat, Vt.g1, ev_loop1, hI, lp1_ret]
          exact ⟨_, rfl, .inr ⟨by simp, .inl rfl⟩⟩
        · simp only [ev_br, decide_eq_true hk', if_true, ev_ck c1, hat, Vt.g1, ev_loop1, hI, lp1_brk, ev_leaf, hwi]
          refine ⟨_, rfl, .inl ⟨_, rfl, ⟨k + 1, by omega, rfl, fun x' hx' => ?_⟩, by simp only; omega⟩⟩
          rw [List.take_succ_eq_append_getElem h, List.mem_append, List.mem_singleton] at hx'
          rcases hx' with hx' | rfl
          · exact hall x' hx'
          · exact hh
      · have hk' : ¬ (k : Int) < la.length := by omega
        have : k = la.length := by omega
        subst this
        rw [List.take_length] at hall
        exact ⟨_, by simp only [ev_br, decide_eq_false hk', Bool.false_eq_true, if_false, ev_leaf], .inr ⟨by simp, .inr ⟨rfl, hall⟩⟩⟩) N (b, m, t, la, lb, la, (la.length : Int), 0) ⟨0, Nat.zero_le _, rfl, fun y hy => by simp at hy⟩ (by simp; omega)
  have hW : W8_8 N (b, m, t, la, lb, la, (la.length : Int), 0) = some o := ho
  rcases hp with rfl | ⟨rfl, hp⟩
  · exact .inl hW
  · exact .inr ⟨hW, hp⟩

theorem L_apart (N : Nat) (b m t : List Ln) (hN : 5000 < N) : F8 N b m t = some true := by
  unfold F8 V8
  simp only [ev_br, ev_leaf, ev_c1, ev_c2, ev_c3, ev_c4, ev_cr, ev_cr2, ev_f0, ev_f1, ev_f2, obind_some, decide_eq_true_eq, Bool.not_eq_true', Bool.true_eq_false, Bool.false_eq_true, if_true, if_false, reduceCtorEq, F_few N b m t (by omega), M_awake N hN]
  by_cases hf : fewS b m t = true
  · obtain ⟨l1, l2, l3⟩ := fewS_len hf
    have d1 := D_of N b m (by omega) (by omega) (by omega)
    have d2 := D_of N b t (by omega) (by omega) (by omega)
    by_cases h1 : rightS b = true ∧ rightS m = true
    · by_cases h2 : rightS b = true ∧ rightS t = true
      · rw [if_pos h1] at d1
        rw [if_pos h2] at d2
        obtain ⟨hb, hm⟩ := h1
        have ht := h2.2
        have n1 := diff_len b m
        have n2 := diff_len b t
        have q1 := diff_ne (right_rf hb) (right_rf hm)
        have q2 := diff_ne (right_rf hb) (right_rf ht)
        rcases A_outer N b m t (diffL b m) (diffL b t) q1 q2 (by omega) (by omega) hN with hW | ⟨hW, hap⟩
        · simp only [ev_br, ev_leaf, ev_c1, ev_c2, ev_c3, ev_c4, ev_cr, ev_cr2, ev_f0, ev_f1, ev_f2, obind_some, decide_eq_true_eq, Bool.not_eq_true', Bool.true_eq_false, Bool.false_eq_true, if_true, if_false, reduceCtorEq, hf, d1, d2, bne_self_eq_false, hW, lp1_ret, Bool.not_true]
          rfl
        · obtain ⟨u, e1, e2⟩ := apart_makes hb hm ht (by omega) (by omega) hap
          have hO := M_of N b m t (by omega) (by omega) (by omega) (by omega)
          rw [e1] at hO
          have hA := D_apply N hb e2 (by simp; omega) (by simp; omega) (by omega)
          have hul : u.length ≤ 200 := by have := mrg_len (b := b) (m := m) (t := t); rw [e1] at this; exact this
          have hS := F_same N u u (by omega) (by show _ ≤ 9223372036854775807; omega)
          have r1 : room (([] : List Ch).length + (diffL b m).length) := by show _ ≤ _; simp; omega
          have r2 : room ((([] : List Ch) ++ diffL b m).length + (diffL b t).length) := by show _ ≤ _; simp; omega
          have hA' : F20 N b ((([] : List Ch) ++ diffL b m) ++ diffL b t) = some (u, ((diffL b m ++ diffL b t).length : Int), 0) := hA
          have z : (((([] : List (List Bs)).length : Nat) : Int) == 0) = true := rfl
          simp only [ev_br, ev_leaf, ev_c1, ev_c2, ev_c3, ev_c4, ev_cr, ev_cr2, ev_f0, ev_f1, ev_f2, obind_some, decide_eq_true_eq, Bool.not_eq_true', Bool.true_eq_false, Bool.false_eq_true, if_true, if_false, reduceCtorEq, hf, d1, d2, bne_self_eq_false, hW, lp1_brk, hO, ev_ck r1, ev_ck r2, hA', beq_self_eq_true, z, hS, decide_true, Bool.not_true]
      · rw [if_neg h2] at d2
        rw [if_pos h1] at d1
        have z : ((1 : Int) != 0) = true := rfl
        simp only [ev_br, ev_leaf, ev_c1, ev_c2, ev_c3, ev_c4, ev_cr, ev_cr2, ev_f0, ev_f1, ev_f2, obind_some, decide_eq_true_eq, Bool.not_eq_true', Bool.true_eq_false, Bool.false_eq_true, if_true, if_false, reduceCtorEq, hf, d1, d2, bne_self_eq_false, z, Bool.not_true]
    · rw [if_neg h1] at d1
      have z : ((1 : Int) != 0) = true := rfl
      simp only [ev_br, ev_leaf, ev_c1, ev_c2, ev_c3, ev_c4, ev_cr, ev_cr2, ev_f0, ev_f1, ev_f2, obind_some, decide_eq_true_eq, Bool.not_eq_true', Bool.true_eq_false, Bool.false_eq_true, if_true, if_false, reduceCtorEq, hf, d1, z, Bool.not_true]
      rw [d2]
      rfl
  · simp [hf]

end Go.Proofs.Ytbchajjppgkgnaa.Vc
