/-
  THE LAWS ON MERGING, told of data. No condition.
-/
import Derived.Test.YtbchajjppgkgnaaMq
set_option linter.unusedVariables false
set_option linter.unusedSimpArgs false
namespace Go.Proofs.Ytbchajjppgkgnaa.Vc

def fewS (a b c : List Ln) : Bool := decide (a.length ≤ 30) && (decide (b.length ≤ 30) && (decide (c.length ≤ 30) && (smallS a && (smallS b && smallS c))))
theorem F_few (N : Nat) (a b c : List Ln) (hN : 220 < N) : F9 N a b c = some (fewS a b c) := by
  unfold F9 V9
  simp only [ev_br, ev_leaf, ev_c1, ev_c2, ev_c3, ev_c4, ev_cr, ev_cr2, ev_f0, ev_f1, ev_f2, obind_some, decide_eq_true_eq, Bool.not_eq_true', Bool.true_eq_false, Bool.false_eq_true, if_true, if_false, reduceCtorEq, F_small N a hN, F_small N b hN, F_small N c hN]
  unfold fewS
  have e : ∀ x : List Ln, ((x.length : Int) ≤ 30) = (x.length ≤ 30) := fun x => by rw [eq_iff_iff]; omega
  simp only [e]
  by_cases h1 : a.length ≤ 30
  · by_cases h2 : b.length ≤ 30
    · by_cases h3 : c.length ≤ 30
      · cases h4 : smallS a
        · simp
        · cases h5 : smallS b
          · simp
          · simp [h1, h2, h3]
      · simp [h3]
    · simp [h2]
  · simp [h1]
theorem fewS_len {a b c : List Ln} (h : fewS a b c = true) : a.length ≤ 30 ∧ b.length ≤ 30 ∧ c.length ≤ 30 := by
  unfold fewS at h
  simp only [Bool.and_eq_true, decide_eq_true_eq] at h
  exact ⟨h.1, h.2.1, h.2.2.1⟩

theorem F_samePaths (N : Nat) (a b : List (List Bs)) (hN : a.length < N) (hm : a.length ≤ 1000000) (hs : ∀ x ∈ a, x.length ≤ 1000) (hN2 : 1000 < N) : F14 N a b = some (decide (a = b)) := by
  unfold F14 V14
  simp only [ev_br, ev_leaf, ev_f1, bne_iff_ne, ne_eq]
  by_cases hl : (a.length : Int) = b.length
  · rw [if_neg (by simpa using hl)]
    have := loop_all (R := Bool) (step := fun x => L14_4 N x.1 x.2.1 x.2.2.1 x.2.2.2) a.length (fun i => a.getD i [] == b.getD i []) (fun i => (a, b, (a.length : Int), i)) false (fun i h0 hi => by
      unfold L14_4 U14_4
      by_cases h : i < a.length
      · have h1 : inR i a.length := ⟨h0, h⟩
        have h2 : inR i b.length := ⟨h0, by omega⟩
        have h3 : (a.getD i.toNat []).length ≤ 1000 := by
          have : a.getD i.toNat [] = a[i.toNat] := by simp [show i.toNat < a.length by omega]
          rw [this]; exact hs _ (List.getElem_mem _)
        have e1 : atI (.list tS) a i = a.getD i.toNat [] := rfl
        have e2 : atI (.list tS) b i = b.getD i.toNat [] := rfl
        have hE := F_equal N (a.getD i.toNat []) (b.getD i.toNat []) (by omega) (by show _ ≤ 9223372036854775807; omega)
        simp (disch := first | assumption | omega) only [ev_br, ev_leaf, ev_c1, ev_c2, ev_c3, ev_c4, ev_cr, ev_cr2, ev_f0, ev_f1, ev_f2, obind_some, decide_eq_true_eq, Bool.not_eq_true', Bool.true_eq_false, Bool.false_eq_true, if_true, if_false, reduceCtorEq, ev_ck h1, ev_ck h2, e1, e2, hE, h, wrapI]
        generalize a.getD i.toNat [] = x
        generalize b.getD i.toNat [] = y
        by_cases he : x = y
        · simp [he]
        · simp [he]
      · simp [h]) N hN
    unfold W14_4
    rw [this]
    by_cases he : a = b
    · rw [if_pos ((all_eq_iff [] (by omega)).2 he)]; simp [he]
    · rw [if_neg (fun h => he ((all_eq_iff [] (by omega)).1 h))]; simp [he]
  · rw [if_pos (by simpa using hl)]
    have : a ≠ b := fun h => hl (by rw [h])
    simp [this]

/-! ### A fixed answer -/

def mrgC (b m t : List Ln) : List Ln × List (List Bs) × Int :=
  let l := (allP b m t).foldl putP []
  let bad := l.filter (cfl b m t)
  let out := (l.filter fun p => !cfl b m t p && decide (dcd b m t p ≠ -1)).map fun p => ln (p, dcd b m t p)
  if rightS b = true ∧ rightS m = true ∧ rightS t = true then (if bad = [] then (if 200 < out.length then ([], [], 5) else (out, [], 0)) else ([], bad, 8)) else ([], [], 1)
theorem mrgC_eq (b m t : List Ln) : mrg b m t = mrgC b m t := by
  unfold mrg mrgC badL outL outE
  rw [puts_once]
  simp only [List.map_map]
  rfl

theorem M_awake (N : Nat) (hN : 5000 < N) : F10 N = some true := by
  unfold F10 V10
  have s1 : mrgC [(0, [97], 0)] [(0, [97], 0), (1, [98], 0)] [(0, [97], 1)] = ([(0, [97], 1), (1, [98], 0)], [], 0) := by decide
  have s2 : mrgC [(0, [97], 0)] [(0, [97], 0), (1, [98], 0)] [] = ([], [[[97], [98]]], 8) := by decide
  have e1 := M_of N [(0, [97], 0)] [(0, [97], 0), (1, [98], 0)] [(0, [97], 1)] (by simp; omega) (by simp; omega) (by simp; omega) (by omega)
  have e2 := M_of N [(0, [97], 0)] [(0, [97], 0), (1, [98], 0)] [] (by simp; omega) (by simp; omega) (by simp; omega) (by omega)
  rw [mrgC_eq, s1] at e1
  rw [mrgC_eq, s2] at e2
  have e3 := F_equal N [[97], [98]] [[97], [98]] (by simp; omega) (by show _ ≤ 9223372036854775807; simp)
  have l2 : ∀ a b : Ln, ([a, b] : List Ln).length = 2 := fun _ _ => rfl
  have l1 : ∀ a : List Bs, ([a] : List (List Bs)).length = 1 := fun _ => rfl
  have c1 : inR 0 ([(0, [97], 1), (1, [98], 0)] : List Ln).length := ⟨by simp, by simp⟩
  have c2 : inR 1 ([(0, [97], 1), (1, [98], 0)] : List Ln).length := ⟨by simp, by simp⟩
  have c3 : inR 0 ([[[97], [98]]] : List (List Bs)).length := ⟨by simp, by simp⟩
  have a1 : atI tLn [(0, [97], 1), (1, [98], 0)] 0 = ((0, [97], 1) : Ln) := rfl
  have a2 : atI tLn [(0, [97], 1), (1, [98], 0)] 1 = ((1, [98], 0) : Ln) := rfl
  have a3 : atI (.list tS) [[[97], [98]]] 0 = ([[97], [98]] : List Bs) := rfl
  simp (config := { decide := true }) only [ev_br, ev_leaf, ev_c1, ev_c2, ev_c3, ev_c4, ev_cr, ev_cr2, ev_f0, ev_f1, ev_f2, obind_some, decide_eq_true_eq, Bool.not_eq_true', Bool.true_eq_false, Bool.false_eq_true, if_true, if_false, reduceCtorEq, e1, e2, l1, l2, ev_ck c1, ev_ck c2, ev_ck c3, a1, a2, a3, e3, ev_ck trivial]

/-! ### The laws -/

theorem mrg_len {b m t : List Ln} : (mrg b m t).1.length ≤ 200 := by
  unfold mrg
  split
  · split
    · split
      · simp
      · rename_i h; simpa using h
    · simp
  · simp
theorem mrg_bad {b m t : List Ln} : (mrg b m t).2.1.length ≤ b.length + m.length + t.length ∧ ∀ x ∈ (mrg b m t).2.1, x.length ≤ 1000 := by
  unfold mrg
  split
  · rename_i h
    split
    · split
      · simp
      · simp
    · refine ⟨?_, fun x hx => ?_⟩
      · have h1 := once_len (allP b m t)
        rw [allP_len] at h1
        have h2 : (badL b m t).length ≤ (once (allP b m t)).length := List.length_filter_le _ _
        simp only; omega
      · have := path_small h.1 h.2.1 h.2.2 (List.mem_filter.1 hx).1
        omega
  · simp
theorem mrg_codes {b m t : List Ln} : ((mrg b m t).2.2 = 8 ↔ (mrg b m t).2.1 ≠ []) := by
  unfold mrg
  split
  · split
    · split
      · simp
      · simp
    · rename_i h; simp [h]
  · simp

theorem L_exact (N : Nat) (b m t : List Ln) (hN : 5000 < N) : F3 N b m t = some true := by
  unfold F3 V3
  simp only [ev_br, ev_leaf, ev_c1, ev_c2, ev_c3, ev_c4, ev_cr, ev_cr2, ev_f0, ev_f1, ev_f2, obind_some, decide_eq_true_eq, Bool.not_eq_true', Bool.true_eq_false, Bool.false_eq_true, if_true, if_false, reduceCtorEq, F_few N b m t (by omega), M_awake N hN]
  by_cases hf : fewS b m t = true
  · obtain ⟨l1, l2, l3⟩ := fewS_len hf
    have h1 := M_of N b m t (by omega) (by omega) (by omega) (by omega)
    have h2 := Q_of N b m t (by omega) (by omega) (by omega) (by omega)
    have hb := mrg_bad (b := b) (m := m) (t := t)
    have hl := mrg_len (b := b) (m := m) (t := t)
    have h3 := F_same N (mrg b m t).1 (mrg b m t).1 (by omega) (by show _ ≤ 9223372036854775807; omega)
    have h4 := F_samePaths N (mrg b m t).2.1 (mrg b m t).2.1 (by omega) (by omega) hb.2 (by omega)
    simp only [ev_br, ev_leaf, ev_c1, ev_c2, ev_c3, ev_c4, ev_cr, ev_cr2, ev_f0, ev_f1, ev_f2, obind_some, decide_eq_true_eq, Bool.not_eq_true', Bool.true_eq_false, Bool.false_eq_true, if_true, if_false, reduceCtorEq, hf, h1, h2, h3, h4, decide_true, beq_self_eq_true, Bool.not_true]
  · simp [hf]

theorem L_sides (N : Nat) (b m t : List Ln) (hN : 5000 < N) : F4 N b m t = some true := by
  unfold F4 V4
  simp only [ev_br, ev_leaf, ev_c1, ev_c2, ev_c3, ev_c4, ev_cr, ev_cr2, ev_f0, ev_f1, ev_f2, obind_some, decide_eq_true_eq, Bool.not_eq_true', Bool.true_eq_false, Bool.false_eq_true, if_true, if_false, reduceCtorEq, F_few N b m t (by omega), M_awake N hN]
  by_cases hf : fewS b m t = true
  · obtain ⟨l1, l2, l3⟩ := fewS_len hf
    have h1 := M_of N b m t (by omega) (by omega) (by omega) (by omega)
    have h2 := M_of N b t m (by omega) (by omega) (by omega) (by omega)
    rw [← mrg_sym] at h2
    have hb := mrg_bad (b := b) (m := m) (t := t)
    have hl := mrg_len (b := b) (m := m) (t := t)
    have h3 := F_same N (mrg b m t).1 (mrg b m t).1 (by omega) (by show _ ≤ 9223372036854775807; omega)
    have h4 := F_samePaths N (mrg b m t).2.1 (mrg b m t).2.1 (by omega) (by omega) hb.2 (by omega)
    have hc := mrg_codes (b := b) (m := m) (t := t)
    have he := mrg_err (b := b) (m := m) (t := t)
    have h5 : (((mrg b m t).2.2 == 8) == decide ((0 : Int) < ((mrg b m t).2.1.length : Int))) = true := by
      rw [beq_iff_eq, Bool.eq_iff_iff, beq_iff_eq, decide_eq_true_eq, hc, ← List.length_pos_iff]
      omega
    simp only [ev_br, ev_leaf, ev_c1, ev_c2, ev_c3, ev_c4, ev_cr, ev_cr2, ev_f0, ev_f1, ev_f2, obind_some, decide_eq_true_eq, Bool.not_eq_true', Bool.true_eq_false, Bool.false_eq_true, if_true, if_false, reduceCtorEq, hf, h1, h2, h3, h4, h5, decide_true, beq_self_eq_true, Bool.not_true]
    by_cases h0 : (mrg b m t).2.2 = 0
    · simp [h0]
    · simp [h0, he h0]
  · simp [hf]

theorem mrg_arg {b m t : List Ln} (h : ¬(rightS b = true ∧ rightS m = true ∧ rightS t = true)) : mrg b m t = ([], [], 1) := by unfold mrg; rw [if_neg h]

theorem L_one (N : Nat) (b s : List Ln) (hN : 5000 < N) : F5 N b s = some true := by
  unfold F5 V5
  simp only [ev_br, ev_leaf, ev_c1, ev_c2, ev_c3, ev_c4, ev_cr, ev_cr2, ev_f0, ev_f1, ev_f2, obind_some, decide_eq_true_eq, Bool.not_eq_true', Bool.true_eq_false, Bool.false_eq_true, if_true, if_false, reduceCtorEq, F_few N b s [] (by omega), M_awake N hN]
  by_cases hf : fewS b s [] = true
  · obtain ⟨l1, l2, _⟩ := fewS_len hf
    have h1 := M_of N b s b (by omega) (by omega) (by omega) (by omega)
    have h2 := M_of N b b s (by omega) (by omega) (by omega) (by omega)
    have h3 := M_of N b s s (by omega) (by omega) (by omega) (by omega)
    have hs := F_same N s s (by omega) (by show _ ≤ 9223372036854775807; omega)
    have rb := R_right N b (by omega)
    have rs := R_right N s (by omega)
    by_cases hb : rightS b = true
    · by_cases hs2 : rightS s = true
      · rw [mrg_left hb hs2] at h1
        rw [mrg_right hb hs2] at h2
        rw [mrg_both hb hs2] at h3
        simp [hf, h1, h2, h3, rb, rs, hb, hs2, hs]
        decide
      · rw [mrg_arg (by simp [hs2])] at h1 h2 h3
        simp [hf, h1, h2, h3, rb, rs, hb, hs2]
    · rw [mrg_arg (by simp [hb])] at h1 h2 h3
      simp [hf, h1, h2, h3, rb, hb]
  · simp [hf]

theorem L_again (N : Nat) (b m t : List Ln) (hN : 5000 < N) : F7 N b m t = some true := by
  unfold F7 V7
  simp only [ev_br, ev_leaf, ev_c1, ev_c2, ev_c3, ev_c4, ev_cr, ev_cr2, ev_f0, ev_f1, ev_f2, obind_some, decide_eq_true_eq, Bool.not_eq_true', Bool.true_eq_false, Bool.false_eq_true, if_true, if_false, reduceCtorEq, F_few N b m t (by omega), M_awake N hN]
  by_cases hf : fewS b m t = true
  · obtain ⟨l1, l2, l3⟩ := fewS_len hf
    have h1 := M_of N b m t (by omega) (by omega) (by omega) (by omega)
    have hl := mrg_len (b := b) (m := m) (t := t)
    have h2 := M_of N b (mrg b m t).1 t (by omega) (by omega) (by omega) (by omega)
    have h3 := M_of N b m (mrg b m t).1 (by omega) (by omega) (by omega) (by omega)
    have hs := F_same N (mrg b m t).1 (mrg b m t).1 (by omega) (by show _ ≤ 9223372036854775807; omega)
    by_cases h0 : (mrg b m t).2.2 = 0
    · obtain ⟨e1, e2⟩ := mrg_again h0
      rw [e1] at h2
      rw [e2] at h3
      simp [hf, h1, h2, h3, h0, hs]
    · simp [hf, h1, h0, mrg_err h0]
  · simp [hf]

/-! ### What comes out stands on one side -/

theorem find_cases (N : Nat) (t : List Ln) (p : List Bs) (hr : rightS t = true) (hN : 1000 < N) : (F18 N t p = some (0, false) ∧ st t p = -1) ∨ ∃ i, i < t.length ∧ pth t i = p ∧ F18 N t p = some ((i : Int), true) ∧ st t p = (t.getD i (0, [], 0)).2.2 := by
  have hrf := right_rf hr
  have h200 := right_len hr
  have hF := F_find N t p (by omega)
  rw [fndS_eq, if_pos hr] at hF
  cases hf : fnd t p with
  | none =>
    rw [hf] at hF
    exact .inl ⟨hF, (st_none hrf).2 (fnd_none0.1 hf)⟩
  | some i =>
    obtain ⟨hi, hp⟩ := fnd_of hf
    rw [hf] at hF
    refine .inr ⟨i, hi, hp, hF, ?_⟩
    unfold st
    rw [fnd_gt hrf hf]; rfl
theorem st_at {t : List Ln} (hr : rightS t = true) {i : Nat} (hi : i < t.length) : st t (pth t i) = (t.getD i (0, [], 0)).2.2 := by
  unfold st
  rw [gt_at (right_rf hr) hi, getD_of_lt t hi]; rfl
theorem st_at_ne {t : List Ln} (hr : rightS t = true) {i : Nat} (hi : i < t.length) : st t (pth t i) ≠ -1 := by
  rw [st_at hr hi]
  have := mark_ok (right_rf hr) hi
  omega
theorem last_word {t : List Ln} (h : rf [] t = true) {i : Nat} (hi : i < t.length) : (pth t i).getLastD [] = (t[i]).2.1 := by
  rw [pth_nx t hi]; simp
/-- What a path in a tree finds, has the path's depth, the path's last word, and the mark. -/
theorem ln_same {t u : List Ln} (ht : rightS t = true) (hu : rightS u = true) {i k : Nat} (hi : i < t.length) (hk : k < u.length) (he : pth u k = pth t i) (hm : (u.getD k (0, [], 0)).2.2 = (t.getD i (0, [], 0)).2.2) : u.getD k (0, [], 0) = t.getD i (0, [], 0) := by
  have ht' := right_rf ht
  have hu' := right_rf hu
  have h1 := pth_len ht' hi
  have h2 := pth_len hu' hk
  have l1 := last_word ht' hi
  have l2 := last_word hu' hk
  rw [he] at h2 l2
  have d1 := snd_iff.1 (rf_at ht' hi).1
  have d2 := snd_iff.1 (rf_at hu' hk).1
  have g1 : t.getD i (0, [], 0) = t[i] := getD_of_lt t hi
  have g2 : u.getD k (0, [], 0) = u[k] := getD_of_lt u hk
  rw [g1] at hm ⊢
  rw [g2] at hm ⊢
  refine Prod.ext ?_ (Prod.ext ?_ hm)
  · omega
  · rw [← l1, ← l2]

theorem L_true (N : Nat) (b m t : List Ln) (hN : 5000 < N) : F6 N b m t = some true := by
  unfold F6 V6
  simp only [ev_br, ev_leaf, ev_c1, ev_c2, ev_c3, ev_c4, ev_cr, ev_cr2, ev_f0, ev_f1, ev_f2, obind_some, decide_eq_true_eq, Bool.not_eq_true', Bool.true_eq_false, Bool.false_eq_true, if_true, if_false, reduceCtorEq, F_few N b m t (by omega), M_awake N hN]
  by_cases hf : fewS b m t = true
  · obtain ⟨l1, l2, l3⟩ := fewS_len hf
    have h1 := M_of N b m t (by omega) (by omega) (by omega) (by omega)
    by_cases h0 : (mrg b m t).2.2 = 0
    · obtain ⟨rb, rm, rt, ru, _, hd⟩ := mrg_ok h0
      obtain ⟨u, hu⟩ : ∃ u, (mrg b m t).1 = u := ⟨_, rfl⟩
      rw [hu] at ru hd
      have hul := right_len ru
      have hR := F_right N u (by omega)
      have lp1' := loop_all (R := Bool) (step := fun x => L6_9 N x.1 x.2.1 x.2.2.1 x.2.2.2.1 x.2.2.2.2.1 x.2.2.2.2.2.1 x.2.2.2.2.2.2) u.length (fun _ => true) (fun i => (b, m, t, u, u, (u.length : Int), i)) false (fun i hi0 hile => by
        unfold L6_9 U6_9
        by_cases h : i < u.length
        · obtain ⟨k, rfl⟩ : ∃ k : Nat, i = (k : Int) := ⟨i.toNat, by omega⟩
          have hk : k < u.length := by omega
          have c1 : inR (k : Int) u.length := ⟨by omega, by omega⟩
          have hP := F_path N u (k : Int) (by omega)
          rw [if_pos (thereS_iff.2 ⟨by omega, h, ru⟩), Int.toNat_natCast] at hP
          have hu1 := st_at ru hk
          have hu2 := st_at_ne ru hk
          have hd1 := hd (pth u k)
          have hwi : IntKind.i64.wrap ((k : Int) + 1) = (k : Int) + 1 := wrapI (by omega) (by omega)
          have au : atI tLn u (k : Int) = u.getD k (0, [], 0) := rfl
          have hor : (st m (pth u k) = st u (pth u k)) ∨ (st t (pth u k) = st u (pth u k)) := by
            rw [← hd1]
            rcases dcd_cases b m t (pth u k) with hc | hc | hc
            · exfalso
              have h9 := hd1
              rw [hc.1] at h9
              have := mark_ok (right_rf ru) hk
              omega
            · exact .inl hc.1.symm
            · exact .inr hc.1.symm
          rcases find_cases N m (pth u k) rm (by omega) with ⟨f1, s1⟩ | ⟨a, ha, pa, f1, s1⟩
          · rcases find_cases N t (pth u k) rt (by omega) with ⟨f2, s2⟩ | ⟨c, hc, pc, f2, s2⟩
            · exfalso
              rcases hor with h9 | h9
              · rw [s1] at h9; exact hu2 h9.symm
              · rw [s2] at h9; exact hu2 h9.symm
            · have c2 : inR (c : Int) t.length := ⟨by omega, by omega⟩
              have at' : atI tLn t (c : Int) = t.getD c (0, [], 0) := rfl
              have hln : t.getD c (0, [], 0) = u.getD k (0, [], 0) := ln_same ru rt hk hc pc (by
                rcases hor with h9 | h9
                · rw [s1] at h9; exact absurd h9.symm hu2
                · rw [← s2, ← hu1]; exact h9)
              simp only [ev_br, ev_leaf, ev_c1, ev_c2, ev_c3, ev_c4, ev_cr, ev_cr2, ev_f0, ev_f1, ev_f2, obind_some, decide_eq_true_eq, Bool.not_eq_true', Bool.true_eq_false, Bool.false_eq_true, if_true, if_false, reduceCtorEq, decide_eq_true h, ev_ck c1, hP, f1, f2, ln_beq, ev_ck c2, au, at', hln, beq_self_eq_true, Bool.not_true, hwi, h, bne_self_eq_false]
          · have c3 : inR (a : Int) m.length := ⟨by omega, by omega⟩
            have am : atI tLn m (a : Int) = m.getD a (0, [], 0) := rfl
            by_cases hmu : st m (pth u k) = st u (pth u k)
            · have hln : m.getD a (0, [], 0) = u.getD k (0, [], 0) := ln_same ru rm hk ha pa (by rw [← s1, ← hu1]; exact hmu)
              rcases find_cases N t (pth u k) rt (by omega) with ⟨f2, s2⟩ | ⟨c, hc, pc, f2, s2⟩
              · simp only [ev_br, ev_leaf, ev_c1, ev_c2, ev_c3, ev_c4, ev_cr, ev_cr2, ev_f0, ev_f1, ev_f2, obind_some, decide_eq_true_eq, Bool.not_eq_true', Bool.true_eq_false, Bool.false_eq_true, if_true, if_false, reduceCtorEq, decide_eq_true h, ev_ck c1, hP, f1, f2, ln_beq, ev_ck c3, au, am, hln, beq_self_eq_true, Bool.not_true, hwi, h, bne_self_eq_false]
              · simp only [ev_br, ev_leaf, ev_c1, ev_c2, ev_c3, ev_c4, ev_cr, ev_cr2, ev_f0, ev_f1, ev_f2, obind_some, decide_eq_true_eq, Bool.not_eq_true', Bool.true_eq_false, Bool.false_eq_true, if_true, if_false, reduceCtorEq, decide_eq_true h, ev_ck c1, hP, f1, f2, ln_beq, ev_ck c3, au, am, hln, beq_self_eq_true, Bool.not_true, hwi, h, bne_self_eq_false]
            · have htu : st t (pth u k) = st u (pth u k) := by
                rcases hor with h9 | h9
                · exact absurd h9 hmu
                · exact h9
              have hne : (m.getD a (0, [], 0) == u.getD k (0, [], 0)) = false := by
                rw [beq_eq_false_iff_ne]
                intro e
                exact hmu (by rw [s1, hu1, e])
              rcases find_cases N t (pth u k) rt (by omega) with ⟨f2, s2⟩ | ⟨c, hc, pc, f2, s2⟩
              · rw [s2] at htu; exact absurd htu.symm hu2
              · have c2 : inR (c : Int) t.length := ⟨by omega, by omega⟩
                have at' : atI tLn t (c : Int) = t.getD c (0, [], 0) := rfl
                have hln : t.getD c (0, [], 0) = u.getD k (0, [], 0) := ln_same ru rt hk hc pc (by rw [← s2, ← hu1]; exact htu)
                simp only [ev_br, ev_leaf, ev_c1, ev_c2, ev_c3, ev_c4, ev_cr, ev_cr2, ev_f0, ev_f1, ev_f2, obind_some, decide_eq_true_eq, Bool.not_eq_true', Bool.true_eq_false, Bool.false_eq_true, if_true, if_false, reduceCtorEq, decide_eq_true h, ev_ck c1, hP, f1, f2, ln_beq, ev_ck c3, ev_ck c2, au, am, at', hln, hne, beq_self_eq_true, Bool.not_true, Bool.not_false, hwi, h, bne_self_eq_false]
        · simp [h]) N (by omega)
      have lp2' := loop_all (R := Bool) (step := fun x => L6_18 N x.1 x.2.1 x.2.2.1 x.2.2.2.1 x.2.2.2.2.1 x.2.2.2.2.2.1 x.2.2.2.2.2.2) b.length (fun _ => true) (fun i => (b, m, t, u, b, (b.length : Int), i)) false (fun i hi0 hile => by
        unfold L6_18 U6_18
        by_cases h : i < b.length
        · obtain ⟨k, rfl⟩ : ∃ k : Nat, i = (k : Int) := ⟨i.toNat, by omega⟩
          have hk : k < b.length := by omega
          have c1 : inR (k : Int) b.length := ⟨by omega, by omega⟩
          have hP := F_path N b (k : Int) (by omega)
          rw [if_pos (thereS_iff.2 ⟨by omega, h, rb⟩), Int.toNat_natCast] at hP
          have hb1 := st_at rb hk
          have hb2 := st_at_ne rb hk
          have hd1 := hd (pth b k)
          have hwi : IntKind.i64.wrap ((k : Int) + 1) = (k : Int) + 1 := wrapI (by omega) (by omega)
          have ab : atI tLn b (k : Int) = b.getD k (0, [], 0) := rfl
          rcases find_cases N u (pth b k) ru (by omega) with ⟨f3, s3⟩ | ⟨e, he, pe, f3, s3⟩
          · rcases find_cases N m (pth b k) rm (by omega) with ⟨f1, s1⟩ | ⟨a, ha, pa, f1, s1⟩
            · rcases find_cases N t (pth b k) rt (by omega) with ⟨f2, s2⟩ | ⟨c, hc, pc, f2, s2⟩
              · simp only [ev_br, ev_leaf, ev_c1, ev_c2, ev_c3, ev_c4, ev_cr, ev_cr2, ev_f0, ev_f1, ev_f2, obind_some, decide_eq_true_eq, Bool.not_eq_true', Bool.true_eq_false, Bool.false_eq_true, if_true, if_false, reduceCtorEq, decide_eq_true h, ev_ck c1, hP, f1, f2, f3, hwi, h, bne_self_eq_false]
              · simp only [ev_br, ev_leaf, ev_c1, ev_c2, ev_c3, ev_c4, ev_cr, ev_cr2, ev_f0, ev_f1, ev_f2, obind_some, decide_eq_true_eq, Bool.not_eq_true', Bool.true_eq_false, Bool.false_eq_true, if_true, if_false, reduceCtorEq, decide_eq_true h, ev_ck c1, hP, f1, f2, f3, hwi, h, bne_self_eq_false]
            · rcases find_cases N t (pth b k) rt (by omega) with ⟨f2, s2⟩ | ⟨c, hc, pc, f2, s2⟩
              · simp only [ev_br, ev_leaf, ev_c1, ev_c2, ev_c3, ev_c4, ev_cr, ev_cr2, ev_f0, ev_f1, ev_f2, obind_some, decide_eq_true_eq, Bool.not_eq_true', Bool.true_eq_false, Bool.false_eq_true, if_true, if_false, reduceCtorEq, decide_eq_true h, ev_ck c1, hP, f1, f2, f3, hwi, h, bne_self_eq_false]
              · have c3 : inR (a : Int) m.length := ⟨by omega, by omega⟩
                have am : atI tLn m (a : Int) = m.getD a (0, [], 0) := rfl
                have c2 : inR (c : Int) t.length := ⟨by omega, by omega⟩
                have at' : atI tLn t (c : Int) = t.getD c (0, [], 0) := rfl
                cases q1 : (m.getD a (0, [], 0) == b.getD k (0, [], 0)) with
                | false => simp only [ev_br, ev_leaf, ev_c1, ev_c2, ev_c3, ev_c4, ev_cr, ev_cr2, ev_f0, ev_f1, ev_f2, obind_some, decide_eq_true_eq, Bool.not_eq_true', Bool.true_eq_false, Bool.false_eq_true, if_true, if_false, reduceCtorEq, decide_eq_true h, ev_ck c1, ev_ck c3, hP, f1, f2, f3, hwi, h, bne_self_eq_false, ln_beq, am, ab, q1]
                | true =>
                  cases q2 : (t.getD c (0, [], 0) == b.getD k (0, [], 0)) with
                  | false => simp only [ev_br, ev_leaf, ev_c1, ev_c2, ev_c3, ev_c4, ev_cr, ev_cr2, ev_f0, ev_f1, ev_f2, obind_some, decide_eq_true_eq, Bool.not_eq_true', Bool.true_eq_false, Bool.false_eq_true, if_true, if_false, reduceCtorEq, decide_eq_true h, ev_ck c1, ev_ck c3, ev_ck c2, hP, f1, f2, f3, hwi, h, bne_self_eq_false, ln_beq, am, ab, at', q1, q2]
                  | true =>
                    exfalso
                    rw [beq_iff_eq] at q1 q2
                    have z1 : st m (pth b k) = st b (pth b k) := by rw [s1, q1, hb1]
                    have z2 : st t (pth b k) = st b (pth b k) := by rw [s2, q2, hb1]
                    unfold dcd at hd1
                    rw [if_pos (.inr z2), z1, s3] at hd1
                    exact hb2 hd1
          · have c4 : inR (e : Int) u.length := ⟨by omega, by omega⟩
            have ae : atI tLn u (e : Int) = u.getD e (0, [], 0) := rfl
            rcases find_cases N m (pth b k) rm (by omega) with ⟨f1, s1⟩ | ⟨a, ha, pa, f1, s1⟩
            · rcases find_cases N t (pth b k) rt (by omega) with ⟨f2, s2⟩ | ⟨c, hc, pc, f2, s2⟩
              · simp only [ev_br, ev_leaf, ev_c1, ev_c2, ev_c3, ev_c4, ev_cr, ev_cr2, ev_f0, ev_f1, ev_f2, obind_some, decide_eq_true_eq, Bool.not_eq_true', Bool.true_eq_false, Bool.false_eq_true, if_true, if_false, reduceCtorEq, decide_eq_true h, ev_ck c1, hP, f1, f2, f3, hwi, h, bne_self_eq_false]
              · simp only [ev_br, ev_leaf, ev_c1, ev_c2, ev_c3, ev_c4, ev_cr, ev_cr2, ev_f0, ev_f1, ev_f2, obind_some, decide_eq_true_eq, Bool.not_eq_true', Bool.true_eq_false, Bool.false_eq_true, if_true, if_false, reduceCtorEq, decide_eq_true h, ev_ck c1, hP, f1, f2, f3, hwi, h, bne_self_eq_false]
            · rcases find_cases N t (pth b k) rt (by omega) with ⟨f2, s2⟩ | ⟨c, hc, pc, f2, s2⟩
              · simp only [ev_br, ev_leaf, ev_c1, ev_c2, ev_c3, ev_c4, ev_cr, ev_cr2, ev_f0, ev_f1, ev_f2, obind_some, decide_eq_true_eq, Bool.not_eq_true', Bool.true_eq_false, Bool.false_eq_true, if_true, if_false, reduceCtorEq, decide_eq_true h, ev_ck c1, hP, f1, f2, f3, hwi, h, bne_self_eq_false]
              · have c3 : inR (a : Int) m.length := ⟨by omega, by omega⟩
                have am : atI tLn m (a : Int) = m.getD a (0, [], 0) := rfl
                have c2 : inR (c : Int) t.length := ⟨by omega, by omega⟩
                have at' : atI tLn t (c : Int) = t.getD c (0, [], 0) := rfl
                cases q1 : (m.getD a (0, [], 0) == b.getD k (0, [], 0)) with
                | false => simp only [ev_br, ev_leaf, ev_c1, ev_c2, ev_c3, ev_c4, ev_cr, ev_cr2, ev_f0, ev_f1, ev_f2, obind_some, decide_eq_true_eq, Bool.not_eq_true', Bool.true_eq_false, Bool.false_eq_true, if_true, if_false, reduceCtorEq, decide_eq_true h, ev_ck c1, ev_ck c3, hP, f1, f2, f3, hwi, h, bne_self_eq_false, ln_beq, am, ab, q1]
                | true =>
                  cases q2 : (t.getD c (0, [], 0) == b.getD k (0, [], 0)) with
                  | false => simp only [ev_br, ev_leaf, ev_c1, ev_c2, ev_c3, ev_c4, ev_cr, ev_cr2, ev_f0, ev_f1, ev_f2, obind_some, decide_eq_true_eq, Bool.not_eq_true', Bool.true_eq_false, Bool.false_eq_true, if_true, if_false, reduceCtorEq, decide_eq_true h, ev_ck c1, ev_ck c3, ev_ck c2, hP, f1, f2, f3, hwi, h, bne_self_eq_false, ln_beq, am, ab, at', q1, q2]
                  | true =>
                    have q1' := beq_iff_eq.1 q1
                    have q2' := beq_iff_eq.1 q2
                    have z1 : st m (pth b k) = st b (pth b k) := by rw [s1, q1', hb1]
                    have z2 : st t (pth b k) = st b (pth b k) := by rw [s2, q2', hb1]
                    unfold dcd at hd1
                    rw [if_pos (.inr z2), z1, s3, hb1] at hd1
                    have hln := ln_same rb ru hk he pe hd1.symm
                    simp only [ev_br, ev_leaf, ev_c1, ev_c2, ev_c3, ev_c4, ev_cr, ev_cr2, ev_f0, ev_f1, ev_f2, obind_some, decide_eq_true_eq, Bool.not_eq_true', Bool.true_eq_false, Bool.false_eq_true, if_true, if_false, reduceCtorEq, decide_eq_true h, ev_ck c1, ev_ck c3, ev_ck c2, ev_ck c4, hP, f1, f2, f3, hwi, h, bne_self_eq_false, ln_beq, am, ab, at', ae, q1, q2, hln, beq_self_eq_true, Bool.not_true]
        · simp [h]) N (by omega)
      have hall : ∀ n, (List.range n).all (fun _ => true) = true := fun n => by simp
      rw [if_pos (hall _)] at lp1' lp2'
      have w1 : W6_9 N (b, m, t, u, u, (u.length : Int), 0) = _ := lp1'
      have w2 : W6_18 N (b, m, t, u, b, (b.length : Int), 0) = _ := lp2'
      simp only [ev_br, ev_leaf, ev_c1, ev_c2, ev_c3, ev_c4, ev_cr, ev_cr2, ev_f0, ev_f1, ev_f2, obind_some, decide_eq_true_eq, Bool.not_eq_true', Bool.true_eq_false, Bool.false_eq_true, if_true, if_false, reduceCtorEq, hf, h1, h0, hu, hR, ru, w1, w2, lp1_brk, Bool.not_true, bne_self_eq_false]
    · have h0' : ((mrg b m t).2.2 != 0) = true := by simpa using h0
      simp [hf, h1, h0, mrg_err h0]
  · simp [hf]

end Go.Proofs.Ytbchajjppgkgnaa.Vc
