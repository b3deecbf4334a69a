/-
  THE LAWS ON COMMANDS, told of data: paths in any order. No condition.
-/
import Derived.Test.YtkbciolghkcjoaaPq
set_option linter.unusedVariables false
set_option linter.unusedSimpArgs false
namespace Go.Proofs.Ytkbciolghkcjoaa.Vc

theorem O_words (N : Nat) (l : List (List Bs)) (b n i : Int) (p : List Bs) (hp : p.length ≤ 40) (hN : 6000 < N) : ∃ o, W8_9 N (l, b, l, n, i, p, (p.length : Int), 0) = some o ∧ (o = .ret true ∨ (o = .brk 0 (l, b, l, n, i, p, (p.length : Int), (p.length : Int)) ∧ ∀ w ∈ p, w.length ≤ 40)) := by
  obtain ⟨o, ho, hp⟩ := runLoop_post (R := Bool) (step := fun x => L8_9 N x.1 x.2.1 x.2.2.1 x.2.2.2.1 x.2.2.2.2.1 x.2.2.2.2.2.1 x.2.2.2.2.2.2.1 x.2.2.2.2.2.2.2)
    (fun x => ∃ k : Nat, k ≤ p.length ∧ x = (l, b, l, n, i, p, (p.length : Int), (k : Int)) ∧ ∀ j (h : j < p.length), j < k → p[j].length ≤ 40) (fun x => (p.length - x.2.2.2.2.2.2.2).toNat)
    (fun o => o = .ret true ∨ (o = .brk 0 (l, b, l, n, i, p, (p.length : Int), (p.length : Int)) ∧ ∀ w ∈ p, w.length ≤ 40))
    (by
      rintro x ⟨k, hk, rfl, hall⟩
      dsimp only
      unfold L8_9 U8_9
      by_cases h : k < p.length
      · have hk' : (k : Int) < p.length := by omega
        have c1 : inR (k : Int) p.length := ⟨by omega, hk'⟩
        have hat : atI tS p (k : Int) = p[k] := by show p.getD k [] = _; simp [h]
        have w1 : IntKind.i64.wrap ((k : Int) + 1) = ((k + 1 : Nat) : Int) := by rw [wrapI (by omega) (by omega)]; omega
        by_cases h40 : (40 : Int) < (p[k].length : Int)
        · simp only [ev_br, ev_leaf, ev_c1, decide_eq_true hk', if_true, ev_ck c1, hat, decide_eq_true h40, P_awake N hN, obind_some]
          exact ⟨_, rfl, .inr ⟨by simp, .inl rfl⟩⟩
        · simp only [ev_br, ev_leaf, ev_c1, decide_eq_true hk', if_true, ev_ck c1, hat, decide_eq_false h40, Bool.false_eq_true, if_false, w1]
          refine ⟨_, rfl, .inl ⟨_, rfl, ⟨k + 1, by omega, rfl, fun j hj hjk => ?_⟩, by simp only; omega⟩⟩
          rcases Nat.lt_or_ge j k with h9 | h9
          · exact hall j hj h9
          · have : j = k := by omega
            subst this; omega
      · have hk' : ¬ (k : Int) < p.length := by omega
        have hkl : k = p.length := by omega
        subst hkl
        refine ⟨.brk 0 (l, b, l, n, i, p, (p.length : Int), (p.length : Int)), by simp only [ev_br, decide_eq_false hk', Bool.false_eq_true, if_false, ev_leaf], .inr ⟨by simp, .inr ⟨rfl, fun w hw => ?_⟩⟩⟩
        obtain ⟨j, hj, rfl⟩ := List.getElem_of_mem hw
        exact hall j hj hj) N (l, b, l, n, i, p, (p.length : Int), 0) ⟨0, Nat.zero_le _, rfl, fun j h h0 => by omega⟩ (by simp; omega)
  exact ⟨o, ho, hp⟩

theorem lp1_retP {X R α : Type} (r : R) (rt : R → α) (k : X → Option α) : lp1 (some (.ret r)) rt k = some (rt r) := rfl

theorem O_paths (N : Nat) (l : List (List Bs)) (b : Int) (hl : l.length ≤ 20) (hN : 6000 < N) : ∃ o, W8_4 N (l, b, l, (l.length : Int), 0) = some o ∧ (o = .ret true ∨ (o = .brk 0 (l, b, l, (l.length : Int), (l.length : Int)) ∧ ∀ p ∈ l, finePath p)) := by
  obtain ⟨o, ho, hp⟩ := runLoop_post (R := Bool) (step := fun x => L8_4 N x.1 x.2.1 x.2.2.1 x.2.2.2.1 x.2.2.2.2)
    (fun x => ∃ k : Nat, k ≤ l.length ∧ x = (l, b, l, (l.length : Int), (k : Int)) ∧ ∀ j (h : j < l.length), j < k → finePath l[j]) (fun x => (l.length - x.2.2.2.2).toNat)
    (fun o => o = .ret true ∨ (o = .brk 0 (l, b, l, (l.length : Int), (l.length : Int)) ∧ ∀ p ∈ l, finePath p))
    (by
      rintro x ⟨k, hk, rfl, hall⟩
      dsimp only
      unfold L8_4 U8_4
      by_cases h : k < l.length
      · have hk' : (k : Int) < l.length := by omega
        have c1 : inR (k : Int) l.length := ⟨by omega, hk'⟩
        have hat : atI (.list tS) l (k : Int) = l[k] := by show l.getD k [] = _; simp [h]
        have w1 : IntKind.i64.wrap ((k : Int) + 1) = ((k + 1 : Nat) : Int) := by rw [wrapI (by omega) (by omega)]; omega
        obtain ⟨p, hpk⟩ : ∃ p, l[k] = p := ⟨_, rfl⟩
        rw [hpk] at hat
        simp only [ev_br, ev_leaf, ev_c1, decide_eq_true hk', if_true, ev_ck c1, hat, P_awake N hN, obind_some]
        by_cases h0 : p = []
        · have z : ((p.length : Int) == 0) = true := by rw [h0]; rfl
          simp only [z, if_true]
          exact ⟨_, rfl, .inr ⟨by simp, .inl rfl⟩⟩
        · have hpl : 0 < p.length := List.length_pos_iff.2 h0
          have z : ((p.length : Int) == 0) = false := by rw [beq_eq_false_iff_ne]; omega
          simp only [z, Bool.false_eq_true, if_false]
          by_cases h16 : (16 : Int) < (p.length : Int)
          · simp only [decide_eq_true h16, if_true]
            exact ⟨_, rfl, .inr ⟨by simp, .inl rfl⟩⟩
          · simp only [decide_eq_false h16, Bool.false_eq_true, if_false, F_short N p (by omega), obind_some]
            by_cases hq : shortS p = true
            · obtain ⟨o, ho, hoo⟩ := O_words N l b (l.length : Int) (k : Int) p (by omega) hN
              rcases hoo with rfl | ⟨rfl, h40⟩
              · simp only [hq, Bool.not_true, Bool.false_eq_true, if_false, Vt.g1, ev_loop1, ho, lp1_retP]
                exact ⟨_, rfl, .inr ⟨by simp, .inl rfl⟩⟩
              · simp only [hq, Bool.not_true, Bool.false_eq_true, if_false, Vt.g1, ev_loop1, ho, lp1_brk, ev_leaf, w1]
                refine ⟨_, rfl, .inl ⟨_, rfl, ⟨k + 1, by omega, rfl, fun j hj hjk => ?_⟩, by simp only; omega⟩⟩
                rcases Nat.lt_or_ge j k with h9 | h9
                · exact hall j hj h9
                · have : j = k := by omega
                  subst this
                  rw [hpk]
                  exact ⟨h0, by omega, h40⟩
            · have hq' : shortS p = false := by simpa using hq
              simp only [hq', Bool.not_false, if_true]
              exact ⟨_, rfl, .inr ⟨by simp, .inl rfl⟩⟩
      · have hk' : ¬ (k : Int) < l.length := by omega
        have hkl : k = l.length := by omega
        subst hkl
        refine ⟨.brk 0 (l, b, l, (l.length : Int), (l.length : Int)), by simp only [ev_br, decide_eq_false hk', Bool.false_eq_true, if_false, ev_leaf], .inr ⟨by simp, .inr ⟨rfl, fun w hw => ?_⟩⟩⟩
        obtain ⟨j, hj, rfl⟩ := List.getElem_of_mem hw
        exact hall j hj hj) N (l, b, l, (l.length : Int), 0) ⟨0, Nat.zero_le _, rfl, fun j h h0 => by omega⟩ (by simp; omega)
  exact ⟨o, ho, hp⟩

theorem addE_05 {t : List Ln} {q : List Bs} (hr : rightS t = true) (hf : finePath q) : addE t q = 0 ∨ addE t q = 5 := by
  unfold addE
  rw [if_pos hr, if_neg hf.1, if_neg (by rw [longW_iff.2 hf.2.2]; simp), if_neg (by have := hf.2.1; omega)]
  split
  · exact .inr rfl
  · exact .inl rfl

/-- The place that the other side takes. -/
def rotI (n b i : Nat) : Nat := (n - i + b) % n
theorem rot_all {n b j : Nat} (h : j < n) : ∃ i, i < n ∧ rotI n b i = j := by
  refine ⟨(n - j + b) % n, Nat.mod_lt _ (by omega), ?_⟩
  have h1 := Nat.div_add_mod (n - j + b) n
  have h2 := Nat.mod_lt (n - j + b) (show 0 < n by omega)
  generalize (n - j + b) % n = i at *
  obtain ⟨X, hXe⟩ : ∃ X, n * ((n - j + b) / n) = X := ⟨_, rfl⟩
  rw [hXe] at h1
  unfold rotI
  have hX : n - i + b = X + j := by omega
  rw [hX, ← hXe, Nat.mul_add_mod, Nat.mod_eq_of_lt h]

theorem O_adds (N : Nat) (l : List (List Bs)) (b : Nat) (hb : b < 256) (hl : l.length ≤ 20) (h0 : 0 < l.length) (hf : ∀ p ∈ l, finePath p) (hN : 6000 < N) : ∃ o, W8_17 N (l, (b : Int), [], [], (l.length : Int), 0) = some o ∧ (o = .ret true ∨ ∃ u v, o = .brk 0 (l, (b : Int), u, v, (l.length : Int), (l.length : Int)) ∧ rightS u = true ∧ u = v) := by
  have hrl : ∀ i, rotI l.length b i < l.length := fun i => Nat.mod_lt _ h0
  obtain ⟨o, ho, hp⟩ := runLoop_post (R := Bool) (step := fun x => L8_17 N x.1 x.2.1 x.2.2.1 x.2.2.2.1 x.2.2.2.2.1 x.2.2.2.2.2)
    (fun x => ∃ (k : Nat) (u v : List Ln), k ≤ l.length ∧ x = (l, (b : Int), u, v, (l.length : Int), (k : Int)) ∧ rightS u = true ∧ rightS v = true ∧ Adds [] (l.take k) u ∧ Adds [] ((List.range k).map fun i => l.getD (rotI l.length b i) []) v) (fun x => (l.length - x.2.2.2.2.2).toNat)
    (fun o => o = .ret true ∨ ∃ u v, o = .brk 0 (l, (b : Int), u, v, (l.length : Int), (l.length : Int)) ∧ rightS u = true ∧ u = v)
    (by
      rintro x ⟨k, u, v, hk, rfl, hu, hv, hau, hav⟩
      dsimp only
      unfold L8_17 U8_17
      by_cases h : k < l.length
      · have hk' : (k : Int) < l.length := by omega
        have c1 : inR (k : Int) l.length := ⟨by omega, hk'⟩
        have hat : atI (.list tS) l (k : Int) = l[k] := by show l.getD k [] = _; simp [h]
        have w1 : IntKind.i64.wrap ((k : Int) + 1) = ((k + 1 : Nat) : Int) := by rw [wrapI (by omega) (by omega)]; omega
        have hr := hrl k
        have ix : (IntKind.i64.wrap (IntKind.i64.wrap ((l.length : Int) - (k : Int)) + IntKind.i64.wrap (b : Int))).tmod (l.length : Int) = (rotI l.length b k : Int) := by
          rw [wrapI (n := (l.length : Int) - (k : Int)) (by omega) (by omega), wrapI (n := (b : Int)) (by omega) (by omega), wrapI (by omega) (by omega), Int.tmod_eq_emod_of_nonneg (by omega)]
          have e : (l.length : Int) - (k : Int) + (b : Int) = ((l.length - k + b : Nat) : Int) := by omega
          rw [e]; exact (Int.natCast_emod _ _).symm
        have c2 : (l.length : Int) ≠ 0 := by omega
        have c3 : inR (rotI l.length b k : Int) l.length := ⟨by omega, by omega⟩
        have hat2 : atI (.list tS) l (rotI l.length b k : Int) = l.getD (rotI l.length b k) [] := rfl
        have hg : l.getD (rotI l.length b k) [] = l[rotI l.length b k] := by simp [hr]
        have f1 := hf _ (List.getElem_mem h)
        have f2 := hf _ (List.getElem_mem hr)
        rw [← hg] at f2
        have hu2 := right_len hu
        have hv2 := right_len hv
        have hE1 := E_add N u l[k] (by omega) (by omega) (by have := f1.2.1; omega) (by have := f1.2.1; omega)
        have hE2 := E_add N v (l.getD (rotI l.length b k) []) (by omega) (by omega) (by have := f2.2.1; omega) (by have := f2.2.1; omega)
        have z50 : ((5 : Int) == 0) = false := rfl
        have z5 : ((5 : Int) != 0) = true := rfl
        have z0 : ((0 : Int) != 0) = false := rfl
        rcases addE_05 hu f1 with a1 | a1
        · have s1 : addS u l[k] = (addL u l[k], 0) := by unfold addS; rw [if_pos a1]
          rw [s1, decide_eq_true a1] at hE1
          rcases addE_05 hv f2 with a2 | a2
          · have s2 : addS v (l.getD (rotI l.length b k) []) = (addL v (l.getD (rotI l.length b k) []), 0) := by unfold addS; rw [if_pos a2]
            rw [s2, decide_eq_true a2] at hE2
            simp only [ev_br, ev_leaf, ev_c1, ev_c3, decide_eq_true hk', if_true, ev_ck c1, hat, hE1, ix, ev_ck c2, ev_ck c3, hat2, hE2, obind_some, z0, Bool.false_eq_true, if_false, w1]
            refine ⟨_, rfl, .inl ⟨_, rfl, ⟨k + 1, _, _, by omega, rfl, (addL_tree a1).1, (addL_tree a2).1, ?_, ?_⟩, by simp only; omega⟩⟩
            · rw [List.take_succ_eq_append_getElem h]
              exact hau.app ⟨a1, rfl⟩
            · rw [List.range_succ, List.map_append]
              exact hav.app ⟨a2, rfl⟩
          · have s2 : addS v (l.getD (rotI l.length b k) []) = (v, 5) := by unfold addS; rw [if_neg (by rw [a2]; decide), a2]
            rw [s2, decide_eq_false (by rw [a2]; decide)] at hE2
            simp only [ev_br, ev_leaf, ev_c1, ev_c3, decide_eq_true hk', if_true, ev_ck c1, hat, hE1, ix, ev_ck c2, ev_ck c3, hat2, hE2, obind_some, z0, z5, z50, beq_self_eq_true, Bool.false_eq_true, if_false, P_awake N hN]
            exact ⟨_, rfl, .inr ⟨by simp, .inl rfl⟩⟩
        · have s1 : addS u l[k] = (u, 5) := by unfold addS; rw [if_neg (by rw [a1]; decide), a1]
          rw [s1, decide_eq_false (by rw [a1]; decide)] at hE1
          rcases addE_05 hv f2 with a2 | a2
          · have s2 : addS v (l.getD (rotI l.length b k) []) = (addL v (l.getD (rotI l.length b k) []), 0) := by unfold addS; rw [if_pos a2]
            rw [s2, decide_eq_true a2] at hE2
            simp only [ev_br, ev_leaf, ev_c1, ev_c3, decide_eq_true hk', if_true, ev_ck c1, hat, hE1, ix, ev_ck c2, ev_ck c3, hat2, hE2, obind_some, z0, z5, z50, beq_self_eq_true, Bool.false_eq_true, if_false, P_awake N hN]
            exact ⟨_, rfl, .inr ⟨by simp, .inl rfl⟩⟩
          · have s2 : addS v (l.getD (rotI l.length b k) []) = (v, 5) := by unfold addS; rw [if_neg (by rw [a2]; decide), a2]
            rw [s2, decide_eq_false (by rw [a2]; decide)] at hE2
            simp only [ev_br, ev_leaf, ev_c1, ev_c3, decide_eq_true hk', if_true, ev_ck c1, hat, hE1, ix, ev_ck c2, ev_ck c3, hat2, hE2, obind_some, z0, z5, z50, beq_self_eq_true, Bool.false_eq_true, if_false, P_awake N hN]
            exact ⟨_, rfl, .inr ⟨by simp, .inl rfl⟩⟩
      · have hk' : ¬ (k : Int) < l.length := by omega
        have hkl : k = l.length := by omega
        subst hkl
        refine ⟨.brk 0 (l, (b : Int), u, v, (l.length : Int), (l.length : Int)), by simp only [ev_br, decide_eq_false hk', Bool.false_eq_true, if_false, ev_leaf], .inr ⟨by simp, .inr ⟨u, v, rfl, hu, ?_⟩⟩⟩
        rw [List.take_length] at hau
        refine adds_order hau hav fun p => ?_
        constructor
        · intro hp
          obtain ⟨j, hj, rfl⟩ := List.getElem_of_mem hp
          obtain ⟨i, hi, he⟩ := rot_all (b := b) hj
          refine List.mem_map.2 ⟨i, List.mem_range.2 hi, ?_⟩
          rw [he]; simp [hj]
        · intro hp
          obtain ⟨i, _, rfl⟩ := List.mem_map.1 hp
          have : l.getD (rotI l.length b i) [] = l[rotI l.length b i]'(hrl i) := by simp [hrl i]
          rw [this]; exact List.getElem_mem _)
    N (l, (b : Int), [], [], (l.length : Int), 0) ⟨0, [], [], Nat.zero_le _, rfl, by decide, by decide, rfl, rfl⟩ (by simp; omega)
  exact ⟨o, ho, hp⟩

theorem L_order (N : Nat) (l : List (List Bs)) (b : Int) (hb0 : 0 ≤ b) (hb1 : b < 256) (hN : 1000000 < N) : F8 N l b = some true := by
  unfold F8 V8
  obtain ⟨n, rfl⟩ := Int.eq_ofNat_of_zero_le hb0
  simp only [ev_br, ev_c1, P_awake N (by omega), obind_some, ev_leaf, ev_f1]
  by_cases h20 : (20 : Int) < (l.length : Int)
  · simp [h20]
  · by_cases h0 : l.length = 0
    · simp [h0]
    · have z : ((l.length : Int) == 0) = false := by rw [beq_eq_false_iff_ne]; omega
      simp only [decide_eq_false h20, z, Bool.false_eq_true, if_false]
      obtain ⟨o, ho, hp⟩ := O_paths N l (n : Int) (by omega) (by omega)
      rcases hp with rfl | ⟨rfl, hf⟩
      · simp only [ho, lp1_retP]; rfl
      · obtain ⟨o2, ho2, hp2⟩ := O_adds N l n (by omega) (by omega) (by omega) hf (by omega)
        rcases hp2 with rfl | ⟨u, v, rfl, hu, rfl⟩
        · simp only [ho, lp1_brk, ho2, lp1_retP]; rfl
        · have hul := right_len hu
          have hS := F_same N u u (by omega) (by show _ ≤ 9223372036854775807; omega)
          simp only [ho, lp1_brk, ho2, hS, obind_some, decide_true, if_true]

end Go.Proofs.Ytkbciolghkcjoaa.Vc
