/-
  THE LAWS ON DIFFERENCES, told of data. No condition.
-/
import Derived.Test.YtncgafojgdemdaaDoorDr
set_option linter.unusedVariables false
set_option linter.unusedSimpArgs false
namespace Go.Proofs.YtncgafojgdemdaaDoor.Vc

theorem itoa_one {m : Int} {d : Nat} (h : m = (d : Int)) (h9 : d < 10) : Lib.itoa m = [UInt8.ofNat (48 + d)] := by
  subst h
  unfold Lib.itoa
  rw [if_neg (by omega), Int.toNat_natCast, Lib.decDigits_one h9]

def awkA : List Ln := [(0, [97], 0), (0, [98], 0)]
def awkB : List Ln := [(0, [98], 1), (1, [99], 2)]
def awkD : List Ch := [(1, [[97]], 0), (2, [[98], [99]], 2), (3, [[98]], 1)]
theorem awk_diff : diffL awkA awkB = awkD := by decide
theorem awk_txt : chTxt awkD = [45, 32, 97, 10, 43, 32, 98, 32, 99, 32, 40, 50, 41, 10, 33, 32, 98, 32, 40, 49, 41, 10] := by
  have i2 : Lib.itoa 2 = [50] := itoa_one (d := 2) rfl (by omega)
  have i1 : Lib.itoa 1 = [49] := itoa_one (d := 1) rfl (by omega)
  have e1 : rowS (1, [[97]], 0) = [45, 32, 97, 10] := by
    unfold rowS numS
    rw [if_neg (by simp)]
    decide
  have e2 : rowS (2, [[98], [99]], 2) = [43, 32, 98, 32, 99, 32, 40, 50, 41, 10] := by
    unfold rowS numS
    rw [if_pos (by simp), i2]
    decide
  have e3 : rowS (3, [[98]], 1) = [33, 32, 98, 32, 40, 49, 41, 10] := by
    unfold rowS numS
    rw [if_pos (by simp), i1]
    decide
  unfold chTxt awkD
  simp only [List.flatMap_cons, List.flatMap_nil, e1, e2, e3]
  rfl

theorem D_awake (N : Nat) (hN : 5000 < N) : F10 N = some true := by
  have hA : rightS awkA = true := by decide
  have hB : rightS awkB = true := by decide
  have e1 := D_of N awkA awkB (by simp [awkA]; omega) (by simp [awkB]; omega) (by omega)
  rw [if_pos ⟨hA, hB⟩, awk_diff] at e1
  have hG := diff_makes hA hB (by decide)
  rw [awk_diff] at hG
  have e2 := D_apply N hA hG (by simp [awkD]; omega) (by decide) (by omega)
  have e3 := F_same N awkB awkB (by simp [awkB]; omega) (by show _ ≤ 9223372036854775807; simp [awkB])
  have e4 := F_text N awkD (by decide) (fun c hc => by
    unfold awkD at hc
    simp only [List.mem_cons, List.not_mem_nil, or_false] at hc
    rcases hc with rfl | rfl | rfl <;> (refine ⟨?_, ?_, ?_⟩ <;> simp)) hN
  rw [awk_txt] at e4
  have l3 : ((awkD.length : Int) == 3) = true := rfl
  have z0 : ((0 : Int) == 0) = true := rfl
  unfold F10 V10
  have e1' : F11o N ([(0, ([97] : Bs), 0), (0, ([98] : Bs), 0)] : (List Ln)) ([(0, ([98] : Bs), 1), (1, ([99] : Bs), 2)] : (List Ln)) = some (awkD, 0) := e1
  have e2' : F18 N ([(0, ([97] : Bs), 0), (0, ([98] : Bs), 0)] : (List Ln)) awkD = some (awkB, (awkD.length : Int), 0) := e2
  have e3' : F19 N awkB ([(0, ([98] : Bs), 1), (1, ([99] : Bs), 2)] : (List Ln)) = some (decide (awkB = awkB)) := e3
  simp only [ev_br, ev_leaf, ev_c1, ev_c2, ev_c3, ev_c4, ev_cr, ev_cr2, ev_f0, ev_f1, ev_f2, obind_some, decide_eq_true_eq, Bool.not_eq_true', Bool.true_eq_false, Bool.false_eq_true, if_true, if_false, reduceCtorEq, e1', e2', e3', e4, l3, z0, decide_true, beq_self_eq_true]

theorem L_of (N : Nat) (a b : List Ln) (hN : 5000 < N) : F3 N a b = some true := by
  unfold F3 V3
  simp only [ev_br, ev_leaf, ev_c1, ev_c2, ev_c3, ev_c4, ev_cr, ev_cr2, ev_f0, ev_f1, ev_f2, obind_some, decide_eq_true_eq, Bool.not_eq_true', Bool.true_eq_false, Bool.false_eq_true, if_true, if_false, reduceCtorEq, F_small N a (by omega), F_small N b (by omega), D_awake N hN]
  by_cases s1 : smallS a = true
  · by_cases s2 : smallS b = true
    · by_cases l1 : (60 : Int) < (a.length : Int)
      · simp [s1, s2, l1]
      · by_cases l2 : (60 : Int) < (b.length : Int)
        · simp [s1, s2, l1, l2]
        · have hO := D_of N a b (by omega) (by omega) (by omega)
          have hra := R_right N a (by omega)
          have hrb := R_right N b (by omega)
          have z0 : (((([] : List Ch).length : Nat) : Int) == 0) = true := rfl
          by_cases ha : rightS a = true
          · by_cases hb : rightS b = true
            · rw [if_pos ⟨ha, hb⟩] at hO
              obtain ⟨x, hx, hx2⟩ := R_refs N (diffL a b) hN
              rw [diff_fit ha hb (by omega)] at hx hx2
              rw [hx2 rfl] at hx
              have hl := diff_len a b
              have hf := diff_fine ha hb
              have hR := R_of N a b ha hb (by omega)
              have hS := R_same N (diffL a b) (by omega) (fun c hc => by have := (hf c hc).1; omega) hN
              have hok : ∀ c ∈ diffL a b, okC c := fun c hc => by
                obtain ⟨h1, _, h2, h3⟩ := hf c hc
                exact ⟨by omega, h2, by omega⟩
              have hT := F_text N (diffL a b) (by omega) hok hN
              have hT2 := R_text N (diffL a b) (by omega) hok (fun c hc w hw => by have := (hf c hc).2.1 w hw; omega) hN
              simp only [ev_br, ev_leaf, ev_c1, ev_c2, ev_c3, ev_c4, ev_cr, ev_cr2, ev_f0, ev_f1, ev_f2, obind_some, decide_eq_true_eq, Bool.not_eq_true', Bool.true_eq_false, Bool.false_eq_true, if_true, if_false, reduceCtorEq, s1, s2, l1, l2, hO, hra, hrb, ha, hb, Bool.not_true, hx, hR, hS, hT, hT2, beq_self_eq_true]
            · rw [if_neg (fun h => hb h.2)] at hO
              simp [s1, s2, l1, l2, hO, hra, hrb, ha, hb]
          · rw [if_neg (fun h => ha h.1)] at hO
            simp [s1, s2, l1, l2, hO, hra, ha]
    · simp [s1, s2]
  · simp [s1]

theorem L_makes (N : Nat) (a b : List Ln) (hN : 5000 < N) : F4 N a b = some true := by
  unfold F4 V4
  simp only [ev_br, ev_leaf, ev_c1, ev_c2, ev_c3, ev_c4, ev_cr, ev_cr2, ev_f0, ev_f1, ev_f2, obind_some, decide_eq_true_eq, Bool.not_eq_true', Bool.true_eq_false, Bool.false_eq_true, if_true, if_false, reduceCtorEq, F_small N a (by omega), F_small N b (by omega), D_awake N hN]
  by_cases s1 : smallS a = true
  · by_cases s2 : smallS b = true
    · by_cases l1 : (60 : Int) < (a.length : Int)
      · simp [s1, s2, l1]
      · by_cases l2 : (60 : Int) < (b.length : Int)
        · simp [s1, s2, l1, l2]
        · have hO := D_of N a b (by omega) (by omega) (by omega)
          by_cases h : rightS a = true ∧ rightS b = true
          · rw [if_pos h] at hO
            have hl := diff_len a b
            have hA := D_apply N h.1 (diff_makes h.1 h.2 (by omega)) (by omega) (by omega) (by omega)
            have hS := F_same N b b (by omega) (by show _ ≤ 9223372036854775807; omega)
            have hS2 := F_same N a b (by omega) (by show _ ≤ 9223372036854775807; omega)
            have hn := diff_nil h.1 h.2 (by omega)
            have hz : ((((diffL a b).length : Int) == 0) == decide (a = b)) = true := by
              rw [beq_iff_eq, Bool.eq_iff_iff, beq_iff_eq, decide_eq_true_eq, ← hn, ← List.length_eq_zero_iff]
              omega
            simp only [ev_br, ev_leaf, ev_c1, ev_c2, ev_c3, ev_c4, ev_cr, ev_cr2, ev_f0, ev_f1, ev_f2, obind_some, decide_eq_true_eq, Bool.not_eq_true', Bool.true_eq_false, Bool.false_eq_true, if_true, if_false, reduceCtorEq, s1, s2, l1, l2, hO, bne_self_eq_false, hA, hS, hS2, hz, decide_true, beq_self_eq_true, Bool.not_true]
          · rw [if_neg h] at hO
            simp [s1, s2, l1, l2, hO]
    · simp [s1, s2]
  · simp [s1]

theorem L_back (N : Nat) (a b : List Ln) (hN : 5000 < N) : F5 N a b = some true := by
  unfold F5 V5
  simp only [ev_br, ev_leaf, ev_c1, ev_c2, ev_c3, ev_c4, ev_cr, ev_cr2, ev_f0, ev_f1, ev_f2, obind_some, decide_eq_true_eq, Bool.not_eq_true', Bool.true_eq_false, Bool.false_eq_true, if_true, if_false, reduceCtorEq, F_small N a (by omega), F_small N b (by omega), D_awake N hN]
  by_cases s1 : smallS a = true
  · by_cases s2 : smallS b = true
    · by_cases l1 : (60 : Int) < (a.length : Int)
      · simp [s1, s2, l1]
      · by_cases l2 : (60 : Int) < (b.length : Int)
        · simp [s1, s2, l1, l2]
        · have hO := D_of N a b (by omega) (by omega) (by omega)
          have hO2 := D_of N b a (by omega) (by omega) (by omega)
          by_cases h : rightS a = true ∧ rightS b = true
          · rw [if_pos h] at hO
            rw [if_pos h.symm] at hO2
            have hl := diff_len a b
            have hl2 := diff_len b a
            have hG := (diff_makes h.1 h.2 (by omega)).app (diff_makes h.2 h.1 (by omega))
            have hA := D_apply N h.1 hG (by simp; omega) (by simp; omega) (by omega)
            have hA' : F18 N a ((([] : List Ch) ++ diffL a b) ++ diffL b a) = some (a, ((diffL a b ++ diffL b a).length : Int), 0) := hA
            have hS := F_same N a a (by omega) (by show _ ≤ 9223372036854775807; omega)
            have r1 : room (([] : List Ch).length + (diffL a b).length) := by show _ ≤ _; simp; omega
            have r2 : room ((([] : List Ch) ++ diffL a b).length + (diffL b a).length) := by show _ ≤ _; simp; omega
            have hw : IntKind.i64.wrap (((diffL a b).length : Int) + ((diffL b a).length : Int)) = ((diffL a b ++ diffL b a).length : Int) := by
              rw [wrapI (by omega) (by omega), List.length_append]; omega
            simp only [ev_br, ev_leaf, ev_c1, ev_c2, ev_c3, ev_c4, ev_cr, ev_cr2, ev_f0, ev_f1, ev_f2, obind_some, decide_eq_true_eq, Bool.not_eq_true', Bool.true_eq_false, Bool.false_eq_true, if_true, if_false, reduceCtorEq, s1, s2, l1, l2, hO, hO2, bne_self_eq_false, ev_ck r1, ev_ck r2, hA', hw, hS, decide_true, beq_self_eq_true, Bool.not_true]
          · rw [if_neg h] at hO
            rw [if_neg (fun h2 => h h2.symm)] at hO2
            simp [s1, s2, l1, l2, hO, hO2]
    · simp [s1, s2]
  · simp [s1]

theorem L_text (N : Nat) (l : List Ch) (hN : 5000 < N) : F6 N l = some true := by
  unfold F6 V6
  obtain ⟨x, hx, hx2⟩ := R_refs N l hN
  simp only [ev_br, ev_leaf, ev_c1, ev_c2, ev_c3, ev_c4, ev_cr, ev_cr2, ev_f0, ev_f1, ev_f2, obind_some, decide_eq_true_eq, Bool.not_eq_true', Bool.true_eq_false, Bool.false_eq_true, if_true, if_false, reduceCtorEq, hx, D_awake N hN]
  by_cases hf : fitL l = true
  · have hxl := hx2 hf
    subst hxl
    by_cases h60 : (60 : Int) < (x.length : Int)
    · simp [hf, h60]
    · have hfit : ∀ c ∈ x, shortS c.2.1 = true := by
        unfold fitL at hf
        rw [Bool.and_eq_true, List.all_eq_true] at hf
        exact hf.2
      obtain ⟨o, ho, hp⟩ := runLoop_post (R := Bool) (step := fun z => L6_5 N z.1 z.2.1 z.2.2.1 z.2.2.2.1 z.2.2.2.2)
        (fun z => ∃ k : Nat, k ≤ x.length ∧ z = (x, x, x, (x.length : Int), (k : Int)) ∧ ∀ c ∈ x.take k, 0 ≤ c.2.2 ∧ c.2.2 ≤ 1000000000) (fun z => (x.length - z.2.2.2.2).toNat)
        (fun o => o = .ret true ∨ (o = .brk 0 (x, x, x, (x.length : Int), (x.length : Int)) ∧ ∀ c ∈ x, 0 ≤ c.2.2 ∧ c.2.2 ≤ 1000000000))
        (by
          rintro z ⟨k, hk, rfl, hall⟩
          dsimp only
          unfold L6_5 U6_5
          by_cases h : k < x.length
          · have hk' : (k : Int) < x.length := by omega
            have c1 : inR (k : Int) x.length := ⟨by omega, hk'⟩
            have hat : atI (.pair tI (.pair (.list tS) tI)) x (k : Int) = x[k] := by show x.getD k _ = _; simp [h]
            by_cases m0 : x[k].2.2 < 0
            · simp (disch := first | assumption | omega) only [ev_br, ev_leaf, ev_c1, ev_c2, ev_c3, ev_c4, ev_cr, ev_cr2, ev_f0, ev_f1, ev_f2, obind_some, decide_eq_true_eq, Bool.not_eq_true', Bool.true_eq_false, Bool.false_eq_true, if_true, if_false, reduceCtorEq, hk', ev_ck c1, hat, m0, D_awake N hN]
              exact ⟨_, rfl, .inr ⟨by simp, .inl rfl⟩⟩
            · by_cases m9 : (1000000000 : Int) < x[k].2.2
              · simp (disch := first | assumption | omega) only [ev_br, ev_leaf, ev_c1, ev_c2, ev_c3, ev_c4, ev_cr, ev_cr2, ev_f0, ev_f1, ev_f2, obind_some, decide_eq_true_eq, Bool.not_eq_true', Bool.true_eq_false, Bool.false_eq_true, if_true, if_false, reduceCtorEq, hk', ev_ck c1, hat, m0, m9, D_awake N hN]
                exact ⟨_, rfl, .inr ⟨by simp, .inl rfl⟩⟩
              · simp (disch := first | assumption | omega) only [ev_br, ev_leaf, ev_c1, ev_c2, ev_c3, ev_c4, ev_cr, ev_cr2, ev_f0, ev_f1, ev_f2, obind_some, decide_eq_true_eq, Bool.not_eq_true', Bool.true_eq_false, Bool.false_eq_true, if_true, if_false, reduceCtorEq, hk', ev_ck c1, hat, m0, m9, wrapI]
                refine ⟨_, rfl, .inl ⟨_, rfl, ⟨k + 1, by omega, rfl, fun c hc => ?_⟩, by simp only; omega⟩⟩
                rw [List.take_succ_eq_append_getElem h, List.mem_append, List.mem_singleton] at hc
                rcases hc with hc | rfl
                · exact hall c hc
                · omega
          · have hk' : ¬ (k : Int) < x.length := by omega
            have : k = x.length := by omega
            subst this
            rw [List.take_length] at hall
            exact ⟨_, by simp only [ev_br, decide_eq_false hk', Bool.false_eq_true, if_false, ev_leaf], .inr ⟨by simp, .inr ⟨rfl, hall⟩⟩⟩) N (x, x, x, (x.length : Int), 0) ⟨0, Nat.zero_le _, rfl, fun c hc => by simp at hc⟩ (by simp; omega)
      have hW : W6_5 N (x, x, x, (x.length : Int), 0) = some o := ho
      rcases hp with rfl | ⟨rfl, hp⟩
      · simp only [ev_br, ev_leaf, ev_c1, ev_c2, ev_c3, ev_c4, ev_cr, ev_cr2, ev_f0, ev_f1, ev_f2, obind_some, decide_eq_true_eq, Bool.not_eq_true', Bool.true_eq_false, Bool.false_eq_true, if_true, if_false, reduceCtorEq, hf, Bool.not_true, h60, hW, lp1_ret]
        rfl
      · have hsh : ∀ c ∈ x, c.2.1.length ≤ 40 ∧ ∀ w ∈ c.2.1, w.length ≤ 100 := fun c hc => by
          have := hfit c hc
          unfold shortS at this
          rw [Bool.and_eq_true, decide_eq_true_eq, List.all_eq_true] at this
          exact ⟨this.1, fun w hw => by simpa using this.2 w hw⟩
        have hok : ∀ c ∈ x, okC c := fun c hc => ⟨(hsh c hc).1, hp c hc⟩
        have hT := F_text N x (by omega) hok hN
        have hT2 := R_text N x (by omega) hok (fun c hc w hw => by have := (hsh c hc).2 w hw; omega) hN
        simp only [ev_br, ev_leaf, ev_c1, ev_c2, ev_c3, ev_c4, ev_cr, ev_cr2, ev_f0, ev_f1, ev_f2, obind_some, decide_eq_true_eq, Bool.not_eq_true', Bool.true_eq_false, Bool.false_eq_true, if_true, if_false, reduceCtorEq, hf, Bool.not_true, h60, hW, lp1_brk, hT, hT2, beq_self_eq_true]
  · simp [hf]

theorem L_once (N : Nat) (a b : List Ln) (hN : 5000 < N) : F7 N a b = some true := by
  unfold F7 V7
  simp only [ev_br, ev_leaf, ev_c1, ev_c2, ev_c3, ev_c4, ev_cr, ev_cr2, ev_f0, ev_f1, ev_f2, obind_some, decide_eq_true_eq, Bool.not_eq_true', Bool.true_eq_false, Bool.false_eq_true, if_true, if_false, reduceCtorEq, F_small N a (by omega), F_small N b (by omega), D_awake N hN]
  by_cases s1 : smallS a = true
  · by_cases s2 : smallS b = true
    · by_cases l1 : (60 : Int) < (a.length : Int)
      · simp [s1, s2, l1]
      · by_cases l2 : (60 : Int) < (b.length : Int)
        · simp [s1, s2, l1, l2]
        · have hO := D_of N a b (by omega) (by omega) (by omega)
          by_cases h : rightS a = true ∧ rightS b = true
          · rw [if_pos h] at hO
            have hlen := diff_len a b
            have hf := diff_fine h.1 h.2
            have hone := diff_once (right_rf h.1) (right_rf h.2)
            obtain ⟨l, hl⟩ : ∃ l, diffL a b = l := ⟨_, rfl⟩
            rw [hl] at hO hlen hf hone
            have hun : ∀ i k (hi : i < l.length) (hk : k < l.length), i ≠ k → Unlike l[i] l[k] := fun i k hi hk hne => by
              rcases Nat.lt_or_gt_of_ne hne with h1 | h1
              · exact (List.pairwise_iff_getElem.1 hone) i k hi hk h1
              · exact ((List.pairwise_iff_getElem.1 hone) k i hk hi h1).sym
            have hin : ∀ i (hi : i < l.length), W7_10 N (a, b, l, (i : Int), l[i], l, (l.length : Int), (i : Int), l, (l.length : Int), 0) = some (.brk 0 (a, b, l, (i : Int), l[i], l, (l.length : Int), (i : Int), l, (l.length : Int), (l.length : Int))) := fun i hi => by
              have hx := hf l[i] (List.getElem_mem hi)
              have := loop_up (R := Bool) (step := fun x => L7_10 N x.1 x.2.1 x.2.2.1 x.2.2.2.1 x.2.2.2.2.1 x.2.2.2.2.2.1 x.2.2.2.2.2.2.1 x.2.2.2.2.2.2.2.1 x.2.2.2.2.2.2.2.2.1 x.2.2.2.2.2.2.2.2.2.1 x.2.2.2.2.2.2.2.2.2.2) l.length (fun k => (a, b, l, (i : Int), l[i], l, (l.length : Int), (i : Int), l, (l.length : Int), (k : Int)))
                (fun k hk => by
                  unfold L7_10 U7_10
                  have hk' : (k : Int) < (l.length : Int) := by omega
                  have c1 : inR (k : Int) l.length := ⟨by omega, hk'⟩
                  have w1 : IntKind.i64.wrap ((k : Int) + 1) = ((k + 1 : Nat) : Int) := by rw [wrapI (by omega) (by omega)]; omega
                  have hat : atI (.pair tI (.pair (.list tS) tI)) l (k : Int) = l[k] := by show l.getD k _ = _; simp [hk]
                  by_cases hik : i = k
                  · have hb1 : ((i : Int) == (k : Int)) = true := by rw [beq_iff_eq]; omega
                    simp only [ev_br, ev_leaf, ev_c1, ev_c2, ev_c3, ev_c4, ev_cr, ev_cr2, ev_f0, ev_f1, ev_f2, obind_some, decide_eq_true_eq, Bool.not_eq_true', Bool.true_eq_false, Bool.false_eq_true, if_true, if_false, reduceCtorEq, decide_eq_true hk', ev_ck c1, hb1, w1]
                  · have hb1 : ((i : Int) == (k : Int)) = false := by rw [beq_eq_false_iff_ne]; omega
                    obtain ⟨u1, u2, u3⟩ := hun i k hi hk hik
                    have hy := hf l[k] (List.getElem_mem hk)
                    obtain ⟨x, hxi⟩ : ∃ x, l[i] = x := ⟨_, rfl⟩
                    obtain ⟨y, hyk⟩ : ∃ y, l[k] = y := ⟨_, rfl⟩
                    rw [hxi] at u1 u2 hx ⊢
                    rw [hyk] at u1 u2 hy hat
                    have hE := F_equal N x.2.1 y.2.1 (by omega) (by show _ ≤ 9223372036854775807; omega)
                    rw [decide_eq_false u1] at hE
                    by_cases k1 : x.1 = 1
                    · have kb : (x.1 == 1) = true := by simpa using k1
                      by_cases hlt : (x.2.1.length : Int) < (y.2.1.length : Int)
                      · have k2 : (0 : Int) ≤ 0 ∧ (0 : Int) ≤ (x.2.1.length : Int) ∧ (x.2.1.length : Int) ≤ (y.2.1.length : Int) := by omega
                        have hE2 := F_equal N (slc y.2.1 0 (x.2.1.length : Int)) x.2.1 (by rw [slc0, List.length_take]; omega) (by rw [slc0, List.length_take]; show _ ≤ 9223372036854775807; omega)
                        rw [decide_eq_false (fun e => u2 ⟨k1, by rw [← e, slc0]; exact List.take_prefix _ _⟩)] at hE2
                        simp only [ev_br, ev_leaf, ev_c1, ev_c2, ev_c3, ev_c4, ev_cr, ev_cr2, ev_f0, ev_f1, ev_f2, obind_some, decide_eq_true_eq, Bool.not_eq_true', Bool.true_eq_false, Bool.false_eq_true, if_true, if_false, reduceCtorEq, decide_eq_true hk', ev_ck c1, hb1, hat, hE, kb, decide_eq_true hlt, ev_ck k2, hE2, w1]
                      · simp only [ev_br, ev_leaf, ev_c1, ev_c2, ev_c3, ev_c4, ev_cr, ev_cr2, ev_f0, ev_f1, ev_f2, obind_some, decide_eq_true_eq, Bool.not_eq_true', Bool.true_eq_false, Bool.false_eq_true, if_true, if_false, reduceCtorEq, decide_eq_true hk', ev_ck c1, hb1, hat, hE, kb, decide_eq_false hlt, w1]
                    · have kb : (x.1 == 1) = false := by simpa using k1
                      simp only [ev_br, ev_leaf, ev_c1, ev_c2, ev_c3, ev_c4, ev_cr, ev_cr2, ev_f0, ev_f1, ev_f2, obind_some, decide_eq_true_eq, Bool.not_eq_true', Bool.true_eq_false, Bool.false_eq_true, if_true, if_false, reduceCtorEq, decide_eq_true hk', ev_ck c1, hb1, hat, hE, kb, w1])
                (by unfold L7_10 U7_10; simp) N (by omega)
              exact this
            have hout := loop_up (R := Bool) (step := fun x => L7_7 N x.1 x.2.1 x.2.2.1 x.2.2.2.1 x.2.2.2.2.1 x.2.2.2.2.2) l.length (fun k => (a, b, l, l, (l.length : Int), (k : Int)))
              (fun k hk => by
                unfold L7_7 U7_7
                have hk' : (k : Int) < (l.length : Int) := by omega
                have c1 : inR (k : Int) l.length := ⟨by omega, hk'⟩
                have w1 : IntKind.i64.wrap ((k : Int) + 1) = ((k + 1 : Nat) : Int) := by rw [wrapI (by omega) (by omega)]; omega
                have hat : atI (.pair tI (.pair (.list tS) tI)) l (k : Int) = l[k] := by show l.getD k _ = _; simp [hk]
                simp only [ev_br, decide_eq_true hk', if_true, ev_ck c1, hat, Vt.g1, ev_loop1, hin k hk, lp1_brk, ev_leaf, w1])
              (by unfold L7_7 U7_7; simp) N (by omega)
            have hW : W7_7 N (a, b, l, l, (l.length : Int), 0) = some (.brk 0 (a, b, l, l, (l.length : Int), (l.length : Int))) := hout
            have hle : (l.length : Int) ≤ IntKind.i64.wrap ((a.length : Int) + (b.length : Int)) := by rw [wrapI (by omega) (by omega)]; omega
            simp only [ev_br, ev_leaf, ev_c1, ev_c2, ev_c3, ev_c4, ev_cr, ev_cr2, ev_f0, ev_f1, ev_f2, obind_some, decide_eq_true_eq, Bool.not_eq_true', Bool.true_eq_false, Bool.false_eq_true, if_true, if_false, reduceCtorEq, s1, s2, l1, l2, hO, bne_self_eq_false, hW, lp1_brk, hle, Bool.not_true]
          · rw [if_neg h] at hO
            simp [s1, s2, l1, l2, hO]
    · simp [s1, s2]
  · simp [s1]

theorem L_step (N : Nat) (t : List Ln) (q : List Bs) (hN : 5000 < N) : F8 N t q = some true := by
  unfold F8 V8
  simp only [ev_br, ev_leaf, ev_c1, ev_c2, ev_c3, ev_c4, ev_cr, ev_cr2, ev_f0, ev_f1, ev_f2, obind_some, decide_eq_true_eq, Bool.not_eq_true', Bool.true_eq_false, Bool.false_eq_true, if_true, if_false, reduceCtorEq, F_small N t (by omega), F_short N q (by omega), D_awake N hN]
  by_cases s1 : smallS t = true
  · by_cases l1 : (60 : Int) < (t.length : Int)
    · simp [s1, l1]
    · by_cases s2 : shortS q = true
      · have hq40 : q.length ≤ 40 := by
          unfold shortS at s2
          rw [Bool.and_eq_true, decide_eq_true_eq] at s2
          exact s2.1
        have hA := R_add N t q (by omega) (by omega) (by omega) (by omega)
        unfold addS at hA
        by_cases he : addE t q = 0
        · rw [if_pos he] at hA
          obtain ⟨n, hn, hlen, hd⟩ := step_diff he
          have hr := (addE_ok he).1
          have hur := (addL_tree he).1
          have hO := D_of N t (addL t q) (by omega) (by omega) (by omega)
          rw [if_pos ⟨hr, hur⟩, hd] at hO
          obtain ⟨l, hl⟩ : ∃ l, (List.range n).map (fun i => ((2, q.take (q.length - n + 1 + i), 0) : Ch)) = l := ⟨_, rfl⟩
          rw [hl] at hO
          have hll : l.length = n := by rw [← hl]; simp
          have hget : ∀ k (hk : k < l.length), l[k] = ((2, q.take (q.length - n + 1 + k), 0) : Ch) := fun k hk => by
            subst hl; simp
          have hout := loop_up (R := Bool) (step := fun x => L8_8 N x.1 x.2.1 x.2.2.1 x.2.2.2.1 x.2.2.2.2.1 x.2.2.2.2.2.1 x.2.2.2.2.2.2.1 x.2.2.2.2.2.2.2) l.length (fun k => (t, q, addL t q, l, (0 : Int), l, (l.length : Int), (k : Int)))
            (fun k hk => by
              unfold L8_8 U8_8
              have hk' : (k : Int) < (l.length : Int) := by omega
              have c1 : inR (k : Int) l.length := ⟨by omega, hk'⟩
              have w1 : IntKind.i64.wrap ((k : Int) + 1) = ((k + 1 : Nat) : Int) := by rw [wrapI (by omega) (by omega)]; omega
              have hat : atI (.pair tI (.pair (.list tS) tI)) l (k : Int) = ((2, q.take (q.length - n + 1 + k), 0) : Ch) := by
                rw [← hget k hk]; show l.getD k _ = _; simp [hk]
              have w2 : IntKind.i64.wrap ((q.length : Int) - (l.length : Int)) = (q.length : Int) - (l.length : Int) := wrapI (by omega) (by omega)
              have w3 : IntKind.i64.wrap ((q.length : Int) - (l.length : Int) + 1) = (q.length : Int) - (l.length : Int) + 1 := wrapI (by omega) (by omega)
              have w4 : IntKind.i64.wrap ((q.length : Int) - (l.length : Int) + 1 + (k : Int)) = (q.length : Int) - (l.length : Int) + 1 + (k : Int) := wrapI (by omega) (by omega)
              have k2 : (0 : Int) ≤ 0 ∧ (0 : Int) ≤ ((q.length : Int) - (l.length : Int) + 1 + (k : Int)) ∧ ((q.length : Int) - (l.length : Int) + 1 + (k : Int)) ≤ (q.length : Int) := by omega
              have hsl : slc q 0 ((q.length : Int) - (l.length : Int) + 1 + (k : Int)) = q.take (q.length - n + 1 + k) := by
                rw [slc0]; congr 1; omega
              have hE := F_equal N (q.take (q.length - n + 1 + k)) (q.take (q.length - n + 1 + k)) (by rw [List.length_take]; omega) (by rw [List.length_take]; show _ ≤ 9223372036854775807; omega)
              have z1 : ((2 : Int) != 2) = false := rfl
              have z2 : ((0 : Int) != 0) = false := rfl
              simp only [ev_br, ev_leaf, ev_c1, ev_c2, ev_c3, ev_c4, ev_cr, ev_cr2, ev_f0, ev_f1, ev_f2, obind_some, decide_eq_true_eq, Bool.not_eq_true', Bool.true_eq_false, Bool.false_eq_true, if_true, if_false, reduceCtorEq, decide_eq_true hk', ev_ck c1, hat, z1, z2, w2, w3, w4, ev_ck k2, hsl, hE, decide_true, Bool.not_true, w1])
            (by unfold L8_8 U8_8; simp) N (by omega)
          have hW : W8_8 N (t, q, addL t q, l, 0, l, (l.length : Int), 0) = some (.brk 0 (t, q, addL t q, l, 0, l, (l.length : Int), (l.length : Int))) := hout
          have hz : ((l.length : Int) == IntKind.i64.wrap (((addL t q).length : Int) - (t.length : Int))) = true := by
            rw [wrapI (by omega) (by omega), beq_iff_eq]; omega
          simp only [ev_br, ev_leaf, ev_c1, ev_c2, ev_c3, ev_c4, ev_cr, ev_cr2, ev_f0, ev_f1, ev_f2, obind_some, decide_eq_true_eq, Bool.not_eq_true', Bool.true_eq_false, Bool.false_eq_true, if_true, if_false, reduceCtorEq, s1, l1, s2, Bool.not_true, hA, hO, bne_self_eq_false, hW, lp1_brk, beq_self_eq_true, hz]
        · rw [if_neg he] at hA
          have hO := D_of N t t (by omega) (by omega) (by omega)
          have hne : (addE t q != 0) = true := by simpa using he
          by_cases hr : rightS t = true
          · rw [if_pos ⟨hr, hr⟩, diff_self hr] at hO
            simp [s1, l1, s2, hA, hO, he]
          · rw [if_neg (fun h => hr h.1)] at hO
            simp [s1, l1, s2, hA, hO, he]
      · simp [s1, l1, s2]
  · simp [s1]

end Go.Proofs.YtncgafojgdemdaaDoor.Vc
