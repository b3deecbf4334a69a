/-
  THE LAWS ON COMMANDS, told of data. No condition.
-/
import Derived.Test.YtkbciolghkcjoaaPp
set_option linter.unusedVariables false
set_option linter.unusedSimpArgs false
namespace Go.Proofs.Ytkbciolghkcjoaa.Vc

theorem P_read_ok (N : Nat) (s : Bs) (hs : s.length ≤ 1000000) (hN : s.length + 5000 < N) {l : List RTok} {cs : List Cmd} {v : List Ln} (h1 : lexR s = .ok l) (h2 : Parses (l.map bareT) cs) (h3 : Acts [] cs v) : F19 N s = some (v, 0, 0) := by
  obtain ⟨w, a, e, h, hc⟩ := P_read N s hs hN
  rcases hc with ⟨rfl, rfl, _, l', cs', h4, h5, h6⟩ | ⟨_, _, hno, _⟩
  · rw [h1] at h4
    injection h4 with h4
    subst h4
    have e1 := (run_iff (l.length + 1) (l.map bareT) [] v (by simp)).2 ⟨cs, h2, h3⟩
    have e2 := (run_iff (l.length + 1) (l.map bareT) [] w (by simp)).2 ⟨cs', h5, h6⟩
    rw [e1] at e2
    injection e2 with e2
    subst e2
    exact h
  · exact absurd h3 (hno l cs v h1 h2)

/-! ### A fixed answer -/

def lit1 : Bs := [115, 101, 116, 32, 97, 32, 99, 59, 32, 115, 101, 116, 32, 97, 32, 98, 59, 32, 112, 114, 111, 116, 101, 99, 116, 32, 97, 32, 98, 59]
def lit2 : Bs := [115, 101, 116, 32, 97, 59, 32, 100, 101, 97, 99, 116, 105, 118, 97, 116, 101, 32, 98, 59]
def lit3 : Bs := [115, 101, 116, 32, 97, 32, 98, 59, 10, 115, 101, 116, 32, 97, 32, 99, 59, 10, 112, 114, 111, 116, 101, 99, 116, 32, 97, 32, 98, 59, 10]
def litT : List Ln := [(0, [97], 0), (1, [98], 2), (1, [99], 0)]
def litL (s : Bs) : List RTok := match lexR s with | .ok l => l | .error _ => []
theorem lit1_lex : lexR lit1 = .ok (litL lit1) := by kernel_rfl
theorem lit2_lex : lexR lit2 = .ok (litL lit2) := by kernel_rfl
theorem lit1_run : runF ((litL lit1).length + 1) ((litL lit1).map bareT) [] = some litT := by kernel_rfl
theorem lit2_run : runF ((litL lit2).length + 1) ((litL lit2).map bareT) [] = none := by kernel_rfl
theorem lit2_fail : failE ((litL lit2).length + 1) ((litL lit2).map (toTok lit2.length)) [] = some (7, 3) := by kernel_rfl
theorem lit_text : textT6 litT = lit3 := by kernel_rfl
theorem lit_right : rightS litT = true := by kernel_rfl

theorem P_awake (N : Nat) (hN : 6000 < N) : F12 N = some true := by
  unfold F12 V12
  have e1 : F19 N lit1 = some (litT, 0, 0) := by
    obtain ⟨cs, h1, h2⟩ := (run_iff _ _ _ _ (by simp)).1 lit1_run
    exact P_read_ok N lit1 (by decide) (by show 30 + 5000 < N; omega) lit1_lex h1 h2
  have e2 : ∃ v, F19 N lit2 = some (v, 7, 3) := by
    obtain ⟨w, a, e, h, hc⟩ := P_read N lit2 (by decide) (by show 20 + 5000 < N; omega)
    rcases hc with ⟨_, _, _, l, cs, h1, h2, h3⟩ | ⟨_, _, _, hf⟩
    · rw [lit2_lex] at h1
      injection h1 with h1
      subst h1
      have := (run_iff ((litL lit2).length + 1) ((litL lit2).map bareT) [] w (by simp)).2 ⟨cs, h2, h3⟩
      rw [lit2_run] at this; cases this
    · have := hf _ _ lit2_lex lit2_fail
      injection this with ha he
      subst ha; subst he
      exact ⟨w, h⟩
  obtain ⟨v, e2⟩ := e2
  have e3 := P_text N litT (by show 3 < N; omega) (by omega)
  rw [if_pos lit_right, lit_text] at e3
  have s1 : ([115, 101, 116, 32, 97, 32, 99, 59, 32, 115, 101, 116, 32, 97, 32, 98, 59, 32, 112, 114, 111, 116, 101, 99, 116, 32, 97, 32, 98, 59] : Bs) = lit1 := rfl
  have s2 : ([115, 101, 116, 32, 97, 59, 32, 100, 101, 97, 99, 116, 105, 118, 97, 116, 101, 32, 98, 59] : Bs) = lit2 := rfl
  have s3 : ([115, 101, 116, 32, 97, 32, 98, 59, 10, 115, 101, 116, 32, 97, 32, 99, 59, 10, 112, 114, 111, 116, 101, 99, 116, 32, 97, 32, 98, 59, 10] : Bs) = lit3 := rfl
  have l3 : litT.length = 3 := rfl
  have c1 : inR 1 litT.length := ⟨by decide, by decide⟩
  have a1 : atI tLn litT 1 = ((1, [98], 2) : Ln) := rfl
  simp (config := { decide := true }) only [ev_br, ev_leaf, ev_c1, ev_c2, ev_c3, ev_c4, ev_cr, ev_cr2, ev_f0, ev_f1, ev_f2, obind_some, decide_eq_true_eq, Bool.not_eq_true', Bool.true_eq_false, Bool.false_eq_true, if_true, if_false, reduceCtorEq, s1, s2, s3, e1, e2, e3, l3, ev_ck c1, a1, beq_self_eq_true]

/-! ### The laws -/

theorem addS_len (t : List Ln) (q : List Bs) : (addS t q).1.length ≤ 200 ∨ (addS t q).1 = t := by
  unfold addS
  split
  · rename_i h
    exact .inl (right_len (addL_tree h).1)
  · exact .inr rfl
theorem small_len {t : List Ln} (h : smallS t = true) : t.length ≤ 220 := by
  unfold smallS at h
  simp only [Bool.and_eq_true, decide_eq_true_eq] at h
  exact h.1
theorem short_len {q : List Bs} (h : shortS q = true) : q.length ≤ 40 := by
  unfold shortS at h
  simp only [Bool.and_eq_true, decide_eq_true_eq] at h
  exact h.1

theorem L_add (N : Nat) (t : List Ln) (q : List Bs) (hN : 6000 < N) : F3 N t q = some true := by
  unfold F3 V3
  simp only [ev_br, ev_leaf, ev_c1, ev_c2, ev_c3, ev_c4, ev_cr, ev_cr2, ev_f0, ev_f1, ev_f2, obind_some, decide_eq_true_eq, Bool.not_eq_true', Bool.true_eq_false, Bool.false_eq_true, if_true, if_false, reduceCtorEq, F_small N t (by omega), F_short N q (by omega), P_awake N hN]
  by_cases hs : smallS t = true
  · by_cases hq : shortS q = true
    · have h1 := small_len hs
      have h2 := short_len hq
      have hE := E_add N t q (by omega) (by omega) (by omega) (by omega)
      have hR := R_add N t q (by omega) (by omega) (by omega) (by omega)
      have hl : (addS t q).1.length ≤ 220 := by
        rcases addS_len t q with h | h
        · omega
        · rw [h]; exact h1
      have hS := F_same N (addS t q).1 (addS t q).1 (by omega) (by show _ ≤ 9223372036854775807; omega)
      generalize addS t q = A at *
      generalize decide (addE t q = 0) = b at *
      cases b <;> simp only [ev_br, ev_leaf, ev_c1, ev_c2, ev_c3, ev_c4, ev_cr, ev_cr2, ev_f0, ev_f1, ev_f2, obind_some, decide_eq_true_eq, Bool.not_eq_true', Bool.true_eq_false, Bool.false_eq_true, if_true, if_false, reduceCtorEq, hs, hq, hE, hR, hS, decide_true, beq_self_eq_true, Bool.not_true]
    · simp [hs, hq]
  · simp [hs]

theorem L_text (N : Nat) (t : List Ln) (hN : 6000 < N) : F4 N t = some true := by
  unfold F4 V4
  simp only [ev_br, ev_leaf, ev_c1, ev_c2, ev_c3, ev_c4, ev_cr, ev_cr2, ev_f0, ev_f1, ev_f2, obind_some, decide_eq_true_eq, Bool.not_eq_true', Bool.true_eq_false, Bool.false_eq_true, if_true, if_false, reduceCtorEq, F_small N t (by omega), P_awake N hN]
  by_cases hs : smallS t = true
  · have h1 := small_len hs
    have hT := P_text N t (by omega) (by omega)
    have hR := R_right N t (by omega)
    by_cases hr : rightS t = true
    · have hX := R_text6 N t hr (by omega)
      rw [if_pos hr] at hT
      simp only [ev_br, ev_leaf, ev_c1, ev_c2, ev_c3, ev_c4, ev_cr, ev_cr2, ev_f0, ev_f1, ev_f2, obind_some, decide_eq_true_eq, Bool.not_eq_true', Bool.true_eq_false, Bool.false_eq_true, if_true, if_false, reduceCtorEq, hs, hT, hR, hr, hX, beq_self_eq_true, Bool.not_true]
    · have hr' : rightS t = false := by simpa using hr
      rw [if_neg hr] at hT
      simp only [ev_br, ev_leaf, ev_c1, ev_c2, ev_c3, ev_c4, ev_cr, ev_cr2, ev_f0, ev_f1, ev_f2, obind_some, decide_eq_true_eq, Bool.not_eq_true', Bool.true_eq_false, Bool.false_eq_true, if_true, if_false, reduceCtorEq, hs, hT, hR, hr', beq_self_eq_true, Bool.not_true, Bool.not_false]
  · simp [hs]

theorem text_len {t : List Ln} (ht : rightS t = true) : (textT6 t).length ≤ 8100 * t.length := by
  have e : textT6 t = ((leafL t).flatMap fun k => cmdW setW (pth t k)) ++ (List.range t.length).flatMap (mrkT t) := by
    unfold textT6 cmdsT
    rw [List.flatMap_append, List.flatMap_map]
    congr 1
    rw [List.flatMap_assoc]
    rfl
  have h1 := flat_len (fun k => cmdW setW (pth t k)) 2700 (leafL t) (fun k hk => cmdW_len (by decide) (pth_fine ht (leaf_lt hk)))
  have h2 := flat_len (mrkT t) 5400 (List.range t.length) (fun k hk => mrkT_len ht (List.mem_range.1 hk))
  have h3 := List.length_filter_le (fun k => endN t k == k + 1) (List.range t.length)
  have h4 : (leafL t).length ≤ t.length := by unfold leafL; simpa using h3
  rw [List.length_range] at h2
  rw [e, List.length_append]
  omega

theorem L_back (N : Nat) (t : List Ln) (hN : 1000000 < N) : F5 N t = some true := by
  unfold F5 V5
  simp only [ev_br, ev_leaf, ev_c1, ev_c2, ev_c3, ev_c4, ev_cr, ev_cr2, ev_f0, ev_f1, ev_f2, obind_some, decide_eq_true_eq, Bool.not_eq_true', Bool.true_eq_false, Bool.false_eq_true, if_true, if_false, reduceCtorEq, F_small N t (by omega), P_awake N (by omega)]
  by_cases hs : smallS t = true
  · by_cases h60 : (60 : Int) < (t.length : Int)
    · simp [hs, h60]
    · have hT := P_text N t (by omega) (by omega)
      by_cases hr : rightS t = true
      · rw [if_pos hr] at hT
        have hlen := text_len hr
        obtain ⟨l, h1, cs, h2, h3⟩ := text_back hr
        have hR := P_read_ok N (textT6 t) (by omega) (by omega) h1 h2 h3
        have hS := F_same N t t (by omega) (by show _ ≤ 9223372036854775807; omega)
        simp only [ev_br, ev_leaf, ev_c1, ev_c2, ev_c3, ev_c4, ev_cr, ev_cr2, ev_f0, ev_f1, ev_f2, obind_some, decide_eq_true_eq, Bool.not_eq_true', Bool.true_eq_false, Bool.false_eq_true, if_true, if_false, reduceCtorEq, hs, h60, hT, hR, hS, decide_true, beq_self_eq_true, Bool.not_true, bne_self_eq_false]
      · rw [if_neg hr] at hT
        simp (config := { decide := true }) only [ev_br, ev_leaf, ev_c1, ev_c2, ev_c3, ev_c4, ev_cr, ev_cr2, ev_f0, ev_f1, ev_f2, obind_some, decide_eq_true_eq, Bool.not_eq_true', Bool.true_eq_false, Bool.false_eq_true, if_true, if_false, reduceCtorEq, hs, h60, hT, beq_self_eq_true, Bool.not_true]
  · simp [hs]

theorem L_twice (N : Nat) (s : Bs) (hN : 1000000 < N) : F6 N s = some true := by
  unfold F6 V6
  simp only [ev_br, ev_leaf, ev_c1, ev_c2, ev_c3, ev_c4, ev_cr, ev_cr2, ev_f0, ev_f1, ev_f2, obind_some, decide_eq_true_eq, Bool.not_eq_true', Bool.true_eq_false, Bool.false_eq_true, if_true, if_false, reduceCtorEq, P_awake N (by omega)]
  by_cases h300 : (300 : Int) < (s.length : Int)
  · simp [h300]
  · obtain ⟨v, a, e, h, hc⟩ := P_read N s (by omega) (by omega)
    rcases hc with ⟨rfl, rfl, hv, l, cs, h1, h2, h3⟩ | ⟨he, rfl, _, _⟩
    · obtain ⟨l', g1, cs', g2, g3⟩ := text_twice h1 h2 h3
      have hj : (s ++ ([10] : Bs)) ++ s = s ++ 10 :: s := by simp
      have hjl : (s ++ 10 :: s).length = 2 * s.length + 1 := by simp; omega
      have hR := P_read_ok N (s ++ 10 :: s) (by omega) (by omega) g1 g2 g3
      have hvl := right_len hv
      have hS := F_same N v v (by omega) (by show _ ≤ 9223372036854775807; omega)
      have r1 : room (s.length + ([10] : Bs).length) := by show _ ≤ _; simp; omega
      have r2 : room ((s ++ ([10] : Bs)).length + s.length) := by show _ ≤ _; simp; omega
      simp only [ev_br, ev_leaf, ev_c1, ev_c2, ev_c3, ev_c4, ev_cr, ev_cr2, ev_f0, ev_f1, ev_f2, obind_some, decide_eq_true_eq, Bool.not_eq_true', Bool.true_eq_false, Bool.false_eq_true, if_true, if_false, reduceCtorEq, h300, h, ev_ck r1, ev_ck r2, hj, hR, hS, decide_true, beq_self_eq_true, Bool.not_true, bne_self_eq_false]
    · have ze : (e != 0) = true := by simpa using he
      simp (config := { decide := true }) only [ev_br, ev_leaf, ev_c1, ev_c2, ev_c3, ev_c4, ev_cr, ev_cr2, ev_f0, ev_f1, ev_f2, obind_some, decide_eq_true_eq, Bool.not_eq_true', Bool.true_eq_false, Bool.false_eq_true, if_true, if_false, reduceCtorEq, h300, h, ze]

end Go.Proofs.Ytkbciolghkcjoaa.Vc
