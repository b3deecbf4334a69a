/-
  THE STATEMENTS ON TOKENS: again, joins, comments, names, rises. No condition.
-/
import Derived.Test.YtojcdimaeiibdaaLl
import Derived.Test.YtojcdimaeiibdaaLq
set_option linter.unusedVariables false
set_option linter.unusedSimpArgs false
namespace Go.Proofs.Ytojcdimaeiibdaa.Vc

/-- A loop that counts up to its end. -/
theorem loop_up {X R : Type} {step : X → Option (Lp X R)} (n : Nat) (mk : Nat → X) (h1 : ∀ i, i < n → step (mk i) = some (.next (mk (i + 1)))) (h2 : step (mk n) = some (.brk 0 (mk n))) (N : Nat) (hN : n < N) :
    runLoop step N (mk 0) = some (.brk 0 (mk n)) := by
  have key : ∀ (k : Nat) (N : Nat) (i : Nat), i + k = n → k < N → runLoop step N (mk i) = some (.brk 0 (mk n)) := by
    intro k
    induction k with
    | zero =>
      intro N i hi hN
      obtain ⟨N, rfl⟩ : ∃ M, N = M + 1 := ⟨N - 1, by omega⟩
      have : i = n := by omega
      subst this
      unfold runLoop
      rw [h2]
    | succ k ih =>
      intro N i hi hN
      obtain ⟨N, rfl⟩ : ∃ M, N = M + 1 := ⟨N - 1, by omega⟩
      unfold runLoop
      rw [h1 i (by omega)]
      exact ih N (i + 1) (by omega) (by omega)
  exact key n N 0 (by omega) hN

theorem all_ok {s : Bs} {l : List RTok} (h : lexR s = .ok l) : allS s = (l.map (toTok s.length), 0, 0) := by unfold allS; rw [h]
theorem all_err {s : Bs} {k : Nat} {e : Int} (h : lexR s = .error (k, e)) : allS s = ([], (s.length : Int) - (k : Int), e) := by unfold allS; rw [h]
theorem not_ne0 : ¬((0 : Int) != 0) = true := by decide
theorem ne0_true {e : Int} (h : e ≠ 0) : (e != 0) = true := by simpa using h

/-! ### They rise -/

theorem Rising.get : ∀ {l : List RTok} {b : Nat}, Rising b l → ∀ (i : Nat) (h : i < l.length), 1 ≤ l[i].2.1 ∧ l[i].2.1 ≤ b ∧ ∀ (h2 : i + 1 < l.length), l[i + 1].2.1 < l[i].2.1
  | k :: l, b, hr, 0, _ => ⟨hr.2.1, hr.1, fun h2 => by
    cases l with
    | nil => simp at h2
    | cons k' l => simp only [List.getElem_cons_succ, List.getElem_cons_zero]; have := hr.2.2.1; have := hr.2.1; omega⟩
  | k :: l, b, hr, i + 1, h => by
    obtain ⟨h1, h2, h3⟩ := hr.2.2.get i (by simpa using h)
    simp only [List.getElem_cons_succ]
    exact ⟨h1, by have := hr.1; omega, fun h4 => h3 (by simpa using h4)⟩

theorem stands_byte {s : Bs} {k : RTok} (h : Stands s k) : ∃ c : UInt8, byteAt s ((s.length : Int) - (k.2.1 : Int)) = (c.toNat : Int) ∧ (k.1 = 2 ↔ c = 123) ∧ (k.1 = 3 ↔ c = 125) ∧ (k.1 = 4 ↔ c = 59) ∧ c ≠ 32 ∧ c ≠ 10 ∧ c ≠ 35 := by
  obtain ⟨c, r, h1, h2, h3⟩ := h
  refine ⟨c, ?_, h3⟩
  have h4 := List.suffix_iff_eq_drop.1 h1
  have h5 := h1.length_le
  simp only [List.length_cons] at h2 h4 h5
  have h6 : s.length - (r.length + 1) < s.length := by omega
  rw [List.drop_eq_getElem_cons h6] at h4
  have h7 : c = s[s.length - (r.length + 1)] := (List.cons.inj h4).1
  unfold byteAt
  rw [show ((s.length : Int) - (k.2.1 : Int)).toNat = s.length - (r.length + 1) by omega, List.getD_eq_getElem?_getD, List.getElem?_eq_getElem h6, h7]
  rfl

theorem law_rises (N : Nat) (s : Bs) (hN : 700 < N) : F9 N s = some true := by
  unfold F9 V9
  simp only [ev_br, ev_leaf, ev_c1, ev_c3, F_lawake N (by omega), obind_some, decide_eq_true_eq]
  by_cases hL : (600 : Int) < s.length
  · rw [if_pos hL]
  · rw [if_neg hL, F_all N s (by omega) (by omega), obind_some]
    cases hl : lexR s with
    | error e =>
      obtain ⟨k, e⟩ := e
      obtain ⟨h1, h2, h3⟩ := lex_err s.length s k e (Nat.le_refl _) hl
      rw [all_err hl, if_pos (ne0_true h3)]
      simp only [List.length_nil]
      rw [if_pos (by decide), if_pos (show (0 : Int) ≤ (s.length : Int) - (k : Int) by omega), if_pos (show (s.length : Int) - (k : Int) < s.length by omega)]
    | ok l =>
      obtain ⟨hr, hst⟩ := lex_stands hl
      have hll := lex_len s l hl
      rw [all_ok hl]
      dsimp only
      rw [if_neg not_ne0, ev_f1]
      simp only [List.length_map]
      obtain ⟨ts, hts⟩ : ∃ ts : List Tok, l.map (toTok s.length) = ts := ⟨_, rfl⟩
      have htl : ts.length = l.length := by rw [← hts, List.length_map]
      have hget : ∀ (j : Nat) (h : j < l.length), ts.getD j (0, 0, [], 0) = toTok s.length l[j] := fun j h => by rw [← hts]; simp [h]
      have := loop_up (R := Bool) (step := fun x => L9_8 N x.1 x.2.1 x.2.2.1 x.2.2.2.1 x.2.2.2.2) l.length
        (fun i => (s, (if i = 0 then (-1 : Int) else (ts.getD (i - 1) (0, 0, [], 0)).2.1), ts, (l.length : Int), (i : Int)))
        (fun i hi => by
          unfold L9_8 U9_8
          have hi' : (i : Int) < (l.length : Int) := by omega
          have c1 : inR (i : Int) ts.length := ⟨by omega, by omega⟩
          have hat : atI (.pair tI tLn) ts (i : Int) = toTok s.length l[i] := by
            exact hget i hi
          obtain ⟨g1, g2, g3⟩ := hr.get i hi
          have hk : (toTok s.length l[i]).2.1 = (s.length : Int) - (l[i].2.1 : Int) := rfl
          obtain ⟨c, hb, k2, k3, k4, k5, k6, k7⟩ := stands_byte (hst l[i] (List.getElem_mem hi))
          have c2 : inR ((s.length : Int) - (l[i].2.1 : Int)) s.length := ⟨by omega, by omega⟩
          have w1 : IntKind.i64.wrap ((i : Int) + 1) = ((i + 1 : Nat) : Int) := by rw [wrapI (by omega) (by omega)]; omega
          have hlast : ¬ (s.length : Int) - (l[i].2.1 : Int) ≤ (if i = 0 then (-1 : Int) else (ts.getD (i - 1) (0, 0, [], 0)).2.1) := by
            by_cases h0 : i = 0
            · rw [if_pos h0]; omega
            · rw [if_neg h0]
              have hp := (hr.get (i - 1) (by omega)).2.2 (by omega)
              have e : l[i - 1 + 1]'(by omega) = l[i] := by congr 1; omega
              rw [e] at hp
              rw [hget (i - 1) (by omega)]
              show ¬ (s.length : Int) - (l[i].2.1 : Int) ≤ (s.length : Int) - (l[i - 1].2.1 : Int)
              omega
          have q1 : ((toTok s.length l[i]).1 == 2) = decide (c = 123) := by rw [Bool.eq_iff_iff, beq_iff_eq, decide_eq_true_eq]; exact k2
          have q2 : ((toTok s.length l[i]).1 == 3) = decide (c = 125) := by rw [Bool.eq_iff_iff, beq_iff_eq, decide_eq_true_eq]; exact k3
          have q3 : ((toTok s.length l[i]).1 == 4) = decide (c = 59) := by rw [Bool.eq_iff_iff, beq_iff_eq, decide_eq_true_eq]; exact k4
          simp only [ev_br, ev_leaf, ev_ck c1, decide_eq_true_eq, if_pos hi', hat, hk, ev_ck c2, hb, is123, is125, is59, is32, is10, is35, q1, q2, q3, beq_self_eq_true, Bool.not_true, Bool.false_eq_true, if_false, if_neg hlast, if_neg k5, if_neg k6, if_neg k7, w1,
            if_neg (show ¬(s.length : Int) ≤ (s.length : Int) - (l[i].2.1 : Int) by omega)]
          rw [if_neg (Nat.succ_ne_zero i), Nat.add_sub_cancel, hget i hi]
          rfl)
        (by
          unfold L9_8 U9_8
          simp) N (by omega)
      unfold W9_8
      simp only [if_true, Int.natCast_zero] at this
      rw [hts, this, lp1_brk, ev_c1]
      rfl

/-! ### Joins -/

theorem toTok_shift (n k : Nat) (t : RTok) : toTok (n + k) (shiftT k t) = toTok n t := by
  unfold toTok shiftT
  simp only
  congr 2
  omega

theorem law_joins (N : Nat) (s t : Bs) (hN : 700 < N) : F6 N s t = some true := by
  unfold F6 V6
  simp only [ev_br, ev_leaf, ev_c1, ev_c3, F_lawake N (by omega), obind_some, decide_eq_true_eq]
  by_cases hL : (300 : Int) < s.length
  · rw [if_pos hL]
  by_cases hL2 : (300 : Int) < t.length
  · rw [if_neg hL, if_pos hL2]
  rw [if_neg hL, if_neg hL2, F_all N s (by omega) (by omega), obind_some]
  cases hl : lexR s with
  | error e =>
    obtain ⟨k, e⟩ := e
    obtain ⟨h1, h2, h3⟩ := lex_err s.length s k e (Nat.le_refl _) hl
    rw [all_err hl, if_pos (ne0_true h3)]
    rfl
  | ok a =>
    have hj := lex_joins t s.length s a (Nat.le_refl _) hl
    have hal := lex_len s a hl
    rw [all_ok hl]
    dsimp only
    rw [if_neg not_ne0, F_all N t (by omega) (by omega), obind_some]
    have r1 : room (s.length + ([10] : Bs).length) := by show _ ≤ _; simp; omega
    have r2 : room ((s ++ ([10] : Bs)).length + t.length) := by show _ ≤ _; simp; omega
    have hu : (s ++ ([10] : Bs)) ++ t = s ++ 10 :: t := by simp
    have hul : (s ++ 10 :: t).length = s.length + (t.length + 1) := by simp
    simp only [ev_ck r1, ev_ck r2, ev_c3, hu]
    rw [F_all N (s ++ 10 :: t) (by omega) (by omega), obind_some]
    have w1 : ∀ x : Int, -1000 ≤ x → x ≤ 1000 → IntKind.i64.wrap (IntKind.i64.wrap (x + (s.length : Int)) + 1) = x + s.length + 1 := fun x h1 h2 => by
      rw [wrapI (n := x + (s.length : Int)) (by omega) (by omega), wrapI (by omega) (by omega)]
    cases hlt : lexR t with
    | error e =>
      obtain ⟨k, e⟩ := e
      obtain ⟨h1, h2, h3⟩ := lex_err t.length t k e (Nat.le_refl _) hlt
      rw [hlt] at hj
      rw [all_err hlt, all_err hj]
      simp only [ev_br, ev_leaf, ev_c1, ne0_true h3, if_true, beq_self_eq_true, F_lawake N (by omega), obind_some, List.length_nil]
      rw [w1 _ (by omega) (by omega), hul]
      have : ((((s.length + (t.length + 1) : Nat) : Int) - (k : Int)) == (t.length : Int) - (k : Int) + (s.length : Int) + 1) = true := by rw [beq_iff_eq]; omega
      rw [this]
      rfl
    | ok b =>
      rw [hlt] at hj
      have hbl := lex_len t b hlt
      rw [all_ok hlt, all_ok hj, hul]
      -- the tokens of both
      obtain ⟨ta, hta⟩ : ∃ ta : List Tok, a.map (toTok s.length) = ta := ⟨_, rfl⟩
      obtain ⟨tb, htb⟩ : ∃ tb : List Tok, b.map (toTok t.length) = tb := ⟨_, rfl⟩
      have hc : (a.map (shiftT (t.length + 1)) ++ b).map (toTok (s.length + (t.length + 1))) = ta ++ tb.map fun k => (k.1, k.2.1 + (s.length + 1 : Int), k.2.2) := by
        rw [List.map_append, List.map_map, ← hta, ← htb, List.map_map]
        congr 1
        · apply List.map_congr_left
          intro k _
          exact toTok_shift s.length (t.length + 1) k
        · apply List.map_congr_left
          intro k _
          simp only [toTok, Function.comp]
          congr 2
          omega
      obtain ⟨tc, htc⟩ : ∃ tc : List Tok, ta ++ tb.map (fun k => (k.1, k.2.1 + (s.length + 1 : Int), k.2.2)) = tc := ⟨_, rfl⟩
      have htal : ta.length = a.length := by rw [← hta, List.length_map]
      have htbl : tb.length = b.length := by rw [← htb, List.length_map]
      have htcl : tc.length = ta.length + tb.length := by rw [← htc]; simp
      rw [hta, htb, hc, htc]
      have w0 : IntKind.i64.wrap ((ta.length : Int) + (tb.length : Int)) = (tc.length : Int) := by rw [wrapI (by omega) (by omega), htcl]; omega
      simp only [ev_br, ev_leaf, ev_f1, w0, bne_self_eq_false, Bool.false_eq_true, if_false]
      have ca : ∀ i, i < ta.length → tc.getD i (0, 0, [], 0) = ta.getD i (0, 0, [], 0) := fun i hi => by
        rw [← htc, List.getD_eq_getElem?_getD, List.getElem?_append_left hi]; rfl
      have cb : ∀ i, i < tb.length → tc.getD (ta.length + i) (0, 0, [], 0) = ((tb.getD i (0, 0, [], 0)).1, (tb.getD i (0, 0, [], 0)).2.1 + (s.length + 1 : Int), (tb.getD i (0, 0, [], 0)).2.2) := fun i hi => by
        rw [← htc, List.getD_eq_getElem?_getD, List.getElem?_append_right (by omega), show ta.length + i - ta.length = i by omega]
        simp [hi]
      have pb : ∀ i, i < tb.length → 0 ≤ (tb.getD i (0, 0, [], 0)).2.1 ∧ (tb.getD i (0, 0, [], 0)).2.1 ≤ 1000 := fun i hi => by
        obtain ⟨g1, g2, _⟩ := (lex_stands hlt).1.get i (by omega)
        rw [← htb]
        simp only [List.getD_eq_getElem?_getD, List.getElem?_map, List.getElem?_eq_getElem (show i < b.length by omega), Option.map_some, Option.getD_some, toTok]
        omega
      have l1 := loop_up (R := Bool) (step := fun x => L6_13 N x.1 x.2.1 x.2.2.1 x.2.2.2.1 x.2.2.2.2.1 x.2.2.2.2.2.1 x.2.2.2.2.2.2) ta.length
        (fun i => (s, ta, tb, tc, ta, (ta.length : Int), (i : Int))) (fun i hi => by
          unfold L6_13 U6_13
          have hi' : (i : Int) < (ta.length : Int) := by omega
          have c1 : inR (i : Int) ta.length := ⟨by omega, by omega⟩
          have c2 : inR (i : Int) tc.length := ⟨by omega, by omega⟩
          have w1 : IntKind.i64.wrap ((i : Int) + 1) = ((i + 1 : Nat) : Int) := by rw [wrapI (by omega) (by omega)]; omega
          have ha : atI (.pair tI tLn) tc (i : Int) = atI (.pair tI tLn) ta (i : Int) := ca i hi
          simp only [ev_br, ev_leaf, ev_ck c1, ev_ck c2, decide_eq_true_eq, if_pos hi', w1, ha, beq_self_eq_true, Bool.and_self, Bool.not_true, Bool.false_eq_true, if_false])
        (by unfold L6_13 U6_13; simp) N (by omega)
      have l2 := loop_up (R := Bool) (step := fun x => L6_19 N x.1 x.2.1 x.2.2.1 x.2.2.2.1 x.2.2.2.2.1 x.2.2.2.2.2) tb.length
        (fun i => (s, ta, tc, tb, (tb.length : Int), (i : Int))) (fun i hi => by
          unfold L6_19 U6_19
          have hi' : (i : Int) < (tb.length : Int) := by omega
          have c1 : inR (i : Int) tb.length := ⟨by omega, by omega⟩
          have w1 : IntKind.i64.wrap ((i : Int) + 1) = ((i + 1 : Nat) : Int) := by rw [wrapI (by omega) (by omega)]; omega
          have w2 : IntKind.i64.wrap ((ta.length : Int) + (i : Int)) = ((ta.length + i : Nat) : Int) := by rw [wrapI (by omega) (by omega)]; omega
          have c2 : inR ((ta.length + i : Nat) : Int) tc.length := ⟨by omega, by omega⟩
          have ha : atI (.pair tI tLn) tc ((ta.length + i : Nat) : Int) = (((atI (.pair tI tLn) tb (i : Int)).1, (atI (.pair tI tLn) tb (i : Int)).2.1 + (s.length + 1 : Int), (atI (.pair tI tLn) tb (i : Int)).2.2) : Tok) := cb i hi
          obtain ⟨p1, p2⟩ := pb i hi
          have w3 : IntKind.i64.wrap ((s.length : Int) + 1) = (s.length : Int) + 1 := wrapI (by omega) (by omega)
          have w4 : IntKind.i64.wrap ((atI (.pair tI tLn) tb (i : Int)).2.1 + ((s.length : Int) + 1)) = (atI (.pair tI tLn) tb (i : Int)).2.1 + ((s.length : Int) + 1) := by
            have : (atI (.pair tI tLn) tb (i : Int)).2.1 = (tb.getD i (0, 0, [], 0)).2.1 := rfl
            rw [this]
            exact wrapI (by omega) (by omega)
          simp only [ev_br, ev_leaf, ev_ck c1, w2, ev_ck c2, decide_eq_true_eq, if_pos hi', w1, w3, w4, ha, beq_self_eq_true, Bool.and_self, Bool.not_true, Bool.false_eq_true, if_false])
        (by unfold L6_19 U6_19; simp) N (by omega)
      unfold W6_13
      simp only [Int.natCast_zero] at l1 l2
      rw [l1, lp1_brk]
      unfold W6_19
      dsimp only
      rw [l2, lp1_brk, ev_c1]
      rfl

/-! ### Comments -/

theorem law_comment (N : Nat) (s note t : Bs) (hN : 700 < N) : F7 N s note t = some true := by
  unfold F7 V7
  simp only [ev_br, ev_leaf, ev_c1, ev_c3, ev_f1, F_lawake N (by omega), obind_some, decide_eq_true_eq]
  by_cases hL : (200 : Int) < s.length
  · rw [if_pos hL]
  by_cases hL2 : (200 : Int) < note.length
  · rw [if_neg hL, if_pos hL2]
  by_cases hL3 : (200 : Int) < t.length
  · rw [if_neg hL, if_neg hL2, if_pos hL3]
  rw [if_neg hL, if_neg hL2, if_neg hL3]
  have hlp := loop_all (R := Bool) (step := fun x => L7_4 N x.1 x.2.1 x.2.2.1 x.2.2.2.1 x.2.2.2.2) note.length (fun i => !(decide (note.getD i 0 = 42) || decide (note.getD i 0 = 10))) (fun i => (s, note, t, (note.length : Int), i)) true (fun i h0 hi => by
    unfold L7_4 U7_4
    by_cases h : i < note.length
    · have c1 : inR i note.length := ⟨h0, h⟩
      have hb : byteAt note i = ((note.getD i.toNat 0).toNat : Int) := rfl
      have w1 : IntKind.i64.wrap (i + 1) = i + 1 := wrapI (by omega) (by omega)
      simp only [ev_br, ev_leaf, ev_ck c1, ev_c1, decide_eq_true_eq, h, if_true, hb, is42, is10, F_lawake N (by omega), obind_some, w1]
      obtain ⟨b, hb2⟩ : ∃ b, note.getD i.toNat 0 = b := ⟨_, rfl⟩
      simp only [hb2]
      by_cases h1 : b = 42
      · simp [h1]
      · by_cases h2 : b = 10
        · simp [h2]
        · simp [h1, h2]
    · simp [h]) N (by omega)
  unfold W7_4
  rw [hlp]
  by_cases hn : (List.range note.length).all (fun i => !(decide (note.getD i 0 = 42) || decide (note.getD i 0 = 10))) = true
  · rw [if_pos hn, lp1_brk]
    have hnote : ∀ c ∈ note, c ≠ 42 ∧ c ≠ 10 := by
      rw [all_getD 0 (fun c : UInt8 => !(decide (c = 42) || decide (c = 10))) note] at hn
      intro c hc
      have := List.all_eq_true.1 hn c hc
      simpa using this
    dsimp only
    rw [F_all N s (by omega) (by omega), obind_some]
    cases hl : lexR s with
    | error e =>
      obtain ⟨k, e⟩ := e
      obtain ⟨h1, h2, h3⟩ := lex_err s.length s k e (Nat.le_refl _) hl
      rw [all_err hl, if_pos (ne0_true h3)]
      rfl
    | ok a =>
      rw [all_ok hl]
      dsimp only
      rw [if_neg not_ne0]
      have hal := lex_len s a hl
      have rr : ∀ x : Nat, x ≤ 100000 → room x := fun x h => by show _ ≤ _; omega
      have r1 : room (s.length + ([10] : Bs).length) := rr _ (by simp; omega)
      have r2 : room ((s ++ ([10] : Bs)).length + t.length) := rr _ (by simp; omega)
      have r3 : room (s.length + ([10, 47, 42] : Bs).length) := rr _ (by simp; omega)
      have r4 : room ((s ++ ([10, 47, 42] : Bs)).length + note.length) := rr _ (by simp; omega)
      have r5 : room (((s ++ ([10, 47, 42] : Bs)) ++ note).length + ([42, 47] : Bs).length) := rr _ (by simp; omega)
      have r6 : room ((((s ++ ([10, 47, 42] : Bs)) ++ note) ++ ([42, 47] : Bs)).length + t.length) := rr _ (by simp; omega)
      have r7 : room (s.length + ([10, 35] : Bs).length) := rr _ (by simp; omega)
      have r8 : room ((s ++ ([10, 35] : Bs)).length + note.length) := rr _ (by simp; omega)
      have r9 : room (((s ++ ([10, 35] : Bs)) ++ note).length + ([10] : Bs).length) := rr _ (by simp; omega)
      have r10 : room ((((s ++ ([10, 35] : Bs)) ++ note) ++ ([10] : Bs)).length + t.length) := rr _ (by simp; omega)
      have e1 : (s ++ ([10] : Bs)) ++ t = s ++ 10 :: t := by simp
      have e2 : ((((s ++ ([10, 47, 42] : Bs)) ++ note) ++ ([42, 47] : Bs)) ++ t) = s ++ 10 :: (47 :: 42 :: note ++ 42 :: 47 :: t) := by simp
      have e3 : ((((s ++ ([10, 35] : Bs)) ++ note) ++ ([10] : Bs)) ++ t) = s ++ 10 :: (35 :: note ++ 10 :: t) := by simp
      simp only [ev_br, ev_leaf, ev_c1, ev_c3, ev_ck r1, ev_ck r2, ev_ck r3, ev_ck r4, ev_ck r5, ev_ck r6, ev_ck r7, ev_ck r8, ev_ck r9, ev_ck r10, e1, e2, e3, ev_f1]
      rw [F_all N (s ++ 10 :: t) (by simp; omega) (by simp; omega), obind_some, F_all N (s ++ 10 :: (47 :: 42 :: note ++ 42 :: 47 :: t)) (by simp; omega) (by simp; omega), obind_some, F_all N (s ++ 10 :: (35 :: note ++ 10 :: t)) (by simp; omega) (by simp; omega), obind_some]
      have j1 := lex_joins t s.length s a (Nat.le_refl _) hl
      have j2 := lex_joins (47 :: 42 :: note ++ 42 :: 47 :: t) s.length s a (Nat.le_refl _) hl
      have j3 := lex_joins (35 :: note ++ 10 :: t) s.length s a (Nat.le_refl _) hl
      rw [skip_long note t hnote] at j2
      rw [skip_short note t hnote] at j3
      cases hlt : lexR t with
      | error e =>
        obtain ⟨k, e⟩ := e
        obtain ⟨h1, h2, h3⟩ := lex_err t.length t k e (Nat.le_refl _) hlt
        rw [hlt] at j1 j2 j3
        rw [all_err j1, all_err j2, all_err j3]
        simp only [bne_self_eq_false, Bool.false_eq_true, if_false]
        have : W7_18 N (([] : List Tok), ([] : List Tok), ([] : List Tok), ((([] : List Tok).length : Nat) : Int), 0) = some (.brk 0 ([], [], [], 0, 0)) := by
          unfold W7_18
          obtain ⟨N, rfl⟩ : ∃ M, N = M + 1 := ⟨N - 1, by omega⟩
          unfold runLoop
          have : L7_18 (N + 1) ([] : List Tok) [] [] 0 0 = some (.brk 0 ([], [], [], 0, 0)) := by
            unfold L7_18 U7_18
            simp
          dsimp only [List.length_nil]
          rw [show (((0 : Nat) : Int)) = 0 from rfl, this]
        rw [this, lp1_brk]
        rfl
      | ok b =>
        rw [hlt] at j1 j2 j3
        have hbl := lex_len t b hlt
        rw [all_ok j1, all_ok j2, all_ok j3]
        obtain ⟨ta, hta⟩ : ∃ ta : List Tok, (a.map (shiftT (t.length + 1)) ++ b).map (toTok (s ++ 10 :: t).length) = ta := ⟨_, rfl⟩
        obtain ⟨tb, htb⟩ : ∃ tb : List Tok, (a.map (shiftT ((47 :: 42 :: note ++ 42 :: 47 :: t).length + 1)) ++ b).map (toTok (s ++ 10 :: (47 :: 42 :: note ++ 42 :: 47 :: t)).length) = tb := ⟨_, rfl⟩
        obtain ⟨tc, htc⟩ : ∃ tc : List Tok, (a.map (shiftT ((35 :: note ++ 10 :: t).length + 1)) ++ b).map (toTok (s ++ 10 :: (35 :: note ++ 10 :: t)).length) = tc := ⟨_, rfl⟩
        have st : ∀ (n k : Nat), ((a.map (shiftT k) ++ b).map (toTok n)).map (fun x : Tok => (x.1, x.2.2)) = (a ++ b).map fun x => (x.1, x.2.2) := fun n k => by
          simp only [List.map_map, List.map_append]
          rfl
        have sa := st (s ++ 10 :: t).length (t.length + 1)
        have sb := st (s ++ 10 :: (47 :: 42 :: note ++ 42 :: 47 :: t)).length ((47 :: 42 :: note ++ 42 :: 47 :: t).length + 1)
        have sc := st (s ++ 10 :: (35 :: note ++ 10 :: t)).length ((35 :: note ++ 10 :: t).length + 1)
        have ll : ∀ (n k : Nat), ((a.map (shiftT k) ++ b).map (toTok n)).length = a.length + b.length := fun n k => by simp
        have la := ll (s ++ 10 :: t).length (t.length + 1)
        have lb := ll (s ++ 10 :: (47 :: 42 :: note ++ 42 :: 47 :: t)).length ((47 :: 42 :: note ++ 42 :: 47 :: t).length + 1)
        have lc := ll (s ++ 10 :: (35 :: note ++ 10 :: t)).length ((35 :: note ++ 10 :: t).length + 1)
        dsimp only
        rw [hta] at sa la ⊢
        rw [htb] at sb lb ⊢
        rw [htc] at sc lc ⊢
        have same : ∀ (p q : List Tok), p.length = q.length → p.map (fun x : Tok => (x.1, x.2.2)) = q.map (fun x : Tok => (x.1, x.2.2)) → ∀ i, i < p.length → (q.getD i (0, 0, [], 0)).1 = (p.getD i (0, 0, [], 0)).1 ∧ (q.getD i (0, 0, [], 0)).2.2 = (p.getD i (0, 0, [], 0)).2.2 := fun p q hl he i hi => by
          have h1 := congrArg (fun z => z[i]?) he
          simp only [List.getElem?_map, List.getElem?_eq_getElem hi, List.getElem?_eq_getElem (show i < q.length by omega), Option.map_some, Option.some.injEq, Prod.mk.injEq] at h1
          simp only [List.getD_eq_getElem?_getD, List.getElem?_eq_getElem hi, List.getElem?_eq_getElem (show i < q.length by omega), Option.getD_some]
          exact ⟨h1.1.symm, h1.2.symm⟩
        have s1 := same ta tb (by omega) (by rw [sa, sb])
        have s2 := same ta tc (by omega) (by rw [sa, sc])
        have hN2 : a.length + b.length < N := by omega
        have l1 := loop_up (R := Bool) (step := fun x => L7_18 N x.1 x.2.1 x.2.2.1 x.2.2.2.1 x.2.2.2.2) ta.length
          (fun i => (ta, tb, tc, (ta.length : Int), (i : Int))) (fun i hi => by
            unfold L7_18 U7_18
            have hi' : (i : Int) < (ta.length : Int) := by omega
            have c1 : inR (i : Int) ta.length := ⟨by omega, by omega⟩
            have c2 : inR (i : Int) tb.length := ⟨by omega, by omega⟩
            have c3 : inR (i : Int) tc.length := ⟨by omega, by omega⟩
            have w1 : IntKind.i64.wrap ((i : Int) + 1) = ((i + 1 : Nat) : Int) := by rw [wrapI (by omega) (by omega)]; omega
            have a1 : (atI (.pair tI tLn) tb (i : Int)).1 = (atI (.pair tI tLn) ta (i : Int)).1 := (s1 i hi).1
            have a2 : (atI (.pair tI tLn) tb (i : Int)).2.2 = (atI (.pair tI tLn) ta (i : Int)).2.2 := (s1 i hi).2
            have a3 : (atI (.pair tI tLn) tc (i : Int)).1 = (atI (.pair tI tLn) ta (i : Int)).1 := (s2 i hi).1
            have a4 : (atI (.pair tI tLn) tc (i : Int)).2.2 = (atI (.pair tI tLn) ta (i : Int)).2.2 := (s2 i hi).2
            simp only [ev_br, ev_leaf, ev_ck c1, ev_ck c2, ev_ck c3, decide_eq_true_eq, if_pos hi', w1, a1, a2, a3, a4, beq_self_eq_true, bne_self_eq_false, Bool.not_true, Bool.false_eq_true, if_false])
          (by unfold L7_18 U7_18; simp) N (by omega)
        have n1 : ((ta.length : Int) != (tb.length : Int)) = false := by rw [bne_eq_false_iff_eq]; omega
        have n2 : ((ta.length : Int) != (tc.length : Int)) = false := by rw [bne_eq_false_iff_eq]; omega
        simp only [n1, n2, bne_self_eq_false, Bool.false_eq_true, if_false]
        unfold W7_18
        simp only [Int.natCast_zero] at l1
        rw [l1, lp1_brk]
        rfl
  · rw [if_neg hn]; rfl

end Go.Proofs.Ytojcdimaeiibdaa.Vc
