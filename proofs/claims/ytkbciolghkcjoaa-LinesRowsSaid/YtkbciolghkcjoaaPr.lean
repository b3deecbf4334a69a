/-
  THE LAWS ON COMMANDS, told of data: a tree's rows, a path's growth. No condition.
-/
import Derived.Test.YtkbciolghkcjoaaPq
set_option linter.unusedVariables false
set_option linter.unusedSimpArgs false
namespace Go.Proofs.Ytkbciolghkcjoaa.Vc

theorem mrk_len {t : List Ln} {k : Nat} {m : Int} (hm : (t.getD k (0, [], 0)).2.2 = m) (h0 : 0 ≤ m) (h3 : m ≤ 3) : ((mrkC t k).length : Int) = IntKind.i64.wrap (IntKind.i64.wrap (((BitVec.ofInt IntKind.i64.bits m &&& BitVec.ofInt IntKind.i64.bits 1).toNat : Int)) + m.fdiv (2 ^ (min (1 : Int).toNat IntKind.i64.bits))) := by
  unfold mrkC
  rw [hm]
  have : m = 0 ∨ m = 1 ∨ m = 2 ∨ m = 3 := by omega
  generalize pth t k = p
  rcases this with rfl | rfl | rfl | rfl <;> rfl
theorem mrks_len (t : List Ln) : ∀ n, ((List.range n).flatMap (mrkC t)).length ≤ 2 * n
  | 0 => by simp
  | n + 1 => by
    have h1 := mrks_len t n
    rw [List.range_succ, List.flatMap_append, List.length_append]
    have : ((List.flatMap (mrkC t) [n]).length) ≤ 2 := by
      rw [List.flatMap_cons, List.flatMap_nil, List.append_nil]
      unfold mrkC
      split <;> split <;> simp
    omega

theorem L_rows (N : Nat) (t : List Ln) (hN : 1000000 < N) : F9 N t = some true := by
  unfold F9 V9
  simp only [ev_br, ev_leaf, ev_c1, ev_c2, ev_c3, ev_c4, ev_cr, ev_cr2, ev_f0, ev_f1, ev_f2, obind_some, decide_eq_true_eq, Bool.not_eq_true', Bool.true_eq_false, Bool.false_eq_true, if_true, if_false, reduceCtorEq, F_small N t (by omega), P_awake N (by omega)]
  by_cases hs : smallS t = true
  · by_cases h60 : (60 : Int) < (t.length : Int)
    · simp [hs, h60]
    · have hT := P_text N t (by omega) (by omega)
      by_cases hr : rightS t = true
      · rw [if_pos hr] at hT
        have hlen := text_len hr
        have hL := F_leaves N t (by omega)
        rw [if_pos hr, leaves_eq] at hL
        have hcr := cmds_rows (cs := cmdsT t) fun c hc => (cmdsT_ok hr c hc).1
        have hcl : (cmdsT t).length = (leafL t).length + ((List.range t.length).flatMap (mrkC t)).length := by
          unfold cmdsT
          rw [List.length_append, List.length_map]
        have hte : (cmdsT t).flatMap cmdB = textT6 t := rfl
        rw [hte, hcl] at hcr
        have hlf : (leafL t).length ≤ t.length := by
          have h3 := List.length_filter_le (fun k => endN t k == k + 1) (List.range t.length)
          unfold leafL; simpa using h3
        have hll : ((leafL t).map fun k : Nat => (k : Int)).length = (leafL t).length := by simp
        generalize hs6 : textT6 t = s at *
        have l1 := loop_up (R := Bool) (step := fun x => L9_8 N x.1 x.2.1 x.2.2.1 x.2.2.2.1 x.2.2.2.2.1 x.2.2.2.2.2) s.length (fun i => (t, s, ((s.take i).count 10 : Int), ((leafL t).length : Int), (s.length : Int), (i : Int)))
          (fun i hi => by
            unfold L9_8 U9_8
            have hi' : (i : Int) < (s.length : Int) := by omega
            have c1 : inR (i : Int) s.length := ⟨by omega, hi'⟩
            have w1 : IntKind.i64.wrap ((i : Int) + 1) = ((i + 1 : Nat) : Int) := by rw [wrapI (by omega) (by omega)]; omega
            have hc : (s.take i).count 10 ≤ i := by
              have := List.count_le_length (a := (10 : UInt8)) (l := s.take i)
              rw [List.length_take] at this; omega
            have w2 : IntKind.i64.wrap (((s.take i).count 10 : Int) + 1) = (((s.take i).count 10 + 1 : Nat) : Int) := by rw [wrapI (by omega) (by omega)]; omega
            have hb : byteAt s (i : Int) = (s[i].toNat : Int) := by unfold byteAt; simp [hi]
            rw [List.take_succ_eq_append_getElem hi, List.count_append]
            by_cases h10 : s[i] = 10
            · have hbt : ((s[i].toNat : Int) == 10) = true := by rw [h10]; rfl
              simp only [ev_br, ev_leaf, decide_eq_true hi', if_true, ev_ck c1, hb, hbt, w1, w2]
              simp [h10]
            · have hbf : ((s[i].toNat : Int) == 10) = false := by
                rw [beq_eq_false_iff_ne]
                intro e
                exact h10 (UInt8.toNat_inj.1 (by show s[i].toNat = 10; omega))
              simp only [ev_br, ev_leaf, decide_eq_true hi', if_true, ev_ck c1, hb, hbf, Bool.false_eq_true, if_false, w1]
              simp [h10])
          (by unfold L9_8 U9_8; simp) N (by omega)
        have hW1 : W9_8 N (t, s, 0, ((leafL t).length : Int), (s.length : Int), 0) = some (.brk 0 (t, s, (s.count 10 : Int), ((leafL t).length : Int), (s.length : Int), (s.length : Int))) := by
          rw [List.take_length] at l1
          exact l1
        have l2 := loop_up (R := Bool) (step := fun x => L9_14 N x.1 x.2.1 x.2.2.1 x.2.2.2.1 x.2.2.2.2) t.length (fun i => ((s.count 10 : Int), (((leafL t).length + ((List.range i).flatMap (mrkC t)).length : Nat) : Int), t, (t.length : Int), (i : Int)))
          (fun i hi => by
            unfold L9_14 U9_14
            have hi' : (i : Int) < (t.length : Int) := by omega
            have c1 : inR (i : Int) t.length := ⟨by omega, hi'⟩
            have c2 : (0 : Int) ≤ (1 : Int) := by decide
            have w1 : IntKind.i64.wrap ((i : Int) + 1) = ((i + 1 : Nat) : Int) := by rw [wrapI (by omega) (by omega)]; omega
            have hat : atI tLn t (i : Int) = t.getD i (0, [], 0) := rfl
            have hm := mark_ok (right_rf hr) hi
            have hk := mrk_len (k := i) rfl hm.1 hm.2
            have hb := mrks_len t i
            have hb2 : (mrkC t i).length ≤ 2 := by unfold mrkC; split <;> split <;> simp
            have w2 : IntKind.i64.wrap ((((leafL t).length + ((List.range i).flatMap (mrkC t)).length : Nat) : Int) + ((mrkC t i).length : Int)) = (((leafL t).length + ((List.range (i + 1)).flatMap (mrkC t)).length : Nat) : Int) := by
              rw [wrapI (by omega) (by omega), List.range_succ, List.flatMap_append, List.length_append]
              simp only [List.flatMap_cons, List.flatMap_nil, List.append_nil]
              omega
            simp only [ev_br, ev_leaf, decide_eq_true hi', if_true, ev_ck c1, ev_ck c2, hat, ← hk, w1, w2])
          (by unfold L9_14 U9_14; simp) N (by omega)
        have hW2 : W9_14 N ((s.count 10 : Int), ((leafL t).length : Int), t, (t.length : Int), 0) = some (.brk 0 ((s.count 10 : Int), (s.count 10 : Int), t, (t.length : Int), (t.length : Int))) := by
          rw [← hcr] at l2
          exact l2
        simp only [ev_br, ev_leaf, ev_c1, ev_c2, ev_c3, ev_c4, ev_cr, ev_cr2, ev_f0, ev_f1, ev_f2, obind_some, decide_eq_true_eq, Bool.not_eq_true', Bool.true_eq_false, Bool.false_eq_true, if_true, if_false, reduceCtorEq, hs, h60, hT, hL, hll, hW1, hW2, lp1_brk, decide_true, beq_self_eq_true, Bool.not_true, bne_self_eq_false]
      · rw [if_neg hr] at hT
        simp (config := { decide := true }) only [ev_br, ev_leaf, ev_c1, ev_c2, ev_c3, ev_c4, ev_cr, ev_cr2, ev_f0, ev_f1, ev_f2, obind_some, decide_eq_true_eq, Bool.not_eq_true', Bool.true_eq_false, Bool.false_eq_true, if_true, if_false, reduceCtorEq, hs, h60, hT, beq_self_eq_true, Bool.not_true]
  · simp [hs]

theorem last_wordP {t : List Ln} (h : rf [] t = true) {i : Nat} (hi : i < t.length) : (pth t i).getLastD [] = (t[i]).2.1 := by
  rw [pth_nx t hi]; simp
/-- What a path in a tree finds, has the path's depth, the path's last word, and the mark. -/
theorem ln_sameP {t u : List Ln} (ht : rightS t = true) (hu : rightS u = true) {i k : Nat} (hi : i < t.length) (hk : k < u.length) (he : pth u k = pth t i) (hm : (u.getD k (0, [], 0)).2.2 = (t.getD i (0, [], 0)).2.2) : u.getD k (0, [], 0) = t.getD i (0, [], 0) := by
  have ht' := right_rf ht
  have hu' := right_rf hu
  have h1 := pth_len ht' hi
  have h2 := pth_len hu' hk
  have l1 := last_wordP ht' hi
  have l2 := last_wordP hu' hk
  rw [he] at h2 l2
  have d1 := snd_iff.1 (rf_at ht' hi).1
  have d2 := snd_iff.1 (rf_at hu' hk).1
  have g1 : t.getD i (0, [], 0) = t[i] := getD_of_lt t hi
  have g2 : u.getD k (0, [], 0) = u[k] := getD_of_lt u hk
  rw [g1] at hm ⊢
  rw [g2] at hm ⊢
  refine Prod.ext ?_ (Prod.ext ?_ hm)
  · omega
  · rw [← l1, ← l2]
theorem add_there {t : List Ln} {q : List Bs} (h : addE t q = 0) {p : List Bs} (hp : p ≠ []) (hpq : p <+: q) : gt (addL t q) p ≠ none := by
  rw [(addL_tree h).2]
  by_cases hg : gt t p = none
  · rw [if_pos ⟨hg, hp, hpq⟩]; simp
  · rw [if_neg (fun h => hg h.1)]; exact hg
theorem add_kept {t : List Ln} {q : List Bs} (h : addE t q = 0) {p : List Bs} {m : Int} (hp : gt t p = some m) : gt (addL t q) p = some m := by
  rw [(addL_tree h).2, if_neg (fun h => by rw [hp] at h; cases h.1)]; exact hp

theorem L_grows (N : Nat) (t : List Ln) (q : List Bs) (hN : 1000000 < N) : F7 N t q = some true := by
  unfold F7 V7
  simp only [ev_br, ev_leaf, ev_c1, ev_c2, ev_c3, ev_c4, ev_cr, ev_cr2, ev_f0, ev_f1, ev_f2, obind_some, decide_eq_true_eq, Bool.not_eq_true', Bool.true_eq_false, Bool.false_eq_true, if_true, if_false, reduceCtorEq, F_small N t (by omega), F_short N q (by omega), P_awake N (by omega)]
  by_cases hs : smallS t = true
  · by_cases h60 : (60 : Int) < (t.length : Int)
    · simp [hs, h60]
    · by_cases hq : shortS q = true
      · have h2 := short_len hq
        have hE := E_add N t q (by omega) (by omega) (by omega) (by omega)
        by_cases he : addE t q = 0
        · obtain ⟨hr, q0, q40, q16, _⟩ := addE_ok he
          have hu := (addL_tree he).1
          have hth : ∀ k, 0 < k → k ≤ q.length → gt (addL t q) (q.take k) ≠ none := fun k h1 h3 => add_there he (fun e => by have := congrArg List.length e; rw [List.length_take, List.length_nil] at this; omega) (List.take_prefix _ _)
          obtain ⟨e2, l2⟩ := addE_same hu q0 q40 q16 hth
          have hkept : ∀ i (hi : i < t.length), ∃ k, fnd (addL t q) (pth t i) = some k ∧ k < (addL t q).length ∧ (addL t q).getD k (0, [], 0) = t.getD i (0, [], 0) := fun i hi => by
            have hg := add_kept he (gt_at (right_rf hr) hi)
            obtain ⟨k, hf, hm⟩ := gt_fnd (right_rf hu) hg
            obtain ⟨hk, hp⟩ := fnd_of hf
            exact ⟨k, hf, hk, ln_sameP hr hu hi hk hp (by rw [hm, getD_of_lt t hi])⟩
          have hfq : ∃ k, fnd (addL t q) q = some k := by
            cases hg : gt (addL t q) q with
            | none => exact absurd hg (add_there he q0 (List.prefix_refl q))
            | some m =>
              obtain ⟨k, hf, _⟩ := gt_fnd (right_rf hu) hg
              exact ⟨k, hf⟩
          have hln := addN_len t q q.length
          have hln1 : t.length ≤ (addL t q).length := hln.1
          have hln2 : (addL t q).length ≤ t.length + q.length := hln.2
          have hul := right_len hu
          have hE2 := E_add N (addL t q) q (by omega) (by omega) (by omega) (by omega)
          have es1 : addS t q = (addL t q, 0) := by unfold addS; rw [if_pos he]
          have es2 : addS (addL t q) q = (addL t q, 0) := by unfold addS; rw [if_pos e2, l2]
          rw [es1, decide_eq_true he] at hE
          rw [es2, decide_eq_true e2] at hE2
          generalize addL t q = u at *
          obtain ⟨kq, hfq⟩ := hfq
          have hFq := F_find N u q (by omega)
          rw [fndS_eq, if_pos hu, hfq] at hFq
          have hR := F_right N u (by omega)
          have hSu := F_same N u u (by omega) (by show _ ≤ 9223372036854775807; omega)
          have g1 : ¬ (u.length : Int) < (t.length : Int) := by omega
          have w0 : IntKind.i64.wrap ((t.length : Int) + (q.length : Int)) = (t.length : Int) + (q.length : Int) := wrapI (by omega) (by omega)
          have g2 : ¬ (t.length : Int) + (q.length : Int) < (u.length : Int) := by omega
          have := loop_up (R := Bool) (step := fun x => L7_11 N x.1 x.2.1 x.2.2.1 x.2.2.2.1 x.2.2.2.2) t.length (fun i => (t, u, t, (t.length : Int), (i : Int)))
            (fun i hi => by
              unfold L7_11 U7_11
              have hi' : (i : Int) < (t.length : Int) := by omega
              have c1 : inR (i : Int) t.length := ⟨by omega, hi'⟩
              have w1 : IntKind.i64.wrap ((i : Int) + 1) = ((i + 1 : Nat) : Int) := by rw [wrapI (by omega) (by omega)]; omega
              have hP := F_path N t (i : Int) (by omega)
              rw [if_pos (thereS_iff.2 ⟨by omega, by omega, hr⟩), Int.toNat_natCast] at hP
              obtain ⟨k, hf, hk, hln⟩ := hkept i hi
              have hF := F_find N u (pth t i) (by omega)
              rw [fndS_eq, if_pos hu, hf] at hF
              have c2 : inR (k : Int) u.length := ⟨by omega, by omega⟩
              have hat1 : atI tLn t (i : Int) = t.getD i (0, [], 0) := rfl
              have hat2 : atI tLn u (k : Int) = t.getD i (0, [], 0) := hln
              have z0 : ((0 : Int) != 0) = false := rfl
              simp only [ev_br, ev_leaf, ev_c2, decide_eq_true hi', if_true, ev_ck c1, ev_ck c2, hP, hF, obind_some, z0, Bool.not_true, Bool.false_eq_true, if_false, hat1, hat2, beq_self_eq_true, Bool.and_true, w1])
            (by unfold L7_11 U7_11; simp) N (by omega)
          have hW : W7_11 N (t, u, t, (t.length : Int), 0) = some (.brk 0 (t, u, t, (t.length : Int), (t.length : Int))) := this
          simp only [ev_br, ev_leaf, ev_c1, ev_c2, ev_c3, ev_c4, ev_cr, ev_cr2, ev_f0, ev_f1, ev_f2, obind_some, decide_eq_true_eq, Bool.not_eq_true', Bool.true_eq_false, Bool.false_eq_true, if_true, if_false, reduceCtorEq, hs, h60, hq, hE, hE2, hFq, hR, hu, hSu, g1, g2, w0, hW, lp1_brk, decide_true, decide_false, beq_self_eq_true, Bool.not_true, bne_self_eq_false]
        · have es : addS t q = (t, addE t q) := by unfold addS; rw [if_neg he]
          rw [es, decide_eq_false he] at hE
          have hS := F_same N t t (by omega) (by show _ ≤ 9223372036854775807; omega)
          have ze : (addE t q != 0) = true := by simpa using he
          simp only [ev_br, ev_leaf, ev_c1, ev_c2, ev_c3, ev_c4, ev_cr, ev_cr2, ev_f0, ev_f1, ev_f2, obind_some, decide_eq_true_eq, Bool.not_eq_true', Bool.true_eq_false, Bool.false_eq_true, if_true, if_false, reduceCtorEq, hs, h60, hq, hE, ze, hS, decide_true, Bool.not_true]
      · simp [hs, h60, hq]
  · simp [hs]

end Go.Proofs.Ytkbciolghkcjoaa.Vc
