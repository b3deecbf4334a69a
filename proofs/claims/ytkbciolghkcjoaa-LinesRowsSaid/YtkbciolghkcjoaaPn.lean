/-
  WHAT PACKAGE lines ANSWERS: the commands of a tree, on both sides. No condition.
-/
import Derived.Test.YtkbciolghkcjoaaEh
import Derived.Test.YtkbciolghkcjoaaPm
set_option linter.unusedVariables false
set_option linter.unusedSimpArgs false
namespace Go.Proofs.Ytkbciolghkcjoaa.Vc

theorem map_set (f : Bs → Bs) (p : List Bs) {i : Nat} (hi : i < p.length) : ((p.take i).map f ++ p.drop i).set i (f p[i]) = (p.take (i + 1)).map f ++ p.drop (i + 1) := by
  have hl : ((p.take i).map f).length = i := by simp; omega
  rw [List.set_append_right _ _ (by omega), hl, Nat.sub_self, List.drop_eq_getElem_cons hi, List.set_cons_zero, List.take_succ_eq_append_getElem hi, List.map_append, List.append_assoc]
  rfl
theorem map_get (f : Bs → Bs) (p : List Bs) {i : Nat} (hi : i < p.length) : ((p.take i).map f ++ p.drop i).getD i [] = p[i] := by
  have hl : ((p.take i).map f).length = i := by simp; omega
  rw [List.getD_eq_getElem?_getD, List.getElem?_append_right (by omega), hl, Nat.sub_self, List.drop_eq_getElem_cons hi]
  rfl
theorem map_len (f : Bs → Bs) (p : List Bs) (i : Nat) : ((p.take i).map f ++ p.drop i).length = p.length := by simp; omega
theorem join_words : ∀ (p : List Bs), p ≠ [] → [32] ++ Lib.join (p.map quoteS) [32] = p.flatMap (fun w => 32 :: quoteS w)
  | [], h => absurd rfl h
  | [w], _ => by simp [Lib.join, List.intercalate]
  | w :: x :: p, _ => by
    have ih := join_words (x :: p) (by simp)
    rw [List.flatMap_cons, ← ih]
    simp [Lib.join, List.intercalate]
theorem words_len : ∀ p : List Bs, (∀ w ∈ p, w.length ≤ 40) → (p.flatMap (fun w => 32 :: quoteS w)).length ≤ 163 * p.length
  | [], _ => by simp
  | w :: p, h => by
    have h1 := words_len p fun x hx => h x (by simp [hx])
    have h2 := quote_len w
    have h3 := h w (by simp)
    rw [List.flatMap_cons, List.length_append, List.length_cons, List.length_cons]; omega
theorem bts_len3 (x : Bs) : (bts x).length = x.length := by unfold bts; rw [List.length_map]
theorem F_ws3 (N : Nat) (b : Bool) (t s : Bs) (hl : t.length + s.length ≤ 100000000) (h0 : t ++ s ≠ []) : F30b N (b, bts t) s = some (true, bts (t ++ s)) := by
  rw [F_ws N b (bts t) s (by rw [bts_len3]; exact hl) (by rw [← bts_app]; intro e; apply h0; have := congrArg List.length e; rw [bts_len3] at this; exact List.eq_nil_of_length_eq_zero this), bts_app]

/-- A line's path may be written. -/
def finePath (p : List Bs) : Prop := p ≠ [] ∧ p.length ≤ 16 ∧ ∀ w ∈ p, w.length ≤ 40
theorem pth_fine {t : List Ln} (ht : rightS t = true) {k : Nat} (hk : k < t.length) : finePath (pth t k) := by
  have hrt := right_rf ht
  have hg := gt_at hrt hk
  have hs := gt_sound hrt hg
  exact ⟨hs.1, hs.2.1, words_in hrt (pth t k).length (pth t k) rfl (by rw [hg]; simp)⟩
def cmdW (v : Bs) (p : List Bs) : Bs := v ++ p.flatMap (fun w => 32 :: quoteS w) ++ [59, 10]
theorem cmdW_len {v : Bs} {p : List Bs} (hv : v.length ≤ 10) (hp : finePath p) : (cmdW v p).length ≤ 2700 := by
  have := words_len p hp.2.2
  have := hp.2.1
  unfold cmdW
  simp only [List.length_append, List.length_cons, List.length_nil]; omega

theorem P_cmd (N : Nat) (v : Bs) (t : List Ln) (k : Nat) (ht : rightS t = true) (hk : k < t.length) (hv : v.length ≤ 10) (hN : 5000 < N) : F31 N v t (k : Int) = some (cmdW v (pth t k)) := by
  have h200 := right_len ht
  obtain ⟨f0, f16, f40⟩ := pth_fine ht hk
  have hP := F_path N t (k : Int) (by omega)
  rw [if_pos (thereS_iff.2 ⟨by omega, by omega, ht⟩), Int.toNat_natCast] at hP
  obtain ⟨p, hp⟩ : ∃ p, pth t k = p := ⟨_, rfl⟩
  rw [hp] at hP f0 f16 f40 ⊢
  have := loop_up (R := Bs) (step := fun x => L31_3 N x.1 x.2.1 x.2.2.1 x.2.2.2.1 x.2.2.2.2) p.length (fun i => (v, (p.take i).map quoteS ++ p.drop i, false, (p.length : Int), (i : Int)))
    (fun i hi => by
      unfold L31_3 U31_3
      have hi' : (i : Int) < (p.length : Int) := by omega
      have hl := map_len quoteS p i
      have c1 : inR (i : Int) ((p.take i).map quoteS ++ p.drop i).length := ⟨by omega, by rw [hl]; exact hi'⟩
      have w1 : IntKind.i64.wrap ((i : Int) + 1) = ((i + 1 : Nat) : Int) := by rw [wrapI (by omega) (by omega)]; omega
      have hat : atI tS ((p.take i).map quoteS ++ p.drop i) (i : Int) = p[i] := map_get quoteS p hi
      have hQ := F_quote N p[i] (by omega)
      have h40 := f40 p[i] (List.getElem_mem hi)
      rw [if_neg (by omega)] at hQ
      simp only [ev_br, ev_leaf, decide_eq_true hi', if_true, ev_ck c1, hat, ev_c2, hQ, obind_some, Int.toNat_natCast, map_set quoteS p hi, w1])
    (by unfold L31_3 U31_3; simp) N (by omega)
  have hW : W31_3 N (v, p, false, (p.length : Int), 0) = some (.brk 0 (v, p.map quoteS, false, (p.length : Int), (p.length : Int))) := by
    have e0 : (v, (p.take 0).map quoteS ++ p.drop 0, false, (p.length : Int), ((0 : Nat) : Int)) = (v, p, false, (p.length : Int), (0 : Int)) := by simp
    rw [e0, List.take_length, List.drop_length, List.append_nil] at this
    exact this
  have hj := join_words p f0
  have hjl : (Lib.join (p.map quoteS) [32]).length ≤ 163 * p.length := by
    have h1 := words_len p f40
    rw [← hj] at h1
    simp only [List.length_append, List.length_cons, List.length_nil] at h1
    omega
  have hJ : F53 N (p.map quoteS) ([32] : Bs) = some (Lib.join (p.map quoteS) [32]) := by
    unfold F53
    rw [if_pos ⟨by simp; omega, by omega⟩]
  have r1 : room (v.length + ([32] : Bs).length) := by show _ ≤ _; simp; omega
  have r2 : room ((v ++ ([32] : Bs)).length + (Lib.join (p.map quoteS) [32]).length) := by show _ ≤ _; simp only [List.length_append, List.length_cons, List.length_nil]; omega
  have r3 : room (((v ++ ([32] : Bs)) ++ Lib.join (p.map quoteS) [32]).length + ([59, 10] : Bs).length) := by show _ ≤ _; simp only [List.length_append, List.length_cons, List.length_nil]; omega
  unfold F31 V31
  simp only [ev_c2, hP, obind_some, ev_f1, hW, lp1_brk, ev_ck r1, ev_c1, hJ, ev_ck r2, ev_ck r3, ev_leaf]
  unfold cmdW
  rw [← hj]
  simp

theorem bit1 {m : Int} (h0 : 0 ≤ m) (h3 : m ≤ 3) : (IntKind.i64.wrap (((BitVec.ofInt IntKind.i64.bits m &&& BitVec.ofInt IntKind.i64.bits 1).toNat : Int)) != 0) = decide (m % 2 = 1) := by
  have : m = 0 ∨ m = 1 ∨ m = 2 ∨ m = 3 := by omega
  rcases this with rfl | rfl | rfl | rfl <;> decide
theorem leaves_eq (t : List Ln) : leavesS t = (leafL t).map fun k : Nat => (k : Int) := rfl
theorem leaf_lt {t : List Ln} {k : Nat} (h : k ∈ leafL t) : k < t.length := by
  unfold leafL at h
  exact List.mem_range.1 (List.mem_filter.1 h).1
theorem cmdB_eq (b : Int) (p : List Bs) : cmdB (b, p) = cmdW (verbS b) p := rfl
theorem flat_len {α : Type} (f : α → Bs) (n : Nat) : ∀ l : List α, (∀ x ∈ l, (f x).length ≤ n) → (l.flatMap f).length ≤ n * l.length
  | [], _ => by simp
  | x :: l, h => by
    have h1 := flat_len f n l fun y hy => h y (by simp [hy])
    have h2 := h x (by simp)
    rw [List.flatMap_cons, List.length_append, List.length_cons, Nat.mul_succ]; omega
theorem cmdW_ne (v : Bs) (p : List Bs) : cmdW v p ≠ [] := by unfold cmdW; simp
def mrkT (t : List Ln) (k : Nat) : Bs := (mrkC t k).flatMap cmdB
theorem mrkT_len {t : List Ln} (ht : rightS t = true) {k : Nat} (hk : k < t.length) : (mrkT t k).length ≤ 5400 := by
  have hf := pth_fine ht hk
  have h1 := cmdW_len (v := deaW) (by decide) hf
  have h2 := cmdW_len (v := proW) (by decide) hf
  have e1 : cmdB (1, pth t k) = cmdW deaW (pth t k) := rfl
  have e2 : cmdB (2, pth t k) = cmdW proW (pth t k) := rfl
  unfold mrkT mrkC
  split <;> split <;> simp only [List.flatMap_append, List.flatMap_cons, List.flatMap_nil, List.length_append, List.length_nil, e1, e2] <;> omega

theorem P_text (N : Nat) (t : List Ln) (htN : t.length < N) (hN : 5000 < N) : F16 N t = some (if rightS t = true then (textT6 t, 0) else ([], 1)) := by
  unfold F16 V16
  by_cases ht : rightS t = true
  · have h200 := right_len ht
    have hL := F_leaves N t htN
    rw [if_pos ht, leaves_eq] at hL
    obtain ⟨lf, hlf⟩ : ∃ l, leafL t = l := ⟨_, rfl⟩
    have hlt : ∀ k ∈ lf, k < t.length := fun k hk => leaf_lt (by rw [hlf]; exact hk)
    have hlfl : lf.length ≤ 200 := by
      rw [← hlf]
      unfold leafL
      have := List.length_filter_le (fun k => endN t k == k + 1) (List.range t.length)
      simp at this; omega
    rw [hlf] at hL
    have hll : (lf.map fun k : Nat => (k : Int)).length = lf.length := by simp
    have l1 := loop_up (R := Bs × Int) (step := fun x => L16_5 N x.1 x.2.1 x.2.2.1 x.2.2.2.1 x.2.2.2.2) lf.length (fun i => (t, (true, bts ((lf.take i).flatMap fun k => cmdW setW (pth t k))), (lf.map fun k : Nat => (k : Int)), (lf.length : Int), (i : Int)))
      (fun i hi => by
        unfold L16_5 U16_5
        have hi' : (i : Int) < (lf.length : Int) := by omega
        have c1 : inR (i : Int) (lf.map fun k : Nat => (k : Int)).length := ⟨by omega, by rw [hll]; exact hi'⟩
        have w1 : IntKind.i64.wrap ((i : Int) + 1) = ((i + 1 : Nat) : Int) := by rw [wrapI (by omega) (by omega)]; omega
        have hat : atI tI (lf.map fun k : Nat => (k : Int)) (i : Int) = (lf[i] : Int) := by show (lf.map fun k : Nat => (k : Int)).getD i 0 = _; simp [hi]
        have hk := hlt lf[i] (List.getElem_mem hi)
        have hC := P_cmd N setW t lf[i] ht hk (by decide) hN
        have hcl := cmdW_len (v := setW) (by decide) (pth_fine ht hk)
        have hTl := flat_len (fun k => cmdW setW (pth t k)) 2700 (lf.take i) (fun k hk => cmdW_len (by decide) (pth_fine ht (hlt k (List.mem_of_mem_take hk))))
        rw [List.length_take] at hTl
        have hws := F_ws3 N true ((lf.take i).flatMap fun k => cmdW setW (pth t k)) (cmdW setW (pth t lf[i])) (by omega) (by simp [cmdW_ne])
        have hsv : ([115, 101, 116] : Bs) = setW := rfl
        simp only [ev_br, ev_leaf, ev_cr, ev_c1, decide_eq_true hi', if_true, ev_ck c1, hat, hsv, hC, obind_some, hws, w1]
        rw [List.take_succ_eq_append_getElem hi, List.flatMap_append]
        simp)
      (by unfold L16_5 U16_5; simp) N (by omega)
    have hW1 : W16_5 N (t, (true, ([] : List Int)), (lf.map fun k : Nat => (k : Int)), ((lf.map fun k : Nat => (k : Int)).length : Int), 0) = some (.brk 0 (t, (true, bts (lf.flatMap fun k => cmdW setW (pth t k))), (lf.map fun k : Nat => (k : Int)), (lf.length : Int), (lf.length : Int))) := by
      have e0 : (t, (true, bts ((lf.take 0).flatMap fun k => cmdW setW (pth t k))), (lf.map fun k : Nat => (k : Int)), (lf.length : Int), ((0 : Nat) : Int)) = (t, (true, ([] : List Int)), (lf.map fun k : Nat => (k : Int)), ((lf.map fun k : Nat => (k : Int)).length : Int), (0 : Int)) := by rw [hll]; rfl
      rw [e0, List.take_length] at l1
      exact l1
    obtain ⟨T1, hT1⟩ : ∃ T, (lf.flatMap fun k => cmdW setW (pth t k)) = T := ⟨_, rfl⟩
    have hT1l : T1.length ≤ 540000 := by
      rw [← hT1]
      have := flat_len (fun k => cmdW setW (pth t k)) 2700 lf (fun k hk => cmdW_len (by decide) (pth_fine ht (hlt k hk)))
      omega
    rw [hT1] at hW1
    have l2 := loop_up (R := Bs × Int) (step := fun x => L16_10 N x.1 x.2.1 x.2.2.1 x.2.2.2.1 x.2.2.2.2) t.length (fun i => (t, (true, bts (T1 ++ (List.range i).flatMap (mrkT t))), t, (t.length : Int), (i : Int)))
      (fun i hi => by
        unfold L16_10 U16_10
        have hi' : (i : Int) < (t.length : Int) := by omega
        have c1 : inR (i : Int) t.length := ⟨by omega, hi'⟩
        have w1 : IntKind.i64.wrap ((i : Int) + 1) = ((i + 1 : Nat) : Int) := by rw [wrapI (by omega) (by omega)]; omega
        have hat : atI tLn t (i : Int) = t.getD i (0, [], 0) := rfl
        have hm := mark_ok (right_rf ht) hi
        have hb1 := bit1 hm.1 hm.2
        have hb2 := bit2 hm.1 hm.2
        have hd1 : ([100, 101, 97, 99, 116, 105, 118, 97, 116, 101] : Bs) = deaW := rfl
        have hp1 : ([112, 114, 111, 116, 101, 99, 116] : Bs) = proW := rfl
        have hC1 := P_cmd N deaW t i ht hi (by decide) hN
        have hC2 := P_cmd N proW t i ht hi (by decide) hN
        have hf := pth_fine ht hi
        have q1 := cmdW_len (v := deaW) (by decide) hf
        have q2 := cmdW_len (v := proW) (by decide) hf
        have hTl := flat_len (mrkT t) 5400 (List.range i) (fun k hk => mrkT_len ht (by have := List.mem_range.1 hk; omega))
        rw [List.length_range] at hTl
        obtain ⟨B, hB⟩ : ∃ B, T1 ++ (List.range i).flatMap (mrkT t) = B := ⟨_, rfl⟩
        have hBl : B.length ≤ 1700000 := by rw [← hB, List.length_append]; omega
        have hsucc : T1 ++ (List.range (i + 1)).flatMap (mrkT t) = B ++ mrkT t i := by
          rw [List.range_succ, List.flatMap_append, ← List.append_assoc, hB]; simp
        rw [hsucc, hB]
        have s1 := F_ws3 N true B (cmdW deaW (pth t i)) (by omega) (by simp [cmdW_ne])
        have s2 := F_ws3 N true B (cmdW proW (pth t i)) (by omega) (by simp [cmdW_ne])
        have s3 := F_ws3 N true (B ++ cmdW deaW (pth t i)) (cmdW proW (pth t i)) (by rw [List.length_append]; omega) (by simp [cmdW_ne])
        have e1 : cmdB (1, pth t i) = cmdW deaW (pth t i) := rfl
        have e2 : cmdB (2, pth t i) = cmdW proW (pth t i) := rfl
        simp only [ev_br, ev_leaf, ev_cr, ev_c1, decide_eq_true hi', if_true, ev_ck c1, hat, hb1, hb2, hd1, hp1, hC1, hC2, obind_some, s1, s2, s3, w1]
        unfold mrkT mrkC
        by_cases o1 : (t.getD i (0, [], 0)).2.2 % 2 = 1
        · by_cases o2 : 1 < (t.getD i (0, [], 0)).2.2
          · simp only [decide_eq_true o1, decide_eq_true o2, if_true, if_pos o1, if_pos o2, List.flatMap_append, List.flatMap_cons, List.flatMap_nil, e1, e2, List.append_nil, List.append_assoc]
          · simp only [decide_eq_true o1, decide_eq_false o2, if_true, if_pos o1, if_neg o2, List.flatMap_append, List.flatMap_cons, List.flatMap_nil, e1, e2, List.append_nil, List.append_assoc, Bool.false_eq_true, if_false]
        · by_cases o2 : 1 < (t.getD i (0, [], 0)).2.2
          · simp only [decide_eq_false o1, decide_eq_true o2, if_true, if_neg o1, if_pos o2, List.flatMap_append, List.flatMap_cons, List.flatMap_nil, e1, e2, List.append_nil, List.nil_append, List.append_assoc, Bool.false_eq_true, if_false]
          · simp only [decide_eq_false o1, decide_eq_false o2, if_true, if_neg o1, if_neg o2, List.flatMap_append, List.flatMap_cons, List.flatMap_nil, e1, e2, List.append_nil, List.append_assoc, Bool.false_eq_true, if_false])
      (by unfold L16_10 U16_10; simp) N (by omega)
    have hW2 : W16_10 N (t, (true, bts T1), t, (t.length : Int), 0) = some (.brk 0 (t, (true, bts (T1 ++ (List.range t.length).flatMap (mrkT t))), t, (t.length : Int), (t.length : Int))) := by
      have e0 : (t, (true, bts (T1 ++ (List.range 0).flatMap (mrkT t))), t, (t.length : Int), ((0 : Nat) : Int)) = (t, (true, bts T1), t, (t.length : Int), (0 : Int)) := by simp
      rw [e0] at l2
      exact l2
    have htxt : textT6 t = T1 ++ (List.range t.length).flatMap (mrkT t) := by
      unfold textT6 cmdsT
      rw [List.flatMap_append, ← hT1, hlf, List.flatMap_map]
      congr 1
      rw [List.flatMap_assoc]
      rfl
    simp only [ev_c1, ev_br, F_right N t htN, obind_some, ht, Bool.not_true, Bool.false_eq_true, if_false, hL, ev_f1, hW1, lp1_brk, hW2, ev_cr, F_string, ev_leaf, if_true, htxt]
  · simp only [ev_c1, ev_br, F_right N t htN, obind_some, ht, Bool.not_false, if_true, ev_leaf, if_false, Bool.false_eq_true]

end Go.Proofs.Ytkbciolghkcjoaa.Vc
