/-
  WHAT PACKAGE lines ANSWERS: commands, read; the document's commands of a tree. No condition.
-/
import Derived.Test.YtkbciolghkcjoaaPn
set_option linter.unusedVariables false
set_option linter.unusedSimpArgs false
namespace Go.Proofs.Ytkbciolghkcjoaa.Vc

/-! ### The document's commands -/

theorem R_one (N : Nat) (v : Bs) (p : List Bs) (hv : v.length ≤ 10) (hp : finePath p) (hN : 5000 < N) : F34 N v p = some (cmdW v p) := by
  unfold F34 V34
  have h16 := hp.2.1
  have := loop_up (R := Bs) (step := fun x => L34_3 N x.1 x.2.1 x.2.2) p.length (fun i => (p, v ++ (p.take i).flatMap (fun w => 32 :: quoteS w), (i : Int)))
    (fun i hi => by
      unfold L34_3 U34_3
      have hi' : (i : Int) < (p.length : Int) := by omega
      have c1 : inR (i : Int) p.length := ⟨by omega, hi'⟩
      have w1 : IntKind.i64.wrap ((i : Int) + 1) = ((i + 1 : Nat) : Int) := by rw [wrapI (by omega) (by omega)]; omega
      have hat : atI tS p (i : Int) = p[i] := by show p.getD i [] = _; simp [hi]
      have h40 := hp.2.2 p[i] (List.getElem_mem hi)
      have hQ := R_quote N p[i] (by omega) (by omega)
      have hql := quote_len p[i]
      have hwl := words_len (p.take i) fun w hw => hp.2.2 w (List.mem_of_mem_take hw)
      rw [List.length_take] at hwl
      rw [List.take_succ_eq_append_getElem hi, List.flatMap_append]
      obtain ⟨B, hB⟩ : ∃ B, v ++ (p.take i).flatMap (fun w => 32 :: quoteS w) = B := ⟨_, rfl⟩
      have hBl : B.length ≤ 5000 := by rw [← hB, List.length_append]; omega
      rw [← List.append_assoc, hB]
      have r1 : room (B.length + ([32] : Bs).length) := by show _ ≤ _; simp; omega
      have r2 : room ((B ++ ([32] : Bs)).length + (quoteS p[i]).length) := by show _ ≤ _; simp; omega
      simp only [ev_br, ev_leaf, ev_c1, decide_eq_true hi', if_true, ev_ck r1, ev_ck c1, hat, hQ, obind_some, ev_ck r2, w1]
      simp)
    (by unfold L34_3 U34_3; simp) N (by omega)
  have hW : W34_3 N (p, v, 0) = some (.brk 0 (p, v ++ p.flatMap (fun w => 32 :: quoteS w), (p.length : Int))) := by
    have e0 : (p, v ++ (p.take 0).flatMap (fun w => 32 :: quoteS w), ((0 : Nat) : Int)) = (p, v, (0 : Int)) := by simp
    rw [e0, List.take_length] at this
    exact this
  have hwl := words_len p hp.2.2
  have r1 : room ((v ++ p.flatMap (fun w => 32 :: quoteS w)).length + ([59, 10] : Bs).length) := by show _ ≤ _; rw [List.length_append]; simp only [List.length_cons, List.length_nil]; omega
  simp only [ev_f1, hW, lp1_brk, ev_ck r1, ev_leaf]
  rfl

theorem leafN_succ (t : List Ln) (k : Nat) : ((List.range (k + 1)).filter fun k => endN t k == k + 1).flatMap (fun k => cmdW setW (pth t k)) = ((List.range k).filter fun k => endN t k == k + 1).flatMap (fun k => cmdW setW (pth t k)) ++ (if endN t k = k + 1 then cmdW setW (pth t k) else []) := by
  rw [List.range_succ, List.filter_append, List.flatMap_append]
  congr 1
  by_cases h : endN t k = k + 1
  · simp [h]
  · simp [h]

theorem R_text6 (N : Nat) (t : List Ln) (ht : rightS t = true) (hN : 5000 < N) : F18 N t = some (textT6 t) := by
  have h200 := right_len ht
  have hdv : ∀ k, k < t.length → F35 N t (k : Int) = some (pth t k) ∧ F33 N t (k : Int) = some (endN t k : Int) := fun k hk => by
    have h1 := R_path N t (k : Int) ht (by omega) (by omega) (by omega)
    have h2 := R_end N t (k : Int) (by omega) (by omega) (by omega) (by omega)
    rw [Int.toNat_natCast] at h1 h2
    exact ⟨h1, h2⟩
  have hs1 : ([115, 101, 116] : Bs) = setW := rfl
  have hd1 : ([100, 101, 97, 99, 116, 105, 118, 97, 116, 101] : Bs) = deaW := rfl
  have hp1 : ([112, 114, 111, 116, 101, 99, 116] : Bs) = proW := rfl
  have l1 := loop_up (R := Bs) (step := fun x => L18_3 N x.1 x.2.1 x.2.2) t.length (fun i => (t, ((List.range i).filter fun k => endN t k == k + 1).flatMap (fun k => cmdW setW (pth t k)), (i : Int)))
    (fun i hi => by
      unfold L18_3 U18_3
      have hi' : (i : Int) < (t.length : Int) := by omega
      have w1 : IntKind.i64.wrap ((i : Int) + 1) = ((i + 1 : Nat) : Int) := by rw [wrapI (by omega) (by omega)]; omega
      obtain ⟨hP, hE⟩ := hdv i hi
      have hf := pth_fine ht hi
      have hO := R_one N setW (pth t i) (by decide) hf hN
      have hcl := cmdW_len (v := setW) (by decide) hf
      have hBl := flat_len (fun k => cmdW setW (pth t k)) 2700 ((List.range i).filter fun k => endN t k == k + 1) (fun k hk => cmdW_len (by decide) (pth_fine ht (by have := List.mem_range.1 (List.mem_filter.1 hk).1; omega)))
      have hfl := List.length_filter_le (fun k => endN t k == k + 1) (List.range i)
      rw [List.length_range] at hfl
      rw [leafN_succ]
      obtain ⟨B, hB⟩ : ∃ B, ((List.range i).filter fun k => endN t k == k + 1).flatMap (fun k => cmdW setW (pth t k)) = B := ⟨_, rfl⟩
      rw [hB] at hBl ⊢
      have r1 : room (B.length + (cmdW setW (pth t i)).length) := by show _ ≤ _; omega
      by_cases he : endN t i = i + 1
      · have hb : ((endN t i : Int) == ((i + 1 : Nat) : Int)) = true := by rw [he]; simp
        simp only [ev_br, ev_leaf, ev_c1, decide_eq_true hi', if_true, hE, obind_some, w1, hb, hP, hs1, hO, ev_ck r1]
        rw [if_pos he]
      · have hb : ((endN t i : Int) == ((i + 1 : Nat) : Int)) = false := by rw [beq_eq_false_iff_ne]; omega
        simp only [ev_br, ev_leaf, ev_c1, decide_eq_true hi', if_true, hE, obind_some, w1, hb, Bool.false_eq_true, if_false, he, List.append_nil])
    (by unfold L18_3 U18_3; simp) N (by omega)
  obtain ⟨T1, hT1⟩ : ∃ T, ((leafL t).flatMap fun k => cmdW setW (pth t k)) = T := ⟨_, rfl⟩
  have hT1l : T1.length ≤ 540000 := by
    rw [← hT1]
    have h1 := flat_len (fun k => cmdW setW (pth t k)) 2700 (leafL t) (fun k hk => cmdW_len (by decide) (pth_fine ht (leaf_lt hk)))
    have h2 := List.length_filter_le (fun k => endN t k == k + 1) (List.range t.length)
    have h3 : (leafL t).length ≤ t.length := by unfold leafL; simpa using h2
    omega
  have hW1 : W18_3 N (t, ([] : Bs), 0) = some (.brk 0 (t, T1, (t.length : Int))) := by rw [← hT1]; exact l1
  have l2 := loop_up (R := Bs) (step := fun x => L18_8 N x.1 x.2.1 x.2.2) t.length (fun i => (t, T1 ++ (List.range i).flatMap (mrkT t), (i : Int)))
    (fun i hi => by
      unfold L18_8 U18_8
      have hi' : (i : Int) < (t.length : Int) := by omega
      have c1 : inR (i : Int) t.length := ⟨by omega, hi'⟩
      have w1 : IntKind.i64.wrap ((i : Int) + 1) = ((i + 1 : Nat) : Int) := by rw [wrapI (by omega) (by omega)]; omega
      have hat : atI tLn t (i : Int) = t.getD i (0, [], 0) := rfl
      have hm := mark_ok (right_rf ht) hi
      have htm : ((t.getD i (0, [], 0)).2.2.tmod 2 == 1) = decide ((t.getD i (0, [], 0)).2.2 % 2 = 1) := by
        rw [Int.tmod_eq_emod_of_nonneg hm.1, Bool.eq_iff_iff]; simp
      have c2 : (2 : Int) ≠ 0 := by decide
      obtain ⟨hP, _⟩ := hdv i hi
      have hf := pth_fine ht hi
      have hO1 := R_one N deaW (pth t i) (by decide) hf hN
      have hO2 := R_one N proW (pth t i) (by decide) hf hN
      have q1 := cmdW_len (v := deaW) (by decide) hf
      have q2 := cmdW_len (v := proW) (by decide) hf
      have hTl := flat_len (mrkT t) 5400 (List.range i) (fun k hk => mrkT_len ht (by have := List.mem_range.1 hk; omega))
      rw [List.length_range] at hTl
      obtain ⟨B, hB⟩ : ∃ B, T1 ++ (List.range i).flatMap (mrkT t) = B := ⟨_, rfl⟩
      have hBl : B.length ≤ 1700000 := by rw [← hB, List.length_append]; omega
      have hsucc : T1 ++ (List.range (i + 1)).flatMap (mrkT t) = B ++ mrkT t i := by
        rw [List.range_succ, List.flatMap_append, ← List.append_assoc, hB]; simp
      rw [hsucc, hB]
      have r1 : room (B.length + (cmdW deaW (pth t i)).length) := by show _ ≤ _; omega
      have r2 : room (B.length + (cmdW proW (pth t i)).length) := by show _ ≤ _; omega
      have r3 : room ((B ++ cmdW deaW (pth t i)).length + (cmdW proW (pth t i)).length) := by show _ ≤ _; rw [List.length_append]; omega
      have e1 : cmdB (1, pth t i) = cmdW deaW (pth t i) := rfl
      have e2 : cmdB (2, pth t i) = cmdW proW (pth t i) := rfl
      simp only [ev_br, ev_leaf, ev_c1, decide_eq_true hi', if_true, ev_ck c1, ev_ck c2, hat, htm, hP, obind_some, hd1, hp1, hO1, hO2, ev_ck r1, ev_ck r2, ev_ck r3, w1, decide_eq_true_eq]
      unfold mrkT mrkC
      by_cases o1 : (t.getD i (0, [], 0)).2.2 % 2 = 1
      · by_cases o2 : 1 < (t.getD i (0, [], 0)).2.2
        · simp only [if_pos o1, if_pos o2, List.flatMap_append, List.flatMap_cons, List.flatMap_nil, e1, e2, List.append_nil, List.append_assoc]
        · simp only [if_pos o1, if_neg o2, List.flatMap_append, List.flatMap_cons, List.flatMap_nil, e1, e2, List.append_nil, List.append_assoc]
      · by_cases o2 : 1 < (t.getD i (0, [], 0)).2.2
        · simp only [if_neg o1, if_pos o2, List.flatMap_append, List.flatMap_cons, List.flatMap_nil, e1, e2, List.append_nil, List.nil_append, List.append_assoc]
        · simp only [if_neg o1, if_neg o2, List.flatMap_append, List.flatMap_cons, List.flatMap_nil, e1, e2, List.append_nil, List.append_assoc])
    (by unfold L18_8 U18_8; simp) N (by omega)
  have hW2 : W18_8 N (t, T1, 0) = some (.brk 0 (t, T1 ++ (List.range t.length).flatMap (mrkT t), (t.length : Int))) := by
    have e0 : (t, T1 ++ (List.range 0).flatMap (mrkT t), ((0 : Nat) : Int)) = (t, T1, (0 : Int)) := by simp
    rw [e0] at l2
    exact l2
  have htxt : textT6 t = T1 ++ (List.range t.length).flatMap (mrkT t) := by
    unfold textT6 cmdsT
    rw [List.flatMap_append, ← hT1, List.flatMap_map]
    congr 1
    rw [List.flatMap_assoc]
    rfl
  unfold F18 V18
  simp only [ev_f1, hW1, lp1_brk, hW2, ev_leaf, htxt]

/-! ### Commands, read -/

theorem P_bits (N : Nat) (w : Bs) : F58 N w = some (bitsS w) := by
  unfold F58 V58 bitsS
  simp only [ev_br, ev_leaf, beq_iff_eq]
  show (if w = setW then some (0 : Int) else if w = deaW then some 1 else if w = proW then some 2 else some (-1)) = _
  split
  · rfl
  · split
    · rfl
    · split <;> rfl

theorem P_act (N : Nat) (t : List Ln) (v : Bs) (p : List Bs) (ht : rightS t = true) (hb : 0 ≤ bitsS v) (hp : p.length ≤ 1000) (hN : 5000 < N) : F38 N t v p = some (actS t (bitsS v, p)) := by
  have h200 := right_len ht
  have hrf := right_rf ht
  unfold F38 V38 actS
  have hA := E_add N t p (by omega) (by omega) (by omega) (by omega)
  simp only [ev_c1, P_bits, obind_some, ev_br, ev_leaf, ev_c3, hA]
  by_cases h0 : bitsS v = 0
  · simp [h0]
  · have hb2 := (bits_good v hb).elim (fun h => absurd h h0) id
    have hz : (bitsS v == 0) = false := by simpa using h0
    simp only [hz, Bool.false_eq_true, if_false, h0, ev_c2]
    have hF := F_find N t p (by omega)
    rw [fndS_eq, if_pos ht] at hF
    rw [if_pos ht]
    cases hf : fnd t p with
    | none =>
      rw [hf] at hF
      simp only [hF, obind_some, Bool.not_false, if_true, ev_br, ev_leaf]
    | some i =>
      rw [hf] at hF
      obtain ⟨hi, _⟩ := fnd_of hf
      have c1 : inR (i : Int) t.length := ⟨by omega, by omega⟩
      have hC := F_clone N t (by omega)
      have hat : atI tLn t (i : Int) = t.getD i (0, [], 0) := rfl
      have hm := mark_ok hrf hi
      have ho := or_bit hm.1 hm.2 hb2
      simp only [hF, obind_some, Bool.not_true, Bool.false_eq_true, if_false, ev_br, ev_c1, ev_leaf, hC, ev_ck c1, hat, ho, Int.toNat_natCast]
      rfl

def bareK (x : Tok) : BT := (x.1, x.2.2)
theorem bareK_to (n : Nat) (l : List RTok) : (l.map (toTok n)).map bareK = l.map bareT := by
  rw [List.map_map]; rfl

/-- Cut off: the path, and what is left. -/
theorem P_cut (N : Nat) (l : List Tok) (e : Int) (hl : l.length ≤ 1000000) (hlN : l.length < N) :
    (∃ (path : List Bs) (n : Nat), F37 N l e = some (path, (n : Int), 0, 0) ∧ 0 < n ∧ n ≤ l.length ∧ ∃ x r, l = x :: r ∧ path.length ≤ 16 ∧ 0 ≤ bitsS x.2.2.1 ∧ cutB (l.map bareK) = some ((bitsS x.2.2.1, path), (l.drop n).map bareK)) ∨
    (∃ a b, F37 N l e = some ([], 0, a, b) ∧ b ≠ 0 ∧ ∀ q, cutB (l.map bareK) ≠ some q) := by
  -- what is known at place k
  have hdec : ∀ q, cutB (l.map bareK) = some q → ∃ m, 1 ≤ m ∧ m ≤ 16 ∧ m + 1 < l.length ∧ (∀ j (h : j < l.length), j ≤ m → l[j].1 = 1) ∧ (∀ (h : m + 1 < l.length), l[m + 1].1 = 4) ∧ (∀ (h : 0 < l.length), 0 ≤ bitsS l[0].2.2.1) := fun q hq => by
    obtain ⟨c, r⟩ := q
    obtain ⟨t, ns, e, h1, h2, h3, h4, h5, h6, h7, _⟩ := cutB_some hq
    have hlen := congrArg List.length h1
    simp only [List.length_map, List.length_cons, List.length_append] at hlen
    have hget : ∀ j (h : j < l.length), (l.map bareK)[j]'(by simpa using h) = (t :: (ns ++ e :: r))[j]'(by simp; omega) := fun j h => by simp only [h1]
    refine ⟨ns.length, List.length_pos_iff.2 h4, h5, by omega, fun j h hj => ?_, fun h => ?_, fun h => ?_⟩
    · have := hget j h
      rw [List.getElem_map] at this
      cases j with
      | zero => rw [List.getElem_cons_zero] at this; rw [← this] at h2; exact h2
      | succ j =>
        rw [List.getElem_cons_succ, List.getElem_append_left (by omega)] at this
        have h9 := h6 _ (List.getElem_mem (show j < ns.length by omega))
        rw [← this] at h9
        simpa [isN, bareK] using h9
    · have := hget (ns.length + 1) h
      rw [List.getElem_map, List.getElem_cons_succ, List.getElem_append_right (by omega)] at this
      simp only [Nat.sub_self, List.getElem_cons_zero] at this
      rw [← this] at h7; exact h7
    · have := hget 0 h
      rw [List.getElem_map, List.getElem_cons_zero] at this
      rw [← this] at h3; exact h3
  obtain ⟨o, ho, hp⟩ := runLoop_post (R := List Bs × Int × Int × Int) (step := fun x => L37_3 N x.1 x.2.1 x.2.2.1 x.2.2.2.1 x.2.2.2.2)
    (fun x => ∃ k : Nat, k ≤ l.length ∧ x = (e, ((l.drop 1).take (k - 1)).map (fun y => y.2.2.1), l, (l.length : Int), (k : Int)) ∧ k ≤ 17 ∧ (∀ j (h : j < l.length), j < k → l[j].1 = 1) ∧ (0 < k → ∀ (h : 0 < l.length), 0 ≤ bitsS l[0].2.2.1)) (fun x => (l.length - x.2.2.2.2).toNat)
    (fun o => (∃ (path : List Bs) (n : Nat), o = .ret (path, (n : Int), 0, 0) ∧ 0 < n ∧ n ≤ l.length ∧ ∃ x r, l = x :: r ∧ path.length ≤ 16 ∧ 0 ≤ bitsS x.2.2.1 ∧ cutB (l.map bareK) = some ((bitsS x.2.2.1, path), (l.drop n).map bareK)) ∨
      (∃ a b, o = .ret ([], 0, a, b) ∧ b ≠ 0 ∧ ∀ q, cutB (l.map bareK) ≠ some q) ∨ (∃ x, o = .brk 0 x ∧ x.1 = e ∧ ∀ q, cutB (l.map bareK) ≠ some q))
    (by
      rintro x ⟨k, hk, rfl, hk17, hone, hbit⟩
      dsimp only
      unfold L37_3 U37_3
      by_cases h : k < l.length
      · have hk' : (k : Int) < l.length := by omega
        have c1 : inR (k : Int) l.length := ⟨by omega, hk'⟩
        have hat : atI (.pair tI tLn) l (k : Int) = l[k] := by show l.getD k _ = _; simp [h]
        obtain ⟨y, hy⟩ : ∃ y, l[k] = y := ⟨_, rfl⟩
        rw [hy] at hat
        have w1 : IntKind.i64.wrap ((k : Int) + 1) = ((k + 1 : Nat) : Int) := by rw [wrapI (by omega) (by omega)]; omega
        have none1 : y.1 ≠ 1 → y.1 ≠ 4 → ∀ q, cutB (l.map bareK) ≠ some q := fun n1 n4 q hq => by
          obtain ⟨m, m1, m2, m3, m4, m5, m6⟩ := hdec q hq
          have hle : k ≤ m + 1 := by
            rcases Nat.lt_or_ge (m + 1) k with h9 | h9
            · have := hone (m + 1) m3 h9
              rw [m5 m3] at this; cases this
            · exact h9
          rcases Nat.lt_or_eq_of_le hle with h9 | h9
          · have := m4 k h (by omega); rw [hy] at this; exact n1 this
          · subst h9; have := m5 h; rw [hy] at this; exact n4 this
        by_cases y4 : y.1 = 4
        · have b4 : (y.1 == 4) = true := by simpa using y4
          by_cases k1 : 1 < k
          · have hk1 : (1 : Int) < (k : Int) := by omega
            simp only [ev_br, ev_leaf, decide_eq_true hk', if_true, ev_ck c1, hat, b4, decide_eq_true hk1, w1]
            refine ⟨_, rfl, .inr ⟨by simp, .inl ⟨_, k + 1, rfl, by omega, by omega, ?_⟩⟩⟩
            cases hl0 : l with
            | nil => rw [hl0] at h; simp at h
            | cons x r =>
              subst hl0
              have hb0 := hbit (by omega) (by simp)
              refine ⟨x, r, rfl, by simp; omega, hb0, ?_⟩
              have hr : r = r.take (k - 1) ++ y :: r.drop k := by
                have hrk : k - 1 < r.length := by simp at h; omega
                have hyr : r[k - 1] = y := by
                  rw [← hy]
                  have : k = (k - 1) + 1 := by omega
                  simp only [List.getElem_cons]
                  split
                  · omega
                  · rfl
                rw [← hyr]
                have := List.drop_eq_getElem_cons hrk
                rw [show k - 1 + 1 = k by omega] at this
                rw [← this, List.take_append_drop]
              have hx1 : x.1 = 1 := hone 0 (by simp) (by omega)
              have hns : ∀ z ∈ (r.take (k - 1)).map bareK, isN z = true := fun z hz => by
                obtain ⟨u, hu, rfl⟩ := List.mem_map.1 hz
                obtain ⟨i, hi, rfl⟩ := List.getElem_of_mem hu
                rw [List.length_take] at hi
                rw [List.getElem_take]
                have := hone (i + 1) (by simp; omega) (by omega)
                rw [List.getElem_cons_succ] at this
                unfold isN bareK
                simp [this]
              have hrl : r.length + 1 > k := by simp at h; omega
              have hmk := cutB_make (t := bareK x) (ns := (r.take (k - 1)).map bareK) (e := bareK y) (r := (r.drop k).map bareK) hx1 hb0 (fun e => by have := congrArg List.length e; rw [List.length_map, List.length_take, List.length_nil] at this; omega) (by rw [List.length_map, List.length_take]; omega) hns y4
              have e1 : (x :: r).map bareK = bareK x :: ((r.take (k - 1)).map bareK ++ bareK y :: (r.drop k).map bareK) := by
                conv => lhs; rw [hr]
                simp
              rw [e1, hmk]
              simp only [List.map_map, List.drop_succ_cons, List.drop_zero]
              rfl
          · have hk1 : ¬ (1 : Int) < (k : Int) := by omega
            have n1 : (y.1 != 1) = true := by rw [y4]; rfl
            simp only [ev_br, ev_leaf, decide_eq_true hk', if_true, ev_ck c1, hat, b4, decide_eq_false hk1, Bool.false_eq_true, if_false, n1]
            refine ⟨_, rfl, .inr ⟨by simp, .inr (.inl ⟨_, _, rfl, by decide, fun q hq => ?_⟩)⟩⟩
            obtain ⟨m, m1, m2, m3, m4, m5, m6⟩ := hdec q hq
            have := m4 k h (by omega)
            rw [hy, y4] at this; cases this
        · have b4 : (y.1 == 4) = false := by simpa using y4
          by_cases y1 : y.1 = 1
          · have n1 : (y.1 != 1) = false := by rw [y1]; rfl
            by_cases k0 : k = 0
            · subst k0
              have z0 : (((0 : Nat) : Int) == 0) = true := rfl
              have z16 : ¬ (16 : Int) < ((0 : Nat) : Int) := by omega
              have z00 : ¬ (0 : Int) < ((0 : Nat) : Int) := by omega
              by_cases hb : bitsS y.2.2.1 < 0
              · simp only [ev_br, ev_leaf, ev_c1, decide_eq_true hk', if_true, ev_ck c1, hat, b4, Bool.false_eq_true, if_false, n1, z0, P_bits, obind_some, decide_eq_true hb]
                refine ⟨_, rfl, .inr ⟨by simp, .inr (.inl ⟨_, _, rfl, by decide, fun q hq => ?_⟩)⟩⟩
                obtain ⟨m, m1, m2, m3, m4, m5, m6⟩ := hdec q hq
                have := m6 h
                rw [hy] at this; omega
              · simp only [ev_br, ev_leaf, ev_c1, decide_eq_true hk', if_true, ev_ck c1, hat, b4, Bool.false_eq_true, if_false, n1, z0, P_bits, obind_some, decide_eq_false hb, decide_eq_false z16, decide_eq_false z00, w1]
                refine ⟨_, rfl, .inl ⟨_, rfl, ⟨1, by omega, rfl, by omega, fun j hj hj1 => ?_, fun _ h9 => ?_⟩, by simp only; omega⟩⟩
                · have : j = 0 := by omega
                  subst this; rw [hy]; exact y1
                · rw [hy]; omega
            · have z0 : ((k : Int) == 0) = false := by rw [beq_eq_false_iff_ne]; omega
              by_cases k16 : 16 < k
              · have z16 : (16 : Int) < (k : Int) := by omega
                simp only [ev_br, ev_leaf, ev_c1, decide_eq_true hk', if_true, ev_ck c1, hat, b4, Bool.false_eq_true, if_false, n1, z0, decide_eq_true z16]
                refine ⟨_, rfl, .inr ⟨by simp, .inr (.inl ⟨_, _, rfl, by decide, fun q hq => ?_⟩)⟩⟩
                obtain ⟨m, m1, m2, m3, m4, m5, m6⟩ := hdec q hq
                rcases Nat.lt_or_ge (m + 1) k with h9 | h9
                · have := hone (m + 1) m3 h9
                  rw [m5 m3] at this; cases this
                · have hkm : k = m + 1 := by omega
                  have h8 := m5 m3
                  subst hkm
                  rw [hy, y1] at h8; cases h8
              · have z16 : ¬ (16 : Int) < (k : Int) := by omega
                have z00 : (0 : Int) < (k : Int) := by omega
                have r1 : ∀ z : Bs, room ((((l.drop 1).take (k - 1)).map (fun y => y.2.2.1)).length + ([z] : List Bs).length) := fun z => by show _ ≤ _; simp; omega
                simp only [ev_br, ev_leaf, ev_c1, decide_eq_true hk', if_true, ev_ck c1, hat, b4, Bool.false_eq_true, if_false, n1, z0, decide_eq_false z16, decide_eq_true z00, ev_ck (r1 _), w1]
                refine ⟨_, rfl, .inl ⟨_, rfl, ⟨k + 1, by omega, ?_, by omega, fun j hj hj1 => ?_, fun _ h9 => hbit (by omega) h9⟩, by simp only; omega⟩⟩
                · have hd : k - 1 < (l.drop 1).length := by rw [List.length_drop]; omega
                  have hg : (l.drop 1)[k - 1] = y := by
                    rw [List.getElem_drop]
                    simp only [show 1 + (k - 1) = k by omega]
                    exact hy
                  have : ((l.drop 1).take (k + 1 - 1)).map (fun y => y.2.2.1) = ((l.drop 1).take (k - 1)).map (fun y => y.2.2.1) ++ [y.2.2.1] := by
                    rw [show k + 1 - 1 = (k - 1) + 1 by omega, List.take_succ_eq_append_getElem hd, List.map_append, hg]
                    rfl
                  rw [this]
                · rcases Nat.lt_or_ge j k with h9 | h9
                  · exact hone j hj h9
                  · have : j = k := by omega
                    subst this; rw [hy]; exact y1
          · have n1 : (y.1 != 1) = true := by simpa using y1
            simp only [ev_br, ev_leaf, decide_eq_true hk', if_true, ev_ck c1, hat, b4, Bool.false_eq_true, if_false, n1]
            exact ⟨_, rfl, .inr ⟨by simp, .inr (.inl ⟨_, _, rfl, by decide, none1 y1 y4⟩)⟩⟩
      · have hk' : ¬ (k : Int) < l.length := by omega
        have hkl : k = l.length := by omega
        refine ⟨.brk 0 (e, ((l.drop 1).take (k - 1)).map (fun y => y.2.2.1), l, (l.length : Int), (k : Int)), by simp only [ev_br, decide_eq_false hk', Bool.false_eq_true, if_false, ev_leaf], .inr ⟨by simp, .inr (.inr ⟨_, rfl, rfl, fun q hq => ?_⟩)⟩⟩
        obtain ⟨m, m1, m2, m3, m4, m5, m6⟩ := hdec q hq
        have := hone (m + 1) m3 (by omega)
        rw [m5 m3] at this; cases this) N (e, [], l, (l.length : Int), 0) ⟨0, Nat.zero_le _, by simp, by omega, fun j h h0 => by omega, fun h0 => by omega⟩ (by simp; omega)
  have hW : W37_3 N (e, ([] : List Bs), l, (l.length : Int), 0) = some o := ho
  unfold F37 V37
  simp only [ev_f1, hW, ev_leaf]
  rcases hp with ⟨path, n, rfl, h1⟩ | ⟨a, b, rfl, h1, h2⟩ | ⟨x, rfl, hx, h2⟩
  · exact .inl ⟨path, n, rfl, h1⟩
  · exact .inr ⟨a, b, rfl, h1, h2⟩
  · exact .inr ⟨x.1, 2, rfl, by decide, h2⟩

end Go.Proofs.Ytkbciolghkcjoaa.Vc
