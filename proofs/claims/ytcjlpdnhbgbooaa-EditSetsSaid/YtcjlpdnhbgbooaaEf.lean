/-
  WHAT THE FUNCTIONS OF PACKAGES lines (Add) AND edit ANSWER. No condition.
-/
import Derived.Test.YtcjlpdnhbgbooaaTg
import Derived.Test.YtcjlpdnhbgbooaaEs
set_option linter.unusedVariables false
set_option linter.unusedSimpArgs false
namespace Go.Proofs.Ytcjlpdnhbgbooaa.Vc

theorem slc0 {α : Type} (l : List α) (b : Int) : slc l 0 b = l.take b.toNat := by simp [slc]
theorem slcE {α : Type} (l : List α) (a : Int) : slc l a (l.length : Int) = l.drop a.toNat := by
  unfold slc
  rw [Int.toNat_natCast, List.take_of_length_le]
  rw [List.length_drop]; exact Nat.le_refl _
theorem fndS_eq (t : List Ln) (q : List Bs) : fndS t q = if rightS t = true then fnd t q else none := rfl
theorem F_cloneS (N : Nat) (t : List Bs) (h : t.length ≤ 1073741824) : F51o N t = some t := by
  unfold F51o V51o
  refine ev_nq _ _ _ ?_ (fun he => by simp [he])
  rw [ev_ck (show room _ by show _ ≤ _; simpa using h)]; simp

/-! ### Locks -/

theorem bit2 {m : Int} (h0 : 0 ≤ m) (h3 : m ≤ 3) : (IntKind.i64.wrap (((BitVec.ofInt IntKind.i64.bits m &&& BitVec.ofInt IntKind.i64.bits 2).toNat : Int)) != 0) = decide (1 < m) := by
  have : m = 0 ∨ m = 1 ∨ m = 2 ∨ m = 3 := by omega
  rcases this with rfl | rfl | rfl | rfl <;> decide
theorem mark_ok {t : List Ln} (h : rf [] t = true) {i : Nat} (hi : i < t.length) : 0 ≤ (t.getD i (0, [], 0)).2.2 ∧ (t.getD i (0, [], 0)).2.2 ≤ 3 := by
  rw [getD_of_lt t hi]
  have := snd_iff.1 (rf_at h hi).1
  omega

def keptS (t : List Ln) (q : List Bs) : Bool := rightS t && keptN t q q.length
theorem keptS_eq {t : List Ln} {q : List Bs} : keptS t q = !((List.range q.length).all fun k => !(rightS t && hot (gt t (q.take (k + 1))))) := by
  unfold keptS keptN
  cases rightS t
  · simp
  · simp only [Bool.true_and]
    rw [List.any_eq_not_all_not]

theorem E_kept (N : Nat) (t : List Ln) (q : List Bs) (hN : t.length < N) (hqN : q.length < N) (hq : q.length ≤ 1073741824) : F33 N t q = some (keptS t q) := by
  unfold F33 V33
  simp only [ev_f1, ev_leaf]
  have := loop_all (R := Bool) (step := fun x => L33_2 N x.1 x.2.1 x.2.2.1 x.2.2.2) q.length (fun k => !(rightS t && hot (gt t (q.take (k + 1))))) (fun i => (t, q, (q.length : Int), i)) true (fun i h0 hi => by
    unfold L33_2 U33_2
    by_cases h : i < q.length
    · have e1 : (i + 1).toNat = i.toNat + 1 := by omega
      simp (disch := first | assumption | omega) only [ev_br, ev_leaf, ev_c1, ev_c2, ev_c3, ev_c4, ev_cr, ev_cr2, ev_f0, ev_f1, ev_f2, obind_some, decide_eq_true_eq, Bool.not_eq_true', Bool.true_eq_false, Bool.false_eq_true, if_true, if_false, reduceCtorEq, h, wrapI, ev_ck, slc0, F_find N t _ hN, e1]
      rw [fndS_eq]
      by_cases hr : rightS t = true
      · obtain ⟨h200, hrf⟩ := rightS_iff.1 hr
        simp only [hr, if_true, Bool.true_and]
        cases hf : fnd t (q.take (i.toNat + 1)) with
        | none =>
          rw [fnd_none0.1 hf]
          simp [hot]
        | some j =>
          have hj := (fnd_of hf).1
          have hm := mark_ok hrf hj
          have hin : inR (j : Int) t.length := ⟨by omega, by omega⟩
          simp only [ev_br, ev_leaf, ev_c1, ev_c2, ev_c3, ev_c4, ev_cr, ev_cr2, ev_f0, ev_f1, ev_f2, obind_some, decide_eq_true_eq, Bool.not_eq_true', Bool.true_eq_false, Bool.false_eq_true, if_true, if_false, reduceCtorEq, ev_ck hin, atI_nat, Int.toNat_natCast, bit2 hm.1 hm.2]
          rw [fnd_gt hrf hf]
          simp only [hot, Bool.not_eq_true', decide_eq_false_iff_not, ite_not]
          split <;> simp [*]
      · have hr' : rightS t = false := by simpa using hr
        simp [hr']
    · simp [h]) N hqN
  unfold W33_2
  rw [this, keptS_eq]
  cases (List.range q.length).all fun k => !(rightS t && hot (gt t (q.take (k + 1)))) <;> rfl

theorem E_locked (N : Nat) (t : List Ln) (q : List Bs) (hN : t.length < N) (hqN : q.length < N) (hq : q.length ≤ 1073741824) : F17 N t q = some (keptS t q) := by
  unfold F17 V17
  simp only [ev_br, ev_leaf, ev_c1, ev_c2, ev_c3, ev_c4, ev_cr, ev_cr2, ev_f0, ev_f1, ev_f2, obind_some, decide_eq_true_eq, Bool.not_eq_true', Bool.true_eq_false, Bool.false_eq_true, if_true, if_false, reduceCtorEq, E_kept N t q hN hqN hq]

theorem keptN_init (t : List Ln) (q : List Bs) : keptN t q.dropLast q.dropLast.length = keptN t q (q.length - 1) := by
  rw [Bool.eq_iff_iff, kept_all, kept_above]
theorem E_above (N : Nat) (t : List Ln) (q : List Bs) (hN : t.length < N) (hqN : q.length < N) (hq : q.length ≤ 1073741824) : F19 N t q = some (rightS t && keptN t q (q.length - 1)) := by
  unfold F19 V19
  have e : imax (IntKind.i64.wrap ((q.length : Int) - 1)) 0 = ((q.length - 1 : Nat) : Int) := by
    rw [wrapI (by omega) (by omega)]; unfold imax; split <;> omega
  have hl : (q.take (q.length - 1)).length = q.length - 1 := by rw [List.length_take]; omega
  simp (disch := omega) only [e, ev_br, ev_leaf, ev_c1, ev_c2, ev_c3, ev_c4, ev_cr, ev_cr2, ev_f0, ev_f1, ev_f2, obind_some, decide_eq_true_eq, Bool.not_eq_true', Bool.true_eq_false, Bool.false_eq_true, if_true, if_false, reduceCtorEq, ev_ck, slc0, Int.toNat_natCast, E_kept N t (q.take (q.length - 1)) hN (by omega) (by omega)]
  rw [← List.dropLast_eq_take]
  unfold keptS
  rw [keptN_init]

/-! ### Parts -/

theorem E_part (N : Nat) (t : List Ln) (q : List Bs) (hN : t.length < N) : F36 N t q = some (if rightS t = true then (if q = [] then ((0 : Int), (0 : Int), (1 : Int)) else match fnd t q with | some i => ((i : Int), (endN t i : Int), (0 : Int)) | none => (0, 0, 3)) else (0, 0, 1)) := by
  unfold F36 V36
  simp only [ev_br, ev_leaf, ev_c1, ev_c2, ev_c3, ev_c4, ev_cr, ev_cr2, ev_f0, ev_f1, ev_f2, obind_some, decide_eq_true_eq, Bool.not_eq_true', Bool.true_eq_false, Bool.false_eq_true, if_true, if_false, reduceCtorEq, F_right N t hN, F_find N t q hN, fndS_eq]
  by_cases hr : rightS t = true
  · simp only [hr, if_true, Bool.true_eq_false, if_false]
    by_cases hq : q = []
    · subst hq; simp
    · have : ((q.length : Int) == 0) = false := by
        simp; exact hq
      rw [this, if_neg hq]
      simp only [Bool.false_eq_true, if_false]
      cases hf : fnd t q with
      | none => simp
      | some i =>
        have hi := (fnd_of hf).1
        have ht : thereS t (i : Int) = true := thereS_iff.2 ⟨by omega, by omega, hr⟩
        simp only [ev_br, ev_leaf, ev_c1, ev_c2, ev_c3, ev_c4, ev_cr, ev_cr2, ev_f0, ev_f1, ev_f2, obind_some, decide_eq_true_eq, Bool.not_eq_true', Bool.true_eq_false, Bool.false_eq_true, if_true, if_false, reduceCtorEq, F_end N t _ hN, ht, Int.toNat_natCast]
  · simp [hr]

theorem E_shut1 (N : Nat) (l : Ln) : F50 N l = some (IntKind.i64.wrap (((BitVec.ofInt IntKind.i64.bits l.2.2 &&& BitVec.ofInt IntKind.i64.bits 2).toNat : Int)) != 0) := rfl

theorem E_cont (N : Nat) (t : List Ln) (hm : ∀ l ∈ t, 0 ≤ l.2.2 ∧ l.2.2 ≤ 3) (hl : t.length ≤ 1073741824) (hN : t.length < N) : F49C50 N t = some (t.any fun l => decide (1 < l.2.2)) := by
  unfold F49C50 V49C50 F58C50 V58C50
  simp only [ev_br, ev_leaf, ev_c1, ev_c2, ev_c3, ev_c4, ev_cr, ev_cr2, ev_f0, ev_f1, ev_f2, obind_some, decide_eq_true_eq, Bool.not_eq_true', Bool.true_eq_false, Bool.false_eq_true, if_true, if_false, reduceCtorEq]
  obtain ⟨o, ho, hp⟩ := runLoop_post (R := Int) (step := fun x => L58C50_2 N x.1 x.2.1 x.2.2.1 x.2.2.2)
    (fun x => x.1 = t ∧ x.2.2.1 = (t.length : Int) ∧ 0 ≤ x.2.2.2 ∧ x.2.2.2 ≤ t.length ∧ ∀ j, j < x.2.2.2.toNat → (t.getD j (0, [], 0)).2.2 ≤ 1) (fun x => (t.length - x.2.2.2).toNat)
    (fun o => (∃ i : Int, o = .ret i ∧ 0 ≤ i ∧ (t.any fun l => decide (1 < l.2.2)) = true) ∨ ((∃ x, o = .brk 0 x) ∧ (t.any fun l => decide (1 < l.2.2)) = false))
    (by
      rintro ⟨t', b, n, i⟩ ⟨e1, e2, h0, hle, hno⟩
      dsimp only at e1 e2 h0 hle hno ⊢
      subst e1; subst e2
      unfold L58C50_2 U58C50_2
      by_cases hi : i < t'.length
      · have hil : i.toNat < t'.length := by omega
        have c1 : inR i t'.length := ⟨h0, hi⟩
        have hmem : t'[i.toNat] ∈ t' := List.getElem_mem hil
        have hb := hm _ hmem
        simp (disch := first | assumption | omega) only [ev_br, ev_leaf, ev_c1, ev_c2, ev_c3, ev_c4, ev_cr, ev_cr2, ev_f0, ev_f1, ev_f2, obind_some, decide_eq_true_eq, Bool.not_eq_true', Bool.true_eq_false, Bool.false_eq_true, if_true, if_false, reduceCtorEq, ev_ck, hi, wrapI, E_shut1, atI_nat, getD_of_lt t' hil, bit2 hb.1 hb.2]
        by_cases hg : 1 < (t'[i.toNat]).2.2
        · rw [if_pos hg]
          exact ⟨_, rfl, .inr ⟨by simp, .inl ⟨i, rfl, h0, List.any_eq_true.2 ⟨_, hmem, by simpa using hg⟩⟩⟩⟩
        · rw [if_neg hg]
          refine ⟨_, rfl, .inl ⟨_, rfl, ⟨rfl, rfl, by simp only; omega, by simp only; omega, fun j hj => ?_⟩, by simp only; omega⟩⟩
          simp only at hj
          rcases Nat.lt_or_ge j i.toNat with h | h
          · exact hno j h
          · have : j = i.toNat := by omega
            subst this; rw [getD_of_lt t' hil]; omega
      · refine ⟨.brk 0 (t', true, (t'.length : Int), i), by simp [hi], .inr ⟨by simp, .inr ⟨⟨_, rfl⟩, ?_⟩⟩⟩
        rw [List.any_eq_false]
        intro l hl
        obtain ⟨j, hj, rfl⟩ := List.getElem_of_mem hl
        have := hno j (by omega)
        rw [getD_of_lt t' hj] at this
        simp; omega) N (t, true, (t.length : Int), 0) ⟨rfl, rfl, by simp, by simp, fun j hj => by simp at hj⟩ (by simp only; omega)
  unfold W58C50_2
  rw [ho]
  rcases hp with ⟨i, rfl, h0, h1⟩ | ⟨⟨x, rfl⟩, h1⟩
  · rw [h1]; simp [h0]
  · rw [h1]; simp

def shutB (t : List Ln) (q : List Bs) (i : Nat) : Bool := keptN t q q.length || (partN t i).any fun l => decide (1 < l.2.2)
theorem slc_part (t : List Ln) (i : Nat) : slc t (i : Int) (endN t i : Int) = partN t i := by unfold slc partN; simp
theorem E_shut (N : Nat) (t : List Ln) (q : List Bs) {i : Nat} (hr : rightS t = true) (hi : i < t.length) (hN : t.length < N) (hqN : q.length < N) (hq : q.length ≤ 1073741824) : F37 N t q i (endN t i) = some (shutB t q i) := by
  unfold F37 V37 shutB
  obtain ⟨h200, hrf⟩ := rightS_iff.1 hr
  have hle := endN_le t hi
  have hgt := endN_gt t i
  have hpl : (partN t i).length = endN t i - i := by unfold partN; simp; omega
  simp (disch := omega) only [ev_br, ev_leaf, ev_c1, ev_c2, ev_c3, ev_c4, ev_cr, ev_cr2, ev_f0, ev_f1, ev_f2, obind_some, decide_eq_true_eq, Bool.not_eq_true', Bool.true_eq_false, Bool.false_eq_true, if_true, if_false, reduceCtorEq, E_kept N t q hN hqN hq, keptS, hr, Bool.true_and, ev_ck, slc_part]
  rw [E_cont N (partN t i) (fun l hl => by
    have hm : l ∈ t := List.mem_of_mem_drop (List.mem_of_mem_take hl)
    obtain ⟨j, hj, rfl⟩ := List.getElem_of_mem hm
    have := snd_iff.1 (rf_at hrf hj).1
    omega) (by omega) (by omega)]
  cases keptN t q q.length <;> simp

/-! ### A path more -/

theorem E_long (N : Nat) (q : List Bs) (hl : q.length ≤ 1073741824) (hN : q.length < N) : F53 N q = some (decide (q ≠ []) && !longW q) := by
  unfold F53 V53 F61C62 V61C62 F66C62 V66C62
  simp only [ev_br, ev_leaf, ev_c1, ev_c2, ev_c3, ev_c4, ev_cr, ev_cr2, ev_f0, ev_f1, ev_f2, obind_some, decide_eq_true_eq, Bool.not_eq_true', Bool.true_eq_false, Bool.false_eq_true, if_true, if_false, reduceCtorEq]
  obtain ⟨o, ho, hp⟩ := runLoop_post (R := Int) (step := fun x => L66C62_2 N x.1 x.2.1 x.2.2.1 x.2.2.2)
    (fun x => x.1 = q ∧ x.2.2.1 = (q.length : Int) ∧ 0 ≤ x.2.2.2 ∧ x.2.2.2 ≤ q.length ∧ ∀ j, j < x.2.2.2.toNat → (q.getD j []).length ≤ 40) (fun x => (q.length - x.2.2.2).toNat)
    (fun o => (∃ i : Int, o = .ret i ∧ 0 ≤ i ∧ longW q = true) ∨ ((∃ x, o = .brk 0 x) ∧ longW q = false))
    (by
      rintro ⟨t', b, n, i⟩ ⟨e1, e2, h0, hle, hno⟩
      dsimp only at e1 e2 h0 hle hno ⊢
      subst e1; subst e2
      unfold L66C62_2 U66C62_2 F62 V62
      by_cases hi : i < t'.length
      · have hil : i.toNat < t'.length := by omega
        have c1 : inR i t'.length := ⟨h0, hi⟩
        have hmem : t'[i.toNat] ∈ t' := List.getElem_mem hil
        have hat : atI tS t' i = t'[i.toNat] := by show t'.getD _ _ = _; simp [hil]
        simp (disch := first | assumption | omega) only [ev_br, ev_leaf, ev_c1, ev_c2, ev_c3, ev_c4, ev_cr, ev_cr2, ev_f0, ev_f1, ev_f2, obind_some, decide_eq_true_eq, Bool.not_eq_true', Bool.true_eq_false, Bool.false_eq_true, if_true, if_false, reduceCtorEq, ev_ck, hi, wrapI, hat]
        by_cases hg : (40 : Int) < ((t'[i.toNat]).length : Int)
        · rw [if_pos hg]
          exact ⟨_, rfl, .inr ⟨by simp, .inl ⟨i, rfl, h0, List.any_eq_true.2 ⟨_, hmem, by simp; omega⟩⟩⟩⟩
        · rw [if_neg hg]
          refine ⟨_, rfl, .inl ⟨_, rfl, ⟨rfl, rfl, by simp only; omega, by simp only; omega, fun j hj => ?_⟩, by simp only; omega⟩⟩
          simp only at hj
          rcases Nat.lt_or_ge j i.toNat with h | h
          · exact hno j h
          · have : j = i.toNat := by omega
            subst this
            have : t'.getD i.toNat [] = t'[i.toNat] := by simp [hil]
            rw [this]; omega
      · refine ⟨.brk 0 (t', true, (t'.length : Int), i), by simp [hi], .inr ⟨by simp, .inr ⟨⟨_, rfl⟩, ?_⟩⟩⟩
        rw [longW_iff]
        intro l hl
        obtain ⟨j, hj, rfl⟩ := List.getElem_of_mem hl
        have := hno j (by omega)
        simpa [hj] using this) N (q, true, (q.length : Int), 0) ⟨rfl, rfl, by simp, by simp, fun j hj => by simp at hj⟩ (by simp only; omega)
  unfold W66C62_2
  rw [ho]
  by_cases hq : q = []
  · subst hq; simp
  · have hp0 : (0 : Int) < (q.length : Int) := by have := List.length_pos_iff.2 hq; omega
    rcases hp with ⟨i, rfl, h0, h1⟩ | ⟨⟨x, rfl⟩, h1⟩
    · rw [h1]; simp [h0, hq]
    · rw [h1]; simp [hq]

theorem E_spotLoop (N : Nat) (t : List Ln) (w : Bs) (e : Int) (ks : List Int) (hk : ∀ k ∈ ks, 0 ≤ k ∧ k < t.length) (hl : ks.length ≤ 1073741824) (hN : ks.length < N) :
    lp1 (W54_7 N (t, w, e, ks, (ks.length : Int), 0)) id (fun x => some x.2.2.1) = some (spotL t w ks e) := by
  obtain ⟨o, ho, hp⟩ := runLoop_post (R := Int) (step := fun x => L54_7 N x.1 x.2.1 x.2.2.1 x.2.2.2.1 x.2.2.2.2.1 x.2.2.2.2.2)
    (fun x => x.1 = t ∧ x.2.1 = w ∧ x.2.2.1 = e ∧ x.2.2.2.1 = ks ∧ x.2.2.2.2.1 = (ks.length : Int) ∧ 0 ≤ x.2.2.2.2.2 ∧ x.2.2.2.2.2 ≤ ks.length ∧ spotL t w (ks.drop x.2.2.2.2.2.toNat) e = spotL t w ks e) (fun x => (ks.length - x.2.2.2.2.2).toNat)
    (fun o => o = .ret (spotL t w ks e) ∨ ∃ x, o = .brk 0 x ∧ x.2.2.1 = spotL t w ks e)
    (by
      rintro ⟨t', w', e', ks', n, i⟩ ⟨e1, e2, e3, e4, e5, h0, hle, hs⟩
      dsimp only at e1 e2 e3 e4 e5 h0 hle hs ⊢
      subst e1; subst e2; subst e3; subst e4; subst e5
      unfold L54_7 U54_7
      by_cases hi : i < ks'.length
      · have hil : i.toNat < ks'.length := by omega
        have c1 : inR i ks'.length := ⟨h0, hi⟩
        have hat : atI tI ks' i = ks'[i.toNat] := by show ks'.getD _ _ = _; simp [hil]
        have hkk := hk _ (List.getElem_mem hil)
        have c2 : inR (ks'[i.toNat]) t'.length := hkk
        rw [List.drop_eq_getElem_cons hil] at hs
        simp (disch := first | assumption | omega) only [ev_br, ev_leaf, ev_c1, ev_c2, ev_c3, ev_c4, ev_cr, ev_cr2, ev_f0, ev_f1, ev_f2, obind_some, decide_eq_true_eq, Bool.not_eq_true', Bool.true_eq_false, Bool.false_eq_true, if_true, if_false, reduceCtorEq, ev_ck, hi, wrapI, hat, atI_nat, bl_not, Bool.not_not]
        unfold spotL at hs
        rw [List.find?_cons] at hs
        by_cases hb : bl w' (t'.getD (ks'[i.toNat]).toNat (0, [], 0)).2.1 = true
        · rw [hb] at hs
          rw [if_pos hb]
          exact ⟨_, rfl, .inr ⟨by simp, .inl (by rw [← spotL.eq_def] at hs; exact congrArg Lp.ret hs)⟩⟩
        · have hb' : bl w' (t'.getD (ks'[i.toNat]).toNat (0, [], 0)).2.1 = false := by simpa using hb
          rw [hb'] at hs
          rw [if_neg hb]
          refine ⟨_, rfl, .inl ⟨_, rfl, ⟨rfl, rfl, rfl, rfl, rfl, by simp only; omega, by simp only; omega, ?_⟩, by simp only; omega⟩⟩
          simp only
          rw [show (i + 1).toNat = i.toNat + 1 by omega]
          exact hs
      · refine ⟨.brk 0 (t', w', e', ks', (ks'.length : Int), i), by simp [hi], .inr ⟨by simp, .inr ⟨_, rfl, ?_⟩⟩⟩
        rw [List.drop_of_length_le (by omega)] at hs
        exact hs) N (t, w, e, ks, (ks.length : Int), 0) ⟨rfl, rfl, rfl, rfl, rfl, by simp, by simp, by simp⟩ (by simp only; omega)
  unfold W54_7
  rw [ho]
  rcases hp with rfl | ⟨x, rfl, h⟩
  · rfl
  · rw [lp1_brk, h]

theorem kidsS_eq (t : List Ln) (i : Int) : kidsS t i = kidsL t i := rfl
theorem kids_in {t : List Ln} {i k : Int} (h : k ∈ kidsL t i) : 0 ≤ k ∧ k < t.length := by
  unfold kidsL at h
  obtain ⟨j, hj, rfl⟩ := List.mem_map.1 h
  have := List.mem_range.1 (List.mem_filter.1 hj).1
  omega
theorem kids_len (t : List Ln) (i : Int) : (kidsL t i).length ≤ t.length := by
  unfold kidsL
  rw [List.length_map]
  have := List.length_filter_le (fun k => underN t k == i) (List.range t.length)
  simpa using this

theorem E_spot (N : Nat) (t : List Ln) (u : List Bs) (w : Bs) (hr : rightS t = true) (hq : gt t (u ++ [w]) = none) (hu : u = [] ∨ gt t u ≠ none) (hN : t.length < N) : F54 N t u w = some (plc t (u ++ [w]) : Int) := by
  obtain ⟨h200, hrf⟩ := rightS_iff.1 hr
  unfold F54 V54
  simp only [ev_br, ev_leaf, ev_c1, ev_c2, ev_c3, ev_c4, ev_cr, ev_cr2, ev_f0, ev_f1, ev_f2, obind_some, decide_eq_true_eq, Bool.not_eq_true', Bool.true_eq_false, Bool.false_eq_true, if_true, if_false, reduceCtorEq, F_find N t u hN, fndS_eq, hr, F_end N t _ hN, F_kids N t _ hN]
  rcases hu with rfl | hu
  · have hf : fnd t [] = none := fnd_none0.2 (gt_nil t)
    have h1 : (-1 : Int) < t.length := by omega
    simp only [hf, ev_br, ev_leaf, ev_c1, ev_c2, ev_c3, ev_c4, ev_cr, ev_cr2, ev_f0, ev_f1, ev_f2, obind_some, decide_eq_true_eq, Bool.not_eq_true', Bool.true_eq_false, Bool.false_eq_true, if_true, if_false, reduceCtorEq, kidsS_eq, h1, true_and, and_true, Int.le_refl]
    rw [E_spotLoop N t w _ _ (fun k hk => kids_in hk) (by have := kids_len t (-1); omega) (by have := kids_len t (-1); omega), List.nil_append]
    rw [spot_root hrf hq]
  · cases hf : fnd t u with
    | none => exact absurd (fnd_none0.1 hf) hu
    | some i =>
      obtain ⟨hi, hp⟩ := fnd_of hf
      have ht : thereS t (i : Int) = true := thereS_iff.2 ⟨by omega, by omega, hr⟩
      have h1 : (-1 : Int) ≤ (i : Int) ∧ (i : Int) < t.length := ⟨by omega, by omega⟩
      simp only [ev_br, ev_leaf, ev_c1, ev_c2, ev_c3, ev_c4, ev_cr, ev_cr2, ev_f0, ev_f1, ev_f2, obind_some, decide_eq_true_eq, Bool.not_eq_true', Bool.true_eq_false, Bool.false_eq_true, if_true, if_false, reduceCtorEq, ht, kidsS_eq, h1, true_and, and_true, and_self, Int.toNat_natCast]
      rw [E_spotLoop N t w _ _ (fun k hk => kids_in hk) (by have := kids_len t i; omega) (by have := kids_len t i; omega)]
      subst hp
      rw [spot_kid hrf hi hq]

theorem ins_eq (t : List Ln) {q : List Bs} {d : Nat} (hd : d < q.length) (N : Nat) (h : t.length ≤ 1000) : F52t N t (plc t (q.take (d + 1)) : Int) ([((d : Int), q.getD d [], 0)] : List Ln) = some (insT t (q.take (d + 1)) 0) := by
  unfold F52t
  have := plc_le t (q.take (d + 1))
  rw [if_pos ⟨by omega, by omega, by simp; omega⟩, Int.toNat_natCast]
  unfold insT ln
  have hl : (q.take (d + 1)).length = d + 1 := by rw [List.length_take]; omega
  have e2 : q.getD d [] = q[d] := by simp [hd]
  rw [hl, take_last hd, e2]
  simp

end Go.Proofs.Ytcjlpdnhbgbooaa.Vc
