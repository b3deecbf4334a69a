/-
  WHAT THE FUNCTIONS OF PACKAGES lines (Add) AND edit ANSWER. No condition.
-/
import Derived.Test.YtkbciolghkcjoaaTg
import Derived.Test.YtkbciolghkcjoaaEs
set_option linter.unusedVariables false
set_option linter.unusedSimpArgs false
namespace Go.Proofs.Ytkbciolghkcjoaa.Vc

theorem slc0 {α : Type} (l : List α) (b : Int) : slc l 0 b = l.take b.toNat := by simp [slc]
theorem slcE {α : Type} (l : List α) (a : Int) : slc l a (l.length : Int) = l.drop a.toNat := by
  unfold slc
  rw [Int.toNat_natCast, List.take_of_length_le]
  rw [List.length_drop]; exact Nat.le_refl _
theorem fndS_eq (t : List Ln) (q : List Bs) : fndS t q = if rightS t = true then fnd t q else none := rfl
/-! ### Locks -/

theorem bit2 {m : Int} (h0 : 0 ≤ m) (h3 : m ≤ 3) : (IntKind.i64.wrap (((BitVec.ofInt IntKind.i64.bits m &&& BitVec.ofInt IntKind.i64.bits 2).toNat : Int)) != 0) = decide (1 < m) := by
  have : m = 0 ∨ m = 1 ∨ m = 2 ∨ m = 3 := by omega
  rcases this with rfl | rfl | rfl | rfl <;> decide
theorem mark_ok {t : List Ln} (h : rf [] t = true) {i : Nat} (hi : i < t.length) : 0 ≤ (t.getD i (0, [], 0)).2.2 ∧ (t.getD i (0, [], 0)).2.2 ≤ 3 := by
  rw [getD_of_lt t hi]
  have := snd_iff.1 (rf_at h hi).1
  omega

def keptS (t : List Ln) (q : List Bs) : Bool := rightS t && keptN t q q.length
theorem keptS_eq {t : List Ln} {q : List Bs} : keptS t q = !((List.range q.length).all fun k => !(rightS t && hot (gt t (q.take (k + 1))))) := by
  unfold keptS keptN
  cases rightS t
  · simp
  · simp only [Bool.true_and]
    rw [List.any_eq_not_all_not]

theorem keptN_init (t : List Ln) (q : List Bs) : keptN t q.dropLast q.dropLast.length = keptN t q (q.length - 1) := by
  rw [Bool.eq_iff_iff, kept_all, kept_above]
/-! ### Parts -/

def shutB (t : List Ln) (q : List Bs) (i : Nat) : Bool := keptN t q q.length || (partN t i).any fun l => decide (1 < l.2.2)
theorem slc_part (t : List Ln) (i : Nat) : slc t (i : Int) (endN t i : Int) = partN t i := by unfold slc partN; simp
/-! ### A path more -/

theorem E_long (N : Nat) (q : List Bs) (hl : q.length ≤ 1073741824) (hN : q.length < N) : F24 N q = some (decide (q ≠ []) && !longW q) := by
  unfold F24 V24 F43C44 V43C44 F59C44 V59C44
  simp only [ev_br, ev_leaf, ev_c1, ev_c2, ev_c3, ev_c4, ev_cr, ev_cr2, ev_f0, ev_f1, ev_f2, obind_some, decide_eq_true_eq, Bool.not_eq_true', Bool.true_eq_false, Bool.false_eq_true, if_true, if_false, reduceCtorEq]
  obtain ⟨o, ho, hp⟩ := runLoop_post (R := Int) (step := fun x => L59C44_2 N x.1 x.2.1 x.2.2.1 x.2.2.2)
    (fun x => x.1 = q ∧ x.2.2.1 = (q.length : Int) ∧ 0 ≤ x.2.2.2 ∧ x.2.2.2 ≤ q.length ∧ ∀ j, j < x.2.2.2.toNat → (q.getD j []).length ≤ 40) (fun x => (q.length - x.2.2.2).toNat)
    (fun o => (∃ i : Int, o = .ret i ∧ 0 ≤ i ∧ longW q = true) ∨ ((∃ x, o = .brk 0 x) ∧ longW q = false))
    (by
      rintro ⟨t', b, n, i⟩ ⟨e1, e2, h0, hle, hno⟩
      dsimp only at e1 e2 h0 hle hno ⊢
      subst e1; subst e2
      unfold L59C44_2 U59C44_2 F44 V44
      by_cases hi : i < t'.length
      · have hil : i.toNat < t'.length := by omega
        have c1 : inR i t'.length := ⟨h0, hi⟩
        have hmem : t'[i.toNat] ∈ t' := List.getElem_mem hil
        have hat : atI tS t' i = t'[i.toNat] := by show t'.getD _ _ = _; simp [hil]
        simp (disch := first | assumption | omega) only [ev_br, ev_leaf, ev_c1, ev_c2, ev_c3, ev_c4, ev_cr, ev_cr2, ev_f0, ev_f1, ev_f2, obind_some, decide_eq_true_eq, Bool.not_eq_true', Bool.true_eq_false, Bool.false_eq_true, if_true, if_false, reduceCtorEq, ev_ck, hi, wrapI, hat]
        by_cases hg : (40 : Int) < ((t'[i.toNat]).length : Int)
        · rw [if_pos hg]
          exact ⟨_, rfl, .inr ⟨by simp, .inl ⟨i, rfl, h0, List.any_eq_true.2 ⟨_, hmem, by simp; omega⟩⟩⟩⟩
        · rw [if_neg hg]
          refine ⟨_, rfl, .inl ⟨_, rfl, ⟨rfl, rfl, by simp only; omega, by simp only; omega, fun j hj => ?_⟩, by simp only; omega⟩⟩
          simp only at hj
          rcases Nat.lt_or_ge j i.toNat with h | h
          · exact hno j h
          · have : j = i.toNat := by omega
            subst this
            have : t'.getD i.toNat [] = t'[i.toNat] := by simp [hil]
            rw [this]; omega
      · refine ⟨.brk 0 (t', true, (t'.length : Int), i), by simp [hi], .inr ⟨by simp, .inr ⟨⟨_, rfl⟩, ?_⟩⟩⟩
        rw [longW_iff]
        intro l hl
        obtain ⟨j, hj, rfl⟩ := List.getElem_of_mem hl
        have := hno j (by omega)
        simpa [hj] using this) N (q, true, (q.length : Int), 0) ⟨rfl, rfl, by simp, by simp, fun j hj => by simp at hj⟩ (by simp only; omega)
  unfold W59C44_2
  rw [ho]
  by_cases hq : q = []
  · subst hq; simp
  · have hp0 : (0 : Int) < (q.length : Int) := by have := List.length_pos_iff.2 hq; omega
    rcases hp with ⟨i, rfl, h0, h1⟩ | ⟨⟨x, rfl⟩, h1⟩
    · rw [h1]; simp [h0, hq]
    · rw [h1]; simp [hq]

theorem E_spotLoop (N : Nat) (t : List Ln) (w : Bs) (e : Int) (ks : List Int) (hk : ∀ k ∈ ks, 0 ≤ k ∧ k < t.length) (hl : ks.length ≤ 1073741824) (hN : ks.length < N) :
    lp1 (W27_7 N (t, w, e, ks, (ks.length : Int), 0)) id (fun x => some x.2.2.1) = some (spotL t w ks e) := by
  obtain ⟨o, ho, hp⟩ := runLoop_post (R := Int) (step := fun x => L27_7 N x.1 x.2.1 x.2.2.1 x.2.2.2.1 x.2.2.2.2.1 x.2.2.2.2.2)
    (fun x => x.1 = t ∧ x.2.1 = w ∧ x.2.2.1 = e ∧ x.2.2.2.1 = ks ∧ x.2.2.2.2.1 = (ks.length : Int) ∧ 0 ≤ x.2.2.2.2.2 ∧ x.2.2.2.2.2 ≤ ks.length ∧ spotL t w (ks.drop x.2.2.2.2.2.toNat) e = spotL t w ks e) (fun x => (ks.length - x.2.2.2.2.2).toNat)
    (fun o => o = .ret (spotL t w ks e) ∨ ∃ x, o = .brk 0 x ∧ x.2.2.1 = spotL t w ks e)
    (by
      rintro ⟨t', w', e', ks', n, i⟩ ⟨e1, e2, e3, e4, e5, h0, hle, hs⟩
      dsimp only at e1 e2 e3 e4 e5 h0 hle hs ⊢
      subst e1; subst e2; subst e3; subst e4; subst e5
      unfold L27_7 U27_7
      by_cases hi : i < ks'.length
      · have hil : i.toNat < ks'.length := by omega
        have c1 : inR i ks'.length := ⟨h0, hi⟩
        have hat : atI tI ks' i = ks'[i.toNat] := by show ks'.getD _ _ = _; simp [hil]
        have hkk := hk _ (List.getElem_mem hil)
        have c2 : inR (ks'[i.toNat]) t'.length := hkk
        rw [List.drop_eq_getElem_cons hil] at hs
        simp (disch := first | assumption | omega) only [ev_br, ev_leaf, ev_c1, ev_c2, ev_c3, ev_c4, ev_cr, ev_cr2, ev_f0, ev_f1, ev_f2, obind_some, decide_eq_true_eq, Bool.not_eq_true', Bool.true_eq_false, Bool.false_eq_true, if_true, if_false, reduceCtorEq, ev_ck, hi, wrapI, hat, atI_nat, bl_not, Bool.not_not]
        unfold spotL at hs
        rw [List.find?_cons] at hs
        by_cases hb : bl w' (t'.getD (ks'[i.toNat]).toNat (0, [], 0)).2.1 = true
        · rw [hb] at hs
          rw [if_pos hb]
          exact ⟨_, rfl, .inr ⟨by simp, .inl (by rw [← spotL.eq_def] at hs; exact congrArg Lp.ret hs)⟩⟩
        · have hb' : bl w' (t'.getD (ks'[i.toNat]).toNat (0, [], 0)).2.1 = false := by simpa using hb
          rw [hb'] at hs
          rw [if_neg hb]
          refine ⟨_, rfl, .inl ⟨_, rfl, ⟨rfl, rfl, rfl, rfl, rfl, by simp only; omega, by simp only; omega, ?_⟩, by simp only; omega⟩⟩
          simp only
          rw [show (i + 1).toNat = i.toNat + 1 by omega]
          exact hs
      · refine ⟨.brk 0 (t', w', e', ks', (ks'.length : Int), i), by simp [hi], .inr ⟨by simp, .inr ⟨_, rfl, ?_⟩⟩⟩
        rw [List.drop_of_length_le (by omega)] at hs
        exact hs) N (t, w, e, ks, (ks.length : Int), 0) ⟨rfl, rfl, rfl, rfl, rfl, by simp, by simp, by simp⟩ (by simp only; omega)
  unfold W27_7
  rw [ho]
  rcases hp with rfl | ⟨x, rfl, h⟩
  · rfl
  · rw [lp1_brk, h]

theorem kidsS_eq (t : List Ln) (i : Int) : kidsS t i = kidsL t i := rfl
theorem kids_in {t : List Ln} {i k : Int} (h : k ∈ kidsL t i) : 0 ≤ k ∧ k < t.length := by
  unfold kidsL at h
  obtain ⟨j, hj, rfl⟩ := List.mem_map.1 h
  have := List.mem_range.1 (List.mem_filter.1 hj).1
  omega
theorem kids_len (t : List Ln) (i : Int) : (kidsL t i).length ≤ t.length := by
  unfold kidsL
  rw [List.length_map]
  have := List.length_filter_le (fun k => underN t k == i) (List.range t.length)
  simpa using this

theorem E_spot (N : Nat) (t : List Ln) (u : List Bs) (w : Bs) (hr : rightS t = true) (hq : gt t (u ++ [w]) = none) (hu : u = [] ∨ gt t u ≠ none) (hN : t.length < N) : F27 N t u w = some (plc t (u ++ [w]) : Int) := by
  obtain ⟨h200, hrf⟩ := rightS_iff.1 hr
  unfold F27 V27
  simp only [ev_br, ev_leaf, ev_c1, ev_c2, ev_c3, ev_c4, ev_cr, ev_cr2, ev_f0, ev_f1, ev_f2, obind_some, decide_eq_true_eq, Bool.not_eq_true', Bool.true_eq_false, Bool.false_eq_true, if_true, if_false, reduceCtorEq, F_find N t u hN, fndS_eq, hr, F_end N t _ hN, F_kids N t _ hN]
  rcases hu with rfl | hu
  · have hf : fnd t [] = none := fnd_none0.2 (gt_nil t)
    have h1 : (-1 : Int) < t.length := by omega
    simp only [hf, ev_br, ev_leaf, ev_c1, ev_c2, ev_c3, ev_c4, ev_cr, ev_cr2, ev_f0, ev_f1, ev_f2, obind_some, decide_eq_true_eq, Bool.not_eq_true', Bool.true_eq_false, Bool.false_eq_true, if_true, if_false, reduceCtorEq, kidsS_eq, h1, true_and, and_true, Int.le_refl]
    rw [E_spotLoop N t w _ _ (fun k hk => kids_in hk) (by have := kids_len t (-1); omega) (by have := kids_len t (-1); omega), List.nil_append]
    rw [spot_root hrf hq]
  · cases hf : fnd t u with
    | none => exact absurd (fnd_none0.1 hf) hu
    | some i =>
      obtain ⟨hi, hp⟩ := fnd_of hf
      have ht : thereS t (i : Int) = true := thereS_iff.2 ⟨by omega, by omega, hr⟩
      have h1 : (-1 : Int) ≤ (i : Int) ∧ (i : Int) < t.length := ⟨by omega, by omega⟩
      simp only [ev_br, ev_leaf, ev_c1, ev_c2, ev_c3, ev_c4, ev_cr, ev_cr2, ev_f0, ev_f1, ev_f2, obind_some, decide_eq_true_eq, Bool.not_eq_true', Bool.true_eq_false, Bool.false_eq_true, if_true, if_false, reduceCtorEq, ht, kidsS_eq, h1, true_and, and_true, and_self, Int.toNat_natCast]
      rw [E_spotLoop N t w _ _ (fun k hk => kids_in hk) (by have := kids_len t i; omega) (by have := kids_len t i; omega)]
      subst hp
      rw [spot_kid hrf hi hq]

theorem ins_eq (t : List Ln) {q : List Bs} {d : Nat} (hd : d < q.length) (N : Nat) (h : t.length ≤ 1000) : F25t N t (plc t (q.take (d + 1)) : Int) ([((d : Int), q.getD d [], 0)] : List Ln) = some (insT t (q.take (d + 1)) 0) := by
  unfold F25t
  have := plc_le t (q.take (d + 1))
  rw [if_pos ⟨by omega, by omega, by simp; omega⟩, Int.toNat_natCast]
  unfold insT ln
  have hl : (q.take (d + 1)).length = d + 1 := by rw [List.length_take]; omega
  have e2 : q.getD d [] = q[d] := by simp [hd]
  rw [hl, take_last hd, e2]
  simp

end Go.Proofs.Ytkbciolghkcjoaa.Vc
