/-
  WHAT THE FUNCTIONS OF PACKAGE groups ANSWER. No condition.
-/
import Derived.Test.YtannkhelkpmcfaaEg
import Derived.Test.YtannkhelkpmcfaaUt
set_option linter.unusedVariables false
set_option linter.unusedSimpArgs false
namespace Go.Proofs.Ytannkhelkpmcfaa.Vc

theorem bit1 {m : Int} (h0 : 0 ≤ m) (h3 : m ≤ 3) : (IntKind.i64.wrap (((BitVec.ofInt IntKind.i64.bits m &&& BitVec.ofInt IntKind.i64.bits 1).toNat : Int)) != 0) = decide (m % 2 = 1) := by
  have : m = 0 ∨ m = 1 ∨ m = 2 ∨ m = 3 := by omega
  rcases this with rfl | rfl | rfl | rfl <;> decide

/-! ### Active lines -/

def actN (t : List Ln) (n : Nat) : List Ln := ((List.range n).filter fun k => !offP t (pth t k)).map fun k => ln (pth t k, 0)
theorem actN_all (t : List Ln) : actN t t.length = actL t := by
  unfold actN actL
  rw [ents_range, List.filter_map, List.map_map, List.map_map]
  rfl
theorem actN_len (t : List Ln) (n : Nat) : (actN t n).length ≤ n := by
  unfold actN
  rw [List.length_map]
  have := List.length_filter_le (fun k => !offP t (pth t k)) (List.range n)
  simpa using this
theorem actN_succ (t : List Ln) (n : Nat) : actN t (n + 1) = if offP t (pth t n) = true then actN t n else actN t n ++ [ln (pth t n, 0)] := by
  unfold actN
  rw [List.range_succ, List.filter_append, List.map_append, List.filter_cons]
  cases offP t (pth t n) <;> simp
theorem actN_skip (t : List Ln) (i : Nat) : ∀ d, (∀ k, i ≤ k → k < i + d → offP t (pth t k) = true) → actN t (i + d) = actN t i
  | 0, _ => rfl
  | d + 1, h => by rw [← Nat.add_assoc, actN_succ, if_pos (h (i + d) (by omega) (by omega)), actN_skip t i d fun k h1 h2 => h k h1 (by omega)]

theorem pth_split {t : List Ln} {k : Nat} (hk : k < t.length) : (pth t k).dropLast ++ [(pth t k).getLast (pth_ne_nil hk)] = pth t k := List.dropLast_concat_getLast _
theorem off_at {t : List Ln} (h : rf [] t = true) {i : Nat} (hi : i < t.length) (ho : offP t (pth t i).dropLast = false) : offP t (pth t i) = decide ((t.getD i (0, [], 0)).2.2 % 2 = 1) := by
  have h1 := off_last (t := t) (pth t i).dropLast ((pth t i).getLast (pth_ne_nil hi))
  rw [pth_split hi, ho, Bool.false_or, gt_at h hi] at h1
  rw [h1, getD_of_lt t hi]; rfl
theorem par_off {t : List Ln} (h : rf [] t = true) {j : Nat} (hj : j < t.length) (H : ∀ u, u < j → pth t u <+: pth t j → offP t (pth t u) = false) : offP t (pth t j).dropLast = false := by
  rcases pth_up h hj (pth_split hj).symm with h1 | ⟨u, hu, h1⟩
  · rw [h1]; rfl
  · rw [← h1]
    refine H u hu ?_
    rw [h1]; exact List.dropLast_prefix _

theorem E_active (N : Nat) (t : List Ln) (hN : t.length < N) : F12o N t = some (if rightS t = true then (actL t, 0) else ([], 1)) := by
  unfold F12o V12o
  simp only [ev_br, ev_leaf, ev_c1, ev_c2, ev_c3, ev_c4, ev_cr, ev_cr2, ev_f0, ev_f1, ev_f2, obind_some, decide_eq_true_eq, Bool.not_eq_true', Bool.true_eq_false, Bool.false_eq_true, if_true, if_false, reduceCtorEq, F_right N t hN]
  by_cases hr : rightS t = true
  · obtain ⟨h200, hrf⟩ := rightS_iff.1 hr
    simp only [hr, Bool.true_eq_false, if_false, if_true]
    obtain ⟨o, ho, hp⟩ := runLoop_post (R := List Ln × Int) (step := fun x => L12o_5 N x.1 x.2.1 x.2.2)
      (fun x => x.1 = t ∧ 0 ≤ x.2.2 ∧ x.2.2 ≤ t.length ∧ x.2.1 = actN t x.2.2.toNat ∧ (x.2.2.toNat < t.length → offP t (pth t x.2.2.toNat).dropLast = false)) (fun x => (t.length - x.2.2).toNat)
      (fun o => o = .brk 0 (t, actL t, (t.length : Int)))
      (by
        rintro ⟨t', out, i⟩ ⟨e1, h0, hle, hout, hoff⟩
        dsimp only at e1 h0 hle hout hoff ⊢
        subst e1
        obtain ⟨i, rfl⟩ : ∃ k : Nat, i = (k : Int) := ⟨i.toNat, by omega⟩
        rw [Int.toNat_natCast] at hout hoff
        unfold L12o_5 U12o_5
        by_cases hi : (i : Int) < t'.length
        · have hil : i < t'.length := by omega
          have c1 : inR (i : Int) t'.length := ⟨by omega, hi⟩
          have hm := mark_ok hrf hil
          have hoi := off_at hrf hil (hoff hil)
          have hat : atI tLn t' (i : Int) = t'.getD i (0, [], 0) := rfl
          have hol := actN_len t' i
          have hr1 : ∀ x : Ln, room (out.length + ([x] : List Ln).length) := fun x => by show _ ≤ _; rw [hout]; simp; omega
          have hth : thereS t' (i : Int) = true := thereS_iff.2 ⟨by omega, hi, hr⟩
          have hle2 := endN_le t' hil
          have hgt2 := endN_gt t' i
          simp (disch := first | assumption | omega) only [ev_br, ev_leaf, ev_c1, ev_c2, ev_c3, ev_c4, ev_cr, ev_cr2, ev_f0, ev_f1, ev_f2, obind_some, decide_eq_true_eq, Bool.not_eq_true', Bool.true_eq_false, Bool.false_eq_true, if_true, if_false, reduceCtorEq, hi, ev_ck c1, wrapI, F_end N t' _ hN, hth, Int.toNat_natCast, hat, ev_ck (hr1 _)]
          rw [bit1 hm.1 hm.2]
          simp only [decide_eq_true_eq]
          by_cases hodd : (t'.getD i (0, [], 0)).2.2 % 2 = 1
          · rw [if_pos hodd]
            have hoi' : offP t' (pth t' i) = true := by rw [hoi]; exact decide_eq_true hodd
            refine ⟨_, rfl, .inl ⟨_, rfl, ⟨rfl, by simp only; omega, by simp only; omega, ?_, fun hlt => ?_⟩, by simp only; omega⟩⟩
            · simp only
              rw [show ((endN t' i : Int) - 1 + 1).toNat = i + (endN t' i - i) by omega, actN_skip t' i _ (fun k h1 h2 => ?_), hout]
              cases hx : offP t' (pth t' k) with
              | true => rfl
              | false =>
                have := off_pre ((part_pre hrf hil (j := k) (by omega)).2 ⟨h1, by omega⟩) hx
                rw [hoi'] at this; cases this
            · simp only at hlt ⊢
              rw [show ((endN t' i : Int) - 1 + 1).toNat = endN t' i by omega] at hlt ⊢
              refine par_off hrf hlt fun u hu hup => ?_
              have hue := ((part_pre hrf (by omega) hlt).1 hup).2
              by_cases hui : i ≤ u
              · exfalso
                have h1 := (part_pre hrf hil (j := u) (by omega)).2 ⟨hui, hu⟩
                have := (part_pre hrf hil hlt).1 (h1.trans hup)
                omega
              · have h1 := (part_pre hrf (i := u) (by omega) hil).2 ⟨by omega, by omega⟩
                refine off_pre ?_ (hoff hil)
                have hne : pth t' u ≠ pth t' i := fun e => by have := pth_uniq hrf (by omega) hil e; omega
                rw [← pth_split hil] at h1 hne
                exact (List.prefix_concat_iff.1 h1).resolve_left hne
          · rw [if_neg hodd]
            have hoi' : offP t' (pth t' i) = false := by rw [hoi]; exact decide_eq_false hodd
            refine ⟨_, rfl, .inl ⟨_, rfl, ⟨rfl, by simp only; omega, by simp only; omega, ?_, fun hlt => ?_⟩, by simp only; omega⟩⟩
            · simp only
              rw [show ((i : Int) + 1).toNat = i + 1 by omega, actN_succ, hoi', if_neg (by simp), hout]
              congr 2
              have := ln_get hrf hil
              unfold ln at this ⊢
              rw [getD_of_lt t' hil, ← this]
            · simp only at hlt ⊢
              rw [show ((i : Int) + 1).toNat = i + 1 by omega] at hlt ⊢
              refine par_off hrf hlt fun u hu hup => ?_
              have hue := ((part_pre hrf (by omega) hlt).1 hup).2
              exact off_pre ((part_pre hrf (i := u) (by omega) hil).2 ⟨by omega, by omega⟩) hoi'
        · have : i = t'.length := by omega
          subst this
          exact ⟨.brk 0 (t', out, (t'.length : Int)), by simp, .inr ⟨by simp, by rw [hout, actN_all]⟩⟩) N (t, [], 0) ⟨rfl, by simp, by simp, rfl, fun h => par_off hrf h fun u hu _ => by simp at hu⟩ (by simp only; omega)
    unfold W12o_5
    rw [ho, hp, lp1_brk]
  · have hr' : rightS t = false := by simpa using hr
    simp [hr']

/-! ### Explicit lines -/

theorem E_own (N : Nat) (w : Bs) : F35 N w = some (ownW w) := by
  unfold F35 V35 ownW grp apl
  simp only [ev_br, ev_leaf, ev_c1, ev_c2, ev_c3, ev_c4, ev_cr, ev_cr2, ev_f0, ev_f1, ev_f2, obind_some, decide_eq_true_eq, Bool.not_eq_true', Bool.true_eq_false, Bool.false_eq_true, if_true, if_false, reduceCtorEq]
  by_cases h : w = [103, 114, 111, 117, 112, 115]
  · simp [h]
  · simp [h]

/-- Lines whose first word is fit, root by root. -/
theorem roots_filter {t : List Ln} (P : Bs → Bool) : ∀ (m a : Nat), a + m = t.length → (a < t.length → (t.getD a (0, [], 0)).1 = 0) → rf [] t = true →
    (((List.range' a m).filter fun k => (t.getD k (0, [], 0)).1 == 0).map fun k => if P (t.getD k (0, [], 0)).2.1 = true then partN t k else []).flatten = ((List.range' a m).filter fun k => P ((pth t k).headD [])).map fun k => t.getD k (0, [], 0) := by
  intro m
  induction m using Nat.strongRecOn with
  | _ m ih =>
    intro a ham ha hrf
    cases m with
    | zero => simp
    | succ m =>
      have hlt : a < t.length := by omega
      have h0 := ha hlt
      have hgt := endN_gt t a
      have hle := endN_le t hlt
      have hpa : pth t a = [(t.getD a (0, [], 0)).2.1] := by
        have hl := pth_len hrf hlt
        have hw := pth_last hrf hlt
        rw [getD_of_lt t hlt] at h0 hw ⊢
        rw [h0] at hl
        cases hp : pth t a with
        | nil => rw [hp] at hl; simp at hl
        | cons x r =>
          rw [hp] at hl hw
          have : r = [] := by
            have : r.length = 0 := by simpa using hl
            exact List.length_eq_zero_iff.1 this
          subst this
          simp at hw
          rw [hw]
      have e1 : List.range' a (m + 1) = List.range' a (endN t a - a) ++ List.range' (endN t a) (t.length - endN t a) := by
        rw [range'_split a (m + 1) (show endN t a - a ≤ m + 1 by omega)]
        congr 2 <;> omega
      have e0 : (List.range' a (endN t a - a)).filter (fun k => (t.getD k (0, [], 0)).1 == 0) = [a] := by
        rw [show endN t a - a = (endN t a - (a + 1)) + 1 by omega, List.range'_succ, List.filter_cons, if_pos (by simpa using h0)]
        congr 1
        rw [List.filter_eq_nil_iff]
        intro k hk
        rw [List.mem_range'_1] at hk
        have := endN_in t a k (by omega) (by omega)
        rw [h0] at this
        simp only [beq_iff_eq]; omega
      have e2 : (List.range' a (endN t a - a)).filter (fun k => P ((pth t k).headD [])) = if P (t.getD a (0, [], 0)).2.1 = true then List.range' a (endN t a - a) else [] := by
        have hh : ∀ k ∈ List.range' a (endN t a - a), P ((pth t k).headD []) = P (t.getD a (0, [], 0)).2.1 := fun k hk => by
          rw [List.mem_range'_1] at hk
          obtain ⟨s, hs⟩ := (part_pre hrf hlt (j := k) (by omega)).2 ⟨hk.1, by omega⟩
          rw [← hs, hpa]; rfl
        split
        · rename_i h
          exact List.filter_eq_self.2 fun k hk => by rw [hh k hk]; exact h
        · rename_i h
          exact List.filter_eq_nil_iff.2 fun k hk => by rw [hh k hk]; exact h
      rw [e1, List.filter_append, e0, List.map_append, List.flatten_append, List.filter_append, e2, List.map_append]
      congr 1
      · simp only [List.map_cons, List.map_nil, List.flatten_cons, List.flatten_nil, List.append_nil]
        split
        · unfold partN
          have := map_range'_getD (fun l : Ln => l) t a (endN t a - a) (by omega)
          simpa using this.symm
        · rfl
      · exact ih (t.length - endN t a) (by omega) (endN t a) (by omega) (fun he => by
          have h1 := endN_out t a he
          rw [getD_of_lt t he] at h1 ⊢
          have := (snd_iff.1 (rf_at hrf he).1).1
          omega) hrf

theorem expL_range {t : List Ln} (h : rf [] t = true) : expL t = ((List.range (actL t).length).filter fun k => !ownW ((pth (actL t) k).headD [])).map fun k => (actL t).getD k (0, [], 0) := by
  obtain ⟨a1, _, _⟩ := act_tree h
  unfold expL
  rw [ents_range, List.filter_map, List.map_map, List.map_map]
  apply List.map_congr_left
  intro k hk
  have hk2 := List.mem_range.1 (List.mem_filter.1 hk).1
  simp only [Function.comp]
  rw [getD_of_lt _ hk2]
  exact ln_get a1 hk2

theorem root_part {t : List Ln} {k : Nat} (h0 : (t.getD k (0, [], 0)).1 = 0) : subN t k = partN t k := by
  unfold subN
  rw [h0]
  have : (fun l : Ln => ((l.1 - 0, l.2) : Ln)) = fun l => l := by funext l; simp
  rw [this, List.map_id']

theorem E_explicit (N : Nat) (t : List Ln) (hN : t.length < N) : F13o N t = some (if rightS t = true then (expL t, 0) else ([], 1)) := by
  unfold F13o V13o
  simp only [ev_br, ev_leaf, ev_c1, ev_c2, ev_c3, ev_c4, ev_cr, ev_cr2, ev_f0, ev_f1, ev_f2, obind_some, decide_eq_true_eq, Bool.not_eq_true', Bool.true_eq_false, Bool.false_eq_true, if_true, if_false, reduceCtorEq, E_active N t hN]
  by_cases hr : rightS t = true
  · obtain ⟨h200, hrf⟩ := rightS_iff.1 hr
    have hra := act_right hr
    obtain ⟨ha200, harf⟩ := rightS_iff.1 hra
    have hal := act_len t
    obtain ⟨a, ha⟩ : ∃ a, actL t = a := ⟨_, rfl⟩
    have hexp := expL_range hrf
    rw [ha] at hra ha200 harf hal hexp
    have hk1 : rightS a = true ∧ -1 ≤ (-1 : Int) ∧ (-1 : Int) < a.length := ⟨hra, by omega, by omega⟩
    simp only [hr, if_true, bne_self_eq_false, Bool.false_eq_true, if_false, ha, F_kids N a (-1) (by omega), hk1, and_self, ev_br, ev_leaf, ev_c1, ev_c2, ev_c3, ev_c4, ev_cr, ev_cr2, ev_f0, ev_f1, ev_f2, obind_some, decide_eq_true_eq, Bool.not_eq_true', Bool.true_eq_false, Bool.false_eq_true, if_true, if_false, reduceCtorEq, kidsS_eq]
    obtain ⟨ks, hks⟩ : ∃ ks : List Nat, ks = (List.range a.length).filter fun k => (a.getD k (0, [], 0)).1 == 0 := ⟨_, rfl⟩
    have hkl : kidsL a (-1) = ks.map fun k : Nat => (k : Int) := by
      rw [hks]
      unfold kidsL
      congr 1
      apply List.filter_congr
      intro k hk
      have hk' : k < a.length := by simpa using hk
      rw [Bool.eq_iff_iff, beq_iff_eq, beq_iff_eq, root_iff harf hk', getD_of_lt a hk']
    have hkm : ∀ k ∈ ks, k < a.length ∧ (a.getD k (0, [], 0)).1 = 0 := fun k hk => by
      rw [hks] at hk
      obtain ⟨h1, h2⟩ := List.mem_filter.1 hk
      exact ⟨List.mem_range.1 h1, by simpa using h2⟩
    have hksl : ks.length ≤ a.length := by
      rw [hks]
      have := List.length_filter_le (fun k => (a.getD k (0, [], 0)).1 == 0) (List.range a.length)
      simpa using this
    have hpl : ∀ k, k < a.length → (partN a k).length ≤ a.length := fun k hk => by
      unfold partN; simp; omega
    obtain ⟨f, hf⟩ : ∃ f : Nat → List Ln, f = fun k => if (!ownW (a.getD k (0, [], 0)).2.1) = true then partN a k else [] := ⟨_, rfl⟩
    have hfl : ∀ k, k < a.length → (f k).length ≤ 200 := fun k hk => by
      rw [hf]
      show (if _ then _ else _ : List Ln).length ≤ _
      split
      · have := hpl k hk; omega
      · simp
    have := loop_fold0 (R := List Ln × Int) (step := fun x => L13o_6 N x.1 x.2.1 x.2.2.1 x.2.2.2.1 x.2.2.2.2) ks.length
      (fun (out : List Ln) k => out ++ f (ks.getD k 0)) (fun out k => (a, out, ks.map fun k : Nat => (k : Int), (ks.length : Int), k))
      (fun out k => out.length ≤ 200 * k) (fun out k hI hk => by
        have := hfl (ks.getD k 0) (by
          have : ks.getD k 0 = ks[k] := by simp [hk]
          rw [this]; exact (hkm _ (List.getElem_mem hk)).1)
        rw [List.length_append]; omega) (fun out k hI hk => by
        unfold L13o_6 U13o_6
        by_cases h : k < ks.length
        · have hk' : (k : Int) < ks.length := by omega
          obtain ⟨h1, h2⟩ := hkm _ (List.getElem_mem h)
          have e1 : ks.getD k 0 = ks[k] := by simp [h]
          have hat : atI tI (ks.map fun k : Nat => (k : Int)) (k : Int) = (ks[k] : Int) := by
            show (ks.map fun k : Nat => (k : Int)).getD _ _ = _
            simp [h]
          have c1 : inR (k : Int) (ks.map fun k : Nat => (k : Int)).length := ⟨by omega, by simpa using hk'⟩
          have c2 : inR (ks[k] : Int) a.length := ⟨by omega, by omega⟩
          have hat2 : atI tLn a (ks[k] : Int) = a.getD ks[k] (0, [], 0) := rfl
          have hth : thereS a (ks[k] : Int) = true := thereS_iff.2 ⟨by omega, by omega, hra⟩
          simp (disch := first | assumption | omega) only [ev_br, ev_leaf, ev_c1, ev_c2, ev_c3, ev_c4, ev_cr, ev_cr2, ev_f0, ev_f1, ev_f2, obind_some, decide_eq_true_eq, Bool.not_eq_true', Bool.true_eq_false, Bool.false_eq_true, if_true, if_false, reduceCtorEq, hk', h, ev_ck, wrapI, hat, hat2, E_own, F_sub N a _ (show a.length < N by omega), hth, Int.toNat_natCast, root_part h2, e1]
          rw [hf]
          simp only
          by_cases ho : ownW (a.getD ks[k] (0, [], 0)).2.1 = true
          · rw [if_neg (by rw [ho]; simp), if_neg (by rw [ho]; simp), List.append_nil]
          · have ho' : ownW (a.getD ks[k] (0, [], 0)).2.1 = false := by simpa using ho
            have hr1 : room (out.length + (partN a ks[k]).length) := by
              have := hpl _ h1
              show _ ≤ _; omega
            rw [if_pos ho', ev_ck hr1, ev_leaf, if_pos (by rw [ho']; rfl)]
        · have hk' : ¬ (k : Int) < ks.length := by omega
          simp [hk', h]) [] (by simp) N (by omega)
    unfold W13o_6
    have e3 : ((kidsL a (-1)).length : Int) = (ks.length : Int) := by rw [hkl]; simp
    rw [e3, hkl, this, lp1_brk]
    have hfin : (List.range ks.length).foldl (fun (out : List Ln) k => out ++ f (ks.getD k 0)) [] = expL t := by
      have g1 : ∀ (l : List Nat) (acc : List Ln), l.foldl (fun (out : List Ln) k => out ++ f (ks.getD k 0)) acc = acc ++ (l.map fun k => f (ks.getD k 0)).flatten := fun l => by
        induction l with
        | nil => intro acc; simp
        | cons x l ih => intro acc; simp [ih]
      have g2 : ((List.range ks.length).map fun k => f (ks.getD k 0)) = ks.map f := by
        apply List.ext_getElem
        · simp
        · intro j h1 h2
          have hj : j < ks.length := by simpa using h1
          simp [hj]
      rw [g1, g2, List.nil_append, hexp, hf, hks]
      have := roots_filter (t := a) (fun w => !ownW w) a.length 0 (by omega) (fun h0 => ?_) harf
      · rw [← List.range_eq_range'] at this
        exact this
      · have h1 := (rf_at harf h0).2.1
        have h2 := (snd_iff.1 (rf_at harf h0).1).1
        rw [getD_of_lt a h0]
        have e : (after [] (a.take 0)).length = 0 := rfl
        rw [e] at h1
        omega
    rw [hfin]
  · have hr' : rightS t = false := by simpa using hr
    simp [hr']

end Go.Proofs.Ytannkhelkpmcfaa.Vc
