/-
  WHAT lines.Add AND THE FUNCTIONS OF PACKAGE edit ANSWER: paths, marks, parts. No condition.
-/
import Derived.Test.YtcjlpdnhbgbooaaEf
set_option linter.unusedVariables false
set_option linter.unusedSimpArgs false
namespace Go.Proofs.Ytcjlpdnhbgbooaa.Vc

theorem getD_lt {t : List Bs} {i : Nat} (h : i < t.length) : t.getD i [] = t[i] := by simp [h]
theorem addE_len {t : List Ln} {q : List Bs} : addL t q = addN t q q.length := rfl

theorem W_add (N : Nat) (t : List Ln) (q : List Bs) (hr : rightS t = true) (h40 : ∀ w ∈ q, w.length ≤ 40) (h16 : q.length ≤ 16) (hN : 1000 < N) :
    (W42f_7 N (t, q, t, q, (q.length : Int), 0) = some (.brk 0 (t, q, addL t q, q, (q.length : Int), (q.length : Int))) ∧ (addL t q).length ≤ 200) ∨
    (W42f_7 N (t, q, t, q, (q.length : Int), 0) = some (.ret (false, t, 5)) ∧ 200 < (addL t q).length) := by
  obtain ⟨h200, hrf⟩ := rightS_iff.1 hr
  obtain ⟨o, ho, hp⟩ := runLoop_post (R := Bool × List Ln × Int) (step := fun x => L42f_7 N x.1 x.2.1 x.2.2.1 x.2.2.2.1 x.2.2.2.2.1 x.2.2.2.2.2)
    (fun x => x.1 = t ∧ x.2.1 = q ∧ x.2.2.2.1 = q ∧ x.2.2.2.2.1 = (q.length : Int) ∧ 0 ≤ x.2.2.2.2.2 ∧ x.2.2.2.2.2 ≤ q.length ∧ x.2.2.1 = addN t q x.2.2.2.2.2.toNat ∧ x.2.2.1.length ≤ 200) (fun x => (q.length - x.2.2.2.2.2).toNat)
    (fun o => (o = .brk 0 (t, q, addL t q, q, (q.length : Int), (q.length : Int)) ∧ (addL t q).length ≤ 200) ∨ (o = .ret (false, t, 5) ∧ 200 < (addL t q).length))
    (by
      rintro ⟨t', q', out, q2, n, d⟩ ⟨e1, e2, e3, e4, h0, hle, hout, hol⟩
      dsimp only at e1 e2 e3 e4 h0 hle hout hol ⊢
      subst e1; subst e2; subst e3; subst e4
      obtain ⟨d, rfl⟩ : ∃ k : Nat, d = (k : Int) := ⟨d.toNat, by omega⟩
      rw [Int.toNat_natCast] at hout
      unfold L42f_7 U42f_7
      by_cases hd : (d : Int) < q2.length
      · have hdl : d < q2.length := by omega
        obtain ⟨g1, g2⟩ := addN_tree hrf h16 h40 d (by omega)
        rw [← hout] at g1 g2
        have hro : rightS out = true := rightS_iff.2 ⟨hol, g1⟩
        have c1 : inR (d : Int) q2.length := ⟨by omega, by omega⟩
        have e5 : ((d : Int) + 1).toNat = d + 1 := by omega
        have hat : atI tS q2 (d : Int) = q2.getD d [] := rfl
        have hsucc : addN t' q2 (d + 1) = if gt out (q2.take (d + 1)) = none then insT out (q2.take (d + 1)) 0 else out := by rw [addN_succ, ← hout]; rfl
        have htk : q2.take (d + 1) = q2.take d ++ [q2.getD d []] := by rw [List.take_succ_eq_append_getElem hdl, getD_lt hdl]
        simp (disch := first | assumption | omega) only [ev_br, ev_leaf, ev_c1, ev_c2, ev_c3, ev_c4, ev_cr, ev_cr2, ev_f0, ev_f1, ev_f2, obind_some, decide_eq_true_eq, Bool.not_eq_true', Bool.true_eq_false, Bool.false_eq_true, if_true, if_false, reduceCtorEq, ev_ck, hd, wrapI, slc0, F_find N out _ (show out.length < N by omega), fndS_eq, hro, e5]
        cases hf : fnd out (q2.take (d + 1)) with
        | some i =>
          have hg : gt out (q2.take (d + 1)) ≠ none := fun h => by rw [fnd_none0.2 h] at hf; cases hf
          simp only [if_true]
          refine ⟨_, rfl, .inl ⟨_, rfl, ⟨rfl, rfl, rfl, rfl, by simp only; omega, by simp only; omega, ?_, hol⟩, by simp only; omega⟩⟩
          simp only
          rw [e5, hsucc, if_neg hg]
        | none =>
          have hg := fnd_none0.1 hf
          rw [if_pos hg] at hsucc
          simp only [ev_br, ev_leaf, ev_c1, ev_c2, ev_c3, ev_c4, ev_cr, ev_cr2, ev_f0, ev_f1, ev_f2, obind_some, decide_eq_true_eq, Bool.not_eq_true', Bool.true_eq_false, Bool.false_eq_true, if_true, if_false, reduceCtorEq]
          by_cases hfull : (200 : Int) ≤ (out.length : Int)
          · rw [if_pos hfull]
            refine ⟨_, rfl, .inr ⟨by simp, .inr ⟨rfl, ?_⟩⟩⟩
            have h1 := addN_mono t' q2 (k := d + 1) (q2.length - (d + 1))
            rw [show d + 1 + (q2.length - (d + 1)) = q2.length by omega, hsucc, insT_length] at h1
            unfold addL; omega
          · rw [if_neg hfull]
            have hpar : q2.take d = [] ∨ gt out (q2.take d) ≠ none := by
              by_cases h1 : q2.take d = []
              · exact .inl h1
              · right
                rw [g2]
                split
                · simp
                · rename_i h2
                  exact fun h3 => h2 ⟨h3, h1, List.prefix_refl _⟩
            have hspot : F54 N out (q2.take d) (q2.getD d []) = some (plc out (q2.take (d + 1)) : Int) := by
              rw [htk]
              exact E_spot N out (q2.take d) (q2.getD d []) hro (by rw [← htk]; exact hg) hpar (by omega)
            have hins := ins_eq out hdl N (by omega)
            have e6 : ((d : Int)).toNat = d := by omega
            refine ⟨.next (t', q2, insT out (q2.take (d + 1)) 0, q2, (q2.length : Int), (d : Int) + 1), ?_, .inl ⟨_, rfl, ⟨rfl, rfl, rfl, rfl, by simp only; omega, by simp only; omega, ?_, ?_⟩, by simp only; omega⟩⟩
            · refine ev_nb _ _ ?_ ?_
              · simp only [ev_br, ev_leaf, ev_c1, ev_c2, ev_c3, ev_c4, ev_cr, ev_cr2, ev_f0, ev_f1, ev_f2, obind_some, decide_eq_true_eq, Bool.not_eq_true', Bool.true_eq_false, Bool.false_eq_true, if_true, if_false, reduceCtorEq, F_clone N out (by omega)]
                refine ev_nb _ _ ?_ ?_
                · simp only [ev_br, ev_leaf, ev_c1, ev_c2, ev_c3, ev_c4, ev_cr, ev_cr2, ev_f0, ev_f1, ev_f2, obind_some, decide_eq_true_eq, Bool.not_eq_true', Bool.true_eq_false, Bool.false_eq_true, if_true, if_false, reduceCtorEq, hat, e6, hspot, hins]
                · simp only [ev_br, ev_leaf, ev_c1, ev_c2, ev_c3, ev_c4, ev_cr, ev_cr2, ev_f0, ev_f1, ev_f2, obind_some, decide_eq_true_eq, Bool.not_eq_true', Bool.true_eq_false, Bool.false_eq_true, if_true, if_false, reduceCtorEq, hat, e6, hspot, hins]
              · simp only [ev_br, ev_leaf, ev_c1, ev_c2, ev_c3, ev_c4, ev_cr, ev_cr2, ev_f0, ev_f1, ev_f2, obind_some, decide_eq_true_eq, Bool.not_eq_true', Bool.true_eq_false, Bool.false_eq_true, if_true, if_false, reduceCtorEq, F_clone N out (by omega), hat, e6, hspot, hins]
            · simp only
              rw [e5, hsucc]
            · simp only
              rw [insT_length]; omega
      · have hde : d = q2.length := by omega
        subst hde
        refine ⟨.brk 0 (t', q2, out, q2, (q2.length : Int), (q2.length : Int)), by simp, .inr ⟨by simp, .inl ⟨by rw [hout]; rfl, by rw [hout] at hol; exact hol⟩⟩⟩) N (t, q, t, q, (q.length : Int), 0) ⟨rfl, rfl, rfl, rfl, by simp, by simp, rfl, h200⟩ (by simp only; omega)
  unfold W42f_7
  rcases hp with ⟨rfl, h⟩ | ⟨rfl, h⟩
  · exact .inl ⟨ho, h⟩
  · exact .inr ⟨ho, h⟩

theorem E_add (N : Nat) (t : List Ln) (q : List Bs) (hN : 1000 < N) (ht : t.length < N) (hq : q.length < N) (hq2 : q.length ≤ 1073741824) : F42f N t q = some (decide (addE t q = 0), addS t q) := by
  unfold F42f V42f
  simp only [ev_br, ev_leaf, ev_c1, ev_c2, ev_c3, ev_c4, ev_cr, ev_cr2, ev_f0, ev_f1, ev_f2, obind_some, decide_eq_true_eq, Bool.not_eq_true', Bool.true_eq_false, Bool.false_eq_true, if_true, if_false, reduceCtorEq, F_right N t ht, E_long N q hq2 hq]
  unfold addS addE
  by_cases hr : rightS t = true
  · simp only [hr, Bool.true_eq_false, if_true, if_false]
    by_cases hq0 : q = []
    · subst hq0; simp
    · by_cases hl : longW q = true
      · simp [hl, hq0]
      · have hl' : longW q = false := by simpa using hl
        simp only [hl', hq0, ne_eq, not_false_eq_true, decide_true, Bool.not_false, Bool.and_true, Bool.true_eq_false, if_false, Bool.false_eq_true]
        by_cases h16 : 16 < q.length
        · have : (16 : Int) < (q.length : Int) := by omega
          simp [h16, this]
        · have : ¬ (16 : Int) < (q.length : Int) := by omega
          rw [if_neg this, if_neg h16]
          rcases W_add N t q hr (longW_iff.1 hl') (by omega) hN with ⟨h1, h2⟩ | ⟨h1, h2⟩
          · rw [h1, if_neg (by omega)]
            simp only [lp1_brk, ev_br, ev_leaf, ev_c1, ev_c2, ev_c3, ev_c4, ev_cr, ev_cr2, ev_f0, ev_f1, ev_f2, obind_some, decide_eq_true_eq, Bool.not_eq_true', Bool.true_eq_false, Bool.false_eq_true, if_true, if_false, reduceCtorEq, F_clone N (addL t q) (by omega)]
            simp
          · rw [h1, if_pos h2]
            simp
  · have hr' : rightS t = false := by simpa using hr
    simp [hr']

def setS (t : List Ln) (q : List Bs) : List Ln × Int := if addE t q = 0 then (if keptN t q q.length = true then (t, 12) else (addL t q, 0)) else (t, addE t q)
theorem E_set (N : Nat) (t : List Ln) (q : List Bs) (hN : 1000 < N) (ht : t.length < N) (hq : q.length < N) (hq2 : q.length ≤ 1073741824) : F30 N t q = some (setS t q) := by
  unfold F30 V30 setS
  simp only [ev_br, ev_leaf, ev_c1, ev_c2, ev_c3, ev_c4, ev_cr, ev_cr2, ev_f0, ev_f1, ev_f2, obind_some, decide_eq_true_eq, Bool.not_eq_true', Bool.true_eq_false, Bool.false_eq_true, if_true, if_false, reduceCtorEq, E_add N t q hN ht hq hq2, E_kept N t q ht hq hq2]
  unfold addS
  by_cases he : addE t q = 0
  · have hr := (addE_ok he).1
    simp only [he, if_true, keptS, hr, Bool.true_and, decide_true]
    simp
    split <;> rfl
  · have : (addE t q != 0) = true := by simpa using he
    simp [he]

/-! ### Parts -/

def delS (t : List Ln) (q : List Bs) : List Ln × Int :=
  if rightS t = true then (if q = [] then (t, 1) else match fnd t q with | none => (t, 3) | some i => if shutB t q i = true then (t, 12) else (cutT t i, 0)) else (t, 1)
theorem cut_run (N : Nat) (t : List Ln) {i : Nat} (hi : i < t.length) : F41t N t (i : Int) (endN t i : Int) = some (cutT t i) := by
  have hle := endN_le t hi
  have hgt := endN_gt t i
  unfold F41t
  rw [if_pos (by omega)]
  rfl
theorem E_delete (N : Nat) (t : List Ln) (q : List Bs) (hN : 1000 < N) (ht : t.length < N) (hq : q.length < N) (hq2 : q.length ≤ 1073741824) : F26 N t q = some (delS t q) := by
  unfold F26 V26 delS
  simp only [ev_br, ev_leaf, ev_c1, ev_c2, ev_c3, ev_c4, ev_cr, ev_cr2, ev_f0, ev_f1, ev_f2, obind_some, decide_eq_true_eq, Bool.not_eq_true', Bool.true_eq_false, Bool.false_eq_true, if_true, if_false, reduceCtorEq, E_part N t q ht]
  by_cases hr : rightS t = true
  · simp only [hr, if_true]
    by_cases hq0 : q = []
    · simp [hq0]
    · simp only [hq0, if_false]
      cases hf : fnd t q with
      | none => simp
      | some i =>
        have hi := (fnd_of hf).1
        have h200 := (rightS_iff.1 hr).1
        simp only [ev_br, ev_leaf, ev_c1, ev_c2, ev_c3, ev_c4, ev_cr, ev_cr2, ev_f0, ev_f1, ev_f2, obind_some, decide_eq_true_eq, Bool.not_eq_true', Bool.true_eq_false, Bool.false_eq_true, if_true, if_false, reduceCtorEq, E_shut N t q hr hi ht hq hq2, F_clone N t (by omega), cut_run N t hi]
        simp
        split <;> rfl
  · simp [hr]

def hasB (m bit : Int) : Bool := if bit = 1 then decide (m % 2 = 1) else decide (1 < m)
def setM (m bit : Int) (on : Bool) : Int := if on = true then (if hasB m bit = true then m else m + bit) else (if hasB m bit = true then m - bit else m)
theorem or_bit {m bit : Int} (h0 : 0 ≤ m) (h3 : m ≤ 3) (hb : bit = 1 ∨ bit = 2) : IntKind.i64.wrap (((BitVec.ofInt IntKind.i64.bits m ||| BitVec.ofInt IntKind.i64.bits bit).toNat : Int)) = setM m bit true := by
  have : m = 0 ∨ m = 1 ∨ m = 2 ∨ m = 3 := by omega
  rcases this with rfl | rfl | rfl | rfl <;> rcases hb with rfl | rfl <;> decide
theorem andn_bit {m bit : Int} (h0 : 0 ≤ m) (h3 : m ≤ 3) (hb : bit = 1 ∨ bit = 2) : IntKind.i64.wrap (((BitVec.ofInt IntKind.i64.bits m &&& ~~~BitVec.ofInt IntKind.i64.bits bit).toNat : Int)) = setM m bit false := by
  have : m = 0 ∨ m = 1 ∨ m = 2 ∨ m = 3 := by omega
  rcases this with rfl | rfl | rfl | rfl <;> rcases hb with rfl | rfl <;> decide
theorem setM_ok {m bit : Int} (h0 : 0 ≤ m) (h3 : m ≤ 3) (hb : bit = 1 ∨ bit = 2) (on : Bool) : 0 ≤ setM m bit on ∧ setM m bit on ≤ 3 := by
  have : m = 0 ∨ m = 1 ∨ m = 2 ∨ m = 3 := by omega
  rcases this with rfl | rfl | rfl | rfl <;> rcases hb with rfl | rfl <;> cases on <;> decide

/-- A line with another mark. -/
def withM (t : List Ln) (i : Nat) (m : Int) : List Ln := t.set i ((t.getD i (0, [], 0)).1, (t.getD i (0, [], 0)).2.1, m)
def markS (t : List Ln) (q : List Bs) (bit : Int) (on : Bool) : List Ln × Int :=
  if bit = 1 ∨ bit = 2 then (if rightS t = true then (if q = [] then (t, 1) else match fnd t q with
    | none => (t, 3)
    | some i => if keptN t q (q.length - 1) = true then (t, 12) else if bit = 1 ∧ 1 < (t.getD i (0, [], 0)).2.2 then (t, 12) else (withM t i (setM (t.getD i (0, [], 0)).2.2 bit on), 0)) else (t, 1)) else (t, 1)

theorem E_mark (N : Nat) (t : List Ln) (q : List Bs) (bit : Int) (on : Bool) (hN : 1000 < N) (ht : t.length < N) (hq : q.length < N) (hq2 : q.length ≤ 1073741824) : F28 N t q bit on = some (markS t q bit on) := by
  unfold F28 V28 markS
  by_cases hb : bit = 1 ∨ bit = 2
  · rw [if_pos hb]
    simp only [ev_br, ev_leaf, ev_c1, ev_c2, ev_c3, ev_c4, ev_cr, ev_cr2, ev_f0, ev_f1, ev_f2, obind_some, decide_eq_true_eq, Bool.not_eq_true', Bool.true_eq_false, Bool.false_eq_true, if_true, if_false, reduceCtorEq, E_part N t q ht, E_above N t q ht hq hq2]
    by_cases hr : rightS t = true
    · simp only [hr, if_true, Bool.true_and]
      by_cases hq0 : q = []
      · rcases hb with rfl | rfl <;> simp [hq0]
      · simp only [hq0, if_false]
        cases hf : fnd t q with
        | none => rcases hb with rfl | rfl <;> simp
        | some i =>
          obtain ⟨h200, hrf⟩ := rightS_iff.1 hr
          have hi := (fnd_of hf).1
          have hm := mark_ok hrf hi
          have c1 : inR (i : Int) t.length := ⟨by omega, by omega⟩
          have ho := or_bit hm.1 hm.2 hb
          have ha := andn_bit hm.1 hm.2 hb
          have hb2 := bit2 hm.1 hm.2
          by_cases hk : keptN t q (q.length - 1) = true
          · rcases hb with rfl | rfl <;> simp [hk]
          · obtain ⟨l, hl⟩ : ∃ l, t.getD i (0, [], 0) = l := ⟨_, rfl⟩
            rw [hl] at ho ha hb2
            rcases hb with rfl | rfl
            · simp only [ev_br, ev_leaf, ev_c1, ev_c2, ev_c3, ev_c4, ev_cr, ev_cr2, ev_f0, ev_f1, ev_f2, obind_some, decide_eq_true_eq, Bool.not_eq_true', Bool.true_eq_false, Bool.false_eq_true, if_true, if_false, reduceCtorEq, F_clone N t (by omega), ev_ck c1, atI_nat, Int.toNat_natCast, hl, hb2, ho, ha, hk, withM]
              by_cases h1 : 1 < l.2.2
              · simp [h1]
              · cases on <;> simp [h1]
            · simp only [ev_br, ev_leaf, ev_c1, ev_c2, ev_c3, ev_c4, ev_cr, ev_cr2, ev_f0, ev_f1, ev_f2, obind_some, decide_eq_true_eq, Bool.not_eq_true', Bool.true_eq_false, Bool.false_eq_true, if_true, if_false, reduceCtorEq, F_clone N t (by omega), ev_ck c1, atI_nat, Int.toNat_natCast, hl, ho, ha, hk, withM]
              cases on <;> simp
    · have hr' : rightS t = false := by simpa using hr
      rcases hb with rfl | rfl <;> simp [hr']
  · rw [if_neg hb]
    have h1 : ¬ bit = 1 := fun h => hb (.inl h)
    have h2 : ¬ bit = 2 := fun h => hb (.inr h)
    simp [h1, h2]

/-! ### Under another last word -/

theorem E_beside (N : Nat) (q : List Bs) (w : Bs) (hq0 : q ≠ []) (hq2 : q.length ≤ 1000000) : F38o N q w = some (q.dropLast ++ [w]) := by
  unfold F38o V38o
  have hp := List.length_pos_iff.2 hq0
  have e : ((q.length : Int) - 1).toNat = q.length - 1 := by omega
  have hr : room ((q.take (q.length - 1)).length + ([w] : List Bs).length) := by show _ ≤ _; simp; omega
  simp (disch := omega) only [ev_br, ev_leaf, ev_c1, ev_c2, ev_c3, ev_c4, ev_cr, ev_cr2, ev_f0, ev_f1, ev_f2, obind_some, decide_eq_true_eq, Bool.not_eq_true', Bool.true_eq_false, Bool.false_eq_true, if_true, if_false, reduceCtorEq, wrapI, ev_ck, slc0, e, F_cloneS N (q.take (q.length - 1)) (by simp; omega)]
  rw [List.dropLast_eq_take]

/-- All but the last word of a path are there: one line more. -/
theorem addL_one {t : List Ln} (h : rf [] t = true) {u : List Bs} {w : Bs} (hq : gt t (u ++ [w]) = none) (hu : u = [] ∨ gt t u ≠ none) : addL t (u ++ [w]) = insT t (u ++ [w]) 0 := by
  have key : ∀ k, k ≤ u.length → addN t (u ++ [w]) k = t := by
    intro k
    induction k with
    | zero => intro _; rfl
    | succ k ih =>
      intro hk
      rw [addN_succ, ih (by omega)]
      unfold addK
      rw [if_neg]
      have hu2 : u ≠ [] := fun e => by subst e; simp at hk
      have hg : gt t u ≠ none := hu.resolve_left hu2
      have : u = (u ++ [w]).take (k + 1) ++ u.drop (k + 1) := by
        rw [List.take_append_of_le_length hk, List.take_append_drop]
      rw [this] at hg
      refine gt_pre h (fun e => ?_) hg
      have := congrArg List.length e
      simp at this
  unfold addL
  have hl : (u ++ [w]).length = u.length + 1 := by simp
  rw [hl, addN_succ, key _ (Nat.le_refl _)]
  unfold addK
  have e : (u ++ [w]).take (u.length + 1) = u ++ [w] := List.take_of_length_le (by simp)
  rw [e, if_pos hq]

theorem insT_set (t : List Ln) (q : List Bs) (m m' : Int) : (insT t q m).set (plc t q) (((q.length : Int) - 1), q.getLastD [], m') = insT t q m' := by
  have hl : (t.take (plc t q)).length = plc t q := by have := plc_le t q; rw [List.length_take]; omega
  unfold insT ln
  rw [List.set_append_right _ _ (by omega), hl, Nat.sub_self]; rfl
theorem insT_getD (t : List Ln) (q : List Bs) (m : Int) : (insT t q m).getD (plc t q) (0, [], 0) = (((q.length : Int) - 1), q.getLastD [], m) := by
  have hl : (t.take (plc t q)).length = plc t q := by have := plc_le t q; rw [List.length_take]; omega
  unfold insT
  rw [List.getD_eq_getElem?_getD, List.getElem?_append_right (by omega), hl, Nat.sub_self]; rfl

theorem E_graft (N : Nat) (t : List Ln) (q : List Bs) (w : Bs) (sub : List Ln) (hN : 1000 < N) (hr : rightS t = true) (hq0 : q ≠ []) (h16 : q.length ≤ 16) (h40 : ∀ x ∈ q.dropLast, x.length ≤ 40) (hw : w.length ≤ 40) (hu : q.dropLast = [] ∨ gt t q.dropLast ≠ none)
    (hs0 : sub ≠ []) (hsl : sub.length ≤ 1000) (hsm : ∀ l ∈ sub, 0 ≤ l.2.2 ∧ l.2.2 ≤ 3) :
    F40 N t q w sub = some (if gt t (q.dropLast ++ [w]) = none then (if 200 < t.length + sub.length then (t, 5) else (graftT t (q.dropLast ++ [w]) sub, 0)) else (t, 4)) := by
  obtain ⟨h200, hrf⟩ := rightS_iff.1 hr
  unfold F40 V40
  obtain ⟨to, hto⟩ : ∃ to, q.dropLast ++ [w] = to := ⟨_, rfl⟩
  have hpos : 0 < sub.length := List.length_pos_iff.2 hs0
  have htl : to.length = q.length := by
    have := List.length_pos_iff.2 hq0
    rw [← hto]; simp; omega
  have hto0 : to ≠ [] := by rw [← hto]; simp
  have htd : to.dropLast = q.dropLast := by rw [← hto]; simp
  have htw : to.getLastD [] = w := by rw [← hto]; simp
  have hinR0 : inR 0 sub.length := ⟨by omega, by omega⟩
  simp (disch := omega) only [ev_br, ev_leaf, ev_c1, ev_c2, ev_c3, ev_c4, ev_cr, ev_cr2, ev_f0, ev_f1, ev_f2, obind_some, decide_eq_true_eq, Bool.not_eq_true', Bool.true_eq_false, Bool.false_eq_true, if_true, if_false, reduceCtorEq, E_beside N q w hq0 (by omega), hto, F_find N t to (show t.length < N by omega), fndS_eq, hr, wrapI]
  cases hf : fnd t to with
  | some i =>
    have hg : gt t to ≠ none := fun h => by rw [fnd_none0.2 h] at hf; cases hf
    simp [hg]
  | none =>
    have hg := fnd_none0.1 hf
    rw [if_pos hg]
    simp only [ev_br, ev_leaf, ev_c1, ev_c2, ev_c3, ev_c4, ev_cr, ev_cr2, ev_f0, ev_f1, ev_f2, obind_some, decide_eq_true_eq, Bool.not_eq_true', Bool.true_eq_false, Bool.false_eq_true, if_true, if_false, reduceCtorEq]
    by_cases hlong : (200 : Int) < (t.length : Int) + (sub.length : Int)
    · rw [if_pos hlong, if_pos (by omega)]
    · rw [if_neg hlong, if_neg (by omega)]
      have hadd : addL t to = insT t to 0 := by rw [← hto]; exact addL_one hrf (by rw [hto]; exact hg) hu
      have hlong0 : longW to = false := longW_iff.2 (fun x hx => by
        rw [← hto] at hx
        rcases List.mem_append.1 hx with hx | hx
        · exact h40 x hx
        · have : x = w := by simpa using hx
          rw [this]; exact hw)
      have hE : addE t to = 0 := by
        unfold addE
        rw [if_pos hr, if_neg hto0, hlong0, if_neg (by simp), if_neg (by omega), if_neg (by rw [hadd, insT_length]; omega)]
      have hA := E_add N t to hN (by omega) (by omega) (by omega)
      rw [hE] at hA
      have hS : addS t to = (insT t to 0, 0) := by unfold addS; rw [if_pos hE, hadd]
      rw [hS] at hA
      have hg16 : to.length ≤ 16 := by omega
      have hg40 : (to.getLastD []).length ≤ 40 := by rw [htw]; exact hw
      have hpar : to.dropLast = [] ∨ gt t to.dropLast ≠ none := by rw [htd]; exact hu
      obtain ⟨i1, i2⟩ := insT_tree hrf hg hto0 hg16 hg40 (m := 0) (by omega) (by omega) hpar
      have ip := insT_pth hrf hg hto0 hg16 hg40 (m := 0) (by omega) (by omega) hpar
      have hple := plc_le t to
      have hil : (insT t to 0).length = t.length + 1 := insT_length t to 0
      have hri : rightS (insT t to 0) = true := rightS_iff.2 ⟨by omega, i1⟩
      have hfi : fnd (insT t to 0) to = some (plc t to) := by
        have := fnd_at i1 (i := plc t to) (by omega)
        rwa [ip] at this
      have c2 : inR (plc t to : Int) (insT t to 0).length := ⟨by omega, by omega⟩
      simp only [ev_br, ev_leaf, ev_c1, ev_c2, ev_c3, ev_c4, ev_cr, ev_cr2, ev_f0, ev_f1, ev_f2, obind_some, decide_eq_true_eq, Bool.not_eq_true', Bool.true_eq_false, Bool.false_eq_true, if_true, if_false, reduceCtorEq, hA, F_find N (insT t to 0) to (show (insT t to 0).length < N by omega), fndS_eq, hri, hfi]
      simp (disch := omega) only [ev_br, ev_leaf, ev_c1, ev_c2, ev_c3, ev_c4, ev_cr, ev_cr2, ev_f0, ev_f1, ev_f2, obind_some, decide_eq_true_eq, Bool.not_eq_true', Bool.true_eq_false, Bool.false_eq_true, if_true, if_false, reduceCtorEq, decide_true, bne_self_eq_false, ev_ck hinR0, ev_ck c2, atI_nat, Int.toNat_natCast, insT_getD, insT_set, wrapI, slcE]
      rw [ev_ck (by omega)]
      have hi2 : (insT t to (sub.getD 0 (0, [], 0)).2.2).length = t.length + 1 := insT_length _ _ _
      have hins : F52t N (insT t to (sub.getD 0 (0, [], 0)).2.2) ((plc t to : Int) + 1) (sub.drop 1) = some (graftT t to sub) := by
        unfold F52t
        rw [if_pos ⟨by omega, by omega, by rw [List.length_drop]; omega⟩]
        have hl : (t.take (plc t to)).length = plc t to := by rw [List.length_take]; omega
        have e1 : ((plc t to : Int) + 1).toNat = plc t to + 1 := by omega
        rw [e1]
        unfold insT graftT ln
        simp only
        rw [List.take_append, List.take_of_length_le (by omega : (t.take (plc t to)).length ≤ plc t to + 1), hl, show plc t to + 1 - plc t to = 1 by omega, List.take_succ_cons, List.take_zero,
          List.drop_append, List.drop_of_length_le (by omega : (t.take (plc t to)).length ≤ plc t to + 1), hl, show plc t to + 1 - plc t to = 1 by omega, List.drop_succ_cons, List.drop_zero, List.nil_append, List.drop_one]
        simp
      have e0 : ((0 : Int)).toNat = 0 := rfl
      have e1 : ((1 : Int)).toNat = 1 := rfl
      simp only [e0, e1, ev_br, ev_leaf, ev_c1, ev_c2, ev_c3, ev_c4, ev_cr, ev_cr2, ev_f0, ev_f1, ev_f2, obind_some, decide_eq_true_eq, Bool.not_eq_true', Bool.true_eq_false, Bool.false_eq_true, if_true, if_false, reduceCtorEq]
      rw [hins]; rfl

/-- A part that is there. -/
theorem part_facts {t : List Ln} (hrf : rf [] t = true) {q : List Bs} {i : Nat} (hf : fnd t q = some i) : q ≠ [] ∧ q.length ≤ 16 ∧ (∀ x ∈ q.dropLast, x.length ≤ 40) ∧ (q.dropLast = [] ∨ gt t q.dropLast ≠ none) ∧ partN t i ≠ [] ∧ (partN t i).length = endN t i - i ∧ ∀ l ∈ partN t i, 0 ≤ l.2.2 ∧ l.2.2 ≤ 3 := by
  obtain ⟨hi, hp⟩ := fnd_of hf
  have hle := endN_le t hi
  have hgt := endN_gt t i
  have hg := fnd_gt hrf hf
  obtain ⟨h1, h2, _⟩ := gt_sound hrf hg
  refine ⟨h1, h2, fun x hx => ?_, ?_, ?_, ?_, fun l hl => ?_⟩
  · obtain ⟨k, hk, rfl⟩ := List.getElem_of_mem hx
    have hk' : k < q.length - 1 := by simpa using hk
    have hne : q.take (k + 1) ≠ [] := fun e => by
      have := congrArg List.length e
      rw [List.length_take, List.length_nil] at this; omega
    have hgp : gt t (q.take (k + 1)) ≠ none := gt_pre hrf hne (s := q.drop (k + 1)) (by rw [List.take_append_drop, hg]; simp)
    cases hgq : gt t (q.take (k + 1)) with
    | none => exact absurd hgq hgp
    | some m =>
      have := (gt_sound hrf hgq).2.2.1
      rw [take_last (by omega)] at this
      simpa using this
  · by_cases h3 : q.dropLast = []
    · exact .inl h3
    · right
      refine gt_pre hrf h3 (s := [q.getLast h1]) ?_
      rw [List.dropLast_concat_getLast, hg]; simp
  · rw [part_eq t hi]; simp
  · unfold partN; simp; omega
  · have hm : l ∈ t := List.mem_of_mem_drop (List.mem_of_mem_take hl)
    obtain ⟨j, hj, rfl⟩ := List.getElem_of_mem hm
    have := snd_iff.1 (rf_at hrf hj).1
    omega

def renS (t : List Ln) (q : List Bs) (w : Bs) : List Ln × Int :=
  if 40 < w.length then (t, 1) else if rightS t = true then (if q = [] then (t, 1) else match fnd t q with
    | none => (t, 3)
    | some i => if shutB t q i = true then (t, 12) else if gt t (q.dropLast ++ [w]) = none then (graftT (cutT t i) (q.dropLast ++ [w]) (partN t i), 0) else (t, 4)) else (t, 1)
def copS (t : List Ln) (q : List Bs) (w : Bs) : List Ln × Int :=
  if 40 < w.length then (t, 1) else if rightS t = true then (if q = [] then (t, 1) else match fnd t q with
    | none => (t, 3)
    | some i => if keptN t q (q.length - 1) = true then (t, 12) else if gt t (q.dropLast ++ [w]) = none then (if 200 < t.length + (endN t i - i) then (t, 5) else (graftT t (q.dropLast ++ [w]) (partN t i), 0)) else (t, 4)) else (t, 1)

theorem E_copy (N : Nat) (t : List Ln) (q : List Bs) (w : Bs) (hN : 1000 < N) (ht : t.length < N) (hq : q.length < N) (hq2 : q.length ≤ 1073741824) : F25 N t q w = some (copS t q w) := by
  unfold F25 V25 copS
  simp only [ev_br, ev_leaf, ev_c1, ev_c2, ev_c3, ev_c4, ev_cr, ev_cr2, ev_f0, ev_f1, ev_f2, obind_some, decide_eq_true_eq, Bool.not_eq_true', Bool.true_eq_false, Bool.false_eq_true, if_true, if_false, reduceCtorEq]
  by_cases hw : 40 < w.length
  · rw [if_pos (by omega), if_pos hw]
  · rw [if_neg (by omega), if_neg hw]
    simp only [ev_br, ev_leaf, ev_c1, ev_c2, ev_c3, ev_c4, ev_cr, ev_cr2, ev_f0, ev_f1, ev_f2, obind_some, decide_eq_true_eq, Bool.not_eq_true', Bool.true_eq_false, Bool.false_eq_true, if_true, if_false, reduceCtorEq, E_part N t q ht, E_above N t q ht hq hq2]
    by_cases hr : rightS t = true
    · simp only [hr, if_true, Bool.true_and]
      by_cases hq0 : q = []
      · simp [hq0]
      · simp only [hq0, if_false]
        cases hf : fnd t q with
        | none => simp
        | some i =>
          obtain ⟨h200, hrf⟩ := rightS_iff.1 hr
          have hi := (fnd_of hf).1
          have hle := endN_le t hi
          have hgt := endN_gt t i
          obtain ⟨k1, k2, k3, k4, k5, k6, k7⟩ := part_facts hrf hf
          have hG := E_graft N t q w (partN t i) hN hr k1 k2 k3 (by omega) k4 k5 (by omega) k7
          rw [k6] at hG
          simp only [ev_br, ev_leaf, ev_c1, ev_c2, ev_c3, ev_c4, ev_cr, ev_cr2, ev_f0, ev_f1, ev_f2, obind_some, decide_eq_true_eq, Bool.not_eq_true', Bool.true_eq_false, Bool.false_eq_true, if_true, if_false, reduceCtorEq, bne_self_eq_false, slc_part, hG]
          rw [ev_ck (by omega)]
          simp only [ev_br, ev_leaf, ev_c1, ev_c2, ev_c3, ev_c4, ev_cr, ev_cr2, ev_f0, ev_f1, ev_f2, obind_some, decide_eq_true_eq, Bool.not_eq_true', Bool.true_eq_false, Bool.false_eq_true, if_true, if_false, reduceCtorEq, hG]
          split <;> rfl
    · have hr' : rightS t = false := by simpa using hr
      simp [hr']

theorem E_rename (N : Nat) (t : List Ln) (q : List Bs) (w : Bs) (hN : 1000 < N) (ht : t.length < N) (hq : q.length < N) (hq2 : q.length ≤ 1000000) : F24 N t q w = some (renS t q w) := by
  unfold F24 V24 renS
  simp only [ev_br, ev_leaf, ev_c1, ev_c2, ev_c3, ev_c4, ev_cr, ev_cr2, ev_f0, ev_f1, ev_f2, obind_some, decide_eq_true_eq, Bool.not_eq_true', Bool.true_eq_false, Bool.false_eq_true, if_true, if_false, reduceCtorEq]
  by_cases hw : 40 < w.length
  · rw [if_pos (by omega), if_pos hw]
  · rw [if_neg (by omega), if_neg hw]
    simp only [ev_br, ev_leaf, ev_c1, ev_c2, ev_c3, ev_c4, ev_cr, ev_cr2, ev_f0, ev_f1, ev_f2, obind_some, decide_eq_true_eq, Bool.not_eq_true', Bool.true_eq_false, Bool.false_eq_true, if_true, if_false, reduceCtorEq, E_part N t q ht]
    by_cases hr : rightS t = true
    · simp only [hr, if_true, Bool.true_and]
      by_cases hq0 : q = []
      · simp [hq0]
      · simp only [hq0, if_false]
        cases hf : fnd t q with
        | none => simp
        | some i =>
          obtain ⟨h200, hrf⟩ := rightS_iff.1 hr
          obtain ⟨hi, hp⟩ := fnd_of hf
          have hle := endN_le t hi
          have hgt := endN_gt t i
          obtain ⟨k1, k2, k3, k4, k5, k6, k7⟩ := part_facts hrf hf
          obtain ⟨c1, c2⟩ := cut_tree hrf hi
          have hcl : (cutT t i).length + (endN t i - i) = t.length := by unfold cutT; simp; omega
          have hrc : rightS (cutT t i) = true := rightS_iff.2 ⟨by omega, c1⟩
          have hku : q.dropLast = [] ∨ gt (cutT t i) q.dropLast ≠ none := by
            rcases k4 with k4 | k4
            · exact .inl k4
            · right
              rw [c2, if_neg (fun h => ?_)]
              · exact k4
              · have := h.length_le
                rw [hp] at this
                simp at this
                have := List.length_pos_iff.2 k1
                omega
          have hG := E_graft N (cutT t i) q w (partN t i) hN hrc k1 k2 k3 (by omega) hku k5 (by omega) k7
          rw [if_neg (show ¬ 200 < (cutT t i).length + (partN t i).length by omega)] at hG
          simp only [ev_br, ev_leaf, ev_c1, ev_c2, ev_c3, ev_c4, ev_cr, ev_cr2, ev_f0, ev_f1, ev_f2, obind_some, decide_eq_true_eq, Bool.not_eq_true', Bool.true_eq_false, Bool.false_eq_true, if_true, if_false, reduceCtorEq, bne_self_eq_false, E_shut N t q hr hi ht hq (by omega), E_beside N q w k1 hq2, F_find N t _ ht, fndS_eq, hr]
          by_cases hs : shutB t q i = true
          · simp [hs]
          · simp only [hs, if_false, Bool.false_eq_true]
            cases hg : fnd t (q.dropLast ++ [w]) with
            | some j =>
              have : gt t (q.dropLast ++ [w]) ≠ none := fun h => by rw [fnd_none0.2 h] at hg; cases hg
              simp [this]
            | none =>
              have hg0 := fnd_none0.1 hg
              have hgc : gt (cutT t i) (q.dropLast ++ [w]) = none := by rw [c2]; split <;> first | rfl | exact hg0
              rw [if_pos hgc] at hG
              simp only [hg0, if_true, ev_br, ev_leaf, ev_c1, ev_c2, ev_c3, ev_c4, ev_cr, ev_cr2, ev_f0, ev_f1, ev_f2, obind_some, decide_eq_true_eq, Bool.not_eq_true', Bool.true_eq_false, Bool.false_eq_true, if_true, if_false, reduceCtorEq]
              rw [ev_ck (by omega)]
              simp only [ev_br, ev_leaf, ev_c1, ev_c2, ev_c3, ev_c4, ev_cr, ev_cr2, ev_f0, ev_f1, ev_f2, obind_some, decide_eq_true_eq, Bool.not_eq_true', Bool.true_eq_false, Bool.false_eq_true, if_true, if_false, reduceCtorEq, slc_part, F_clone N (partN t i) (by omega), F_clone N t (by omega), cut_run N t hi, hG]
              rfl
    · have hr' : rightS t = false := by simpa using hr
      simp [hr']

end Go.Proofs.Ytcjlpdnhbgbooaa.Vc
