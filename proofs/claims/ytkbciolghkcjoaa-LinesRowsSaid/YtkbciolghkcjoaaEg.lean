/-
  WHAT lines.Add AND THE FUNCTIONS OF PACKAGE edit ANSWER: paths, marks, parts. No condition.
-/
import Derived.Test.YtkbciolghkcjoaaEf
set_option linter.unusedVariables false
set_option linter.unusedSimpArgs false
namespace Go.Proofs.Ytkbciolghkcjoaa.Vc

theorem getD_lt {t : List Bs} {i : Nat} (h : i < t.length) : t.getD i [] = t[i] := by simp [h]
theorem addE_len {t : List Ln} {q : List Bs} : addL t q = addN t q q.length := rfl

theorem W_add (N : Nat) (t : List Ln) (q : List Bs) (hr : rightS t = true) (h40 : ∀ w ∈ q, w.length ≤ 40) (h16 : q.length ≤ 16) (hN : 1000 < N) :
    (W13f_7 N (t, q, t, q, (q.length : Int), 0) = some (.brk 0 (t, q, addL t q, q, (q.length : Int), (q.length : Int))) ∧ (addL t q).length ≤ 200) ∨
    (W13f_7 N (t, q, t, q, (q.length : Int), 0) = some (.ret (false, t, 5)) ∧ 200 < (addL t q).length) := by
  obtain ⟨h200, hrf⟩ := rightS_iff.1 hr
  obtain ⟨o, ho, hp⟩ := runLoop_post (R := Bool × List Ln × Int) (step := fun x => L13f_7 N x.1 x.2.1 x.2.2.1 x.2.2.2.1 x.2.2.2.2.1 x.2.2.2.2.2)
    (fun x => x.1 = t ∧ x.2.1 = q ∧ x.2.2.2.1 = q ∧ x.2.2.2.2.1 = (q.length : Int) ∧ 0 ≤ x.2.2.2.2.2 ∧ x.2.2.2.2.2 ≤ q.length ∧ x.2.2.1 = addN t q x.2.2.2.2.2.toNat ∧ x.2.2.1.length ≤ 200) (fun x => (q.length - x.2.2.2.2.2).toNat)
    (fun o => (o = .brk 0 (t, q, addL t q, q, (q.length : Int), (q.length : Int)) ∧ (addL t q).length ≤ 200) ∨ (o = .ret (false, t, 5) ∧ 200 < (addL t q).length))
    (by
      rintro ⟨t', q', out, q2, n, d⟩ ⟨e1, e2, e3, e4, h0, hle, hout, hol⟩
      dsimp only at e1 e2 e3 e4 h0 hle hout hol ⊢
      subst e1; subst e2; subst e3; subst e4
      obtain ⟨d, rfl⟩ : ∃ k : Nat, d = (k : Int) := ⟨d.toNat, by omega⟩
      rw [Int.toNat_natCast] at hout
      unfold L13f_7 U13f_7
      by_cases hd : (d : Int) < q2.length
      · have hdl : d < q2.length := by omega
        obtain ⟨g1, g2⟩ := addN_tree hrf h16 h40 d (by omega)
        rw [← hout] at g1 g2
        have hro : rightS out = true := rightS_iff.2 ⟨hol, g1⟩
        have c1 : inR (d : Int) q2.length := ⟨by omega, by omega⟩
        have e5 : ((d : Int) + 1).toNat = d + 1 := by omega
        have hat : atI tS q2 (d : Int) = q2.getD d [] := rfl
        have hsucc : addN t' q2 (d + 1) = if gt out (q2.take (d + 1)) = none then insT out (q2.take (d + 1)) 0 else out := by rw [addN_succ, ← hout]; rfl
        have htk : q2.take (d + 1) = q2.take d ++ [q2.getD d []] := by rw [List.take_succ_eq_append_getElem hdl, getD_lt hdl]
        simp (disch := first | assumption | omega) only [ev_br, ev_leaf, ev_c1, ev_c2, ev_c3, ev_c4, ev_cr, ev_cr2, ev_f0, ev_f1, ev_f2, obind_some, decide_eq_true_eq, Bool.not_eq_true', Bool.true_eq_false, Bool.false_eq_true, if_true, if_false, reduceCtorEq, ev_ck, hd, wrapI, slc0, F_find N out _ (show out.length < N by omega), fndS_eq, hro, e5]
        cases hf : fnd out (q2.take (d + 1)) with
        | some i =>
          have hg : gt out (q2.take (d + 1)) ≠ none := fun h => by rw [fnd_none0.2 h] at hf; cases hf
          simp only [if_true]
          refine ⟨_, rfl, .inl ⟨_, rfl, ⟨rfl, rfl, rfl, rfl, by simp only; omega, by simp only; omega, ?_, hol⟩, by simp only; omega⟩⟩
          simp only
          rw [e5, hsucc, if_neg hg]
        | none =>
          have hg := fnd_none0.1 hf
          rw [if_pos hg] at hsucc
          simp only [ev_br, ev_leaf, ev_c1, ev_c2, ev_c3, ev_c4, ev_cr, ev_cr2, ev_f0, ev_f1, ev_f2, obind_some, decide_eq_true_eq, Bool.not_eq_true', Bool.true_eq_false, Bool.false_eq_true, if_true, if_false, reduceCtorEq]
          by_cases hfull : (200 : Int) ≤ (out.length : Int)
          · rw [if_pos hfull]
            refine ⟨_, rfl, .inr ⟨by simp, .inr ⟨rfl, ?_⟩⟩⟩
            have h1 := addN_mono t' q2 (k := d + 1) (q2.length - (d + 1))
            rw [show d + 1 + (q2.length - (d + 1)) = q2.length by omega, hsucc, insT_length] at h1
            unfold addL; omega
          · rw [if_neg hfull]
            have hpar : q2.take d = [] ∨ gt out (q2.take d) ≠ none := by
              by_cases h1 : q2.take d = []
              · exact .inl h1
              · right
                rw [g2]
                split
                · simp
                · rename_i h2
                  exact fun h3 => h2 ⟨h3, h1, List.prefix_refl _⟩
            have hspot : F27 N out (q2.take d) (q2.getD d []) = some (plc out (q2.take (d + 1)) : Int) := by
              rw [htk]
              exact E_spot N out (q2.take d) (q2.getD d []) hro (by rw [← htk]; exact hg) hpar (by omega)
            have hins := ins_eq out hdl N (by omega)
            have e6 : ((d : Int)).toNat = d := by omega
            refine ⟨.next (t', q2, insT out (q2.take (d + 1)) 0, q2, (q2.length : Int), (d : Int) + 1), ?_, .inl ⟨_, rfl, ⟨rfl, rfl, rfl, rfl, by simp only; omega, by simp only; omega, ?_, ?_⟩, by simp only; omega⟩⟩
            · refine ev_nb _ _ ?_ ?_
              · simp only [ev_br, ev_leaf, ev_c1, ev_c2, ev_c3, ev_c4, ev_cr, ev_cr2, ev_f0, ev_f1, ev_f2, obind_some, decide_eq_true_eq, Bool.not_eq_true', Bool.true_eq_false, Bool.false_eq_true, if_true, if_false, reduceCtorEq, F_clone N out (by omega)]
                refine ev_nb _ _ ?_ ?_
                · simp only [ev_br, ev_leaf, ev_c1, ev_c2, ev_c3, ev_c4, ev_cr, ev_cr2, ev_f0, ev_f1, ev_f2, obind_some, decide_eq_true_eq, Bool.not_eq_true', Bool.true_eq_false, Bool.false_eq_true, if_true, if_false, reduceCtorEq, hat, e6, hspot, hins]
                · simp only [ev_br, ev_leaf, ev_c1, ev_c2, ev_c3, ev_c4, ev_cr, ev_cr2, ev_f0, ev_f1, ev_f2, obind_some, decide_eq_true_eq, Bool.not_eq_true', Bool.true_eq_false, Bool.false_eq_true, if_true, if_false, reduceCtorEq, hat, e6, hspot, hins]
              · simp only [ev_br, ev_leaf, ev_c1, ev_c2, ev_c3, ev_c4, ev_cr, ev_cr2, ev_f0, ev_f1, ev_f2, obind_some, decide_eq_true_eq, Bool.not_eq_true', Bool.true_eq_false, Bool.false_eq_true, if_true, if_false, reduceCtorEq, F_clone N out (by omega), hat, e6, hspot, hins]
            · simp only
              rw [e5, hsucc]
            · simp only
              rw [insT_length]; omega
      · have hde : d = q2.length := by omega
        subst hde
        refine ⟨.brk 0 (t', q2, out, q2, (q2.length : Int), (q2.length : Int)), by simp, .inr ⟨by simp, .inl ⟨by rw [hout]; rfl, by rw [hout] at hol; exact hol⟩⟩⟩) N (t, q, t, q, (q.length : Int), 0) ⟨rfl, rfl, rfl, rfl, by simp, by simp, rfl, h200⟩ (by simp only; omega)
  unfold W13f_7
  rcases hp with ⟨rfl, h⟩ | ⟨rfl, h⟩
  · exact .inl ⟨ho, h⟩
  · exact .inr ⟨ho, h⟩

theorem E_add (N : Nat) (t : List Ln) (q : List Bs) (hN : 1000 < N) (ht : t.length < N) (hq : q.length < N) (hq2 : q.length ≤ 1073741824) : F13f N t q = some (decide (addE t q = 0), addS t q) := by
  unfold F13f V13f
  simp only [ev_br, ev_leaf, ev_c1, ev_c2, ev_c3, ev_c4, ev_cr, ev_cr2, ev_f0, ev_f1, ev_f2, obind_some, decide_eq_true_eq, Bool.not_eq_true', Bool.true_eq_false, Bool.false_eq_true, if_true, if_false, reduceCtorEq, F_right N t ht, E_long N q hq2 hq]
  unfold addS addE
  by_cases hr : rightS t = true
  · simp only [hr, Bool.true_eq_false, if_true, if_false]
    by_cases hq0 : q = []
    · subst hq0; simp
    · by_cases hl : longW q = true
      · simp [hl, hq0]
      · have hl' : longW q = false := by simpa using hl
        simp only [hl', hq0, ne_eq, not_false_eq_true, decide_true, Bool.not_false, Bool.and_true, Bool.true_eq_false, if_false, Bool.false_eq_true]
        by_cases h16 : 16 < q.length
        · have : (16 : Int) < (q.length : Int) := by omega
          simp [h16, this]
        · have : ¬ (16 : Int) < (q.length : Int) := by omega
          rw [if_neg this, if_neg h16]
          rcases W_add N t q hr (longW_iff.1 hl') (by omega) hN with ⟨h1, h2⟩ | ⟨h1, h2⟩
          · rw [h1, if_neg (by omega)]
            simp only [lp1_brk, ev_br, ev_leaf, ev_c1, ev_c2, ev_c3, ev_c4, ev_cr, ev_cr2, ev_f0, ev_f1, ev_f2, obind_some, decide_eq_true_eq, Bool.not_eq_true', Bool.true_eq_false, Bool.false_eq_true, if_true, if_false, reduceCtorEq, F_clone N (addL t q) (by omega)]
            simp
          · rw [h1, if_pos h2]
            simp
  · have hr' : rightS t = false := by simpa using hr
    simp [hr']

def setS (t : List Ln) (q : List Bs) : List Ln × Int := if addE t q = 0 then (if keptN t q q.length = true then (t, 12) else (addL t q, 0)) else (t, addE t q)
/-! ### Parts -/

def delS (t : List Ln) (q : List Bs) : List Ln × Int :=
  if rightS t = true then (if q = [] then (t, 1) else match fnd t q with | none => (t, 3) | some i => if shutB t q i = true then (t, 12) else (cutT t i, 0)) else (t, 1)
def hasB (m bit : Int) : Bool := if bit = 1 then decide (m % 2 = 1) else decide (1 < m)
def setM (m bit : Int) (on : Bool) : Int := if on = true then (if hasB m bit = true then m else m + bit) else (if hasB m bit = true then m - bit else m)
theorem or_bit {m bit : Int} (h0 : 0 ≤ m) (h3 : m ≤ 3) (hb : bit = 1 ∨ bit = 2) : IntKind.i64.wrap (((BitVec.ofInt IntKind.i64.bits m ||| BitVec.ofInt IntKind.i64.bits bit).toNat : Int)) = setM m bit true := by
  have : m = 0 ∨ m = 1 ∨ m = 2 ∨ m = 3 := by omega
  rcases this with rfl | rfl | rfl | rfl <;> rcases hb with rfl | rfl <;> decide
theorem andn_bit {m bit : Int} (h0 : 0 ≤ m) (h3 : m ≤ 3) (hb : bit = 1 ∨ bit = 2) : IntKind.i64.wrap (((BitVec.ofInt IntKind.i64.bits m &&& ~~~BitVec.ofInt IntKind.i64.bits bit).toNat : Int)) = setM m bit false := by
  have : m = 0 ∨ m = 1 ∨ m = 2 ∨ m = 3 := by omega
  rcases this with rfl | rfl | rfl | rfl <;> rcases hb with rfl | rfl <;> decide
theorem setM_ok {m bit : Int} (h0 : 0 ≤ m) (h3 : m ≤ 3) (hb : bit = 1 ∨ bit = 2) (on : Bool) : 0 ≤ setM m bit on ∧ setM m bit on ≤ 3 := by
  have : m = 0 ∨ m = 1 ∨ m = 2 ∨ m = 3 := by omega
  rcases this with rfl | rfl | rfl | rfl <;> rcases hb with rfl | rfl <;> cases on <;> decide

/-- A line with another mark. -/
def withM (t : List Ln) (i : Nat) (m : Int) : List Ln := t.set i ((t.getD i (0, [], 0)).1, (t.getD i (0, [], 0)).2.1, m)
def markS (t : List Ln) (q : List Bs) (bit : Int) (on : Bool) : List Ln × Int :=
  if bit = 1 ∨ bit = 2 then (if rightS t = true then (if q = [] then (t, 1) else match fnd t q with
    | none => (t, 3)
    | some i => if keptN t q (q.length - 1) = true then (t, 12) else if bit = 1 ∧ 1 < (t.getD i (0, [], 0)).2.2 then (t, 12) else (withM t i (setM (t.getD i (0, [], 0)).2.2 bit on), 0)) else (t, 1)) else (t, 1)

/-! ### Under another last word -/

/-- All but the last word of a path are there: one line more. -/
theorem addL_one {t : List Ln} (h : rf [] t = true) {u : List Bs} {w : Bs} (hq : gt t (u ++ [w]) = none) (hu : u = [] ∨ gt t u ≠ none) : addL t (u ++ [w]) = insT t (u ++ [w]) 0 := by
  have key : ∀ k, k ≤ u.length → addN t (u ++ [w]) k = t := by
    intro k
    induction k with
    | zero => intro _; rfl
    | succ k ih =>
      intro hk
      rw [addN_succ, ih (by omega)]
      unfold addK
      rw [if_neg]
      have hu2 : u ≠ [] := fun e => by subst e; simp at hk
      have hg : gt t u ≠ none := hu.resolve_left hu2
      have : u = (u ++ [w]).take (k + 1) ++ u.drop (k + 1) := by
        rw [List.take_append_of_le_length hk, List.take_append_drop]
      rw [this] at hg
      refine gt_pre h (fun e => ?_) hg
      have := congrArg List.length e
      simp at this
  unfold addL
  have hl : (u ++ [w]).length = u.length + 1 := by simp
  rw [hl, addN_succ, key _ (Nat.le_refl _)]
  unfold addK
  have e : (u ++ [w]).take (u.length + 1) = u ++ [w] := List.take_of_length_le (by simp)
  rw [e, if_pos hq]

theorem insT_set (t : List Ln) (q : List Bs) (m m' : Int) : (insT t q m).set (plc t q) (((q.length : Int) - 1), q.getLastD [], m') = insT t q m' := by
  have hl : (t.take (plc t q)).length = plc t q := by have := plc_le t q; rw [List.length_take]; omega
  unfold insT ln
  rw [List.set_append_right _ _ (by omega), hl, Nat.sub_self]; rfl
theorem insT_getD (t : List Ln) (q : List Bs) (m : Int) : (insT t q m).getD (plc t q) (0, [], 0) = (((q.length : Int) - 1), q.getLastD [], m) := by
  have hl : (t.take (plc t q)).length = plc t q := by have := plc_le t q; rw [List.length_take]; omega
  unfold insT
  rw [List.getD_eq_getElem?_getD, List.getElem?_append_right (by omega), hl, Nat.sub_self]; rfl

/-- A part that is there. -/
theorem part_facts {t : List Ln} (hrf : rf [] t = true) {q : List Bs} {i : Nat} (hf : fnd t q = some i) : q ≠ [] ∧ q.length ≤ 16 ∧ (∀ x ∈ q.dropLast, x.length ≤ 40) ∧ (q.dropLast = [] ∨ gt t q.dropLast ≠ none) ∧ partN t i ≠ [] ∧ (partN t i).length = endN t i - i ∧ ∀ l ∈ partN t i, 0 ≤ l.2.2 ∧ l.2.2 ≤ 3 := by
  obtain ⟨hi, hp⟩ := fnd_of hf
  have hle := endN_le t hi
  have hgt := endN_gt t i
  have hg := fnd_gt hrf hf
  obtain ⟨h1, h2, _⟩ := gt_sound hrf hg
  refine ⟨h1, h2, fun x hx => ?_, ?_, ?_, ?_, fun l hl => ?_⟩
  · obtain ⟨k, hk, rfl⟩ := List.getElem_of_mem hx
    have hk' : k < q.length - 1 := by simpa using hk
    have hne : q.take (k + 1) ≠ [] := fun e => by
      have := congrArg List.length e
      rw [List.length_take, List.length_nil] at this; omega
    have hgp : gt t (q.take (k + 1)) ≠ none := gt_pre hrf hne (s := q.drop (k + 1)) (by rw [List.take_append_drop, hg]; simp)
    cases hgq : gt t (q.take (k + 1)) with
    | none => exact absurd hgq hgp
    | some m =>
      have := (gt_sound hrf hgq).2.2.1
      rw [take_last (by omega)] at this
      simpa using this
  · by_cases h3 : q.dropLast = []
    · exact .inl h3
    · right
      refine gt_pre hrf h3 (s := [q.getLast h1]) ?_
      rw [List.dropLast_concat_getLast, hg]; simp
  · rw [part_eq t hi]; simp
  · unfold partN; simp; omega
  · have hm : l ∈ t := List.mem_of_mem_drop (List.mem_of_mem_take hl)
    obtain ⟨j, hj, rfl⟩ := List.getElem_of_mem hm
    have := snd_iff.1 (rf_at hrf hj).1
    omega

def renS (t : List Ln) (q : List Bs) (w : Bs) : List Ln × Int :=
  if 40 < w.length then (t, 1) else if rightS t = true then (if q = [] then (t, 1) else match fnd t q with
    | none => (t, 3)
    | some i => if shutB t q i = true then (t, 12) else if gt t (q.dropLast ++ [w]) = none then (graftT (cutT t i) (q.dropLast ++ [w]) (partN t i), 0) else (t, 4)) else (t, 1)
def copS (t : List Ln) (q : List Bs) (w : Bs) : List Ln × Int :=
  if 40 < w.length then (t, 1) else if rightS t = true then (if q = [] then (t, 1) else match fnd t q with
    | none => (t, 3)
    | some i => if keptN t q (q.length - 1) = true then (t, 12) else if gt t (q.dropLast ++ [w]) = none then (if 200 < t.length + (endN t i - i) then (t, 5) else (graftT t (q.dropLast ++ [w]) (partN t i), 0)) else (t, 4)) else (t, 1)

end Go.Proofs.Ytkbciolghkcjoaa.Vc
