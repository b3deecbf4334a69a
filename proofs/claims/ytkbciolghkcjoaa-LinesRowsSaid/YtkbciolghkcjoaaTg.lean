/-
  WHAT MORE FUNCTIONS ON TREES ANSWER: paths, kids, leaves, finding; the document's answers. No condition.
-/
import Derived.Test.YtkbciolghkcjoaaTf
set_option linter.unusedVariables false
set_option linter.unusedSimpArgs false
namespace Go.Proofs.Ytkbciolghkcjoaa.Vc

/-! ### Plain laws -/

theorem filter_range_split (p : Nat → Bool) {a e n : Nat} (h1 : a ≤ e) (h2 : e ≤ n) (hp : ∀ k, k < n → p k = true → a ≤ k ∧ k < e) : (List.range n).filter p = (List.range' a (e - a)).filter p := by
  rw [List.range_eq_range']
  have e1 : List.range' 0 n = List.range' 0 a ++ (List.range' a (e - a) ++ List.range' e (n - e)) := by
    rw [show List.range' e (n - e) = List.range' (a + 1 * (e - a)) (n - e) by congr 1; omega, List.range'_append,
      show List.range' a (e - a + (n - e)) = List.range' (0 + 1 * a) (e - a + (n - e)) by congr 1; omega, List.range'_append]
    congr 1; omega
  rw [e1, List.filter_append, List.filter_append]
  have f1 : (List.range' 0 a).filter p = [] := by
    rw [List.filter_eq_nil_iff]
    intro k hk hpk
    rw [List.mem_range'_1] at hk
    have := hp k (by omega) hpk
    omega
  have f2 : (List.range' e (n - e)).filter p = [] := by
    rw [List.filter_eq_nil_iff]
    intro k hk hpk
    rw [List.mem_range'_1] at hk
    have := hp k (by omega) hpk
    omega
  rw [f1, f2]; simp

theorem map_range'_getD (h : Ln → Ln) (t : List Ln) (i n : Nat) (hn : i + n ≤ t.length) : (List.range' i n).map (fun k => h (t.getD k (0, [], 0))) = ((t.drop i).take n).map h := by
  apply List.ext_getElem
  · simp; omega
  · intro j h1 h2
    simp only [List.length_map, List.length_range'] at h1
    simp [show i + j < t.length by omega]

/-- Nothing but deeper lines behind. -/
theorem end_succ_iff (t : List Ln) {k : Nat} (hk : k < t.length) : endN t k = k + 1 ↔ (k + 1 = t.length ∨ (t.getD (k + 1) (0, [], 0)).1 ≤ (t.getD k (0, [], 0)).1) := by
  unfold endN
  rcases Nat.lt_or_ge (k + 1) t.length with h | h
  · rw [List.drop_eq_getElem_cons h, cntD, getD_of_lt t h]
    split
    · constructor
      · intro e; omega
      · intro e; omega
    · constructor
      · intro e; right; omega
      · intro e; rfl
  · rw [List.drop_of_length_le h]
    constructor
    · intro _; left; omega
    · intro _; rfl

def kidsS (t : List Ln) (i : Int) : List Int := ((List.range t.length).filter fun k => underN t k == i).map fun k : Nat => (k : Int)
def leavesS (t : List Ln) : List Int := ((List.range t.length).filter fun k => endN t k == k + 1).map fun k : Nat => (k : Int)
def fndS (t : List Ln) (q : List Bs) : Option Nat := if rightS t = true then (pths [] t).findIdx? (· == q) else none

theorem pths_mem {t : List Ln} {q : List Bs} : q ∈ pths [] t ↔ ∃ i, i < t.length ∧ pth t i = q := by
  constructor
  · intro h
    obtain ⟨i, hi⟩ := List.getElem?_of_mem h
    have hl : i < t.length := by have := (List.getElem?_eq_some_iff.1 hi).1; simpa using this
    exact ⟨i, hl, by unfold pth; rw [List.getD_eq_getElem?_getD, hi]; rfl⟩
  · rintro ⟨i, hi, rfl⟩
    unfold pth
    rw [List.getD_eq_getElem?_getD, List.getElem?_eq_getElem (by simpa using hi)]
    exact List.getElem_mem _
theorem pth_inj {t : List Ln} (h : rf [] t = true) {i j : Nat} (hi : i < t.length) (hj : j < t.length) (he : pth t i = pth t j) : i = j := by
  have hn := pths_nodup t [] h
  unfold pth at he
  rw [List.getD_eq_getElem?_getD, List.getD_eq_getElem?_getD, List.getElem?_eq_getElem (by simpa using hi), List.getElem?_eq_getElem (by simpa using hj)] at he
  exact (List.getElem_inj hn).1 (by simpa using he)
theorem fnd_some {t : List Ln} (h : rightS t = true) {q : List Bs} {i : Nat} (hi : i < t.length) (he : pth t i = q) : fndS t q = some i := by
  unfold fndS
  rw [if_pos h, List.findIdx?_eq_some_iff_getElem]
  have hr := (rightS_iff.1 h).2
  have hget : ∀ k (hk : k < (pths [] t).length), (pths [] t)[k] = pth t k := fun k hk => by unfold pth; rw [List.getD_eq_getElem?_getD, List.getElem?_eq_getElem hk]; rfl
  refine ⟨by simpa using hi, by rw [hget]; simpa using he, fun j hj => ?_⟩
  rw [hget j (by simp; omega)]
  simp only [beq_iff_eq]
  intro e
  have := pth_inj hr (by omega) hi (e.trans he.symm)
  omega
theorem fnd_none {t : List Ln} {q : List Bs} (he : ∀ i, i < t.length → pth t i ≠ q) : fndS t q = none := by
  unfold fndS
  split
  · rw [List.findIdx?_eq_none_iff]
    intro x hx
    obtain ⟨i, hi, rfl⟩ := pths_mem.1 hx
    simpa using he i hi
  · rfl
theorem fnd_spec {t : List Ln} {q : List Bs} {i : Nat} (h : fndS t q = some i) : rightS t = true ∧ i < t.length ∧ pth t i = q := by
  unfold fndS at h
  split at h
  · rename_i hr
    rw [List.findIdx?_eq_some_iff_getElem] at h
    obtain ⟨h1, h2, _⟩ := h
    refine ⟨hr, by simpa using h1, ?_⟩
    unfold pth
    rw [List.getD_eq_getElem?_getD, List.getElem?_eq_getElem h1]
    simpa using h2
  · cases h
theorem fnd_none' {t : List Ln} (h : rightS t = true) {q : List Bs} (hn : fndS t q = none) : ∀ i, i < t.length → pth t i ≠ q := fun i hi e => by
  rw [fnd_some h hi e] at hn; cases hn

/-! ### The program's -/

theorem F_path (N : Nat) (t : List Ln) (i : Int) (hN : t.length < N) : F22o N t i = some (if thereS t i = true then (pth t i.toNat, 0) else ([], 1)) := by
  unfold F22o V22o
  simp only [ev_br, ev_leaf, ev_c1, ev_f1, F_there N t i hN, obind_some, Bool.not_eq_true']
  by_cases ht : thereS t i = true
  · simp only [ht, Bool.true_eq_false, if_false, if_true]
    obtain ⟨h0, h1, hr⟩ := thereS_iff.1 ht
    obtain ⟨h200, hrf⟩ := rightS_iff.1 hr
    have h16 : (pth t i.toNat).length ≤ 16 := by
      have hi : i.toNat < t.length := by omega
      rw [pth_len hrf hi]; have := snd_iff.1 (rf_at hrf hi).1; omega
    obtain ⟨o, ho, hp⟩ := runLoop_post (R := List Bs × Int) (step := fun x => L22o_5 N x.1 x.2.1 x.2.2)
      (fun x => x.1 = t ∧ -1 ≤ x.2.2 ∧ x.2.2 < t.length ∧ (0 ≤ x.2.2 → pth t x.2.2.toNat ++ x.2.1.reverse = pth t i.toNat) ∧ (x.2.2 = -1 → x.2.1.reverse = pth t i.toNat)) (fun x => (x.2.2 + 1).toNat)
      (fun o => o = .brk 0 (t, (pth t i.toNat).reverse, -1))
      (by
        rintro ⟨t', out, k⟩ ⟨e1, hk0, hki, hu1, hu2⟩
        dsimp only at e1 hk0 hki hu1 hu2 ⊢
        subst e1
        unfold L22o_5 U22o_5
        by_cases hk : 0 ≤ k
        · have hu := hu1 hk
          have hkl : k.toNat < t'.length := by omega
          have h2 : inR k t'.length := ⟨hk, by omega⟩
          have hlen : out.length ≤ 16 := by
            have := congrArg List.length hu
            simp at this; omega
          have hroom : room (out.length + ([(atI tLn t' k).2.1] : List Bs).length) := by show _ ≤ _; simp; omega
          have htk : thereS t' k = true := thereS_iff.2 ⟨hk, hki, hr⟩
          simp (disch := first | assumption | omega) only [ev_br, ev_leaf, ev_ck, ev_c1, decide_eq_true_eq, hk, if_true, F_under N t' k hN, htk, obind_some]
          refine ⟨_, rfl, .inl ⟨_, rfl, ?_⟩⟩
          have hw : (atI tLn t' k).2.1 = (t'[k.toNat]).2.1 := by rw [atI_nat, getD_of_lt t' hkl]
          have hlt := unS_lt t' (t'.getD k.toNat (0, [], 0)).1 k.toNat
          have hge := unS_ge t' (t'.getD k.toNat (0, [], 0)).1 k.toNat
          have hun : underN t' k.toNat = unS t' (t'.getD k.toNat (0, [], 0)).1 k.toNat := rfl
          refine ⟨⟨rfl, by simp only; omega, by simp only; omega, fun h => ?_, fun h => ?_⟩, by simp only; omega⟩
          · simp only at h ⊢
            rcases pth_under hrf hkl with ⟨_, hn, _⟩ | ⟨_, u, hn, _, hp, _⟩
            · omega
            · rw [hn, hw, List.reverse_append]
              simp only [List.reverse_cons, List.reverse_nil, List.nil_append]
              rw [← hu, hp]; simp
          · simp only at h ⊢
            rcases pth_under hrf hkl with ⟨_, hn, hp⟩ | ⟨_, u, hn, _⟩
            · rw [hw, List.reverse_append]
              simp only [List.reverse_cons, List.reverse_nil, List.nil_append]
              rw [← hu, hp]
            · omega
        · refine ⟨.brk 0 (t', out, k), by simp [hk], .inr ⟨by simp, ?_⟩⟩
          have : k = -1 := by omega
          subst this
          rw [← hu2 rfl, List.reverse_reverse]) N (t, [], i) ⟨rfl, by simp only; omega, h1, fun _ => by simp, fun h => by simp only at h; omega⟩ (by simp only; omega)
    unfold W22o_5
    rw [ho, hp]
    simp [F42r]
  · simp [ht]

theorem W_kids (N : Nat) (t : List Ln) (d : Int) (a e : Nat) (hae : a ≤ e) (het : e ≤ t.length) (h200 : t.length ≤ 200) (hN : t.length < N) :
    W48o_8 N (t, (e : Int), d, [], (a : Int)) = some (.brk 0 (t, (e : Int), d, ((List.range' a (e - a)).filter fun k => (t.getD k (0, [], 0)).1 == d).map (fun k : Nat => (k : Int)), (e : Int))) := by
  unfold W48o_8
  have := loop_fold (R := List Int) (step := fun x => L48o_8 N x.1 x.2.1 x.2.2.1 x.2.2.2.1 x.2.2.2.2) e
    (fun (out : List Int) k => if ((t.getD k (0, [], 0)).1 == d) = true then out ++ [(k : Int)] else out) (fun out k => (t, (e : Int), d, out, k))
    (fun out k => out.length ≤ k) (fun out k hI hk => by
      show (if _ then _ else _ : List Int).length ≤ _
      split
      · simp; omega
      · omega) (fun out k hI hk => by
      unfold L48o_8 U48o_8
      by_cases h : k < e
      · have hk' : (k : Int) < e := by omega
        have c1 : inR (k : Int) t.length := ⟨by omega, by omega⟩
        have hroom : room (out.length + ([(k : Int)] : List Int).length) := by show _ ≤ _; simp; omega
        simp (disch := first | assumption | omega) only [ev_br, ev_leaf, ev_ck, decide_eq_true_eq, hk', if_true, h, wrapI]
        show (if ((t.getD k (0, [], 0)).1 == d) = true then _ else _) = _
        split <;> rfl
      · have hk' : ¬ (k : Int) < e := by omega
        simp [hk', h]) [] a (by simp) hae N (by omega)
  rw [this, foldl_fmap]
  simp

theorem F_kids (N : Nat) (t : List Ln) (i : Int) (hN : t.length < N) : F48o N t i = some (if rightS t = true ∧ -1 ≤ i ∧ i < t.length then kidsS t i else []) := by
  unfold F48o V48o
  simp only [ev_br, ev_leaf, ev_c1, F_right N t hN, obind_some, Bool.not_eq_true', decide_eq_true_eq, ev_f1]
  by_cases hr : rightS t = true
  · obtain ⟨h200, hrf⟩ := rightS_iff.1 hr
    simp only [hr, Bool.true_eq_false, if_false, true_and]
    by_cases h1 : i < -1
    · rw [if_pos h1, if_neg (by omega)]
    · rw [if_neg h1]
      by_cases h2 : (t.length : Int) ≤ i
      · rw [if_pos h2, if_neg (by omega)]
      · rw [if_neg h2]
        have hrhs : (if -1 ≤ i ∧ i < (t.length : Int) then kidsS t i else []) = kidsS t i := if_pos ⟨by omega, by omega⟩
        rw [hrhs]
        by_cases h3 : 0 ≤ i
        · rw [if_pos h3]
          have htk : thereS t i = true := thereS_iff.2 ⟨h3, by omega, hr⟩
          have hil : i.toNat < t.length := by omega
          have c1 : inR i t.length := ⟨h3, by omega⟩
          simp (disch := first | assumption | omega) only [F_end N t i hN, htk, if_true, obind_some, ev_ck, ev_f1, ev_leaf]
          have hb := snd_iff.1 (rf_at hrf hil).1
          have hd : (atI tLn t i).1 = (t[i.toNat]).1 := by rw [atI_nat, getD_of_lt t hil]
          rw [hd, wrapI (by omega) (by omega), wrapI (by omega) (by omega)]
          have he2 := endN_gt t i.toNat
          have := W_kids N t ((t[i.toNat]).1 + 1) (i.toNat + 1) (endN t i.toNat) (by omega) (endN_le t hil) h200 hN
          rw [show ((i.toNat + 1 : Nat) : Int) = i + 1 by omega] at this
          rw [this, lp1_brk]
          simp only [Option.some.injEq]
          unfold kidsS
          have hbe : ∀ k, k < t.length → (underN t k == i) = true → i.toNat + 1 ≤ k ∧ k < endN t i.toNat := fun k hk hku => by
            have : underN t k = (i.toNat : Int) := by rw [beq_iff_eq.1 hku]; omega
            have := (kid_iff hrf hil hk).1 this
            omega
          rw [filter_range_split _ (show i.toNat + 1 ≤ endN t i.toNat by omega) (endN_le t hil) hbe]
          congr 1
          apply List.filter_congr
          intro k hk
          rw [List.mem_range'_1] at hk
          have hkl : k < t.length := by have := endN_le t hil; omega
          have hi' : (i.toNat : Int) = i := by omega
          have hk2 := kid_iff hrf hil hkl
          rw [hi'] at hk2
          rw [Bool.eq_iff_iff, beq_iff_eq, beq_iff_eq, hk2, getD_of_lt t hkl]
          constructor
          · intro h; exact ⟨by omega, by omega, h⟩
          · intro h; exact h.2.2
        · rw [if_neg h3]
          have hi : i = -1 := by omega
          subst hi
          have := W_kids N t 0 0 t.length (Nat.zero_le _) (Nat.le_refl _) h200 hN
          rw [show ((0 : Nat) : Int) = 0 from rfl] at this
          rw [this, lp1_brk]
          simp only [Option.some.injEq]
          unfold kidsS
          rw [Nat.sub_zero, ← List.range_eq_range']
          congr 1
          apply List.filter_congr
          intro k hk
          have hkl : k < t.length := by simpa using hk
          rw [Bool.eq_iff_iff, beq_iff_eq, beq_iff_eq, root_iff hrf hkl, getD_of_lt t hkl]
  · have : rightS t = false := by simpa using hr
    simp [this]

theorem F_leaves (N : Nat) (t : List Ln) (hN : t.length < N) : F23o N t = some (if rightS t = true then leavesS t else []) := by
  unfold F23o V23o
  simp only [ev_br, ev_leaf, ev_c1, F_right N t hN, obind_some, Bool.not_eq_true', ev_f1]
  by_cases hr : rightS t = true
  · obtain ⟨h200, hrf⟩ := rightS_iff.1 hr
    simp only [hr, Bool.true_eq_false, if_false, if_true]
    have := loop_fold0 (R := List Int) (step := fun x => L23o_5 N x.1 x.2.1 x.2.2.1 x.2.2.2) t.length
      (fun (out : List Int) k => if (endN t k == k + 1) = true then out ++ [(k : Int)] else out) (fun out k => (t, out, (t.length : Int), k))
      (fun out k => out.length ≤ k) (fun out k hI hk => by
        show (if _ then _ else _ : List Int).length ≤ _
        split
        · simp; omega
        · omega) (fun out k hI hk => by
        unfold L23o_5 U23o_5
        by_cases h : k < t.length
        · have hk' : (k : Int) < t.length := by omega
          have hroom : room (out.length + ([(k : Int)] : List Int).length) := by show _ ≤ _; simp; omega
          simp (disch := first | assumption | omega) only [ev_br, ev_leaf, ev_ck, decide_eq_true_eq, hk', if_true, h, wrapI]
          have hes := end_succ_iff t h
          by_cases h1 : ((k : Int) + 1) = t.length
          · rw [if_pos (by simpa using h1), if_pos (by rw [beq_iff_eq, hes]; left; omega)]
          · rw [if_neg (by simpa using h1)]
            have c1 : inR ((k : Int) + 1) t.length := ⟨by omega, by omega⟩
            have c2 : inR (k : Int) t.length := ⟨by omega, by omega⟩
            simp (disch := first | assumption | omega) only [ev_ck, ev_br, ev_leaf, decide_eq_true_eq]
            show (if (t.getD ((k : Int) + 1).toNat (0, [], 0)).1 ≤ (t.getD k (0, [], 0)).1 then _ else _) = _
            rw [show ((k : Int) + 1).toNat = k + 1 by omega]
            by_cases h2 : (t.getD (k + 1) (0, [], 0)).1 ≤ (t.getD k (0, [], 0)).1
            · rw [if_pos h2, if_pos (by rw [beq_iff_eq, hes]; exact .inr h2)]
            · rw [if_neg h2, if_neg (by rw [beq_iff_eq, hes]; omega)]
        · have hk' : ¬ (k : Int) < t.length := by omega
          simp [hk', h]) [] (by simp) N hN
    unfold W23o_5
    rw [this, foldl_fmap]
    simp [leavesS]
  · have : rightS t = false := by simpa using hr
    simp [this]

theorem pths_drop {t : List Ln} {i j : Nat} (h1 : i ≤ j) (h2 : j < t.length) : pth t j ∈ pths (after [] (t.take i)) (t.drop i) := by
  have h3 := pths_append [] (t.take i) (t.drop i)
  rw [List.take_append_drop] at h3
  unfold pth
  rw [List.getD_eq_getElem?_getD, h3, List.getElem?_append_right (by simp; omega)]
  rw [List.getElem?_eq_getElem (by simp; omega)]
  exact List.getElem_mem _

theorem F_find (N : Nat) (t : List Ln) (q : List Bs) (hN : t.length < N) : F20 N t q = some (match fndS t q with | some i => ((i : Int), true) | none => (0, false)) := by
  unfold F20 V20
  simp only [ev_br, ev_leaf, ev_c1, F_right N t hN, obind_some, Bool.not_eq_true', ev_f1, decide_eq_true_eq]
  by_cases hr : rightS t = true
  · obtain ⟨h200, hrf⟩ := rightS_iff.1 hr
    simp only [hr, Bool.true_eq_false, if_false]
    by_cases h1 : (q.length : Int) = 0
    · rw [if_pos (by simpa using h1), fnd_none]
      intro i hi e
      have := pth_len hrf hi
      rw [e] at this; omega
    · rw [if_neg (by simpa using h1)]
      by_cases h2 : (16 : Int) < q.length
      · rw [if_pos h2, fnd_none]
        intro i hi e
        have := pth_len hrf hi
        have hb := snd_iff.1 (rf_at hrf hi).1
        rw [e] at this; omega
      · rw [if_neg h2]
        obtain ⟨o, ho, hp⟩ := runLoop_post (R := Int × Bool) (step := fun x => L20_5 N x.1 x.2.1 x.2.2.1 x.2.2.2.1 x.2.2.2.2)
          (fun x => x.1 = q ∧ x.2.2.1 = t ∧ x.2.2.2.1 = (t.length : Int) ∧ 0 ≤ x.2.2.2.2 ∧ x.2.2.2.2 ≤ t.length ∧ ∃ m : Nat, x.2.1 = (m : Int) ∧ m < q.length ∧ m ≤ (after [] (t.take x.2.2.2.2.toNat)).length ∧
            (after [] (t.take x.2.2.2.2.toNat)).take m = q.take m ∧ ((after [] (t.take x.2.2.2.2.toNat)).length = m ∨ (after [] (t.take x.2.2.2.2.toNat)).getD m [] ≠ q.getD m []) ∧ ∀ j, j < x.2.2.2.2.toNat → pth t j ≠ q)
          (fun x => (t.length - x.2.2.2.2).toNat)
          (fun o => (∃ i : Nat, o = .ret ((i : Int), true) ∧ i < t.length ∧ pth t i = q) ∨ ((o = .ret (0, false) ∨ ∃ x, o = .brk 0 x) ∧ ∀ j, j < t.length → pth t j ≠ q))
          (by
            rintro ⟨q', deep, t', n, i⟩ ⟨e1, e2, e3, h0, hle, m, hm, hmq, hmp, htk, hor, hno⟩
            dsimp only at e1 e2 e3 h0 hle hm hmp htk hor hno ⊢
            subst e1; subst e2; subst e3; subst hm
            unfold L20_5 U20_5
            by_cases hi : i < t'.length
            · have hil : i.toNat < t'.length := by omega
              have c1 : inR i t'.length := ⟨h0, hi⟩
              have c2 : inR (m : Int) q'.length := ⟨by omega, by omega⟩
              obtain ⟨l, hl⟩ : ∃ l : Ln, t'[i.toNat] = l := ⟨_, rfl⟩
              have hat : atI tLn t' i = l := by rw [atI_nat, getD_of_lt t' hil, hl]
              obtain ⟨hs, hd, hw⟩ := rf_at hrf hil
              rw [hl] at hs hd hw
              obtain ⟨p, hpp⟩ : ∃ p, after [] (t'.take i.toNat) = p := ⟨_, rfl⟩
              rw [hpp] at hd hw hmp htk hor
              have hb := snd_iff.1 hs
              have hpi : pth t' i.toNat = nx p l := by rw [pth_eq t' hil, after_take_succ [] t' hil, hpp, hl]
              have hnx : after [] (t'.take (i.toNat + 1)) = nx p l := by rw [after_take_succ [] t' hil, hpp, hl]
              have hq : atI tS q' (m : Int) = q'.getD m [] := rfl
              simp (disch := first | assumption | omega) only [ev_br, ev_leaf, ev_ck, decide_eq_true_eq, hi, if_true, hat, wrapI, hq]
              -- the next round
              have goon : ∀ m' : Nat, m' < q'.length → m' ≤ (nx p l).length → (nx p l).take m' = q'.take m' → ((nx p l).length = m' ∨ (nx p l).getD m' [] ≠ q'.getD m' []) → nx p l ≠ q' →
                  (∃ y, (Lp.next (q', (m' : Int), t', (t'.length : Int), i + 1) : Lp (List Bs × Int × List Ln × Int × Int) (Int × Bool)) = .next y ∧ (y.1 = q' ∧ y.2.2.1 = t' ∧ y.2.2.2.1 = (t'.length : Int) ∧ 0 ≤ y.2.2.2.2 ∧ y.2.2.2.2 ≤ t'.length ∧ ∃ m : Nat, y.2.1 = (m : Int) ∧ m < q'.length ∧ m ≤ (after [] (t'.take y.2.2.2.2.toNat)).length ∧
                    (after [] (t'.take y.2.2.2.2.toNat)).take m = q'.take m ∧ ((after [] (t'.take y.2.2.2.2.toNat)).length = m ∨ (after [] (t'.take y.2.2.2.2.toNat)).getD m [] ≠ q'.getD m []) ∧ ∀ j, j < y.2.2.2.2.toNat → pth t' j ≠ q') ∧ (t'.length - y.2.2.2.2).toNat < (t'.length - i).toNat) := by
                intro m' g1 g2 g3 g4 g5
                refine ⟨_, rfl, ⟨rfl, rfl, rfl, by simp only; omega, by simp only; omega, m', rfl, g1, ?_⟩, by simp only; omega⟩
                simp only
                rw [show (i + 1).toNat = i.toNat + 1 by omega, hnx]
                refine ⟨g2, g3, g4, fun j hj => ?_⟩
                rcases Nat.lt_or_ge j i.toNat with h | h
                · exact hno j h
                · have : j = i.toNat := by omega
                  subst this
                  rw [hpi]; exact g5
              have hat2 : ∀ e, e < l.1.toNat → (nx p l).getD e [] = p.getD e [] := fun e he => by
                unfold nx
                rw [List.getD_eq_getElem?_getD, List.getElem?_append_left (by simp; omega), List.getElem?_take_of_lt he, List.getD_eq_getElem?_getD]
              have hat3 : (nx p l).getD l.1.toNat [] = l.2.1 := by
                unfold nx
                rw [List.getD_eq_getElem?_getD, List.getElem?_append_right (by simp; omega)]
                simp [show l.1.toNat - min l.1.toNat p.length = 0 by omega]
              have htk2 : ∀ e, e ≤ l.1.toNat → (nx p l).take e = p.take e := fun e he => by
                unfold nx
                rw [List.take_append_of_le_length (by simp; omega), List.take_take, Nat.min_eq_left he]
              have hlen := nx_len hb.1 hd
              by_cases g1 : l.1 < (m : Int)
              · rw [if_pos g1]
                refine ⟨_, rfl, .inr ⟨by simp, .inr ⟨.inl rfl, fun j hj => ?_⟩⟩⟩
                rcases Nat.lt_or_ge j i.toNat with h | h
                · exact hno j h
                · -- it has gone by
                  have hqe : q'.getD l.1.toNat [] = p.getD l.1.toNat [] := by
                    have : (p.take m)[l.1.toNat]? = (q'.take m)[l.1.toNat]? := by rw [htk]
                    rw [List.getElem?_take_of_lt (by omega), List.getElem?_take_of_lt (by omega)] at this
                    rw [List.getD_eq_getElem?_getD, List.getD_eq_getElem?_getD, this]
                  have hbl : bl (q'.getD l.1.toNat []) ((nx p l).getD l.1.toNat []) = true := by
                    rw [hqe, hat3]; exact hw.resolve_left (by omega)
                  have htake : (nx p l).take l.1.toNat = q'.take l.1.toNat := by
                    rw [htk2 _ (Nat.le_refl _)]
                    have := congrArg (List.take l.1.toNat) htk
                    rw [List.take_take, List.take_take, Nat.min_eq_left (by omega)] at this
                    exact this
                  rcases Nat.lt_or_eq_of_le h with h' | h'
                  · have hm := pths_drop (t := t') (i := i.toNat + 1) (j := j) (by omega) hj
                    rw [hnx] at hm
                    have hrr := (rf_split hrf (i.toNat + 1)).2
                    rw [hnx] at hrr
                    exact gone _ _ q' l.1.toNat hrr htake (by omega) (by omega) hbl _ hm
                  · rw [← h', hpi]
                    intro e
                    rw [e, bl_irr] at hbl; cases hbl
              · rw [if_neg g1]
                by_cases g2 : (m : Int) < l.1
                · rw [if_pos g2]
                  have hne : p.getD m [] ≠ q'.getD m [] := hor.resolve_left (by omega)
                  have hne' : (nx p l).getD m [] ≠ q'.getD m [] := by rw [hat2 m (by omega)]; exact hne
                  exact ⟨_, rfl, .inl (goon m hmq (by omega) (by rw [htk2 m (by omega)]; exact htk) (.inr hne') (fun e => hne' (by rw [e])))⟩
                · rw [if_neg g2]
                  have hlm : l.1.toNat = m := by omega
                  by_cases g3 : l.2.1 = q'.getD m []
                  · rw [if_neg (by simp [g3])]
                    have hnq : nx p l = q'.take (m + 1) := by
                      unfold nx
                      rw [hlm, htk, g3, List.take_succ_eq_append_getElem hmq, List.getD_eq_getElem?_getD, List.getElem?_eq_getElem hmq]; rfl
                    by_cases g4 : (m : Int) = (q'.length : Int) - 1
                    · rw [if_pos (by simpa using g4)]
                      refine ⟨_, rfl, .inr ⟨by simp, .inl ⟨i.toNat, by rw [Int.toNat_of_nonneg h0], hil, ?_⟩⟩⟩
                      rw [hpi, hnq, List.take_of_length_le (by omega)]
                    · rw [if_neg (by simpa using g4)]
                      have := goon (m + 1) (by omega) (by omega) (by rw [hnq, List.take_take, Nat.min_self]) (.inl (by omega)) (fun e => by
                        have := congrArg List.length e
                        rw [hlen] at this; omega)
                      rw [show ((m + 1 : Nat) : Int) = (m : Int) + 1 by omega] at this
                      exact ⟨_, rfl, .inl this⟩
                  · rw [if_pos (by simpa using g3)]
                    have hne' : (nx p l).getD m [] ≠ q'.getD m [] := by rw [← hlm, hat3, hlm]; exact g3
                    exact ⟨_, rfl, .inl (goon m hmq (by omega) (by rw [htk2 m (by omega)]; exact htk) (.inr hne') (fun e => hne' (by rw [e])))⟩
            · refine ⟨.brk 0 (q', (m : Int), t', (t'.length : Int), i), by simp [hi], .inr ⟨by simp, .inr ⟨.inr ⟨_, rfl⟩, fun j hj => hno j (by omega)⟩⟩⟩) N (q, 0, t, (t.length : Int), 0)
          ⟨rfl, rfl, rfl, by simp, by simp, 0, rfl, by omega, Nat.zero_le _, rfl, .inl rfl, fun j hj => by simp at hj⟩ (by simp only; omega)
        unfold W20_5
        rw [ho]
        rcases hp with ⟨i, rfl, hi, he⟩ | ⟨hx, hn⟩
        · rw [fnd_some hr hi he]; rfl
        · rw [fnd_none hn]
          rcases hx with rfl | ⟨x, rfl⟩ <;> rfl
  · have : rightS t = false := by simpa using hr
    simp [this, fndS]

end Go.Proofs.Ytkbciolghkcjoaa.Vc
