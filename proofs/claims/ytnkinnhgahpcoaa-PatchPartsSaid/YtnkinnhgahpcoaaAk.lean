/-
  THE DOCUMENT's ANSWERS FOR patch, AS DATA. No condition.
-/
import Derived.Test.YtnkinnhgahpcoaaAj
set_option linter.unusedVariables false
set_option linter.unusedSimpArgs false
set_option maxRecDepth 100000
namespace Go.Proofs.Ytnkinnhgahpcoaa.Vc

theorem R_refs (N : Nat) (l : List En) (hl : l.length ≤ 10000) (hN : 100000 < N) : F12o N l = some l := by
  unfold F12o V12o
  have hW : W12o_3 N ([], l, (l.length : Int), 0) = some (.brk 0 (l, l, (l.length : Int), (l.length : Int))) := by
    have := loop_up (R := List En) (step := fun x => L12o_3 N x.1 x.2.1 x.2.2.1 x.2.2.2) l.length (fun i => (l.take i, l, (l.length : Int), (i : Int)))
      (fun i hi => by
        unfold L12o_3 U12o_3
        dsimp only
        have hw : IntKind.i64.wrap ((i : Int) + 1) = (i : Int) + 1 := wrapI (by omega) (by omega)
        have c1 : inR (i : Int) l.length := ⟨by omega, by omega⟩
        have c2 : room ((l.take i).length + ([l[i]] : List En).length) := by show _ ≤ _; simp; omega
        rw [ev_br, if_pos (decide_eq_true (by omega)), ev_ck c1, atE l i hi, ev_ck c2, ev_leaf, hw, List.take_succ_eq_append_getElem hi]
        rfl)
      (by
        unfold L12o_3 U12o_3
        dsimp only
        rw [ev_br, if_neg (by simp), ev_leaf]) N (by omega)
    rw [List.take_of_length_le (Nat.le_refl _)] at this
    exact this
  rw [ev_f1, hW, lp1_brk, ev_leaf]
theorem R_same (N : Nat) (a b : List En) (ha : a.length ≤ 10000) (hN : 100000 < N) : F15 N a b = some (decide (a = b)) := by
  unfold F15 V15
  rw [ev_br]
  by_cases hl : a.length = b.length
  · rw [if_neg (by simp [hl]), ev_f1]
    have := loop_all (R := Bool) (step := fun x => L15_4 N x.1 x.2.1 x.2.2) a.length (fun i => decide (a.getD i ([], 0, [], []) = b.getD i ([], 0, [], []))) (fun i => (a, b, i)) false (fun i h0 hi => by
      unfold L15_4 U15_4
      dsimp only
      obtain ⟨k, rfl⟩ := Int.eq_ofNat_of_zero_le h0
      rw [ev_br]
      by_cases h : (k : Int) < (a.length : Int)
      · have hka : k < a.length := by omega
        have hkb : k < b.length := by omega
        have hw : IntKind.i64.wrap ((k : Int) + 1) = (k : Int) + 1 := wrapI (by omega) (by omega)
        rw [if_pos (decide_eq_true h), if_pos h, ev_ck (show inR (k : Int) a.length from ⟨by omega, h⟩), ev_ck (show inR (k : Int) b.length from ⟨by omega, by omega⟩), atE a k hka, atE b k hkb, eq4, ev_br, ev_leaf, ev_leaf, hw]
        have e1 : a.getD (k : Int).toNat ([], 0, [], []) = a[k] := by rw [Int.toNat_natCast]; simp [hka]
        have e2 : b.getD (k : Int).toNat ([], 0, [], []) = b[k] := by rw [Int.toNat_natCast]; simp [hkb]
        rw [e1, e2]
        by_cases hq : a[k] = b[k]
        · rw [if_neg (by simp [hq]), if_pos (by simp [hq])]
        · rw [if_pos (by simp [hq]), if_neg (by simp [hq])]
      · rw [if_neg (by simpa using h), if_neg h, ev_leaf]) N (by omega)
    unfold W15_4
    rw [this]
    by_cases hab : a = b
    · subst hab
      rw [if_pos (by simp), lp1_brk, ev_leaf]
      simp
    · rw [if_neg (by
        intro h
        rw [List.all_eq_true] at h
        refine hab (List.ext_getElem hl fun i h1 h2 => ?_)
        have := h i (List.mem_range.2 h1)
        simpa [h1, h2] using this), lp1_ret, decide_eq_false hab]
      rfl
  · rw [if_pos (by simp; omega), ev_leaf, decide_eq_false (fun e => hl (by rw [e]))]
theorem R_equal (N : Nat) (a b : List Bs) (ha : a.length ≤ 10000) (hN : 100000 < N) : F20 N a b = some (decide (a = b)) := by
  unfold F20 V20
  rw [ev_br]
  by_cases hl : a.length = b.length
  · rw [if_neg (by simp [hl]), ev_f1]
    have := loop_all (R := Bool) (step := fun x => L20_4 N x.1 x.2.1 x.2.2) a.length (fun i => decide (a.getD i [] = b.getD i [])) (fun i => (a, b, i)) false (fun i h0 hi => by
      unfold L20_4 U20_4
      dsimp only
      obtain ⟨k, rfl⟩ := Int.eq_ofNat_of_zero_le h0
      rw [ev_br]
      by_cases h : (k : Int) < (a.length : Int)
      · have hka : k < a.length := by omega
        have hkb : k < b.length := by omega
        have hw : IntKind.i64.wrap ((k : Int) + 1) = (k : Int) + 1 := wrapI (by omega) (by omega)
        rw [if_pos (decide_eq_true h), if_pos h, ev_ck (show inR (k : Int) a.length from ⟨by omega, h⟩), ev_ck (show inR (k : Int) b.length from ⟨by omega, by omega⟩), atT a k hka, atT b k hkb, ev_br, ev_leaf, ev_leaf, hw]
        have e1 : a.getD (k : Int).toNat [] = a[k] := by rw [Int.toNat_natCast]; simp [hka]
        have e2 : b.getD (k : Int).toNat [] = b[k] := by rw [Int.toNat_natCast]; simp [hkb]
        rw [e1, e2]
        by_cases hq : a[k] = b[k]
        · rw [if_neg (by simp [hq]), if_pos (by simp [hq])]
        · rw [if_pos (by simp [hq]), if_neg (by simp [hq])]
      · rw [if_neg (by simpa using h), if_neg h, ev_leaf]) N (by omega)
    unfold W20_4
    rw [this]
    by_cases hab : a = b
    · subst hab
      rw [if_pos (by simp), lp1_brk, ev_leaf]
      simp
    · rw [if_neg (by
        intro h
        rw [List.all_eq_true] at h
        refine hab (List.ext_getElem hl fun i h1 h2 => ?_)
        have := h i (List.mem_range.2 h1)
        simpa [h1, h2] using this), lp1_ret, decide_eq_false hab]
      rfl
  · rw [if_pos (by simp; omega), ev_leaf, decide_eq_false (fun e => hl (by rw [e]))]
theorem R_in (N : Nat) (l : List En) (x : En) (hl : l.length ≤ 10000) (hN : 100000 < N) : F24 N l x = some (decide (x ∈ l)) := by
  unfold F24 V24
  rw [ev_f1]
  have := loop_all (R := Bool) (step := fun y => L24_2 N y.1 y.2.1 y.2.2) l.length (fun i => !decide (l.getD i ([], 0, [], []) = x)) (fun i => (l, x, i)) true (fun i h0 hi => by
    unfold L24_2 U24_2
    dsimp only
    obtain ⟨k, rfl⟩ := Int.eq_ofNat_of_zero_le h0
    rw [ev_br]
    by_cases h : (k : Int) < (l.length : Int)
    · have hka : k < l.length := by omega
      have hw : IntKind.i64.wrap ((k : Int) + 1) = (k : Int) + 1 := wrapI (by omega) (by omega)
      rw [if_pos (decide_eq_true h), if_pos h, ev_ck (show inR (k : Int) l.length from ⟨by omega, h⟩), atE l k hka, eq4, ev_br, ev_leaf, ev_leaf, hw]
      have e1 : l.getD (k : Int).toNat ([], 0, [], []) = l[k] := by rw [Int.toNat_natCast]; simp [hka]
      rw [e1]
      by_cases hq : l[k] = x
      · rw [if_pos (by simp [hq]), if_neg (by simp [hq])]
      · rw [if_neg (by simp [hq]), if_pos (by simp [hq])]
    · rw [if_neg (by simpa using h), if_neg h, ev_leaf]) N (by omega)
  unfold W24_2
  rw [this]
  by_cases hx : x ∈ l
  · rw [if_neg (by
      intro h
      rw [List.all_eq_true] at h
      obtain ⟨i, hi, rfl⟩ := List.getElem_of_mem hx
      have := h i (List.mem_range.2 hi)
      simp [hi] at this), lp1_ret, decide_eq_true hx]
    rfl
  · rw [if_pos (by
      rw [List.all_eq_true]
      intro i hi
      have hi' := List.mem_range.1 hi
      have : l[i] ≠ x := fun e => hx (e ▸ List.getElem_mem hi')
      simp [hi', this]), lp1_brk, ev_leaf, decide_eq_false hx]
theorem R_ahead (N : Nat) (x y : En) : F38 N x y = some (ahd x y) := by
  unfold F38 V38 ahd
  simp only [ev_br, ev_leaf]
  by_cases h1 : x.1 = y.1
  · rw [if_neg (by simp [h1])]
    by_cases h2 : x.2.1 = y.2.1
    · rw [if_neg (by simp [h2])]
      by_cases h3 : x.2.2.1 = y.2.2.1
      · rw [if_neg (by simp [h3])]
        simp [h1, h2, h3, bl_irr]
      · rw [if_pos (by simp [h3])]
        simp [h1, h2, h3, bl_irr]
    · rw [if_pos (by simp [h2])]
      simp [h1, h2, bl_irr]
  · rw [if_pos (by simp [h1])]
    simp [h1]

theorem ins_at {e : En} : ∀ (l : List En) (k : Nat) (h : k < l.length), (∀ j (hj : j < l.length), j < k → l[j] ≠ e ∧ ahd e l[j] = false) → l[k] ≠ e → ahd e l[k] = true → insG ahd e l = l.take k ++ e :: l.drop k
  | x :: r, 0, _, _, h1, h2 => by
    have h1 : x ≠ e := h1
    have h2 : ahd e x = true := h2
    unfold insG
    rw [if_neg h1, if_pos h2]; rfl
  | x :: r, k + 1, h, hb, h1, h2 => by
    obtain ⟨g1, g2⟩ := hb 0 (by simp) (by omega)
    have g1 : x ≠ e := g1
    have g2 : ahd e x = false := g2
    unfold insG
    rw [if_neg g1, if_neg (by rw [g2]; simp), ins_at r k (by simpa using h) (fun j hj hjk => hb (j + 1) (by simpa using hj) (by omega)) h1 h2]; rfl
theorem ins_there {e : En} : ∀ (l : List En) (k : Nat) (h : k < l.length), (∀ j (hj : j < l.length), j < k → l[j] ≠ e ∧ ahd e l[j] = false) → l[k] = e → insG ahd e l = l
  | x :: r, 0, _, _, h1 => by
    have h1 : x = e := h1
    unfold insG
    rw [if_pos h1]
  | x :: r, k + 1, h, hb, h1 => by
    obtain ⟨g1, g2⟩ := hb 0 (by simp) (by omega)
    have g1 : x ≠ e := g1
    have g2 : ahd e x = false := g2
    unfold insG
    rw [if_neg g1, if_neg (by rw [g2]; simp), ins_there r k (by simpa using h) (fun j hj hjk => hb (j + 1) (by simpa using hj) (by omega)) h1]
theorem ins_end {e : En} : ∀ (l : List En), (∀ j (hj : j < l.length), l[j] ≠ e ∧ ahd e l[j] = false) → insG ahd e l = l ++ [e]
  | [], _ => rfl
  | x :: r, hb => by
    obtain ⟨g1, g2⟩ := hb 0 (by simp)
    have g1 : x ≠ e := g1
    have g2 : ahd e x = false := g2
    unfold insG
    rw [if_neg g1, if_neg (by rw [g2]; simp), ins_end r fun j hj => hb (j + 1) (by simpa using hj)]; rfl
theorem R_put (N : Nat) (l : List En) (e : En) (ha : Asc ahd l) (hl : l.length ≤ 10000) (hN : 100000 < N) : F27 N l e = some (insG ahd e l) := by
  unfold F27 V27
  rw [ev_f1]
  have hpw := List.pairwise_iff_getElem.1 ha
  obtain ⟨o, ho, hp⟩ := runLoop_post (R := List En) (step := fun x => L27_4 N x.1 x.2.1 x.2.2.1 x.2.2.2.1 x.2.2.2.2)
    (fun x => x.1 = l ∧ x.2.1 = e ∧ ∃ k : Nat, x.2.2.2.2 = (k : Int) ∧ k ≤ l.length ∧
      ((x.2.2.2.1 = false ∧ x.2.2.1 = l.take k ∧ ∀ j (hj : j < l.length), j < k → l[j] ≠ e ∧ ahd e l[j] = false) ∨
       (x.2.2.2.1 = true ∧ x.2.2.1 ++ l.drop k = insG ahd e l ∧ x.2.2.1.length ≤ k + 1 ∧ ∀ j (hj : j < l.length), k ≤ j → ahd e l[j] = true)))
    (fun x => ((l.length : Int) - x.2.2.2.2).toNat)
    (fun o => o = .ret l ∧ insG ahd e l = l ∨ (∃ i : Int, o = .brk 0 (l, e, l, false, i) ∧ insG ahd e l = l ++ [e]) ∨ ∃ i : Int, o = .brk 0 (l, e, insG ahd e l, true, i)) (by
      rintro ⟨a, b, out, done, i⟩ ⟨e1, e2, k, e3, hk, hI⟩
      dsimp only at e1 e2 e3 hI ⊢
      subst e1; subst e2; subst e3
      unfold L27_4 U27_4
      by_cases h : k < a.length
      · have c1 : inR (k : Int) a.length := ⟨by omega, by omega⟩
        have hw : IntKind.i64.wrap ((k : Int) + 1) = (k : Int) + 1 := wrapI (by omega) (by omega)
        have hol : out.length ≤ k + 1 := by
          rcases hI with ⟨_, h2, _⟩ | ⟨_, _, h3, _⟩
          · rw [h2, List.length_take]; omega
          · exact h3
        have c2 : room (out.length + ([b] : List En).length) := by show _ ≤ _; simp; omega
        have c3 : room ((out ++ [b]).length + ([a[k]] : List En).length) := by show _ ≤ _; simp; omega
        have c4 : room (out.length + ([a[k]] : List En).length) := by show _ ≤ _; simp; omega
        simp only [ev_br, ev_ck0, ev_leaf, ev_c1, if_pos c1, atE a k h, eq4, hw, R_ahead, obind_some, if_pos c2, if_pos c3, if_pos c4]
        rw [if_pos (decide_eq_true (by omega))]
        by_cases hab : a[k] = b
        · rw [if_pos (decide_eq_true hab)]
          refine ⟨_, rfl, .inr ⟨fun y h => (by cases h), .inl ⟨rfl, ?_⟩⟩⟩
          rcases hI with ⟨_, _, h3⟩ | ⟨_, _, _, h4⟩
          · exact ins_there a k h h3 hab
          · have := h4 k h (Nat.le_refl _)
            rw [hab, ahd_irr] at this; cases this
        · rw [if_neg (by simpa using hab)]
          rcases hI with ⟨h1, h2, h3⟩ | ⟨h1, h2, h3, h4⟩
          · subst h1
            rw [if_pos (by rfl)]
            by_cases hah : ahd b a[k] = true
            · rw [if_pos hah]
              refine ⟨_, rfl, .inl ⟨_, rfl, ⟨rfl, rfl, k + 1, by simp only; omega, h, .inr ⟨rfl, ?_, by rw [h2]; simp; omega, fun j hj hkj => ?_⟩⟩, by simp only; omega⟩⟩
              · simp only
                rw [ins_at a k h h3 hab hah, h2, List.drop_eq_getElem_cons h]
                simp
              · exact ahd_trans hah (hpw k j h hj (by omega))
            · rw [if_neg hah]
              refine ⟨_, rfl, .inl ⟨_, rfl, ⟨rfl, rfl, k + 1, by simp only; omega, h, .inl ⟨rfl, ?_, fun j hj hjk => ?_⟩⟩, by simp only; omega⟩⟩
              · simp only
                rw [h2, List.take_succ_eq_append_getElem h]
              · by_cases hjk' : j = k
                · subst hjk'
                  exact ⟨hab, by simpa using hah⟩
                · exact h3 j hj (by omega)
          · subst h1
            rw [if_neg (by simp)]
            refine ⟨_, rfl, .inl ⟨_, rfl, ⟨rfl, rfl, k + 1, by simp only; omega, h, .inr ⟨rfl, ?_, by simp; omega, fun j hj hkj => h4 j hj (by omega)⟩⟩, by simp only; omega⟩⟩
            simp only
            rw [← h2, List.drop_eq_getElem_cons h]
            simp
      · have hkl : k = a.length := by omega
        refine ⟨_, by rw [ev_br, if_neg (by simp; omega), ev_leaf], .inr ⟨fun y h => (by cases h), ?_⟩⟩
        rcases hI with ⟨h1, h2, h3⟩ | ⟨h1, h2, h3, h4⟩
        · subst h1
          rw [hkl, List.take_of_length_le (Nat.le_refl _)] at h2
          subst h2
          exact .inr (.inl ⟨_, rfl, ins_end _ fun j hj => h3 j hj (by omega)⟩)
        · subst h1
          rw [hkl, List.drop_of_length_le (Nat.le_refl _), List.append_nil] at h2
          subst h2
          exact .inr (.inr ⟨_, rfl⟩)) N (l, e, [], false, 0) ⟨rfl, rfl, 0, rfl, Nat.zero_le _, .inl ⟨rfl, rfl, fun j hj h => by omega⟩⟩ (by simp only; omega)
  unfold W27_4
  rw [ho]
  rcases hp with ⟨rfl, h⟩ | ⟨i, rfl, h⟩ | ⟨i, rfl⟩
  · rw [lp1_ret, h]; rfl
  · rw [lp1_brk, ev_br, if_pos (by rfl), ev_ck (show room (l.length + ([e] : List En).length) by show _ ≤ _; simp; omega), ev_leaf, h]
  · rw [lp1_brk, ev_br, if_neg (by simp), ev_leaf]

/-- Entries that are put one by one. -/
def putsE (o : List En) (l : List En) : List En := l.foldl (fun acc x => insG ahd x acc) o
theorem putsE_spec : ∀ (l o : List En), Asc ahd o → Asc ahd (putsE o l) ∧ (∀ x, x ∈ putsE o l ↔ x ∈ o ∨ x ∈ l) ∧ (putsE o l).length ≤ o.length + l.length
  | [], o, h => ⟨h, fun x => by simp [putsE], by simp [putsE]⟩
  | y :: r, o, h => by
    obtain ⟨h1, h2, h3⟩ := putsE_spec r (insG ahd y o) (insG_asc ahd_ord h)
    refine ⟨h1, fun x => ?_, ?_⟩
    · rw [show putsE o (y :: r) = putsE (insG ahd y o) r from rfl, h2, mem_insG, List.mem_cons]
      constructor
      · rintro ((h | h) | h)
        · exact .inr (.inl h)
        · exact .inl h
        · exact .inr (.inr h)
      · rintro (h | h | h)
        · exact .inl (.inr h)
        · exact .inl (.inl h)
        · exact .inr h
    · rw [show putsE o (y :: r) = putsE (insG ahd y o) r from rfl]
      refine Nat.le_trans h3 ?_
      have := insG_len (lt := ahd) (e := y) o
      simp; omega
theorem puts_set (l : List En) : putsE [] l = setE l := by
  obtain ⟨h1, h2, _⟩ := putsE_spec l [] List.Pairwise.nil
  exact asc_ext ahd_ord h1 (setG_asc ahd_ord l) fun x => by rw [h2, mem_setG ahd_ord]; simp
theorem puts_take (o l : List En) (i : Nat) (h : i < l.length) : putsE o (l.take (i + 1)) = insG ahd l[i] (putsE o (l.take i)) := by
  unfold putsE
  rw [List.take_succ_eq_append_getElem h, List.foldl_append]; rfl
theorem R_set (N : Nat) (l : List En) (hl : l.length ≤ 5000) (hN : 100000 < N) : F23 N l = some (setE l) := by
  unfold F23 V23
  have hW : W23_3 N (l, [], 0) = some (.brk 0 (l, setE l, (l.length : Int))) := by
    have := loop_up (R := List En) (step := fun x => L23_3 N x.1 x.2.1 x.2.2) l.length (fun i => (l, putsE [] (l.take i), (i : Int)))
      (fun i hi => by
        unfold L23_3 U23_3
        dsimp only
        have hw : IntKind.i64.wrap ((i : Int) + 1) = (i : Int) + 1 := wrapI (by omega) (by omega)
        have c1 : inR (i : Int) l.length := ⟨by omega, by omega⟩
        obtain ⟨g1, _, g3⟩ := putsE_spec (l.take i) [] List.Pairwise.nil
        have g3 : (putsE [] (l.take i)).length ≤ 10000 := by simp at g3; omega
        rw [ev_br, if_pos (decide_eq_true (by omega)), ev_ck c1, ev_c1]
        rw [atE l i hi, R_put N _ _ g1 g3 hN, obind_some, ev_leaf, hw, puts_take _ _ _ hi]
        rfl)
      (by
        unfold L23_3 U23_3
        dsimp only
        rw [ev_br, if_neg (by simp), ev_leaf]) N (by omega)
    have e : l.take l.length = l := List.take_of_length_le (Nat.le_refl _)
    have h0 : runLoop (fun x => L23_3 N x.1 x.2.1 x.2.2) N (l, [], 0) = some (.brk 0 (l, putsE [] (l.take l.length), (l.length : Int))) := this
    rw [e, puts_set] at h0
    exact h0
  rw [ev_f1, hW, lp1_brk, ev_leaf]
/-- What is in one list, and not in another one. -/
def lessR (a b : List En) : List En := putsE [] (a.filter fun x => !decide (x ∈ b))
theorem lessR_eq (a b : List En) : lessR a b = lessE a b := by
  obtain ⟨h1, h2, _⟩ := putsE_spec (a.filter fun x => !decide (x ∈ b)) [] List.Pairwise.nil
  refine asc_ext ahd_ord h1 (lessE_asc a b) fun x => ?_
  have h2' := h2 x
  show x ∈ putsE [] _ ↔ _
  rw [h2', mem_lessE, List.mem_filter]
  simp
theorem R_less (N : Nat) (a b : List En) (ha : a.length ≤ 1000) (hb : b.length ≤ 1000) (hN : 100000 < N) : F16 N a b = some (lessE a b) := by
  unfold F16 V16
  have hW : W16_3 N (a, b, [], 0) = some (.brk 0 (a, b, lessR a b, (a.length : Int))) := by
    have := loop_up (R := List En) (step := fun x => L16_3 N x.1 x.2.1 x.2.2.1 x.2.2.2) a.length (fun i => (a, b, lessR (a.take i) b, (i : Int)))
      (fun i hi => by
        unfold L16_3 U16_3
        dsimp only
        have hw : IntKind.i64.wrap ((i : Int) + 1) = (i : Int) + 1 := wrapI (by omega) (by omega)
        have c1 : inR (i : Int) a.length := ⟨by omega, by omega⟩
        obtain ⟨g1, _, g3⟩ := putsE_spec ((a.take i).filter fun x => !decide (x ∈ b)) [] List.Pairwise.nil
        have g3 : (lessR (a.take i) b).length ≤ 10000 := by
          have h5 := List.length_filter_le (fun x => !decide (x ∈ b)) (a.take i)
          have h6 : (a.take i).length ≤ a.length := by rw [List.length_take]; omega
          have g3 : (putsE [] ((a.take i).filter fun x => !decide (x ∈ b))).length ≤ 0 + ((a.take i).filter fun x => !decide (x ∈ b)).length := g3
          show (putsE [] _).length ≤ _
          omega
        have g1 : Asc ahd (lessR (a.take i) b) := g1
        have hst : lessR (a.take (i + 1)) b = if a[i] ∈ b then lessR (a.take i) b else insG ahd a[i] (lessR (a.take i) b) := by
          unfold lessR
          rw [List.take_succ_eq_append_getElem hi, List.filter_append]
          by_cases h : a[i] ∈ b
          · rw [if_pos h]; simp [h]
          · rw [if_neg h]
            have : ([a[i]].filter fun x => !decide (x ∈ b)) = [a[i]] := by simp [h]
            rw [this]
            unfold putsE
            rw [List.foldl_append]; rfl
        have hin : F24 N b (atI tEn a (i : Int)) = some (decide (a[i] ∈ b)) := by rw [atE a i hi]; exact R_in N b _ (by omega) hN
        have hput : F27 N (lessR (a.take i) b) (atI tEn a (i : Int)) = some (insG ahd a[i] (lessR (a.take i) b)) := by rw [atE a i hi]; exact R_put N _ _ g1 g3 hN
        rw [ev_br, if_pos (decide_eq_true (by omega)), ev_ck c1, ev_c1, hin, obind_some, ev_br, hst]
        by_cases h : a[i] ∈ b
        · rw [if_neg (by simp [h]), if_pos h, ev_leaf, hw]; rfl
        · rw [if_pos (by simp [h]), if_neg h, ev_ck c1, ev_c1, hput, obind_some, ev_leaf, hw]; rfl)
      (by
        unfold L16_3 U16_3
        dsimp only
        rw [ev_br, if_neg (by simp), ev_leaf]) N (by omega)
    rw [List.take_of_length_le (Nat.le_refl _)] at this
    exact this
  rw [ev_f1, hW, lp1_brk, ev_leaf, lessR_eq]
theorem R_only (N : Nat) (l : List En) (h : Bs) (hl : l.length ≤ 1000) (hN : 100000 < N) : F17o N l h = some (onlyE l h) := by
  unfold F17o V17o
  have hW : W17o_3 N (l, h, [], 0) = some (.brk 0 (l, h, onlyE l h, (l.length : Int))) := by
    have := loop_up (R := List En) (step := fun x => L17o_3 N x.1 x.2.1 x.2.2.1 x.2.2.2) l.length (fun i => (l, h, onlyE (l.take i) h, (i : Int)))
      (fun i hi => by
        unfold L17o_3 U17o_3
        dsimp only
        have hw : IntKind.i64.wrap ((i : Int) + 1) = (i : Int) + 1 := wrapI (by omega) (by omega)
        have c1 : inR (i : Int) l.length := ⟨by omega, by omega⟩
        have c2 : room ((onlyE (l.take i) h).length + ([l[i]] : List En).length) := by
          have := List.length_filter_le (fun x : En => x.1 == h) (l.take i)
          rw [List.length_take] at this
          show (onlyE _ _).length + 1 ≤ 1073741824
          unfold onlyE
          omega
        have hst : onlyE (l.take (i + 1)) h = if ((l[i]).1 == h) = true then onlyE (l.take i) h ++ [l[i]] else onlyE (l.take i) h := by
          unfold onlyE
          rw [List.take_succ_eq_append_getElem hi, List.filter_append, List.filter_cons]
          split <;> simp
        rw [ev_br, if_pos (decide_eq_true (by omega)), ev_ck c1, atE l i hi, ev_br, hst]
        by_cases hq : ((l[i]).1 == h) = true
        · rw [if_pos hq, if_pos hq, ev_ck c1, ev_ck c2, ev_leaf, hw]; rfl
        · rw [if_neg hq, if_neg hq, ev_leaf, hw]; rfl)
      (by
        unfold L17o_3 U17o_3
        dsimp only
        rw [ev_br, if_neg (by simp), ev_leaf]) N (by omega)
    rw [List.take_of_length_le (Nat.le_refl _)] at this
    exact this
  rw [ev_f1, hW, lp1_brk, ev_leaf]
theorem R_apply (N : Nat) (l d p : List En) (hl : l.length ≤ 1000) (hd : d.length ≤ 1000) (hp : p.length ≤ 1000) (hN : 100000 < N) : F19 N l d p = some (applyE l (d, p)) := by
  unfold F19 V19
  have hll := lessE_len l d
  have hA : putsE (lessE l d) p = applyE l (d, p) := by
    obtain ⟨h1, h2, _⟩ := putsE_spec p (lessE l d) (lessE_asc l d)
    exact asc_ext ahd_ord h1 (applyE_asc _ _) fun x => by rw [h2, mem_applyE, mem_lessE]
  have hW : W19_3 N (p, lessE l d, 0) = some (.brk 0 (p, applyE l (d, p), (p.length : Int))) := by
    have := loop_up (R := List En) (step := fun x => L19_3 N x.1 x.2.1 x.2.2) p.length (fun i => (p, putsE (lessE l d) (p.take i), (i : Int)))
      (fun i hi => by
        unfold L19_3 U19_3
        dsimp only
        have hw : IntKind.i64.wrap ((i : Int) + 1) = (i : Int) + 1 := wrapI (by omega) (by omega)
        have c1 : inR (i : Int) p.length := ⟨by omega, by omega⟩
        obtain ⟨g1, _, g3⟩ := putsE_spec (p.take i) (lessE l d) (lessE_asc l d)
        have g3 : (putsE (lessE l d) (p.take i)).length ≤ 10000 := by rw [List.length_take] at g3; omega
        rw [ev_br, if_pos (decide_eq_true (by omega)), ev_ck c1, ev_c1]
        rw [atE p i hi, R_put N _ _ g1 g3 hN, obind_some, ev_leaf, hw, puts_take _ _ _ hi]
        rfl)
      (by
        unfold L19_3 U19_3
        dsimp only
        rw [ev_br, if_neg (by simp), ev_leaf]) N (by omega)
    rw [List.take_of_length_le (Nat.le_refl _), hA] at this
    exact this
  rw [ev_c1, R_less N l d hl hd hN, obind_some, ev_f1]
  have hW' : W19_3 N (p, lessE l d, 0) = _ := hW
  rw [hW', lp1_brk, ev_leaf]
theorem R_hosts (N : Nat) (l : List En) (hl : l.length ≤ 2000) (hN : 100000 < N) : F22o N l = some (hostsE l) := by
  unfold F22o V22o
  obtain ⟨s, hs⟩ : ∃ s, setE l = s := ⟨_, rfl⟩
  have hsl : s.length ≤ 2000 := by
    have : (setE l).length ≤ l.length := setG_len l
    rw [← hs]; omega
  have hW : W22o_4 N (s, [], 0) = some (.brk 0 (s, hostsE l, (s.length : Int))) := by
    have := loop_up (R := List Bs) (step := fun x => L22o_4 N x.1 x.2.1 x.2.2) s.length (fun i => (s, ddA ((s.map fun x => x.1).take i), (i : Int)))
      (fun i hi => by
        unfold L22o_4 U22o_4
        dsimp only
        have hw : IntKind.i64.wrap ((i : Int) + 1) = (i : Int) + 1 := wrapI (by omega) (by omega)
        have c1 : inR (i : Int) s.length := ⟨by omega, by omega⟩
        have hml : (s.map fun x : En => x.1).length = s.length := List.length_map ..
        have hlen : (ddA ((s.map fun x : En => x.1).take i)).length ≤ i := by
          refine Nat.le_trans (dd_length _) ?_
          rw [List.length_take]; omega
        have c2 : room ((ddA ((s.map fun x : En => x.1).take i)).length + ([(s[i]).1] : List Bs).length) := by
          show _ + 1 ≤ 1073741824
          omega
        rw [ev_br, if_pos (decide_eq_true (by omega)), ev_br]
        cases i with
        | zero =>
          have e0 : ddA ((s.map fun x : En => x.1).take 1) = [(s[0]).1] := by
            rw [List.take_succ_eq_append_getElem (by rw [hml]; exact hi)]
            simp [ddA, ddS]
          rw [if_pos (by simp), ev_ck c1, atE s 0 hi, ev_ck c2, ev_leaf, hw, e0]; rfl
        | succ i =>
          have c3 : inR (i : Int) s.length := ⟨by omega, by omega⟩
          have hw1 : IntKind.i64.wrap (((i + 1 : Nat) : Int) - 1) = (i : Int) := by rw [wrapI (by omega) (by omega)]; omega
          have hst := ddA_take (s.map fun x : En => x.1) (m := i) (by rw [hml]; exact hi)
          have g1 : (s.map fun x : En => x.1)[i + 1]! = (s[i + 1]).1 := by rw [getElem!_pos _ (i + 1) (by rw [hml]; exact hi)]; simp
          have g2 : (s.map fun x : En => x.1)[i]! = (s[i]).1 := by rw [getElem!_pos _ i (by rw [hml]; omega)]; simp
          rw [g1, g2] at hst
          rw [if_neg (by simp; omega), ev_ck c1, hw1, ev_ck c3, atE s (i + 1) hi, atE s i (by omega), ev_br, hst]
          by_cases hq : (s[i + 1]).1 = (s[i]).1
          · rw [if_neg (by simp [hq]), if_pos hq, ev_leaf, hw]; rfl
          · rw [if_pos (by simp [hq]), if_neg hq, ev_ck c1, ev_ck c2, ev_leaf, hw]; rfl)
      (by
        unfold L22o_4 U22o_4
        dsimp only
        rw [ev_br, if_neg (by simp), ev_leaf]) N (by omega)
    have e : (s.map fun x : En => x.1).take s.length = s.map fun x : En => x.1 := List.take_of_length_le (by rw [List.length_map]; exact Nat.le_refl _)
    have h0 : runLoop (fun x => L22o_4 N x.1 x.2.1 x.2.2) N (s, [], 0) = some (.brk 0 (s, ddA ((s.map fun x : En => x.1).take s.length), (s.length : Int))) := this
    have e2 : ddA (s.map fun x : En => x.1) = hostsE l := by rw [← hs]; exact hosts_dd l
    rw [e, e2] at h0
    exact h0
  rw [ev_c1, R_set N l (by omega) hN, obind_some, hs, ev_f1, hW, lp1_brk, ev_leaf]

end Go.Proofs.Ytnkinnhgahpcoaa.Vc
