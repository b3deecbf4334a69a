/-
  THE STATEMENTS ON TOKENS: tokens as they are written; names. No condition.
-/
import Derived.Test.YtojcdimaeiibdaaLm
set_option linter.unusedVariables false
set_option linter.unusedSimpArgs false
namespace Go.Proofs.Ytojcdimaeiibdaa.Vc

theorem dig_all : ∀ n : Nat, n < 16 → (if ((n : Int) < 10) then some (IntKind.u8.wrap (IntKind.i64.wrap (48 + (n : Int)))) else some (IntKind.u8.wrap (IntKind.i64.wrap ((IntKind.i64.wrap (97 + (n : Int))) - 10)))) = some ((digS n).toNat : Int) := of_decide_eq_true (by kernel_rfl)
theorem R_digit (N n : Nat) (h : n < 16) : F28 N (n : Int) = some ((digS n).toNat : Int) := by
  unfold F28 V28
  simp only [ev_br, ev_leaf, decide_eq_true_eq]
  exact dig_all n h

theorem esc_len (c : UInt8) : 1 ≤ (escS c).length ∧ (escS c).length ≤ 4 := by
  unfold escS
  split
  · simp
  · split <;> simp
theorem escW_len : ∀ w : Bs, (escW w).length ≤ 4 * w.length
  | [] => by simp [escW]
  | c :: w => by
    have ih := escW_len w
    have := esc_len c
    unfold escW at ih ⊢
    rw [List.flatMap_cons, List.length_append]
    simp only [List.length_cons]; omega
theorem quote_len (w : Bs) : (quoteS w).length ≤ 4 * w.length + 2 := by
  have := escW_len w
  unfold quoteS
  split
  · omega
  · simp; omega

theorem bts_cons (c : UInt8) (l : Bs) : bts (c :: l) = (c.toNat : Int) :: bts l := rfl

theorem R_quote (N : Nat) (w : Bs) (hN : w.length < N) (hL : w.length ≤ 100000) : F18 N w = some (quoteS w) := by
  unfold F18 V18
  rw [ev_c1, R_Bare N w hN (by omega), obind_some]
  unfold quoteS
  by_cases hb : bareW w = true
  · simp only [ev_br, ev_leaf, hb, if_true]
  · simp only [ev_br, ev_leaf, hb, if_false, ev_f1, Bool.false_eq_true]
    have hel : ∀ k, (escW (w.take k)).length ≤ 4 * w.length := fun k => by
      have := escW_len (w.take k)
      rw [List.length_take] at this; omega
    have hbl : ∀ x : Bs, (bts x).length = x.length := fun x => by unfold bts; rw [List.length_map]
    have := loop_up (R := Bs) (step := fun x => L18_5 N x.1 x.2.1 x.2.2) w.length (fun i => (w, bts (34 :: escW (w.take i)), (i : Int)))
      (fun i hi => by
        unfold L18_5 U18_5
        have hi' : (i : Int) < (w.length : Int) := by omega
        have c1 : inR (i : Int) w.length := ⟨by omega, hi'⟩
        have w1 : IntKind.i64.wrap ((i : Int) + 1) = ((i + 1 : Nat) : Int) := by rw [wrapI (by omega) (by omega)]; omega
        have hby : byteAt w (i : Int) = ((w[i]).toNat : Int) := by unfold byteAt; simp [hi]
        have hst : escW (w.take (i + 1)) = escW (w.take i) ++ escS w[i] := by
          rw [List.take_succ_eq_append_getElem hi]
          unfold escW
          rw [List.flatMap_append]
          simp
        have rm : ∀ x : List Int, x.length ≤ 4 → room ((bts (34 :: escW (w.take i))).length + x.length) := fun x hx => by
          show _ ≤ _
          have := hel i
          rw [hbl]; simp only [List.length_cons]; omega
        have rm2 : ∀ a b : Int, room ((bts (34 :: escW (w.take i))).length + ([a, b] : List Int).length) := fun a b => rm _ (by simp)
        have rm4 : ∀ a b c d : Int, room ((bts (34 :: escW (w.take i))).length + ([a, b, c, d] : List Int).length) := fun a b c d => rm _ (by simp)
        have rm1 : ∀ a : Int, room ((bts (34 :: escW (w.take i))).length + ([a] : List Int).length) := fun a => rm _ (by simp)
        have fin : ∀ x : List Int, x = bts (escS w[i]) → (some (Lp.next (w, bts (34 :: escW (w.take i)) ++ x, ((i + 1 : Nat) : Int))) : Option (Lp (Bs × List Int × Int) Bs)) = some (Lp.next (w, bts (34 :: escW (w.take (i + 1))), ((i + 1 : Nat) : Int))) := fun x hx => by
          rw [hst, hx, ← bts_app]; rfl
        generalize w[i] = c at hby fin
        have h0 := c.toNat_lt
        have w2 : IntKind.i64.wrap (c.toNat : Int) = (c.toNat : Int) := wrapI (by omega) (by omega)
        have w3 : IntKind.i64.wrap (((c.toNat : Int)).tdiv 16) = ((c.toNat / 16 : Nat) : Int) := by
          rw [Int.tdiv_eq_ediv_of_nonneg (by omega), wrapI (by omega) (by omega)]; omega
        have w4 : ((c.toNat : Int)).tmod 16 = ((c.toNat % 16 : Nat) : Int) := by
          rw [Int.tmod_eq_emod_of_nonneg (by omega)]; omega
        simp only [ev_br, ev_leaf, ev_ck c1, decide_eq_true_eq, if_pos hi', hby, is34, is92, w1, w2, w3, w4, ev_ck (show (16 : Int) ≠ 0 by decide), ev_c1, R_digit N (c.toNat / 16) (by omega), R_digit N (c.toNat % 16) (by omega), obind_some, show ((c.toNat : Int) < 32) ↔ c.toNat < 32 by omega, show ((126 : Int) < (c.toNat : Int)) ↔ 126 < c.toNat by omega]
        unfold escS at fin
        by_cases a1 : c = 34
        · rw [if_pos a1, ev_ck (rm2 _ _)]
          rw [if_pos (.inl a1)] at fin
          exact fin _ rfl
        rw [if_neg a1]
        by_cases a2 : c = 92
        · rw [if_pos a2, ev_ck (rm2 _ _)]
          rw [if_pos (.inr a2)] at fin
          exact fin _ rfl
        rw [if_neg a2]
        rw [if_neg (show ¬(c = 34 ∨ c = 92) from fun h => h.elim a1 a2)] at fin
        by_cases a3 : c.toNat < 32
        · rw [if_pos a3, ev_ck (rm4 _ _ _ _)]
          rw [if_pos (.inl a3)] at fin
          exact fin _ rfl
        rw [if_neg a3]
        by_cases a4 : 126 < c.toNat
        · rw [if_pos a4, ev_ck (rm4 _ _ _ _)]
          rw [if_pos (.inr a4)] at fin
          exact fin _ rfl
        rw [if_neg a4, ev_ck (rm1 _)]
        rw [if_neg (show ¬(c.toNat < 32 ∨ 126 < c.toNat) from fun h => h.elim a3 a4)] at fin
        exact fin _ rfl)
      (by unfold L18_5 U18_5; simp) N (by omega)
    unfold W18_5
    have e0 : (w, bts (34 :: escW (w.take 0)), ((0 : Nat) : Int)) = (w, ([34] : List Int), (0 : Int)) := rfl
    rw [e0] at this
    rw [this, lp1_brk]
    dsimp only
    rw [List.take_length]
    have r1 : room ((bts (34 :: escW w)).length + ([34] : List Int).length) := by
      show _ ≤ _
      have := escW_len w
      rw [hbl]; simp only [List.length_cons, List.length_nil]; omega
    rw [ev_ck r1]
    have : bts (34 :: escW w) ++ ([34] : List Int) = bts (34 :: (escW w ++ [34])) := by rw [bts_cons, bts_cons, bts_app]; rfl
    rw [this, strOf_bts]
    rfl

/-! ### Tokens, one blank apart -/

theorem tokW_len (k : Tok) (hg : goodK (k.1, 0, k.2.2)) : (tokW k).length ≤ 162 := by
  unfold tokW
  have h1 : inactW.length = 9 := rfl
  have h2 : protW.length = 8 := rfl
  by_cases hk : k.1 = 1
  · rw [if_pos hk]
    have := quote_len k.2.2.1
    simp only [goodK] at hg
    omega
  · rw [if_neg hk]
    repeat' split
    all_goals simp [h1, h2]
theorem textT_len : ∀ l : List Tok, (∀ k ∈ l, goodK (k.1, 0, k.2.2)) → (textT l).length ≤ 163 * l.length
  | [], _ => by simp [textT]
  | k :: l, h => by
    have ih := textT_len l fun x hx => h x (List.mem_cons_of_mem _ hx)
    have := tokW_len k (h k List.mem_cons_self)
    unfold textT at ih ⊢
    rw [List.flatMap_cons, List.length_append]
    simp only [List.length_cons]; omega
theorem textS_len (l : List Tok) (h : ∀ k ∈ l, goodK (k.1, 0, k.2.2)) : (textS l).length ≤ 163 * l.length := by
  cases l with
  | nil => simp [textS]
  | cons k l =>
    have := textT_len l fun x hx => h x (List.mem_cons_of_mem _ hx)
    have := tokW_len k (h k List.mem_cons_self)
    unfold textS
    rw [List.length_append]
    simp only [List.length_cons]; omega

theorem textS_snoc (l : List Tok) (k : Tok) : textS (l ++ [k]) = textS l ++ (if l = [] then [] else [32]) ++ tokW k := by
  cases l with
  | nil => simp [textS, textT]
  | cons a l =>
    simp [textS, textT]

theorem R_text (N : Nat) (l : List Tok) (hg : ∀ k ∈ l, goodK (k.1, 0, k.2.2)) (hN : 700 < N) (hL : l.length ≤ 600) : F17 N l = some (textS l) := by
  unfold F17 V17
  simp only [ev_f1, ev_leaf]
  have := loop_up (R := Bs) (step := fun x => L17_3 N x.1 x.2.1 x.2.2) l.length (fun i => (l, textS (l.take i), (i : Int)))
    (fun i hi => by
      unfold L17_3 U17_3
      have hi' : (i : Int) < (l.length : Int) := by omega
      have c1 : inR (i : Int) l.length := ⟨by omega, hi'⟩
      have w1 : IntKind.i64.wrap ((i : Int) + 1) = ((i + 1 : Nat) : Int) := by rw [wrapI (by omega) (by omega)]; omega
      have hat : atI (.pair tI tLn) l (i : Int) = l[i] := by
        show l.getD ((i : Int)).toNat (0, 0, [], 0) = _
        simp [hi]
      have hgk := hg l[i] (List.getElem_mem hi)
      have hlen : (textS (l.take i)).length ≤ 100000 := by
        have := textS_len (l.take i) fun k hk => hg k (List.mem_of_mem_take hk)
        rw [List.length_take] at this; omega
      have hsn := textS_snoc (l.take i) l[i]
      rw [← List.take_succ_eq_append_getElem hi] at hsn
      have htw := tokW_len l[i] hgk
      -- what is ahead of the token
      obtain ⟨u, hu⟩ : ∃ u, textS (l.take i) ++ (if l.take i = [] then [] else [32]) = u := ⟨_, rfl⟩
      have hul : u.length ≤ 100001 := by
        rw [← hu, List.length_append]
        split <;> simp <;> omega
      rw [hu] at hsn
      rw [hsn]
      have rr : ∀ x : Bs, x.length ≤ 1000 → room (u.length + x.length) := fun x hx => by show _ ≤ _; omega
      have main : ∀ (k : Tok), goodK (k.1, 0, k.2.2) → (tokW k).length ≤ 162 → (if (k.1 == 1) = true then (F18 N k.2.2.1).bind (fun x => (if room (u.length + x.length) then some (Lp.next (l, u ++ x, ((i + 1 : Nat) : Int))) else none)) else
          if (k.1 == 2) = true then some (Lp.next (l, u ++ [123], ((i + 1 : Nat) : Int))) else if (k.1 == 3) = true then some (Lp.next (l, u ++ [125], ((i + 1 : Nat) : Int))) else if (k.1 == 4) = true then some (Lp.next (l, u ++ [59], ((i + 1 : Nat) : Int))) else
          if (k.2.2.2 == 1) = true then some (Lp.next (l, u ++ [105, 110, 97, 99, 116, 105, 118, 101, 58], ((i + 1 : Nat) : Int))) else (some (Lp.next (l, u ++ [112, 114, 111, 116, 101, 99, 116, 58], ((i + 1 : Nat) : Int))) : Option (Lp (List Tok × Bs × Int) Bs))) =
          some (Lp.next (l, u ++ tokW k, ((i + 1 : Nat) : Int))) := fun k hk htk => by
        unfold tokW
        simp only [beq_iff_eq]
        by_cases h1 : k.1 = 1
        · have h40 : k.2.2.1.length ≤ 40 := by simp only [goodK] at hk; omega
          rw [if_pos h1, if_pos h1, R_quote N _ (by omega) (by omega), obind_some, if_pos (rr _ (by have := quote_len k.2.2.1; omega))]
        rw [if_neg h1, if_neg h1]
        by_cases h2 : k.1 = 2
        · rw [if_pos h2, if_pos h2]
        rw [if_neg h2, if_neg h2]
        by_cases h3 : k.1 = 3
        · rw [if_pos h3, if_pos h3]
        rw [if_neg h3, if_neg h3]
        by_cases h4 : k.1 = 4
        · rw [if_pos h4, if_pos h4]
        rw [if_neg h4, if_neg h4]
        by_cases h5 : k.2.2.2 = 1
        · rw [if_pos h5, if_pos h5]; rfl
        · rw [if_neg h5, if_neg h5]; rfl
      have r1 : room (u.length + ([123] : Bs).length) := rr _ (by simp)
      have r2 : room (u.length + ([125] : Bs).length) := rr _ (by simp)
      have r3 : room (u.length + ([59] : Bs).length) := rr _ (by simp)
      have r4 : room (u.length + ([105, 110, 97, 99, 116, 105, 118, 101, 58] : Bs).length) := rr _ (by simp)
      have r5 : room (u.length + ([112, 114, 111, 116, 101, 99, 116, 58] : Bs).length) := rr _ (by simp)
      have mk := main l[i] hgk htw
      by_cases h0 : i = 0
      · have hu0 : u = textS (l.take i) := by rw [← hu, h0]; simp
        rw [← hu0]
        simp only [ev_br, ev_leaf, ev_ck c1, decide_eq_true_eq, if_pos hi', hat, w1, ev_c1, if_neg (show ¬(0 : Int) < (i : Int) by omega), ev_ck0, if_pos r1, if_pos r2, if_pos r3, if_pos r4, if_pos r5]
        exact mk
      · have hu1 : textS (l.take i) ++ [32] = u := by
          rw [← hu, if_neg]
          intro e
          have h7 := congrArg List.length e
          rw [List.length_take, List.length_nil] at h7
          omega
        have r0 : room ((textS (l.take i)).length + ([32] : Bs).length) := by show _ ≤ _; simp; omega
        simp only [ev_br, ev_leaf, ev_ck c1, ev_ck r0, decide_eq_true_eq, if_pos hi', hat, w1, ev_c1, if_pos (show (0 : Int) < (i : Int) by omega), hu1, ev_ck0, if_pos r1, if_pos r2, if_pos r3, if_pos r4, if_pos r5]
        exact mk)
    (by unfold L17_3 U17_3; simp) N (by omega)
  unfold W17_3
  have e0 : (l, textS (l.take 0), ((0 : Nat) : Int)) = (l, ([] : Bs), (0 : Int)) := rfl
  rw [e0] at this
  rw [this, lp1_brk]
  dsimp only
  rw [List.take_length]

theorem law_again (N : Nat) (s : Bs) (hN : 200000 < N) : F5 N s = some true := by
  unfold F5 V5
  simp only [ev_br, ev_leaf, ev_c1, ev_c3, F_lawake N (by omega), obind_some, decide_eq_true_eq]
  by_cases hL : (600 : Int) < s.length
  · rw [if_pos hL]
  rw [if_neg hL, F_all N s (by omega) (by omega), obind_some]
  cases hl : lexR s with
  | error e =>
    obtain ⟨k, e⟩ := e
    obtain ⟨h1, h2, h3⟩ := lex_err s.length s k e (Nat.le_refl _) hl
    rw [all_err hl, if_pos (ne0_true h3)]
    rfl
  | ok a =>
    have hal := lex_len s a hl
    rw [all_ok hl]
    dsimp only
    rw [if_neg not_ne0]
    obtain ⟨ta, hta⟩ : ∃ ta : List Tok, a.map (toTok s.length) = ta := ⟨_, rfl⟩
    have htal : ta.length = a.length := by rw [← hta, List.length_map]
    have hg : ∀ k ∈ ta, goodK (k.1, 0, k.2.2) := fun k hk => by
      rw [← hta] at hk
      obtain ⟨x, hx, rfl⟩ := List.mem_map.1 hk
      have := lex_good hl x hx
      unfold goodK at this ⊢
      exact this
    rw [hta, F_refs N ta (by omega) (by omega), obind_some, R_text N ta hg (by omega) (by omega), obind_some]
    have htl := textS_len ta hg
    rw [F_all N (textS ta) (by omega) (by omega), obind_some]
    obtain ⟨b, hb, hbb⟩ := lex_text ta hg
    rw [all_ok hb]
    obtain ⟨tb, htb⟩ : ∃ tb : List Tok, b.map (toTok (textS ta).length) = tb := ⟨_, rfl⟩
    have hmm : tb.map (fun k : Tok => (k.1, k.2.2)) = ta.map fun k => (k.1, k.2.2) := by
      rw [← hbb, ← htb, List.map_map]; rfl
    have htbl : tb.length = ta.length := by have := congrArg List.length hmm; simpa using this
    dsimp only
    rw [htb, if_neg not_ne0, if_neg (show ¬((tb.length : Int) != (ta.length : Int)) = true by rw [htbl]; simp), ev_f1]
    have same : ∀ i, i < ta.length → (tb.getD i (0, 0, [], 0)).1 = (ta.getD i (0, 0, [], 0)).1 ∧ (tb.getD i (0, 0, [], 0)).2.2 = (ta.getD i (0, 0, [], 0)).2.2 := fun i hi => by
      have h1 := congrArg (fun z => z[i]?) hmm
      simp only [List.getElem?_map, List.getElem?_eq_getElem hi, List.getElem?_eq_getElem (show i < tb.length by omega), Option.map_some, Option.some.injEq, Prod.mk.injEq] at h1
      simp only [List.getD_eq_getElem?_getD, List.getElem?_eq_getElem hi, List.getElem?_eq_getElem (show i < tb.length by omega), Option.getD_some]
      exact h1
    have l1 := loop_up (R := Bool) (step := fun x => L5_10 N x.1 x.2.1 x.2.2.1 x.2.2.2) ta.length
      (fun i => (ta, tb, (ta.length : Int), (i : Int))) (fun i hi => by
        unfold L5_10 U5_10
        have hi' : (i : Int) < (ta.length : Int) := by omega
        have c1 : inR (i : Int) ta.length := ⟨by omega, by omega⟩
        have c2 : inR (i : Int) tb.length := ⟨by omega, by omega⟩
        have w1 : IntKind.i64.wrap ((i : Int) + 1) = ((i + 1 : Nat) : Int) := by rw [wrapI (by omega) (by omega)]; omega
        have a1 : (atI (.pair tI tLn) tb (i : Int)).1 = (atI (.pair tI tLn) ta (i : Int)).1 := (same i hi).1
        have a2 : (atI (.pair tI tLn) tb (i : Int)).2.2 = (atI (.pair tI tLn) ta (i : Int)).2.2 := (same i hi).2
        simp only [ev_br, ev_leaf, ev_ck c1, ev_ck c2, decide_eq_true_eq, if_pos hi', w1, a1, a2, beq_self_eq_true, bne_self_eq_false, Bool.not_true, Bool.false_eq_true, if_false])
      (by unfold L5_10 U5_10; simp) N (by omega)
    unfold W5_10
    simp only [Int.natCast_zero] at l1
    rw [l1, lp1_brk, ev_c1]
    rfl

end Go.Proofs.Ytojcdimaeiibdaa.Vc
