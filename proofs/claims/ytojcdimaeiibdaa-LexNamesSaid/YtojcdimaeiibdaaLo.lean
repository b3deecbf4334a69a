/-
  THE STATEMENT ON NAMES: any words, as they are written, with any signs between, are Names of these words. No condition.
-/
import Derived.Test.YtojcdimaeiibdaaLn
set_option linter.unusedVariables false
set_option linter.unusedSimpArgs false
namespace Go.Proofs.Ytojcdimaeiibdaa.Vc

def sepsS : List Bs := [([32] : Bs), ([123] : Bs), ([125] : Bs), ([59] : Bs), ([10] : Bs), ([35, 120, 10] : Bs), ([32, 47, 42, 32, 42, 47] : Bs)]

theorem sep_lex : ∀ c ∈ sepsS, ∀ t : Bs, stops (c ++ t) ∧ ∃ k : List RTok, (∀ x ∈ k, x.1 ≠ 1) ∧ lexR (c ++ t) = appE k (lexR t) := by
  intro c hc t
  have none : ∀ (q : Bs), lexR q = lexR t → ∃ k : List RTok, (∀ x ∈ k, x.1 ≠ 1) ∧ lexR q = appE k (lexR t) := fun q h => ⟨[], by simp, by rw [h]; cases lexR t <;> rfl⟩
  have one : ∀ (q : Bs) (x : RTok), x.1 ≠ 1 → lexR q = consE x (lexR t) → ∃ k : List RTok, (∀ x ∈ k, x.1 ≠ 1) ∧ lexR q = appE k (lexR t) := fun q x hx h => ⟨[x], by simpa using hx, by rw [h]; cases lexR t <;> rfl⟩
  have st : ∀ (b : UInt8) (q : Bs), bareB b = false → stops (b :: q) := fun b q hb c' h => by
    have : b = c' := by simpa using h
    rw [← this]; exact hb
  simp only [sepsS, List.mem_cons, List.not_mem_nil, or_false] at hc
  rcases hc with rfl | rfl | rfl | rfl | rfl | rfl | rfl
  · exact ⟨st _ _ rfl, none _ (lexR_congr rfl)⟩
  · exact ⟨st _ _ rfl, one _ _ (by simp) (lex_sign 123 2 t (.inl ⟨rfl, rfl⟩))⟩
  · exact ⟨st _ _ rfl, one _ _ (by simp) (lex_sign 125 3 t (.inr (.inl ⟨rfl, rfl⟩)))⟩
  · exact ⟨st _ _ rfl, one _ _ (by simp) (lex_sign 59 4 t (.inr (.inr ⟨rfl, rfl⟩)))⟩
  · exact ⟨st _ _ rfl, none _ (lexR_congr rfl)⟩
  · exact ⟨st _ _ rfl, none _ (skip_short [120] t (by decide))⟩
  · refine ⟨st _ _ rfl, none _ ?_⟩
    have h1 : lexR (([32, 47, 42, 32, 42, 47] : Bs) ++ t) = lexR (47 :: 42 :: [32] ++ 42 :: 47 :: t) := lexR_congr rfl
    rw [h1]
    exact skip_long [32] t (by decide)

def catW (c : Bs) (l : List Bs) : Bs := l.flatMap fun w => quoteS w ++ c
def isName (k : RTok) : Bool := k.1 == 1

theorem lex_names (c : Bs) (hc : c ∈ sepsS) : ∀ l : List Bs, (∀ w ∈ l, w.length ≤ 40) → ∃ out, lexR (catW c l) = .ok out ∧ (out.filter isName).map (fun k => k.2.2.1) = l
  | [], _ => ⟨[], rfl, rfl⟩
  | w :: l, h => by
    obtain ⟨out, h1, h2⟩ := lex_names c hc l fun x hx => h x (List.mem_cons_of_mem _ hx)
    obtain ⟨s1, k, s2, s3⟩ := sep_lex c hc (catW c l)
    have hq := lex_quote w (c ++ catW c l) (h w List.mem_cons_self) s1
    have he : catW c (w :: l) = quoteS w ++ (c ++ catW c l) := by unfold catW; rw [List.flatMap_cons, List.append_assoc]
    refine ⟨(1, (quoteS w ++ (c ++ catW c l)).length, w, 0) :: (k ++ out), by rw [he, hq, s3, h1]; rfl, ?_⟩
    have hk : k.filter isName = [] := by
      rw [List.filter_eq_nil_iff]
      intro x hx
      have := s2 x hx
      simpa [isName] using this
    rw [List.filter_cons, if_pos (by rfl), List.filter_append, hk, List.nil_append, List.map_cons, h2]

theorem cat_len (c : Bs) (hc : c.length ≤ 6) : ∀ l : List Bs, (∀ w ∈ l, w.length ≤ 40) → (catW c l).length ≤ 168 * l.length
  | [], _ => by simp [catW]
  | w :: l, h => by
    have ih := cat_len c hc l fun x hx => h x (List.mem_cons_of_mem _ hx)
    have := quote_len w
    have := h w List.mem_cons_self
    unfold catW at ih ⊢
    rw [List.flatMap_cons, List.length_append, List.length_append]
    simp only [List.length_cons]; omega

theorem law_names (N : Nat) (l : List Bs) (sign : Int) (hs0 : 0 ≤ sign) (hs1 : sign < 256) (hN : 10000 < N) : F8 N l sign = some true := by
  unfold F8 V8
  simp only [ev_br, ev_leaf, ev_c1, F_lawake N (by omega), obind_some, decide_eq_true_eq]
  by_cases hL : (20 : Int) < l.length
  · rw [if_pos hL]
  rw [if_neg hL]
  have hm : sign.tmod 7 = sign % 7 := Int.tmod_eq_emod_of_nonneg hs0
  have hin : inR (sign.tmod 7) sepsS.length := by rw [hm]; exact ⟨by omega, by show _ < (7 : Int); omega⟩
  have hin' : inR (sign.tmod 7) ([([32] : Bs), ([123] : Bs), ([125] : Bs), ([59] : Bs), ([10] : Bs), ([35, 120, 10] : Bs), ([32, 47, 42, 32, 42, 47] : Bs)] : (List Bs)).length := hin
  rw [ev_ck (show (7 : Int) ≠ 0 by decide), ev_ck hin', ev_ck hin', ev_f1]
  obtain ⟨c, hc⟩ : ∃ c : Bs, atI tS sepsS (sign.tmod 7) = c := ⟨_, rfl⟩
  have hcm : c ∈ sepsS := by
    rw [← hc]
    show sepsS.getD (sign.tmod 7).toNat [] ∈ sepsS
    have : (sign.tmod 7).toNat < sepsS.length := by have := hin.2; have := hin.1; omega
    rw [List.getD_eq_getElem?_getD, List.getElem?_eq_getElem this]
    exact List.getElem_mem this
  have hcl : c.length ≤ 6 := by
    have : ∀ x ∈ sepsS, x.length ≤ 6 := by decide
    exact this c hcm
  have hc' : atI tS ([([32] : Bs), ([123] : Bs), ([125] : Bs), ([59] : Bs), ([10] : Bs), ([35, 120, 10] : Bs), ([32, 47, 42, 32, 42, 47] : Bs)] : (List Bs)) (sign.tmod 7) = c := hc
  rw [hc']
  -- the text, word by word
  obtain ⟨o, ho, hp⟩ := runLoop_post (R := Bool) (step := fun x => L8_6 N x.1 x.2.1 x.2.2.1 x.2.2.2.1 x.2.2.2.2.1 x.2.2.2.2.2)
    (fun x => x.1 = l ∧ x.2.1 = c ∧ x.2.2.2.1 = l ∧ x.2.2.2.2.1 = (l.length : Int) ∧ ∃ i : Nat, x.2.2.2.2.2 = (i : Int) ∧ i ≤ l.length ∧ x.2.2.1 = catW c (l.take i) ∧ ∀ w ∈ l.take i, w.length ≤ 40) (fun x => (l.length - x.2.2.2.2.2).toNat)
    (fun o => o = .ret true ∨ ((∀ w ∈ l, w.length ≤ 40) ∧ ∃ i : Int, o = .brk 0 (l, c, catW c l, l, (l.length : Int), i)))
    (by
      rintro ⟨l1, c1, u, l2, n, i0⟩ ⟨e1, e2, e3, e4, i, e5, hi, e6, hw⟩
      dsimp only at e1 e2 e3 e4 e5 hi e6 hw ⊢
      subst e1; subst e2; subst e3; subst e4; subst e5; subst e6
      unfold L8_6 U8_6
      by_cases h : i < l2.length
      · have hi' : (i : Int) < (l2.length : Int) := by omega
        have k1 : inR (i : Int) l2.length := ⟨by omega, hi'⟩
        have w1 : IntKind.i64.wrap ((i : Int) + 1) = ((i + 1 : Nat) : Int) := by rw [wrapI (by omega) (by omega)]; omega
        have hat : atI tS l2 (i : Int) = l2[i] := by
          show l2.getD ((i : Int)).toNat [] = _
          simp [h]
        simp only [ev_br, ev_leaf, ev_ck k1, ev_c1, decide_eq_true_eq, if_pos hi', hat, w1, F_lawake N (by omega), obind_some]
        by_cases h40 : (40 : Int) < (l2[i].length : Int)
        · rw [if_pos h40]
          exact ⟨_, rfl, .inr ⟨by simp, .inl rfl⟩⟩
        · rw [if_neg h40, R_quote N l2[i] (by omega) (by omega), obind_some]
          have q := quote_len l2[i]
          have hcl2 := cat_len c1 hcl (l2.take i) hw
          rw [List.length_take] at hcl2
          have r1 : room ((quoteS l2[i]).length + c1.length) := by show _ ≤ _; omega
          have r2 : room ((catW c1 (l2.take i)).length + (quoteS l2[i] ++ c1).length) := by show _ ≤ _; rw [List.length_append]; omega
          rw [ev_ck r1, ev_ck r2]
          refine ⟨_, rfl, .inl ⟨_, rfl, ⟨rfl, rfl, rfl, rfl, i + 1, rfl, by omega, ?_, ?_⟩, by simp only; omega⟩⟩
          · simp only
            rw [List.take_succ_eq_append_getElem h]
            unfold catW
            rw [List.flatMap_append]
            simp
          · rw [List.take_succ_eq_append_getElem h]
            intro w hw'
            rcases List.mem_append.1 hw' with hw' | hw'
            · exact hw w hw'
            · have : w = l2[i] := by simpa using hw'
              subst this; omega
      · have hi' : ¬ (i : Int) < (l2.length : Int) := by omega
        have hil : l2.take i = l2 := List.take_of_length_le (by omega)
        rw [hil] at hw
        refine ⟨_, by simp only [ev_br, ev_leaf, decide_eq_true_eq, if_neg hi']; rfl, .inr ⟨by simp, .inr ⟨hw, (i : Int), ?_⟩⟩⟩
        rw [hil]) N (l, c, [], l, (l.length : Int), 0) ⟨rfl, rfl, rfl, rfl, 0, rfl, by omega, by simp [catW], by simp⟩ (by simp only; omega)
  unfold W8_6
  rw [ho]
  rcases hp with rfl | ⟨hw, i, rfl⟩
  · rfl
  rw [lp1_brk]
  obtain ⟨out, h1, h2⟩ := lex_names c hcm l hw
  have hcl2 := cat_len c hcl l hw
  have hol := lex_len _ out h1
  simp only [ev_c3, ev_br, ev_leaf]
  rw [F_all N (catW c l) (by omega) (by omega), obind_some, all_ok h1]
  dsimp only
  rw [if_neg not_ne0, ev_f1]
  obtain ⟨ts, hts⟩ : ∃ ts : List Tok, out.map (toTok (catW c l).length) = ts := ⟨_, rfl⟩
  have htl : ts.length = out.length := by rw [← hts, List.length_map]
  have h3 : (ts.filter (fun k => k.1 == 1)).map (fun k => k.2.2.1) = l := by
    rw [← h2, ← hts, List.filter_map, List.map_map]
    rfl
  rw [hts]
  obtain ⟨cnt, hcnt⟩ : ∃ cnt : Nat → Nat, cnt = fun i => ((ts.take i).filter (fun k => k.1 == 1)).length := ⟨_, rfl⟩
  have hcs : ∀ i (hi : i < ts.length), cnt (i + 1) = cnt i + if (ts[i].1 == 1) = true then 1 else 0 := fun i hi => by
    rw [hcnt]
    simp only
    rw [List.take_succ_eq_append_getElem hi, List.filter_append, List.length_append]
    congr 1
    rw [List.filter_cons]
    split <;> rfl
  have hcn : cnt ts.length = l.length := by
    rw [hcnt]
    simp only
    rw [List.take_length, ← h3, List.length_map]
  have hword : ∀ i (hi : i < ts.length), (ts[i].1 == 1) = true → cnt i < l.length ∧ l.getD (cnt i) [] = ts[i].2.2.1 := fun i hi hk => by
    have e : ts = ts.take i ++ ts[i] :: ts.drop (i + 1) := by rw [← List.drop_eq_getElem_cons hi, List.take_append_drop]
    have e2 : l = ((ts.take i).filter (fun k => k.1 == 1)).map (fun k => k.2.2.1) ++ ts[i].2.2.1 :: ((ts.drop (i + 1)).filter (fun k => k.1 == 1)).map (fun k => k.2.2.1) := by
      conv => lhs; rw [← h3, e]
      rw [List.filter_append, List.filter_cons, if_pos hk, List.map_append, List.map_cons]
    have e3 : cnt i = (((ts.take i).filter (fun k => k.1 == 1)).map (fun k => k.2.2.1)).length := by rw [hcnt, List.length_map]
    rw [e3, e2]
    constructor
    · simp only [List.length_append, List.length_cons]; omega
    · rw [List.getD_eq_getElem?_getD, List.getElem?_append_right (Nat.le_refl _), Nat.sub_self]; rfl
  have := loop_up (R := Bool) (step := fun x => L8_17 N x.1 x.2.1 x.2.2.1 x.2.2.2.1 x.2.2.2.2) ts.length
    (fun i => (l, (cnt i : Int), ts, (ts.length : Int), (i : Int))) (fun i hi => by
      unfold L8_17 U8_17
      have hi' : (i : Int) < (ts.length : Int) := by omega
      have k1 : inR (i : Int) ts.length := ⟨by omega, hi'⟩
      have w1 : IntKind.i64.wrap ((i : Int) + 1) = ((i + 1 : Nat) : Int) := by rw [wrapI (by omega) (by omega)]; omega
      have hat : atI (.pair tI tLn) ts (i : Int) = ts[i] := by
        show ts.getD ((i : Int)).toNat (0, 0, [], 0) = _
        simp [hi]
      have hc1 := hcs i hi
      simp only [ev_br, ev_leaf, ev_ck k1, decide_eq_true_eq, if_pos hi', hat, w1]
      by_cases hk : (ts[i].1 == 1) = true
      · rw [if_pos hk] at hc1
        obtain ⟨g1, g2⟩ := hword i hi hk
        have g3 : ((cnt i : Int) == (l.length : Int)) = false := by rw [beq_eq_false_iff_ne]; omega
        have k2 : inR (cnt i : Int) l.length := ⟨by omega, by omega⟩
        have w2 : IntKind.i64.wrap ((cnt i : Int) + 1) = ((cnt (i + 1) : Nat) : Int) := by rw [wrapI (by omega) (by omega)]; omega
        have g4 : atI tS l (cnt i : Int) = ts[i].2.2.1 := by
          show l.getD ((cnt i : Int)).toNat [] = _
          rw [Int.toNat_natCast]; exact g2
        have g5 : (ts[i].1 != 1) = false := by rw [bne, hk]; rfl
        simp only [ev_ck k2, ev_br, ev_leaf, g3, g4, g5, w2, beq_self_eq_true, Bool.not_true, Bool.false_eq_true, if_false]
      · rw [if_neg hk] at hc1
        have g5 : (ts[i].1 != 1) = true := by simpa [bne] using hk
        simp only [g5, if_true]
        rw [show cnt (i + 1) = cnt i by omega])
    (by unfold L8_17 U8_17; simp) N (by omega)
  unfold W8_17
  have e0 : cnt 0 = 0 := by rw [hcnt]; simp
  simp only [e0, Int.natCast_zero] at this
  rw [this, lp1_brk]
  dsimp only
  rw [hcn]
  simp only [ev_br, beq_self_eq_true, if_true, ev_c1, F_lawake N (show 100 < N by omega), obind_some, ev_leaf]

end Go.Proofs.Ytojcdimaeiibdaa.Vc
