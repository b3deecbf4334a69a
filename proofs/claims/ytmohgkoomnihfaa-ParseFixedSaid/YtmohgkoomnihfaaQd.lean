/-
  WORDS AS THEY ARE WRITTEN: what both sides' Quote answer. No condition.
-/
import Derived.Test.YtmohgkoomnihfaaLr
set_option linter.unusedVariables false
set_option linter.unusedSimpArgs false
namespace Go.Proofs.Ytmohgkoomnihfaa.Vc

def digS (n : Nat) : UInt8 := if n < 10 then UInt8.ofNat (48 + n) else UInt8.ofNat (87 + n)
def escS (c : UInt8) : Bs := if c = 34 ∨ c = 92 then [92, c] else if c.toNat < 32 ∨ 126 < c.toNat then [92, 120, digS (c.toNat / 16), digS (c.toNat % 16)] else [c]
def escW (w : Bs) : Bs := w.flatMap escS
def quoteS (w : Bs) : Bs := if bareW w = true then w else 34 :: (escW w ++ [34])

theorem loop_up {X R : Type} {step : X → Option (Lp X R)} (n : Nat) (mk : Nat → X) (h1 : ∀ i, i < n → step (mk i) = some (.next (mk (i + 1)))) (h2 : step (mk n) = some (.brk 0 (mk n))) (N : Nat) (hN : n < N) :
    runLoop step N (mk 0) = some (.brk 0 (mk n)) := by
  have key : ∀ (k : Nat) (N : Nat) (i : Nat), i + k = n → k < N → runLoop step N (mk i) = some (.brk 0 (mk n)) := by
    intro k
    induction k with
    | zero =>
      intro N i hi hN
      obtain ⟨N, rfl⟩ : ∃ M, N = M + 1 := ⟨N - 1, by omega⟩
      have : i = n := by omega
      subst this
      unfold runLoop
      rw [h2]
    | succ k ih =>
      intro N i hi hN
      obtain ⟨N, rfl⟩ : ∃ M, N = M + 1 := ⟨N - 1, by omega⟩
      unfold runLoop
      rw [h1 i (by omega)]
      exact ih N (i + 1) (by omega) (by omega)
  exact key n N 0 (by omega) hN

theorem dig_all : ∀ n : Nat, n < 16 → (if ((n : Int) < 10) then some (IntKind.u8.wrap (IntKind.i64.wrap (48 + (n : Int)))) else some (IntKind.u8.wrap (IntKind.i64.wrap ((IntKind.i64.wrap (97 + (n : Int))) - 10)))) = some ((digS n).toNat : Int) := of_decide_eq_true (by kernel_rfl)
theorem R_digit (N n : Nat) (h : n < 16) : F52 N (n : Int) = some ((digS n).toNat : Int) := by
  unfold F52 V52
  simp only [ev_br, ev_leaf, decide_eq_true_eq]
  exact dig_all n h

theorem esc_len (c : UInt8) : 1 ≤ (escS c).length ∧ (escS c).length ≤ 4 := by
  unfold escS
  split
  · simp
  · split <;> simp
theorem escW_len : ∀ w : Bs, (escW w).length ≤ 4 * w.length
  | [] => by simp [escW]
  | c :: w => by
    have ih := escW_len w
    have := esc_len c
    unfold escW at ih ⊢
    rw [List.flatMap_cons, List.length_append]
    simp only [List.length_cons]; omega
theorem quote_len (w : Bs) : (quoteS w).length ≤ 4 * w.length + 2 := by
  have := escW_len w
  unfold quoteS
  split
  · omega
  · simp; omega

theorem bts_cons (c : UInt8) (l : Bs) : bts (c :: l) = (c.toNat : Int) :: bts l := rfl

theorem R_quote (N : Nat) (w : Bs) (hN : w.length < N) (hL : w.length ≤ 100000) : F27 N w = some (quoteS w) := by
  unfold F27 V27
  rw [ev_c1, R_Bare N w hN (by omega), obind_some]
  unfold quoteS
  by_cases hb : bareW w = true
  · simp only [ev_br, ev_leaf, hb, if_true]
  · simp only [ev_br, ev_leaf, hb, if_false, ev_f1, Bool.false_eq_true]
    have hel : ∀ k, (escW (w.take k)).length ≤ 4 * w.length := fun k => by
      have := escW_len (w.take k)
      rw [List.length_take] at this; omega
    have hbl : ∀ x : Bs, (bts x).length = x.length := fun x => by unfold bts; rw [List.length_map]
    have := loop_up (R := Bs) (step := fun x => L27_5 N x.1 x.2.1 x.2.2) w.length (fun i => (w, bts (34 :: escW (w.take i)), (i : Int)))
      (fun i hi => by
        unfold L27_5 U27_5
        have hi' : (i : Int) < (w.length : Int) := by omega
        have c1 : inR (i : Int) w.length := ⟨by omega, hi'⟩
        have w1 : IntKind.i64.wrap ((i : Int) + 1) = ((i + 1 : Nat) : Int) := by rw [wrapI (by omega) (by omega)]; omega
        have hby : byteAt w (i : Int) = ((w[i]).toNat : Int) := by unfold byteAt; simp [hi]
        have hst : escW (w.take (i + 1)) = escW (w.take i) ++ escS w[i] := by
          rw [List.take_succ_eq_append_getElem hi]
          unfold escW
          rw [List.flatMap_append]
          simp
        have rm : ∀ x : List Int, x.length ≤ 4 → room ((bts (34 :: escW (w.take i))).length + x.length) := fun x hx => by
          show _ ≤ _
          have := hel i
          rw [hbl]; simp only [List.length_cons]; omega
        have rm2 : ∀ a b : Int, room ((bts (34 :: escW (w.take i))).length + ([a, b] : List Int).length) := fun a b => rm _ (by simp)
        have rm4 : ∀ a b c d : Int, room ((bts (34 :: escW (w.take i))).length + ([a, b, c, d] : List Int).length) := fun a b c d => rm _ (by simp)
        have rm1 : ∀ a : Int, room ((bts (34 :: escW (w.take i))).length + ([a] : List Int).length) := fun a => rm _ (by simp)
        have fin : ∀ x : List Int, x = bts (escS w[i]) → (some (Lp.next (w, bts (34 :: escW (w.take i)) ++ x, ((i + 1 : Nat) : Int))) : Option (Lp (Bs × List Int × Int) Bs)) = some (Lp.next (w, bts (34 :: escW (w.take (i + 1))), ((i + 1 : Nat) : Int))) := fun x hx => by
          rw [hst, hx, ← bts_app]; rfl
        generalize w[i] = c at hby fin
        have h0 := c.toNat_lt
        have w2 : IntKind.i64.wrap (c.toNat : Int) = (c.toNat : Int) := wrapI (by omega) (by omega)
        have w3 : IntKind.i64.wrap (((c.toNat : Int)).tdiv 16) = ((c.toNat / 16 : Nat) : Int) := by
          rw [Int.tdiv_eq_ediv_of_nonneg (by omega), wrapI (by omega) (by omega)]; omega
        have w4 : ((c.toNat : Int)).tmod 16 = ((c.toNat % 16 : Nat) : Int) := by
          rw [Int.tmod_eq_emod_of_nonneg (by omega)]; omega
        simp only [ev_br, ev_leaf, ev_ck c1, decide_eq_true_eq, if_pos hi', hby, is34, is92, w1, w2, w3, w4, ev_ck (show (16 : Int) ≠ 0 by decide), ev_c1, R_digit N (c.toNat / 16) (by omega), R_digit N (c.toNat % 16) (by omega), obind_some, show ((c.toNat : Int) < 32) ↔ c.toNat < 32 by omega, show ((126 : Int) < (c.toNat : Int)) ↔ 126 < c.toNat by omega]
        unfold escS at fin
        by_cases a1 : c = 34
        · rw [if_pos a1, ev_ck (rm2 _ _)]
          rw [if_pos (.inl a1)] at fin
          exact fin _ rfl
        rw [if_neg a1]
        by_cases a2 : c = 92
        · rw [if_pos a2, ev_ck (rm2 _ _)]
          rw [if_pos (.inr a2)] at fin
          exact fin _ rfl
        rw [if_neg a2]
        rw [if_neg (show ¬(c = 34 ∨ c = 92) from fun h => h.elim a1 a2)] at fin
        by_cases a3 : c.toNat < 32
        · rw [if_pos a3, ev_ck (rm4 _ _ _ _)]
          rw [if_pos (.inl a3)] at fin
          exact fin _ rfl
        rw [if_neg a3]
        by_cases a4 : 126 < c.toNat
        · rw [if_pos a4, ev_ck (rm4 _ _ _ _)]
          rw [if_pos (.inr a4)] at fin
          exact fin _ rfl
        rw [if_neg a4, ev_ck (rm1 _)]
        rw [if_neg (show ¬(c.toNat < 32 ∨ 126 < c.toNat) from fun h => h.elim a3 a4)] at fin
        exact fin _ rfl)
      (by unfold L27_5 U27_5; simp) N (by omega)
    unfold W27_5
    have e0 : (w, bts (34 :: escW (w.take 0)), ((0 : Nat) : Int)) = (w, ([34] : List Int), (0 : Int)) := rfl
    rw [e0] at this
    rw [this, lp1_brk]
    dsimp only
    rw [List.take_length]
    have r1 : room ((bts (34 :: escW w)).length + ([34] : List Int).length) := by
      show _ ≤ _
      have := escW_len w
      rw [hbl]; simp only [List.length_cons, List.length_nil]; omega
    rw [ev_ck r1]
    have : bts (34 :: escW w) ++ ([34] : List Int) = bts (34 :: (escW w ++ [34])) := by rw [bts_cons, bts_cons, bts_app]; rfl
    rw [this, strOf_bts]
    rfl

/-! ### The program's own -/

theorem F_plain (N : Nat) (w : Bs) (hN : w.length < N) (h40 : w.length ≤ 40) : F55 N w = some (bareW w) := by
  unfold F55 V55
  have e : bareW w = (!(w == ([] : Bs)) && (((((w.takeWhile bareB).length : Int) == (w.length : Int))) && !(w == inactW || (w == protW || ([47, 42] : Bs).isPrefixOf w)))) := by
    unfold bareW
    have h1 := tw_all w
    have e0 : w.isEmpty = (w == ([] : Bs)) := by cases w <;> rfl
    have e1 : ((((w.takeWhile bareB).length : Int) == (w.length : Int))) = w.all bareB := by
      rw [Bool.eq_iff_iff, beq_iff_eq, ← h1]; omega
    rw [e0, e1]
    cases w == ([] : Bs) <;> cases w.all bareB <;> cases (w == inactW) <;> cases (w == protW) <;> simp
  have h4 : (w.length : Int) ≤ 40 := by omega
  simp only [ev_br, ev_leaf, ev_c1, h4, decide_true, if_true, F_run N w hN (by omega), F_mark, obind_some]
  rw [e]
  cases w == ([] : Bs) <;> cases ((((w.takeWhile bareB).length : Int) == (w.length : Int))) <;> simp

theorem F_ws (N : Nat) (b : Bool) (l : List Int) (s : Bs) (hl : l.length + s.length ≤ 100000000) (h0 : l ++ bts s ≠ []) : F34b N (b, l) s = some (true, l ++ bts s) := by
  unfold F34b F34g V34g
  have r : room (l.length + s.length) := by show _ ≤ _; omega
  simp only [ev_cr, ev_leaf]
  show (Option.bind (Option.bind (F58g N (true, l)) _) _) = _
  have e : F58g N (true, l) = some (true, l) := rfl
  rw [e]
  simp only [obind_some, ev_ck r, ev_leaf]
  rw [if_neg h0]

theorem bts_one (c : UInt8) : bts [c] = [(c.toNat : Int)] := rfl
theorem strOf_one (l : List Int) (s : Bs) (h : l = bts s) : strOf l = s := by rw [h, strOf_bts]
theorem hex_dig : ∀ n : Nat, n < 16 → byteAt ([48, 49, 50, 51, 52, 53, 54, 55, 56, 57, 97, 98, 99, 100, 101, 102] : Bs) (n : Int) = ((digS n).toNat : Int) := of_decide_eq_true (by kernel_rfl)
theorem shr_all : ∀ n : Nat, n < 256 → ((n : Int).fdiv (2 ^ (min (4 : Int).toNat (IntKind.u8.bits)))) = ((n / 16 : Nat) : Int) ∧ (IntKind.u8.wrap (((BitVec.ofInt IntKind.u8.bits (n : Int) &&& BitVec.ofInt IntKind.u8.bits 15).toNat : Int))) = ((n % 16 : Nat) : Int) := of_decide_eq_true (by kernel_rfl)

theorem F_escape (N : Nat) (c : UInt8) : F57 N (c.toNat : Int) = some (escS c) := by
  unfold F57 V57
  have h0 := c.toNat_lt
  obtain ⟨s1, s2⟩ := shr_all c.toNat h0
  have c0 : (0 : Int) ≤ 4 := by decide
  have c1 : inR ((c.toNat / 16 : Nat) : Int) ([48, 49, 50, 51, 52, 53, 54, 55, 56, 57, 97, 98, 99, 100, 101, 102] : Bs).length := ⟨by omega, by show _ < (16 : Int); omega⟩
  have c2 : inR ((c.toNat % 16 : Nat) : Int) ([48, 49, 50, 51, 52, 53, 54, 55, 56, 57, 97, 98, 99, 100, 101, 102] : Bs).length := ⟨by omega, by show _ < (16 : Int); omega⟩
  have d1 := hex_dig (c.toNat / 16) (by omega)
  have d2 := hex_dig (c.toNat % 16) (by omega)
  have e2 : ∀ a b : UInt8, strOf [(a.toNat : Int), (b.toNat : Int)] = [a, b] := fun a b => strOf_one _ [a, b] rfl
  have r1 : room (([92, 120] : Bs).length + ([digS (c.toNat / 16), digS (c.toNat % 16)] : Bs).length) := by show _ ≤ _; simp
  have e1 : strOf [(c.toNat : Int)] = [c] := strOf_one _ [c] rfl
  have e3 : strOf [92, (c.toNat : Int)] = [92, c] := strOf_one _ [92, c] rfl
  simp only [ev_br, ev_leaf, s1, s2, ev_ck c0, ev_ck c1, ev_ck c2, d1, d2, e2, ev_ck r1, e1, e3, is34, is92, decide_eq_true_eq]
  unfold escS
  by_cases a1 : c = 34
  · simp [a1]
  · by_cases a2 : c = 92
    · simp [a2]
    · have n1 : ¬(c = 34 ∨ c = 92) := fun h => h.elim a1 a2
      rw [if_neg a1, if_neg a2, if_neg n1]
      by_cases a3 : c.toNat < 32
      · have p1 : ¬ (32 : Int) ≤ (c.toNat : Int) := by omega
        have q1 : c.toNat < 32 ∨ 126 < c.toNat := .inl a3
        rw [if_neg p1, if_pos q1]; rfl
      · have p1 : (32 : Int) ≤ (c.toNat : Int) := by omega
        rw [if_pos p1]
        by_cases a4 : 126 < c.toNat
        · have p2 : ¬ (c.toNat : Int) ≤ 126 := by omega
          have q1 : c.toNat < 32 ∨ 126 < c.toNat := .inr a4
          rw [if_neg p2, if_pos q1]; rfl
        · have p2 : (c.toNat : Int) ≤ 126 := by omega
          have q1 : ¬(c.toNat < 32 ∨ 126 < c.toNat) := fun h => h.elim a3 a4
          rw [if_pos p2, if_neg q1]

theorem F_string (N : Nat) (b : Bool) (s : Bs) : F38k N (b, bts s) = some s := by
  unfold F38k
  rw [if_pos (bts_ok s), strOf_bts]

theorem F_quote (N : Nat) (w : Bs) (hN : 1000 < N) : F33 N w = some (if 40 < w.length then ([], 5) else (quoteS w, 0)) := by
  unfold F33 V33
  by_cases h : 40 < w.length
  · have h' : (40 : Int) < (w.length : Int) := by omega
    simp [h, h']
  · have h' : ¬ (40 : Int) < (w.length : Int) := by omega
    have hP := F_plain N w (by omega) (by omega)
    unfold quoteS
    by_cases hb : bareW w = true
    · simp [h, h', hP, hb]
    · have hel : ∀ k, (escW (w.take k)).length ≤ 4 * w.length := fun k => by
        have := escW_len (w.take k)
        rw [List.length_take] at this; omega
      have hbl : ∀ x : Bs, (bts x).length = x.length := fun x => by unfold bts; rw [List.length_map]
      have := loop_up (R := Bs × Int) (step := fun x => L33_8 N x.1 x.2.1 x.2.2.1 x.2.2.2) w.length (fun i => (w, (true, bts (34 :: escW (w.take i))), (w.length : Int), (i : Int)))
        (fun i hi => by
          unfold L33_8 U33_8
          have hi' : (i : Int) < (w.length : Int) := by omega
          have c1 : inR (i : Int) w.length := ⟨by omega, hi'⟩
          have w1 : IntKind.i64.wrap ((i : Int) + 1) = ((i + 1 : Nat) : Int) := by rw [wrapI (by omega) (by omega)]; omega
          have hby : byteAt w (i : Int) = ((w[i]).toNat : Int) := by unfold byteAt; simp [hi]
          have hst : escW (w.take (i + 1)) = escW (w.take i) ++ escS w[i] := by
            rw [List.take_succ_eq_append_getElem hi]
            unfold escW
            rw [List.flatMap_append]
            simp
          have hes := esc_len w[i]
          have hli := hel i
          have hws := F_ws N true (bts (34 :: escW (w.take i))) (escS w[i]) (by rw [hbl]; simp only [List.length_cons]; omega) (by simp [bts])
          simp only [ev_br, ev_leaf, ev_cr, ev_ck c1, decide_eq_true hi', if_true, hby, ev_c1, F_escape, obind_some, hws, w1]
          rw [hst, ← bts_app]
          rfl)
        (by unfold L33_8 U33_8; simp) N (by omega)
      have hW : W33_8 N (w, (true, ([34] : List Int)), (w.length : Int), 0) = some (.brk 0 (w, (true, bts (34 :: escW w)), (w.length : Int), (w.length : Int))) := by
        have e0 : (w, (true, bts (34 :: escW (w.take 0))), (w.length : Int), ((0 : Nat) : Int)) = (w, (true, ([34] : List Int)), (w.length : Int), (0 : Int)) := rfl
        rw [e0] at this
        have e1 : w.take w.length = w := List.take_length
        rw [e1] at this
        exact this
      have hwb := F_wb N true [] 34 (by simp)
      rw [List.nil_append] at hwb
      have hstr := F_string N true (34 :: escW w)
      have hl := hel w.length
      rw [List.take_length] at hl
      have r1 : room ((34 :: escW w).length + ([34] : Bs).length) := by show _ ≤ _; simp; omega
      simp only [ev_br, ev_leaf, ev_c1, ev_cr, ev_f1, decide_eq_false h', hP, obind_some, hb, hwb, hW, lp1_brk, hstr, ev_ck r1, h, if_false, Bool.false_eq_true]
      rfl

end Go.Proofs.Ytmohgkoomnihfaa.Vc
