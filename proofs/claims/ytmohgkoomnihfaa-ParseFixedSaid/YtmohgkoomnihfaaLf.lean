/-
  WHAT THE FUNCTIONS OF PACKAGES word AND lex ANSWER: the tokens of a text. No condition.
-/
import Derived.Test.YtmohgkoomnihfaaLt
import Derived.Test.YtmohgkoomnihfaaFa
set_option linter.unusedVariables false
set_option linter.unusedSimpArgs false
namespace Go.Proofs.Ytmohgkoomnihfaa.Vc

/-! ### Bytes -/

theorem drop_byte (s : Bs) {i : Int} (h0 : 0 ≤ i) (h : i < s.length) : ∃ c, s.drop i.toNat = c :: s.drop (i + 1).toNat ∧ byteAt s i = (c.toNat : Int) := by
  have hi : i.toNat < s.length := by omega
  refine ⟨s[i.toNat], by rw [List.drop_eq_getElem_cons hi, show (i + 1).toNat = i.toNat + 1 by omega], ?_⟩
  unfold byteAt
  simp [hi]
theorem u8_back (b : UInt8) : ((b.toNat : Int)).toNat.toUInt8 = b := by simp
theorem slc_drop (s : Bs) {i : Int} (h0 : 0 ≤ i) (h : i ≤ s.length) : slc s i (s.length : Int) = s.drop i.toNat := by
  unfold slc
  rw [List.take_of_length_le (by rw [List.length_drop]; omega)]
theorem byte0 (c : UInt8) (r : Bs) : byteAt (c :: r) 0 = (c.toNat : Int) := rfl
theorem byte1 (c d : UInt8) (r : Bs) : byteAt (c :: d :: r) 1 = (d.toNat : Int) := rfl
theorem byte2 (c d e : UInt8) (r : Bs) : byteAt (c :: d :: e :: r) 2 = (e.toNat : Int) := rfl
theorem byte3 (c d e f : UInt8) (r : Bs) : byteAt (c :: d :: e :: f :: r) 3 = (f.toNat : Int) := rfl

theorem ib_mem (l : Bs) (c : UInt8) : 0 ≤ Lib.indexByte l c ↔ c ∈ l := by
  induction l with
  | nil => simp [Lib.indexByte]
  | cons b l ih =>
    have := Lib.indexByte_ge l c
    unfold Lib.indexByte
    by_cases hb : b = c
    · simp [hb]
    · rw [if_neg (by simpa using hb), List.mem_cons]
      by_cases hm : Lib.indexByte l c = -1
      · rw [if_pos (by simpa using hm)]
        have h2 : ¬ c ∈ l := fun hh => by have := ih.2 hh; omega
        simp [h2, Ne.symm hb]
      · rw [if_neg (by simpa using hm)]
        have h2 : c ∈ l := ih.1 (by omega)
        simp [h2]; omega

theorem F_ib (N : Nat) (s : Bs) (c : UInt8) : F79 N s (c.toNat : Int) = some (Lib.indexByte s c) := by
  unfold F79; rw [u8_back]

theorem b_eq (c : UInt8) (k : Nat) (hk : k < 256) : (((c.toNat : Int) == (k : Int)) = true) ↔ c = UInt8.ofNat k := by
  rw [u8_eq, UInt8.toNat_ofNat', beq_iff_eq]
  omega

theorem F_bare (N : Nat) (c : UInt8) : F94 N (c.toNat : Int) = some (bareB c) := by
  unfold F94 V94
  simp only [ev_br, ev_leaf, ev_c1, F_ib, obind_some, decide_eq_true_eq]
  have hm := ib_mem [45, 95, 46, 47, 58, 42] c
  have hq : decide ((0 : Int) ≤ Lib.indexByte [45, 95, 46, 47, 58, 42] c) = (c == 45 || c == 95 || c == 46 || c == 47 || c == 58 || c == 42) := by
    rw [Bool.eq_iff_iff, decide_eq_true_eq, hm]; simp [or_assoc]
  rw [hq]
  unfold bareB
  generalize (c == 45 || c == 95 || c == 46 || c == 47 || c == 58 || c == 42) = q
  generalize c.toNat = n
  simp only [show ∀ k : Nat, ((k : Int) ≤ (n : Int)) ↔ k ≤ n from fun k => by omega, show ((97 : Int) ≤ (n : Int)) ↔ 97 ≤ n from by omega, show ((65 : Int) ≤ (n : Int)) ↔ 65 ≤ n from by omega, show ((48 : Int) ≤ (n : Int)) ↔ 48 ≤ n from by omega,
    show ((n : Int) ≤ (122 : Int)) ↔ n ≤ 122 from by omega, show ((n : Int) ≤ (90 : Int)) ↔ n ≤ 90 from by omega, show ((n : Int) ≤ (57 : Int)) ↔ n ≤ 57 from by omega]
  by_cases a1 : 97 ≤ n <;> by_cases a2 : n ≤ 122 <;> by_cases a3 : 65 ≤ n <;> by_cases a4 : n ≤ 90 <;> by_cases a5 : 48 ≤ n <;> by_cases a6 : n ≤ 57 <;> simp [a1, a2, a3, a4, a5, a6]

theorem F_run (N : Nat) (t : Bs) (hN : t.length < N) (hL : t.length ≤ 1000000) : F72 N t = some ((t.takeWhile bareB).length : Int) := by
  unfold F72 V72
  simp only [ev_f1, ev_leaf]
  obtain ⟨o, ho, hp⟩ := runLoop_post (R := Int) (step := fun x => L72_2 N x.1 x.2)
    (fun x => x.1 = t ∧ 0 ≤ x.2 ∧ x.2 ≤ t.length ∧ x.2 + ((t.drop x.2.toNat).takeWhile bareB).length = (t.takeWhile bareB).length) (fun x => (t.length - x.2).toNat)
    (fun o => o = .brk 0 (t, ((t.takeWhile bareB).length : Int)))
    (by
      rintro ⟨t', i⟩ ⟨e1, h0, hi, hu⟩
      dsimp only at e1 h0 hi hu ⊢
      subst e1
      unfold L72_2 U72_2
      by_cases h : i < t'.length
      · have c1 : inR i t'.length := ⟨h0, h⟩
        obtain ⟨c, hd, hb⟩ := drop_byte t' h0 h
        simp (disch := first | assumption | omega) only [ev_br, ev_leaf, ev_ck, ev_c1, decide_eq_true_eq, h, if_true, hb, F_bare, obind_some, wrapI]
        rw [hd, List.takeWhile_cons] at hu
        by_cases hc : bareB c = true
        · rw [if_pos hc] at hu ⊢
          refine ⟨_, rfl, .inl ⟨_, rfl, ⟨rfl, by simp only; omega, by simp only; omega, ?_⟩, by simp only; omega⟩⟩
          simp only [List.length_cons] at hu ⊢
          omega
        · rw [if_neg hc] at hu ⊢
          refine ⟨_, rfl, .inr ⟨by simp, ?_⟩⟩
          simp only [List.length_nil] at hu
          rw [← hu]; simp
      · refine ⟨.brk 0 (t', i), by simp [h], .inr ⟨by simp, ?_⟩⟩
        rw [List.drop_of_length_le (by omega)] at hu
        simp only [List.takeWhile_nil, List.length_nil] at hu
        rw [← hu]; simp) N (t, 0) ⟨rfl, by simp, by simp, by simp⟩ (by simpa using hN)
  unfold W72_2
  rw [ho, hp]; rfl

/-! ### Where a word ends -/

theorem quo_cons (c : UInt8) (r : Bs) : quoS false (c :: r) = if c = 92 then (quoS false (r.drop 1)).map (· + 2) else if c = 34 then some 1 else (quoS false r).map (· + 1) := by
  simp only [quoS]
  by_cases hc : c = 92
  · rw [if_pos hc, if_pos hc]
    cases r with
    | nil => rfl
    | cons d r => simp only [quoS, List.drop_one, List.tail_cons, Option.map_map]; rfl
  · rw [if_neg hc, if_neg hc]

theorem F_scan (N : Nat) (s : Bs) (at_ : Int) (h0 : 0 ≤ at_) (h1 : at_ < s.length) (hN : s.length < N) (hL : s.length ≤ 1000000) :
    F62 N s at_ = some (match scanL (s.drop at_.toNat) with | none => (0, false) | some k => (at_ + k, true)) := by
  unfold F62 V62
  have c1 : inR at_ s.length := ⟨h0, h1⟩
  obtain ⟨c, hd, hb⟩ := drop_byte s h0 h1
  simp (disch := first | assumption | omega) only [ev_br, ev_leaf, ev_ck, ev_c1, decide_eq_true_eq, hb]
  rw [if_neg (by omega), if_neg (by omega), hd]
  unfold scanL
  dsimp only
  by_cases hc : c = 34
  · have hq : ((c.toNat : Int) != 34) = false := by rw [hc]; rfl
    rw [if_pos hc, hq]
    simp only [Bool.false_eq_true, if_false, ev_f1, ev_leaf]
    rw [wrapI (by omega) (by omega)]
    obtain ⟨o, ho, hp⟩ := runLoop_post (R := Int × Bool) (step := fun x => L62_9 N x.1 x.2)
      (fun x => x.1 = s ∧ at_ + 1 ≤ x.2 ∧ x.2 ≤ s.length + 1 ∧ (quoS false (s.drop x.2.toNat)).map (fun k : Nat => x.2 + (k : Int)) = (quoS false (s.drop (at_ + 1).toNat)).map (fun k : Nat => at_ + 1 + (k : Int))) (fun x => (s.length + 1 - x.2).toNat)
      (fun o => (∃ k, quoS false (s.drop (at_ + 1).toNat) = some k ∧ o = .ret (at_ + 1 + k, true)) ∨ (quoS false (s.drop (at_ + 1).toNat) = none ∧ ∃ x, o = .brk 0 x))
      (by
        rintro ⟨t', i⟩ ⟨e1, hi0, hi, hu⟩
        dsimp only at e1 hi0 hi hu ⊢
        subst e1
        unfold L62_9 U62_9
        by_cases h : i < t'.length
        · have c1 : inR i t'.length := ⟨by omega, h⟩
          obtain ⟨c, hd, hb⟩ := drop_byte t' (by omega) h
          simp (disch := first | assumption | omega) only [ev_br, ev_leaf, ev_ck, ev_c1, decide_eq_true_eq, h, if_true, hb, obind_some, wrapI]
          rw [hd, quo_cons] at hu
          by_cases hc : c = 92
          · rw [if_pos hc] at hu
            have hq : ((c.toNat : Int) == 92) = true := by rw [hc]; rfl
            rw [hq]
            refine ⟨_, rfl, .inl ⟨_, rfl, ⟨rfl, by simp only; omega, by simp only; omega, ?_⟩, by simp only; omega⟩⟩
            simp only
            rw [← hu, List.drop_drop, show (i + 1).toNat + 1 = (i + 1 + 1).toNat by omega, Option.map_map]
            congr 1
            funext k
            simp only [Function.comp]; omega
          · rw [if_neg hc] at hu
            have hq : ((c.toNat : Int) == 92) = false := by
              have := b_eq c 92 (by decide)
              rw [← Bool.not_eq_true]; intro hh; exact hc (this.1 hh)
            rw [hq]
            simp only [Bool.false_eq_true, if_false]
            by_cases hc2 : c = 34
            · rw [if_pos hc2] at hu
              have hq : ((c.toNat : Int) == 34) = true := by rw [hc2]; rfl
              rw [hq]
              refine ⟨_, rfl, .inr ⟨by simp, .inl ?_⟩⟩
              cases hk : quoS false (t'.drop (at_ + 1).toNat) with
              | none => rw [hk] at hu; cases hu
              | some k =>
                rw [hk] at hu
                refine ⟨k, rfl, ?_⟩
                have : i + 1 = at_ + 1 + k := by simpa using hu
                rw [this]
            · rw [if_neg hc2] at hu
              have hq : ((c.toNat : Int) == 34) = false := by
                have := b_eq c 34 (by decide)
                rw [← Bool.not_eq_true]; intro hh; exact hc2 (this.1 hh)
              rw [hq]
              refine ⟨_, rfl, .inl ⟨_, rfl, ⟨rfl, by simp only; omega, by simp only; omega, ?_⟩, by simp only; omega⟩⟩
              simp only
              rw [← hu, Option.map_map]
              congr 1
              funext k
              simp only [Function.comp]; omega
        · refine ⟨.brk 0 (t', i), by simp [h], .inr ⟨by simp, .inr ⟨?_, _, rfl⟩⟩⟩
          rw [List.drop_of_length_le (by omega)] at hu
          cases hk : quoS false (t'.drop (at_ + 1).toNat) with
          | none => rfl
          | some k => rw [hk] at hu; simp [quoS] at hu) N (s, at_ + 1) ⟨rfl, by simp, by simp only; omega, rfl⟩ (by simp only; omega)
    unfold W62_9
    rw [ho]
    rcases hp with ⟨k, hk, rfl⟩ | ⟨hk, x, rfl⟩
    · rw [hk]
      simp only [lp1_ret, Option.map_some, id]
      congr 2
      omega
    · rw [hk]; rfl
  · have hq : ((c.toNat : Int) != 34) = true := by
      have := b_eq c 34 (by decide)
      rw [bne_iff_ne]; intro hh; exact hc (this.1 (by simpa using hh))
    rw [if_neg hc, hq]
    simp only [if_true]
    rw [slc_drop s h0 (by omega), F_run N _ (by rw [List.length_drop]; omega) (by rw [List.length_drop]; omega), obind_some, hd]
    have hl := tw_le bareB (s.drop at_.toNat)
    rw [hd, List.length_cons, List.length_drop] at hl
    by_cases hz : ((c :: s.drop (at_ + 1).toNat).takeWhile bareB).length = 0
    · rw [if_pos hz, hz]; rfl
    · rw [if_neg hz, if_neg (by simpa using hz), wrapI (by omega) (by omega)]

/-! ### What is left off -/

theorem ib_cons (b c : UInt8) (l : Bs) : Lib.indexByte (b :: l) c = if b = c then 0 else if Lib.indexByte l c < 0 then -1 else Lib.indexByte l c + 1 := by
  have hg := Lib.indexByte_ge l c
  rw [Lib.indexByte]
  by_cases hb : b = c
  · rw [if_pos hb, if_pos (by simpa using hb)]
  · rw [if_neg hb, if_neg (by simpa using hb)]
    by_cases hm : Lib.indexByte l c = -1
    · rw [if_pos (by rw [hm]; rfl), if_pos (by omega)]
    · rw [if_neg (by rw [beq_iff_eq]; exact hm), if_neg (by omega)]
theorem pre1 (a c : UInt8) (r : Bs) : ([a] : Bs).isPrefixOf (c :: r) = true ↔ c = a := by
  simp only [List.isPrefixOf, Bool.and_true, beq_iff_eq]; exact eq_comm
theorem pre2 (a b c : UInt8) (r : Bs) : ([a, b] : Bs).isPrefixOf (c :: r) = true ↔ c = a ∧ r.head? = some b := by
  cases r with
  | nil => simp [List.isPrefixOf]
  | cons d r =>
    simp only [List.isPrefixOf, Bool.and_true, Bool.and_eq_true, beq_iff_eq, List.head?_cons, Option.some.injEq]
    exact ⟨fun h => ⟨h.1.symm, h.2.symm⟩, fun h => ⟨h.1.symm, h.2.symm⟩⟩
theorem ix_cons (b : UInt8) (l : Bs) : Lib.index (b :: l) [42, 47] = if b = 42 ∧ l.head? = some 47 then 0 else if Lib.index l [42, 47] < 0 then -1 else Lib.index l [42, 47] + 1 := by
  have hg := Lib.index_ge l [42, 47]
  rw [Lib.index]
  by_cases hb : b = 42 ∧ l.head? = some 47
  · rw [if_pos hb, if_pos ((pre2 _ _ _ _).2 hb)]
  · rw [if_neg hb, if_neg (fun h => hb ((pre2 _ _ _ _).1 h))]
    by_cases hm : Lib.index l [42, 47] = -1
    · rw [if_pos (by rw [hm]; rfl), if_pos (by omega)]
    · rw [if_neg (by rw [beq_iff_eq]; exact hm), if_neg (by omega)]

theorem skip_line : ∀ (r : Bs), skipS .l r = if Lib.indexByte r 10 < 0 then (true, []) else skipS .n (r.drop (Lib.indexByte r 10).toNat)
  | [] => rfl
  | c :: r => by
    have ih := skip_line r
    have hg := Lib.indexByte_ge r 10
    simp only [skipS]
    rw [ib_cons]
    by_cases hc : c = 10
    · subst hc; simp [skipS, blankB]
    · rw [if_neg hc, if_neg hc, ih]
      by_cases hm : Lib.indexByte r 10 < 0
      · rw [if_pos hm, if_pos hm]; rfl
      · rw [if_neg hm, if_neg hm, if_neg (by omega), show (Lib.indexByte r 10 + 1).toNat = (Lib.indexByte r 10).toNat + 1 by omega, List.drop_succ_cons]

theorem skip_block (s : Bs) : ∀ (r : Bs), skipS (.b s) r = if Lib.index r [42, 47] < 0 then (false, s) else skipS .n (r.drop ((Lib.index r [42, 47]).toNat + 2))
  | [] => rfl
  | c :: r => by
    have ih := skip_block s r
    have hg := Lib.index_ge r [42, 47]
    simp only [skipS]
    rw [ix_cons]
    by_cases hc : c = 42 ∧ r.head? = some 47
    · rw [if_pos hc, if_pos hc, if_neg (by decide)]
      obtain ⟨d, r', rfl⟩ : ∃ d r', r = d :: r' := by
        cases r with
        | nil => exact absurd hc.2 (by simp)
        | cons d r' => exact ⟨d, r', rfl⟩
      simp [skipS]
    · rw [if_neg hc, if_neg hc, ih]
      by_cases hm : Lib.index r [42, 47] < 0
      · rw [if_pos hm, if_pos hm]; rfl
      · rw [if_neg hm, if_neg hm, if_neg (by omega), show (Lib.index r [42, 47] + 1).toNat + 2 = ((Lib.index r [42, 47]).toNat + 2) + 1 by omega, List.drop_succ_cons]

theorem ib_lt : ∀ (r : Bs) (c : UInt8), Lib.indexByte r c < r.length
  | [], _ => by simp [Lib.indexByte]
  | b :: r, c => by
    have := ib_lt r c
    rw [ib_cons, List.length_cons]
    split
    · omega
    · split <;> omega
theorem ix_lt : ∀ (r : Bs), Lib.index r [42, 47] + 1 < r.length ∨ Lib.index r [42, 47] = -1
  | [] => by simp [Lib.index]
  | b :: r => by
    have := ix_lt r
    rw [ix_cons, List.length_cons]
    split
    · rename_i h
      cases r with
      | nil => exact absurd h.2 (by simp)
      | cons d r => left; rw [List.length_cons]; omega
    · split
      · right; rfl
      · omega

/-- Behind the comment that is here: -1, if it does not end; 0, if there is none. -/
def cmtS (t : Bs) : Int :=
  if ([35] : Bs).isPrefixOf t then (if Lib.indexByte t 10 < 0 then (t.length : Int) else Lib.indexByte t 10)
  else if ([47, 42] : Bs).isPrefixOf t then (if Lib.index (t.drop 2) [42, 47] < 0 then -1 else Lib.index (t.drop 2) [42, 47] + 4) else 0

theorem F_comment (N : Nat) (s : Bs) (at_ : Int) (h0 : 0 ≤ at_) (h1 : at_ ≤ s.length) (hL : s.length ≤ 1000000) :
    F60 N s at_ = some (if cmtS (s.drop at_.toNat) < 0 then -1 else at_ + cmtS (s.drop at_.toNat)) := by
  unfold F60 V60
  have hl : (s.drop at_.toNat).length = s.length - at_.toNat := List.length_drop
  have hsd := slc_drop s h0 h1
  generalize s.drop at_.toNat = t at hl hsd
  have q1 : F76 N t [35] = some (([35] : Bs).isPrefixOf t) := rfl
  have q2 : F76 N t [47, 42] = some (([47, 42] : Bs).isPrefixOf t) := rfl
  have q3 : F79 N t 10 = some (Lib.indexByte t 10) := F_ib N t 10
  rw [ev_ck (by omega)]
  simp only [ev_br, ev_leaf, ev_c1, hsd, q1, q2, q3, obind_some, decide_eq_true_eq]
  unfold cmtS
  have hlt := ib_lt t 10
  by_cases h2 : ([35] : Bs).isPrefixOf t = true
  · simp only [h2, if_true]
    by_cases h3 : Lib.indexByte t 10 < 0
    · simp only [h3, if_true]
      rw [if_neg (by omega)]
      congr 1; omega
    · simp only [h3, if_false]
      rw [wrapI (by omega) (by omega)]
  · simp only [h2, if_false, Bool.false_eq_true]
    by_cases h4 : ([47, 42] : Bs).isPrefixOf t = true
    · simp only [h4, if_true]
      have h5 : 2 ≤ t.length := (List.isPrefixOf_iff_prefix.1 h4).length_le
      rw [ev_ck (by omega)]
      have hx := ix_lt (t.drop 2)
      rw [List.length_drop] at hx
      have q4 : F80 N (t.drop 2) [42, 47] = some (Lib.index (t.drop 2) [42, 47]) := by
        unfold F80
        rw [if_pos (by rw [List.length_drop]; omega)]
      simp only [ev_br, ev_leaf, ev_c1, slc_drop t (show (0 : Int) ≤ 2 by omega) (show (2 : Int) ≤ t.length by omega), show (2 : Int).toNat = 2 from rfl, q4, obind_some, decide_eq_true_eq]
      by_cases h6 : Lib.index (t.drop 2) [42, 47] < 0
      · simp only [h6, if_true]; rfl
      · simp only [h6, if_false]
        rw [wrapI (n := at_ + _) (by omega) (by omega), wrapI (by omega) (by omega), if_neg (by omega)]
        congr 1; omega
    · simp [h4]

/-- What a comment's end is for what is left. -/
theorem skip_cmt (c : UInt8) (r : Bs) (hb : blankB c = false) : (cmtS (c :: r) < 0 → skipS .n (c :: r) = (false, c :: r)) ∧ (cmtS (c :: r) = 0 → skipS .n (c :: r) = (true, c :: r)) ∧
    (0 < cmtS (c :: r) → cmtS (c :: r) ≤ (c :: r).length ∧ skipS .n (c :: r) = skipS .n ((c :: r).drop (cmtS (c :: r)).toNat)) := by
  unfold cmtS
  have e1 : ([35] : Bs).isPrefixOf (c :: r) = true ↔ c = 35 := pre1 _ _ _
  simp only [skipS, hb, Bool.false_eq_true, if_false]
  by_cases h1 : c = 35
  · rw [if_pos (e1.2 h1), if_pos h1, skip_line r]
    have e2 : Lib.indexByte (c :: r) 10 = if Lib.indexByte r 10 < 0 then -1 else Lib.indexByte r 10 + 1 := by
      rw [ib_cons, if_neg (by rw [h1]; decide)]
    rw [e2]
    by_cases h3 : Lib.indexByte r 10 < 0
    · rw [if_pos h3, if_pos h3, if_pos (by decide)]
      refine ⟨fun h => by omega, fun h => by simp at h; omega, fun _ => ⟨Int.le_refl _, ?_⟩⟩
      rw [List.drop_of_length_le (by simp)]; rfl
    · rw [if_neg h3, if_neg h3, if_neg (by omega)]
      have := ib_lt r 10
      refine ⟨fun h => by omega, fun h => by omega, fun _ => ⟨by simp; omega, ?_⟩⟩
      rw [show (Lib.indexByte r 10 + 1).toNat = (Lib.indexByte r 10).toNat + 1 by omega, List.drop_succ_cons]
  · rw [if_neg (fun h => h1 (e1.1 h)), if_neg h1]
    by_cases h2 : c = 47 ∧ r.head? = some 42
    · rw [if_pos ((pre2 _ _ _ _).2 h2), if_pos h2]
      obtain ⟨d, r', rfl⟩ : ∃ d r', r = d :: r' := by
        cases r with
        | nil => exact absurd h2.2 (by simp)
        | cons d r' => exact ⟨d, r', rfl⟩
      simp only [skipS, skip_block, List.drop_succ_cons, List.drop_zero]
      have hx := ix_lt r'
      by_cases h3 : Lib.index r' [42, 47] < 0
      · rw [if_pos h3, if_pos h3]
        exact ⟨fun _ => rfl, fun h => by omega, fun h => by omega⟩
      · rw [if_neg h3, if_neg h3]
        refine ⟨fun h => by omega, fun h => by omega, fun _ => ⟨by simp; omega, ?_⟩⟩
        rw [show (Lib.index r' [42, 47] + 4).toNat = ((Lib.index r' [42, 47]).toNat + 2) + 1 + 1 by omega, List.drop_succ_cons, List.drop_succ_cons]
    · rw [if_neg (fun h => h2 ((pre2 _ _ _ _).1 h)), if_neg h2]
      exact ⟨fun h => by omega, fun _ => rfl, fun h => by omega⟩

theorem byte_is (c : UInt8) (k : Nat) (hk : k < 256) : ((c.toNat : Int) == (k : Int)) = decide (c = UInt8.ofNat k) := by
  rw [Bool.eq_iff_iff, b_eq c k hk, decide_eq_true_eq]
theorem is32 (c : UInt8) : ((c.toNat : Int) == 32) = decide (c = 32) := byte_is c 32 (by decide)
theorem is9 (c : UInt8) : ((c.toNat : Int) == 9) = decide (c = 9) := byte_is c 9 (by decide)
theorem is10 (c : UInt8) : ((c.toNat : Int) == 10) = decide (c = 10) := byte_is c 10 (by decide)
theorem is13 (c : UInt8) : ((c.toNat : Int) == 13) = decide (c = 13) := byte_is c 13 (by decide)
theorem is34 (c : UInt8) : ((c.toNat : Int) == 34) = decide (c = 34) := byte_is c 34 (by decide)
theorem is35 (c : UInt8) : ((c.toNat : Int) == 35) = decide (c = 35) := byte_is c 35 (by decide)
theorem is42 (c : UInt8) : ((c.toNat : Int) == 42) = decide (c = 42) := byte_is c 42 (by decide)
theorem is47 (c : UInt8) : ((c.toNat : Int) == 47) = decide (c = 47) := byte_is c 47 (by decide)
theorem is59 (c : UInt8) : ((c.toNat : Int) == 59) = decide (c = 59) := byte_is c 59 (by decide)
theorem is92 (c : UInt8) : ((c.toNat : Int) == 92) = decide (c = 92) := byte_is c 92 (by decide)
theorem is120 (c : UInt8) : ((c.toNat : Int) == 120) = decide (c = 120) := byte_is c 120 (by decide)
theorem is123 (c : UInt8) : ((c.toNat : Int) == 123) = decide (c = 123) := byte_is c 123 (by decide)
theorem is125 (c : UInt8) : ((c.toNat : Int) == 125) = decide (c = 125) := byte_is c 125 (by decide)
theorem isnt (c : UInt8) (k : Int) : ((c.toNat : Int) != k) = !((c.toNat : Int) == k) := rfl

theorem F_blanks (N : Nat) (s : Bs) (at_ : Int) (h0 : 0 ≤ at_) (h1 : at_ ≤ s.length) (hN : s.length < N) (hL : s.length ≤ 1000000) :
    F40 N s at_ = some ((s.length : Int) - ((skipS .n (s.drop at_.toNat)).2.length : Int), (skipS .n (s.drop at_.toNat)).1) := by
  unfold F40 V40
  simp only [ev_f1, ev_leaf]
  obtain ⟨p, hp0⟩ : ∃ p, skipS .n (s.drop at_.toNat) = p := ⟨_, rfl⟩
  rw [hp0]
  obtain ⟨o, ho, hp⟩ := runLoop_post (R := Int × Bool) (step := fun x => L40_1 N x.1 x.2)
    (fun x => x.1 = s ∧ 0 ≤ x.2 ∧ x.2 ≤ s.length ∧ skipS .n (s.drop x.2.toNat) = p) (fun x => (s.length - x.2).toNat)
    (fun o => (p.1 = true ∧ o = .brk 0 (s, (s.length : Int) - (p.2.length : Int))) ∨ (p.1 = false ∧ o = .ret ((s.length : Int) - (p.2.length : Int), false)))
    (by
      rintro ⟨t', i⟩ ⟨e1, hi0, hi, hu⟩
      dsimp only at e1 hi0 hi hu ⊢
      subst e1
      unfold L40_1 U40_1
      by_cases h : i < t'.length
      · have c1 : inR i t'.length := ⟨hi0, h⟩
        obtain ⟨c, hd, hb⟩ := drop_byte t' hi0 h
        simp (disch := first | assumption | omega) only [ev_br, ev_leaf, ev_ck, ev_c1, decide_eq_true_eq, h, if_true, hb, is32, is9, is10, is13, F_comment N t' i hi0 hi hL, obind_some]
        rw [hd] at hu ⊢
        by_cases hbl : blankB c = true
        · have hnx : skipS .n (t'.drop (i + 1).toNat) = p := by rw [← hu]; simp only [skipS, hbl, if_true]
          have good : ∃ o, (some (Lp.next (t', IntKind.i64.wrap (i + 1))) : Option (Lp (Bs × Int) (Int × Bool))) = some o ∧
              ((∃ y, o = .next y ∧ (y.1 = t' ∧ 0 ≤ y.2 ∧ y.2 ≤ t'.length ∧ skipS .n (t'.drop y.2.toNat) = p) ∧ (t'.length - y.2).toNat < (t'.length - i).toNat) ∨ ((∀ y, o ≠ .next y) ∧
                ((p.1 = true ∧ o = .brk 0 (t', (t'.length : Int) - (p.2.length : Int))) ∨ (p.1 = false ∧ o = .ret ((t'.length : Int) - (p.2.length : Int), false))))) := by
            refine ⟨_, rfl, .inl ⟨_, rfl, ?_⟩⟩
            rw [wrapI (by omega) (by omega)]
            exact ⟨⟨rfl, by simp only; omega, by simp only; omega, hnx⟩, by simp only; omega⟩
          simp only [blankB, Bool.or_eq_true, beq_iff_eq] at hbl
          by_cases b1 : c = 32
          · rw [if_pos b1]; exact good
          rw [if_neg b1]
          by_cases b2 : c = 9
          · rw [if_pos b2]; exact good
          rw [if_neg b2]
          by_cases b3 : c = 10
          · rw [if_pos b3]; exact good
          rw [if_neg b3]
          by_cases b4 : c = 13
          · rw [if_pos b4]; exact good
          exact absurd hbl (by simp [b1, b2, b3, b4])
        · have hbl' : blankB c = false := by simpa using hbl
          have hnb : c ≠ 32 ∧ c ≠ 9 ∧ c ≠ 10 ∧ c ≠ 13 := by
            simp only [blankB, Bool.or_eq_true, beq_iff_eq] at hbl
            exact ⟨fun e => hbl (by simp [e]), fun e => hbl (by simp [e]), fun e => hbl (by simp [e]), fun e => hbl (by simp [e])⟩
          rw [if_neg hnb.1, if_neg hnb.2.1, if_neg hnb.2.2.1, if_neg hnb.2.2.2]
          obtain ⟨k1, k2, k3⟩ := skip_cmt c (t'.drop (i + 1).toNat) hbl'
          have hlen : (c :: t'.drop (i + 1).toNat).length = t'.length - i.toNat := by rw [← hd, List.length_drop]
          rw [hu] at k1 k2 k3
          generalize cmtS (c :: t'.drop (i + 1).toNat) = k at *
          rcases Int.lt_trichotomy k 0 with hk | hk | hk
          · simp only [if_pos hk]
            rw [if_pos (by omega)]
            have := k1 hk
            refine ⟨_, rfl, .inr ⟨by simp, .inr ⟨by rw [this], ?_⟩⟩⟩
            rw [this]
            dsimp only
            rw [hlen, show (t'.length : Int) - ((t'.length - i.toNat : Nat) : Int) = i by omega]
          · subst hk
            simp only [Int.lt_irrefl, if_false, Int.add_zero, beq_self_eq_true, if_true]
            rw [if_neg (by omega)]
            have := k2 rfl
            refine ⟨_, rfl, .inr ⟨by simp, .inl ⟨by rw [this], ?_⟩⟩⟩
            rw [this]
            dsimp only
            rw [hlen, show (t'.length : Int) - ((t'.length - i.toNat : Nat) : Int) = i by omega]
          · obtain ⟨k4, k5⟩ := k3 hk
            simp only [if_neg (show ¬ k < 0 by omega)]
            rw [if_neg (by omega), if_neg (by simp; omega)]
            rw [hlen] at k4
            refine ⟨_, rfl, .inl ⟨_, rfl, ⟨rfl, by simp only; omega, by simp only; omega, ?_⟩, by simp only; omega⟩⟩
            simp only
            rw [k5, ← hd, List.drop_drop, show i.toNat + k.toNat = (i + k).toNat by omega]
      · refine ⟨.brk 0 (t', i), by simp [h], .inr ⟨by simp, .inl ?_⟩⟩
        rw [List.drop_of_length_le (by omega)] at hu
        rw [← hu]
        refine ⟨rfl, ?_⟩
        simp only [skipS, List.length_nil]
        congr 2; omega) N (s, at_) ⟨rfl, h0, h1, hp0⟩ (by simp only; omega)
  unfold W40_1
  rw [ho]
  rcases hp with ⟨h2, rfl⟩ | ⟨h2, rfl⟩
  · rw [h2]; rfl
  · rw [h2]; rfl

/-! ### What a written word means -/

theorem F_mark (N : Nat) (t : Bs) : F73 N t = some (t == inactW || (t == protW || ([47, 42] : Bs).isPrefixOf t)) := by
  unfold F73 V73
  have q2 : F76 N t [47, 42] = some (([47, 42] : Bs).isPrefixOf t) := rfl
  simp only [ev_br, ev_leaf, ev_c1, q2, obind_some]
  unfold inactW protW
  cases t == ([105, 110, 97, 99, 116, 105, 118, 101, 58] : Bs) <;> cases t == ([112, 114, 111, 116, 101, 99, 116, 58] : Bs) <;> simp

def hexs : Bs := [48, 49, 50, 51, 52, 53, 54, 55, 56, 57, 97, 98, 99, 100, 101, 102]
theorem hex_all : ∀ n, n < 256 → Lib.indexByte hexs (UInt8.ofNat n) = (match hexV (UInt8.ofNat n) with | some x => (x : Int) | none => -1) := of_decide_eq_true (by kernel_rfl)
theorem hex_ib (c : UInt8) : Lib.indexByte hexs c = (match hexV c with | some x => (x : Int) | none => -1) := by
  have := hex_all c.toNat c.toNat_lt
  rwa [UInt8.ofNat_toNat] at this
theorem hexV_lt {c : UInt8} {x : Nat} (h : hexV c = some x) : x < 16 := by
  unfold hexV at h
  split at h
  · have : c.toNat - 48 = x := by simpa using h
    omega
  · split at h
    · have : c.toNat - 97 + 10 = x := by simpa using h
      omega
    · cases h
theorem or_all : ∀ x : Nat, x < 16 → ∀ y : Nat, y < 16 → IntKind.u8.wrap (IntKind.i64.wrap ((BitVec.ofInt IntKind.i64.bits (IntKind.i64.wrap ((x : Int) * 2 ^ (min (4 : Int).toNat (IntKind.i64.bits)))) ||| BitVec.ofInt IntKind.i64.bits (y : Int)).toNat : Int)) = ((UInt8.ofNat (16 * x + y)).toNat : Int) := of_decide_eq_true (by kernel_rfl)

/-- The first byte that is meant, and how it is written. -/
def pieceS : Bs → Option (UInt8 × Nat)
  | [] => none
  | c :: r => if c = 34 ∨ c.toNat < 32 ∨ 126 < c.toNat then none else if c ≠ 92 then some (c, 1) else match r with
    | [] => none
    | d :: r' => if d = 34 ∨ d = 92 then some (d, 2) else if d ≠ 120 then none else match r' with
      | [] => none
      | [_] => none
      | a :: b :: _ => match hexV a, hexV b with
        | some x, some y => some (UInt8.ofNat (16 * x + y), 4)
        | _, _ => none

theorem inn_piece (c : UInt8) (r : Bs) : innS (c :: r) = match pieceS (c :: r) with
    | none => none
    | some (x, n) => (innS ((c :: r).drop n)).map (x :: ·) := by
  rw [innS.eq_def, pieceS.eq_def]
  dsimp only
  by_cases h1 : c = 34 ∨ c.toNat < 32 ∨ 126 < c.toNat
  · rw [if_pos h1, if_pos h1]
  rw [if_neg h1, if_neg h1]
  by_cases h2 : c ≠ 92
  · rw [if_pos h2, if_pos h2]; rfl
  rw [if_neg h2, if_neg h2]
  cases r with
  | nil => rfl
  | cons d r' =>
    dsimp only
    by_cases h3 : d = 34 ∨ d = 92
    · rw [if_pos h3, if_pos h3]; rfl
    rw [if_neg h3, if_neg h3]
    by_cases h4 : d ≠ 120
    · rw [if_pos h4, if_pos h4]
    rw [if_neg h4, if_neg h4]
    match r' with
    | [] => rfl
    | [_] => rfl
    | a :: b :: r'' =>
      dsimp only
      cases hexV a with
      | none => rfl
      | some x => cases hexV b with
        | none => rfl
        | some y => rfl

theorem piece_le {t : Bs} {x : UInt8} {n : Nat} (h : pieceS t = some (x, n)) : 1 ≤ n ∧ n ≤ t.length := by
  unfold pieceS at h
  repeat' split at h
  all_goals first
    | (cases h; done)
    | (simp only [Option.some.injEq, Prod.mk.injEq] at h; simp only [List.length_cons]; omega)

theorem F_piece (N : Nat) (c : UInt8) (r : Bs) (hL : r.length ≤ 1000000) : F101 N (c :: r) = some (match pieceS (c :: r) with | none => (0, 0) | some (x, n) => ((x.toNat : Int), (n : Int))) := by
  unfold F101 V101 pieceS
  have c0 : inR 0 (c :: r).length := ⟨by omega, by simp only [List.length_cons]; omega⟩
  simp only [ev_br, ev_leaf, ev_c1, ev_ck c0, byte0, is34, is92, isnt, decide_eq_true_eq, show ((c.toNat : Int) < 32) ↔ c.toNat < 32 by omega, show ((126 : Int) < (c.toNat : Int)) ↔ 126 < c.toNat by omega]
  by_cases h1 : c = 34
  · simp only [h1, true_or, if_true]
  by_cases h2 : c.toNat < 32
  · simp only [h1, h2, true_or, or_true, if_true, if_false]
  by_cases h3 : 126 < c.toNat
  · simp only [h1, h2, h3, or_true, if_true, if_false]
  by_cases h4 : c = 92
  · simp only [h1, h2, h3, or_self, if_false, h4, decide_true, Bool.not_true, Bool.false_eq_true, ne_eq, not_true]
    subst h4
    cases r with
    | nil => rfl
    | cons d r' =>
      have c1 : inR 1 ((92 : UInt8) :: d :: r').length := ⟨by omega, by simp only [List.length_cons]; omega⟩
      have k1 : ¬ (((92 : UInt8) :: d :: r').length : Int) < 2 := by simp only [List.length_cons]; omega
      simp only [k1, if_false, ev_br, ev_leaf, ev_ck c1, byte1, is34, is92, is120, isnt, decide_eq_true_eq]
      by_cases h5 : d = 34
      · simp only [h5, if_true, true_or]; rfl
      by_cases h6 : d = 92
      · simp only [h5, h6, if_true, if_false, or_true]; rfl
      by_cases h7 : d = 120
      · subst h7
        simp only [h5, h6, if_false, or_self, decide_true, Bool.not_true, Bool.false_eq_true, ne_eq, not_true]
        match r' with
        | [] => rfl
        | [_] => rfl
        | a :: b :: r'' =>
          have c2 : inR 2 ((92 : UInt8) :: 120 :: a :: b :: r'').length := ⟨by omega, by simp only [List.length_cons]; omega⟩
          have c3 : inR 3 ((92 : UInt8) :: 120 :: a :: b :: r'').length := ⟨by omega, by simp only [List.length_cons]; omega⟩
          have k2 : ¬ (((92 : UInt8) :: 120 :: a :: b :: r'').length : Int) < 4 := by simp only [List.length_cons]; omega
          have q : ∀ x : UInt8, F79 N ([48, 49, 50, 51, 52, 53, 54, 55, 56, 57, 97, 98, 99, 100, 101, 102] : Bs) (x.toNat : Int) = some (match hexV x with | some x => (x : Int) | none => -1) := fun x => by rw [F_ib, ← hex_ib]; rfl
          simp only [k2, if_false, ev_br, ev_leaf, ev_c1, ev_ck c2, ev_ck c3, ev_ck (show (0 : Int) ≤ 4 by omega), byte2, byte3, q, obind_some, decide_eq_true_eq]
          cases ha : hexV a with
          | none => rfl
          | some x =>
            dsimp only
            rw [if_neg (show ¬(x : Int) < 0 by omega)]
            cases hb : hexV b with
            | none => rfl
            | some y =>
              dsimp only
              rw [if_neg (show ¬(y : Int) < 0 by omega), or_all x (hexV_lt ha) y (hexV_lt hb)]
              rfl
      · simp only [h5, h6, h7, if_false, or_self, decide_false, Bool.not_false, if_true, ne_eq, not_false_eq_true]; rfl
  · simp only [h1, h2, h3, h4, or_self, if_false, decide_false, Bool.not_false, if_true, ne_eq, not_false_eq_true]; rfl

theorem bts_app (a b : Bs) : bts (a ++ b) = bts a ++ bts b := by simp [bts]
theorem strOf_bts (a : Bs) : strOf (bts a) = a := by
  unfold strOf bts
  rw [List.map_map]
  conv => rhs; rw [← List.map_id a]
  congr 1
  funext x
  simp
theorem bts_ok (a : Bs) : (bts a).all (fun n => decide (0 ≤ n ∧ n < 256)) = true := by
  rw [List.all_eq_true]
  intro n hn
  obtain ⟨b, _, rfl⟩ := List.mem_map.1 hn
  have := b.toNat_lt
  simp only [decide_eq_true_eq]; omega

theorem F_wb (N : Nat) (b : Bool) (l : List Int) (c : Int) (hl : l.length ≤ 1000000) : F56b N (b, l) c = some (true, l ++ [c]) := by
  unfold F56b F56g V56g
  have hroom : room (l.length + ([c] : List Int).length) := by show _ ≤ _; simp; omega
  simp only [ev_cr, F58g, obind_some]
  rw [ev_ck hroom]
  simp

theorem F_inner (N : Nat) (t0 : Bs) (hN : t0.length < N) (hL : t0.length ≤ 1000000) : F81 N t0 = some (match innS t0 with | some w => (w, true) | none => ([], false)) := by
  unfold F81 V81
  simp only [ev_f1, ev_leaf, ev_cr]
  obtain ⟨o, ho, hp⟩ := runLoop_post (R := Bs × Bool) (step := fun x => L81_2 N x.1 x.2)
    (fun x => ∃ w, x.2.2 = bts w ∧ innS t0 = (innS x.1).map (w ++ ·) ∧ w.length + x.1.length ≤ t0.length) (fun x => x.1.length)
    (fun o => (∃ w, innS t0 = some w ∧ o = .brk 0 ([], (true, bts w))) ∨ (innS t0 = none ∧ o = .ret ([], false)))
    (by
      rintro ⟨t, b, l⟩ ⟨w, e1, hu, hlen⟩
      dsimp only at e1 hu hlen ⊢
      subst e1
      unfold L81_2 U81_2
      cases t with
      | nil =>
        refine ⟨.brk 0 ([], (true, bts w)), by simp, .inr ⟨by simp, .inl ⟨w, ?_, rfl⟩⟩⟩
        rw [hu]; simp [innS]
      | cons c r =>
        simp only [List.length_cons] at hlen
        have hne : (!((c :: r) == ([] : Bs))) = true := rfl
        simp only [ev_br, ev_leaf, ev_c2, ev_cr, hne, if_true, F_piece N c r (by omega), obind_some]
        rw [inn_piece] at hu
        cases hpc : pieceS (c :: r) with
        | none =>
          rw [hpc] at hu
          refine ⟨_, by rfl, .inr ⟨by simp, .inr ⟨hu, rfl⟩⟩⟩
        | some q =>
          obtain ⟨x, n⟩ := q
          rw [hpc] at hu
          obtain ⟨n1, n2⟩ := piece_le hpc
          dsimp only at hu ⊢
          have hn0 : ((n : Int) == 0) = false := by rw [beq_eq_false_iff_ne]; omega
          have hck : (0 : Int) ≤ (n : Int) ∧ (n : Int) ≤ ((c :: r).length : Int) ∧ ((c :: r).length : Int) ≤ ((c :: r).length : Int) := ⟨by omega, by omega, by omega⟩
          simp only [hn0, Bool.false_eq_true, if_false, F_wb N true (bts w) _ (by simp [bts]; omega), obind_some]
          rw [ev_ck hck]
          refine ⟨_, rfl, .inl ⟨_, rfl, ⟨w ++ [x], ?_, ?_, ?_⟩, ?_⟩⟩
          · rw [bts_app]; rfl
          · rw [hu]
            simp only
            rw [slc_drop _ (by omega) (by omega), Int.toNat_natCast, Option.map_map]
            congr 1
            funext k
            simp
          · simp only
            rw [slc_drop _ (by omega) (by omega), Int.toNat_natCast, List.length_drop]
            simp only [List.length_append, List.length_cons, List.length_nil] at n2 ⊢
            omega
          · simp only
            rw [slc_drop _ (by omega) (by omega), Int.toNat_natCast, List.length_drop]
            omega) N (t0, (true, ([] : List Int))) ⟨[], rfl, by simp, by simp⟩ hN
  unfold W81_2
  rw [ho]
  rcases hp with ⟨w, hw, rfl⟩ | ⟨hw, rfl⟩
  · rw [hw]
    simp only [lp1_brk]
    unfold F38k
    rw [if_pos (bts_ok w), strOf_bts]; rfl
  · rw [hw]; rfl

theorem tw_all : ∀ (t : Bs), (t.takeWhile bareB).length = t.length ↔ t.all bareB = true
  | [] => by simp
  | c :: r => by
    have ih := tw_all r
    rw [List.takeWhile_cons]
    by_cases hc : bareB c = true
    · simp only [hc, if_true, List.length_cons, List.all_cons, Bool.true_and, ← ih]; omega
    · simp [hc]

theorem last_byte (t : Bs) (h : 1 ≤ t.length) : t.getLast? = some 34 ↔ byteAt t ((t.length : Int) - 1) = 34 := by
  unfold byteAt
  rw [List.getLast?_eq_getElem?, List.getD_eq_getElem?_getD, show ((t.length : Int) - 1).toNat = t.length - 1 by omega, List.getElem?_eq_getElem (by omega)]
  simp only [Option.some.injEq, Option.getD_some]
  rw [u8_eq, show (34 : UInt8).toNat = 34 from rfl]
  omega

theorem F_unq (N : Nat) (t : Bs) (hN : t.length < N) (hL : t.length ≤ 1000000) : F64 N t = some (unqS t) := by
  unfold F64 V64
  simp only [ev_br, ev_leaf, ev_c1, F_run N t hN (by omega), F_mark, obind_some, decide_eq_true_eq]
  have w1 : IntKind.i64.wrap ((t.length : Int) - 1) = (t.length : Int) - 1 := wrapI (by omega) (by omega)
  -- what is left to tell, of a plain word or not
  have fin : ∀ q : Bool, (if (!q) = true then some (([] : Bs), (2 : Int)) else if (40 : Int) < (t.length : Int) then some ([], 5) else some (t, 0)) = some (if q then lenE t else ([], 2)) := fun q => by
    unfold lenE
    cases q
    · rfl
    · by_cases h : 40 < t.length
      · rw [if_pos (show (40 : Int) < (t.length : Int) by omega)]; simp [h]
      · rw [if_neg (show ¬(40 : Int) < (t.length : Int) by omega)]; simp [h]
  by_cases hq : quotedB t = true
  · have hq' := hq
    simp only [quotedB, Bool.and_eq_true, decide_eq_true_eq, beq_iff_eq] at hq'
    obtain ⟨⟨q1, q2⟩, q3⟩ := hq'
    have hb0 : byteAt t 0 = 34 := by
      cases t with
      | nil => simp at q1
      | cons c r =>
        have : c = 34 := by simpa using q2
        subst this; rfl
    have hbl := (last_byte t (by omega)).1 q3
    have c0 : inR 0 t.length := ⟨by omega, by omega⟩
    have c1 : inR ((t.length : Int) - 1) t.length := ⟨by omega, by omega⟩
    have c2 : (0 : Int) ≤ 1 ∧ (1 : Int) ≤ (t.length : Int) - 1 ∧ (t.length : Int) - 1 ≤ (t.length : Int) := ⟨by omega, by omega, by omega⟩
    have hlt : (1 : Int) < (t.length : Int) := by omega
    have hslc : slc t 1 ((t.length : Int) - 1) = (t.drop 1).take (t.length - 2) := by
      unfold slc
      rw [show ((t.length : Int) - 1).toNat - (1 : Int).toNat = t.length - 2 by omega]; rfl
    have hlen : ((t.drop 1).take (t.length - 2)).length ≤ t.length := by rw [List.length_take, List.length_drop]; omega
    have hu : unqS t = match innS ((t.drop 1).take (t.length - 2)) with
      | some w => lenE w
      | none => ([], 2) := by unfold unqS; rw [if_pos hq]; rfl
    rw [hu]
    have key : (F81 N ((t.drop 1).take (t.length - 2))).bind (fun x => if (!x.2) = true then some (([] : Bs), (2 : Int)) else if (40 : Int) < (x.1.length : Int) then some ([], 5) else some (x.1, 0)) = some (match innS ((t.drop 1).take (t.length - 2)) with | some w => lenE w | none => ([], 2)) := by
      rw [F_inner N _ (by omega) (by omega), obind_some]
      cases innS ((t.drop 1).take (t.length - 2)) with
      | none => rfl
      | some w =>
        dsimp only
        unfold lenE
        by_cases h : 40 < w.length
        · rw [if_pos h, if_pos (show (40 : Int) < (w.length : Int) by omega)]; rfl
        · rw [if_neg h, if_neg (show ¬(40 : Int) < (w.length : Int) by omega)]; rfl
    simp (disch := first | assumption | omega) only [ev_br, ev_leaf, ev_ck, ev_c2, w1, hlt, if_true, hb0, hbl, hslc, beq_self_eq_true, key, decide_eq_true_eq]
    repeat' split
    all_goals rfl
  · have hu : unqS t = if bareW t then lenE t else ([], 2) := by unfold unqS; rw [if_neg hq]
    rw [hu]
    have hbare : bareW t = (!(t == ([] : Bs)) && ((((t.takeWhile bareB).length : Int) == (t.length : Int)) && !(t == inactW || (t == protW || ([47, 42] : Bs).isPrefixOf t)))) := by
      unfold bareW
      have h1 : t.isEmpty = (t == ([] : Bs)) := by cases t <;> rfl
      have h2 : (((t.takeWhile bareB).length : Int) == (t.length : Int)) = t.all bareB := by
        rw [Bool.eq_iff_iff, beq_iff_eq, ← tw_all]; omega
      rw [h1, h2]
      cases t == ([] : Bs) <;> cases t.all bareB <;> cases t == inactW <;> cases t == protW <;> cases ([47, 42] : Bs).isPrefixOf t <;> rfl
    -- whichever way, the word is not between two "
    have K : ∀ (A : Option (Bs × Int)) (f : Bs × Bool → Option (Bs × Int)), (if (1 : Int) < (t.length : Int) then (if inR 0 t.length then (if (byteAt t 0 == 34) = true then (if inR ((t.length : Int) - 1) t.length then (if (byteAt t ((t.length : Int) - 1) == 34) = true then
        (if (0 : Int) ≤ 1 ∧ (1 : Int) ≤ (t.length : Int) - 1 ∧ (t.length : Int) - 1 ≤ (t.length : Int) then (F81 N (slc t 1 ((t.length : Int) - 1))).bind f else none) else A) else none) else A) else none) else A) = A := by
      intro A f
      by_cases h1 : (1 : Int) < (t.length : Int)
      · rw [if_pos h1, if_pos ⟨by omega, by omega⟩]
        by_cases h2 : byteAt t 0 = 34
        · rw [if_pos (by simpa using h2), if_pos ⟨by omega, by omega⟩]
          by_cases h3 : byteAt t ((t.length : Int) - 1) = 34
          · exfalso
            apply hq
            simp only [quotedB, Bool.and_eq_true, decide_eq_true_eq, beq_iff_eq]
            refine ⟨⟨by omega, ?_⟩, (last_byte t (by omega)).2 h3⟩
            cases t with
            | nil => simp at h1
            | cons c r =>
              rw [byte0] at h2
              have : c = 34 := (b_eq c 34 (by decide)).1 (by simpa using h2)
              rw [this]; rfl
          · rw [if_neg (by simpa using h3)]
        · rw [if_neg (by simpa using h2)]
      · rw [if_neg h1]
    simp only [ev_ck0, ev_br, ev_leaf, ev_c2, decide_eq_true_eq, w1, K]
    rw [fin, hbare]
    cases t == ([] : Bs)
    · simp only [Bool.not_false, if_true, Bool.true_and]
      cases (((t.takeWhile bareB).length : Int) == (t.length : Int))
      · rfl
      · simp only [if_true, Bool.true_and]
    · rfl

/-! ### Tokens -/

theorem unq_err (t : Bs) : (unqS t).2 = 0 ∨ (unqS t).2 = 2 ∨ (unqS t).2 = 5 := by
  have hl : ∀ w, (lenE w).2 = 0 ∨ (lenE w).2 = 5 := fun w => by unfold lenE; split <;> simp
  unfold unqS
  split
  · split
    · rename_i w _; rcases hl w with h | h <;> simp [h]
    · simp
  · split
    · rcases hl t with h | h <;> simp [h]
    · simp

theorem F_signs (N : Nat) (c : UInt8) : F61 N (c.toNat : Int) = some (if c = 123 then 2 else if c = 125 then 3 else if c = 59 then 4 else 0) := by
  unfold F61 V61
  simp only [ev_br, ev_leaf, is123, is125, is59, decide_eq_true_eq]
  repeat' split
  all_goals rfl
theorem F_bit (N : Nat) (t : Bs) : F63 N t = some (if t = inactW then 1 else if t = protW then 2 else 0) := by
  unfold F63 V63 inactW protW
  simp only [ev_br, ev_leaf, beq_iff_eq]
  repeat' split
  all_goals rfl

theorem next_err {s : Bs} {e : Int} (h : nextS s = .error e) : e ≠ 0 := by
  unfold nextS at h
  split at h
  · injection h with h; omega
  · rename_i c r'
    split at h
    · cases h
    split at h
    · cases h
    split at h
    · cases h
    split at h
    · injection h with h; omega
    · split at h
      · cases h
      split at h
      · cases h
      split at h
      · cases h
      · injection h with h; omega

theorem F_token (N : Nat) (s : Bs) (at_ : Int) (h0 : 0 ≤ at_) (h1 : at_ < s.length) (hN : s.length < N) (hL : s.length ≤ 1000000) :
    ∃ x, F41 N s at_ = some x ∧ match nextS (s.drop at_.toNat) with
      | .error e => x.2.2 = e
      | .ok (k, r) => x = ((k.1, at_, k.2.2), (s.length : Int) - (r.length : Int), 0) ∧ s.drop x.2.1.toNat = r ∧ k.2.1 = s.length - at_.toNat := by
  unfold F41 V41
  have c1 : inR at_ s.length := ⟨h0, h1⟩
  obtain ⟨c, hd, hb⟩ := drop_byte s h0 h1
  have hlen : (s.drop at_.toNat).length = s.length - at_.toNat := List.length_drop
  simp only [ev_br, ev_leaf, ev_ck c1, ev_c1, hb, F_signs, obind_some, decide_eq_true_eq]
  rw [wrapI (by omega) (by omega)]
  have hr1 : (s.drop (at_ + 1).toNat).length = s.length - (at_ + 1).toNat := List.length_drop
  have one : ∀ q : Int, ((q, at_, ([] : Bs), (0 : Int)), at_ + 1, (0 : Int)) = ((q, at_, [], 0), (s.length : Int) - ((s.drop (at_ + 1).toNat).length : Int), 0) := fun q => by rw [hr1]; congr 2; omega
  rw [hd] at hlen ⊢
  unfold nextS
  by_cases e1 : c = 123
  · simp only [e1, if_true]
    exact ⟨_, rfl, one 2, rfl, hlen ▸ by rw [e1]⟩
  by_cases e2 : c = 125
  · simp only [e1, e2, if_true, if_false]
    exact ⟨_, rfl, one 3, rfl, hlen ▸ by rw [e2]⟩
  by_cases e3 : c = 59
  · simp only [e1, e2, e3, if_true, if_false]
    exact ⟨_, rfl, one 4, rfl, hlen ▸ by rw [e3]⟩
  simp only [e1, e2, e3, if_false]
  rw [if_neg (by omega), ev_c2, F_scan N s at_ h0 h1 hN (by omega), obind_some, hd]
  cases hk : scanL (c :: s.drop (at_ + 1).toNat) with
  | none => exact ⟨_, rfl, rfl⟩
  | some k =>
    have hkl := scan_le hk
    rw [hlen] at hkl
    have c2 : (0 : Int) ≤ at_ ∧ at_ ≤ at_ + (k : Int) ∧ at_ + (k : Int) ≤ (s.length : Int) := ⟨by omega, by omega, by omega⟩
    have hs : slc s at_ (at_ + (k : Int)) = (c :: s.drop (at_ + 1).toNat).take k := by
      unfold slc
      rw [hd, show (at_ + (k : Int)).toNat - at_.toNat = k by omega]
    have hr : (c :: s.drop (at_ + 1).toNat).drop k = s.drop (at_ + (k : Int)).toNat := by
      rw [← hd, List.drop_drop, show at_.toNat + k = (at_ + (k : Int)).toNat by omega]
    have hrl : (s.drop (at_ + (k : Int)).toNat).length = s.length - (at_ + (k : Int)).toNat := List.length_drop
    have pl : ∀ x : Tok, (x, at_ + (k : Int), (0 : Int)) = (x, (s.length : Int) - ((s.drop (at_ + (k : Int)).toNat).length : Int), 0) := fun x => by rw [hrl]; congr 2; omega
    simp only [ev_br, ev_leaf, ev_ck c2, ev_c1, ev_c2, Bool.not_true, Bool.false_eq_true, if_false, hs, F_bit, obind_some, decide_eq_true_eq, hr]
    have htl : ((c :: s.drop (at_ + 1).toNat).take k).length ≤ s.length := by rw [List.length_take]; omega
    generalize (c :: s.drop (at_ + 1).toNat).take k = w at htl ⊢
    by_cases e4 : w = inactW
    · simp only [e4, if_true]
      exact ⟨_, rfl, pl _, rfl, hlen⟩
    by_cases e5 : w = protW
    · simp only [e4, e5, if_true, if_false]
      exact ⟨_, rfl, pl _, rfl, hlen⟩
    simp only [e4, e5, if_false]
    rw [if_neg (by omega), F_unq N w (by omega) (by omega), obind_some]
    by_cases e6 : (unqS w).2 = 0
    · rw [if_pos e6, e6]
      exact ⟨_, rfl, pl _, rfl, hlen⟩
    · rw [if_neg e6]
      exact ⟨_, rfl, rfl⟩

def toTok (n : Nat) (t : RTok) : Tok := (t.1, (n : Int) - (t.2.1 : Int), t.2.2)
/-- What is answered: the tokens, or the place of an error. -/
def allS (s : Bs) : List Tok × Int × Int := match lexR s with
  | .ok l => (l.map (toTok s.length), 0, 0)
  | .error (k, e) => ([], (s.length : Int) - (k : Int), e)

theorem appE_app (a b : List RTok) (e : Except (Nat × Int) (List RTok)) : appE (a ++ b) e = appE a (appE b e) := by
  cases e with
  | ok l => simp [appE]
  | error e => rfl
theorem appE_cons (a : List RTok) (x : RTok) (e : Except (Nat × Int) (List RTok)) : appE a (consE x e) = appE (a ++ [x]) e := by
  cases e with
  | ok l => simp [appE, consE]
  | error e => rfl

theorem F_all (N : Nat) (s : Bs) (hN : s.length + 1 < N) (hL : s.length ≤ 1000000) : F20 N s = some (allS s) := by
  unfold F20 V20
  rw [ev_f0]
  obtain ⟨o, ho, hp⟩ := runLoop_post (R := List Tok × Int × Int) (step := fun x => L20_3 N x.1 x.2.1 x.2.2)
    (fun x => x.1 = s ∧ 0 ≤ x.2.2 ∧ x.2.2 ≤ s.length ∧ ∃ acc : List RTok, x.2.1 = acc.map (toTok s.length) ∧ (acc.length : Int) ≤ x.2.2 ∧ lexR s = appE acc (lexR (s.drop x.2.2.toNat))) (fun x => (s.length - x.2.2).toNat)
    (fun o => o = .ret (allS s))
    (by
      rintro ⟨s', out, i⟩ ⟨e1, hi0, hi, acc, hout, hacc, hlex⟩
      dsimp only at e1 hi0 hi hout hacc hlex ⊢
      subst e1
      unfold L20_3 U20_3
      simp only [ev_br, ev_leaf, ev_c2, ev_c3, F_blanks N s' i hi0 hi (by omega) (by omega), obind_some]
      rw [lexR_eq (s'.drop i.toNat)] at hlex
      have hsl := skip_len (s'.drop i.toNat) .n trivial
      have hsf := (skip_suffix (s'.drop i.toNat) (s'.drop i.toNat) .n (List.suffix_refl _) trivial).1
      rw [List.length_drop] at hsl
      cases hb : (skipS .n (s'.drop i.toNat)).1 with
      | false =>
        rw [hb] at hlex
        refine ⟨_, by rfl, .inr ⟨by simp, ?_⟩⟩
        unfold allS
        rw [hlex]; rfl
      | true =>
        rw [hb] at hlex
        simp only [Bool.not_true, Bool.false_eq_true, if_false]
        generalize hrest : (skipS .n (s'.drop i.toNat)).2 = rest at hlex hsl hsf ⊢
        cases rest with
        | nil =>
          have hq : ((s'.length : Int) - (([] : Bs).length : Int) == (s'.length : Int)) = true := by simp
          rw [hq]
          refine ⟨_, by rfl, .inr ⟨by simp, ?_⟩⟩
          unfold allS
          rw [hlex, hout]
          simp [appE]
        | cons c r =>
          simp only [List.length_cons] at hsl
          have hq : ((s'.length : Int) - ((c :: r).length : Int) == (s'.length : Int)) = false := by rw [beq_eq_false_iff_ne]; simp only [List.length_cons]; omega
          rw [hq]
          simp only [Bool.false_eq_true, if_false]
          have hdr : s'.drop ((s'.length : Int) - ((c :: r).length : Int)).toNat = c :: r := by
            have h1 := List.suffix_iff_eq_drop.1 (hsf.trans (List.drop_suffix i.toNat s'))
            rw [show ((s'.length : Int) - ((c :: r).length : Int)).toNat = s'.length - (c :: r).length by omega]
            exact h1.symm
          obtain ⟨x, hx, hpost⟩ := F_token N s' ((s'.length : Int) - ((c :: r).length : Int)) (by simp only [List.length_cons]; omega) (by simp only [List.length_cons]; omega) (by omega) hL
          rw [hx, obind_some]
          rw [hdr] at hpost
          cases hn : nextS (c :: r) with
          | error e =>
            rw [hn] at hpost
            dsimp only at hpost hlex
            rw [hn] at hlex
            have he := next_err hn
            have hq : (x.2.2 != 0) = true := by rw [hpost]; simpa using he
            rw [hq]
            refine ⟨_, by rfl, .inr ⟨by simp, ?_⟩⟩
            unfold allS
            rw [hlex, hpost]; rfl
          | ok kr =>
            obtain ⟨k, r'⟩ := kr
            rw [hn] at hpost
            dsimp only at hpost hlex
            rw [hn] at hlex
            obtain ⟨p1, p2, p3⟩ := hpost
            have hlt := next_lt hn
            simp only [List.length_cons] at hlt
            have hq : (x.2.2 != 0) = false := by rw [p1]; rfl
            rw [hq]
            simp only [Bool.false_eq_true, if_false]
            have hroom : room (out.length + ([x.1] : List Tok).length) := by show _ ≤ _; rw [hout]; simp; omega
            rw [ev_ck hroom]
            rw [p1] at p2 ⊢
            refine ⟨_, rfl, .inl ⟨_, rfl, ⟨rfl, ?_, ?_, acc ++ [k], ?_, ?_, ?_⟩, ?_⟩⟩
            · simp only; omega
            · simp only; omega
            · rw [hout, List.map_append]
              simp only [List.map_cons, List.map_nil, toTok]
              rw [p3]
              congr 4
              simp only [List.length_cons]; omega
            · simp only [List.length_append, List.length_cons, List.length_nil]; omega
            · simp only at p2 ⊢
              rw [hlex, appE_cons, p2]
            · simp only; omega) N (s, ([] : List Tok), 0) ⟨rfl, by simp, by simp, [], rfl, by simp, by
        simp only [Int.toNat_zero, List.drop_zero]
        cases lexR s <;> rfl⟩ (by simp only; omega)
  unfold W20_3
  rw [ho, hp]; rfl

end Go.Proofs.Ytmohgkoomnihfaa.Vc
