/-
  WHAT THE FUNCTIONS OF PACKAGES word AND lex ANSWER: the tokens of a text. No condition.
-/
import Derived.Test.YtncgafojgdemdaaDoorLt
import Derived.Test.YtncgafojgdemdaaDoorFa
set_option linter.unusedVariables false
set_option linter.unusedSimpArgs false
namespace Go.Proofs.YtncgafojgdemdaaDoor.Vc

/-! ### Bytes -/

theorem drop_byte (s : Bs) {i : Int} (h0 : 0 ≤ i) (h : i < s.length) : ∃ c, s.drop i.toNat = c :: s.drop (i + 1).toNat ∧ byteAt s i = (c.toNat : Int) := by
  have hi : i.toNat < s.length := by omega
  refine ⟨s[i.toNat], by rw [List.drop_eq_getElem_cons hi, show (i + 1).toNat = i.toNat + 1 by omega], ?_⟩
  unfold byteAt
  simp [hi]
theorem u8_back (b : UInt8) : ((b.toNat : Int)).toNat.toUInt8 = b := by simp
theorem slc_drop (s : Bs) {i : Int} (h0 : 0 ≤ i) (h : i ≤ s.length) : slc s i (s.length : Int) = s.drop i.toNat := by
  unfold slc
  rw [List.take_of_length_le (by rw [List.length_drop]; omega)]
theorem byte0 (c : UInt8) (r : Bs) : byteAt (c :: r) 0 = (c.toNat : Int) := rfl
theorem byte1 (c d : UInt8) (r : Bs) : byteAt (c :: d :: r) 1 = (d.toNat : Int) := rfl
theorem byte2 (c d e : UInt8) (r : Bs) : byteAt (c :: d :: e :: r) 2 = (e.toNat : Int) := rfl
theorem byte3 (c d e f : UInt8) (r : Bs) : byteAt (c :: d :: e :: f :: r) 3 = (f.toNat : Int) := rfl

theorem ib_mem (l : Bs) (c : UInt8) : 0 ≤ Lib.indexByte l c ↔ c ∈ l := by
  induction l with
  | nil => simp [Lib.indexByte]
  | cons b l ih =>
    have := Lib.indexByte_ge l c
    unfold Lib.indexByte
    by_cases hb : b = c
    · simp [hb]
    · rw [if_neg (by simpa using hb), List.mem_cons]
      by_cases hm : Lib.indexByte l c = -1
      · rw [if_pos (by simpa using hm)]
        have h2 : ¬ c ∈ l := fun hh => by have := ih.2 hh; omega
        simp [h2, Ne.symm hb]
      · rw [if_neg (by simpa using hm)]
        have h2 : c ∈ l := ih.1 (by omega)
        simp [h2]; omega

theorem F_ib (N : Nat) (s : Bs) (c : UInt8) : F71 N s (c.toNat : Int) = some (Lib.indexByte s c) := by
  unfold F71; rw [u8_back]

theorem b_eq (c : UInt8) (k : Nat) (hk : k < 256) : (((c.toNat : Int) == (k : Int)) = true) ↔ c = UInt8.ofNat k := by
  rw [u8_eq, UInt8.toNat_ofNat', beq_iff_eq]
  omega

theorem F_bare (N : Nat) (c : UInt8) : F62 N (c.toNat : Int) = some (bareB c) := by
  unfold F62 V62
  simp only [ev_br, ev_leaf, ev_c1, F_ib, obind_some, decide_eq_true_eq]
  have hm := ib_mem [45, 95, 46, 47, 58, 42] c
  have hq : decide ((0 : Int) ≤ Lib.indexByte [45, 95, 46, 47, 58, 42] c) = (c == 45 || c == 95 || c == 46 || c == 47 || c == 58 || c == 42) := by
    rw [Bool.eq_iff_iff, decide_eq_true_eq, hm]; simp [or_assoc]
  rw [hq]
  unfold bareB
  generalize (c == 45 || c == 95 || c == 46 || c == 47 || c == 58 || c == 42) = q
  generalize c.toNat = n
  simp only [show ∀ k : Nat, ((k : Int) ≤ (n : Int)) ↔ k ≤ n from fun k => by omega, show ((97 : Int) ≤ (n : Int)) ↔ 97 ≤ n from by omega, show ((65 : Int) ≤ (n : Int)) ↔ 65 ≤ n from by omega, show ((48 : Int) ≤ (n : Int)) ↔ 48 ≤ n from by omega,
    show ((n : Int) ≤ (122 : Int)) ↔ n ≤ 122 from by omega, show ((n : Int) ≤ (90 : Int)) ↔ n ≤ 90 from by omega, show ((n : Int) ≤ (57 : Int)) ↔ n ≤ 57 from by omega]
  by_cases a1 : 97 ≤ n <;> by_cases a2 : n ≤ 122 <;> by_cases a3 : 65 ≤ n <;> by_cases a4 : n ≤ 90 <;> by_cases a5 : 48 ≤ n <;> by_cases a6 : n ≤ 57 <;> simp [a1, a2, a3, a4, a5, a6]

theorem F_run (N : Nat) (t : Bs) (hN : t.length < N) (hL : t.length ≤ 1000000) : F57 N t = some ((t.takeWhile bareB).length : Int) := by
  unfold F57 V57
  simp only [ev_f1, ev_leaf]
  obtain ⟨o, ho, hp⟩ := runLoop_post (R := Int) (step := fun x => L57_2 N x.1 x.2)
    (fun x => x.1 = t ∧ 0 ≤ x.2 ∧ x.2 ≤ t.length ∧ x.2 + ((t.drop x.2.toNat).takeWhile bareB).length = (t.takeWhile bareB).length) (fun x => (t.length - x.2).toNat)
    (fun o => o = .brk 0 (t, ((t.takeWhile bareB).length : Int)))
    (by
      rintro ⟨t', i⟩ ⟨e1, h0, hi, hu⟩
      dsimp only at e1 h0 hi hu ⊢
      subst e1
      unfold L57_2 U57_2
      by_cases h : i < t'.length
      · have c1 : inR i t'.length := ⟨h0, h⟩
        obtain ⟨c, hd, hb⟩ := drop_byte t' h0 h
        simp (disch := first | assumption | omega) only [ev_br, ev_leaf, ev_ck, ev_c1, decide_eq_true_eq, h, if_true, hb, F_bare, obind_some, wrapI]
        rw [hd, List.takeWhile_cons] at hu
        by_cases hc : bareB c = true
        · rw [if_pos hc] at hu ⊢
          refine ⟨_, rfl, .inl ⟨_, rfl, ⟨rfl, by simp only; omega, by simp only; omega, ?_⟩, by simp only; omega⟩⟩
          simp only [List.length_cons] at hu ⊢
          omega
        · rw [if_neg hc] at hu ⊢
          refine ⟨_, rfl, .inr ⟨by simp, ?_⟩⟩
          simp only [List.length_nil] at hu
          rw [← hu]; simp
      · refine ⟨.brk 0 (t', i), by simp [h], .inr ⟨by simp, ?_⟩⟩
        rw [List.drop_of_length_le (by omega)] at hu
        simp only [List.takeWhile_nil, List.length_nil] at hu
        rw [← hu]; simp) N (t, 0) ⟨rfl, by simp, by simp, by simp⟩ (by simpa using hN)
  unfold W57_2
  rw [ho, hp]; rfl

/-! ### Where a word ends -/

theorem quo_cons (c : UInt8) (r : Bs) : quoS false (c :: r) = if c = 92 then (quoS false (r.drop 1)).map (· + 2) else if c = 34 then some 1 else (quoS false r).map (· + 1) := by
  simp only [quoS]
  by_cases hc : c = 92
  · rw [if_pos hc, if_pos hc]
    cases r with
    | nil => rfl
    | cons d r => simp only [quoS, List.drop_one, List.tail_cons, Option.map_map]; rfl
  · rw [if_neg hc, if_neg hc]

/-! ### What is left off -/

theorem ib_cons (b c : UInt8) (l : Bs) : Lib.indexByte (b :: l) c = if b = c then 0 else if Lib.indexByte l c < 0 then -1 else Lib.indexByte l c + 1 := by
  have hg := Lib.indexByte_ge l c
  rw [Lib.indexByte]
  by_cases hb : b = c
  · rw [if_pos hb, if_pos (by simpa using hb)]
  · rw [if_neg hb, if_neg (by simpa using hb)]
    by_cases hm : Lib.indexByte l c = -1
    · rw [if_pos (by rw [hm]; rfl), if_pos (by omega)]
    · rw [if_neg (by rw [beq_iff_eq]; exact hm), if_neg (by omega)]
theorem pre1 (a c : UInt8) (r : Bs) : ([a] : Bs).isPrefixOf (c :: r) = true ↔ c = a := by
  simp only [List.isPrefixOf, Bool.and_true, beq_iff_eq]; exact eq_comm
theorem pre2 (a b c : UInt8) (r : Bs) : ([a, b] : Bs).isPrefixOf (c :: r) = true ↔ c = a ∧ r.head? = some b := by
  cases r with
  | nil => simp [List.isPrefixOf]
  | cons d r =>
    simp only [List.isPrefixOf, Bool.and_true, Bool.and_eq_true, beq_iff_eq, List.head?_cons, Option.some.injEq]
    exact ⟨fun h => ⟨h.1.symm, h.2.symm⟩, fun h => ⟨h.1.symm, h.2.symm⟩⟩
theorem ix_cons (b : UInt8) (l : Bs) : Lib.index (b :: l) [42, 47] = if b = 42 ∧ l.head? = some 47 then 0 else if Lib.index l [42, 47] < 0 then -1 else Lib.index l [42, 47] + 1 := by
  have hg := Lib.index_ge l [42, 47]
  rw [Lib.index]
  by_cases hb : b = 42 ∧ l.head? = some 47
  · rw [if_pos hb, if_pos ((pre2 _ _ _ _).2 hb)]
  · rw [if_neg hb, if_neg (fun h => hb ((pre2 _ _ _ _).1 h))]
    by_cases hm : Lib.index l [42, 47] = -1
    · rw [if_pos (by rw [hm]; rfl), if_pos (by omega)]
    · rw [if_neg (by rw [beq_iff_eq]; exact hm), if_neg (by omega)]

theorem skip_line : ∀ (r : Bs), skipS .l r = if Lib.indexByte r 10 < 0 then (true, []) else skipS .n (r.drop (Lib.indexByte r 10).toNat)
  | [] => rfl
  | c :: r => by
    have ih := skip_line r
    have hg := Lib.indexByte_ge r 10
    simp only [skipS]
    rw [ib_cons]
    by_cases hc : c = 10
    · subst hc; simp [skipS, blankB]
    · rw [if_neg hc, if_neg hc, ih]
      by_cases hm : Lib.indexByte r 10 < 0
      · rw [if_pos hm, if_pos hm]; rfl
      · rw [if_neg hm, if_neg hm, if_neg (by omega), show (Lib.indexByte r 10 + 1).toNat = (Lib.indexByte r 10).toNat + 1 by omega, List.drop_succ_cons]

theorem skip_block (s : Bs) : ∀ (r : Bs), skipS (.b s) r = if Lib.index r [42, 47] < 0 then (false, s) else skipS .n (r.drop ((Lib.index r [42, 47]).toNat + 2))
  | [] => rfl
  | c :: r => by
    have ih := skip_block s r
    have hg := Lib.index_ge r [42, 47]
    simp only [skipS]
    rw [ix_cons]
    by_cases hc : c = 42 ∧ r.head? = some 47
    · rw [if_pos hc, if_pos hc, if_neg (by decide)]
      obtain ⟨d, r', rfl⟩ : ∃ d r', r = d :: r' := by
        cases r with
        | nil => exact absurd hc.2 (by simp)
        | cons d r' => exact ⟨d, r', rfl⟩
      simp [skipS]
    · rw [if_neg hc, if_neg hc, ih]
      by_cases hm : Lib.index r [42, 47] < 0
      · rw [if_pos hm, if_pos hm]; rfl
      · rw [if_neg hm, if_neg hm, if_neg (by omega), show (Lib.index r [42, 47] + 1).toNat + 2 = ((Lib.index r [42, 47]).toNat + 2) + 1 by omega, List.drop_succ_cons]

theorem ib_lt : ∀ (r : Bs) (c : UInt8), Lib.indexByte r c < r.length
  | [], _ => by simp [Lib.indexByte]
  | b :: r, c => by
    have := ib_lt r c
    rw [ib_cons, List.length_cons]
    split
    · omega
    · split <;> omega
theorem ix_lt : ∀ (r : Bs), Lib.index r [42, 47] + 1 < r.length ∨ Lib.index r [42, 47] = -1
  | [] => by simp [Lib.index]
  | b :: r => by
    have := ix_lt r
    rw [ix_cons, List.length_cons]
    split
    · rename_i h
      cases r with
      | nil => exact absurd h.2 (by simp)
      | cons d r => left; rw [List.length_cons]; omega
    · split
      · right; rfl
      · omega

/-- Behind the comment that is here: -1, if it does not end; 0, if there is none. -/
def cmtS (t : Bs) : Int :=
  if ([35] : Bs).isPrefixOf t then (if Lib.indexByte t 10 < 0 then (t.length : Int) else Lib.indexByte t 10)
  else if ([47, 42] : Bs).isPrefixOf t then (if Lib.index (t.drop 2) [42, 47] < 0 then -1 else Lib.index (t.drop 2) [42, 47] + 4) else 0

/-- What a comment's end is for what is left. -/
theorem skip_cmt (c : UInt8) (r : Bs) (hb : blankB c = false) : (cmtS (c :: r) < 0 → skipS .n (c :: r) = (false, c :: r)) ∧ (cmtS (c :: r) = 0 → skipS .n (c :: r) = (true, c :: r)) ∧
    (0 < cmtS (c :: r) → cmtS (c :: r) ≤ (c :: r).length ∧ skipS .n (c :: r) = skipS .n ((c :: r).drop (cmtS (c :: r)).toNat)) := by
  unfold cmtS
  have e1 : ([35] : Bs).isPrefixOf (c :: r) = true ↔ c = 35 := pre1 _ _ _
  simp only [skipS, hb, Bool.false_eq_true, if_false]
  by_cases h1 : c = 35
  · rw [if_pos (e1.2 h1), if_pos h1, skip_line r]
    have e2 : Lib.indexByte (c :: r) 10 = if Lib.indexByte r 10 < 0 then -1 else Lib.indexByte r 10 + 1 := by
      rw [ib_cons, if_neg (by rw [h1]; decide)]
    rw [e2]
    by_cases h3 : Lib.indexByte r 10 < 0
    · rw [if_pos h3, if_pos h3, if_pos (by decide)]
      refine ⟨fun h => by omega, fun h => by simp at h; omega, fun _ => ⟨Int.le_refl _, ?_⟩⟩
      rw [List.drop_of_length_le (by simp)]; rfl
    · rw [if_neg h3, if_neg h3, if_neg (by omega)]
      have := ib_lt r 10
      refine ⟨fun h => by omega, fun h => by omega, fun _ => ⟨by simp; omega, ?_⟩⟩
      rw [show (Lib.indexByte r 10 + 1).toNat = (Lib.indexByte r 10).toNat + 1 by omega, List.drop_succ_cons]
  · rw [if_neg (fun h => h1 (e1.1 h)), if_neg h1]
    by_cases h2 : c = 47 ∧ r.head? = some 42
    · rw [if_pos ((pre2 _ _ _ _).2 h2), if_pos h2]
      obtain ⟨d, r', rfl⟩ : ∃ d r', r = d :: r' := by
        cases r with
        | nil => exact absurd h2.2 (by simp)
        | cons d r' => exact ⟨d, r', rfl⟩
      simp only [skipS, skip_block, List.drop_succ_cons, List.drop_zero]
      have hx := ix_lt r'
      by_cases h3 : Lib.index r' [42, 47] < 0
      · rw [if_pos h3, if_pos h3]
        exact ⟨fun _ => rfl, fun h => by omega, fun h => by omega⟩
      · rw [if_neg h3, if_neg h3]
        refine ⟨fun h => by omega, fun h => by omega, fun _ => ⟨by simp; omega, ?_⟩⟩
        rw [show (Lib.index r' [42, 47] + 4).toNat = ((Lib.index r' [42, 47]).toNat + 2) + 1 + 1 by omega, List.drop_succ_cons, List.drop_succ_cons]
    · rw [if_neg (fun h => h2 ((pre2 _ _ _ _).1 h)), if_neg h2]
      exact ⟨fun h => by omega, fun _ => rfl, fun h => by omega⟩

theorem byte_is (c : UInt8) (k : Nat) (hk : k < 256) : ((c.toNat : Int) == (k : Int)) = decide (c = UInt8.ofNat k) := by
  rw [Bool.eq_iff_iff, b_eq c k hk, decide_eq_true_eq]
theorem is32 (c : UInt8) : ((c.toNat : Int) == 32) = decide (c = 32) := byte_is c 32 (by decide)
theorem is9 (c : UInt8) : ((c.toNat : Int) == 9) = decide (c = 9) := byte_is c 9 (by decide)
theorem is10 (c : UInt8) : ((c.toNat : Int) == 10) = decide (c = 10) := byte_is c 10 (by decide)
theorem is13 (c : UInt8) : ((c.toNat : Int) == 13) = decide (c = 13) := byte_is c 13 (by decide)
theorem is34 (c : UInt8) : ((c.toNat : Int) == 34) = decide (c = 34) := byte_is c 34 (by decide)
theorem is35 (c : UInt8) : ((c.toNat : Int) == 35) = decide (c = 35) := byte_is c 35 (by decide)
theorem is42 (c : UInt8) : ((c.toNat : Int) == 42) = decide (c = 42) := byte_is c 42 (by decide)
theorem is47 (c : UInt8) : ((c.toNat : Int) == 47) = decide (c = 47) := byte_is c 47 (by decide)
theorem is59 (c : UInt8) : ((c.toNat : Int) == 59) = decide (c = 59) := byte_is c 59 (by decide)
theorem is92 (c : UInt8) : ((c.toNat : Int) == 92) = decide (c = 92) := byte_is c 92 (by decide)
theorem is120 (c : UInt8) : ((c.toNat : Int) == 120) = decide (c = 120) := byte_is c 120 (by decide)
theorem is123 (c : UInt8) : ((c.toNat : Int) == 123) = decide (c = 123) := byte_is c 123 (by decide)
theorem is125 (c : UInt8) : ((c.toNat : Int) == 125) = decide (c = 125) := byte_is c 125 (by decide)
theorem isnt (c : UInt8) (k : Int) : ((c.toNat : Int) != k) = !((c.toNat : Int) == k) := rfl

/-! ### What a written word means -/

theorem F_mark (N : Nat) (t : Bs) : F58 N t = some (t == inactW || (t == protW || ([47, 42] : Bs).isPrefixOf t)) := by
  unfold F58 V58
  have q2 : F63 N t [47, 42] = some (([47, 42] : Bs).isPrefixOf t) := rfl
  simp only [ev_br, ev_leaf, ev_c1, q2, obind_some]
  unfold inactW protW
  cases t == ([105, 110, 97, 99, 116, 105, 118, 101, 58] : Bs) <;> cases t == ([112, 114, 111, 116, 101, 99, 116, 58] : Bs) <;> simp

def hexs : Bs := [48, 49, 50, 51, 52, 53, 54, 55, 56, 57, 97, 98, 99, 100, 101, 102]
theorem hex_all : ∀ n, n < 256 → Lib.indexByte hexs (UInt8.ofNat n) = (match hexV (UInt8.ofNat n) with | some x => (x : Int) | none => -1) := of_decide_eq_true (by kernel_rfl)
theorem hex_ib (c : UInt8) : Lib.indexByte hexs c = (match hexV c with | some x => (x : Int) | none => -1) := by
  have := hex_all c.toNat c.toNat_lt
  rwa [UInt8.ofNat_toNat] at this
theorem hexV_lt {c : UInt8} {x : Nat} (h : hexV c = some x) : x < 16 := by
  unfold hexV at h
  split at h
  · have : c.toNat - 48 = x := by simpa using h
    omega
  · split at h
    · have : c.toNat - 97 + 10 = x := by simpa using h
      omega
    · cases h
theorem or_all : ∀ x : Nat, x < 16 → ∀ y : Nat, y < 16 → IntKind.u8.wrap (IntKind.i64.wrap ((BitVec.ofInt IntKind.i64.bits (IntKind.i64.wrap ((x : Int) * 2 ^ (min (4 : Int).toNat (IntKind.i64.bits)))) ||| BitVec.ofInt IntKind.i64.bits (y : Int)).toNat : Int)) = ((UInt8.ofNat (16 * x + y)).toNat : Int) := of_decide_eq_true (by kernel_rfl)

/-- The first byte that is meant, and how it is written. -/
def pieceS : Bs → Option (UInt8 × Nat)
  | [] => none
  | c :: r => if c = 34 ∨ c.toNat < 32 ∨ 126 < c.toNat then none else if c ≠ 92 then some (c, 1) else match r with
    | [] => none
    | d :: r' => if d = 34 ∨ d = 92 then some (d, 2) else if d ≠ 120 then none else match r' with
      | [] => none
      | [_] => none
      | a :: b :: _ => match hexV a, hexV b with
        | some x, some y => some (UInt8.ofNat (16 * x + y), 4)
        | _, _ => none

theorem inn_piece (c : UInt8) (r : Bs) : innS (c :: r) = match pieceS (c :: r) with
    | none => none
    | some (x, n) => (innS ((c :: r).drop n)).map (x :: ·) := by
  rw [innS.eq_def, pieceS.eq_def]
  dsimp only
  by_cases h1 : c = 34 ∨ c.toNat < 32 ∨ 126 < c.toNat
  · rw [if_pos h1, if_pos h1]
  rw [if_neg h1, if_neg h1]
  by_cases h2 : c ≠ 92
  · rw [if_pos h2, if_pos h2]; rfl
  rw [if_neg h2, if_neg h2]
  cases r with
  | nil => rfl
  | cons d r' =>
    dsimp only
    by_cases h3 : d = 34 ∨ d = 92
    · rw [if_pos h3, if_pos h3]; rfl
    rw [if_neg h3, if_neg h3]
    by_cases h4 : d ≠ 120
    · rw [if_pos h4, if_pos h4]
    rw [if_neg h4, if_neg h4]
    match r' with
    | [] => rfl
    | [_] => rfl
    | a :: b :: r'' =>
      dsimp only
      cases hexV a with
      | none => rfl
      | some x => cases hexV b with
        | none => rfl
        | some y => rfl

theorem piece_le {t : Bs} {x : UInt8} {n : Nat} (h : pieceS t = some (x, n)) : 1 ≤ n ∧ n ≤ t.length := by
  unfold pieceS at h
  repeat' split at h
  all_goals first
    | (cases h; done)
    | (simp only [Option.some.injEq, Prod.mk.injEq] at h; simp only [List.length_cons]; omega)

theorem bts_app (a b : Bs) : bts (a ++ b) = bts a ++ bts b := by simp [bts]
theorem strOf_bts (a : Bs) : strOf (bts a) = a := by
  unfold strOf bts
  rw [List.map_map]
  conv => rhs; rw [← List.map_id a]
  congr 1
  funext x
  simp
theorem bts_ok (a : Bs) : (bts a).all (fun n => decide (0 ≤ n ∧ n < 256)) = true := by
  rw [List.all_eq_true]
  intro n hn
  obtain ⟨b, _, rfl⟩ := List.mem_map.1 hn
  have := b.toNat_lt
  simp only [decide_eq_true_eq]; omega

theorem F_wb (N : Nat) (b : Bool) (l : List Int) (c : Int) (hl : l.length ≤ 1000000) : F47b N (b, l) c = some (true, l ++ [c]) := by
  unfold F47b F47g V47g
  have hroom : room (l.length + ([c] : List Int).length) := by show _ ≤ _; simp; omega
  simp only [ev_cr, F45g, obind_some]
  rw [ev_ck hroom]
  simp

theorem tw_all : ∀ (t : Bs), (t.takeWhile bareB).length = t.length ↔ t.all bareB = true
  | [] => by simp
  | c :: r => by
    have ih := tw_all r
    rw [List.takeWhile_cons]
    by_cases hc : bareB c = true
    · simp only [hc, if_true, List.length_cons, List.all_cons, Bool.true_and, ← ih]; omega
    · simp [hc]

theorem last_byte (t : Bs) (h : 1 ≤ t.length) : t.getLast? = some 34 ↔ byteAt t ((t.length : Int) - 1) = 34 := by
  unfold byteAt
  rw [List.getLast?_eq_getElem?, List.getD_eq_getElem?_getD, show ((t.length : Int) - 1).toNat = t.length - 1 by omega, List.getElem?_eq_getElem (by omega)]
  simp only [Option.some.injEq, Option.getD_some]
  rw [u8_eq, show (34 : UInt8).toNat = 34 from rfl]
  omega

/-! ### Tokens -/

theorem unq_err (t : Bs) : (unqS t).2 = 0 ∨ (unqS t).2 = 2 ∨ (unqS t).2 = 5 := by
  have hl : ∀ w, (lenE w).2 = 0 ∨ (lenE w).2 = 5 := fun w => by unfold lenE; split <;> simp
  unfold unqS
  split
  · split
    · rename_i w _; rcases hl w with h | h <;> simp [h]
    · simp
  · split
    · rcases hl t with h | h <;> simp [h]
    · simp

theorem next_err {s : Bs} {e : Int} (h : nextS s = .error e) : e ≠ 0 := by
  unfold nextS at h
  split at h
  · injection h with h; omega
  · rename_i c r'
    split at h
    · cases h
    split at h
    · cases h
    split at h
    · cases h
    split at h
    · injection h with h; omega
    · split at h
      · cases h
      split at h
      · cases h
      split at h
      · cases h
      · injection h with h; omega

def toTok (n : Nat) (t : RTok) : Tok := (t.1, (n : Int) - (t.2.1 : Int), t.2.2)
/-- What is answered: the tokens, or the place of an error. -/
def allS (s : Bs) : List Tok × Int × Int := match lexR s with
  | .ok l => (l.map (toTok s.length), 0, 0)
  | .error (k, e) => ([], (s.length : Int) - (k : Int), e)

theorem appE_app (a b : List RTok) (e : Except (Nat × Int) (List RTok)) : appE (a ++ b) e = appE a (appE b e) := by
  cases e with
  | ok l => simp [appE]
  | error e => rfl
theorem appE_cons (a : List RTok) (x : RTok) (e : Except (Nat × Int) (List RTok)) : appE a (consE x e) = appE (a ++ [x]) e := by
  cases e with
  | ok l => simp [appE, consE]
  | error e => rfl

end Go.Proofs.YtncgafojgdemdaaDoor.Vc
