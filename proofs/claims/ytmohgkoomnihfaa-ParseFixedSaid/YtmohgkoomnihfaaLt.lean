/-
  TOKENS OF A TEXT: what is left off, where a word ends, what it means; plain lists of bytes. No condition.
-/
import Derived.Test.YtmohgkoomnihfaaTa
set_option linter.unusedVariables false
set_option linter.unusedSimpArgs false
namespace Go.Proofs.Ytmohgkoomnihfaa.Vc

theorem u8_eq {a b : UInt8} : a = b ↔ a.toNat = b.toNat := UInt8.toNat_inj.symm

/-! ### Bytes -/

def bareB (c : UInt8) : Bool := (decide (97 ≤ c.toNat) && decide (c.toNat ≤ 122)) || (decide (65 ≤ c.toNat) && decide (c.toNat ≤ 90)) || (decide (48 ≤ c.toNat) && decide (c.toNat ≤ 57)) ||
  (c == 45 || c == 95 || c == 46 || c == 47 || c == 58 || c == 42)
def blankB (c : UInt8) : Bool := c == 32 || c == 9 || c == 10 || c == 13

theorem bare_not_blank {c : UInt8} (h : bareB c = true) : blankB c = false ∧ c ≠ 35 ∧ c ≠ 34 ∧ c ≠ 123 ∧ c ≠ 125 ∧ c ≠ 59 := by
  have h0 := c.toNat_lt
  simp only [bareB, blankB, Bool.or_eq_true, Bool.and_eq_true, decide_eq_true_eq, beq_iff_eq, u8_eq, Bool.or_eq_false_iff, beq_eq_false_iff_ne, ne_eq] at *
  simp only [UInt8.toNat_ofNat] at *
  omega

/-! ### What is left off -/

inductive Md where
  | n
  | l
  | o (s : Bs)
  | b (s : Bs)
  | e

/-- True, and what is left; false, and the comment that does not end. -/
def skipS : Md → Bs → Bool × Bs
  | .n, [] => (true, [])
  | .n, c :: r => if blankB c then skipS .n r else if c = 35 then skipS .l r else if c = 47 ∧ r.head? = some 42 then skipS (.o (c :: r)) r else (true, c :: r)
  | .l, [] => (true, [])
  | .l, c :: r => if c = 10 then skipS .n r else skipS .l r
  | .o s, [] => (false, s)
  | .o s, _ :: r => skipS (.b s) r
  | .b s, [] => (false, s)
  | .b s, c :: r => if c = 42 ∧ r.head? = some 47 then skipS .e r else skipS (.b s) r
  | .e, [] => (true, [])
  | .e, _ :: r => skipS .n r

/-- Does a token begin here? -/
def startB (s : Bs) : Prop := match s with
  | [] => True
  | c :: r => blankB c = false ∧ c ≠ 35 ∧ ¬(c = 47 ∧ r.head? = some 42)

theorem skip_start : ∀ (s : Bs) (m : Md), (skipS m s).1 = true → startB (skipS m s).2 := by
  intro s
  induction s with
  | nil => intro m h; cases m <;> simp [skipS, startB] at *
  | cons c r ih =>
    intro m h
    cases m <;> simp only [skipS] at h ⊢
    case n =>
      split
      · rename_i h1; rw [if_pos h1] at h; exact ih _ h
      · rename_i h1
        rw [if_neg h1] at h
        split
        · rename_i h2; rw [if_pos h2] at h; exact ih _ h
        · rename_i h2
          rw [if_neg h2] at h
          split
          · rename_i h3; rw [if_pos h3] at h; exact ih _ h
          · rename_i h3
            exact ⟨by simpa using h1, h2, h3⟩
    all_goals first
      | exact ih _ h
      | (split <;> rename_i h1 <;> simp only [h1, if_true, if_false] at h <;> exact ih _ h)

/-- What is left is an end of the text; a comment that does not end too, with its first byte. -/
theorem skip_suffix (t : Bs) : ∀ (s : Bs) (m : Md), s <:+ t → (match m with | .o x => x <:+ t ∧ x ≠ [] | .b x => x <:+ t ∧ x ≠ [] | _ => True) → (skipS m s).2 <:+ t ∧ ((skipS m s).1 = false → (skipS m s).2 ≠ []) := by
  intro s
  induction s with
  | nil => intro m h hm; cases m <;> simp [skipS] at * <;> first | exact h | exact hm
  | cons c r ih =>
    intro m h hm
    have hr : r <:+ t := (List.suffix_cons c r).trans h
    cases m <;> simp only [skipS]
    case n =>
      split
      · exact ih _ hr trivial
      · split
        · exact ih _ hr trivial
        · split
          · exact ih _ hr ⟨h, by simp⟩
          · exact ⟨h, by simp⟩
    case l => split <;> exact ih _ hr trivial
    case o x => exact ih _ hr hm
    case b x => split
                · exact ih _ hr trivial
                · exact ih _ hr hm
    case e => exact ih _ hr trivial

theorem skip_id {s : Bs} (h : startB s) : skipS .n s = (true, s) := by
  cases s with
  | nil => rfl
  | cons c r =>
    obtain ⟨h1, h2, h3⟩ := h
    simp only [skipS, h1, h2, h3, Bool.false_eq_true, if_false]

/-! ### Words -/

def quoS : Bool → Bs → Option Nat
  | _, [] => none
  | true, _ :: r => (quoS false r).map (· + 1)
  | false, c :: r => if c = 92 then (quoS true r).map (· + 1) else if c = 34 then some 1 else (quoS false r).map (· + 1)

def scanL : Bs → Option Nat
  | [] => none
  | c :: r => if c = 34 then (quoS false r).map (· + 1) else if ((c :: r).takeWhile bareB).length = 0 then none else some ((c :: r).takeWhile bareB).length

theorem quo_le : ∀ (s : Bs) (b : Bool) (k : Nat), quoS b s = some k → 1 ≤ k ∧ k ≤ s.length
  | [], b, k, h => by cases b <;> cases h
  | c :: r, true, k, h => by
    simp only [quoS, Option.map_eq_some_iff] at h
    obtain ⟨j, h1, rfl⟩ := h
    have := quo_le r false j h1
    simp; omega
  | c :: r, false, k, h => by
    simp only [quoS] at h
    split at h
    · obtain ⟨j, h1, rfl⟩ := Option.map_eq_some_iff.1 h
      have := quo_le r true j h1
      simp; omega
    · split at h
      · have : k = 1 := by simpa using h.symm
        subst this; simp
      · obtain ⟨j, h1, rfl⟩ := Option.map_eq_some_iff.1 h
        have := quo_le r false j h1
        simp; omega
theorem tw_le (p : UInt8 → Bool) (s : Bs) : (s.takeWhile p).length ≤ s.length := (List.takeWhile_prefix p).length_le
theorem scan_le {s : Bs} {k : Nat} (h : scanL s = some k) : 1 ≤ k ∧ k ≤ s.length := by
  cases s with
  | nil => cases h
  | cons c r =>
    simp only [scanL] at h
    split at h
    · obtain ⟨j, h1, rfl⟩ := Option.map_eq_some_iff.1 h
      have := quo_le r false j h1
      simp; omega
    · split at h
      · cases h
      · rename_i h1
        have h2 := tw_le bareB (c :: r)
        have : ((c :: r).takeWhile bareB).length = k := by simpa using h
        omega

theorem quo_app (t : Bs) : ∀ (s : Bs) (b : Bool) (k : Nat), quoS b s = some k → quoS b (s ++ t) = some k
  | [], b, k, h => by cases b <;> cases h
  | c :: r, true, k, h => by
    simp only [quoS, Option.map_eq_some_iff, List.cons_append] at h ⊢
    obtain ⟨j, h1, rfl⟩ := h
    exact ⟨j, quo_app t r false j h1, rfl⟩
  | c :: r, false, k, h => by
    simp only [quoS, List.cons_append] at h ⊢
    split at h
    · rename_i hc
      rw [if_pos hc]
      obtain ⟨j, h1, rfl⟩ := Option.map_eq_some_iff.1 h
      rw [quo_app t r true j h1]; rfl
    · rename_i hc
      rw [if_neg hc]
      split at h
      · rename_i h3; rw [if_pos h3]; exact h
      · rename_i h3
        rw [if_neg h3]
        obtain ⟨j, h1, rfl⟩ := Option.map_eq_some_iff.1 h
        rw [quo_app t r false j h1]; rfl

/-- The byte behind is none of a plain word's. -/
def stops (t : Bs) : Prop := ∀ c, t.head? = some c → bareB c = false
theorem tw_app {t : Bs} (ht : stops t) : ∀ (s : Bs), (s ++ t).takeWhile bareB = s.takeWhile bareB
  | [] => by
    cases t with
    | nil => rfl
    | cons c r => simp [List.takeWhile_cons, ht c rfl]
  | c :: r => by
    simp only [List.cons_append, List.takeWhile_cons]
    split
    · rw [tw_app ht r]
    · rfl
theorem scan_app {s t : Bs} {k : Nat} (ht : stops t) (h : scanL s = some k) : scanL (s ++ t) = some k := by
  cases s with
  | nil => cases h
  | cons c r =>
    simp only [scanL, List.cons_append] at h ⊢
    split at h
    · rename_i hc
      rw [if_pos hc]
      obtain ⟨j, h1, rfl⟩ := Option.map_eq_some_iff.1 h
      rw [quo_app t r false j h1]; rfl
    · rename_i hc
      rw [if_neg hc, ← List.cons_append, tw_app ht]
      exact h

def inactW : Bs := [105, 110, 97, 99, 116, 105, 118, 101, 58]
def protW : Bs := [112, 114, 111, 116, 101, 99, 116, 58]
/-- A plain word, but for its length. -/
def bareW (s : Bs) : Bool := !s.isEmpty && s.all bareB && !(s == inactW) && !(s == protW) && !([47, 42] : Bs).isPrefixOf s

def hexV (c : UInt8) : Option Nat := if 48 ≤ c.toNat ∧ c.toNat ≤ 57 then some (c.toNat - 48) else if 97 ≤ c.toNat ∧ c.toNat ≤ 102 then some (c.toNat - 97 + 10) else none
def innS : Bs → Option Bs
  | [] => some []
  | c :: r => if c = 34 ∨ c.toNat < 32 ∨ 126 < c.toNat then none else if c ≠ 92 then (innS r).map (c :: ·) else match r with
    | [] => none
    | d :: r' => if d = 34 ∨ d = 92 then (innS r').map (d :: ·) else if d ≠ 120 then none else match r' with
      | [] => none
      | [_] => none
      | a :: b :: r'' => match hexV a, hexV b with
        | some x, some y => (innS r'').map (UInt8.ofNat (16 * x + y) :: ·)
        | _, _ => none
def quotedB (s : Bs) : Bool := decide (2 ≤ s.length) && (s.head? == some 34) && (s.getLast? == some 34)
def lenE (s : Bs) : Bs × Int := if 40 < s.length then ([], 5) else (s, 0)
def unqS (s : Bs) : Bs × Int :=
  if quotedB s then match innS ((s.drop 1).take (s.length - 2)) with
    | some w => lenE w
    | none => ([], 2)
  else if bareW s then lenE s else ([], 2)

/-! ### Tokens: a kind, how much is left from it on, a word, a mark -/

abbrev Tok := Int × Int × Bs × Int
abbrev RTok := Int × Nat × Bs × Int
/-- The token that stands here, and what is left; or an error. -/
def nextS (s : Bs) : Except Int (RTok × Bs) :=
  match s with
  | [] => .error 2
  | c :: r =>
    if c = 123 then .ok ((2, s.length, [], 0), r) else if c = 125 then .ok ((3, s.length, [], 0), r) else if c = 59 then .ok ((4, s.length, [], 0), r) else
    match scanL s with
    | none => .error 2
    | some k =>
      if s.take k = inactW then .ok ((5, s.length, [], 1), s.drop k) else if s.take k = protW then .ok ((5, s.length, [], 2), s.drop k) else
      if (unqS (s.take k)).2 = 0 then .ok ((1, s.length, (unqS (s.take k)).1, 0), s.drop k) else .error (unqS (s.take k)).2

theorem next_lt {s : Bs} {t : RTok} {r : Bs} (h : nextS s = .ok (t, r)) : r.length < s.length := by
  unfold nextS at h
  split at h
  · cases h
  · rename_i c r'
    have aux : ∀ {k : Nat}, scanL (c :: r') = some k → ((c :: r').drop k).length < (c :: r').length := fun {k} hk => by
      have := scan_le hk
      rw [List.length_drop]; omega
    repeat' split at h
    all_goals first
      | (cases h; done)
      | (injection h with h; injection h with h1 h2; subst h2; first | (simp; done) | (exact aux (by assumption)))

theorem skip_len (s : Bs) (m : Md) (hm : match m with | .o _ => False | .b _ => False | _ => True) : (skipS m s).2.length ≤ s.length := by
  have := (skip_suffix s s m (List.suffix_refl s) (by cases m <;> simp at hm ⊢)).1
  exact this.length_le

def consE (x : RTok) (e : Except (Nat × Int) (List RTok)) : Except (Nat × Int) (List RTok) :=
  match e with
  | .ok l => .ok (x :: l)
  | .error e => .error e
def appE (x : List RTok) (e : Except (Nat × Int) (List RTok)) : Except (Nat × Int) (List RTok) :=
  match e with
  | .ok l => .ok (x ++ l)
  | .error e => .error e

/-- The tokens, from the front on; so many rounds at most. -/
def lexF : Nat → Bs → Except (Nat × Int) (List RTok)
  | 0, _ => .error (0, 0)
  | f + 1, s => match (skipS .n s).1 with
    | false => .error ((skipS .n s).2.length, 2)
    | true => match (skipS .n s).2 with
      | [] => .ok []
      | c :: r => match nextS (c :: r) with
        | .error e => .error ((c :: r).length, e)
        | .ok (t, r') => consE t (lexF f r')
def lexR (s : Bs) : Except (Nat × Int) (List RTok) := lexF (s.length + 1) s

theorem lexF_more : ∀ (f g : Nat) (s : Bs), s.length < f → s.length < g → lexF f s = lexF g s
  | 0, _, _, h, _ => by omega
  | _, 0, _, _, h => by omega
  | f + 1, g + 1, s, hf, hg => by
    simp only [lexF]
    split
    · rfl
    · split
      · rfl
      · rename_i c r hr
        split
        · rfl
        · rename_i t r' hn
          have h1 := next_lt hn
          have h2 := skip_len s .n trivial
          rw [hr] at h2
          rw [lexF_more f g r' (by omega) (by omega)]
theorem lexR_eq (s : Bs) : lexR s = match (skipS .n s).1 with
    | false => .error ((skipS .n s).2.length, 2)
    | true => match (skipS .n s).2 with
      | [] => .ok []
      | c :: r => match nextS (c :: r) with
        | .error e => .error ((c :: r).length, e)
        | .ok (t, r') => consE t (lexR r') := by
  unfold lexR
  rw [lexF]
  split
  · rfl
  · split
    · rfl
    · rename_i c r hr
      split
      · rfl
      · rename_i t r' hn
        have h1 := next_lt hn
        have h2 := skip_len s .n trivial
        rw [hr] at h2
        rw [lexF_more s.length (r'.length + 1) r' (by omega) (by omega)]

/-- What holds of a text's tokens, from the back on. -/
theorem lexR_ind {P : Bs → List RTok → Prop} (h0 : ∀ s, skipS .n s = (true, []) → P s [])
    (h1 : ∀ s c r k r' l, skipS .n s = (true, c :: r) → nextS (c :: r) = .ok (k, r') → lexR r' = .ok l → P r' l → P s (k :: l)) : ∀ (n : Nat) (s : Bs) (l : List RTok), s.length ≤ n → lexR s = .ok l → P s l := by
  intro n
  induction n with
  | zero =>
    intro s l hn h
    have : s = [] := List.eq_nil_of_length_eq_zero (by omega)
    subst this
    have : l = [] := by simpa [lexR, lexF, skipS] using h.symm
    subst this
    exact h0 [] rfl
  | succ n ih =>
    intro s l hn h
    rw [lexR_eq] at h
    cases hb : (skipS .n s).1 with
    | false => rw [hb] at h; cases h
    | true =>
      rw [hb] at h
      dsimp only at h
      cases hr : (skipS .n s).2 with
      | nil =>
        rw [hr] at h
        have : l = [] := by simpa using h.symm
        subst this
        exact h0 s (Prod.ext hb hr)
      | cons c r =>
        rw [hr] at h
        dsimp only at h
        cases hn' : nextS (c :: r) with
        | error e => rw [hn'] at h; cases h
        | ok kr =>
          obtain ⟨k, r'⟩ := kr
          rw [hn'] at h
          dsimp only at h
          cases hl : lexR r' with
          | error e => rw [hl] at h; cases h
          | ok l' =>
            rw [hl] at h
            have : k :: l' = l := by simpa [consE] using h
            subst this
            have g1 := next_lt hn'
            have g2 := skip_len s .n trivial
            rw [hr] at g2
            exact h1 s c r k r' l' (Prod.ext hb hr) hn' hl (ih r' l' (by omega) hl)

/-- No more tokens than bytes. -/
theorem lex_len (s : Bs) (l : List RTok) (h : lexR s = .ok l) : l.length ≤ s.length :=
  lexR_ind (P := fun s l => l.length ≤ s.length) (fun s _ => by simp) (fun s c r k r' l' hs hn _ ih => by
    have g1 := next_lt hn
    have g2 := skip_len s .n trivial
    rw [hs] at g2
    simp only at g2
    simp only [List.length_cons] at g1 g2 ⊢
    omega) s.length s l (Nat.le_refl _) h

/-- Texts of which the same is left have the same tokens. -/
theorem lexR_congr {s t : Bs} (h : skipS .n s = skipS .n t) : lexR s = lexR t := by rw [lexR_eq s, lexR_eq t, h]
theorem lexR_skip {s r : Bs} (h : skipS .n s = (true, r)) : lexR s = lexR r := lexR_congr (by rw [h, skip_id]; have := skip_start s .n (by rw [h]); rwa [h] at this)
theorem lexR_tok {s r : Bs} {t : RTok} (h0 : startB s) (hn : s ≠ []) (h : nextS s = .ok (t, r)) : lexR s = consE t (lexR r) := by
  rw [lexR_eq, skip_id h0]
  cases s with
  | nil => exact absurd rfl hn
  | cons c s => simp only [h]

/-! ### A text, and a byte 10 behind it -/

def shiftT (k : Nat) (t : RTok) : RTok := (t.1, t.2.1 + k, t.2.2)

/-- Modes of one kind. -/
def Md.like : Md → Md → Prop
  | .n, .n => True
  | .l, .l => True
  | .o _, .o _ => True
  | .b _, .b _ => True
  | .e, .e => True
  | _, _ => False

theorem head_app10 (r t : Bs) (x : UInt8) (hx : x ≠ 10) : (r ++ 10 :: t).head? = some x ↔ r.head? = some x := by
  cases r with
  | nil => simp [Ne.symm hx]
  | cons c r => simp

theorem skip_app (t : Bs) : ∀ (s : Bs) (m m' : Md), m.like m' → (skipS m s).1 = true → skipS m' (s ++ 10 :: t) = match (skipS m s).2 with | [] => skipS .n t | c :: r => (true, c :: r ++ 10 :: t) := by
  intro s
  induction s with
  | nil =>
    intro m m' hl h
    cases m <;> cases m' <;> simp only [Md.like] at hl <;> simp [skipS, blankB] at h ⊢
  | cons c r ih =>
    intro m m' hl h
    cases m <;> cases m' <;> simp only [Md.like] at hl <;> simp only [skipS, List.cons_append] at h ⊢
    case n.n =>
      split
      · rename_i h1; rw [if_pos h1] at h; exact ih _ _ trivial h
      · rename_i h1
        rw [if_neg h1] at h
        split
        · rename_i h2; rw [if_pos h2] at h; exact ih _ _ trivial h
        · rename_i h2
          rw [if_neg h2] at h
          simp only [head_app10 r t 42 (by decide)]
          split
          · rename_i h3; rw [if_pos h3] at h; exact ih _ _ trivial h
          · rfl
    case l.l =>
      split <;> rename_i h1 <;> simp only [h1, if_true, if_false] at h <;> exact ih _ _ trivial h
    case o.o x y => exact ih _ _ trivial h
    case b.b x y =>
      simp only [head_app10 r t 47 (by decide)]
      split
      · rename_i h1; rw [if_pos h1] at h; exact ih _ _ trivial h
      · rename_i h1; rw [if_neg h1] at h; exact ih _ _ trivial h
    case e.e => exact ih _ _ trivial h

theorem next_app {s r t : Bs} {k : RTok} (ht : stops t) (h : nextS s = .ok (k, r)) : nextS (s ++ t) = .ok (shiftT t.length k, r ++ t) := by
  unfold nextS at h
  split at h
  · cases h
  · rename_i c r'
    have aux : ∀ {j : Nat}, scanL (c :: r') = some j → (c :: r' ++ t).take j = (c :: r').take j ∧ (c :: r' ++ t).drop j = (c :: r').drop j ++ t := fun {j} hj => by
      have := scan_le hj
      rw [List.take_append_of_le_length (by omega), List.drop_append_of_le_length (by omega)]
      exact ⟨rfl, rfl⟩
    simp only [nextS, List.cons_append]
    by_cases h1 : c = 123
    · rw [if_pos h1] at h ⊢; injection h with h; injection h with h2 h3; subst h2; subst h3; simp [shiftT]; omega
    rw [if_neg h1] at h ⊢
    by_cases h1 : c = 125
    · rw [if_pos h1] at h ⊢; injection h with h; injection h with h2 h3; subst h2; subst h3; simp [shiftT]; omega
    rw [if_neg h1] at h ⊢
    by_cases h1 : c = 59
    · rw [if_pos h1] at h ⊢; injection h with h; injection h with h2 h3; subst h2; subst h3; simp [shiftT]; omega
    rw [if_neg h1] at h ⊢
    split at h
    · cases h
    · rename_i j hj
      obtain ⟨a1, a2⟩ := aux hj
      have hs := scan_app ht hj
      simp only [List.cons_append] at hs a1 a2
      rw [hs]
      dsimp only
      rw [a1, a2]
      have fin : ∀ {x : RTok} {q : Bs} {g : Int × Bs × Int}, (Except.ok ((g.1, (c :: r').length, g.2), q) : Except Int (RTok × Bs)) = .ok (k, r) → (Except.ok ((g.1, (c :: (r' ++ t)).length, g.2), q ++ t) : Except Int (RTok × Bs)) = .ok (shiftT t.length k, r ++ t) := fun {x q g} he => by
        injection he with he
        injection he with h2 h3
        subst h2; subst h3
        simp only [shiftT, List.length_cons, List.length_append]
        rw [show r'.length + 1 + t.length = r'.length + t.length + 1 by omega]
      by_cases h4 : (c :: r').take j = inactW
      · rw [if_pos h4] at h ⊢; exact fin (x := k) (g := (5, [], 1)) h
      rw [if_neg h4] at h ⊢
      by_cases h4 : (c :: r').take j = protW
      · rw [if_pos h4] at h ⊢; exact fin (x := k) (g := (5, [], 2)) h
      rw [if_neg h4] at h ⊢
      by_cases h4 : (unqS ((c :: r').take j)).2 = 0
      · rw [if_pos h4] at h ⊢; exact fin (x := k) (g := (1, _, 0)) h
      rw [if_neg h4] at h; cases h

theorem stops10 (t : Bs) : stops (10 :: t) := fun c h => by
  have : c = 10 := by simpa using h.symm
  subst this; rfl

/-- The tokens of a text, and of what is behind a byte 10. -/
theorem lex_joins (t : Bs) : ∀ (n : Nat) (s : Bs) (a : List RTok), s.length ≤ n → lexR s = .ok a → lexR (s ++ 10 :: t) = appE (a.map (shiftT (t.length + 1))) (lexR t) := by
  intro n
  induction n with
  | zero =>
    intro s a hn h
    have : s = [] := List.eq_nil_of_length_eq_zero (by omega)
    subst this
    have : a = [] := by simpa [lexR, lexF, skipS] using h.symm
    subst this
    have : lexR (10 :: t) = lexR t := lexR_congr (by simp [skipS, blankB])
    rw [List.nil_append, this]
    cases lexR t <;> rfl
  | succ n ih =>
    intro s a hn h
    rw [lexR_eq] at h
    split at h
    · cases h
    · rename_i hb
      have hsk := skip_app t s .n .n trivial hb
      split at h
      · rename_i hr
        have : a = [] := by simpa using h.symm
        subst this
        rw [hr] at hsk
        rw [lexR_congr hsk]
        cases lexR t <;> rfl
      · rename_i c r hr
        rw [hr] at hsk
        have hst := skip_start s .n hb
        rw [hr] at hst
        split at h
        · cases h
        · rename_i k r' hnx
          have h1 := next_lt hnx
          have h2 := skip_len s .n trivial
          rw [hr] at h2
          cases hl : lexR r' with
          | error e => rw [hl] at h; cases h
          | ok b =>
            rw [hl] at h
            have : k :: b = a := by simpa [consE] using h
            subst this
            have i1 := ih r' b (by simp at h1 h2; omega) hl
            rw [lexR_skip hsk, lexR_tok (by have := skip_start (s ++ 10 :: t) .n (by rw [hsk]); rwa [hsk] at this) (by simp) (next_app (stops10 t) hnx)]
            simp only [List.length_cons]
            rw [i1]
            cases lexR t <;> rfl

/-! ### Comments -/

theorem skip_note (s t : Bs) : ∀ (note : Bs), (∀ c ∈ note, c ≠ 42 ∧ c ≠ 10) → skipS (.b s) (note ++ 42 :: 47 :: t) = skipS .n t ∧ skipS .l (note ++ 10 :: t) = skipS .n t
  | [], _ => by simp [skipS]
  | c :: r, h => by
    obtain ⟨h1, h2⟩ := h c List.mem_cons_self
    obtain ⟨i1, i2⟩ := skip_note s t r fun x hx => h x (List.mem_cons_of_mem _ hx)
    simp only [List.cons_append, skipS, h1, h2, false_and, if_false]
    exact ⟨i1, i2⟩
theorem skip_long (note t : Bs) (h : ∀ c ∈ note, c ≠ 42 ∧ c ≠ 10) : lexR (47 :: 42 :: note ++ 42 :: 47 :: t) = lexR t := lexR_congr (by
  simp only [List.cons_append, skipS]
  rw [if_neg (by decide), if_neg (by decide), if_pos (by simp)]
  exact (skip_note _ t note h).1)
theorem skip_short (note t : Bs) (h : ∀ c ∈ note, c ≠ 42 ∧ c ≠ 10) : lexR (35 :: note ++ 10 :: t) = lexR t := lexR_congr (by
  simp only [List.cons_append, skipS]
  rw [if_neg (by decide)]
  simp only [if_true]
  exact (skip_note [] t note h).2)

end Go.Proofs.Ytmohgkoomnihfaa.Vc
