/-
  WORDS AS THEY ARE WRITTEN, AND READ AGAIN: plain lists of bytes. No condition.
-/
import Derived.Test.YtmohgkoomnihfaaQd
set_option linter.unusedVariables false
set_option linter.unusedSimpArgs false
namespace Go.Proofs.Ytmohgkoomnihfaa.Vc

theorem dig_hex : ∀ n : Nat, n < 16 → hexV (digS n) = some n ∧ digS n ≠ 92 ∧ digS n ≠ 34 := of_decide_eq_true (by kernel_rfl)
theorem u8_parts (c : UInt8) : UInt8.ofNat (16 * (c.toNat / 16) + c.toNat % 16) = c := by
  rw [Nat.div_add_mod, UInt8.ofNat_toNat]

theorem quo_esc (c : UInt8) (r : Bs) : quoS false (escS c ++ r) = (quoS false r).map (· + (escS c).length) := by
  unfold escS
  have h0 := c.toNat_lt
  by_cases h1 : c = 34 ∨ c = 92
  · rw [if_pos h1]
    simp only [List.cons_append, List.nil_append, quoS, if_true, Option.map_map, List.length_cons, List.length_nil]
    rfl
  · rw [if_neg h1]
    by_cases h2 : c.toNat < 32 ∨ 126 < c.toNat
    · rw [if_pos h2]
      obtain ⟨_, a1, a2⟩ := dig_hex (c.toNat / 16) (by omega)
      obtain ⟨_, b1, b2⟩ := dig_hex (c.toNat % 16) (by omega)
      simp only [List.cons_append, List.nil_append, quoS, if_true, if_neg a1, if_neg a2, if_neg b1, if_neg b2, Option.map_map, List.length_cons, List.length_nil]
      rfl
    · rw [if_neg h2]
      have h3 : ¬ c = 92 := fun h => h1 (.inr h)
      have h4 : ¬ c = 34 := fun h => h1 (.inl h)
      simp only [List.cons_append, List.nil_append, quoS, if_neg h3, if_neg h4, List.length_cons, List.length_nil]

theorem quo_escW (t : Bs) : ∀ w : Bs, quoS false (escW w ++ 34 :: t) = some ((escW w).length + 1)
  | [] => by simp [escW, quoS]
  | c :: w => by
    have ih := quo_escW t w
    unfold escW at ih ⊢
    rw [List.flatMap_cons, List.append_assoc, quo_esc, ih, List.length_append]
    simp only [Option.map_some, Option.some.injEq]
    omega

theorem inn_esc (c : UInt8) (r : Bs) : innS (escS c ++ r) = (innS r).map (c :: ·) := by
  unfold escS
  have h0 := c.toNat_lt
  by_cases h1 : c = 34 ∨ c = 92
  · rw [if_pos h1]
    simp only [List.cons_append, List.nil_append]
    rw [inn_piece]
    have : pieceS (92 :: c :: r) = some (c, 2) := by
      unfold pieceS
      simp [h1]
    rw [this]; rfl
  · rw [if_neg h1]
    by_cases h2 : c.toNat < 32 ∨ 126 < c.toNat
    · rw [if_pos h2]
      obtain ⟨a0, _, _⟩ := dig_hex (c.toNat / 16) (by omega)
      obtain ⟨b0, _, _⟩ := dig_hex (c.toNat % 16) (by omega)
      simp only [List.cons_append, List.nil_append]
      rw [inn_piece]
      have : pieceS (92 :: 120 :: digS (c.toNat / 16) :: digS (c.toNat % 16) :: r) = some (c, 4) := by
        unfold pieceS
        simp only [a0, b0]
        rw [u8_parts]; rfl
      rw [this]; rfl
    · rw [if_neg h2]
      simp only [List.cons_append, List.nil_append]
      rw [inn_piece]
      have : pieceS (c :: r) = some (c, 1) := by
        unfold pieceS
        rw [if_neg (fun h => by rcases h with h | h; exact h1 (.inl h); exact h2 h), if_pos (fun h => h1 (.inr h))]
      rw [this]; rfl
theorem inn_escW : ∀ w : Bs, innS (escW w) = some w
  | [] => by simp [escW, innS]
  | c :: w => by
    have ih := inn_escW w
    unfold escW at ih ⊢
    rw [List.flatMap_cons, inn_esc, ih]; rfl

theorem bareW_iff {w : Bs} : bareW w = true ↔ w ≠ [] ∧ w.all bareB = true ∧ w ≠ inactW ∧ w ≠ protW ∧ ([47, 42] : Bs).isPrefixOf w = false := by
  unfold bareW
  simp only [Bool.and_eq_true, Bool.not_eq_true', List.isEmpty_eq_false_iff, beq_eq_false_iff_ne, ne_eq, and_assoc]

theorem bare_head {c : UInt8} {r : Bs} (h : bareW (c :: r) = true) : bareB c = true := by
  have := (bareW_iff.1 h).2.1
  simp only [List.all_cons, Bool.and_eq_true] at this
  exact this.1

theorem scan_bare {w t : Bs} (h : w.all bareB = true) (hne : w ≠ []) (ht : stops t) : scanL (w ++ t) = some w.length := by
  cases w with
  | nil => exact absurd rfl hne
  | cons c r =>
    have hc : bareB c = true := by simp only [List.all_cons, Bool.and_eq_true] at h; exact h.1
    have h34 := (bare_not_blank hc).2.2.1
    simp only [List.cons_append, scanL]
    rw [if_neg h34, ← List.cons_append, tw_app ht, (tw_all (c :: r)).2 h]
    simp

theorem scan_quote (w t : Bs) (ht : stops t) : scanL (quoteS w ++ t) = some (quoteS w).length := by
  unfold quoteS
  by_cases h : bareW w = true
  · rw [if_pos h]
    exact scan_bare (bareW_iff.1 h).2.1 (bareW_iff.1 h).1 ht
  · rw [if_neg h]
    simp only [List.cons_append, scanL, if_true, List.append_assoc, List.nil_append]
    rw [quo_escW]
    simp

theorem unq_quote (w : Bs) (h40 : w.length ≤ 40) : unqS (quoteS w) = (w, 0) := by
  have hl : lenE w = (w, 0) := by unfold lenE; rw [if_neg (by omega)]
  unfold quoteS unqS
  by_cases h : bareW w = true
  · rw [if_pos h]
    have : quotedB w = false := by
      cases w with
      | nil => rfl
      | cons c r =>
        have := (bare_not_blank (bare_head h)).2.2.1
        unfold quotedB
        simp [this]
    rw [this, h]
    simp [hl]
  · rw [if_neg h]
    have : quotedB (34 :: (escW w ++ [34])) = true := by
      unfold quotedB
      simp [List.getLast?_cons]
    rw [this]
    simp only [if_true, List.drop_succ_cons, List.drop_zero, List.length_cons, List.length_append, List.length_nil]
    rw [show (escW w).length + (0 + 1) + 1 - 2 = (escW w).length by omega, List.take_left, inn_escW]
    exact hl

theorem quote_ne (w : Bs) : quoteS w ≠ inactW ∧ quoteS w ≠ protW := by
  unfold quoteS
  by_cases h : bareW w = true
  · rw [if_pos h]; exact ⟨(bareW_iff.1 h).2.2.1, (bareW_iff.1 h).2.2.2.1⟩
  · rw [if_neg h]
    exact ⟨fun e => absurd (List.cons.inj e).1 (by decide), fun e => absurd (List.cons.inj e).1 (by decide)⟩

/-- How a word begins. -/
theorem quote_head (w : Bs) : ∃ c r, quoteS w = c :: r ∧ blankB c = false ∧ c ≠ 35 ∧ c ≠ 123 ∧ c ≠ 125 ∧ c ≠ 59 ∧ (c = 47 → r.head? ≠ some 42) := by
  unfold quoteS
  by_cases h : bareW w = true
  · rw [if_pos h]
    cases w with
    | nil => exact absurd rfl (bareW_iff.1 h).1
    | cons c r =>
      obtain ⟨h1, h2, h3, h4, h5, h6⟩ := bare_not_blank (bare_head h)
      refine ⟨c, r, rfl, h1, h2, h4, h5, h6, fun hc hr => ?_⟩
      have := (bareW_iff.1 h).2.2.2.2
      rw [(pre2 47 42 c r).2 ⟨hc, hr⟩] at this
      cases this
  · rw [if_neg h]
    exact ⟨34, _, rfl, by decide, by decide, by decide, by decide, by decide, fun e => absurd e (by decide)⟩

theorem stops_head {t : Bs} (h : stops t) : t.head? ≠ some 42 := fun e => by
  have := h 42 e
  exact absurd this (by decide)

theorem start_app {c : UInt8} {r t : Bs} (h1 : blankB c = false) (h2 : c ≠ 35) (h3 : c = 47 → r.head? ≠ some 42) (ht : stops t) : startB (c :: r ++ t) := by
  refine ⟨h1, h2, fun ⟨e1, e2⟩ => ?_⟩
  cases r with
  | nil => exact stops_head ht e2
  | cons d r => exact h3 e1 (by simpa using e2)

theorem lex_quote (w t : Bs) (h40 : w.length ≤ 40) (ht : stops t) : lexR (quoteS w ++ t) = consE (1, (quoteS w ++ t).length, w, 0) (lexR t) := by
  have hs := scan_quote w t ht
  have hu := unq_quote w h40
  obtain ⟨n1, n2⟩ := quote_ne w
  obtain ⟨c, r, hq, h1, h2, h3, h4, h5, h6⟩ := quote_head w
  rw [hq] at hs hu n1 n2 ⊢
  refine lexR_tok (start_app h1 h2 h6 ht) (by simp) ?_
  simp only [List.cons_append] at hs ⊢
  unfold nextS
  simp only [if_neg h3, if_neg h4, if_neg h5, hs]
  have ht1 : (c :: (r ++ t)).take (c :: r).length = c :: r := by rw [← List.cons_append, List.take_left]
  have ht2 : (c :: (r ++ t)).drop (c :: r).length = t := by rw [← List.cons_append, List.drop_left]
  rw [ht1, ht2, if_neg n1, if_neg n2, hu]
  rfl

/-! ### Tokens as they are written -/

def tokW (k : Tok) : Bs := if k.1 = 1 then quoteS k.2.2.1 else if k.1 = 2 then [123] else if k.1 = 3 then [125] else if k.1 = 4 then [59] else if k.2.2.2 = 1 then inactW else protW
def goodK (k : RTok) : Prop := (k.1 = 1 ∧ k.2.2.1.length ≤ 40 ∧ k.2.2.2 = 0) ∨ ((k.1 = 2 ∨ k.1 = 3 ∨ k.1 = 4) ∧ k.2.2.1 = [] ∧ k.2.2.2 = 0) ∨ (k.1 = 5 ∧ k.2.2.1 = [] ∧ (k.2.2.2 = 1 ∨ k.2.2.2 = 2))

theorem lenE_le {w : Bs} (h : (lenE w).2 = 0) : (lenE w).1.length ≤ 40 := by
  unfold lenE at h ⊢
  split
  · simp
  · rename_i h1; simp only; omega
theorem unq_le {s : Bs} (h : (unqS s).2 = 0) : (unqS s).1.length ≤ 40 := by
  unfold unqS at h ⊢
  split
  · rename_i h1
    rw [if_pos h1] at h
    split
    · rename_i w h2; rw [h2] at h; exact lenE_le h
    · simp
  · rename_i h1
    rw [if_neg h1] at h
    split
    · rename_i h2; rw [if_pos h2] at h; exact lenE_le h
    · simp

theorem next_good {s : Bs} {k : RTok} {r : Bs} (h : nextS s = .ok (k, r)) : goodK k := by
  unfold nextS at h
  split at h
  · cases h
  · rename_i c r'
    split at h
    · injection h with h; injection h with h1 h2; subst h1; exact .inr (.inl ⟨.inl rfl, rfl, rfl⟩)
    split at h
    · injection h with h; injection h with h1 h2; subst h1; exact .inr (.inl ⟨.inr (.inl rfl), rfl, rfl⟩)
    split at h
    · injection h with h; injection h with h1 h2; subst h1; exact .inr (.inl ⟨.inr (.inr rfl), rfl, rfl⟩)
    split at h
    · cases h
    split at h
    · injection h with h; injection h with h1 h2; subst h1; exact .inr (.inr ⟨rfl, rfl, .inl rfl⟩)
    split at h
    · injection h with h; injection h with h1 h2; subst h1; exact .inr (.inr ⟨rfl, rfl, .inr rfl⟩)
    split at h
    · rename_i h0; injection h with h; injection h with h1 h2; subst h1; exact .inl ⟨rfl, unq_le h0, rfl⟩
    · cases h
theorem lex_good {s : Bs} {l : List RTok} (h : lexR s = .ok l) : ∀ k ∈ l, goodK k :=
  lexR_ind (P := fun _ l => ∀ k ∈ l, goodK k) (fun s _ k hk => (by cases hk)) (fun s c r k r' l' _ hn _ ih x hx => by
    rcases List.mem_cons.1 hx with rfl | hx
    · exact next_good hn
    · exact ih x hx) s.length s l (Nat.le_refl _) h

theorem lex_sign (c : UInt8) (q : Int) (t : Bs) (h : (c = 123 ∧ q = 2) ∨ (c = 125 ∧ q = 3) ∨ (c = 59 ∧ q = 4)) : lexR (c :: t) = consE (q, t.length + 1, [], 0) (lexR t) := by
  rcases h with ⟨rfl, rfl⟩ | ⟨rfl, rfl⟩ | ⟨rfl, rfl⟩
  all_goals exact lexR_tok ⟨by decide, by decide, fun h => absurd h.1 (by decide)⟩ (by simp) rfl

theorem lex_mark (m : Bs) (q : Int) (t : Bs) (ht : stops t) (h : (m = inactW ∧ q = 1) ∨ (m = protW ∧ q = 2)) : lexR (m ++ t) = consE (5, (m ++ t).length, [], q) (lexR t) := by
  have hs : scanL (m ++ t) = some m.length := scan_bare (by rcases h with ⟨rfl, _⟩ | ⟨rfl, _⟩ <;> decide) (by rcases h with ⟨rfl, _⟩ | ⟨rfl, _⟩ <;> decide) ht
  have hm : ∃ c r, m = c :: r ∧ blankB c = false ∧ c ≠ 35 ∧ c ≠ 47 ∧ c ≠ 123 ∧ c ≠ 125 ∧ c ≠ 59 := by
    rcases h with ⟨rfl, _⟩ | ⟨rfl, _⟩
    · exact ⟨105, _, rfl, by decide, by decide, by decide, by decide, by decide, by decide⟩
    · exact ⟨112, _, rfl, by decide, by decide, by decide, by decide, by decide, by decide⟩
  obtain ⟨c, r, rfl, h1, h2, h3, h4, h5, h6⟩ := hm
  refine lexR_tok (start_app h1 h2 (fun e => absurd e h3) ht) (by simp) ?_
  simp only [List.cons_append] at hs ⊢
  unfold nextS
  simp only [if_neg h4, if_neg h5, if_neg h6, hs]
  have ht1 : (c :: (r ++ t)).take (c :: r).length = c :: r := by rw [← List.cons_append, List.take_left]
  have ht2 : (c :: (r ++ t)).drop (c :: r).length = t := by rw [← List.cons_append, List.drop_left]
  rw [ht1, ht2]
  rcases h with ⟨e, rfl⟩ | ⟨e, rfl⟩
  · rw [if_pos e]
  · rw [if_neg (by rw [e]; decide), if_pos e]

/-- A token, but for its place. -/
def bareT (k : RTok) : Int × Bs × Int := (k.1, k.2.2)
theorem lex_tok (k : Tok) (hg : goodK (k.1, 0, k.2.2)) (t : Bs) (ht : stops t) : ∃ k', bareT k' = (k.1, k.2.2) ∧ lexR (tokW k ++ t) = consE k' (lexR t) := by
  obtain ⟨q, a, w, b⟩ := k
  unfold tokW
  simp only [goodK] at hg
  rcases hg with ⟨h1, h2, h3⟩ | ⟨h1, h2, h3⟩ | ⟨h1, h2, h3⟩
  · subst h1; subst h3
    exact ⟨_, rfl, lex_quote w t h2 ht⟩
  · subst h2; subst h3
    rcases h1 with rfl | rfl | rfl
    · exact ⟨_, rfl, lex_sign 123 2 t (.inl ⟨rfl, rfl⟩)⟩
    · exact ⟨_, rfl, lex_sign 125 3 t (.inr (.inl ⟨rfl, rfl⟩))⟩
    · exact ⟨_, rfl, lex_sign 59 4 t (.inr (.inr ⟨rfl, rfl⟩))⟩
  · subst h1; subst h2
    rcases h3 with rfl | rfl
    · exact ⟨_, rfl, lex_mark inactW 1 t ht (.inl ⟨rfl, rfl⟩)⟩
    · exact ⟨_, rfl, lex_mark protW 2 t ht (.inr ⟨rfl, rfl⟩)⟩

def textT (l : List Tok) : Bs := l.flatMap fun k => 32 :: tokW k
def textS : List Tok → Bs
  | [] => []
  | k :: l => tokW k ++ textT l

theorem stops_textT : ∀ l : List Tok, stops (textT l)
  | [], c, h => by simp [textT] at h
  | k :: l, c, h => by
    have : c = 32 := by simpa [textT] using h.symm
    subst this; decide

theorem lex_textT : ∀ (l : List Tok), (∀ k ∈ l, goodK (k.1, 0, k.2.2)) → ∃ l', lexR (textT l) = .ok l' ∧ l'.map bareT = l.map fun k => (k.1, k.2.2)
  | [], _ => ⟨[], rfl, rfl⟩
  | k :: l, h => by
    obtain ⟨l', h1, h2⟩ := lex_textT l fun x hx => h x (List.mem_cons_of_mem _ hx)
    obtain ⟨k', h3, h4⟩ := lex_tok k (h k List.mem_cons_self) (textT l) (stops_textT l)
    have : lexR (textT (k :: l)) = lexR (tokW k ++ textT l) := lexR_congr (by
      unfold textT
      rw [List.flatMap_cons, List.cons_append]
      rfl)
    refine ⟨k' :: l', by rw [this, h4, h1]; rfl, by rw [List.map_cons, List.map_cons, h2, h3]⟩

/-- Tokens, written one blank apart, are the same tokens. -/
theorem lex_text (l : List Tok) (h : ∀ k ∈ l, goodK (k.1, 0, k.2.2)) : ∃ l', lexR (textS l) = .ok l' ∧ l'.map bareT = l.map fun k => (k.1, k.2.2) := by
  cases l with
  | nil => exact ⟨[], rfl, rfl⟩
  | cons k l =>
    obtain ⟨l', h1, h2⟩ := lex_textT l fun x hx => h x (List.mem_cons_of_mem _ hx)
    obtain ⟨k', h3, h4⟩ := lex_tok k (h k List.mem_cons_self) (textT l) (stops_textT l)
    exact ⟨k' :: l', by unfold textS; rw [h4, h1]; rfl, by rw [List.map_cons, List.map_cons, h2, h3]⟩

/-! ### Where tokens stand -/

def Rising : Nat → List RTok → Prop
  | _, [] => True
  | b, k :: l => k.2.1 ≤ b ∧ 1 ≤ k.2.1 ∧ Rising (k.2.1 - 1) l
theorem Rising.mono : ∀ {l : List RTok} {a b : Nat}, Rising a l → a ≤ b → Rising b l
  | [], _, _, _, _ => trivial
  | k :: l, a, b, h, hab => ⟨Nat.le_trans h.1 hab, h.2.1, h.2.2⟩

/-- A token of a sign stands at that sign, none at a blank. -/
def Stands (s : Bs) (k : RTok) : Prop := ∃ c r, c :: r <:+ s ∧ (c :: r).length = k.2.1 ∧ (k.1 = 2 ↔ c = 123) ∧ (k.1 = 3 ↔ c = 125) ∧ (k.1 = 4 ↔ c = 59) ∧ c ≠ 32 ∧ c ≠ 10 ∧ c ≠ 35

theorem next_stands {c : UInt8} {r : Bs} {k : RTok} {r' : Bs} (h : nextS (c :: r) = .ok (k, r')) : k.2.1 = (c :: r).length ∧ (k.1 = 2 ↔ c = 123) ∧ (k.1 = 3 ↔ c = 125) ∧ (k.1 = 4 ↔ c = 59) ∧ r' <:+ c :: r := by
  unfold nextS at h
  try dsimp only at h
  by_cases h1 : c = 123
  · rw [if_pos h1] at h; injection h with h; injection h with h2 h3; subst h2; subst h3
    subst h1
    exact ⟨rfl, by simp, by simp, by simp, List.suffix_cons _ _⟩
  rw [if_neg h1] at h
  by_cases h2 : c = 125
  · rw [if_pos h2] at h; injection h with h; injection h with h3 h4; subst h3; subst h4
    subst h2
    exact ⟨rfl, by simp, by simp, by simp, List.suffix_cons _ _⟩
  rw [if_neg h2] at h
  by_cases h3 : c = 59
  · rw [if_pos h3] at h; injection h with h; injection h with h4 h5; subst h4; subst h5
    subst h3
    exact ⟨rfl, by simp, by simp, by simp, List.suffix_cons _ _⟩
  rw [if_neg h3] at h
  split at h
  · cases h
  split at h
  · injection h with h; injection h with h4 h5; subst h4; subst h5
    exact ⟨rfl, by simp [h1], by simp [h2], by simp [h3], List.drop_suffix _ _⟩
  split at h
  · injection h with h; injection h with h4 h5; subst h4; subst h5
    exact ⟨rfl, by simp [h1], by simp [h2], by simp [h3], List.drop_suffix _ _⟩
  split at h
  · injection h with h; injection h with h4 h5; subst h4; subst h5
    exact ⟨rfl, by simp [h1], by simp [h2], by simp [h3], List.drop_suffix _ _⟩
  · cases h

theorem lex_stands {s : Bs} {l : List RTok} (h : lexR s = .ok l) : Rising s.length l ∧ ∀ k ∈ l, Stands s k :=
  lexR_ind (P := fun s l => Rising s.length l ∧ ∀ k ∈ l, Stands s k) (fun s _ => ⟨trivial, fun k hk => (by cases hk)⟩) (fun s c r k r' l' hs hn _ ih => by
    obtain ⟨h1, h2, h3, h4, h5⟩ := next_stands hn
    have h6 := next_lt hn
    have hsf := (skip_suffix s s .n (List.suffix_refl _) trivial).1
    rw [hs] at hsf
    have hst := skip_start s .n (by rw [hs])
    rw [hs] at hst
    obtain ⟨b1, b2, _⟩ := hst
    have h7 := hsf.length_le
    have hb : c ≠ 32 ∧ c ≠ 10 := ⟨fun e => by subst e; exact absurd b1 (by decide), fun e => by subst e; exact absurd b1 (by decide)⟩
    refine ⟨⟨by rw [h1]; exact h7, by rw [h1]; simp, ih.1.mono (by omega)⟩, fun x hx => ?_⟩
    rcases List.mem_cons.1 hx with rfl | hx
    · exact ⟨c, r, hsf, h1.symm, h2, h3, h4, hb.1, hb.2, b2⟩
    · obtain ⟨c', r'', g1, g2⟩ := ih.2 x hx
      exact ⟨c', r'', g1.trans (h5.trans hsf), g2⟩) s.length s l (Nat.le_refl _) h

/-- An error's place is one in the text. -/
theorem lex_err : ∀ (n : Nat) (s : Bs) (k : Nat) (e : Int), s.length ≤ n → lexR s = .error (k, e) → 1 ≤ k ∧ k ≤ s.length ∧ e ≠ 0 := by
  intro n
  induction n with
  | zero =>
    intro s k e hn h
    have : s = [] := List.eq_nil_of_length_eq_zero (by omega)
    subst this
    simp [lexR, lexF, skipS] at h
  | succ n ih =>
    intro s k e hn h
    rw [lexR_eq] at h
    have hsf := skip_suffix s s .n (List.suffix_refl _) trivial
    cases hb : (skipS .n s).1 with
    | false =>
      rw [hb] at h
      injection h with h
      injection h with h1 h2
      have := hsf.2 hb
      have := List.length_pos_iff.2 this
      have := hsf.1.length_le
      exact ⟨by omega, by omega, by omega⟩
    | true =>
      rw [hb] at h
      dsimp only at h
      cases hr : (skipS .n s).2 with
      | nil => rw [hr] at h; cases h
      | cons c r =>
        rw [hr] at h
        dsimp only at h
        have hl := hsf.1.length_le
        rw [hr] at hl
        cases hn' : nextS (c :: r) with
        | error e' =>
          rw [hn'] at h
          injection h with h
          injection h with h1 h2
          have := next_err hn'
          simp only [List.length_cons] at h1 hl
          exact ⟨by omega, by omega, by rw [← h2]; exact this⟩
        | ok kr =>
          obtain ⟨k', r'⟩ := kr
          rw [hn'] at h
          dsimp only at h
          cases hl' : lexR r' with
          | ok l' => rw [hl'] at h; cases h
          | error e' =>
            rw [hl'] at h
            obtain ⟨a, b⟩ := e'
            injection h with h
            injection h with h1 h2
            subst h1; subst h2
            have g1 := next_lt hn'
            obtain ⟨i1, i2, i3⟩ := ih r' a b (by omega) hl'
            exact ⟨i1, by omega, i3⟩

end Go.Proofs.Ytmohgkoomnihfaa.Vc
