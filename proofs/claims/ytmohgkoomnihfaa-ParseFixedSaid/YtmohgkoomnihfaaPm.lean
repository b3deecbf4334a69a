/-
  COMMANDS AS THEY ARE WRITTEN, AND READ AGAIN: plain lists of tokens. No condition.
-/
import Derived.Test.YtmohgkoomnihfaaLq
import Derived.Test.YtmohgkoomnihfaaPl
set_option linter.unusedVariables false
set_option linter.unusedSimpArgs false
namespace Go.Proofs.Ytmohgkoomnihfaa.Vc

/-! ### Tokens, as commands -/

abbrev BT := Int × Bs × Int
def setW : Bs := [115, 101, 116]
def deaW : Bs := [100, 101, 97, 99, 116, 105, 118, 97, 116, 101]
def proW : Bs := [112, 114, 111, 116, 101, 99, 116]
def bitsS (w : Bs) : Int := if w = setW then 0 else if w = deaW then 1 else if w = proW then 2 else -1
def isN (x : BT) : Bool := x.1 == 1
def cutB : List BT → Option (Cmd × List BT)
  | [] => none
  | t :: r =>
    if t.1 = 1 ∧ 0 ≤ bitsS t.2.1 ∧ r.takeWhile isN ≠ [] ∧ (r.takeWhile isN).length ≤ 16 then
      match r.drop (r.takeWhile isN).length with
      | [] => none
      | e :: r' => if e.1 = 4 then some ((bitsS t.2.1, (r.takeWhile isN).map (·.2.1)), r') else none
    else none
theorem bits_good (w : Bs) (h : 0 ≤ bitsS w) : bitsS w = 0 ∨ bitsS w = 1 ∨ bitsS w = 2 := by
  unfold bitsS at h ⊢
  split
  · exact .inl rfl
  · split
    · exact .inr (.inl rfl)
    · split
      · exact .inr (.inr rfl)
      · rename_i h1 h2 h3; rw [if_neg h1, if_neg h2, if_neg h3] at h; omega
theorem tw_mem : ∀ (l : List BT), ∀ x ∈ l.takeWhile isN, isN x = true
  | [], x, h => by cases h
  | y :: l, x, h => by
    rw [List.takeWhile_cons] at h
    split at h
    · rename_i hy
      rcases List.mem_cons.1 h with rfl | h
      · exact hy
      · exact tw_mem l x h
    · cases h
theorem cutB_some {l r : List BT} {c : Cmd} (h : cutB l = some (c, r)) : ∃ t ns e, l = t :: (ns ++ e :: r) ∧ t.1 = 1 ∧ 0 ≤ bitsS t.2.1 ∧ ns ≠ [] ∧ ns.length ≤ 16 ∧ (∀ x ∈ ns, isN x = true) ∧ e.1 = 4 ∧ c = (bitsS t.2.1, ns.map (·.2.1)) := by
  cases l with
  | nil => cases h
  | cons t l =>
    unfold cutB at h
    simp only at h
    split at h
    · rename_i hc
      obtain ⟨h1, h2, h3, h4⟩ := hc
      split at h
      · cases h
      · rename_i e r' he
        split at h
        · rename_i h5
          injection h with h
          injection h with ha hb
          subst hb
          refine ⟨t, l.takeWhile isN, e, ?_, h1, h2, h3, h4, tw_mem l, h5, ha.symm⟩
          rw [← he, List.prefix_iff_eq_append.1 (List.takeWhile_prefix isN)]
        · cases h
    · cases h

theorem tw_names {ns : List BT} {e : BT} {r : List BT} (hn : ∀ x ∈ ns, isN x = true) (he : isN e = false) : (ns ++ e :: r).takeWhile isN = ns := by
  induction ns with
  | nil => simp [he]
  | cons x ns ih =>
    rw [List.cons_append, List.takeWhile_cons, hn x (by simp), if_pos rfl, ih fun y hy => hn y (by simp [hy])]
theorem cutB_make {t : BT} {ns : List BT} {e : BT} {r : List BT} (h1 : t.1 = 1) (h2 : 0 ≤ bitsS t.2.1) (h3 : ns ≠ []) (h4 : ns.length ≤ 16) (h5 : ∀ x ∈ ns, isN x = true) (h6 : e.1 = 4) : cutB (t :: (ns ++ e :: r)) = some ((bitsS t.2.1, ns.map (·.2.1)), r) := by
  have he : isN e = false := by unfold isN; rw [h6]; rfl
  have htw := tw_names (r := r) h5 he
  unfold cutB
  simp only
  rw [htw, if_pos ⟨h1, h2, h3, h4⟩, List.drop_left]
  simp only
  rw [if_pos h6]

inductive Parses : List BT → List Cmd → Prop
  | nil : Parses [] []
  | cons {l r : List BT} {c : Cmd} {cs : List Cmd} : cutB l = some (c, r) → Parses r cs → Parses l (c :: cs)
theorem Parses.app {a : List BT} {cs : List Cmd} (h : Parses a cs) {b : List BT} {ds : List Cmd} (hb : Parses b ds) : Parses (a ++ b) (cs ++ ds) := by
  induction h with
  | nil => exact hb
  | cons h1 _ ih =>
    obtain ⟨t, ns, e, rfl, g1, g2, g3, g4, g5, g6, rfl⟩ := cutB_some h1
    refine .cons (r := _ ++ b) ?_ ih
    rw [List.cons_append, List.append_assoc, List.cons_append]
    exact cutB_make g1 g2 g3 g4 g5 g6
theorem Parses.good {l : List BT} {cs : List Cmd} (h : Parses l cs) : ∀ c ∈ cs, goodC c := by
  induction h with
  | nil => intro c hc; cases hc
  | cons h1 _ ih =>
    intro x hx
    obtain ⟨t, ns, e, rfl, g1, g2, g3, g4, g5, g6, rfl⟩ := cutB_some h1
    rcases List.mem_cons.1 hx with rfl | hx
    · exact bits_good _ g2
    · exact ih x hx

/-- Commands, done one by one, so many at most. -/
def runF : Nat → List BT → List Ln → Option (List Ln)
  | 0, _, _ => none
  | _ + 1, [], t => some t
  | f + 1, x :: l, t => match cutB (x :: l) with
    | none => none
    | some (c, r) => if (actS t c).2 = 0 then runF f r (actS t c).1 else none
theorem cutB_lt {l r : List BT} {c : Cmd} (h : cutB l = some (c, r)) : r.length < l.length := by
  obtain ⟨t, ns, e, rfl, _⟩ := cutB_some h
  simp; omega
theorem run_iff : ∀ (f : Nat) (l : List BT) (t u : List Ln), l.length < f → (runF f l t = some u ↔ ∃ cs, Parses l cs ∧ Acts t cs u)
  | 0, l, t, u, h => by omega
  | f + 1, [], t, u, h => by
    constructor
    · intro h1
      injection h1 with h1
      exact ⟨[], .nil, h1⟩
    · rintro ⟨cs, h1, h2⟩
      cases h1 with
      | nil => exact congrArg some h2
      | cons h3 _ => cases h3
  | f + 1, x :: l, t, u, h => by
    show (match cutB (x :: l) with | none => none | some (c, r) => if (actS t c).2 = 0 then runF f r (actS t c).1 else none) = some u ↔ _
    cases hc : cutB (x :: l) with
    | none =>
      simp only
      constructor
      · intro h1; cases h1
      · rintro ⟨cs, h1, _⟩
        cases h1 with
        | cons h3 _ => rw [hc] at h3; cases h3
    | some cr =>
      obtain ⟨c, r⟩ := cr
      simp only
      have hlt := cutB_lt hc
      by_cases ha : (actS t c).2 = 0
      · rw [if_pos ha, run_iff f r _ u (by omega)]
        constructor
        · rintro ⟨cs, h1, h2⟩
          exact ⟨c :: cs, .cons hc h1, ha, h2⟩
        · rintro ⟨cs, h1, h2⟩
          cases h1 with
          | cons h3 h4 =>
            rw [hc] at h3
            injection h3 with h3
            injection h3 with e1 e2
            subst e1; subst e2
            exact ⟨_, h4, h2.2⟩
      · rw [if_neg ha]
        constructor
        · intro h1; cases h1
        · rintro ⟨cs, h1, h2⟩
          cases h1 with
          | cons h3 h4 =>
            rw [hc] at h3
            injection h3 with h3
            injection h3 with e1 e2
            subst e1
            exact absurd h2.1 ha

/-! ### Commands, written -/

def verbS (b : Int) : Bs := if b = 0 then setW else if b = 1 then deaW else proW
def cmdB (c : Cmd) : Bs := verbS c.1 ++ c.2.flatMap (fun w => 32 :: quoteS w) ++ [59, 10]
def tokC (c : Cmd) : List BT := (1, verbS c.1, 0) :: (c.2.map (fun w => ((1, w, 0) : BT)) ++ [(4, [], 0)])
theorem verb_bits {c : Cmd} (h : goodC c) : bitsS (verbS c.1) = c.1 := by
  unfold verbS
  rcases h with h | h | h
  · rw [h]; decide
  · rw [h]; decide
  · rw [h]; decide
theorem verb_quote {c : Cmd} (h : goodC c) : quoteS (verbS c.1) = verbS c.1 ∧ (verbS c.1).length ≤ 10 := by
  unfold verbS
  rcases h with h | h | h
  · rw [h]; decide
  · rw [h]; decide
  · rw [h]; decide
theorem lex_blank (t : Bs) : lexR (32 :: t) = lexR t := lexR_congr rfl
theorem lex_line (t : Bs) : lexR (10 :: t) = lexR t := lexR_congr rfl
theorem stops_c {x : UInt8} (h : bareB x = false) (t : Bs) : stops (x :: t) := fun c hc => by
  injection hc with hc; rw [← hc]; exact h

theorem lex_words (rest : Bs) : ∀ (p : List Bs), (∀ w ∈ p, w.length ≤ 40) → ∃ l, lexR (p.flatMap (fun w => 32 :: quoteS w) ++ 59 :: 10 :: rest) = appE l (lexR rest) ∧ l.map bareT = p.map (fun w => ((1, w, 0) : BT)) ++ [(4, [], 0)]
  | [], _ => by
    refine ⟨[(4, (10 :: rest).length + 1, [], 0)], ?_, rfl⟩
    rw [List.flatMap_nil, List.nil_append, lex_sign 59 4 (10 :: rest) (.inr (.inr ⟨rfl, rfl⟩)), lex_line]
    cases lexR rest <;> rfl
  | w :: p, h => by
    obtain ⟨l, h1, h2⟩ := lex_words rest p fun x hx => h x (by simp [hx])
    have hst : stops (p.flatMap (fun w => 32 :: quoteS w) ++ 59 :: 10 :: rest) := by
      cases p with
      | nil => exact stops_c (by decide) _
      | cons y p => exact stops_c (by decide) _
    rw [List.flatMap_cons, List.cons_append, List.cons_append, lex_blank, List.append_assoc, lex_quote w _ (h w (by simp)) hst, h1]
    exact ⟨(1, (quoteS w ++ (p.flatMap (fun w => 32 :: quoteS w) ++ 59 :: 10 :: rest)).length, w, 0) :: l, by cases lexR rest <;> rfl, by rw [List.map_cons, h2]; rfl⟩
theorem lex_cmd {c : Cmd} (hg : goodC c) (hw : ∀ w ∈ c.2, w.length ≤ 40) (rest : Bs) : ∃ l, lexR (cmdB c ++ rest) = appE l (lexR rest) ∧ l.map bareT = tokC c := by
  obtain ⟨l, h1, h2⟩ := lex_words rest c.2 hw
  obtain ⟨v1, v2⟩ := verb_quote hg
  have hst : stops (c.2.flatMap (fun w => 32 :: quoteS w) ++ 59 :: 10 :: rest) := by
    cases c.2 with
    | nil => exact stops_c (by decide) _
    | cons y p => exact stops_c (by decide) _
  have e : cmdB c ++ rest = quoteS (verbS c.1) ++ (c.2.flatMap (fun w => 32 :: quoteS w) ++ 59 :: 10 :: rest) := by
    unfold cmdB
    rw [v1]; simp
  rw [e, lex_quote _ _ (by omega) hst, h1]
  exact ⟨(1, (quoteS (verbS c.1) ++ (c.2.flatMap (fun w => 32 :: quoteS w) ++ 59 :: 10 :: rest)).length, verbS c.1, 0) :: l, by cases lexR rest <;> rfl, by rw [List.map_cons, h2]; rfl⟩
theorem lex_cmds : ∀ (cs : List Cmd), (∀ c ∈ cs, goodC c ∧ ∀ w ∈ c.2, w.length ≤ 40) → ∃ l, lexR (cs.flatMap cmdB) = .ok l ∧ l.map bareT = cs.flatMap tokC
  | [], _ => ⟨[], rfl, rfl⟩
  | c :: cs, h => by
    obtain ⟨l, h1, h2⟩ := lex_cmds cs fun x hx => h x (by simp [hx])
    have hc := h c (by simp)
    obtain ⟨l', h3, h4⟩ := lex_cmd hc.1 hc.2 (cs.flatMap cmdB)
    rw [List.flatMap_cons, h3, h1]
    exact ⟨l' ++ l, rfl, by rw [List.map_append, h4, h2, List.flatMap_cons]⟩
theorem parses_cmds : ∀ (cs : List Cmd), (∀ c ∈ cs, goodC c ∧ c.2 ≠ [] ∧ c.2.length ≤ 16) → Parses (cs.flatMap tokC) cs
  | [], _ => .nil
  | c :: cs, h => by
    have ih := parses_cmds cs fun x hx => h x (by simp [hx])
    obtain ⟨h1, h2, h3⟩ := h c (by simp)
    rw [List.flatMap_cons]
    refine .cons (r := cs.flatMap tokC) ?_ ih
    have e : tokC c ++ cs.flatMap tokC = (1, verbS c.1, 0) :: (c.2.map (fun w => ((1, w, 0) : BT)) ++ (4, [], 0) :: cs.flatMap tokC) := by unfold tokC; simp
    rw [e, cutB_make rfl (by
      have := verb_bits h1
      simp only
      rw [this]; rcases h1 with h | h | h <;> omega) (by simpa using h2) (by simpa using h3) (fun x hx => by
      obtain ⟨w, _, rfl⟩ := List.mem_map.1 hx
      rfl) rfl]
    simp only [List.map_map]
    congr 1
    refine Prod.ext (Prod.ext (verb_bits h1) ?_) rfl
    simp [Function.comp_def]

/-! ### A tree's commands -/

theorem cmdsT_ok {t : List Ln} (ht : rightS t = true) : ∀ c ∈ cmdsT t, goodC c ∧ c.2 ≠ [] ∧ c.2.length ≤ 16 ∧ ∀ w ∈ c.2, w.length ≤ 40 := fun c hc => by
  have hrt := right_rf ht
  have key : ∀ k, k < t.length → pth t k ≠ [] ∧ (pth t k).length ≤ 16 ∧ ∀ w ∈ pth t k, w.length ≤ 40 := fun k hk => by
    have hg := gt_at hrt hk
    have hs := gt_sound hrt hg
    exact ⟨hs.1, hs.2.1, words_in hrt (pth t k).length (pth t k) rfl (by rw [hg]; simp)⟩
  unfold cmdsT at hc
  rcases List.mem_append.1 hc with hc | hc
  · obtain ⟨k, hk, rfl⟩ := List.mem_map.1 hc
    have hkl : k < t.length := by
      unfold leafL at hk
      exact List.mem_range.1 (List.mem_filter.1 hk).1
    exact ⟨.inl rfl, key k hkl⟩
  · obtain ⟨k, hk, hc⟩ := List.mem_flatMap.1 hc
    have hkl := List.mem_range.1 hk
    unfold mrkC at hc
    rcases List.mem_append.1 hc with hc | hc
    · split at hc
      · rw [List.mem_singleton] at hc; subst hc; exact ⟨.inr (.inl rfl), key k hkl⟩
      · cases hc
    · split at hc
      · rw [List.mem_singleton] at hc; subst hc; exact ⟨.inr (.inr rfl), key k hkl⟩
      · cases hc
def textT6 (t : List Ln) : Bs := (cmdsT t).flatMap cmdB
/-- The commands of a tree are read as that tree. -/
theorem text_back {t : List Ln} (ht : rightS t = true) : ∃ l, lexR (textT6 t) = .ok l ∧ ∃ cs, Parses (l.map bareT) cs ∧ Acts [] cs t := by
  have hok := cmdsT_ok ht
  obtain ⟨l, h1, h2⟩ := lex_cmds (cmdsT t) fun c hc => ⟨(hok c hc).1, (hok c hc).2.2.2⟩
  exact ⟨l, h1, cmdsT t, by rw [h2]; exact parses_cmds _ fun c hc => ⟨(hok c hc).1, (hok c hc).2.1, (hok c hc).2.2.1⟩, cmds_make ht⟩
theorem text_twice {s : Bs} {l : List RTok} {cs : List Cmd} {u : List Ln} (h1 : lexR s = .ok l) (h2 : Parses (l.map bareT) cs) (h3 : Acts [] cs u) : ∃ l', lexR (s ++ 10 :: s) = .ok l' ∧ ∃ cs', Parses (l'.map bareT) cs' ∧ Acts [] cs' u := by
  have := lex_joins s s.length s l (Nat.le_refl _) h1
  rw [h1] at this
  refine ⟨_, this, cs ++ cs, ?_, acts_twice h2.good h3⟩
  rw [List.map_append]
  refine Parses.app ?_ h2
  rw [List.map_map]
  exact h2

/-! ### How many rows -/

theorem esc_no (c : UInt8) : (escS c).count 10 = 0 := by
  have h : ∀ n, n < 256 → (escS (UInt8.ofNat n)).count 10 = 0 := of_decide_eq_true (by kernel_rfl)
  have := h c.toNat c.toNat_lt
  simpa using this
theorem quote_no (w : Bs) : (quoteS w).count 10 = 0 := by
  unfold quoteS
  split
  · rename_i h
    rw [List.count_eq_zero]
    intro hm
    have := (bareW_iff.1 h).2.1
    have h2 := List.all_eq_true.1 this 10 hm
    exact absurd h2 (by decide)
  · have he : ∀ w : Bs, (escW w).count 10 = 0 := fun w => by
      induction w with
      | nil => rfl
      | cons c w ih =>
        unfold escW at ih ⊢
        rw [List.flatMap_cons, List.count_append, esc_no, ih]
    rw [List.count_cons, List.count_append, he]
    decide
theorem words_no : ∀ p : List Bs, (p.flatMap (fun w => 32 :: quoteS w)).count 10 = 0
  | [] => rfl
  | w :: p => by
    rw [List.flatMap_cons, List.count_append, words_no p, List.count_cons, quote_no]
    decide
theorem cmd_rows {c : Cmd} (h : goodC c) : (cmdB c).count 10 = 1 := by
  unfold cmdB
  rw [List.count_append, List.count_append, words_no]
  unfold verbS
  rcases h with h | h | h
  · rw [h]; decide
  · rw [h]; decide
  · rw [h]; decide
theorem cmds_rows : ∀ {cs : List Cmd}, (∀ c ∈ cs, goodC c) → (cs.flatMap cmdB).count 10 = cs.length
  | [], _ => rfl
  | c :: cs, h => by
    rw [List.flatMap_cons, List.count_append, cmd_rows (h c (by simp)), cmds_rows fun x hx => h x (by simp [hx]), List.length_cons]
    omega

end Go.Proofs.Ytmohgkoomnihfaa.Vc
