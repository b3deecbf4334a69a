/-
  WHAT THE DOCUMENT's FUNCTIONS ON WORDS AND TOKENS ANSWER: the same. No condition.
-/
import Derived.Test.YtmohgkoomnihfaaLf
set_option linter.unusedVariables false
set_option linter.unusedSimpArgs false
namespace Go.Proofs.Ytmohgkoomnihfaa.Vc

theorem R_bare (N : Nat) (c : UInt8) : F53 N (c.toNat : Int) = some (bareB c) := by
  unfold F53 V53
  simp only [ev_br, ev_leaf, decide_eq_true_eq]
  have hq : ∀ k : Nat, k < 256 → ((c.toNat : Int) == (k : Int)) = (c == UInt8.ofNat k) := fun k hk => by rw [byte_is c k hk]; rw [Bool.eq_iff_iff]; simp
  have q1 := hq 45 (by decide)
  have q2 := hq 95 (by decide)
  have q3 := hq 46 (by decide)
  have q4 := hq 47 (by decide)
  have q5 := hq 58 (by decide)
  have q6 := hq 42 (by decide)
  simp only [show ((45 : Nat) : Int) = 45 from rfl, show ((95 : Nat) : Int) = 95 from rfl, show ((46 : Nat) : Int) = 46 from rfl, show ((47 : Nat) : Int) = 47 from rfl, show ((58 : Nat) : Int) = 58 from rfl, show ((42 : Nat) : Int) = 42 from rfl] at q1 q2 q3 q4 q5 q6
  rw [q1, q2, q3, q4, q5, q6]
  have e : bareB c = ((decide (97 ≤ c.toNat) && decide (c.toNat ≤ 122)) || (decide (65 ≤ c.toNat) && decide (c.toNat ≤ 90)) || (decide (48 ≤ c.toNat) && decide (c.toNat ≤ 57)) || (c == UInt8.ofNat 45 || c == UInt8.ofNat 95 || c == UInt8.ofNat 46 || c == UInt8.ofNat 47 || c == UInt8.ofNat 58 || c == UInt8.ofNat 42)) := rfl
  rw [e]
  have tail : (if (c == UInt8.ofNat 45) = true then some true else if (c == UInt8.ofNat 95) = true then some true else if (c == UInt8.ofNat 46) = true then some true else if (c == UInt8.ofNat 47) = true then some true else if (c == UInt8.ofNat 58) = true then some true else some (c == UInt8.ofNat 42)) =
      some (c == UInt8.ofNat 45 || c == UInt8.ofNat 95 || c == UInt8.ofNat 46 || c == UInt8.ofNat 47 || c == UInt8.ofNat 58 || c == UInt8.ofNat 42) := by
    cases c == UInt8.ofNat 45 <;> cases c == UInt8.ofNat 95 <;> cases c == UInt8.ofNat 46 <;> cases c == UInt8.ofNat 47 <;> cases c == UInt8.ofNat 58 <;> rfl
  rw [tail]
  generalize (c == UInt8.ofNat 45 || c == UInt8.ofNat 95 || c == UInt8.ofNat 46 || c == UInt8.ofNat 47 || c == UInt8.ofNat 58 || c == UInt8.ofNat 42) = q
  generalize c.toNat = n
  simp only [show ((97 : Int) ≤ (n : Int)) ↔ 97 ≤ n from by omega, show ((65 : Int) ≤ (n : Int)) ↔ 65 ≤ n from by omega, show ((48 : Int) ≤ (n : Int)) ↔ 48 ≤ n from by omega,
    show ((n : Int) ≤ (122 : Int)) ↔ n ≤ 122 from by omega, show ((n : Int) ≤ (90 : Int)) ↔ n ≤ 90 from by omega, show ((n : Int) ≤ (57 : Int)) ↔ n ≤ 57 from by omega]
  by_cases a1 : 97 ≤ n <;> by_cases a2 : n ≤ 122 <;> by_cases a3 : 65 ≤ n <;> by_cases a4 : n ≤ 90 <;> by_cases a5 : 48 ≤ n <;> by_cases a6 : n ≤ 57 <;> simp [a1, a2, a3, a4, a5, a6]

theorem R_scan (N : Nat) (s : Bs) (at_ : Int) (h0 : 0 ≤ at_) (h1 : at_ < s.length) (hN : s.length < N) (hL : s.length ≤ 1000000) :
    F31 N s at_ = some (match scanL (s.drop at_.toNat) with | none => (0, false) | some k => (at_ + k, true)) := by
  unfold F31 V31
  have c1 : inR at_ s.length := ⟨h0, h1⟩
  obtain ⟨c, hd, hb⟩ := drop_byte s h0 h1
  simp only [ev_br, ev_leaf, ev_ck c1, ev_f1, decide_eq_true_eq, hb, isnt, is34]
  rw [if_neg (show ¬at_ < 0 by omega), if_neg (show ¬(s.length : Int) ≤ at_ by omega), hd]
  unfold scanL
  dsimp only
  by_cases hc : c = 34
  · simp only [hc, if_true, decide_true, Bool.not_true, Bool.false_eq_true, if_false]
    rw [wrapI (by omega) (by omega)]
    obtain ⟨o, ho, hp⟩ := runLoop_post (R := Int × Bool) (step := fun x => L31_12 N x.1 x.2.1 x.2.2)
      (fun x => x.1 = s ∧ at_ + 1 ≤ x.2.2 ∧ x.2.2 ≤ s.length ∧ (quoS x.2.1 (s.drop x.2.2.toNat)).map (fun k : Nat => x.2.2 + (k : Int)) = (quoS false (s.drop (at_ + 1).toNat)).map (fun k : Nat => at_ + 1 + (k : Int))) (fun x => (s.length - x.2.2).toNat)
      (fun o => (∃ k, quoS false (s.drop (at_ + 1).toNat) = some k ∧ o = .ret (at_ + 1 + k, true)) ∨ (quoS false (s.drop (at_ + 1).toNat) = none ∧ ∃ x, o = .brk 0 x))
      (by
        rintro ⟨t', b, i⟩ ⟨e1, hi0, hi, hu⟩
        dsimp only at e1 hi0 hi hu ⊢
        subst e1
        unfold L31_12 U31_12
        by_cases h : i < t'.length
        · have c1 : inR i t'.length := ⟨by omega, h⟩
          obtain ⟨c, hd, hb⟩ := drop_byte t' (by omega) h
          have w1 : IntKind.i64.wrap (i + 1) = i + 1 := wrapI (by omega) (by omega)
          simp only [ev_br, ev_leaf, ev_ck c1, decide_eq_true_eq, h, if_true, hb, is34, is92, w1]
          rw [hd] at hu
          have sh : ∀ (y : Option Nat), (y.map (· + 1)).map (fun k : Nat => i + (k : Int)) = y.map (fun k : Nat => i + 1 + (k : Int)) := fun y => by
            rw [Option.map_map]
            congr 1
            funext k
            simp only [Function.comp]; omega
          cases b with
          | true =>
            simp only [quoS, sh] at hu
            exact ⟨_, rfl, .inl ⟨_, rfl, ⟨rfl, by simp only; omega, by simp only; omega, hu⟩, by simp only; omega⟩⟩
          | false =>
            simp only [quoS, Bool.false_eq_true, if_false] at hu ⊢
            by_cases hc : c = 92
            · simp only [if_pos hc, sh] at hu ⊢
              exact ⟨_, rfl, .inl ⟨_, rfl, ⟨rfl, by simp only; omega, by simp only; omega, hu⟩, by simp only; omega⟩⟩
            · simp only [if_neg hc] at hu ⊢
              by_cases hc2 : c = 34
              · simp only [if_pos hc2] at hu ⊢
                refine ⟨_, rfl, .inr ⟨by simp, .inl ?_⟩⟩
                cases hk : quoS false (t'.drop (at_ + 1).toNat) with
                | none => rw [hk] at hu; cases hu
                | some k =>
                  rw [hk] at hu
                  refine ⟨k, rfl, ?_⟩
                  have : i + 1 = at_ + 1 + k := by simpa using hu
                  rw [this]
              · simp only [if_neg hc2, sh] at hu ⊢
                exact ⟨_, rfl, .inl ⟨_, rfl, ⟨rfl, by simp only; omega, by simp only; omega, hu⟩, by simp only; omega⟩⟩
        · refine ⟨.brk 0 (t', b, i), by simp [h], .inr ⟨by simp, .inr ⟨?_, _, rfl⟩⟩⟩
          rw [List.drop_of_length_le (by omega)] at hu
          cases hk : quoS false (t'.drop (at_ + 1).toNat) with
          | none => rfl
          | some k => rw [hk] at hu; cases b <;> simp [quoS] at hu) N (s, false, at_ + 1) ⟨rfl, by simp, by simp only; omega, rfl⟩ (by simp only; omega)
    unfold W31_12
    rw [ho]
    rcases hp with ⟨k, hk, rfl⟩ | ⟨hk, x, rfl⟩
    · rw [hk]
      simp only [lp1_ret, Option.map_some, id]
      congr 2
      omega
    · rw [hk]; rfl
  · simp only [hc, if_false, decide_false, Bool.not_false, if_true]
    have hl := tw_le bareB (s.drop at_.toNat)
    rw [hd, List.length_cons, List.length_drop] at hl
    obtain ⟨o, ho, hp⟩ := runLoop_post (R := Int × Bool) (step := fun x => L31_5 N x.1 x.2.1 x.2.2)
      (fun x => x.1 = s ∧ x.2.1 = at_ ∧ at_ ≤ x.2.2 ∧ x.2.2 ≤ s.length ∧ x.2.2 + ((s.drop x.2.2.toNat).takeWhile bareB).length = at_ + ((s.drop at_.toNat).takeWhile bareB).length) (fun x => (s.length - x.2.2).toNat)
      (fun o => o = .brk 0 (s, at_, at_ + ((s.drop at_.toNat).takeWhile bareB).length))
      (by
        rintro ⟨t', a, i⟩ ⟨e1, e2, h0', hi, hu⟩
        dsimp only at e1 e2 h0' hi hu ⊢
        subst e1; subst e2
        unfold L31_5 U31_5
        by_cases h : i < t'.length
        · have c1 : inR i t'.length := ⟨by omega, h⟩
          obtain ⟨c, hd, hb⟩ := drop_byte t' (by omega) h
          have w1 : IntKind.i64.wrap (i + 1) = i + 1 := wrapI (by omega) (by omega)
          simp only [ev_br, ev_leaf, ev_ck c1, ev_c1, decide_eq_true_eq, h, if_true, hb, R_bare, obind_some, w1]
          rw [hd, List.takeWhile_cons] at hu
          by_cases hc : bareB c = true
          · rw [if_pos hc] at hu ⊢
            refine ⟨_, rfl, .inl ⟨_, rfl, ⟨rfl, rfl, by simp only; omega, by simp only; omega, ?_⟩, by simp only; omega⟩⟩
            simp only [List.length_cons] at hu ⊢
            omega
          · rw [if_neg hc] at hu ⊢
            refine ⟨_, rfl, .inr ⟨by simp, ?_⟩⟩
            simp only [List.length_nil] at hu
            rw [← hu]; simp
        · refine ⟨.brk 0 (t', a, i), by simp [h], .inr ⟨by simp, ?_⟩⟩
          rw [List.drop_of_length_le (show t'.length ≤ i.toNat by omega)] at hu
          simp only [List.takeWhile_nil, List.length_nil] at hu
          rw [← hu]; simp) N (s, at_, at_) ⟨rfl, rfl, by simp, by simp only; omega, rfl⟩ (by simp only; omega)
    unfold W31_5
    rw [ho, hp, lp1_brk, hd]
    by_cases hz : ((c :: s.drop (at_ + 1).toNat).takeWhile bareB).length = 0
    · rw [if_pos hz, hz]; simp
    · have : (at_ + (((c :: s.drop (at_ + 1).toNat).takeWhile bareB).length : Int) == at_) = false := by rw [beq_eq_false_iff_ne]; omega
      rw [if_neg hz, this]; rfl

/-! ### What is left off -/

theorem skip_line2 : ∀ (r : Bs), skipS .l r = skipS .n (r.dropWhile (fun c => !(c == 10)))
  | [] => rfl
  | c :: r => by
    have ih := skip_line2 r
    simp only [skipS, List.dropWhile_cons]
    by_cases hc : c = 10
    · subst hc; simp [skipS, blankB]
    · simp [hc, ih]

/-- Behind a /* : the place of the next */, or of what is left of the text. -/
def BlockEnd (s : Bs) (k0 k : Int) : Prop := k0 ≤ k ∧ k ≤ s.length + 1 ∧ ((k + 1 < s.length ∧ ∀ x, skipS (.b x) (s.drop k0.toNat) = skipS .n (s.drop (k + 2).toNat)) ∨ ((s.length : Int) ≤ k + 1 ∧ ∀ x, skipS (.b x) (s.drop k0.toNat) = (false, x)))

theorem block_short (x : Bs) : ∀ (r : Bs), r.length ≤ 1 → skipS (.b x) r = (false, x)
  | [], _ => rfl
  | [c], _ => by simp [skipS]
  | _ :: _ :: _, h => by simp at h

theorem W_block (N : Nat) (s : Bs) (k0 : Int) (h0 : 0 ≤ k0) (h1 : k0 ≤ s.length + 1) (hN : s.length + 2 < N) (hL : s.length ≤ 1000000) : ∃ k, W29_10 N (s, k0) = some (.brk 0 (s, k)) ∧ BlockEnd s k0 k := by
  obtain ⟨o, ho, hp⟩ := runLoop_post (R := Int) (step := fun x => L29_10 N x.1 x.2)
    (fun x => x.1 = s ∧ k0 ≤ x.2 ∧ x.2 ≤ s.length + 1 ∧ ∀ y, skipS (.b y) (s.drop x.2.toNat) = skipS (.b y) (s.drop k0.toNat)) (fun x => (s.length + 1 - x.2).toNat)
    (fun o => ∃ k, o = .brk 0 (s, k) ∧ BlockEnd s k0 k)
    (by
      rintro ⟨t', i⟩ ⟨e1, hi0, hi, hu⟩
      dsimp only at e1 hi0 hi hu ⊢
      subst e1
      unfold L29_10 U29_10
      have w1 : IntKind.i64.wrap (i + 1) = i + 1 := wrapI (by omega) (by omega)
      by_cases h : i + 1 < t'.length
      · have c1 : inR i t'.length := ⟨by omega, by omega⟩
        have c2 : inR (i + 1) t'.length := ⟨by omega, by omega⟩
        obtain ⟨c, hd, hb⟩ := drop_byte t' (show 0 ≤ i by omega) (by omega)
        obtain ⟨d, hd2, hb2⟩ := drop_byte t' (show 0 ≤ i + 1 by omega) h
        simp only [ev_br, ev_leaf, w1, ev_ck c1, ev_ck c2, decide_eq_true_eq, h, if_true, hb, hb2, is42, is47]
        rw [hd2] at hd
        rw [hd] at hu
        by_cases hc : c = 42 ∧ d = 47
        · obtain ⟨rfl, rfl⟩ := hc
          refine ⟨_, by rfl, .inr ⟨by simp, i, rfl, hi0, by omega, .inl ⟨h, fun x => ?_⟩⟩⟩
          rw [← hu x]
          simp only [skipS, List.head?_cons, and_self, if_true]
          rw [show (i + 1 + 1).toNat = (i + 2).toNat by omega]
        · have hst : ∀ y, skipS (.b y) (t'.drop (i + 1).toNat) = skipS (.b y) (t'.drop k0.toNat) := fun y => by
            rw [← hu y, hd2]
            conv => rhs; unfold skipS
            rw [if_neg (by simpa using hc)]
          have good : ∃ o, (some (Lp.next (t', i + 1)) : Option (Lp (Bs × Int) Int)) = some o ∧ ((∃ y, o = .next y ∧ (y.1 = t' ∧ k0 ≤ y.2 ∧ y.2 ≤ t'.length + 1 ∧ ∀ z, skipS (.b z) (t'.drop y.2.toNat) = skipS (.b z) (t'.drop k0.toNat)) ∧ (t'.length + 1 - y.2).toNat < (t'.length + 1 - i).toNat) ∨
              ((∀ y, o ≠ .next y) ∧ ∃ k, o = .brk 0 (t', k) ∧ BlockEnd t' k0 k)) := ⟨_, rfl, .inl ⟨_, rfl, ⟨rfl, by simp only; omega, by simp only; omega, hst⟩, by simp only; omega⟩⟩
          by_cases hc1 : c = 42
          · have hd1 : d ≠ 47 := fun e => hc ⟨hc1, e⟩
            simp only [hc1, decide_true, if_true, hd1, decide_false, Bool.not_false]
            exact good
          · simp only [hc1, if_false]
            exact good
      · refine ⟨.brk 0 (t', i), ?_, .inr ⟨by simp, i, rfl, hi0, hi, .inr ⟨by omega, fun x => ?_⟩⟩⟩
        · simp only [ev_br, ev_leaf, w1, decide_eq_true_eq, h, if_false]
        · rw [← hu x]
          exact block_short x _ (by rw [List.length_drop]; omega)) N (s, k0) ⟨rfl, by simp, h1, fun _ => rfl⟩ (by simp only; omega)
  unfold W29_10
  obtain ⟨k, rfl, hk⟩ := hp
  exact ⟨k, ho, hk⟩

theorem W_line (N : Nat) (s : Bs) (k0 : Int) (h0 : 0 ≤ k0) (h1 : k0 ≤ s.length) (hN : s.length + 2 < N) (hL : s.length ≤ 1000000) : ∃ k, W29_6 N (s, k0) = some (.brk 0 (s, k)) ∧ k0 ≤ k ∧ k ≤ s.length ∧ s.drop k.toNat = (s.drop k0.toNat).dropWhile (fun c => !(c == 10)) := by
  obtain ⟨o, ho, hp⟩ := runLoop_post (R := Int) (step := fun x => L29_6 N x.1 x.2)
    (fun x => x.1 = s ∧ k0 ≤ x.2 ∧ x.2 ≤ s.length ∧ (s.drop x.2.toNat).dropWhile (fun c => !(c == 10)) = (s.drop k0.toNat).dropWhile (fun c => !(c == 10))) (fun x => (s.length - x.2).toNat)
    (fun o => ∃ k, o = .brk 0 (s, k) ∧ k0 ≤ k ∧ k ≤ s.length ∧ s.drop k.toNat = (s.drop k0.toNat).dropWhile (fun c => !(c == 10)))
    (by
      rintro ⟨t', i⟩ ⟨e1, hi0, hi, hu⟩
      dsimp only at e1 hi0 hi hu ⊢
      subst e1
      unfold L29_6 U29_6
      by_cases h : i < t'.length
      · have c1 : inR i t'.length := ⟨by omega, by omega⟩
        obtain ⟨c, hd, hb⟩ := drop_byte t' (show 0 ≤ i by omega) (by omega)
        have w1 : IntKind.i64.wrap (i + 1) = i + 1 := wrapI (by omega) (by omega)
        simp only [ev_br, ev_leaf, w1, ev_ck c1, decide_eq_true_eq, h, if_true, hb, isnt, is10]
        rw [hd, List.dropWhile_cons] at hu
        by_cases hc : c = 10
        · subst hc
          refine ⟨_, by rfl, .inr ⟨by simp, i, rfl, hi0, hi, ?_⟩⟩
          rw [← hu, hd]; rfl
        · simp only [hc, decide_false, Bool.not_false, if_true]
          have : (!(c == 10)) = true := by simpa using hc
          rw [if_pos this] at hu
          exact ⟨_, rfl, .inl ⟨_, rfl, ⟨rfl, by simp only; omega, by simp only; omega, hu⟩, by simp only; omega⟩⟩
      · refine ⟨.brk 0 (t', i), by simp [h], .inr ⟨by simp, i, rfl, hi0, hi, ?_⟩⟩
        rw [← hu, List.drop_of_length_le (by omega)]; rfl) N (s, k0) ⟨rfl, by simp, h1, rfl⟩ (by simp only; omega)
  unfold W29_6
  obtain ⟨k, rfl, hk⟩ := hp
  exact ⟨k, ho, hk⟩

theorem R_gap (N : Nat) (s : Bs) (at_ : Int) (h0 : 0 ≤ at_) (h1 : at_ ≤ s.length) (hN : s.length + 2 < N) (hL : s.length ≤ 1000000) :
    F29 N s at_ = some (if (skipS .n (s.drop at_.toNat)).1 = true then (s.length : Int) - ((skipS .n (s.drop at_.toNat)).2.length : Int) else -1) := by
  unfold F29 V29
  simp only [ev_f1, ev_leaf]
  obtain ⟨p, hp0⟩ : ∃ p, skipS .n (s.drop at_.toNat) = p := ⟨_, rfl⟩
  rw [hp0]
  obtain ⟨o, ho, hp⟩ := runLoop_post (R := Int) (step := fun x => L29_1 N x.1 x.2)
    (fun x => x.1 = s ∧ 0 ≤ x.2 ∧ x.2 ≤ s.length ∧ skipS .n (s.drop x.2.toNat) = p) (fun x => (s.length - x.2).toNat)
    (fun o => (p.1 = true ∧ (o = .brk 0 (s, (s.length : Int) - (p.2.length : Int)) ∨ o = .ret ((s.length : Int) - (p.2.length : Int)))) ∨ (p.1 = false ∧ o = .ret (-1)))
    (by
      rintro ⟨t', i⟩ ⟨e1, hi0, hi, hu⟩
      dsimp only at e1 hi0 hi hu ⊢
      subst e1
      unfold L29_1 U29_1
      by_cases h : i < t'.length
      · have c1 : inR i t'.length := ⟨hi0, h⟩
        obtain ⟨c, hd, hb⟩ := drop_byte t' hi0 h
        have w1 : IntKind.i64.wrap (i + 1) = i + 1 := wrapI (by omega) (by omega)
        have w2 : IntKind.i64.wrap (i + 2) = i + 2 := wrapI (by omega) (by omega)
        have hlen : (t'.drop i.toNat).length = t'.length - i.toNat := List.length_drop
        simp only [ev_br, ev_leaf, ev_ck c1, Vt.g1, ev_loop1, decide_eq_true_eq, h, if_true, hb, is32, is9, is10, is13, is35, is47, w1, w2]
        have hu0 := hu
        rw [hd] at hu hlen
        by_cases hbl : blankB c = true
        · have hnx : skipS .n (t'.drop (i + 1).toNat) = p := by rw [← hu]; simp only [skipS, hbl, if_true]
          have good : ∃ o, (some (Lp.next (t', i + 1)) : Option (Lp (Bs × Int) Int)) = some o ∧
              ((∃ y, o = .next y ∧ (y.1 = t' ∧ 0 ≤ y.2 ∧ y.2 ≤ t'.length ∧ skipS .n (t'.drop y.2.toNat) = p) ∧ (t'.length - y.2).toNat < (t'.length - i).toNat) ∨ ((∀ y, o ≠ .next y) ∧
                ((p.1 = true ∧ (o = .brk 0 (t', (t'.length : Int) - (p.2.length : Int)) ∨ o = .ret ((t'.length : Int) - (p.2.length : Int)))) ∨ (p.1 = false ∧ o = .ret (-1))))) :=
            ⟨_, rfl, .inl ⟨_, rfl, ⟨rfl, by simp only; omega, by simp only; omega, hnx⟩, by simp only; omega⟩⟩
          simp only [blankB, Bool.or_eq_true, beq_iff_eq] at hbl
          by_cases b1 : c = 32
          · rw [if_pos b1]; exact good
          rw [if_neg b1]
          by_cases b2 : c = 9
          · rw [if_pos b2]; exact good
          rw [if_neg b2]
          by_cases b3 : c = 10
          · rw [if_pos b3]; exact good
          rw [if_neg b3]
          by_cases b4 : c = 13
          · rw [if_pos b4]; exact good
          exact absurd hbl (by simp [b1, b2, b3, b4])
        · have hbl' : blankB c = false := by simpa using hbl
          have hnb : c ≠ 32 ∧ c ≠ 9 ∧ c ≠ 10 ∧ c ≠ 13 := by
            simp only [blankB, Bool.or_eq_true, beq_iff_eq] at hbl
            exact ⟨fun e => hbl (by simp [e]), fun e => hbl (by simp [e]), fun e => hbl (by simp [e]), fun e => hbl (by simp [e])⟩
          rw [if_neg hnb.1, if_neg hnb.2.1, if_neg hnb.2.2.1, if_neg hnb.2.2.2]
          simp only [skipS, hbl', Bool.false_eq_true, if_false] at hu
          by_cases h35 : c = 35
          · rw [if_pos h35] at hu ⊢
            obtain ⟨k, hk1, hk2, hk3, hk4⟩ := W_line N t' i hi0 hi hN hL
            rw [hk1, lp1_brk]
            rw [hd, List.dropWhile_cons, if_pos (by rw [h35]; rfl)] at hk4
            rw [skip_line2, ← hk4] at hu
            -- the end is behind this byte
            have hki : i < k := by
              rcases Int.lt_or_eq_of_le hk2 with h' | h'
              · exact h'
              · exfalso
                rw [← h', hd] at hk4
                have := congrArg List.length hk4
                have := (List.dropWhile_suffix (fun c : UInt8 => !(c == 10)) (l := t'.drop (i + 1).toNat)).length_le
                simp only [List.length_cons] at *
                omega
            exact ⟨_, rfl, .inl ⟨_, rfl, ⟨rfl, by simp only; omega, by simp only; omega, hu⟩, by simp only; omega⟩⟩
          · rw [if_neg h35] at hu ⊢
            have stop : ¬(c = 47 ∧ (t'.drop (i + 1).toNat).head? = some 42) → ∃ o, (some (Lp.ret i) : Option (Lp (Bs × Int) Int)) = some o ∧
              ((∃ y, o = .next y ∧ (y.1 = t' ∧ 0 ≤ y.2 ∧ y.2 ≤ t'.length ∧ skipS .n (t'.drop y.2.toNat) = p) ∧ (t'.length - y.2).toNat < (t'.length - i).toNat) ∨ ((∀ y, o ≠ .next y) ∧
                ((p.1 = true ∧ (o = .brk 0 (t', (t'.length : Int) - (p.2.length : Int)) ∨ o = .ret ((t'.length : Int) - (p.2.length : Int)))) ∨ (p.1 = false ∧ o = .ret (-1))))) := fun hno => by
              rw [if_neg hno] at hu
              refine ⟨_, rfl, .inr ⟨by simp, .inl ⟨by rw [← hu], .inr ?_⟩⟩⟩
              rw [← hu]
              simp only
              rw [hlen, show (t'.length : Int) - ((t'.length - i.toNat : Nat) : Int) = i by omega]
            by_cases h47 : c = 47
            · rw [if_pos h47]
              by_cases h2 : i + 1 < t'.length
              · rw [if_pos h2]
                have c2 : inR (i + 1) t'.length := ⟨by omega, h2⟩
                obtain ⟨d, hd2, hb2⟩ := drop_byte t' (show 0 ≤ i + 1 by omega) h2
                simp only [ev_br, ev_leaf, ev_ck c2, hb2, is42, decide_eq_true_eq, ev_loop1]
                by_cases h42 : d = 42
                · rw [if_pos h42]
                  rw [if_pos ⟨h47, by rw [hd2, h42]; rfl⟩, hd2] at hu
                  simp only [skipS] at hu
                  obtain ⟨k, hk1, hk2, hk3, hk4⟩ := W_block N t' (i + 2) (by omega) (by omega) hN hL
                  rw [hk1, lp1_brk]
                  have w3 : IntKind.i64.wrap (k + 1) = k + 1 := wrapI (by omega) (by omega)
                  have w4 : IntKind.i64.wrap (k + 2) = k + 2 := wrapI (by omega) (by omega)
                  simp only [w3, w4]
                  rw [show (i + 1 + 1).toNat = (i + 2).toNat by omega] at hu
                  rcases hk4 with ⟨hk5, hk6⟩ | ⟨hk5, hk6⟩
                  · rw [if_neg (by omega)]
                    rw [hk6] at hu
                    exact ⟨_, rfl, .inl ⟨_, rfl, ⟨rfl, by simp only; omega, by simp only; omega, hu⟩, by simp only; omega⟩⟩
                  · rw [if_pos (by omega)]
                    rw [hk6] at hu
                    exact ⟨_, rfl, .inr ⟨by simp, .inr ⟨by rw [← hu], rfl⟩⟩⟩
                · rw [if_neg h42]
                  exact stop (fun hh => h42 (by rw [hd2] at hh; simpa using hh.2))
              · rw [if_neg h2]
                exact stop (fun hh => by rw [List.drop_of_length_le (by omega)] at hh; simp at hh)
            · rw [if_neg h47]
              exact stop (fun hh => h47 hh.1)
      · refine ⟨.brk 0 (t', i), by simp [h], .inr ⟨by simp, .inl ?_⟩⟩
        rw [List.drop_of_length_le (by omega)] at hu
        rw [← hu]
        refine ⟨rfl, .inl ?_⟩
        simp only [skipS, List.length_nil]
        congr 2; omega) N (s, at_) ⟨rfl, h0, h1, hp0⟩ (by simp only; omega)
  unfold W29_1
  rw [ho]
  rcases hp with ⟨h2, rfl | rfl⟩ | ⟨h2, rfl⟩
  · rw [if_pos h2]; rfl
  · rw [if_pos h2]; rfl
  · rw [if_neg (by rw [h2]; decide)]; rfl

/-! ### The place of a comment that does not end -/

theorem W_openline (N : Nat) (s : Bs) (k0 : Int) (h0 : 0 ≤ k0) (h1 : k0 ≤ s.length) (hN : s.length + 2 < N) (hL : s.length ≤ 1000000) (hne : (s.drop k0.toNat).dropWhile (fun c => !(c == 10)) ≠ []) :
    ∃ k, W30_5 N (s, k0) = some (.brk 0 (s, k)) ∧ k0 ≤ k ∧ k ≤ s.length ∧ s.drop k.toNat = (s.drop k0.toNat).dropWhile (fun c => !(c == 10)) := by
  obtain ⟨o, ho, hp⟩ := runLoop_post (R := Int) (step := fun x => L30_5 N x.1 x.2)
    (fun x => x.1 = s ∧ k0 ≤ x.2 ∧ x.2 ≤ s.length ∧ (s.drop x.2.toNat).dropWhile (fun c => !(c == 10)) = (s.drop k0.toNat).dropWhile (fun c => !(c == 10))) (fun x => (s.length - x.2).toNat)
    (fun o => ∃ k, o = .brk 0 (s, k) ∧ k0 ≤ k ∧ k ≤ s.length ∧ s.drop k.toNat = (s.drop k0.toNat).dropWhile (fun c => !(c == 10)))
    (by
      rintro ⟨t', i⟩ ⟨e1, hi0, hi, hu⟩
      dsimp only at e1 hi0 hi hu ⊢
      subst e1
      unfold L30_5 U30_5
      by_cases h : i < t'.length
      · have c1 : inR i t'.length := ⟨by omega, by omega⟩
        obtain ⟨c, hd, hb⟩ := drop_byte t' (show 0 ≤ i by omega) (by omega)
        have w1 : IntKind.i64.wrap (i + 1) = i + 1 := wrapI (by omega) (by omega)
        simp only [ev_br, ev_leaf, w1, ev_ck c1, decide_eq_true_eq, hb, isnt, is10]
        rw [hd, List.dropWhile_cons] at hu
        by_cases hc : c = 10
        · subst hc
          refine ⟨_, by rfl, .inr ⟨by simp, i, rfl, hi0, hi, ?_⟩⟩
          rw [← hu, hd]; rfl
        · simp only [hc, decide_false, Bool.not_false, if_true]
          have : (!(c == 10)) = true := by simpa using hc
          rw [if_pos this] at hu
          exact ⟨_, rfl, .inl ⟨_, rfl, ⟨rfl, by simp only; omega, by simp only; omega, hu⟩, by simp only; omega⟩⟩
      · exfalso
        apply hne
        rw [← hu, List.drop_of_length_le (by omega)]; rfl) N (s, k0) ⟨rfl, by simp, h1, rfl⟩ (by simp only; omega)
  unfold W30_5
  obtain ⟨k, rfl, hk⟩ := hp
  exact ⟨k, ho, hk⟩

theorem W_openblock (N : Nat) (s : Bs) (n k0 : Int) (h0 : 0 ≤ k0) (h1 : k0 ≤ s.length + 1) (hN : s.length + 2 < N) (hL : s.length ≤ 1000000) : ∃ k, W30_9 N (s, n, k0) = some (.brk 0 (s, n, k)) ∧ BlockEnd s k0 k := by
  obtain ⟨o, ho, hp⟩ := runLoop_post (R := Int) (step := fun x => L30_9 N x.1 x.2.1 x.2.2)
    (fun x => x.1 = s ∧ x.2.1 = n ∧ k0 ≤ x.2.2 ∧ x.2.2 ≤ s.length + 1 ∧ ∀ y, skipS (.b y) (s.drop x.2.2.toNat) = skipS (.b y) (s.drop k0.toNat)) (fun x => (s.length + 1 - x.2.2).toNat)
    (fun o => ∃ k, o = .brk 0 (s, n, k) ∧ BlockEnd s k0 k)
    (by
      rintro ⟨t', n', i⟩ ⟨e1, e2, hi0, hi, hu⟩
      dsimp only at e1 e2 hi0 hi hu ⊢
      subst e1; subst e2
      unfold L30_9 U30_9
      have w1 : IntKind.i64.wrap (i + 1) = i + 1 := wrapI (by omega) (by omega)
      by_cases h : i + 1 < t'.length
      · have c1 : inR i t'.length := ⟨by omega, by omega⟩
        have c2 : inR (i + 1) t'.length := ⟨by omega, by omega⟩
        obtain ⟨c, hd, hb⟩ := drop_byte t' (show 0 ≤ i by omega) (by omega)
        obtain ⟨d, hd2, hb2⟩ := drop_byte t' (show 0 ≤ i + 1 by omega) h
        simp only [ev_br, ev_leaf, w1, ev_ck c1, ev_ck c2, decide_eq_true_eq, h, if_true, hb, hb2, is42, is47]
        rw [hd2] at hd
        rw [hd] at hu
        by_cases hc : c = 42 ∧ d = 47
        · obtain ⟨rfl, rfl⟩ := hc
          refine ⟨_, by rfl, .inr ⟨by simp, i, rfl, hi0, by omega, .inl ⟨h, fun x => ?_⟩⟩⟩
          rw [← hu x]
          simp only [skipS, List.head?_cons, and_self, if_true]
          rw [show (i + 1 + 1).toNat = (i + 2).toNat by omega]
        · have hst : ∀ y, skipS (.b y) (t'.drop (i + 1).toNat) = skipS (.b y) (t'.drop k0.toNat) := fun y => by
            rw [← hu y, hd2]
            conv => rhs; unfold skipS
            rw [if_neg (by simpa using hc)]
          have good : ∃ o, (some (Lp.next (t', n', i + 1)) : Option (Lp (Bs × Int × Int) Int)) = some o ∧ ((∃ y, o = .next y ∧ (y.1 = t' ∧ y.2.1 = n' ∧ k0 ≤ y.2.2 ∧ y.2.2 ≤ t'.length + 1 ∧ ∀ z, skipS (.b z) (t'.drop y.2.2.toNat) = skipS (.b z) (t'.drop k0.toNat)) ∧ (t'.length + 1 - y.2.2).toNat < (t'.length + 1 - i).toNat) ∨
              ((∀ y, o ≠ .next y) ∧ ∃ k, o = .brk 0 (t', n', k) ∧ BlockEnd t' k0 k)) := ⟨_, rfl, .inl ⟨_, rfl, ⟨rfl, rfl, by simp only; omega, by simp only; omega, hst⟩, by simp only; omega⟩⟩
          by_cases hc1 : c = 42
          · have hd1 : d ≠ 47 := fun e => hc ⟨hc1, e⟩
            simp only [hc1, decide_true, if_true, hd1, decide_false, Bool.not_false]
            exact good
          · simp only [hc1, if_false]
            exact good
      · refine ⟨.brk 0 (t', n', i), ?_, .inr ⟨by simp, i, rfl, hi0, hi, .inr ⟨by omega, fun x => ?_⟩⟩⟩
        · simp only [ev_br, ev_leaf, w1, decide_eq_true_eq, h, if_false]
        · rw [← hu x]
          exact block_short x _ (by rw [List.length_drop]; omega)) N (s, n, k0) ⟨rfl, rfl, by simp, h1, fun _ => rfl⟩ (by simp only; omega)
  unfold W30_9
  obtain ⟨k, rfl, hk⟩ := hp
  exact ⟨k, ho, hk⟩

theorem W_openblank (N : Nat) (s : Bs) (k0 : Int) (h0 : 0 ≤ k0) (h1 : k0 ≤ s.length) (hN : s.length + 2 < N) (hL : s.length ≤ 1000000) :
    ∃ k, W30_2 N (s, k0) = some (.brk 0 (s, k)) ∧ k0 ≤ k ∧ k ≤ s.length ∧ skipS .n (s.drop k.toNat) = skipS .n (s.drop k0.toNat) ∧ ∀ c r, s.drop k.toNat = c :: r → blankB c = false := by
  obtain ⟨o, ho, hp⟩ := runLoop_post (R := Int) (step := fun x => L30_2 N x.1 x.2)
    (fun x => x.1 = s ∧ k0 ≤ x.2 ∧ x.2 ≤ s.length ∧ skipS .n (s.drop x.2.toNat) = skipS .n (s.drop k0.toNat)) (fun x => (s.length - x.2).toNat)
    (fun o => ∃ k, o = .brk 0 (s, k) ∧ k0 ≤ k ∧ k ≤ s.length ∧ skipS .n (s.drop k.toNat) = skipS .n (s.drop k0.toNat) ∧ ∀ c r, s.drop k.toNat = c :: r → blankB c = false)
    (by
      rintro ⟨t', i⟩ ⟨e1, hi0, hi, hu⟩
      dsimp only at e1 hi0 hi hu ⊢
      subst e1
      unfold L30_2 U30_2
      by_cases h : i < t'.length
      · have c1 : inR i t'.length := ⟨by omega, by omega⟩
        obtain ⟨c, hd, hb⟩ := drop_byte t' (show 0 ≤ i by omega) (by omega)
        have w1 : IntKind.i64.wrap (i + 1) = i + 1 := wrapI (by omega) (by omega)
        simp only [ev_br, ev_leaf, w1, ev_ck c1, decide_eq_true_eq, h, if_true, hb, is32, is9, is10, is13]
        by_cases hbl : blankB c = true
        · have hnx : skipS .n (t'.drop (i + 1).toNat) = skipS .n (t'.drop k0.toNat) := by rw [← hu, hd]; simp only [skipS, hbl, if_true]
          have good : ∃ o, (some (Lp.next (t', i + 1)) : Option (Lp (Bs × Int) Int)) = some o ∧ ((∃ y, o = .next y ∧ (y.1 = t' ∧ k0 ≤ y.2 ∧ y.2 ≤ t'.length ∧ skipS .n (t'.drop y.2.toNat) = skipS .n (t'.drop k0.toNat)) ∧ (t'.length - y.2).toNat < (t'.length - i).toNat) ∨
              ((∀ y, o ≠ .next y) ∧ ∃ k, o = .brk 0 (t', k) ∧ k0 ≤ k ∧ k ≤ t'.length ∧ skipS .n (t'.drop k.toNat) = skipS .n (t'.drop k0.toNat) ∧ ∀ c r, t'.drop k.toNat = c :: r → blankB c = false)) :=
            ⟨_, rfl, .inl ⟨_, rfl, ⟨rfl, by simp only; omega, by simp only; omega, hnx⟩, by simp only; omega⟩⟩
          simp only [blankB, Bool.or_eq_true, beq_iff_eq] at hbl
          by_cases b1 : c = 32
          · rw [if_pos b1]; exact good
          rw [if_neg b1]
          by_cases b2 : c = 9
          · rw [if_pos b2]; exact good
          rw [if_neg b2]
          by_cases b3 : c = 10
          · rw [if_pos b3]; exact good
          rw [if_neg b3]
          by_cases b4 : c = 13
          · rw [if_pos b4]; exact good
          exact absurd hbl (by simp [b1, b2, b3, b4])
        · have hbl' : blankB c = false := by simpa using hbl
          have hnb : c ≠ 32 ∧ c ≠ 9 ∧ c ≠ 10 ∧ c ≠ 13 := by
            simp only [blankB, Bool.or_eq_true, beq_iff_eq] at hbl
            exact ⟨fun e => hbl (by simp [e]), fun e => hbl (by simp [e]), fun e => hbl (by simp [e]), fun e => hbl (by simp [e])⟩
          rw [if_neg hnb.1, if_neg hnb.2.1, if_neg hnb.2.2.1, if_neg hnb.2.2.2]
          refine ⟨_, rfl, .inr ⟨by simp, i, rfl, hi0, hi, hu, fun c' r' he => ?_⟩⟩
          rw [hd] at he
          injection he with he _
          rw [← he]; exact hbl'
      · refine ⟨.brk 0 (t', i), by simp [h], .inr ⟨by simp, i, rfl, hi0, hi, hu, fun c' r' he => ?_⟩⟩
        rw [List.drop_of_length_le (by omega)] at he
        cases he) N (s, k0) ⟨rfl, by simp, h1, rfl⟩ (by simp only; omega)
  unfold W30_2
  obtain ⟨k, rfl, hk⟩ := hp
  exact ⟨k, ho, hk⟩

theorem R_open (N : Nat) (s : Bs) (at_ : Int) (h0 : 0 ≤ at_) (h1 : at_ ≤ s.length) (hN : s.length + 2 < N) (hL : s.length ≤ 1000000) (hf : (skipS .n (s.drop at_.toNat)).1 = false) :
    F30 N s at_ = some ((s.length : Int) - ((skipS .n (s.drop at_.toNat)).2.length : Int)) := by
  unfold F30 V30
  rw [ev_f0]
  obtain ⟨p, hp0⟩ : ∃ p, skipS .n (s.drop at_.toNat) = p := ⟨_, rfl⟩
  rw [hp0] at hf ⊢
  obtain ⟨o, ho, hp⟩ := runLoop_post (R := Int) (step := fun x => L30_1 N x.1 x.2)
    (fun x => x.1 = s ∧ 0 ≤ x.2 ∧ x.2 ≤ s.length ∧ skipS .n (s.drop x.2.toNat) = p) (fun x => (s.length - x.2).toNat)
    (fun o => o = .ret ((s.length : Int) - (p.2.length : Int)))
    (by
      rintro ⟨t', i0⟩ ⟨e1, hi0, hi, hu⟩
      dsimp only at e1 hi0 hi hu ⊢
      subst e1
      unfold L30_1 U30_1
      simp only [Vt.g1, ev_loop1]
      obtain ⟨i, hk1, hk2, hk3, hk4, hk5⟩ := W_openblank N t' i0 hi0 hi hN hL
      rw [hk1, lp1_brk]
      dsimp only
      rw [hu] at hk4
      have h : i < t'.length := by
        rcases Int.lt_or_eq_of_le hk3 with h' | h'
        · exact h'
        · exfalso
          rw [h', Int.toNat_natCast, List.drop_of_length_le (Nat.le_refl _)] at hk4
          rw [← hk4] at hf
          cases hf
      have c1 : inR i t'.length := ⟨by omega, h⟩
      obtain ⟨c, hd, hb⟩ := drop_byte t' (show 0 ≤ i by omega) h
      have hbl := hk5 _ _ hd
      have hlen : (t'.drop i.toNat).length = t'.length - i.toNat := List.length_drop
      simp only [ev_br, ev_leaf, ev_ck c1, ev_loop1, decide_eq_true_eq, hb, is35]
      rw [hd] at hk4 hlen
      simp only [skipS, hbl, Bool.false_eq_true, if_false] at hk4
      by_cases h35 : c = 35
      · rw [if_pos h35] at hk4 ⊢
        have hne : (t'.drop i.toNat).dropWhile (fun c => !(c == 10)) ≠ [] := fun he => by
          rw [hd, List.dropWhile_cons, if_pos (by rw [h35]; rfl)] at he
          rw [skip_line2, he] at hk4
          rw [← hk4] at hf
          cases hf
        obtain ⟨k, j1, j2, j3, j4⟩ := W_openline N t' i (by omega) hk3 hN hL hne
        rw [j1, lp1_brk]
        rw [hd, List.dropWhile_cons, if_pos (by rw [h35]; rfl)] at j4
        rw [skip_line2, ← j4] at hk4
        have hki : i < k := by
          rcases Int.lt_or_eq_of_le j2 with h' | h'
          · exact h'
          · exfalso
            rw [← h', hd] at j4
            have := congrArg List.length j4
            have := (List.dropWhile_suffix (fun c : UInt8 => !(c == 10)) (l := t'.drop (i + 1).toNat)).length_le
            simp only [List.length_cons] at *
            omega
        exact ⟨_, rfl, .inl ⟨_, rfl, ⟨rfl, by simp only; omega, by simp only; omega, hk4⟩, by simp only; omega⟩⟩
      · rw [if_neg h35] at hk4 ⊢
        have w2 : IntKind.i64.wrap (i + 2) = i + 2 := wrapI (by omega) (by omega)
        by_cases hc : c = 47 ∧ (t'.drop (i + 1).toNat).head? = some 42
        · rw [if_pos hc] at hk4
          have h2 : i + 1 < t'.length := by
            rcases Int.lt_or_le (i + 1) t'.length with h' | h'
            · exact h'
            · exfalso
              have := hc.2
              rw [List.drop_of_length_le (by omega)] at this
              simp at this
          obtain ⟨d, hd2, hb2⟩ := drop_byte t' (show 0 ≤ i + 1 by omega) h2
          rw [hd2] at hk4
          simp only [skipS] at hk4
          obtain ⟨k, j1, j2, j3, j4⟩ := W_openblock N t' i (i + 2) (by omega) (by omega) hN hL
          rw [w2, j1, lp1_brk]
          have w3 : IntKind.i64.wrap (k + 1) = k + 1 := wrapI (by omega) (by omega)
          have w4 : IntKind.i64.wrap (k + 2) = k + 2 := wrapI (by omega) (by omega)
          simp only [w3, w4]
          rw [show (i + 1 + 1).toNat = (i + 2).toNat by omega] at hk4
          rcases j4 with ⟨j5, j6⟩ | ⟨j5, j6⟩
          · rw [if_neg (by omega)]
            rw [j6] at hk4
            exact ⟨_, rfl, .inl ⟨_, rfl, ⟨rfl, by simp only; omega, by simp only; omega, hk4⟩, by simp only; omega⟩⟩
          · rw [if_pos (by omega)]
            rw [j6] at hk4
            refine ⟨_, rfl, .inr ⟨by simp, ?_⟩⟩
            rw [← hk4]
            have hl2 : ((c :: d :: t'.drop (i + 2).toNat).length : Int) = (t'.length : Int) - i := by simp only [List.length_cons, List.length_drop]; omega
            simp only [hl2]
            congr 1; omega
        · rw [if_neg hc] at hk4
          rw [← hk4] at hf
          cases hf) N (s, at_) ⟨rfl, h0, h1, hp0⟩ (by simp only; omega)
  unfold W30_1
  rw [ho, hp]; rfl

/-! ### What a written word means -/

theorem R_value (N : Nat) (c : UInt8) : F54 N (c.toNat : Int) = some (match hexV c with | some x => (x : Int) | none => -1) := by
  unfold F54 V54 hexV
  have h0 := c.toNat_lt
  simp only [ev_br, ev_leaf, decide_eq_true_eq]
  generalize c.toNat = n at h0
  have w1 : 48 ≤ n → n ≤ 57 → IntKind.i64.wrap (IntKind.u8.wrap ((n : Int) - 48)) = ((n - 48 : Nat) : Int) := fun a b => by
    have : IntKind.u8.wrap ((n : Int) - 48) = (n : Int) - 48 := by
      unfold IntKind.wrap; simp [IntKind.signed, IntKind.bits]; omega
    rw [this, wrapI (by omega) (by omega)]; omega
  have w2 : 97 ≤ n → n ≤ 102 → IntKind.i64.wrap (IntKind.i64.wrap (IntKind.u8.wrap ((n : Int) - 97)) + 10) = ((n - 97 + 10 : Nat) : Int) := fun a b => by
    have : IntKind.u8.wrap ((n : Int) - 97) = (n : Int) - 97 := by
      unfold IntKind.wrap; simp [IntKind.signed, IntKind.bits]; omega
    rw [this, wrapI (n := (n : Int) - 97) (by omega) (by omega), wrapI (by omega) (by omega)]; omega
  by_cases a1 : 48 ≤ n
  · rw [if_pos (show (48 : Int) ≤ (n : Int) by omega)]
    by_cases a2 : n ≤ 57
    · rw [if_pos (show (n : Int) ≤ 57 by omega), if_pos (show 48 ≤ n ∧ n ≤ 57 from ⟨a1, a2⟩), w1 a1 a2]
    · rw [if_neg (show ¬(n : Int) ≤ 57 by omega), if_neg (show ¬(48 ≤ n ∧ n ≤ 57) from fun h => a2 h.2)]
      by_cases a3 : 97 ≤ n
      · rw [if_pos (show (97 : Int) ≤ (n : Int) by omega)]
        by_cases a4 : n ≤ 102
        · rw [if_pos (show (n : Int) ≤ 102 by omega), if_pos (show 97 ≤ n ∧ n ≤ 102 from ⟨a3, a4⟩), w2 a3 a4]
        · rw [if_neg (show ¬(n : Int) ≤ 102 by omega), if_neg (show ¬(97 ≤ n ∧ n ≤ 102) from fun h => a4 h.2)]
      · rw [if_neg (show ¬(97 : Int) ≤ (n : Int) by omega), if_neg (show ¬(97 ≤ n ∧ n ≤ 102) from fun h => a3 h.1)]
  · rw [if_neg (show ¬(48 : Int) ≤ (n : Int) by omega), if_neg (show ¬(97 : Int) ≤ (n : Int) by omega), if_neg (show ¬(48 ≤ n ∧ n ≤ 57) from fun h => a1 h.1), if_neg (show ¬(97 ≤ n ∧ n ≤ 102) from fun h => by omega)]

theorem W_bare (N : Nat) (t : Bs) (hN : t.length < N) (hL : t.length ≤ 1000000) : W51_4 N (t, 0) = some (if t.all bareB = true then .brk 0 (t, (t.length : Int)) else .ret false) := by
  have := loop_all (R := Bool) (step := fun x => L51_4 N x.1 x.2) t.length (fun i => bareB (t.getD i 0)) (fun i => (t, i)) false (fun i h0 hi => by
    unfold L51_4 U51_4
    by_cases h : i < t.length
    · have c1 : inR i t.length := ⟨h0, h⟩
      have hb : byteAt t i = ((t.getD i.toNat 0).toNat : Int) := rfl
      have w1 : IntKind.i64.wrap (i + 1) = i + 1 := wrapI (by omega) (by omega)
      simp only [ev_br, ev_leaf, ev_ck c1, ev_c1, decide_eq_true_eq, h, if_true, hb, R_bare, obind_some, w1]
      cases bareB (t.getD i.toNat 0) <;> rfl
    · simp [h]) N hN
  unfold W51_4
  rw [this, all_getD 0 bareB t]

theorem R_Bare (N : Nat) (t : Bs) (hN : t.length < N) (hL : t.length ≤ 1000000) : F51 N t = some (bareW t) := by
  unfold F51 V51
  have hw := W_bare N t hN hL
  have e : bareW t = (!(t == ([] : Bs)) && (!(t == inactW) && (!(t == protW) && (!([47, 42] : Bs).isPrefixOf t && t.all bareB)))) := by
    unfold bareW
    have h1 : t.isEmpty = (t == ([] : Bs)) := by cases t <;> rfl
    rw [h1]
    cases t == ([] : Bs) <;> cases t.all bareB <;> cases t == inactW <;> cases t == protW <;> cases ([47, 42] : Bs).isPrefixOf t <;> rfl
  have fin : lp1 (W51_4 N (t, 0)) id (fun _ => some true) = some (t.all bareB) := by
    rw [hw]
    cases t.all bareB <;> rfl
  simp only [ev_br, ev_leaf, ev_f1, fin, decide_eq_true_eq]
  have hc : (if (1 : Int) < (t.length : Int) then (Vt.ck (Z := Option D) (E := fun q => some (E51 q)) (inR 0 t.length) (.br ((byteAt t 0) == 47) (.ck (inR 1 t.length) (.br ((byteAt t 1) == 42) (.leaf false) (.f1 (l := l51_4) (o := W51_4 N (t, 0)) (WS51_4 N (t, 0)) (fun x1 => .leaf true)))) (.f1 (l := l51_4) (o := W51_4 N (t, 0)) (WS51_4 N (t, 0)) (fun x2 => .leaf true)))).eval else some (t.all bareB)) =
      some (!([47, 42] : Bs).isPrefixOf t && t.all bareB) := by
    match t, fin with
    | [], _ => rfl
    | [c], _ => simp [List.isPrefixOf]
    | c :: d :: r, fin =>
      have c0 : inR 0 (c :: d :: r).length := ⟨by omega, by simp only [List.length_cons]; omega⟩
      have c1 : inR 1 (c :: d :: r).length := ⟨by omega, by simp only [List.length_cons]; omega⟩
      rw [if_pos (by simp only [List.length_cons]; omega)]
      simp only [ev_br, ev_leaf, ev_ck c0, ev_ck c1, ev_f1, fin, byte0, byte1, is47, is42, decide_eq_true_eq]
      by_cases h1 : c = 47
      · rw [if_pos h1]
        by_cases h2 : d = 42
        · rw [if_pos h2, h1, h2]; simp [List.isPrefixOf]
        · rw [if_neg h2]
          have : ([47, 42] : Bs).isPrefixOf (c :: d :: r) = false := by
            rw [← Bool.not_eq_true, pre2]; intro hh; exact h2 (by simpa using hh.2)
          rw [this]; rfl
      · rw [if_neg h1]
        have : ([47, 42] : Bs).isPrefixOf (c :: d :: r) = false := by
          rw [← Bool.not_eq_true, pre2]; intro hh; exact h1 hh.1
        rw [this]; rfl
  rw [hc, e]
  unfold inactW protW
  cases t == ([] : Bs) <;> cases t == ([105, 110, 97, 99, 116, 105, 118, 101, 58] : Bs) <;> cases t == ([112, 114, 111, 116, 101, 99, 116, 58] : Bs) <;> simp

theorem hex16 : ∀ x : Nat, x < 16 → ∀ y : Nat, y < 16 → IntKind.u8.wrap (IntKind.i64.wrap (IntKind.i64.wrap (16 * (x : Int)) + (y : Int))) = ((UInt8.ofNat (16 * x + y)).toNat : Int) := of_decide_eq_true (by kernel_rfl)

theorem slc_cons (t : Bs) {i e : Int} (h0 : 0 ≤ i) (h1 : i < e) (h2 : e ≤ t.length) : ∃ c, slc t i e = c :: slc t (i + 1) e ∧ byteAt t i = (c.toNat : Int) := by
  obtain ⟨c, hd, hb⟩ := drop_byte t h0 (show i < t.length by omega)
  refine ⟨c, ?_, hb⟩
  unfold slc
  rw [hd, show e.toNat - i.toNat = (e.toNat - (i + 1).toNat) + 1 by omega, List.take_succ_cons]

theorem slc_lenI (t : Bs) {i e : Int} (h0 : 0 ≤ i) (h1 : i ≤ e) (h2 : e ≤ t.length) : ((slc t i e).length : Int) = e - i := by
  unfold slc
  rw [List.length_take, List.length_drop]; omega

/-- One round: the piece that is read. -/
theorem R_round (N : Nat) (t w : Bs) (i : Int) (h0 : 1 ≤ i) (h1 : i < (t.length : Int) - 1) (hw : w.length ≤ t.length) (hL : t.length ≤ 100000) :
    L32_9 N t (bts w) i = some (match pieceS (slc t i ((t.length : Int) - 1)) with
      | none => .ret ([], 2)
      | some (x, n) => .next (t, bts (w ++ [x]), i + n)) := by
  unfold L32_9 U32_9
  have w1 : IntKind.i64.wrap ((t.length : Int) - 1) = (t.length : Int) - 1 := wrapI (by omega) (by omega)
  have w2 : IntKind.i64.wrap (i + 1) = i + 1 := wrapI (by omega) (by omega)
  have w3 : IntKind.i64.wrap (i + 1 + 1) = i + 2 := by rw [wrapI (by omega) (by omega)]; omega
  have w4 : IntKind.i64.wrap (i + 3) = i + 3 := wrapI (by omega) (by omega)
  have w5 : IntKind.i64.wrap (i + 3 + 1) = i + 4 := by rw [wrapI (by omega) (by omega)]; omega
  have c1 : inR i t.length := ⟨by omega, by omega⟩
  obtain ⟨c, hs, hb⟩ := slc_cons t (show 0 ≤ i by omega) h1 (by omega)
  have hrl := slc_lenI t (show 0 ≤ i + 1 by omega) (show i + 1 ≤ (t.length : Int) - 1 by omega) (by omega)
  have c2 : (0 : Int) ≤ i + 1 ∧ i + 1 ≤ (t.length : Int) - 1 ∧ (t.length : Int) - 1 ≤ (t.length : Int) := ⟨by omega, by omega, by omega⟩
  rw [hs]
  have hbl : (bts w).length = w.length := by unfold bts; rw [List.length_map]
  have rm : ∀ x : Int, room ((bts w).length + ([x] : List Int).length) := fun x => by show _ ≤ _; rw [hbl]; simp; omega
  have ba : ∀ x : UInt8, bts w ++ [(x.toNat : Int)] = bts (w ++ [x]) := fun x => by rw [bts_app]; rfl
  unfold pieceS
  simp only [ev_br, ev_leaf, w1, w2, w3, w4, w5, ev_ck c1, ev_ck c2, ev_ck (rm _), ev_c1, decide_eq_true_eq, hb, isnt, is34, is92, if_pos h1, show ((c.toNat : Int) < 32) ↔ c.toNat < 32 by omega, show ((126 : Int) < (c.toNat : Int)) ↔ 126 < c.toNat by omega]
  by_cases e1 : c.toNat < 32
  · simp only [e1, true_or, or_true, if_true]
  by_cases e2 : 126 < c.toNat
  · simp only [e1, e2, or_true, if_true, if_false]
  by_cases e3 : c = 34
  · simp only [e1, e2, e3, true_or, if_true, if_false, decide_true]
    simp
  simp only [e1, e2, e3, or_self, if_false, decide_false, Bool.false_eq_true]
  by_cases e4 : c = 92
  · subst e4
    simp only [decide_true, Bool.not_true, Bool.false_eq_true, if_false, ne_eq, not_true]
    obtain ⟨r, hr⟩ : ∃ r, slc t (i + 1) ((t.length : Int) - 1) = r := ⟨_, rfl⟩
    rw [hr] at hrl
    simp only [hr]
    cases r with
    | nil =>
      simp only [List.length_nil]
      rw [if_neg (by decide), if_pos (by decide)]
    | cons d r' =>
      have k0 : (0 : Int) < ((d :: r').length : Int) := by simp only [List.length_cons]; omega
      have c3 : inR 0 (d :: r').length := ⟨by omega, k0⟩
      simp only [if_pos k0, ev_br, ev_leaf, ev_ck c3, byte0, is34, is92, is120, isnt, decide_eq_true_eq]
      by_cases e5 : d = 34
      · subst e5
        simp only [if_true, true_or]
        rw [ev_ck (rm _), ba]; rfl
      by_cases e6 : d = 92
      · subst e6
        simp only [e5, if_true, if_false, or_true]
        rw [ev_ck (rm _), ba]; rfl
      simp only [e5, e6, if_false, or_self]
      match r' with
      | [] =>
        rw [if_pos (show (([d] : Bs).length : Int) < 3 by simp)]
        by_cases e7 : d = 120
        · rw [if_neg (not_not_intro e7)]
        · rw [if_pos e7]
      | [x] =>
        rw [if_pos (show (([d, x] : Bs).length : Int) < 3 by simp)]
        by_cases e7 : d = 120
        · rw [if_neg (not_not_intro e7)]
        · rw [if_pos e7]
      | a :: b :: r'' =>
        have k1 : ¬((d :: a :: b :: r'').length : Int) < 3 := by simp only [List.length_cons]; omega
        have c4 : inR 1 (d :: a :: b :: r'').length := ⟨by omega, by simp only [List.length_cons]; omega⟩
        have c5 : inR 2 (d :: a :: b :: r'').length := ⟨by omega, by simp only [List.length_cons]; omega⟩
        simp only [if_neg k1, ev_br, ev_leaf, ev_ck c4, ev_ck c5, ev_ck (rm _), ev_c1, byte1, byte2, R_value, obind_some, decide_eq_true_eq]
        by_cases e7 : d = 120
        · simp only [e7, decide_true, Bool.not_true, Bool.false_eq_true, if_false, ne_eq, not_true]
          cases ha : hexV a with
          | none => rfl
          | some x =>
            dsimp only
            rw [if_neg (show ¬(x : Int) < 0 by omega)]
            cases hb' : hexV b with
            | none => rfl
            | some y =>
              dsimp only
              rw [if_neg (show ¬(y : Int) < 0 by omega), hex16 x (hexV_lt ha) y (hexV_lt hb'), ba]
              rfl
        · simp only [e7, decide_false, Bool.not_false, if_true, ne_eq, not_false_eq_true]
  · simp only [e4, decide_false, Bool.not_false, if_true, ne_eq, not_false_eq_true]
    rw [ba]; rfl

theorem R_unq (N : Nat) (t : Bs) (hN : t.length < N) (hL : t.length ≤ 100000) : F32 N t = some (unqS t) := by
  unfold F32 V32
  simp only [ev_br, ev_leaf, ev_c1, R_Bare N t hN (by omega), obind_some, decide_eq_true_eq, isnt]
  have w1 : IntKind.i64.wrap ((t.length : Int) - 1) = (t.length : Int) - 1 := wrapI (by omega) (by omega)
  have fin : (if (!bareW t) = true then some (([] : Bs), (2 : Int)) else if (40 : Int) < (t.length : Int) then some ([], 5) else some (t, 0)) = some (if bareW t = true then lenE t else ([], 2)) := by
    unfold lenE
    cases bareW t
    · rfl
    · by_cases h : 40 < t.length
      · rw [if_pos (show (40 : Int) < (t.length : Int) by omega)]; simp [h]
      · rw [if_neg (show ¬(40 : Int) < (t.length : Int) by omega)]; simp [h]
  by_cases hq : quotedB t = true
  · have hq' := hq
    simp only [quotedB, Bool.and_eq_true, decide_eq_true_eq, beq_iff_eq] at hq'
    obtain ⟨⟨q1, q2⟩, q3⟩ := hq'
    have hb0 : byteAt t 0 = 34 := by
      cases t with
      | nil => simp at q1
      | cons c r =>
        have : c = 34 := by simpa using q2
        subst this; rfl
    have hbl := (last_byte t (by omega)).1 q3
    have c0 : inR 0 t.length := ⟨by omega, by omega⟩
    have c1 : inR ((t.length : Int) - 1) t.length := ⟨by omega, by omega⟩
    have hslc : slc t 1 ((t.length : Int) - 1) = (t.drop 1).take (t.length - 2) := by
      unfold slc
      rw [show ((t.length : Int) - 1).toNat - (1 : Int).toNat = t.length - 2 by omega]; rfl
    have hu : unqS t = match innS ((t.drop 1).take (t.length - 2)) with
      | some w => lenE w
      | none => ([], 2) := by unfold unqS; rw [if_pos hq]; rfl
    rw [hu, if_neg (show ¬(t.length : Int) < 2 by omega)]
    have hne : ((34 : Int) != 34) = false := rfl
    simp only [ev_br, ev_leaf, w1, ev_ck c0, ev_ck c1, ev_f1, hb0, hbl, hne, Bool.false_eq_true, if_false, decide_eq_true_eq]
    rw [← hslc]
    obtain ⟨o, ho, hp⟩ := runLoop_post (R := Bs × Int) (step := fun x => L32_9 N x.1 x.2.1 x.2.2)
      (fun x => x.1 = t ∧ 1 ≤ x.2.2 ∧ x.2.2 ≤ (t.length : Int) - 1 ∧ ∃ w, x.2.1 = bts w ∧ (w.length : Int) ≤ x.2.2 ∧ innS (slc t 1 ((t.length : Int) - 1)) = (innS (slc t x.2.2 ((t.length : Int) - 1))).map (w ++ ·)) (fun x => (t.length - x.2.2).toNat)
      (fun o => (∃ w i, innS (slc t 1 ((t.length : Int) - 1)) = some w ∧ o = .brk 0 (t, bts w, i)) ∨ (innS (slc t 1 ((t.length : Int) - 1)) = none ∧ o = .ret ([], 2)))
      (by
        rintro ⟨t', l, i⟩ ⟨e1, hi0, hi, w, e2, hwl, hu⟩
        dsimp only at e1 hi0 hi e2 hwl hu ⊢
        subst e1; subst e2
        by_cases h : i < (t'.length : Int) - 1
        · rw [R_round N t' w i hi0 h (by omega) hL]
          obtain ⟨c, hs, _⟩ := slc_cons t' (show 0 ≤ i by omega) h (by omega)
          have hsl := slc_lenI t' (show 0 ≤ i by omega) (show i ≤ (t'.length : Int) - 1 by omega) (by omega)
          rw [hs, inn_piece, ← hs] at hu
          cases hpc : pieceS (slc t' i ((t'.length : Int) - 1)) with
          | none =>
            rw [hpc] at hu
            exact ⟨_, rfl, .inr ⟨by simp, .inr ⟨hu, rfl⟩⟩⟩
          | some q =>
            obtain ⟨x, n⟩ := q
            rw [hpc] at hu
            obtain ⟨n1, n2⟩ := piece_le hpc
            refine ⟨_, rfl, .inl ⟨_, rfl, ⟨rfl, by simp only; omega, by simp only; omega, w ++ [x], rfl, ?_, ?_⟩, by simp only; omega⟩⟩
            · simp only [List.length_append, List.length_cons, List.length_nil]; omega
            · rw [hu]
              simp only
              have : (slc t' i ((t'.length : Int) - 1)).drop n = slc t' (i + n) ((t'.length : Int) - 1) := by
                unfold slc
                rw [List.drop_take, List.drop_drop, show i.toNat + n = (i + n).toNat by omega, show ((t'.length : Int) - 1).toNat - i.toNat - n = ((t'.length : Int) - 1).toNat - (i + n).toNat by omega]
              rw [this, Option.map_map]
              congr 1
              funext k
              simp
        · have w1' : IntKind.i64.wrap ((t'.length : Int) - 1) = (t'.length : Int) - 1 := w1
          refine ⟨.brk 0 (t', bts w, i), ?_, .inr ⟨by simp, .inl ⟨w, i, ?_, rfl⟩⟩⟩
          · unfold L32_9 U32_9
            simp only [ev_br, ev_leaf, w1', decide_eq_true_eq, h, if_false]
          · rw [hu]
            have : slc t' i ((t'.length : Int) - 1) = [] := by
              unfold slc
              rw [show ((t'.length : Int) - 1).toNat - i.toNat = 0 by omega, List.take_zero]
            rw [this]; simp [innS]) N (t, ([] : List Int), 1) ⟨rfl, by simp, by simp only; omega, [], rfl, by simp, by simp⟩ (by simp only; omega)
    unfold W32_9
    rw [ho]
    rcases hp with ⟨w, i, hw, rfl⟩ | ⟨hw, rfl⟩
    · rw [hw, lp1_brk]
      dsimp only
      rw [strOf_bts]
      unfold lenE
      have hbl : (bts w).length = w.length := by unfold bts; rw [List.length_map]
      rw [hbl]
      by_cases h : 40 < w.length
      · rw [if_pos h, if_pos (show (40 : Int) < (w.length : Int) by omega)]
      · rw [if_neg h, if_neg (show ¬(40 : Int) < (w.length : Int) by omega)]
    · rw [hw]; rfl
  · have hu : unqS t = if bareW t = true then lenE t else ([], 2) := by unfold unqS; rw [if_neg hq]
    rw [hu]
    by_cases h1 : (t.length : Int) < 2
    · rw [if_pos h1, fin]
    · rw [if_neg h1]
      have c0 : inR 0 t.length := ⟨by omega, by omega⟩
      have c1 : inR ((t.length : Int) - 1) t.length := ⟨by omega, by omega⟩
      simp only [ev_br, ev_leaf, ev_c1, w1, ev_ck c0, ev_ck c1, R_Bare N t hN (by omega), obind_some, decide_eq_true_eq, fin]
      by_cases h2 : byteAt t 0 = 34
      · rw [if_neg (by simpa using h2)]
        by_cases h3 : byteAt t ((t.length : Int) - 1) = 34
        · exfalso
          apply hq
          simp only [quotedB, Bool.and_eq_true, decide_eq_true_eq, beq_iff_eq]
          refine ⟨⟨by omega, ?_⟩, (last_byte t (by omega)).2 h3⟩
          cases t with
          | nil => simp at h1
          | cons c r =>
            rw [byte0] at h2
            have : c = 34 := (b_eq c 34 (by decide)).1 (by simpa using h2)
            rw [this]; rfl
        · rw [if_pos (by simpa using h3)]
      · rw [if_pos (by simpa using h2)]

/-! ### All tokens -/

theorem unq_in : unqS inactW = ([], 2) := by kernel_rfl
theorem unq_pr : unqS protW = ([], 2) := by kernel_rfl

theorem R_all (N : Nat) (s : Bs) (hN : s.length + 2 < N) (hL : s.length ≤ 100000) : F17 N s = some (allS s) := by
  unfold F17 V17
  rw [ev_f0]
  obtain ⟨o, ho, hp⟩ := runLoop_post (R := List Tok × Int × Int) (step := fun x => L17_3 N x.1 x.2.1 x.2.2)
    (fun x => x.1 = s ∧ 0 ≤ x.2.2 ∧ x.2.2 ≤ s.length ∧ ∃ acc : List RTok, x.2.1 = acc.map (toTok s.length) ∧ (acc.length : Int) ≤ x.2.2 ∧ lexR s = appE acc (lexR (s.drop x.2.2.toNat))) (fun x => (s.length - x.2.2).toNat)
    (fun o => o = .ret (allS s))
    (by
      rintro ⟨s', out, i⟩ ⟨e1, hi0, hi, acc, hout, hacc, hlex⟩
      dsimp only at e1 hi0 hi hout hacc hlex ⊢
      subst e1
      unfold L17_3 U17_3
      simp only [ev_br, ev_leaf, ev_c1, R_gap N s' i hi0 hi (by omega) (by omega), obind_some, decide_eq_true_eq]
      rw [lexR_eq (s'.drop i.toNat)] at hlex
      have hsl := skip_len (s'.drop i.toNat) .n trivial
      have hsf := (skip_suffix (s'.drop i.toNat) (s'.drop i.toNat) .n (List.suffix_refl _) trivial).1
      rw [List.length_drop] at hsl
      cases hb : (skipS .n (s'.drop i.toNat)).1 with
      | false =>
        rw [hb] at hlex
        simp only [Bool.false_eq_true, if_false]
        rw [if_pos (by decide), R_open N s' i hi0 hi (by omega) (by omega) hb]
        refine ⟨_, by rfl, .inr ⟨by simp, ?_⟩⟩
        unfold allS
        rw [hlex]; rfl
      | true =>
        rw [hb] at hlex
        simp only [if_true]
        generalize hrest : (skipS .n (s'.drop i.toNat)).2 = rest at hlex hsl hsf ⊢
        cases rest with
        | nil =>
          have hq : ((s'.length : Int) - (([] : Bs).length : Int) == (s'.length : Int)) = true := by simp
          rw [hq, if_neg (show ¬((s'.length : Int) - (([] : Bs).length : Int) < 0) by simp only [List.length_nil]; omega)]
          refine ⟨_, by rfl, .inr ⟨by simp, ?_⟩⟩
          unfold allS
          rw [hlex, hout]
          simp [appE]
        | cons c r =>
          have hln : (c :: r).length = r.length + 1 := rfl
          rw [hln] at hsl
          have hq : ((s'.length : Int) - ((c :: r).length : Int) == (s'.length : Int)) = false := by rw [beq_eq_false_iff_ne]; omega
          rw [hq, if_neg (show ¬((s'.length : Int) - ((c :: r).length : Int) < 0) by omega)]
          simp only [Bool.false_eq_true, if_false]
          have hdr : s'.drop ((s'.length : Int) - ((c :: r).length : Int)).toNat = c :: r := by
            have h1 := List.suffix_iff_eq_drop.1 (hsf.trans (List.drop_suffix i.toNat s'))
            rw [show ((s'.length : Int) - ((c :: r).length : Int)).toNat = s'.length - (c :: r).length by omega]
            exact h1.symm
          obtain ⟨x1, hx1⟩ : ∃ x1 : Int, x1 = (s'.length : Int) - ((c :: r).length : Int) := ⟨_, rfl⟩
          simp only [← hx1]
          rw [← hx1] at hdr
          have b0 : 0 ≤ x1 := by omega
          have b1 : x1 < s'.length := by omega
          have b2 : i ≤ x1 := by omega
          have c1 : inR x1 s'.length := ⟨b0, b1⟩
          obtain ⟨c', hd', hbt⟩ := drop_byte s' b0 b1
          rw [hdr] at hd'
          injection hd' with hc' hr'
          subst hc'
          have w1 : IntKind.i64.wrap (x1 + 1) = x1 + 1 := wrapI (by omega) (by omega)
          have rm : ∀ x : Tok, room (out.length + ([x] : List Tok).length) := fun x => by show _ ≤ _; rw [hout]; simp; omega
          dsimp only at hlex
          -- a token more
          have more : ∀ (k : RTok) (r' : Bs) (y : Int), nextS (c :: r) = .ok (k, r') → k.2.1 = (c :: r).length → x1 < y → y ≤ s'.length → s'.drop y.toNat = r' →
              ∃ o, (some (Lp.next (s', out ++ [(k.1, x1, k.2.2)], y)) : Option (Lp (Bs × List Tok × Int) (List Tok × Int × Int))) = some o ∧
                ((∃ z, o = .next z ∧ (z.1 = s' ∧ 0 ≤ z.2.2 ∧ z.2.2 ≤ s'.length ∧ ∃ acc : List RTok, z.2.1 = acc.map (toTok s'.length) ∧ (acc.length : Int) ≤ z.2.2 ∧ lexR s' = appE acc (lexR (s'.drop z.2.2.toNat))) ∧ (s'.length - z.2.2).toNat < (s'.length - i).toNat) ∨
                  ((∀ z, o ≠ .next z) ∧ o = .ret (allS s'))) := fun k r' y hn hk hy1 hy2 hy3 => by
            rw [hn] at hlex
            refine ⟨_, rfl, .inl ⟨_, rfl, ⟨rfl, by simp only; omega, by simp only; omega, acc ++ [k], ?_, ?_, ?_⟩, by simp only; omega⟩⟩
            · rw [hout, List.map_append]
              simp only [List.map_cons, List.map_nil, toTok]
              rw [hk, hx1]
            · simp only [List.length_append, List.length_cons, List.length_nil]; omega
            · simp only
              rw [hlex, appE_cons, hy3]
          have stop : ∀ (e : Int), nextS (c :: r) = .error e → allS s' = ([], x1, e) := fun e hn => by
            rw [hn] at hlex
            unfold allS
            rw [hlex]
            simp only [appE, hx1]
          simp only [ev_br, ev_leaf, ev_ck c1, hbt, is123, is125, is59, w1, decide_eq_true_eq]
          have hnx := nextS.eq_def (c :: r)
          dsimp only at hnx
          by_cases e1 : c = 123
          · rw [if_pos e1] at hnx ⊢
            rw [ev_ck (rm _)]
            exact more (2, _, [], 0) r (x1 + 1) hnx rfl (by omega) (by omega) hr'.symm
          rw [if_neg e1] at hnx ⊢
          by_cases e2 : c = 125
          · rw [if_pos e2] at hnx ⊢
            rw [ev_ck (rm _)]
            exact more (3, _, [], 0) r (x1 + 1) hnx rfl (by omega) (by omega) hr'.symm
          rw [if_neg e2] at hnx ⊢
          by_cases e3 : c = 59
          · rw [if_pos e3] at hnx ⊢
            rw [ev_ck (rm _)]
            exact more (4, _, [], 0) r (x1 + 1) hnx rfl (by omega) (by omega) hr'.symm
          rw [if_neg e3] at hnx ⊢
          rw [ev_c2, R_scan N s' x1 b0 b1 (by omega) (by omega), obind_some, hdr]
          cases hk : scanL (c :: r) with
          | none =>
            rw [hk] at hnx
            refine ⟨_, by rfl, .inr ⟨by simp, ?_⟩⟩
            rw [stop _ hnx]
          | some k =>
            rw [hk] at hnx
            dsimp only at hnx ⊢
            have hkl := scan_le hk
            have c2 : (0 : Int) ≤ x1 ∧ x1 ≤ x1 + (k : Int) ∧ x1 + (k : Int) ≤ (s'.length : Int) := ⟨by omega, by omega, by omega⟩
            have hs : slc s' x1 (x1 + (k : Int)) = (c :: r).take k := by
              unfold slc
              rw [hdr, show (x1 + (k : Int)).toNat - x1.toNat = k by omega]
            have hr2 : s'.drop (x1 + (k : Int)).toNat = (c :: r).drop k := by
              rw [← hdr, List.drop_drop, show x1.toNat + k = (x1 + (k : Int)).toNat by omega]
            have htl : ((c :: r).take k).length ≤ s'.length := by rw [List.length_take]; omega
            simp only [ev_br, ev_leaf, ev_ck c2, ev_c2, Bool.not_true, Bool.false_eq_true, if_false, hs, R_unq N ((c :: r).take k) (by omega) (by omega), obind_some, beq_iff_eq]
            have h00 : ((0 : Int) != 0) = false := rfl
            by_cases e4 : (c :: r).take k = inactW
            · rw [if_pos e4] at hnx
              have e5 : ¬(c :: r).take k = protW := by rw [e4]; decide
              rw [if_pos (show (c :: r).take k = [105, 110, 97, 99, 116, 105, 118, 101, 58] from e4), if_neg (show ¬(c :: r).take k = [112, 114, 111, 116, 101, 99, 116, 58] from e5), h00]
              simp only [Bool.false_eq_true, if_false]
              rw [ev_ck (rm _), ev_leaf, e4, unq_in]
              exact more (5, _, [], 1) _ (x1 + (k : Int)) hnx rfl (by omega) (by omega) hr2
            rw [if_neg e4] at hnx
            rw [if_neg (show ¬(c :: r).take k = [105, 110, 97, 99, 116, 105, 118, 101, 58] from e4)]
            by_cases e5 : (c :: r).take k = protW
            · rw [if_pos e5] at hnx
              rw [if_pos (show (c :: r).take k = [112, 114, 111, 116, 101, 99, 116, 58] from e5), h00]
              simp only [Bool.false_eq_true, if_false]
              rw [ev_ck (rm _), ev_leaf, e5, unq_pr]
              exact more (5, _, [], 2) _ (x1 + (k : Int)) hnx rfl (by omega) (by omega) hr2
            rw [if_neg e5] at hnx
            rw [if_neg (show ¬(c :: r).take k = [112, 114, 111, 116, 101, 99, 116, 58] from e5)]
            by_cases e6 : (unqS ((c :: r).take k)).2 = 0
            · rw [if_pos e6] at hnx
              rw [if_neg (by simpa using e6), ev_ck (rm _), ev_leaf]
              exact more (1, _, _, 0) _ (x1 + (k : Int)) hnx rfl (by omega) (by omega) hr2
            · rw [if_neg e6] at hnx
              rw [if_pos (by simpa using e6)]
              refine ⟨_, rfl, .inr ⟨by simp, ?_⟩⟩
              rw [stop _ hnx]) N (s, ([] : List Tok), 0) ⟨rfl, by simp, by simp, [], rfl, by simp, by
        simp only [Int.toNat_zero, List.drop_zero]
        cases lexR s <;> rfl⟩ (by simp only; omega)
  unfold W17_3
  rw [ho, hp]; rfl

end Go.Proofs.Ytmohgkoomnihfaa.Vc
