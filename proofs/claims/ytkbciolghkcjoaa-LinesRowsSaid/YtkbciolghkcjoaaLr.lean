/-
  WHAT THE DOCUMENT's FUNCTIONS ON WORDS AND TOKENS ANSWER: the same. No condition.
-/
import Derived.Test.YtkbciolghkcjoaaLf
set_option linter.unusedVariables false
set_option linter.unusedSimpArgs false
namespace Go.Proofs.Ytkbciolghkcjoaa.Vc

theorem R_bare (N : Nat) (c : UInt8) : F77 N (c.toNat : Int) = some (bareB c) := by
  unfold F77 V77
  simp only [ev_br, ev_leaf, decide_eq_true_eq]
  have hq : ∀ k : Nat, k < 256 → ((c.toNat : Int) == (k : Int)) = (c == UInt8.ofNat k) := fun k hk => by rw [byte_is c k hk]; rw [Bool.eq_iff_iff]; simp
  have q1 := hq 45 (by decide)
  have q2 := hq 95 (by decide)
  have q3 := hq 46 (by decide)
  have q4 := hq 47 (by decide)
  have q5 := hq 58 (by decide)
  have q6 := hq 42 (by decide)
  simp only [show ((45 : Nat) : Int) = 45 from rfl, show ((95 : Nat) : Int) = 95 from rfl, show ((46 : Nat) : Int) = 46 from rfl, show ((47 : Nat) : Int) = 47 from rfl, show ((58 : Nat) : Int) = 58 from rfl, show ((42 : Nat) : Int) = 42 from rfl] at q1 q2 q3 q4 q5 q6
  rw [q1, q2, q3, q4, q5, q6]
  have e : bareB c = ((decide (97 ≤ c.toNat) && decide (c.toNat ≤ 122)) || (decide (65 ≤ c.toNat) && decide (c.toNat ≤ 90)) || (decide (48 ≤ c.toNat) && decide (c.toNat ≤ 57)) || (c == UInt8.ofNat 45 || c == UInt8.ofNat 95 || c == UInt8.ofNat 46 || c == UInt8.ofNat 47 || c == UInt8.ofNat 58 || c == UInt8.ofNat 42)) := rfl
  rw [e]
  have tail : (if (c == UInt8.ofNat 45) = true then some true else if (c == UInt8.ofNat 95) = true then some true else if (c == UInt8.ofNat 46) = true then some true else if (c == UInt8.ofNat 47) = true then some true else if (c == UInt8.ofNat 58) = true then some true else some (c == UInt8.ofNat 42)) =
      some (c == UInt8.ofNat 45 || c == UInt8.ofNat 95 || c == UInt8.ofNat 46 || c == UInt8.ofNat 47 || c == UInt8.ofNat 58 || c == UInt8.ofNat 42) := by
    cases c == UInt8.ofNat 45 <;> cases c == UInt8.ofNat 95 <;> cases c == UInt8.ofNat 46 <;> cases c == UInt8.ofNat 47 <;> cases c == UInt8.ofNat 58 <;> rfl
  rw [tail]
  generalize (c == UInt8.ofNat 45 || c == UInt8.ofNat 95 || c == UInt8.ofNat 46 || c == UInt8.ofNat 47 || c == UInt8.ofNat 58 || c == UInt8.ofNat 42) = q
  generalize c.toNat = n
  simp only [show ((97 : Int) ≤ (n : Int)) ↔ 97 ≤ n from by omega, show ((65 : Int) ≤ (n : Int)) ↔ 65 ≤ n from by omega, show ((48 : Int) ≤ (n : Int)) ↔ 48 ≤ n from by omega,
    show ((n : Int) ≤ (122 : Int)) ↔ n ≤ 122 from by omega, show ((n : Int) ≤ (90 : Int)) ↔ n ≤ 90 from by omega, show ((n : Int) ≤ (57 : Int)) ↔ n ≤ 57 from by omega]
  by_cases a1 : 97 ≤ n <;> by_cases a2 : n ≤ 122 <;> by_cases a3 : 65 ≤ n <;> by_cases a4 : n ≤ 90 <;> by_cases a5 : 48 ≤ n <;> by_cases a6 : n ≤ 57 <;> simp [a1, a2, a3, a4, a5, a6]

/-! ### What is left off -/

theorem skip_line2 : ∀ (r : Bs), skipS .l r = skipS .n (r.dropWhile (fun c => !(c == 10)))
  | [] => rfl
  | c :: r => by
    have ih := skip_line2 r
    simp only [skipS, List.dropWhile_cons]
    by_cases hc : c = 10
    · subst hc; simp [skipS, blankB]
    · simp [hc, ih]

/-- Behind a /* : the place of the next */, or of what is left of the text. -/
def BlockEnd (s : Bs) (k0 k : Int) : Prop := k0 ≤ k ∧ k ≤ s.length + 1 ∧ ((k + 1 < s.length ∧ ∀ x, skipS (.b x) (s.drop k0.toNat) = skipS .n (s.drop (k + 2).toNat)) ∨ ((s.length : Int) ≤ k + 1 ∧ ∀ x, skipS (.b x) (s.drop k0.toNat) = (false, x)))

theorem block_short (x : Bs) : ∀ (r : Bs), r.length ≤ 1 → skipS (.b x) r = (false, x)
  | [], _ => rfl
  | [c], _ => by simp [skipS]
  | _ :: _ :: _, h => by simp at h

/-! ### The place of a comment that does not end -/

/-! ### What a written word means -/

theorem W_bare (N : Nat) (t : Bs) (hN : t.length < N) (hL : t.length ≤ 1000000) : W66_4 N (t, 0) = some (if t.all bareB = true then .brk 0 (t, (t.length : Int)) else .ret false) := by
  have := loop_all (R := Bool) (step := fun x => L66_4 N x.1 x.2) t.length (fun i => bareB (t.getD i 0)) (fun i => (t, i)) false (fun i h0 hi => by
    unfold L66_4 U66_4
    by_cases h : i < t.length
    · have c1 : inR i t.length := ⟨h0, h⟩
      have hb : byteAt t i = ((t.getD i.toNat 0).toNat : Int) := rfl
      have w1 : IntKind.i64.wrap (i + 1) = i + 1 := wrapI (by omega) (by omega)
      simp only [ev_br, ev_leaf, ev_ck c1, ev_c1, decide_eq_true_eq, h, if_true, hb, R_bare, obind_some, w1]
      cases bareB (t.getD i.toNat 0) <;> rfl
    · simp [h]) N hN
  unfold W66_4
  rw [this, all_getD 0 bareB t]

theorem R_Bare (N : Nat) (t : Bs) (hN : t.length < N) (hL : t.length ≤ 1000000) : F66 N t = some (bareW t) := by
  unfold F66 V66
  have hw := W_bare N t hN hL
  have e : bareW t = (!(t == ([] : Bs)) && (!(t == inactW) && (!(t == protW) && (!([47, 42] : Bs).isPrefixOf t && t.all bareB)))) := by
    unfold bareW
    have h1 : t.isEmpty = (t == ([] : Bs)) := by cases t <;> rfl
    rw [h1]
    cases t == ([] : Bs) <;> cases t.all bareB <;> cases t == inactW <;> cases t == protW <;> cases ([47, 42] : Bs).isPrefixOf t <;> rfl
  have fin : lp1 (W66_4 N (t, 0)) id (fun _ => some true) = some (t.all bareB) := by
    rw [hw]
    cases t.all bareB <;> rfl
  simp only [ev_br, ev_leaf, ev_f1, fin, decide_eq_true_eq]
  have hc : (if (1 : Int) < (t.length : Int) then (Vt.ck (Z := Option D) (E := fun q => some (E66 q)) (inR 0 t.length) (.br ((byteAt t 0) == 47) (.ck (inR 1 t.length) (.br ((byteAt t 1) == 42) (.leaf false) (.f1 (l := l66_4) (o := W66_4 N (t, 0)) (WS66_4 N (t, 0)) (fun x1 => .leaf true)))) (.f1 (l := l66_4) (o := W66_4 N (t, 0)) (WS66_4 N (t, 0)) (fun x2 => .leaf true)))).eval else some (t.all bareB)) =
      some (!([47, 42] : Bs).isPrefixOf t && t.all bareB) := by
    match t, fin with
    | [], _ => rfl
    | [c], _ => simp [List.isPrefixOf]
    | c :: d :: r, fin =>
      have c0 : inR 0 (c :: d :: r).length := ⟨by omega, by simp only [List.length_cons]; omega⟩
      have c1 : inR 1 (c :: d :: r).length := ⟨by omega, by simp only [List.length_cons]; omega⟩
      rw [if_pos (by simp only [List.length_cons]; omega)]
      simp only [ev_br, ev_leaf, ev_ck c0, ev_ck c1, ev_f1, fin, byte0, byte1, is47, is42, decide_eq_true_eq]
      by_cases h1 : c = 47
      · rw [if_pos h1]
        by_cases h2 : d = 42
        · rw [if_pos h2, h1, h2]; simp [List.isPrefixOf]
        · rw [if_neg h2]
          have : ([47, 42] : Bs).isPrefixOf (c :: d :: r) = false := by
            rw [← Bool.not_eq_true, pre2]; intro hh; exact h2 (by simpa using hh.2)
          rw [this]; rfl
      · rw [if_neg h1]
        have : ([47, 42] : Bs).isPrefixOf (c :: d :: r) = false := by
          rw [← Bool.not_eq_true, pre2]; intro hh; exact h1 hh.1
        rw [this]; rfl
  rw [hc, e]
  unfold inactW protW
  cases t == ([] : Bs) <;> cases t == ([105, 110, 97, 99, 116, 105, 118, 101, 58] : Bs) <;> cases t == ([112, 114, 111, 116, 101, 99, 116, 58] : Bs) <;> simp

theorem hex16 : ∀ x : Nat, x < 16 → ∀ y : Nat, y < 16 → IntKind.u8.wrap (IntKind.i64.wrap (IntKind.i64.wrap (16 * (x : Int)) + (y : Int))) = ((UInt8.ofNat (16 * x + y)).toNat : Int) := of_decide_eq_true (by kernel_rfl)

theorem slc_cons (t : Bs) {i e : Int} (h0 : 0 ≤ i) (h1 : i < e) (h2 : e ≤ t.length) : ∃ c, slc t i e = c :: slc t (i + 1) e ∧ byteAt t i = (c.toNat : Int) := by
  obtain ⟨c, hd, hb⟩ := drop_byte t h0 (show i < t.length by omega)
  refine ⟨c, ?_, hb⟩
  unfold slc
  rw [hd, show e.toNat - i.toNat = (e.toNat - (i + 1).toNat) + 1 by omega, List.take_succ_cons]

theorem slc_lenI (t : Bs) {i e : Int} (h0 : 0 ≤ i) (h1 : i ≤ e) (h2 : e ≤ t.length) : ((slc t i e).length : Int) = e - i := by
  unfold slc
  rw [List.length_take, List.length_drop]; omega

/-! ### All tokens -/

theorem unq_in : unqS inactW = ([], 2) := by kernel_rfl
theorem unq_pr : unqS protW = ([], 2) := by kernel_rfl

end Go.Proofs.Ytkbciolghkcjoaa.Vc
