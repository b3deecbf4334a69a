/-
  PLAIN LEMMAS: how a printed tree answers; loops; the order of texts. No condition.
-/
import Derived.Test.YtnkinnhgahpcoaaVo
set_option linter.unusedVariables false
set_option linter.unusedSimpArgs false
namespace Go.Proofs.Ytnkinnhgahpcoaa.Vc
open Go.RowKit

/-! ### How a tree answers -/
section
variable {Q Z : Type} {E : Q → Z}
@[simp] theorem ev_leaf (q : Q) : (Vt.leaf q : Vt Q Z E).eval = some q := rfl
@[simp] theorem ev_fail : (Vt.fail : Vt Q Z E).eval = none := rfl
@[simp] theorem ev_br (b : Bool) (x y : Vt Q Z E) : (Vt.br b x y).eval = if b = true then x.eval else y.eval := by cases b <;> rfl
theorem ev_ck0 (p : Prop) [d : Decidable p] (x : Vt Q Z E) : (Vt.ck p x).eval = if p then x.eval else none := by
  show chkO p d x.eval = _
  cases d with
  | isTrue h => rw [if_pos h]; rfl
  | isFalse h => rw [if_neg h]; rfl
theorem ev_ck {p : Prop} [d : Decidable p] (h : p) (x : Vt Q Z E) : (Vt.ck p x).eval = x.eval := by rw [ev_ck0, if_pos h]
theorem ev_nq (p : Prop) [d : Decidable p] [dq : DecidableEq Q] (x y : Vt Q Z E) {q : Q} (hy : y.eval = some q) (hx : p → x.eval = some q) : (Vt.nq p x y).eval = some q := by
  show nilO p d dq x.eval y.eval = _
  unfold nilO
  split
  · rename_i h; rw [hx h, hy]; simp only
    split
    · rfl
    · rename_i h2 _; exact absurd rfl h2
  · exact hy
theorem ev_nb (x y : Vt Q Z E) {q : Q} (hx : x.eval = some q) (hy : y.eval = some q) : (Vt.nb x y).eval = some q := ev_nq (d := isTrue trivial) (dq := Classical.typeDecidableEq Q) _ _ _ hy fun _ => hx
variable {P : Program} {g : FuncId} {ds : List D}
@[simp] theorem ev_c1 {a : Type} {e : a → D} {o : Option a} (h : ∀ x, o = some x → Spec P g ds (e x)) (k : a → Vt Q Z E) : (Vt.c1 h k).eval = o.bind fun x => (k x).eval := rfl
theorem bind2_eq {a b α : Type} (o : Option (a × b)) (k : a → b → Option α) : bind2 o k = o.bind fun x => k x.1 x.2 := by cases o <;> rfl
theorem bind3_eq {a b c α : Type} (o : Option (a × b × c)) (k : a → b → c → Option α) : bind3 o k = o.bind fun x => k x.1 x.2.1 x.2.2 := by cases o <;> rfl
theorem bind4_eq {a b c d α : Type} (o : Option (a × b × c × d)) (k : a → b → c → d → Option α) : bind4 o k = o.bind fun x => k x.1 x.2.1 x.2.2.1 x.2.2.2 := by cases o <;> rfl
@[simp] theorem ev_c2 {a b : Type} {e : a × b → D} {o : Option (a × b)} (h : ∀ x, o = some x → Spec P g ds (e x)) (k : a → b → Vt Q Z E) : (Vt.c2 h k).eval = o.bind fun x => (k x.1 x.2).eval := bind2_eq _ _
@[simp] theorem ev_c3 {a b c : Type} {e : a × b × c → D} {o : Option (a × b × c)} (h : ∀ x, o = some x → Spec P g ds (e x)) (k : a → b → c → Vt Q Z E) : (Vt.c3 h k).eval = o.bind fun x => (k x.1 x.2.1 x.2.2).eval := bind3_eq _ _
@[simp] theorem ev_c4 {a b c d : Type} {e : a × b × c × d → D} {o : Option (a × b × c × d)} (h : ∀ x, o = some x → Spec P g ds (e x)) (k : a → b → c → d → Vt Q Z E) : (Vt.c4 h k).eval = o.bind fun x => (k x.1 x.2.1 x.2.2.1 x.2.2.2).eval := bind4_eq _ _
@[simp] theorem ev_cr {a : Type} {s : a → Prop} {o : Option a} (h : ∀ x, o = some x → s x) (k : a → Vt Q Z E) : (Vt.cr h k).eval = o.bind fun x => (k x).eval := rfl
@[simp] theorem ev_cr3 {a b c : Type} {s : a × b × c → Prop} {o : Option (a × b × c)} (h : ∀ x, o = some x → s x) (k : a → b → c → Vt Q Z E) : (Vt.cr3 h k).eval = o.bind fun x => (k x.1 x.2.1 x.2.2).eval := bind3_eq _ _
@[simp] theorem ev_cr2 {a b : Type} {s : a × b → Prop} {o : Option (a × b)} (h : ∀ x, o = some x → s x) (k : a → b → Vt Q Z E) : (Vt.cr2 h k).eval = o.bind fun x => (k x.1 x.2).eval := bind2_eq _ _
end
section
variable {P : Program} {Z : Type} {rd : St → Z} {R : Type} {n : Nat} {l : List (Nat × Sh)} {EO : R → Z} {b : Code} {o : Option (Lp (shTy l).I R)} {x0 : (shTy l).I} {n2 : Nat} {l2 : List (Nat × Sh)} {ids2 : List Nat}
@[simp] theorem ev_f0 (h : ∀ o', o = some o' → S P (.loop b) (buildSt n l x0) (stepZ rd l (encO n l [] EO o'))) : (Vt.f0 h).eval = lp0 o id := rfl
@[simp] theorem ev_f1 {i : Nat} (h : ∀ o', o = some o' → S P (.loop b) (buildSt n l x0) (stepZ rd l (encO n l [i] EO o'))) (k : (shTy l).I → Vt R Z EO) : (Vt.f1 h k).eval = lp1 o id fun x => (k x).eval := rfl
@[simp] theorem ev_f2 {i i' : Nat} (h : ∀ o', o = some o' → S P (.loop b) (buildSt n l x0) (stepZ rd l (encO n l [i, i'] EO o'))) (k k' : (shTy l).I → Vt R Z EO) : (Vt.f2 h k k').eval = lp2 o id (fun x => (k x).eval) fun x => (k' x).eval := rfl
@[simp] theorem ev_g0 (h : ∀ o', o = some o' → S P (.loop b) (buildSt n l x0) (stepZ rd l (encO n l [] EO o'))) : (Vt.g0 (n2 := n2) (l2 := l2) (ids2 := ids2) h).eval = lp0 o .ret := rfl
@[simp] theorem ev_g1 {i : Nat} (h : ∀ o', o = some o' → S P (.loop b) (buildSt n l x0) (stepZ rd l (encO n l [i] EO o'))) (k : (shTy l).I → Vt (Lp (shTy l2).I R) (O3 Z) (encO n2 l2 ids2 EO)) : (Vt.g1 h k).eval = lp1 o .ret fun x => (k x).eval := rfl
@[simp] theorem ev_g2 {i i' : Nat} (h : ∀ o', o = some o' → S P (.loop b) (buildSt n l x0) (stepZ rd l (encO n l [i, i'] EO o'))) (k k' : (shTy l).I → Vt (Lp (shTy l2).I R) (O3 Z) (encO n2 l2 ids2 EO)) :
    (Vt.g2 h k k').eval = lp2 o .ret (fun x => (k x).eval) fun x => (k' x).eval := rfl
end
section
variable {Q Z : Type} {E : Q → Z} {X R : Type}
/-- A loop in a loop: 'simp only [Vt.g1, ev_loop1]'. -/
theorem ev_loop0 {o : Option (Lp X R)} {rt : R → Q} {sr : Z → Prop} {hr : ∀ r, o = some (.ret r) → sr (E (rt r))} : (Vt.loop0 X R o rt sr hr : Vt Q Z E).eval = lp0 o rt := rfl
theorem ev_loop1 {o : Option (Lp X R)} {rt : R → Q} {s0 : X → Prop} {sr : Z → Prop} {h0 : ∀ x, o = some (.brk 0 x) → s0 x} {hr : ∀ r, o = some (.ret r) → sr (E (rt r))} {k : X → Vt Q Z E} :
    (Vt.loop1 X R o rt s0 sr h0 hr k : Vt Q Z E).eval = lp1 o rt fun x => (k x).eval := rfl
theorem ev_loop2 {o : Option (Lp X R)} {rt : R → Q} {s0 s1 : X → Prop} {sr : Z → Prop} {h0 : ∀ x, o = some (.brk 0 x) → s0 x} {h1 : ∀ x, o = some (.brk 1 x) → s1 x} {hr : ∀ r, o = some (.ret r) → sr (E (rt r))} {k0 k1 : X → Vt Q Z E} :
    (Vt.loop2 X R o rt s0 s1 sr h0 h1 hr k0 k1 : Vt Q Z E).eval = lp2 o rt (fun x => (k0 x).eval) fun x => (k1 x).eval := rfl
end
@[simp] theorem lp1_brk {X R α : Type} (x : X) (rt : R → α) (k : X → Option α) : lp1 (some (.brk 0 x)) rt k = k x := rfl
@[simp] theorem lp1_ret {X R α : Type} (r : R) (rt : R → α) (k : X → Option α) : lp1 (some (.ret r)) rt k = some (rt r) := rfl
@[simp] theorem lp0_ret {X R α : Type} (r : R) (rt : R → α) : lp0 (some (.ret r : Lp X R)) rt = some (rt r) := rfl
@[simp] theorem lp2_brk0 {X R α : Type} (x : X) (rt : R → α) (k k' : X → Option α) : lp2 (some (.brk 0 x)) rt k k' = k x := rfl
@[simp] theorem lp2_brk1 {X R α : Type} (x : X) (rt : R → α) (k k' : X → Option α) : lp2 (some (.brk 1 x)) rt k k' = k' x := rfl
@[simp] theorem lp2_ret {X R α : Type} (r : R) (rt : R → α) (k k' : X → Option α) : lp2 (some (.ret r)) rt k k' = some (rt r) := rfl
@[simp] theorem obind_some {α β : Type} (x : α) (f : α → Option β) : (some x).bind f = f x := rfl

/-! ### Numbers -/
theorem wrapI {n : Int} (h1 : -9223372036854775808 ≤ n) (h2 : n ≤ 9223372036854775807) : IntKind.i64.wrap n = n := by
  unfold IntKind.wrap
  simp [IntKind.signed, IntKind.bits, Int.bmod]
  split <;> omega
theorem inR_of {i : Int} {n : Nat} (h0 : 0 ≤ i) (h1 : i < n) : inR i n := ⟨h0, h1⟩

/-! ### Loops -/
theorem runLoop_eq {X R : Type} {step : X → Option (Lp X R)} (I : X → Prop) (m : X → Nat) (g : X → Lp X R)
    (h : ∀ x, I x → (∃ y, step x = some (.next y) ∧ I y ∧ m y < m x ∧ g y = g x) ∨ (step x = some (g x) ∧ ∀ y, g x ≠ .next y)) : ∀ (N : Nat) (x : X), I x → m x < N → runLoop step N x = some (g x)
  | 0, x, _, hm => by omega
  | N + 1, x, hx, hm => by
    unfold runLoop
    rcases h x hx with ⟨y, h1, h2, h3, h4⟩ | ⟨h1, h2⟩
    · rw [h1]
      dsimp only
      rw [← h4]
      exact runLoop_eq I m g h N y h2 (by omega)
    · rw [h1]
      cases hg : g x with
      | next y => exact absurd hg (h2 y)
      | brk j y => rfl
      | ret r => rfl

theorem runLoop_post {X R : Type} {step : X → Option (Lp X R)} (I : X → Prop) (m : X → Nat) (Post : Lp X R → Prop)
    (h : ∀ x, I x → ∃ o, step x = some o ∧ ((∃ y, o = .next y ∧ I y ∧ m y < m x) ∨ ((∀ y, o ≠ .next y) ∧ Post o))) : ∀ (N : Nat) (x : X), I x → m x < N → ∃ o, runLoop step N x = some o ∧ Post o
  | 0, x, _, hm => by omega
  | N + 1, x, hx, hm => by
    unfold runLoop
    obtain ⟨o, h1, ⟨y, rfl, h2, h3⟩ | ⟨h2, h3⟩⟩ := h x hx
    · rw [h1]
      exact runLoop_post I m Post h N y h2 (by omega)
    · rw [h1]
      cases o with
      | next y => exact absurd rfl (h2 y)
      | brk j y => exact ⟨_, rfl, h3⟩
      | ret r => exact ⟨_, rfl, h3⟩

/-- A loop that counts up, and leaves at the first place that does not fit. -/
theorem loop_all2 {X R : Type} {step : X → Option (Lp X R)} (n : Nat) (p : Nat → Bool) (mk : Int → X) (r : R)
    (hs : ∀ i : Int, 0 ≤ i → i ≤ n → (∀ j : Nat, (j : Int) < i → p j = true) → step (mk i) = some (if i < n then (if p i.toNat = true then .next (mk (i + 1)) else .ret r) else .brk 0 (mk i))) (N : Nat) (hN : n < N) :
    runLoop step N (mk 0) = some (if (List.range n).all p = true then .brk 0 (mk n) else .ret r) := by
  have key : ∀ (k : Nat) (N : Nat) (i : Nat), i + k = n → k < N → (∀ j : Nat, j < i → p j = true) → runLoop step N (mk i) = some (if (List.range' i k).all p = true then .brk 0 (mk n) else .ret r) := by
    intro k
    induction k with
    | zero =>
      intro N i hi hN hj
      obtain ⟨N, rfl⟩ : ∃ M, N = M + 1 := ⟨N - 1, by omega⟩
      have : i = n := by omega
      subst this
      unfold runLoop
      rw [hs _ (by omega) (by omega) (fun j h => hj j (by omega))]; simp
    | succ k ih =>
      intro N i hi hN hj
      obtain ⟨N, rfl⟩ : ∃ M, N = M + 1 := ⟨N - 1, by omega⟩
      unfold runLoop
      rw [hs _ (by omega) (by omega) (fun j h => hj j (by omega)), if_pos (by omega)]
      simp only [Int.toNat_natCast, List.range'_succ, List.all_cons]
      by_cases hp : p i = true
      · simp only [hp, if_true, Bool.true_and]
        refine ih N (i + 1) (by omega) (by omega) fun j h => ?_
        rcases Nat.lt_or_ge j i with h' | h'
        · exact hj j h'
        · have : j = i := by omega
          subst this; exact hp
      · simp [hp]
  have := key n N 0 (by omega) hN (fun j h => by omega)
  rwa [List.range_eq_range']
theorem loop_all {X R : Type} {step : X → Option (Lp X R)} (n : Nat) (p : Nat → Bool) (mk : Int → X) (r : R)
    (hs : ∀ i : Int, 0 ≤ i → i ≤ n → step (mk i) = some (if i < n then (if p i.toNat = true then .next (mk (i + 1)) else .ret r) else .brk 0 (mk i))) (N : Nat) (hN : n < N) :
    runLoop step N (mk 0) = some (if (List.range n).all p = true then .brk 0 (mk n) else .ret r) := loop_all2 n p mk r (fun i h0 h1 _ => hs i h0 h1) N hN

/-- A loop that counts up, and gathers. -/
theorem loop_fold {X R A : Type} {step : X → Option (Lp X R)} (n : Nat) (f : A → Nat → A) (mk : A → Int → X) (I : A → Nat → Prop) (hI : ∀ a i, I a i → i < n → I (f a i) (i + 1))
    (hs : ∀ a (i : Nat), I a i → i ≤ n → step (mk a (i : Int)) = some (if i < n then .next (mk (f a i) ((i : Int) + 1)) else .brk 0 (mk a i))) (a0 : A) (i0 : Nat) (h0 : I a0 i0) (hi : i0 ≤ n) (N : Nat) (hN : n - i0 < N) :
    runLoop step N (mk a0 i0) = some (.brk 0 (mk ((List.range' i0 (n - i0)).foldl f a0) n)) := by
  have key : ∀ (k : Nat) (N : Nat) (i : Nat) (a : A), i + k = n → k < N → I a i → runLoop step N (mk a i) = some (.brk 0 (mk ((List.range' i k).foldl f a) n)) := by
    intro k
    induction k with
    | zero =>
      intro N i a hi hN hIa
      obtain ⟨N, rfl⟩ : ∃ M, N = M + 1 := ⟨N - 1, by omega⟩
      have : i = n := by omega
      subst this
      unfold runLoop
      rw [hs _ _ hIa (by omega)]; simp
    | succ k ih =>
      intro N i a hi hN hIa
      obtain ⟨N, rfl⟩ : ∃ M, N = M + 1 := ⟨N - 1, by omega⟩
      unfold runLoop
      rw [hs _ _ hIa (by omega), if_pos (by omega)]
      simp only [List.range'_succ, List.foldl_cons]
      exact ih N (i + 1) _ (by omega) (by omega) (hI _ _ hIa (by omega))
  exact key (n - i0) N i0 a0 (by omega) hN h0

theorem loop_fold0 {X R A : Type} {step : X → Option (Lp X R)} (n : Nat) (f : A → Nat → A) (mk : A → Int → X) (I : A → Nat → Prop) (hI : ∀ a i, I a i → i < n → I (f a i) (i + 1))
    (hs : ∀ a (i : Nat), I a i → i ≤ n → step (mk a (i : Int)) = some (if i < n then .next (mk (f a i) ((i : Int) + 1)) else .brk 0 (mk a i))) (a0 : A) (h0 : I a0 0) (N : Nat) (hN : n < N) :
    runLoop step N (mk a0 0) = some (.brk 0 (mk ((List.range n).foldl f a0) n)) := by
  have := loop_fold n f mk I hI hs a0 0 h0 (Nat.zero_le _) N (by omega)
  rw [List.range_eq_range']
  exact this

theorem foldl_filter {A : Type} (p : A → Bool) (l : List A) (acc : List A) : l.foldl (fun acc k => if p k = true then acc ++ [k] else acc) acc = acc ++ l.filter p := by
  induction l generalizing acc with
  | nil => simp
  | cons x l ih =>
    simp only [List.foldl_cons, List.filter_cons]
    rw [ih]
    split <;> simp
theorem foldl_fmap {A B : Type} (p : A → Bool) (g : A → B) (l : List A) (acc : List B) : l.foldl (fun acc k => if p k = true then acc ++ [g k] else acc) acc = acc ++ (l.filter p).map g := by
  induction l generalizing acc with
  | nil => simp
  | cons x l ih =>
    simp only [List.foldl_cons, List.filter_cons]
    rw [ih]
    split <;> simp
theorem foldl_map {A B : Type} (g : A → B) (l : List A) (acc : List B) : l.foldl (fun acc k => acc ++ [g k]) acc = acc ++ l.map g := by
  induction l generalizing acc with
  | nil => simp
  | cons x l ih => simp [ih]

/-- Lists that are alike at each place. -/
theorem all_eq_iff {α : Type} [BEq α] [LawfulBEq α] (d : α) {a b : List α} (h : a.length = b.length) : ((List.range a.length).all fun i => a.getD i d == b.getD i d) = true ↔ a = b := by
  constructor
  · intro hh
    apply List.ext_getElem h
    intro i h1 h2
    have := List.all_eq_true.1 hh i (by simpa using h1)
    simpa [h1, h2] using this
  · rintro rfl
    simp
theorem all_getD {α : Type} (d : α) (p : α → Bool) (l : List α) : (List.range l.length).all (fun i => p (l.getD i d)) = l.all p := by
  rw [Bool.eq_iff_iff]
  simp only [List.all_eq_true, List.mem_range]
  constructor
  · intro h x hx
    obtain ⟨i, hi, rfl⟩ := List.getElem_of_mem hx
    simpa [hi] using h i hi
  · intro h i hi
    rw [List.getD_eq_getElem?_getD, List.getElem?_eq_getElem hi]
    exact h _ (List.getElem_mem hi)

theorem ite_not_some {α : Type} (b : Bool) (x y : α) : (if (!b) = true then some y else some x) = some (if b = true then x else y) := by cases b <;> rfl

/-! ### The order of texts -/
theorem bl_irrefl : ∀ (x : List UInt8), Op.bytesLess x x = false
  | [] => rfl
  | a :: x => by simp [Op.bytesLess, bl_irrefl x]
theorem bl_trans : ∀ {x y z : List UInt8}, Op.bytesLess x y = true → Op.bytesLess y z = true → Op.bytesLess x z = true
  | _, [], _, h, _ => by simp [Op.bytesLess] at h
  | _, _ :: _, [], _, h => by simp [Op.bytesLess] at h
  | [], _ :: _, _ :: _, _, _ => rfl
  | a :: x, b :: y, c :: z, h1, h2 => by
    simp only [Op.bytesLess, Bool.or_eq_true, decide_eq_true_eq, Bool.and_eq_true, beq_iff_eq] at *
    rcases h1 with h1 | ⟨rfl, h1⟩ <;> rcases h2 with h2 | ⟨rfl, h2⟩
    · exact .inl (UInt8.lt_trans h1 h2)
    · exact .inl h1
    · exact .inl h2
    · exact .inr ⟨rfl, bl_trans h1 h2⟩
theorem bl_not : ∀ (x y : List UInt8), (Op.bytesLess x y || x == y) = !Op.bytesLess y x
  | [], [] => rfl
  | [], _ :: _ => rfl
  | _ :: _, [] => rfl
  | a :: x, b :: y => by
    have ih := bl_not x y
    simp only [Op.bytesLess]
    by_cases hab : a = b
    · subst hab
      have : ¬ a < a := UInt8.lt_irrefl a
      simpa [this] using ih
    · have hor : a < b ∨ b < a := by
        rcases Nat.lt_or_gt_of_ne (fun h => hab (UInt8.toNat_inj.1 h)) with h | h
        · exact .inl (UInt8.lt_iff_toNat_lt.2 h)
        · exact .inr (UInt8.lt_iff_toNat_lt.2 h)
      rcases hor with h | h
      · have h' : ¬ b < a := fun h' => UInt8.lt_irrefl a (UInt8.lt_trans h h')
        simp [h, h', hab, Ne.symm hab]
      · have h' : ¬ a < b := fun h' => UInt8.lt_irrefl a (UInt8.lt_trans h' h)
        simp [h, h', hab, Ne.symm hab]
theorem bl_asymm {x y : List UInt8} (h : Op.bytesLess x y = true) : Op.bytesLess y x = false := by
  cases h' : Op.bytesLess y x with
  | false => rfl
  | true => have := bl_trans h h'; rw [bl_irrefl] at this; cases this
theorem bl_ne {x y : List UInt8} (h : Op.bytesLess x y = true) : x ≠ y := fun e => by subst e; rw [bl_irrefl] at h; cases h

end Go.Proofs.Ytnkinnhgahpcoaa.Vc
