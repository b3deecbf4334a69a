/-
  THE CONDITION IS SOUND, FIFTH PART: the operations that make or write memory: variables, literals, stores.
  No condition: the lemmas hold for every program.
-/
import Derived.Test.YtnkinnhgahpcoaaVe
import Derived.Laws.CopyRow
namespace Go.Proofs.Ytnkinnhgahpcoaa.Vc
open Go.RowKit

section
variable {P : Program} {w0 : W0 P} {w : World} {F0 F : Nat → Prop} {M : Nat → Option MO} {σ : St} {a : Act} {o : Oper}

/-- One block may have been written, which neither data nor an object lie in. -/
theorem Inv.turn {w' : World} {row : Option Nat} (h : Inv w0 F0 F M σ a w) (hg : w.grownBy w' row) (hr : ∀ g, row = some g → w0.nw g ∧ ¬F g ∧ ∀ i mi, M i = some mi → mi.g ≠ some g) : Inv w0 F0 F M σ a w' := by
  have hs : Same F w w' := fun g hgF => hg.block g (h.flt g hgF).1 (fun e => (hr g e.symm).2.1 hgF)
  refine ⟨h.defers, h.size, fun i => (h.slots i).keep hs (fun _ x => x) (MLe.refl M), fun id o ho => ?_, h.apart, fun i mi g hi hgi => ?_, fun g hgF => ?_, h.fle, ?_, h.pins⟩
  · obtain ⟨mo, h1, h2⟩ := h.obs id o ho
    exact ⟨mo, h1, h2.keep hs (fun _ x => x) (MLe.refl M) fun g hgi => hg.block g (h.mine _ _ _ h1 hgi).2.2 (fun e => (hr g e.symm).2.2 _ _ h1 hgi)⟩
  · obtain ⟨h1, h2, h3⟩ := h.mine i mi g hi hgi
    exact ⟨h1, h2, Nat.lt_of_lt_of_le h3 hg.size⟩
  · obtain ⟨h1, h2⟩ := h.flt g hgF
    exact ⟨Nat.lt_of_lt_of_le h1 hg.size, h2⟩
  · exact h.below.grown hg fun k hk => (hr k hk).1

/-- An object comes, whose number nobody bears. -/
theorem Inv.add (h : Inv w0 F0 F M σ a w) (d : Nat) (hd : M d = none) (o : Ob) (p : D) (mo : MO) (v : Value) (dst : Option Nat)
    (hg : ∀ g, mo.g = some g → w0.nw g ∧ ¬F g ∧ g < w.heap.size ∧ ∀ i mi, M i = some mi → mi.g ≠ some g)
    (ho : ∀ M', M' d = some mo → MLe M M' → ObR w F M' w0.nw mo o)
    (hp : ∀ M', M' d = some mo → MLe M M' → R w F M' v p) (hpin : o.pin = false := by rfl) :
    ∃ M', Inv w0 F0 F M' (({ σ with ob := (d, o) :: σ.ob } : St).put dst p) (a.put dst v) w := by
  have hM : MLe M (fun j => if j = d then some mo else M j) := fun i m hi => by
    have hne : i ≠ d := fun e => by subst e; rw [hd] at hi; cases hi
    simp only [hne, if_false]; exact hi
  have hinv : Inv w0 F0 F (fun j => if j = d then some mo else M j) { σ with ob := (d, o) :: σ.ob } a w := by
    refine ⟨h.defers, h.size, fun i => (h.slots i).keep (fun _ _ => rfl) (fun _ x => x) hM, fun j o' ho' => ?_, fun i j mi mj g hi hj hgi hgj => ?_, fun i mi g hi hgi => ?_, h.flt, h.fle, h.below, fun j o' ho' hpo => ?_⟩
    · change findOb ((d, o) :: σ.ob) j = some o' at ho'
      simp only [findOb] at ho'
      rcases beq_cases j d with ⟨rfl, hbq⟩ | ⟨hne, hbq⟩
      · rw [hbq] at ho'
        have : o = o' := Option.some.inj ho'
        subst this
        exact ⟨mo, by simp, ho _ (by simp) hM⟩
      · rw [hbq] at ho'
        obtain ⟨m, h2, h3⟩ := h.obs j o' ho'
        exact ⟨m, by simp only [hne, if_false]; exact h2, h3.keep (fun _ _ => rfl) (fun _ x => x) hM fun _ _ => rfl⟩
    · by_cases hid : i = d <;> by_cases hjd : j = d
      · rw [hid, hjd]
      · simp only [hid, if_true] at hi
        simp only [hjd, if_false] at hj
        have : mo = mi := Option.some.inj hi
        subst this
        exact absurd hgj ((hg g hgi).2.2.2 j mj hj)
      · simp only [hid, if_false] at hi
        simp only [hjd, if_true] at hj
        have : mo = mj := Option.some.inj hj
        subst this
        exact absurd hgi ((hg g hgj).2.2.2 i mi hi)
      · simp only [hid, if_false] at hi
        simp only [hjd, if_false] at hj
        exact h.apart i j mi mj g hi hj hgi hgj
    · by_cases hid : i = d
      · simp only [hid, if_true] at hi
        have : mo = mi := Option.some.inj hi
        subst this
        obtain ⟨h2, h3, h4, _⟩ := hg g hgi
        exact ⟨h3, h2, h4⟩
      · simp only [hid, if_false] at hi
        exact h.mine i mi g hi hgi
    · change findOb ((d, o) :: σ.ob) j = some o' at ho'
      simp only [findOb] at ho'
      rcases beq_cases j d with ⟨rfl, hbq⟩ | ⟨hne, hbq⟩
      · rw [hbq] at ho'
        have : o = o' := Option.some.inj ho'
        subst this
        rw [hpin] at hpo; cases hpo
      · rw [hbq] at ho'
        simp only [hne, if_false]; exact h.pins j o' ho' hpo
  exact ⟨_, hinv.put (hp _ (by simp) hM) dst⟩

theorem Inv.addOb (h : Inv w0 F0 F M σ a w) (d : Nat) (hd : M d = none) (o : Ob) (mo : MO) (hg : mo.g = none) (ho : ∀ M', M' d = some mo → MLe M M' → ObR w F M' w0.nw mo o) (hpin : o.pin = false := by rfl) :
    ∃ M', Inv w0 F0 F M' { σ with ob := (d, o) :: σ.ob } a w ∧ M' d = some mo ∧ ∀ j, j ≠ d → M' j = M j := by
  have hM : MLe M (fun j => if j = d then some mo else M j) := fun i m hi => by
    have hne : i ≠ d := fun e => by subst e; rw [hd] at hi; cases hi
    simp only [hne, if_false]; exact hi
  refine ⟨fun j => if j = d then some mo else M j, ⟨h.defers, h.size, fun i => (h.slots i).keep (fun _ _ => rfl) (fun _ x => x) hM, fun j o' ho' => ?_, fun i j mi mj g hi hj hgi hgj => ?_, fun i mi g hi hgi => ?_, h.flt, h.fle, h.below, fun j o' ho' hpo => ?_⟩, by simp, fun j hj => by simp [hj]⟩
  · change findOb ((d, o) :: σ.ob) j = some o' at ho'
    simp only [findOb] at ho'
    rcases beq_cases j d with ⟨rfl, hbq⟩ | ⟨hne, hbq⟩
    · rw [hbq] at ho'
      have : o = o' := Option.some.inj ho'
      subst this
      exact ⟨mo, by simp, ho _ (by simp) hM⟩
    · rw [hbq] at ho'
      obtain ⟨m, h2, h3⟩ := h.obs j o' ho'
      exact ⟨m, by simp only [hne, if_false]; exact h2, h3.keep (fun _ _ => rfl) (fun _ x => x) hM fun _ _ => rfl⟩
  · by_cases hid : i = d
    · simp only [hid, if_true] at hi
      have : mo = mi := Option.some.inj hi
      subst this
      rw [hg] at hgi; cases hgi
    · by_cases hjd : j = d
      · simp only [hjd, if_true] at hj
        have : mo = mj := Option.some.inj hj
        subst this
        rw [hg] at hgj; cases hgj
      · simp only [hid, if_false] at hi
        simp only [hjd, if_false] at hj
        exact h.apart i j mi mj g hi hj hgi hgj
  · by_cases hid : i = d
    · simp only [hid, if_true] at hi
      have : mo = mi := Option.some.inj hi
      subst this
      rw [hg] at hgi; cases hgi
    · simp only [hid, if_false] at hi
      exact h.mine i mi g hi hgi
  · change findOb ((d, o) :: σ.ob) j = some o' at ho'
    simp only [findOb] at ho'
    rcases beq_cases j d with ⟨rfl, hbq⟩ | ⟨hne, hbq⟩
    · rw [hbq] at ho'
      have : o = o' := Option.some.inj ho'
      subst this
      rw [hpin] at hpo; cases hpo
    · rw [hbq] at ho'
      simp only [hne, if_false]; exact h.pins j o' ho' hpo

theorem findOb_set (l : List (Nat × Ob)) (i j : Nat) (o : Ob) {o' : Ob} (h : findOb (setOb l i o) j = some o') : (j = i ∧ o' = o) ∨ (j ≠ i ∧ findOb l j = some o') := by
  induction l with
  | nil => simp [setOb, findOb] at h
  | cons p r ih =>
    obtain ⟨k, q⟩ := p
    simp only [setOb] at h
    rcases beq_cases i k with ⟨rfl, hb⟩ | ⟨hne, hb⟩
    · rw [hb] at h
      have h : findOb ((i, o) :: r) j = some o' := h
      simp only [findOb] at h ⊢
      rcases beq_cases j i with ⟨rfl, hb2⟩ | ⟨hne2, hb2⟩
      · rw [hb2] at h
        exact .inl ⟨rfl, (Option.some.inj h).symm⟩
      · rw [hb2] at h ⊢
        exact .inr ⟨hne2, h⟩
    · rw [hb] at h
      have h : findOb ((k, q) :: setOb r i o) j = some o' := h
      simp only [findOb] at h ⊢
      rcases beq_cases j k with ⟨rfl, hb2⟩ | ⟨hne2, hb2⟩
      · rw [hb2] at h ⊢
        exact .inr ⟨fun e => hne e.symm, h⟩
      · rw [hb2] at h ⊢
        exact ih h

/-- An object is written in place. -/
theorem Inv.store {w' : World} (h : Inv w0 F0 F M σ a w) {i : Nat} {mo : MO} {g : Nat} (hm : M i = some mo) (hgo : mo.g = some g) (hg : w.grownBy w' (some g)) (o : Ob) (ho : ObR w' F M w0.nw mo o)
    (hpin : o.pin = true → M i = w0.p i) : Inv w0 F0 F M { σ with ob := setOb σ.ob i o } a w' := by
  obtain ⟨hm1, hm2, hm3⟩ := h.mine i mo g hm hgo
  have hs : Same F w w' := fun b hb => hg.block b (h.flt b hb).1 (fun e => by cases e; exact hm1 hb)
  refine ⟨h.defers, h.size, fun j => (h.slots j).keep hs (fun _ x => x) (MLe.refl M), fun j o' ho' => ?_, h.apart, fun j mj b hj hb => ?_, fun b hb => ?_, h.fle, ?_, fun j o' ho' hpo => ?_⟩
  · rcases findOb_set _ _ _ _ ho' with ⟨rfl, rfl⟩ | ⟨hne, hf⟩
    · exact ⟨mo, hm, ho⟩
    · obtain ⟨m, h1, h2⟩ := h.obs j o' hf
      exact ⟨m, h1, h2.keep hs (fun _ x => x) (MLe.refl M) fun b hb => hg.block b (h.mine _ _ _ h1 hb).2.2 (fun e => by cases e; exact hne (h.apart _ _ _ _ _ h1 hm hb hgo))⟩
  · obtain ⟨h1, h2, h3⟩ := h.mine j mj b hj hb
    exact ⟨h1, h2, Nat.lt_of_lt_of_le h3 hg.size⟩
  · obtain ⟨h1, h2⟩ := h.flt b hb
    exact ⟨Nat.lt_of_lt_of_le h1 hg.size, h2⟩
  · exact h.below.grown hg fun k hk => by cases hk; exact hm2
  · rcases findOb_set _ _ _ _ ho' with ⟨rfl, rfl⟩ | ⟨_, hf⟩
    · exact hpin hpo
    · exact h.pins j o' hf hpo

theorem below_alloc (w : World) (ob : Obj) : Below w.heap.size w (w.alloc ob) := (Below.refl _ _).alloc (Nat.le_refl _) ob

/-! ### From cells to data -/

theorem dec_spec : ∀ {t : Ty} {us : List Value} {cs : List D} {x : t.I} {r : List D}, Rel w F M us cs → dec t cs = some (x, r) → ∃ u1 u2, us = u1 ++ u2 ∧ RV w F t x u1 ∧ Rel w F M u2 r
  | .pair p q, us, cs, x, r, h, hd => by
    simp only [dec] at hd
    split at hd
    · rename_i x1 r1 h1
      split at hd
      · rename_i y1 r2 h2
        simp only [Option.some.injEq, Prod.mk.injEq] at hd
        obtain ⟨rfl, rfl⟩ := hd
        obtain ⟨u1, u2, rfl, h3, h4⟩ := dec_spec h h1
        obtain ⟨u3, u4, rfl, h5, h6⟩ := dec_spec h4 h2
        exact ⟨u1 ++ u3, u4, by simp, ⟨u1, u3, rfl, h3, h5⟩, h6⟩
      · cases hd
    · cases hd
  | .list t, us, cs, x, r, h, hd => by
    simp only [dec] at hd
    split at hd
    · rename_i r1
      simp only [Option.some.injEq, Prod.mk.injEq] at hd
      obtain ⟨rfl, rfl⟩ := hd
      obtain ⟨u, h1, h2, A, h3⟩ := h.2 0 _ rfl
      cases us with
      | nil => simp at h1
      | cons u' us' =>
        have : u' = u := by simpa using h1
        subst this
        exact ⟨[u'], us', rfl, ⟨A, 0, by rw [h3]; rfl, Nat.le_refl _, by simp [maxLen], fun i y hy => by simp at hy⟩, by have := h.1; simpa using this, fun j c hj => by simpa using h.2 (j + 1) c (by simpa using hj)⟩
    · rename_i t1 x1 r1
      split at hd
      · rename_i e
        subst e
        simp only [Option.some.injEq, Prod.mk.injEq] at hd
        obtain ⟨rfl, rfl⟩ := hd
        obtain ⟨u, h1, h2, h3⟩ := h.2 0 _ rfl
        cases us with
        | nil => simp at h1
        | cons u' us' =>
          have : u' = u := by simpa using h1
          subst this
          exact ⟨[u'], us', rfl, h3, by have := h.1; simpa using this, fun j c hj => by simpa using h.2 (j + 1) c (by simpa using hj)⟩
      · cases hd
    · cases hd
  | .int k, us, cs, x, r, h, hd => by
    simp only [dec] at hd
    split at hd
    · rename_i t1 x1 r1
      split at hd
      · rename_i e
        subst e
        simp only [Option.some.injEq, Prod.mk.injEq] at hd
        obtain ⟨rfl, rfl⟩ := hd
        obtain ⟨u, h1, h2, h3⟩ := h.2 0 _ rfl
        cases us with
        | nil => simp at h1
        | cons u' us' =>
          have : u' = u := by simpa using h1
          subst this
          exact ⟨[u'], us', rfl, h3, by have := h.1; simpa using this, fun j c hj => by simpa using h.2 (j + 1) c (by simpa using hj)⟩
      · cases hd
    · cases hd
  | .bool, us, cs, x, r, h, hd => by
    simp only [dec] at hd
    split at hd
    · rename_i t1 x1 r1
      split at hd
      · rename_i e
        subst e
        simp only [Option.some.injEq, Prod.mk.injEq] at hd
        obtain ⟨rfl, rfl⟩ := hd
        obtain ⟨u, h1, h2, h3⟩ := h.2 0 _ rfl
        cases us with
        | nil => simp at h1
        | cons u' us' =>
          have : u' = u := by simpa using h1
          subst this
          exact ⟨[u'], us', rfl, h3, by have := h.1; simpa using this, fun j c hj => by simpa using h.2 (j + 1) c (by simpa using hj)⟩
      · cases hd
    · cases hd
  | .str, us, cs, x, r, h, hd => by
    simp only [dec] at hd
    split at hd
    · rename_i t1 x1 r1
      split at hd
      · rename_i e
        subst e
        simp only [Option.some.injEq, Prod.mk.injEq] at hd
        obtain ⟨rfl, rfl⟩ := hd
        obtain ⟨u, h1, h2, h3⟩ := h.2 0 _ rfl
        cases us with
        | nil => simp at h1
        | cons u' us' =>
          have : u' = u := by simpa using h1
          subst this
          exact ⟨[u'], us', rfl, h3, by have := h.1; simpa using this, fun j c hj => by simpa using h.2 (j + 1) c (by simpa using hj)⟩
      · cases hd
    · cases hd

theorem decAll_spec {t : Ty} {us : List Value} {cs : List D} {x : t.I} (h : Rel w F M us cs) (hd : decAll t cs = some x) : RV w F t x us := by
  unfold decAll at hd
  split at hd
  · rename_i y hy
    simp only [Option.some.injEq] at hd
    subst hd
    obtain ⟨u1, u2, rfl, h1, h2⟩ := dec_spec h hy
    have : u2 = [] := List.eq_nil_of_length_eq_zero (by simpa using h2.1)
    subst this
    simpa using h1
  · cases hd

theorem holds_cons {t : Ty} {x : t.I} {xs : List t.I} {u1 u2 : List Value} (h1 : RV w F t x u1) (h2 : Holds w F t xs u2) : Holds w F t (x :: xs) (u1 ++ u2) := by
  intro i y hy
  have hl := h1.len
  cases i with
  | zero =>
    have : x = y := by simpa using hy
    subst this
    simp only [Nat.zero_mul, List.drop_zero]
    rw [← hl, List.take_left]
    exact h1
  | succ i =>
    have := h2 i y (by simpa using hy)
    rw [Nat.succ_mul, Nat.add_comm, ← hl, ← List.drop_drop, List.drop_left, hl]
    exact this

theorem decMany_spec {t : Ty} : ∀ {n : Nat} {us : List Value} {cs : List D} {xs : List t.I}, Rel w F M us cs → decMany t n cs = some xs → xs.length = n ∧ us.length = n * t.width ∧ Holds w F t xs us
  | 0, us, cs, xs, h, hd => by
    cases cs with
    | nil =>
      simp only [decMany, Option.some.injEq] at hd
      subst hd
      exact ⟨rfl, by simpa using h.1, fun i x hi => by simp at hi⟩
    | cons c r => simp [decMany] at hd
  | n + 1, us, cs, xs, h, hd => by
    simp only [decMany] at hd
    split at hd
    · rename_i x r hx
      split at hd
      · rename_i ys hy
        simp only [Option.some.injEq] at hd
        subst hd
        obtain ⟨u1, u2, rfl, h1, h2⟩ := dec_spec h hx
        obtain ⟨h3, h4, h5⟩ := decMany_spec h2 hy
        refine ⟨by simp [h3], by rw [List.length_append, h1.len, h4, Nat.succ_mul]; omega, holds_cons h1 h5⟩
      · cases hd
    · cases hd

/-! ### Data without lists hang on no memory -/

theorem RV.free {w' : World} {F' : Nat → Prop} : ∀ {t : Ty} {x : t.I} {cs : List Value}, t.flat = true → RV w F t x cs → RV w' F' t x cs
  | .int _, _, _, _, h => h
  | .bool, _, _, _, h => h
  | .str, _, _, _, h => h
  | .pair a b, _, _, hf, h => by
    simp only [Ty.flat, Bool.and_eq_true] at hf
    obtain ⟨c1, c2, h0, h1, h2⟩ := h
    exact ⟨c1, c2, h0, h1.free hf.1, h2.free hf.2⟩
  | .list _, _, _, hf, _ => by cases hf

end
end Go.Proofs.Ytnkinnhgahpcoaa.Vc
