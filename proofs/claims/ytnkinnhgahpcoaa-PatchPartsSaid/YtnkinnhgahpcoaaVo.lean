/-
  WHAT A PROGRAM THAT READS CODE PRINTS, AND ITS MEANING: 'Vt', a tree of what a function does with data; 'eval', what it answers; 'prop', the condition that its code asks for. Proved once: where 'eval' answers, 'prop' holds.
  No condition: the theorems hold for every program.
-/
import Derived.Test.YtnkinnhgahpcoaaVn
namespace Go.Proofs.Ytnkinnhgahpcoaa.Vc
open Go.RowKit

/-- How a loop's round ends, or the loop. -/
inductive Lp (X R : Type) where
  | next (x : X)
  | brk (j : Nat) (x : X)
  | ret (r : R)
  deriving DecidableEq

def runLoop {X R : Type} (step : X → Option (Lp X R)) : Nat → X → Option (Lp X R)
  | 0, _ => none
  | n + 1, x => match step x with
    | some (.next y) => runLoop step n y
    | some (.brk j y) => some (.brk j y)
    | some (.ret r) => some (.ret r)
    | none => none

/-- The same, of an abstract state. -/
inductive O3 (Z : Type) where
  | nx (σ : St)
  | br (id : Nat) (σ : St)
  | rt (z : Z)
  | bad

/-- 'rd': what is read off the state at a return. -/
def outOf {Z : Type} (rd : St → Z) (l : List (Nat × Sh)) (e : Exit) (σ : St) : O3 Z :=
  match e with
  | .normal => .nx (σ.norm l)
  | .exit id => .br id (σ.norm l)
  | .ret => .rt (rd σ)
  | _ => .bad

def encO {R Z : Type} (n : Nat) (l : List (Nat × Sh)) (ids : List Nat) (E : R → Z) (o : Lp (shTy l).I R) : O3 Z :=
  match o with
  | .next y => .nx (buildSt n l y)
  | .brk j y => match ids[j]? with
    | some id => .br id (buildSt n l y)
    | none => .bad
  | .ret r => .rt (E r)

/-- How a loop's round has to end. -/
def stepZ {Z : Type} (rd : St → Z) (l : List (Nat × Sh)) (z : O3 Z) (e : Exit) (σ : St) : Prop := outOf rd l e σ = z
/-- How a body has to end. -/
def retZ {Z : Type} (rd : St → Z) (z : Z) (e : Exit) (σ : St) : Prop :=
  match e with
  | .normal => rd σ = z
  | .ret => rd σ = z
  | _ => False
/-- What is read off the state: the results. -/
def rdD (P : Program) (fn : Func) (own : Bool) (σ : St) : Option D := resD P σ own fn
/-- .. and the row that came in. -/
def rdR (P : Program) (fn : Func) (σ : St) : Option D × Option Ob := (resD P σ false fn, findOb σ.ob 0)

/-- .. and the struct that came in. -/
def rdG (P : Program) (fn : Func) (T : TypeId) (fs : List Fd) (σ : St) : Option D × Option (gTy fs).I := (resG P σ fn, readG T fs σ)

inductive Vt (Q Z : Type) (E : Q → Z) : Type 1 where
  | fail : Vt Q Z E
  | leaf (q : Q) : Vt Q Z E
  | br (b : Bool) (x y : Vt Q Z E) : Vt Q Z E
  | chk (p : Prop) (d : Decidable p) (x : Vt Q Z E) : Vt Q Z E
  | nilq (p : Prop) (d : Decidable p) (dq : DecidableEq Q) (x y : Vt Q Z E) : Vt Q Z E
  | call0 (o : Option Unit) (s : Prop) (h : o = some () → s) (k : Vt Q Z E) : Vt Q Z E
  | call1 (a : Type) (o : Option a) (s : a → Prop) (h : ∀ x, o = some x → s x) (k : a → Vt Q Z E) : Vt Q Z E
  | call2 (a b : Type) (o : Option (a × b)) (s : a → b → Prop) (h : ∀ x y, o = some (x, y) → s x y) (k : a → b → Vt Q Z E) : Vt Q Z E
  | call3 (a b c : Type) (o : Option (a × b × c)) (s : a → b → c → Prop) (h : ∀ x y z, o = some (x, y, z) → s x y z) (k : a → b → c → Vt Q Z E) : Vt Q Z E
  | call4 (a b c d : Type) (o : Option (a × b × c × d)) (s : a → b → c → d → Prop) (h : ∀ x y z v, o = some (x, y, z, v) → s x y z v) (k : a → b → c → d → Vt Q Z E) : Vt Q Z E
  | loop0 (X R : Type) (o : Option (Lp X R)) (rt : R → Q) (sr : Z → Prop) (hr : ∀ r, o = some (.ret r) → sr (E (rt r))) : Vt Q Z E
  | loop1 (X R : Type) (o : Option (Lp X R)) (rt : R → Q) (s0 : X → Prop) (sr : Z → Prop) (h0 : ∀ x, o = some (.brk 0 x) → s0 x) (hr : ∀ r, o = some (.ret r) → sr (E (rt r)))
      (k : X → Vt Q Z E) : Vt Q Z E
  | loop2 (X R : Type) (o : Option (Lp X R)) (rt : R → Q) (s0 s1 : X → Prop) (sr : Z → Prop) (h0 : ∀ x, o = some (.brk 0 x) → s0 x) (h1 : ∀ x, o = some (.brk 1 x) → s1 x)
      (hr : ∀ r, o = some (.ret r) → sr (E (rt r))) (k0 k1 : X → Vt Q Z E) : Vt Q Z E

def chkO {α : Type} (p : Prop) (d : Decidable p) (x : Option α) : Option α := match d with | isTrue _ => x | isFalse _ => none
/-- Both, where p holds: they have to agree. -/
def nilO {α : Type} (p : Prop) (d : Decidable p) (dq : DecidableEq α) (x y : Option α) : Option α :=
  match d with
  | isTrue _ => match x, y with
    | some a, some b => match dq a b with | isTrue _ => some b | isFalse _ => none
    | _, _ => none
  | isFalse _ => y
def bind2 {a b α : Type} (o : Option (a × b)) (k : a → b → Option α) : Option α := match o with | some (x, y) => k x y | none => none
def bind3 {a b c α : Type} (o : Option (a × b × c)) (k : a → b → c → Option α) : Option α := match o with | some (x, y, z) => k x y z | none => none
def bind4 {a b c d α : Type} (o : Option (a × b × c × d)) (k : a → b → c → d → Option α) : Option α := match o with | some (x, y, z, v) => k x y z v | none => none
def lp0 {X R α : Type} (o : Option (Lp X R)) (rt : R → α) : Option α :=
  match o with
  | some (.ret r) => some (rt r)
  | _ => none
def lp1 {X R α : Type} (o : Option (Lp X R)) (rt : R → α) (k : X → Option α) : Option α :=
  match o with
  | some (.brk 0 x) => k x
  | some (.ret r) => some (rt r)
  | _ => none
def lp2 {X R α : Type} (o : Option (Lp X R)) (rt : R → α) (k0 k1 : X → Option α) : Option α :=
  match o with
  | some (.brk 0 x) => k0 x
  | some (.brk 1 x) => k1 x
  | some (.ret r) => some (rt r)
  | _ => none

variable {Q Z : Type} {E : Q → Z}

def Vt.eval : Vt Q Z E → Option Q
  | .fail => none
  | .leaf q => some q
  | .br b x y => bif b then x.eval else y.eval
  | .chk p d x => chkO p d x.eval
  | .nilq p d dq x y => nilO p d dq x.eval y.eval
  | .call0 o _ _ k => o.bind fun _ => k.eval
  | .call1 _ o _ _ k => o.bind fun x => (k x).eval
  | .call2 _ _ o _ _ k => bind2 o fun x y => (k x y).eval
  | .call3 _ _ _ o _ _ k => bind3 o fun x y z => (k x y z).eval
  | .call4 _ _ _ _ o _ _ k => bind4 o fun x y z v => (k x y z v).eval
  | .loop0 _ _ o rt _ _ => lp0 o rt
  | .loop1 _ _ o rt _ _ _ _ k => lp1 o rt fun x => (k x).eval
  | .loop2 _ _ o rt _ _ _ _ _ _ k0 k1 => lp2 o rt (fun x => (k0 x).eval) fun x => (k1 x).eval

def Vt.prop (z : Z) : Vt Q Z E → Prop
  | .fail => False
  | .leaf q => E q = z
  | .br b x y => Vc.br b (x.prop z) (y.prop z)
  | .chk p _ x => p ∧ x.prop z
  | .nilq p _ _ x y => (p → x.prop z) ∧ y.prop z
  | .call0 _ s _ k => s ∧ k.prop z
  | .call1 _ _ s _ k => ∃ x, s x ∧ (k x).prop z
  | .call2 _ _ _ s _ k => ∃ x, ∃ y, s x y ∧ (k x y).prop z
  | .call3 _ _ _ _ s _ k => ∃ x, ∃ y, ∃ v, s x y v ∧ (k x y v).prop z
  | .call4 _ _ _ _ _ s _ k => ∃ x, ∃ y, ∃ v, ∃ u, s x y v u ∧ (k x y v u).prop z
  | .loop0 _ _ _ _ sr _ => sr z
  | .loop1 _ _ _ _ s0 sr _ _ k => (∃ x, s0 x ∧ (k x).prop z) ∨ sr z
  | .loop2 _ _ _ _ s0 s1 sr _ _ _ k0 k1 => (∃ x, s0 x ∧ (k0 x).prop z) ∨ (∃ x, s1 x ∧ (k1 x).prop z) ∨ sr z

theorem Vt.sound : ∀ (V : Vt Q Z E) {q : Q}, V.eval = some q → V.prop (E q)
  | .fail, q, h => by cases h
  | .leaf q', q, h => by
    have : q' = q := by simpa [Vt.eval] using h
    rw [this]; rfl
  | .br b x y, q, h => by
    cases b
    · exact Vt.sound y h
    · exact Vt.sound x h
  | .chk p d x, q, h => by
    cases d with
    | isTrue hp => exact ⟨hp, Vt.sound x h⟩
    | isFalse hp => cases h
  | .nilq p d dq x y, q, h => by
    unfold Vt.eval nilO at h
    split at h
    · split at h
      · rename_i a b ha hb
        split at h
        · rename_i hab _
          have : b = q := by simpa using h
          subst this
          subst hab
          exact ⟨fun _ => Vt.sound x ha, Vt.sound y hb⟩
        · cases h
      · cases h
    · rename_i hp
      exact ⟨fun hp' => absurd hp' hp, Vt.sound y h⟩
  | .call0 o s hs k, q, h => by
    cases o with
    | none => cases h
    | some x => exact ⟨hs rfl, Vt.sound k h⟩
  | .call1 a o s hs k, q, h => by
    cases o with
    | none => cases h
    | some x => exact ⟨x, hs x rfl, Vt.sound (k x) h⟩
  | .call2 a b o s hs k, q, h => by
    cases o with
    | none => cases h
    | some x => exact ⟨x.1, x.2, hs x.1 x.2 rfl, Vt.sound (k x.1 x.2) h⟩
  | .call3 a b c o s hs k, q, h => by
    cases o with
    | none => cases h
    | some x => exact ⟨x.1, x.2.1, x.2.2, hs x.1 x.2.1 x.2.2 rfl, Vt.sound (k x.1 x.2.1 x.2.2) h⟩
  | .call4 a b c d o s hs k, q, h => by
    cases o with
    | none => cases h
    | some x => exact ⟨x.1, x.2.1, x.2.2.1, x.2.2.2, hs x.1 x.2.1 x.2.2.1 x.2.2.2 rfl, Vt.sound (k x.1 x.2.1 x.2.2.1 x.2.2.2) h⟩
  | .loop0 X R o rt sr hr, q, h => by
    unfold Vt.eval lp0 at h
    split at h
    · rename_i r
      have : rt r = q := by simpa using h
      rw [← this]; exact hr r rfl
    · cases h
  | .loop1 X R o rt s0 sr h0 hr k, q, h => by
    unfold Vt.eval lp1 at h
    split at h
    · rename_i x
      exact .inl ⟨x, h0 x rfl, Vt.sound (k x) h⟩
    · rename_i r
      have : rt r = q := by simpa using h
      rw [← this]; exact .inr (hr r rfl)
    · cases h
  | .loop2 X R o rt s0 s1 sr h0 h1 hr k0 k1, q, h => by
    unfold Vt.eval lp2 at h
    split at h
    · rename_i x
      exact .inl ⟨x, h0 x rfl, Vt.sound (k0 x) h⟩
    · rename_i x
      exact .inr (.inl ⟨x, h1 x rfl, Vt.sound (k1 x) h⟩)
    · rename_i r
      have : rt r = q := by simpa using h
      rw [← this]; exact .inr (.inr (hr r rfl))
    · cases h

/-! ### Loops -/

/-- The body of the loop whose first region has this number. -/
def loopBody (id : Nat) : Code → Code
  | .seq a b => match loopBody id a with
    | .skip => loopBody id b
    | c => c
  | .cond _ a b => match loopBody id a with
    | .skip => loopBody id b
    | c => c
  | .block _ b => loopBody id b
  | .scope b => loopBody id b
  | .loop b => bif Nat.beq (loopId b) id then b else loopBody id b
  | _ => .skip

section
variable {P : Program} {Z : Type} {rd : St → Z} {R : Type} {n : Nat} {l : List (Nat × Sh)} {ids : List Nat} {EO : R → Z} {b : Code}

theorem encO_brk {j id : Nat} {y : (shTy l).I} (h : ids[j]? = some id) : encO n l ids EO (.brk j y) = .br id (buildSt n l y) := by
  show (match ids[j]? with | some id => O3.br id (buildSt n l y) | none => O3.bad) = _
  rw [h]
theorem encO_brk_ne {j : Nat} {y : (shTy l).I} {σ : St} (h : O3.nx σ = encO n l ids EO (.brk j y)) : False := by
  have h' : O3.nx σ = (match ids[j]? with | some id => O3.br id (buildSt n l y) | none => O3.bad) := h
  split at h' <;> cases h'

theorem loop_gen {step : (shTy l).I → Option (Lp (shTy l).I R)}
    (h : ∀ x o, step x = some o → S P b (buildSt n l x) (stepZ rd l (encO n l ids EO o))) :
    ∀ m x o, runLoop step m x = some o → SL P m b (buildSt n l x) (stepZ rd l (encO n l ids EO o))
  | 0, x, o, ho => by cases ho
  | m + 1, x, o, ho => by
    unfold runLoop at ho
    refine SL.succ (l := l) ?_
    split at ho
    · rename_i y hy
      refine S.mono (h x _ hy) fun e σ' hk => ?_
      cases e with
      | normal =>
        have hk' : O3.nx (σ'.norm l) = O3.nx (buildSt n l y) := hk
        injection hk' with hk'
        show SL P m b (σ'.norm l) _
        rw [hk']
        exact loop_gen h m y o ho
      | exit i => cases (show O3.br i _ = O3.nx _ from hk)
      | ret => cases (show O3.rt _ = O3.nx _ from hk)
      | _ => cases (show O3.bad = O3.nx _ from hk)
    · rename_i j y hy
      have : Lp.brk j y = o := by simpa using ho
      subst this
      refine S.mono (h x _ hy) fun e σ' hk => ?_
      cases e with
      | normal =>
        exact (encO_brk_ne hk).elim
      | _ => exact hk
    · rename_i r hy
      have : Lp.ret r = o := by simpa using ho
      subst this
      refine S.mono (h x _ hy) fun e σ' hk => ?_
      cases e with
      | normal => cases (show O3.nx _ = O3.rt _ from hk)
      | _ => exact hk
    · cases ho

theorem loop_S {step : (shTy l).I → Option (Lp (shTy l).I R)}
    (h : ∀ x o, step x = some o → S P b (buildSt n l x) (stepZ rd l (encO n l ids EO o))) (m : Nat) (x : (shTy l).I) (o : Lp (shTy l).I R) (ho : runLoop step m x = some o) :
    S P (.loop b) (buildSt n l x) (stepZ rd l (encO n l ids EO o)) := SL.loop (loop_gen h m x o ho)

variable {x0 : (shTy l).I}

theorem loop_brk {j id : Nat} {x : (shTy l).I} (hj : ids[j]? = some id) (h : S P (.loop b) (buildSt n l x0) (stepZ rd l (encO n l ids EO (.brk j x)))) :
    S P (.loop b) (buildSt n l x0) (endK id l (buildSt n l x)) := S.mono h fun e σ' hk => by
  have hk' : outOf rd l e σ' = encO n l ids EO (.brk j x) := hk
  rw [encO_brk hj] at hk'
  cases e with
  | exit i =>
    injection (show O3.br i (σ'.norm l) = O3.br id (buildSt n l x) from hk') with h1 h2
    rw [h1]; exact ⟨rfl, h2⟩
  | normal => cases (show O3.nx _ = O3.br _ _ from hk')
  | ret => cases (show O3.rt _ = O3.br _ _ from hk')
  | _ => cases (show O3.bad = O3.br _ _ from hk')

theorem loop_ret {r : R} {k : Exit → St → Prop} (hk0 : ∀ σ', rd σ' = EO r → k .ret σ') (h : S P (.loop b) (buildSt n l x0) (stepZ rd l (encO n l ids EO (.ret r)))) :
    S P (.loop b) (buildSt n l x0) (retOnly k) := S.mono h fun e σ' hk => by
  have hk' : outOf rd l e σ' = .rt (EO r) := hk
  cases e with
  | ret => injection (show O3.rt (rd σ') = O3.rt (EO r) from hk') with h1; exact ⟨rfl, hk0 σ' h1⟩
  | exit i => cases (show O3.br _ _ = O3.rt _ from hk')
  | normal => cases (show O3.nx _ = O3.rt _ from hk')
  | _ => cases (show O3.bad = O3.rt _ from hk')
end

/-! ### What is printed -/

section
variable {P : Program} {Z : Type} {rd : St → Z} {R : Type} {n : Nat} {l : List (Nat × Sh)} {EO : R → Z} {b : Code} {X : Type} {o : Option (Lp (shTy l).I R)} {x0 : (shTy l).I}

/-- A loop in a function's body. -/
def Vt.f0 (h : ∀ o', o = some o' → S P (.loop b) (buildSt n l x0) (stepZ rd l (encO n l [] EO o'))) : Vt R Z EO :=
  .loop0 _ R o id (fun z => S P (.loop b) (buildSt n l x0) (retOnly (retZ rd z))) fun _ hr => loop_ret (fun _ hq => hq) (h _ hr)
def Vt.f1 {i : Nat} (h : ∀ o', o = some o' → S P (.loop b) (buildSt n l x0) (stepZ rd l (encO n l [i] EO o'))) (k : (shTy l).I → Vt R Z EO) : Vt R Z EO :=
  .loop1 _ R o id (fun x => S P (.loop b) (buildSt n l x0) (endK i l (buildSt n l x))) (fun z => S P (.loop b) (buildSt n l x0) (retOnly (retZ rd z)))
    (fun _ hx => loop_brk (j := 0) rfl (h _ hx)) (fun _ hr => loop_ret (fun _ hq => hq) (h _ hr)) k
def Vt.f2 {i i' : Nat} (h : ∀ o', o = some o' → S P (.loop b) (buildSt n l x0) (stepZ rd l (encO n l [i, i'] EO o'))) (k k' : (shTy l).I → Vt R Z EO) : Vt R Z EO :=
  .loop2 _ R o id (fun x => S P (.loop b) (buildSt n l x0) (endK i l (buildSt n l x))) (fun x => S P (.loop b) (buildSt n l x0) (endK i' l (buildSt n l x))) (fun z => S P (.loop b) (buildSt n l x0) (retOnly (retZ rd z)))
    (fun _ hx => loop_brk (j := 0) rfl (h _ hx)) (fun _ hx => loop_brk (j := 1) rfl (h _ hx)) (fun _ hr => loop_ret (fun _ hq => hq) (h _ hr)) k k'

variable {n2 : Nat} {l2 : List (Nat × Sh)} {ids2 : List Nat}
/-- A loop in a loop's body. -/
def Vt.g0 (h : ∀ o', o = some o' → S P (.loop b) (buildSt n l x0) (stepZ rd l (encO n l [] EO o'))) : Vt (Lp (shTy l2).I R) (O3 Z) (encO n2 l2 ids2 EO) :=
  .loop0 _ R o .ret (fun z => S P (.loop b) (buildSt n l x0) (retOnly (stepZ rd l2 z))) fun _ hr => loop_ret (fun _ hq => congrArg O3.rt hq) (h _ hr)
def Vt.g1 {i : Nat} (h : ∀ o', o = some o' → S P (.loop b) (buildSt n l x0) (stepZ rd l (encO n l [i] EO o'))) (k : (shTy l).I → Vt (Lp (shTy l2).I R) (O3 Z) (encO n2 l2 ids2 EO)) : Vt (Lp (shTy l2).I R) (O3 Z) (encO n2 l2 ids2 EO) :=
  .loop1 _ R o .ret (fun x => S P (.loop b) (buildSt n l x0) (endK i l (buildSt n l x))) (fun z => S P (.loop b) (buildSt n l x0) (retOnly (stepZ rd l2 z)))
    (fun _ hx => loop_brk (j := 0) rfl (h _ hx)) (fun _ hr => loop_ret (fun _ hq => congrArg O3.rt hq) (h _ hr)) k
def Vt.g2 {i i' : Nat} (h : ∀ o', o = some o' → S P (.loop b) (buildSt n l x0) (stepZ rd l (encO n l [i, i'] EO o'))) (k k' : (shTy l).I → Vt (Lp (shTy l2).I R) (O3 Z) (encO n2 l2 ids2 EO)) : Vt (Lp (shTy l2).I R) (O3 Z) (encO n2 l2 ids2 EO) :=
  .loop2 _ R o .ret (fun x => S P (.loop b) (buildSt n l x0) (endK i l (buildSt n l x))) (fun x => S P (.loop b) (buildSt n l x0) (endK i' l (buildSt n l x))) (fun z => S P (.loop b) (buildSt n l x0) (retOnly (stepZ rd l2 z)))
    (fun _ hx => loop_brk (j := 0) rfl (h _ hx)) (fun _ hx => loop_brk (j := 1) rfl (h _ hx)) (fun _ hr => loop_ret (fun _ hq => congrArg O3.rt hq) (h _ hr)) k k'
end

section
variable {P : Program} {g : FuncId} {ds : List D}
def Vt.c0 {o : Option Unit} (h : ∀ u, o = some u → Spec P g ds (.tup [])) (k : Vt Q Z E) : Vt Q Z E := .call0 o (Spec P g ds (.tup [])) (fun x => h () x) k
def Vt.c1 {a : Type} {e : a → D} {o : Option a} (h : ∀ x, o = some x → Spec P g ds (e x)) (k : a → Vt Q Z E) : Vt Q Z E := .call1 a o (fun x => Spec P g ds (e x)) h k
def Vt.c2 {a b : Type} {e : a × b → D} {o : Option (a × b)} (h : ∀ x, o = some x → Spec P g ds (e x)) (k : a → b → Vt Q Z E) : Vt Q Z E := .call2 a b o (fun x y => Spec P g ds (e (x, y))) (fun _ _ hx => h _ hx) k
def Vt.c3 {a b c : Type} {e : a × b × c → D} {o : Option (a × b × c)} (h : ∀ x, o = some x → Spec P g ds (e x)) (k : a → b → c → Vt Q Z E) : Vt Q Z E :=
  .call3 a b c o (fun x y z => Spec P g ds (e (x, y, z))) (fun _ _ _ hx => h _ hx) k
def Vt.c4 {a b c d : Type} {e : a × b × c × d → D} {o : Option (a × b × c × d)} (h : ∀ x, o = some x → Spec P g ds (e x)) (k : a → b → c → d → Vt Q Z E) : Vt Q Z E :=
  .call4 a b c d o (fun x y z v => Spec P g ds (e (x, y, z, v))) (fun _ _ _ _ hx => h _ hx) k
/-- A call by whatever contract. -/
def Vt.cr {a : Type} {s : a → Prop} {o : Option a} (h : ∀ x, o = some x → s x) (k : a → Vt Q Z E) : Vt Q Z E := .call1 a o s h k
def Vt.cr2 {a b : Type} {s : a × b → Prop} {o : Option (a × b)} (h : ∀ x, o = some x → s x) (k : a → b → Vt Q Z E) : Vt Q Z E := .call2 a b o (fun x y => s (x, y)) (fun _ _ hx => h _ hx) k
def Vt.cr3 {a b c : Type} {s : a × b × c → Prop} {o : Option (a × b × c)} (h : ∀ x, o = some x → s x) (k : a → b → c → Vt Q Z E) : Vt Q Z E := .call3 a b c o (fun x y z => s (x, y, z)) (fun x y z hx => h (x, y, z) hx) k
def Vt.nq (p : Prop) [d : Decidable p] [dq : DecidableEq Q] (x y : Vt Q Z E) : Vt Q Z E := .nilq p d dq x y
/-- Both have to hold, and to agree. -/
noncomputable def Vt.nb (x y : Vt Q Z E) : Vt Q Z E := .nilq True (isTrue trivial) (Classical.typeDecidableEq Q) x y
def Vt.ck (p : Prop) [d : Decidable p] (x : Vt Q Z E) : Vt Q Z E := .chk p d x
end

instance (i : Int) (n : Nat) : Decidable (inR i n) := inferInstanceAs (Decidable (_ ∧ _))
instance (n : Nat) : Decidable (room n) := inferInstanceAs (Decidable (_ ≤ _))

theorem enter_of {P : Program} {f : FuncId} {fn : Func} {c : Code} (hf : P.funcs[f]? = some fn) (hb : fn.body = some c) (hname : (fn.name == "runtime.NumGoroutine") = false) :
    ∀ (args : Array Value) (w : World), (callFunc f args).run P w = .ok (.enter f args) w := fun args w => by
  have hn : ¬ fn.name = "runtime.NumGoroutine" := by simpa using hname
  simp [callFunc, hf, hn, hb]

theorem SpecR_of2 {P : Program} {f : FuncId} {fn : Func} {c : Code} (hf : P.funcs[f]? = some fn) (hb : fn.body = some c) (hname : (fn.name == "runtime.NumGoroutine") = false) {ds : List D} (hlen : Nat.ble (ds.length + 1) fn.ntmps = true) {d : D}
    {e : TypeId} {t : Ty} {xs ys : List t.I} (hd : d = .tup [] ∨ ∃ (u : Ty) (x : u.I), u.flat = true ∧ d = encV u x)
    (hk : S P c { n := fn.ntmps, sl := (0, .slo 0) :: argSl 1 ds, ob := [(0, .row true e t xs)] } (retZ (rdR P fn) (some d, some (.row true e t ys)))) : SpecR P f e t xs ds ys d :=
  SpecR_of hf hb hname hlen hd (S.mono hk fun en σ h => by
    cases en with
    | normal => have h' : (resD P σ false fn, findOb σ.ob 0) = (some d, some (.row true e t ys)) := h; injection h' with h1 h2; exact ⟨.inl rfl, h1, h2⟩
    | ret => have h' : (resD P σ false fn, findOb σ.ob 0) = (some d, some (.row true e t ys)) := h; injection h' with h1 h2; exact ⟨.inr rfl, h1, h2⟩
    | _ => exact (show False from h).elim)

theorem SpecG_of2 {P : Program} {f : FuncId} {fn : Func} {c : Code} (hf : P.funcs[f]? = some fn) (hb : fn.body = some c) (hname : (fn.name == "runtime.NumGoroutine") = false) {ds : List D} (hlen : Nat.ble (ds.length + 1) fn.ntmps = true) {d : D}
    {T : TypeId} {fs : List Fd} {x y : (gTy fs).I} (hd : flatD d)
    (hk : S P c { n := fn.ntmps, sl := (0, .ptr 0 0) :: argSl 1 ds, ob := gOb 0 0 fs x ++ [(0, .cells true T (gCs 0 0 fs x))] } (retZ (rdG P fn T fs) (some d, some y))) : SpecG P f T fs x ds y d :=
  SpecG_of hf hb hname hlen hd (S.mono hk fun en σ h => by
    cases en with
    | normal => have h' : (resG P σ fn, readG T fs σ) = (some d, some y) := h; injection h' with h1 h2; exact ⟨.inl rfl, h1, h2⟩
    | ret => have h' : (resG P σ fn, readG T fs σ) = (some d, some y) := h; injection h' with h1 h2; exact ⟨.inr rfl, h1, h2⟩
    | _ => exact (show False from h).elim)

abbrev tI : Ty := .int .i64
abbrev tS : Ty := .str
abbrev tB : Ty := .bool
abbrev tLn : Ty := .pair tI (.pair tS tI)
abbrev Bs := List UInt8
abbrev Ln := Int × Bs × Int

/-- Arguments that are nil: an empty list. -/
def leD (d e : D) : Prop :=
  match d, e with
  | .nils, .val (.list _) xs => xs = []
  | d, e => d = e
def leDs : List D → List D → Prop
  | [], [] => True
  | a :: r, b :: s => leD a b ∧ leDs r s
  | _, _ => False

theorem leD_R1 {w : World} {F : Nat → Prop} {v : Value} {d e : D} (h : leD d e) (hr : R1 w F noM v d) : R1 w F noM v e := by
  unfold leD at h
  split at h
  · subst h
    obtain ⟨A, hA⟩ := hr
    exact ⟨A, 0, by rw [hA]; rfl, Nat.le_refl _, Nat.zero_le _, fun i x hx => by simp at hx⟩
  · rw [← h]; exact hr

theorem leDs_len : ∀ {ds es : List D}, leDs ds es → ds.length = es.length
  | [], [], _ => rfl
  | _ :: _, _ :: _, h => by simp [leDs_len h.2]
  | [], _ :: _, h => h.elim
  | _ :: _, [], h => h.elim
theorem leDs_get : ∀ {ds es : List D}, leDs ds es → ∀ (i : Nat) e, es[i]? = some e → ∃ d, ds[i]? = some d ∧ leD d e
  | [], [], _, i, e, h => by simp at h
  | d :: _, e :: _, h, 0, e', he => by
    have : e = e' := by simpa using he
    exact ⟨d, rfl, this ▸ h.1⟩
  | _ :: r, _ :: s, h, i + 1, e', he => by
    have := leDs_get h.2 i e' (by simpa using he)
    simpa using this
  | [], _ :: _, h, _, _, _ => h.elim
  | _ :: _, [], h, _, _, _ => h.elim

theorem Spec.weak {P : Program} {f : FuncId} {ds es : List D} {d : D} (h : Spec P f es d) (hl : leDs ds es) : Spec P f ds d :=
  ⟨h.1, fun w vs F hF hgl hsz hargs => h.2 w vs F hF hgl (by rw [hsz, leDs_len hl]) fun i e he => by
    obtain ⟨d', h1, h2⟩ := leDs_get hl i e he
    obtain ⟨v, h3, h4⟩ := hargs i d' h1
    exact ⟨v, h3, leD_R1 h2 h4⟩⟩

end Go.Proofs.Ytnkinnhgahpcoaa.Vc
