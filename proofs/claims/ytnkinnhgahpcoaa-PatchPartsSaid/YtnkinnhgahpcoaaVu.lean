/-
  A REGION THAT DRAWS ITS ORDER: where operations that may change places give the same, the text's order tells all.
  No condition: the theorems hold for every program that follows Go's mixed orders.
-/
import Derived.Test.YtnkinnhgahpcoaaVk
import Derived.Scope
namespace Go.Proofs.Ytnkinnhgahpcoaa.Vc
open Go.RowKit

section
variable {P : Program} {ops : Array Oper} {md : Region.Mode}

/-- What an operation does, as a rule on its value and the world behind it. -/
def opT (P : Program) (ops : Array Oper) (o : Oper) (a : Act) (w : World) (φ : Value → World → Prop) : Prop :=
  match Region.wanted o (yielded ops a.tmps) with
  | false => φ undef w
  | true => match stillOp o.op with
    | true => ∃ v, (execOp a.eval o).run P w = .ok (.value v) w ∧ φ v w
    | false => match (execOp a.eval o).run P w with
      | .ok (.value v) w' => φ v w'
      | .ok .skip w' => φ undef w'
      | .ok (.enter f args) w' => Calls P f args w' fun e w'' => ∃ v, e = .returned v ∧ φ v w''
      | _ => False

theorem opT_mono {o : Oper} {a : Act} {w : World} {φ ψ : Value → World → Prop} (h : ∀ v w', φ v w' → ψ v w') (hh : opT P ops o a w φ) : opT P ops o a w ψ := by
  unfold opT at *
  split
  · rename_i hw; rw [hw] at hh; exact h _ _ hh
  · rename_i hw
    rw [hw] at hh
    dsimp only at hh
    split
    · rename_i hs
      rw [hs] at hh
      obtain ⟨v, h1, h2⟩ := hh
      exact ⟨v, h1, h _ _ h2⟩
    · rename_i hs
      rw [hs] at hh
      dsimp only at hh
      generalize (execOp a.eval o).run P w = r at *
      cases r with
      | ok n w' =>
        cases n <;> simp only at hh ⊢ <;> first | exact h _ _ hh | exact Calls.mono hh fun e w'' ⟨v, h1, h2⟩ => ⟨v, h1, h _ _ h2⟩
      | halt x w' => simp only at hh

theorem opT_put {o : Oper} (hs : ∀ cs b, o.op ≠ .select cs b) (a : Act) (w : World) (dst : Option Nat) (v : Value) (h : ∀ d, dst = some d → d ∉ o.looksAt ops) (φ : Value → World → Prop) :
    opT P ops o (a.put dst v) w φ = opT P ops o a w φ := by
  unfold opT
  rw [wanted_put o a dst v h, execOp_put o hs a dst v h]

theorem pureOp_still {op : Op} (h : pureOp P op = true) : stillOp op = true := by
  unfold pureOp at h
  split at h <;> first | rfl | (cases h; done) | (split at h <;> first | rfl | cases h)

theorem run_boundsPanic_not {α : Type} (k : IntKind) (x y : Int) (c : BoundsCode) (w w' : World) (v : α) : (boundsPanic k x y c : Sem α).run P w ≠ .ok v w' := by
  unfold boundsPanic
  dsimp only
  split
  all_goals
    rw [Sem.run_bind]
    have hrt : ∀ s w1, (runtimePanic (.bounds (IntKind.i64.wrap x) y s c) : Sem α).run P w1 ≠ .ok v w' := fun s w1 => by
      unfold runtimePanic
      rw [Sem.run_bind]
      generalize Sem.run P program w1 = q
      cases q with
      | ok p w2 => simp [Result.andThen, goPanic]
      | halt e w2 => simp [Result.andThen]
    intro hh
    unfold Result.andThen at hh
    split at hh
    · exact hrt _ _ hh
    · cases hh

/-- One outcome whatever the world is, or none in any. -/
def Ind (P : Program) {α : Type} (s : Sem α) : Prop := (∃ v, ∀ w, s.run P w = .ok v w) ∨ ∀ w w' v, s.run P w ≠ .ok v w'
theorem Ind.pure {α : Type} (v : α) : Ind P (Pure.pure v : Sem α) := .inl ⟨v, fun w => by simp⟩
theorem Ind.halt {α : Type} (h : Halt) : Ind P (Sem.halt h : Sem α) := .inr fun w w' v hr => by simp [Sem.run] at hr
theorem Ind.bind {α β : Type} {s : Sem α} {f : α → Sem β} (hs : Ind P s) (hf : ∀ v, Ind P (f v)) : Ind P (s >>= f) := by
  rcases hs with ⟨v, hv⟩ | hn
  · rcases hf v with ⟨u, hu⟩ | hn
    · exact .inl ⟨u, fun w => by rw [Sem.run_bind, hv]; exact hu w⟩
    · exact .inr fun w w' u hr => hn w w' u (by rw [Sem.run_bind, hv] at hr; exact hr)
  · refine .inr fun w w' u hr => ?_
    rw [Sem.run_bind] at hr
    cases hq : s.run P w with
    | ok v w1 => exact hn _ _ _ hq
    | halt x w1 => rw [hq] at hr; simp [Result.andThen] at hr
theorem Ind.typeInfo (t : TypeId) : Ind P (typeInfo t) := by
  cases h : P.info? t with
  | none => exact .inr fun w w' v hr => by simp [Go.typeInfo, h] at hr
  | some i => exact .inl ⟨i, fun w => by simp [Go.typeInfo, h]⟩
theorem Ind.underlying (t : TypeId) : Ind P (underlying t) := by
  cases h : P.underlying t with
  | none => exact .inr fun w w' v hr => by simp [Go.underlying, h] at hr
  | some i => exact .inl ⟨i, fun w => by simp [Go.underlying, h]⟩
theorem Ind.sizeOf (t : TypeId) : Ind P (Go.sizeOf t) := (Ind.typeInfo t).bind fun _ => Ind.pure _
theorem Ind.zeroValue (t : TypeId) : Ind P (zeroValue t) := (Ind.typeInfo t).bind fun i => by
  cases i.zero with
  | some v => exact Ind.pure _
  | none => exact Ind.halt _
theorem Ind.mapL {α β : Type} {f : α → Sem β} (hf : ∀ x, Ind P (f x)) : ∀ (l : List α), Ind P (l.mapM f)
  | [] => by rw [List.mapM_nil]; exact Ind.pure _
  | x :: l => by rw [List.mapM_cons]; exact (hf x).bind fun _ => (Ind.mapL hf l).bind fun _ => Ind.pure _
theorem Ind.mapA {α β : Type} {f : α → Sem β} (hf : ∀ x, Ind P (f x)) (l : Array α) : Ind P (l.mapM f) := by
  rw [← Array.toArray_toList (xs := l), List.mapM_toArray]
  show Ind P ((l.toList.mapM f) >>= fun vs => Pure.pure vs.toArray)
  exact (Ind.mapL hf _).bind fun _ => Ind.pure _
theorem Ind.build (t : TypeId) (parts : Array (Nat × Value)) : Ind P (Instr.build t parts) := by
  unfold Instr.build
  refine (Ind.zeroValue t).bind fun z => (Ind.underlying t).bind fun d => ?_
  split
  · refine (Ind.mapA (fun f => (Ind.sizeOf _).bind fun _ => Ind.pure _) _).bind fun _ => ?_
    split
    · exact Ind.pure _
    · exact Ind.halt _
  · refine (Ind.sizeOf _).bind fun _ => ?_
    split
    · exact Ind.pure _
    · exact Ind.halt _
  · exact Ind.halt _
theorem Ind.asIntOf (v : Value) : Ind P (asIntOf v) := by
  unfold Go.asIntOf
  split <;> first | exact Ind.pure _ | exact Ind.halt _
theorem Ind.sliceBound (x : Value) (y : Nat) (c : BoundsCode) : Ind P (Instr.sliceBound x y c) := by
  unfold Instr.sliceBound
  refine (Ind.asIntOf x).bind fun ki => ?_
  obtain ⟨k, i⟩ := ki
  dsimp only
  split
  · exact Ind.pure _
  · exact .inr fun w w' v => run_boundsPanic_not _ _ _ _ _ _ _
theorem Ind.sliceBounds (b : Bool) (n c : Nat) (lo hi mx : Option Value) : Ind P (Instr.sliceBounds b n c lo hi mx) := by
  unfold Instr.sliceBounds
  cases lo <;> cases hi <;> cases mx <;> dsimp only
  all_goals repeat (first | exact Ind.pure _ | exact Ind.halt _ | refine (Ind.sliceBound _ _ _).bind fun _ => ?_ | refine (Ind.pure _).bind fun _ => ?_ | refine (Ind.halt _).bind fun _ => ?_)
theorem Ind.nilDeref {α : Type} : Ind P (runtimePanic .nilDeref : Sem α) := .inr fun w w' v hr => by
  unfold runtimePanic at hr
  rw [Sem.run_bind] at hr
  revert hr
  generalize Sem.run P program w = q
  intro hr
  cases q with
  | ok p w2 => simp [Result.andThen, goPanic] at hr
  | halt e w2 => simp [Result.andThen] at hr
theorem Ind.asAddr (x : Value) : Ind P (Go.asAddr x) := by
  unfold Go.asAddr
  split <;> first | exact Ind.pure _ | exact Ind.halt _ | exact Ind.nilDeref
theorem Ind.sureAddr (x : Value) : Ind P (Instr.sureAddr x) := by
  unfold Instr.sureAddr
  split <;> first | exact Ind.pure _ | exact Ind.halt _
theorem Ind.slice (t : TypeId) (x : Value) (lo hi mx : Option Value) : Ind P (Instr.sliceAt t x lo hi mx) := by
  unfold Instr.sliceAt Instr.slice
  refine (Ind.underlying t).bind fun d => ?_
  split
  · refine (Ind.sureAddr _).bind fun a => (Ind.sliceBounds _ _ _ _ _ _).bind fun ⟨l, h, m⟩ => ?_
    exact (Ind.sizeOf _).bind fun _ => Ind.pure _
  · refine (Ind.underlying t).bind fun d => ?_
    split
    · cases mx with
      | none => exact (Ind.sliceBounds _ _ _ _ _ _).bind fun ⟨l, h, m⟩ => Ind.pure _
      | some v => exact (Ind.halt _).bind fun _ => (Ind.sliceBounds _ _ _ _ _ _).bind fun ⟨l, h, m⟩ => Ind.pure _
    · exact (Ind.sliceBounds _ _ _ _ _ _).bind fun ⟨l, h, m⟩ => (Ind.sizeOf _).bind fun _ => Ind.pure _
    · refine (Ind.asAddr _).bind fun a => (Ind.underlying _).bind fun d => ?_
      split
      · exact (Ind.sliceBounds _ _ _ _ _ _).bind fun ⟨l, h, m⟩ => (Ind.sizeOf _).bind fun _ => Ind.pure _
      · exact Ind.halt _
    · exact Ind.halt _
theorem Ind.extract (x : Value) (i : Nat) : Ind P (Instr.extract x i) := by
  unfold Instr.extract
  split
  · split <;> first | exact Ind.pure _ | exact Ind.halt _
  · exact Ind.halt _

theorem Ind.fieldAt {s : TypeId} {f off : Nat} {t : TypeId} (h : fieldOff P s f = some (off, t)) (x : Value) : Ind P (Instr.fieldAt s x f) := by
  by_cases hx : ∃ p, x = .pointer (some p)
  · obtain ⟨p, rfl⟩ := hx
    exact .inl ⟨_, fun w => run_fieldAt h p w⟩
  · refine .inr fun w w' v hr => ?_
    obtain ⟨fs, fd, h1, h2, rfl, rfl, i, h3, h4⟩ := fieldOff_spec h
    cases x
    case pointer q =>
      cases q with
      | some p => exact hx ⟨p, rfl⟩
      | none => simp [Instr.fieldAt, run_underlying h1, h2, Instr.sureAddr, stuck, Result.andThen] at hr
    all_goals simp [Instr.fieldAt, run_underlying h1, h2, Instr.sureAddr, stuck, Result.andThen] at hr
theorem Ind.boundsPanic {α : Type} (k : IntKind) (x y : Int) (c : BoundsCode) : Ind P (boundsPanic k x y c : Sem α) := .inr fun w w' v => run_boundsPanic_not _ _ _ _ _ _ _
theorem Ind.indexAt (t : TypeId) (x ix : Value) : Ind P (Instr.indexAt t x ix) := by
  unfold Instr.indexAt
  refine (Ind.asIntOf ix).bind fun ki => ?_
  obtain ⟨k, i⟩ := ki
  dsimp only
  refine (Ind.underlying t).bind fun d => ?_
  have rest : ∀ (base : Option Addr) (len : Nat) (elem : TypeId) (tiny : Bool), Ind P (match base with
      | some a =>
        if 0 ≤ i ∧ i < len then (do let n ← Go.sizeOf elem; Pure.pure (Value.pointer (some (a.add (i.toNat * n)))))
        else if tiny = true then unsupported (.noEntry "op/indexAddr.an index out of range at an array of length 0 or 1 (ledger 616)")
        else Go.boundsPanic k i len .index
      | none => Go.boundsPanic k i 0 .index : Sem Value) := fun base len elem tiny => by
    cases base with
    | none => exact Ind.boundsPanic _ _ _ _
    | some a =>
      dsimp only
      split
      · exact (Ind.sizeOf _).bind fun _ => Ind.pure _
      · split
        · exact Ind.halt _
        · exact Ind.boundsPanic _ _ _ _
  split
  · refine (Ind.sureAddr x).bind fun a => (Ind.pure _).bind fun b => ?_
    obtain ⟨base, len, elem⟩ := b
    exact (Ind.underlying t).bind fun d' => rest base len elem _
  · refine (Ind.pure _).bind fun b => ?_
    obtain ⟨base, len, elem⟩ := b
    exact (Ind.underlying t).bind fun d' => rest base len elem _
  · exact (Ind.halt _).bind fun b => by
      obtain ⟨base, len, elem⟩ := b
      exact (Ind.underlying t).bind fun d' => rest base len elem _

theorem run_value {α : Type} {s : Sem Value} {w w' : World} {n : Next} (h : (do let v ← s; Pure.pure (Next.value v) : Sem Next).run P w = .ok n w') : ∃ v, n = .value v ∧ s.run P w = .ok v w' := by
  rw [Sem.run_bind] at h
  generalize hr : s.run P w = r at h
  cases r with
  | ok v w1 =>
    have h' : (Result.ok (Next.value v) w1 : Result Next) = .ok n w' := by simpa [Result.andThen] using h
    injection h' with h1 h2
    exact ⟨v, h1.symm, by rw [h2]⟩
  | halt e w1 => simp [Result.andThen] at h

theorem Ind.op {s : Sem Value} {n : Sem Next} (h : Ind P s) (hn : n = (do let v ← s; Pure.pure (Next.value v))) : (∃ v, ∀ w, n.run P w = .ok (.value v) w) ∨ ∀ w v, n.run P w ≠ .ok (.value v) w := by
  subst hn
  rcases h with ⟨v, hv⟩ | h
  · exact .inl ⟨v, fun w => by rw [Sem.run_bind, hv]; simp [Result.andThen]⟩
  · refine .inr fun w v hr => ?_
    obtain ⟨v', _, h2⟩ := run_value (α := Value) hr
    exact h _ _ _ h2

/-- One value in whatever world, or none in any. -/
theorem pureOp_run {o : Oper} (h : pureOp P o.op = true) (a : Act) : (∃ v, ∀ w, (execOp a.eval o).run P w = .ok (.value v) w) ∨ ∀ w v, (execOp a.eval o).run P w ≠ .ok (.value v) w := by
  unfold pureOp at h
  split at h
  · rename_i x ho; exact .inl ⟨a.eval x, fun w => by unfold execOp; rw [ho]; simp⟩
  · rename_i x ho; exact .inl ⟨a.eval x, fun w => by unfold execOp; rw [ho]; simp⟩
  · rename_i t x ix ho
    have hu : P.underlying t = some .string := by
      unfold isStrT at h
      split at h
      · rename_i h1; exact h1
      · cases h
    generalize hx : a.eval x = vx
    generalize hi : a.eval ix = vi
    have he : execOp a.eval o = (do let v ← Instr.index t vx vi; Pure.pure (Next.value v)) := by unfold execOp; rw [ho]; dsimp only; rw [hx, hi]
    by_cases hok : ∃ v, ∀ w, (Instr.index t vx vi).run P w = .ok v w
    · obtain ⟨v, hv⟩ := hok
      exact .inl ⟨v, fun w => by rw [he, Sem.run_bind, hv]; simp [Result.andThen]⟩
    · refine .inr fun w v hr => ?_
      rw [he] at hr
      obtain ⟨v', h1, h2⟩ := run_value (α := Value) hr
      apply hok
      unfold Instr.index at h2 ⊢
      cases vi <;> simp only [asIntOf, unsupported, stuck, Sem.run_bind, Sem.run_pure, Sem.run_halt, Result.andThen_ok, Result.andThen] at h2 <;> first | (cases h2; done) | skip
      case int k n =>
        rw [run_underlying hu] at h2
        cases vx <;> simp only [Result.andThen, Result.andThen_ok, stuck, Sem.run_halt] at h2 <;> first | (cases h2; done) | skip
        case string s =>
          generalize hb : (if 0 ≤ n then s[n.toNat]? else none) = ob at h2
          cases ob with
          | none => exact absurd h2 (run_boundsPanic_not _ _ _ _ _ _ _)
          | some b => exact ⟨.int .u8 b.toNat, fun w => by simp [asIntOf, Sem.run_bind, run_underlying hu, Result.andThen, hb]⟩
      case pointer q => cases q <;> simp at h2
  · rename_i t k n y s ho
    generalize hy : a.eval y = vy
    have he : execOp a.eval o = (do let v ← (do eqGuard .mul t (.const (.int k n)) y (.int k n) vy; binOp .mul t (.int k n) vy); Pure.pure (Next.value v)) := by unfold execOp; rw [ho]; dsimp only [Act.eval]; rw [← hy]; rfl
    have hg : eqGuard .mul t (.const (.int k n)) y (.int k n) vy = Pure.pure () := by unfold eqGuard; simp
    by_cases hok : ∃ m, vy = .int k m
    · obtain ⟨m, rfl⟩ := hok
      refine .inl ⟨.int k (k.wrap (n * m)), fun w => ?_⟩
      rw [he, hg]
      simp [binOp, Op.intArith]
    · refine .inr fun w v hr => ?_
      rw [he, hg] at hr
      cases vy <;> simp [binOp, stuck, unsupported, Result.andThen] at hr
      case int k' m =>
        by_cases hk : k = k'
        · exact hok ⟨m, by rw [hk]⟩
        · simp [hk, stuck] at hr
  · rename_i t x lo hi mx ho
    exact Ind.op (Ind.slice t (a.eval x) (lo.map a.eval) (hi.map a.eval) (mx.map a.eval)) (by unfold execOp; rw [ho])
  · rename_i t parts ho
    exact Ind.op (Ind.build t (parts.map fun (i, x) => (i, a.eval x))) (by unfold execOp; rw [ho])
  · rename_i x i ho
    exact Ind.op (Ind.extract (a.eval x) i) (by unfold execOp; rw [ho])
  · rename_i s x f ho
    split at h
    · rename_i q hq
      obtain ⟨off, t⟩ := q
      exact Ind.op (Ind.fieldAt hq (a.eval x)) (by unfold execOp; rw [ho])
    · cases h
  · rename_i t x ix ho
    exact Ind.op (Ind.indexAt t (a.eval x) (a.eval ix)) (by unfold execOp; rw [ho])
  · cases h

theorem opT_pure {o : Oper} (h : pureOp P o.op = true) (a : Act) : (∃ v, ∀ w φ, opT P ops o a w φ = φ v w) ∨ ∀ w φ, ¬opT P ops o a w φ := by
  cases hw : Region.wanted o (yielded ops a.tmps) with
  | false => exact .inl ⟨undef, fun w φ => by unfold opT; rw [hw]⟩
  | true =>
    rcases pureOp_run h a with ⟨v, hv⟩ | hn
    · refine .inl ⟨v, fun w φ => ?_⟩
      unfold opT
      rw [hw, pureOp_still h]
      dsimp only
      rw [hv]
      exact propext ⟨fun ⟨v', h1, h2⟩ => by injection h1 with h3 h4; injection h3 with h5; rw [h5]; exact h2, fun h2 => ⟨v, rfl, h2⟩⟩
    · refine .inr fun w φ hh => ?_
      unfold opT at hh
      rw [hw, pureOp_still h] at hh
      obtain ⟨v, h1, _⟩ := hh
      exact hn w v h1

theorem opT_false {o : Oper} {a : Act} {w : World} {φ : Value → World → Prop} (h : opT P ops o a w φ) (hf : ∀ v w', ¬φ v w') : False := by
  unfold opT at h
  split at h
  · exact hf _ _ h
  · split at h
    · obtain ⟨v, _, h2⟩ := h; exact hf _ _ h2
    · split at h
      · exact hf _ _ h
      · exact hf _ _ h
      · obtain ⟨e, w'', _, ⟨v, _, h2⟩, _⟩ := h []
        exact hf _ _ h2
      · exact h.elim

/-- Two operations that may change places. -/
theorem opT_comm {ok oj : Oper} (hc : commPair P ops ok oj = true) {a : Act} {w : World} {φ : Value → Value → World → Prop}
    (h : opT P ops ok a w fun v w' => opT P ops oj a w' fun u w'' => φ v u w'') : opT P ops oj a w fun u w' => opT P ops ok a w' fun v w'' => φ v u w'' := by
  simp only [commPair, Bool.and_eq_true, Bool.or_eq_true] at hc
  rcases hc.2 with hss | hp | hp
  · unfold opT at *
    cases hwk : Region.wanted ok (yielded ops a.tmps) <;> cases hwj : Region.wanted oj (yielded ops a.tmps) <;> simp only [hwk, hwj, hss.1, hss.2] at h ⊢
    · exact h
    · exact h
    · obtain ⟨v, h1, h2⟩ := h; exact ⟨v, h1, h2⟩
    · obtain ⟨v, h1, u, h2, h3⟩ := h; exact ⟨u, h2, v, h1, h3⟩
  · rcases opT_pure (P := P) (ops := ops) hp a with ⟨v, hv⟩ | hn
    · rw [hv] at h
      exact opT_mono (fun u w' hu => by rw [hv]; exact hu) h
    · exact absurd h (hn _ _)
  · rcases opT_pure (P := P) (ops := ops) hp a with ⟨u, hu⟩ | hn
    · rw [hu]
      exact opT_mono (fun v w' hv => by rw [hu] at hv; exact hv) h
    · exact (opT_false h fun v w' => hn _ _).elim

def gOp (P : Program) (ops : Array Oper) (i : Nat) (K : Act → World → Prop) (a : Act) (w : World) : Prop :=
  match ops[i]? with
  | none => K a w
  | some o => opT P ops o a w fun v w' => K (a.put o.dst v) w'

theorem gOp_mono {i : Nat} {K K' : Act → World → Prop} (h : ∀ a w, K a w → K' a w) {a : Act} {w : World} (hh : gOp P ops i K a w) : gOp P ops i K' a w := by
  unfold gOp at *
  split
  · rename_i ho; rw [ho] at hh; exact h _ _ hh
  · rename_i o ho; rw [ho] at hh; exact opT_mono (fun v w' => h _ _) hh

theorem gOp_comm (hsel : Region.noSelect ops = true) {k j : Nat} {ok oj : Oper} (hk : ops[k]? = some ok) (hj : ops[j]? = some oj) (hc : commPair P ops ok oj = true) {K : Act → World → Prop} {a : Act} {w : World}
    (h : gOp P ops k (gOp P ops j K) a w) : gOp P ops j (gOp P ops k K) a w := by
  have hap : ok.apart ops oj = true := by simp only [commPair, Bool.and_eq_true] at hc; exact hc.1
  obtain ⟨h1, h2, h3⟩ := Oper.apart_spec hap
  unfold gOp at *
  simp only [hk, hj] at h ⊢
  have sk := fun cs b => Region.noSelect_spec hsel k ok cs b hk
  have sj := fun cs b => Region.noSelect_spec hsel j oj cs b hj
  have h' : opT P ops ok a w fun v w' => opT P ops oj a w' fun u w'' => K ((a.put ok.dst v).put oj.dst u) w'' := opT_mono (fun v w' hv => by rw [opT_put sj a w' ok.dst v h1] at hv; exact hv) h
  refine opT_mono (fun u w' hu => ?_) (opT_comm hc h')
  rw [opT_put sk a w' oj.dst u h3]
  exact opT_mono (fun v w'' hv => by rw [← Act.put_comm a v u h2]; exact hv) hu

theorem wpOp_of_gOp {i : Nat} {K : Act → World → Prop} {Q : Exit → Act → World → Prop} {a : Act} {w : World} (h : gOp P ops i K a w) : wpOp P ops Q i K a w := by
  unfold gOp at h
  unfold wpOp
  split
  · rename_i ho; rw [ho] at h; exact h
  · rename_i o ho
    rw [ho] at h
    unfold opT at h
    dsimp only at h
    cases hw : Region.wanted o (yielded ops a.tmps) with
    | false => rw [hw] at h; simpa using h
    | true =>
      rw [hw] at h
      dsimp only at h
      rw [if_pos rfl]
      left
      unfold Oper.wp
      split at h
      · obtain ⟨v, h1, h2⟩ := h
        rw [h1]; exact h2
      · split at h <;> rename_i hr <;> first | rw [hr] | skip
        · exact h
        · exact h
        · exact Calls.mono h fun e w'' ⟨v, h1, h2⟩ => by rw [h1]; exact h2
        · exact h.elim

def wpAnyG (P : Program) (md : Region.Mode) (ops : Array Oper) (Q : Act → World → Prop) : Nat → Array Bool → Act → World → Prop
  | 0, listed, a, w => Region.ready md ops listed = [] ∧ Q a w
  | f + 1, listed, a, w => (Region.ready md ops listed = [] → Q a w) ∧ ∀ i ∈ Region.ready md ops listed, gOp P ops i (wpAnyG P md ops Q f (listed.setIfInBounds i true)) a w

theorem wpAny_of_G {Q : Act → World → Prop} {Q' : Exit → Act → World → Prop} (hQ : ∀ a w, Q a w → Q' .normal a w) : ∀ (f : Nat) (listed : Array Bool) (a : Act) (w : World), wpAnyG P md ops Q f listed a w → wpAny P md ops Q' f listed a w
  | 0, _, _, _, h => ⟨h.1, hQ _ _ h.2⟩
  | f + 1, _, _, _, h => ⟨fun h0 => hQ _ _ (h.1 h0), fun i hi => wpOp_of_gOp (gOp_mono (fun a' w' => wpAny_of_G hQ f _ a' w') (h.2 i hi))⟩

/-- What has been done is closed. -/
def ClosedL (md : Region.Mode) (ops : Array Oper) (listed : Array Bool) : Prop :=
  ∀ (j : Nat) oj, ops[j]? = some oj → listed.getD j false = true → ∀ e ∈ oj.after, Region.binds md e = true → listed.getD e.on false = true

theorem ClosedL.set {i : Nat} {listed : Array Bool} (inv : ClosedL md ops listed) (hi : i ∈ Region.ready md ops listed) : ClosedL md ops (listed.setIfInBounds i true) := by
  obtain ⟨_, oi, hoi, hall⟩ := mem_ready.1 hi
  intro j oj hj hl e he hb
  by_cases hij : i = j
  · subst hij
    have : oj = oi := Option.some.inj (hj.symm.trans hoi)
    subst this
    exact getD_set_true (hall e he hb)
  · rw [getD_set_ne false hij] at hl
    exact getD_set_true (inv j oj hj hl e he hb)

theorem lt_of_getD_false {listed : Array Bool} {j : Nat} (h : listed.getD j true = false) : listed.getD j false = false := by
  rcases Nat.lt_or_ge j listed.size with h' | h'
  · simp [h'] at h ⊢; exact h
  · simp [Array.getElem?_eq_none h'] at h

/-- A place that stays unlisted while k is. -/
def Waits (md : Region.Mode) (ops : Array Oper) (k j : Nat) : Prop := ∀ listed, ClosedL md ops listed → listed.getD k false = false → listed.getD j false = false ∧ j ∉ Region.ready md ops listed

theorem wpAnyG_first {Q : Act → World → Prop} (hsel : Region.noSelect ops = true) {k : Nat} {ok : Oper} (hk : ops[k]? = some ok) :
    ∀ (f : Nat) (listed : Array Bool) (a : Act) (w : World), ClosedL md ops listed →
      (∀ j oj, ops[j]? = some oj → j ≠ k → listed.getD j true = false → Waits md ops k j ∨ commPair P ops ok oj = true) →
      k ∈ Region.ready md ops listed → gOp P ops k (wpAnyG P md ops Q f (listed.setIfInBounds k true)) a w → wpAnyG P md ops Q (f + 1) listed a w := by
  intro f
  induction f with
  | zero =>
    intro listed a w inv hc hr H
    refine ⟨fun h => (by rw [h] at hr; cases hr), fun j hj => ?_⟩
    by_cases hjk : j = k
    · subst hjk; exact H
    · -- nothing is ready behind k, but j would be
      exfalso
      have hj' := ready_mono hj hjk
      unfold gOp at H
      rw [hk] at H
      dsimp only at H
      have : ∃ v w', (Region.ready md ops (listed.setIfInBounds k true) = [] ∧ Q (a.put ok.dst v) w') := by
        unfold opT at H
        split at H
        · exact ⟨_, _, H⟩
        · split at H
          · obtain ⟨v, _, h2⟩ := H; exact ⟨v, _, h2⟩
          · split at H
            · exact ⟨_, _, H⟩
            · exact ⟨_, _, H⟩
            · obtain ⟨e, w'', _, ⟨v, _, h2⟩, _⟩ := H []
              exact ⟨v, w'', h2⟩
            · exact H.elim
      obtain ⟨v, w', h1, _⟩ := this
      rw [h1] at hj'
      cases hj'
  | succ f ih =>
    intro listed a w inv hc hr H
    refine ⟨fun h => (by rw [h] at hr; cases hr), fun j hj => ?_⟩
    by_cases hjk : j = k
    · subst hjk; exact H
    · obtain ⟨hjun, oj, hoj, _⟩ := mem_ready.1 hj
      have hkun := lt_of_getD_false (mem_ready.1 hr).1
      rcases hc j oj hoj hjk hjun with hw | hcm
      · exact absurd hj (hw listed inv hkun).2
      · have h1 : gOp P ops k (gOp P ops j (wpAnyG P md ops Q f ((listed.setIfInBounds k true).setIfInBounds j true))) a w := gOp_mono (fun a' w' h => h.2 j (ready_mono hj hjk)) H
        refine gOp_mono (fun a' w' h => ih (listed.setIfInBounds j true) a' w' (inv.set hj) (fun i oi hoi hik hun => ?_) (ready_mono hr (Ne.symm hjk)) ?_) (gOp_comm hsel hk hoj hcm h1)
        · refine hc i oi hoi hik ?_
          by_cases hji : j = i
          · subst hji; exact hjun
          · rw [getD_set_ne true hji] at hun; exact hun
        · rw [Array.setIfInBounds_comm _ _ hjk]
          exact h

/-! ### The text's order -/

def wpGl (P : Program) (ops : Array Oper) (Q : Act → World → Prop) : List Oper → Act → World → Prop
  | [], a, w => Q a w
  | o :: r, a, w => opT P ops o a w fun v w' => wpGl P ops Q r (a.put o.dst v) w'

theorem hasN_true {i : Nat} : ∀ {l : List Nat}, hasN i l = true → i ∈ l
  | j :: r, h => by
    simp only [hasN, Bool.or_eq_true] at h
    rcases h with h | h
    · have := Nat.eq_of_beq_eq_true h
      subst this
      exact List.mem_cons_self
    · exact List.mem_cons_of_mem _ (hasN_true h)

theorem blockedBy_spec {k : Nat} : ∀ (l : List Oper) (j : Nat) (acc : List Nat), (∀ i, l[i]? = ops[j + i]?) → (∀ i ∈ acc, Waits md ops k i) → ∀ i ∈ blockedBy md k j l acc, Waits md ops k i
  | [], j, acc, _, ha => ha
  | o :: r, j, acc, hl, ha => by
    unfold blockedBy
    refine blockedBy_spec r (j + 1) _ (fun i => by have := hl (i + 1); simpa [Nat.add_assoc, Nat.add_comm 1 i] using this) ?_
    have hoj : ops[j]? = some o := by simpa using (hl 0).symm
    cases hb : o.after.toList.any fun e => Region.binds md e && (Nat.beq e.on k || hasN e.on acc) with
    | false => exact ha
    | true =>
      intro i hi
      rcases List.mem_cons.1 hi with rfl | hi
      · obtain ⟨e, he, hb2⟩ := List.any_eq_true.1 hb
        simp only [Bool.and_eq_true, Bool.or_eq_true] at hb2
        obtain ⟨hbind, hor⟩ := hb2
        have he' : e ∈ o.after := by simpa using he
        intro listed hcl hun
        have hne : listed.getD e.on false = false := by
          rcases hor with h | h
          · have := Nat.eq_of_beq_eq_true h
            rw [this]; exact hun
          · exact (ha _ (hasN_true h) listed hcl hun).1
        refine ⟨?_, fun hr => ?_⟩
        · cases hj : listed.getD i false with
          | false => rfl
          | true =>
            have := hcl i o hoj hj e he' hbind
            rw [hne] at this; cases this
        · obtain ⟨_, o', ho', hall⟩ := mem_ready.1 hr
          have : o' = o := Option.some.inj (ho'.symm.trans hoj)
          subst this
          have := hall e he' hbind
          rw [hne] at this; cases this
      · exact ha i hi

theorem commRest_spec {ok : Oper} {bl : List Nat} : ∀ (l : List Oper) (j : Nat), (∀ i, l[i]? = ops[j + i]?) → commRest P ops ok bl j l = true → ∀ i oi, j ≤ i → ops[i]? = some oi → i ∈ bl ∨ commPair P ops ok oi = true
  | [], j, hl, _, i, oi, hji, hoi => by
    have := hl (i - j)
    rw [show j + (i - j) = i by omega, hoi] at this
    simp at this
  | o :: r, j, hl, h, i, oi, hji, hoi => by
    simp only [commRest, Bool.and_eq_true, Bool.or_eq_true] at h
    by_cases hij : i = j
    · subst hij
      have : o = oi := by
        have h0 := hl 0
        rw [Nat.add_zero, hoi] at h0
        simpa using h0
      subst this
      exact h.1.imp hasN_true id
    · exact commRest_spec r (j + 1) (fun i => by have := hl (i + 1); simpa [Nat.add_assoc, Nat.add_comm 1 i] using this) h.2 i oi (by omega) hoi

theorem edgesOk_spec : ∀ (l : List Oper) (k : Nat), (∀ i, l[i]? = ops[k + i]?) → edgesOk md k l = true → ∀ i oi, k ≤ i → ops[i]? = some oi → ∀ e ∈ oi.after, Region.binds md e = true → e.on < i
  | [], j, hl, _, i, oi, hji, hoi => by
    have := hl (i - j)
    rw [show j + (i - j) = i by omega, hoi] at this
    simp at this
  | o :: r, j, hl, h, i, oi, hji, hoi => by
    simp only [edgesOk, Bool.and_eq_true] at h
    by_cases hij : i = j
    · subst hij
      have : o = oi := by
        have h0 := hl 0
        rw [Nat.add_zero, hoi] at h0
        simpa using h0
      subst this
      intro e he hb
      have h1 := List.all_eq_true.1 h.1 e (by simpa using he)
      simp only [hb, Bool.not_true, Bool.false_or, Nat.blt_eq] at h1
      exact h1
    · exact edgesOk_spec r (j + 1) (fun i => by have := hl (i + 1); simpa [Nat.add_assoc, Nat.add_comm 1 i] using this) h.2 i oi (by omega) hoi

/-- Just the first k are listed. -/
structure Upto (ops : Array Oper) (k : Nat) (listed : Array Bool) : Prop where
  size : listed.size = ops.size
  lt : ∀ j, j < k → j < ops.size → listed.getD j false = true
  ge : ∀ j, k ≤ j → j < ops.size → listed.getD j true = false

theorem Upto.set {k : Nat} {listed : Array Bool} (h : Upto ops k listed) (hk : k < ops.size) : Upto ops (k + 1) (listed.setIfInBounds k true) := by
  refine ⟨by simp [h.size], fun j hj hjs => ?_, fun j hj hjs => ?_⟩
  · by_cases hjk : k = j
    · subst hjk
      have : k < listed.size := by rw [h.size]; exact hk
      simp [this]
    · exact getD_set_true (h.lt j (by omega) hjs)
  · rw [getD_set_ne true (by omega)]
    exact h.ge j (by omega) hjs

theorem Upto.closed (he : edgesOk md 0 ops.toList = true) {k : Nat} {listed : Array Bool} (h : Upto ops k listed) : ClosedL md ops listed := by
  intro j oj hj hl e hea hb
  have hlt : j < ops.size := (Array.getElem?_eq_some_iff.1 hj).1
  have := edgesOk_spec ops.toList 0 (by simp) he j oj (by omega) hj e hea hb
  by_cases hjk : j < k
  · exact h.lt _ (by omega) (by omega)
  · have := lt_of_getD_false (h.ge j (by omega) hlt)
    rw [hl] at this; cases this

theorem wpAnyG_lex {Q : Act → World → Prop} (hsel : Region.noSelect ops = true) (he : edgesOk md 0 ops.toList = true) : ∀ (l : List Oper) (k : Nat) (listed : Array Bool) (a : Act) (w : World), (∀ j, l[j]? = ops[k + j]?) → Upto ops k listed →
    commAll P md ops k l = true → wpGl P ops Q l a w → wpAnyG P md ops Q l.length listed a w
  | [], k, listed, a, w, hl, hu, _, h => by
    refine ⟨?_, h⟩
    apply List.eq_nil_iff_forall_not_mem.2
    intro j hj
    obtain ⟨hun, oj, hoj, _⟩ := mem_ready.1 hj
    have hlt : j < ops.size := (Array.getElem?_eq_some_iff.1 hoj).1
    have hjk : j < k := by
      rcases Nat.lt_or_ge j k with h' | h'
      · exact h'
      · have := hl (j - k)
        rw [show k + (j - k) = j by omega, hoj] at this
        simp at this
    have h1 := hu.lt j hjk hlt
    have h2 := lt_of_getD_false hun
    rw [h1] at h2; cases h2
  | o :: l, k, listed, a, w, hl, hu, hB, h => by
    have h0 : ops[k]? = some o := by simpa using (hl 0).symm
    have hlt : k < ops.size := (Array.getElem?_eq_some_iff.1 h0).1
    have hl' : ∀ j, l[j]? = ops[(k + 1) + j]? := fun j => by have := hl (j + 1); simpa [Nat.add_assoc, Nat.add_comm 1 j] using this
    simp only [commAll, Bool.and_eq_true] at hB
    have hr : k ∈ Region.ready md ops listed := mem_ready.2 ⟨hu.ge k (Nat.le_refl _) hlt, o, h0, fun e hea hb => by
      have := edgesOk_spec ops.toList 0 (by simp) he k o (by omega) h0 e hea hb
      exact hu.lt _ this (by omega)⟩
    refine wpAnyG_first hsel h0 l.length listed a w (hu.closed he) (fun j oj hoj hjk hun => ?_) hr ?_
    · have hjlt : j < ops.size := (Array.getElem?_eq_some_iff.1 hoj).1
      have hge : k + 1 ≤ j := by
        rcases Nat.lt_or_ge j k with h' | h'
        · have h1 := hu.lt j h' hjlt
          have h2 := lt_of_getD_false hun
          rw [h1] at h2; cases h2
        · omega
      exact (commRest_spec l (k + 1) hl' hB.1 j oj hge hoj).imp (fun hb => blockedBy_spec l (k + 1) [] hl' (by simp) j hb) id
    · unfold gOp
      rw [h0]
      exact opT_mono (fun v w' hv => wpAnyG_lex hsel he l (k + 1) _ _ _ hl' (hu.set hlt) hB.2 hv) h

theorem wp_region_comm {id : Nat} {Q : Exit → Act → World → Prop} {a : Act} {w : World} (hm : P.follows .mixedOrders = true) (hB : commB P ops = true)
    (h : wpGl P ops (fun a' w' => Q .normal a' w') ops.toList a { w with drawn := w.drawn + 1 }) : (Code.region id ops true).wp P Q a w := by
  simp only [commB, Bool.and_eq_true] at hB
  refine wp_region_any hm (wpAny_of_G (Q := fun a' w' => Q .normal a' w') (fun _ _ h => h) _ _ _ _ ?_)
  have := wpAnyG_lex (P := P) (md := .any) (Q := fun a' w' => Q .normal a' w') hB.1.1 hB.1.2 ops.toList 0 (Array.replicate ops.size false) a { w with drawn := w.drawn + 1 } (by simp)
    ⟨by simp, fun j hj => by omega, fun j _ hj => by simp [hj]⟩ hB.2 h
  simpa using this

end
end Go.Proofs.Ytnkinnhgahpcoaa.Vc
