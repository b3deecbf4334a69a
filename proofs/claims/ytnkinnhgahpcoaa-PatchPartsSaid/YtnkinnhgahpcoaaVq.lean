/-
  THE CONDITION IS SOUND, SECOND PART: the operations that make one value and leave the world as it was.
  No condition: the lemmas hold for every program.
-/
import Derived.Test.YtnkinnhgahpcoaaVs
namespace Go.Proofs.Ytnkinnhgahpcoaa.Vc
open Go.RowKit

section
variable {P : Program} {w0 : W0 P} {w : World} {F0 F : Nat → Prop} {M : Nat → Option MO} {σ : St} {a : Act}

/-- An object's block, and what is new: the call goes on. -/
theorem Inv.putOb {w' : World} (h : Inv w0 F0 F M σ a w) (hb : Below w.heap.size w w') (d : Nat) (o : Ob) (p : D) (mo : MO) (v : Value)
    (hg : ∀ g, mo.g = some g → w.heap.size ≤ g ∧ g < w'.heap.size)
    (ho : ∀ M', M' d = some mo → MLe (dropM M d) M' → ObR w' F M' w0.nw mo o)
    (hp : ∀ M', M' d = some mo → MLe (dropM M d) M' → R w' F M' v p) (hpin : o.pin = false := by rfl) : ∃ M', Inv w0 F0 F M' (σ.putOb d o p) (a.put (some d) v) w' := by
  have h1 := (h.kill d).grow hb
  have hM : MLe (dropM M d) (fun j => if j = d then some mo else dropM M d j) := fun i m hi => by
    have := (dropM_some hi).1
    simp only [this, if_false]; exact hi
  have hinv : Inv w0 F0 F (fun j => if j = d then some mo else dropM M d j) { σ.kill d with ob := (d, o) :: (σ.kill d).ob } a w' := by
    refine ⟨h1.defers, h1.size, fun i => (h1.slots i).keep (fun _ _ => rfl) (fun _ x => x) hM, fun j o' ho' => ?_, fun i j mi mj g hi hj hgi hgj => ?_, fun i mi g hi hgi => ?_, h1.flt, h1.fle, h1.below, fun j o' ho' hpo => ?_⟩
    · change findOb ((d, o) :: (σ.kill d).ob) j = some o' at ho'
      simp only [findOb] at ho'
      rcases beq_cases j d with ⟨rfl, hbq⟩ | ⟨hne, hbq⟩
      · rw [hbq] at ho'
        have : o = o' := Option.some.inj ho'
        subst this
        exact ⟨mo, by simp, ho _ (by simp) hM⟩
      · rw [hbq] at ho'
        obtain ⟨m, h2, h3⟩ := h1.obs j o' ho'
        exact ⟨m, by simp only [hne, if_false]; exact h2, h3.keep (fun _ _ => rfl) (fun _ x => x) hM fun _ _ => rfl⟩
    · have hlt : ∀ k mk g, (if k = d then some mo else dropM M d k) = some mk → mk.g = some g → (k = d ∧ w.heap.size ≤ g) ∨ (k ≠ d ∧ g < w.heap.size ∧ dropM M d k = some mk) := by
        intro k mk g hk hgk
        by_cases hkd : k = d
        · simp only [hkd, if_true] at hk
          have : mo = mk := Option.some.inj hk
          subst this
          exact .inl ⟨hkd, (hg g hgk).1⟩
        · simp only [hkd, if_false] at hk
          exact .inr ⟨hkd, (h.mine _ _ _ (dropM_some hk).2 hgk).2.2, hk⟩
      rcases hlt i mi g hi hgi with ⟨h2, h3⟩ | ⟨h2, h3, h4⟩ <;> rcases hlt j mj g hj hgj with ⟨h5, h6⟩ | ⟨h5, h6, h7⟩
      · rw [h2, h5]
      · omega
      · omega
      · exact h1.apart i j mi mj g h4 h7 hgi hgj
    · by_cases hid : i = d
      · simp only [hid, if_true] at hi
        have : mo = mi := Option.some.inj hi
        subst this
        obtain ⟨h2, h3⟩ := hg g hgi
        exact ⟨fun hc => by have := (h.flt g hc).1; omega, h.below.new (by omega), h3⟩
      · simp only [hid, if_false] at hi
        exact h1.mine i mi g hi hgi
    · change findOb ((d, o) :: (σ.kill d).ob) j = some o' at ho'
      simp only [findOb] at ho'
      rcases beq_cases j d with ⟨rfl, hbq⟩ | ⟨hne, hbq⟩
      · rw [hbq] at ho'
        have : o = o' := Option.some.inj ho'
        subst this
        rw [hpin] at hpo; cases hpo
      · rw [hbq] at ho'
        have := h1.pins j o' ho' hpo
        simp only [hne, if_false]; exact this
  exact ⟨_, hinv.put (hp _ (by simp) hM) (some d)⟩

theorem R0.ofVal (v : Value) : R0 w F M v (ofVal v) := by
  unfold Vc.ofVal
  split
  · exact rfl
  · exact rfl
  · exact ⟨_, rfl, rfl⟩
  · exact ⟨none, rfl⟩
  · exact rfl
  · exact trivial

theorem Inv.ev (h : Inv w0 F0 F M σ a w) (x : Operand) : R w F M (a.eval x) (ev σ x) := by
  cases x with
  | tmp t => exact h.slots t
  | const v => exact R.of0 (R0.ofVal v)
  | global g => exact trivial
  | func f => exact rfl

theorem R.int {k : IntKind} {n : Int} {v : Value} (h : R w F M v (.val (.int k) n)) : v = .int k n := by
  have h : [v] = [Value.int k n] := h
  simpa using h
theorem R.bool {b : Bool} {v : Value} (h : R w F M v (.val .bool b)) : v = .bool b := by
  have h : [v] = [Value.bool b] := h
  simpa using h
theorem R.str {l : List UInt8} {v : Value} (h : R w F M v (.val .str l)) : ∃ s : ByteArray, v = .string s ∧ s.data.toList = l := by
  obtain ⟨s, h1, h2⟩ := h
  exact ⟨s, by simpa using h1, h2⟩
theorem R.list {t : Ty} {xs : List t.I} {v : Value} (h : R w F M v (.val (.list t) xs)) : ∃ A c, v = .slice A xs.length c ∧ xs.length ≤ c ∧ c ≤ maxLen ∧
    ∀ (i : Nat) x, xs[i]? = some x → ∃ a us, A = some a ∧ F a.block ∧ RV w F t x us ∧ Reads w (a.add (i * t.width)) us := by
  obtain ⟨A, c, h1, h2⟩ := h
  exact ⟨A, c, by simpa using h1, h2⟩

/-- What a quiet operation does: one value, in this world and in every later one. -/
def Yields (P : Program) (F : Nat → Prop) (M : Nat → Option MO) (w : World) (s : Sem Value) (K : D → Prop) : Prop :=
  ∃ v d, K d ∧ R w F M v d ∧ ∀ w', Below w.heap.size w w' → s.run P w' = .ok v w'

theorem Yields.pure {v : Value} {d : D} {K : D → Prop} (hK : K d) (hr : R w F M v d) : Yields P F M w (Pure.pure v) K := ⟨v, d, hK, hr, fun _ _ => rfl⟩

theorem Yields.of_eq {s s' : Sem Value} {K : D → Prop} (h : Yields P F M w s' K) (he : ∀ w', Below w.heap.size w w' → s.run P w' = s'.run P w') : Yields P F M w s K := by
  obtain ⟨v, d, h1, h2, h3⟩ := h
  exact ⟨v, d, h1, h2, fun w' hb => (he w' hb).trans (h3 w' hb)⟩

theorem isAgg_run {t : TypeId} {b : Bool} (h : isAggT P t = some b) (w' : World) : (isAgg t).run P w' = .ok b w' ∧ ∃ i, P.info? t = some i ∧ sizeT P t = i.size := by
  unfold isAggT at h
  cases hu : P.underlying t with
  | none => rw [hu] at h; cases h
  | some d =>
    refine ⟨?_, ?_⟩
    · unfold isAgg
      rw [Sem.run_bind, run_underlying hu w']
      rw [hu] at h
      cases d <;> simp_all
    · unfold Program.underlying at hu
      cases hi : P.info? t with
      | none => simp [hi] at hu
      | some i => exact ⟨i, rfl, by unfold sizeT; rw [hi]⟩

/-- A variable is loaded: from an address on the cells are these. -/
theorem loadD_sound {t : TypeId} {cs : List D} {K : D → Prop} (hk : loadD P t cs K) (p : Addr) (hp : p.block < w.heap.size)
    (hc : ∀ (j : Nat) c, cs[j]? = some c → ∃ u, w.cell? (p.add j) = some u ∧ u.oneCell' = true ∧ R0 w F M u c) : Yields P F M w (loadVar t p) K := by
  have hcell : ∀ w', Below w.heap.size w w' → ∀ j, w'.cell? (p.add j) = w.cell? (p.add j) := fun w' hb j => hb.cell (by rw [add_block]; exact hp)
  unfold loadD at hk
  cases hagg : isAggT P t with
  | none => rw [hagg] at hk; exact hk.elim
  | some b =>
  cases b with
  | true =>
    rw [hagg] at hk
    have hk' : (bif Nat.ble (sizeT P t) cs.length then K (.agg (cs.take (sizeT P t))) else False) := hk
    cases hble : Nat.ble (sizeT P t) cs.length with
    | false => rw [hble] at hk'; exact hk'.elim
    | true =>
      rw [hble] at hk'
      have hle : sizeT P t ≤ cs.length := by simpa using hble
      have hall : ∀ j, j < sizeT P t → ∃ u, w.cell? (p.add j) = some u ∧ u.oneCell' = true ∧ R0 w F M u (cs.getD j .bad) := fun j hj => by
        have := hc j (cs.getD j .bad) (by simp [List.getD, List.getElem?_eq_getElem (show j < cs.length by omega)])
        exact this
      have : ∃ f : Nat → Value, ∀ j, j < sizeT P t → w.cell? (p.add j) = some (f j) ∧ (f j).oneCell' = true ∧ R0 w F M (f j) (cs.getD j .bad) := by
        refine ⟨fun j => (w.cell? (p.add j)).getD undef, fun j hj => ?_⟩
        obtain ⟨u, h1, h2, h3⟩ := hall j hj
        have e : (w.cell? (p.add j)).getD undef = u := by rw [h1]; rfl
        show w.cell? (p.add j) = some ((w.cell? (p.add j)).getD undef) ∧ ((w.cell? (p.add j)).getD undef).oneCell' = true ∧ R0 w F M ((w.cell? (p.add j)).getD undef) (cs.getD j .bad)
        rw [e]
        exact ⟨h1, h2, h3⟩
      obtain ⟨f, hf⟩ := this
      refine ⟨.agg ((List.range (sizeT P t)).map f).toArray, _, hk', ⟨_, rfl, by simp; omega, fun j c hj => ?_⟩, fun w' hb => ?_⟩
      · rw [List.getElem?_take] at hj
        split at hj
        · rename_i hlt
          refine ⟨f j, by simp [hlt], (hf j hlt).2.1, ?_⟩
          have := (hf j hlt).2.2
          simpa [List.getD, hj] using this
        · cases hj
      · obtain ⟨hag, i, hi, hi2⟩ := isAgg_run hagg w'
        have hl := run_loadCells (P := P) w' p i.size f (fun j hj => by rw [hcell w' hb]; exact (hf j (by omega)).1)
        simp [loadVar, hag, sizeOf, typeInfo, hi, hl, hi2]
  | false =>
    rw [hagg] at hk
    cases cs with
    | nil => exact hk.elim
    | cons c r =>
      obtain ⟨u, h1, h2, h3⟩ := hc 0 c rfl
      refine ⟨u, c, hk, R.of0 h3, fun w' hb => ?_⟩
      obtain ⟨hag, _⟩ := isAgg_run hagg w'
      have h0 := hcell w' hb 0
      have : p.add 0 = p := by simp [Addr.add]
      rw [this] at h0 h1
      simp [loadVar, hag, h0, h1]

theorem enc_len : ∀ (t : Ty) (x : t.I), (enc t x).length = t.width
  | .int _, _ => rfl
  | .bool, _ => rfl
  | .str, _ => rfl
  | .list _, _ => rfl
  | .pair a b, x => by simp [enc, enc_len a x.1, enc_len b x.2, Ty.width]

theorem enc_reads : ∀ {t : Ty} {x : t.I} {us : List Value}, RV w F t x us → ∀ (j : Nat) c, (enc t x)[j]? = some c → ∃ u, us[j]? = some u ∧ RE w F u c
  | .int k, x, us, h, j, c, hj => by
    have h' : us = [Value.int k x] := h
    subst h'
    cases j with
    | zero => simp only [enc, List.getElem?_cons_zero, Option.some.injEq] at hj; subst hj; exact ⟨_, rfl, rfl⟩
    | succ j => simp [enc] at hj
  | .bool, x, us, h, j, c, hj => by
    have h' : us = [Value.bool x] := h
    subst h'
    cases j with
    | zero => simp only [enc, List.getElem?_cons_zero, Option.some.injEq] at hj; subst hj; exact ⟨_, rfl, rfl⟩
    | succ j => simp [enc] at hj
  | .str, x, us, h, j, c, hj => by
    obtain ⟨s, rfl, h2⟩ := h
    cases j with
    | zero => simp only [enc, List.getElem?_cons_zero, Option.some.injEq] at hj; subst hj; exact ⟨_, rfl, s, rfl, h2⟩
    | succ j => simp [enc] at hj
  | .list t, x, us, h, j, c, hj => by
    obtain ⟨A, c', rfl, h2⟩ := h
    cases j with
    | zero => simp only [enc, List.getElem?_cons_zero, Option.some.injEq] at hj; subst hj; exact ⟨_, rfl, A, c', rfl, h2⟩
    | succ j => simp [enc] at hj
  | .pair a b, x, us, h, j, c, hj => by
    obtain ⟨c1, c2, rfl, h1, h2⟩ := h
    simp only [enc] at hj
    have hl : (enc a x.1).length = c1.length := by rw [enc_len, h1.len]
    rcases Nat.lt_or_ge j (enc a x.1).length with hlt | hge
    · rw [List.getElem?_append_left hlt] at hj
      obtain ⟨u, h3, h4⟩ := enc_reads h1 j c hj
      exact ⟨u, by rw [List.getElem?_append_left (by omega)]; exact h3, h4⟩
    · rw [List.getElem?_append_right hge] at hj
      obtain ⟨u, h3, h4⟩ := enc_reads h2 _ c hj
      exact ⟨u, by rw [List.getElem?_append_right (by omega)]; rw [← hl]; exact h3, h4⟩

theorem RE.to0 {u : Value} {c : D} (h : RE w F u c) : R0 w F M u c := by
  cases c <;> simp only [RE] at h
  case val => exact h
  case ept =>
    obtain ⟨a, us, h1, h2, h3, h4, h5⟩ := h
    refine ⟨a, us, h1, h2, h3, h4, fun j c hj => ?_⟩
    obtain ⟨u', h6, h7⟩ := h5 j c hj
    exact ⟨u', h6, h7.toE⟩

/-- What a quiet operation does. -/
def QY (P : Program) (F : Nat → Prop) (M : Nat → Option MO) (a : Act) (w : World) (o : Oper) (K : D → Prop) : Prop :=
  ∃ v d, K d ∧ R w F M v d ∧ ∀ w', Below w.heap.size w w' → (execOp a.eval o).run P w' = .ok (.value v) w'

theorem Yields.qy {s : Sem Value} {K : D → Prop} {o : Oper} (h : Yields P F M w s K) (he : execOp a.eval o = (do let v ← s; Pure.pure (Next.value v))) : QY P F M a w o K := by
  obtain ⟨v, d, h1, h2, h3⟩ := h
  exact ⟨v, d, h1, h2, fun w' hb => by rw [he, Sem.run_bind, h3 w' hb]; rfl⟩

variable {o : Oper} {K : D → Prop}

theorem q_move (h : Inv w0 F0 F M σ a w) {x : Operand} (ho : o.op = .move x) (hk : K (ev σ x)) : QY P F M a w o K :=
  ⟨_, _, hk, h.ev x, fun _ _ => by unfold execOp; rw [ho]; rfl⟩
theorem q_assign (h : Inv w0 F0 F M σ a w) {x : Operand} (ho : o.op = .assign x) (hk : K (ev σ x)) : QY P F M a w o K :=
  ⟨_, _, hk, h.ev x, fun _ _ => by unfold execOp; rw [ho]; rfl⟩

theorem q_pick (h : Inv w0 F0 F M σ a w) {c x y : Operand} (ho : o.op = .pick c x y) (hk : wpq P σ (.pick c x y) K) : QY P F M a w o K := by
  unfold wpq at hk
  dsimp only at hk
  split at hk
  · rename_i b hb
    have hc := h.ev c
    rw [hb] at hc
    have hc := hc.bool
    cases b with
    | true => exact ⟨_, _, hk, h.ev x, fun _ _ => by unfold execOp; rw [ho]; simp [hc, asBool]⟩
    | false => exact ⟨_, _, hk, h.ev y, fun _ _ => by unfold execOp; rw [ho]; simp [hc, asBool]⟩
  · exact hk.elim

theorem q_nilCheck (h : Inv w0 F0 F M σ a w) {x : Operand} (ho : o.op = .nilCheck x) (hk : wpq P σ (.nilCheck x) K) : QY P F M a w o K := by
  unfold wpq at hk
  dsimp only at hk
  have hx := h.ev x
  split at hk <;> rename_i hb <;> first | exact hk.elim | skip
  · rw [hb] at hx
    obtain ⟨mo, g, h1, h2, h3⟩ := id hx
    exact ⟨_, _, hk, hx, fun _ _ => by unfold execOp; rw [ho]; simp [h3]⟩
  · rw [hb] at hx
    obtain ⟨mo, g, h1, h2, h3⟩ := id hx
    exact ⟨_, _, hk, hx, fun _ _ => by unfold execOp; rw [ho]; simp [h3]⟩
  · rw [hb] at hx
    obtain ⟨mo, g, h1, h2, h3⟩ := id hx
    exact ⟨_, _, hk, hx, fun _ _ => by unfold execOp; rw [ho]; simp [h3]⟩
  · rw [hb] at hx
    obtain ⟨ad, us, h1, h2⟩ := id hx
    exact ⟨_, _, hk, hx, fun _ _ => by unfold execOp; rw [ho]; simp [h1]⟩

theorem atI_get {t : Ty} {xs : List t.I} {i : Int} (h : inR i xs.length) : xs[i.toNat]? = some (atI t xs i) := by
  obtain ⟨h1, h2⟩ := h
  have : i.toNat < xs.length := by omega
  simp [atI, List.getD, List.getElem?_eq_getElem this]

/-- The cells of an object from an offset on. -/
theorem ob_cells (h : Inv w0 F0 F M σ a w) {i : Nat} {pn : Bool} {t : TypeId} {cs : List D} (hf : findOb σ.ob i = some (.cells pn t cs)) {mo : MO} {g : Nat} (hm : M i = some mo) (hg : mo.g = some g) (off : Nat) :
    g < w.heap.size ∧ ∀ (j : Nat) c, (cs.drop off)[j]? = some c → ∃ u, w.cell? ((⟨g, off, none⟩ : Addr).add j) = some u ∧ u.oneCell' = true ∧ R0 w F M u c := by
  obtain ⟨mo', h1, g', us, h2, h3, h4, h5⟩ := h.obs i _ hf
  have : mo' = mo := Option.some.inj (h1.symm.trans hm)
  subst this
  have : g' = g := Option.some.inj (h2.symm.trans hg)
  subst this
  refine ⟨(h.mine _ _ _ hm hg).2.2, fun j c hj => ?_⟩
  rw [List.getElem?_drop] at hj
  obtain ⟨u, h6, h7, h8⟩ := h5 _ c hj
  exact ⟨u, by rw [add_lit, cell_of_row w g' _ us t (0, 0) h3]; exact h6, h7, h8⟩

theorem holds_cells {g : Nat} {us : Array Value} {ty : TypeId} {t : Ty} {xs : List t.I} (hg : w.heap[g]? = some (.cells us ty (0, 0))) (hh : Holds w F t xs us.toList) {i : Int} (hi : inR i xs.length) (off : Nat) :
    ∀ (j : Nat) c, ((enc t (atI t xs i)).drop off)[j]? = some c → ∃ u, w.cell? ((⟨g, i.toNat * t.width + off, none⟩ : Addr).add j) = some u ∧ u.oneCell' = true ∧ R0 w F M u c := by
  intro j c hj
  have hr := hh i.toNat _ (atI_get hi)
  rw [List.getElem?_drop] at hj
  obtain ⟨u, h1, h2⟩ := enc_reads hr _ c hj
  refine ⟨u, ?_, hr.one u (List.mem_of_getElem? h1), h2.to0⟩
  rw [List.getElem?_take] at h1
  split at h1
  · rw [List.getElem?_drop] at h1
    rw [add_lit, cell_of_row w g _ us ty (0, 0) hg]
    rw [show i.toNat * t.width + off + j = i.toNat * t.width + (off + j) by omega]
    simpa using h1
  · cases h1

theorem q_load (h : Inv w0 F0 F M σ a w) {t : TypeId} {x : Operand} (ho : o.op = .load t x) (hk : wpq P σ (.load t x) K) : QY P F M a w o K := by
  unfold wpq at hk
  dsimp only at hk
  have hx := h.ev x
  have key : ∀ p : Addr, a.eval x = .pointer (some p) → Yields P F M w (loadVar t p) K → QY P F M a w o K := fun p hp hy =>
    hy.qy (by unfold execOp; rw [ho]; simp only [hp, Instr.loadAt, Instr.sureAddr]; rfl)
  split at hk <;> rename_i hb <;> first | exact hk.elim | skip
  · rw [hb] at hx
    obtain ⟨ad, us, h1, h2, h3, h4, h5⟩ := hx
    refine key ad h1 (loadD_sound hk ad (h.flt _ h2).1 fun j c hj => ?_)
    obtain ⟨u, h6, h7⟩ := h5 j c hj
    obtain ⟨h8, h9⟩ := h3 j u h6
    exact ⟨u, h8, h9, h7.to0⟩
  · rw [hb] at hx
    obtain ⟨mo, g, h1, h2, h3⟩ := hx
    split at hk
    · rename_i cs hf
      obtain ⟨h4, h5⟩ := ob_cells h hf h1 h2 _
      exact key _ h3 (loadD_sound hk _ h4 h5)
    · exact hk.elim
  · rw [hb] at hx
    obtain ⟨mo, g, h1, h2, h3⟩ := hx
    split at hk
    · rename_i e u xs hf
      obtain ⟨mo', h4, h5, h6⟩ := h.obs _ _ hf
      have : mo' = mo := Option.some.inj (h4.symm.trans h1)
      subst this
      rcases h6 with ⟨h7, h8, _⟩ | ⟨g', cap, us, h7, _, h9, h10, h11, h12, h13, h14⟩
      · rw [h8] at h2; cases h2
      · have : g' = g := Option.some.inj (h7.symm.trans h2)
        subst this
        rw [h5] at h3
        exact key _ h3 (loadD_sound hk.2 _ (h.mine _ _ _ h1 h2).2.2 (holds_cells h10 h14 hk.1 _))
    · rename_i u xs hf
      obtain ⟨mo', h4, g', us, ty, h5, h6, h7, h8, h9⟩ := h.obs _ _ hf
      have : mo' = mo := Option.some.inj (h4.symm.trans h1)
      subst this
      have : g' = g := Option.some.inj (h5.symm.trans h2)
      subst this
      rw [h6] at h3
      exact key _ h3 (loadD_sound hk.2 _ (h.mine _ _ _ h1 h2).2.2 (holds_cells h7 h9 hk.1 _))
    · exact hk.elim

theorem fieldOff_spec {s : TypeId} {f o : Nat} {t : TypeId} (h : fieldOff P s f = some (o, t)) :
    ∃ fs fd, P.underlying s = some (.struct fs) ∧ fs[f]? = some fd ∧ fd.offset = o ∧ fd.type = t ∧ ∃ i, P.info? t = some i ∧ i.size ≠ 0 := by
  unfold fieldOff at h
  split at h
  · rename_i fs hu
    split at h
    · rename_i fd hf
      rcases beq_cases (sizeT P fd.type) 0 with ⟨_, hb⟩ | ⟨hne, hb⟩
      · rw [hb] at h; cases h
      · rw [hb] at h
        have h' : some (fd.offset, fd.type) = some (o, t) := h
        simp only [Option.some.injEq, Prod.mk.injEq] at h'
        obtain ⟨rfl, rfl⟩ := h'
        refine ⟨fs, fd, hu, hf, rfl, rfl, ?_⟩
        unfold sizeT at hne
        split at hne
        · rename_i i hi; exact ⟨i, hi, hne⟩
        · exact absurd rfl hne
    · cases h
  · cases h

theorem run_fieldAt {s : TypeId} {f off : Nat} {t : TypeId} (h : fieldOff P s f = some (off, t)) (p : Addr) (w' : World) :
    (Instr.fieldAt s (.pointer (some p)) f).run P w' = .ok (.pointer (some (p.add off))) w' := by
  obtain ⟨fs, fd, h1, h2, rfl, rfl, i, h3, h4⟩ := fieldOff_spec h
  simp [Instr.fieldAt, run_underlying h1, h2, Instr.sureAddr, fieldPlace, sizeOf, typeInfo, h3, h4]

theorem q_fieldAddr (h : Inv w0 F0 F M σ a w) {s : TypeId} {x : Operand} {f : Nat} (ho : o.op = .fieldAddr s x f) (hk : wpq P σ (.fieldAddr s x f) K) : QY P F M a w o K := by
  unfold wpq at hk
  dsimp only at hk
  have hx := h.ev x
  split at hk
  · rename_i off t hf
    have key : ∀ (p : Addr) (d : D), a.eval x = .pointer (some p) → K d → R w F M (.pointer (some (p.add off))) d → QY P F M a w o K := fun p d hp hd hr =>
      ⟨_, d, hd, hr, fun w' _ => by unfold execOp; rw [ho]; simp [hp, run_fieldAt hf p w']⟩
    split at hk <;> rename_i hb <;> first | exact hk.elim | skip
    · rw [hb] at hx
      obtain ⟨ad, us, h1, h2, h3, h4, h5⟩ := hx
      refine key ad _ h1 hk ⟨_, us.drop off, rfl, by rw [add_block]; exact h2, fun j u hj => ?_, by simp [h4], fun j c hj => ?_⟩
      · rw [List.getElem?_drop] at hj
        rw [add_add]; exact h3 _ u hj
      · rw [List.getElem?_drop] at hj
        obtain ⟨u, h6, h7⟩ := h5 _ c hj
        exact ⟨u, by rw [List.getElem?_drop]; exact h6, h7⟩
    · rw [hb] at hx
      obtain ⟨mo, g, h1, h2, h3⟩ := hx
      exact key _ _ h3 hk ⟨mo, g, h1, h2, by rw [add_lit]⟩
    · rw [hb] at hx
      obtain ⟨mo, g, h1, h2, h3⟩ := hx
      exact key _ _ h3 hk ⟨mo, g, h1, h2, by rw [add_lit, Nat.add_assoc]⟩
  · exact hk.elim

theorem q_field (h : Inv w0 F0 F M σ a w) {s : TypeId} {x : Operand} {f : Nat} (ho : o.op = .field s x f) (hk : wpq P σ (.field s x f) K) : QY P F M a w o K := by
  unfold wpq at hk
  dsimp only at hk
  have hx := h.ev x
  split at hk
  · rename_i off t hf
    obtain ⟨fs, fd, h1, h2, rfl, rfl, i, h3, h4⟩ := fieldOff_spec hf
    split at hk
    · rename_i cs hb
      rw [hb] at hx
      obtain ⟨us, hv, h5, h6⟩ := hx
      cases hagg : isAggT P fd.type with
      | none => rw [hagg] at hk; exact hk.elim
      | some b =>
        rw [hagg] at hk
        cases b with
        | true =>
          have hk' : (bif Nat.ble (fd.offset + sizeT P fd.type) cs.length then K (.agg ((cs.drop fd.offset).take (sizeT P fd.type))) else False) := hk
          cases hble : Nat.ble (fd.offset + sizeT P fd.type) cs.length with
          | false => rw [hble] at hk'; exact hk'.elim
          | true =>
            rw [hble] at hk'
            have hle : fd.offset + sizeT P fd.type ≤ cs.length := by simpa using hble
            refine ⟨.agg (us.extract fd.offset (fd.offset + sizeT P fd.type)), _, hk', ⟨_, rfl, by simp; omega, fun j c hj => ?_⟩, fun w' hb' => ?_⟩
            · rw [List.getElem?_take] at hj
              split at hj
              · rename_i hlt
                rw [List.getElem?_drop] at hj
                obtain ⟨u, h7, h8, h9⟩ := h6 _ c hj
                refine ⟨u, ?_, h8, h9⟩
                rw [Array.getElem?_extract]
                rw [if_pos (by omega)]
                exact h7
              · cases hj
            · obtain ⟨hag, i', hi', hsz⟩ := isAgg_run hagg w'
              have : i' = i := Option.some.inj (hi'.symm.trans h3)
              subst this
              unfold execOp; rw [ho]
              simp [hv, Instr.field, run_underlying h1, h2, part, hag, sizeOf, typeInfo, hi', asAgg, hsz]
        | false =>
          cases hd : cs.drop fd.offset with
          | nil => rw [hd] at hk; exact hk.elim
          | cons c r =>
            rw [hd] at hk
            have hc : cs[fd.offset]? = some c := by
              have : (cs.drop fd.offset)[0]? = some c := by rw [hd]; rfl
              rw [List.getElem?_drop] at this
              simpa using this
            obtain ⟨u, h7, h8, h9⟩ := h6 _ c hc
            refine ⟨u, c, hk, R.of0 h9, fun w' hb' => ?_⟩
            obtain ⟨hag, _⟩ := isAgg_run hagg w'
            unfold execOp; rw [ho]
            simp [hv, Instr.field, run_underlying h1, h2, part, hag, asAgg, h7]
    · exact hk.elim
  · exact hk.elim

theorem run_asIntOf (k : IntKind) (n : Int) (w' : World) : (asIntOf (.int k n)).run P w' = .ok (k, n) w' := rfl

theorem size_spec {e : TypeId} {n : Nat} (h : Nat.beq (sizeT P e) n = true) (hn : 0 < n) : ∃ i, P.info? e = some i ∧ i.size = n := by
  have h := Nat.eq_of_beq_eq_true h
  unfold sizeT at h
  split at h
  · rename_i i hi; exact ⟨i, hi, h⟩
  · omega

theorem width_pos : ∀ t : Ty, 0 < t.width
  | .int _ => Nat.one_pos
  | .bool => Nat.one_pos
  | .str => Nat.one_pos
  | .list _ => Nat.one_pos
  | .pair a b => by have := width_pos a; simp only [Ty.width]; omega

theorem q_indexAddr (h : Inv w0 F0 F M σ a w) {t : TypeId} {x ix : Operand} (ho : o.op = .indexAddr t x ix) (hk : wpq P σ (.indexAddr t x ix) K) : QY P F M a w o K := by
  unfold wpq at hk
  dsimp only at hk
  have hx := h.ev x
  have hix := h.ev ix
  split at hk
  · rename_i k i hb
    rw [hb] at hix
    have hi := hix.int
    split at hk
    · rename_i e u xs hu hb2
      rw [hb2] at hx
      obtain ⟨A, c, h1, h2, h3, h4⟩ := hx.list
      obtain ⟨hin, hk⟩ := hk
      cases hbq : Nat.beq (sizeT P e) u.width with
      | false => rw [hbq] at hk; exact hk.elim
      | true =>
        rw [hbq] at hk
        obtain ⟨inf, hinf, hsz⟩ := size_spec hbq (width_pos u)
        obtain ⟨ad, us, rfl, h5, h6, h7⟩ := h4 _ _ (atI_get hin)
        refine ⟨.pointer (some (ad.add (i.toNat * u.width))), _, hk, ⟨_, us, rfl, by rw [add_block]; exact h5, h7, by rw [h6.len, enc_len], enc_reads h6⟩, fun w' _ => ?_⟩
        unfold execOp; rw [ho]
        have hlt : 0 ≤ i ∧ i < (xs.length : Int) := hin
        simp [h1, hi, Instr.indexAt, run_asIntOf, run_underlying hu, sizeOf, typeInfo, hinf, hsz, hlt]
    · rename_i e id hu hb2
      rw [hb2] at hx
      obtain ⟨mo, h1, h2, _⟩ := hx
      split at hk
      · rename_i e' u xs hf
        obtain ⟨hin, hk⟩ := hk
        cases hbq : Nat.beq (sizeT P e) u.width with
        | false => rw [hbq] at hk; exact hk.elim
        | true =>
          rw [hbq] at hk
          obtain ⟨inf, hinf, hsz⟩ := size_spec hbq (width_pos u)
          obtain ⟨mo', h3, h4, h5⟩ := h.obs _ _ hf
          have : mo' = mo := Option.some.inj (h3.symm.trans h1)
          subst this
          rcases h5 with ⟨h6, _⟩ | ⟨g, cap, us, h6, _, h7, h8, h9, _⟩
          · subst h6; obtain ⟨h7, h8⟩ := hin; simp at h8; omega
          · refine ⟨.pointer (some ⟨g, i.toNat * u.width + 0, none⟩), _, hk, ⟨mo', g, h1, h6, by rw [h4]⟩, fun w' _ => ?_⟩
            have hlt : 0 ≤ i ∧ i < (xs.length : Int) := hin
            unfold execOp; rw [ho]
            simp [h2, h7, hi, Instr.indexAt, run_asIntOf, run_underlying hu, sizeOf, typeInfo, hinf, hsz, hlt, add_lit]
      · exact hk.elim
    · rename_i n e id hu hb2
      rw [hb2] at hx
      obtain ⟨mo, g, h1, h2, h3⟩ := hx
      split at hk
      · rename_i u xs hf
        obtain ⟨hin, hlen, hk⟩ := hk
        cases hbq : Nat.beq (sizeT P e) u.width with
        | false => rw [hbq] at hk; exact hk.elim
        | true =>
          rw [hbq] at hk
          obtain ⟨inf, hinf, hsz⟩ := size_spec hbq (width_pos u)
          obtain ⟨mo', h4, g', us, ty, h5, h6, _⟩ := h.obs _ _ hf
          have : mo' = mo := Option.some.inj (h4.symm.trans h1)
          subst this
          refine ⟨.pointer (some ⟨g, i.toNat * u.width + 0, none⟩), _, hk, ⟨mo', g, h1, h2, by rw [h6]⟩, fun w' _ => ?_⟩
          have hlt : 0 ≤ i ∧ i < (n : Int) := hin
          unfold execOp; rw [ho]
          simp [h3, hi, Instr.indexAt, run_asIntOf, run_underlying hu, sizeOf, typeInfo, hinf, hsz, hlt, add_lit, Instr.sureAddr]
      · exact hk.elim
    · exact hk.elim
  · exact hk.elim

theorem isStr_spec {t : TypeId} (h : isStrT P t = true) : P.underlying t = some .string := by
  unfold isStrT at h
  split at h
  · assumption
  · cases h
theorem elem_spec {t e : TypeId} (h : elemT P t = some e) : P.underlying t = some (.slice e) := by
  unfold elemT at h
  split at h
  · rename_i e' hu; rw [hu]; simpa using h
  · cases h

theorem ba_get (s : ByteArray) (i : Nat) : s[i]? = s.data.toList[i]? := by
  rw [Array.getElem?_toList]; rfl

theorem q_index (h : Inv w0 F0 F M σ a w) {t : TypeId} {x ix : Operand} (ho : o.op = .index t x ix) (hk : wpq P σ (.index t x ix) K) : QY P F M a w o K := by
  unfold wpq at hk
  dsimp only at hk
  have hx := h.ev x
  have hix := h.ev ix
  split at hk
  · rename_i l k i hst hb hb2
    rw [hb] at hx
    rw [hb2] at hix
    have hi := hix.int
    obtain ⟨s, h1, rfl⟩ := hx.str
    obtain ⟨hin, hk⟩ := hk
    have hlt : i.toNat < s.data.toList.length := by have := hin.1; have := hin.2; omega
    refine ⟨.int .u8 (byteAt s.data.toList i), _, hk, rfl, fun w' _ => ?_⟩
    have hg : s[i.toNat]? = some (s.data.toList.getD i.toNat 0) := by
      rw [ba_get, List.getElem?_eq_getElem hlt]; simp [List.getD, List.getElem?_eq_getElem hlt]
    have h0 : 0 ≤ i := hin.1
    unfold execOp; rw [ho]
    simp [h1, hi, Instr.index, run_asIntOf, run_underlying (isStr_spec hst), h0, hg, byteAt]
  · exact hk.elim

end
end Go.Proofs.Ytnkinnhgahpcoaa.Vc
