/-
  THE CONDITION IS SOUND, ELEVENTH PART: regions in the text's order, regions that draw their order, and all code.
  No condition: the theorems hold for every program that follows Go's mixed orders.
-/
import Derived.Test.YtnkinnhgahpcoaaVu
namespace Go.Proofs.Ytnkinnhgahpcoaa.Vc
open Go.RowKit

section
variable {P : Program} {w0 : W0 P} {w : World} {F0 F F1 : Nat → Prop} {M : Nat → Option MO} {σ : St} {a : Act} {o : Oper} {K : St → Prop} {μ : List Nat}
variable {next : Act → World → Prop} {Q : Exit → Act → World → Prop}

theorem EY.wp (h : EY P w0 F0 a w o K) (hn : ∀ σ' F' M' a' w', K σ' → Inv w0 F0 F' M' σ' a' w' → next a' w') : o.wp P a w next Q := by
  obtain ⟨w', σ', F', M', hK, ⟨v, h1, h2⟩ | ⟨h1, h2⟩⟩ := h
  · unfold Oper.wp; rw [h1, Oper.upon_value]; exact hn _ _ _ _ _ hK h2
  · unfold Oper.wp; rw [h1, Oper.upon_skip]; exact hn _ _ _ _ _ hK h2

theorem QS.wp (h : QS P w0 F0 a w o K) (hn : ∀ σ' F' M' a' w', K σ' → Inv w0 F0 F' M' σ' a' w' → next a' w') : o.wp P a w next Q := by
  obtain ⟨v, σ', F', M', hK, h1, h2⟩ := h
  unfold Oper.wp; rw [h2 w (Below.refl _ _), Oper.upon_value]; exact hn _ _ _ _ _ hK h1

theorem CY.wp (h : CY P w0 F0 a w o K) (hn : ∀ σ' F' M' a' w', K σ' → Inv w0 F0 F' M' σ' a' w' → next a' w') : o.wp P a w next Q := by
  obtain ⟨g, vs, h1, h2⟩ := h
  unfold Oper.wp
  rw [h1, Oper.upon_enter]
  refine h2.mono fun e w' ⟨v, σ', F', M', he, hK, hi⟩ => ?_
  subst he
  exact hn _ _ _ _ _ hK hi

/-- An operation that leaves the world alone. -/
theorem wpo_still (h : Inv w0 F0 F M σ a w) (hs : stillOp o.op = true) (hk : wpo P μ o σ K) : QS P w0 F0 a w o K := by
  have rest : wpq P σ o.op (fun d => K (σ.put o.dst d)) → QS P w0 F0 a w o K := fun hq => (wpq_sound h hq).qs h
  unfold wpo at hk
  cases ho : o.op <;> rw [ho] at hs hk <;> simp only [stillOp] at hs <;> first | (cases hs; done) | skip
  case slice t x lo hi mx =>
    dsimp only at hk
    split at hk
    · rename_i i hx
      split at hk
      · exact s_short h ho hx hk
      · exact s_slice h ho hx hk
    · exact rest (by rw [ho]; exact hk)
  case makeFunc fn first cap =>
    cases fn with
    | func g => exact s_make h ho hk
    | _ => exact (show False from hk).elim
  case call c =>
    obtain ⟨callee, args, ats⟩ := c
    cases callee with
    | value f => simp at hs
    | invoke r m => simp at hs
    | builtin b => cases b <;> simp at hs <;> exact rest (by rw [ho]; exact hk)
  all_goals exact rest (by rw [ho]; exact hk)

theorem wpo_sound (h : Inv w0 F0 F M σ a w) (hk : wpo P μ o σ K) (hn : ∀ σ' F' M' a' w', K σ' → Inv w0 F0 F' M' σ' a' w' → next a' w') : o.wp P a w next Q := by
  by_cases hs : stillOp o.op = true
  · exact (wpo_still h hs hk).wp hn
  · have hk0 := hk
    unfold wpo at hk
    cases ho : o.op <;> rw [ho] at hs hk <;> first | (exact (show False from hk).elim) | (simp [stillOp] at hs; done) | skip
    case alloc e => exact (e_alloc h ho hk).wp hn
    case box e x => exact (e_box h ho hk).wp hn
    case buildSlice t len parts => exact (e_buildSlice h ho hk).wp hn
    case store t p x =>
      dsimp only at hk
      split at hk
      · rename_i hd
        exact (e_store h ho hd hk).wp hn
      · exact hk.elim
    case call c =>
      obtain ⟨callee, args, ats⟩ := c
      cases callee with
      | value f =>
        dsimp only at hk
        split at hk
        · rename_i g hf
          split at hk
          · exact (c_call h ho rfl hf hk).wp hn
          · exact hk.elim
        · rename_i g cs hf
          split at hk
          · exact (c_clo h ho rfl hf hk).wp hn
          · exact hk.elim
        · exact hk.elim
      | invoke r m => exact (show False from hk).elim
      | builtin b =>
        cases b <;> first | (exact (show False from hk).elim) | (simp [stillOp] at hs; done) | skip
        case append =>
          dsimp only at hk
          split at hk
          · rename_i s x t t' h1 h2
            split at hk
            · rename_i ys hys
              exact (e_appendS h ho rfl h1 h2 hys hk).wp hn
            · exact (e_append h ho rfl h1 h2 hk).wp hn
          · exact hk.elim

/-! ### Guards -/

theorem guard_bool {ops : Array Oper} {j t : Nat} {x : Bool} (h : Inv w0 F0 F M σ a w) (hg : guardSlot ops.toList j = some t) (hf : find σ.sl t = .val .bool x) : yielded ops a.tmps j = some x ∧ a.tmps.getD t undef = .bool x := by
  have hr := h.slots t
  rw [hf] at hr
  have hv := hr.bool
  refine ⟨?_, hv⟩
  have ht : a.tmps[t]? = some (.bool x) := by
    by_cases hlt : t < a.tmps.size
    · rw [Array.getElem?_eq_getElem hlt]
      simp only [Array.getD, hlt, dif_pos] at hv
      exact congrArg some hv
    · simp only [Array.getD, hlt, dif_neg, not_false_iff, undef] at hv
      cases hv
  have hd : (ops[j]?).bind (·.dst) = some t := by
    unfold guardSlot at hg
    rw [Array.getElem?_toList] at hg
    split at hg
    · rename_i q hq; rw [hq]; exact hg
    · cases hg
  unfold yielded
  rw [hd]
  simp [ht]

theorem guard_und {ops : Array Oper} {j t : Nat} (h : Inv w0 F0 F M σ a w) (hg : guardSlot ops.toList j = some t) (hf : find σ.sl t = .und) : yielded ops a.tmps j = none := by
  have hr := h.slots t
  rw [hf] at hr
  have hv : a.tmps.getD t undef = undef := hr
  have hd : (ops[j]?).bind (·.dst) = some t := by
    unfold guardSlot at hg
    rw [Array.getElem?_toList] at hg
    split at hg
    · rename_i q hq; rw [hq]; exact hg
    · cases hg
  unfold yielded
  rw [hd]
  by_cases hlt : t < a.tmps.size
  · have ht : a.tmps[t]? = some undef := by
      rw [Array.getElem?_eq_getElem hlt]
      simp only [Array.getD, hlt, dif_pos] at hv
      exact congrArg some hv
    simp [ht, undef]
  · have ht : a.tmps[t]? = none := Array.getElem?_eq_none (by omega)
    simp [ht]

theorem Inv.und (h : Inv w0 F0 F M σ a w) (dst : Option Nat) : Inv w0 F0 F M (σ.put dst .und) (a.put dst undef) w := h.put (d := .und) rfl dst

/-- What comes up next: it is wanted or not. -/
inductive Step (P : Program) (μ : List Nat) (ops : Array Oper) (o : Oper) (r : List Oper) (K : St → Prop) (w0 : W0 P) (F0 : Nat → Prop) (a : Act) (w : World) : Prop where
  | run {τ : St} {F2 : Nat → Prop} {M2 : Nat → Option MO} (hi : Inv w0 F0 F2 M2 τ a w) (hw : Region.wanted o (yielded ops a.tmps) = true) (hk : wpo P μ o τ fun σ' => wpr P μ ops.toList r σ' K)
  | skip {τ : St} {F2 : Nat → Prop} {M2 : Nat → Option MO} (hi : Inv w0 F0 F2 M2 τ (a.put o.dst undef) w) (hw : Region.wanted o (yielded ops a.tmps) = false) (hk : wpr P μ ops.toList r τ K)

theorem wpr_step {ops : Array Oper} {r : List Oper} (h : Inv w0 F0 F M σ a w) (hk : wpr P μ ops.toList (o :: r) σ K) : Step P μ ops o r K w0 F0 a w := by
  unfold wpr at hk
  split at hk
  · rename_i hg
    exact .run h (by simp [Region.wanted, hg]) hk
  · rename_i j want hg
    split at hk
    · rename_i t ht
      split at hk
      · rename_i x hf
        obtain ⟨hy, hv⟩ := guard_bool h ht hf
        split at hk
        · cases x with
          | true => exact .run (h.lit hv) (by simp [Region.wanted, hg, hy]) hk
          | false => exact .skip ((h.lit hv).und _) (by simp [Region.wanted, hg, hy]) hk
        · cases x with
          | true => exact .skip ((h.lit hv).und _) (by simp [Region.wanted, hg, hy]) hk
          | false => exact .run (h.lit hv) (by simp [Region.wanted, hg, hy]) hk
      · rename_i hf
        have hy := guard_und h ht hf
        exact .skip (h.und _) (by simp [Region.wanted, hg, hy]) hk
      · exact hk.elim
    · exact hk.elim

/-- A region in the text's order. -/
theorem wpr_sound {ops : Array Oper} : ∀ {l : List Oper} {σ : St} {F : Nat → Prop} {M : Nat → Option MO} {a : Act} {w : World}, Inv w0 F0 F M σ a w → wpr P μ ops.toList l σ K →
    (∀ σ' F' M' a' w', K σ' → Inv w0 F0 F' M' σ' a' w' → Q .normal a' w') → wpList P ops Q l a w
  | [], σ, F, M, a, w, h, hk, hQ => hQ _ _ _ _ _ hk h
  | o :: r, σ, F, M, a, w, h, hk, hQ => by
    unfold wpList
    cases wpr_step h hk with
    | run hi hw hk' =>
      rw [if_pos hw]
      exact .inl (wpo_sound hi hk' fun σ' F' M' a' w' hK hI => wpr_sound hI hK hQ)
    | skip hi hw hk' =>
      rw [if_neg (by rw [hw]; exact Bool.false_ne_true)]
      exact wpr_sound hi hk' hQ

/-! ### A region that draws its order, and leaves the world alone -/

theorem flatCall_spec {op : Op} (h : flatCall P μ op = true) : ∃ g args ats t u, op = .call { callee := .value (.func g), args := args, argTypes := ats } ∧ rtsOf P g = some [t] ∧ tyOf P 6 t = some u ∧ u.flat = true ∧
    (has μ (some (1000000 + g)) = false ∧ has μ (some (2000000 + g)) = false) ∧ has μ (some (4000000 + g)) = false ∧ has μ (some (5000000 + g)) = false := by
  unfold flatCall at h
  split at h
  · rename_i g args ats
    split at h
    · rename_i hm1 hm2
      split at h
      · rename_i t hr
        split at h
        · rename_i u hu; exact ⟨g, args, ats, t, u, rfl, hr, hu, h, Bool.or_eq_false_iff.1 hm1, Bool.or_eq_false_iff.1 hm2⟩
        · cases h
      · cases h
    · cases h
  · cases h

theorem calls_value {f : FuncId} {vs : Array Value} {R : Value → World → Prop} (h : Calls P f vs w fun e w' => ∃ v, e = .returned v ∧ R v w') : ∃ v w', R v w' := by
  obtain ⟨e, w', _, ⟨v, _, hr⟩, _⟩ := h []
  exact ⟨v, w', hr⟩

theorem wpr_quiet {ops : Array Oper} : ∀ {l : List Oper} {σ : St} {F : Nat → Prop} {M : Nat → Option MO} {a : Act}, quietOps P μ l = true → Inv w0 F0 F M σ a w → wpr P μ ops.toList l σ K →
    wpQuiet P ops (fun w' => Below w.heap.size w w') (fun a' => ∃ σ' F' M', K σ' ∧ Inv w0 F0 F' M' σ' a' w) l a
  | [], σ, F, M, a, _, h, hk => ⟨σ, F, M, hk, h⟩
  | o :: r, σ, F, M, a, hq, h, hk => by
    simp only [quietOps, Bool.and_eq_true, Bool.or_eq_true] at hq
    unfold wpQuiet
    cases wpr_step h hk with
    | skip hi hw hk' =>
      rw [if_neg (by rw [hw]; exact Bool.false_ne_true)]
      exact wpr_quiet hq.2 hi hk'
    | @run σ1 F1 M1 hi hw hk' =>
      rw [if_pos hw]
      rcases hq.1 with hs | hfc
      · obtain ⟨v, σ', F', M', hK, hI, hrun⟩ := wpo_still hi hs hk'
        refine ⟨v, fun w' hw' => ?_, wpr_quiet hq.2 hI hK⟩
        unfold Oper.quietAt
        rw [hrun w' hw']
        exact ⟨rfl, rfl⟩
      · obtain ⟨g, args, ats, t, u, ho, hrt, hty, hfl, hm1, hm2⟩ := flatCall_spec hfc
        unfold wpo at hk'
        rw [ho] at hk'
        dsimp only at hk'
        have hev : ev σ1 (.func g) = .fn (.func g) := rfl
        rw [hev] at hk'
        simp only [hrt] at hk'
        have hcd : ∃ x : u.I, Spec P g (snaps σ1.ob (evs σ1 args.toList)) (encV u x) ∧ wpr P μ ops.toList r (σ1.put o.dst (encV u x)) K := by
          unfold callD at hk'
          simp only [hm1.1, hm1.2, hm2.1, hm2.2] at hk'
          unfold callP at hk'
          simp only [hty] at hk'
          cases u with
          | list v => cases hfl
          | int k => exact hk'
          | bool => exact hk'
          | str => exact hk'
          | pair p q =>
            obtain ⟨x, h1, h2⟩ := hk'
            rw [hfl] at h2
            exact ⟨x, h1, h2⟩
        obtain ⟨x, hs, hK⟩ := hcd
        have calls : ∀ w', Below w.heap.size w w' → Calls P g (args.map a.eval) w' fun e w'' => ∃ v, e = .returned v ∧ ((∃ F', R1 w'' F' noM v (encV u x)) ∧ Below w.heap.size w w'') := fun w' hb => by
          have hi' := hi.grow hb
          refine (hs.2 w' (args.map a.eval) (allF F1 M1) (allF_lt hi') (hi'.glb.imp fun _ hg => Or.inl hg) (by rw [snaps_len, evs_len]; simp) fun i d' hdi => ?_).mono fun e w'' ⟨v, F', G, he, hb', _, _, _, hr⟩ => ?_
          · obtain ⟨v, h1, h2⟩ := args_all hi' args.toList i d' hdi
            exact ⟨v, by simpa using h1, h2⟩
          · exact ⟨v, he, ⟨F', encV_RR hr⟩, hb.trans (hb'.mono hb.size)⟩
        obtain ⟨v0, w1, ⟨F2, hv0⟩, _⟩ := calls_value (calls w (Below.refl _ _))
        refine ⟨v0, fun w' hw' => ?_, wpr_quiet hq.2 (hi.put (R.of1 (hv0.flat hfl)) o.dst) hK⟩
        unfold Oper.quietAt
        rw [run_call hi ho rfl rfl hs w']
        refine ⟨rfl, (calls w' hw').mono fun e w'' ⟨v, he, ⟨F', hr⟩, hb⟩ => ⟨?_, hb⟩⟩
        rw [he, hr.flat_uniq hv0 hfl]

/-! ### A region that draws its order, at whose end something is written -/

/-- What an operation does that is not still. -/
def GY (P : Program) (w0 : W0 P) (F0 : Nat → Prop) (a : Act) (w : World) (o : Oper) (K : St → Prop) : Prop :=
  match (execOp a.eval o).run P w with
  | .ok (.value v) w' => ∃ σ' F' M', K σ' ∧ Inv w0 F0 F' M' σ' (a.put o.dst v) w'
  | .ok .skip w' => ∃ σ' F' M', K σ' ∧ Inv w0 F0 F' M' σ' (a.put o.dst undef) w'
  | .ok (.enter f args) w' => Calls P f args w' fun e w'' => ∃ v, e = .returned v ∧ ∃ σ' F' M', K σ' ∧ Inv w0 F0 F' M' σ' (a.put o.dst v) w''
  | _ => False

theorem EY.gy (h : EY P w0 F0 a w o K) : GY P w0 F0 a w o K := by
  obtain ⟨w', σ', F', M', hK, ⟨v, h1, h2⟩ | ⟨h1, h2⟩⟩ := h
  · unfold GY; rw [h1]; exact ⟨σ', F', M', hK, h2⟩
  · unfold GY; rw [h1]; exact ⟨σ', F', M', hK, h2⟩

theorem CY.gy (h : CY P w0 F0 a w o K) : GY P w0 F0 a w o K := by
  obtain ⟨g, vs, h1, h2⟩ := h
  unfold GY; rw [h1]
  exact h2.mono fun e w' ⟨v, σ', F', M', he, hK, hi⟩ => ⟨v, he, σ', F', M', hK, hi⟩

theorem wpo_gy (h : Inv w0 F0 F M σ a w) (hs : stillOp o.op = false) (hk : wpo P μ o σ K) : GY P w0 F0 a w o K := by
  unfold wpo at hk
  cases ho : o.op <;> rw [ho] at hs hk <;> first | (exact (show False from hk).elim) | (simp [stillOp] at hs; done) | skip
  case alloc e => exact (e_alloc h ho hk).gy
  case box e x => exact (e_box h ho hk).gy
  case buildSlice t len parts => exact (e_buildSlice h ho hk).gy
  case store t p x =>
    dsimp only at hk
    split at hk
    · rename_i hd
      exact (e_store h ho hd hk).gy
    · exact hk.elim
  case call c =>
    obtain ⟨callee, args, ats⟩ := c
    cases callee with
    | value f =>
      dsimp only at hk
      split at hk
      · rename_i g hf
        split at hk
        · exact (c_call h ho rfl hf hk).gy
        · exact hk.elim
      · rename_i g cs hf
        split at hk
        · exact (c_clo h ho rfl hf hk).gy
        · exact hk.elim
      · exact hk.elim
    | invoke r m => exact (show False from hk).elim
    | builtin b =>
      cases b <;> first | (exact (show False from hk).elim) | (simp [stillOp] at hs; done) | skip
      case append =>
        dsimp only at hk
        split at hk
        · rename_i s x t t' h1 h2
          split at hk
          · rename_i ys hys
            exact (e_appendS h ho rfl h1 h2 hys hk).gy
          · exact (e_append h ho rfl h1 h2 hk).gy
        · exact hk.elim


theorem wpr_G {ops : Array Oper} : ∀ {l : List Oper} {σ : St} {F : Nat → Prop} {M : Nat → Option MO} {a : Act} {w : World}, Inv w0 F0 F M σ a w → wpr P μ ops.toList l σ K →
    wpGl P ops (fun a' w' => ∃ σ' F' M', K σ' ∧ Inv w0 F0 F' M' σ' a' w') l a w
  | [], σ, F, M, a, w, h, hk => ⟨σ, F, M, hk, h⟩
  | o :: r, σ, F, M, a, w, h, hk => by
    unfold wpGl opT
    cases wpr_step h hk with
    | skip hi hw hk' =>
      rw [hw]
      exact wpr_G hi hk'
    | @run σ1 F1 M1 hi hw hk' =>
      rw [hw]
      dsimp only
      cases hs : stillOp o.op with
      | true =>
        obtain ⟨v, σ', F', M', hK, hI, hrun⟩ := wpo_still hi hs hk'
        exact ⟨v, hrun w (Below.refl _ _), wpr_G hI hK⟩
      | false =>
        have hg := wpo_gy hi hs hk'
        unfold GY at hg
        dsimp only
        generalize (execOp a.eval o).run P w = r' at *
        cases r' with
        | ok n w' =>
          cases n <;> simp only at hg ⊢
          case value v => obtain ⟨σ', F', M', hK, hI⟩ := hg; exact wpr_G hI hK
          case skip => obtain ⟨σ', F', M', hK, hI⟩ := hg; exact wpr_G hI hK
          case enter f args => exact hg.mono fun e w'' ⟨v, he, σ', F', M', hK, hI⟩ => ⟨v, he, wpr_G hI hK⟩
        | halt x w' => simp only at hg

theorem wp_drawn {id : Nat} {ops : Array Oper} (hm : P.follows .mixedOrders = true) (h : Inv w0 F0 F M σ a w) (hd : drawOk P μ ops = true) (hk : wpr P μ ops.toList ops.toList σ K)
    (hQ : ∀ σ' F' M' a' w', K σ' → Inv w0 F0 F' M' σ' a' w' → Q .normal a' w') : (Code.region id ops true).wp P Q a w := by
  unfold drawOk at hd
  simp only [Bool.or_eq_true, Bool.and_eq_true] at hd
  rcases hd with ⟨hq, hB⟩ | hT
  · refine wp_region_quiet (C := fun w' => Below w.heap.size w w') hm hB ((Below.refl _ _).drew) ?_
    have := wpr_quiet hq h hk
    have mono : ∀ (l : List Oper) (a : Act), wpQuiet P ops (fun w' => Below w.heap.size w w') (fun a' => ∃ σ' F' M', K σ' ∧ Inv w0 F0 F' M' σ' a' w) l a →
        wpQuiet P ops (fun w' => Below w.heap.size w w') (fun a' => ∀ w', Below w.heap.size w w' → Q .normal a' w') l a := by
      intro l
      induction l with
      | nil => intro a ⟨σ', F', M', hK, hI⟩ w' hb; exact hQ _ _ _ _ _ hK (hI.grow hb)
      | cons o r ih =>
        intro a hh
        unfold wpQuiet at hh ⊢
        split
        · rename_i hw
          rw [if_pos hw] at hh
          exact Oper.quiet_mono ih hh
        · rename_i hw
          rw [if_neg hw] at hh
          exact ih _ hh
    exact mono _ _ this
  · have hdrew : Inv w0 F0 F M σ a { w with drawn := w.drawn + 1 } := h.grow (Below.refl _ _).drew
    refine wp_region_comm hm hT ?_
    have mono : ∀ (l : List Oper) (a : Act) (w : World), wpGl P ops (fun a' w' => ∃ σ' F' M', K σ' ∧ Inv w0 F0 F' M' σ' a' w') l a w → wpGl P ops (fun a' w' => Q .normal a' w') l a w := by
      intro l
      induction l with
      | nil => intro a w ⟨σ', F', M', hK, hI⟩; exact hQ _ _ _ _ _ hK hI
      | cons o r ih => intro a w hh; exact opT_mono (fun v w' => ih _ _) hh
    exact mono _ _ _ (wpr_G hdrew hk)

/-! ### Every order by itself -/

/-- What is done, as a list and as an array. -/
structure Dn (ops : Array Oper) (done : List Nat) (listed : Array Bool) : Prop where
  size : listed.size = ops.size
  eq : ∀ j, j < ops.size → listed.getD j true = hasN j done

theorem Dn.lo {ops : Array Oper} {done : List Nat} {listed : Array Bool} (h : Dn ops done listed) {j : Nat} (hj : j < ops.size) : listed.getD j false = hasN j done := by
  have := h.eq j hj
  have hl : j < listed.size := by rw [h.size]; exact hj
  simpa [hl] using this
theorem Dn.set {ops : Array Oper} {done : List Nat} {listed : Array Bool} (h : Dn ops done listed) {k : Nat} (hk : k < ops.size) : Dn ops (k :: done) (listed.setIfInBounds k true) where
  size := by simp [h.size]
  eq := fun j hj => by
    have hl : k < listed.size := by rw [h.size]; exact hk
    by_cases hjk : k = j
    · subst hjk
      simp [hasN, hl]
    · rw [getD_set_ne true hjk, h.eq j hj]
      have : Nat.beq j k = false := by
        cases hb : Nat.beq j k with
        | false => rfl
        | true => exact absurd (Nat.eq_of_beq_eq_true hb).symm hjk
      simp [hasN, this]

theorem rdyL_spec {md : Region.Mode} {ops : Array Oper} {done : List Nat} {listed : Array Bool} (hd : Dn ops done listed) (he : edgesOk md 0 ops.toList = true) : ∀ (l : List Oper) (j : Nat), (∀ i, l[i]? = ops[j + i]?) → ∀ i, i ∈ rdyL md done j l ↔ j ≤ i ∧ i ∈ Region.ready md ops listed
  | [], j, hl, i => by
    constructor
    · intro h; cases h
    · rintro ⟨hji, hi⟩
      obtain ⟨_, o, ho, _⟩ := mem_ready.1 hi
      have := hl (i - j)
      rw [show j + (i - j) = i by omega, ho] at this
      simp at this
  | o :: r, j, hl, i => by
    have h0 : ops[j]? = some o := by simpa using (hl 0).symm
    have hlt : j < ops.size := (Array.getElem?_eq_some_iff.1 h0).1
    have ih := rdyL_spec hd he r (j + 1) (fun i => by have := hl (i + 1); simpa [Nat.add_assoc, Nat.add_comm 1 i] using this) i
    have hready : j ∈ Region.ready md ops listed ↔ (!hasN j done && o.after.toList.all (fun e => !Region.binds md e || hasN e.on done)) = true := by
      rw [mem_ready, hd.eq j hlt]
      simp only [h0, Option.some.injEq, exists_eq_left', Bool.and_eq_true, Bool.not_eq_true', List.all_eq_true, Bool.or_eq_true]
      constructor
      · rintro ⟨h1, h2⟩
        refine ⟨h1, fun e hme => ?_⟩
        have hme' : e ∈ o.after := Array.mem_toList_iff.1 hme
        cases hb : Region.binds md e with
        | false => exact .inl rfl
        | true =>
          right
          have := edgesOk_spec ops.toList 0 (by simp) he j o (by omega) h0 e hme' hb
          rw [← hd.lo (by omega)]; exact h2 e hme' hb
      · rintro ⟨h1, h2⟩
        refine ⟨h1, fun e hme hb => ?_⟩
        rcases h2 e (Array.mem_toList_iff.2 hme) with h3 | h3
        · rw [hb] at h3; cases h3
        · have := edgesOk_spec ops.toList 0 (by simp) he j o (by omega) h0 e hme hb
          rw [hd.lo (by omega)]; exact h3
    unfold rdyL
    cases hc : (!hasN j done && o.after.toList.all (fun e => !Region.binds md e || hasN e.on done)) with
    | true =>
      simp only [cond_true, List.mem_cons]
      rw [ih]
      constructor
      · rintro (rfl | ⟨h1, h2⟩)
        · exact ⟨Nat.le_refl _, hready.2 hc⟩
        · exact ⟨by omega, h2⟩
      · rintro ⟨h1, h2⟩
        by_cases hij : i = j
        · exact .inl hij
        · exact .inr ⟨by omega, h2⟩
    | false =>
      simp only [cond_false]
      rw [ih]
      constructor
      · rintro ⟨h1, h2⟩; exact ⟨by omega, h2⟩
      · rintro ⟨h1, h2⟩
        refine ⟨?_, h2⟩
        rcases Nat.lt_or_eq_of_le h1 with h3 | h3
        · exact h3
        · subst h3; rw [hready.1 h2] at hc; cases hc

theorem restOk_spec {ops : Array Oper} {done bl : List Nat} {k : Nat} {ok : Oper} : ∀ (l : List Oper) (j : Nat), (∀ i, l[i]? = ops[j + i]?) → restOk P ops done bl k ok j l = true →
    ∀ i oi, j ≤ i → ops[i]? = some oi → hasN i done = true ∨ i = k ∨ i ∈ bl ∨ commPair P ops ok oi = true
  | [], j, hl, _, i, oi, hji, hoi => by
    have := hl (i - j)
    rw [show j + (i - j) = i by omega, hoi] at this
    simp at this
  | o :: r, j, hl, h, i, oi, hji, hoi => by
    simp only [restOk, Bool.and_eq_true, Bool.or_eq_true] at h
    by_cases hij : i = j
    · subst hij
      have : o = oi := by
        have h0 := hl 0
        rw [Nat.add_zero, hoi] at h0
        simpa using h0
      subst this
      rcases h.1 with h1 | h1 | h1 | h1
      · exact .inl h1
      · exact .inr (.inl (Nat.eq_of_beq_eq_true h1))
      · exact .inr (.inr (.inl (hasN_true h1)))
      · exact .inr (.inr (.inr h1))
    · exact restOk_spec r (j + 1) (fun i => by have := hl (i + 1); simpa [Nat.add_assoc, Nat.add_comm 1 i] using this) h.2 i oi (by omega) hoi

theorem pickF_spec {md : Region.Mode} {ops : Array Oper} {done : List Nat} : ∀ {l : List Nat} {k : Nat}, pickF P md ops done l = some k → k ∈ l ∧ firstOk P md ops done k = true
  | i :: r, k, h => by
    unfold pickF at h
    cases hf : firstOk P md ops done i with
    | true =>
      rw [hf] at h
      have : i = k := by simpa using h
      subst this
      exact ⟨List.mem_cons_self, hf⟩
    | false =>
      rw [hf] at h
      obtain ⟨h1, h2⟩ := pickF_spec (l := r) h
      exact ⟨List.mem_cons_of_mem _ h1, h2⟩

theorem allA_spec {step : Nat → Prop} : ∀ {l : List Nat}, allA step l → ∀ i ∈ l, step i
  | [i], h, j, hj => by
    have : j = i := by simpa using hj
    subst this; exact h
  | i :: k :: r, h, j, hj => by
    rcases List.mem_cons.1 hj with rfl | hj
    · exact h.1 trivial
    · exact allA_spec (l := k :: r) h.2 j hj

theorem stepA_G {ops : Array Oper} {k : Nat} {K : St → Prop} {Q : Act → World → Prop} (h : Inv w0 F0 F M σ a w) (hk : stepA P μ ops k σ K) (hQ : ∀ σ' F' M' a' w', K σ' → Inv w0 F0 F' M' σ' a' w' → Q a' w') : gOp P ops k Q a w := by
  unfold stepA at hk
  split at hk
  · rename_i o r hd
    have ho : ops[k]? = some o := by
      have := congrArg List.head? hd
      rw [List.head?_drop] at this
      simpa using this
    have hG := wpr_G h hk
    unfold gOp
    rw [ho]
    exact opT_mono (fun v w' ⟨σ', F', M', hK, hI⟩ => hQ _ _ _ _ _ hK hI) hG
  · exact hk.elim

theorem wprA_G {ops : Array Oper} (hsel : Region.noSelect ops = true) (he : edgesOk .any 0 ops.toList = true) {K : St → Prop} {Q : Act → World → Prop} (hQ : ∀ σ' F' M' a' w', K σ' → Inv w0 F0 F' M' σ' a' w' → Q a' w') :
    ∀ (f : Nat) (done : List Nat) (listed : Array Bool) (σ : St) (F : Nat → Prop) (M : Nat → Option MO) (a : Act) (w : World), Dn ops done listed → ClosedL .any ops listed → Inv w0 F0 F M σ a w → wprA P μ ops f done σ K → wpAnyG P .any ops Q f listed a w
  | 0, done, listed, σ, F, M, a, w, hd, hcl, hI, hk => by
    unfold wprA at hk
    have hr := rdyL_spec hd he ops.toList 0 (by simp)
    split at hk
    · rename_i hnil
      refine ⟨List.eq_nil_iff_forall_not_mem.2 fun i hi => ?_, hQ _ _ _ _ _ hk hI⟩
      have := (hr i).2 ⟨Nat.zero_le _, hi⟩
      rw [hnil] at this; cases this
    · exact hk.elim
  | f + 1, done, listed, σ, F, M, a, w, hd, hcl, hI, hk => by
    unfold wprA at hk
    have hr := rdyL_spec hd he ops.toList 0 (by simp)
    split at hk
    · rename_i hnil
      have hno : ∀ i, i ∉ Region.ready .any ops listed := fun i hi => by
        have := (hr i).2 ⟨Nat.zero_le _, hi⟩
        rw [hnil] at this; cases this
      exact ⟨fun _ => hQ _ _ _ _ _ hk hI, fun i hi => absurd hi (hno i)⟩
    · rename_i i0 r hcons
      have hstep : ∀ k, k ∈ Region.ready .any ops listed → stepA P μ ops k σ (fun σ' => wprA P μ ops f (k :: done) σ' K) → gOp P ops k (wpAnyG P .any ops Q f (listed.setIfInBounds k true)) a w := fun k hkr hs => by
        obtain ⟨_, ok, hok, _⟩ := mem_ready.1 hkr
        have hklt : k < ops.size := (Array.getElem?_eq_some_iff.1 hok).1
        exact stepA_G hI hs fun σ' F' M' a' w' hK' hI' => wprA_G hsel he hQ f (k :: done) _ σ' F' M' a' w' (hd.set hklt) (hcl.set hkr) hI' hK'
      split at hk
      · rename_i k hp
        obtain ⟨hkm, hfo⟩ := pickF_spec hp
        have hkr := ((hr k).1 (by rw [hcons]; exact hkm)).2
        obtain ⟨hkun, ok, hok, _⟩ := mem_ready.1 hkr
        refine wpAnyG_first hsel hok f listed a w hcl (fun j oj hoj hjk hun => ?_) hkr (hstep k hkr hk)
        have hjlt : j < ops.size := (Array.getElem?_eq_some_iff.1 hoj).1
        unfold firstOk at hfo
        split at hfo
        · rename_i ok' r' hdr
          have e1 : ok' = ok := by
            have := congrArg List.head? hdr
            rw [List.head?_drop] at this
            have h2 : ops[k]? = some ok' := by simpa using this
            rw [hok] at h2; exact (Option.some.inj h2).symm
          subst e1
          have hl' : ∀ i, r'[i]? = ops[(k + 1) + i]? := fun i => by
            have : (ops.toList.drop k)[i + 1]? = (ok' :: r')[i + 1]? := by rw [hdr]
            rw [List.getElem?_drop, List.getElem?_cons_succ] at this
            rw [← this, show k + (i + 1) = k + 1 + i by omega]; simp
          rcases restOk_spec ops.toList 0 (by simp) hfo j oj (Nat.zero_le _) hoj with h1 | h1 | h1 | h1
          · rw [hd.eq j hjlt, h1] at hun; cases hun
          · exact absurd h1 hjk
          · exact .inl (blockedBy_spec r' (k + 1) [] hl' (by simp) j h1)
          · exact .inr h1
        · cases hfo
      · refine ⟨fun h0 => ?_, fun i hi => hstep i hi (allA_spec hk i (by rw [← hcons]; exact (hr i).2 ⟨Nat.zero_le _, hi⟩))⟩
        have := ((hr i0).1 (by rw [hcons]; exact List.mem_cons_self)).2
        rw [h0] at this; cases this

theorem wp_any {id : Nat} {ops : Array Oper} (hm : P.follows .mixedOrders = true) (h : Inv w0 F0 F M σ a w) (ha : anyOk ops = true) (hk : wprA P μ ops ops.size [] σ K)
    (hQ : ∀ σ' F' M' a' w', K σ' → Inv w0 F0 F' M' σ' a' w' → Q .normal a' w') : (Code.region id ops true).wp P Q a w := by
  simp only [anyOk, Bool.and_eq_true] at ha
  have hdrew : Inv w0 F0 F M σ a { w with drawn := w.drawn + 1 } := h.grow (Below.refl _ _).drew
  refine wp_region_any hm (wpAny_of_G (Q := fun a' w' => Q .normal a' w') (fun _ _ h => h) _ _ _ _ ?_)
  refine wprA_G ha.1 ha.2 hQ ops.size [] (Array.replicate ops.size false) σ F M a _ ⟨by simp, fun j hj => by simp [hj, hasN]⟩ (fun j oj hj hl => ?_) hdrew hk
  have hlt : j < ops.size := (Array.getElem?_eq_some_iff.1 hj).1
  simp [hlt] at hl

end
end Go.Proofs.Ytnkinnhgahpcoaa.Vc
