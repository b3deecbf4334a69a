/-
  THE CONDITION IS SOUND, ELEVENTH PART: regions in the text's order, regions that draw their order, and all code.
  No condition: the theorems hold for every program that follows Go's mixed orders.
-/
import Derived.Test.YtojcdimaeiibdaaVu
namespace Go.Proofs.Ytojcdimaeiibdaa.Vc
open Go.RowKit

section
variable {P : Program} {w0 : W0 P} {w : World} {F0 F F1 : Nat → Prop} {M : Nat → Option MO} {σ : St} {a : Act} {o : Oper} {K : St → Prop} {μ : List Nat}
variable {next : Act → World → Prop} {Q : Exit → Act → World → Prop}

theorem EY.wp (h : EY P w0 F0 a w o K) (hn : ∀ σ' F' M' a' w', K σ' → Inv w0 F0 F' M' σ' a' w' → next a' w') : o.wp P a w next Q := by
  obtain ⟨w', σ', F', M', hK, ⟨v, h1, h2⟩ | ⟨h1, h2⟩⟩ := h
  · unfold Oper.wp; rw [h1, Oper.upon_value]; exact hn _ _ _ _ _ hK h2
  · unfold Oper.wp; rw [h1, Oper.upon_skip]; exact hn _ _ _ _ _ hK h2

theorem QS.wp (h : QS P w0 F0 a w o K) (hn : ∀ σ' F' M' a' w', K σ' → Inv w0 F0 F' M' σ' a' w' → next a' w') : o.wp P a w next Q := by
  obtain ⟨v, σ', F', M', hK, h1, h2⟩ := h
  unfold Oper.wp; rw [h2 w (Below.refl _ _), Oper.upon_value]; exact hn _ _ _ _ _ hK h1

theorem CY.wp (h : CY P w0 F0 a w o K) (hn : ∀ σ' F' M' a' w', K σ' → Inv w0 F0 F' M' σ' a' w' → next a' w') : o.wp P a w next Q := by
  obtain ⟨g, vs, h1, h2⟩ := h
  unfold Oper.wp
  rw [h1, Oper.upon_enter]
  refine h2.mono fun e w' ⟨v, σ', F', M', he, hK, hi⟩ => ?_
  subst he
  exact hn _ _ _ _ _ hK hi

/-- An operation that leaves the world alone. -/
theorem wpo_still (h : Inv w0 F0 F M σ a w) (hs : stillOp o.op = true) (hk : wpo P μ o σ K) : QS P w0 F0 a w o K := by
  have rest : wpq P σ o.op (fun d => K (σ.put o.dst d)) → QS P w0 F0 a w o K := fun hq => (wpq_sound h hq).qs h
  unfold wpo at hk
  cases ho : o.op <;> rw [ho] at hs hk <;> simp only [stillOp] at hs <;> first | (cases hs; done) | skip
  case slice t x lo hi mx =>
    dsimp only at hk
    split at hk
    · rename_i i hx
      split at hk
      · exact s_short h ho hx hk
      · exact s_slice h ho hx hk
    · exact rest (by rw [ho]; exact hk)
  case makeFunc fn first cap =>
    cases fn with
    | func g => exact s_make h ho hk
    | _ => exact (show False from hk).elim
  case call c =>
    obtain ⟨callee, args, ats⟩ := c
    cases callee with
    | value f => simp at hs
    | invoke r m => simp at hs
    | builtin b => cases b <;> simp at hs <;> exact rest (by rw [ho]; exact hk)
  all_goals exact rest (by rw [ho]; exact hk)

theorem wpo_sound (h : Inv w0 F0 F M σ a w) (hk : wpo P μ o σ K) (hn : ∀ σ' F' M' a' w', K σ' → Inv w0 F0 F' M' σ' a' w' → next a' w') : o.wp P a w next Q := by
  by_cases hs : stillOp o.op = true
  · exact (wpo_still h hs hk).wp hn
  · have hk0 := hk
    unfold wpo at hk
    cases ho : o.op <;> rw [ho] at hs hk <;> first | (exact (show False from hk).elim) | (simp [stillOp] at hs; done) | skip
    case alloc e => exact (e_alloc h ho hk).wp hn
    case box e x => exact (e_box h ho hk).wp hn
    case buildSlice t len parts => exact (e_buildSlice h ho hk).wp hn
    case store t p x =>
      dsimp only at hk
      split at hk
      · rename_i hd
        exact (e_store h ho hd hk).wp hn
      · exact hk.elim
    case call c =>
      obtain ⟨callee, args, ats⟩ := c
      cases callee with
      | value f =>
        dsimp only at hk
        split at hk
        · rename_i g hf
          split at hk
          · exact (c_call h ho rfl hf hk).wp hn
          · exact hk.elim
        · rename_i g cs hf
          split at hk
          · exact (c_clo h ho rfl hf hk).wp hn
          · exact hk.elim
        · exact hk.elim
      | invoke r m => exact (show False from hk).elim
      | builtin b =>
        cases b <;> first | (exact (show False from hk).elim) | (simp [stillOp] at hs; done) | skip
        case append =>
          dsimp only at hk
          split at hk
          · rename_i s x t t' h1 h2
            split at hk
            · rename_i ys hys
              exact (e_appendS h ho rfl h1 h2 hys hk).wp hn
            · exact (e_append h ho rfl h1 h2 hk).wp hn
          · exact hk.elim

/-! ### Guards -/

theorem guard_bool {ops : Array Oper} {j t : Nat} {x : Bool} (h : Inv w0 F0 F M σ a w) (hg : guardSlot ops.toList j = some t) (hf : find σ.sl t = .val .bool x) : yielded ops a.tmps j = some x ∧ a.tmps.getD t undef = .bool x := by
  have hr := h.slots t
  rw [hf] at hr
  have hv := hr.bool
  refine ⟨?_, hv⟩
  have ht : a.tmps[t]? = some (.bool x) := by
    by_cases hlt : t < a.tmps.size
    · rw [Array.getElem?_eq_getElem hlt]
      simp only [Array.getD, hlt, dif_pos] at hv
      exact congrArg some hv
    · simp only [Array.getD, hlt, dif_neg, not_false_iff, undef] at hv
      cases hv
  have hd : (ops[j]?).bind (·.dst) = some t := by
    unfold guardSlot at hg
    rw [Array.getElem?_toList] at hg
    split at hg
    · rename_i q hq; rw [hq]; exact hg
    · cases hg
  unfold yielded
  rw [hd]
  simp [ht]

theorem guard_und {ops : Array Oper} {j t : Nat} (h : Inv w0 F0 F M σ a w) (hg : guardSlot ops.toList j = some t) (hf : find σ.sl t = .und) : yielded ops a.tmps j = none := by
  have hr := h.slots t
  rw [hf] at hr
  have hv : a.tmps.getD t undef = undef := hr
  have hd : (ops[j]?).bind (·.dst) = some t := by
    unfold guardSlot at hg
    rw [Array.getElem?_toList] at hg
    split at hg
    · rename_i q hq; rw [hq]; exact hg
    · cases hg
  unfold yielded
  rw [hd]
  by_cases hlt : t < a.tmps.size
  · have ht : a.tmps[t]? = some undef := by
      rw [Array.getElem?_eq_getElem hlt]
      simp only [Array.getD, hlt, dif_pos] at hv
      exact congrArg some hv
    simp [ht, undef]
  · have ht : a.tmps[t]? = none := Array.getElem?_eq_none (by omega)
    simp [ht]

theorem Inv.und (h : Inv w0 F0 F M σ a w) (dst : Option Nat) : Inv w0 F0 F M (σ.put dst .und) (a.put dst undef) w := h.put (d := .und) rfl dst

/-- What comes up next: it is wanted or not. -/
inductive Step (P : Program) (μ : List Nat) (ops : Array Oper) (o : Oper) (r : List Oper) (K : St → Prop) (w0 : W0 P) (F0 : Nat → Prop) (a : Act) (w : World) : Prop where
  | run {τ : St} {F2 : Nat → Prop} {M2 : Nat → Option MO} (hi : Inv w0 F0 F2 M2 τ a w) (hw : Region.wanted o (yielded ops a.tmps) = true) (hk : wpo P μ o τ fun σ' => wpr P μ ops.toList r σ' K)
  | skip {τ : St} {F2 : Nat → Prop} {M2 : Nat → Option MO} (hi : Inv w0 F0 F2 M2 τ (a.put o.dst undef) w) (hw : Region.wanted o (yielded ops a.tmps) = false) (hk : wpr P μ ops.toList r τ K)

theorem wpr_step {ops : Array Oper} {r : List Oper} (h : Inv w0 F0 F M σ a w) (hk : wpr P μ ops.toList (o :: r) σ K) : Step P μ ops o r K w0 F0 a w := by
  unfold wpr at hk
  split at hk
  · rename_i hg
    exact .run h (by simp [Region.wanted, hg]) hk
  · rename_i j want hg
    split at hk
    · rename_i t ht
      split at hk
      · rename_i x hf
        obtain ⟨hy, hv⟩ := guard_bool h ht hf
        split at hk
        · cases x with
          | true => exact .run (h.lit hv) (by simp [Region.wanted, hg, hy]) hk
          | false => exact .skip ((h.lit hv).und _) (by simp [Region.wanted, hg, hy]) hk
        · cases x with
          | true => exact .skip ((h.lit hv).und _) (by simp [Region.wanted, hg, hy]) hk
          | false => exact .run (h.lit hv) (by simp [Region.wanted, hg, hy]) hk
      · rename_i hf
        have hy := guard_und h ht hf
        exact .skip (h.und _) (by simp [Region.wanted, hg, hy]) hk
      · exact hk.elim
    · exact hk.elim

/-- A region in the text's order. -/
theorem wpr_sound {ops : Array Oper} : ∀ {l : List Oper} {σ : St} {F : Nat → Prop} {M : Nat → Option MO} {a : Act} {w : World}, Inv w0 F0 F M σ a w → wpr P μ ops.toList l σ K →
    (∀ σ' F' M' a' w', K σ' → Inv w0 F0 F' M' σ' a' w' → Q .normal a' w') → wpList P ops Q l a w
  | [], σ, F, M, a, w, h, hk, hQ => hQ _ _ _ _ _ hk h
  | o :: r, σ, F, M, a, w, h, hk, hQ => by
    unfold wpList
    cases wpr_step h hk with
    | run hi hw hk' =>
      rw [if_pos hw]
      exact .inl (wpo_sound hi hk' fun σ' F' M' a' w' hK hI => wpr_sound hI hK hQ)
    | skip hi hw hk' =>
      rw [if_neg (by rw [hw]; exact Bool.false_ne_true)]
      exact wpr_sound hi hk' hQ

/-! ### A region that draws its order, and leaves the world alone -/

theorem flatCall_spec {op : Op} (h : flatCall P μ op = true) : ∃ g args ats t u, op = .call { callee := .value (.func g), args := args, argTypes := ats } ∧ rtsOf P g = some [t] ∧ tyOf P 6 t = some u ∧ u.flat = true ∧
    (has μ (some (1000000 + g)) = false ∧ has μ (some (2000000 + g)) = false) ∧ has μ (some (4000000 + g)) = false ∧ has μ (some (5000000 + g)) = false := by
  unfold flatCall at h
  split at h
  · rename_i g args ats
    split at h
    · rename_i hm1 hm2
      split at h
      · rename_i t hr
        split at h
        · rename_i u hu; exact ⟨g, args, ats, t, u, rfl, hr, hu, h, Bool.or_eq_false_iff.1 hm1, Bool.or_eq_false_iff.1 hm2⟩
        · cases h
      · cases h
    · cases h
  · cases h

theorem calls_value {f : FuncId} {vs : Array Value} {R : Value → World → Prop} (h : Calls P f vs w fun e w' => ∃ v, e = .returned v ∧ R v w') : ∃ v w', R v w' := by
  obtain ⟨e, w', _, ⟨v, _, hr⟩, _⟩ := h []
  exact ⟨v, w', hr⟩

theorem wpr_quiet {ops : Array Oper} : ∀ {l : List Oper} {σ : St} {F : Nat → Prop} {M : Nat → Option MO} {a : Act}, quietOps P μ l = true → Inv w0 F0 F M σ a w → wpr P μ ops.toList l σ K →
    wpQuiet P ops (fun w' => Below w.heap.size w w') (fun a' => ∃ σ' F' M', K σ' ∧ Inv w0 F0 F' M' σ' a' w) l a
  | [], σ, F, M, a, _, h, hk => ⟨σ, F, M, hk, h⟩
  | o :: r, σ, F, M, a, hq, h, hk => by
    simp only [quietOps, Bool.and_eq_true, Bool.or_eq_true] at hq
    unfold wpQuiet
    cases wpr_step h hk with
    | skip hi hw hk' =>
      rw [if_neg (by rw [hw]; exact Bool.false_ne_true)]
      exact wpr_quiet hq.2 hi hk'
    | @run σ1 F1 M1 hi hw hk' =>
      rw [if_pos hw]
      rcases hq.1 with hs | hfc
      · obtain ⟨v, σ', F', M', hK, hI, hrun⟩ := wpo_still hi hs hk'
        refine ⟨v, fun w' hw' => ?_, wpr_quiet hq.2 hI hK⟩
        unfold Oper.quietAt
        rw [hrun w' hw']
        exact ⟨rfl, rfl⟩
      · obtain ⟨g, args, ats, t, u, ho, hrt, hty, hfl, hm1, hm2⟩ := flatCall_spec hfc
        unfold wpo at hk'
        rw [ho] at hk'
        dsimp only at hk'
        have hev : ev σ1 (.func g) = .fn (.func g) := rfl
        rw [hev] at hk'
        simp only [hrt] at hk'
        have hcd : ∃ x : u.I, Spec P g (snaps σ1.ob (evs σ1 args.toList)) (encV u x) ∧ wpr P μ ops.toList r (σ1.put o.dst (encV u x)) K := by
          unfold callD at hk'
          simp only [hm1.1, hm1.2, hm2.1, hm2.2] at hk'
          unfold callP at hk'
          simp only [hty] at hk'
          cases u with
          | list v => cases hfl
          | int k => exact hk'
          | bool => exact hk'
          | str => exact hk'
          | pair p q =>
            obtain ⟨x, h1, h2⟩ := hk'
            rw [hfl] at h2
            exact ⟨x, h1, h2⟩
        obtain ⟨x, hs, hK⟩ := hcd
        have calls : ∀ w', Below w.heap.size w w' → Calls P g (args.map a.eval) w' fun e w'' => ∃ v, e = .returned v ∧ ((∃ F', R1 w'' F' noM v (encV u x)) ∧ Below w.heap.size w w'') := fun w' hb => by
          have hi' := hi.grow hb
          refine (hs.2 w' (args.map a.eval) (allF F1 M1) (allF_lt hi') (hi'.glb.imp fun _ hg => Or.inl hg) (by rw [snaps_len, evs_len]; simp) fun i d' hdi => ?_).mono fun e w'' ⟨v, F', G, he, hb', _, _, _, hr⟩ => ?_
          · obtain ⟨v, h1, h2⟩ := args_all hi' args.toList i d' hdi
            exact ⟨v, by simpa using h1, h2⟩
          · exact ⟨v, he, ⟨F', encV_RR hr⟩, hb.trans (hb'.mono hb.size)⟩
        obtain ⟨v0, w1, ⟨F2, hv0⟩, _⟩ := calls_value (calls w (Below.refl _ _))
        refine ⟨v0, fun w' hw' => ?_, wpr_quiet hq.2 (hi.put (R.of1 (hv0.flat hfl)) o.dst) hK⟩
        unfold Oper.quietAt
        rw [run_call hi ho rfl rfl hs w']
        refine ⟨rfl, (calls w' hw').mono fun e w'' ⟨v, he, ⟨F', hr⟩, hb⟩ => ⟨?_, hb⟩⟩
        rw [he, hr.flat_uniq hv0 hfl]

/-! ### A region that draws its order, at whose end something is written -/

/-- What an operation does that is not still. -/
def GY (P : Program) (w0 : W0 P) (F0 : Nat → Prop) (a : Act) (w : World) (o : Oper) (K : St → Prop) : Prop :=
  match (execOp a.eval o).run P w with
  | .ok (.value v) w' => ∃ σ' F' M', K σ' ∧ Inv w0 F0 F' M' σ' (a.put o.dst v) w'
  | .ok .skip w' => ∃ σ' F' M', K σ' ∧ Inv w0 F0 F' M' σ' (a.put o.dst undef) w'
  | .ok (.enter f args) w' => Calls P f args w' fun e w'' => ∃ v, e = .returned v ∧ ∃ σ' F' M', K σ' ∧ Inv w0 F0 F' M' σ' (a.put o.dst v) w''
  | _ => False

theorem EY.gy (h : EY P w0 F0 a w o K) : GY P w0 F0 a w o K := by
  obtain ⟨w', σ', F', M', hK, ⟨v, h1, h2⟩ | ⟨h1, h2⟩⟩ := h
  · unfold GY; rw [h1]; exact ⟨σ', F', M', hK, h2⟩
  · unfold GY; rw [h1]; exact ⟨σ', F', M', hK, h2⟩

theorem CY.gy (h : CY P w0 F0 a w o K) : GY P w0 F0 a w o K := by
  obtain ⟨g, vs, h1, h2⟩ := h
  unfold GY; rw [h1]
  exact h2.mono fun e w' ⟨v, σ', F', M', he, hK, hi⟩ => ⟨v, he, σ', F', M', hK, hi⟩

theorem wpo_gy (h : Inv w0 F0 F M σ a w) (hs : stillOp o.op = false) (hk : wpo P μ o σ K) : GY P w0 F0 a w o K := by
  unfold wpo at hk
  cases ho : o.op <;> rw [ho] at hs hk <;> first | (exact (show False from hk).elim) | (simp [stillOp] at hs; done) | skip
  case alloc e => exact (e_alloc h ho hk).gy
  case box e x => exact (e_box h ho hk).gy
  case buildSlice t len parts => exact (e_buildSlice h ho hk).gy
  case store t p x =>
    dsimp only at hk
    split at hk
    · rename_i hd
      exact (e_store h ho hd hk).gy
    · exact hk.elim
  case call c =>
    obtain ⟨callee, args, ats⟩ := c
    cases callee with
    | value f =>
      dsimp only at hk
      split at hk
      · rename_i g hf
        split at hk
        · exact (c_call h ho rfl hf hk).gy
        · exact hk.elim
      · rename_i g cs hf
        split at hk
        · exact (c_clo h ho rfl hf hk).gy
        · exact hk.elim
      · exact hk.elim
    | invoke r m => exact (show False from hk).elim
    | builtin b =>
      cases b <;> first | (exact (show False from hk).elim) | (simp [stillOp] at hs; done) | skip
      case append =>
        dsimp only at hk
        split at hk
        · rename_i s x t t' h1 h2
          split at hk
          · rename_i ys hys
            exact (e_appendS h ho rfl h1 h2 hys hk).gy
          · exact (e_append h ho rfl h1 h2 hk).gy
        · exact hk.elim


theorem wpr_G {ops : Array Oper} : ∀ {l : List Oper} {σ : St} {F : Nat → Prop} {M : Nat → Option MO} {a : Act} {w : World}, Inv w0 F0 F M σ a w → wpr P μ ops.toList l σ K →
    wpGl P ops (fun a' w' => ∃ σ' F' M', K σ' ∧ Inv w0 F0 F' M' σ' a' w') l a w
  | [], σ, F, M, a, w, h, hk => ⟨σ, F, M, hk, h⟩
  | o :: r, σ, F, M, a, w, h, hk => by
    unfold wpGl opT
    cases wpr_step h hk with
    | skip hi hw hk' =>
      rw [hw]
      exact wpr_G hi hk'
    | @run σ1 F1 M1 hi hw hk' =>
      rw [hw]
      dsimp only
      cases hs : stillOp o.op with
      | true =>
        obtain ⟨v, σ', F', M', hK, hI, hrun⟩ := wpo_still hi hs hk'
        exact ⟨v, hrun w (Below.refl _ _), wpr_G hI hK⟩
      | false =>
        have hg := wpo_gy hi hs hk'
        unfold GY at hg
        dsimp only
        generalize (execOp a.eval o).run P w = r' at *
        cases r' with
        | ok n w' =>
          cases n <;> simp only at hg ⊢
          case value v => obtain ⟨σ', F', M', hK, hI⟩ := hg; exact wpr_G hI hK
          case skip => obtain ⟨σ', F', M', hK, hI⟩ := hg; exact wpr_G hI hK
          case enter f args => exact hg.mono fun e w'' ⟨v, he, σ', F', M', hK, hI⟩ => ⟨v, he, wpr_G hI hK⟩
        | halt x w' => simp only at hg

theorem wp_drawn {id : Nat} {ops : Array Oper} (hm : P.follows .mixedOrders = true) (h : Inv w0 F0 F M σ a w) (hd : drawOk P μ ops = true) (hk : wpr P μ ops.toList ops.toList σ K)
    (hQ : ∀ σ' F' M' a' w', K σ' → Inv w0 F0 F' M' σ' a' w' → Q .normal a' w') : (Code.region id ops true).wp P Q a w := by
  unfold drawOk at hd
  simp only [Bool.or_eq_true, Bool.and_eq_true] at hd
  rcases hd with ⟨hq, hB⟩ | hT
  · refine wp_region_quiet (C := fun w' => Below w.heap.size w w') hm hB ((Below.refl _ _).drew) ?_
    have := wpr_quiet hq h hk
    have mono : ∀ (l : List Oper) (a : Act), wpQuiet P ops (fun w' => Below w.heap.size w w') (fun a' => ∃ σ' F' M', K σ' ∧ Inv w0 F0 F' M' σ' a' w) l a →
        wpQuiet P ops (fun w' => Below w.heap.size w w') (fun a' => ∀ w', Below w.heap.size w w' → Q .normal a' w') l a := by
      intro l
      induction l with
      | nil => intro a ⟨σ', F', M', hK, hI⟩ w' hb; exact hQ _ _ _ _ _ hK (hI.grow hb)
      | cons o r ih =>
        intro a hh
        unfold wpQuiet at hh ⊢
        split
        · rename_i hw
          rw [if_pos hw] at hh
          exact Oper.quiet_mono ih hh
        · rename_i hw
          rw [if_neg hw] at hh
          exact ih _ hh
    exact mono _ _ this
  · have hdrew : Inv w0 F0 F M σ a { w with drawn := w.drawn + 1 } := h.grow (Below.refl _ _).drew
    refine wp_region_comm hm hT ?_
    have mono : ∀ (l : List Oper) (a : Act) (w : World), wpGl P ops (fun a' w' => ∃ σ' F' M', K σ' ∧ Inv w0 F0 F' M' σ' a' w') l a w → wpGl P ops (fun a' w' => Q .normal a' w') l a w := by
      intro l
      induction l with
      | nil => intro a w ⟨σ', F', M', hK, hI⟩; exact hQ _ _ _ _ _ hK hI
      | cons o r ih => intro a w hh; exact opT_mono (fun v w' => ih _ _) hh
    exact mono _ _ _ (wpr_G hdrew hk)

end
end Go.Proofs.Ytojcdimaeiibdaa.Vc
