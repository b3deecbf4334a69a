/-
  THE CONDITION IS SOUND, NINTH PART AND A HALF: structs of the call's own behind pointers, with own rows in them; calls that write into such a struct, or use it up.
  No condition: the lemmas hold for every program.
-/
import Derived.Test.YtnkinnhgahpcoaaVj
namespace Go.Proofs.Ytnkinnhgahpcoaa.Vc
open Go.RowKit

section
variable {P : Program} {w0 : W0 P} {w : World} {F0 F F1 : Nat → Prop} {M : Nat → Option MO} {σ : St} {a : Act} {o : Oper} {K : St → Prop} {μ : List Nat}

theorem gid_ne (id j : Nat) : gid id j ≠ id := by unfold gid; omega
theorem ne_gid (id j : Nat) : id ≠ gid id j := by unfold gid; omega
theorem gid_inj {id i j : Nat} (h : gid id i = gid id j) : i = j := by unfold gid at h; omega

/-- Does an own row stand there? -/
def Fd.hasRow : Fd → Bool
  | .row _ _ => true
  | .buf _ => true
  | _ => false
theorem gids_head {id j : Nat} {f : Fd} (hf : f.hasRow = true) (r : List Fd) : gid id j ∈ gids id j (f :: r) := by
  cases f <;> simp only [Fd.hasRow] at hf <;> first | (cases hf; done) | simp [gids]

theorem gids_mem {id k : Nat} : ∀ {fs : List Fd} {j : Nat}, k ∈ gids id j fs → ∃ i, k = gid id i
  | [], _, h => by simp [gids] at h
  | f :: r, j, h => by
    cases f <;> simp only [gids] at h
    case row e t =>
      rcases List.mem_cons.1 h with rfl | h
      · exact ⟨j, rfl⟩
      · exact gids_mem h
    case buf e =>
      rcases List.mem_cons.1 h with rfl | h
      · exact ⟨j, rfl⟩
      · exact gids_mem h
    all_goals exact gids_mem h

theorem FdR.keep {w' : World} {F' : Nat → Prop} (hs : Same F w w') (hF : ∀ g, F g → F' g) {B B' : Nat → Prop} {b : Nat} {m : Option MO} {f : Fd} {x : f.ty.I} {us : List Value}
    (hg : ∀ mo g, m = some mo → mo.g = some g → w'.heap[g]? = w.heap[g]? ∧ B' g) (h : FdR w F B b m f x us) : FdR w' F' B' b m f x us := by
  cases f
  case dat t => exact RV.keep hs hF h
  case row e t =>
    obtain ⟨mo, h1, h2, h3, h4⟩ := h
    refine ⟨mo, h1, h2, h3, ?_⟩
    have h5 := h4.keep hs hF (w' := w') (B := B) fun g hgg => (hg mo g h1 hgg).1
    rcases h5 with h5 | ⟨g, cap, vs, h6, _, h7⟩
    · exact .inl h5
    · exact .inr ⟨g, cap, vs, h6, (hg mo g h1 h6).2, h7⟩
  case slf => exact h
  case buf e =>
    obtain ⟨mo, h1, h2, h3, h4, h0⟩ := h
    refine ⟨mo, h1, h2, h3, ?_, h0⟩
    have h5 := h4.keep hs hF (w' := w') (B := B) fun g hgg => (hg mo g h1 hgg).1
    rcases h5 with h5 | ⟨g, cap, vs, h6, _, h7⟩
    · exact .inl h5
    · exact .inr ⟨g, cap, vs, h6, (hg mo g h1 h6).2, h7⟩

theorem GrsR.keep {w' : World} {F' : Nat → Prop} (hs : Same F w w') (hF : ∀ g, F g → F' g) {B B' : Nat → Prop} {b : Nat} {ms : Nat → Option MO}
    (hg : ∀ j mo g, ms j = some mo → mo.g = some g → w'.heap[g]? = w.heap[g]? ∧ B' g) : ∀ {j : Nat} {fs : List Fd} {x : (gTy fs).I} {us : List Value}, GrsR w F B b ms j fs x us → GrsR w' F' B' b ms j fs x us
  | _, [], _, _, h => h
  | j, [f], _, _, h => FdR.keep (f := f) hs hF (hg j) h
  | j, f :: q :: r, x, us, h => by
    obtain ⟨u1, u2, h1, h2, h3⟩ := h
    exact ⟨u1, u2, h1, FdR.keep hs hF (hg j) h2, GrsR.keep hs hF hg h3⟩

/-- The ghosts that count. -/
theorem FdR.ms {B : Nat → Prop} {b : Nat} {m m' : Option MO} {f : Fd} {x : f.ty.I} {us : List Value} (hm : f.hasRow = true → m = m') (h : FdR w F B b m f x us) : FdR w F B b m' f x us := by
  cases f
  case row e t => rw [← hm rfl]; exact h
  case buf e => rw [← hm rfl]; exact h
  all_goals exact h
theorem GrsR.ms {B : Nat → Prop} {b : Nat} {ms ms' : Nat → Option MO} (id : Nat) : ∀ {j : Nat} {fs : List Fd} {x : (gTy fs).I} {us : List Value}, (∀ i, gid id i ∈ gids id j fs → ms i = ms' i) → GrsR w F B b ms j fs x us → GrsR w F B b ms' j fs x us
  | _, [], _, _, _, h => h
  | j, [f], _, _, hm, h => FdR.ms (f := f) (fun he => hm j (gids_head he _)) h
  | j, f :: q :: r, x, us, hm, h => by
    obtain ⟨u1, u2, h1, h2, h3⟩ := h
    refine ⟨u1, u2, h1, FdR.ms (fun he => hm j (gids_head he _)) h2, GrsR.ms id (fun i hi => hm i ?_) h3⟩
    cases f <;> simp only [gids, List.mem_cons] <;> first | exact .inr hi | exact hi

/-! ### A struct is read off the state -/

theorem fRead_spec (h : Inv w0 F0 F M σ a w) {id j : Nat} {m0 : MO} {b : Nat} (hm0 : M id = some m0) (hb : m0.g = some b) {f : Fd} {us : List Value} {cs cs' : List D} {x : f.ty.I} (hr : Rel w F M us cs) (hf : fRead σ.ob id j f cs = some (x, cs')) :
    ∃ u1 u2, us = u1 ++ u2 ∧ FdR w F w0.nw b (M (gid id j)) f x u1 ∧ Rel w F M u2 cs' := by
  have tail : ∀ {c : D} {r : List D} {us : List Value}, Rel w F M us (c :: r) → ∃ u us', us = u :: us' ∧ R0 w F M u c ∧ Rel w F M us' r := fun {c r us} hr => by
    obtain ⟨u, h1, _, h3⟩ := hr.2 0 c rfl
    cases us with
    | nil => simp at h1
    | cons u' us' =>
      have : u' = u := by simpa using h1
      subst this
      exact ⟨u', us', rfl, h3, by have := hr.1; simpa using this, fun j c hj => by simpa using hr.2 (j + 1) c (by simpa using hj)⟩
  cases f
  case dat t => exact dec_spec hr hf
  case row e t =>
    cases cs with
    | nil => simp [fRead] at hf
    | cons c r =>
      obtain ⟨u, us', rfl, hu, hr'⟩ := tail hr
      cases c <;> simp only [fRead] at hf <;> first | (cases hf; done) | skip
      case slo i =>
        rcases beq_cases i (gid id j) with ⟨rfl, hbq⟩ | ⟨_, hbq⟩
        · rw [hbq] at hf
          simp only [cond_true] at hf
          split at hf
          · rename_i e' t' xs hfo
            split at hf
            · rename_i hee
              have hee := of_decide_eq_true hee
              subst hee
              split at hf
              · rename_i htt
                subst htt
                simp only [Option.some.injEq, Prod.mk.injEq] at hf
                obtain ⟨rfl, rfl⟩ := hf
                obtain ⟨mo, hm, hmk, hown⟩ := h.obs _ _ hfo
                obtain ⟨mo', hm', hv, _⟩ := hu
                have : mo' = mo := Option.some.inj (hm'.symm.trans hm)
                subst this
                exact ⟨[u], us', rfl, ⟨mo', hm, by rw [hv], hmk, hown⟩, hr'⟩
              · cases hf
            · cases hf
          · cases hf
        · rw [hbq] at hf; cases hf
  case buf e =>
    cases cs with
    | nil => simp [fRead] at hf
    | cons c r =>
      obtain ⟨u, us', rfl, hu, hr'⟩ := tail hr
      cases c <;> simp only [fRead] at hf <;> first | (cases hf; done) | skip
      case slo i =>
        rcases beq_cases i (gid id j) with ⟨rfl, hbq⟩ | ⟨_, hbq⟩
        · rw [hbq] at hf
          simp only [cond_true] at hf
          split at hf
          · rename_i e' xs hfo
            split at hf
            · rename_i hee
              have hee := of_decide_eq_true hee
              subst hee
              simp only [Option.some.injEq, Prod.mk.injEq] at hf
              obtain ⟨rfl, rfl⟩ := hf
              obtain ⟨mo, hm, hmk, hown, hex⟩ := h.obs _ _ hfo
              obtain ⟨mo', hm', hv, _⟩ := hu
              have : mo' = mo := Option.some.inj (hm'.symm.trans hm)
              subst this
              exact ⟨[u], us', rfl, ⟨mo', hm, by rw [hv], hmk, hown, hex⟩, hr'⟩
            · cases hf
          · cases hf
        · rw [hbq] at hf; cases hf
  case slf =>
    cases cs with
    | nil => simp [fRead] at hf
    | cons c r =>
      obtain ⟨u, us', rfl, hu, hr'⟩ := tail hr
      cases c <;> simp only [fRead] at hf <;> first | (cases hf; done) | skip
      case slf i =>
        rcases beq_cases i id with ⟨rfl, hbq⟩ | ⟨_, hbq⟩
        · rw [hbq] at hf
          simp only [cond_true, Option.some.injEq, Prod.mk.injEq] at hf
          obtain ⟨rfl, rfl⟩ := hf
          refine ⟨[u], us', rfl, ?_, hr'⟩
          rcases hu with hu | ⟨mo, g, h1, h2, h3⟩
          · exact .inl (by rw [hu])
          · have : mo = m0 := Option.some.inj (h1.symm.trans hm0)
            subst this
            have : g = b := Option.some.inj (h2.symm.trans hb)
            subst this
            exact .inr (by rw [h3])
        · rw [hbq] at hf; cases hf
      case ptr i o =>
        rcases beq_cases i id with ⟨rfl, hbq⟩ | ⟨_, hbq⟩
        · rcases beq_cases o 0 with ⟨rfl, hb0⟩ | ⟨_, hb0⟩
          · rw [hbq, hb0] at hf
            simp only [Bool.and_self, cond_true, Option.some.injEq, Prod.mk.injEq] at hf
            obtain ⟨rfl, rfl⟩ := hf
            refine ⟨[u], us', rfl, ?_, hr'⟩
            obtain ⟨mo, g, h1, h2, h3⟩ := hu
            have : mo = m0 := Option.some.inj (h1.symm.trans hm0)
            subst this
            have : g = b := Option.some.inj (h2.symm.trans hb)
            subst this
            exact .inr (by rw [h3])
          · rw [hb0] at hf; simp at hf
        · rw [hbq] at hf; simp at hf
      case pnil =>
        simp only [Option.some.injEq, Prod.mk.injEq] at hf
        obtain ⟨rfl, rfl⟩ := hf
        have hu' : u = .pointer none := hu
        exact ⟨[u], us', rfl, .inl (by rw [hu']), hr'⟩

theorem gRead_spec (h : Inv w0 F0 F M σ a w) {id : Nat} {m0 : MO} {b : Nat} (hm0 : M id = some m0) (hb : m0.g = some b) {ms : Nat → Option MO} : ∀ {fs : List Fd} {j : Nat} {us : List Value} {cs : List D} {x : (gTy fs).I},
    (∀ i, gid id i ∈ gids id j fs → ms i = M (gid id i)) → Rel w F M us cs → gRead σ.ob id j fs cs = some x → GrsR w F w0.nw b ms j fs x us
  | [], j, us, cs, x, _, hr, hg => by
    cases cs with
    | nil => exact List.eq_nil_of_length_eq_zero hr.1
    | cons c r => simp [gRead] at hg
  | [f], j, us, cs, x, hm, hr, hg => by
    unfold gRead at hg
    split at hg
    · rename_i y hf
      simp only [Option.some.injEq] at hg
      subst hg
      obtain ⟨u1, u2, rfl, h1, h2⟩ := fRead_spec h hm0 hb hr hf
      have : u2 = [] := List.eq_nil_of_length_eq_zero h2.1
      subst this
      rw [List.append_nil]
      exact h1.ms fun he => (hm j (gids_head he _)).symm
    · cases hg
  | f :: q :: r, j, us, cs, x, hm, hr, hg => by
    unfold gRead at hg
    split at hg
    · rename_i y cs' hf
      split at hg
      · rename_i z hz
        simp only [Option.some.injEq] at hg
        subst hg
        obtain ⟨u1, u2, rfl, h1, h2⟩ := fRead_spec h hm0 hb hr hf
        refine ⟨u1, u2, rfl, h1.ms fun he => (hm j (gids_head he _)).symm, gRead_spec h hm0 hb (fun i hi => hm i ?_) h2 hz⟩
        cases f <;> simp only [gids, List.mem_cons] <;> first | exact .inr hi | exact hi
      · cases hg
    · cases hg

theorem Rel.append {us vs : List Value} {cs ds : List D} (h1 : Rel w F M us cs) (h2 : Rel w F M vs ds) : Rel w F M (us ++ vs) (cs ++ ds) := by
  refine ⟨by rw [List.length_append, List.length_append, h1.1, h2.1], fun j c hj => ?_⟩
  rcases Nat.lt_or_ge j cs.length with hlt | hge
  · rw [List.getElem?_append_left hlt] at hj
    obtain ⟨u, h3, h4⟩ := h1.2 j c hj
    exact ⟨u, by rw [List.getElem?_append_left (by rw [h1.1]; exact hlt)]; exact h3, h4⟩
  · rw [List.getElem?_append_right hge] at hj
    obtain ⟨u, h3, h4⟩ := h2.2 _ c hj
    exact ⟨u, by rw [List.getElem?_append_right (by rw [h1.1]; exact hge), h1.1]; exact h3, h4⟩

theorem Rel.single {u : Value} {c : D} (h1 : u.oneCell' = true) (h2 : R0 w F M u c) : Rel w F M [u] [c] :=
  ⟨rfl, fun j d hj => by
    cases j with
    | zero =>
      have : c = d := by simpa using hj
      subst this
      exact ⟨u, rfl, h1, h2⟩
    | succ j => simp at hj⟩

/-- The cells of a struct, as the state tells them. -/
theorem FdR.rel {B : Nat → Prop} {id j b : Nat} {m0 : MO} (hm0 : M id = some m0) (hb : m0.g = some b) {m : Option MO} {f : Fd} {x : f.ty.I} {us : List Value} (hm : f.hasRow = true → m = M (gid id j)) (h : FdR w F B b m f x us) :
    Rel w F M us (fCs id j f x) := by
  cases f
  case dat t => exact enc_rel h
  case row e t =>
    obtain ⟨mo, h1, rfl, _, h4⟩ := h
    exact Rel.single h4.one ⟨mo, by rw [← hm rfl]; exact h1, rfl, h4.one⟩
  case buf e =>
    obtain ⟨mo, h1, rfl, _, h4, _⟩ := h
    exact Rel.single h4.one ⟨mo, by rw [← hm rfl]; exact h1, rfl, h4.one⟩
  case slf =>
    rcases h with rfl | rfl
    · exact Rel.single rfl (.inl rfl)
    · exact Rel.single rfl (.inr ⟨m0, b, hm0, hb, rfl⟩)
theorem GrsR.rel {B : Nat → Prop} {id b : Nat} {m0 : MO} (hm0 : M id = some m0) (hb : m0.g = some b) {ms : Nat → Option MO} : ∀ {fs : List Fd} {j : Nat} {x : (gTy fs).I} {us : List Value},
    (∀ i, gid id i ∈ gids id j fs → ms i = M (gid id i)) → GrsR w F B b ms j fs x us → Rel w F M us (gCs id j fs x)
  | [], _, _, _, _, h => by
    have h' : _ = [] := h
    subst h'
    exact ⟨rfl, fun j c hj => by simp [gCs] at hj⟩
  | [f], j, _, _, hm, h => FdR.rel (f := f) hm0 hb (fun he => hm j (gids_head he _)) h
  | f :: q :: r, j, x, us, hm, h => by
    obtain ⟨u1, u2, rfl, h1, h2⟩ := h
    refine (FdR.rel hm0 hb (fun he => hm j (gids_head he _)) h1).append (GrsR.rel hm0 hb (fun i hi => hm i ?_) h2)
    cases f <;> simp only [gids, List.mem_cons] <;> first | exact .inr hi | exact hi

/-- .. and its rows. -/
theorem FdR.row {B : Nat → Prop} {id j b : Nat} {m : Option MO} {f : Fd} {x : f.ty.I} {us : List Value} (hm : f.hasRow = true → m = M (gid id j)) (h : FdR w F B b m f x us) {k : Nat} {o : Ob} (ho : (k, o) ∈ fOb id j f x) :
    k ∈ gids id j [f] ∧ o.pin = false ∧ ∃ mo, M k = some mo ∧ ObR w F M B mo o := by
  cases f <;> simp only [fOb] at ho <;> first | (cases ho; done) | skip
  case row e t =>
    simp only [List.mem_cons, List.not_mem_nil, or_false, Prod.mk.injEq] at ho
    obtain ⟨rfl, rfl⟩ := ho
    obtain ⟨mo, h1, _, h3, h4⟩ := h
    exact ⟨by simp [gids], rfl, mo, by rw [← hm rfl]; exact h1, h3, h4⟩
  case buf e =>
    simp only [List.mem_cons, List.not_mem_nil, or_false, Prod.mk.injEq] at ho
    obtain ⟨rfl, rfl⟩ := ho
    obtain ⟨mo, h1, _, h3, h4⟩ := h
    exact ⟨by simp [gids], rfl, mo, by rw [← hm rfl]; exact h1, h3, h4⟩
theorem GrsR.rows {B : Nat → Prop} {id b : Nat} {ms : Nat → Option MO} {k : Nat} {o : Ob} : ∀ {fs : List Fd} {j : Nat} {x : (gTy fs).I} {us : List Value},
    (∀ i, gid id i ∈ gids id j fs → ms i = M (gid id i)) → GrsR w F B b ms j fs x us → (k, o) ∈ gOb id j fs x → k ∈ gids id j fs ∧ o.pin = false ∧ ∃ mo, M k = some mo ∧ ObR w F M B mo o
  | [], _, _, _, _, _, ho => by cases ho
  | [f], j, _, _, hm, h, ho => FdR.row (f := f) (fun he => hm j (gids_head he _)) h ho
  | f :: q :: r, j, x, us, hm, h, ho => by
    obtain ⟨u1, u2, rfl, h1, h2⟩ := h
    simp only [gOb, List.mem_append] at ho
    rcases ho with ho | ho
    · obtain ⟨h3, h4⟩ := FdR.row (fun he => hm j (gids_head he _)) h1 ho
      refine ⟨?_, h4⟩
      cases f <;> simp only [gids, List.mem_cons, List.not_mem_nil, or_false] at h3 ⊢ <;> first | exact .inl h3 | (cases h3; done)
    · obtain ⟨h3, h4⟩ := GrsR.rows (fun i hi => hm i (by cases f <;> simp only [gids, List.mem_cons] <;> first | exact .inr hi | exact hi)) h2 ho
      refine ⟨?_, h4⟩
      cases f <;> simp only [gids, List.mem_cons] at h3 ⊢ <;> first | exact .inr h3 | exact h3

/-! ### Nil slices in a struct; rows that are killed -/

theorem grown_refl (w : World) (row : Option Nat) : w.grownBy w row := ⟨rfl, rfl, rfl, Nat.le_refl _, fun _ _ _ => rfl⟩

theorem Inv.gnil1 (h : Inv w0 F0 F M σ a w) (id off j : Nat) (f : Fd) : ∃ M', Inv w0 F0 F M' (σ.gnil1 id off j f) a w ∧ M' id = M id := by
  unfold St.gnil1
  split
  · rename_i e t
    split
    · rename_i p T cs hf
      split
      · rename_i hn
        obtain ⟨mo, hm, g, us, hg, hh, hl, hc⟩ := h.obs _ _ hf
        obtain ⟨u, hu, _, A, hv⟩ := hc off _ hn
        obtain ⟨M1, h1, h2, h3⟩ := (h.kill (gid id j)).addOb (gid id j) (dropM_none M _) (.row false e t []) ⟨none, u, t.width⟩ rfl fun M' _ _ => ⟨rfl, .inl ⟨rfl, rfl, A, hv⟩⟩
        have hM1 : M1 id = some mo := by rw [h3 id (ne_gid id j), dropM_ne (ne_gid id j)]; exact hm
        have hf1 : findOb ((gid id j, Ob.row false e t []) :: (σ.kill (gid id j)).ob) id = some (.cells p T (ices0 (gid id j) .bad cs)) := by
          have hb : Nat.beq id (gid id j) = false := (beq_cases _ _).resolve_left (fun h => ne_gid id j h.1) |>.2
          simp only [findOb, hb, cond_false]
          show findOb (iceOb (gid id j) .bad σ.ob) id = _
          rw [findOb_ice, if_neg (ne_gid id j), hf]
          rfl
        obtain ⟨mo', hm', g', us', hg', hh', hl', hc'⟩ := h1.obs _ _ hf1
        have : mo' = mo := Option.some.inj (hm'.symm.trans hM1)
        subst this
        have : g' = g := Option.some.inj (hg'.symm.trans hg)
        subst this
        have : us' = us := by rw [hh] at hh'; injection hh' with hh'; injection hh' with hh' _; exact hh'.symm
        subst this
        have hrel : Rel w F M1 us'.toList (ices0 (gid id j) .bad cs) := ⟨by simpa using hl', fun j c hj => by simpa using hc' j c hj⟩
        have hset := hrel.set (off := off) (u := u) (c := .slo (gid id j)) (by rw [hv]; rfl) ⟨_, h2, rfl, by rw [hv]; rfl⟩
        have hsame : us'.toList.set off u = us'.toList := by
          apply List.ext_getElem?
          intro k
          rw [List.getElem?_set]
          split
          · rename_i e; subst e
            have hlt := (Array.getElem?_eq_some_iff.1 hu).1
            rw [if_pos (by simpa using hlt), Array.getElem?_toList, hu]
          · rfl
        rw [hsame] at hset
        refine ⟨M1, h1.store hM1 hg (grown_refl w _) _ ⟨g', us', hg, hh', by simpa using hset.1, fun k c hk => ?_⟩ fun hp => h1.pins _ _ hf1 hp, by rw [hM1, hm]⟩
        obtain ⟨v, h4, h5⟩ := hset.2 k c hk
        exact ⟨v, by simpa using h4, h5⟩
      · exact ⟨M, h, rfl⟩
    · exact ⟨M, h, rfl⟩
  · exact ⟨M, h, rfl⟩

theorem Inv.gnils (id : Nat) : ∀ (fs : List Fd) (off j : Nat) {M : Nat → Option MO} {σ : St}, Inv w0 F0 F M σ a w → ∃ M', Inv w0 F0 F M' (σ.gnils id off j fs) a w ∧ M' id = M id
  | [], _, _, M, _, h => ⟨M, h, rfl⟩
  | f :: r, off, j, M, σ, h => by
    obtain ⟨M1, h1, e1⟩ := h.gnil1 id off j f
    obtain ⟨M2, h2, e2⟩ := Inv.gnils id r (off + f.wid) (j + 1) h1
    exact ⟨M2, h2, e2.trans e1⟩

def dropMs (M : Nat → Option MO) (l : List Nat) : Nat → Option MO := fun j => if j ∈ l then none else M j
theorem dropMs_some {l : List Nat} {j : Nat} {mo : MO} (h : dropMs M l j = some mo) : j ∉ l ∧ M j = some mo := by
  unfold dropMs at h
  split at h
  · cases h
  · exact ⟨‹_›, h⟩

theorem Inv.kills : ∀ (l : List Nat) {M : Nat → Option MO} {σ : St}, Inv w0 F0 F M σ a w → Inv w0 F0 F (dropMs M l) (σ.kills l) a w
  | [], M, σ, h => by
    have : dropMs M [] = M := by funext j; simp [dropMs]
    rw [this]; exact h
  | i :: r, M, σ, h => by
    have h1 := Inv.kills r (h.kill i)
    have : dropMs (dropM M i) r = dropMs M (i :: r) := by
      funext j
      unfold dropMs dropM
      by_cases h1 : j = i <;> by_cases h2 : j ∈ r <;> simp [h1, h2]
    rw [this] at h1
    exact h1

theorem findOb_append {l1 l2 : List (Nat × Ob)} {k : Nat} {o : Ob} (h : findOb (l1 ++ l2) k = some o) : (k, o) ∈ l1 ∨ findOb l2 k = some o := by
  induction l1 with
  | nil => exact .inr h
  | cons p r ih =>
    obtain ⟨j, q⟩ := p
    simp only [List.cons_append, findOb] at h
    rcases beq_cases k j with ⟨rfl, hb⟩ | ⟨_, hb⟩
    · rw [hb] at h
      have : q = o := Option.some.inj h
      subst this
      exact .inl (by simp)
    · rw [hb] at h
      rcases ih h with h | h
      · exact .inl (List.mem_cons_of_mem _ h)
      · exact .inr h

/-- A struct is written behind its pointer, its rows anew. -/
theorem Inv.gset {w' : World} {F' : Nat → Prop} (h : Inv w0 F0 F M σ a w) {id : Nat} {p : Bool} {T : TypeId} {cs : List D} (hob : findOb σ.ob id = some (.cells p T cs)) {m0 : MO} {b : Nat} (hm0 : M id = some m0) (hb : m0.g = some b)
    {fs : List Fd} {y : (gTy fs).I} {ms ms' : Nat → Option MO} (hms : ∀ i mo, ms i = some mo → gid id i ∈ gids id 0 fs ∧ M (gid id i) = some mo)
    (hbel : BelX w (grX b ms) w') (hF : ∀ g, F g → F' g) (hlt : ∀ g, F' g → g < w'.heap.size ∧ (F g ∨ w.heap.size ≤ g ∨ grX b ms g))
    (hX : ∀ g, grX b ms' g → ¬F' g ∧ g < w'.heap.size ∧ (grX b ms g ∨ w.heap.size ≤ g)) (hG : GrR w' F' (fun _ => True) b T fs y ms') : ∃ M', Inv w0 F0 F' M' (σ.gset id p T fs y) a w' := by
  have hgid : ∀ k, k ∈ gids id 0 fs → k = gid id (k - (1000000 + 64 * id)) := fun k hk => by
    obtain ⟨i, rfl⟩ := gids_mem hk
    unfold gid; omega
  have hidx : ∀ i, gid id i - (1000000 + 64 * id) = i := fun i => by unfold gid; omega
  have hid : id ∉ gids id 0 fs := fun hm => by
    obtain ⟨i, hi⟩ := gids_mem hm
    exact ne_gid id i hi
  let M' : Nat → Option MO := fun k => if k ∈ gids id 0 fs then ms' (k - (1000000 + 64 * id)) else M k
  have hM1 : ∀ {k}, k ∈ gids id 0 fs → M' k = ms' (k - (1000000 + 64 * id)) := fun {k} hk => if_pos hk
  have hM2 : ∀ {k}, k ∉ gids id 0 fs → M' k = M k := fun {k} hk => if_neg hk
  have hid' : M' id = some m0 := by rw [hM2 hid]; exact hm0
  have hnwb := h.mine _ _ _ hm0 hb
  have hXnw : ∀ g, grX b ms g → w0.nw g ∧ ¬F g ∧ g < w.heap.size := fun g hg => by
    rcases hg with rfl | ⟨j, mo, hj, hjg⟩
    · exact ⟨hnwb.2.1, hnwb.1, hnwb.2.2⟩
    · obtain ⟨h1, h2, h3⟩ := h.mine _ _ _ (hms j mo hj).2 hjg
      exact ⟨h2, h1, h3⟩
  have hs : Same F w w' := fun g hg => hbel.block g (h.flt g hg).1 fun hx => (hXnw g hx).2.1 hg
  have h3 := h.kills (gids id 0 fs)
  have hMle : MLe (dropMs M (gids id 0 fs)) M' := fun i mo hi => by
    obtain ⟨h1, h2⟩ := dropMs_some hi
    rw [hM2 h1]; exact h2
  -- a block of an object that stays is none of the struct's
  have hout : ∀ k mk g, k ∉ gids id 0 fs → k ≠ id → M k = some mk → mk.g = some g → ¬grX b ms g := fun k mk g hk hki hmk hg hx => by
    rcases hx with rfl | ⟨j, mo, hj, hjg⟩
    · exact hki (h.apart _ _ _ _ _ hmk hm0 hg hb)
    · obtain ⟨h1, h2⟩ := hms j mo hj
      have := h.apart _ _ _ _ _ hmk h2 hg hjg
      subst this
      exact hk h1
  have hnw : ∀ g, grX b ms' g → w0.nw g := fun g hg => by
    rcases (hX g hg).2.2 with h1 | h1
    · exact (hXnw g h1).1
    · exact h.below.new h1
  obtain ⟨us, hus, hgr⟩ := hG.cells
  have hmsM : ∀ i, gid id i ∈ gids id 0 fs → ms' i = M' (gid id i) := fun i hi => by rw [hM1 hi, hidx]
  have hgr' : GrsR w' F' w0.nw b ms' 0 fs y us.toList := GrsR.keep (fun _ _ => rfl) (fun _ z => z) (fun j mo g hj hg => ⟨rfl, hnw g (.inr ⟨j, mo, hj, hg⟩)⟩) hgr
  have hrel := GrsR.rel (M := M') hid' hb hmsM hgr'
  refine ⟨M', h.defers, h3.size, fun i => (h3.slots i).keep hs hF hMle, fun k o ho => ?_, fun i j mi mj g hi hj hgi hgj => ?_, fun i mi g hi hgi => ?_, fun g hg => ?_, fun g hg => hF g (h.fle g hg), ?_, fun k o ho hp => ?_⟩
  · rcases findOb_append ho with ho | ho
    · exact (GrsR.rows hmsM hgr' ho).2.2
    · rcases findOb_set _ _ _ _ ho with ⟨rfl, rfl⟩ | ⟨hne, ho⟩
      · refine ⟨m0, hid', b, us, hb, hus, by simpa using hrel.1, fun j c hj => ?_⟩
        obtain ⟨u, h4, h5⟩ := hrel.2 j c hj
        exact ⟨u, by simpa using h4, h5⟩
      · obtain ⟨mo, h4, h5⟩ := h3.obs k o ho
        obtain ⟨h6, h7⟩ := dropMs_some h4
        exact ⟨mo, hMle _ _ h4, h5.keep hs hF hMle fun g hg => hbel.block g (h.mine _ _ _ h7 hg).2.2 (hout k mo g h6 hne h7 hg)⟩
  · have old : ∀ k mk g, k ∈ gids id 0 fs → M' k = some mk → mk.g = some g → ∀ k' mk', k' ∉ gids id 0 fs → M' k' = some mk' → mk'.g = some g → False := fun k mk g hk hmk hg k' mk' hk' hmk' hg' => by
      rw [hM1 hk] at hmk
      rw [hM2 hk'] at hmk'
      by_cases he : k' = id
      · subst he
        have : mk' = m0 := Option.some.inj (hmk'.symm.trans hm0)
        subst this
        have : g = b := Option.some.inj (hg'.symm.trans hb)
        subst this
        exact hG.off _ _ hmk hg
      · rcases (hX g (.inr ⟨_, mk, hmk, hg⟩)).2.2 with h4 | h4
        · exact hout k' mk' g hk' he hmk' hg' h4
        · have := (h.mine _ _ _ hmk' hg').2.2; omega
    by_cases h1 : i ∈ gids id 0 fs <;> by_cases h2 : j ∈ gids id 0 fs
    · rw [hM1 h1] at hi
      rw [hM1 h2] at hj
      have := hG.apart _ _ _ _ _ hi hj hgi hgj
      rw [hgid i h1, hgid j h2, this]
    · exact (old i mi g h1 hi hgi j mj h2 hj hgj).elim
    · exact (old j mj g h2 hj hgj i mi h1 hi hgi).elim
    · rw [hM2 h1] at hi
      rw [hM2 h2] at hj
      exact h.apart _ _ _ _ _ hi hj hgi hgj
  · by_cases h1 : i ∈ gids id 0 fs
    · rw [hM1 h1] at hi
      have hx : grX b ms' g := .inr ⟨_, mi, hi, hgi⟩
      exact ⟨(hX g hx).1, hnw g hx, (hX g hx).2.1⟩
    · rw [hM2 h1] at hi
      obtain ⟨h4, h5, h6⟩ := h.mine _ _ _ hi hgi
      refine ⟨fun hc => ?_, h5, Nat.lt_of_lt_of_le h6 hbel.size⟩
      rcases (hlt g hc).2 with h7 | h7 | h7
      · exact h4 h7
      · have h7' : w.heap.size ≤ g := h7
        omega
      · by_cases he : i = id
        · subst he
          have : mi = m0 := Option.some.inj (hi.symm.trans hm0)
          subst this
          have : g = b := Option.some.inj (hgi.symm.trans hb)
          subst this
          exact (hX g (.inl rfl)).1 hc
        · exact hout i mi g h1 he hi hgi h7
  · obtain ⟨h1, h2⟩ := hlt g hg
    refine ⟨h1, ?_⟩
    rcases h2 with h2 | h2 | h2
    · exact (h.flt g h2).2
    · exact .inr (h.below.new h2)
    · exact .inr (hXnw g h2).1
  · have hsz : w.heap.size ≤ w'.heap.size := hbel.size
    refine ⟨hbel.os.trans h.below.os, hbel.tape.trans h.below.tape, hbel.output.trans h.below.output, Nat.le_trans h.below.size hsz, fun k hk hx => ?_⟩
    refine (hbel.block k (Nat.lt_of_lt_of_le hk h.below.size) fun hg => ?_).trans (h.below.block k hk hx)
    rcases (hXnw k hg).1 with h1 | h1
    · omega
    · exact hx h1
  · rcases findOb_append ho with ho | ho
    · have := (GrsR.rows hmsM hgr' ho).2.1
      rw [this] at hp; cases hp
    · rcases findOb_set _ _ _ _ ho with ⟨rfl, rfl⟩ | ⟨hne, ho⟩
      · rw [hM2 hid]
        exact h.pins _ _ hob hp
      · obtain ⟨mo, h4, _⟩ := h3.obs k o ho
        obtain ⟨h6, _⟩ := dropMs_some h4
        rw [hM2 h6]
        have := h3.pins k o ho hp
        unfold dropMs at this
        rw [if_neg h6] at this
        exact this

/-- Some blocks may have been written, in which neither data nor an object lie. -/
theorem Inv.turnX {w' : World} {X : Nat → Prop} (h : Inv w0 F0 F M σ a w) (hb : BelX w X w') (hX : ∀ g, X g → w0.nw g ∧ ¬F g ∧ ∀ i mi, M i = some mi → mi.g ≠ some g) : Inv w0 F0 F M σ a w' := by
  have hs : Same F w w' := fun g hg => hb.block g (h.flt g hg).1 fun hx => (hX g hx).2.1 hg
  have hsz : w.heap.size ≤ w'.heap.size := hb.size
  refine ⟨h.defers, h.size, fun i => (h.slots i).keep hs (fun _ x => x) (MLe.refl M), fun id o ho => ?_, h.apart, fun i mi g hi hgi => ?_, fun g hg => ?_, h.fle, ?_, h.pins⟩
  · obtain ⟨mo, h1, h2⟩ := h.obs id o ho
    exact ⟨mo, h1, h2.keep hs (fun _ x => x) (MLe.refl M) fun g hgi => hb.block g (h.mine _ _ _ h1 hgi).2.2 fun hx => (hX g hx).2.2 _ _ h1 hgi⟩
  · obtain ⟨h1, h2, h3⟩ := h.mine i mi g hi hgi
    exact ⟨h1, h2, Nat.lt_of_lt_of_le h3 hsz⟩
  · obtain ⟨h1, h2⟩ := h.flt g hg
    exact ⟨Nat.lt_of_lt_of_le h1 hsz, h2⟩
  · refine ⟨hb.os.trans h.below.os, hb.tape.trans h.below.tape, hb.output.trans h.below.output, Nat.le_trans h.below.size hsz, fun k hk hx => ?_⟩
    refine (hb.block k (Nat.lt_of_lt_of_le hk h.below.size) fun hg => ?_).trans (h.below.block k hk hx)
    rcases (hX k hg).1 with h1 | h1
    · omega
    · exact hx h1

end
end Go.Proofs.Ytnkinnhgahpcoaa.Vc
