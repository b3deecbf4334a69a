/-
  THE CONDITION IS SOUND, LAST PART: loops, all code, and from a body's condition to 'Spec'.
  No condition: the theorems hold for every program that follows Go's mixed orders.
-/
import Derived.Test.YtnkinnhgahpcoaaVm
import Derived.LoopN
import Derived.Scope
namespace Go.Proofs.Ytnkinnhgahpcoaa.Vc
open Go.RowKit

section
variable {P : Program} {w0 : W0 P} {w : World} {F0 F F1 : Nat → Prop} {M : Nat → Option MO} {σ : St} {a : Act} {μ : List Nat} {tbl : List (Nat × List Nat × List (Nat × Sh))}

/-! ### A loop's head -/

theorem Inv.slot (h : Inv w0 F0 F M σ a w) {t : Nat} {d : D} (hr : R w F M (a.tmps.getD t undef) d) : Inv w0 F0 F M { σ with sl := (t, d) :: σ.sl } a w := by
  refine ⟨h.defers, h.size, fun i => ?_, h.obs, h.apart, h.mine, h.flt, h.fle, h.below, h.pins⟩
  show R w F M (a.tmps.getD i undef) (find ((t, d) :: σ.sl) i)
  by_cases hi : i = t
  · subst hi; rw [find_cons_eq]; exact hr
  · rw [find_cons_ne _ _ hi]; exact h.slots i

theorem Inv.nilRow (h : Inv w0 F0 F M σ a w) (s : Nat) (sh : Sh) : ∃ M', Inv w0 F0 F M' (σ.nilRow s sh) a w := by
  unfold St.nilRow
  split
  · rename_i id e t
    split
    · rename_i hf
      have hs := h.slots s
      rw [hf] at hs
      obtain ⟨A, hv⟩ := hs
      obtain ⟨M', h1, h2, _⟩ := (h.kill id).addOb id (dropM_none M id) (.row false e t []) ⟨none, a.tmps.getD s undef, t.width⟩ rfl fun M' _ _ => ⟨rfl, .inl ⟨rfl, rfl, A, hv⟩⟩
      exact ⟨M', h1.slot (t := s) (d := .slo id) ⟨_, h2, rfl, by rw [hv]; rfl⟩⟩
    · exact ⟨M, h⟩
  · rename_i id T fs
    obtain ⟨M', h1, _⟩ := h.gnils id fs 0 0
    exact ⟨M', h1⟩
  · exact ⟨M, h⟩

theorem Inv.nilRows : ∀ (l : List (Nat × Sh)) {M : Nat → Option MO} {σ : St}, Inv w0 F0 F M σ a w → ∃ M', Inv w0 F0 F M' (σ.nilRows l) a w
  | [], M, _, h => ⟨M, h⟩
  | (s, sh) :: r, M, σ, h => by
    obtain ⟨M1, h1⟩ := h.nilRow s sh
    exact Inv.nilRows r h1

theorem dropObs_row : ∀ (ids : List Nat) (ob : List (Nat × Ob)) {i : Nat} {p : Bool} {e : TypeId} {t : Ty} {xs : List t.I}, findOb (dropObs ob ids) i = some (.row p e t xs) → i ∉ ids ∧ findOb ob i = some (.row p e t xs)
  | [], ob, i, p, e, t, xs, h => ⟨by simp, h⟩
  | j :: r, ob, i, p, e, t, xs, h => by
    obtain ⟨h1, h2⟩ := dropObs_row r _ h
    rw [findOb_ice] at h2
    split at h2
    · cases h2
    · rename_i hne
      obtain ⟨o', h3, h4⟩ := Option.map_eq_some_iff.1 h2
      cases o' with
      | cells p' T' cs => cases h4
      | arr t' ys => cases h4
      | buf e' ys => cases h4
      | row p' e' t' ys =>
        have h4' : Ob.row p' e' t' ys = Ob.row p e t xs := h4
        rw [h4'] at h3
        exact ⟨by simp [hne, h1], h3⟩

/-- The objects of 'ids' stay; all else is frozen. -/
def keepF (F : Nat → Prop) (M : Nat → Option MO) (ids : List Nat) : Nat → Prop := fun g => F g ∨ ∃ i mo, M i = some mo ∧ mo.g = some g ∧ i ∉ ids

theorem R0.less (h : Inv w0 F0 F M σ a w) {ids : List Nat} {v : Value} {d : D} (hr : R0 w F M v d) : R0 w (keepF F M ids) noM v (snap0 (dropObs σ.ob ids) d) := by
  have hF : ∀ g, F g → keepF F M ids g := fun _ hg => .inl hg
  cases d <;> simp only [snap0] <;> first | exact trivial | skip
  case val => exact RV.keep (fun _ _ => rfl) hF hr
  case fn => exact hr
  case nils => exact hr
  case clo g cs =>
    obtain ⟨us, h1, h2, h3⟩ := hr
    refine ⟨us, h1, h2, fun j c hj => ?_⟩
    obtain ⟨u, h4, h5, h6⟩ := h3 j c hj
    exact ⟨u, h4, h5, h6.keep (fun _ _ => rfl) hF⟩
  case ept cs =>
    obtain ⟨a, us, h1, h2, h3, h4, h5⟩ := hr
    refine ⟨a, us, h1, hF _ h2, h3, h4, fun j c hj => ?_⟩
    obtain ⟨u, h6, h7⟩ := h5 j c hj
    exact ⟨u, h6, h7.keep (fun _ _ => rfl) hF⟩
  case slo i =>
    obtain ⟨mo, h1, h2, _⟩ := hr
    split
    · rename_i e t xs hfo
      obtain ⟨hni, hfo'⟩ := dropObs_row _ _ hfo
      obtain ⟨mo', h3, h4⟩ := h.obs _ _ hfo'
      have : mo' = mo := Option.some.inj (h3.symm.trans h1)
      subst this
      rw [h2]
      exact h4.2.reads hF fun g hg => .inr ⟨i, mo', h3, hg, hni⟩
    · exact trivial

theorem Rel.less (h : Inv w0 F0 F M σ a w) {ids : List Nat} {us : List Value} {cs : List D} (hr : Rel w F M us cs) : Rel w (keepF F M ids) noM us (snaps0 (dropObs σ.ob ids) cs) := by
  refine ⟨by rw [snaps0_len]; exact hr.1, fun j c hj => ?_⟩
  rw [snaps0_get] at hj
  obtain ⟨c', hc', rfl⟩ := Option.map_eq_some_iff.1 hj
  obtain ⟨u, h1, h2, h3⟩ := hr.2 j c' hc'
  exact ⟨u, h1, h2, h3.less h⟩

theorem asData_sound (h : Inv w0 F0 F M σ a w) {ids : List Nat} {t : Ty} {v : Value} {d : D} (hr : R w F M v d) (M2 : Nat → Option MO) : R w (keepF F M ids) M2 v (asData (dropObs σ.ob ids) t d) := by
  unfold asData
  split
  · rename_i cs hc
    split
    · rename_i x hsh hx
      have hrel := cellsOf_spec hr hc
      have hrv : RV w (keepF F M ids) t x v.cells.toList := decAll_spec (hrel.less h) hx
      have hleaf : (∀ cs', d ≠ .agg cs') → v.oneCell' = true := leaf_one hr hc
      refine R.of1 (R1.of_cells hrv ?_ fun _ => ?_)
      · by_cases hag : ∃ cs', d = .agg cs'
        · obtain ⟨cs', rfl⟩ := hag
          obtain ⟨us, hv, _⟩ := hr
          exact .inr ⟨us, hv⟩
        · exact .inl (hleaf fun cs' e => hag ⟨cs', e⟩)
      · unfold shapeOk at hsh
        cases t with
        | pair p q => exact .inr ⟨p, q, rfl⟩
        | _ => exact .inl (hleaf fun cs' e => by rw [e] at hsh; cases hsh)
    · exact trivial
  · exact trivial

theorem find_keep (less : List (Nat × Ob)) (sl : List (Nat × D)) : ∀ (l : List (Nat × Sh)) (i : Nat), find (keepSl less sl l) i = .bad ∨ ∃ sh, (i, sh) ∈ l ∧ find (keepSl less sl l) i = keepD less sl i sh
  | [], i => .inl rfl
  | (s, sh) :: r, i => by
    simp only [keepSl, find]
    rcases beq_cases i s with ⟨rfl, hb⟩ | ⟨_, hb⟩
    · rw [hb]; exact .inr ⟨sh, by simp, rfl⟩
    · rw [hb]
      rcases find_keep less sl r i with h | ⟨sh', h1, h2⟩
      · exact .inl h
      · exact .inr ⟨sh', by simp [h1], h2⟩

theorem findOb_mem : ∀ {l : List (Nat × Ob)} {i : Nat} {o : Ob}, findOb l i = some o → (i, o) ∈ l
  | (j, q) :: r, i, o, h => by
    simp only [findOb] at h
    rcases beq_cases i j with ⟨rfl, hb⟩ | ⟨_, hb⟩
    · rw [hb] at h
      have : q = o := Option.some.inj h
      subst this
      simp
    · rw [hb] at h
      exact List.mem_cons_of_mem _ (findOb_mem h)

theorem keepOb_mem {less ob : List (Nat × Ob)} {i : Nat} {o : Ob} : ∀ {l : List (Nat × Sh)}, (i, o) ∈ keepOb less ob l → ∃ s sh, (s, sh) ∈ l ∧ (i, o) ∈ keepO less ob sh
  | (s, sh) :: r, h => by
    simp only [keepOb, List.mem_append] at h
    rcases h with h | h
    · exact ⟨s, sh, by simp, h⟩
    · obtain ⟨s', sh', h1, h2⟩ := keepOb_mem h
      exact ⟨s', sh', by simp [h1], h2⟩

def shId : Sh → Option Nat
  | .fnc _ => none
  | .val _ => none
  | .row _ id _ _ => some id
  | .arr id _ => some id
  | .cel _ id _ _ => some id
  | .grp _ id _ _ => some id
  | .als id => some id
  | .ept _ => none

theorem shIds_mem {s : Nat} {sh : Sh} {i : Nat} (hi : shId sh = some i) : ∀ {l : List (Nat × Sh)}, (s, sh) ∈ l → i ∈ shIds l
  | (s', sh') :: r, h => by
    rcases List.mem_cons.1 h with h | h
    · cases h
      cases sh <;> simp only [shId, Option.some.injEq] at hi <;> first | (cases hi; done) | (subst hi; simp [shIds])
    · have := shIds_mem hi h
      cases sh' <;> simp [shIds, this]

theorem shIds_gid {s id i : Nat} {p : Bool} {T : TypeId} {fs : List Fd} (hi : i ∈ gids id 0 fs) : ∀ {l : List (Nat × Sh)}, (s, .grp p id T fs) ∈ l → i ∈ shIds l
  | (s', sh') :: r, h => by
    rcases List.mem_cons.1 h with h | h
    · cases h
      simp [shIds, hi]
    · have := shIds_gid hi h
      cases sh' <;> simp [shIds, this]

theorem Inv.keep (h : Inv w0 F0 F M σ a w) (l : List (Nat × Sh)) : ∃ F' M', Inv w0 F0 F' M' (σ.keep l) a w := by
  have hF : ∀ g, F g → keepF F M (shIds l) g := fun _ hg => .inl hg
  let M' : Nat → Option MO := fun i => if i ∈ shIds l then M i else none
  have hM' : ∀ {i : Nat} {mo : MO}, M' i = some mo → i ∈ shIds l ∧ M i = some mo := fun {i mo} hi => by
    have hi : (if i ∈ shIds l then M i else none) = some mo := hi
    split at hi
    · exact ⟨‹_›, hi⟩
    · cases hi
  have hM2 : ∀ {i : Nat} {mo : MO}, i ∈ shIds l → M i = some mo → M' i = some mo := fun {i mo} h1 h2 => by
    show (if i ∈ shIds l then M i else none) = some mo
    rw [if_pos h1]; exact h2
  refine ⟨keepF F M (shIds l), M', h.defers, h.size, fun i => ?_, fun id o ho => ?_, fun i j mi mj g hi hj => h.apart i j mi mj g (hM' hi).2 (hM' hj).2, fun i mi g hi hg => ?_, fun g hg => ?_, fun g hg => hF g (h.fle g hg), h.below, fun id o ho hpo => ?_⟩
  · show R w _ _ (a.tmps.getD i undef) (find (keepSl _ σ.sl l) i)
    rcases find_keep (dropObs σ.ob (shIds l)) σ.sl l i with hb | ⟨sh, hmem, hb⟩
    · rw [hb]; exact trivial
    · rw [hb]
      have hs := h.slots i
      unfold keepD
      split
      · rename_i g
        split
        · rename_i k hf
          rw [hf] at hs
          rcases beq_cases k g with ⟨rfl, hbq⟩ | ⟨_, hbq⟩
          · rw [hbq]; exact hs
          · rw [hbq]; exact trivial
        · exact trivial
      · exact asData_sound h hs M'
      · rename_i pn id e t
        split
        · rename_i i' hf
          rw [hf] at hs
          obtain ⟨mo, h1, h2, h3⟩ := hs
          rcases beq_cases i' id with ⟨rfl, hbq⟩ | ⟨_, hbq⟩
          · rw [hbq]; exact ⟨mo, hM2 (shIds_mem (sh := .row pn i' e t) rfl hmem) h1, h2, h3⟩
          · rw [hbq]; exact trivial
        · exact trivial
      · rename_i id t
        split
        · rename_i i' hf
          rw [hf] at hs
          obtain ⟨mo, g, h1, h2⟩ := hs
          rcases beq_cases i' id with ⟨rfl, hbq⟩ | ⟨_, hbq⟩
          · rw [hbq]; exact ⟨mo, g, hM2 (shIds_mem (sh := .arr i' t) rfl hmem) h1, h2⟩
          · rw [hbq]; exact trivial
        · exact trivial
      · rename_i pn id T t
        split
        · rename_i i' o' hf
          rw [hf] at hs
          obtain ⟨mo, g, h1, h2⟩ := hs
          rcases beq_cases i' id with ⟨rfl, hbq⟩ | ⟨_, hbq⟩
          · rw [hbq]; exact ⟨mo, g, hM2 (shIds_mem (sh := .cel pn i' T t) rfl hmem) h1, h2⟩
          · rw [hbq]; exact trivial
        · exact trivial
      · rename_i pn id T fs
        split
        · rename_i i' o' hf
          rw [hf] at hs
          obtain ⟨mo, g, h1, h2⟩ := hs
          rcases beq_cases i' id with ⟨rfl, hbq⟩ | ⟨_, hbq⟩
          · rw [hbq]; exact ⟨mo, g, hM2 (shIds_mem (sh := .grp pn i' T fs) rfl hmem) h1, h2⟩
          · rw [hbq]; exact trivial
        · exact trivial
      · rename_i id
        split
        · rename_i i' hf
          rw [hf] at hs
          obtain ⟨mo, h1, h2, h3⟩ := hs
          rcases beq_cases i' id with ⟨rfl, hbq⟩ | ⟨_, hbq⟩
          · rw [hbq]; exact ⟨mo, hM2 (shIds_mem (sh := .als i') rfl hmem) h1, h2, h3⟩
          · rw [hbq]; exact trivial
        · exact trivial
      · rename_i t
        split
        · rename_i cs hf
          rw [hf] at hs
          split
          · rename_i x hx
            obtain ⟨a1, us, h1, h2, h3, h4, h5⟩ := hs
            have hrel : Rel w F M us cs := ⟨h4, fun j c hj => by
              obtain ⟨u, h6, h7⟩ := h5 j c hj
              exact ⟨u, h6, (h3 j u h6).2, h7.to0⟩⟩
            have hrv := decAll_spec (hrel.less h (ids := shIds l)) hx
            exact ⟨a1, us, h1, hF _ h2, h3, by rw [enc_len]; exact hrv.len, enc_reads hrv⟩
          · exact trivial
        · exact trivial
  · obtain ⟨s, sh, hmem, hko⟩ := keepOb_mem (findOb_mem ho)
    unfold keepO at hko
    split at hko
    · cases hko
    · cases hko
    · rename_i pn id' e t
      split at hko
      · rename_i pn' e' t' xs hf
        simp only [List.mem_cons, List.not_mem_nil, or_false, Prod.mk.injEq] at hko
        obtain ⟨rfl, rfl⟩ := hko
        obtain ⟨mo, h1, h2⟩ := h.obs _ _ hf
        refine ⟨mo, hM2 (shIds_mem (sh := .row pn id e t) rfl hmem) h1, h2.1, h2.2.keep (fun _ _ => rfl) hF fun _ _ => rfl⟩
      · cases hko
    · rename_i id' t
      split at hko
      · rename_i t' xs hf
        simp only [List.mem_cons, List.not_mem_nil, or_false, Prod.mk.injEq] at hko
        obtain ⟨rfl, rfl⟩ := hko
        obtain ⟨mo, h1, g, us, ty, h2, h3, h4, h5, h6⟩ := h.obs _ _ hf
        exact ⟨mo, hM2 (shIds_mem (sh := .arr id t) rfl hmem) h1, g, us, ty, h2, h3, h4, h5, h6.keep (fun _ _ => rfl) hF⟩
      · cases hko
    · rename_i pn id' Tc t
      split at hko
      · rename_i pn' Tc' cs hf
        split at hko
        · rename_i x hx
          simp only [List.mem_cons, List.not_mem_nil, or_false, Prod.mk.injEq] at hko
          obtain ⟨rfl, rfl⟩ := hko
          obtain ⟨mo, h1, g, us, h2, h3, h4, h5⟩ := h.obs _ _ hf
          have hrel : Rel w F M us.toList cs := ⟨by simpa using h4, fun j c hj => by simpa using h5 j c hj⟩
          have hrv := decAll_spec (hrel.less h (ids := shIds l)) hx
          refine ⟨mo, hM2 (shIds_mem (sh := .cel pn id Tc t) rfl hmem) h1, g, us, h2, h3, ?_, fun j c hj => ?_⟩
          · have := hrv.len; rw [enc_len]; simpa using this
          · obtain ⟨u, h6, h7⟩ := enc_reads hrv j c hj
            exact ⟨u, by simpa using h6, hrv.one u (List.mem_of_getElem? h6), h7.to0⟩
        · cases hko
      · cases hko
    · rename_i pn id' Tc fs
      split at hko
      · rename_i pn' Tc' cs hf
        split at hko
        · rename_i x hx
          obtain ⟨mo, h1, g, us, h2, h3, h4, h5⟩ := h.obs _ _ hf
          have hidm := shIds_mem (sh := .grp pn id' Tc fs) rfl hmem
          have hgm : ∀ i, gid id' i ∈ gids id' 0 fs → M (gid id' i) = M' (gid id' i) := fun i hi => (if_pos (shIds_gid hi hmem)).symm
          have hrel : Rel w F M us.toList cs := ⟨by simpa using h4, fun j c hj => by simpa using h5 j c hj⟩
          have hgr := gRead_spec h h1 h2 (ms := fun i => M (gid id' i)) (fun _ _ => rfl) hrel hx
          have hgr' : GrsR w (keepF F M (shIds l)) w0.nw g (fun i => M (gid id' i)) 0 fs x us.toList := GrsR.keep (fun _ _ => rfl) hF (fun j mj b hj hb => ⟨rfl, (h.mine _ _ _ hj hb).2.1⟩) hgr
          rcases List.mem_append.1 hko with hko | hko
          · exact (GrsR.rows (M := M') (fun i hi => hgm i hi) hgr' hko).2.2
          · simp only [List.mem_cons, List.not_mem_nil, or_false, Prod.mk.injEq] at hko
            obtain ⟨rfl, rfl⟩ := hko
            have hrel' := GrsR.rel (M := M') (hM2 hidm h1) h2 (fun i hi => hgm i hi) hgr'
            refine ⟨mo, hM2 hidm h1, g, us, h2, h3, by simpa using hrel'.1, fun j c hj => ?_⟩
            obtain ⟨u, h6, h7⟩ := hrel'.2 j c hj
            exact ⟨u, by simpa using h6, h7⟩
        · cases hko
      · cases hko
    · cases hko
    · cases hko
  · obtain ⟨h1, h2⟩ := hM' hi
    obtain ⟨h3, h4⟩ := h.mine i mi g h2 hg
    refine ⟨fun hc => ?_, h4⟩
    rcases hc with hc | ⟨j, mj, hj, hjg, hni⟩
    · exact h3 hc
    · have := h.apart i j mi mj g h2 hj hg hjg
      subst this
      exact hni h1
  · rcases hg with hg | ⟨i, mo, h1, h2, _⟩
    · exact h.flt g hg
    · obtain ⟨_, h3, h4⟩ := h.mine i mo g h1 h2
      exact ⟨h4, .inr h3⟩
  · obtain ⟨s, sh, hmem, hko⟩ := keepOb_mem (findOb_mem ho)
    unfold keepO at hko
    split at hko
    · cases hko
    · cases hko
    · rename_i pn id' e t
      split at hko
      · rename_i pn' e' t' xs hf
        simp only [List.mem_cons, List.not_mem_nil, or_false, Prod.mk.injEq] at hko
        obtain ⟨rfl, rfl⟩ := hko
        rw [show M' id = M id from if_pos (shIds_mem (sh := .row pn id e t) rfl hmem)]
        exact h.pins _ _ hf hpo
      · cases hko
    · rename_i id' t
      split at hko
      · rename_i t' xs hf
        simp only [List.mem_cons, List.not_mem_nil, or_false, Prod.mk.injEq] at hko
        obtain ⟨rfl, rfl⟩ := hko
        cases hpo
      · cases hko
    · rename_i pn id' Tc t
      split at hko
      · rename_i pn' Tc' cs hf
        split at hko
        · rename_i x hx
          simp only [List.mem_cons, List.not_mem_nil, or_false, Prod.mk.injEq] at hko
          obtain ⟨rfl, rfl⟩ := hko
          rw [show M' id = M id from if_pos (shIds_mem (sh := .cel pn id Tc t) rfl hmem)]
          exact h.pins _ _ hf hpo
        · cases hko
      · cases hko
    · rename_i pn id' Tc fs
      split at hko
      · rename_i pn' Tc' cs hf
        split at hko
        · rename_i x hx
          obtain ⟨mo, h1, g, us, h2, h3, h4, h5⟩ := h.obs _ _ hf
          have hrel : Rel w F M us.toList cs := ⟨by simpa using h4, fun j c hj => by simpa using h5 j c hj⟩
          have hgr := gRead_spec h h1 h2 (ms := fun i => M (gid id' i)) (fun _ _ => rfl) hrel hx
          rcases List.mem_append.1 hko with hko | hko
          · have := (GrsR.rows (M := M) (fun _ _ => rfl) hgr hko).2.1
            rw [this] at hpo; cases hpo
          · simp only [List.mem_cons, List.not_mem_nil, or_false, Prod.mk.injEq] at hko
            obtain ⟨rfl, rfl⟩ := hko
            rw [show M' id = M id from if_pos (shIds_mem (sh := .grp pn id Tc fs) rfl hmem)]
            exact h.pins _ _ hf hpo
        · cases hko
      · cases hko
    · cases hko
    · cases hko

theorem Inv.norm (h : Inv w0 F0 F M σ a w) (l : List (Nat × Sh)) : ∃ F' M', Inv w0 F0 F' M' (σ.norm l) a w := by
  obtain ⟨M1, h1⟩ := h.nilRows l
  exact h1.keep l

/-! ### Rules -/

theorem S.mono {c : Code} {k k' : Exit → St → Prop} (h : S P c σ k) (hk : ∀ e σ', k e σ' → k' e σ') : S P c σ k' := fun w0 F0 F M a w hi =>
  wp_mono (h w0 F0 F M a w hi) fun e _ _ ⟨σ', F', M', hK, hI⟩ => ⟨σ', F', M', hk e σ' hK, hI⟩

theorem S.norm {c : Code} {k : Exit → St → Prop} (l : List (Nat × Sh)) (h : S P c (σ.norm l) k) : S P c σ k := fun w0 F0 F M a w hi => by
  obtain ⟨F', M', h1⟩ := hi.norm l
  exact h w0 F0 F' M' a w h1

theorem loopEnds_sound {b : Code} {l : List (Nat × Sh)} {k : Exit → St → Prop} : ∀ {ids : List Nat}, loopEnds P b σ l k ids → S P (.loop b) σ k
  | [], h => S.norm l (S.mono h fun e σ' ⟨he, hk⟩ => by rw [he]; exact hk)
  | id :: r, h => by
    rcases h with ⟨x, h1, h2⟩ | h
    · refine S.norm l fun w0 F0 F M a w hi => wp_mono (h1 w0 F0 F M a w hi) fun e a' w' ⟨σ', F', M', ⟨he, hn⟩, hI⟩ => ?_
      obtain ⟨F2, M2, hI2⟩ := hI.norm l
      rw [hn] at hI2
      exact ⟨_, F2, M2, by rw [he]; exact h2, hI2⟩
    · exact loopEnds_sound h

/-- At most n rounds of a loop. -/
def SL (P : Program) (n : Nat) (b : Code) (σ : St) (k : Exit → St → Prop) : Prop :=
  ∀ (w0 : W0 P) F0 F M a w, Inv w0 F0 F M σ a w → Code.rounds P b (fun e a' w' => ∃ σ' F' M', k e σ' ∧ Inv w0 F0 F' M' σ' a' w') n a w

theorem SL.loop {n : Nat} {b : Code} {k : Exit → St → Prop} (h : SL P n b σ k) : S P (.loop b) σ k := fun w0 F0 F M a w hi => wp_loop_rounds n (h w0 F0 F M a w hi)

/-- One round: behind it the head's slots stay. -/
def roundK (P : Program) (n : Nat) (b : Code) (l : List (Nat × Sh)) (k : Exit → St → Prop) (e : Exit) (σ : St) : Prop :=
  match e with
  | .normal => SL P n b (σ.norm l) k
  | e => k e σ

theorem SL.succ {n : Nat} {b : Code} {l : List (Nat × Sh)} {k : Exit → St → Prop} (h : S P b σ (roundK P n b l k)) : SL P (n + 1) b σ k := fun w0 F0 F M a w hi => by
  rw [rounds_succ]
  refine wp_mono (h w0 F0 F M a w hi) fun e a' w' ⟨σ', F', M', hK, hI⟩ => ?_
  cases e with
  | normal =>
    obtain ⟨F2, M2, hI2⟩ := hI.norm l
    exact hK w0 F0 F2 M2 a' w' hI2
  | _ => exact ⟨σ', F', M', hK, hI⟩

/-! ### All code -/

theorem wpc_sound (hm : P.follows .mixedOrders = true) : ∀ (c : Code) (σ : St) (k : Exit → St → Prop), wpc P tbl μ c σ k → S P c σ k
  | .skip, σ, k, hk => fun w0 F0 F M a w h => wp_skip ⟨σ, F, M, hk, h⟩
  | .label l, σ, k, hk => fun w0 F0 F M a w h => wp_label ⟨σ, F, M, hk, h⟩
  | .exit id, σ, k, hk => fun w0 F0 F M a w h => wp_exit ⟨σ, F, M, hk, h⟩
  | .ret, σ, k, hk => fun w0 F0 F M a w h => wp_ret ⟨σ, F, M, hk, h⟩
  | .loop b, σ, k, hk => by
    unfold wpc at hk
    split at hk
    · exact loopEnds_sound hk
    · exact hk.elim
  | .region id ops draw, σ, k, hk => fun w0 F0 F M a w h => by
    unfold wpc at hk
    cases draw with
    | false => exact wp_region_list (wpr_sound h hk fun σ' F' M' a' w' hK hI => ⟨σ', F', M', hK, hI⟩)
    | true =>
      cases hd : drawOk P μ ops with
      | false =>
        rw [hd] at hk
        cases ha : anyOk ops with
        | false => rw [ha] at hk; exact hk.elim
        | true =>
          rw [ha] at hk
          dsimp only [cond_true, cond_false] at hk
          split at hk
          · rename_i l1 _ l2 _ _
            obtain ⟨x, hS, hk2⟩ := hk
            obtain ⟨F1, M1, h1⟩ := h.norm l1
            refine wp_mono (hS w0 F0 F1 M1 a w h1) fun e a' w' ⟨σ', F', M', hK, hI⟩ => ?_
            cases e with
            | normal =>
              obtain ⟨F2, M2, hI2⟩ := hI.norm l2
              have hK' : σ'.norm l2 = buildSt σ.n l2 x := hK
              rw [hK'] at hI2
              exact ⟨_, F2, M2, hk2, hI2⟩
            | _ => exact (show False from hK).elim
          · exact wp_any hm h ha hk fun σ' F' M' a' w' hK hI => ⟨σ', F', M', hK, hI⟩
      | true =>
        rw [hd] at hk
        exact wp_drawn hm h hd hk fun σ' F' M' a' w' hK hI => ⟨σ', F', M', hK, hI⟩
  | .seq x y, σ, k, hk => fun w0 F0 F M a w h => by
    unfold wpc at hk
    refine wp_seq (wp_mono (wpc_sound hm x σ _ hk w0 F0 F M a w h) fun e a' w' ⟨σ', F', M', hK, hI⟩ => ?_)
    cases e with
    | normal => exact wpc_sound hm y σ' k hK w0 F0 F' M' a' w' hI
    | _ => exact ⟨σ', F', M', hK, hI⟩
  | .cond c x y, σ, k, hk => fun w0 F0 F M a w h => by
    unfold wpc at hk
    split at hk
    · rename_i b hb
      have hc := h.ev c
      rw [hb] at hc
      have hv := hc.bool
      have lit : ∀ b', b = b' → Inv w0 F0 F M (σ.litOp c b') a w := fun b' e => by
        subst e
        unfold St.litOp
        split
        · exact h.lit hv
        · exact h
      cases b with
      | true => exact wp_cond_true hv (wpc_sound hm x _ k hk w0 F0 F M a w (lit true rfl))
      | false => exact wp_cond_false hv (wpc_sound hm y _ k hk w0 F0 F M a w (lit false rfl))
    · exact hk.elim
  | .block id b, σ, k, hk => fun w0 F0 F M a w h => by
    unfold wpc at hk
    refine wp_block (wp_mono (wpc_sound hm b σ _ hk w0 F0 F M a w h) fun e a' w' ⟨σ', F', M', hK, hI⟩ => ?_)
    cases e with
    | exit i =>
      have hK' : (bif Nat.beq i id then k .normal σ' else k (.exit i) σ') := hK
      simp only [Exit.inBlock]
      rcases beq_cases i id with ⟨rfl, hb⟩ | ⟨hne, hb⟩
      · rw [hb] at hK'; rw [if_pos rfl]; exact ⟨σ', F', M', hK', hI⟩
      · rw [hb] at hK'; rw [if_neg hne]; exact ⟨σ', F', M', hK', hI⟩
    | _ => exact ⟨σ', F', M', hK, hI⟩
  | .rangeFunc _ _ _ _, _, _, hk => (show False from hk).elim
  | .scope b, σ, k, hk => fun w0 F0 F M a w h => by
    unfold wpc at hk
    refine wp_scope_straight (wp_mono (wpc_sound hm b σ _ hk w0 F0 F M a w h) fun e a' w' ⟨σ', F', M', hK, hI⟩ => ?_)
    cases e with
    | goto _ => exact hK.elim
    | _ => exact ⟨σ', F', M', hK, hI⟩
  | .goto _, _, _, hk => (show False from hk).elim
  | .refuse _, _, _, hk => (show False from hk).elim

/-! ### A function -/

theorem argSl_find : ∀ (ds : List D) (k i : Nat), find (argSl k ds) (k + i) = match ds[i]? with | some d => d | none => .bad
  | [], k, i => by simp [argSl, find]
  | d :: r, k, 0 => by simp [argSl, find]
  | d :: r, k, i + 1 => by
    have hne : k + (i + 1) ≠ k := by omega
    have hb : Nat.beq (k + (i + 1)) k = false := (beq_cases _ _).resolve_left (fun h => hne h.1) |>.2
    have : find (argSl k (d :: r)) (k + (i + 1)) = find (argSl (k + 1) r) (k + (i + 1)) := by simp only [argSl, find, hb, cond_false]
    rw [this, show k + (i + 1) = k + 1 + i by omega, argSl_find r (k + 1) i]
    simp

theorem run_results {fn : Func} {tmps : Array Value} {vs : List Value} (h : (fn.results.toList.mapM (oneRes tmps)).run P w = .ok vs w) :
    (results fn tmps).run P w = .ok (if hs : vs.toArray.size = 1 then vs.toArray[0] else .tuple vs.toArray) w := by
  have hr : (fn.results.mapM (oneRes tmps)).run P w = .ok vs.toArray w := by
    rw [← Array.toArray_toList (xs := fn.results), List.mapM_toArray]
    simp [h]
  have e : results fn tmps = (do let vs ← fn.results.mapM (oneRes tmps); Pure.pure (if h : vs.size = 1 then vs[0] else .tuple vs)) := by
    unfold results
    congr 1
  rw [e, Sem.run_bind, hr]
  rfl

theorem RR0.toRR {B : Nat → Prop} {G : Option Nat} {v : Value} {d : D} (h : RR0 w F B G v d) : RR w F B G v d := by
  cases d <;> first | exact h | exact h.elim

theorem OwnR.imp {B B' : Nat → Prop} (hB : ∀ g, B g → B' g) {G : Option Nat} {v : Value} {e : TypeId} {t : Ty} {xs : List t.I} (h : OwnR w F B G v e t xs) : OwnR w F B' G v e t xs := by
  rcases h with h | ⟨g, cap, us, h1, h2, h3⟩
  · exact .inl h
  · exact .inr ⟨g, cap, us, h1, hB g h2, h3⟩
theorem RR0.imp {B B' : Nat → Prop} (hB : ∀ g, B g → B' g) {G : Option Nat} {v : Value} {d : D} (h : RR0 w F B G v d) : RR0 w F B' G v d := by
  cases d <;> first | exact OwnR.imp hB h | exact h
theorem RR.imp {B B' : Nat → Prop} (hB : ∀ g, B g → B' g) {G : Option Nat} {v : Value} {d : D} (h : RR w F B G v d) : RR w F B' G v d := by
  cases d with
  | tup xs =>
    obtain ⟨vs, h1, h2, h3⟩ := h
    exact ⟨vs, h1, h2, fun j d hj => by
      obtain ⟨u, h4, h5⟩ := h3 j d hj
      exact ⟨u, h4, h5.imp hB⟩⟩
  | _ => first | exact OwnR.imp hB h | exact h

theorem Spec_of {f : FuncId} {fn : Func} {c : Code} (hf : P.funcs[f]? = some fn) (hb : fn.body = some c) (hname : (fn.name == "runtime.NumGoroutine") = false) {ds : List D} (hlen : Nat.ble ds.length fn.ntmps = true) (own : Bool) {d : D}
    (hk : S P c { n := fn.ntmps, sl := argSl 0 ds, ob := [] } (retK P fn own d)) : Spec P f ds d := by
  refine ⟨fun args w => ?_, fun w vs F hF hgl hsz hargs => ?_⟩
  · have hn : ¬ fn.name = "runtime.NumGoroutine" := by simpa using hname
    simp [callFunc, hf, hn, hb]
  · have hle := Nat.le_of_ble_eq_true hlen
    refine calls_of_wp hf hb (wp_mono (hk ⟨w, fun _ => False, noM, fun g hg => ⟨hF g (hgl g hg).1, id, (hgl g hg).2⟩⟩ F F noM { tmps := vs ++ Array.replicate (fn.ntmps - vs.size) undef, defers := [] } w ?_) fun e a' w' ⟨σ', F', M', hK, hI⟩ => ?_)
    · refine ⟨rfl, by simp; omega, fun i => ?_, fun id o ho => (by cases ho), fun i j mi mj g hi => (by cases hi), fun i mi g hi => (by cases hi), fun g hg => ⟨hF g hg, .inl hg⟩, fun g hg => hg.elim id fun hg => (hgl g hg).1, ⟨rfl, rfl, rfl, Nat.le_refl _, fun _ _ _ => rfl⟩, fun id o ho => (by cases ho)⟩
      have hfi := argSl_find ds 0 i
      rw [Nat.zero_add] at hfi
      show R w F noM _ (find (argSl 0 ds) i)
      rw [hfi]
      cases hdi : ds[i]? with
      | none => exact trivial
      | some d' =>
        obtain ⟨v, h1, h2⟩ := hargs i d' hdi
        have hlt : i < vs.size := (Array.getElem?_eq_some_iff.1 h1).1
        have : (vs ++ Array.replicate (fn.ntmps - vs.size) undef).getD i undef = v := by
          rw [Array.getD_eq_getD_getElem?, Array.getElem?_append_left hlt, h1]; rfl
        show R w F noM ((vs ++ Array.replicate (fn.ntmps - vs.size) undef).getD i undef) d'
        rw [this]
        exact R.of1 h2
    · have fin : resD P σ' own fn = some d → a'.defers = [] ∧ ∃ v, (results fn a'.tmps).run P w' = .ok v w' ∧ ∃ v' F' G, Ending.returned v = .returned v' ∧ Below w.heap.size w w' ∧ (∀ g, F g → F' g) ∧ (∀ g, F' g → g < w'.heap.size ∧ (F g ∨ w.heap.size ≤ g)) ∧
          (∀ g, G = some g → w.heap.size ≤ g ∧ ¬F' g ∧ g < w'.heap.size) ∧ RR w' F' (fun g => w.heap.size ≤ g) G v' d := fun hr => by
        refine ⟨hI.defers, ?_⟩
        unfold resD at hr
        cases hra : resAll P σ' own fn.results.toList fn.resultTypes.toList with
        | none => rw [hra] at hr; cases hr
        | some ds' =>
          rw [hra] at hr
          obtain ⟨us, F2, G, h1, h2, h3, h4', h5', h6⟩ := res_sound hI own _ _ _ hra
          have hnw : ∀ g, (⟨w, fun _ => False, noM, fun g hg => ⟨hF g (hgl g hg).1, id, (hgl g hg).2⟩⟩ : W0 P).nw g → w.heap.size ≤ g := fun g hg => hg.elim id False.elim
          have h4 := fun g hg => (⟨(h4' g hg).1, (h4' g hg).2.imp id (hnw g)⟩ : g < w'.heap.size ∧ (F g ∨ w.heap.size ≤ g))
          have h5 := fun g hg => (⟨hnw g (h5' g hg).1, (h5' g hg).2⟩ : w.heap.size ≤ g ∧ ¬F2 g ∧ g < w'.heap.size)
          have hbel : Below w.heap.size w w' := ⟨hI.below.os, hI.below.tape, hI.below.output, hI.below.size, fun k hk => hI.below.block k hk id⟩
          refine ⟨_, run_results h1, _, F2, G, rfl, hbel, h3, h4, h5, RR.imp hnw ?_⟩
          match ds', us, h2, hr, h6 with
          | [], [], _, hr, h6 =>
            have : D.tup [] = d := by simpa using hr
            subst this
            exact ⟨#[], rfl, rfl, fun j d hj => by simp at hj⟩
          | [d1], [u1], _, hr, h6 =>
            have : d1 = d := by simpa using hr
            subst this
            obtain ⟨v, h7, h8⟩ := h6 0 _ rfl
            have : u1 = v := by simpa using h7
            subst this
            exact h8.toRR
          | d1 :: d2 :: r, u1 :: u2 :: r', h2, hr, h6 =>
            have : D.tup (d1 :: d2 :: r) = d := by simpa using hr
            subst this
            refine ⟨(u1 :: u2 :: r').toArray, ?_, by simpa using h2, fun j d hj => ?_⟩
            · simp
            · obtain ⟨v, h7, h8⟩ := h6 j d hj
              exact ⟨v, by simpa using h7, h8⟩
      cases e with
      | normal => exact fin hK
      | ret => exact fin hK
      | _ => exact (show False from hK).elim

/-- What a function does that writes into its first argument's row, and returns no list. -/
def retKR (P : Program) (fn : Func) (e : TypeId) (t : Ty) (ys : List t.I) (d : D) (en : Exit) (σ : St) : Prop :=
  (en = .normal ∨ en = .ret) ∧ resD P σ false fn = some d ∧ findOb σ.ob 0 = some (.row true e t ys)

theorem SpecR_of {f : FuncId} {fn : Func} {c : Code} (hf : P.funcs[f]? = some fn) (hb : fn.body = some c) (hname : (fn.name == "runtime.NumGoroutine") = false) {ds : List D} (hlen : Nat.ble (ds.length + 1) fn.ntmps = true) {d : D}
    {e : TypeId} {t : Ty} {xs ys : List t.I} (hd : d = .tup [] ∨ ∃ (u : Ty) (x : u.I), u.flat = true ∧ d = encV u x)
    (hk : S P c { n := fn.ntmps, sl := (0, .slo 0) :: argSl 1 ds, ob := [(0, .row true e t xs)] } (retKR P fn e t ys d)) : SpecR P f e t xs ds ys d := by
  refine ⟨fun args w => ?_, fun w v0 vs F G0 hF hgl hown hsz hargs => ?_⟩
  · have hn : ¬ fn.name = "runtime.NumGoroutine" := by simpa using hname
    simp [callFunc, hf, hn, hb]
  · have hle := Nat.le_of_ble_eq_true hlen
    let M0 : Nat → Option MO := fun id => if id = 0 then some ⟨G0, v0, t.width⟩ else none
    have hM0 : ∀ {i : Nat} {mo : MO}, M0 i = some mo → i = 0 ∧ mo = ⟨G0, v0, t.width⟩ := fun {i mo} hi => by
      have hi : (if i = 0 then some (⟨G0, v0, t.width⟩ : MO) else none) = some mo := hi
      split at hi
      · exact ⟨‹_›, (Option.some.inj hi).symm⟩
      · cases hi
    have hok : ∀ g, keptVar P g = true → g < w.heap.size ∧ ¬(G0 = some g) ∧ VarOk P w g := fun g hg => ⟨hF g (hgl g hg).1, fun hG => by
      rcases hown with ⟨_, h, _⟩ | ⟨g', cap, us, h1, h2, _⟩
      · rw [hG] at h; cases h
      · rw [hG] at h1; cases h1; exact h2.2 (hgl g hg).1, (hgl g hg).2⟩
    refine calls_of_wp hf hb (wp_mono (hk ⟨w, fun g => G0 = some g, M0, hok⟩ F F M0 { tmps := (#[v0] ++ vs) ++ Array.replicate (fn.ntmps - (#[v0] ++ vs).size) undef, defers := [] } w ?_) fun en a' w' ⟨σ', F', M', hK, hI⟩ => ?_)
    · have hG : ∀ g, G0 = some g → g < w.heap.size ∧ ¬F g := fun g hg => by
        rcases hown with ⟨_, h, _⟩ | ⟨g', cap, us, h1, h2, _⟩
        · rw [hg] at h; cases h
        · rw [hg] at h1; cases h1; exact h2
      refine ⟨rfl, by simp; omega, fun i => ?_, fun id o ho => ?_, fun i j mi mj g hi hj _ _ => (hM0 hi).1.trans (hM0 hj).1.symm, fun i mi g hi hg => ?_, fun g hg => ⟨hF g hg, .inl hg⟩, fun g hg => hg.elim id fun hg => (hgl g hg).1, ⟨rfl, rfl, rfl, Nat.le_refl _, fun _ _ _ => rfl⟩, fun id o ho hp => ?_⟩
      · show R w F M0 _ (find ((0, .slo 0) :: argSl 1 ds) i)
        have hsz2 : (#[v0] ++ vs).size = 1 + vs.size := by simp
        cases i with
        | zero =>
          have h0 : ((#[v0] ++ vs) ++ Array.replicate (fn.ntmps - (#[v0] ++ vs).size) undef).getD 0 undef = v0 := by
            rw [Array.getD_eq_getD_getElem?, Array.getElem?_append_left (by omega), Array.getElem?_append_left (by simp)]; rfl
          rw [h0]
          exact ⟨⟨G0, v0, t.width⟩, rfl, rfl, by
            rcases hown with ⟨_, _, A, h⟩ | ⟨g', cap, us, _, _, h, _⟩ <;> rw [h] <;> rfl⟩
        | succ i =>
          have hfi := argSl_find ds 1 i
          have hb1 : Nat.beq (1 + i) 0 = false := (beq_cases _ _).resolve_left (fun h => by omega) |>.2
          have : find ((0, D.slo 0) :: argSl 1 ds) (1 + i) = find (argSl 1 ds) (1 + i) := by simp only [find, hb1, cond_false]
          rw [show i + 1 = 1 + i by omega, this, hfi]
          cases hdi : ds[i]? with
          | none => exact trivial
          | some d' =>
            obtain ⟨v, h1, h2⟩ := hargs i d' hdi
            have hlt : i < vs.size := (Array.getElem?_eq_some_iff.1 h1).1
            have : ((#[v0] ++ vs) ++ Array.replicate (fn.ntmps - (#[v0] ++ vs).size) undef).getD (1 + i) undef = v := by
              rw [Array.getD_eq_getD_getElem?, Array.getElem?_append_left (by omega), Array.getElem?_append_right (by simp)]
              simp [h1]
            show R w F M0 (((#[v0] ++ vs) ++ Array.replicate (fn.ntmps - (#[v0] ++ vs).size) undef).getD (1 + i) undef) d'
            rw [this]
            exact R.of1 (h2.keep (fun _ _ => rfl) (fun _ y => y) (MLe.none M0))
      · have ho' : (bif Nat.beq id 0 then some (Ob.row true e t xs) else none) = some o := ho
        rcases beq_cases id 0 with ⟨rfl, hbq⟩ | ⟨_, hbq⟩
        · rw [hbq] at ho'
          have : Ob.row true e t xs = o := Option.some.inj ho'
          subst this
          exact ⟨⟨G0, v0, t.width⟩, rfl, rfl, hown.setB fun g hg => .inr hg⟩
        · rw [hbq] at ho'; cases ho'
      · obtain ⟨_, rfl⟩ := hM0 hi
        exact ⟨(hG g hg).2, .inr hg, (hG g hg).1⟩
      · rfl
    · obtain ⟨hen, hr, hrow⟩ := hK
      have fin : a'.defers = [] ∧ ∃ v, (results fn a'.tmps).run P w' = .ok v w' ∧ ∃ v' F', Ending.returned v = .returned v' ∧ w.grownBy w' G0 ∧ (∀ g, F g → F' g) ∧ (∀ g, F' g → g < w'.heap.size ∧ (F g ∨ w.heap.size ≤ g)) ∧ (∀ F2 M2, R w' F2 M2 v' d) ∧
          OwnR w' F' (fun _ => True) G0 v0 e t ys := by
        refine ⟨hI.defers, ?_⟩
        have hM : M' 0 = some ⟨G0, v0, t.width⟩ := hI.pins 0 _ hrow rfl
        obtain ⟨mo, hm, hmk, hown'⟩ := hI.obs 0 _ hrow
        have : mo = ⟨G0, v0, t.width⟩ := Option.some.inj (hm.symm.trans hM)
        subst this
        have hnot : ∀ g, G0 = some g → ¬F' g := fun g hg => (hI.mine _ _ _ hM hg).1
        have hF' : ∀ g, F' g → g < w'.heap.size ∧ (F g ∨ w.heap.size ≤ g) := fun g hg => by
          obtain ⟨h1, h2⟩ := hI.flt g hg
          refine ⟨h1, ?_⟩
          rcases h2 with h2 | h2 | h2
          · exact .inl h2
          · exact .inr h2
          · exact absurd hg (hnot g h2)
        have hbel : w.grownBy w' G0 := ⟨hI.below.os, hI.below.tape, hI.below.output, hI.below.size, fun k hk hne => hI.below.block k hk fun hX => hne hX.symm⟩
        unfold resD at hr
        cases hra : resAll P σ' false fn.results.toList fn.resultTypes.toList with
        | none => rw [hra] at hr; cases hr
        | some ds' =>
          rw [hra] at hr
          obtain ⟨us, h1, h2, h3⟩ := res_plain hI _ _ _ hra
          refine ⟨_, run_results h1, _, F', rfl, hbel, fun g hg => hI.fle g (.inl hg), hF', ?_, hown'.setB fun _ _ => trivial⟩
          match ds', us, h2, hr, h3 with
          | [], [], _, hr, h3 =>
            have : D.tup [] = d := by simpa using hr
            subst this
            exact fun F2 M2 => ⟨#[], rfl, rfl, fun j d hj => by simp at hj⟩
          | [d1], [u1], _, hr, h3 =>
            have : d1 = d := by simpa using hr
            subst this
            obtain ⟨v, h7, _, h8⟩ := h3 0 _ rfl
            have : u1 = v := by simpa using h7
            subst this
            rcases hd with hd | ⟨u, x, hfl, hd⟩
            · rw [hd] at h8; exact h8.elim
            · rw [hd] at h8 ⊢
              exact fun F2 M2 => R.of1 (h8.flat hfl)
          | d1 :: d2 :: r, _, _, hr, _ =>
            have : D.tup (d1 :: d2 :: r) = d := by simpa using hr
            rcases hd with hd | ⟨u, x, hfl, hd⟩
            · rw [hd] at this; cases this
            · rw [hd] at this; cases u <;> cases this
      rcases hen with rfl | rfl
      · exact fin
      · exact fin

/-! ### A function that writes into a struct behind its first argument -/

def dataRes (P : Program) (fn : Func) : Bool := fn.resultTypes.toList.all fun t => match tyOf P 6 t with | some _ => true | none => false
def tmpRes : List ResultVar → Bool
  | [] => true
  | .tmp _ :: r => tmpRes r
  | .cell _ _ :: _ => false
/-- The results, where they are data. -/
def resG (P : Program) (σ : St) (fn : Func) : Option D :=
  match dataRes P fn with
  | true => resD P σ false fn
  | false => match tmpRes fn.results.toList with
    | true => some .bad
    | false => none
/-- What the struct holds. -/
def readG (T : TypeId) (fs : List Fd) (σ : St) : Option (gTy fs).I :=
  match findOb (σ.gnils 0 0 0 fs).ob 0 with
  | some (.cells true T' cs) => match decide (T' = T), gRead (σ.gnils 0 0 0 fs).ob 0 0 fs cs with
    | true, some y => some y
    | _, _ => none
  | _ => none
def retKG (P : Program) (fn : Func) (T : TypeId) (fs : List Fd) (y : (gTy fs).I) (d : D) (en : Exit) (σ : St) : Prop :=
  (en = .normal ∨ en = .ret) ∧ resG P σ fn = some d ∧ readG T fs σ = some y

/-- Data without lists. -/
def flatD (d : D) : Prop := d = .bad ∨ d = .tup [] ∨ (∃ (u : Ty) (x : u.I), u.flat = true ∧ d = encV u x) ∨ ∃ (u : Ty) (x : u.I) (u' : Ty) (x' : u'.I), u.flat = true ∧ u'.flat = true ∧ d = .tup [encV u x, encV u' x']

theorem tmp_run {tmps : Array Value} : ∀ {rs : List ResultVar}, tmpRes rs = true → ∃ us, (rs.mapM (oneRes tmps)).run P w = .ok us w
  | [], _ => ⟨[], by simp⟩
  | .tmp t :: r, h => by
    obtain ⟨us, h1⟩ := tmp_run (tmps := tmps) (rs := r) h
    exact ⟨tmps.getD t undef :: us, by simp [List.mapM_cons, oneRes, h1]⟩
  | .cell _ _ :: _, h => by cases h

theorem encV_ne_tup {u : Ty} {x : u.I} {ds : List D} : encV u x ≠ .tup ds := by cases u <;> exact fun h => by cases h
theorem encV_ne_bad {u : Ty} {x : u.I} : encV u x ≠ .bad := by cases u <;> exact fun h => by cases h

theorem resG_sound {fn : Func} (h : Inv w0 F0 F M σ a w) {d : D} (hr : resG P σ fn = some d) (hd : flatD d) : ∃ v, (results fn a.tmps).run P w = .ok v w ∧ ∀ F2 M2, R w F2 M2 v d := by
  unfold resG at hr
  split at hr
  · unfold resD at hr
    cases hra : resAll P σ false fn.results.toList fn.resultTypes.toList with
    | none => rw [hra] at hr; cases hr
    | some ds' =>
      rw [hra] at hr
      obtain ⟨us, h1, h2, h3⟩ := res_plain h _ _ _ hra
      refine ⟨_, run_results h1, ?_⟩
      match ds', us, h2, hr, h3 with
      | [], [], _, hr, h3 =>
        have : D.tup [] = d := by simpa using hr
        subst this
        exact fun F2 M2 => ⟨#[], rfl, rfl, fun j d hj => by simp at hj⟩
      | [d1], [u1], _, hr, h3 =>
        have : d1 = d := by simpa using hr
        subst this
        obtain ⟨v, h7, ⟨u0, x0, he⟩, h8⟩ := h3 0 _ rfl
        have : u1 = v := by simpa using h7
        subst this
        rcases hd with hd | hd | ⟨u, x, hfl, hd⟩ | ⟨_, _, _, _, _, _, hd⟩
        · rw [hd] at he; exact absurd he.symm encV_ne_bad
        · rw [hd] at he; exact absurd he.symm encV_ne_tup
        · rw [hd] at h8 ⊢
          exact fun F2 M2 => R.of1 (h8.flat hfl)
        · rw [hd] at he; exact absurd he.symm encV_ne_tup
      | [d1, d2], [u1, u2], _, hr, h3 =>
        have : D.tup [d1, d2] = d := by simpa using hr
        subst this
        rcases hd with hd | hd | ⟨u, x, hfl, hd⟩ | ⟨u, x, u', x', hf1, hf2, hd⟩
        · cases hd
        · cases hd
        · exact absurd hd.symm encV_ne_tup
        · injection hd with hd
          injection hd with e1 hd
          injection hd with e2 _
          subst e1 e2
          obtain ⟨v1, h7, _, h8⟩ := h3 0 _ rfl
          obtain ⟨v2, h9, _, h10⟩ := h3 1 _ rfl
          intro F2 M2
          refine ⟨#[u1, u2], by simp, rfl, fun j d hj => ?_⟩
          match j, hj with
          | 0, hj =>
            simp only [List.getElem?_cons_zero, Option.some.injEq] at hj
            subst hj
            have : u1 = v1 := by simpa using h7
            subst this
            exact ⟨u1, rfl, h8.flat hf1⟩
          | 1, hj =>
            simp only [List.getElem?_cons_succ, List.getElem?_cons_zero, Option.some.injEq] at hj
            subst hj
            have : u2 = v2 := by simpa using h9
            subst this
            exact ⟨u2, rfl, h10.flat hf2⟩
          | j + 2, hj => simp at hj
      | d1 :: d2 :: d3 :: r, _, _, hr, _ =>
        have : D.tup (d1 :: d2 :: d3 :: r) = d := by simpa using hr
        subst this
        rcases hd with hd | hd | ⟨u, x, hfl, hd⟩ | ⟨u, x, u', x', hf1, hf2, hd⟩
        · cases hd
        · cases hd
        · exact absurd hd.symm encV_ne_tup
        · cases hd
  · split at hr
    · rename_i ht
      simp only [Option.some.injEq] at hr
      subst hr
      obtain ⟨us, h1⟩ := tmp_run (P := P) (w := w) (tmps := a.tmps) ht
      exact ⟨_, run_results h1, fun _ _ => trivial⟩
    · cases hr

theorem SpecG_of {f : FuncId} {fn : Func} {c : Code} (hf : P.funcs[f]? = some fn) (hb : fn.body = some c) (hname : (fn.name == "runtime.NumGoroutine") = false) {ds : List D} (hlen : Nat.ble (ds.length + 1) fn.ntmps = true) {d : D}
    {T : TypeId} {fs : List Fd} {x y : (gTy fs).I} (hd : flatD d)
    (hk : S P c { n := fn.ntmps, sl := (0, .ptr 0 0) :: argSl 1 ds, ob := gOb 0 0 fs x ++ [(0, .cells true T (gCs 0 0 fs x))] } (retKG P fn T fs y d)) : SpecG P f T fs x ds y d := by
  refine ⟨fun args w => ?_, fun w b vs F ms hF hgl hX hG hsz hargs => ?_⟩
  · have hn : ¬ fn.name = "runtime.NumGoroutine" := by simpa using hname
    simp [callFunc, hf, hn, hb]
  · have hle := Nat.le_of_ble_eq_true hlen
    have hidx : ∀ i, gid 0 i - 1000000 = i := fun i => by unfold gid; omega
    have hid : (0 : Nat) ∉ gids 0 0 fs := fun hm => by
      obtain ⟨i, hi⟩ := gids_mem hm
      exact ne_gid 0 i hi
    let M0 : Nat → Option MO := fun i => if i = 0 then some ⟨some b, .pointer none, 0⟩ else if i ∈ gids 0 0 fs then ms (i - 1000000) else none
    have hM00 : M0 0 = some ⟨some b, .pointer none, 0⟩ := if_pos rfl
    have hM0 : ∀ {i : Nat} {mo : MO}, M0 i = some mo → (i = 0 ∧ mo = ⟨some b, .pointer none, 0⟩) ∨ (i ≠ 0 ∧ i ∈ gids 0 0 fs ∧ ms (i - 1000000) = some mo) := fun {i mo} hi => by
      have hi : (if i = 0 then some (⟨some b, .pointer none, 0⟩ : MO) else if i ∈ gids 0 0 fs then ms (i - 1000000) else none) = some mo := hi
      split at hi
      · exact .inl ⟨‹_›, (Option.some.inj hi).symm⟩
      · split at hi
        · exact .inr ⟨‹_›, ‹_›, hi⟩
        · cases hi
    have hms0 : ∀ i, gid 0 i ∈ gids 0 0 fs → ms i = M0 (gid 0 i) := fun i hi => by
      show ms i = if gid 0 i = 0 then _ else if gid 0 i ∈ gids 0 0 fs then ms (gid 0 i - 1000000) else none
      rw [if_neg (gid_ne 0 i), if_pos hi, hidx]
    have hok : ∀ g, keptVar P g = true → g < w.heap.size ∧ ¬(grX b ms g) ∧ VarOk P w g := fun g hg => ⟨hF g (hgl g hg).1, fun hx => (hX g hx).1 (hgl g hg).1, (hgl g hg).2⟩
    obtain ⟨us, hus, hgr⟩ := hG.cells
    have hgr' : GrsR w F (⟨w, grX b ms, M0, hok⟩ : W0 P).nw b ms 0 fs x us.toList := GrsR.keep (fun _ _ => rfl) (fun _ z => z) (fun j mo g hj hg => ⟨rfl, .inr (.inr ⟨j, mo, hj, hg⟩)⟩) hgr
    have hrel := GrsR.rel (M := M0) (id := 0) hM00 rfl hms0 hgr'
    refine calls_of_wp hf hb (wp_mono (hk ⟨w, grX b ms, M0, hok⟩ F F M0 { tmps := (#[Value.pointer (some ⟨b, 0, none⟩)] ++ vs) ++ Array.replicate (fn.ntmps - (#[Value.pointer (some ⟨b, 0, none⟩)] ++ vs).size) undef, defers := [] } w ?_) fun en a' w' ⟨σ', F', M', hK, hI⟩ => ?_)
    · refine ⟨rfl, by simp; omega, fun i => ?_, fun id o ho => ?_, fun i j mi mj g hi hj hgi hgj => ?_, fun i mi g hi hg => ?_, fun g hg => ⟨hF g hg, .inl hg⟩, fun g hg => hg.elim id fun hg => (hgl g hg).1, ⟨rfl, rfl, rfl, Nat.le_refl _, fun _ _ _ => rfl⟩, fun id o ho hp => rfl⟩
      · show R w F M0 _ (find ((0, .ptr 0 0) :: argSl 1 ds) i)
        have hsz2 : (#[Value.pointer (some ⟨b, 0, none⟩)] ++ vs).size = 1 + vs.size := by simp
        cases i with
        | zero =>
          have h0 : ((#[Value.pointer (some ⟨b, 0, none⟩)] ++ vs) ++ Array.replicate (fn.ntmps - (#[Value.pointer (some ⟨b, 0, none⟩)] ++ vs).size) undef).getD 0 undef = .pointer (some ⟨b, 0, none⟩) := by
            rw [Array.getD_eq_getD_getElem?, Array.getElem?_append_left (by omega), Array.getElem?_append_left (by simp)]; rfl
          rw [h0]
          exact ⟨_, b, hM00, rfl, rfl⟩
        | succ i =>
          have hfi := argSl_find ds 1 i
          have hb1 : Nat.beq (1 + i) 0 = false := (beq_cases _ _).resolve_left (fun h => by omega) |>.2
          have : find ((0, D.ptr 0 0) :: argSl 1 ds) (1 + i) = find (argSl 1 ds) (1 + i) := by simp only [find, hb1, cond_false]
          rw [show i + 1 = 1 + i by omega, this, hfi]
          cases hdi : ds[i]? with
          | none => exact trivial
          | some d' =>
            obtain ⟨v, h1, h2⟩ := hargs i d' hdi
            have hlt : i < vs.size := (Array.getElem?_eq_some_iff.1 h1).1
            have : ((#[Value.pointer (some ⟨b, 0, none⟩)] ++ vs) ++ Array.replicate (fn.ntmps - (#[Value.pointer (some ⟨b, 0, none⟩)] ++ vs).size) undef).getD (1 + i) undef = v := by
              rw [Array.getD_eq_getD_getElem?, Array.getElem?_append_left (by omega), Array.getElem?_append_right (by simp)]
              simp [h1]
            show R w F M0 (((#[Value.pointer (some ⟨b, 0, none⟩)] ++ vs) ++ Array.replicate (fn.ntmps - (#[Value.pointer (some ⟨b, 0, none⟩)] ++ vs).size) undef).getD (1 + i) undef) d'
            rw [this]
            exact R.of1 (h2.keep (fun _ _ => rfl) (fun _ y => y) (MLe.none M0))
      · rcases findOb_append ho with ho | ho
        · exact (GrsR.rows hms0 hgr' ho).2.2
        · have ho' : (bif Nat.beq id 0 then some (Ob.cells true T (gCs 0 0 fs x)) else none) = some o := ho
          rcases beq_cases id 0 with ⟨rfl, hbq⟩ | ⟨_, hbq⟩
          · rw [hbq] at ho'
            have : Ob.cells true T (gCs 0 0 fs x) = o := Option.some.inj ho'
            subst this
            refine ⟨_, hM00, b, us, rfl, hus, by simpa using hrel.1, fun j c hj => ?_⟩
            obtain ⟨u, h4, h5⟩ := hrel.2 j c hj
            exact ⟨u, by simpa using h4, h5⟩
          · rw [hbq] at ho'; cases ho'
      · rcases hM0 hi with ⟨rfl, rfl⟩ | ⟨hi0, him, hi⟩ <;> rcases hM0 hj with ⟨rfl, rfl⟩ | ⟨hj0, hjm, hj⟩
        · rfl
        · have : b = g := by simpa using hgi
          subst this
          exact absurd hgj (hG.off _ _ hj)
        · have : b = g := by simpa using hgj
          subst this
          exact absurd hgi (hG.off _ _ hi)
        · have := hG.apart _ _ _ _ _ hi hj hgi hgj
          obtain ⟨i', rfl⟩ := gids_mem him
          obtain ⟨j', rfl⟩ := gids_mem hjm
          rw [hidx, hidx] at this
          rw [this]
      · have hx : grX b ms g := by
          rcases hM0 hi with ⟨rfl, rfl⟩ | ⟨_, _, hi⟩
          · left
            have : b = g := by simpa using hg
            exact this.symm
          · exact .inr ⟨_, mi, hi, hg⟩
        exact ⟨(hX g hx).1, .inr hx, (hX g hx).2⟩
    · obtain ⟨hen, hr, hrd⟩ := hK
      have fin : a'.defers = [] ∧ ∃ v, (results fn a'.tmps).run P w' = .ok v w' ∧ ∃ v' F' ms', Ending.returned v = .returned v' ∧ BelX w (grX b ms) w' ∧ (∀ g, F g → F' g) ∧ (∀ g, F' g → g < w'.heap.size ∧ (F g ∨ w.heap.size ≤ g ∨ grX b ms g)) ∧
          (∀ g, grX b ms' g → ¬F' g ∧ g < w'.heap.size ∧ (grX b ms g ∨ w.heap.size ≤ g)) ∧ GrR w' F' (fun _ => True) b T fs y ms' ∧ (∀ F2 M2, R w' F2 M2 v' d) := by
        refine ⟨hI.defers, ?_⟩
        obtain ⟨v, h1, h2⟩ := resG_sound hI hr hd
        refine ⟨v, h1, v, F', ?_⟩
        obtain ⟨M2, hI2, hM2⟩ := hI.gnils 0 fs 0 0
        unfold readG at hrd
        split at hrd
        · rename_i T' cs hob
          split at hrd
          · rename_i y' hT hy
            have hT := of_decide_eq_true hT
            subst hT
            simp only [Option.some.injEq] at hrd
            subst hrd
            have hM20 : M2 0 = some ⟨some b, .pointer none, 0⟩ := (hI2.pins 0 _ hob rfl).trans hM00
            let ms' : Nat → Option MO := fun j => if gid 0 j ∈ gids 0 0 fs then M2 (gid 0 j) else none
            have hms' : ∀ i mo, ms' i = some mo → gid 0 i ∈ gids 0 0 fs ∧ M2 (gid 0 i) = some mo := fun i mo hi => by
              have hi : (if gid 0 i ∈ gids 0 0 fs then M2 (gid 0 i) else none) = some mo := hi
              split at hi
              · exact ⟨‹_›, hi⟩
              · cases hi
            obtain ⟨mo, hm, g, us', hg, hus', hl, hc⟩ := hI2.obs _ _ hob
            have : mo = ⟨some b, .pointer none, 0⟩ := Option.some.inj (hm.symm.trans hM20)
            subst this
            have : b = g := by simpa using hg
            subst this
            have hgr2 := gRead_spec hI2 hM20 rfl (ms := ms') (fun i hi => if_pos hi) (us := us'.toList) ⟨by simpa using hl, fun j c hj => by simpa using hc j c hj⟩ hy
            refine ⟨ms', rfl, ⟨hI.below.os, hI.below.tape, hI.below.output, hI.below.size, fun k hk hx => hI.below.block k hk hx⟩, fun g hg => hI.fle g (.inl hg), fun g hg => ?_, fun g hg => ?_,
              ⟨⟨us', hus', GrsR.keep (fun _ _ => rfl) (fun _ z => z) (fun _ _ _ _ _ => ⟨rfl, trivial⟩) hgr2⟩, fun i j mi mj g' hi hj hgi hgj => gid_inj (hI2.apart _ _ _ _ _ (hms' i mi hi).2 (hms' j mj hj).2 hgi hgj), fun i mi hi hgi => gid_ne 0 i (hI2.apart _ _ _ _ _ (hms' i mi hi).2 hM20 hgi rfl)⟩, h2⟩
            · obtain ⟨h3, h4⟩ := hI.flt g hg
              refine ⟨h3, ?_⟩
              rcases h4 with h4 | h4 | h4
              · exact .inl h4
              · exact .inr (.inl h4)
              · exact .inr (.inr h4)
            · have key : ∀ i mi, M2 i = some mi → mi.g = some g → ¬F' g ∧ g < w'.heap.size ∧ (grX b ms g ∨ w.heap.size ≤ g) := fun i mi hi hgi => by
                obtain ⟨h3, h4, h5⟩ := hI2.mine _ _ _ hi hgi
                exact ⟨h3, h5, h4.symm⟩
              rcases hg with rfl | ⟨j, mj, hj, hjg⟩
              · exact key 0 _ hM20 rfl
              · exact key _ _ (hms' j mj hj).2 hjg
          · cases hrd
        · cases hrd
      rcases hen with rfl | rfl
      · exact fin
      · exact fin

end
end Go.Proofs.Ytnkinnhgahpcoaa.Vc
