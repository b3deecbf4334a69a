/-
  THE CONDITION IS SOUND, LAST PART: what a body returns.
  No condition: the theorems hold for every program that follows Go's mixed orders.
-/
import Derived.Test.YtnkinnhgahpcoaaVl
namespace Go.Proofs.Ytnkinnhgahpcoaa.Vc
open Go.RowKit

section
variable {P : Program} {w0 : W0 P} {w : World} {F0 F F1 : Nat → Prop} {M : Nat → Option MO} {σ : St} {a : Act} {μ : List Nat}

/-- One result is read. -/
def oneRes (tmps : Array Value) : ResultVar → Sem Value
  | .tmp t => pure (tmps.getD t undef)
  | .cell p t => do loadVar t (← asAddr (tmps.getD p undef))

theorem raw_sound (h : Inv w0 F0 F M σ a w) {rv : ResultVar} (hne : cellsOf (resRaw P σ rv) ≠ none) : ∃ v, (oneRes a.tmps rv).run P w = .ok v w ∧ R w F M v (resRaw P σ rv) := by
  cases rv with
  | tmp t => exact ⟨_, rfl, h.slots t⟩
  | cell p ty =>
    unfold resRaw at hne ⊢
    dsimp only at hne ⊢
    split at hne
    · rename_i i hb
      have hp := h.slots p
      rw [hb] at hp
      obtain ⟨mo, g, hm, hg, hv⟩ := hp
      split at hne
      · rename_i cs hf
        obtain ⟨hlt, hc⟩ := ob_cells h hf hm hg 0
        have key : ∀ d, loadD P ty cs (fun d' => d' = d) → ∃ v, (oneRes a.tmps (.cell p ty)).run P w = .ok v w ∧ R w F M v d := fun d hd => by
          obtain ⟨v, d', h1, h2, h3⟩ := loadD_sound (P := P) (w := w) (F := F) (M := M) hd ⟨g, 0, none⟩ hlt (by simpa using hc)
          subst h1
          exact ⟨v, by unfold oneRes; simp only [hv, asAddr, Sem.run_bind, Sem.run_pure, Result.andThen_ok]; exact h3 w (Below.refl _ _), h2⟩
        refine key _ ?_
        unfold loadD
        split at hne
        · rename_i hag
          cases hble : Nat.ble (sizeT P ty) cs.length with
          | false => rw [hble] at hne; exact absurd rfl hne
          | true => exact rfl
        · rename_i hag
          cases cs with
          | nil => exact absurd rfl hne
          | cons c r => exact rfl
        · exact absurd rfl hne
      · exact absurd rfl hne
    · exact absurd rfl hne

theorem leaf_one {v : Value} {d : D} {new : List D} (h : R w F M v d) (hc : cellsOf d = some new) (hn : ∀ cs, d ≠ .agg cs) : v.oneCell' = true := by
  cases d <;> simp only [cellsOf, Option.some.injEq] at hc <;> first | (cases hc; done) | skip
  case agg cs => exact absurd rfl (hn cs)
  case val t x =>
    have h' : RV w F t x [v] := h
    exact h'.one v (by simp)
  case fn f =>
    have h' : v = .func f #[] #[] := h
    rw [h']; rfl
  case nils =>
    obtain ⟨A, h'⟩ := id h
    rw [h']; rfl
  case slo i =>
    obtain ⟨mo, h1, h2, h3⟩ := id h
    exact h3
  case ptr i off =>
    obtain ⟨mo, g, h1, h2, h3⟩ := id h
    rw [h3]; rfl
  case aptr i =>
    obtain ⟨mo, g, h1, h2, h3⟩ := id h
    rw [h3]; rfl
  case pnil =>
    have h' : v = .pointer none := h
    rw [h']; rfl
  case clo g cs =>
    obtain ⟨us, h1, h2⟩ := id h
    rw [h1]; rfl

theorem resOne_plain (h : Inv w0 F0 F M σ a w) {rv : ResultVar} {t : TypeId} {d : D}
    (hd : (match tyOf P 6 t, cellsOf (resRaw P σ rv) with
    | some u, some cs => match shapeOk u (resRaw P σ rv), decAll u (snaps0 σ.ob cs) with
      | true, some x => some (encV u x)
      | _, _ => none
    | _, _ => none) = some d) : ∃ v, (oneRes a.tmps rv).run P w = .ok v w ∧ (∃ u x, d = encV u x) ∧ R1 w (allF F M) noM v d := by
  split at hd
  · rename_i u cs hty hc
    split at hd
    · rename_i x hsh hx
      simp only [Option.some.injEq] at hd
      subst hd
      obtain ⟨v, h1, h2⟩ := raw_sound (P := P) h (rv := rv) (by rw [hc]; simp)
      have hrel := cellsOf_spec h2 hc
      have hrv : RV w (allF F M) u x v.cells.toList := decAll_spec (hrel.snap h (fun _ hg => Or.inl hg) fun i _ _ mo _ hm hg => Or.inr ⟨i, mo, hm, hg⟩) hx
      have hleaf : (∀ cs', resRaw P σ rv ≠ .agg cs') → v.oneCell' = true := leaf_one h2 hc
      refine ⟨v, h1, ⟨u, x, rfl⟩, R1.of_cells hrv ?_ fun _ => ?_⟩
      · by_cases hag : ∃ cs', resRaw P σ rv = .agg cs'
        · obtain ⟨cs', hag⟩ := hag
          rw [hag] at h2
          obtain ⟨us, hv, _⟩ := h2
          exact .inr ⟨us, hv⟩
        · exact .inl (hleaf fun cs' e => hag ⟨cs', e⟩)
      · unfold shapeOk at hsh
        cases u with
        | pair p q => exact .inr ⟨p, q, rfl⟩
        | _ => exact .inl (hleaf fun cs' e => by rw [e] at hsh; cases hsh)
    · cases hd
  · cases hd

/-- Results that are not the caller's own. -/
theorem res_plain (h : Inv w0 F0 F M σ a w) : ∀ (rs : List ResultVar) (ts : List TypeId) (ds : List D), resAll P σ false rs ts = some ds →
    ∃ vs, (rs.mapM (oneRes a.tmps)).run P w = .ok vs w ∧ vs.length = ds.length ∧ ∀ (j : Nat) d, ds[j]? = some d → ∃ v, vs[j]? = some v ∧ (∃ u x, d = encV u x) ∧ R1 w (allF F M) noM v d
  | [], [], ds, hr => by
    simp only [resAll, Option.some.injEq] at hr
    subst hr
    exact ⟨[], by simp, rfl, fun j d hj => by simp at hj⟩
  | [], _ :: _, ds, hr => by simp [resAll] at hr
  | _ :: _, [], ds, hr => by simp [resAll] at hr
  | r :: rs, t :: ts, ds, hr => by
    have hleft : resLeft P σ false r = σ := by unfold resLeft; rfl
    simp only [resAll, hleft] at hr
    split at hr
    · rename_i d hd
      split at hr
      · rename_i ds' hds
        simp only [Option.some.injEq] at hr
        subst hr
        have hd' : (match tyOf P 6 t, cellsOf (resRaw P σ r) with
          | some u, some cs => match shapeOk u (resRaw P σ r), decAll u (snaps0 σ.ob cs) with
            | true, some x => some (encV u x)
            | _, _ => none
          | _, _ => none) = some d := by
          unfold resOne at hd
          cases hraw : resRaw P σ r <;> rw [hraw] at hd <;> exact hd
        obtain ⟨v, h1, h2, h3⟩ := resOne_plain h hd'
        obtain ⟨vs, h4, h5, h6⟩ := res_plain h rs ts ds' hds
        refine ⟨v :: vs, by simp [List.mapM_cons, h1, h4], by simp [h5], fun j d' hj => ?_⟩
        cases j with
        | zero =>
          have : d = d' := by simpa using hj
          subst this
          exact ⟨v, rfl, h2, h3⟩
        | succ j =>
          obtain ⟨v', h7, h8⟩ := h6 j d' (by simpa using hj)
          exact ⟨v', by simpa using h7, h8⟩
      · cases hr
    · cases hr

theorem encV_RR0' {d : D} {v : Value} {B : Nat → Prop} {G : Option Nat} (hd : ∃ u x, d = encV u x) (h : R1 w F noM v d) : RR0 w F B G v d := by
  obtain ⟨u, x, rfl⟩ := hd
  cases u <;> exact h

theorem allF_old (h : Inv w0 F0 F M σ a w) : ∀ g, allF F M g → g < w.heap.size ∧ (F0 g ∨ w0.nw g) := fun g hg => by
  rcases hg with hg | ⟨i, mo, h1, h2⟩
  · exact h.flt g hg
  · obtain ⟨_, h3, h4⟩ := h.mine _ _ _ h1 h2
    exact ⟨h4, .inr h3⟩

/-- All results. -/
theorem res_sound (h : Inv w0 F0 F M σ a w) (own : Bool) (rs : List ResultVar) (ts : List TypeId) (ds : List D) (hr : resAll P σ own rs ts = some ds) :
    ∃ vs F' G, (rs.mapM (oneRes a.tmps)).run P w = .ok vs w ∧ vs.length = ds.length ∧ (∀ g, F0 g → F' g) ∧ (∀ g, F' g → g < w.heap.size ∧ (F0 g ∨ w0.nw g)) ∧
      (∀ g, G = some g → w0.nw g ∧ ¬F' g ∧ g < w.heap.size) ∧ ∀ (j : Nat) d, ds[j]? = some d → ∃ v, vs[j]? = some v ∧ RR0 w F' w0.nw G v d := by
  have plain : resAll P σ false rs ts = some ds → ∃ vs F' G, (rs.mapM (oneRes a.tmps)).run P w = .ok vs w ∧ vs.length = ds.length ∧ (∀ g, F0 g → F' g) ∧ (∀ g, F' g → g < w.heap.size ∧ (F0 g ∨ w0.nw g)) ∧
      (∀ g, G = some g → w0.nw g ∧ ¬F' g ∧ g < w.heap.size) ∧ ∀ (j : Nat) d, ds[j]? = some d → ∃ v, vs[j]? = some v ∧ RR0 w F' w0.nw G v d := fun hp => by
    obtain ⟨vs, h1, h2, h3⟩ := res_plain h rs ts ds hp
    refine ⟨vs, allF F M, none, h1, h2, fun g hg => .inl (h.fle g (.inl hg)), allF_old h, fun g hg => (by cases hg), fun j d hj => ?_⟩
    obtain ⟨v, h4, h5, h6⟩ := h3 j d hj
    exact ⟨v, h4, encV_RR0' h5 h6⟩
  cases own with
  | false => exact plain hr
  | true =>
    match rs, ts, hr with
    | [], [], hr => exact plain (by simpa [resAll] using hr)
    | [], _ :: _, hr => simp [resAll] at hr
    | _ :: _, [], hr => simp [resAll] at hr
    | r :: rs, t :: ts, hr =>
      by_cases hslo : ∃ i, resRaw P σ r = .slo i
      · obtain ⟨i, hraw⟩ := hslo
        have hleft : resLeft P σ true r = σ.kill i := by unfold resLeft; rw [hraw]
        simp only [resAll, hleft] at hr
        split at hr
        · rename_i d hd
          split at hr
          · rename_i ds' hds
            simp only [Option.some.injEq] at hr
            subst hr
            unfold resOne at hd
            rw [hraw] at hd
            dsimp only at hd
            split at hd
            · rename_i e u xs hf
              simp only [Option.some.injEq] at hd
              subst hd
              obtain ⟨v, h1, h2⟩ := raw_sound (P := P) h (rv := r) (by rw [hraw]; simp [cellsOf])
              rw [hraw] at h2
              obtain ⟨mo, hm, hv, _⟩ := h2
              obtain ⟨mo', hm', hmk, hown⟩ := h.obs _ _ hf
              have : mo' = mo := Option.some.inj (hm'.symm.trans hm)
              subst this
              obtain ⟨vs, h3, h4, h5⟩ := res_plain (h.kill i) rs ts ds' hds
              refine ⟨v :: vs, allF F (dropM M i), mo'.g, by simp [List.mapM_cons, h1, h3], by simp [h4], fun g hg => .inl (h.fle g (.inl hg)), allF_old (h.kill i), fun g hg => ?_, fun j d hj => ?_⟩
              · obtain ⟨h6, h7, h8⟩ := h.mine _ _ _ hm hg
                refine ⟨h7, fun hc => ?_, h8⟩
                rcases hc with hc | ⟨k, mk, hk, hkg⟩
                · exact h6 hc
                · exact (dropM_some hk).1 (h.apart _ _ _ _ _ (dropM_some hk).2 hm hkg hg)
              · cases j with
                | zero =>
                  simp only [List.getElem?_cons_zero, Option.some.injEq] at hj
                  subst hj
                  exact ⟨v, rfl, by rw [hv]; exact hown.keep (fun _ _ => rfl) (fun _ hg => Or.inl hg) fun _ _ => rfl⟩
                | succ j =>
                  obtain ⟨v', h6, h7, h8⟩ := h5 j d (by simpa using hj)
                  exact ⟨v', by simpa using h6, encV_RR0' h7 h8⟩
            · cases hd
          · cases hr
        · cases hr
      · have hleft : resLeft P σ true r = σ := by
          unfold resLeft
          split
          · rename_i i _ hraw; exact absurd ⟨i, hraw⟩ hslo
          · rfl
        simp only [resAll, hleft] at hr
        split at hr
        · rename_i d hd
          split at hr
          · rename_i ds' hds
            by_cases hnil : resRaw P σ r = .nils
            · simp only [Option.some.injEq] at hr
              subst hr
              unfold resOne at hd
              rw [hnil] at hd
              dsimp only at hd
              split at hd
              · rename_i e he
                split at hd
                · rename_i u hu
                  simp only [Option.some.injEq] at hd
                  subst hd
                  obtain ⟨v, h1, h2⟩ := raw_sound (P := P) h (rv := r) (by rw [hnil]; simp [cellsOf])
                  rw [hnil] at h2
                  obtain ⟨A, hv⟩ := h2
                  obtain ⟨vs, h3, h4, h5⟩ := res_plain h rs ts ds' hds
                  refine ⟨v :: vs, allF F M, none, by simp [List.mapM_cons, h1, h3], by simp [h4], fun g hg => .inl (h.fle g (.inl hg)), allF_old h, fun g hg => (by cases hg), fun j d hj => ?_⟩
                  cases j with
                  | zero =>
                    simp only [List.getElem?_cons_zero, Option.some.injEq] at hj
                    subst hj
                    exact ⟨v, rfl, .inl ⟨rfl, rfl, A, hv⟩⟩
                  | succ j =>
                    obtain ⟨v', h6, h7, h8⟩ := h5 j d (by simpa using hj)
                    exact ⟨v', by simpa using h6, encV_RR0' h7 h8⟩
                · cases hd
              · cases hd
            · refine plain ?_
              have hleft' : resLeft P σ false r = σ := by unfold resLeft; rfl
              have hd' : resOne P σ false r t = some d := by
                unfold resOne at hd ⊢
                cases hraw : resRaw P σ r <;> rw [hraw] at hd
                case slo i => exact absurd ⟨i, hraw⟩ hslo
                case nils => exact absurd hraw hnil
                all_goals exact hd
              simp only [resAll, hleft', hd', hds]
              exact hr
          · cases hr
        · cases hr

end
end Go.Proofs.Ytnkinnhgahpcoaa.Vc
