/-
  slices.SortFunc at [][]string, by slices.Compare: what it does with a row of the caller's own. No condition.
-/
import Derived.Test.YtbchajjppgkgnaaSo
import Derived.Test.YtbchajjppgkgnaaSq
import Derived.Test.YtbchajjppgkgnaaSl
import Derived.Test.YtbchajjppgkgnaaMt
import Derived.Shelf.SlSortCmp.NoneTotal
set_option linter.unusedVariables false
set_option linter.unusedSimpArgs false
namespace Go.Proofs.Ytbchajjppgkgnaa.Vc
open Go.RowKit Go.Proofs Go.Sort

theorem cmpB_bl (a b : Bs) : cmpB a b = if bl a b = true then -1 else if bl b a = true then 1 else 0 := rfl
theorem cmpL_lx : ∀ p q : List Bs, cmpL p q = if lx p q = true then -1 else if lx q p = true then 1 else 0
  | [], [] => rfl
  | [], _ :: _ => rfl
  | _ :: _, [] => rfl
  | a :: p, b :: q => by
    have ih := cmpL_lx p q
    show (if cmpB a b = 0 then cmpL p q else cmpB a b) = _
    simp only [lx]
    rw [cmpB_bl]
    by_cases h1 : bl a b = true
    · simp [h1]
    · by_cases h2 : bl b a = true
      · have hne : a ≠ b := fun e => by subst e; exact h1 h2
        have hne' : b ≠ a := fun e => hne e.symm
        simp [h1, h2, hne]
      · have hab : a = b := by
          have h3 := bl_not a b
          have h1' : Op.bytesLess a b = false := by simpa using h1
          have h2' : Op.bytesLess b a = false := by simpa using h2
          rw [h1', h2'] at h3
          simpa using h3
        subst hab
        simp [h1, ih]
theorem lt_lx (p q : List Bs) : Go.Proofs.ltOf cmpL p q = lx p q := by
  unfold Go.Proofs.ltOf
  rw [cmpL_lx]
  cases h : lx p q with
  | true => rfl
  | false =>
    cases h2 : lx q p with
    | true => rfl
    | false => rfl
theorem lx_swo : SWO (Go.Proofs.ltOf cmpL) := by
  have e : Go.Proofs.ltOf cmpL = lx := funext fun p => funext fun q => lt_lx p q
  rw [e]
  refine ⟨lx_irr, fun x y z h1 h2 => lx_trans h1 h2, fun x y z h1 h2 => ?_⟩
  cases h : lx x z with
  | false => rfl
  | true =>
    rcases lx_tri x y with h3 | rfl | h3
    · rw [h1] at h3; cases h3
    · rw [h2] at h; cases h
    · rcases lx_tri y z with h4 | rfl | h4
      · rw [h2] at h4; cases h4
      · rw [h1] at h; cases h
      · have := lx_trans (lx_trans h4 h3) h; rw [lx_irr] at this; cases this

theorem cell_spot {w : World} {a : Addr} {v : Value} (h : w.cell? a = some v) : a.spot = none := by
  unfold World.cell? at h
  split at h
  · split at h
    · cases h
    · rename_i h2
      cases hq : a.spot with
      | none => rfl
      | some q => rw [hq] at h2; exact absurd rfl h2
  · cases h

/-- Texts behind a slice's value. -/
theorem txt_of {w : World} {F : Nat → Prop} {x : List Bs} {v : Value} (h : RV w F (.list .str) x [v]) : ∃ A c xs, v = .slice A xs.length c ∧ txtAt w A xs ∧ txts xs = x ∧ xs.length ≤ 9223372036854775807 := by
  obtain ⟨A, c, h1, h2, h3, h4⟩ := h
  have hv : v = .slice A x.length c := by simpa using h1
  have hl : (x.map fun b => (⟨b.toArray⟩ : ByteArray)).length = x.length := by simp
  refine ⟨A, c, x.map fun b => ⟨b.toArray⟩, by rw [hl]; exact hv, fun j hj => ?_, by simp [txts, Function.comp_def], by rw [hl]; exact Nat.le_trans h2 h3⟩
  rw [hl] at hj
  have h0 : 0 < x.length := by omega
  obtain ⟨a0, us0, ha0, _, hu0, hr0⟩ := h4 0 x[0] (List.getElem?_eq_getElem h0)
  have hsp : a0.spot = none := by
    obtain ⟨s0, hs0, _⟩ := hu0
    subst hs0
    have := (hr0 0 (.string s0) rfl).1
    rw [Nat.zero_mul] at this
    exact cell_spot this
  obtain ⟨a, us, ha, _, hu, hr⟩ := h4 j x[j] (List.getElem?_eq_getElem hj)
  have ea : a = a0 := by rw [ha] at ha0; injection ha0
  subst ea
  obtain ⟨s, hs1, hs2⟩ := hu
  subst hs1
  have hr0 := (hr 0 (.string s) rfl).1
  have hw : (Ty.width .str) = 1 := rfl
  rw [hw, Nat.mul_one] at hr0
  refine ⟨a.block, a.off, by rw [ha, ← hsp], ?_⟩
  have he : (x.map fun b => (⟨b.toArray⟩ : ByteArray)).getD j ByteArray.empty = s := by
    rw [List.getD_eq_getElem?_getD, List.getElem?_map, List.getElem?_eq_getElem hj]
    show (⟨x[j].toArray⟩ : ByteArray) = s
    rw [← hs2]
  rw [he]
  have hadd : (a.add j).add 0 = ⟨a.block, a.off + j, none⟩ := by
    show a.add j = _
    unfold Addr.add
    split
    · rename_i h; subst h; rw [← hsp]
      rfl
    · rfl
  rw [hadd] at hr0
  exact hr0

set_option maxHeartbeats 1000000 in
theorem closure_w (A B : Option Addr) (c d : Nat) (xs ys : List ByteArray) (w : World) (h1 : txtAt w A xs) (h2 : txtAt w B ys) (l1 : xs.length ≤ 9223372036854775807) (l2 : ys.length ≤ 9223372036854775807) :
    Calls Try.prog 37 #[.slice A xs.length c, .slice B ys.length d] w fun e w' => e = .returned (.int .i64 (cmpL (txts xs) (txts ys))) ∧ w' = w := by
  have mixed := mixed
  have hC := compareL_w A B c d xs ys h1 h2 l1 l2
  generalize cmpL (txts xs) (txts ys) = r at hC ⊢
  clear h1 h2
  generalize xs.length = n at hC ⊢
  generalize ys.length = m at hC ⊢
  go_enter Try.func37, Try.ntmps37
  go_wp2_with (go_at_call 38; refine hC.mono ?_; rintro e w' ⟨rfl, hw⟩; rw [hw])
  go_ret
  exact ⟨rfl, rfl⟩

theorem sort_none (A : Option Addr) (c : Nat) (fv : Value) (w : World) : Calls Try.prog 36 #[.slice A 0 c, fv] w fun en w' => en = .returned (.tuple #[]) ∧ w' = w := by
  have hS := AnyF.slices_SortFunc_none (P := Try.prog) (ρ := Try.sortL_ren) { Try.sortL with } A c fv w
  change Calls Try.prog 36 _ _ _ at hS
  exact hS
theorem sort_some {α : Type} [Inhabited α] (enc : α → Value) (h1 : Go.Proofs.OneCell enc) (cf : α → α → Int) (hO : SWO (Go.Proofs.ltOf cf)) (g : Nat) (eg : ∀ args w, (callFunc g args).run Try.prog w = .ok (.enter g args) w) (cb : Array Value) (blk cap : Nat) (d : Array α) (w : World) (hcmp : Go.Proofs.CmpLays1 Try.prog g cb enc cf blk 0 d.size w) (hH : Go.Sort.Holds enc w blk 0 d) (hblk : blk < w.heap.size) (hsz : d.size < 4611686018427387904) :
    Calls Try.prog 36 #[.slice (some ⟨blk, 0, none⟩) d.size cap, .func (.func g) #[] cb] w fun en w' => en = .returned (.tuple #[]) ∧ ∃ d' n os, PermIn 0 d.size d d' ∧ SortedIn (Go.Proofs.ltOf cf) 0 d.size d' ∧ w' = sortWorld enc w blk 0 n d' os := by
  have hS := Any.slices_SortFunc (P := Try.prog) (ρ := Try.sortL_ren) Try.sortL enc h1 cf hO g cb blk 0 cap d w eg hcmp hH hblk hsz
  change Calls Try.prog 36 _ _ _ at hS
  exact hS

noncomputable def F36rC37 (_ : Nat) (a0 : List (List Bs)) : Option (List (List Bs)) := if a0.length ≤ 1000000000 then some (sortL a0) else none
theorem P36rC37 (N : Nat) (a0 : List (List Bs)) : ∀ r, F36rC37 N a0 = some r → SpecR Try.prog 36 36 (.list tS) a0 [.fn (.func 37)] r (.tup []) := fun r h => by
  unfold F36rC37 at h
  split at h
  · rename_i hl
    cases h
    have e : sortL a0 = a0.mergeSort fun a b => !Go.Proofs.ltOf cmpL b a := by
      unfold sortL
      congr 1
      funext a b
      rw [lt_lx]
    rw [e]
    refine SpecR_sortFn (P := Try.prog) (f := 36) (e := 36) (t := .list tS) (xs := a0) (g := 37) rfl cmpL lx_swo (fun x y h1 h2 => ?_) (by omega) (enter_of (fn := Try.f36) rfl rfl rfl) (enter_of (fn := Try.f37) rfl rfl rfl) ?_ ?_ ?_
    · rw [lt_lx] at h1 h2
      rcases lx_tri x y with h3 | h3 | h3
      · rw [h1] at h3; cases h3
      · exact h3
      · rw [h2] at h3; cases h3
    · intro w F v hF hgl hv
      have hv' : v = .func (.func 37) #[] #[] := hv
      refine ⟨#[], hv', fun W hs _ x y vx vy hx hy => ?_⟩
      obtain ⟨A, c, xs, rfl, a1, a2, a3⟩ := txt_of hx
      obtain ⟨B, d, ys, rfl, b1, b2, b3⟩ := txt_of hy
      refine (closure_w A B c d xs ys W a1 b1 a3 b3).mono ?_
      rintro en w' ⟨rfl, rfl⟩
      exact ⟨by rw [a2, b2], 0, #[], by rw [grow_empty]; rfl⟩
    · exact fun A c fv w => sort_none A c fv w
    · exact fun enc h1 cf hO cb blk cap d w hc hH hblk hsz => sort_some enc h1 cf hO 37 (enter_of (fn := Try.f37) rfl rfl rfl) cb blk cap d w hc hH hblk hsz
  · cases h

end Go.Proofs.Ytbchajjppgkgnaa.Vc
