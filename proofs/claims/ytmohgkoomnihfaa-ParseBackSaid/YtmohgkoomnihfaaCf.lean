/-
  slices.ContainsFunc at nodes, by the closure of the parser: from the shelf's contract to what it does with data. No condition.
-/
import Derived.Test.YtmohgkoomnihfaaBs
import Derived.Test.YtmohgkoomnihfaaFk
import Derived.Test.YtmohgkoomnihfaaCg
import Derived.Shelf.Lay
import Derived.Ground.SlgfProg
set_option linter.unusedVariables false
set_option linter.unusedSimpArgs false
set_option maxRecDepth 100000
namespace Go.Proofs
open Go.Shelf
def Try.contL_ren : Go.Shelf.Ren := ⟨fun | 8 => 66 | 6 => 82 | n => n, fun | 22 => 49 | 23 => 89 | 25 => 106 | 4 => 4 | 3 => 3 | 0 => 0 | n => n, fun | n => n⟩
theorem Try.contL : Go.Proofs.SlLaysH0.n8 Try.prog Try.contL_ren := {
  mixed := by kernel_rfl
  f6 := ⟨Try.f82.name, by decide, Try.func82.trans (congrArg some (by kernel_rfl))⟩
  f8 := ⟨Try.f66.name, by decide, Try.func66.trans (congrArg some (by kernel_rfl))⟩
  t0 := Try.underlying0
  a0 := Try.isAgg0
  z0 := Try.sizeOf0
  v0 := Try.zeroValue0
  t3 := Try.underlying3
  a3 := Try.isAgg3
  z3 := Try.sizeOf3
  v3 := Try.zeroValue3
  t4 := Try.underlying4
  a4 := Try.isAgg4
  z4 := Try.sizeOf4
  v4 := Try.zeroValue4
  t22 := Try.underlying49
  a22 := Try.isAgg49
  z22 := Try.sizeOf49
  v22 := Try.zeroValue49
  t25 := Try.underlying106
  a25 := Try.isAgg106
  z25 := Try.sizeOf106
  v25 := Try.zeroValue106 }
end Go.Proofs
namespace Go.Proofs.Ytmohgkoomnihfaa.Vc
open Go.RowKit Go.Proofs Go.Lib

set_option maxHeartbeats 1000000 in
theorem index_none (A : Option Addr) (c : Nat) (fv : Value) (w : World) : Calls Try.prog 82 #[.slice A 0 c, fv] w fun en w' => en = .returned (.int .i64 (-1)) ∧ w' = w := by
  have mixed := mixed
  go_enter Try.func82, Try.ntmps82
  go_wp2
  go_loopg [5, 8] 0 (fun _ _ s8 wr => s8 = .int .i64 0 ∧ wr = w)
  case atStart => exact ⟨rfl, rfl⟩
  case round =>
    obtain ⟨rfl, rfl⟩ := hrel
    go_wp2
    go_ret
    exact ⟨rfl, rfl⟩
set_option maxHeartbeats 1000000 in
theorem contains_none (A : Option Addr) (c : Nat) (fv : Value) (w : World) : Calls Try.prog 66 #[.slice A 0 c, fv] w fun en w' => en = .returned (.bool false) ∧ w' = w := by
  have mixed := mixed
  have hI := fun w => index_none A c fv w
  go_enter Try.func66, Try.ntmps66
  go_wp2_with (go_at_call 82; refine (hI _).mono ?_; rintro e w' ⟨rfl, rfl⟩)
  go_ret
  exact ⟨rfl, rfl⟩
theorem contains_some {α : Type} [Inhabited α] (enc : α → List Value) (hk : ∀ x, (enc x).length = 4) (p : α → Bool) (g : Nat) (lb : Array Value) (eg : ∀ args w, (callFunc g args).run Try.prog w = .ok (.enter g args) w) (b off n c : Nat) (zs : List α) (w : World)
    (hp : PredBelow Try.prog g lb (fun x => .agg (enc x).toArray) p w) (hz : n ≤ zs.length) (hbig : n ≤ 9223372036854775807) (hb : b < w.heap.size)
    (hc : ∀ j, j < zs.length → ∀ i v, (enc zs[j]!)[i]? = some v → w.cell? ⟨b, off + j * 4 + i, none⟩ = some v) :
    Calls Try.prog 66 #[.slice (some ⟨b, off, none⟩) n c, .func (.func g) #[] lb] w fun e w' => e = .returned (.bool ((zs.take n).any p)) ∧ Below w.heap.size w w' := by
  have hS := AnyQ.slices_ContainsFunc (P := Try.prog) (ρ := Try.contL_ren) Try.contL 4 Try.isAgg89 Try.sizeOf89 enc hk p g lb eg b off n c zs w hp hz hbig hb hc
  change Calls Try.prog 66 _ _ _ at hS
  exact hS

abbrev tNd : Ty := .pair tLn tI
theorem F_near (N : Nat) (n : Ln × Int) (up : Int) (w : Bs) : F67 N n up w = some (n.2 == up && n.1.2.1 == w) := by
  show (Vt.br (n.2 == up) (.leaf (n.1.2.1 == w)) (.leaf false) : Vt Bool (Option D) (fun q => some (E67 q))).eval = _
  rw [ev_br]
  cases n.2 == up <;> rfl
noncomputable def F66K67 (N : Nat) (a0 : List (Ln × Int)) (up : Int) (w : Bs) : Option Bool := if a0.length ≤ 1000000 then some (a0.any fun n => n.2 == up && n.1.2.1 == w) else none
theorem P66K67 (N : Nat) (a0 : List (Ln × Int)) (up : Int) (w : Bs) : ∀ r, F66K67 N a0 up w = some r →
    Spec Try.prog 66 [.val (.list (.pair tLn tI)) a0, .clo 67 [.ept [.val tI up], .ept [.val tS w]]] (encV tB r) := fun r h => by
  unfold F66K67 at h
  split at h
  · rename_i hl
    cases h
    refine ⟨enter_of (fn := Try.f66) rfl rfl rfl, fun W vs F hF hgl hsz hargs => ?_⟩
    obtain ⟨v, fv, rfl, hv, hf⟩ := two_args (hsz := hsz) hargs
    obtain ⟨us, rfl, hus, hcap⟩ := hf
    have hlist : RV W F (.list (.pair tLn tI)) a0 [v] := hv
    have fin : ∀ (b : Bool) w', Below W.heap.size W w' → ∃ v F' G, (Ending.returned (Value.bool b) : Ending) = .returned v ∧ Below W.heap.size W w' ∧ (∀ g, F g → F' g) ∧ (∀ g, F' g → g < w'.heap.size ∧ (F g ∨ W.heap.size ≤ g)) ∧
      (∀ g, G = some g → W.heap.size ≤ g ∧ ¬F' g ∧ g < w'.heap.size) ∧ RR w' F' (fun g => W.heap.size ≤ g) G v (encV tB b) := fun b w' hb =>
      ⟨_, F, none, rfl, hb, fun _ h => h, fun g hg => ⟨Nat.lt_of_lt_of_le (hF g hg) hb.size, .inl hg⟩, fun g hg => (by cases hg), rfl⟩
    by_cases hne : a0 = []
    · subst hne
      obtain ⟨A, c, h1, h2, h3, _⟩ := hlist
      have hv' : v = .slice A 0 c := by
        injection h1
      subst hv'
      refine Calls.mono (contains_none A c _ W) ?_
      rintro en w' ⟨rfl, rfl⟩
      exact fin _ _ (Below.refl _ _)
    · obtain ⟨b, o, c, zs, rfl, hc, hm, hz, hFb, hb, hcells⟩ := elts hlist hne
      have hzl : zs.length = a0.length := by rw [← hz, List.length_map]
      have h0 : 0 < zs.length := by rw [hzl]; exact List.length_pos_iff.2 hne
      haveI : Inhabited (EltK W F (.pair tLn tI)) := ⟨zs[0]⟩
      have hC := contains_some (fun x : EltK W F (.pair tLn tI) => x.1.1) (fun x => elt_len x) (fun x => x.1.2.2 == up && x.1.2.1.2.1 == w) 67 us (enter_of (fn := Try.f67) rfl rfl rfl) b o a0.length c zs W
        (fun W' x hb' => pred_of_spec (P := Try.prog) (g := 67) (a := tLn) (b := tI) (cs := [.ept [.val tI up], .ept [.val tS w]]) (p := fun n => n.2 == up && n.1.2.1 == w) (q := fun _ => True)
          (fun x _ => P67 N x up w _ (F_near N x up w)) hF hgl hus hcap W' x trivial hb')
        (by rw [hzl]; exact Nat.le_refl _) (by omega) hb (fun j hj i u hi => by
          rw [getElem!_pos zs j hj] at hi
          exact hcells j hj i u hi)
      have hany : (zs.take a0.length).any (fun x => x.1.2.2 == up && x.1.2.1.2.1 == w) = a0.any fun n => n.2 == up && n.1.2.1 == w := by
        rw [List.take_of_length_le (by rw [hzl]; exact Nat.le_refl _), ← hz, List.any_map]; rfl
      rw [hany] at hC
      refine Calls.mono hC ?_
      rintro en w' ⟨rfl, hb'⟩
      exact fin _ _ hb'
  · cases h

end Go.Proofs.Ytmohgkoomnihfaa.Vc
