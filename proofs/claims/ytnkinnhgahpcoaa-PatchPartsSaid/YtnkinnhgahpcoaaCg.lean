/-
  CLOSURES THAT ARE GIVEN TO THE LIBRARY: a predicate of which a Spec tells, as the shelf asks for it; a list's elements, with their cells. No condition: for every program.
-/
import Derived.Test.YtnkinnhgahpcoaaVx
import Derived.Shelf.SlicesQ.IndexFunc
set_option linter.unusedVariables false
set_option linter.unusedSimpArgs false
namespace Go.Proofs.Ytnkinnhgahpcoaa.Vc
open Go.RowKit Go.Proofs Go.Lib

/-- Cells, and the data as which they read. -/
abbrev EltK (w : World) (F : Nat → Prop) (t : Ty) := {p : List Value × t.I // RV w F t p.2 p.1}
theorem elt_len {w : World} {F : Nat → Prop} {t : Ty} (x : EltK w F t) : x.1.1.length = t.width := x.2.len

theorem cell_spotG {w : World} {a : Addr} {v : Value} (h : w.cell? a = some v) : a.spot = none ∧ a.block < w.heap.size := by
  unfold World.cell? at h
  split at h
  · rename_i c e fr hb
    split at h
    · cases h
    · rename_i h2
      refine ⟨?_, (Array.getElem?_eq_some_iff.1 hb).1⟩
      cases hq : a.spot with
      | none => rfl
      | some q => rw [hq] at h2; exact absurd rfl h2
  · cases h
/-- The elements of a list that is data, with their cells. -/
theorem elts {w : World} {F : Nat → Prop} {t : Ty} {xs : List t.I} {v : Value} (h : RV w F (.list t) xs [v]) (hne : xs ≠ []) :
    ∃ (b o c : Nat) (zs : List (EltK w F t)), v = .slice (some ⟨b, o, none⟩) xs.length c ∧ xs.length ≤ c ∧ c ≤ maxLen ∧ zs.map (fun z => z.1.2) = xs ∧ F b ∧ b < w.heap.size ∧
      ∀ j (hj : j < zs.length), ∀ (i : Nat) u, ((zs[j]).1.1)[i]? = some u → w.cell? ⟨b, o + j * t.width + i, none⟩ = some u := by
  obtain ⟨A, c, h1, h2, h3, h4⟩ := h
  have hv : v = .slice A xs.length c := by simpa using h1
  have h0 : 0 < xs.length := List.length_pos_iff.2 hne
  obtain ⟨a, us0, ha, hFa, hu0, hr0⟩ := h4 0 xs[0] (List.getElem?_eq_getElem h0)
  have hel : ∀ i : Fin xs.length, ∃ us, RV w F t xs[i.1] us ∧ Reads w (a.add (i.1 * t.width)) us := fun i => by
    obtain ⟨a', us, ha', _, hu, hr⟩ := h4 i.1 xs[i.1] (List.getElem?_eq_getElem i.2)
    have : a' = a := by rw [ha] at ha'; injection ha' with e; exact e.symm
    subst this
    exact ⟨us, hu, hr⟩
  have hsp : a.spot = none ∧ a.block < w.heap.size := by
    have hl := hu0.len
    have hw := width_pos t
    cases hus : us0 with
    | nil => rw [hus] at hl; simp at hl; omega
    | cons u r =>
      rw [hus] at hr0
      have := (hr0 0 u rfl).1
      obtain ⟨g1, g2⟩ := cell_spotG this
      rw [add_block, add_block] at g2
      refine ⟨?_, g2⟩
      rw [Nat.zero_mul] at g1
      exact g1
  refine ⟨a.block, a.off, c, List.ofFn fun i : Fin xs.length => (⟨(Classical.choose (hel i), xs[i.1]), (Classical.choose_spec (hel i)).1⟩ : EltK w F t), by rw [hv, ha, ← hsp.1], h2, h3, ?_, hFa, hsp.2, fun j hj i u hi => ?_⟩
  · apply List.ext_getElem (by simp)
    intro i h5 h6
    simp
  · have hj' : j < xs.length := by simpa using hj
    have hr := (Classical.choose_spec (hel ⟨j, hj'⟩)).2
    rw [List.getElem_ofFn] at hi
    have := (hr i u hi).1
    rw [add_add] at this
    have he : a.add (j * t.width + i) = ⟨a.block, a.off + j * t.width + i, none⟩ := by
      have : a = ⟨a.block, a.off, none⟩ := by rw [← hsp.1]
      rw [this, add_lit, Nat.add_assoc]
    rw [he] at this
    exact this

theorem Glb.later {P : Program} {w w' : World} {F : Nat → Prop} (h : Glb P w F) (hF : ∀ g, F g → g < w.heap.size) (hb : Below w.heap.size w w') : Glb P w' F := fun g hg =>
  ⟨(h g hg).1, (h g hg).2.of_block (hb.block g (hF g (h g hg).1))⟩
/-- A predicate of which a Spec tells. -/
theorem pred_of_spec {P : Program} {g : FuncId} {a b : Ty} {cs : List D} {p : (Ty.pair a b).I → Bool} {q : (Ty.pair a b).I → Prop} (hspec : ∀ x, q x → Spec P g (encV (.pair a b) x :: cs) (encV .bool (p x))) {w : World} {F : Nat → Prop} (hF : ∀ g, F g → g < w.heap.size) (hgl : Glb P w F) {lb : Array Value}
    (hsz : lb.size = cs.length) (hcap : ∀ (j : Nat) c, cs[j]? = some c → ∃ u, lb[j]? = some u ∧ u.oneCell' = true ∧ RE w F u c) (W : World) (x : EltK w F (.pair a b)) (hq : q x.1.2) (hb : Below w.heap.size w W) :
    Calls P g (#[.agg x.1.1.toArray] ++ lb) W fun e w' => e = .returned (.bool (p x.1.2)) ∧ Below w.heap.size w w' := by
  have hsame : Same F w W := fun g hg => hb.block g (hF g hg)
  have hs := (hspec x.1.2 hq).2 W (#[.agg x.1.1.toArray] ++ lb) F (fun g hg => Nat.lt_of_lt_of_le (hF g hg) hb.size) (hgl.later hF hb) (by simp [hsz]; omega) fun i d' hi => by
    cases i with
    | zero =>
      have hd : encV (.pair a b) x.1.2 = d' := by simpa using hi
      subst hd
      refine ⟨.agg x.1.1.toArray, by rw [Array.getElem?_append_left (by simp)]; rfl, R1.of_cells ?_ (.inr ⟨_, rfl⟩) fun _ => .inr ⟨_, _, rfl⟩⟩
      have hx := x.2.keep (w' := W) (F' := F) hsame fun _ h => h
      exact hx
    | succ i =>
      have hd : cs[i]? = some d' := by simpa using hi
      obtain ⟨u, h1, _, h2⟩ := hcap i d' hd
      refine ⟨u, by rw [Array.getElem?_append_right (by simp)]; simpa using h1, ?_⟩
      have h3 := h2.keep (w' := W) (F' := F) hsame fun _ h => h
      exact R1.of0 (RE.to0 h3)
  refine hs.mono ?_
  rintro e w' ⟨v, F', G, rfl, hb2, _, _, _, hr⟩
  have hv : v = .bool (p x.1.2) := by
    have hr' : [v] = [Value.bool (p x.1.2)] := hr
    injection hr'
  subst hv
  exact ⟨rfl, hb.trans (hb2.mono hb.size)⟩

end Go.Proofs.Ytnkinnhgahpcoaa.Vc
