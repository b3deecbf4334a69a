/-
  FUNCTIONS OF THE LIBRARY THAT WRITE INTO A ROW: from the shelf's contracts ('putRow') to 'SpecR'.
  No condition: the theorems hold for every program.
-/
import Derived.Test.YtnkinnhgahpcoaaVo
import Derived.Sort.OwnSorted
namespace Go.Proofs.Ytnkinnhgahpcoaa.Vc
open Go.RowKit Go.Sort Go.Proofs

/-- A row of texts. -/
theorem SpecR_str {P : Program} {f : FuncId} {e : TypeId} {xs ys : List (List UInt8)} {ds : List D} (hlen : ys.length = xs.length)
    (hent : ∀ (args : Array Value) (w : World), (callFunc f args).run P w = .ok (.enter f args) w)
    (hnil : ∀ (A : Option Addr) (vs : Array Value) (w : World) (F : Nat → Prop), xs = [] → (∀ (i : Nat) d', ds[i]? = some d' → ∃ v, vs[i]? = some v ∧ R1 w F noM v d') → vs.size = ds.length →
      Calls P f (#[.slice A 0 0] ++ vs) w fun en w' => en = .returned (.tuple #[]) ∧ w.grownBy w' none)
    (h : ∀ (w : World) (g cap : Nat) (vs : Array Value) (F : Nat → Prop), (∀ (i : Nat) d', ds[i]? = some d' → ∃ v, vs[i]? = some v ∧ R1 w F noM v d') → vs.size = ds.length → g < w.heap.size →
      Go.Sort.Holds encStr w g 0 xs.toArray → xs.length ≤ maxLen →
      Calls P f (#[.slice (some ⟨g, 0, none⟩) xs.length cap] ++ vs) w fun en w' => en = .returned (.tuple #[]) ∧ ∃ n os, w' = grow (putRow encStr (Sort.ahead w n) g 0 ys.toArray) os) :
    SpecR P f e .str xs ds ys (.tup []) := by
  refine ⟨hent, fun w v0 vs F G0 hF hgl hown hsz hargs => ?_⟩
  have hret : ∀ (w' : World) F2 M2, R w' F2 M2 (.tuple #[]) (.tup []) := fun w' F2 M2 => ⟨#[], rfl, rfl, fun j d hj => by simp at hj⟩
  rcases hown with ⟨hx, hG, A, hv⟩ | ⟨g, cap, us, hG, hB, hv, hh, hle, hcap, hus, hH⟩
  · subst hv
    refine (hnil A vs w F hx hargs hsz).mono ?_
    rintro en w' ⟨rfl, hg⟩
    have hy : ys = [] := by
      rw [hx] at hlen
      exact List.length_eq_zero_iff.1 hlen
    exact ⟨_, F, rfl, by rw [hG]; exact hg, fun _ hg => hg, fun g hgF => ⟨Nat.lt_of_lt_of_le (hF g hgF) hg.size, .inl hgF⟩, hret w', .inl ⟨hy, hG, A, rfl⟩⟩
  · subst hv
    have hcells : us.toList.take xs.length = xs.map encStr := by
      apply List.ext_getElem?
      intro j
      by_cases hj : j < xs.length
      · have hx : xs[j]? = some xs[j] := List.getElem?_eq_getElem hj
        obtain ⟨s, h1, h2⟩ := hH j _ hx
        simp only [Ty.width, Nat.mul_one] at h1
        rw [List.getElem?_take_of_lt hj, List.getElem?_map, hx]
        have h3 : (us.toList.drop j)[0]? = some (.string s) := by
          have : ((us.toList.drop j).take 1)[0]? = some (.string s) := by rw [h1]; rfl
          rw [List.getElem?_take_of_lt (by omega)] at this
          exact this
        rw [List.getElem?_drop, Nat.add_zero] at h3
        rw [h3]
        simp only [Option.map_some, encStr, ← h2]
      · rw [List.getElem?_take_eq_none (by omega), List.getElem?_eq_none (by simp; omega)]
    have hlt : g < w.heap.size := (Array.getElem?_eq_some_iff.1 hh).1
    refine (h w g cap vs F hargs hsz hlt (holds_of_block hh hcells) (by omega)).mono ?_
    rintro en w' ⟨rfl, n, os, rfl⟩
    have hgr : w.grownBy (grow (putRow encStr (Sort.ahead w n) g 0 ys.toArray) os) (some g) := grownBy_sorted _
    refine ⟨_, F, rfl, by rw [hG]; exact hgr, fun _ hg => hg, fun b hb => ⟨Nat.lt_of_lt_of_le (hF b hb) hgr.size, .inl hb⟩, hret _, .inr ⟨g, cap, _, hG, trivial, by rw [hlen], heap_sorted _ hh, by omega, hcap, by simp [putCells, hus], ?_⟩⟩
    intro i y hy
    have hi : i < ys.length := (List.getElem?_eq_some_iff.1 hy).1
    refine ⟨⟨y.toArray⟩, ?_, by simp⟩
    simp only [Ty.width, Nat.mul_one]
    have ht := take_putCells us ys (by simp only [Ty.width, Nat.mul_one] at hus; omega)
    have h1 : (putCells encStr 0 ys.toArray us).toList[i]? = some (encStr y) := by
      have : ((putCells encStr 0 ys.toArray us).toList.take ys.length)[i]? = (ys.map encStr)[i]? := by rw [ht]
      rw [List.getElem?_take_of_lt hi, List.getElem?_map, hy] at this
      exact this
    have hlt2 := (List.getElem?_eq_some_iff.1 h1)
    obtain ⟨hl, he⟩ := hlt2
    rw [List.drop_eq_getElem_cons hl, he]
    rfl

end Go.Proofs.Ytnkinnhgahpcoaa.Vc
