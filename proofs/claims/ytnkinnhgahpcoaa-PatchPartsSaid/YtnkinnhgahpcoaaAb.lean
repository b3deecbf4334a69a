/-
  slices.SortFunc at entries, by host.Compare: what it does with a row of the caller's own. No condition.
-/
import Derived.Test.YtnkinnhgahpcoaaAa
set_option linter.unusedVariables false
set_option linter.unusedSimpArgs false
set_option maxRecDepth 100000
namespace Go.Proofs.Ytnkinnhgahpcoaa.Vc
open Go.RowKit Go.Proofs Go.Sort

/-- The cells of entries, one behind the other. -/
theorem holds_en {w : World} {F : Nat → Prop} {xs : List En} {us : List Value} (h : Holds w F tEn xs us) : ∀ i (hi : i < xs.length), ∀ c v, (encE xs[i])[c]? = some v → us[i * 4 + c]? = some v := fun i hi c v hc => by
  have h1 := rv_en.1 (h i xs[i] (List.getElem?_eq_getElem hi))
  have hw : tEn.width = 4 := rfl
  rw [hw] at h1
  rw [← h1, List.getElem?_take] at hc
  split at hc
  · rw [List.getElem?_drop] at hc; exact hc
  · cases hc
theorem holds_of_en {w : World} {F : Nat → Prop} {xs : List En} {us : List Value} (h : ∀ i (hi : i < xs.length), ∀ c v, (encE xs[i])[c]? = some v → us[i * 4 + c]? = some v) : Holds w F tEn xs us := fun i x hx => by
  obtain ⟨hi, rfl⟩ := List.getElem?_eq_some_iff.1 hx
  rw [rv_en]
  have hw : tEn.width = 4 := rfl
  rw [hw]
  apply List.ext_getElem?
  intro c
  rw [List.getElem?_take]
  have h0 := h i hi
  by_cases hc : c < 4
  · rw [if_pos hc, List.getElem?_drop]
    have : (encE xs[i])[c]? = some ((encE xs[i])[c]'hc) := List.getElem?_eq_getElem hc
    rw [h0 c _ this, this]
  · rw [if_neg hc, List.getElem?_eq_none (show (encE xs[i]).length ≤ c by show 4 ≤ c; omega)]

theorem flatK_en (d : Array En) (i c : Nat) (hi : i < d.size) (hc : c < 4) : (flatK encE 4 d)[i * 4 + c]! = (encE d[i]!)[c]! := by
  rw [get_flatK encE 4 d (i * 4 + c) (by omega)]
  rw [show (i * 4 + c) / 4 = i by omega, show (i * 4 + c) % 4 = c by omega]
theorem encE_get (x : En) (c : Nat) (v : Value) (h : (encE x)[c]? = some v) : c < 4 ∧ (encE x)[c]! = v := by
  obtain ⟨h1, h2⟩ := List.getElem?_eq_some_iff.1 h
  exact ⟨h1, by rw [getElem!_pos (encE x) c h1]; exact h2⟩

/-- What a row's cells are, once these entries have been put there. -/
theorem put_flat {d : List En} {us : Array Value} (hu : d.length * 4 ≤ us.size) (i : Nat) (hi : i < d.length) (c : Nat) (v : Value) (hc : (encE d[i])[c]? = some v) : (putCells id 0 (flatK encE 4 d.toArray) us).toList[i * 4 + c]? = some v := by
  obtain ⟨hc4, hcv⟩ := encE_get _ c v hc
  rw [Array.getElem?_toList]
  have hiu : i * 4 + c < us.size := by omega
  have hfl : i * 4 + c < (flatK encE 4 d.toArray).size := by rw [size_flatK]; simp; omega
  have h2 := flatK_en d.toArray i c (by simpa using hi) hc4
  rw [getElem!_pos (flatK encE 4 d.toArray) (i * 4 + c) hfl, getElem!_pos d.toArray i (by simpa using hi)] at h2
  have h3 : d.toArray[i]'(by simpa using hi) = d[i] := by simp
  rw [h3, hcv] at h2
  simp only [putCells, id, Array.getElem?_mapIdx, Array.getElem?_eq_getElem hiu, Option.map_some]
  rw [if_pos ⟨Nat.zero_le _, by omega⟩, Nat.sub_zero, getElem!_pos (flatK encE 4 d.toArray) (i * 4 + c) hfl, h2]
/-- The entries' cells, as the library's words have it. -/
theorem holdsK_en {w : World} {b : Nat} {us : Array Value} {e : TypeId} (hh : w.heap[b]? = some (.cells us e (0, 0))) {xs : List En} (h : ∀ i (hi : i < xs.length), ∀ c v, (encE xs[i])[c]? = some v → us.toList[i * 4 + c]? = some v) : HoldsK encE 4 w b 0 xs.toArray := by
  intro t ht
  have ht' : t < xs.length * 4 := by simpa using ht
  refine ⟨?_, by simp [World.frozen?, hh]⟩
  simp only [World.cell?, hh, Nat.zero_add, Option.isSome_none, Bool.false_eq_true, if_false]
  have hi : t / 4 < xs.length := by omega
  have hc : t % 4 < (encE xs[t / 4]).length := by show t % 4 < 4; omega
  have h1 := h (t / 4) hi (t % 4) _ (List.getElem?_eq_getElem hc)
  rw [show t / 4 * 4 + t % 4 = t by omega, Array.getElem?_toList] at h1
  rw [h1, get_flatK encE 4 xs.toArray t (by simpa using ht)]
  have e1 : xs.toArray[t / 4]! = xs[t / 4] := by rw [getElem!_pos xs.toArray (t / 4) (by simpa using hi)]; simp
  rw [e1, getElem!_pos (encE xs[t / 4]) (t % 4) hc]
  rfl

theorem sortE_none (A : Option Addr) (c : Nat) (fv : Value) (w : World) : Calls Try.prog 39 #[.slice A 0 c, fv] w fun en w' => en = .returned (.tuple #[]) ∧ w' = w := by
  have hS := AnyF.slices_SortFunc_none (P := Try.prog) (ρ := Try.sortE_ren) Try.sortE A c fv w
  change Calls Try.prog 39 _ _ _ at hS
  exact hS
theorem sortE_some (eg : ∀ args w, (callFunc 35 args).run Try.prog w = .ok (.enter 35 args) w) (blk cap : Nat) (d : Array En) (w : World) (hcmp : CmpLays Try.prog 35 #[] encE 4 cmpE blk 0 d.size w)
    (hH : HoldsK encE 4 w blk 0 d) (hblk : blk < w.heap.size) (hsz : d.size < 4611686018427387904) :
    Calls Try.prog 39 #[.slice (some ⟨blk, 0, none⟩) d.size cap, .func (.func 35) #[] #[]] w fun en w' =>
      en = .returned (.tuple #[]) ∧ ∃ n os, w' = sortWorldK encE 4 w blk 0 n (d.toList.mergeSort fun x y => !(Go.Proofs.ltOf cmpE) y x).toArray os := by
  have hS := AnyQ.slices_SortFunc_total (P := Try.prog) (ρ := Try.sortE_ren) Try.sortE 4 Try.isAgg44 Try.sizeOf44 encE encE_len encE_one cmpE ahd_swo 35 #[] blk 0 cap d w eg hcmp hH hblk hsz (fun x y h1 h2 => by
    rw [lt_ahd] at h1 h2
    rcases ahd_tri x y with h3 | h3 | h3
    · rw [h1] at h3; cases h3
    · exact h3
    · rw [h2] at h3; cases h3)
  change Calls Try.prog 39 _ _ _ at hS
  exact hS

/-- Entries in order. -/
def srtA (l : List En) : List En := l.mergeSort fun x y => !ahd y x
noncomputable def F39rC35 (_ : Nat) (a0 : List En) : Option (List En) := if a0.length ≤ 1000000000 then some (srtA a0) else none
theorem P39rC35 (N : Nat) (xs : List En) : ∀ r, F39rC35 N xs = some r →
    SpecR Try.prog 39 44 tEn xs [.fn (.func 35)] r (.tup []) := fun r h => by
  unfold F39rC35 at h
  split at h
  · rename_i hlen
    cases h
    have hret : ∀ (w' : World) F2 M2, R w' F2 M2 (.tuple #[]) (.tup []) := fun w' F2 M2 => ⟨#[], rfl, rfl, fun j d hj => by simp at hj⟩
    refine ⟨enter_of (fn := Try.f39) rfl rfl rfl, fun w v0 vs F G0 hF hgl hown hsz hargs => ?_⟩
    obtain ⟨vc, hvc⟩ : ∃ vc, vs = #[vc] := by
      have h1 : vs.size = 1 := by simpa using hsz
      refine ⟨vs[0], Array.ext (by simp [h1]) fun i h2 h3 => ?_⟩
      have : i = 0 := by omega
      subst this; rfl
    subst hvc
    obtain ⟨vc', hvc1, hvc2⟩ := hargs 0 _ rfl
    have hvc3 : vc' = vc := by simpa using hvc1.symm
    subst hvc3
    have hv' : vc' = .func (.func 35) #[] #[] := hvc2
    subst hv'
    rcases hown with ⟨hx, hG, A, rfl⟩ | ⟨b, cap, us, hG, hB, rfl, hh, hle, hcap, hus, hH⟩
    · refine (sortE_none A 0 _ w).mono ?_
      rintro en w' ⟨rfl, rfl⟩
      exact ⟨_, F, rfl, ⟨rfl, rfl, rfl, Nat.le_refl _, fun _ _ _ => rfl⟩, fun _ h => h, fun k hk => ⟨hF k hk, .inl hk⟩, hret _, .inl ⟨by rw [hx]; simp [srtA], hG, A, rfl⟩⟩
    · have hw4 : tEn.width = 4 := rfl
      rw [hw4] at hus
      have hlt : b < w.heap.size := (Array.getElem?_eq_some_iff.1 hh).1
      have hne : ¬F b := hB.2
      have hcells := holds_en hH
      have hds : xs.toArray.size = xs.length := by simp
      have hK : HoldsK encE 4 w b 0 xs.toArray := holdsK_en hh hcells
      have hC := sortE_some (enter_of (fn := Try.f35) rfl rfl rfl) b cap xs.toArray w (fun m os dk hs x y => by
        refine (cmpE_w x y _).mono ?_
        rintro e w' ⟨rfl, h⟩
        exact ⟨rfl, h⟩) hK hlt (by rw [hds]; omega)
      rw [hds] at hC
      refine Calls.mono hC ?_
      rintro en w' ⟨rfl, n, os, rfl⟩
      have hsrt : (xs.toArray.toList.mergeSort fun x y => !(Go.Proofs.ltOf cmpE) y x) = srtA xs := by
        unfold srtA
        congr 1
        funext x y
        rw [lt_ahd]
      rw [hsrt]
      have hsl : (srtA xs).length = xs.length := by simp [srtA]
      have e : sortWorldK encE 4 w b 0 n (srtA xs).toArray os = sortWorld id w b 0 n (flatK encE 4 (srtA xs).toArray) os := rfl
      rw [e]
      have hgr : w.grownBy (sortWorld id w b 0 n (flatK encE 4 (srtA xs).toArray) os) (some b) := grownBy_sortW id _
      refine ⟨_, F, rfl, by rw [hG]; exact hgr, fun _ h => h, fun k hk => ⟨Nat.lt_of_lt_of_le (hF k hk) hgr.size, .inl hk⟩, hret _, .inr ⟨b, cap, _, hG, trivial, by rw [hsl], heap_sortW id _ hh, by rw [hsl]; exact hle, hcap, by simp [putCells, hus, hw4], holds_of_en fun i hi c v hc => ?_⟩⟩
      exact put_flat (by rw [hus, hsl]; omega) i hi c v hc
  · cases h

end Go.Proofs.Ytnkinnhgahpcoaa.Vc
