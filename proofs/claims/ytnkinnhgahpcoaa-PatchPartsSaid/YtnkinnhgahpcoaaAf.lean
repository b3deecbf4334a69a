/-
  slices.Sort, slices.Compact at texts: what they do with a row of the caller's own. No condition.
-/
import Derived.Test.YtnkinnhgahpcoaaAe
set_option linter.unusedVariables false
set_option linter.unusedSimpArgs false
set_option maxRecDepth 100000
namespace Go.Proofs.Ytnkinnhgahpcoaa.Vc
open Go.RowKit Go.Proofs Go.Lib Go.Sort

/-- Texts in order. -/
def srtT (l : List Bs) : List Bs := l.mergeSort fun x y => !bl y x
theorem srtT_eq (l : List Bs) : (l.mergeSort fun x y => decide (x ≤ y)) = srtT l := by
  unfold srtT
  congr 1
  funext x y
  rw [show bl y x = decide (y < x) from bytesLess_eq y x, ← decide_not]
  congr 1

theorem str_row {w : World} {F : Nat → Prop} {b : Nat} {us : Array Value} {e : TypeId} {xs : List Bs} (hh : w.heap[b]? = some (.cells us e (0, 0))) (hH : Holds w F tS xs us.toList) : Go.Sort.Holds encStr w b 0 xs.toArray := by
  intro j hj
  have hj' : j < xs.length := by simpa using hj
  refine ⟨?_, by simp [World.frozen?, hh]⟩
  simp only [World.cell?, hh, Nat.zero_add, Option.isSome_none, Bool.false_eq_true, if_false]
  have h := hH j xs[j] (List.getElem?_eq_getElem hj')
  have hw : tS.width = 1 := rfl
  rw [hw, Nat.mul_one] at h
  obtain ⟨s, h1, h2⟩ := h
  have h3 : us.toList[j]? = some (.string s) := by
    have : ((us.toList.drop j).take 1)[0]? = some (.string s) := by rw [h1]; rfl
    rw [List.getElem?_take, if_pos (by omega), List.getElem?_drop] at this
    simpa using this
  rw [Array.getElem?_toList] at h3
  rw [h3, str_en h2, getElem!_pos xs.toArray j hj]
  simp
theorem row_str {w : World} {F : Nat → Prop} {xs : List Bs} {us : Array Value} (hl : xs.length ≤ us.size) : Holds w F tS xs (putCells encStr 0 xs.toArray us).toList := fun i x hx => by
  obtain ⟨hi, rfl⟩ := List.getElem?_eq_some_iff.1 hx
  have hw : tS.width = 1 := rfl
  rw [hw, Nat.mul_one]
  have hci : (putCells encStr 0 xs.toArray us).toList[i]? = some (encStr xs[i]) := by
    rw [Array.getElem?_toList]
    simp [putCells, hi, show i < us.size by omega]
  obtain ⟨h1, he⟩ := List.getElem?_eq_some_iff.1 hci
  rw [List.drop_eq_getElem_cons h1, he]
  exact ⟨_, rfl, by simp⟩

noncomputable def F30r (_ : Nat) (a0 : List Bs) : Option (List Bs) := if a0.length ≤ 1000000000 then some (srtT a0) else none
theorem P30r (N : Nat) (xs : List Bs) : ∀ r, F30r N xs = some r → SpecR Try.prog 30 9 tS xs [] r (.tup []) := fun r h => by
  unfold F30r at h
  split at h
  · rename_i hlen
    cases h
    have hret : ∀ (w' : World) F2 M2, R w' F2 M2 (.tuple #[]) (.tup []) := fun w' F2 M2 => ⟨#[], rfl, rfl, fun j d hj => by simp at hj⟩
    refine ⟨enter_of (fn := Try.f30) rfl rfl rfl, fun w v0 vs F G0 hF hgl hown hsz hargs => ?_⟩
    have hv : vs = #[] := Array.size_eq_zero_iff.1 hsz
    subst hv
    rcases hown with ⟨hx, hG, A, rfl⟩ | ⟨b, cap, us, hG, hB, rfl, hh, hle, hcap, hus, hH⟩
    · refine (Try.slices_Sort_string_none A 0 w).mono ?_
      rintro en w' ⟨rfl, rfl⟩
      exact ⟨_, F, rfl, ⟨rfl, rfl, rfl, Nat.le_refl _, fun _ _ _ => rfl⟩, fun _ h => h, fun k hk => ⟨hF k hk, .inl hk⟩, hret _, .inl ⟨by rw [hx]; simp [srtT], hG, A, rfl⟩⟩
    · have hw : tS.width = 1 := rfl
      rw [hw, Nat.mul_one] at hus
      have hlt : b < w.heap.size := (Array.getElem?_eq_some_iff.1 hh).1
      refine (Try.slices_Sort_string b 0 cap xs w (str_row hh hH) hlt (by omega)).mono ?_
      rintro en w' ⟨rfl, n, os, rfl⟩
      rw [srtT_eq]
      have hsl : (srtT xs).length = xs.length := by simp [srtT]
      have hgr : w.grownBy (sortWorld encStr w b 0 n (srtT xs).toArray os) (some b) := grownBy_sortW encStr _
      exact ⟨_, F, rfl, by rw [hG]; exact hgr, fun _ h => h, fun k hk => ⟨Nat.lt_of_lt_of_le (hF k hk) hgr.size, .inl hk⟩, hret _, .inr ⟨b, cap, _, hG, trivial, by rw [hsl], heap_sortW encStr _ hh, by rw [hsl]; exact hle, hcap, by simp [putCells, hus, hw], row_str (by rw [hsl]; omega)⟩⟩
  · cases h

theorem compact_dd (zs : List Bs) : Lib.compact zs = ddA zs := by
  have h : ∀ m, m ≤ zs.length → compactUpTo zs.toArray m = ddA (zs.take m) := by
    intro m
    induction m with
    | zero => intro _; rfl
    | succ m ih =>
      intro hm
      rw [compactUpTo_succ, ih (by omega)]
      have e1 : zs.toArray[m]! = zs[m]! := by rw [getElem!_pos zs.toArray m (by simp; omega), getElem!_pos zs m (by omega)]; simp
      cases m with
      | zero =>
        rw [List.take_succ_eq_append_getElem (by omega), List.take_zero, e1, getElem!_pos zs 0 (by omega), keeps_lt_one _ 0 (by omega)]
        rfl
      | succ m =>
        rw [ddA_take zs hm, e1]
        have e2 : zs.toArray[m]! = zs[m]! := by rw [getElem!_pos zs.toArray m (by simp; omega), getElem!_pos zs m (by omega)]; simp
        by_cases hk : zs[m + 1]! = zs[m]!
        · rw [keeps_neg (by omega) (by rw [e1, Nat.add_sub_cancel, e2]; exact hk), if_pos hk]; simp
        · rw [keeps_pos (by rw [e1, Nat.add_sub_cancel, e2]; exact hk), if_neg hk]; simp
  have := h zs.length (Nat.le_refl _)
  rw [List.take_of_length_le (Nat.le_refl _)] at this
  exact this
theorem ddT_len (l : List Bs) : (ddA l).length ≤ l.length := by
  suffices h : ∀ (l acc : List Bs), (l.foldl ddS acc).length ≤ acc.length + l.length by unfold ddA; simpa using h l []
  intro l
  induction l with
  | nil => intro acc; simp
  | cons x l ih =>
    intro acc
    rw [List.foldl_cons]
    refine Nat.le_trans (ih _) ?_
    unfold ddS
    split <;> simp <;> omega
theorem putCells_size {α : Type} [Inhabited α] (enc : α → Value) (o : Nat) (d : Array α) (us : Array Value) : (putCells enc o d us).size = us.size := by simp [putCells]
theorem holds_pre {w : World} {F : Nat → Prop} {xs ys : List Bs} {us : List Value} (h : Holds w F tS (xs ++ ys) us) : Holds w F tS xs us := fun i x hx => h i x (by
  obtain ⟨hi, rfl⟩ := List.getElem?_eq_some_iff.1 hx
  rw [List.getElem?_append_left hi, List.getElem?_eq_getElem hi])

def E31t : List Bs → D := fun x => .own 9 tS x
def F31t (_ : Nat) (a0 : List Bs) : Option (List Bs) := some (ddA a0)
theorem P31t (N : Nat) (xs : List Bs) : ∀ r, F31t N xs = some r → SpecT Try.prog 31 9 tS xs [] (E31t r) := fun r h => by
  cases h
  refine ⟨enter_of (fn := Try.f31) rfl rfl rfl, fun w v0 vs F G0 hF hgl hown hsz hargs => ?_⟩
  have hv : vs = #[] := Array.size_eq_zero_iff.1 hsz
  subst hv
  rcases hown with ⟨hx, hG, A, rfl⟩ | ⟨b, cap, us, hG, hB, rfl, hh, hle, hcap, hus, hH⟩
  · subst hx
    refine (Try.slices_Compact_string_empty A 0 w).mono ?_
    rintro en w' ⟨rfl, rfl⟩
    exact ⟨_, F, none, rfl, by rw [hG]; exact ⟨rfl, rfl, rfl, Nat.le_refl _, fun _ _ _ => rfl⟩, fun _ h => h, fun k hk => ⟨hF k hk, .inl hk⟩, fun k hk => (by cases hk), .inl ⟨rfl, rfl, A, rfl⟩⟩
  · have hw : tS.width = 1 := rfl
    rw [hw, Nat.mul_one] at hus
    have hlt : b < w.heap.size := (Array.getElem?_eq_some_iff.1 hh).1
    refine (Try.slices_Compact_string b 0 cap xs w (str_row hh hH) (Nat.le_trans hle hcap) hle).mono ?_
    rintro en w' ⟨rfl, q, rfl⟩
    rw [compact_dd]
    obtain ⟨zs, hzs⟩ : ∃ zs, ddA xs ++ List.replicate (xs.length - (ddA xs).length) ([] : Bs) = zs := ⟨_, rfl⟩
    have hzl : zs.length = xs.length := by rw [← hzs, List.length_append, List.length_replicate]; have := ddT_len xs; omega
    rw [hzs]
    have e : putRow encStr (Sort.ahead w q) b 0 zs.toArray = sortWorld encStr w b 0 q zs.toArray #[] := by unfold sortWorld; rw [grow_empty]
    rw [e]
    have hgr : w.grownBy (sortWorld encStr w b 0 q zs.toArray #[]) (some b) := grownBy_sortW encStr _
    have hrow : Holds (sortWorld encStr w b 0 q zs.toArray #[]) F tS zs (putCells encStr 0 zs.toArray us).toList := row_str (by rw [hzl]; omega)
    refine ⟨_, F, some b, rfl, by rw [hG]; exact hgr, fun _ h => h, fun k hk => ⟨Nat.lt_of_lt_of_le (hF k hk) hgr.size, .inl hk⟩, fun k hk => by cases hk; exact ⟨.inr hG, hB.2, Nat.lt_of_lt_of_le hlt hgr.size⟩,
      .inr ⟨b, cap, _, rfl, trivial, rfl, heap_sortW encStr _ hh, Nat.le_trans (ddT_len xs) hle, hcap, by rw [putCells_size, hus, hw, Nat.mul_one], ?_⟩⟩
    rw [← hzs] at hrow ⊢
    exact holds_pre hrow

end Go.Proofs.Ytnkinnhgahpcoaa.Vc
