/-
  slices.CompactFunc at [][]string, by slices.Equal: what it does with a row of the caller's own, which is used up. No condition.
-/
import Derived.Test.YtbchajjppgkgnaaCq
import Derived.Test.YtbchajjppgkgnaaSp
set_option linter.unusedVariables false
set_option linter.unusedSimpArgs false
namespace Go.Proofs.Ytbchajjppgkgnaa.Vc
open Go.RowKit Go.Proofs Go.Sort

set_option maxHeartbeats 4000000 in
set_option maxRecDepth 100000 in
theorem compact_nil (A : Option Addr) (c : Nat) (fv : Value) (w : World) : Calls Try.prog 39 #[.slice A 0 c, fv] w fun en w' => en = .returned (.slice A 0 c) ∧ w' = w := by
  have mixed := mixed
  go_enter Try.func39, Try.ntmps39
  go_wp2
  go_ret
  exact ⟨rfl, rfl⟩

noncomputable def E39tC40 : List (List Bs) → D := fun x => .own 36 (.list tS) x
noncomputable def F39tC40 (_ : Nat) (a0 : List (List Bs)) : Option (List (List Bs)) := if a0.length ≤ 1000000000 then some (dd a0) else none

set_option maxHeartbeats 4000000 in
theorem P39tC40 (N : Nat) (xs : List (List Bs)) : ∀ r, F39tC40 N xs = some r → SpecT Try.prog 39 36 (.list tS) xs [.fn (.func 40)] (E39tC40 r) := fun r h => by
  unfold F39tC40 at h
  split at h
  · rename_i hlen
    cases h
    refine ⟨enter_of (fn := Try.f39) rfl rfl rfl, fun w v0 vs F G0 hF hgl hown hsz hargs => ?_⟩
    obtain ⟨vc, hvc⟩ : ∃ vc, vs = #[vc] := by
      have h1 : vs.size = 1 := by simpa using hsz
      refine ⟨vs[0], Array.ext (by simp [h1]) fun i h2 h3 => ?_⟩
      have : i = 0 := by omega
      subst this; rfl
    subst hvc
    obtain ⟨vc', hvc1, hvc2⟩ := hargs 0 _ rfl
    have hvc3 : vc' = vc := by simpa using hvc1.symm
    subst hvc3
    have hv' : vc' = .func (.func 40) #[] #[] := hvc2
    subst hv'
    rcases hown with ⟨hx, hG, A, rfl⟩ | ⟨b, cap, us, hG, hB, rfl, hh, hle, hcap, hus, hH⟩
    · subst hx
      refine (compact_nil A 0 _ w).mono ?_
      rintro en w' ⟨rfl, rfl⟩
      exact ⟨_, F, none, rfl, by rw [hG]; exact ⟨rfl, rfl, rfl, Nat.le_refl _, fun _ _ _ => rfl⟩, fun _ h => h, fun k hk => ⟨hF k hk, .inl hk⟩, fun k hk => (by cases hk), .inl ⟨rfl, rfl, A, rfl⟩⟩
    · have hw : (Ty.list tS).width = 1 := rfl
      rw [hw, Nat.mul_one] at hus
      have hel : ∀ i (hi : i < xs.length), RV w F (.list tS) xs[i] [us[i]'(by omega)] := fun i hi => by
        have h := hH i xs[i] (List.getElem?_eq_getElem hi)
        rw [hw, Nat.mul_one] at h
        have hl : i < us.toList.length := by rw [Array.length_toList]; omega
        rw [List.drop_eq_getElem_cons hl] at h
        simpa using h
      let enc : Elt w F (.list tS) → Value := fun x => x.1.1
      obtain ⟨d, hd1, hd2⟩ : ∃ d : Array (Elt w F (.list tS)), d.size = xs.length ∧ ∀ i (h1 : i < d.size) (h2 : i < xs.length), (d[i]).1 = (us[i]'(by omega), xs[i]) :=
        ⟨Array.ofFn fun i : Fin xs.length => ⟨(us[i.1]'(by omega), xs[i.1]), hel i.1 i.2⟩, by simp, fun i h1 h2 => by simp⟩
      have hlt : b < w.heap.size := (Array.getElem?_eq_some_iff.1 hh).1
      have hne : ¬F b := hB.2
      obtain ⟨zr, hzr⟩ : ∃ zr : Elt w F (.list tS), enc zr = .slice none 0 0 := ⟨⟨(.slice none 0 0, []), ⟨none, 0, rfl, Nat.le_refl _, Nat.zero_le _, fun i x hx => by simp at hx⟩⟩, rfl⟩
      haveI : Inhabited (Elt w F (.list tS)) := ⟨zr⟩
      have g1 : EqLays Try.prog 40 #[] enc (fun x => x.1.2) b 0 d.size w := by
        intro m os dk hs x y
        have hsame := same_sortW hF hne enc dk (n := m) (os := os)
        obtain ⟨A, c, xs1, hx1, a1, a2, a3⟩ := txt_of (x.2.keep hsame fun _ h => h)
        obtain ⟨B, c2, ys1, hy1, b1, b2, b3⟩ := txt_of (y.2.keep hsame fun _ h => h)
        have e1 : enc x = _ := hx1
        have e2 : enc y = _ := hy1
        rw [e1, e2]
        refine (closeq_w A B c c2 xs1 ys1 a1 b1 a3 b3).mono ?_
        rintro en w' ⟨rfl, q, rfl⟩
        exact ⟨by rw [a2, b2], q, #[], by rw [grow_empty]⟩
      have g2 : Go.Sort.Holds enc w b 0 d := by
        intro j hj
        have hjx : j < xs.length := by omega
        have e1 : d[j]! = d[j] := getElem!_pos d j hj
        refine ⟨?_, by simp [World.frozen?, hh]⟩
        simp only [World.cell?, hh, Nat.zero_add, Option.isSome_none, Bool.false_eq_true, if_false]
        rw [Array.getElem?_eq_getElem (by omega), e1]
        show _ = some (d[j]).1.1
        rw [hd2 j hj hjx]
      have hC := compactFn_w enc enc_elt (fun x => x.1.2) 40 #[] (enter_of (fn := Try.f40) rfl rfl rfl) b 0 cap d w g1 g2 hlt zr hzr (by omega) (by omega) hcap
      rw [hd1] at hC
      refine Calls.mono hC ?_
      rintro en w' ⟨k, d', rfl, hk, hds, hkey, n, os, rfl⟩
      have hgr : w.grownBy (sortWorld enc w b 0 n d' os) (some b) := grownBy_sortW enc d'
      have hsame := same_sortW hF hne enc d' (n := n) (os := os)
      have hdx : d.toList.map (fun x => x.1.2) = xs := by
        apply List.ext_getElem (by simp [hd1])
        intro i h1 h2
        simp only [List.getElem_map, Array.getElem_toList]
        rw [hd2 i (by omega) h2]
      have hkl : ((d'.toList.take k).map fun x => x.1.2).length = k := by simp; omega
      rw [hdx] at hkey
      rw [← hkey]
      refine ⟨_, F, some b, rfl, by rw [hG]; exact hgr, fun _ h => h, fun k hk => ⟨Nat.lt_of_lt_of_le (hF k hk) hgr.size, .inl hk⟩, fun g hg => ?_, .inr ⟨b, cap, _, rfl, trivial, by rw [hkl], heap_sortW enc d' hh, by rw [hkl]; omega, hcap, by simp [putCells, hus, hw], ?_⟩⟩
      · cases hg
        exact ⟨.inr hG, hne, Nat.lt_of_lt_of_le hlt hgr.size⟩
      · intro i y hy
        have hi : i < k := by have := (List.getElem?_eq_some_iff.1 hy).1; rwa [hkl] at this
        have hid : i < d'.size := by omega
        have hiu : i < us.size := by omega
        have hyd : y = (d'[i]).1.2 := by
          rw [List.getElem?_map, List.getElem?_take, if_pos hi, Array.getElem?_toList, Array.getElem?_eq_getElem hid] at hy
          simpa using hy.symm
        rw [hw, Nat.mul_one]
        have hci : (putCells enc 0 d' us).toList[i]? = some (d'[i]).1.1 := by
          rw [Array.getElem?_toList]
          simp [putCells, hid, hiu, enc]
        obtain ⟨hl, he⟩ := List.getElem?_eq_some_iff.1 hci
        rw [List.drop_eq_getElem_cons hl, he, hyd]
        simpa using (d'[i]).2.keep hsame fun _ h => h
  · cases h

end Go.Proofs.Ytbchajjppgkgnaa.Vc
