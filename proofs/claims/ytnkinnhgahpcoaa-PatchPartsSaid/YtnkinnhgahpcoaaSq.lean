/-
  slices.SortFunc: what it does with a row of the caller's own, at elements of one cell, whatever the comparison: from the library's contract ('sortWorld') to 'SpecR'. No condition: for every program.
-/
import Derived.Test.YtnkinnhgahpcoaaVx
import Derived.Test.YtnkinnhgahpcoaaTa
import Derived.Shelf.SlSortCmp.Whole1
set_option linter.unusedVariables false
set_option linter.unusedSimpArgs false
namespace Go.Proofs.Ytnkinnhgahpcoaa.Vc
open Go.RowKit Go.Proofs Go.Sort

/-- A value, and the data as which it reads. -/
abbrev Elt (w : World) (F : Nat → Prop) (t : Ty) := {p : Value × t.I // RV w F t p.2 [p.1]}

section
variable {α : Type} [Inhabited α]
theorem grownBy_sortW {w : World} {g n : Nat} {os : Array Obj} (enc : α → Value) (d : Array α) : w.grownBy (sortWorld enc w g 0 n d os) (some g) := by
  unfold sortWorld
  refine ⟨rfl, rfl, rfl, by simp, fun k hk hne => ?_⟩
  rw [heap_grow_old _ _ (by simpa using hk)]
  have : g ≠ k := fun e => hne (by rw [e])
  simp [putRow, mapBlock, Sort.ahead, Array.getElem?_modify, this]

theorem heap_sortW {w : World} {g n : Nat} {os : Array Obj} {cur : Array Value} {e : TypeId} {fr : Nat × Nat} (enc : α → Value) (d : Array α) (hb : w.heap[g]? = some (.cells cur e fr)) :
    (sortWorld enc w g 0 n d os).heap[g]? = some (.cells (putCells enc 0 d cur) e fr) := by
  unfold sortWorld
  have hg : g < w.heap.size := (Array.getElem?_eq_some_iff.1 hb).1
  rw [heap_grow_old _ _ (by simpa using hg)]
  simp [putRow, mapBlock, Sort.ahead, Array.getElem?_modify, hb, onCells]

theorem same_sortW {w : World} {F : Nat → Prop} (hF : ∀ b, F b → b < w.heap.size) {g n : Nat} (hg : ¬F g) {os : Array Obj} (enc : α → Value) (d : Array α) : Same F w (sortWorld enc w g 0 n d os) := fun b hb =>
  (grownBy_sortW enc d).block b (hF b hb) fun e => hg (by injection e with e; rw [← e]; exact hb)
end

/-- Two lists that are in order, one a permutation of the other, are one. -/
theorem perm_sorted {α : Type} {r : α → α → Prop} (ha : ∀ x y, r x y → r y x → x = y) : ∀ {l m : List α}, l.Perm m → l.Pairwise r → m.Pairwise r → l = m
  | [], m, hp, _, _ => (List.nil_perm.1 hp).symm ▸ rfl
  | x :: l, [], hp, _, _ => by have := hp.length_eq; simp at this
  | x :: l, y :: m, hp, h1, h2 => by
    rw [List.pairwise_cons] at h1 h2
    have hxy : x = y := by
      have hx := hp.subset (List.mem_cons_self (a := x) (l := l))
      have hy := hp.symm.subset (List.mem_cons_self (a := y) (l := m))
      rcases List.mem_cons.1 hx with rfl | hx
      · rfl
      · rcases List.mem_cons.1 hy with rfl | hy
        · rfl
        · exact ha x y (h1.1 y hy) (h2.1 x hx)
    subst hxy
    rw [perm_sorted ha ((List.perm_cons _).1 hp) h1.2 h2.2]

theorem enc_elt {w : World} {F : Nat → Prop} {t : Ty} : Go.Proofs.OneCell (fun x : Elt w F t => x.1.1) := fun x => x.2.one _ (List.mem_singleton.2 rfl)

theorem SpecR_sortFn {P : Program} {f g : FuncId} {e : TypeId} {t : Ty} (hw : t.width = 1) {xs : List t.I} {dcl : D} (cf : t.I → t.I → Int) (hO : SWO (Go.Proofs.ltOf cf)) (hT : ∀ x y, Go.Proofs.ltOf cf x y = false → Go.Proofs.ltOf cf y x = false → x = y) (hlen : xs.length < 4611686018427387904)
    (hent : ∀ (args : Array Value) (w : World), (callFunc f args).run P w = .ok (.enter f args) w) (hentg : ∀ (args : Array Value) (w : World), (callFunc g args).run P w = .ok (.enter g args) w)
    (hcb : ∀ (w : World) (F : Nat → Prop) v, (∀ b, F b → b < w.heap.size) → Glb P w F → R1 w F noM v dcl → ∃ cb, v = .func (.func g) #[] cb ∧ ∀ W, Same F w W → w.heap.size ≤ W.heap.size → ∀ x y vx vy, RV W F t x [vx] → RV W F t y [vy] →
      Calls P g (#[vx, vy] ++ cb) W fun en w' => en = .returned (.int .i64 (cf x y)) ∧ ∃ q os', w' = grow (W.drewN q) os')
    (hnil : ∀ A c fv w, Calls P f #[.slice A 0 c, fv] w fun en w' => en = .returned (.tuple #[]) ∧ w' = w)
    (hsort : ∀ {α : Type} [Inhabited α] (enc : α → Value) (_ : Go.Proofs.OneCell enc) (cf : α → α → Int) (_ : SWO (Go.Proofs.ltOf cf)) (cb : Array Value) (blk cap : Nat) (d : Array α) (w : World) (_ : Go.Proofs.CmpLays1 P g cb enc cf blk 0 d.size w) (_ : Go.Sort.Holds enc w blk 0 d) (_ : blk < w.heap.size) (_ : d.size < 4611686018427387904),
      Calls P f #[.slice (some ⟨blk, 0, none⟩) d.size cap, .func (.func g) #[] cb] w fun en w' => en = .returned (.tuple #[]) ∧ ∃ d' n os, PermIn 0 d.size d d' ∧ SortedIn (Go.Proofs.ltOf cf) 0 d.size d' ∧ w' = sortWorld enc w blk 0 n d' os) :
    SpecR P f e t xs [dcl] (xs.mergeSort fun a b => !Go.Proofs.ltOf cf b a) (.tup []) := by
  have hret : ∀ (w' : World) F2 M2, R w' F2 M2 (.tuple #[]) (.tup []) := fun w' F2 M2 => ⟨#[], rfl, rfl, fun j d hj => by simp at hj⟩
  refine ⟨hent, fun w v0 vs F G0 hF hgl hown hsz hargs => ?_⟩
  obtain ⟨vc, hvc⟩ : ∃ vc, vs = #[vc] := by
    have h1 : vs.size = 1 := by simpa using hsz
    refine ⟨vs[0], Array.ext (by simp [h1]) fun i h2 h3 => ?_⟩
    have : i = 0 := by omega
    subst this; rfl
  subst hvc
  obtain ⟨vc', hvc1, hvc2⟩ := hargs 0 dcl rfl
  have hvc3 : vc' = vc := by simpa using hvc1.symm
  subst hvc3
  obtain ⟨cb, rfl, hcmp⟩ := hcb w F vc' hF hgl hvc2
  rcases hown with ⟨hx, hG, A, rfl⟩ | ⟨b, cap, us, hG, hB, rfl, hh, hle, hcap, hus, hH⟩
  · refine (hnil A 0 _ w).mono ?_
    rintro en w' ⟨rfl, rfl⟩
    exact ⟨_, F, rfl, ⟨rfl, rfl, rfl, Nat.le_refl _, fun _ _ _ => rfl⟩, fun _ h => h, fun k hk => ⟨hF k hk, .inl hk⟩, hret _, .inl ⟨by rw [hx]; simp, hG, A, rfl⟩⟩
  · rw [hw, Nat.mul_one] at hus
    -- the elements
    have hel : ∀ i (hi : i < xs.length), RV w F t xs[i] [us[i]'(by omega)] := fun i hi => by
      have h := hH i xs[i] (List.getElem?_eq_getElem hi)
      rw [hw, Nat.mul_one] at h
      have hl : i < us.toList.length := by rw [Array.length_toList]; omega
      rw [List.drop_eq_getElem_cons hl] at h
      simpa using h
    let enc : Elt w F t → Value := fun x => x.1.1
    obtain ⟨d, hd1, hd2⟩ : ∃ d : Array (Elt w F t), d.size = xs.length ∧ ∀ i (h1 : i < d.size) (h2 : i < xs.length), (d[i]).1 = (us[i]'(by omega), xs[i]) :=
      ⟨Array.ofFn fun i : Fin xs.length => ⟨(us[i.1]'(by omega), xs[i.1]), hel i.1 i.2⟩, by simp, fun i h1 h2 => by simp⟩
    have hlt : b < w.heap.size := (Array.getElem?_eq_some_iff.1 hh).1
    have hne : ¬F b := hB.2
    rcases Nat.eq_zero_or_pos xs.length with h0 | h0
    · -- no element
      have hx : xs = [] := List.length_eq_zero_iff.1 h0
      subst hx
      refine (hnil (some ⟨b, 0, none⟩) cap _ w).mono ?_
      rintro en w' ⟨rfl, rfl⟩
      refine ⟨_, F, rfl, ⟨rfl, rfl, rfl, Nat.le_refl _, fun _ _ _ => rfl⟩, fun _ h => h, fun k hk => ⟨hF k hk, .inl hk⟩, hret _, .inr ⟨b, cap, us, hG, trivial, by simp, hh, by simp, hcap, by rw [hus, hw, Nat.mul_one], ?_⟩⟩
      intro i y hy
      simp at hy
    · haveI : Inhabited (Elt w F t) := ⟨d[0]'(by omega)⟩
      have hcf : SWO (Go.Proofs.ltOf fun x y : Elt w F t => cf x.1.2 y.1.2) := ⟨fun x => hO.irrefl _, fun x y z => hO.trans _ _ _, fun x y z => hO.ntrans _ _ _⟩
      have g1 : Go.Proofs.CmpLays1 P g cb enc (fun x y : Elt w F t => cf x.1.2 y.1.2) b 0 d.size w := by
        intro m os dk hs x y
        have hsame := same_sortW hF hne enc dk (n := m) (os := os)
        refine hcmp _ hsame (by unfold sortWorld; rw [size_grow]; simp [putRow, mapBlock, Sort.ahead]) x.1.2 y.1.2 x.1.1 y.1.1 (x.2.keep hsame fun _ h => h) (y.2.keep hsame fun _ h => h)
      have g2 : Go.Sort.Holds enc w b 0 d := by
        intro j hj
        have hjx : j < xs.length := by omega
        have e1 : d[j]! = d[j] := getElem!_pos d j hj
        refine ⟨?_, by simp [World.frozen?, hh]⟩
        simp only [World.cell?, hh, Nat.zero_add, Option.isSome_none, Bool.false_eq_true, if_false]
        rw [Array.getElem?_eq_getElem (by omega), e1]
        show _ = some (d[j]).1.1
        rw [hd2 j hj hjx]
      have hC := hsort enc enc_elt (fun x y : Elt w F t => cf x.1.2 y.1.2) hcf cb b cap d w g1 g2 hlt (by omega)
      rw [hd1] at hC
      refine Calls.mono hC ?_
      · rintro en w' ⟨rfl, d', n, os, hp, hs, rfl⟩
        have hgr : w.grownBy (sortWorld enc w b 0 n d' os) (some b) := grownBy_sortW enc d'
        have hsame := same_sortW hF hne enc d' (n := n) (os := os)
        have hds : d'.size = d.size := hp.1
        have hperm : d'.toList.Perm d.toList := by
          have := hp.2.2
          rwa [Array.extract_eq_self_of_le (by omega), Array.extract_eq_self_of_le (by omega)] at this
        have hdx : d.toList.map (fun x => x.1.2) = xs := by
          apply List.ext_getElem (by simp [hd1])
          intro i h1 h2
          simp only [List.getElem_map, Array.getElem_toList]
          rw [hd2 i (by omega) h2]
        have hys : d'.toList.map (fun x => x.1.2) = xs.mergeSort fun a b => !Go.Proofs.ltOf cf b a := by
          refine perm_sorted (r := fun a b => Go.Proofs.ltOf cf b a = false) (fun x y h1 h2 => hT x y h2 h1) ?_ ?_ ?_
          · refine List.Perm.trans ?_ (List.mergeSort_perm xs _).symm
            rw [← hdx]
            exact hperm.map _
          · rw [List.pairwise_map, List.pairwise_iff_getElem]
            intro i j hi hj hij
            have hi' : i < d'.size := by simpa using hi
            have hj' : j < d'.size := by simpa using hj
            have := hs i j (Nat.zero_le _) hij (by omega)
            rw [getElem!_pos d' i hi', getElem!_pos d' j hj'] at this
            exact this
          · have := List.pairwise_mergeSort (le := fun a b => !Go.Proofs.ltOf cf b a) (fun a b c h1 h2 => by
              rw [Bool.not_eq_true'] at *
              exact hO.ntrans c b a h2 h1) (fun a b => by
              cases h : Go.Proofs.ltOf cf b a with
              | false => rfl
              | true =>
                cases h' : Go.Proofs.ltOf cf a b with
                | false => rfl
                | true => have := hO.trans _ _ _ h h'; rw [hO.irrefl] at this; cases this) xs
            exact this.imp fun h => by simpa using h
        rw [← hys]
        refine ⟨_, F, rfl, by rw [hG]; exact hgr, fun _ h => h, fun k hk => ⟨Nat.lt_of_lt_of_le (hF k hk) hgr.size, .inl hk⟩, hret _, .inr ⟨b, cap, _, hG, trivial, by simp [hds, hd1], heap_sortW enc d' hh, by simp; omega, hcap, by simp [putCells, hus, hw], ?_⟩⟩
        intro i y hy
        have hi : i < d'.size := by have := (List.getElem?_eq_some_iff.1 hy).1; simpa using this
        have hiu : i < us.size := by omega
        have hyd : y = (d'[i]).1.2 := by
          rw [List.getElem?_map, Array.getElem?_toList, Array.getElem?_eq_getElem hi] at hy
          simpa using hy.symm
        rw [hw, Nat.mul_one]
        have hci : (putCells enc 0 d' us).toList[i]? = some (d'[i]).1.1 := by
          rw [Array.getElem?_toList]
          simp [putCells, hi, hiu, enc]
        obtain ⟨hl, he⟩ := List.getElem?_eq_some_iff.1 hci
        rw [List.drop_eq_getElem_cons hl, he, hyd]
        simpa using (d'[i]).2.keep hsame fun _ h => h

end Go.Proofs.Ytnkinnhgahpcoaa.Vc
