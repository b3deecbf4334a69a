/-
  MERGE, AS PLAIN LISTS: the paths of three trees, what is decided, what comes out. No condition.
-/
import Derived.Test.YtmohgkoomnihfaaEs
set_option linter.unusedVariables false
set_option linter.unusedSimpArgs false
namespace Go.Proofs.Ytmohgkoomnihfaa.Vc

/-! ### Paths, in order, once -/

/-- Paths, in order. -/
def sortL (l : List (List Bs)) : List (List Bs) := l.mergeSort fun a b => !lx b a
def ddS (acc : List (List Bs)) (x : List Bs) : List (List Bs) := if acc.getLast? = some x then acc else acc ++ [x]
/-- Of neighbours that are the same, the first. -/
def dd (l : List (List Bs)) : List (List Bs) := l.foldl ddS []
theorem dd_snoc (l : List (List Bs)) (x : List Bs) : dd (l ++ [x]) = ddS (dd l) x := by unfold dd; rw [List.foldl_append]; rfl
theorem snoc_ind {α : Type} {P : List α → Prop} (h0 : P []) (h1 : ∀ l x, P l → P (l ++ [x])) (l : List α) : P l := by
  have : ∀ m : List α, P m.reverse := fun m => by
    induction m with
    | nil => exact h0
    | cons a m ih => rw [List.reverse_cons]; exact h1 _ _ ih
  have := this l.reverse
  rwa [List.reverse_reverse] at this
theorem dd_last (l : List (List Bs)) : (dd l).getLast? = l.getLast? := by
  refine snoc_ind (P := fun l => (dd l).getLast? = l.getLast?) rfl (fun l x ih => ?_) l
  rw [dd_snoc]; unfold ddS
  split
  · rename_i h; rw [h]; simp
  · simp
theorem dd_mem {x : List Bs} (l : List (List Bs)) : x ∈ dd l ↔ x ∈ l := by
  refine snoc_ind (P := fun l => x ∈ dd l ↔ x ∈ l) (Iff.rfl) (fun l y ih => ?_) l
  rw [dd_snoc, List.mem_append, ← ih]; unfold ddS
  split
  · rename_i h
    constructor
    · exact .inl
    · rintro (h1 | h1)
      · exact h1
      · rw [List.mem_singleton] at h1; subst h1; exact List.mem_of_getLast? h
  · rw [List.mem_append]
theorem pw_last {α : Type} {R : α → α → Prop} {l : List α} (h : l.Pairwise R) {a z : α} (ha : a ∈ l) (hz : l.getLast? = some z) (hne : a ≠ z) : R a z := by
  have hl : l ≠ [] := List.ne_nil_of_mem ha
  rw [List.getLast?_eq_some_getLast hl] at hz
  injection hz with hz
  rw [← List.dropLast_concat_getLast hl, hz] at h ha
  rw [List.pairwise_append] at h
  rcases List.mem_append.1 ha with h1 | h1
  · exact h.2.2 a h1 z (List.mem_singleton.2 rfl)
  · exact absurd (List.mem_singleton.1 h1) hne
theorem dd_up (l : List (List Bs)) : l.Pairwise (fun a b => lx b a = false) → (dd l).Pairwise fun a b => lx a b = true := by
  refine snoc_ind (P := fun l => l.Pairwise (fun a b => lx b a = false) → (dd l).Pairwise fun a b => lx a b = true) (fun _ => List.Pairwise.nil) (fun l x ih h => ?_) l
  rw [List.pairwise_append] at h
  rw [dd_snoc]; unfold ddS
  split
  · exact ih h.1
  · rename_i hn
    rw [List.pairwise_append]
    refine ⟨ih h.1, List.pairwise_singleton _ _, fun a ha b hb => ?_⟩
    rw [List.mem_singleton] at hb; subst hb
    have h1 := h.2.2 a ((dd_mem l).1 ha) b (List.mem_singleton.2 rfl)
    by_cases hab : a = b
    · subst hab
      exfalso
      obtain ⟨z, hz⟩ : ∃ z, (dd l).getLast? = some z := ⟨_, List.getLast?_eq_some_getLast (List.ne_nil_of_mem ha)⟩
      have hza : a ≠ z := fun e => hn (by rw [hz, e])
      have h2 := pw_last (ih h.1) ha hz hza
      have h3 := h.2.2 z ((dd_mem l).1 (List.mem_of_getLast? hz)) a (List.mem_singleton.2 rfl)
      rw [h2] at h3; cases h3
    · exact lx_of_not h1 fun e => hab e.symm
theorem sortL_up (l : List (List Bs)) : (sortL l).Pairwise fun a b => lx b a = false := by
  have := List.pairwise_mergeSort (le := fun a b => !lx b a) (fun a b c h1 h2 => by
    rw [Bool.not_eq_true'] at *
    cases h : lx c a with
    | false => rfl
    | true =>
      rcases lx_tri a b with h3 | rfl | h3
      · rw [lx_trans h h3] at h2; cases h2
      · rw [h] at h2; cases h2
      · rw [h3] at h1; cases h1) (fun a b => by
    cases h : lx b a with
    | false => rfl
    | true => rw [lx_asymm h]; rfl) l
  exact this.imp fun h => by simpa using h
def once (l : List (List Bs)) : List (List Bs) := dd (sortL l)
theorem once_up (l : List (List Bs)) : (once l).Pairwise fun a b => lx a b = true := dd_up _ (sortL_up l)
theorem once_mem {l : List (List Bs)} {x : List Bs} : x ∈ once l ↔ x ∈ l := by
  unfold once; rw [dd_mem]; unfold sortL; exact List.mem_mergeSort
theorem dd_len (l : List (List Bs)) : (dd l).length ≤ l.length := by
  refine snoc_ind (P := fun l => (dd l).length ≤ l.length) (Nat.le_refl _) (fun l x ih => ?_) l
  rw [dd_snoc]; unfold ddS
  split
  · simp; omega
  · simp; omega
theorem sortL_len (l : List (List Bs)) : (sortL l).length = l.length := by unfold sortL; exact List.length_mergeSort l
theorem once_len (l : List (List Bs)) : (once l).length ≤ l.length := by have := dd_len (sortL l); rw [sortL_len] at this; exact this
theorem up_ext : ∀ {a b : List (List Bs)}, (a.Pairwise fun x y => lx x y = true) → (b.Pairwise fun x y => lx x y = true) → (∀ e, e ∈ a ↔ e ∈ b) → a = b
  | [], [], _, _, _ => rfl
  | [], y :: b, _, _, h => by have := (h y).2 (by simp); cases this
  | x :: a, [], _, _, h => by have := (h x).1 (by simp); cases this
  | x :: a, y :: b, ha, hb, h => by
    obtain ⟨ha1, ha2⟩ := List.pairwise_cons.1 ha
    obtain ⟨hb1, hb2⟩ := List.pairwise_cons.1 hb
    have hxy : x = y := by
      rcases List.mem_cons.1 ((h x).1 (by simp)) with h1 | h1
      · exact h1
      · rcases List.mem_cons.1 ((h y).2 (by simp)) with h2 | h2
        · exact h2.symm
        · have h3 := hb1 _ h1; have h4 := ha1 _ h2
          rw [lx_asymm h3] at h4; cases h4
    subst hxy
    congr 1
    refine up_ext ha2 hb2 fun e => ⟨fun he => ?_, fun he => ?_⟩
    · rcases List.mem_cons.1 ((h e).1 (by simp [he])) with rfl | h1
      · have := ha1 _ he; rw [lx_irr] at this; cases this
      · exact h1
    · rcases List.mem_cons.1 ((h e).2 (by simp [he])) with rfl | h1
      · have := hb1 _ he; rw [lx_irr] at this; cases this
      · exact h1
theorem once_ext {l m : List (List Bs)} (h : ∀ e, e ∈ l ↔ e ∈ m) : once l = once m := up_ext (once_up l) (once_up m) fun e => by rw [once_mem, once_mem, h]

/-! ### A path, where it belongs -/

def insL (p : List Bs) : List (List Bs) → List (List Bs)
  | [] => [p]
  | x :: r => if lx p x = true then p :: x :: r else x :: insL p r
def putP (l : List (List Bs)) (p : List Bs) : List (List Bs) := if p ∈ l then l else insL p l
theorem insL_none {p : List Bs} : ∀ {l : List (List Bs)}, l.any (lx p) = false → insL p l = l ++ [p]
  | [], _ => rfl
  | x :: r, h => by
    simp only [List.any_cons, Bool.or_eq_false_iff] at h
    rw [insL, if_neg (by rw [h.1]; simp), insL_none h.2, List.cons_append]
theorem insL_snoc {p : List Bs} : ∀ (l : List (List Bs)) (x : List Bs), insL p (l ++ [x]) = if l.any (lx p) = true then insL p l ++ [x] else if lx p x = true then l ++ [p, x] else l ++ [x, p]
  | [], x => by simp [insL]
  | y :: r, x => by
    rw [List.cons_append, insL, insL, insL_snoc r x]
    by_cases h : lx p y = true
    · rw [if_pos h, if_pos (show (y :: r).any (lx p) = true by rw [List.any_cons, h, Bool.true_or]), if_pos h]; rfl
    · by_cases h2 : r.any (lx p) = true
      · rw [if_neg h, if_pos h2, if_pos (show (y :: r).any (lx p) = true by rw [List.any_cons, h2, Bool.or_true]), if_neg h]; rfl
      · have h4 : ¬(y :: r).any (lx p) = true := by
          rw [List.any_cons]; simp only [Bool.or_eq_true]
          rintro (h3 | h3)
          · exact h h3
          · exact h2 h3
        rw [if_neg h, if_neg h2, if_neg h4]
        by_cases h3 : lx p x = true
        · rw [if_pos h3, if_pos h3]; rfl
        · rw [if_neg h3, if_neg h3]; rfl
theorem insL_mem {p x : List Bs} : ∀ (l : List (List Bs)), x ∈ insL p l ↔ x = p ∨ x ∈ l
  | [] => by simp [insL]
  | y :: r => by
    rw [insL]
    split
    · simp
    · simp only [List.mem_cons, insL_mem r]
      constructor
      · rintro (h | h | h)
        · exact .inr (.inl h)
        · exact .inl h
        · exact .inr (.inr h)
      · rintro (h | h | h)
        · exact .inr (.inl h)
        · exact .inl h
        · exact .inr (.inr h)
theorem insL_up {p : List Bs} : ∀ {l : List (List Bs)}, (l.Pairwise fun a b => lx a b = true) → p ∉ l → (insL p l).Pairwise fun a b => lx a b = true
  | [], _, _ => List.pairwise_singleton _ _
  | y :: r, h, hn => by
    obtain ⟨h1, h2⟩ := List.pairwise_cons.1 h
    rw [insL]
    split
    · rename_i h3
      refine List.pairwise_cons.2 ⟨fun z hz => ?_, h⟩
      rcases List.mem_cons.1 hz with rfl | hz
      · exact h3
      · exact lx_trans h3 (h1 z hz)
    · rename_i h3
      have h4 : p ≠ y := fun e => hn (by rw [e]; exact List.mem_cons_self)
      refine List.pairwise_cons.2 ⟨fun z hz => ?_, insL_up h2 fun e => hn (List.mem_cons_of_mem _ e)⟩
      rcases (insL_mem r).1 hz with rfl | hz
      · exact lx_of_not (by simpa using h3) h4
      · exact h1 z hz
theorem insL_len (p : List Bs) : ∀ l : List (List Bs), (insL p l).length = l.length + 1
  | [] => rfl
  | y :: r => by
    rw [insL]
    split
    · rfl
    · simp [insL_len p r]
theorem putP_up {p : List Bs} {l : List (List Bs)} (h : l.Pairwise fun a b => lx a b = true) : (putP l p).Pairwise fun a b => lx a b = true := by
  unfold putP
  split
  · exact h
  · exact insL_up h ‹_›
theorem putP_mem {p x : List Bs} {l : List (List Bs)} : x ∈ putP l p ↔ x = p ∨ x ∈ l := by
  unfold putP
  split
  · rename_i h
    exact ⟨.inr, fun h1 => h1.elim (fun e => e ▸ h) id⟩
  · exact insL_mem l
theorem putP_len (l : List (List Bs)) (p : List Bs) : (putP l p).length ≤ l.length + 1 := by
  unfold putP
  split
  · omega
  · rw [insL_len]; exact Nat.le_refl _
theorem puts_up : ∀ (ps l : List (List Bs)), (l.Pairwise fun a b => lx a b = true) → ((ps.foldl putP l).Pairwise fun a b => lx a b = true) ∧ (∀ x, x ∈ ps.foldl putP l ↔ x ∈ l ∨ x ∈ ps) ∧ (ps.foldl putP l).length ≤ l.length + ps.length
  | [], l, h => ⟨h, fun x => by simp, Nat.le_refl _⟩
  | p :: ps, l, h => by
    obtain ⟨h1, h2, h3⟩ := puts_up ps (putP l p) (putP_up h)
    have h4 := putP_len l p
    refine ⟨h1, fun x => ?_, ?_⟩
    · rw [List.foldl_cons, h2, putP_mem, List.mem_cons]
      constructor
      · rintro ((h | h) | h)
        · exact .inr (.inl h)
        · exact .inl h
        · exact .inr (.inr h)
      · rintro (h | h | h)
        · exact .inl (.inr h)
        · exact .inl (.inl h)
        · exact .inr h
    · rw [List.foldl_cons, List.length_cons]; omega
theorem puts_once (ps : List (List Bs)) : ps.foldl putP [] = once ps := by
  obtain ⟨h1, h2, _⟩ := puts_up ps [] List.Pairwise.nil
  exact up_ext h1 (once_up ps) fun x => by rw [h2, once_mem]; simp

/-! ### What is decided -/

def st (t : List Ln) (p : List Bs) : Int := (gt t p).getD (-1)
def dcd (b m t : List Ln) (p : List Bs) : Int := if st m p = st t p ∨ st t p = st b p then st m p else if st m p = st b p then st t p else -2
def cfl (b m t : List Ln) (p : List Bs) : Bool := decide (dcd b m t p = -2) || (decide (dcd b m t p ≠ -1) && (decide (1 < p.length) && decide (dcd b m t p.dropLast = -1)))
def allP (b m t : List Ln) : List (List Bs) := pths [] b ++ pths [] m ++ pths [] t
def badL (b m t : List Ln) : List (List Bs) := (once (allP b m t)).filter (cfl b m t)
def outE (b m t : List Ln) : List (List Bs × Int) := ((once (allP b m t)).filter fun p => !cfl b m t p && decide (dcd b m t p ≠ -1)).map fun p => (p, dcd b m t p)
def outL (b m t : List Ln) : List Ln := (outE b m t).map ln
def mrg (b m t : List Ln) : List Ln × List (List Bs) × Int :=
  if rightS b = true ∧ rightS m = true ∧ rightS t = true then (if badL b m t = [] then (if 200 < (outL b m t).length then ([], [], 5) else (outL b m t, [], 0)) else ([], badL b m t, 8)) else ([], [], 1)

theorem right_rf {t : List Ln} (h : rightS t = true) : rf [] t = true := by
  simp only [rightS, Bool.and_eq_true] at h; exact h.2
theorem right_len {t : List Ln} (h : rightS t = true) : t.length ≤ 200 := by
  simp only [rightS, Bool.and_eq_true, decide_eq_true_eq] at h; exact h.1
theorem right_of {t : List Ln} (h : rf [] t = true) (hl : t.length ≤ 200) : rightS t = true := by
  simp only [rightS, Bool.and_eq_true, decide_eq_true_eq]; exact ⟨hl, h⟩

theorem st_none {t : List Ln} (h : rf [] t = true) {p : List Bs} : st t p = -1 ↔ gt t p = none := by
  unfold st
  cases hg : gt t p with
  | none => simp
  | some m => have := gt_sound h hg; simp; omega
theorem st_some {t : List Ln} (h : rf [] t = true) {p : List Bs} (hp : st t p ≠ -1) : gt t p = some (st t p) ∧ 0 ≤ st t p ∧ st t p ≤ 3 := by
  unfold st at *
  cases hg : gt t p with
  | none => rw [hg] at hp; exact absurd rfl hp
  | some m => have := gt_sound h hg; simp; omega
theorem st_mem {t : List Ln} (h : rf [] t = true) {p : List Bs} (hp : st t p ≠ -1) : p ∈ pths [] t := by
  obtain ⟨i, hi, e, _⟩ := gt_some h (st_some h hp).1
  rw [← e, ← pths_pth t (by simpa using hi)]; exact List.getElem_mem _
theorem mem_st {t : List Ln} (h : rf [] t = true) {p : List Bs} (hp : p ∈ pths [] t) : st t p ≠ -1 := by
  obtain ⟨i, hi, e⟩ := List.getElem_of_mem hp
  have hi' : i < t.length := by simpa using hi
  rw [pths_pth] at e
  rw [Ne, st_none h, ← e, gt_at h hi']; simp
/-- One of the three has it. -/
theorem dcd_cases (b m t : List Ln) (p : List Bs) : (dcd b m t p = -2 ∧ st m p ≠ st t p ∧ st t p ≠ st b p ∧ st m p ≠ st b p) ∨ (dcd b m t p = st m p ∧ (st m p = st t p ∨ st t p = st b p)) ∨ (dcd b m t p = st t p ∧ st m p = st b p) := by
  unfold dcd
  split
  · rename_i h; exact .inr (.inl ⟨rfl, h⟩)
  · rename_i h
    split
    · rename_i h2; exact .inr (.inr ⟨rfl, h2⟩)
    · rename_i h2; exact .inl ⟨rfl, fun e => h (.inl e), fun e => h (.inr e), h2⟩
theorem dcd_mem {b m t : List Ln} (hb : rf [] b = true) (hm : rf [] m = true) (ht : rf [] t = true) {p : List Bs} (h : dcd b m t p ≠ -1) : p ∈ once (allP b m t) := by
  rw [once_mem]
  unfold allP
  rw [List.mem_append, List.mem_append]
  by_cases h1 : st b p = -1
  · by_cases h2 : st m p = -1
    · by_cases h3 : st t p = -1
      · rcases dcd_cases b m t p with h4 | h4 | h4
        · omega
        · omega
        · omega
      · exact .inr (st_mem ht h3)
    · exact .inl (.inr (st_mem hm h2))
  · exact .inl (.inl (st_mem hb h1))
theorem cfl_dcd {b m t : List Ln} {p : List Bs} (h : cfl b m t p = true) : dcd b m t p ≠ -1 := by
  unfold cfl at h
  simp only [Bool.or_eq_true, Bool.and_eq_true, decide_eq_true_eq] at h
  rcases h with h | h
  · omega
  · exact h.1
theorem bad_nil {b m t : List Ln} (hb : rf [] b = true) (hm : rf [] m = true) (ht : rf [] t = true) : badL b m t = [] ↔ ∀ p, cfl b m t p = false := by
  unfold badL
  rw [List.filter_eq_nil_iff]
  constructor
  · intro h p
    cases hc : cfl b m t p with
    | false => rfl
    | true => exact absurd hc (h p (dcd_mem hb hm ht (cfl_dcd hc)))
  · intro h p _; rw [h p]; simp
theorem dcd_sound {b m t : List Ln} (hm : rf [] m = true) (ht : rf [] t = true) {p : List Bs} (h : dcd b m t p ≠ -1) (h2 : dcd b m t p ≠ -2) : p ≠ [] ∧ p.length ≤ 16 ∧ (p.getLastD []).length ≤ 40 ∧ 0 ≤ dcd b m t p ∧ dcd b m t p ≤ 3 := by
  rcases dcd_cases b m t p with h4 | h4 | h4
  · omega
  · rw [h4.1] at h ⊢; exact gt_sound hm (st_some hm h).1
  · rw [h4.1] at h ⊢; exact gt_sound ht (st_some ht h).1
theorem noC {b m t : List Ln} {p : List Bs} (h : cfl b m t p = false) : dcd b m t p ≠ -2 ∧ (dcd b m t p = -1 ∨ p.length ≤ 1 ∨ dcd b m t p.dropLast ≠ -1) := by
  unfold cfl at h
  simp only [Bool.or_eq_false_iff, Bool.and_eq_false_iff, decide_eq_false_iff_not] at h
  refine ⟨h.1, ?_⟩
  by_cases h1 : dcd b m t p = -1
  · exact .inl h1
  · rcases h.2 with h2 | h2 | h2
    · exact absurd h1 h2
    · exact .inr (.inl (by omega))
    · exact .inr (.inr h2)
/-- Without conflicts what comes out is a tree; its marks. -/
theorem out_tree {b m t : List Ln} (hb : rf [] b = true) (hm : rf [] m = true) (ht : rf [] t = true) (hC : ∀ p, cfl b m t p = false) :
    rf [] (outL b m t) = true ∧ ents (outL b m t) = outE b m t ∧ ∀ p, gt (outL b m t) p = if dcd b m t p = -1 then none else some (dcd b m t p) := by
  have hmem : ∀ p s, (p, s) ∈ outE b m t ↔ dcd b m t p ≠ -1 ∧ s = dcd b m t p := fun p s => by
    unfold outE
    rw [List.mem_map]
    constructor
    · rintro ⟨q, hq, e⟩
      injection e with e1 e2
      subst e1
      rw [List.mem_filter, hC q] at hq
      exact ⟨by simpa using hq.2, e2.symm⟩
    · rintro ⟨h1, rfl⟩
      refine ⟨p, List.mem_filter.2 ⟨dcd_mem hb hm ht h1, ?_⟩, rfl⟩
      rw [hC p]; simpa using h1
  have hok : Ok (outE b m t) := by
    refine ⟨?_, fun e he => ?_, fun e he => ?_⟩
    · unfold outE
      rw [List.pairwise_map]
      exact ((once_up (allP b m t)).filter _).imp fun h => h
    · obtain ⟨p, s⟩ := e
      obtain ⟨h1, rfl⟩ := (hmem p s).1 he
      exact dcd_sound hm ht h1 (noC (hC p)).1
    · obtain ⟨p, s⟩ := e
      obtain ⟨h1, rfl⟩ := (hmem p s).1 he
      simp only
      rcases (noC (hC p)).2 with h2 | h2 | h2
      · exact absurd h2 h1
      · left
        exact List.eq_nil_of_length_eq_zero (by simp; omega)
      · right
        exact ⟨_, (hmem _ _).2 ⟨h2, rfl⟩⟩
  obtain ⟨h1, h2⟩ := ok_tree hok
  refine ⟨h1, h2, fun p => ?_⟩
  apply Option.ext
  intro x
  have h1' : rf [] (outL b m t) = true := h1
  have h2' : ents (outL b m t) = outE b m t := h2
  rw [gt_iff h1', h2', hmem]
  split
  · rename_i h3
    constructor
    · exact fun h4 => absurd h3 h4.1
    · intro h4; cases h4
  · rename_i h3
    rw [Option.some.injEq]
    exact ⟨fun h4 => h4.2.symm, fun h4 => ⟨h3, h4.symm⟩⟩

/-- It is the tree that has what is decided. -/
theorem mrg_is {b m t u : List Ln} (hb : rightS b = true) (hm : rightS m = true) (ht : rightS t = true) (hu : rightS u = true) (h : ∀ p, dcd b m t p = st u p) : mrg b m t = (u, [], 0) := by
  have hb' := right_rf hb
  have hm' := right_rf hm
  have ht' := right_rf ht
  have hu' := right_rf hu
  have hC : ∀ p, cfl b m t p = false := fun p => by
    unfold cfl
    rw [h p, h p.dropLast]
    by_cases h1 : st u p = -1
    · rw [h1]; simp
    · have h2 := st_some hu' h1
      have h3 : decide (st u p = -2) = false := decide_eq_false (by omega)
      rw [h3, Bool.false_or]
      by_cases h4 : 1 < p.length
      · have h5 : decide (st u p.dropLast = -1) = false := by
          refine decide_eq_false fun e => ?_
          rw [st_none hu'] at e
          have hne : p ≠ [] := fun e => by subst e; simp at h4
          have h6 : p.dropLast ≠ [] := fun e => by have := congrArg List.length e; simp at this; omega
          refine gt_pre (s := [p.getLast hne]) hu' h6 ?_ e
          rw [List.dropLast_concat_getLast, h2.1]; simp
        rw [h5]; simp
      · rw [decide_eq_false h4]; simp
  obtain ⟨h1, h2, h3⟩ := out_tree hb' hm' ht' hC
  have he : outL b m t = u := gt_ext h1 hu' fun p => by
    rw [h3, h p]
    split
    · rename_i h4; exact ((st_none hu').1 h4).symm
    · rename_i h4; exact (st_some hu' h4).1.symm
  unfold mrg
  rw [if_pos ⟨hb, hm, ht⟩, if_pos ((bad_nil hb' hm' ht').2 hC), he, if_neg (by have := right_len hu; omega)]

theorem mrg_ok {b m t : List Ln} (h : (mrg b m t).2.2 = 0) : rightS b = true ∧ rightS m = true ∧ rightS t = true ∧ rightS (mrg b m t).1 = true ∧ (mrg b m t).2.1 = [] ∧ ∀ p, dcd b m t p = st (mrg b m t).1 p := by
  unfold mrg at *
  split at h
  · rename_i hr
    rw [if_pos hr]
    split at h
    · rename_i hn
      rw [if_pos hn]
      split at h
      · cases h
      · rename_i hl
        rw [if_neg hl]
        obtain ⟨h1, h2, h3⟩ := out_tree (right_rf hr.1) (right_rf hr.2.1) (right_rf hr.2.2) ((bad_nil (right_rf hr.1) (right_rf hr.2.1) (right_rf hr.2.2)).1 hn)
        refine ⟨hr.1, hr.2.1, hr.2.2, right_of h1 (by simp only; omega), rfl, fun p => ?_⟩
        simp only [st, h3 p]
        split
        · rename_i h4; rw [h4]; rfl
        · rfl
    · cases h
  · cases h
theorem mrg_err {b m t : List Ln} (h : (mrg b m t).2.2 ≠ 0) : (mrg b m t).1 = [] := by
  unfold mrg at *
  split at h
  · rename_i hr
    rw [if_pos hr]
    split at h
    · rename_i hn
      rw [if_pos hn]
      split at h
      · rename_i hl; rw [if_pos hl]
      · exact absurd rfl h
    · rename_i hn; rw [if_neg hn]
  · rename_i hr; rw [if_neg hr]

theorem dcd_sym (b m t : List Ln) (p : List Bs) : dcd b m t p = dcd b t m p := by
  unfold dcd
  by_cases h1 : st m p = st t p
  · rw [if_pos (.inl h1), if_pos (.inl h1.symm), h1]
  · by_cases h2 : st t p = st b p
    · rw [if_pos (.inr h2)]
      by_cases h3 : st m p = st b p
      · exact absurd (h3.trans h2.symm) h1
      · rw [if_neg (by rintro (h | h); exact h1 h.symm; exact h3 h), if_pos h2]
    · by_cases h3 : st m p = st b p
      · rw [if_neg (by rintro (h | h); exact h1 h; exact h2 h), if_pos h3, if_pos (.inr h3)]
      · rw [if_neg (by rintro (h | h); exact h1 h; exact h2 h), if_neg h3, if_neg (by rintro (h | h); exact h1 h.symm; exact h3 h), if_neg h2]
theorem cfl_sym (b m t : List Ln) : cfl b m t = cfl b t m := by
  funext p
  unfold cfl
  rw [dcd_sym b m t p, dcd_sym b m t p.dropLast]
theorem once_sym (b m t : List Ln) : once (allP b m t) = once (allP b t m) := once_ext fun e => by
  unfold allP
  simp only [List.mem_append]
  constructor
  · rintro ((h | h) | h)
    · exact .inl (.inl h)
    · exact .inr h
    · exact .inl (.inr h)
  · rintro ((h | h) | h)
    · exact .inl (.inl h)
    · exact .inr h
    · exact .inl (.inr h)
theorem bad_sym (b m t : List Ln) : badL b m t = badL b t m := by unfold badL; rw [once_sym, cfl_sym]
theorem out_sym (b m t : List Ln) : outL b m t = outL b t m := by
  unfold outL outE
  rw [once_sym, cfl_sym]
  have : dcd b m t = dcd b t m := funext (dcd_sym b m t)
  rw [this]
theorem mrg_sym (b m t : List Ln) : mrg b m t = mrg b t m := by
  unfold mrg
  rw [bad_sym, out_sym]
  by_cases h : rightS b = true ∧ rightS m = true ∧ rightS t = true
  · rw [if_pos h, if_pos (c := rightS b = true ∧ rightS t = true ∧ rightS m = true) ⟨h.1, h.2.2, h.2.1⟩]
  · rw [if_neg h, if_neg (c := rightS b = true ∧ rightS t = true ∧ rightS m = true) fun h2 => h ⟨h2.1, h2.2.2, h2.2.1⟩]

theorem mrg_left {b s : List Ln} (hb : rightS b = true) (hs : rightS s = true) : mrg b s b = (s, [], 0) := mrg_is hb hs hb hs fun p => by unfold dcd; rw [if_pos (.inr rfl)]
theorem mrg_right {b s : List Ln} (hb : rightS b = true) (hs : rightS s = true) : mrg b b s = (s, [], 0) := by rw [mrg_sym]; exact mrg_left hb hs
theorem mrg_both {b s : List Ln} (hb : rightS b = true) (hs : rightS s = true) : mrg b s s = (s, [], 0) := mrg_is hb hs hs hs fun p => by unfold dcd; rw [if_pos (.inl rfl)]
theorem mrg_again {b m t : List Ln} (h : (mrg b m t).2.2 = 0) : mrg b (mrg b m t).1 t = ((mrg b m t).1, [], 0) ∧ mrg b m (mrg b m t).1 = ((mrg b m t).1, [], 0) := by
  obtain ⟨h1, h2, h3, h4, h5, h6⟩ := mrg_ok h
  constructor
  · refine mrg_is h1 h4 h3 h4 fun p => ?_
    have h7 := h6 p
    have h8 : dcd b m t p ≠ -2 := by
      rw [h7]
      by_cases h9 : st (mrg b m t).1 p = -1
      · omega
      · have := st_some (right_rf h4) h9; omega
    unfold dcd
    rw [← h7]
    rcases dcd_cases b m t p with hc | hc | hc
    · exact absurd hc.1 h8
    · split
      · rfl
      · rename_i hn
        rcases hc.2 with h10 | h10
        · exact absurd (.inl (hc.1.trans h10)) hn
        · exact absurd (.inr h10) hn
    · rw [if_pos (.inl hc.1)]
  · refine mrg_is h1 h2 h4 h4 fun p => ?_
    have h7 := h6 p
    have h8 : dcd b m t p ≠ -2 := by
      rw [h7]
      by_cases h9 : st (mrg b m t).1 p = -1
      · omega
      · have := st_some (right_rf h4) h9; omega
    unfold dcd
    rw [← h7]
    rcases dcd_cases b m t p with hc | hc | hc
    · exact absurd hc.1 h8
    · rw [if_pos (.inl hc.1.symm), hc.1]
    · by_cases h9 : st m p = dcd b m t p
      · rw [if_pos (.inl h9)]; exact h9
      · rw [if_neg (by
          rintro (h | h)
          · exact h9 h
          · exact h9 (by rw [h]; exact hc.2)), if_pos hc.2]

end Go.Proofs.Ytmohgkoomnihfaa.Vc
