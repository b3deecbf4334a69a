/-
  SETS OF ENTRIES, AS LISTS IN ORDER. Plain lists. No condition.
-/
import Derived.Test.YtnkinnhgahpcoaaAf
set_option linter.unusedVariables false
set_option linter.unusedSimpArgs false
set_option linter.unusedSectionVars false
namespace Go.Proofs.Ytnkinnhgahpcoaa.Vc

section
variable {α : Type} [DecidableEq α]
/-- An order in which whatever two that are not one are parted. -/
structure Ordr (lt : α → α → Bool) : Prop where
  irr : ∀ x, lt x x = false
  tr : ∀ x y z, lt x y = true → lt y z = true → lt x z = true
  tri : ∀ x y, lt x y = true ∨ x = y ∨ lt y x = true
def Asc (lt : α → α → Bool) (l : List α) : Prop := l.Pairwise fun a b => lt a b = true
variable {lt : α → α → Bool}
theorem Ordr.asym (o : Ordr lt) {x y : α} (h : lt x y = true) : lt y x = false := by
  cases h' : lt y x with
  | false => rfl
  | true => have := o.tr _ _ _ h h'; rw [o.irr] at this; cases this
theorem Ordr.ne (o : Ordr lt) {x y : α} (h : lt x y = true) : x ≠ y := fun e => by subst e; rw [o.irr] at h; cases h
theorem Asc.nodup (o : Ordr lt) {l : List α} (h : Asc lt l) : l.Nodup := h.imp fun hab => o.ne hab
theorem asc_ext (o : Ordr lt) {l m : List α} (h1 : Asc lt l) (h2 : Asc lt m) (h : ∀ x, x ∈ l ↔ x ∈ m) : l = m :=
  perm_sorted (r := fun a b => lt a b = true) (fun x y h1 h2 => by have := o.tr _ _ _ h1 h2; rw [o.irr] at this; cases this) ((List.perm_ext_iff_of_nodup (h1.nodup o) (h2.nodup o)).2 h) h1 h2
theorem dd_spec (o : Ordr lt) : ∀ (n : Nat) (l : List α), l.length = n → l.Pairwise (fun a b => lt b a = false) → Asc lt (ddA l) ∧ ∀ x, x ∈ ddA l ↔ x ∈ l
  | 0, l, hl, _ => by
    rw [List.length_eq_zero_iff] at hl
    subst hl
    exact ⟨List.Pairwise.nil, fun x => Iff.rfl⟩
  | n + 1, l, hl, hp => by
    rcases List.eq_nil_or_concat l with rfl | ⟨r, x, rfl⟩
    · simp at hl
    · rw [List.concat_eq_append] at hl hp ⊢
      rw [List.pairwise_append] at hp
      obtain ⟨hr, _, hx⟩ := hp
      obtain ⟨h1, h2⟩ := dd_spec o n r (by simpa using hl) hr
      rw [ddA_snoc]
      unfold ddS
      split
      · rename_i hlast
        refine ⟨h1, fun y => ?_⟩
        rw [h2 y]
        have : x ∈ r := (h2 x).1 (List.mem_of_getLast? hlast)
        simp only [List.mem_append, List.mem_singleton]
        exact ⟨.inl, fun h => h.elim id fun e => e ▸ this⟩
      · rename_i hlast
        refine ⟨?_, fun y => ?_⟩
        · unfold Asc
          rw [List.pairwise_append]
          refine ⟨h1, List.pairwise_singleton _ _, fun y hy z hz => ?_⟩
          rw [List.mem_singleton] at hz
          subst hz
          have hyz := hx y ((h2 y).1 hy) z (List.mem_singleton.2 rfl)
          rcases o.tri y z with h | h | h
          · exact h
          · exfalso
            subst h
            -- y is there, and not the last one
            rcases List.eq_nil_or_concat (ddA r) with he | ⟨s, t, he⟩
            · rw [he] at hy; cases hy
            · rw [List.concat_eq_append] at he
              rw [he] at hlast hy h1
              have hty : t ≠ y := fun e => hlast (by rw [e]; simp)
              have hts : y ∈ s := by
                rcases List.mem_append.1 hy with h | h
                · exact h
                · exact absurd (List.mem_singleton.1 h).symm hty
              have hlt : lt y t = true := (List.pairwise_append.1 h1).2.2 y hts t (List.mem_singleton.2 rfl)
              have htr : t ∈ r := (h2 t).1 (by rw [he]; simp)
              have := hx t htr y (List.mem_singleton.2 rfl)
              rw [hlt] at this; cases this
          · rw [hyz] at h; cases h
        · simp only [List.mem_append, List.mem_singleton]
          rw [h2 y]
def setG (lt : α → α → Bool) (l : List α) : List α := ddA (l.mergeSort fun x y => !lt y x)
theorem srt_le (o : Ordr lt) (l : List α) : (l.mergeSort fun x y => !lt y x).Pairwise (fun a b => lt b a = false) := by
  have := List.pairwise_mergeSort (le := fun a b => !lt b a) (fun a b c h1 h2 => by
    simp only [Bool.not_eq_true'] at *
    cases h : lt c a with
    | false => rfl
    | true =>
      rcases o.tri c b with h3 | h3 | h3
      · rw [h2] at h3; cases h3
      · subst h3; rw [h1] at h; cases h
      · have := o.tr _ _ _ h3 h; rw [h1] at this; cases this) (fun a b => by
    cases h : lt b a with
    | false => rfl
    | true => rw [o.asym h]; rfl) l
  exact this.imp fun h => by simpa using h
theorem setG_asc (o : Ordr lt) (l : List α) : Asc lt (setG lt l) := (dd_spec o _ _ rfl (srt_le o l)).1
theorem mem_setG (o : Ordr lt) (l : List α) (x : α) : x ∈ setG lt l ↔ x ∈ l := by
  unfold setG
  rw [(dd_spec o _ _ rfl (srt_le o l)).2, List.mem_mergeSort]
theorem setG_ext (o : Ordr lt) {l m : List α} (h : ∀ x, x ∈ l ↔ x ∈ m) : setG lt l = setG lt m :=
  asc_ext o (setG_asc o l) (setG_asc o m) fun x => by rw [mem_setG o, mem_setG o, h]
theorem setG_self (o : Ordr lt) {l : List α} (h : Asc lt l) : setG lt l = l := asc_ext o (setG_asc o l) h fun x => mem_setG o l x
theorem Asc.filter {l : List α} (h : Asc lt l) (p : α → Bool) : Asc lt (l.filter p) := List.Pairwise.filter p h
theorem dd_length (l : List α) : (ddA l).length ≤ l.length := by
  suffices h : ∀ (l acc : List α), (l.foldl ddS acc).length ≤ acc.length + l.length by unfold ddA; simpa using h l []
  intro l
  induction l with
  | nil => intro acc; simp
  | cons x l ih =>
    intro acc
    rw [List.foldl_cons]
    refine Nat.le_trans (ih _) ?_
    unfold ddS
    split <;> simp <;> omega
theorem setG_len (l : List α) : (setG lt l).length ≤ l.length := by
  unfold setG
  refine Nat.le_trans (dd_length _) ?_
  rw [List.length_mergeSort]; exact Nat.le_refl _
/-- An element, where it belongs, once. -/
def insG (lt : α → α → Bool) (e : α) : List α → List α
  | [] => [e]
  | x :: r => if x = e then x :: r else if lt e x = true then e :: x :: r else x :: insG lt e r
theorem mem_insG {e : α} : ∀ (l : List α) (x : α), x ∈ insG lt e l ↔ x = e ∨ x ∈ l
  | [], x => by simp [insG]
  | y :: r, x => by
    unfold insG
    split
    · rename_i h; subst h; simp
    · split
      · simp
      · rw [List.mem_cons, mem_insG r x, List.mem_cons]
        constructor
        · rintro (h | h | h)
          · exact .inr (.inl h)
          · exact .inl h
          · exact .inr (.inr h)
        · rintro (h | h | h)
          · exact .inr (.inl h)
          · exact .inl h
          · exact .inr (.inr h)
theorem insG_asc (o : Ordr lt) {e : α} : ∀ {l : List α}, Asc lt l → Asc lt (insG lt e l)
  | [], _ => List.pairwise_singleton _ _
  | y :: r, h => by
    have hy := List.pairwise_cons.1 h
    unfold insG
    split
    · exact h
    · rename_i hne
      split
      · rename_i hlt
        refine List.Pairwise.cons (fun z hz => ?_) h
        rcases List.mem_cons.1 hz with rfl | hz
        · exact hlt
        · exact o.tr _ _ _ hlt (hy.1 z hz)
      · rename_i hlt
        refine List.Pairwise.cons (fun z hz => ?_) (insG_asc o hy.2)
        rcases (mem_insG r z).1 hz with rfl | hz
        · rcases o.tri y z with h | h | h
          · exact h
          · exact absurd h hne
          · exact absurd h hlt
        · exact hy.1 z hz
theorem insG_len {e : α} (l : List α) : (insG lt e l).length ≤ l.length + 1 := by
  induction l with
  | nil => exact Nat.le_refl _
  | cons y r ih =>
    unfold insG
    split
    · simp
    · split
      · simp
      · simp; omega
end

theorem ahd_ord : Ordr ahd := ⟨ahd_irr, fun _ _ _ => ahd_trans, ahd_tri⟩
theorem bl_ord : Ordr bl := ⟨bl_irr, fun _ _ _ => bl_trans, bl_tri⟩

abbrev setE (l : List En) : List En := setG ahd l
abbrev setT (l : List Bs) : List Bs := setG bl l
def lessE (a b : List En) : List En := (setE a).filter fun x => !decide (x ∈ b)
def onlyE (l : List En) (h : Bs) : List En := l.filter fun x => x.1 == h
def applyE (l : List En) (p : List En × List En) : List En := setE (lessE l p.1 ++ p.2)
def ofE (a b : List En) : List En × List En := (lessE a b, lessE b a)
def hostsE (l : List En) : List Bs := setT (l.map fun x => x.1)
theorem lessE_asc (a b : List En) : Asc ahd (lessE a b) := (setG_asc ahd_ord a).filter _
theorem mem_lessE {a b : List En} {x : En} : x ∈ lessE a b ↔ x ∈ a ∧ x ∉ b := by
  unfold lessE
  rw [List.mem_filter, mem_setG ahd_ord]
  simp
theorem lessE_len (a b : List En) : (lessE a b).length ≤ a.length := Nat.le_trans (List.length_filter_le _ _) (setG_len _)
theorem mem_applyE {l : List En} {p : List En × List En} {x : En} : x ∈ applyE l p ↔ (x ∈ l ∧ x ∉ p.1) ∨ x ∈ p.2 := by
  unfold applyE
  rw [mem_setG ahd_ord, List.mem_append, mem_lessE]
theorem applyE_asc (l : List En) (p : List En × List En) : Asc ahd (applyE l p) := setG_asc ahd_ord _
theorem applyE_len (l : List En) (p : List En × List En) : (applyE l p).length ≤ l.length + p.2.length := by
  refine Nat.le_trans (setG_len _) ?_
  rw [List.length_append]
  have := lessE_len l p.1
  omega
theorem mem_hostsE {l : List En} {h : Bs} : h ∈ hostsE l ↔ ∃ x ∈ l, x.1 = h := by
  unfold hostsE
  rw [mem_setG bl_ord, List.mem_map]
theorem hostsE_asc (l : List En) : Asc bl (hostsE l) := setG_asc bl_ord _
theorem hostsE_len (l : List En) : (hostsE l).length ≤ l.length := by
  refine Nat.le_trans (setG_len _) ?_
  rw [List.length_map]; exact Nat.le_refl _
/-- The hosts of entries in order. -/
theorem hosts_dd (l : List En) : ddA ((setE l).map fun x => x.1) = hostsE l := by
  have h := dd_spec bl_ord _ ((setE l).map fun x => x.1) rfl (by
    rw [List.pairwise_map]
    refine (setG_asc ahd_ord l).imp fun {a b} hab => ?_
    rcases ahd_iff.1 hab with h | ⟨h, _⟩
    · exact bl_ord.asym h
    · rw [h]; exact bl_irr _)
  refine asc_ext bl_ord h.1 (hostsE_asc l) fun x => ?_
  rw [h.2, mem_hostsE, List.mem_map]
  exact ⟨fun ⟨y, hy, e⟩ => ⟨y, (mem_setG ahd_ord l y).1 hy, e⟩, fun ⟨y, hy, e⟩ => ⟨y, (mem_setG ahd_ord l y).2 hy, e⟩⟩

/-! ### The laws, of sets -/

theorem make_set (a b : List En) : applyE a (ofE a b) = setE b := by
  refine asc_ext ahd_ord (applyE_asc _ _) (setG_asc ahd_ord b) fun x => ?_
  rw [mem_applyE, mem_setG ahd_ord]
  show (x ∈ a ∧ x ∉ lessE a b) ∨ x ∈ lessE b a ↔ x ∈ b
  rw [mem_lessE, mem_lessE]
  by_cases h1 : x ∈ a <;> by_cases h2 : x ∈ b <;> simp [h1, h2]
theorem twice_set (l : List En) (p : List En × List En) : applyE (applyE l p) p = applyE l p := by
  refine asc_ext ahd_ord (applyE_asc _ _) (applyE_asc _ _) fun x => ?_
  rw [mem_applyE, mem_applyE]
  by_cases h1 : x ∈ l <;> by_cases h2 : x ∈ p.1 <;> by_cases h3 : x ∈ p.2 <;> simp [h1, h2, h3]
theorem chain_set (a b c : List En) : applyE (applyE a (ofE a b)) (ofE b c) = applyE a (ofE a c) := by
  rw [make_set a b, make_set a c]
  refine asc_ext ahd_ord (applyE_asc _ _) (setG_asc ahd_ord c) fun x => ?_
  rw [mem_applyE, mem_setG ahd_ord, mem_setG ahd_ord]
  show (x ∈ b ∧ x ∉ lessE b c) ∨ x ∈ lessE c b ↔ x ∈ c
  rw [mem_lessE, mem_lessE]
  by_cases h1 : x ∈ b <;> by_cases h2 : x ∈ c <;> simp [h1, h2]
theorem self_less (l : List En) : lessE l l = [] := by
  rw [List.eq_nil_iff_forall_not_mem]
  intro x hx
  rw [mem_lessE] at hx
  exact hx.2 hx.1

end Go.Proofs.Ytnkinnhgahpcoaa.Vc
