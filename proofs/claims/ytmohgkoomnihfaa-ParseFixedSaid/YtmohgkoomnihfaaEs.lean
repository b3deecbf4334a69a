/-
  WHAT EDITING DOES TO A TREE, as lines and as a map. Plain lists. No condition.
-/
import Derived.Test.YtmohgkoomnihfaaEt
set_option linter.unusedVariables false
set_option linter.unusedSimpArgs false
namespace Go.Proofs.Ytmohgkoomnihfaa.Vc

/-! ### The line of a path -/

def fnd (t : List Ln) (q : List Bs) : Option Nat := (pths [] t).findIdx? (· == q)
theorem fnd_of {t : List Ln} {q : List Bs} {i : Nat} (h : fnd t q = some i) : i < t.length ∧ pth t i = q := by
  obtain ⟨h1, h2, _⟩ := List.findIdx?_eq_some_iff_getElem.1 h
  refine ⟨by simpa using h1, ?_⟩
  rw [← pths_pth t h1]; simpa using h2
theorem fnd_none0 {t : List Ln} {q : List Bs} : fnd t q = none ↔ gt t q = none := by
  unfold fnd
  rw [List.findIdx?_eq_none_iff, gt_none]
  constructor
  · intro h i hi e
    have := h (pth t i) (by rw [← pths_pth t (by simpa using hi)]; exact List.getElem_mem _)
    simp [e] at this
  · intro h x hx
    obtain ⟨i, hi, rfl⟩ := List.getElem_of_mem hx
    rw [pths_pth]; simpa using h i (by simpa using hi)
theorem fnd_at {t : List Ln} (h : rf [] t = true) {i : Nat} (hi : i < t.length) : fnd t (pth t i) = some i := by
  cases hf : fnd t (pth t i) with
  | none => exact absurd rfl (gt_none.1 (fnd_none0.1 hf) i hi)
  | some j =>
    obtain ⟨h1, h2⟩ := fnd_of hf
    rw [pth_uniq h h1 hi h2]
theorem fnd_gt {t : List Ln} (h : rf [] t = true) {q : List Bs} {i : Nat} (hf : fnd t q = some i) : gt t q = some (t.getD i (0, [], 0)).2.2 := by
  obtain ⟨h1, h2⟩ := fnd_of hf
  rw [← h2, gt_at h h1, getD_of_lt t h1]
theorem gt_fnd {t : List Ln} (h : rf [] t = true) {q : List Bs} {m : Int} (hg : gt t q = some m) : ∃ i, fnd t q = some i ∧ (t.getD i (0, [], 0)).2.2 = m := by
  obtain ⟨i, hi, h1, h2⟩ := gt_some h hg
  exact ⟨i, by rw [← h1]; exact fnd_at h hi, by rw [getD_of_lt t hi]; exact h2⟩

/-! ### Locks -/

def hot (o : Option Int) : Bool := match o with | some m => decide (1 < m) | none => false
def keptN (t : List Ln) (q : List Bs) (n : Nat) : Bool := (List.range n).any fun k => hot (gt t (q.take (k + 1)))
theorem hot_iff {o : Option Int} : hot o = true ↔ ∃ m, o = some m ∧ 1 < m := by
  cases o with
  | none => simp [hot]
  | some m => simp [hot]
theorem kept_iff {t : List Ln} {q : List Bs} {n : Nat} (hn : n ≤ q.length) : keptN t q n = true ↔ ∃ p m, p <+: q.take n ∧ gt t p = some m ∧ 1 < m := by
  unfold keptN
  rw [List.any_eq_true]
  constructor
  · rintro ⟨k, hk, h⟩
    rw [List.mem_range] at hk
    obtain ⟨m, h1, h2⟩ := hot_iff.1 h
    refine ⟨_, m, ?_, h1, h2⟩
    have : q.take (k + 1) = (q.take n).take (k + 1) := by rw [List.take_take, Nat.min_eq_left (by omega)]
    rw [this]; exact List.take_prefix _ _
  · rintro ⟨p, m, h1, h2, h3⟩
    have hp : p ≠ [] := fun e => by rw [e, gt_nil] at h2; cases h2
    have hl : 0 < p.length := List.length_pos_iff.2 hp
    have hle := h1.length_le
    rw [List.length_take] at hle
    refine ⟨p.length - 1, List.mem_range.2 (by omega), hot_iff.2 ⟨m, ?_, h3⟩⟩
    have e := List.prefix_iff_eq_take.1 h1
    rw [List.take_take, Nat.min_eq_left (by omega)] at e
    rw [show p.length - 1 + 1 = p.length by omega, ← e, h2]
theorem kept_all {t : List Ln} {q : List Bs} : keptN t q q.length = true ↔ ∃ p m, p <+: q ∧ gt t p = some m ∧ 1 < m := by
  rw [kept_iff (Nat.le_refl _), List.take_length]
theorem kept_above {t : List Ln} {q : List Bs} : keptN t q (q.length - 1) = true ↔ ∃ p m, p <+: q.dropLast ∧ gt t p = some m ∧ 1 < m := by
  rw [kept_iff (by omega), List.dropLast_eq_take]

/-! ### Where a new line stands -/

def spotL (t : List Ln) (w : Bs) (kids : List Int) (e : Int) : Int := match kids.find? (fun k => bl w (t.getD k.toNat (0, [], 0)).2.1) with | some k => k | none => e

theorem spot_main {t : List Ln} (h : rf [] t = true) {u : List Bs} {w : Bs} {i : Int} (hkid : ∀ k, k < t.length → (underN t k = i ↔ ∃ x, pth t k = u ++ [x])) (hq : gt t (u ++ [w]) = none)
    {e : Nat} (he : e ≤ t.length) (hA : plc t (u ++ [w]) ≤ e) (hB : ∀ k, k < e → lx (u ++ [w]) (pth t k) = true → u <+: pth t k) (hC : ∀ k, k < t.length → u <+: pth t k → k < e) :
    spotL t w (((List.range t.length).filter fun k => underN t k == i).map fun k : Nat => (k : Int)) (e : Int) = (plc t (u ++ [w]) : Int) := by
  have hle : ∀ k, k < t.length → (plc t (u ++ [w]) ≤ k ↔ lx (u ++ [w]) (pth t k) = true) := fun k hk => by
    constructor
    · intro h1; exact lx_of_not (plc_behind h h1 hk) (gt_none.1 hq k hk)
    · intro h1
      rcases Nat.lt_or_ge k (plc t (u ++ [w])) with h2 | h2
      · have := lx_asymm (plc_before h2); rw [h1] at this; cases this
      · exact h2
  have hw : ∀ k, k < t.length → ∀ x, pth t k = u ++ [x] → (t.getD k (0, [], 0)).2.1 = x := fun k hk x hx => by
    rw [getD_of_lt t hk]
    have := pth_nx t hk
    rw [hx] at this
    have := congrArg List.getLast? this
    simpa using this.symm
  unfold spotL
  rw [List.find?_map, List.find?_filter]
  rcases Nat.lt_or_eq_of_le hA with h1 | h1
  · obtain ⟨k, hk⟩ : ∃ k, plc t (u ++ [w]) = k := ⟨_, rfl⟩
    rw [hk] at h1 hle ⊢
    have hkt : k < t.length := by omega
    have h2 := (hle k hkt).1 (Nat.le_refl _)
    obtain ⟨s, hs⟩ := hB k h1 h2
    rw [← hs, lx_append] at h2
    cases s with
    | nil => simp [lx_nil] at h2
    | cons x s =>
      rw [lx_cons] at h2
      have hx : bl w x = true := by
        rcases h2 with h2 | ⟨rfl, _⟩
        · exact h2
        · exfalso
          refine gt_pre h (u := u ++ [w]) (s := s) (by simp) ?_ hq
          rw [List.append_assoc, List.singleton_append, hs, gt_at h hkt]
          simp
      have hsn : s = [] := by
        cases s with
        | nil => rfl
        | cons y s =>
          exfalso
          obtain ⟨j, hj, hp⟩ := pth_pre h _ rfl hkt (u := u ++ [x]) (s := y :: s) (by rw [← hs]; simp) (by simp)
          have hjk : j ≠ k := fun e => by
            subst e
            rw [hp] at hs
            have := congrArg List.length hs
            simp at this
          have := (hle j (by omega)).2 (by rw [hp, lx_last]; exact hx)
          omega
      subst hsn
      have hf : (List.range t.length).find? (fun a => (underN t a == i) && bl w (t.getD a (0, [], 0)).2.1) = some k := by
        rw [List.find?_range_eq_some]
        refine ⟨?_, List.mem_range.2 hkt, fun j hj => ?_⟩
        · rw [hw k hkt x hs.symm, hx, Bool.and_true, beq_iff_eq]
          exact (hkid k hkt).2 ⟨x, hs.symm⟩
        · rw [Bool.not_eq_true', Bool.and_eq_false_iff]
          by_cases h3 : underN t j = i
          · right
            obtain ⟨y, hy⟩ := (hkid j (by omega)).1 h3
            rw [hw j (by omega) y hy]
            cases hb : bl w y with
            | false => rfl
            | true =>
              have := (hle j (by omega)).2 (by rw [hy, lx_last]; exact hb)
              omega
          · left; simpa using h3
      have e2 : ((List.range t.length).find? fun a => decide ((underN t a == i) = true ∧ (((fun k : Int => bl w (t.getD k.toNat (0, [], 0)).2.1) ∘ fun k : Nat => (k : Int)) a) = true)) = some k := by
        rw [← hf]
        congr 1
        funext a
        rw [Bool.eq_iff_iff]
        simp
      rw [e2]; rfl
  · have hf : ((List.range t.length).find? fun a => decide ((underN t a == i) = true ∧ (((fun k : Int => bl w (t.getD k.toNat (0, [], 0)).2.1) ∘ fun k : Nat => (k : Int)) a) = true)) = none := by
      rw [List.find?_eq_none]
      intro j hj
      rw [List.mem_range] at hj
      simp only [Function.comp, Int.toNat_natCast, decide_eq_true_eq, not_and, beq_iff_eq]
      intro h3 h4
      obtain ⟨y, hy⟩ := (hkid j hj).1 h3
      rw [hw j hj y hy] at h4
      have h5 := (hle j hj).2 (by rw [hy, lx_last]; exact h4)
      have h6 := hC j hj (by rw [hy]; exact List.prefix_append _ _)
      omega
    rw [hf, h1]; rfl

def kidsL (t : List Ln) (i : Int) : List Int := ((List.range t.length).filter fun k => underN t k == i).map fun k : Nat => (k : Int)
theorem spot_root {t : List Ln} (h : rf [] t = true) {w : Bs} (hq : gt t [w] = none) : spotL t w (kidsL t (-1)) (t.length : Int) = (plc t [w] : Int) :=
  spot_main h (u := []) (fun k hk => by simpa using root_pth h hk) hq (Nat.le_refl _) (plc_le _ _) (fun _ _ _ => List.nil_prefix) (fun k hk _ => hk)
theorem spot_kid {t : List Ln} (h : rf [] t = true) {i : Nat} (hi : i < t.length) {w : Bs} (hq : gt t (pth t i ++ [w]) = none) : spotL t w (kidsL t i) (endN t i : Int) = (plc t (pth t i ++ [w]) : Int) := by
  have hle := endN_le t hi
  have hgt := endN_gt t i
  refine spot_main h (u := pth t i) (fun k hk => kid_pth h hi hk) hq hle ?_ (fun k hk hl => ?_) (fun k hk hp => ((part_pre h hi hk).1 hp).2)
  · rcases Nat.lt_or_ge (endN t i) (plc t (pth t i ++ [w])) with h1 | h1
    · exfalso
      have h2 := plc_before h1
      have hl := plc_le t (pth t i ++ [w])
      have h3 := lx_btw (.inr (pth_lt h hgt (by omega))) (.inr h2)
      have := (part_pre h hi (by omega)).1 h3
      omega
    · exact h1
  · refine (part_pre h hi (by omega)).2 ⟨?_, hk⟩
    have h1 := lx_trans (lx_pre (pth t i) (s := [w]) (by simp)) hl
    exact Nat.le_of_lt ((pth_lt_iff h hi (by omega)).1 h1)

/-! ### A path more -/

theorem pre_take_succ {p q : List Bs} {k : Nat} (hk : k < q.length) : p <+: q.take (k + 1) ↔ p = q.take (k + 1) ∨ p <+: q.take k := by
  rw [List.take_succ_eq_append_getElem hk, List.prefix_concat_iff]

def addK (q : List Bs) (out : List Ln) (k : Nat) : List Ln := if gt out (q.take (k + 1)) = none then insT out (q.take (k + 1)) 0 else out
def addN (t : List Ln) (q : List Bs) (k : Nat) : List Ln := (List.range k).foldl (addK q) t
def addL (t : List Ln) (q : List Bs) : List Ln := addN t q q.length
theorem addN_succ (t : List Ln) (q : List Bs) (k : Nat) : addN t q (k + 1) = addK q (addN t q k) k := by unfold addN; rw [List.range_succ, List.foldl_append]; rfl
theorem addK_len (q : List Bs) (out : List Ln) (k : Nat) : out.length ≤ (addK q out k).length ∧ (addK q out k).length ≤ out.length + 1 := by
  unfold addK
  split
  · rw [insT_length]; omega
  · omega
theorem addN_len (t : List Ln) (q : List Bs) (k : Nat) : t.length ≤ (addN t q k).length ∧ (addN t q k).length ≤ t.length + k := by
  induction k with
  | zero => exact ⟨Nat.le_refl _, Nat.le_refl _⟩
  | succ k ih => rw [addN_succ]; have := addK_len q (addN t q k) k; omega
theorem addN_mono (t : List Ln) (q : List Bs) {k : Nat} : ∀ n, (addN t q k).length ≤ (addN t q (k + n)).length
  | 0 => Nat.le_refl _
  | n + 1 => by
    have h1 := addN_mono t q (k := k) n
    have h2 := addK_len q (addN t q (k + n)) (k + n)
    rw [← Nat.add_assoc, addN_succ]; omega

theorem take_last {q : List Bs} {k : Nat} (hk : k < q.length) : (q.take (k + 1)).getLastD [] = q[k] := by
  rw [List.take_succ_eq_append_getElem hk, List.getLastD_concat]
theorem take_init {q : List Bs} {k : Nat} (hk : k < q.length) : (q.take (k + 1)).dropLast = q.take k := by
  rw [List.take_succ_eq_append_getElem hk, List.dropLast_concat]

theorem addN_tree {t : List Ln} (h : rf [] t = true) {q : List Bs} (h16 : q.length ≤ 16) (h40 : ∀ w ∈ q, w.length ≤ 40) : ∀ k, k ≤ q.length →
    rf [] (addN t q k) = true ∧ ∀ p, gt (addN t q k) p = if gt t p = none ∧ p ≠ [] ∧ p <+: q.take k then some 0 else gt t p
  | 0, _ => ⟨h, fun p => by
      rw [if_neg (fun h1 => h1.2.1 (by simpa using h1.2.2))]; rfl⟩
  | k + 1, hk => by
    obtain ⟨h1, h2⟩ := addN_tree h h16 h40 k (by omega)
    have hkl : k < q.length := by omega
    rw [addN_succ]
    unfold addK
    have hlen : (q.take (k + 1)).length = k + 1 := by rw [List.length_take]; omega
    have hne : q.take (k + 1) ≠ [] := fun e => by rw [e] at hlen; simp at hlen
    have hnp : ¬ q.take (k + 1) <+: q.take k := fun hp => by
      have := hp.length_le
      rw [hlen, List.length_take] at this; omega
    have hself := h2 (q.take (k + 1))
    rw [if_neg (fun h3 => hnp h3.2.2)] at hself
    split
    · rename_i hg
      rw [hself] at hg
      have hpar : (q.take (k + 1)).dropLast = [] ∨ gt (addN t q k) (q.take (k + 1)).dropLast ≠ none := by
        rw [take_init hkl]
        by_cases hk0 : q.take k = []
        · exact .inl hk0
        · right
          rw [h2]
          split
          · simp
          · rename_i h3
            intro h4
            exact h3 ⟨h4, hk0, List.prefix_refl _⟩
      obtain ⟨i1, i2⟩ := insT_tree h1 (q := q.take (k + 1)) (m := 0) (hself.trans hg) hne (by omega) (by rw [take_last hkl]; exact h40 _ (List.getElem_mem _)) (by omega) (by omega) hpar
      refine ⟨i1, fun p => ?_⟩
      simp only [i2, h2, pre_take_succ hkl]
      by_cases hp : p = q.take (k + 1)
      · subst hp
        rw [if_pos rfl, if_pos ⟨hg, hne, .inl rfl⟩]
      · rw [if_neg hp]
        simp only [hp, false_or]
    · rename_i hg
      rw [hself] at hg
      refine ⟨h1, fun p => ?_⟩
      simp only [h2, pre_take_succ hkl]
      by_cases hp : p = q.take (k + 1)
      · subst hp
        rw [if_neg (fun h3 => hg h3.1), if_neg (fun h3 => hg h3.1)]
      · simp only [hp, false_or]

def longW (q : List Bs) : Bool := q.any fun w => decide (40 < w.length)
theorem longW_iff {q : List Bs} : longW q = false ↔ ∀ w ∈ q, w.length ≤ 40 := by
  unfold longW
  rw [List.any_eq_false]
  constructor
  · intro h w hw; have := h w hw; simp at this; omega
  · intro h w hw; have := h w hw; simp; omega
/-- The error's number. -/
def addE (t : List Ln) (q : List Bs) : Int := if rightS t = true then (if q = [] then 1 else if longW q = true then 1 else if 16 < q.length then 6 else if 200 < (addL t q).length then 5 else 0) else 1
def addS (t : List Ln) (q : List Bs) : List Ln × Int := if addE t q = 0 then (addL t q, 0) else (t, addE t q)
theorem addE_ok {t : List Ln} {q : List Bs} (h : addE t q = 0) : rightS t = true ∧ q ≠ [] ∧ (∀ w ∈ q, w.length ≤ 40) ∧ q.length ≤ 16 ∧ (addL t q).length ≤ 200 := by
  unfold addE at h
  split at h
  · rename_i h1
    split at h
    · cases h
    · rename_i h2
      split at h
      · cases h
      · rename_i h3
        split at h
        · cases h
        · rename_i h4
          split at h
          · cases h
          · rename_i h5
            exact ⟨h1, h2, longW_iff.1 (by simpa using h3), by omega, by omega⟩
  · cases h
theorem addL_tree {t : List Ln} {q : List Bs} (h : addE t q = 0) : rightS (addL t q) = true ∧ ∀ p, gt (addL t q) p = if gt t p = none ∧ p ≠ [] ∧ p <+: q then some 0 else gt t p := by
  obtain ⟨h1, h2, h3, h4, h5⟩ := addE_ok h
  obtain ⟨h6, h7⟩ := rightS_iff.1 h1
  obtain ⟨h8, h9⟩ := addN_tree h7 h4 h3 q.length (Nat.le_refl _)
  rw [List.take_length] at h9
  exact ⟨rightS_iff.2 ⟨h5, h8⟩, h9⟩

/-! ### A part, under another last word -/

/-- Entries put in at one place. -/
theorem blk_tree {t : List Ln} (h : rf [] t = true) {q : List Bs} (h0 : q ≠ []) (hq : gt t q = none) (hp : q.dropLast = [] ∨ gt t q.dropLast ≠ none) {B : List (List Bs × Int)} (hup : B.Pairwise fun a b => lx a.1 b.1 = true)
    (hpre : ∀ e ∈ B, q <+: e.1) (hone : ∀ e ∈ B, e.1.length ≤ 16 ∧ (e.1.getLastD []).length ≤ 40 ∧ 0 ≤ e.2 ∧ e.2 ≤ 3) (hpar : ∀ e ∈ B, e.1 = q ∨ ∃ m, (e.1.dropLast, m) ∈ B) :
    rf [] (t.take (plc t q) ++ B.map ln ++ t.drop (plc t q)) = true ∧ ∀ p m, gt (t.take (plc t q) ++ B.map ln ++ t.drop (plc t q)) p = some m ↔ (p, m) ∈ B ∨ gt t p = some m := by
  have ho := ents_ok h
  obtain ⟨es, hes⟩ : ∃ es, (ents t).take (plc t q) ++ B ++ (ents t).drop (plc t q) = es := ⟨_, rfl⟩
  have hmem : ∀ e, e ∈ es ↔ e ∈ B ∨ e ∈ ents t := fun e => by
    rw [← hes, List.mem_append, List.mem_append, ← mem_take_drop (l := ents t) (k := plc t q)]
    constructor
    · rintro ((h | h) | h)
      · exact .inr (.inl h)
      · exact .inl h
      · exact .inr (.inr h)
    · rintro (h | h | h)
      · exact .inl (.inr h)
      · exact .inl (.inl h)
      · exact .inr h
  have hnp : ∀ e ∈ ents t, ¬ q <+: e.1 := fun e he hpp => by
    obtain ⟨s, hs⟩ := hpp
    refine gt_pre h h0 (s := s) ?_ hq
    rw [hs, (gt_iff (m := e.2) h).2 he]; simp
  have hupE : es.Pairwise fun a b => lx a.1 b.1 = true := by
    rw [← hes]
    have hu := ho.up
    rw [← List.take_append_drop (plc t q) (ents t), List.pairwise_append] at hu
    rw [List.append_assoc, List.pairwise_append, List.pairwise_append]
    refine ⟨hu.1, ⟨hup, hu.2.1, fun b hb a ha => ?_⟩, fun a ha b hb => ?_⟩
    · obtain ⟨s, hs⟩ := hpre b hb
      have h1 := drop_plc h hq ha
      rw [← hs]
      have := lx_ext s [] h1 (hnp a (List.mem_of_mem_drop ha) )
      rwa [List.append_nil] at this
    · rcases List.mem_append.1 hb with hb | hb
      · obtain ⟨s, hs⟩ := hpre b hb
        rw [← hs]; exact lx_right s (take_plc ha)
      · exact hu.2.2 a ha b hb
  have hok : Ok es := by
    refine ⟨hupE, fun e he => ?_, fun e he => ?_⟩
    · rcases (hmem e).1 he with he | he
      · obtain ⟨k1, k2⟩ := hone e he
        refine ⟨fun e0 => ?_, k1, k2⟩
        have := hpre e he
        rw [e0] at this
        exact h0 (List.prefix_nil.1 this)
      · exact ho.one e he
    · rcases (hmem e).1 he with he | he
      · rcases hpar e he with h1 | ⟨m, h1⟩
        · rw [h1]
          rcases hp with hp | hp
          · exact .inl hp
          · cases hg : gt t q.dropLast with
            | none => exact absurd hg hp
            | some m' => exact .inr ⟨m', (hmem _).2 (.inr ((gt_iff h).1 hg))⟩
        · exact .inr ⟨m, (hmem _).2 (.inl h1)⟩
      · rcases ho.par e he with h1 | ⟨m', h1⟩
        · exact .inl h1
        · exact .inr ⟨m', (hmem _).2 (.inr h1)⟩
  have hmap : es.map ln = t.take (plc t q) ++ B.map ln ++ t.drop (plc t q) := by
    rw [← hes, List.map_append, List.map_append, List.map_take, List.map_drop, ents_ln h]
  obtain ⟨h1, h2⟩ := ok_tree hok
  rw [hmap] at h1 h2
  refine ⟨h1, fun p m => ?_⟩
  rw [gt_iff h1, h2, hmem, gt_iff h]

def graftT (t : List Ln) (q : List Bs) (part : List Ln) : List Ln := t.take (plc t q) ++ ((((q.length : Int) - 1, q.getLastD [], (part.getD 0 (0, [], 0)).2.2) : Ln) :: part.tail) ++ t.drop (plc t q)

/-- The entries of a part, moved. -/
def movB (t : List Ln) (i : Nat) (q : List Bs) : List (List Bs × Int) := (List.range' i (endN t i - i)).map fun j => (q ++ (pth t j).drop (pth t i).length, (t.getD j (0, [], 0)).2.2)

theorem mem_movB {t : List Ln} (h : rf [] t = true) {i : Nat} (hi : i < t.length) {q p : List Bs} {m : Int} : (p, m) ∈ movB t i q ↔ q <+: p ∧ gt t (pth t i ++ p.drop q.length) = some m := by
  have hle := endN_le t hi
  unfold movB
  rw [List.mem_map]
  constructor
  · rintro ⟨j, hj, e⟩
    rw [List.mem_range'_1] at hj
    have hjt : j < t.length := by omega
    injection e with e1 e2
    obtain ⟨s, hs⟩ := (part_pre h hi hjt).2 ⟨hj.1, by omega⟩
    subst e1; subst e2
    refine ⟨List.prefix_append _ _, ?_⟩
    rw [List.drop_left, ← hs, List.drop_left, hs, gt_at h hjt, getD_of_lt t hjt]
  · rintro ⟨⟨s, hs⟩, hg⟩
    subst hs
    rw [List.drop_left] at hg
    obtain ⟨j, hj, h1, h2⟩ := gt_some h hg
    have hb := (part_pre h hi hj).1 ⟨s, h1.symm⟩
    refine ⟨j, List.mem_range'_1.2 (by omega), ?_⟩
    rw [h1, List.drop_left, getD_of_lt t hj, h2]

theorem movB_ln {t : List Ln} (h : rf [] t = true) {i : Nat} (hi : i < t.length) {q : List Bs} (hl : q.length = (pth t i).length) :
    (movB t i q).map ln = ((((q.length : Int) - 1, q.getLastD [], ((partN t i).getD 0 (0, [], 0)).2.2) : Ln) :: (partN t i).tail) := by
  have hle := endN_le t hi
  have hgt := endN_gt t i
  have h0 : (partN t i).getD 0 (0, [], 0) = t[i] := by rw [part_eq t hi]; rfl
  have ht : (partN t i).tail = (t.drop (i + 1)).take (endN t i - (i + 1)) := by rw [part_eq t hi]; rfl
  unfold movB
  rw [show endN t i - i = (endN t i - (i + 1)) + 1 by omega, List.range'_succ, List.map_cons, List.map_cons, h0, ht]
  congr 1
  · rw [List.drop_length, List.append_nil, getD_of_lt t hi]; rfl
  · apply List.ext_getElem
    · simp; omega
    · intro k h1 h2
      have hk : i + 1 + k < t.length := by simp at h1; omega
      have hke : i + 1 + k < endN t i := by simp at h1; omega
      simp only [List.getElem_map, List.getElem_range', Nat.one_mul, List.getElem_take, List.getElem_drop]
      obtain ⟨s, hs⟩ := (part_pre h hi hk).2 ⟨by omega, hke⟩
      have hsn : s ≠ [] := fun e => by
        subst e
        rw [List.append_nil] at hs
        have := pth_uniq h hi hk hs; omega
      have h3 := ln_get h hk
      rw [← h3, getD_of_lt t hk, ← hs, List.drop_left]
      unfold ln
      simp only [List.length_append, hl]
      congr 1
      congr 1
      rw [List.getLastD_eq_getLast?, List.getLastD_eq_getLast?, List.getLast?_append, List.getLast?_append, List.getLast?_eq_some_getLast hsn]
      rfl

theorem movB_up {t : List Ln} (h : rf [] t = true) {i : Nat} (hi : i < t.length) (q : List Bs) : (movB t i q).Pairwise fun a b => lx a.1 b.1 = true := by
  have hle := endN_le t hi
  rw [List.pairwise_iff_getElem]
  intro a b ha hb hab
  have ha' : i + a < endN t i := by simp [movB] at ha; omega
  have hb' : i + b < endN t i := by simp [movB] at hb; omega
  simp only [movB, List.getElem_map, List.getElem_range', Nat.one_mul]
  rw [lx_append]
  obtain ⟨s, hs⟩ := (part_pre h hi (j := i + a) (by omega)).2 ⟨by omega, ha'⟩
  obtain ⟨s', hs'⟩ := (part_pre h hi (j := i + b) (by omega)).2 ⟨by omega, hb'⟩
  have := pth_lt h (i := i + a) (j := i + b) (by omega) (by omega)
  rw [← hs, ← hs', lx_append] at this
  rw [← hs, ← hs', List.drop_left, List.drop_left]
  exact this

theorem graft_tree {t0 t : List Ln} (h0 : rf [] t0 = true) {i : Nat} (hi : i < t0.length) (h : rf [] t = true) {q : List Bs} (hq : gt t q = none) (hl : q.length = (pth t0 i).length) (h40 : (q.getLastD []).length ≤ 40) (hp : q.dropLast = [] ∨ gt t q.dropLast ≠ none) :
    rf [] (graftT t q (partN t0 i)) = true ∧ (∀ p, gt (graftT t q (partN t0 i)) p = if q <+: p then gt t0 (pth t0 i ++ p.drop q.length) else gt t p) ∧ (graftT t q (partN t0 i)).length = t.length + (endN t0 i - i) := by
  have hle := endN_le t0 hi
  have hgt := endN_gt t0 i
  have hpl := pth_ne_nil hi
  have hq0 : q ≠ [] := fun e => by
    rw [e] at hl
    exact hpl (List.length_eq_zero_iff.1 hl.symm)
  have hln := movB_ln h0 hi hl
  have hg : graftT t q (partN t0 i) = t.take (plc t q) ++ (movB t0 i q).map ln ++ t.drop (plc t q) := by rw [hln]; rfl
  obtain ⟨b1, b2⟩ := blk_tree h hq0 hq hp (B := movB t0 i q) (movB_up h0 hi q) (fun e he => ((mem_movB h0 hi (p := e.1) (m := e.2)).1 he).1) (fun e he => by
      obtain ⟨⟨s, hs⟩, hm⟩ := (mem_movB h0 hi (p := e.1) (m := e.2)).1 he
      rw [← hs, List.drop_left] at hm
      obtain ⟨k1, k2, k3, k4⟩ := gt_sound h0 hm
      rw [← hs]
      refine ⟨?_, ?_, k4⟩
      · rw [List.length_append] at k2 ⊢; omega
      · cases hsn : s with
        | nil => rw [List.append_nil]; exact h40
        | cons a r =>
          rw [hsn] at k3
          rw [List.getLastD_eq_getLast?, List.getLast?_append] at k3 ⊢
          rw [List.getLast?_eq_some_getLast (List.cons_ne_nil a r)] at k3 ⊢
          exact k3) (fun e he => by
      obtain ⟨⟨s, hs⟩, hm⟩ := (mem_movB h0 hi (p := e.1) (m := e.2)).1 he
      rw [← hs, List.drop_left] at hm
      by_cases hsn : s = []
      · left; rw [← hs, hsn, List.append_nil]
      · right
        have hne : gt t0 (pth t0 i ++ s.dropLast) ≠ none := gt_pre h0 (u := pth t0 i ++ s.dropLast) (s := [s.getLast hsn]) (by simp [hpl]) (by
          rw [List.append_assoc, List.dropLast_concat_getLast, hm]; simp)
        cases hm' : gt t0 (pth t0 i ++ s.dropLast) with
        | none => exact absurd hm' hne
        | some m' =>
          refine ⟨m', (mem_movB h0 hi).2 ?_⟩
          rw [← hs, List.dropLast_append_of_ne_nil hsn, List.drop_left]
          exact ⟨List.prefix_append _ _, hm'⟩)
  rw [hg]
  refine ⟨b1, fun p => ?_, ?_⟩
  · apply Option.ext
    intro m
    rw [b2, mem_movB h0 hi]
    split
    · rename_i hpp
      constructor
      · rintro (h1 | h1)
        · exact h1.2
        · obtain ⟨s, rfl⟩ := hpp
          exact absurd hq (gt_pre h hq0 (s := s) (by rw [h1]; simp))
      · intro h1; exact .inl ⟨hpp, h1⟩
    · rename_i hpp
      constructor
      · rintro (h1 | h1)
        · exact absurd h1.1 hpp
        · exact h1
      · exact .inr
  · have := plc_le t q
    simp only [List.length_append, List.length_take, List.length_map, List.length_drop, movB, List.length_range']
    omega

end Go.Proofs.Ytmohgkoomnihfaa.Vc
