/-
  GROUPS, AS PLAIN LISTS: active lines, explicit lines, words, paths that are filled. No condition.
-/
import Derived.Test.YtannkhelkpmcfaaEs
set_option linter.unusedVariables false
set_option linter.unusedSimpArgs false
namespace Go.Proofs.Ytannkhelkpmcfaa.Vc

/-! ### Entries that stay, with another mark -/

theorem filter_tree {t : List Ln} (h : rf [] t = true) (P : List Bs → Bool) (f : Int → Int) (hP : ∀ p, P p = true → p.dropLast = [] ∨ P p.dropLast = true) (hf : ∀ m, 0 ≤ m → m ≤ 3 → 0 ≤ f m ∧ f m ≤ 3) :
    rf [] ((((ents t).filter fun e => P e.1).map fun e => (e.1, f e.2)).map ln) = true ∧ ents ((((ents t).filter fun e => P e.1).map fun e => (e.1, f e.2)).map ln) = ((ents t).filter fun e => P e.1).map (fun e => (e.1, f e.2)) ∧
    ∀ p, gt ((((ents t).filter fun e => P e.1).map fun e => (e.1, f e.2)).map ln) p = if P p = true then (gt t p).map f else none := by
  have ho := ents_ok h
  obtain ⟨es, hes⟩ : ∃ es, ((ents t).filter fun e => P e.1).map (fun e => (e.1, f e.2)) = es := ⟨_, rfl⟩
  have hmem : ∀ p m, (p, m) ∈ es ↔ P p = true ∧ ∃ m', (p, m') ∈ ents t ∧ f m' = m := fun p m => by
    rw [← hes, List.mem_map]
    constructor
    · rintro ⟨e, he, h1⟩
      obtain ⟨h2, h3⟩ := List.mem_filter.1 he
      injection h1 with h4 h5
      subst h4; subst h5
      exact ⟨h3, e.2, h2, rfl⟩
    · rintro ⟨h1, m', h2, h3⟩
      exact ⟨(p, m'), List.mem_filter.2 ⟨h2, h1⟩, by rw [h3]⟩
  have hok : Ok es := by
    refine ⟨?_, fun e he => ?_, fun e he => ?_⟩
    · rw [← hes, List.pairwise_map]
      exact (ho.up.filter _).imp fun h => h
    · obtain ⟨p, m⟩ := e
      obtain ⟨_, m', h2, h3⟩ := (hmem p m).1 he
      obtain ⟨k1, k2, k3, k4, k5⟩ := ho.one _ h2
      have := hf m' k4 k5
      exact ⟨k1, k2, k3, by simp only; omega, by simp only; omega⟩
    · obtain ⟨p, m⟩ := e
      obtain ⟨h1, m', h2, h3⟩ := (hmem p m).1 he
      simp only
      rcases ho.par _ h2 with h4 | ⟨m2, h4⟩
      · exact .inl h4
      · simp only at h4
        rcases hP p h1 with h5 | h5
        · exact .inl h5
        · exact .inr ⟨f m2, (hmem _ _).2 ⟨h5, m2, h4, rfl⟩⟩
  rw [hes]
  obtain ⟨h1, h2⟩ := ok_tree hok
  refine ⟨h1, h2, fun p => ?_⟩
  apply Option.ext
  intro x
  rw [gt_iff h1, h2, hmem]
  split
  · rename_i hp
    rw [Option.map_eq_some_iff]
    constructor
    · rintro ⟨_, m', h3, h4⟩; exact ⟨m', (gt_iff h).2 h3, h4⟩
    · rintro ⟨m', h3, h4⟩; exact ⟨hp, m', (gt_iff h).1 h3, h4⟩
  · rename_i hp
    constructor
    · exact fun h3 => absurd h3.1 hp
    · intro h3; cases h3

/-! ### What is off -/

def oddO (o : Option Int) : Bool := match o with | some m => decide (m % 2 = 1) | none => false
theorem oddO_iff {o : Option Int} : oddO o = true ↔ ∃ m, o = some m ∧ m % 2 = 1 := by
  cases o with
  | none => simp [oddO]
  | some m => simp [oddO]
def offP (t : List Ln) (p : List Bs) : Bool := (List.range p.length).any fun k => oddO (gt t (p.take (k + 1)))
theorem off_iff {t : List Ln} {p : List Bs} : offP t p = true ↔ ∃ q m, q <+: p ∧ gt t q = some m ∧ m % 2 = 1 := by
  unfold offP
  rw [List.any_eq_true]
  constructor
  · rintro ⟨k, hk, h⟩
    obtain ⟨m, h1, h2⟩ := oddO_iff.1 h
    exact ⟨_, m, List.take_prefix _ _, h1, h2⟩
  · rintro ⟨q, m, h1, h2, h3⟩
    have hq : q ≠ [] := fun e => by rw [e, gt_nil] at h2; cases h2
    have hl := List.length_pos_iff.2 hq
    have hle := h1.length_le
    refine ⟨q.length - 1, List.mem_range.2 (by omega), oddO_iff.2 ⟨m, ?_, h3⟩⟩
    rw [show q.length - 1 + 1 = q.length by omega, ← List.prefix_iff_eq_take.1 h1, h2]
theorem off_pre {t : List Ln} {p q : List Bs} (h : q <+: p) (ho : offP t p = false) : offP t q = false := by
  cases hx : offP t q with
  | false => rfl
  | true =>
    obtain ⟨r, m, h1, h2, h3⟩ := off_iff.1 hx
    rw [off_iff.2 ⟨r, m, h1.trans h, h2, h3⟩] at ho
    cases ho
theorem off_last {t : List Ln} (u : List Bs) (w : Bs) : offP t (u ++ [w]) = (offP t u || oddO (gt t (u ++ [w]))) := by
  rw [Bool.eq_iff_iff, Bool.or_eq_true, off_iff, off_iff, oddO_iff]
  constructor
  · rintro ⟨q, m, h1, h2, h3⟩
    rcases List.prefix_concat_iff.1 h1 with h4 | h4
    · right; exact ⟨m, by rw [← h4]; exact h2, h3⟩
    · left; exact ⟨q, m, h4, h2, h3⟩
  · rintro (⟨q, m, h1, h2, h3⟩ | ⟨m, h2, h3⟩)
    · exact ⟨q, m, h1.trans (List.prefix_append _ _), h2, h3⟩
    · exact ⟨_, m, List.prefix_refl _, h2, h3⟩

def grp : Bs := [103, 114, 111, 117, 112, 115]
def apl : Bs := [97, 112, 112, 108, 121]
def ownW (w : Bs) : Bool := w == grp || w == apl

/-- The active lines. -/
def actL (t : List Ln) : List Ln := (((ents t).filter fun e => !offP t e.1).map fun e => (e.1, (0 : Int))).map ln
/-- Those that are explicit. -/
def expL (t : List Ln) : List Ln := (((ents (actL t)).filter fun e => !ownW (e.1.headD [])).map fun e => (e.1, e.2)).map ln

theorem act_tree {t : List Ln} (h : rf [] t = true) : rf [] (actL t) = true ∧ ents (actL t) = ((ents t).filter fun e => !offP t e.1).map (fun e => (e.1, (0 : Int))) ∧ ∀ p, gt (actL t) p = if offP t p = false then (gt t p).map (fun _ => 0) else none := by
  obtain ⟨h1, h2, h3⟩ := filter_tree h (fun p => !offP t p) (fun _ => 0) (fun p hp => .inr (by
    simp only [Bool.not_eq_true'] at hp ⊢
    exact off_pre (List.dropLast_prefix p) hp)) (fun m _ _ => ⟨by omega, by omega⟩)
  refine ⟨h1, h2, fun p => ?_⟩
  have := h3 p
  unfold actL
  rw [this]
  simp only [Bool.not_eq_true']
theorem act_len (t : List Ln) : (actL t).length ≤ t.length := by
  unfold actL
  rw [List.length_map, List.length_map]
  have := List.length_filter_le (fun e : List Bs × Int => !offP t e.1) (ents t)
  simpa using this
theorem act_right {t : List Ln} (h : rightS t = true) : rightS (actL t) = true := by
  obtain ⟨h1, h2⟩ := rightS_iff.1 h
  exact rightS_iff.2 ⟨by have := act_len t; omega, (act_tree h2).1⟩

theorem headD_dropLast {p : List Bs} (h : p.dropLast ≠ []) : p.dropLast.headD [] = p.headD [] := by
  cases p with
  | nil => rfl
  | cons a p =>
    cases p with
    | nil => exact absurd rfl h
    | cons b p => rfl
theorem headD_append {p q : List Bs} (h : p ≠ []) : (p ++ q).headD [] = p.headD [] := by
  cases p with
  | nil => exact absurd rfl h
  | cons a p => rfl
theorem exp_tree {t : List Ln} (h : rf [] t = true) : rf [] (expL t) = true ∧ ∀ p, gt (expL t) p = if ownW (p.headD []) = false then gt (actL t) p else none := by
  obtain ⟨a1, _, _⟩ := act_tree h
  obtain ⟨h1, h2, h3⟩ := filter_tree a1 (fun p => !ownW (p.headD [])) (fun m => m) (fun p hp => by
    by_cases hd : p.dropLast = []
    · exact .inl hd
    · right; rw [headD_dropLast hd]; exact hp) (fun m h0 h3 => ⟨h0, h3⟩)
  refine ⟨h1, fun p => ?_⟩
  have := h3 p
  unfold expL
  rw [this]
  simp only [Bool.not_eq_true', Option.map_id']
theorem exp_len (t : List Ln) : (expL t).length ≤ t.length := by
  have h1 := act_len t
  unfold expL
  rw [List.length_map, List.length_map]
  have := List.length_filter_le (fun e : List Bs × Int => !ownW (e.1.headD [])) (ents (actL t))
  rw [ents_length] at this
  omega
theorem exp_right {t : List Ln} (h : rightS t = true) : rightS (expL t) = true := by
  obtain ⟨h1, h2⟩ := rightS_iff.1 h
  exact rightS_iff.2 ⟨by have := exp_len t; omega, (exp_tree h2).1⟩
/-- All marks of active lines are 0. -/
theorem act_mark {t : List Ln} (h : rf [] t = true) {p : List Bs} {m : Int} (hg : gt (actL t) p = some m) : m = 0 ∧ gt t p ≠ none ∧ offP t p = false := by
  rw [(act_tree h).2.2] at hg
  split at hg
  · rename_i ho
    cases hx : gt t p with
    | none => rw [hx] at hg; cases hg
    | some m' =>
      rw [hx] at hg
      exact ⟨(Option.some.inj hg).symm, by simp, ho⟩
  · cases hg
theorem exp_mark {t : List Ln} (h : rf [] t = true) {p : List Bs} {m : Int} (hg : gt (expL t) p = some m) : m = 0 ∧ ownW (p.headD []) = false ∧ gt (actL t) p = some 0 := by
  rw [(exp_tree h).2] at hg
  split at hg
  · rename_i ho
    have := (act_mark h hg).1
    subst this
    exact ⟨rfl, ho, hg⟩
  · cases hg

/-! ### Words under a path -/

def wordsS (t : List Ln) (u : List Bs) : List Bs := ((ents t).filter fun e => decide (e.1.dropLast = u)).map fun e => e.1.getLastD []
theorem words_mem {t : List Ln} (h : rf [] t = true) {u : List Bs} {w : Bs} : w ∈ wordsS t u ↔ gt t (u ++ [w]) ≠ none := by
  unfold wordsS
  rw [List.mem_map]
  constructor
  · rintro ⟨e, he, h1⟩
    obtain ⟨h2, h3⟩ := List.mem_filter.1 he
    have h3 : e.1.dropLast = u := by simpa using h3
    have hn := ((ents_ok h).one e h2).1
    have : e.1 = u ++ [w] := by rw [← h3, ← h1, getLastD_ne hn, List.dropLast_concat_getLast]
    rw [← this, (gt_iff (m := e.2) h).2 h2]; simp
  · intro hg
    cases hx : gt t (u ++ [w]) with
    | none => exact absurd hx hg
    | some m =>
      exact ⟨(u ++ [w], m), List.mem_filter.2 ⟨(gt_iff h).1 hx, by simp⟩, by simp⟩
theorem words_nodup {t : List Ln} (h : rf [] t = true) (u : List Bs) : (wordsS t u).Nodup := by
  unfold wordsS List.Nodup
  rw [List.pairwise_map]
  refine ((ents_ok h).up.filter _).imp_of_mem fun {a b} ha hb hab => ?_
  obtain ⟨a1, a2⟩ := List.mem_filter.1 ha
  obtain ⟨b1, b2⟩ := List.mem_filter.1 hb
  have a2 : a.1.dropLast = u := by simpa using a2
  have b2 : b.1.dropLast = u := by simpa using b2
  have an := ((ents_ok h).one a a1).1
  have bn := ((ents_ok h).one b b1).1
  intro he
  rw [getLastD_ne an, getLastD_ne bn] at he
  have : a.1 = b.1 := by rw [← List.dropLast_concat_getLast an, ← List.dropLast_concat_getLast bn, a2, b2, he]
  exact lx_ne hab this
theorem words_len (t : List Ln) (u : List Bs) : (wordsS t u).length ≤ t.length := by
  unfold wordsS
  rw [List.length_map]
  have := List.length_filter_le (fun e : List Bs × Int => decide (e.1.dropLast = u)) (ents t)
  simpa using this
/-- The same words, where the same paths are. -/
theorem words_ext {t t' : List Ln} (h : rf [] t = true) (h' : rf [] t' = true) {u : List Bs} (he : ∀ w, gt t (u ++ [w]) = gt t' (u ++ [w])) : wordsS t u = wordsS t' u := by
  unfold wordsS
  congr 1
  refine sorted_ext ((ents_ok h).up.filter _) ((ents_ok h').up.filter _) fun e => ?_
  rw [List.mem_filter, List.mem_filter]
  have key : ∀ {x : List Ln}, rf [] x = true → e ∈ ents x → e.1.dropLast = u → e.1 = u ++ [e.1.getLastD []] := fun hx hm hd => by
    have hn := ((ents_ok hx).one e hm).1
    rw [← hd, getLastD_ne hn, List.dropLast_concat_getLast]
  constructor
  · rintro ⟨h1, h2⟩
    have h3 := key h h1 (by simpa using h2)
    refine ⟨(gt_iff (m := e.2) h').1 ?_, h2⟩
    have h4 := (gt_iff (m := e.2) h).2 h1
    rw [h3] at h4 ⊢
    rw [← he]; exact h4
  · rintro ⟨h1, h2⟩
    have h3 := key h' h1 (by simpa using h2)
    refine ⟨(gt_iff (m := e.2) h).1 ?_, h2⟩
    have h4 := (gt_iff (m := e.2) h').2 h1
    rw [h3] at h4 ⊢
    rw [he]; exact h4

theorem ents_range (t : List Ln) : ents t = (List.range t.length).map fun k => (pth t k, (t.getD k (0, [], 0)).2.2) := by
  apply List.ext_getElem
  · simp
  · intro i h1 h2
    have hi : i < t.length := by simpa using h1
    rw [ents_get t hi, List.getElem_map, List.getElem_range, getD_of_lt t hi]
theorem pth_last {t : List Ln} (h : rf [] t = true) {k : Nat} (hk : k < t.length) : (pth t k).getLastD [] = (t.getD k (0, [], 0)).2.1 := by
  have := congrArg (fun l : Ln => l.2.1) (ln_get h hk)
  rw [getD_of_lt t hk]
  exact this
/-- Kids, by their words. -/
theorem words_kids {t : List Ln} (h : rf [] t = true) {u : List Bs} {i : Int} (hk : ∀ k, k < t.length → (underN t k = i ↔ (pth t k).dropLast = u)) : (kidsL t i).map (fun k => (t.getD k.toNat (0, [], 0)).2.1) = wordsS t u := by
  unfold wordsS kidsL
  rw [ents_range, List.filter_map, List.map_map, List.map_map]
  have e1 : (List.range t.length).filter (fun k => underN t k == i) = (List.range t.length).filter ((fun e : List Bs × Int => decide (e.1.dropLast = u)) ∘ fun k => (pth t k, (t.getD k (0, [], 0)).2.2)) := by
    apply List.filter_congr
    intro k hk'
    rw [List.mem_range] at hk'
    rw [Bool.eq_iff_iff]
    simp only [beq_iff_eq, Function.comp, decide_eq_true_eq]
    exact hk k hk'
  rw [e1]
  apply List.map_congr_left
  intro k hk'
  have hk2 := List.mem_range.1 (List.mem_filter.1 hk').1
  simp only [Function.comp, Int.toNat_natCast]
  exact (pth_last h hk2).symm
theorem words_root {t : List Ln} (h : rf [] t = true) : (kidsL t (-1)).map (fun k => (t.getD k.toNat (0, [], 0)).2.1) = wordsS t [] :=
  words_kids h fun k hk => by
    rw [root_pth h hk]
    constructor
    · rintro ⟨x, hx⟩; rw [hx]; rfl
    · intro hd
      have hn := pth_ne_nil hk
      exact ⟨(pth t k).getLast hn, by have := List.dropLast_concat_getLast hn; rw [hd] at this; exact this.symm⟩
theorem words_kid {t : List Ln} (h : rf [] t = true) {i : Nat} (hi : i < t.length) : (kidsL t i).map (fun k => (t.getD k.toNat (0, [], 0)).2.1) = wordsS t (pth t i) :=
  words_kids h fun k hk => by
    rw [kid_pth h hi hk]
    constructor
    · rintro ⟨x, hx⟩; rw [hx]; simp
    · intro hd
      have hn := pth_ne_nil hk
      exact ⟨(pth t k).getLast hn, by have := List.dropLast_concat_getLast hn; rw [hd] at this; exact this.symm⟩
theorem words_none {t : List Ln} (h : rf [] t = true) {u : List Bs} (hu : u ≠ []) (hg : gt t u = none) : wordsS t u = [] := by
  cases hx : wordsS t u with
  | nil => rfl
  | cons w r =>
    have : w ∈ wordsS t u := by rw [hx]; exact List.mem_cons_self
    exact absurd hg (gt_pre h hu ((words_mem h).1 this))

/-! ### A path that is filled -/

def starI (p : List Bs) (a : Nat) : Option Nat := (List.range p.length).find? fun k => decide (a ≤ k) && (p.getD k [] == [42])
theorem starI_some {p : List Bs} {a k : Nat} (h : starI p a = some k) : a ≤ k ∧ k < p.length ∧ p.getD k [] = [42] ∧ ∀ j, a ≤ j → j < k → p.getD j [] ≠ [42] := by
  unfold starI at h
  rw [List.find?_range_eq_some] at h
  obtain ⟨h1, h2, h3⟩ := h
  simp only [Bool.and_eq_true, decide_eq_true_eq, beq_iff_eq] at h1
  refine ⟨h1.1, List.mem_range.1 h2, h1.2, fun j hj1 hj2 he => ?_⟩
  have := h3 j hj2
  simp only [Bool.not_eq_true', Bool.and_eq_false_iff, decide_eq_false_iff_not, beq_eq_false_iff_ne] at this
  rcases this with h | h
  · exact h hj1
  · exact h he
theorem starI_none {p : List Bs} {a : Nat} (h : starI p a = none) : ∀ j, a ≤ j → j < p.length → p.getD j [] ≠ [42] := by
  unfold starI at h
  rw [List.find?_eq_none] at h
  intro j h1 h2 he
  have := h j (List.mem_range.2 h2)
  simp [h1] at this
  exact this (by simpa [h2] using he)

def fillF (x : List Ln) : Nat → List Bs → Nat → List (List Bs)
  | 0, p, _ => [p]
  | n + 1, p, a => match starI p a with
    | none => [p]
    | some k => (wordsS x (p.take k)).flatMap fun w => fillF x n (p.set k w) (k + 1)
def fillS (x : List Ln) (p : List Bs) : List (List Bs) := fillF x p.length p 0

theorem fill_len (x : List Ln) : ∀ (n : Nat) (p : List Bs) (a : Nat), ∀ q ∈ fillF x n p a, q.length = p.length
  | 0, p, a, q, h => by
    have : q = p := by simpa [fillF] using h
    rw [this]
  | n + 1, p, a, q, h => by
    unfold fillF at h
    split at h
    · have : q = p := by simpa using h
      rw [this]
    · obtain ⟨w, _, hq⟩ := List.mem_flatMap.1 h
      have := fill_len x n _ _ q hq
      rwa [List.length_set] at this

/-- How many entries begin so. -/
def cntP (x : List Ln) (u : List Bs) : Nat := (ents x).countP fun e => decide (u <+: e.1)
theorem cnt_le (x : List Ln) (u : List Bs) : cntP x u ≤ x.length := by
  unfold cntP
  have := List.countP_le_length (p := fun e : List Bs × Int => decide (u <+: e.1)) (l := ents x)
  simpa using this
theorem cnt_pre (x : List Ln) {u v : List Bs} (h : u <+: v) : cntP x v ≤ cntP x u := by
  unfold cntP
  refine List.countP_mono_left fun e _ he => ?_
  simp only [decide_eq_true_eq] at he ⊢
  exact h.trans he
theorem cnt_pos {x : List Ln} (h : rf [] x = true) {u : List Bs} (hg : gt x u ≠ none) : 0 < cntP x u := by
  unfold cntP
  rw [List.countP_pos_iff]
  cases hx : gt x u with
  | none => exact absurd hx hg
  | some m => exact ⟨(u, m), (gt_iff h).1 hx, by simp⟩
theorem cnt_sum (es : List (List Bs × Int)) (u : List Bs) : ∀ (ws : List Bs), ws.Nodup → (ws.map fun w => es.countP fun e => decide (u ++ [w] <+: e.1)).sum ≤ es.countP fun e => decide (u <+: e.1) := by
  induction es with
  | nil =>
    intro ws _
    have : ∀ l : List Bs, (l.map fun _ => 0).sum = 0 := fun l => by
      induction l with
      | nil => rfl
      | cons a l ih => simp only [List.map_cons, List.sum_cons, ih]
    simp
    exact this ws
  | cons e es ih =>
    intro ws hn
    simp only [List.countP_cons]
    have hsplit : (ws.map fun w => es.countP (fun e => decide (u ++ [w] <+: e.1)) + if decide (u ++ [w] <+: e.1) = true then 1 else 0).sum =
        (ws.map fun w => es.countP fun e => decide (u ++ [w] <+: e.1)).sum + (ws.map fun w => if decide (u ++ [w] <+: e.1) = true then 1 else 0).sum := by
      clear ih hn
      induction ws with
      | nil => rfl
      | cons w ws ih2 => simp only [List.map_cons, List.sum_cons, ih2]; omega
    rw [hsplit]
    have hone : ∀ (ws : List Bs), ws.Nodup → (ws.map fun w => if decide (u ++ [w] <+: e.1) = true then 1 else 0).sum ≤ if decide (u <+: e.1) = true then 1 else 0 := by
      intro ws
      induction ws with
      | nil => intro _; simp
      | cons w ws ih2 =>
        intro hn
        rw [List.nodup_cons] at hn
        have h2 := ih2 hn.2
        simp only [List.map_cons, List.sum_cons]
        by_cases hw : u ++ [w] <+: e.1
        · have hz : (ws.map fun w => if decide (u ++ [w] <+: e.1) = true then 1 else 0).sum = 0 := by
            clear ih2 h2
            have hnw := hn.1
            clear hn
            induction ws with
            | nil => rfl
            | cons v ws ih3 =>
              simp only [List.map_cons, List.sum_cons]
              rw [ih3 (fun h => hnw (List.mem_cons_of_mem _ h)), if_neg]
              simp only [decide_eq_true_eq]
              intro hv
              obtain ⟨s, hs⟩ := hw
              obtain ⟨s', hs'⟩ := hv
              rw [← hs] at hs'
              simp only [List.append_assoc, List.append_cancel_left_eq, List.singleton_append, List.cons.injEq] at hs'
              exact hnw (by rw [← hs'.1]; exact List.mem_cons_self)
          rw [hz]
          have hu : u <+: e.1 := (List.prefix_append _ _).trans hw
          simp [hw, hu]
        · simp only [hw, decide_false, Bool.false_eq_true, if_false, Nat.zero_add]
          simpa using h2
    have := ih ws hn
    have := hone ws hn
    omega

theorem sum_le {α : Type} (f g : α → Nat) : ∀ (l : List α), (∀ a ∈ l, f a ≤ g a) → (l.map f).sum ≤ (l.map g).sum
  | [], _ => Nat.le_refl _
  | a :: l, h => by
    simp only [List.map_cons, List.sum_cons]
    have h1 := h a List.mem_cons_self
    have h2 := sum_le f g l fun b hb => h b (List.mem_cons_of_mem _ hb)
    omega

theorem fill_bound {x : List Ln} (h : rf [] x = true) : ∀ (n : Nat) (p : List Bs) (a : Nat), (fillF x n p a).length ≤ max 1 (cntP x (p.take a))
  | 0, p, a => by simp [fillF]; omega
  | n + 1, p, a => by
    unfold fillF
    split
    · simp; omega
    · rename_i k hk
      obtain ⟨h1, h2, h3, h4⟩ := starI_some hk
      rw [List.length_flatMap]
      have hsum := cnt_sum (ents x) (p.take k) (wordsS x (p.take k)) (words_nodup h _)
      have hle : ((wordsS x (p.take k)).map fun w => (fillF x n (p.set k w) (k + 1)).length).sum ≤ ((wordsS x (p.take k)).map fun w => (ents x).countP fun e => decide (p.take k ++ [w] <+: e.1)).sum := by
        refine sum_le _ _ _ fun w hw => ?_
        have := fill_bound h n (p.set k w) (k + 1)
        have e1 : (p.set k w).take (k + 1) = p.take k ++ [w] := by
          rw [List.take_succ_eq_append_getElem (by simpa using h2), List.take_set_of_le (Nat.le_refl _)]
          simp
        rw [e1] at this
        have hp := cnt_pos h ((words_mem h).1 hw)
        show _ ≤ cntP x (p.take k ++ [w])
        omega
      have hpre : cntP x (p.take k) ≤ cntP x (p.take a) := cnt_pre x (by
        have : p.take a = (p.take k).take a := by rw [List.take_take, Nat.min_eq_left h1]
        rw [this]; exact List.take_prefix _ _)
      have hsum2 : ((wordsS x (p.take k)).map fun w => (ents x).countP fun e => decide (p.take k ++ [w] <+: e.1)).sum ≤ cntP x (p.take k) := hsum
      have : List.length (fillF x n (p.set k []) (k + 1)) ≥ 0 := Nat.zero_le _
      have e2 : ((wordsS x (p.take k)).map (List.length ∘ fun w => fillF x n (p.set k w) (k + 1))).sum = ((wordsS x (p.take k)).map fun w => (fillF x n (p.set k w) (k + 1)).length).sum := rfl
      omega
theorem fillS_bound {x : List Ln} (h : rf [] x = true) (p : List Bs) : (fillS x p).length ≤ x.length + 1 := by
  have h1 := fill_bound h p.length p 0
  have h2 := cnt_le x (p.take 0)
  unfold fillS
  omega

end Go.Proofs.Ytannkhelkpmcfaa.Vc
