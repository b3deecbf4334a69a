/-
  TREES, AS LINES: paths; which lines are a tree; parts, lines under lines. Plain lists. No condition.
-/
import Derived.Test.YtmohgkoomnihfaaTa
set_option linter.unusedVariables false
set_option linter.unusedSimpArgs false
namespace Go.Proofs.Ytmohgkoomnihfaa.Vc

abbrev bl := Op.bytesLess
theorem bl_irr (x : List UInt8) : bl x x = false := bl_irrefl x

/-- A line's path, behind the path of the line ahead. -/
def nx (p : List Bs) (l : Ln) : List Bs := p.take l.1.toNat ++ [l.2.1]
def pths (p : List Bs) : List Ln → List (List Bs)
  | [] => []
  | l :: r => nx p l :: pths (nx p l) r
def snd (l : Ln) : Bool := decide (0 ≤ l.1) && (decide (l.1 < 16) && (decide (l.2.1.length ≤ 40) && (decide (0 ≤ l.2.2) && decide (l.2.2 ≤ 3))))
/-- Behind a line of that path these lines go on with a tree. -/
def rf (p : List Bs) : List Ln → Bool
  | [] => true
  | l :: r => snd l && (decide (l.1 ≤ p.length) && ((decide (l.1 = p.length) || bl (p.getD l.1.toNat []) l.2.1) && rf (nx p l) r))
def rightS (t : List Ln) : Bool := decide (t.length ≤ 200) && rf [] t
def after (p : List Bs) (u : List Ln) : List Bs := u.foldl nx p
def pth (t : List Ln) (i : Nat) : List Bs := (pths [] t).getD i []

theorem rightS_iff {t : List Ln} : rightS t = true ↔ t.length ≤ 200 ∧ rf [] t = true := by simp [rightS]
theorem snd_iff {l : Ln} : snd l = true ↔ 0 ≤ l.1 ∧ l.1 < 16 ∧ l.2.1.length ≤ 40 ∧ 0 ≤ l.2.2 ∧ l.2.2 ≤ 3 := by simp [snd]
theorem rf_cons {p : List Bs} {l : Ln} {r : List Ln} : rf p (l :: r) = true ↔ snd l = true ∧ l.1 ≤ p.length ∧ (l.1 = p.length ∨ bl (p.getD l.1.toNat []) l.2.1 = true) ∧ rf (nx p l) r = true := by simp [rf]

@[simp] theorem pths_length (p : List Bs) : ∀ t, (pths p t).length = t.length
  | [] => rfl
  | l :: r => by simp [pths, pths_length _ r]
theorem after_append (p : List Bs) (u v : List Ln) : after p (u ++ v) = after (after p u) v := by simp [after]
theorem rf_append : ∀ (p : List Bs) (u v : List Ln), rf p (u ++ v) = (rf p u && rf (after p u) v)
  | p, [], v => rfl
  | p, l :: u, v => by
    simp only [List.cons_append, rf, rf_append (nx p l) u v, Bool.and_assoc]
    rfl
theorem pths_append : ∀ (p : List Bs) (u v : List Ln), pths p (u ++ v) = pths p u ++ pths (after p u) v
  | p, [], v => rfl
  | p, l :: u, v => by
    simp only [List.cons_append, pths, pths_append (nx p l) u v]
    rfl
theorem pths_take : ∀ (p : List Bs) (v : List Ln) (n : Nat), pths p (v.take n) = (pths p v).take n
  | p, [], n => by simp [pths]
  | p, l :: r, 0 => by simp [pths]
  | p, l :: r, n + 1 => by simp [pths, pths_take]
theorem nx_len {p : List Bs} {l : Ln} (h0 : 0 ≤ l.1) (h : l.1 ≤ p.length) : (nx p l).length = l.1.toNat + 1 := by simp [nx]; omega
theorem nx_last (p : List Bs) (l : Ln) : (nx p l).getLast? = some l.2.1 := by simp [nx]

theorem after_take_succ (p : List Bs) (t : List Ln) {i : Nat} (h : i < t.length) : after p (t.take (i + 1)) = nx (after p (t.take i)) t[i] := by
  rw [List.take_succ_eq_append_getElem h, after_append]; rfl
theorem pths_get : ∀ (p : List Bs) (t : List Ln) (i : Nat), i < t.length → (pths p t)[i]? = some (after p (t.take (i + 1)))
  | p, l :: r, 0, _ => rfl
  | p, l :: r, i + 1, h => by
    simp only [pths, List.getElem?_cons_succ]
    rw [pths_get (nx p l) r i (by simpa using h)]
    rfl
theorem pth_eq (t : List Ln) {i : Nat} (h : i < t.length) : pth t i = after [] (t.take (i + 1)) := by
  unfold pth; rw [List.getD_eq_getElem?_getD, pths_get _ _ _ h]; rfl

theorem rf_split {p : List Bs} {t : List Ln} (h : rf p t = true) (i : Nat) : rf p (t.take i) = true ∧ rf (after p (t.take i)) (t.drop i) = true := by
  have := rf_append p (t.take i) (t.drop i)
  rw [List.take_append_drop, h] at this
  simpa using this.symm
theorem rf_at {p : List Bs} {t : List Ln} (h : rf p t = true) {i : Nat} (hi : i < t.length) : snd t[i] = true ∧ (t[i]).1 ≤ (after p (t.take i)).length ∧ ((t[i]).1 = (after p (t.take i)).length ∨ bl ((after p (t.take i)).getD (t[i]).1.toNat []) (t[i]).2.1 = true) := by
  have := (rf_split h i).2
  rw [List.drop_eq_getElem_cons hi, rf_cons] at this
  exact ⟨this.1, this.2.1, this.2.2.1⟩
/-- The length of a line's path. -/
theorem pth_len {t : List Ln} (h : rf [] t = true) {i : Nat} (hi : i < t.length) : (pth t i).length = (t[i]).1.toNat + 1 := by
  obtain ⟨h1, h2, _⟩ := rf_at h hi
  rw [pth_eq t hi, after_take_succ [] t hi, nx_len (snd_iff.1 h1).1 h2]
theorem pth_nx (t : List Ln) {i : Nat} (hi : i < t.length) : pth t i = (after [] (t.take i)).take (t[i]).1.toNat ++ [(t[i]).2.1] := by
  rw [pth_eq t hi, after_take_succ [] t hi]; rfl
theorem after_len {t : List Ln} (h : rf [] t = true) {i : Nat} (hi : i < t.length) : (after [] (t.take (i + 1))).length = (t[i]).1.toNat + 1 := by
  rw [← pth_eq t hi]; exact pth_len h hi

/-! ### The line under which one stands -/

/-- Of the first k lines the last one of a lower depth. -/
def unS (t : List Ln) (d : Int) : Nat → Int
  | 0 => -1
  | k + 1 => if (t.getD k (0, [], 0)).1 < d then (k : Int) else unS t d k

theorem unS_lt (t : List Ln) (d : Int) : ∀ k, unS t d k < k
  | 0 => by simp [unS]
  | k + 1 => by
    unfold unS; have := unS_lt t d k
    split <;> omega
theorem unS_ge (t : List Ln) (d : Int) : ∀ k, -1 ≤ unS t d k
  | 0 => by simp [unS]
  | k + 1 => by
    unfold unS; have := unS_ge t d k
    split <;> omega
theorem unS_spec (t : List Ln) (d : Int) : ∀ (k : Nat) (u : Nat), unS t d k = (u : Int) ↔ u < k ∧ (t.getD u (0, [], 0)).1 < d ∧ ∀ j, u < j → j < k → d ≤ (t.getD j (0, [], 0)).1
  | 0, u => by simp [unS]
  | k + 1, u => by
    unfold unS
    split
    · rename_i h
      constructor
      · intro e
        have : u = k := by omega
        subst this
        exact ⟨by omega, h, fun j h1 h2 => by omega⟩
      · intro ⟨h1, h2, h3⟩
        rcases Nat.lt_or_ge u k with h4 | h4
        · have := h3 k h4 (by omega); omega
        · have : u = k := by omega
          subst this; rfl
    · rename_i h
      rw [unS_spec t d k u]
      constructor
      · intro ⟨h1, h2, h3⟩
        refine ⟨by omega, h2, fun j h4 h5 => ?_⟩
        rcases Nat.lt_or_ge j k with h6 | h6
        · exact h3 j h4 h6
        · have : j = k := by omega
          subst this; omega
      · intro ⟨h1, h2, h3⟩
        refine ⟨?_, h2, fun j h4 h5 => h3 j h4 (by omega)⟩
        rcases Nat.lt_or_ge u k with h4 | h4
        · exact h4
        · have : u = k := by omega
          subst this; omega
theorem unS_none (t : List Ln) (d : Int) : ∀ (k : Nat), unS t d k = -1 ↔ ∀ j, j < k → d ≤ (t.getD j (0, [], 0)).1
  | 0 => by simp [unS]
  | k + 1 => by
    unfold unS
    split
    · rename_i h
      constructor
      · intro e; omega
      · intro hh; have := hh k (by omega); omega
    · rename_i h
      rw [unS_none t d k]
      constructor
      · intro hh j hj
        rcases Nat.lt_or_ge j k with h6 | h6
        · exact hh j h6
        · have : j = k := by omega
          subst this; omega
      · intro hh j hj; exact hh j (by omega)

theorem getD_of_lt (t : List Ln) {i : Nat} (h : i < t.length) : t.getD i (0, [], 0) = t[i] := by simp [h]

/-- The path ahead, cut, is that of the last line of a lower depth. -/
theorem under_path {t : List Ln} (h : rf [] t = true) : ∀ (k : Nat), k ≤ t.length → ∀ d : Nat, 0 < d → d ≤ (after [] (t.take k)).length →
    ∃ u : Nat, unS t (d : Int) k = (u : Int) ∧ u < k ∧ pth t u = (after [] (t.take k)).take d
  | 0, _, d, h0, hd => by simp [after] at hd; omega
  | k + 1, hk, d, h0, hd => by
    have hlt : k < t.length := by omega
    obtain ⟨h1, h2, _⟩ := rf_at h hlt
    have h3 := (snd_iff.1 h1).1
    rw [after_len h hlt] at hd
    unfold unS
    rw [getD_of_lt t hlt]
    split
    · rename_i hl
      refine ⟨k, rfl, by omega, ?_⟩
      rw [pth_eq t hlt]
      exact (List.take_of_length_le (by rw [after_len h hlt]; omega)).symm
    · rename_i hl
      obtain ⟨u, h4, h5, h6⟩ := under_path h k (by omega) d h0 (by omega)
      refine ⟨u, h4, by omega, ?_⟩
      rw [h6, after_take_succ [] t hlt, nx]
      rw [List.take_append_of_le_length (by simp; omega), List.take_take, Nat.min_eq_left (by omega)]

def underN (t : List Ln) (i : Nat) : Int := unS t (t.getD i (0, [], 0)).1 i

/-- A path is the word behind the path of the line under which it stands. -/
theorem pth_under {t : List Ln} (h : rf [] t = true) {i : Nat} (hi : i < t.length) :
    ((t[i]).1 = 0 ∧ underN t i = -1 ∧ pth t i = [(t[i]).2.1]) ∨ (0 < (t[i]).1 ∧ ∃ u : Nat, underN t i = (u : Int) ∧ u < i ∧ pth t i = pth t u ++ [(t[i]).2.1] ∧ ((t[u]?.map (·.1)) = some ((t[i]).1 - 1))) := by
  obtain ⟨h1, h2, _⟩ := rf_at h hi
  have h3 := (snd_iff.1 h1).1
  unfold underN
  rw [getD_of_lt t hi]
  rcases Int.lt_or_eq_of_le h3 with h4 | h4
  · right
    obtain ⟨u, h5, h6, h7⟩ := under_path h i (by omega) (t[i]).1.toNat (by omega) (by omega)
    rw [Int.toNat_of_nonneg h3] at h5
    refine ⟨h4, u, h5, h6, by rw [pth_nx t hi, h7], ?_⟩
    have hu : u < t.length := by omega
    have h8 := pth_len h hu
    rw [h7, List.length_take, Nat.min_eq_left (by omega)] at h8
    have h9 := (snd_iff.1 (rf_at h hu).1).1
    rw [List.getElem?_eq_getElem hu]
    simp only [Option.map_some, Option.some.injEq]
    omega
  · left
    refine ⟨h4.symm, ?_, by rw [pth_nx t hi, ← h4]; simp⟩
    rw [unS_none, ← h4]
    intro j hj
    have hj' : j < t.length := by omega
    rw [getD_of_lt t hj']
    exact (snd_iff.1 (rf_at h hj').1).1

/-! ### Behind a part -/

def cntD (d : Int) : List Ln → Nat
  | [] => 0
  | l :: r => if d < l.1 then cntD d r + 1 else 0
def endN (t : List Ln) (i : Nat) : Nat := i + 1 + cntD (t.getD i (0, [], 0)).1 (t.drop (i + 1))
theorem cntD_le (d : Int) : ∀ r, cntD d r ≤ r.length
  | [] => Nat.le_refl _
  | l :: r => by
    unfold cntD; have := cntD_le d r
    split <;> simp <;> omega
theorem cntD_in (d : Int) : ∀ (r : List Ln) (j : Nat), j < cntD d r → d < (r.getD j (0, [], 0)).1
  | [], j, h => by simp [cntD] at h
  | l :: r, j, h => by
    unfold cntD at h
    split at h
    · rename_i hd
      cases j with
      | zero => simpa using hd
      | succ j => simpa using cntD_in d r j (by omega)
    · omega
theorem cntD_out (d : Int) : ∀ (r : List Ln), cntD d r < r.length → (r.getD (cntD d r) (0, [], 0)).1 ≤ d
  | [], h => by simp [cntD] at h
  | l :: r, h => by
    unfold cntD at h ⊢
    split
    · rename_i hd
      simp only [hd, if_true] at h
      simpa using cntD_out d r (by simpa using h)
    · rename_i hd
      simpa using hd
theorem endN_gt (t : List Ln) (i : Nat) : i < endN t i := by unfold endN; omega
theorem endN_le (t : List Ln) {i : Nat} (h : i < t.length) : endN t i ≤ t.length := by
  unfold endN; have := cntD_le (t.getD i (0, [], 0)).1 (t.drop (i + 1)); rw [List.length_drop] at this; omega
theorem endN_in (t : List Ln) (i j : Nat) (h1 : i < j) (h2 : j < endN t i) : (t.getD i (0, [], 0)).1 < (t.getD j (0, [], 0)).1 := by
  unfold endN at h2
  have := cntD_in (t.getD i (0, [], 0)).1 (t.drop (i + 1)) (j - (i + 1)) (by omega)
  simp only [List.getD_eq_getElem?_getD, List.getElem?_drop] at this ⊢
  rwa [show i + 1 + (j - (i + 1)) = j by omega] at this
theorem endN_out (t : List Ln) (i : Nat) (h : endN t i < t.length) : (t.getD (endN t i) (0, [], 0)).1 ≤ (t.getD i (0, [], 0)).1 := by
  unfold endN at h ⊢
  have := cntD_out (t.getD i (0, [], 0)).1 (t.drop (i + 1)) (by rw [List.length_drop]; omega)
  simp only [List.getD_eq_getElem?_getD, List.getElem?_drop] at this ⊢
  exact this

/-- Kids: one deeper, within the part. -/
theorem kid_iff {t : List Ln} (h : rf [] t = true) {i k : Nat} (hi : i < t.length) (hk : k < t.length) :
    underN t k = (i : Int) ↔ i < k ∧ k < endN t i ∧ (t[k]).1 = (t[i]).1 + 1 := by
  unfold underN
  rw [unS_spec, getD_of_lt t hk, getD_of_lt t hi]
  constructor
  · intro ⟨h1, h2, h3⟩
    have hend : k < endN t i := by
      rcases Nat.lt_or_ge k (endN t i) with h4 | h4
      · exact h4
      · have h5 := endN_out t i (by omega)
        rw [getD_of_lt t hi] at h5
        rcases Nat.lt_or_eq_of_le h4 with h6 | h6
        · have := h3 (endN t i) (endN_gt t i) h6; omega
        · rw [h6, getD_of_lt t hk] at h5; omega
    refine ⟨h1, hend, ?_⟩
    have hi1 : i + 1 < t.length := by omega
    obtain ⟨h4, h5, _⟩ := rf_at h hi1
    rw [after_len h hi] at h5
    have h6 := (snd_iff.1 (rf_at h hi).1).1
    rcases Nat.lt_or_ge (i + 1) k with h7 | h7
    · have := h3 (i + 1) (by omega) h7
      rw [getD_of_lt t hi1] at this
      omega
    · have : i + 1 = k := by omega
      subst this
      omega
  · intro ⟨h1, h2, h3⟩
    refine ⟨h1, by omega, fun j h4 h5 => ?_⟩
    have := endN_in t i j h4 (by omega)
    rw [getD_of_lt t hi] at this
    omega

theorem root_iff {t : List Ln} (h : rf [] t = true) {k : Nat} (hk : k < t.length) : underN t k = -1 ↔ (t[k]).1 = 0 := by
  rcases pth_under h hk with ⟨h1, h2, _⟩ | ⟨h1, u, h2, _⟩
  · simp [h1, h2]
  · rw [h2]; constructor
    · intro e; omega
    · intro e; omega

/-! ### Paths rise -/

/-- Nothing further on has this path. -/
theorem gone : ∀ (r : List Ln) (p q : List Bs) (d : Nat), rf p r = true → p.take d = q.take d → d < p.length → d < q.length → bl (q.getD d []) (p.getD d []) = true → ∀ x ∈ pths p r, x ≠ q
  | [], _, _, _, _, _, _, _, _ => by simp [pths]
  | l :: r, p, q, d, h, h1, h2, h3, h4 => by
    rw [rf_cons] at h
    obtain ⟨hs, hl, hw, hr⟩ := h
    have h0 := (snd_iff.1 hs).1
    -- where the next path parts from q
    have key : ∃ e, (nx p l).take e = q.take e ∧ e < (nx p l).length ∧ e < q.length ∧ bl (q.getD e []) ((nx p l).getD e []) = true := by
      rcases Nat.lt_trichotomy l.1.toNat d with h5 | h5 | h5
      · refine ⟨l.1.toNat, ?_, by rw [nx_len h0 hl]; omega, by omega, ?_⟩
        · unfold nx
          rw [List.take_append_of_le_length (by simp; omega), List.take_take, Nat.min_self]
          have := congrArg (List.take l.1.toNat) h1
          rw [List.take_take, List.take_take, Nat.min_eq_left (by omega)] at this
          exact this
        · have h6 : (nx p l).getD l.1.toNat [] = l.2.1 := by
            unfold nx
            rw [List.getD_eq_getElem?_getD, List.getElem?_append_right (by simp; omega)]
            simp [show l.1.toNat - min l.1.toNat p.length = 0 by omega]
          rw [h6]
          have h7 : q.getD l.1.toNat [] = p.getD l.1.toNat [] := by
            have : (p.take d)[l.1.toNat]? = (q.take d)[l.1.toNat]? := by rw [h1]
            rw [List.getElem?_take_of_lt h5, List.getElem?_take_of_lt h5] at this
            rw [List.getD_eq_getElem?_getD, List.getD_eq_getElem?_getD, this]
          rw [h7]
          rcases hw with hw | hw
          · omega
          · exact hw
      · subst h5
        refine ⟨l.1.toNat, ?_, by rw [nx_len h0 hl]; omega, h3, ?_⟩
        · unfold nx
          rw [List.take_append_of_le_length (by simp; omega), List.take_take, Nat.min_self]; exact h1
        · have h6 : (nx p l).getD l.1.toNat [] = l.2.1 := by
            unfold nx
            rw [List.getD_eq_getElem?_getD, List.getElem?_append_right (by simp; omega)]
            simp [show l.1.toNat - min l.1.toNat p.length = 0 by omega]
          rw [h6]
          rcases hw with hw | hw
          · omega
          · exact bl_trans h4 hw
      · refine ⟨d, ?_, by rw [nx_len h0 hl]; omega, h3, ?_⟩
        · unfold nx
          rw [List.take_append_of_le_length (by simp; omega), List.take_take, Nat.min_eq_left (by omega)]; exact h1
        · have h6 : (nx p l).getD d [] = p.getD d [] := by
            unfold nx
            rw [List.getD_eq_getElem?_getD, List.getElem?_append_left (by simp; omega), List.getElem?_take_of_lt h5, List.getD_eq_getElem?_getD]
          rw [h6]; exact h4
    obtain ⟨e, h5, h6, h7, h8⟩ := key
    intro x hx
    rcases List.mem_cons.1 hx with rfl | hx
    · intro e1
      rw [e1, bl_irr] at h8; cases h8
    · exact gone r (nx p l) q e hr h5 h6 h7 h8 x hx

/-- What stands under a path is another one. -/
theorem pths_nodup_aux : ∀ (r : List Ln) (p q : List Bs), rf p r = true → (∃ s, s ≠ [] ∧ p = q ++ s) → ∀ x ∈ pths p r, x ≠ q := by
  intro r
  induction r with
  | nil => intro p q _ _ x hx; simp [pths] at hx
  | cons l r ih =>
    intro p q h ⟨s, hs, hp⟩ x hx
    rw [rf_cons] at h
    obtain ⟨hs1, hl1, hw1, hr1⟩ := h
    have h01 := (snd_iff.1 hs1).1
    rcases Nat.lt_or_ge l.1.toNat q.length with h1 | h1
    · -- parts from q
      have hb : bl (q.getD l.1.toNat []) l.2.1 = true := by
        rcases hw1 with hw1 | hw1
        · rw [hp] at hw1; simp at hw1; omega
        · rw [hp, List.getD_eq_getElem?_getD, List.getElem?_append_left h1, ← List.getD_eq_getElem?_getD] at hw1; exact hw1
      have h6 : (nx p l).getD l.1.toNat [] = l.2.1 := by
        unfold nx
        rw [List.getD_eq_getElem?_getD, List.getElem?_append_right (by simp; omega)]
        simp [show l.1.toNat - min l.1.toNat p.length = 0 by omega]
      have htk : (nx p l).take l.1.toNat = q.take l.1.toNat := by
        unfold nx
        rw [List.take_append_of_le_length (by simp; omega), List.take_take, Nat.min_self, hp, List.take_append_of_le_length (by omega)]
      rcases List.mem_cons.1 hx with rfl | hx
      · intro e1; rw [e1] at h6; rw [h6, bl_irr] at hb; cases hb
      · exact gone r (nx p l) q l.1.toNat hr1 htk (by rw [nx_len h01 hl1]; omega) h1 (by rw [h6]; exact hb) x hx
    · have hnx : ∃ s, s ≠ [] ∧ nx p l = q ++ s := by
        refine ⟨(s.take (l.1.toNat - q.length)) ++ [l.2.1], by simp, ?_⟩
        unfold nx
        rw [hp, List.take_append, List.take_of_length_le h1, List.append_assoc]
      rcases List.mem_cons.1 hx with rfl | hx
      · obtain ⟨s', hs', e⟩ := hnx
        intro e1; rw [e] at e1
        have := congrArg List.length e1
        simp at this
        exact hs' this
      · exact ih (nx p l) q hr1 hnx x hx

/-- No two lines have one path. -/
theorem pths_nodup : ∀ (r : List Ln) (p : List Bs), rf p r = true → (pths p r).Nodup
  | [], _, _ => List.nodup_nil
  | l :: r, p, h => by
    have h' := h
    rw [rf_cons] at h
    obtain ⟨hs, hl, hw, hr⟩ := h
    have h0 := (snd_iff.1 hs).1
    refine List.nodup_cons.2 ⟨fun hm => ?_, pths_nodup r _ hr⟩
    cases r with
    | nil => simp [pths] at hm
    | cons l2 r =>
      -- the next path is deeper, or parts from this one
      rw [rf_cons] at hr
      obtain ⟨hs2, hl2, hw2, hr2⟩ := hr
      have h02 := (snd_iff.1 hs2).1
      have hn := nx_len h0 hl
      by_cases hdp : l2.1 = ((nx p l).length : Int)
      · have hm' : nx p l ∈ pths (nx p l) (l2 :: r) := hm
        rcases List.mem_cons.1 hm' with e | hm2
        · have := congrArg List.length e
          rw [nx_len h02 hl2, hn] at this
          omega
        · refine pths_nodup_aux r (nx (nx p l) l2) (nx p l) hr2 ⟨[l2.2.1], by simp, ?_⟩ _ hm2 rfl
          show (nx p l).take l2.1.toNat ++ [l2.2.1] = _
          rw [List.take_of_length_le (by omega)]
      · have hlt : l2.1.toNat < (nx p l).length := by omega
        have hw2 : bl ((nx p l).getD l2.1.toNat []) l2.2.1 = true := hw2.resolve_left hdp
        have h6 : (nx (nx p l) l2).getD l2.1.toNat [] = l2.2.1 := by
          show ((nx p l).take l2.1.toNat ++ [l2.2.1]).getD _ _ = _
          rw [List.getD_eq_getElem?_getD, List.getElem?_append_right (by simp; omega)]
          simp [show l2.1.toNat - min l2.1.toNat (nx p l).length = 0 by omega]
        have htk : (nx (nx p l) l2).take l2.1.toNat = (nx p l).take l2.1.toNat := by
          show ((nx p l).take l2.1.toNat ++ [l2.2.1]).take _ = _
          rw [List.take_append_of_le_length (by simp; omega), List.take_take, Nat.min_self]
        have hm' : nx p l ∈ pths (nx p l) (l2 :: r) := hm
        rcases List.mem_cons.1 hm' with e | hm2
        · rw [← e] at h6; rw [h6, bl_irr] at hw2; cases hw2
        · exact gone r (nx (nx p l) l2) (nx p l) l2.1.toNat hr2 htk (by rw [nx_len h02 hl2]; omega) hlt (by rw [h6]; exact hw2) _ hm2 rfl

/-! ### Parts -/

def partN (t : List Ln) (i : Nat) : List Ln := (t.drop i).take (endN t i - i)
def subN (t : List Ln) (i : Nat) : List Ln := (partN t i).map fun l => (l.1 - (t.getD i (0, [], 0)).1, l.2)

theorem nx_shift (q p : List Bs) {l : Ln} (h : (q.length : Int) ≤ l.1) : nx (q ++ p) l = q ++ nx p (l.1 - q.length, l.2) := by
  unfold nx
  simp only
  rw [List.take_append, List.take_of_length_le (by omega), List.append_assoc, show (l.1 - (q.length : Int)).toNat = l.1.toNat - q.length by omega]

/-- Lines under a path, by themselves. -/
theorem rf_shift (q : List Bs) : ∀ (r : List Ln) (p : List Bs), (∀ l ∈ r, (q.length : Int) ≤ l.1) → rf (q ++ p) r = true →
    rf p (r.map fun l => (l.1 - (q.length : Int), l.2)) = true ∧ pths p (r.map fun l => (l.1 - (q.length : Int), l.2)) = (pths (q ++ p) r).map (List.drop q.length)
  | [], _, _, _ => ⟨rfl, rfl⟩
  | l :: r, p, hd, h => by
    rw [rf_cons] at h
    obtain ⟨hs, hl, hw, hr⟩ := h
    have hb := snd_iff.1 hs
    have h1 := hd l List.mem_cons_self
    rw [nx_shift q p h1] at hr
    obtain ⟨ih1, ih2⟩ := rf_shift q r (nx p (l.1 - q.length, l.2)) (fun x hx => hd x (List.mem_cons_of_mem _ hx)) hr
    constructor
    · rw [List.map_cons, rf_cons]
      refine ⟨snd_iff.2 ⟨by simp only; omega, by simp only; omega, hb.2.2.1, hb.2.2.2.1, hb.2.2.2.2⟩, ?_, ?_, ih1⟩
      · simp only; simp at hl; omega
      · rcases hw with hw | hw
        · left; simp only; simp at hw; omega
        · right
          simp only
          rw [List.getD_eq_getElem?_getD, List.getElem?_append_right (by omega), ← List.getD_eq_getElem?_getD] at hw
          rw [show (l.1 - (q.length : Int)).toNat = l.1.toNat - q.length by omega]
          exact hw
    · rw [List.map_cons, pths, pths, List.map_cons, ih2, nx_shift q p h1]
      simp

theorem part_eq (t : List Ln) {i : Nat} (h : i < t.length) : partN t i = t[i] :: (t.drop (i + 1)).take (endN t i - (i + 1)) := by
  unfold partN
  have := endN_gt t i
  rw [List.drop_eq_getElem_cons h, show endN t i - i = (endN t i - (i + 1)) + 1 by omega, List.take_succ_cons]

theorem part_tail_deep (t : List Ln) {i : Nat} (h : i < t.length) : ∀ l ∈ (t.drop (i + 1)).take (endN t i - (i + 1)), (t[i]).1 < l.1 := by
  intro l hl
  obtain ⟨j, hj, rfl⟩ := List.getElem_of_mem hl
  have hj' : j < endN t i - (i + 1) := by simp at hj; omega
  have hj2 : i + 1 + j < t.length := by simp at hj; omega
  have := endN_in t i (i + 1 + j) (by omega) (by omega)
  rw [getD_of_lt t h, getD_of_lt t hj2] at this
  simpa using this

theorem sub_len (t : List Ln) {i : Nat} (h : i < t.length) : (subN t i).length = endN t i - i := by
  unfold subN partN; have := endN_le t h; simp; omega

/-- A part is a tree; its paths are the ends of those that the lines have. -/
theorem sub_tree {t : List Ln} (h : rf [] t = true) {i : Nat} (hi : i < t.length) :
    rf [] (subN t i) = true ∧ ∀ k, k < endN t i - i → pth (subN t i) k = (pth t (i + k)).drop (t[i]).1.toNat := by
  obtain ⟨hs, hl, _⟩ := rf_at h hi
  have hb := snd_iff.1 hs
  obtain ⟨q, hq⟩ : ∃ q, (after [] (t.take i)).take (t[i]).1.toNat = q := ⟨_, rfl⟩
  have hql : q.length = (t[i]).1.toNat := by rw [← hq, List.length_take]; omega
  have hql' : (q.length : Int) = (t[i]).1 := by omega
  have hnx : after [] (t.take (i + 1)) = q ++ [(t[i]).2.1] := by rw [after_take_succ [] t hi, nx, hq]
  have hrr := (rf_split h (i + 1)).2
  rw [hnx] at hrr
  obtain ⟨r, hr⟩ : ∃ r, (t.drop (i + 1)).take (endN t i - (i + 1)) = r := ⟨_, rfl⟩
  have hr1 : rf (q ++ [(t[i]).2.1]) r = true := by rw [← hr]; exact (rf_split hrr _).1
  have hdeep := part_tail_deep t hi
  rw [hr] at hdeep
  obtain ⟨s1, s2⟩ := rf_shift q r [(t[i]).2.1] (fun l hl => by have := hdeep l hl; omega) hr1
  have hsub : subN t i = ((0 : Int), (t[i]).2) :: r.map fun l => (l.1 - (q.length : Int), l.2) := by
    unfold subN
    rw [part_eq t hi, hr, List.map_cons, getD_of_lt t hi, hql']
    simp
  have hnx0 : nx [] ((0 : Int), (t[i]).2) = [(t[i]).2.1] := by simp [nx]
  have hp : pths [] (subN t i) = (((pths [] t).drop i).take (endN t i - i)).map (List.drop q.length) := by
    rw [hsub, pths, hnx0, s2]
    have e1 : pths [] t = pths [] (t.take (i + 1)) ++ pths (q ++ [(t[i]).2.1]) (t.drop (i + 1)) := by
      rw [← hnx, ← pths_append, List.take_append_drop]
    have e2 : pths [] (t.take (i + 1)) = pths [] (t.take i) ++ [q ++ [(t[i]).2.1]] := by
      rw [List.take_succ_eq_append_getElem hi, pths_append, pths, pths, nx, hq]
    have e3 : pths (q ++ [(t[i]).2.1]) r = (pths (q ++ [(t[i]).2.1]) (t.drop (i + 1))).take (endN t i - (i + 1)) := by
      rw [← hr, pths_take]
    have hgt := endN_gt t i
    rw [e1, e2, List.append_assoc, List.drop_append_of_le_length (by simp; omega), List.drop_of_length_le (by simp; omega), List.nil_append, List.singleton_append,
      show endN t i - i = (endN t i - (i + 1)) + 1 by omega, List.take_succ_cons, List.map_cons, e3]
    simp
  refine ⟨?_, fun k hk => ?_⟩
  · rw [hsub, rf_cons]
    exact ⟨snd_iff.2 ⟨by simp, by simp, hb.2.2.1, hb.2.2.2.1, hb.2.2.2.2⟩, by simp, .inl (by simp), by rw [hnx0]; exact s1⟩
  · unfold pth
    have hle := endN_le t hi
    rw [List.getD_eq_getElem?_getD, List.getD_eq_getElem?_getD, hp, List.getElem?_map, List.getElem?_take_of_lt hk, List.getElem?_drop, hql, List.getElem?_eq_getElem (by simp; omega)]
    rfl

/-! ### A tree without a part -/

theorem rf_swap : ∀ (v : List Ln) (p p' : List Bs) (d : Nat), rf p' v = true → (∀ l, v.head? = some l → l.1 ≤ d) → d ≤ p.length → d < p'.length → p.take d = p'.take d →
    (p.length = d ∨ bl (p.getD d []) (p'.getD d []) = true) → rf p v = true
  | [], _, _, _, _, _, _, _, _, _ => rfl
  | l :: r, p, p', d, h, hd, h1, h2, h3, h4 => by
    rw [rf_cons] at h ⊢
    obtain ⟨hs, hl, hw, hr⟩ := h
    have hb := snd_iff.1 hs
    have hld := hd l rfl
    have hnx : nx p l = nx p' l := by
      unfold nx
      have := congrArg (List.take l.1.toNat) h3
      rw [List.take_take, List.take_take, Nat.min_eq_left (by omega)] at this
      rw [this]
    refine ⟨hs, by omega, ?_, by rw [hnx]; exact hr⟩
    have hw' := hw.resolve_left (by omega)
    rcases Int.lt_or_eq_of_le hld with h5 | h5
    · right
      have : p.getD l.1.toNat [] = p'.getD l.1.toNat [] := by
        have : (p.take d)[l.1.toNat]? = (p'.take d)[l.1.toNat]? := by rw [h3]
        rw [List.getElem?_take_of_lt (by omega), List.getElem?_take_of_lt (by omega)] at this
        rw [List.getD_eq_getElem?_getD, List.getD_eq_getElem?_getD, this]
      rw [this]; exact hw'
    · rw [h5, Int.toNat_natCast] at hw'
      rcases h4 with h4 | h4
      · left; omega
      · right
        rw [h5, Int.toNat_natCast]
        exact bl_trans h4 hw'

theorem after_deep (d : Nat) : ∀ (r : List Ln) (p : List Bs), (∀ l ∈ r, (d : Int) ≤ l.1) → d ≤ p.length → rf p r = true → (after p r).take d = p.take d ∧ d ≤ (after p r).length
  | [], _, _, h, _ => ⟨rfl, h⟩
  | l :: r, p, hd, h, hr => by
    rw [rf_cons] at hr
    obtain ⟨hs, hl, _, hr⟩ := hr
    have hb := snd_iff.1 hs
    have h1 := hd l List.mem_cons_self
    have hn := nx_len hb.1 hl
    obtain ⟨i1, i2⟩ := after_deep d r (nx p l) (fun x hx => hd x (List.mem_cons_of_mem _ hx)) (by omega) hr
    refine ⟨?_, i2⟩
    show (after (nx p l) r).take d = _
    rw [i1, nx, List.take_append_of_le_length (by simp; omega), List.take_take, Nat.min_eq_left (by omega)]

theorem rf_cut {t : List Ln} (h : rf [] t = true) {i : Nat} (hi : i < t.length) : rf [] (t.take i ++ t.drop (endN t i)) = true := by
  obtain ⟨hs, hl, hw⟩ := rf_at h hi
  have hb := snd_iff.1 hs
  obtain ⟨p, hp⟩ : ∃ p, after [] (t.take i) = p := ⟨_, rfl⟩
  rw [hp] at hl hw
  rw [rf_append, (rf_split h i).1, Bool.true_and, hp]
  have hgt := endN_gt t i
  have hle := endN_le t hi
  -- the path behind the part
  obtain ⟨r, hr⟩ : ∃ r, (t.drop (i + 1)).take (endN t i - (i + 1)) = r := ⟨_, rfl⟩
  have hte : t.take (endN t i) = t.take (i + 1) ++ r := by
    rw [← hr, ← List.take_add, show i + 1 + (endN t i - (i + 1)) = endN t i by omega]
  have hae : after [] (t.take (endN t i)) = after (nx p t[i]) r := by rw [hte, after_append, after_take_succ [] t hi, hp]
  have hrr := (rf_split h (i + 1)).2
  rw [after_take_succ [] t hi, hp] at hrr
  have hr1 : rf (nx p t[i]) r = true := by rw [← hr]; exact (rf_split hrr _).1
  have hdeep := part_tail_deep t hi
  rw [hr] at hdeep
  have hn := nx_len hb.1 hl
  obtain ⟨a1, a2⟩ := after_deep ((t[i]).1.toNat + 1) r (nx p t[i]) (fun l hl => by have := hdeep l hl; omega) (by omega) hr1
  rw [List.take_of_length_le (show (nx p t[i]).length ≤ _ by omega)] at a1
  have hv := (rf_split h (endN t i)).2
  rw [hae] at hv
  refine rf_swap _ p (after (nx p t[i]) r) (t[i]).1.toNat hv (fun l hl => ?_) (by omega) (by omega) ?_ ?_
  · rw [List.head?_drop] at hl
    have hlt := (List.getElem?_eq_some_iff.1 hl).1
    have := endN_out t i hlt
    rw [getD_of_lt t hlt, getD_of_lt t hi] at this
    rw [List.getElem?_eq_getElem hlt] at hl
    have e : t[endN t i] = l := by simpa using hl
    rw [e] at this; omega
  · have := congrArg (List.take (t[i]).1.toNat) a1
    rw [List.take_take, Nat.min_eq_left (by omega)] at this
    rw [this, nx, List.take_append_of_le_length (by simp; omega), List.take_take, Nat.min_self]
  · rcases Int.lt_or_eq_of_le hl with h5 | h5
    · right
      have e1 : (after (nx p t[i]) r).getD (t[i]).1.toNat [] = (t[i]).2.1 := by
        have : ((after (nx p t[i]) r).take ((t[i]).1.toNat + 1))[(t[i]).1.toNat]? = (nx p t[i])[(t[i]).1.toNat]? := by rw [a1]
        rw [List.getElem?_take_of_lt (by omega)] at this
        rw [List.getD_eq_getElem?_getD, this, nx, List.getElem?_append_right (by simp; omega)]
        simp [show (t[i]).1.toNat - min (t[i]).1.toNat p.length = 0 by omega]
      rw [e1]
      exact hw.resolve_left (by omega)
    · left; omega

/-! ### All parts -/

theorem range'_split (a n : Nat) {m : Nat} (h : m ≤ n) : List.range' a n = List.range' a m ++ List.range' (a + m) (n - m) := by
  rw [show List.range' (a + m) (n - m) = List.range' (a + 1 * m) (n - m) by congr 1; omega, List.range'_append]
  congr 1; omega

theorem roots_all {t : List Ln} : ∀ (m a : Nat), a + m = t.length → (a < t.length → (t.getD a (0, [], 0)).1 = 0) → rf [] t = true →
    (((List.range' a m).filter fun k => (t.getD k (0, [], 0)).1 == 0).map fun k => partN t k).flatten = t.drop a := by
  intro m
  induction m using Nat.strongRecOn with
  | _ m ih =>
    intro a ham ha hrf
    cases m with
    | zero => rw [List.drop_of_length_le (by omega)]; simp
    | succ m =>
      have hlt : a < t.length := by omega
      have h0 := ha hlt
      have hgt := endN_gt t a
      have hle := endN_le t hlt
      have e1 : List.range' a (m + 1) = a :: (List.range' (a + 1) (endN t a - (a + 1)) ++ List.range' (endN t a) (t.length - endN t a)) := by
        rw [List.range'_succ, range'_split (a + 1) m (show endN t a - (a + 1) ≤ m by omega)]
        congr 3 <;> omega
      have e2 : (List.range' (a + 1) (endN t a - (a + 1))).filter (fun k => (t.getD k (0, [], 0)).1 == 0) = [] := by
        rw [List.filter_eq_nil_iff]
        intro k hk
        rw [List.mem_range'_1] at hk
        have := endN_in t a k (by omega) (by omega)
        rw [h0] at this
        simp only [beq_iff_eq]; omega
      rw [e1, List.filter_cons, if_pos (by simpa using h0), List.filter_append, e2, List.nil_append, List.map_cons, List.flatten_cons]
      rw [ih (t.length - endN t a) (by omega) (endN t a) (by omega) (fun he => by
        have h1 := endN_out t a he
        rw [getD_of_lt t he] at h1 ⊢
        have := (snd_iff.1 (rf_at hrf he).1).1
        omega) hrf]
      unfold partN
      rw [show t.drop (endN t a) = (t.drop a).drop (endN t a - a) by rw [List.drop_drop]; congr 1; omega, List.take_append_drop]

end Go.Proofs.Ytmohgkoomnihfaa.Vc
