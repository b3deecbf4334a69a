/-
  WHAT THE DOCUMENT's FUNCTIONS ON TREES ANSWER: the same. No condition.
-/
import Derived.Test.YtmohgkoomnihfaaTg
set_option linter.unusedVariables false
set_option linter.unusedSimpArgs false
namespace Go.Proofs.Ytmohgkoomnihfaa.Vc

theorem R_under (N : Nat) (t : List Ln) (i : Int) (h0 : 0 ≤ i) (h1 : i < t.length) (hm : t.length ≤ 1073741824) (hN : t.length < N) : F71 N t i = some (underN t i.toNat) := by
  unfold F71 V71
  simp only [ev_f1, ev_leaf]
  have := loop_fold0 (R := Int) (step := fun x => L71_3 N x.1 x.2.1 x.2.2.1 x.2.2.2) i.toNat
    (fun (out : Int) k => if (t.getD k (0, [], 0)).1 < (t.getD i.toNat (0, [], 0)).1 then (k : Int) else out) (fun out k => (t, i, out, k)) (fun _ _ => True) (fun _ _ _ _ => trivial) (fun out k _ hk => by
      unfold L71_3 U71_3
      by_cases h : k < i.toNat
      · have hk' : (k : Int) < i := by omega
        have c1 : inR (k : Int) t.length := ⟨by omega, by omega⟩
        have c2 : inR i t.length := ⟨h0, h1⟩
        simp (disch := first | assumption | omega) only [ev_br, ev_leaf, ev_ck, decide_eq_true_eq, hk', if_true, h, wrapI]
        show (if (t.getD k (0, [], 0)).1 < (t.getD i.toNat (0, [], 0)).1 then _ else _) = _
        split <;> rfl
      · have hk' : ¬ (k : Int) < i := by omega
        have : (k : Int) = i := by omega
        simp [hk', h]) (-1) trivial N (by omega)
  unfold W71_3
  rw [this, lp1_brk]
  simp only [Option.some.injEq]
  unfold underN
  generalize (t.getD i.toNat (0, [], 0)).1 = d
  induction i.toNat with
  | zero => rfl
  | succ k ih => rw [List.range_succ, List.foldl_append, ih]; rfl

theorem R_end (N : Nat) (t : List Ln) (i : Int) (h0 : 0 ≤ i) (h1 : i < t.length) (hm : t.length ≤ 1073741824) (hN : t.length < N) : F28 N t i = some (endN t i.toNat : Int) := by
  unfold F28 V28
  simp only [ev_f1, ev_leaf]
  rw [wrapI (by omega) (by omega)]
  obtain ⟨o, ho, hp⟩ := runLoop_post (R := Int) (step := fun x => L28_2 N x.1 x.2.1 x.2.2)
    (fun x => x.1 = t ∧ x.2.1 = i ∧ 0 ≤ x.2.2 ∧ x.2.2 ≤ t.length ∧ x.2.2.toNat + cntD (t.getD i.toNat (0, [], 0)).1 (t.drop x.2.2.toNat) = endN t i.toNat) (fun x => (t.length - x.2.2).toNat)
    (fun o => o = .ret (endN t i.toNat : Int) ∨ (∃ x : Int × Int, o = .brk 0 (t, x) ∧ endN t i.toNat = t.length))
    (by
      rintro ⟨t', i', k⟩ ⟨e1, e2, hk0, hki, hu⟩
      dsimp only at e1 e2 hk0 hki hu ⊢
      subst e1; subst e2
      unfold L28_2 U28_2
      by_cases hk : k < t'.length
      · have h2 : inR k t'.length := ⟨hk0, by omega⟩
        have h3 : inR i' t'.length := ⟨h0, h1⟩
        rw [drop_cons t' hk0 hk, cntD] at hu
        simp (disch := first | assumption | omega) only [ev_br, ev_leaf, ev_ck, decide_eq_true_eq, hk, if_true, wrapI]
        obtain ⟨l, hl⟩ : ∃ l : Ln, atI tLn t' k = l := ⟨_, rfl⟩
        rw [hl] at hu ⊢
        show ∃ o, (if l.1 ≤ (t'.getD i'.toNat (0, [], 0)).1 then _ else _) = _ ∧ _
        split at hu
        · rename_i hlt
          rw [if_neg (by omega)]
          exact ⟨_, rfl, .inl ⟨_, rfl, ⟨rfl, rfl, by simp; omega, by simp; omega, by simp only; omega⟩, by simp; omega⟩⟩
        · rename_i hge
          rw [if_pos (by omega)]
          refine ⟨_, rfl, .inr ⟨by simp, .inl ?_⟩⟩
          rw [← hu, Nat.add_zero, Int.toNat_of_nonneg hk0]
      · refine ⟨.brk 0 (t', i', k), by simp [hk], .inr ⟨by simp, .inr ⟨_, rfl, ?_⟩⟩⟩
        rw [List.drop_of_length_le (by omega)] at hu
        rw [← hu, cntD]; omega) N (t, i, i + 1) ⟨rfl, rfl, by simp; omega, by simp; omega, by
          simp only; rw [show (i + 1).toNat = i.toNat + 1 by omega]; rfl⟩ (by simp; omega)
  unfold W28_2
  rw [ho]
  rcases hp with rfl | ⟨x, rfl, he⟩
  · rfl
  · rw [lp1_brk, he]

theorem R_path0 (N : Nat) (t : List Ln) (i : Int) (hrf : rf [] t = true) (hm : t.length ≤ 1073741824) (h0 : 0 ≤ i) (h1 : i < t.length) (hN : t.length < N) : F49 N t i = some (pth t i.toNat) := by
  unfold F49 V49
  simp only [ev_f1, ev_leaf]
  have h16 : (pth t i.toNat).length ≤ 16 := by
    have hi : i.toNat < t.length := by omega
    rw [pth_len hrf hi]; have := snd_iff.1 (rf_at hrf hi).1; omega
  obtain ⟨o, ho, hp⟩ := runLoop_post (R := List Bs) (step := fun x => L49_2 N x.1 x.2.1 x.2.2)
    (fun x => x.1 = t ∧ -1 ≤ x.2.1 ∧ x.2.1 < t.length ∧ (0 ≤ x.2.1 → pth t x.2.1.toNat ++ x.2.2 = pth t i.toNat) ∧ (x.2.1 = -1 → x.2.2 = pth t i.toNat)) (fun x => (x.2.1 + 1).toNat)
    (fun o => o = .brk 0 (t, -1, pth t i.toNat))
    (by
      rintro ⟨t', k, out⟩ ⟨e1, hk0, hki, hu1, hu2⟩
      dsimp only at e1 hk0 hki hu1 hu2 ⊢
      subst e1
      unfold L49_2 U49_2
      by_cases hk : 0 ≤ k
      · have hu := hu1 hk
        have hkl : k.toNat < t'.length := by omega
        have h2 : inR k t'.length := ⟨hk, by omega⟩
        have hlen : out.length ≤ 16 := by
          have := congrArg List.length hu
          simp at this; omega
        have hroom : room (([(atI tLn t' k).2.1] : List Bs).length + out.length) := by show _ ≤ _; simp; omega
        have hroom2 : room (([(atI tLn t' k).2.1] : List Bs).length) := by show _ ≤ _; simp
        simp (disch := first | assumption | omega) only [ev_br, ev_leaf, ev_ck, ev_c1, decide_eq_true_eq, hk, if_true, R_under N t' k hk hki (by omega) hN, obind_some]
        refine ⟨_, rfl, .inl ⟨_, rfl, ?_⟩⟩
        have hw : (atI tLn t' k).2.1 = (t'[k.toNat]).2.1 := by rw [atI_nat, getD_of_lt t' hkl]
        have hlt := unS_lt t' (t'.getD k.toNat (0, [], 0)).1 k.toNat
        have hge := unS_ge t' (t'.getD k.toNat (0, [], 0)).1 k.toNat
        have hun : underN t' k.toNat = unS t' (t'.getD k.toNat (0, [], 0)).1 k.toNat := rfl
        refine ⟨⟨rfl, by simp only; omega, by simp only; omega, fun h => ?_, fun h => ?_⟩, by simp only; omega⟩
        · simp only at h ⊢
          rcases pth_under hrf hkl with ⟨_, hn, _⟩ | ⟨_, u, hn, _, hp, _⟩
          · omega
          · rw [hn, hw, ← hu, hp]; simp
        · simp only at h ⊢
          rcases pth_under hrf hkl with ⟨_, hn, hp⟩ | ⟨_, u, hn, _⟩
          · rw [hw, ← hu, hp]
          · omega
      · refine ⟨.brk 0 (t', k, out), by simp [hk], .inr ⟨by simp, ?_⟩⟩
        have : k = -1 := by omega
        subst this
        rw [← hu2 rfl]) N (t, i, []) ⟨rfl, by simp only; omega, h1, fun _ => by simp, fun h => by simp only at h; omega⟩ (by simp only; omega)
  unfold W49_2
  rw [ho, hp]; rfl

theorem R_path (N : Nat) (t : List Ln) (i : Int) (hr : rightS t = true) (h0 : 0 ≤ i) (h1 : i < t.length) (hN : t.length < N) : F49 N t i = some (pth t i.toNat) :=
  R_path0 N t i (rightS_iff.1 hr).2 (by have := (rightS_iff.1 hr).1; omega) h0 h1 hN

theorem R_kids (N : Nat) (t : List Ln) (i : Int) (hm : t.length ≤ 1073741824) (hN : t.length < N) : F50o N t i = some (kidsS t i) := by
  unfold F50o V50o
  simp only [ev_f1, ev_leaf]
  have := loop_fold0 (R := List Int) (step := fun x => L50o_3 N x.1 x.2.1 x.2.2.1 x.2.2.2) t.length
    (fun (out : List Int) k => if (underN t k == i) = true then out ++ [(k : Int)] else out) (fun out k => (t, i, out, k))
    (fun out k => out.length ≤ k) (fun out k hI hk => by
      show (if _ then _ else _ : List Int).length ≤ _
      split
      · simp; omega
      · omega) (fun out k hI hk => by
      unfold L50o_3 U50o_3
      by_cases h : k < t.length
      · have hk' : (k : Int) < t.length := by omega
        have hroom : room (out.length + ([(k : Int)] : List Int).length) := by show _ ≤ _; simp; omega
        simp (disch := first | assumption | omega) only [ev_br, ev_leaf, ev_ck, ev_c1, decide_eq_true_eq, hk', if_true, h, wrapI, R_under N t k (by omega) hk' hm hN, obind_some, Int.toNat_natCast]
        by_cases hb : (underN t k == i) = true
        · rw [if_pos hb, if_pos hb]
        · rw [if_neg hb, if_neg hb]
      · have hk' : ¬ (k : Int) < t.length := by omega
        simp [hk', h]) [] (by simp) N hN
  unfold W50o_3
  rw [this, foldl_fmap]
  simp [kidsS]

theorem R_find0 (N : Nat) (t : List Ln) (q : List Bs) (hrf : rf [] t = true) (hm : t.length ≤ 1073741824) (hq : q.length ≤ 1073741824) (hN : t.length + 16 < N) : ∃ i : Int, F24 N t q = some i ∧ ((0 ≤ i ∧ i < t.length ∧ pth t i.toNat = q) ∨ (i = -1 ∧ ∀ j, j < t.length → pth t j ≠ q)) := by
  unfold F24 V24
  simp only [ev_f1, ev_leaf]
  obtain ⟨o, ho, hp⟩ := runLoop_post (R := Int) (step := fun x => L24_2 N x.1 x.2.1 x.2.2)
    (fun x => x.1 = t ∧ x.2.1 = q ∧ 0 ≤ x.2.2 ∧ x.2.2 ≤ t.length ∧ ∀ j, j < x.2.2.toNat → pth t j ≠ q) (fun x => (t.length - x.2.2).toNat)
    (fun o => (∃ i : Nat, o = .ret (i : Int) ∧ i < t.length ∧ pth t i = q) ∨ ((∃ x, o = .brk 0 x) ∧ ∀ j, j < t.length → pth t j ≠ q))
    (by
      rintro ⟨t', q', i⟩ ⟨e1, e2, h0, hle, hno⟩
      dsimp only at e1 e2 h0 hle hno ⊢
      subst e1; subst e2
      unfold L24_2 U24_2
      by_cases hi : i < t'.length
      · have hil : i.toNat < t'.length := by omega
        have c1 : inR i t'.length := ⟨h0, hi⟩
        have e1 : atI tLn t' i = t'[i.toNat] := by rw [atI_nat, getD_of_lt t' hil]
        have hb := snd_iff.1 (rf_at hrf hil).1
        have hlen := pth_len hrf hil
        have goon : pth t' i.toNat ≠ q' → (∃ y, (Lp.next (t', q', i + 1) : Lp (List Ln × List Bs × Int) Int) = .next y ∧ (y.1 = t' ∧ y.2.1 = q' ∧ 0 ≤ y.2.2 ∧ y.2.2 ≤ t'.length ∧ ∀ j, j < y.2.2.toNat → pth t' j ≠ q') ∧ (t'.length - y.2.2).toNat < (t'.length - i).toNat) := by
          intro hne
          refine ⟨_, rfl, ⟨rfl, rfl, by simp only; omega, by simp only; omega, fun j hj => ?_⟩, by simp only; omega⟩
          simp only at hj
          rcases Nat.lt_or_ge j i.toNat with h | h
          · exact hno j h
          · have : j = i.toNat := by omega
            subst this; exact hne
        simp (disch := first | assumption | omega) only [ev_br, ev_leaf, ev_ck, ev_c1, decide_eq_true_eq, hi, if_true, e1, wrapI, R_path0 N t' i hrf hm h0 hi (by omega), obind_some,
          F_equal N (pth t' i.toNat) q' (by omega) (by unfold maxLen; omega)]
        by_cases g1 : (t'[i.toNat]).1 = (q'.length : Int) - 1
        · rw [if_pos (by simpa using g1)]
          by_cases g2 : pth t' i.toNat = q'
          · rw [if_pos g2]
            exact ⟨_, rfl, .inr ⟨by simp, .inl ⟨i.toNat, by rw [Int.toNat_of_nonneg h0], hil, g2⟩⟩⟩
          · rw [if_neg g2]
            exact ⟨_, rfl, .inl (goon g2)⟩
        · rw [if_neg (by simpa using g1)]
          exact ⟨_, rfl, .inl (goon (fun e => by rw [e] at hlen; omega))⟩
      · refine ⟨.brk 0 (t', q', i), by simp [hi], .inr ⟨by simp, .inr ⟨⟨_, rfl⟩, fun j hj => hno j (by omega)⟩⟩⟩) N (t, q, 0)
    ⟨rfl, rfl, by simp, by simp, fun j hj => by simp at hj⟩ (by simp only; omega)
  unfold W24_2
  rw [ho]
  rcases hp with ⟨i, rfl, hi, he⟩ | ⟨⟨x, rfl⟩, hn⟩
  · exact ⟨i, rfl, .inl ⟨by omega, by omega, by rwa [Int.toNat_natCast]⟩⟩
  · exact ⟨-1, rfl, .inr ⟨rfl, hn⟩⟩

theorem R_find (N : Nat) (t : List Ln) (q : List Bs) (hr : rightS t = true) (hq : q.length ≤ 1073741824) (hN : t.length + 16 < N) : F24 N t q = some (match fndS t q with | some i => (i : Int) | none => -1) := by
  obtain ⟨h200, hrf⟩ := rightS_iff.1 hr
  obtain ⟨i, ho, ⟨h0, hi, he⟩ | ⟨rfl, hn⟩⟩ := R_find0 N t q hrf (by omega) hq hN
  · rw [ho, fnd_some hr (i := i.toNat) (by omega) he]; simp [Int.toNat_of_nonneg h0]
  · rw [ho, fnd_none hn]

/-! ### A tree, pair by pair -/

/-- Behind a line of this depth and word its siblings rise. -/
def innB (d : Int) (w : Bs) : List Ln → Bool
  | [] => true
  | l :: r => if d ≤ l.1 then (if l.1 = d ∧ bl w l.2.1 = false then false else innB d w r) else true
/-- A line by itself, and its step. -/
def oneB (t : List Ln) (k : Nat) : Bool := snd (t.getD k (0, [], 0)) && (if k = 0 then decide ((t.getD k (0, [], 0)).1 = 0) else decide ((t.getD k (0, [], 0)).1 ≤ (t.getD (k - 1) (0, [], 0)).1 + 1))
def pairB (t : List Ln) (k : Nat) : Bool := innB (t.getD k (0, [], 0)).1 (t.getD k (0, [], 0)).2.1 (t.drop (k + 1))

theorem innB_of_rf : ∀ (r : List Ln) (q : List Bs) (w0 w : Bs) (s : List Bs), (w0 = w ∨ bl w0 w = true) → rf (q ++ w :: s) r = true → innB q.length w0 r = true
  | [], _, _, _, _, _, _ => rfl
  | l :: r, q, w0, w, s, hw, h => by
    rw [rf_cons] at h
    obtain ⟨hs, hl, hlt, hr⟩ := h
    have h0 := (snd_iff.1 hs).1
    unfold innB
    split
    · rename_i hd
      rcases Int.lt_or_eq_of_le hd with h1 | h1
      · rw [if_neg (by omega)]
        refine innB_of_rf r q w0 w (s.take (l.1.toNat - q.length - 1) ++ [l.2.1]) hw ?_
        have : nx (q ++ w :: s) l = q ++ w :: (s.take (l.1.toNat - q.length - 1) ++ [l.2.1]) := by
          unfold nx
          rw [List.take_append, List.take_of_length_le (by omega), show l.1.toNat - q.length = (l.1.toNat - q.length - 1) + 1 by omega, List.take_succ_cons]
          simp
        rw [← this]; exact hr
      · have hb : bl w l.2.1 = true := by
          rcases hlt with h2 | h2
          · simp at h2; omega
          · rw [← h1] at h2
            simpa using h2
        have hb0 : bl w0 l.2.1 = true := by
          rcases hw with rfl | hw
          · exact hb
          · exact bl_trans hw hb
        rw [if_neg (by rw [hb0]; simp)]
        refine innB_of_rf r q w0 l.2.1 [] (.inr hb0) ?_
        have : nx (q ++ w :: s) l = q ++ l.2.1 :: [] := by
          unfold nx
          rw [← h1, Int.toNat_natCast, List.take_append_of_le_length (Nat.le_refl _), List.take_of_length_le (Nat.le_refl _)]
        rw [← this]; exact hr
    · rfl

theorem innB_at (d : Int) (w : Bs) : ∀ (r : List Ln) (m : Nat) (l : Ln), innB d w r = true → r[m]? = some l → (∀ j, j < m → d < (r.getD j (0, [], 0)).1) → l.1 = d → bl w l.2.1 = true
  | [], m, l, _, h, _, _ => by simp at h
  | x :: r, 0, l, hi, h, _, hd => by
    have : x = l := by simpa using h
    subst this
    unfold innB at hi
    rw [if_pos (by omega)] at hi
    cases hb : bl w x.2.1 with
    | true => rfl
    | false => rw [if_pos ⟨hd, hb⟩] at hi; cases hi
  | x :: r, m + 1, l, hi, h, hj, hd => by
    have h0 := hj 0 (by omega)
    simp only [List.getD_cons_zero] at h0
    unfold innB at hi
    rw [if_pos (by omega), if_neg (by omega)] at hi
    exact innB_at d w r m l hi (by simpa using h) (fun j hjm => by simpa using hj (j + 1) (by omega)) hd

theorem rf_iff (t : List Ln) : rf [] t = true ↔ (∀ k, k < t.length → oneB t k = true) ∧ (∀ k, k < t.length → pairB t k = true) := by
  constructor
  · intro h
    constructor
    · intro k hk
      obtain ⟨h1, h2, _⟩ := rf_at h hk
      unfold oneB
      rw [getD_of_lt t hk, h1, Bool.true_and]
      split
      · rename_i h0
        subst h0
        have := (snd_iff.1 h1).1
        simp [after] at h2 ⊢; omega
      · rename_i h0
        have hk1 : k - 1 < t.length := by omega
        have hal := after_len h hk1
        rw [show k - 1 + 1 = k by omega] at hal
        rw [hal] at h2
        have := (snd_iff.1 (rf_at h hk1).1).1
        rw [getD_of_lt t hk1]
        simp; omega
    · intro k hk
      unfold pairB
      rw [getD_of_lt t hk]
      obtain ⟨h1, h2, _⟩ := rf_at h hk
      have h3 := (snd_iff.1 h1).1
      have hr := (rf_split h (k + 1)).2
      rw [after_take_succ [] t hk] at hr
      have := innB_of_rf (t.drop (k + 1)) ((after [] (t.take k)).take (t[k]).1.toNat) (t[k]).2.1 (t[k]).2.1 [] (.inl rfl) hr
      rw [List.length_take, Nat.min_eq_left (by omega), Int.toNat_of_nonneg h3] at this
      exact this
  · rintro ⟨hA, hB⟩
    -- line by line
    have key : ∀ k, k ≤ t.length → rf [] (t.take k) = true ∧ (0 < k → (after [] (t.take k)).length = (t.getD (k - 1) (0, [], 0)).1.toNat + 1) ∧
        ∀ d, d < (after [] (t.take k)).length → ∃ i, i < k ∧ (t.getD i (0, [], 0)).1 = (d : Int) ∧ (t.getD i (0, [], 0)).2.1 = (after [] (t.take k)).getD d [] ∧ ∀ j, i < j → j < k → (d : Int) < (t.getD j (0, [], 0)).1 := by
      intro k
      induction k with
      | zero => intro _; exact ⟨rfl, fun h => by omega, fun d hd => by simp [after] at hd⟩
      | succ k ih =>
        intro hk
        have hkl : k < t.length := by omega
        obtain ⟨h1, h2, h3⟩ := ih (by omega)
        have ho := hA k hkl
        unfold oneB at ho
        rw [getD_of_lt t hkl] at ho
        simp only [Bool.and_eq_true] at ho
        obtain ⟨hs, hd⟩ := ho
        have hb := snd_iff.1 hs
        have hle : (t[k]).1 ≤ (after [] (t.take k)).length := by
          split at hd
          · rename_i h0
            have : (t[k]).1 = 0 := by simpa using hd
            omega
          · rename_i h0
            rw [h2 (by omega)]
            have hd' : (t[k]).1 ≤ (t.getD (k - 1) (0, [], 0)).1 + 1 := by simpa using hd
            omega
        have hstep : (t[k]).1 = (after [] (t.take k)).length ∨ bl ((after [] (t.take k)).getD (t[k]).1.toNat []) (t[k]).2.1 = true := by
          rcases Int.lt_or_eq_of_le hle with h | h
          · right
            obtain ⟨i, hi, e1, e2, e3⟩ := h3 (t[k]).1.toNat (by omega)
            rw [Int.toNat_of_nonneg hb.1] at e1 e3
            rw [← e2]
            have hp := hB i (by omega)
            unfold pairB at hp
            rw [e1] at hp
            refine innB_at _ _ _ (k - (i + 1)) t[k] hp ?_ (fun j hj => ?_) rfl
            · rw [List.getElem?_drop, show i + 1 + (k - (i + 1)) = k by omega, List.getElem?_eq_getElem hkl]
            · have := e3 (i + 1 + j) (by omega) (by omega)
              simpa [List.getD_eq_getElem?_getD, List.getElem?_drop] using this
          · left; exact h
        have hn := nx_len hb.1 hle
        refine ⟨?_, fun _ => ?_, fun d hdl => ?_⟩
        · rw [List.take_succ_eq_append_getElem hkl, rf_append, h1, Bool.true_and, rf_cons]
          exact ⟨hs, hle, hstep, rfl⟩
        · rw [after_take_succ [] t hkl, hn, Nat.add_sub_cancel, getD_of_lt t hkl]
        · rw [after_take_succ [] t hkl] at hdl ⊢
          rw [hn] at hdl
          rcases Nat.lt_or_ge d (t[k]).1.toNat with h | h
          · obtain ⟨i, hi, e1, e2, e3⟩ := h3 d (by omega)
            refine ⟨i, by omega, e1, ?_, fun j hj1 hj2 => ?_⟩
            · rw [e2]
              unfold nx
              rw [List.getD_eq_getElem?_getD, List.getD_eq_getElem?_getD, List.getElem?_append_left (by simp; omega), List.getElem?_take_of_lt h]
            · rcases Nat.lt_or_ge j k with h4 | h4
              · exact e3 j hj1 h4
              · have : j = k := by omega
                subst this
                rw [getD_of_lt t hkl]; omega
          · have hdk : d = (t[k]).1.toNat := by omega
            subst hdk
            refine ⟨k, by omega, by rw [getD_of_lt t hkl]; omega, ?_, fun j h1 h2 => by omega⟩
            rw [getD_of_lt t hkl]
            unfold nx
            rw [List.getD_eq_getElem?_getD, List.getElem?_append_right (by simp; omega)]
            simp [show (t[k]).1.toNat - min (t[k]).1.toNat (after [] (t.take k)).length = 0 by omega]
    have := (key t.length (Nat.le_refl _)).1
    rwa [List.take_of_length_le (Nat.le_refl _)] at this

theorem W_inn (N : Nat) (t : List Ln) (i : Int) (h0 : 0 ≤ i) (h1 : i < t.length) (h200 : t.length ≤ 200) (hN : t.length < N) : ∃ o, W15_15 N (t, i, i + 1) = some o ∧
    ((o = .ret false ∧ pairB t i.toNat = false) ∨ (∃ k, o = .brk 0 (t, i, k) ∧ pairB t i.toNat = true)) := by
  unfold W15_15
  refine runLoop_post (R := Bool) (step := fun x => L15_15 N x.1 x.2.1 x.2.2)
    (fun x => x.1 = t ∧ x.2.1 = i ∧ 0 ≤ x.2.2 ∧ x.2.2 ≤ t.length ∧ innB (t.getD i.toNat (0, [], 0)).1 (t.getD i.toNat (0, [], 0)).2.1 (t.drop x.2.2.toNat) = pairB t i.toNat) (fun x => (t.length - x.2.2).toNat) _ (by
      rintro ⟨t', i', k⟩ ⟨e1, e2, hk0, hki, hu⟩
      dsimp only at e1 e2 hk0 hki hu ⊢
      subst e1; subst e2
      unfold L15_15 U15_15
      have e2 : atI tLn t' i' = t'.getD i'.toNat (0, [], 0) := rfl
      by_cases hk : k < t'.length
      · have c1 : inR k t'.length := ⟨hk0, by omega⟩
        have c2 : inR i' t'.length := ⟨h0, h1⟩
        rw [drop_cons t' hk0 hk, innB] at hu
        obtain ⟨l, hl⟩ : ∃ l : Ln, atI tLn t' k = l := ⟨_, rfl⟩
        rw [hl] at hu
        have goon : innB (t'.getD i'.toNat (0, [], 0)).1 (t'.getD i'.toNat (0, [], 0)).2.1 (t'.drop (k + 1).toNat) = pairB t' i'.toNat → (∃ y, (Lp.next (t', i', k + 1) : Lp (List Ln × Int × Int) Bool) = .next y ∧ (y.1 = t' ∧ y.2.1 = i' ∧ 0 ≤ y.2.2 ∧ y.2.2 ≤ t'.length ∧
            innB (t'.getD i'.toNat (0, [], 0)).1 (t'.getD i'.toNat (0, [], 0)).2.1 (t'.drop y.2.2.toNat) = pairB t' i'.toNat) ∧ (t'.length - y.2.2).toNat < (t'.length - k).toNat) := fun h => ⟨_, rfl, ⟨rfl, rfl, by simp only; omega, by simp only; omega, h⟩, by simp only; omega⟩
        simp (disch := first | assumption | omega) only [ev_br, ev_leaf, ev_ck, decide_eq_true_eq, hk, if_true, hl, e2, wrapI]
        rw [bl_not]
        generalize t'.getD i'.toNat (0, [], 0) = li at *
        by_cases g1 : li.1 ≤ l.1
        · rw [if_pos g1] at hu ⊢
          by_cases g2 : l.1 = li.1
          · rw [if_pos (by simpa using g2)]
            by_cases g3 : bl li.2.1 l.2.1 = true
            · rw [if_neg (by rw [g3]; simp)] at hu
              rw [show Op.bytesLess li.2.1 l.2.1 = true from g3]
              exact ⟨_, rfl, .inl (goon hu)⟩
            · have g3' : bl li.2.1 l.2.1 = false := by simpa using g3
              rw [if_pos ⟨g2, g3'⟩] at hu
              rw [show Op.bytesLess li.2.1 l.2.1 = false from g3']
              exact ⟨_, rfl, .inr ⟨by simp, .inl ⟨rfl, hu.symm⟩⟩⟩
          · rw [if_neg (by simpa using g2)]
            rw [if_neg (fun h => g2 h.1)] at hu
            exact ⟨_, rfl, .inl (goon hu)⟩
        · rw [if_neg g1] at hu ⊢
          exact ⟨_, rfl, .inr ⟨by simp, .inr ⟨_, rfl, hu.symm⟩⟩⟩
      · refine ⟨.brk 0 (t', i', k), by simp [hk], .inr ⟨by simp, .inr ⟨_, rfl, ?_⟩⟩⟩
        rw [List.drop_of_length_le (by omega)] at hu
        exact hu.symm) N _ ⟨rfl, rfl, by simp only; omega, by simp only; omega, by simp only; rw [show (i + 1).toNat = i.toNat + 1 by omega]; rfl⟩ (by simp only; omega)

theorem R_right (N : Nat) (t : List Ln) (hN : t.length < N) : F15 N t = some (rightS t) := by
  unfold F15 V15 rightS
  simp only [ev_br, ev_leaf, ev_f1, decide_eq_true_eq]
  by_cases h200 : (200 : Int) < t.length
  · rw [if_pos h200]; simp; omega
  · rw [if_neg h200, decide_eq_true (by omega : t.length ≤ 200), Bool.true_and]
    have w1 := loop_all2 (R := Bool) (step := fun x => L15_4 N x.1 x.2) t.length (oneB t) (fun i => (t, i)) false (fun i h0 hi hprev => by
      unfold L15_4 U15_4
      by_cases h : i < t.length
      · have c1 : inR i t.length := ⟨h0, h⟩
        have hil : i.toNat < t.length := by omega
        have e1 : atI tLn t i = t.getD i.toNat (0, [], 0) := rfl
        obtain ⟨l, hl⟩ : ∃ l : Ln, t.getD i.toNat (0, [], 0) = l := ⟨_, rfl⟩
        unfold oneB
        simp (disch := first | assumption | omega) only [ev_br, ev_leaf, ev_ck, decide_eq_true_eq, h, if_true, e1, hl, wrapI]
        by_cases g1 : l.1 < 0
        · rw [if_pos g1, if_neg]; intro hh; have := (snd_iff.1 (by simp only [Bool.and_eq_true] at hh; exact hh.1)).1; omega
        rw [if_neg g1]
        by_cases g2 : 15 < l.1
        · rw [if_pos g2, if_neg]; intro hh; have := (snd_iff.1 (by simp only [Bool.and_eq_true] at hh; exact hh.1)); omega
        rw [if_neg g2]
        by_cases g3 : (40 : Int) < l.2.1.length
        · rw [if_pos g3, if_neg]; intro hh; have := (snd_iff.1 (by simp only [Bool.and_eq_true] at hh; exact hh.1)); omega
        rw [if_neg g3]
        by_cases g4 : l.2.2 < 0
        · rw [if_pos g4, if_neg]; intro hh; have := (snd_iff.1 (by simp only [Bool.and_eq_true] at hh; exact hh.1)); omega
        rw [if_neg g4]
        by_cases g5 : 3 < l.2.2
        · rw [if_pos g5, if_neg]; intro hh; have := (snd_iff.1 (by simp only [Bool.and_eq_true] at hh; exact hh.1)); omega
        rw [if_neg g5]
        have hs : snd l = true := snd_iff.2 ⟨by omega, by omega, by omega, by omega, by omega⟩
        rw [hs, Bool.true_and]
        by_cases g6 : i = 0
        · subst g6
          by_cases g7 : l.1 = 0
          · simp [g7]
          · simp [g7]
        · have g6' : 0 < i := by omega
          have c2 : inR (i - 1) t.length := ⟨by omega, by omega⟩
          have e2 : atI tLn t (i - 1) = t.getD (i.toNat - 1) (0, [], 0) := by rw [atI_nat]; congr 1; omega
          rw [if_neg (by simpa using g6), if_pos g6', if_neg (by omega : ¬ i.toNat = 0)]
          obtain ⟨l', hl'⟩ : ∃ l : Ln, t.getD (i.toNat - 1) (0, [], 0) = l := ⟨_, rfl⟩
          have hp := hprev (i.toNat - 1) (by omega)
          unfold oneB at hp
          rw [hl'] at hp
          simp only [Bool.and_eq_true] at hp
          have hb' := snd_iff.1 hp.1
          rw [ev_ck c2, ev_br, e2, hl', wrapI (by omega) (by omega), ev_leaf, ev_leaf]
          by_cases g7 : l.1 ≤ l'.1 + 1
          · rw [if_neg (by simp; omega), if_pos (by simpa using g7)]
          · rw [if_pos (by simp; omega), if_neg (by simpa using g7)]
      · simp [h]) N (by omega)
    have w2 := loop_all (R := Bool) (step := fun x => L15_12 N x.1 x.2) t.length (pairB t) (fun i => (t, i)) false (fun i h0 hi => by
      unfold L15_12 U15_12
      by_cases h : i < t.length
      · obtain ⟨o, ho, hp⟩ := W_inn N t i h0 h (by omega) hN
        simp only [ev_br, Vt.g1, ev_loop1, decide_eq_true_eq, h, if_true]
        rw [wrapI (by omega) (by omega), ho]
        rcases hp with ⟨rfl, hp⟩ | ⟨k, rfl, hp⟩
        · rw [if_neg (by rw [hp]; simp), lp1_ret]
        · rw [if_pos hp, lp1_brk, ev_leaf, wrapI (by simp only; omega) (by simp only; omega)]
      · simp [h]) N (by omega)
    unfold W15_4
    rw [w1]
    have hiff := rf_iff t
    by_cases g1 : (List.range t.length).all (oneB t) = true
    · rw [if_pos g1, lp1_brk]
      unfold W15_12
      rw [w2]
      by_cases g2 : (List.range t.length).all (pairB t) = true
      · rw [if_pos g2, lp1_brk]
        have : rf [] t = true := hiff.2 ⟨fun k hk => List.all_eq_true.1 g1 k (by simpa using hk), fun k hk => List.all_eq_true.1 g2 k (by simpa using hk)⟩
        rw [this]
      · rw [if_neg g2, lp1_ret]
        have : rf [] t = false := by
          cases h : rf [] t with
          | false => rfl
          | true => exact absurd (List.all_eq_true.2 fun k hk => (hiff.1 h).2 k (by simpa using hk)) g2
        rw [this]; rfl
    · rw [if_neg g1, lp1_ret]
      have : rf [] t = false := by
        cases h : rf [] t with
        | false => rfl
        | true => exact absurd (List.all_eq_true.2 fun k hk => (hiff.1 h).1 k (by simpa using hk)) g1
      rw [this]; rfl

/-! ### The fixed answer -/

def awk : List Ln := [(0, [97], 0), (1, [98], 0), (1, [99], 1), (0, [100], 0)]

end Go.Proofs.Ytmohgkoomnihfaa.Vc
