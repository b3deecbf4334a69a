/-
  THE STATEMENTS ON TOKENS: what they share: equal lists, places, the fixed answer; the tokens and the places of any text. No condition.
-/
import Derived.Test.YtojcdimaeiibdaaLr
set_option linter.unusedVariables false
set_option linter.unusedSimpArgs false
namespace Go.Proofs.Ytojcdimaeiibdaa.Vc

theorem F_refs (N : Nat) (l : List Tok) (hN : l.length < N) (hL : l.length ≤ 1000000) : F14o N l = some l := by
  unfold F14o V14o
  simp only [ev_f1, ev_leaf]
  have := loop_fold0 (R := List Tok) (step := fun x => L14o_3 N x.1 x.2.1 x.2.2.1 x.2.2.2) l.length
    (fun (out : List Tok) k => out ++ [l.getD k (0, 0, [], 0)]) (fun out k => (out, l, (l.length : Int), k))
    (fun out k => out.length ≤ k) (fun out k hI hk => by simp; omega) (fun out k hI hk => by
      unfold L14o_3 U14o_3
      by_cases h : k < l.length
      · have hk' : (k : Int) < l.length := by omega
        have c1 : inR (k : Int) l.length := ⟨by omega, hk'⟩
        have rm : ∀ x : Tok, room (out.length + ([x] : List Tok).length) := fun x => by show _ ≤ _; simp; omega
        have w1 : IntKind.i64.wrap ((k : Int) + 1) = (k : Int) + 1 := wrapI (by omega) (by omega)
        simp only [ev_br, ev_leaf, ev_ck c1, ev_ck (rm _), decide_eq_true_eq, if_pos hk', if_pos h, w1]
        rfl
      · have hk' : ¬ (k : Int) < l.length := by omega
        simp [hk', h]) [] (by simp) N hN
  unfold W14o_3
  rw [this, lp1_brk, foldl_map]
  simp only [List.nil_append, Option.some.injEq]
  apply List.ext_getElem
  · simp
  · intro i h1 h2
    simp [h2]

theorem tok_beq (a b : Tok) : ((a.1 == b.1) && ((a.2.1 == b.2.1) && ((a.2.2.1 == b.2.2.1) && ((a.2.2.2 == b.2.2.2) && true)))) = (a == b) := by
  obtain ⟨a1, a2, a3, a4⟩ := a
  obtain ⟨b1, b2, b3, b4⟩ := b
  rw [Bool.eq_iff_iff]
  simp

theorem F_tsame (N : Nat) (a b : List Tok) (hN : a.length < N) (hm : a.length ≤ 1000000) : F13 N a b = some (decide (a = b)) := by
  unfold F13 V13
  simp only [ev_br, ev_leaf, ev_f1, bne_iff_ne, ne_eq]
  by_cases hl : (a.length : Int) = b.length
  · rw [if_neg (by simpa using hl)]
    have := loop_all (R := Bool) (step := fun x => L13_4 N x.1 x.2.1 x.2.2.1 x.2.2.2) a.length (fun i => a.getD i (0, 0, [], 0) == b.getD i (0, 0, [], 0)) (fun i => (a, b, (a.length : Int), i)) false (fun i h0 hi => by
      unfold L13_4 U13_4
      by_cases h : i < a.length
      · have h1 : inR i a.length := ⟨h0, h⟩
        have h2 : inR i b.length := ⟨h0, by omega⟩
        have w1 : IntKind.i64.wrap (i + 1) = i + 1 := wrapI (by omega) (by omega)
        simp only [ev_br, ev_leaf, ev_ck h1, ev_ck h2, decide_eq_true_eq, h, if_true, w1, tok_beq]
        exact ite_not_some (a.getD i.toNat (0, 0, [], 0) == b.getD i.toNat (0, 0, [], 0)) _ _
      · simp [h]) N hN
    unfold W13_4
    rw [this]
    by_cases he : a = b
    · rw [if_pos ((all_eq_iff (0, 0, [], 0) (by omega)).2 he)]; simp [he]
    · rw [if_neg (fun h => he ((all_eq_iff (0, 0, [], 0) (by omega)).1 h))]; simp [he]
  · rw [if_pos (by simpa using hl)]
    have : a ≠ b := fun h => hl (by rw [h])
    simp [this]

/-! ### Places -/

def rc (x : Int × Int) (b : UInt8) : Int × Int := if b = 10 then (x.1 + 1, 1) else (x.1, x.2 + 1)
/-- The line and the byte behind a text. -/
def placeS (t : Bs) : Int × Int := t.foldl rc (1, 1)

theorem rc_none : ∀ (t : Bs) (x : Int × Int), (∀ b ∈ t, b ≠ 10) → t.foldl rc x = (x.1, x.2 + t.length)
  | [], x, _ => by simp
  | b :: t, x, h => by
    rw [List.foldl_cons, rc_none t _ fun c hc => h c (List.mem_cons_of_mem _ hc)]
    have := h b List.mem_cons_self
    simp only [rc, if_neg this, List.length_cons]
    congr 1; omega
theorem rc_row : ∀ (t : Bs) (x : Int × Int), (t.foldl rc x).1 = x.1 + t.count 10
  | [], x => by simp
  | b :: t, x => by
    rw [List.foldl_cons, rc_row t]
    unfold rc
    by_cases h : b = 10
    · subst h; simp; omega
    · rw [if_neg h, List.count_cons_of_ne h]

theorem place_last (t : Bs) : (placeS t).2 = (t.length : Int) - Lib.lastIndexByte ⟨t.toArray⟩ 10 := by
  have hs : (⟨t.toArray⟩ : ByteArray).size = t.length := rfl
  have hg : ∀ j, j < t.length → ((((⟨t.toArray⟩ : ByteArray).data[j]!).toNat : Int) = 10 ↔ t.getD j 0 = 10) := fun j hj => by
    show ((t.toArray[j]!).toNat : Int) = 10 ↔ _
    rw [getElem!_pos t.toArray j (by simpa using hj), List.getD_eq_getElem?_getD, List.getElem?_eq_getElem hj]
    simp only [List.getElem_toArray, Option.getD_some]
    rw [u8_eq, show (10 : UInt8).toNat = 10 from rfl]
    omega
  unfold placeS
  rcases Lib.lastIndexByte_spec ⟨t.toArray⟩ 10 with ⟨h1, h2⟩ | ⟨i, h1, h2, h3, h4⟩
  · rw [h1, rc_none t (1, 1)]
    · simp only; omega
    · intro b hb
      obtain ⟨j, hj, rfl⟩ := List.getElem_of_mem hb
      have := mt (hg j hj).2 (h2 j (by rw [hs]; exact hj))
      simpa [hj] using this
  · rw [hs] at h1
    rw [h2]
    have he : t = t.take i ++ 10 :: t.drop (i + 1) := by
      have := (hg i h1).1 h3
      rw [List.getD_eq_getElem?_getD, List.getElem?_eq_getElem h1] at this
      have h5 : t[i] = 10 := by simpa using this
      rw [← h5, ← List.drop_eq_getElem_cons h1, List.take_append_drop]
    have hf : (t.foldl rc (1, 1)).2 = 1 + (t.drop (i + 1)).length := by
      conv => lhs; rw [he]
      rw [List.foldl_append, List.foldl_cons, rc_none]
      · simp [rc]
      · intro b hb
        obtain ⟨j, hj, rfl⟩ := List.getElem_of_mem hb
        rw [List.length_drop] at hj
        have := mt (hg (i + 1 + j) (by omega)).2 (h4 (i + 1 + j) (by omega) (by rw [hs]; omega))
        rw [List.getD_eq_getElem?_getD, List.getElem?_eq_getElem (by omega)] at this
        simpa using this
    rw [hf, List.length_drop]; omega

def clampN (n : Nat) (at_ : Int) : Nat := (min (max at_ 0) n).toNat
theorem F_place (N : Nat) (s : Bs) (at_ : Int) (hL : s.length ≤ 1000000) : F15 N s at_ = some (placeS (s.take (clampN s.length at_))) := by
  unfold F15 V15
  obtain ⟨k, hk⟩ : ∃ k : Nat, clampN s.length at_ = k := ⟨_, rfl⟩
  have hi : imin (imax at_ 0) (s.length : Int) = (k : Int) := by
    unfold imin imax; rw [← hk]; unfold clampN
    repeat' split
    all_goals omega
  have hkl : k ≤ s.length := by rw [← hk]; unfold clampN; omega
  rw [hk]
  have hs : slc s 0 (k : Int) = s.take k := by unfold slc; simp
  have c1 : (0 : Int) ≤ 0 ∧ (0 : Int) ≤ (k : Int) ∧ (k : Int) ≤ (s.length : Int) := ⟨by omega, by omega, by omega⟩
  simp only [hi, ev_ck c1, ev_c1, ev_leaf, hs]
  have hl : (s.take k).length = k := by rw [List.length_take]; omega
  have q1 : F25 N (s.take k) [10] = some ((Lib.countByte (s.take k) 10 : Nat) : Int) := rfl
  have q2 : F26 N (s.take k) 10 = some (Lib.lastIndexByte ⟨(s.take k).toArray⟩ 10) := by
    unfold F26; rw [if_pos (by omega)]
  rw [q1, obind_some, q2, obind_some]
  have h1 := rc_row (s.take k) (1, 1)
  have h2 := place_last (s.take k)
  have h3 : (s.take k).count 10 ≤ (s.take k).length := List.count_le_length
  have h4 : -1 ≤ Lib.lastIndexByte ⟨(s.take k).toArray⟩ 10 ∧ Lib.lastIndexByte ⟨(s.take k).toArray⟩ 10 < (s.take k).length + 1 := by
    rcases Lib.lastIndexByte_spec ⟨(s.take k).toArray⟩ 10 with ⟨h1, _⟩ | ⟨i, h1, h2, _⟩
    · rw [h1]; omega
    · rw [h2]
      have : (⟨(s.take k).toArray⟩ : ByteArray).size = (s.take k).length := rfl
      omega
  unfold Lib.countByte
  rw [wrapI (by omega) (by omega), wrapI (by omega) (by omega), ← h2]
  congr 1
  exact Prod.ext h1.symm rfl

theorem R_place (N : Nat) (s : Bs) (at_ : Int) (hN : s.length < N) (hL : s.length ≤ 1000000) : F16 N s at_ = some (placeS (s.take (clampN s.length at_))) := by
  unfold F16 V16
  simp only [ev_f1, ev_leaf]
  obtain ⟨k, hk⟩ : ∃ k : Nat, clampN s.length at_ = k := ⟨_, rfl⟩
  have hkl : k ≤ s.length := by rw [← hk]; unfold clampN; omega
  have hlt : ∀ i : Nat, i < k ↔ ((i : Int) < s.length ∧ (i : Int) < at_) := fun i => by rw [← hk]; unfold clampN; omega
  have := loop_fold0 (R := Int × Int) (step := fun x => L16_3 N x.1 x.2.1 x.2.2.1 x.2.2.2.1 x.2.2.2.2) k
    (fun (x : Int × Int) i => rc x (s.getD i 0)) (fun x i => (s, at_, x.1, x.2, i))
    (fun x i => 0 ≤ x.1 ∧ x.1 ≤ i + 1 ∧ 0 ≤ x.2 ∧ x.2 ≤ i + 1) (fun x i hI hk => by
      simp only [rc]
      split <;> simp only <;> omega) (fun x i hI hi => by
      unfold L16_3 U16_3
      by_cases h : i < k
      · obtain ⟨g1, g2⟩ := (hlt i).1 h
        have c1 : inR (i : Int) s.length := ⟨by omega, g1⟩
        have hb : byteAt s (i : Int) = ((s.getD i 0).toNat : Int) := rfl
        have w1 : IntKind.i64.wrap ((i : Int) + 1) = (i : Int) + 1 := wrapI (by omega) (by omega)
        have w2 : IntKind.i64.wrap (x.1 + 1) = x.1 + 1 := wrapI (by omega) (by omega)
        have w3 : IntKind.i64.wrap (x.2 + 1) = x.2 + 1 := wrapI (by omega) (by omega)
        simp only [ev_br, ev_leaf, ev_ck c1, decide_eq_true_eq, if_pos g1, if_pos g2, if_pos h, hb, is10, w1, w2, w3]
        unfold rc
        split <;> rfl
      · rw [if_neg h]
        simp only [ev_br, ev_leaf, decide_eq_true_eq]
        by_cases g1 : (i : Int) < s.length
        · rw [if_pos g1, if_neg (fun g2 => h ((hlt i).2 ⟨g1, g2⟩))]
        · rw [if_neg g1]) (1, 1) (by simp) N (by omega)
  unfold W16_3
  rw [this, lp1_brk]
  congr 1
  unfold placeS
  have e : ∀ m, m ≤ s.length → (List.range m).foldl (fun (x : Int × Int) i => rc x (s.getD i 0)) (1, 1) = (s.take m).foldl rc (1, 1) := by
    intro m
    induction m with
    | zero => intro _; simp
    | succ m ih =>
      intro hm
      rw [List.range_succ, List.foldl_append, ih (by omega), List.take_succ_eq_append_getElem (by omega), List.foldl_append]
      simp only [List.foldl_cons, List.foldl_nil]
      rw [List.getD_eq_getElem?_getD, List.getElem?_eq_getElem (by omega)]; rfl
  rw [hk, e k hkl]

/-! ### The fixed answer -/

theorem F_lawake (N : Nat) (hN : 100 < N) : F10 N = some true := by
  unfold F10 V10
  have e1 : allS ([112, 114, 111, 116, 101, 99, 116, 58, 32, 97, 32, 123, 32, 34, 98, 32, 99, 34, 59, 32, 125, 32, 35, 32, 120] : Bs) = ([(5, 0, [], 2), (1, 9, [97], 0), (2, 11, [], 0), (1, 13, [98, 32, 99], 0), (4, 18, [], 0), (3, 20, [], 0)], 0, 0) := by kernel_rfl
  have e2 : allS ([97, 32, 44] : Bs) = ([], 2, 2) := by kernel_rfl
  have e3 : placeS (([97, 10, 98, 99] : Bs).take (clampN ([97, 10, 98, 99] : Bs).length 3)) = (2, 2) := by kernel_rfl
  simp only [ev_c3, ev_c2, F_all N ([112, 114, 111, 116, 101, 99, 116, 58, 32, 97, 32, 123, 32, 34, 98, 32, 99, 34, 59, 32, 125, 32, 35, 32, 120] : Bs) (by simp; omega) (by simp), e1, obind_some, F_all N ([97, 32, 44] : Bs) (by simp; omega) (by simp), e2, F_place N ([97, 10, 98, 99] : Bs) 3 (by simp), e3]
  rfl

theorem all_len (s : Bs) : (allS s).1.length ≤ s.length := by
  unfold allS
  split
  · rename_i l h
    rw [List.length_map]; exact lex_len s l h
  · simp

theorem law_exact (N : Nat) (s : Bs) (hN : 700 < N) : F3 N s = some true := by
  unfold F3 V3
  simp only [ev_br, ev_leaf, ev_c1, ev_c3, F_lawake N (by omega), obind_some, decide_eq_true_eq]
  by_cases h : (600 : Int) < s.length
  · rw [if_pos h]
  · rw [if_neg h, F_all N s (by omega) (by omega), R_all N s (by omega) (by omega)]
    have hlen := all_len s
    simp only [obind_some]
    rw [F_refs N _ (by omega) (by omega), obind_some, F_tsame N _ _ (by omega) (by omega), obind_some]
    simp

theorem law_place (N : Nat) (s : Bs) (at_ : Int) (hN : 700 < N) : F4 N s at_ = some true := by
  unfold F4 V4
  simp only [ev_br, ev_leaf, ev_c1, ev_c2, F_lawake N (by omega), obind_some, decide_eq_true_eq]
  by_cases h : (600 : Int) < s.length
  · rw [if_pos h]
  · rw [if_neg h, F_place N s at_ (by omega), R_place N s at_ (by omega) (by omega)]
    simp

end Go.Proofs.Ytojcdimaeiibdaa.Vc
