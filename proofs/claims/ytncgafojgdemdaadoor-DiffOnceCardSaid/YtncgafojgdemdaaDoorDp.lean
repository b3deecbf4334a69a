/-
  WHAT THE FUNCTIONS OF PACKAGE diff ANSWER: the difference of two trees, and what changes make. No condition.
-/
import Derived.Test.YtncgafojgdemdaaDoorEg
import Derived.Test.YtncgafojgdemdaaDoorDt
set_option linter.unusedVariables false
set_option linter.unusedSimpArgs false
namespace Go.Proofs.YtncgafojgdemdaaDoor.Vc

theorem pthsR (t : List Ln) : (List.range t.length).map (fun i => pth t i) = pths [] t := by
  apply List.ext_getElem (by simp)
  intro i h1 h2
  simp only [List.getElem_map, List.getElem_range]
  rw [pths_pth]
theorem foldR {α A : Type} (d : α) (l : List α) (f : A → α → A) (a : A) : (List.range l.length).foldl (fun a k => f a (l.getD k d)) a = l.foldl f a := by
  conv => rhs; rw [show l = (List.range l.length).map (fun k => l.getD k d) by
    apply List.ext_getElem (by simp)
    intro i h1 h2
    simp [h1]]
  rw [List.foldl_map]

/-! ### What is gone -/

/-- All lines above a line are there. -/
def upB (a b : List Ln) (k : Nat) : Prop := ∀ u, u <+: pth a k → u ≠ [] → u ≠ pth a k → gt b u ≠ none
theorem up_zero {a b : List Ln} (h : rf [] a = true) (hk : 0 < a.length) : upB a b 0 := fun u hu h0 hne => by
  obtain ⟨s, hs⟩ := hu
  obtain ⟨j, hj, e⟩ := pth_pre h s.length rfl hk hs.symm h0
  have : j = 0 := by omega
  subst this
  exact absurd e.symm hne
theorem up_succ {a b : List Ln} (h : rf [] a = true) (hb : rf [] b = true) {k : Nat} (hk : k + 1 < a.length) (hg : gt b (pth a k) ≠ none) : upB a b (k + 1) := fun u hu h0 hne => by
  obtain ⟨s, hs⟩ := hu
  obtain ⟨j, hj, e⟩ := pth_pre h s.length rfl hk hs.symm h0
  have hjk : j ≤ k := by
    rcases Nat.lt_or_ge j (k + 1) with h1 | h1
    · omega
    · have : j = k + 1 := by omega
      subst this; exact absurd e.symm hne
  have hpre : u <+: pth a k := lx_btw (s := s) (by
    rcases Nat.lt_or_eq_of_le hjk with h1 | h1
    · exact .inr (by rw [← e]; exact pth_lt h h1 (by omega))
    · exact .inl (by rw [← e, h1])) (.inr (by rw [hs]; exact pth_lt h (by omega) hk))
  obtain ⟨s', hs'⟩ := hpre
  exact gt_pre hb h0 (s := s') (by rw [hs']; exact hg)
theorem up_end {a b : List Ln} (h : rf [] a = true) {k : Nat} (hk : endN a k < a.length) (hup : upB a b k) : upB a b (endN a k) := fun u hu h0 hne => by
  have hgt := endN_gt a k
  have hu' := hu
  obtain ⟨s, hs⟩ := hu
  obtain ⟨j, hj, e⟩ := pth_pre h s.length rfl hk hs.symm h0
  have hje : j < endN a k := by
    rcases Nat.lt_or_ge j (endN a k) with h1 | h1
    · exact h1
    · have : j = endN a k := by omega
      subst this; exact absurd e.symm hne
  rcases Nat.lt_or_ge j k with h1 | h1
  · have hpre : u <+: pth a k := lx_btw (s := s) (.inr (by rw [← e]; exact pth_lt h h1 (by omega))) (.inr (by rw [hs]; exact pth_lt h hgt hk))
    exact hup u hpre h0 fun e2 => by
      have := pth_uniq h (show j < a.length by omega) (show k < a.length by omega) (e.trans e2)
      omega
  · exfalso
    have h2 := (part_pre h (show k < a.length by omega) (show j < a.length by omega)).2 ⟨h1, hje⟩
    rw [e] at h2
    have h3 := (part_pre h (show k < a.length by omega) hk).1 (h2.trans hu')
    omega

/-- What is gone, of so many lines. -/
def goneN (a b : List Ln) (k : Nat) : List Ch := ((List.range k).filter fun j => goneB b (pth a j)).map fun j => chG (pth a j)
theorem goneN_all (a b : List Ln) : goneN a b a.length = (goneL a b).map chG := by
  unfold goneN goneL
  rw [← pthsR, List.filter_map, List.map_map]
  rfl
theorem goneN_len (a b : List Ln) (k : Nat) : (goneN a b k).length ≤ k := by
  unfold goneN
  have := List.length_filter_le (fun j => goneB b (pth a j)) (List.range k)
  simp at this ⊢
  exact this
theorem goneN_succ (a b : List Ln) (k : Nat) : goneN a b (k + 1) = if goneB b (pth a k) = true then goneN a b k ++ [chG (pth a k)] else goneN a b k := by
  unfold goneN
  rw [List.range_succ, List.filter_append, List.map_append]
  by_cases h : goneB b (pth a k) = true
  · simp [h]
  · simp [h]
theorem goneN_part {a b : List Ln} (h : rf [] a = true) (hb : rf [] b = true) {k : Nat} (hk : k < a.length) (hg : gt b (pth a k) = none) : ∀ n, k + 1 + n ≤ endN a k → goneN a b (k + 1 + n) = goneN a b (k + 1)
  | 0, _ => rfl
  | n + 1, hn => by
    have hle := endN_le a hk
    rw [← Nat.add_assoc, goneN_succ, goneN_part h hb hk hg n (by omega), if_neg]
    intro hc
    obtain ⟨h1, h2⟩ := goneB_iff.1 hc
    have hp := (part_pre h hk (show k + 1 + n < a.length by omega)).2 ⟨by omega, by omega⟩
    obtain ⟨s, hs⟩ := hp
    have hne : s ≠ [] := fun e => by
      rw [e, List.append_nil] at hs
      have := pth_uniq h hk (show k + 1 + n < a.length by omega) hs
      omega
    rw [← hs, List.dropLast_append_of_ne_nil hne] at h2
    rcases h2 with h2 | h2
    · exact pth_ne_nil hk (List.append_eq_nil_iff.1 h2).1
    · exact gt_pre hb (pth_ne_nil hk) h2 hg

theorem find2 (N : Nat) (t : List Ln) (p : List Bs) (hr : rightS t = true) (hN : t.length < N) : (F26 N t p = some (0, false) ∧ gt t p = none) ∨ ∃ i, i < t.length ∧ pth t i = p ∧ fnd t p = some i ∧ F26 N t p = some ((i : Int), true) ∧ gt t p = some (t.getD i (0, [], 0)).2.2 := by
  have hF := F_find N t p hN
  rw [fndS_eq, if_pos hr] at hF
  cases hf : fnd t p with
  | none =>
    rw [hf] at hF
    exact .inl ⟨hF, fnd_none0.1 hf⟩
  | some i =>
    obtain ⟨hi, hp⟩ := fnd_of hf
    rw [hf] at hF
    exact .inr ⟨i, hi, hp, rfl, hF, fnd_gt (right_rf hr) hf⟩

theorem D_gone (N : Nat) (a b : List Ln) (ha : rightS a = true) (hb : rightS b = true) (hN : 1000 < N) : F24o N a b = some ((goneL a b).map chG) := by
  have hra := right_rf ha
  have hrb := right_rf hb
  have hla := right_len ha
  have hlb := right_len hb
  unfold F24o V24o
  simp only [ev_f1, ev_leaf]
  obtain ⟨o, ho, hp⟩ := runLoop_post (R := List Ch) (step := fun x => L24o_3 N x.1 x.2.1 x.2.2.1 x.2.2.2)
    (fun x => ∃ k : Nat, k ≤ a.length ∧ x = (a, b, goneN a b k, (k : Int)) ∧ (k < a.length → upB a b k)) (fun x => (a.length - x.2.2.2).toNat)
    (fun o => ∃ i, o = .brk 0 (a, b, goneN a b a.length, i))
    (by
      rintro ⟨a', b', out, i⟩ ⟨k, hk, e, hup⟩
      injection e with e1 e; injection e with e2 e; injection e with e3 e4
      subst e1; subst e2; subst e3; subst e4
      dsimp only
      unfold L24o_3 U24o_3
      by_cases h : k < a'.length
      · have hk' : (k : Int) < a'.length := by omega
        have hP := F_path N a' (k : Int) (by omega)
        rw [if_pos (thereS_iff.2 ⟨by omega, hk', ha⟩), Int.toNat_natCast] at hP
        have hgl := goneN_len a' b' k
        have r1 : ∀ z : Ch, room ((goneN a' b' k).length + ([z] : List Ch).length) := fun z => by show _ ≤ _; simp; omega
        have hE := F_end N a' (k : Int) (by omega)
        rw [if_pos (thereS_iff.2 ⟨by omega, hk', ha⟩), Int.toNat_natCast] at hE
        have hel := endN_le a' h
        have heg := endN_gt a' k
        rcases find2 N b' (pth a' k) hb (by omega) with ⟨f1, g1⟩ | ⟨j, _, _, _, f1, g1⟩
        · have hgb : goneB b' (pth a' k) = true := goneB_iff.2 ⟨g1, by
            by_cases h0 : (pth a' k).dropLast = []
            · exact .inl h0
            · right
              refine hup h _ (List.dropLast_prefix _) h0 fun e => ?_
              have h9 := congrArg List.length e
              have := List.length_pos_iff.2 (pth_ne_nil h)
              rw [List.length_dropLast] at h9
              omega⟩
          simp (disch := first | assumption | omega) only [ev_br, ev_leaf, ev_c1, ev_c2, ev_c3, ev_c4, ev_cr, ev_cr2, ev_f0, ev_f1, ev_f2, obind_some, decide_eq_true_eq, Bool.not_eq_true', Bool.true_eq_false, Bool.false_eq_true, if_true, if_false, reduceCtorEq, hk', hP, f1, ev_ck (r1 _), hE, wrapI, Bool.not_false]
          refine ⟨_, rfl, .inl ⟨_, rfl, ⟨endN a' k, hel, ?_, fun h9 => up_end hra h9 (hup h)⟩, by simp only; omega⟩⟩
          have hpart := goneN_part hra hrb h g1 (endN a' k - (k + 1)) (by omega)
          rw [show k + 1 + (endN a' k - (k + 1)) = endN a' k by omega] at hpart
          rw [hpart, goneN_succ, if_pos hgb, show ((endN a' k : Int) - 1 + 1) = (endN a' k : Int) by omega]
          rfl
        · have hgb : ¬ goneB b' (pth a' k) = true := fun h9 => by
            have := (goneB_iff.1 h9).1
            rw [g1] at this; cases this
          simp (disch := first | assumption | omega) only [ev_br, ev_leaf, ev_c1, ev_c2, ev_c3, ev_c4, ev_cr, ev_cr2, ev_f0, ev_f1, ev_f2, obind_some, decide_eq_true_eq, Bool.not_eq_true', Bool.true_eq_false, Bool.false_eq_true, if_true, if_false, reduceCtorEq, hk', hP, f1, wrapI, Bool.not_true]
          refine ⟨_, rfl, .inl ⟨_, rfl, ⟨k + 1, by omega, ?_, fun h9 => up_succ hra hrb h9 (by rw [g1]; simp)⟩, by simp only; omega⟩⟩
          rw [goneN_succ, if_neg hgb]; rfl
      · have hk' : ¬ (k : Int) < a'.length := by omega
        have : k = a'.length := by omega
        subst this
        exact ⟨.brk 0 (a', b', goneN a' b' a'.length, (a'.length : Int)), by simp, .inr ⟨by simp, _, rfl⟩⟩) N (a, b, [], 0)
    ⟨0, Nat.zero_le _, rfl, fun h => up_zero hra h⟩ (by simp; omega)
  unfold W24o_3
  obtain ⟨i, rfl⟩ := hp
  rw [ho, lp1_brk, goneN_all]

/-! ### The difference -/

def ofD (a : List Ln) (acc : List Ch × List Ch) (e : List Bs × Int) : List Ch × List Ch :=
  if addsB a e = true then (acc.1 ++ [chA e], acc.2) else if mrkB a e = true then (acc.1, acc.2 ++ [chM e]) else acc
theorem ofD_all (a : List Ln) : ∀ (l : List (List Bs × Int)) (acc : List Ch × List Ch), l.foldl (ofD a) acc = (acc.1 ++ (l.filter (addsB a)).map chA, acc.2 ++ (l.filter (mrkB a)).map chM)
  | [], acc => by simp
  | e :: l, acc => by
    rw [List.foldl_cons, ofD_all a l]
    unfold ofD
    by_cases h : addsB a e = true
    · have h2 : mrkB a e = false := by unfold addsB at h; unfold mrkB; simp at h; simp [h]
      simp [h, h2]
    · by_cases h2 : mrkB a e = true
      · simp [h, h2]
      · simp [h, h2]
theorem ofD_len (a : List Ln) (acc : List Ch × List Ch) (e : List Bs × Int) : (ofD a acc e).1.length ≤ acc.1.length + 1 ∧ (ofD a acc e).2.length ≤ acc.2.length + 1 := by
  unfold ofD
  split
  · simp
  · split
    · simp
    · simp
theorem ents_getD (b : List Ln) {k : Nat} (hk : k < b.length) : (ents b).getD k ([], 0) = (pth b k, (b.getD k (0, [], 0)).2.2) := by
  have hl : k < (ents b).length := by unfold ents; simpa using hk
  rw [show (ents b).getD k ([], 0) = (ents b)[k] by rw [List.getD_eq_getElem?_getD, List.getElem?_eq_getElem hl]; rfl, ents_get b hk, getD_of_lt b hk]
theorem ents_len (b : List Ln) : (ents b).length = b.length := by unfold ents; simp

theorem D_of (N : Nat) (a b : List Ln) (ha : a.length < N) (hb : b.length < N) (hN : 1000 < N) : F11o N a b = some (if rightS a = true ∧ rightS b = true then (diffL a b, 0) else ([], 1)) := by
  unfold F11o V11o
  simp only [ev_br, ev_leaf, ev_c1, ev_c2, ev_c3, ev_c4, ev_cr, ev_cr2, ev_f0, ev_f1, ev_f2, obind_some, decide_eq_true_eq, Bool.not_eq_true', Bool.true_eq_false, Bool.false_eq_true, if_true, if_false, reduceCtorEq, F_right N a ha, F_right N b hb]
  by_cases h1 : rightS a = true
  · by_cases h2 : rightS b = true
    · have hla := right_len h1
      have hlb := right_len h2
      obtain ⟨G, hG⟩ : ∃ G, (goneL a b).map chG = G := ⟨_, rfl⟩
      have hGl : G.length ≤ 200 := by rw [← hG, ← goneN_all]; have := goneN_len a b a.length; omega
      have this := loop_fold0 (R := List Ch × Int) (step := fun x => L11o_6 N x.1 x.2.1 x.2.2.1 x.2.2.2.1 x.2.2.2.2.1 x.2.2.2.2.2.1 x.2.2.2.2.2.2) b.length
        (fun (acc : List Ch × List Ch) k => ofD a acc ((ents b).getD k ([], 0))) (fun acc k => (a, b, acc.1, acc.2, b, (b.length : Int), k)) (fun acc k => acc.1.length ≤ 200 + k ∧ acc.2.length ≤ k)
        (fun acc k h _ => by have := ofD_len a acc ((ents b).getD k ([], 0)); omega) (fun acc k hI hk => by
          unfold L11o_6 U11o_6
          by_cases h : k < b.length
          · have hk' : (k : Int) < b.length := by omega
            have c1 : inR (k : Int) b.length := ⟨by omega, hk'⟩
            have hat : atI tLn b (k : Int) = b.getD k (0, [], 0) := rfl
            have hP := F_path N b (k : Int) (by omega)
            rw [if_pos (thereS_iff.2 ⟨by omega, hk', h2⟩), Int.toNat_natCast] at hP
            rw [ents_getD b h]
            obtain ⟨m, hm⟩ : ∃ m, (b.getD k (0, [], 0)).2.2 = m := ⟨_, rfl⟩
            have r1 : ∀ z : Ch, room (acc.1.length + ([z] : List Ch).length) := fun z => by show _ ≤ _; simp; omega
            have r2 : ∀ z : Ch, room (acc.2.length + ([z] : List Ch).length) := fun z => by show _ ≤ _; simp; omega
            unfold ofD addsB mrkB
            rcases find2 N a (pth b k) h1 (by omega) with ⟨f1, g1⟩ | ⟨j, hj, _, _, f1, g1⟩
            · simp (disch := first | assumption | omega) only [ev_br, ev_leaf, ev_c1, ev_c2, ev_c3, ev_c4, ev_cr, ev_cr2, ev_f0, ev_f1, ev_f2, obind_some, decide_eq_true_eq, Bool.not_eq_true', Bool.true_eq_false, Bool.false_eq_true, if_true, if_false, reduceCtorEq, hk', h, ev_ck c1, hat, hm, hP, f1, g1, ev_ck (r1 _), wrapI, Bool.not_false, Option.isNone_none]
              rfl
            · have c2 : inR (j : Int) a.length := ⟨by omega, by omega⟩
              have hat2 : atI tLn a (j : Int) = a.getD j (0, [], 0) := rfl
              obtain ⟨m2, hm2⟩ : ∃ m2, (a.getD j (0, [], 0)).2.2 = m2 := ⟨_, rfl⟩
              rw [hm2] at g1
              by_cases he : m2 = m
              · subst he
                simp (disch := first | assumption | omega) only [ev_br, ev_leaf, ev_c1, ev_c2, ev_c3, ev_c4, ev_cr, ev_cr2, ev_f0, ev_f1, ev_f2, obind_some, decide_eq_true_eq, Bool.not_eq_true', Bool.true_eq_false, Bool.false_eq_true, if_true, if_false, reduceCtorEq, hk', h, ev_ck c1, hat, hm, hP, f1, g1, ev_ck c2, hat2, hm2, wrapI, Bool.not_true, Option.isNone_some, bne_self_eq_false, Option.isSome_some, Bool.true_and, ne_eq, not_true_eq_false, decide_false]
              · have hb1 : (m2 != m) = true := by simpa using he
                have hb2 : decide ((some m2 : Option Int) ≠ some m) = true := by simpa using he
                simp (disch := first | assumption | omega) only [ev_br, ev_leaf, ev_c1, ev_c2, ev_c3, ev_c4, ev_cr, ev_cr2, ev_f0, ev_f1, ev_f2, obind_some, decide_eq_true_eq, Bool.not_eq_true', Bool.true_eq_false, Bool.false_eq_true, if_true, if_false, reduceCtorEq, hk', h, ev_ck c1, hat, hm, hP, f1, g1, ev_ck c2, hat2, hm2, ev_ck (r2 _), wrapI, Bool.not_true, Option.isNone_some, hb1, hb2, Option.isSome_some, Bool.true_and]
                rfl
          · have hk' : ¬ (k : Int) < b.length := by omega
            simp [hk', h]) (G, []) (by simp; omega) N (by omega)
      have e : (List.range b.length).foldl (fun (acc : List Ch × List Ch) k => ofD a acc ((ents b).getD k ([], 0))) (G, []) = (G ++ (addsL a b).map chA, (mrkL a b).map chM) := by
        have := foldR (([], 0) : List Bs × Int) (ents b) (ofD a) (G, [])
        rw [ents_len] at this
        rw [this, ofD_all]
        rfl
      rw [e] at this
      have e2 : W11o_6 N (a, b, G, ([] : List Ch), b, (b.length : Int), 0) = some (.brk 0 (a, b, G ++ (addsL a b).map chA, (mrkL a b).map chM, b, (b.length : Int), (b.length : Int))) := this
      have hAl := adds_len a b
      have hMl : (mrkL a b).length ≤ b.length := by
        have h9 := List.length_filter_le (mrkB a) (ents b)
        rw [ents_len] at h9
        unfold mrkL; exact h9
      have r3 : room ((G ++ (addsL a b).map chA).length + ((mrkL a b).map chM).length) := by show _ ≤ _; simp; omega
      simp only [ev_br, ev_leaf, ev_c1, ev_c2, ev_c3, ev_c4, ev_cr, ev_cr2, ev_f0, ev_f1, ev_f2, obind_some, decide_eq_true_eq, Bool.not_eq_true', Bool.true_eq_false, Bool.false_eq_true, if_true, if_false, reduceCtorEq, h1, h2, Bool.not_true, D_gone N a b h1 h2 hN, hG, e2, lp1_brk, ev_ck r3, and_self]
      unfold diffL
      rw [hG]
    · simp [h1, h2]
  · simp [h1]

/-! ### Changes, done -/

theorem len_ne {p : List Bs} (h : p ≠ []) : ((p.length : Int) == 0) = false := by
  rw [beq_eq_false_iff_ne]
  have := List.length_pos_iff.2 h
  omega

theorem slc_dl (p : List Bs) : slc p 0 ((p.length : Int) - 1) = p.dropLast := by
  rw [slc0, List.dropLast_eq_take]
  congr 1
  omega

theorem D_add (N : Nat) {t : List Ln} {p : List Bs} {m : Int} (hr : rightS t = true) (hu : rightS (insT t p m) = true) (hg : gt t p = none) (h0 : p ≠ []) (h16 : p.length ≤ 16) (h40 : ∀ w ∈ p, w.length ≤ 40) (hp : p.dropLast = [] ∨ gt t p.dropLast ≠ none) (hN : 1000 < N) :
    F52 N t (2, p, m) = some (insT t p m, 0) := by
  have hrf := right_rf hr
  have hlen := right_len hr
  have hj : p.dropLast ++ [p.getLastD []] = p := by rw [getLastD_ne h0, List.dropLast_concat_getLast h0]
  have hone : addL t p = insT t p 0 := by
    have := addL_one hrf (u := p.dropLast) (w := p.getLastD []) (by rw [hj]; exact hg) hp
    rwa [hj] at this
  have hl1 := right_len hu
  rw [insT_length] at hl1
  have he : addE t p = 0 := by
    unfold addE
    rw [if_pos hr, if_neg h0, if_neg (by rw [longW_iff.2 h40]; simp), if_neg (by omega), if_neg (by rw [hone, insT_length]; omega)]
  have hA := E_add N t p hN (by omega) (by omega) (by omega)
  unfold addS at hA
  rw [if_pos he, he, hone] at hA
  have hpl := List.length_pos_iff.2 h0
  have k1 : (0 : Int) ≤ 0 ∧ (0 : Int) ≤ ((p.length : Int) - 1) ∧ ((p.length : Int) - 1) ≤ (p.length : Int) := by omega
  have hF : F26 N t p = some (0, false) := by
    rcases find2 N t p hr (by omega) with ⟨f, _⟩ | ⟨_, _, _, _, _, g⟩
    · exact f
    · rw [hg] at g; cases g
  have hlast : (p.getLastD []).length ≤ 40 := by rw [getLastD_ne h0]; exact h40 _ (List.getLast_mem h0)
  obtain ⟨c1, c2⟩ := insT_tree hrf (m := 0) hg h0 h16 hlast (by omega) (by omega) hp
  have hir : rightS (insT t p 0) = true := right_of c1 (by rw [insT_length]; omega)
  have hpl2 := plc_le t p
  have hip := insT_pth hrf (m := 0) hg h0 h16 hlast (by omega) (by omega) hp
  have hil : plc t p < (insT t p 0).length := by rw [insT_length]; omega
  have hF2 : F26 N (insT t p 0) p = some ((plc t p : Int), true) := by
    have h1 := F_find N (insT t p 0) p (by rw [insT_length]; omega)
    rw [fndS_eq, if_pos hir] at h1
    have h2 := fnd_at c1 hil
    rw [hip] at h2
    rw [h2] at h1
    exact h1
  have c3 : inR (plc t p : Int) (insT t p 0).length := ⟨by omega, by omega⟩
  have hat : atI tLn (insT t p 0) (plc t p : Int) = ((p.length : Int) - 1, p.getLastD [], 0) := by
    rw [atI_nat, Int.toNat_natCast, insT_getD]
  unfold F52 V52
  have z1 : ((0 : Int) == 1) = false := rfl
  have z2 : ((0 : Int) == 6) = false := rfl
  have z3 : ((0 : Int) != 0) = false := rfl
  rcases hp with hp | hp
  · have hFu : F26 N t ([] : List Bs) = some (0, false) := by
      rcases find2 N t [] hr (by omega) with ⟨f, _⟩ | ⟨_, _, _, _, _, g⟩
      · exact f
      · rw [gt_nil] at g; cases g
    have z4 : ¬ (0 : Int) < (([] : List Bs).length : Int) := by simp
    simp (disch := first | assumption | omega) only [ev_br, ev_leaf, ev_c1, ev_c2, ev_c3, ev_c4, ev_cr, ev_cr2, ev_f0, ev_f1, ev_f2, obind_some, decide_eq_true_eq, Bool.not_eq_true', Bool.true_eq_false, Bool.false_eq_true, if_true, if_false, reduceCtorEq, hA, decide_true, z1, z2, z3, wrapI, ev_ck k1, slc_dl, hp, hFu, hF, hF2, Bool.not_false, z4, decide_false, ev_ck c3, hat, Int.toNat_natCast, insT_set]
  · obtain ⟨i, hi, _⟩ := fnd_of_gt hrf hp
    have hFu : F26 N t p.dropLast = some ((i : Int), true) := by
      rcases find2 N t p.dropLast hr (by omega) with ⟨_, g⟩ | ⟨j, _, _, f, g, _⟩
      · exact absurd g hp
      · rw [f] at hi; injection hi with hi; rw [← hi]; exact g
    simp (disch := first | assumption | omega) only [ev_br, ev_leaf, ev_c1, ev_c2, ev_c3, ev_c4, ev_cr, ev_cr2, ev_f0, ev_f1, ev_f2, obind_some, decide_eq_true_eq, Bool.not_eq_true', Bool.true_eq_false, Bool.false_eq_true, if_true, if_false, reduceCtorEq, hA, decide_true, z1, z2, z3, wrapI, ev_ck k1, slc_dl, hFu, hF, hF2, Bool.not_true, Bool.not_false, decide_false, ev_ck c3, hat, Int.toNat_natCast, insT_set]

theorem D_one (N : Nat) {t u : List Ln} {c : Ch} (h : One t c u) (hN : 1000 < N) : F37 N t c = some (u, 0) := by
  obtain ⟨hr, hu, h⟩ := h
  have hrf := right_rf hr
  have hlen := right_len hr
  obtain ⟨kd, p, m⟩ := c
  unfold F37 V37
  rcases h with ⟨e1, e2, i, hf, e3⟩ | ⟨e1, hg, h0, h16, h40, hp, m0, m3, e3⟩ | ⟨e1, m0, m3, i, hf, e3⟩
  · simp only at e1 e2 hf
    subst e1; subst e2; subst e3
    obtain ⟨hi, hpi⟩ := fnd_of hf
    have h0 : p ≠ [] := by rw [← hpi]; exact pth_ne_nil hi
    have hF : F26 N t p = some ((i : Int), true) := by
      rcases find2 N t p hr (by omega) with ⟨_, g⟩ | ⟨j, _, _, f, g, _⟩
      · rw [fnd_none0.2 g] at hf; cases hf
      · rw [f] at hf; injection hf with hf; rw [← hf]; exact g
    have hC := F_clone N t (by omega)
    have hE := F_end N t (i : Int) (by omega)
    rw [if_pos (thereS_iff.2 ⟨by omega, by omega, hr⟩), Int.toNat_natCast] at hE
    have hD := cut_run N t hi
    have z1 : ¬ (1 : Int) < 1 := by omega
    have z2 : ¬ (3 : Int) < 1 := by omega
    have z3 : ¬ (0 : Int) < 0 := by omega
    have z4 : ¬ (3 : Int) < 0 := by omega
    have z5 : ((1 : Int) == 2) = false := rfl
    have z6 : ((1 : Int) == 1) = true := rfl
    simp only [ev_br, ev_leaf, ev_c1, ev_c2, ev_c3, ev_c4, ev_cr, ev_cr2, ev_f0, ev_f1, ev_f2, obind_some, decide_eq_true_eq, Bool.not_eq_true', Bool.true_eq_false, Bool.false_eq_true, if_true, if_false, reduceCtorEq, z1, z2, z3, z4, z5, z6, decide_false, len_ne h0, hF, Bool.not_true, hC, hE, hD]
  · simp only at e1 hg h0 h16 h40 hp m0 m3
    subst e1; subst e3
    have hA := D_add N hr hu hg h0 h16 h40 hp hN
    have z1 : ¬ (2 : Int) < 1 := by omega
    have z2 : ¬ (3 : Int) < 2 := by omega
    have z3 : ¬ m < 0 := by omega
    have z4 : ¬ (3 : Int) < m := by omega
    have z5 : ((2 : Int) == 2) = true := rfl
    simp only [ev_br, ev_leaf, ev_c1, ev_c2, ev_c3, ev_c4, ev_cr, ev_cr2, ev_f0, ev_f1, ev_f2, obind_some, decide_eq_true_eq, Bool.not_eq_true', Bool.true_eq_false, Bool.false_eq_true, if_true, if_false, reduceCtorEq, z1, z2, z3, z4, z5, decide_false, len_ne h0, hA]
  · simp only at e1 hf m0 m3
    subst e1; subst e3
    obtain ⟨hi, hpi⟩ := fnd_of hf
    have h0 : p ≠ [] := by rw [← hpi]; exact pth_ne_nil hi
    have hF : F26 N t p = some ((i : Int), true) := by
      rcases find2 N t p hr (by omega) with ⟨_, g⟩ | ⟨j, _, _, f, g, _⟩
      · rw [fnd_none0.2 g] at hf; cases hf
      · rw [f] at hf; injection hf with hf; rw [← hf]; exact g
    have hC := F_clone N t (by omega)
    have c1 : inR (i : Int) t.length := ⟨by omega, by omega⟩
    have hat : atI tLn t (i : Int) = t.getD i (0, [], 0) := rfl
    have z1 : ¬ (3 : Int) < 1 := by omega
    have z2 : ¬ (3 : Int) < 3 := by omega
    have z3 : ¬ m < 0 := by omega
    have z4 : ¬ (3 : Int) < m := by omega
    have z5 : ((3 : Int) == 2) = false := rfl
    have z6 : ((3 : Int) == 1) = false := rfl
    simp only [ev_br, ev_leaf, ev_c1, ev_c2, ev_c3, ev_c4, ev_cr, ev_cr2, ev_f0, ev_f1, ev_f2, obind_some, decide_eq_true_eq, Bool.not_eq_true', Bool.true_eq_false, Bool.false_eq_true, if_true, if_false, reduceCtorEq, z1, z2, z3, z4, z5, z6, decide_false, len_ne h0, hF, Bool.not_true, hC, ev_ck c1, hat, Int.toNat_natCast]

theorem D_loop (N : Nat) (t0 : List Ln) (l : List Ch) (hl : l.length ≤ 1000000) (hN : 1000 < N) : ∀ (n k : Nat) (t u : List Ln) (M : Nat), k + n = l.length → n < M → Goes t (l.drop k) u →
    runLoop (fun x : List Ln × List Ch × List Ln × List Ch × Int × Int => L18_5 N x.1 x.2.1 x.2.2.1 x.2.2.2.1 x.2.2.2.2.1 x.2.2.2.2.2) M (t0, l, t, l, (l.length : Int), (k : Int)) = some (.brk 0 (t0, l, u, l, (l.length : Int), (l.length : Int)))
  | 0, k, t, u, M, hk, hM, hG => by
    obtain ⟨M, rfl⟩ : ∃ m, M = m + 1 := ⟨M - 1, by omega⟩
    have : k = l.length := by omega
    subst this
    rw [List.drop_length] at hG
    have : t = u := hG
    subst this
    unfold runLoop L18_5 U18_5
    simp
  | n + 1, k, t, u, M, hk, hM, hG => by
    obtain ⟨M, rfl⟩ : ∃ m, M = m + 1 := ⟨M - 1, by omega⟩
    have hkl : k < l.length := by omega
    rw [List.drop_eq_getElem_cons hkl] at hG
    obtain ⟨v, h1, h2⟩ := hG
    have ih := D_loop N t0 l hl hN n (k + 1) v u M (by omega) (by omega) h2
    have c1 : inR (k : Int) l.length := ⟨by omega, by omega⟩
    have hat : atI (.pair tI (.pair (.list tS) tI)) l (k : Int) = l[k] := by show l.getD k _ = _; simp [hkl]
    have hk' : (k : Int) < l.length := by omega
    have hstep : L18_5 N t0 l t l (l.length : Int) (k : Int) = some (.next (t0, l, v, l, (l.length : Int), ((k + 1 : Nat) : Int))) := by
      unfold L18_5 U18_5
      simp (disch := first | assumption | omega) only [ev_br, ev_leaf, ev_c1, ev_c2, ev_c3, ev_c4, ev_cr, ev_cr2, ev_f0, ev_f1, ev_f2, obind_some, decide_eq_true_eq, Bool.not_eq_true', Bool.true_eq_false, Bool.false_eq_true, if_true, if_false, reduceCtorEq, hk', ev_ck c1, hat, D_one N h1 hN, bne_self_eq_false, wrapI]
      rfl
    unfold runLoop
    dsimp only
    rw [hstep]
    exact ih

theorem D_apply (N : Nat) {t u : List Ln} {l : List Ch} (hr : rightS t = true) (h : Goes t l u) (hl : l.length < N) (hl2 : l.length ≤ 1000000) (hN : 1000 < N) : F18 N t l = some (u, (l.length : Int), 0) := by
  have hlen := right_len hr
  unfold F18 V18
  have hC := F_clone N t (by omega)
  have hL : W18_5 N (t, l, t, l, (l.length : Int), 0) = some (.brk 0 (t, l, u, l, (l.length : Int), (l.length : Int))) := D_loop N t l hl2 hN l.length 0 t u N (by omega) hl h
  simp only [ev_br, ev_leaf, ev_c1, ev_c2, ev_c3, ev_c4, ev_cr, ev_cr2, ev_f0, ev_f1, ev_f2, obind_some, decide_eq_true_eq, Bool.not_eq_true', Bool.true_eq_false, Bool.false_eq_true, if_true, if_false, reduceCtorEq, F_right N t (by omega), hr, Bool.not_true, hC, hL, lp1_brk]

end Go.Proofs.YtncgafojgdemdaaDoor.Vc
