/-
  WHAT THE DOCUMENT'S DIFFERENCE ANSWERS: the same. No condition.
-/
import Derived.Test.YtncgafojgdemdaaDoorEh
import Derived.Test.YtncgafojgdemdaaDoorDp
import Derived.Test.YtncgafojgdemdaaDoorDw
set_option linter.unusedVariables false
set_option linter.unusedSimpArgs false
namespace Go.Proofs.YtncgafojgdemdaaDoor.Vc

theorem refind (N : Nat) (t : List Ln) (p : List Bs) (hr : rightS t = true) (hp : p.length ≤ 1000000) (hN : 1000 < N) : (F28 N t p = some (-1) ∧ gt t p = none) ∨ ∃ i, i < t.length ∧ F28 N t p = some (i : Int) ∧ gt t p = some (t.getD i (0, [], 0)).2.2 := by
  have hrf := right_rf hr
  have h200 := right_len hr
  have hF := R_finds N t p hrf (by omega) (by omega) (by omega)
  cases hf : fnd t p with
  | none =>
    rw [hf] at hF
    exact .inl ⟨hF, fnd_none0.1 hf⟩
  | some i =>
    obtain ⟨hi, hp⟩ := fnd_of hf
    rw [hf] at hF
    exact .inr ⟨i, hi, hF, fnd_gt hrf hf⟩

theorem fold_chs (f : List Bs × Int → Bool) (g : List Bs × Int → Ch) (b : List Ln) (acc : List Ch) : (List.range b.length).foldl (fun (out : List Ch) k => if f ((ents b).getD k ([], 0)) = true then out ++ [g ((ents b).getD k ([], 0))] else out) acc = acc ++ ((ents b).filter f).map g := by
  have := foldR (([], 0) : List Bs × Int) (ents b) (fun (out : List Ch) e => if f e = true then out ++ [g e] else out) acc
  rw [ents_len] at this
  rw [this, foldl_fmap]

theorem pth16 {t : List Ln} (hr : rightS t = true) {k : Nat} (hk : k < t.length) : (pth t k).length ≤ 16 := by
  have := gt_sound (right_rf hr) (gt_at (right_rf hr) hk)
  omega

theorem R_of (N : Nat) (a b : List Ln) (ha : rightS a = true) (hb : rightS b = true) (hN : 1000 < N) : F14o N a b = some (diffL a b) := by
  have hla := right_len ha
  have hlb := right_len hb
  have f1 := loop_fold0 (R := List Ch) (step := fun x => L14o_3 N x.1 x.2.1 x.2.2.1 x.2.2.2) a.length
    (fun (out : List Ch) k => if goneB b (pth a k) = true then out ++ [chG (pth a k)] else out) (fun out k => (a, b, out, k)) (fun out k => out.length ≤ k)
    (fun out k h hk => by
      show (if _ then _ else _ : List Ch).length ≤ _
      split
      · simp; omega
      · omega) (fun out k hI hk => by
      unfold L14o_3 U14o_3
      by_cases h : k < a.length
      · have hk' : (k : Int) < a.length := by omega
        have hP := R_path N a (k : Int) ha (by omega) hk' (by omega)
        rw [Int.toNat_natCast] at hP
        have hp16 := pth16 ha h
        obtain ⟨p, hp⟩ : ∃ p, pth a k = p := ⟨_, rfl⟩
        have hp0 : p ≠ [] := by rw [← hp]; exact pth_ne_nil h
        rw [hp] at hP hp16 ⊢
        have hpl := List.length_pos_iff.2 hp0
        have k1 : (0 : Int) ≤ 0 ∧ (0 : Int) ≤ ((p.length : Int) - 1) ∧ ((p.length : Int) - 1) ≤ (p.length : Int) := by omega
        have r1 : ∀ z : Ch, room (out.length + ([z] : List Ch).length) := fun z => by show _ ≤ _; simp; omega
        have z1 : ((-1 : Int) < 0) := by omega
        have hgo := goneB_iff (b := b) (p := p)
        rcases refind N b p hb (by omega) hN with ⟨e1, g1⟩ | ⟨j, hj, e1, g1⟩
        · by_cases h0 : p.dropLast = []
          · have hg : goneB b p = true := hgo.2 ⟨g1, .inl h0⟩
            have z2 : (((p.dropLast.length : Nat) : Int) == 0) = true := by rw [h0]; rfl
            simp (disch := first | assumption | omega) only [ev_br, ev_leaf, ev_c1, ev_c2, ev_c3, ev_c4, ev_cr, ev_cr2, ev_f0, ev_f1, ev_f2, obind_some, decide_eq_true_eq, Bool.not_eq_true', Bool.true_eq_false, Bool.false_eq_true, if_true, if_false, reduceCtorEq, hk', h, hP, wrapI, ev_ck k1, e1, z1, slc_dl, z2, ev_ck (r1 _), hg]
            rfl
          · have z2 : (((p.dropLast.length : Nat) : Int) == 0) = false := len_ne h0
            rcases refind N b p.dropLast hb (by simp; omega) hN with ⟨e2, g2⟩ | ⟨j, hj, e2, g2⟩
            · have hg : ¬ goneB b p = true := fun h9 => by
                rcases (hgo.1 h9).2 with h8 | h8
                · exact h0 h8
                · exact h8 g2
              have z3 : ¬ (0 : Int) ≤ -1 := by omega
              simp (disch := first | assumption | omega) only [ev_br, ev_leaf, ev_c1, ev_c2, ev_c3, ev_c4, ev_cr, ev_cr2, ev_f0, ev_f1, ev_f2, obind_some, decide_eq_true_eq, Bool.not_eq_true', Bool.true_eq_false, Bool.false_eq_true, if_true, if_false, reduceCtorEq, hk', h, hP, wrapI, ev_ck k1, e1, z1, slc_dl, z2, e2, z3, hg]
            · have hg : goneB b p = true := hgo.2 ⟨g1, .inr (by rw [g2]; simp)⟩
              have z3 : (0 : Int) ≤ (j : Int) := by omega
              simp (disch := first | assumption | omega) only [ev_br, ev_leaf, ev_c1, ev_c2, ev_c3, ev_c4, ev_cr, ev_cr2, ev_f0, ev_f1, ev_f2, obind_some, decide_eq_true_eq, Bool.not_eq_true', Bool.true_eq_false, Bool.false_eq_true, if_true, if_false, reduceCtorEq, hk', h, hP, wrapI, ev_ck k1, e1, z1, slc_dl, z2, e2, z3, ev_ck (r1 _), hg]
              rfl
        · have hg : ¬ goneB b p = true := fun h9 => by
            have := (hgo.1 h9).1
            rw [g1] at this; cases this
          have z3 : ¬ (j : Int) < 0 := by omega
          simp (disch := first | assumption | omega) only [ev_br, ev_leaf, ev_c1, ev_c2, ev_c3, ev_c4, ev_cr, ev_cr2, ev_f0, ev_f1, ev_f2, obind_some, decide_eq_true_eq, Bool.not_eq_true', Bool.true_eq_false, Bool.false_eq_true, if_true, if_false, reduceCtorEq, hk', h, hP, wrapI, ev_ck k1, e1, z3, hg]
      · have hk' : ¬ (k : Int) < a.length := by omega
        simp [hk', h]) [] (by simp) N (by omega)
  have g1 : ∀ n, (List.range n).foldl (fun (out : List Ch) k => if goneB b (pth a k) = true then out ++ [chG (pth a k)] else out) [] = goneN a b n := by
    intro n
    induction n with
    | zero => rfl
    | succ n ih => rw [List.range_succ, List.foldl_append, ih, goneN_succ]; rfl
  rw [g1] at f1
  have hGl := goneN_len a b a.length
  obtain ⟨G, hG⟩ : ∃ G, goneN a b a.length = G := ⟨_, rfl⟩
  rw [hG] at f1 hGl
  have f2 := loop_fold0 (R := List Ch) (step := fun x => L14o_10 N x.1 x.2.1 x.2.2.1 x.2.2.2) b.length
    (fun (out : List Ch) k => if addsB a ((ents b).getD k ([], 0)) = true then out ++ [chA ((ents b).getD k ([], 0))] else out) (fun out k => (a, b, out, k)) (fun out k => out.length ≤ 200 + k)
    (fun out k h hk => by
      show (if _ then _ else _ : List Ch).length ≤ _
      split
      · simp; omega
      · omega) (fun out k hI hk => by
      unfold L14o_10 U14o_10
      by_cases h : k < b.length
      · have hk' : (k : Int) < b.length := by omega
        have c1 : inR (k : Int) b.length := ⟨by omega, hk'⟩
        have hP := R_path N b (k : Int) hb (by omega) hk' (by omega)
        rw [Int.toNat_natCast] at hP
        have hp16 := pth16 hb h
        have hat : atI tLn b (k : Int) = b.getD k (0, [], 0) := rfl
        rw [ents_getD b h]
        obtain ⟨p, hp⟩ : ∃ p, pth b k = p := ⟨_, rfl⟩
        obtain ⟨m, hm⟩ : ∃ m, (b.getD k (0, [], 0)).2.2 = m := ⟨_, rfl⟩
        rw [hp] at hP hp16 ⊢
        rw [hm]
        have r1 : ∀ z : Ch, room (out.length + ([z] : List Ch).length) := fun z => by show _ ≤ _; simp; omega
        unfold addsB
        rcases refind N a p ha (by omega) hN with ⟨e1, g1⟩ | ⟨j, hj, e1, g1⟩
        · have z1 : ((-1 : Int) < 0) := by omega
          simp (disch := first | assumption | omega) only [ev_br, ev_leaf, ev_c1, ev_c2, ev_c3, ev_c4, ev_cr, ev_cr2, ev_f0, ev_f1, ev_f2, obind_some, decide_eq_true_eq, Bool.not_eq_true', Bool.true_eq_false, Bool.false_eq_true, if_true, if_false, reduceCtorEq, hk', h, hP, wrapI, ev_ck c1, e1, z1, hat, hm, ev_ck (r1 _), g1, Option.isNone_none]
          rfl
        · have z1 : ¬ ((j : Int) < 0) := by omega
          simp (disch := first | assumption | omega) only [ev_br, ev_leaf, ev_c1, ev_c2, ev_c3, ev_c4, ev_cr, ev_cr2, ev_f0, ev_f1, ev_f2, obind_some, decide_eq_true_eq, Bool.not_eq_true', Bool.true_eq_false, Bool.false_eq_true, if_true, if_false, reduceCtorEq, hk', h, hP, wrapI, e1, z1, g1, Option.isNone_some]
      · have hk' : ¬ (k : Int) < b.length := by omega
        simp [hk', h]) G (by omega) N (by omega)
  rw [fold_chs] at f2
  have hAl := adds_len a b
  obtain ⟨A, hA⟩ : ∃ A, G ++ ((ents b).filter (addsB a)).map chA = A := ⟨_, rfl⟩
  rw [hA] at f2
  have hAl2 : A.length ≤ 400 := by rw [← hA]; unfold addsL at hAl; simp; omega
  have f3 := loop_fold0 (R := List Ch) (step := fun x => L14o_16 N x.1 x.2.1 x.2.2.1 x.2.2.2) b.length
    (fun (out : List Ch) k => if mrkB a ((ents b).getD k ([], 0)) = true then out ++ [chM ((ents b).getD k ([], 0))] else out) (fun out k => (a, b, out, k)) (fun out k => out.length ≤ 400 + k)
    (fun out k h hk => by
      show (if _ then _ else _ : List Ch).length ≤ _
      split
      · simp; omega
      · omega) (fun out k hI hk => by
      unfold L14o_16 U14o_16
      by_cases h : k < b.length
      · have hk' : (k : Int) < b.length := by omega
        have c1 : inR (k : Int) b.length := ⟨by omega, hk'⟩
        have hP := R_path N b (k : Int) hb (by omega) hk' (by omega)
        rw [Int.toNat_natCast] at hP
        have hp16 := pth16 hb h
        have hat : atI tLn b (k : Int) = b.getD k (0, [], 0) := rfl
        rw [ents_getD b h]
        obtain ⟨p, hp⟩ : ∃ p, pth b k = p := ⟨_, rfl⟩
        obtain ⟨m, hm⟩ : ∃ m, (b.getD k (0, [], 0)).2.2 = m := ⟨_, rfl⟩
        rw [hp] at hP hp16 ⊢
        rw [hm]
        have r1 : ∀ z : Ch, room (out.length + ([z] : List Ch).length) := fun z => by show _ ≤ _; simp; omega
        unfold mrkB
        rcases refind N a p ha (by omega) hN with ⟨e1, g1⟩ | ⟨j, hj, e1, g1⟩
        · have z1 : ¬ ((0 : Int) ≤ -1) := by omega
          simp (disch := first | assumption | omega) only [ev_br, ev_leaf, ev_c1, ev_c2, ev_c3, ev_c4, ev_cr, ev_cr2, ev_f0, ev_f1, ev_f2, obind_some, decide_eq_true_eq, Bool.not_eq_true', Bool.true_eq_false, Bool.false_eq_true, if_true, if_false, reduceCtorEq, hk', h, hP, wrapI, e1, z1, g1, Option.isSome_none, Bool.false_and]
        · have z1 : ((0 : Int) ≤ (j : Int)) := by omega
          have c2 : inR (j : Int) a.length := ⟨by omega, by omega⟩
          have hat2 : atI tLn a (j : Int) = a.getD j (0, [], 0) := rfl
          obtain ⟨m2, hm2⟩ : ∃ m2, (a.getD j (0, [], 0)).2.2 = m2 := ⟨_, rfl⟩
          rw [hm2] at g1
          by_cases he : m2 = m
          · subst he
            simp (disch := first | assumption | omega) only [ev_br, ev_leaf, ev_c1, ev_c2, ev_c3, ev_c4, ev_cr, ev_cr2, ev_f0, ev_f1, ev_f2, obind_some, decide_eq_true_eq, Bool.not_eq_true', Bool.true_eq_false, Bool.false_eq_true, if_true, if_false, reduceCtorEq, hk', h, hP, wrapI, e1, z1, g1, ev_ck c1, ev_ck c2, hat, hat2, hm, hm2, bne_self_eq_false, Option.isSome_some, Bool.true_and, ne_eq, not_true_eq_false, decide_false]
          · have hb1 : (m2 != m) = true := by simpa using he
            have hb2 : decide ((some m2 : Option Int) ≠ some m) = true := by simpa using he
            simp (disch := first | assumption | omega) only [ev_br, ev_leaf, ev_c1, ev_c2, ev_c3, ev_c4, ev_cr, ev_cr2, ev_f0, ev_f1, ev_f2, obind_some, decide_eq_true_eq, Bool.not_eq_true', Bool.true_eq_false, Bool.false_eq_true, if_true, if_false, reduceCtorEq, hk', h, hP, wrapI, e1, z1, g1, ev_ck c1, ev_ck c2, hat, hat2, hm, hm2, hb1, hb2, Option.isSome_some, Bool.true_and, ev_ck (r1 _)]
            rfl
      · have hk' : ¬ (k : Int) < b.length := by omega
        simp [hk', h]) A (by omega) N (by omega)
  rw [fold_chs] at f3
  have e1 : W14o_3 N (a, b, ([] : List Ch), 0) = _ := f1
  have e2 : W14o_10 N (a, b, G, 0) = _ := f2
  have e3 : W14o_16 N (a, b, A, 0) = _ := f3
  unfold F14o V14o
  simp only [ev_f1, ev_leaf, e1, lp1_brk, e2, e3]
  rw [← hA, ← hG, goneN_all]
  rfl

/-! ### Equal lists of changes; changes as the document's -/

theorem R_same (N : Nat) (l : List Ch) (hl : l.length ≤ 1000) (hp : ∀ c ∈ l, c.2.1.length ≤ 1000) (hN : 5000 < N) : F15 N l l = some true := by
  unfold F15 V15
  have := loop_up (R := Bool) (step := fun x => L15_4 N x.1 x.2.1 x.2.2) l.length (fun i => (l, l, (i : Int)))
    (fun i hi => by
      unfold L15_4 U15_4
      have hi' : (i : Int) < (l.length : Int) := by omega
      have c1 : inR (i : Int) l.length := ⟨by omega, hi'⟩
      have w1 : IntKind.i64.wrap ((i : Int) + 1) = ((i + 1 : Nat) : Int) := by rw [wrapI (by omega) (by omega)]; omega
      have hat : atI (.pair tI (.pair (.list tS) tI)) l (i : Int) = l[i] := by show l.getD i _ = _; simp [hi]
      have hE := F_equal N l[i].2.1 l[i].2.1 (by have := hp l[i] (List.getElem_mem hi); omega) (by have := hp l[i] (List.getElem_mem hi); show _ ≤ 9223372036854775807; omega)
      simp only [ev_br, ev_leaf, ev_c1, ev_c2, ev_c3, ev_c4, ev_cr, ev_cr2, ev_f0, ev_f1, ev_f2, obind_some, decide_eq_true_eq, Bool.not_eq_true', Bool.true_eq_false, Bool.false_eq_true, if_true, if_false, reduceCtorEq, decide_eq_true hi', ev_ck c1, hat, bne_self_eq_false, hE, decide_true, Bool.not_true, w1])
    (by unfold L15_4 U15_4; simp) N (by omega)
  have hW : W15_4 N (l, l, 0) = some (.brk 0 (l, l, (l.length : Int))) := this
  simp only [ev_br, ev_f1, ev_leaf, bne_self_eq_false, hW, lp1_brk, Bool.false_eq_true, if_false]

def fitL (l : List Ch) : Bool := decide (l.length ≤ 420) && l.all fun c => shortS c.2.1
theorem R_refs (N : Nat) (l : List Ch) (hN : 5000 < N) : ∃ x, F13o N l = some (x, fitL l) ∧ (fitL l = true → x = l) := by
  unfold F13o V13o
  by_cases h420 : (420 : Int) < (l.length : Int)
  · have : ¬ l.length ≤ 420 := by omega
    exact ⟨[], by simp [h420, fitL, this], fun h => by simp [fitL, this] at h⟩
  · have h420' : l.length ≤ 420 := by omega
    obtain ⟨o, ho, hp⟩ := runLoop_post (R := List Ch × Bool) (step := fun x => L13o_5 N x.1 x.2.1 x.2.2.1 x.2.2.2)
      (fun x => ∃ k : Nat, k ≤ l.length ∧ x = (l.take k, l, (l.length : Int), (k : Int)) ∧ (l.take k).all (fun c => shortS c.2.1) = true) (fun x => (l.length - x.2.2.2).toNat)
      (fun o => (∃ x, o = .ret (x, false) ∧ fitL l = false) ∨ (o = .brk 0 (l, l, (l.length : Int), (l.length : Int)) ∧ fitL l = true))
      (by
        rintro x ⟨k, hk, rfl, hall⟩
        dsimp only
        unfold L13o_5 U13o_5
        by_cases h : k < l.length
        · have hk' : (k : Int) < l.length := by omega
          have c1 : inR (k : Int) l.length := ⟨by omega, hk'⟩
          have hat : atI (.pair tI (.pair (.list tS) tI)) l (k : Int) = l[k] := by show l.getD k _ = _; simp [h]
          have r1 : ∀ z : Ch, room ((l.take k).length + ([z] : List Ch).length) := fun z => by show _ ≤ _; simp; omega
          have hS := F_short N l[k].2.1 (by omega)
          cases hs : shortS l[k].2.1 with
          | false =>
            rw [hs] at hS
            simp (disch := first | assumption | omega) only [ev_br, ev_leaf, ev_c1, ev_c2, ev_c3, ev_c4, ev_cr, ev_cr2, ev_f0, ev_f1, ev_f2, obind_some, decide_eq_true_eq, Bool.not_eq_true', Bool.true_eq_false, Bool.false_eq_true, if_true, if_false, reduceCtorEq, hk', ev_ck c1, hat, hS, Bool.not_false]
            refine ⟨_, rfl, .inr ⟨by simp, .inl ⟨_, rfl, ?_⟩⟩⟩
            unfold fitL
            rw [Bool.and_eq_false_iff]
            right
            rw [List.all_eq_false]
            exact ⟨l[k], List.getElem_mem h, by rw [hs]; simp⟩
          | true =>
            rw [hs] at hS
            simp (disch := first | assumption | omega) only [ev_br, ev_leaf, ev_c1, ev_c2, ev_c3, ev_c4, ev_cr, ev_cr2, ev_f0, ev_f1, ev_f2, obind_some, decide_eq_true_eq, Bool.not_eq_true', Bool.true_eq_false, Bool.false_eq_true, if_true, if_false, reduceCtorEq, hk', ev_ck c1, hat, hS, Bool.not_true, ev_ck (r1 _), wrapI]
            refine ⟨_, rfl, .inl ⟨_, rfl, ⟨k + 1, by omega, ?_, ?_⟩, by simp only; omega⟩⟩
            · rw [List.take_succ_eq_append_getElem h]; rfl
            · rw [List.take_succ_eq_append_getElem h, List.all_append, hall]; simp [hs]
        · have hk' : ¬ (k : Int) < l.length := by omega
          have : k = l.length := by omega
          subst this
          rw [List.take_length] at hall ⊢
          exact ⟨_, by simp only [ev_br, decide_eq_false hk', Bool.false_eq_true, if_false, ev_leaf], .inr ⟨by simp, .inr ⟨rfl, by unfold fitL; rw [hall]; simp [h420']⟩⟩⟩) N ([], l, (l.length : Int), 0) ⟨0, Nat.zero_le _, rfl, rfl⟩ (by simp; omega)
    have hW : W13o_5 N (([] : List Ch), l, (l.length : Int), 0) = some o := ho
    simp only [ev_br, decide_eq_false h420, Bool.false_eq_true, if_false, ev_f1, hW, ev_leaf]
    rcases hp with ⟨x, rfl, hf⟩ | ⟨rfl, hf⟩
    · exact ⟨x, by rw [lp1_ret, hf]; rfl, fun h => by rw [hf] at h; cases h⟩
    · exact ⟨l, by rw [lp1_brk, hf], fun _ => rfl⟩

theorem diff_fine {a b : List Ln} (ha : rightS a = true) (hb : rightS b = true) : ∀ c ∈ diffL a b, c.2.1.length ≤ 16 ∧ (∀ w ∈ c.2.1, w.length ≤ 40) ∧ 0 ≤ c.2.2 ∧ c.2.2 ≤ 3 := fun c hc => by
  have hra := right_rf ha
  have hrb := right_rf hb
  rcases mem_diff.1 hc with ⟨p, hp, rfl⟩ | ⟨e, he, rfl⟩ | ⟨e, he, rfl⟩
  · have h1 := ((mem_gone hra).1 hp).1
    obtain ⟨m, hm⟩ := Option.ne_none_iff_exists'.1 h1
    exact ⟨(gt_sound hra hm).2.1, words_of hra p.length p rfl h1, by show (0 : Int) ≤ 0; omega, by show (0 : Int) ≤ 3; omega⟩
  · obtain ⟨q, m⟩ := e
    have h1 := ((mem_adds hrb).1 he).1
    have h2 := gt_sound hrb h1
    exact ⟨h2.2.1, words_of hrb q.length q rfl (by rw [h1]; simp), h2.2.2.2⟩
  · obtain ⟨q, m⟩ := e
    have h1 := ((mem_mrk hrb).1 he).1
    have h2 := gt_sound hrb h1
    exact ⟨h2.2.1, words_of hrb q.length q rfl (by rw [h1]; simp), h2.2.2.2⟩
theorem diff_fit {a b : List Ln} (ha : rightS a = true) (hb : rightS b = true) (hl : a.length + b.length ≤ 400) : fitL (diffL a b) = true := by
  have h1 := diff_len a b
  unfold fitL
  rw [Bool.and_eq_true, decide_eq_true_eq, List.all_eq_true]
  refine ⟨by omega, fun c hc => ?_⟩
  obtain ⟨h2, h3, _⟩ := diff_fine ha hb c hc
  unfold shortS
  rw [Bool.and_eq_true, decide_eq_true_eq, List.all_eq_true]
  exact ⟨by omega, fun w hw => by have := h3 w hw; simp; omega⟩

end Go.Proofs.YtncgafojgdemdaaDoor.Vc
