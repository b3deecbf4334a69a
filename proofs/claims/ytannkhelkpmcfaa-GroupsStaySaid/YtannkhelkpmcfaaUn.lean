/-
  THE LAWS ON GROUPS, told of data (3): what is explicit stays. No condition.
-/
import Derived.Test.YtannkhelkpmcfaaUm
set_option linter.unusedVariables false
set_option linter.unusedSimpArgs false
namespace Go.Proofs.Ytannkhelkpmcfaa.Vc

/-- What a path in a tree finds, has the path's depth, the path's last word, and the mark. -/
theorem ln_of {t u : List Ln} (ht : rf [] t = true) (hu : rf [] u = true) {i k : Nat} (hi : i < t.length) (hk : k < u.length) (he : pth u k = pth t i) (hm : (u.getD k (0, [], 0)).2.2 = (t.getD i (0, [], 0)).2.2) : u.getD k (0, [], 0) = t.getD i (0, [], 0) := by
  have h1 := pth_len ht hi
  have h2 := pth_len hu hk
  have l1 := pth_last ht hi
  have l2 := pth_last hu hk
  rw [he] at h2 l2
  have d1 := snd_iff.1 (rf_at ht hi).1
  have d2 := snd_iff.1 (rf_at hu hk).1
  have g1 : t.getD i (0, [], 0) = t[i] := getD_of_lt t hi
  have g2 : u.getD k (0, [], 0) = u[k] := getD_of_lt u hk
  rw [g1] at hm l1 ⊢
  rw [g2] at hm l2 ⊢
  refine Prod.ext ?_ (Prod.ext ?_ hm)
  · omega
  · rw [← l1, ← l2]

theorem gt_atD {t : List Ln} (h : rf [] t = true) {i : Nat} (hi : i < t.length) : gt t (pth t i) = some (t.getD i (0, [], 0)).2.2 := by
  rw [getD_of_lt t hi]; exact gt_at h hi

theorem S_has (N : Nat) (t : List Ln) (hr : rightS t = true) (h : (expandS t).2 = 0) (hN : 1000 < N) :
    ∃ x, W5_10 N (t, (expandS t).1, expL t, expL t, ((expL t).length : Int), 0) = some (.brk 0 x) ∧ x.1 = t ∧ x.2.1 = (expandS t).1 ∧ x.2.2.1 = expL t := by
  obtain ⟨m1, m2, m3, m4, m5⟩ := expand_map hr h
  have hrx := exp_right hr
  obtain ⟨hxl, hxf⟩ := rightS_iff.1 hrx
  obtain ⟨hul, huf⟩ := rightS_iff.1 m1
  obtain ⟨o, ho, hp⟩ := runLoop_post (R := Bool) (step := fun x => L5_10 N x.1 x.2.1 x.2.2.1 x.2.2.2.1 x.2.2.2.2.1 x.2.2.2.2.2)
    (fun x => x.1 = t ∧ x.2.1 = (expandS t).1 ∧ x.2.2.1 = expL t ∧ x.2.2.2.1 = expL t ∧ x.2.2.2.2.1 = ((expL t).length : Int) ∧ 0 ≤ x.2.2.2.2.2 ∧ x.2.2.2.2.2 ≤ (expL t).length) (fun x => ((expL t).length - x.2.2.2.2.2).toNat)
    (fun o => ∃ x, o = .brk 0 x ∧ x.1 = t ∧ x.2.1 = (expandS t).1 ∧ x.2.2.1 = expL t)
    (by
      rintro ⟨t', u, x, x2, n, i⟩ ⟨e1, e2, e3, e4, e5, h0, hle⟩
      dsimp only at e1 e2 e3 e4 e5 h0 hle ⊢
      subst e1; subst e5
      unfold L5_10 U5_10
      by_cases hi : i < ((expL t').length : Int)
      · have hil : i.toNat < x.length := by rw [e3]; omega
        have c1 : inR i x2.length := ⟨h0, by rw [e4]; exact hi⟩
        have hth : thereS x i = true := thereS_iff.2 ⟨h0, by rw [e3]; exact hi, by rw [e3]; exact hrx⟩
        have hP := F_path N x i (by rw [e3]; omega)
        rw [if_pos hth] at hP
        have hF := F_find N u (pth x i.toNat) (by rw [e2]; omega)
        have hg := gt_atD hxf (show i.toNat < (expL t').length by omega)
        have hg2 := m3 _ _ hg
        obtain ⟨k, hk, hkm⟩ := gt_fnd huf hg2
        have hfs : fndS u (pth x i.toNat) = some k := by
          rw [fndS_eq, e2, if_pos m1, e3]; exact hk
        obtain ⟨s1, s2, s3⟩ := fnd_spec hfs
        rw [hfs] at hF
        have c2 : inR (k : Int) u.length := ⟨by omega, by omega⟩
        have hln : u.getD k (0, [], 0) = x.getD i.toNat (0, [], 0) := ln_of (by rw [e3]; exact hxf) (by rw [e2]; exact huf) hil s2 s3 (by
          rw [e2, hkm, e3])
        have a1 : atI tLn u (k : Int) = u.getD k (0, [], 0) := by rw [atI_nat]; rfl
        have a2 : atI tLn x2 i = x.getD i.toNat (0, [], 0) := by rw [e4, e3]; rfl
        have hwi : IntKind.i64.wrap (i + 1) = i + 1 := wrapI (by omega) (by omega)
        simp only [ev_br, ev_leaf, ev_c1, ev_c2, ev_c3, ev_c4, ev_cr, ev_cr2, ev_f0, ev_f1, ev_f2, obind_some, decide_eq_true_eq, Bool.not_eq_true', Bool.true_eq_false, Bool.false_eq_true, if_true, if_false, reduceCtorEq, hi, ev_ck c1, hP, hF, ev_ck c2, a1, a2, hln, beq_self_eq_true, hwi, Bool.and_self]
        exact ⟨_, rfl, .inl ⟨_, rfl, ⟨rfl, e2, e3, e4, rfl, by simp only; omega, by simp only; omega⟩, by simp only; omega⟩⟩
      · exact ⟨.brk 0 (t', u, x, x2, ((expL t').length : Int), i), by simp [hi], .inr ⟨by simp, _, rfl, rfl, e2, e3⟩⟩) N (t, (expandS t).1, expL t, expL t, ((expL t).length : Int), 0) ⟨rfl, rfl, rfl, rfl, rfl, by simp, by simp⟩ (by simp only; omega)
  unfold W5_10
  rw [ho]
  obtain ⟨x, rfl, hx⟩ := hp
  exact ⟨x, rfl, hx⟩

theorem S_all (N : Nat) (t u x : List Ln) (gs : List Bs) (hr : rightS t = true) (hN : 5000 < N) (hl : gs.length ≤ 200) :
    ∃ y, W5_19 N (t, u, x, ([] : List (List Bs)), gs, (gs.length : Int), 0) = some (.brk 0 y) ∧ y.2.1 = u ∧ y.2.2.1 = x ∧ y.2.2.2.1 = gs.flatMap fun g => (pathsS t g).1 := by
  have h200 := (rightS_iff.1 hr).1
  obtain ⟨o, ho, hp⟩ := runLoop_post (R := Bool) (step := fun y => L5_19 N y.1 y.2.1 y.2.2.1 y.2.2.2.1 y.2.2.2.2.1 y.2.2.2.2.2.1 y.2.2.2.2.2.2)
    (fun y => y.1 = t ∧ y.2.1 = u ∧ y.2.2.1 = x ∧ y.2.2.2.2.1 = gs ∧ y.2.2.2.2.2.1 = (gs.length : Int) ∧ 0 ≤ y.2.2.2.2.2.2 ∧ y.2.2.2.2.2.2 ≤ gs.length ∧ y.2.2.2.1 = ((gs.take y.2.2.2.2.2.2.toNat).flatMap fun g => (pathsS t g).1) ∧ y.2.2.2.1.length ≤ 201 * 201 * y.2.2.2.2.2.2.toNat) (fun y => (gs.length - y.2.2.2.2.2.2).toNat)
    (fun o => ∃ y, o = .brk 0 y ∧ y.2.1 = u ∧ y.2.2.1 = x ∧ y.2.2.2.1 = gs.flatMap fun g => (pathsS t g).1)
    (by
      rintro ⟨t', u', x', out, gs', n, i⟩ ⟨e1, e2, e3, e4, e5, h0, hle, hout, hol⟩
      dsimp only at e1 e2 e3 e4 e5 h0 hle hout hol ⊢
      subst e1; subst e2; subst e3; subst e4; subst e5
      unfold L5_19 U5_19
      by_cases hi : i < gs'.length
      · have hil : i.toNat < gs'.length := by omega
        have c1 : inR i gs'.length := ⟨h0, hi⟩
        have hat : atI tS gs' i = gs'[i.toNat] := by show gs'.getD _ _ = _; simp [hil]
        have e1 : (i + 1).toNat = i.toNat + 1 := by omega
        have hpl := paths_len hr gs'[i.toNat]
        have hE := E_paths N t' gs'[i.toNat] (by omega) (by omega)
        rw [if_pos hr] at hE
        have hr1 : room (out.length + (pathsS t' gs'[i.toNat]).1.length) := by show _ ≤ _; omega
        simp (disch := first | assumption | omega) only [ev_br, ev_leaf, ev_c1, ev_c2, ev_c3, ev_c4, ev_cr, ev_cr2, ev_f0, ev_f1, ev_f2, obind_some, decide_eq_true_eq, Bool.not_eq_true', Bool.true_eq_false, Bool.false_eq_true, if_true, if_false, reduceCtorEq, hi, ev_ck c1, wrapI, hat, hE, ev_ck hr1]
        refine ⟨_, rfl, .inl ⟨_, rfl, ⟨rfl, rfl, rfl, rfl, rfl, by simp only; omega, by simp only; omega, ?_, ?_⟩, by simp only; omega⟩⟩
        · simp only
          rw [e1, List.take_succ_eq_append_getElem hil, List.flatMap_append, hout]
          simp
        · simp only
          rw [e1, List.length_append]; omega
      · have hie : i = (gs'.length : Int) := by omega
        subst hie
        rw [Int.toNat_natCast, List.take_length] at hout
        exact ⟨.brk 0 (t', u', x', out, gs', (gs'.length : Int), (gs'.length : Int)), by simp, .inr ⟨by simp, _, rfl, rfl, rfl, hout⟩⟩) N (t, u, x, [], gs, (gs.length : Int), 0) ⟨rfl, rfl, rfl, rfl, rfl, by simp, by simp, by simp, by simp⟩ (by simp only; omega)
  unfold W5_19
  rw [ho]
  obtain ⟨y, rfl, hy⟩ := hp
  exact ⟨y, rfl, hy⟩

theorem S_was (N : Nat) (u x : List Ln) (all : List (List Bs)) (i : Int) (p : List Bs) (b : Bool) (n : Int) (hp : p.length ≤ 1000) (hl : all.length ≤ 50000000) (hN : 50000100 < N) :
    W5_30 N (u, x, all, i, p, b, n, i, all, (all.length : Int), 0) = some (.brk 0 (u, x, all, i, p, (b || all.any fun q => decide (p <+: q)), n, i, all, (all.length : Int), (all.length : Int))) := by
  have := loop_fold0 (R := Bool) (step := fun x => L5_30 N x.1 x.2.1 x.2.2.1 x.2.2.2.1 x.2.2.2.2.1 x.2.2.2.2.2.1 x.2.2.2.2.2.2.1 x.2.2.2.2.2.2.2.1 x.2.2.2.2.2.2.2.2.1 x.2.2.2.2.2.2.2.2.2.1 x.2.2.2.2.2.2.2.2.2.2)
    all.length (fun a k => a || decide (p <+: all.getD k [])) (fun a k => (u, x, all, i, p, a, n, i, all, (all.length : Int), k)) (fun _ _ => True) (fun _ _ _ _ => trivial) (fun a k _ hk => by
      unfold L5_30 U5_30
      by_cases hi : k < all.length
      · have hi' : (k : Int) < (all.length : Int) := by omega
        have c1 : inR (k : Int) all.length := ⟨by omega, by omega⟩
        have hat : atI (.list tS) all (k : Int) = all.getD k [] := rfl
        have hw : IntKind.i64.wrap ((k : Int) + 1) = (k : Int) + 1 := wrapI (by omega) (by omega)
        obtain ⟨q, hq⟩ : ∃ q, all.getD k [] = q := ⟨_, rfl⟩
        simp only [ev_br, ev_leaf, ev_c1, ev_c2, ev_c3, ev_c4, ev_cr, ev_cr2, ev_f0, ev_f1, ev_f2, obind_some, decide_eq_true_eq, Bool.not_eq_true', Bool.true_eq_false, Bool.false_eq_true, if_true, if_false, reduceCtorEq, hi', ev_ck c1, hat, hw, if_pos hi, hq]
        cases a with
        | true => simp
        | false =>
          simp only [ev_br, ev_leaf, ev_c1, ev_c2, ev_c3, ev_c4, ev_cr, ev_cr2, ev_f0, ev_f1, ev_f2, obind_some, decide_eq_true_eq, Bool.not_eq_true', Bool.true_eq_false, Bool.false_eq_true, if_true, if_false, reduceCtorEq, Bool.false_or]
          by_cases hlq : (p.length : Int) ≤ (q.length : Int)
          · have ck1 : (0 : Int) ≤ 0 ∧ (0 : Int) ≤ (p.length : Int) ∧ (p.length : Int) ≤ (q.length : Int) := by omega
            have hE := F_equal N (q.take p.length) p (by simp; omega) (by unfold maxLen; simp; omega)
            simp only [if_pos hlq, ev_br, ev_leaf, ev_c1, ev_c2, ev_c3, ev_c4, ev_cr, ev_cr2, ev_f0, ev_f1, ev_f2, obind_some, decide_eq_true_eq, Bool.not_eq_true', Bool.true_eq_false, Bool.false_eq_true, if_true, if_false, reduceCtorEq, ev_ck ck1, slc0, Int.toNat_natCast, hE]
            have : (q.take p.length = p) ↔ p <+: q := by rw [List.prefix_iff_eq_take]; exact ⟨fun h => h.symm, fun h => h.symm⟩
            simp only [this]
          · have : ¬ p <+: q := fun h => by have := h.length_le; omega
            simp only [if_neg hlq, this, decide_false]
      · have hi' : ¬ (k : Int) < (all.length : Int) := by omega
        simp only [ev_br, ev_leaf, ev_c1, ev_c2, ev_c3, ev_c4, ev_cr, ev_cr2, ev_f0, ev_f1, ev_f2, obind_some, decide_eq_true_eq, Bool.not_eq_true', Bool.true_eq_false, Bool.false_eq_true, if_true, if_false, reduceCtorEq, hi', if_neg hi]) b trivial N (by omega)
  unfold W5_30
  rw [this]
  have key : ∀ (l : List Nat) (b : Bool), l.foldl (fun a k => a || decide (p <+: all.getD k [])) b = (b || l.any fun k => decide (p <+: all.getD k [])) := by
    intro l
    induction l with
    | nil => intro b; simp
    | cons y l ih => intro b; rw [List.foldl_cons, ih, List.any_cons, Bool.or_assoc]
  rw [key]
  have : ((List.range all.length).any fun k => decide (p <+: all.getD k [])) = all.any fun q => decide (p <+: q) := by
    rw [Bool.eq_iff_iff, List.any_eq_true, List.any_eq_true]
    constructor
    · rintro ⟨k, hk, h⟩
      rw [List.mem_range] at hk
      exact ⟨all[k], List.getElem_mem hk, by simpa [hk] using h⟩
    · rintro ⟨q, hq, h⟩
      obtain ⟨k, hk, rfl⟩ := List.getElem_of_mem hq
      exact ⟨k, List.mem_range.2 hk, by simpa [hk] using h⟩
  rw [this]

theorem S_new (N : Nat) (t : List Ln) (hr : rightS t = true) (h : (expandS t).2 = 0) (hN : 50000100 < N) (hl : (allS t).length ≤ 50000000) :
    ∃ x, W5_25 N ((expandS t).1, expL t, allS t, ((expandS t).1.length : Int), 0) = some (.brk 0 x) := by
  obtain ⟨m1, m2, m3, m4, m5⟩ := expand_map hr h
  have hrx := exp_right hr
  obtain ⟨hxl, hxf⟩ := rightS_iff.1 hrx
  obtain ⟨hul, huf⟩ := rightS_iff.1 m1
  obtain ⟨o, ho, hp⟩ := runLoop_post (R := Bool) (step := fun x => L5_25 N x.1 x.2.1 x.2.2.1 x.2.2.2.1 x.2.2.2.2)
    (fun y => y.1 = (expandS t).1 ∧ y.2.1 = expL t ∧ y.2.2.1 = allS t ∧ y.2.2.2.1 = ((expandS t).1.length : Int) ∧ 0 ≤ y.2.2.2.2 ∧ y.2.2.2.2 ≤ (expandS t).1.length) (fun y => ((expandS t).1.length - y.2.2.2.2).toNat)
    (fun o => ∃ x, o = .brk 0 x)
    (by
      rintro ⟨u, x, all, n, i⟩ ⟨e1, e2, e3, e4, h0, hle⟩
      dsimp only at e1 e2 e3 e4 h0 hle ⊢
      subst e4
      unfold L5_25 U5_25
      by_cases hi : i < ((expandS t).1.length : Int)
      · have hil : i.toNat < u.length := by rw [e1]; omega
        have hth : thereS u i = true := thereS_iff.2 ⟨h0, by rw [e1]; exact hi, by rw [e1]; exact m1⟩
        have hP := F_path N u i (by rw [e1]; omega)
        rw [if_pos hth] at hP
        obtain ⟨k0, b0, hF, hb0⟩ : ∃ (k0 : Int) (b0 : Bool), F26 N x (pth u i.toNat) = some (k0, b0) ∧ (gt (expL t) (pth u i.toNat) ≠ none → b0 = true) := by
          have hF := F_find N x (pth u i.toNat) (by rw [e2]; omega)
          have hfi : fndS x (pth u i.toNat) = fnd x (pth u i.toNat) := by rw [fndS_eq, e2, if_pos hrx]
          cases hf : fnd x (pth u i.toNat) with
          | none =>
            rw [hfi, hf] at hF
            exact ⟨_, _, hF, fun h => absurd (fnd_none0.1 hf) (by rw [e2]; exact h)⟩
          | some k =>
            rw [hfi, hf] at hF
            exact ⟨_, _, hF, fun _ => rfl⟩
        have hg := gt_atD huf (show i.toNat < (expandS t).1.length by omega)
        have hpl : (pth u i.toNat).length ≤ 1000 := by
          rw [pth_len (by rw [e1]; exact huf) hil]
          have := snd_iff.1 (rf_at (by rw [e1]; exact huf) hil).1
          omega
        have hwas := S_was N u x all i (pth u i.toNat) b0 ((expandS t).1.length : Int) hpl (by rw [e3]; exact hl) hN
        have ci : inR i u.length := ⟨h0, by rw [e1]; exact hi⟩
        have hwi : IntKind.i64.wrap (i + 1) = i + 1 := wrapI (by omega) (by omega)
        have hmark : (atI tLn u i).2.2 = 0 ∧ (b0 || all.any fun q => decide (pth u i.toNat <+: q)) = true := by
          have ha : atI tLn u i = (expandS t).1.getD i.toNat (0, [], 0) := by rw [atI_nat, e1]
          rw [ha]
          rcases m4 _ _ hg with g1 | ⟨g1, g2, q, g3, g4, g5⟩
          · have hm0 := (exp_mark (rightS_iff.1 hr).2 g1).1
            refine ⟨?_, ?_⟩
            · exact hm0
            · rw [hb0 (by rw [e1, g1]; simp)]; rfl
          · refine ⟨?_, ?_⟩
            · exact g1
            · rw [Bool.or_eq_true]
              refine .inr (List.any_eq_true.2 ⟨q, by rw [e3]; exact g3, ?_⟩)
              rw [e1]
              exact decide_eq_true g5
        have hm1 : ((atI tLn u i).2.2 != 0) = false := by rw [hmark.1]; rfl
        simp only [ev_br, ev_leaf, ev_c1, ev_c2, ev_c3, ev_c4, ev_cr, ev_cr2, ev_f0, ev_f1, ev_f2, obind_some, decide_eq_true_eq, Bool.not_eq_true', Bool.true_eq_false, Bool.false_eq_true, if_true, if_false, reduceCtorEq, hi, hP, hF, Vt.g1, ev_loop1, hwas, lp1_brk, hmark.2, ev_ck ci, hm1, hwi]
        exact ⟨_, rfl, .inl ⟨_, rfl, ⟨e1, e2, e3, rfl, by simp only; omega, by simp only; omega⟩, by simp only; omega⟩⟩
      · exact ⟨.brk 0 (u, x, all, ((expandS t).1.length : Int), i), by simp [hi], .inr ⟨by simp, _, rfl⟩⟩) N ((expandS t).1, expL t, allS t, ((expandS t).1.length : Int), 0) ⟨rfl, rfl, rfl, rfl, by simp, by simp⟩ (by simp only; omega)
  unfold W5_25
  rw [ho]
  obtain ⟨x, rfl⟩ := hp
  exact ⟨x, rfl⟩

theorem L_stay (N : Nat) (t : List Ln) (hN : 100000000 < N) : F5 N t = some true := by
  unfold F5 V5
  simp only [ev_br, ev_leaf, ev_c1, ev_c2, ev_c3, ev_c4, ev_cr, ev_cr2, ev_f0, ev_f1, ev_f2, obind_some, decide_eq_true_eq, Bool.not_eq_true', Bool.true_eq_false, Bool.false_eq_true, if_true, if_false, reduceCtorEq, F_few N t (by omega), E_awake N hN]
  by_cases hf : fewS t = true
  · have hl := few_len hf
    simp only [ev_br, ev_leaf, ev_c1, ev_c2, ev_c3, ev_c4, ev_cr, ev_cr2, ev_f0, ev_f1, ev_f2, obind_some, decide_eq_true_eq, Bool.not_eq_true', Bool.true_eq_false, Bool.false_eq_true, if_true, if_false, reduceCtorEq, hf, R_right N t (by omega)]
    by_cases hr : rightS t = true
    · obtain ⟨b, hb⟩ := F_brief N t hr (by omega)
      have hrf := (rightS_iff.1 hr).2
      simp only [ev_br, ev_leaf, ev_c1, ev_c2, ev_c3, ev_c4, ev_cr, ev_cr2, ev_f0, ev_f1, ev_f2, obind_some, decide_eq_true_eq, Bool.not_eq_true', Bool.true_eq_false, Bool.false_eq_true, if_true, if_false, reduceCtorEq, hr, hb]
      cases b with
      | false => rfl
      | true =>
        simp only [ev_br, ev_leaf, ev_c1, ev_c2, ev_c3, ev_c4, ev_cr, ev_cr2, ev_f0, ev_f1, ev_f2, obind_some, decide_eq_true_eq, Bool.not_eq_true', Bool.true_eq_false, Bool.false_eq_true, if_true, if_false, reduceCtorEq, E_expand N t hN (by omega), E_explicit N t (by omega), hr]
        by_cases he : (expandS t).2 = 0
        · have hne : ((expandS t).2 != 0) = false := by simpa using he
          obtain ⟨m1, m2, m3, m4, m5⟩ := expand_map hr he
          have hul := (rightS_iff.1 m1).1
          have hcl : ¬ ((expandS t).1.length : Int) < ((expL t).length : Int) := by omega
          have hapl : ([([97, 112, 112, 108, 121] : Bs)] : List Bs) = [apl] := rfl
          have hwl : (wordsS (actL t) [apl]).length ≤ 200 := by
            have hra := act_right hr
            unfold wordsS
            rw [List.length_map]
            refine Nat.le_trans (List.length_filter_le _ _) ?_
            rw [ents_length]
            have := act_len t
            omega
          obtain ⟨x, hx, x1, x2, x3⟩ := S_has N t hr he (by omega)
          obtain ⟨y, hy, y1, y2, y3⟩ := S_all N t (expandS t).1 (expL t) (wordsS (actL t) [apl]) hr (by omega) hwl
          have hal : (allS t).length ≤ 50000000 := by
            have := all_len hr (wordsS (actL t) [apl])
            unfold allS
            omega
          obtain ⟨z, hz⟩ := S_new N t hr he (by omega) hal
          have y3' : y.2.2.2.1 = allS t := y3
          simp only [hne, ev_br, ev_leaf, ev_c1, ev_c2, ev_c3, ev_c4, ev_cr, ev_cr2, ev_f0, ev_f1, ev_f2, obind_some, decide_eq_true_eq, Bool.not_eq_true', Bool.true_eq_false, Bool.false_eq_true, if_true, if_false, reduceCtorEq, bne_self_eq_false, F_right N (expandS t).1 (by omega), m1, hcl, hx, lp1_brk, x1, x2, x3, R_active N t hr (by omega), hapl, R_words N (actL t) [apl] (act_right hr) (by simp) (by omega), hy, y1, y2, y3', hz]
        · have hne : ((expandS t).2 != 0) = true := by simpa using he
          have hex := expand_err he
          simp (config := { decide := true }) only [hne, ev_br, ev_leaf, ev_c1, ev_c2, ev_c3, ev_c4, ev_cr, ev_cr2, ev_f0, ev_f1, ev_f2, obind_some, decide_eq_true_eq, Bool.not_eq_true', Bool.true_eq_false, Bool.false_eq_true, if_true, if_false, reduceCtorEq, hex, List.length_nil]
    · have hr' : rightS t = false := by simpa using hr
      simp only [ev_br, ev_leaf, ev_c1, ev_c2, ev_c3, ev_c4, ev_cr, ev_cr2, ev_f0, ev_f1, ev_f2, obind_some, decide_eq_true_eq, Bool.not_eq_true', Bool.true_eq_false, Bool.false_eq_true, if_true, if_false, reduceCtorEq, hr']
  · have hf' : fewS t = false := by simpa using hf
    simp only [ev_br, ev_leaf, ev_c1, ev_c2, ev_c3, ev_c4, ev_cr, ev_cr2, ev_f0, ev_f1, ev_f2, obind_some, decide_eq_true_eq, Bool.not_eq_true', Bool.true_eq_false, Bool.false_eq_true, if_true, if_false, reduceCtorEq, hf']

end Go.Proofs.Ytannkhelkpmcfaa.Vc
