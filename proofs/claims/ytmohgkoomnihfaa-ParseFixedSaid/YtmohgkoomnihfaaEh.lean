/-
  WHAT THE DOCUMENT'S FUNCTIONS OF EDITING ANSWER: the same. No condition.
-/
import Derived.Test.YtmohgkoomnihfaaTh
import Derived.Test.YtmohgkoomnihfaaEg
set_option linter.unusedVariables false
set_option linter.unusedSimpArgs false
namespace Go.Proofs.Ytmohgkoomnihfaa.Vc

theorem R_finds (N : Nat) (t : List Ln) (q : List Bs) (hrf : rf [] t = true) (hm : t.length ≤ 1073741824) (hq : q.length ≤ 1073741824) (hN : t.length + 16 < N) : F24 N t q = some (match fnd t q with | some i => (i : Int) | none => -1) := by
  obtain ⟨i, ho, ⟨h0, hi, he⟩ | ⟨rfl, hn⟩⟩ := R_find0 N t q hrf hm hq hN
  · have hf : fnd t q = some i.toNat := by rw [← he]; exact fnd_at hrf (by omega)
    rw [ho, hf]; simp [Int.toNat_of_nonneg h0]
  · have hf : fnd t q = none := fnd_none0.2 (gt_none.2 hn)
    rw [ho, hf]

theorem R_with (N : Nat) (q : List Bs) (w : Bs) (h : q.length ≤ 1000000) : F23o N q w = some (q ++ [w]) := by
  unfold F23o V23o
  have h1 : room q.length := by show _ ≤ _; omega
  have h2 : room (q.length + ([w] : List Bs).length) := by show _ ≤ _; simp; omega
  rw [ev_ck h1, ev_ck h2, ev_leaf]

theorem R_putLoop (N : Nat) (t : List Ln) (u : List Bs) (w : Bs) (m : Int) (e : Int) (ks : List Int) (hk : ∀ k ∈ ks, 0 ≤ k ∧ k < t.length) (hl : ks.length ≤ 1000000) (hN : ks.length + 1 < N) :
    W25o_8 N (t, u, w, m, e, ks, (ks.length : Int) - 1) = some (.brk 0 (t, u, w, m, spotL t w ks e, ks, -1)) := by
  obtain ⟨o, ho, hp⟩ := runLoop_post (R := List Ln) (step := fun x => L25o_8 N x.1 x.2.1 x.2.2.1 x.2.2.2.1 x.2.2.2.2.1 x.2.2.2.2.2.1 x.2.2.2.2.2.2)
    (fun x => x.1 = t ∧ x.2.1 = u ∧ x.2.2.1 = w ∧ x.2.2.2.1 = m ∧ x.2.2.2.2.2.1 = ks ∧ -1 ≤ x.2.2.2.2.2.2 ∧ x.2.2.2.2.2.2 < ks.length ∧ x.2.2.2.2.1 = spotL t w (ks.drop (x.2.2.2.2.2.2 + 1).toNat) e) (fun x => (x.2.2.2.2.2.2 + 1).toNat)
    (fun o => o = .brk 0 (t, u, w, m, spotL t w ks e, ks, -1))
    (by
      rintro ⟨t', u', w', m', a, ks', i⟩ ⟨e1, e2, e3, e4, e5, h0, hle, ha⟩
      dsimp only at e1 e2 e3 e4 e5 h0 hle ha ⊢
      subst e1; subst e2; subst e3; subst e4; subst e5
      unfold L25o_8 U25o_8
      by_cases hi : 0 ≤ i
      · have hil : i.toNat < ks'.length := by omega
        have c1 : inR i ks'.length := ⟨hi, hle⟩
        have hat : atI tI ks' i = ks'[i.toNat] := by show ks'.getD _ _ = _; simp [hil]
        have c2 : inR (ks'[i.toNat]) t'.length := hk _ (List.getElem_mem hil)
        have hd := List.drop_eq_getElem_cons hil
        have hnext : spotL t' w' (ks'.drop i.toNat) e = if bl w' (t'.getD (ks'[i.toNat]).toNat (0, [], 0)).2.1 = true then ks'[i.toNat] else a := by
          rw [hd, ha, show (i + 1).toNat = i.toNat + 1 by omega]
          unfold spotL
          rw [List.find?_cons]
          cases bl w' (t'.getD (ks'[i.toNat]).toNat (0, [], 0)).2.1 <;> simp
        have e6 : (i - 1 + 1).toNat = i.toNat := by omega
        simp (disch := first | assumption | omega) only [ev_br, ev_leaf, ev_c1, ev_c2, ev_c3, ev_c4, ev_cr, ev_cr2, ev_f0, ev_f1, ev_f2, obind_some, decide_eq_true_eq, Bool.not_eq_true', Bool.true_eq_false, Bool.false_eq_true, if_true, if_false, reduceCtorEq, ev_ck, hi, wrapI, hat, atI_nat, bl_not, Bool.not_not]
        by_cases hb : bl w' (t'.getD (ks'[i.toNat]).toNat (0, [], 0)).2.1 = true
        · rw [if_pos hb] at hnext ⊢
          refine ⟨_, rfl, .inl ⟨_, rfl, ⟨rfl, rfl, rfl, rfl, rfl, by simp only; omega, by simp only; omega, ?_⟩, by simp only; omega⟩⟩
          simp only
          rw [e6, hnext]
        · rw [if_neg hb] at hnext ⊢
          refine ⟨_, rfl, .inl ⟨_, rfl, ⟨rfl, rfl, rfl, rfl, rfl, by simp only; omega, by simp only; omega, ?_⟩, by simp only; omega⟩⟩
          simp only
          rw [e6, hnext]
      · have : i = -1 := by omega
        subst this
        refine ⟨.brk 0 (t', u', w', m', a, ks', -1), by simp, .inr ⟨by simp, ?_⟩⟩
        rw [ha]; rfl) N (t, u, w, m, e, ks, (ks.length : Int) - 1) ⟨rfl, rfl, rfl, rfl, rfl, by simp only; omega, by simp only; omega, by
          simp only
          rw [show ((ks.length : Int) - 1 + 1).toNat = ks.length by omega, List.drop_length]; rfl⟩ (by simp only; omega)
  unfold W25o_8
  rw [ho, hp]

theorem R_put (N : Nat) (t : List Ln) (u : List Bs) (w : Bs) (m : Int) (hrf : rf [] t = true) (ht : t.length ≤ 100000) (hq : gt t (u ++ [w]) = none) (hu : u = [] ∨ gt t u ≠ none) (hN : t.length + 16 < N) (hul : u.length ≤ 100000) : F25o N t u w m = some (insT t (u ++ [w]) m) := by
  unfold F25o V25o
  have fin : ∀ p : Nat, p ≤ t.length → (p : Int) = plc t (u ++ [w]) → slc t 0 (p : Int) ++ ([((u.length : Int), w, m)] : List Ln) ++ slc t (p : Int) (t.length : Int) = insT t (u ++ [w]) m := by
    intro p hp he
    have : p = plc t (u ++ [w]) := by omega
    subst this
    rw [slc0, slcE, Int.toNat_natCast]
    unfold insT ln
    simp
  have hple := plc_le t (u ++ [w])
  have room1 : ∀ l : List Ln, l.length ≤ 1000000 → room l.length := fun l h => by show _ ≤ _; omega
  rcases hu with rfl | hu
  · have h1 : ¬ (0 : Int) < (([] : List Bs).length : Int) := by simp
    have hkl := kids_len t (-1)
    have hL := R_putLoop N t [] w m (t.length : Int) (kidsL t (-1)) (fun k hk => kids_in hk) (by omega) (by omega)
    have hsp := spot_root hrf (w := w) (by simpa using hq)
    rw [List.nil_append] at hple fin
    rw [hsp] at hL
    have r1 : room (slc t 0 (plc t [w] : Int)).length := by rw [slc0]; apply room1; rw [List.length_take]; omega
    have r2 : room ((slc t 0 (plc t [w] : Int)).length + ([((([] : List Bs).length : Int), w, m)] : List Ln).length) := by rw [slc0, List.length_take]; show _ ≤ _; simp; omega
    have r3 : room (((slc t 0 (plc t [w] : Int)) ++ ([((([] : List Bs).length : Int), w, m)] : List Ln)).length + (slc t (plc t [w] : Int) (t.length : Int)).length) := by
      rw [slc0, slcE]; show _ ≤ _; simp; omega
    simp (disch := omega) only [ev_br, ev_leaf, ev_c1, ev_c2, ev_c3, ev_c4, ev_cr, ev_cr2, ev_f0, ev_f1, ev_f2, obind_some, decide_eq_true_eq, Bool.not_eq_true', Bool.true_eq_false, Bool.false_eq_true, if_true, if_false, reduceCtorEq, h1, R_kids N t (-1) (by omega) (by omega), kidsS_eq, wrapI, hL, lp1_brk]
    have k1 : (0 : Int) ≤ 0 ∧ (0 : Int) ≤ (plc t [w] : Int) ∧ (plc t [w] : Int) ≤ (t.length : Int) := by omega
    have k2 : (0 : Int) ≤ (plc t [w] : Int) ∧ (plc t [w] : Int) ≤ (t.length : Int) ∧ (t.length : Int) ≤ (t.length : Int) := by omega
    simp (disch := assumption) only [ev_ck, ev_leaf]
    rw [fin _ (by omega) rfl, List.nil_append]
  · have hu0 : u ≠ [] := fun e => hu (by rw [e]; exact gt_nil t)
    have h1 : (0 : Int) < (u.length : Int) := by have := List.length_pos_iff.2 hu0; omega
    cases hf : fnd t u with
    | none => exact absurd (fnd_none0.1 hf) hu
    | some i =>
      obtain ⟨hi, hp⟩ := fnd_of hf
      have hkl := kids_len t i
      have hL := R_putLoop N t u w m (endN t i : Int) (kidsL t i) (fun k hk => kids_in hk) (by omega) (by omega)
      have hsp := spot_kid hrf hi (w := w) (by rw [hp]; exact hq)
      rw [hp] at hsp
      rw [hsp] at hL
      have r1 : room (slc t 0 (plc t (u ++ [w]) : Int)).length := by rw [slc0]; apply room1; rw [List.length_take]; omega
      have r2 : room ((slc t 0 (plc t (u ++ [w]) : Int)).length + ([((u.length : Int), w, m)] : List Ln).length) := by rw [slc0, List.length_take]; show _ ≤ _; simp; omega
      have r3 : room (((slc t 0 (plc t (u ++ [w]) : Int)) ++ ([((u.length : Int), w, m)] : List Ln)).length + (slc t (plc t (u ++ [w]) : Int) (t.length : Int)).length) := by
        rw [slc0, slcE]; show _ ≤ _; simp; omega
      simp (disch := omega) only [ev_br, ev_leaf, ev_c1, ev_c2, ev_c3, ev_c4, ev_cr, ev_cr2, ev_f0, ev_f1, ev_f2, obind_some, decide_eq_true_eq, Bool.not_eq_true', Bool.true_eq_false, Bool.false_eq_true, if_true, if_false, reduceCtorEq, h1, R_finds N t u hrf (by omega) (by omega) hN, hf, R_end N t i (by omega) (by omega) (by omega) (by omega), R_kids N t i (by omega) (by omega), kidsS_eq, Int.toNat_natCast, wrapI, hL, lp1_brk]
      have k1 : (0 : Int) ≤ 0 ∧ (0 : Int) ≤ (plc t (u ++ [w]) : Int) ∧ (plc t (u ++ [w]) : Int) ≤ (t.length : Int) := by omega
      have k2 : (0 : Int) ≤ (plc t (u ++ [w]) : Int) ∧ (plc t (u ++ [w]) : Int) ≤ (t.length : Int) ∧ (t.length : Int) ≤ (t.length : Int) := by omega
      simp (disch := assumption) only [ev_ck, ev_leaf]
      rw [fin _ (by omega) rfl]

end Go.Proofs.Ytmohgkoomnihfaa.Vc
