/-
  WHAT PACKAGE lines ANSWERS: a text, read. No condition.
-/
import Derived.Test.YtkbciolghkcjoaaPo
set_option linter.unusedVariables false
set_option linter.unusedSimpArgs false
namespace Go.Proofs.Ytkbciolghkcjoaa.Vc

/-- Where the commands stop, and why, where a command was whole but could not be done. -/
def failE : Nat → List Tok → List Ln → Option (Int × Int)
  | 0, _, _ => none
  | _ + 1, [], _ => none
  | f + 1, x :: l, t => match cutB ((x :: l).map bareK) with
    | none => none
    | some (c, r) => if (actS t c).2 = 0 then failE f ((x :: l).drop ((x :: l).length - r.length)) (actS t c).1 else some (x.2.1, (actS t c).2)

theorem P_loop (N : Nat) (s : Bs) (l : List Tok) (u : List Ln) (hu : rightS u = true) (hl : l.length ≤ 1000000) (hlN : l.length + 5000 < N) :
    ∃ o, W19_5 N (s, l, u) = some o ∧
      ((∃ v, o = .brk 0 (s, [], v) ∧ runF (l.length + 1) (l.map bareK) u = some v ∧ rightS v = true) ∨
       (∃ a e, o = .ret (([] : List Ln), a, e) ∧ e ≠ 0 ∧ runF (l.length + 1) (l.map bareK) u = none ∧ ∀ p, failE (l.length + 1) l u = some p → p = (a, e))) := by
  obtain ⟨o, ho, hp⟩ := runLoop_post (R := List Ln × Int × Int) (step := fun x => L19_5 N x.1 x.2.1 x.2.2)
    (fun x => x.1 = s ∧ rightS x.2.2 = true ∧ x.2.1.length ≤ l.length ∧ ∃ f, x.2.1.length < f ∧ runF f (x.2.1.map bareK) x.2.2 = runF (l.length + 1) (l.map bareK) u ∧ failE f x.2.1 x.2.2 = failE (l.length + 1) l u) (fun x => x.2.1.length)
    (fun o => (∃ v, o = .brk 0 (s, [], v) ∧ runF (l.length + 1) (l.map bareK) u = some v ∧ rightS v = true) ∨
       (∃ a e, o = .ret (([] : List Ln), a, e) ∧ e ≠ 0 ∧ runF (l.length + 1) (l.map bareK) u = none ∧ ∀ p, failE (l.length + 1) l u = some p → p = (a, e)))
    (by
      rintro ⟨s', l', u'⟩ ⟨hs', hr, hlen, f, hf, hrun, hfail⟩
      dsimp only at hs' hr hlen hf hrun hfail ⊢
      subst hs'
      unfold L19_5 U19_5
      cases f with
      | zero => omega
      | succ f =>
        cases l' with
        | nil =>
          refine ⟨.brk 0 (s', [], u'), by simp only [ev_br, ev_leaf, List.length_nil]; rfl, .inr ⟨by simp, .inl ⟨u', rfl, ?_, hr⟩⟩⟩
          rw [← hrun]; rfl
        | cons y l2 =>
          obtain ⟨L, hL⟩ : ∃ L, y :: l2 = L := ⟨_, rfl⟩
          have hLl : L.length = l2.length + 1 := by rw [← hL]; rfl
          have hpos : decide ((0 : Int) < (L.length : Int)) = true := by simp; omega
          have c1 : inR (0 : Int) L.length := ⟨by omega, by omega⟩
          have hat : atI (.pair tI tLn) L 0 = y := by rw [← hL]; rfl
          have er : runF (f + 1) (L.map bareK) u' = (match cutB (L.map bareK) with | none => none | some (c, r) => if (actS u' c).2 = 0 then runF f r (actS u' c).1 else none) := by rw [← hL]; rfl
          have ef : failE (f + 1) L u' = (match cutB (L.map bareK) with | none => none | some (c, r) => if (actS u' c).2 = 0 then failE f (L.drop (L.length - r.length)) (actS u' c).1 else some (y.2.1, (actS u' c).2)) := by rw [← hL]; rfl
          rw [hL] at hrun hfail hf hlen ⊢
          rcases P_cut N L (s'.length : Int) (by omega) (by omega) with ⟨path, n, hC, h0n, hn, x, r, hxr, hp16, hb, hcut⟩ | ⟨a, b, hC, hb, hno⟩
          · rw [← hL] at hxr
            injection hxr with hx hrr
            subst hx
            have hA := P_act N u' y.2.2.1 path hr hb (by omega) (by omega)
            rw [hcut] at er ef
            dsimp only at er ef
            obtain ⟨A, hAe⟩ : ∃ A, actS u' (bitsS y.2.2.1, path) = A := ⟨_, rfl⟩
            rw [hAe] at hA er ef
            obtain ⟨w, e⟩ := A
            dsimp only at er ef
            rw [List.length_map, List.length_drop, show L.length - (L.length - n) = n by omega] at ef
            have z0 : ((0 : Int) != 0) = false := rfl
            by_cases hz : e = 0
            · subst hz
              rw [if_pos rfl] at er ef
              have hs := act_spec (c := (bitsS y.2.2.1, path)) hr (bits_good _ hb) (by rw [hAe])
              rw [hAe] at hs
              have k1 : (0 : Int) ≤ (n : Int) ∧ (n : Int) ≤ (L.length : Int) ∧ (L.length : Int) ≤ (L.length : Int) := ⟨by omega, by omega, by omega⟩
              refine ⟨.next (s', L.drop n, w), by simp only [ev_br, ev_leaf, ev_c2, ev_c4, hpos, if_true, hC, obind_some, z0, Bool.false_eq_true, if_false, ev_ck c1, hat, hA, ev_ck k1, slcE, Int.toNat_natCast], .inl ⟨_, rfl, ⟨rfl, hs.1, ?_, f, ?_, ?_, ?_⟩, ?_⟩⟩
              · simp only [List.length_drop]; omega
              · simp only [List.length_drop]; omega
              · rw [← hrun, er]
              · rw [← hfail, ef]
              · simp only [List.length_drop]; omega
            · rw [if_neg hz] at er ef
              have ze : (e != 0) = true := by simpa using hz
              refine ⟨.ret (([] : List Ln), y.2.1, e), by simp only [ev_br, ev_leaf, ev_c2, ev_c4, hpos, if_true, hC, obind_some, z0, Bool.false_eq_true, if_false, ev_ck c1, hat, hA, ze], .inr ⟨by simp, .inr ⟨_, _, rfl, hz, ?_, fun p hp => ?_⟩⟩⟩
              · rw [← hrun, er]
              · rw [← hfail, ef] at hp
                injection hp with hp
                exact hp.symm
          · have hn : cutB (L.map bareK) = none := by
              cases hc : cutB (L.map bareK) with
              | none => rfl
              | some q => exact absurd hc (hno q)
            rw [hn] at er ef
            dsimp only at er ef
            have zb : (b != 0) = true := by simpa using hb
            refine ⟨.ret (([] : List Ln), a, b), by simp only [ev_br, ev_leaf, ev_c4, hpos, if_true, hC, obind_some, zb], .inr ⟨by simp, .inr ⟨_, _, rfl, hb, ?_, fun p hp => ?_⟩⟩⟩
            · rw [← hrun, er]
            · rw [← hfail, ef] at hp
              cases hp)
    N (s, l, u) ⟨rfl, hu, Nat.le_refl _, l.length + 1, Nat.lt_succ_self _, rfl, rfl⟩ (by show l.length < N; omega)
  exact ⟨o, ho, hp⟩

def toksT (s : Bs) : Option (List Tok) := match lexR s with | .ok l => some (l.map (toTok s.length)) | .error _ => none

/-- A text, read: the commands that it is, done; or no tree. -/
theorem P_read (N : Nat) (s : Bs) (hs : s.length ≤ 1000000) (hN : s.length + 5000 < N) :
    ∃ v a e, F19 N s = some (v, a, e) ∧
      ((e = 0 ∧ a = 0 ∧ rightS v = true ∧ ∃ l cs, lexR s = .ok l ∧ Parses (l.map bareT) cs ∧ Acts [] cs v) ∨
       (e ≠ 0 ∧ v = [] ∧ (∀ l cs w, lexR s = .ok l → Parses (l.map bareT) cs → ¬ Acts [] cs w) ∧ ∀ l p, lexR s = .ok l → failE (l.length + 1) (l.map (toTok s.length)) [] = some p → p = (a, e))) := by
  have hlex := F_all N s (by omega) hs
  unfold F19 V19
  have hcases : (∃ l, lexR s = .ok l) ∨ ∃ k e, lexR s = .error (k, e) := by
    cases h : lexR s with
    | ok l => exact .inl ⟨l, rfl⟩
    | error ke => exact .inr ⟨ke.1, ke.2, rfl⟩
  rcases hcases with ⟨l, hok⟩ | ⟨k, e, her⟩
  · have hA : allS s = (l.map (toTok s.length), 0, 0) := by unfold allS; rw [hok]
    have z0 : ((0 : Int) != 0) = false := rfl
    have h1 := lex_len s l hok
    obtain ⟨o, ho, hp⟩ := P_loop N s (l.map (toTok s.length)) [] (by decide) (by rw [List.length_map]; omega) (by rw [List.length_map]; omega)
    rw [bareK_to, List.length_map] at hp
    simp only [ev_c3, hlex, hA, obind_some, ev_br, z0, Bool.false_eq_true, if_false, ev_f1, ho, ev_leaf]
    rcases hp with ⟨v, rfl, hv, hr⟩ | ⟨a, e, rfl, he, hv, hf⟩
    · refine ⟨v, 0, 0, rfl, .inl ⟨rfl, rfl, hr, ?_⟩⟩
      obtain ⟨cs, h3, h4⟩ := (run_iff _ _ _ _ (by simp)).1 hv
      exact ⟨l, cs, hok, h3, h4⟩
    · refine ⟨[], a, e, rfl, .inr ⟨he, rfl, fun l' cs w hl' hpa hac => ?_, fun l' p hl' hp => ?_⟩⟩
      · rw [hok] at hl'
        injection hl' with hl'
        subst hl'
        have := (run_iff (l.length + 1) (l.map bareT) [] w (by simp)).2 ⟨cs, hpa, hac⟩
        rw [hv] at this; cases this
      · rw [hok] at hl'
        injection hl' with hl'
        subst hl'
        exact hf p hp
  · have hA : allS s = ([], (s.length : Int) - (k : Int), e) := by unfold allS; rw [her]
    have hk : e ≠ 0 := (lex_err s.length s k e (Nat.le_refl _) her).2.2
    have ze : (e != 0) = true := by simpa using hk
    simp only [ev_c3, hlex, hA, obind_some, ev_br, ze, if_true, ev_leaf]
    refine ⟨[], _, e, rfl, .inr ⟨hk, rfl, fun l' cs w hl' => ?_, fun l' p hl' => ?_⟩⟩
    · rw [her] at hl'; cases hl'
    · rw [her] at hl'; cases hl'

end Go.Proofs.Ytkbciolghkcjoaa.Vc
