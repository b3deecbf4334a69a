/-
  THE CONDITION IS SOUND, FOURTH PART: rows of cells that are written one by one; structs that are built; all quiet operations under one name.
  No condition: the lemmas hold for every program.
-/
import Derived.Test.YtnkinnhgahpcoaaVr
namespace Go.Proofs.Ytnkinnhgahpcoaa.Vc
open Go.RowKit

section
variable {P : Program} {w0 : W0 P} {w : World} {F0 F : Nat → Prop} {M : Nat → Option MO} {σ : St} {a : Act} {o : Oper}

/-- Cells, one by one, hold what the list says. -/
def Rel (w : World) (F : Nat → Prop) (M : Nat → Option MO) (us : List Value) (cs : List D) : Prop :=
  us.length = cs.length ∧ ∀ (j : Nat) c, cs[j]? = some c → ∃ u, us[j]? = some u ∧ u.oneCell' = true ∧ R0 w F M u c

def setLV (us : List Value) (off : Nat) : List Value → List Value
  | [] => us
  | v :: r => setLV (us.set off v) (off + 1) r

theorem Rel.set {us : List Value} {cs : List D} (h : Rel w F M us cs) {off : Nat} {u : Value} {c : D} (h1 : u.oneCell' = true) (h2 : R0 w F M u c) : Rel w F M (us.set off u) (cs.set off c) := by
  refine ⟨by simp [h.1], fun j d hj => ?_⟩
  rw [List.getElem?_set] at hj
  split at hj
  · rename_i e
    subst e
    split at hj
    · rename_i hlt
      have : c = d := by simpa using hj
      subst this
      exact ⟨u, by rw [List.getElem?_set]; simp [h.1, hlt], h1, h2⟩
    · cases hj
  · rename_i hne
    obtain ⟨u', h3, h4⟩ := h.2 j d hj
    exact ⟨u', by rw [List.getElem?_set]; simp [hne, h3], h4⟩

theorem Rel.setFrom : ∀ {vs : List Value} {new : List D} {us : List Value} {cs : List D} {off : Nat}, Rel w F M us cs → Rel w F M vs new → Rel w F M (setLV us off vs) (setFrom cs off new)
  | [], [], _, _, _, h, _ => h
  | [], _ :: _, _, _, _, _, h => by have := h.1; simp at this
  | _ :: _, [], _, _, _, _, h => by have := h.1; simp at this
  | v :: vs, d :: new, us, cs, off, h, hn => by
    obtain ⟨u, h1, h2, h3⟩ := hn.2 0 d rfl
    have : v = u := by simpa using h1
    subst this
    show Rel w F M (setLV (us.set off v) (off + 1) vs) (Vc.setFrom (cs.set off d) (off + 1) new)
    exact Rel.setFrom (h.set h2 h3) ⟨by have := hn.1; simpa using this, fun j c hj => hn.2 (j + 1) c (by simpa using hj)⟩

theorem setLV_len : ∀ (vs us : List Value) (off : Nat), (setLV us off vs).length = us.length
  | [], _, _ => rfl
  | v :: r, us, off => by rw [setLV, setLV_len r]; simp

theorem setLV_eq : ∀ (vs us : List Value) (off : Nat), off + vs.length ≤ us.length → setLV us off vs = us.take off ++ vs ++ us.drop (off + vs.length)
  | [], us, off, h => by simp [setLV]
  | v :: r, us, off, h => by
    simp only [List.length_cons] at h
    have hlt : off < us.length := by omega
    rw [setLV, setLV_eq r _ _ (by simp; omega)]
    have h1 : (us.set off v).take (off + 1) = us.take off ++ [v] := by
      rw [List.take_succ_eq_append_getElem (by simpa using hlt), List.take_set_of_le (Nat.le_refl _)]
      simp
    have h2 : (us.set off v).drop (off + 1 + r.length) = us.drop (off + (v :: r).length) := by
      rw [List.drop_set_of_lt (by omega)]
      simp only [List.length_cons]
      congr 1
      omega
    rw [h1, h2]
    simp

theorem fold_set : ∀ (l : List Value) (k off : Nat) (cells : Array Value), ((l.zipIdx k).foldl (fun cs (p : Value × Nat) => cs.setIfInBounds (off + p.2) p.1) cells).toList = setLV cells.toList (off + k) l
  | [], _, _, _ => rfl
  | v :: r, k, off, cells => by
    simp only [List.zipIdx_cons, List.foldl_cons, setLV]
    rw [fold_set r (k + 1) off]
    simp [Nat.add_assoc]

theorem cellsOf_spec {v : Value} {d : D} {new : List D} (h : R w F M v d) (hc : cellsOf d = some new) : Rel w F M v.cells.toList new := by
  have leaf : v.oneCell' = true → R0 w F M v d → new = [d] → Rel w F M v.cells.toList new := fun h1 h2 h3 => by
    subst h3
    have : v.cells = #[v] := by cases v <;> simp_all [Value.oneCell', Value.cells]
    rw [this]
    refine ⟨rfl, fun j c hj => ?_⟩
    cases j with
    | zero =>
      have : d = c := by simpa using hj
      subst this
      exact ⟨v, rfl, h1, h2⟩
    | succ j => simp at hj
  cases d <;> simp only [cellsOf, Option.some.injEq] at hc <;> first | (cases hc; done) | skip
  case agg cs =>
    subst hc
    obtain ⟨vs, rfl, h1, h2⟩ := h
    refine ⟨by simpa [Value.cells] using h1, fun j c hj => ?_⟩
    obtain ⟨u, h3, h4⟩ := h2 j c hj
    exact ⟨u, by simpa [Value.cells] using h3, h4⟩
  case val t x =>
    have h' : RV w F t x [v] := h
    exact leaf (h'.one v (by simp)) h hc.symm
  case fn f =>
    have h' : v = .func f #[] #[] := h
    exact leaf (by rw [h']; rfl) h hc.symm
  case nils =>
    obtain ⟨A, h'⟩ := id h
    exact leaf (by rw [h']; rfl) h hc.symm
  case slo i =>
    obtain ⟨mo, h1, h2, h3⟩ := id h
    exact leaf h3 h hc.symm
  case ptr i off =>
    obtain ⟨mo, g, h1, h2, h3⟩ := id h
    exact leaf (by rw [h3]; rfl) h hc.symm
  case aptr i =>
    obtain ⟨mo, g, h1, h2, h3⟩ := id h
    exact leaf (by rw [h3]; rfl) h hc.symm
  case pnil =>
    have h' : v = .pointer none := h
    exact leaf (by rw [h']; rfl) h hc.symm
  case clo g cs =>
    obtain ⟨us, h1, h2⟩ := id h
    exact leaf (by rw [h1]; rfl) h hc.symm

/-- The parts of a literal, as values. -/
def vParts (a : Act) (l : List (Nat × Operand)) : List (Nat × Value) := l.map fun p => (p.1, a.eval p.2)

theorem fill_sound (h : Inv w0 F0 F M σ a w) {fs : Array Field} {place : Nat → Option (Nat × Nat)} (hp : ∀ i fd, fs[i]? = some fd → place i = some (fd.offset, sizeT P fd.type)) :
    ∀ (l : List (Nat × Operand)) (cells : Array Value) (cs out : List D), Rel w F M cells.toList cs → buildD P fs (evParts σ l) cs = some out →
      ∃ cells', Instr.fill place cells (vParts a l) = some cells' ∧ Rel w F M cells'.toList out
  | [], cells, cs, out, hr, hb => by
    simp only [evParts, buildD, Option.some.injEq] at hb
    subst hb
    exact ⟨cells, rfl, hr⟩
  | (i, x) :: l, cells, cs, out, hr, hb => by
    simp only [evParts, buildD] at hb
    split at hb
    · rename_i fd new hfd hc
      have hx := cellsOf_spec (h.ev x) hc
      have hlen : (a.eval x).cells.size = new.length := by simpa using hx.1
      cases hcond : (Nat.beq new.length (sizeT P fd.type) && Nat.ble (fd.offset + new.length) cs.length) with
      | false => rw [hcond] at hb; cases hb
      | true =>
        rw [hcond] at hb
        simp only [Bool.and_eq_true] at hcond
        have h1 := Nat.eq_of_beq_eq_true hcond.1
        have h2 : fd.offset + new.length ≤ cs.length := Nat.le_of_ble_eq_true hcond.2
        have hsz : cells.size = cs.length := by simpa using hr.1
        have hfold : ((a.eval x).cells.zipIdx.foldl (fun cs (p : Value × Nat) => cs.setIfInBounds (fd.offset + p.2) p.1) cells).toList = setLV cells.toList fd.offset (a.eval x).cells.toList := by
          rw [← Array.foldl_toList, Array.toList_zipIdx, fold_set]; rfl
        have hr2 : Rel w F M ((a.eval x).cells.zipIdx.foldl (fun cs (p : Value × Nat) => cs.setIfInBounds (fd.offset + p.2) p.1) cells).toList (setFrom cs fd.offset new) := by
          rw [hfold]; exact hr.setFrom hx
        obtain ⟨cells', h3, h4⟩ := fill_sound h hp l _ _ _ hr2 hb
        refine ⟨cells', ?_, h4⟩
        have hne : ¬ ((decide ((a.eval x).cells.size ≠ sizeT P fd.type) || decide (fd.offset + (a.eval x).cells.size > cells.size)) = true) := by
          simp only [Bool.or_eq_true, decide_eq_true_eq]
          omega
        simp only [vParts, List.map_cons, Instr.fill, hp i fd hfd]
        rw [if_neg hne]
        exact h3
    · cases hb

theorem goods_spec : ∀ {zs : List D}, goods zs = true → ∀ (j : Nat) c, zs[j]? = some c → c ≠ .bad
  | [], _, j, c, hj => by simp at hj
  | z :: r, hg, j, c, hj => by
    cases z <;> simp only [goods] at hg <;> first | (cases hg; done) | skip
    all_goals
      cases j with
      | zero => simp only [List.getElem?_cons_zero, Option.some.injEq] at hj; subst hj; simp
      | succ j => exact goods_spec hg j c (by simpa using hj)

theorem ofVal_one {v : Value} (h : ofVal v ≠ .bad) : v.oneCell' = true := by
  unfold ofVal at h
  split at h <;> first | rfl | exact absurd rfl h

theorem ofVals_get : ∀ (l : List Value) (j : Nat), (ofVals l)[j]? = (l[j]?).map ofVal
  | [], j => by simp [ofVals]
  | v :: r, 0 => by simp [ofVals]
  | v :: r, j + 1 => by simpa [ofVals] using ofVals_get r j
theorem ofVals_len : ∀ l : List Value, (ofVals l).length = l.length
  | [] => rfl
  | v :: r => by simp [ofVals, ofVals_len r]

theorem zero_rel {vs : List Value} (hg : goods (ofVals vs) = true) : Rel w F M vs (ofVals vs) := by
  refine ⟨(ofVals_len vs).symm, fun j c hj => ?_⟩
  have hne := goods_spec hg j c hj
  rw [ofVals_get] at hj
  obtain ⟨u, h1, rfl⟩ := Option.map_eq_some_iff.1 hj
  exact ⟨u, h1, ofVal_one hne, R0.ofVal u⟩

theorem allSized_spec : ∀ {l : List Field}, allSized P l = true → l.mapM (fun f => (P.info? f.type).map fun i => (f.offset, i.size)) = some (l.map fun f => (f.offset, sizeT P f.type))
  | [], _ => rfl
  | f :: r, h => by
    simp only [allSized, Bool.and_eq_true] at h
    have hpos : 0 < sizeT P f.type := by simpa [Nat.blt_eq] using h.1
    have : ∃ i, P.info? f.type = some i ∧ sizeT P f.type = i.size := by
      unfold sizeT at hpos ⊢
      split at hpos
      · rename_i i hi; exact ⟨i, hi, rfl⟩
      · omega
    obtain ⟨i, hi, hs⟩ := this
    simp [List.mapM_cons, hi, hs, allSized_spec h.2]

variable {K : D → Prop}

theorem q_build (h : Inv w0 F0 F M σ a w) {t : TypeId} {parts : Array (Nat × Operand)} (ho : o.op = .build t parts) (hk : wpq P σ (.build t parts) K) : QY P F M a w o K := by
  unfold wpq at hk
  dsimp only at hk
  split at hk
  · rename_i fs hu
    split at hk
    · rename_i zs hsized hz
      split at hk
      · rename_i cs hg hb
        unfold zeroD at hz
        split at hz
        · rename_i it hit
          split at hz
          · rename_i zc hzero
            simp only [D.agg.injEq] at hz
            subst hz
            have hrel : Rel w F M zc.toList (ofVals zc.toList) := zero_rel hg
            obtain ⟨cells', h1, h2⟩ := fill_sound (P := P) h (place := fun i => (fs.toList.map fun f => (f.offset, sizeT P f.type)).toArray[i]?) (fun i fd hfd => by
              simp [List.getElem?_map, hfd]) parts.toList zc _ cs hrel hb
            refine ⟨.agg cells', _, hk, ⟨cells', rfl, by simpa using h2.1, fun j c hj => ?_⟩, fun w' _ => ?_⟩
            · obtain ⟨u, h3, h4⟩ := h2.2 j c hj
              exact ⟨u, by simpa using h3, h4⟩
            · have hbt : P.built t (parts.map fun p => (p.1, a.eval p.2)).toList = some cells' := by
                unfold Program.built
                simp only [hit, hu, hzero, allSized_spec hsized]
                rw [Array.toList_map]
                exact h1
              have hr := run_build (P := P) w' t (parts.map fun p => (p.1, a.eval p.2)) cells' hbt
              unfold execOp
              rw [ho]
              simp only [Sem.run_bind]
              rw [show (Array.map (fun x => match x with | (i, x) => (i, a.eval x)) parts) = (parts.map fun p => (p.1, a.eval p.2)) from rfl, hr]
              rfl
          · rename_i v hv hzero
            have hbad : ∀ v : Value, ofVal v ≠ .agg zs := fun v => by unfold ofVal; split <;> simp
            exact absurd hz (hbad _)
          · cases hz
        · cases hz
      · exact hk.elim
    · exact hk.elim
  · exact hk.elim

/-- ALL QUIET OPERATIONS. -/
theorem wpq_sound (h : Inv w0 F0 F M σ a w) (hk : wpq P σ o.op K) : QY P F M a w o K := by
  cases ho : o.op <;> rw [ho] at hk <;> try (exact (show False from hk).elim)
  case move x => exact q_move h ho hk
  case assign x => exact q_assign h ho hk
  case pick c x y => exact q_pick h ho hk
  case build t ps => exact q_build h ho hk
  case load t x => exact q_load h ho hk
  case nilCheck x => exact q_nilCheck h ho hk
  case binOp op t x y t' =>
    have hk' : (match isNilC y with | true => nilD P op t (ev σ x) K | false => binD P op t (ev σ x) (ev σ y) K) := hk
    cases hn : isNilC y with
    | true => rw [hn] at hk'; exact q_nilOp h ho hn hk'
    | false => rw [hn] at hk'; exact q_binOp h ho hk'
  case unOp op t x => exact q_unOp h ho hk
  case convert s d x => exact q_conv h ho hk
  case slice t x lo hi mx => exact q_slice h ho hk
  case fieldAddr s x f => exact q_fieldAddr h ho hk
  case field s x f => exact q_field h ho hk
  case indexAddr t x ix => exact q_indexAddr h ho hk
  case index t x ix => exact q_index h ho hk
  case extract x i => exact q_extract h ho hk
  case call c =>
    obtain ⟨callee, args, ats⟩ := c
    cases callee with
    | value f => exact (show False from hk).elim
    | invoke r m => exact (show False from hk).elim
    | builtin b =>
      cases b <;> try (exact (show False from hk).elim)
      case len =>
        unfold wpq at hk
        dsimp only at hk
        split at hk
        · rename_i x t h1 h2
          exact q_len h ho rfl h1 h2 hk
        · exact hk.elim
      case max =>
        unfold wpq at hk
        dsimp only at hk
        split at hk
        · rename_i k x k' y he
          by_cases hkk : k = k'
          · subst hkk
            rw [decide_eq_true rfl] at hk
            exact q_max h ho rfl he hk
          · rw [decide_eq_false hkk] at hk
            exact hk.elim
        · exact hk.elim
      case min =>
        unfold wpq at hk
        dsimp only at hk
        split at hk
        · rename_i k x k' y he
          by_cases hkk : k = k'
          · subst hkk
            rw [decide_eq_true rfl] at hk
            exact q_min h ho rfl he hk
          · rw [decide_eq_false hkk] at hk
            exact hk.elim
        · exact hk.elim

end
end Go.Proofs.Ytnkinnhgahpcoaa.Vc
