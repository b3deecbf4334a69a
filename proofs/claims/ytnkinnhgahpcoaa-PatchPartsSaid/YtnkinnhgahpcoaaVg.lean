/-
  THE CONDITION IS SOUND, SIXTH PART: variables and literals are made, stores, appends; what is told of data alone.
  No condition: the lemmas hold for every program.
-/
import Derived.Test.YtnkinnhgahpcoaaVf
namespace Go.Proofs.Ytnkinnhgahpcoaa.Vc
open Go.RowKit

section
variable {P : Program} {w0 : W0 P} {w : World} {F0 F F1 : Nat → Prop} {M : Nat → Option MO} {σ : St} {a : Act} {o : Oper}

/-- What an operation does that makes or writes memory. -/
def EY (P : Program) (w0 : W0 P) (F0 : Nat → Prop) (a : Act) (w : World) (o : Oper) (K : St → Prop) : Prop :=
  ∃ w' σ' F' M', K σ' ∧ ((∃ v, (execOp a.eval o).run P w = .ok (.value v) w' ∧ Inv w0 F0 F' M' σ' (a.put o.dst v) w') ∨
    ((execOp a.eval o).run P w = .ok .skip w' ∧ Inv w0 F0 F' M' σ' (a.put o.dst undef) w'))

theorem Rel.keep {w' : World} {F' : Nat → Prop} {M' : Nat → Option MO} (hs : Same F w w') (hF : ∀ g, F g → F' g) (hM : MLe M M') {us : List Value} {cs : List D} (h : Rel w F M us cs) : Rel w' F' M' us cs :=
  ⟨h.1, fun j c hj => by obtain ⟨u, h1, h2, h3⟩ := h.2 j c hj; exact ⟨u, h1, h2, h3.keep hs hF hM⟩⟩

theorem Rel.kill {us : List Value} {cs : List D} (h : Rel w F M us cs) (d : Nat) : Rel w F (dropM M d) us (ices0 d .bad cs) := by
  refine ⟨by rw [ices0_len]; exact h.1, fun j c hj => ?_⟩
  rw [ices0_get] at hj
  obtain ⟨c', hc', rfl⟩ := Option.map_eq_some_iff.1 hj
  obtain ⟨u, h1, h2, h3⟩ := h.2 j c' hc'
  exact ⟨u, h1, h2, R0.ice (F' := F) (new := .bad) (fun _ x => x) (fun _ _ => trivial) h3⟩

theorem same_alloc (h : Inv w0 F0 F M σ a w) (ob : Obj) : Same F w (w.alloc ob) := fun g hg => (below_alloc w ob).block g (h.flt g hg).1

/-- A new block of cells under a name of its own. -/
theorem Inv.newCells (h : Inv w0 F0 F M σ a w) (d : Nat) {us : Array Value} {cs : List D} (e : TypeId) (hr : Rel w F (dropM M d) us.toList cs) :
    ∃ M', Inv w0 F0 F M' (σ.putOb d (.cells false e cs) (.ptr d 0)) (a.put (some d) (.pointer (some ⟨w.heap.size, 0, none⟩))) (w.alloc (.cells us e)) := by
  refine h.putOb (below_alloc w _) d _ _ ⟨some w.heap.size, .pointer none, 0⟩ _ (fun g hg => ?_) (fun M' _ hM => ?_) fun M' hd _ => ⟨_, _, hd, rfl, rfl⟩
  · cases hg; simp
  · refine ⟨w.heap.size, us, rfl, heap_alloc_new w _, by simpa using hr.1, fun j c hj => ?_⟩
    obtain ⟨u, h1, h2, h3⟩ := hr.2 j c hj
    exact ⟨u, by simpa using h1, h2, h3.keep (same_alloc h _) (fun _ x => x) hM⟩

theorem zeroD_rel {e : TypeId} {i : TypeInfo} {z : Value} (hi : P.info? e = some i) (hz : i.zero = some z) {cs : List D} (hc : cellsOf (zeroD P e) = some cs) (hg : goods cs = true) : Rel w F M z.cells.toList cs := by
  unfold zeroD at hc
  simp only [hi, hz] at hc
  split at hc
  · rename_i zc heq
    simp only [cellsOf, Option.some.injEq] at hc
    have hzc : z = .agg zc := by simpa using heq
    subst hzc
    subst hc
    exact zero_rel hg
  · rename_i v hv heq
    have hzv : z = v := by simpa using heq
    subst hzv
    exact cellsOf_spec (R.of0 (R0.ofVal z)) hc
  · rename_i heq; cases heq

theorem zeroD_info {e : TypeId} (h : zeroD P e ≠ .bad) : ∃ i z, P.info? e = some i ∧ i.zero = some z := by
  unfold zeroD at h
  split at h
  · rename_i i hi
    split at h
    · exact ⟨i, _, hi, ‹_›⟩
    · exact ⟨i, _, hi, ‹_›⟩
    · exact absurd rfl h
  · exact absurd rfl h

theorem run_alloc {e : TypeId} {i : TypeInfo} {z : Value} (hi : P.info? e = some i) (hz : i.zero = some z) (w : World) :
    (Instr.alloc e true (.tuple #[])).run P w = .ok (.pointer (some ⟨w.heap.size, 0, none⟩)) (w.alloc (.cells z.cells e)) := by
  simp [Instr.alloc, zeroValue, typeInfo, hi, hz, newVar, newRow]

variable {K : St → Prop}

theorem e_alloc (h : Inv w0 F0 F M σ a w) {e : TypeId} (ho : o.op = .alloc e) (hk : allocD P σ o.dst e K) : EY P w0 F0 a w o K := by
  unfold allocD at hk
  split at hk
  · rename_i d hd
    split at hk
    · rename_i n el hu
      split at hk
      · rename_i u hty
        split at hk
        · rename_i zs hz
          split at hk
          · rename_i xs hg hdm
            obtain ⟨i, z, h1, h2⟩ := zeroD_info (P := P) (e := e) (by rw [hz]; simp)
            have hrel : Rel w F M z.cells.toList zs := zeroD_rel h1 h2 (by rw [hz]; rfl) hg
            obtain ⟨hl, hlen, hh⟩ := decMany_spec hrel hdm
            have hM' := h.putOb (w' := w.alloc (.cells z.cells e)) (below_alloc w _) d (.arr u xs) (.aptr d) ⟨some w.heap.size, .pointer none, u.width⟩ (.pointer (some ⟨w.heap.size, 0, none⟩)) (fun g hg => by cases hg; simp)
              (fun M' _ _ => ⟨w.heap.size, z.cells, e, rfl, rfl, heap_alloc_new w _, by rw [hl]; simpa using hlen, hh.keep (same_alloc h _) (fun _ x => x)⟩)
              fun M' hd _ => ⟨_, _, hd, rfl, rfl⟩
            obtain ⟨M', hinv⟩ := hM'
            refine ⟨_, _, F, M', hk, .inl ⟨_, ?_, by rw [hd]; exact hinv⟩⟩
            unfold execOp; rw [ho]
            simp [run_alloc h1 h2]
          · exact hk.elim
        · exact hk.elim
      · exact hk.elim
    · split at hk
      · rename_i hc
        split at hk
        · rename_i e8 _
          obtain ⟨i, z, h1, h2⟩ := zeroD_info (P := P) (e := e) (fun hb => by rw [hb] at hc; cases hc)
          have hcells : ∃ p v, z.cells.toList = [p, v] ∧ p = .pointer none ∧ v = .slice none 0 0 := by
            have hex : ∀ v, ofVal v = .nils → v = .slice none 0 0 := fun v hv => by
              unfold ofVal at hv
              split at hv <;> first | rfl | (cases hv; done)
            have hep : ∀ v, ofVal v = .pnil → v = .pointer none := fun v hv => by
              unfold ofVal at hv
              split at hv <;> first | rfl | (cases hv; done)
            unfold zeroD at hc
            simp only [h1, h2] at hc
            split at hc
            · rename_i zc heq
              have hzc : z = .agg zc := by simpa using heq
              subst hzc
              simp only [cellsOf, Option.some.injEq] at hc
              have hl : zc.toList.length = 2 := by
                have := congrArg List.length hc
                rw [ofVals_len] at this
                simpa using this
              match hz : zc.toList, hl with
              | [p, v], _ =>
                rw [hz] at hc
                simp only [ofVals, List.cons.injEq, and_true] at hc
                exact ⟨p, v, rfl, hep p hc.1, hex v hc.2⟩
            · rename_i v hv heq
              have hlen : ∀ d : D, (∀ cs, d ≠ .agg cs) → cellsOf d ≠ some [.pnil, .nils] := fun d hd h => by
                cases d <;> simp [cellsOf] at h
                exact hd _ rfl
              exact absurd hc (hlen _ fun cs hcs => by
                have : ∀ v : Value, ofVal v ≠ .agg cs := fun v => by unfold ofVal; split <;> simp
                exact this _ hcs)
            · rename_i heq; cases heq
          obtain ⟨p, v, hz, rfl, rfl⟩ := hcells
          obtain ⟨M1, g1, g2, _⟩ := (h.kill (gid d 1)).addOb (gid d 1) (dropM_none M _) (.buf e8 []) ⟨none, .slice none 0 0, 1⟩ rfl fun M' _ _ => ⟨rfl, .inl ⟨rfl, rfl, none, rfl⟩, fun _ => rfl⟩
          have hne : gid d 1 ≠ d := by unfold gid; omega
          have hrel : Rel w F (dropM M1 d) z.cells.toList [.slf d, .slo (gid d 1)] := by
            rw [hz]
            refine ⟨rfl, fun j c hj => ?_⟩
            match j, hj with
            | 0, hj =>
              simp only [List.getElem?_cons_zero, Option.some.injEq] at hj
              subst hj
              exact ⟨_, rfl, rfl, .inl rfl⟩
            | 1, hj =>
              simp only [List.getElem?_cons_succ, List.getElem?_cons_zero, Option.some.injEq] at hj
              subst hj
              exact ⟨_, rfl, rfl, _, by rw [dropM_ne hne]; exact g2, rfl, rfl⟩
            | j + 2, hj => simp at hj
          obtain ⟨M', hinv⟩ := g1.newCells d e hrel
          refine ⟨_, _, F, M', hk, .inl ⟨_, ?_, by rw [hd]; exact hinv⟩⟩
          unfold execOp; rw [ho]
          simp [run_alloc h1 h2]
        · exact hk.elim
      · rename_i cs _ hc
        split at hk
        · rename_i hg
          obtain ⟨i, z, h1, h2⟩ := zeroD_info (P := P) (e := e) (fun hb => by rw [hb] at hc; cases hc)
          have hrel : Rel w F (dropM M d) z.cells.toList cs := zeroD_rel h1 h2 hc hg
          obtain ⟨M', hinv⟩ := h.newCells d e hrel
          refine ⟨_, _, F, M', hk, .inl ⟨_, ?_, by rw [hd]; exact hinv⟩⟩
          unfold execOp; rw [ho]
          simp [run_alloc h1 h2]
        · exact hk.elim
      · exact hk.elim
    · exact hk.elim
  · exact hk.elim

theorem e_box (h : Inv w0 F0 F M σ a w) {e : TypeId} {x : Operand} (ho : o.op = .box e x) (hk : boxD σ o.dst e x K) : EY P w0 F0 a w o K := by
  unfold boxD at hk
  obtain ⟨F1, M1, h1, _⟩ := h.iceAll (rowsOf [ev σ x])
  split at hk
  · rename_i d cs hd hc
    have hrel := (cellsOf_spec (h1.ev x) hc).kill d
    obtain ⟨M', hinv⟩ := h1.newCells d e hrel
    refine ⟨_, _, F1, M', hk, .inl ⟨_, ?_, by rw [hd]; exact hinv⟩⟩
    unfold execOp; rw [ho]
    simp [Instr.box, newVar, newRow]
  · exact hk.elim

/-! ### Told of data alone -/

theorem R0.snap (h : Inv w0 F0 F M σ a w) (hF : ∀ g, F g → F1 g) {v : Value} {d : D} (hr : R0 w F M v d)
    (hf : ∀ i ∈ d.rows0, (∃ e t xs, findOb σ.ob i = some (.row false e t xs)) → ∀ mo g, M i = some mo → mo.g = some g → F1 g) : R0 w F1 noM v (snap0 σ.ob d) := by
  cases d <;> simp only [snap0] <;> first | exact trivial | skip
  case val => exact RV.keep (fun _ _ => rfl) hF hr
  case fn => exact hr
  case nils => exact hr
  case clo g cs =>
    obtain ⟨us, h1, h2, h3⟩ := hr
    refine ⟨us, h1, h2, fun j c hj => ?_⟩
    obtain ⟨u, h4, h5, h6⟩ := h3 j c hj
    exact ⟨u, h4, h5, h6.keep (fun _ _ => rfl) hF⟩
  case ept cs =>
    obtain ⟨a, us, h1, h2, h3, h4, h5⟩ := hr
    refine ⟨a, us, h1, hF _ h2, h3, h4, fun j c hj => ?_⟩
    obtain ⟨u, h6, h7⟩ := h5 j c hj
    exact ⟨u, h6, h7.keep (fun _ _ => rfl) hF⟩
  case slo i =>
    obtain ⟨mo, h1, h2, _⟩ := hr
    split
    · rename_i e t xs hfo
      obtain ⟨mo', h3, h4⟩ := h.obs _ _ hfo
      have : mo' = mo := Option.some.inj (h3.symm.trans h1)
      subst this
      rw [h2]
      exact h4.2.reads hF fun g hg => hf i (by simp [D.rows0]) ⟨e, t, xs, hfo⟩ mo' g h3 hg
    · exact trivial

theorem snaps0_get (ob : List (Nat × Ob)) : ∀ (cs : List D) (j : Nat), (snaps0 ob cs)[j]? = (cs[j]?).map (snap0 ob)
  | [], j => by simp [snaps0]
  | c :: r, 0 => by simp [snaps0]
  | c :: r, j + 1 => by simpa [snaps0] using snaps0_get ob r j
theorem snaps0_len (ob : List (Nat × Ob)) : ∀ cs : List D, (snaps0 ob cs).length = cs.length
  | [] => rfl
  | c :: r => by simp [snaps0, snaps0_len ob r]

/-- The rows among these are frozen in F1. -/
def Froz (σ : St) (M : Nat → Option MO) (F1 : Nat → Prop) (l : List Nat) : Prop :=
  ∀ i ∈ l, (∃ e t xs, findOb σ.ob i = some (.row false e t xs)) → ∀ mo g, M i = some mo → mo.g = some g → F1 g

theorem Rel.snap (h : Inv w0 F0 F M σ a w) (hF : ∀ g, F g → F1 g) {us : List Value} {cs : List D} (hr : Rel w F M us cs) (hf : Froz σ M F1 (cs.flatMap D.rows0)) : Rel w F1 noM us (snaps0 σ.ob cs) := by
  refine ⟨by rw [snaps0_len]; exact hr.1, fun j c hj => ?_⟩
  rw [snaps0_get] at hj
  obtain ⟨c', hc', rfl⟩ := Option.map_eq_some_iff.1 hj
  obtain ⟨u, h1, h2, h3⟩ := hr.2 j c' hc'
  exact ⟨u, h1, h2, h3.snap h hF fun i hi => hf i (List.mem_flatMap.2 ⟨c', List.mem_of_getElem? hc', hi⟩)⟩

theorem iceAll_froz (l : List Nat) : ∀ {F : Nat → Prop} {M : Nat → Option MO} {σ : St}, Inv w0 F0 F M σ a w →
    ∃ F' M', Inv w0 F0 F' M' (σ.iceAll l) a w ∧ (∀ g, F g → F' g) ∧ Froz σ M F' l ∧ (∀ g, F' g → F g ∨ ∃ i mo, M i = some mo ∧ mo.g = some g) ∧ (∀ i mo, M' i = some mo → M i = some mo) := by
  induction l with
  | nil => intro F M σ h; exact ⟨F, M, h, fun _ x => x, (by intro i hi; cases hi), fun g hg => Or.inl hg, fun _ _ x => x⟩
  | cons i r ih =>
    intro F M σ h
    by_cases hrow : ∃ e t xs, findOb σ.ob i = some (.row false e t xs)
    · obtain ⟨e, t, xs, hf⟩ := hrow
      obtain ⟨mo, h1, h2⟩ := h.obs i _ hf
      have hice : Inv w0 F0 (fun b => F b ∨ mo.g = some b) (dropM M i) (σ.ice i) a w := by
        have := h.ice_ (id := i) (new := .val (.list t) xs) (F' := fun b => F b ∨ mo.g = some b) (fun _ x => Or.inl x) (fun g hg => hg.imp_right fun hg => ⟨mo, h1, hg⟩) fun mo' hmo' => by
          have : mo' = mo := Option.some.inj (hmo'.symm.trans h1)
          subst this
          exact h2.2.reads (F' := fun b => F b ∨ mo'.g = some b) (fun _ x => Or.inl x) fun g hg => Or.inr hg
        unfold St.ice
        rw [hf]
        exact this
      obtain ⟨F', M', h3, h4, h5, h6, h7⟩ := ih hice
      refine ⟨F', M', h3, fun g hg => h4 g (.inl hg), fun j hj hjr mj g hmj hgj => ?_, fun g hg => ?_, fun j mj hj => (dropM_some (h7 j mj hj)).2⟩
      · by_cases hji : j = i
        · subst hji
          have : mj = mo := Option.some.inj (hmj.symm.trans h1)
          subst this
          exact h4 g (.inr hgj)
        · have hjr' : j ∈ r := by
            rcases List.mem_cons.1 hj with h | h
            · exact absurd h hji
            · exact h
          obtain ⟨e', t', xs', hf'⟩ := hjr
          refine h5 j hjr' ⟨e', t', xs', ?_⟩ mj g (by rw [dropM_ne hji]; exact hmj) hgj
          unfold St.ice
          rw [hf]
          show findOb (iceOb i _ σ.ob) j = _
          rw [findOb_ice, if_neg hji, hf']
          rfl
      · rcases h6 g hg with (h8 | h8) | ⟨j, mj, h8, h9⟩
        · exact .inl h8
        · exact .inr ⟨i, mo, h1, h8⟩
        · exact .inr ⟨j, mj, (dropM_some h8).2, h9⟩
    · have he : σ.ice i = σ := by
        unfold St.ice
        split
        · rename_i e t xs hf; exact absurd ⟨e, t, xs, hf⟩ hrow
        · rfl
      obtain ⟨F', M', h3, h4, h5, h6, h7⟩ := ih h
      refine ⟨F', M', by show Inv w0 F0 F' M' ((σ.ice i).iceAll r) a w; rw [he]; exact h3, h4, fun j hj hjr => ?_, h6, h7⟩
      rcases List.mem_cons.1 hj with h | h
      · subst h; exact absurd hjr hrow
      · exact h5 j h hjr

/-! ### A slice literal -/

theorem zeroOk_spec {e : TypeId} {n : Nat} (h : zeroOk P e n = true) : ∃ i z, P.info? e = some i ∧ i.zero = some z ∧ z.cells.size = n := by
  unfold zeroOk at h
  split at h
  · rename_i i hi
    split at h
    · rename_i z hz; exact ⟨i, z, hi, hz, Nat.eq_of_beq_eq_true h⟩
    · cases h
  · cases h

theorem setLV_take {us vs : List Value} {off : Nat} (h : off + vs.length ≤ us.length) : (setLV us off vs).take off = us.take off := by
  rw [setLV_eq vs us off h, List.append_assoc, List.take_append_of_le_length (by simp; omega), List.take_take, Nat.min_self]
theorem setLV_mid {us vs : List Value} {off : Nat} (h : off + vs.length ≤ us.length) : ((setLV us off vs).drop off).take vs.length = vs := by
  rw [setLV_eq vs us off h, List.append_assoc]
  have : (us.take off).length = off := by simp; omega
  rw [List.drop_append_of_le_length (by omega), List.drop_eq_nil_of_le (by omega), List.nil_append, List.take_left]

theorem parts_sound (h : Inv w0 F0 F M σ a w) (hF : ∀ g, F g → F1 g) {u : Ty} :
    ∀ (l : List (Nat × Operand)) (i : Nat) (cells : Array Value) (ys : List u.I), Froz σ M F1 (rowsOf (secs (evParts σ l))) → decParts u σ.ob i (evParts σ l) = some ys → (i + l.length) * u.width ≤ cells.size →
      ∃ cells', Instr.fill (fun i => some (i * u.width, u.width)) cells (vParts a l) = some cells' ∧ cells'.size = cells.size ∧ cells'.toList.take (i * u.width) = cells.toList.take (i * u.width) ∧
        ys.length = l.length ∧ Holds w F1 u ys (cells'.toList.drop (i * u.width))
  | [], i, cells, ys, _, hd, _ => by
    simp only [evParts, decParts, Option.some.injEq] at hd
    subst hd
    exact ⟨cells, rfl, rfl, rfl, rfl, fun j x hj => by simp at hj⟩
  | (j, x) :: l, i, cells, ys, hf, hd, hsz => by
    simp only [evParts, decParts] at hd
    rcases beq_cases i j with ⟨rfl, hb⟩ | ⟨_, hb⟩
    · rw [hb] at hd
      have hd : (match cellsOf (ev σ x) with
        | some cs => match decAll u (snaps0 σ.ob cs) with
          | some y => match decParts u σ.ob (i + 1) (evParts σ l) with
            | some ys => some (y :: ys)
            | none => none
          | none => none
        | none => none) = some ys := hd
      split at hd
      · rename_i cs hc
        split at hd
        · rename_i y hy
          split at hd
          · rename_i ys' hys
            simp only [Option.some.injEq] at hd
            subst hd
            have hrel := cellsOf_spec (h.ev x) hc
            have hfr : Froz σ M F1 (cs.flatMap D.rows0) := fun k hk => hf k (by
              show k ∈ rowsOf (ev σ x :: secs (evParts σ l))
              cases hx : ev σ x <;> rw [hx] at hc <;> simp only [cellsOf, Option.some.injEq] at hc <;> first | (cases hc; done) | skip
              case agg => subst hc; simp only [rowsOf, List.mem_append]; exact .inl hk
              all_goals (subst hc; simp only [rowsOf, List.mem_append]; left; simpa using hk))
            have hrv := decAll_spec (hrel.snap h hF hfr) hy
            have hlen : (a.eval x).cells.size = u.width := by simpa using hrv.len
            have hsz' : i * u.width + u.width ≤ cells.size := by
              have h1 : (i + ((i, x) :: l).length) * u.width = i * u.width + u.width + l.length * u.width := by
                simp only [List.length_cons]; rw [Nat.add_mul, Nat.add_mul]; omega
              simp only [List.length_cons] at hsz h1
              omega
            have hfold : ((a.eval x).cells.zipIdx.foldl (fun cs (p : Value × Nat) => cs.setIfInBounds (i * u.width + p.2) p.1) cells).toList = setLV cells.toList (i * u.width) (a.eval x).cells.toList := by
              rw [← Array.foldl_toList, Array.toList_zipIdx, fold_set]; rfl
            have hvl : (a.eval x).cells.toList.length = u.width := by simpa using hlen
            have hle : i * u.width + (a.eval x).cells.toList.length ≤ cells.toList.length := by rw [hvl]; simpa using hsz'
            have hsize : ((a.eval x).cells.zipIdx.foldl (fun cs (p : Value × Nat) => cs.setIfInBounds (i * u.width + p.2) p.1) cells).size = cells.size := by
              rw [← Array.length_toList, hfold, setLV_len]; simp
            obtain ⟨cells', h1, h2, h3, h4, h5⟩ := parts_sound h hF l (i + 1) _ ys' (fun k hk => hf k (by
              show k ∈ rowsOf (ev σ x :: secs (evParts σ l))
              cases ev σ x <;> simp only [rowsOf, List.mem_append] <;> exact .inr hk)) hys (by
                rw [hsize]
                have : i + 1 + l.length = i + ((i, x) :: l).length := by simp only [List.length_cons]; omega
                rw [this]; exact hsz)
            have hw1 : (i + 1) * u.width = i * u.width + u.width := by rw [Nat.add_mul]; omega
            rw [hfold, hw1] at h3
            refine ⟨cells', ?_, by rw [h2, hsize], ?_, by simp [h4], ?_⟩
            · have hne : ¬ ((decide ((a.eval x).cells.size ≠ u.width) || decide (i * u.width + (a.eval x).cells.size > cells.size)) = true) := by
                simp only [Bool.or_eq_true, decide_eq_true_eq]
                omega
              simp only [vParts, List.map_cons, Instr.fill]
              rw [if_neg hne]
              exact h1
            · have := congrArg (List.take (i * u.width)) h3
              rw [List.take_take, List.take_take, Nat.min_eq_left (by omega)] at this
              rw [this]
              exact setLV_take hle
            · have hmid : (cells'.toList.drop (i * u.width)).take u.width = (a.eval x).cells.toList := by
                have := congrArg (List.drop (i * u.width)) h3
                rw [List.drop_take, List.drop_take] at this
                have he : i * u.width + u.width - i * u.width = u.width := by omega
                rw [he] at this
                rw [this]
                have hm := setLV_mid hle
                rw [hvl] at hm
                exact hm
              have hsplit : cells'.toList.drop (i * u.width) = (a.eval x).cells.toList ++ cells'.toList.drop ((i + 1) * u.width) := by
                rw [← hmid, hw1, ← List.drop_drop, List.take_append_drop]
              rw [hsplit]
              exact holds_cons hrv h5
          · cases hd
        · cases hd
      · cases hd
    · rw [hb] at hd; cases hd

end
end Go.Proofs.Ytnkinnhgahpcoaa.Vc
