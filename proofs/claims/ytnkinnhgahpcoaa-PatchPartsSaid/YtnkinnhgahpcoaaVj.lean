/-
  THE CONDITION IS SOUND, NINTH PART: cuts of own rows, calls.
  No condition: the lemmas hold for every program.
-/
import Derived.Test.YtnkinnhgahpcoaaVi
namespace Go.Proofs.Ytnkinnhgahpcoaa.Vc
open Go.RowKit

section
variable {P : Program} {w0 : W0 P} {w : World} {F0 F F1 : Nat → Prop} {M : Nat → Option MO} {σ : St} {a : Act} {o : Oper} {K : St → Prop} {μ : List Nat}

/-- What an operation does that leaves the world alone: one value in this world and in every later one. -/
def QS (P : Program) (w0 : W0 P) (F0 : Nat → Prop) (a : Act) (w : World) (o : Oper) (K : St → Prop) : Prop :=
  ∃ v σ' F' M', K σ' ∧ Inv w0 F0 F' M' σ' (a.put o.dst v) w ∧ ∀ w', Below w.heap.size w w' → (execOp a.eval o).run P w' = .ok (.value v) w'

theorem QY.qs (h : Inv w0 F0 F M σ a w) (hq : QY P F M a w o fun d => K (σ.put o.dst d)) : QS P w0 F0 a w o K := by
  obtain ⟨v, d, h1, h2, h3⟩ := hq
  exact ⟨v, _, F, M, h1, h.put h2 o.dst, h3⟩

theorem s_slice (h : Inv w0 F0 F M σ a w) {t : TypeId} {x : Operand} {lo hi mx : Option Operand} {i : Nat} (ho : o.op = .slice t x lo hi mx) (hx : ev σ x = .slo i)
    (hk : cutD P t (snap0 σ.ob (.slo i)) (lo.map (ev σ)) (hi.map (ev σ)) (mx.map (ev σ)) fun d => K ((σ.ice i).put o.dst d)) : QS P w0 F0 a w o K := by
  have hxx := h.ev x
  rw [hx] at hxx
  obtain ⟨mo, hm, hv, _⟩ := hxx
  have nobad : cutD P t .bad (lo.map (ev σ)) (hi.map (ev σ)) (mx.map (ev σ)) (fun d => K ((σ.ice i).put o.dst d)) → False := fun hh => by
    unfold cutD at hh
    split at hh
    · exact hh
    · simp at hh
    · exact hh
  cases hf : findOb σ.ob i with
  | none => simp only [snap0, hf] at hk; exact (nobad hk).elim
  | some q =>
    cases q
    case cells p T cs => simp only [snap0, hf] at hk; exact (nobad hk).elim
    case arr t' xs => simp only [snap0, hf] at hk; exact (nobad hk).elim
    case buf e xs => simp only [snap0, hf] at hk; exact (nobad hk).elim
    case row pn e u xs =>
      cases pn with
      | true => simp only [snap0, hf] at hk; exact (nobad hk).elim
      | false =>
        simp only [snap0, hf] at hk
        obtain ⟨mo', hm', hmk, hown⟩ := h.obs _ _ hf
        have : mo' = mo := Option.some.inj (hm'.symm.trans hm)
        subst this
        have hr : RV w (fun b => F b ∨ mo'.g = some b) (.list u) xs [mo'.v] := hown.reads (fun _ y => Or.inl y) fun g hg => Or.inr hg
        have hice : Inv w0 F0 (fun b => F b ∨ mo'.g = some b) (dropM M i) (σ.ice i) a w := by
          have := h.ice_ (id := i) (new := .val (.list u) xs) (F' := fun b => F b ∨ mo'.g = some b) (fun _ y => Or.inl y) (fun g hg => hg.imp_right fun hg => ⟨mo', hm, hg⟩) fun m hmm => by
            have : m = mo' := Option.some.inj (hmm.symm.trans hm)
            subst this
            exact hr
          unfold St.ice
          rw [hf]
          exact this
        have hy := cut_sound (P := P) (F' := fun b => F b ∨ mo'.g = some b) (M' := dropM M i) h (v := a.eval x) (x := .val (.list u) xs) (by rw [hv]; exact hr) hk
        obtain ⟨v, d, h1, h2, h3⟩ := hy
        exact ⟨v, _, _, _, h1, hice.put h2 o.dst, fun w' hb => by unfold execOp; rw [ho]; simp [h3 w' hb]⟩

/-- An own row loses its end. -/
theorem s_short0 (h : Inv w0 F0 F M σ a w) {t : TypeId} {x : Operand} {lo hi mx : Option Operand} {i : Nat} (ho : o.op = .slice t x lo hi mx) (hx : ev σ x = .slo i) {e : TypeId} {u : Ty} {xs : List u.I} {k : IntKind} {n : Int}
    (hf : findOb σ.ob i = some (.row false e u xs)) (he : elemT P t = some e) (hlo : lo.map (ev σ) = none) (hhi : hi.map (ev σ) = some (.val (.int k) n)) (hmx : mx.map (ev σ) = none) (hb : Nat.beq (sizeT P e) u.width = true) (h1 : 0 ≤ n) (h2 : n ≤ (xs.length : Int))
    (hk : K (({ σ.kill i with ob := (i, .row false e u (xs.take n.toNat)) :: (σ.kill i).ob } : St).put o.dst (.slo i))) : QS P w0 F0 a w o K := by
  have hxx := h.ev x
  rw [hx] at hxx
  obtain ⟨mo, hm, hv, _⟩ := hxx
  obtain ⟨inf, hinf, hsz⟩ := size_spec hb (width_pos u)
  have hlo' : lo.map a.eval = none := by cases lo <;> simp_all
  have hmx' : mx.map a.eval = none := by cases mx <;> simp_all
  have hhi' : hi.map a.eval = some (.int k n) := by
    cases hi with
    | none => cases hhi
    | some y =>
      have hy := h.ev y
      simp only [Option.map_some, Option.some.injEq] at hhi
      rw [hhi] at hy
      simp [hy.int]
  obtain ⟨mo', hm', hmk, hown⟩ := h.obs _ _ hf
  have : mo' = mo := Option.some.inj (hm'.symm.trans hm)
  subst this
  -- the value, in every later world
  have key : ∃ v', (∀ w', (Instr.sliceAt t mo'.v none (some (.int k n)) none).run P w' = .ok v' w') ∧ OwnR w F w0.nw mo'.g v' e u (xs.take n.toNat) := by
    have hrun : ∀ (A : Option Addr) (c : Nat), xs.length ≤ c → ∀ w', (Instr.sliceAt t (.slice A xs.length c) none (some (.int k n)) none).run P w' = .ok (.slice (if c = 0 then A else A.map (·.add 0)) n.toNat c) w' := fun A c hc w' => by
      have hb := run_sliceBounds (P := P) (b := true) (len := xs.length) (cap := c) (lo := none) (hi := some (.int k n)) (.inl ⟨rfl, rfl⟩) (.inr ⟨k, rfl⟩) (Int.le_refl 0) h1 h2 hc w'
      simp [Instr.sliceAt, run_underlying (elem_spec he), Instr.slice, hb, sizeOf, typeInfo, hinf, hsz]
    rcases hown with ⟨rfl, hg, A0, hv0⟩ | ⟨g, cap, us, hg, hB, hv0, hh, hc1, hc2, hus, hhold⟩
    · have hn : n.toNat = 0 := by simp at h2; omega
      refine ⟨.slice A0 0 0, fun w' => ?_, .inl ⟨by simp, hg, A0, rfl⟩⟩
      have := hrun A0 0 (by simp) w'
      rw [hv0]
      simpa [hn] using this
    · refine ⟨.slice (some ⟨g, 0, none⟩) n.toNat cap, fun w' => ?_, .inr ⟨g, cap, us, hg, hB, ?_, hh, ?_, hc2, hus, fun j y hj => ?_⟩⟩
      · have := hrun (some ⟨g, 0, none⟩) cap hc1 w'
        rw [hv0]
        simpa [add_lit] using this
      · rw [List.length_take, Nat.min_eq_left (by omega)]
      · rw [List.length_take]; omega
      · rw [List.getElem?_take] at hj
        split at hj
        · exact hhold j y hj
        · cases hj
  obtain ⟨v', hrun, hown'⟩ := key
  have h3 := h.kill i
  obtain ⟨M', hinv⟩ := h3.add i (dropM_none M i) (.row false e u (xs.take n.toNat)) (.slo i) ⟨mo'.g, v', u.width⟩ v' o.dst (fun g hg => by
      obtain ⟨h4, h5, h6⟩ := h.mine _ _ _ hm hg
      exact ⟨h5, h4, h6, fun j mj hj hjg => (dropM_some hj).1 (h.apart _ _ _ _ _ (dropM_some hj).2 hm hjg hg)⟩)
    (fun M' _ _ => ⟨rfl, hown'⟩) fun M' hM' _ => ⟨_, hM', rfl, hown'.one⟩
  refine ⟨v', _, F, M', hk, hinv, fun w' _ => ?_⟩
  unfold execOp; rw [ho]
  simp [hlo', hhi', hmx', hv, hrun w']

theorem s_short (h : Inv w0 F0 F M σ a w) {t : TypeId} {x : Operand} {lo hi mx : Option Operand} {i : Nat} (ho : o.op = .slice t x lo hi mx) (hx : ev σ x = .slo i)
    (hk : shortD P σ o.dst t i (lo.map (ev σ)) (hi.map (ev σ)) (mx.map (ev σ)) K) : QS P w0 F0 a w o K := by
  unfold shortD at hk
  split at hk
  · rename_i e u xs e' k n hf he hlo hhi hmx
    cases hb : (Nat.beq e e' && Nat.beq (sizeT P e) u.width) with
    | false => rw [hb] at hk; exact hk.elim
    | true =>
      rw [hb] at hk
      simp only [Bool.and_eq_true] at hb
      obtain ⟨⟨h1, h2⟩, hk⟩ := hk
      obtain rfl := Nat.eq_of_beq_eq_true hb.1
      exact s_short0 h ho hx hf he hlo hhi hmx hb.2 h1 h2 hk
  · exact hk.elim

/-! ### Calls -/

theorem evs_get : ∀ (l : List Operand) (i : Nat), (evs σ l)[i]? = (l[i]?).map (ev σ)
  | [], i => by simp [evs]
  | x :: r, 0 => by simp [evs]
  | x :: r, i + 1 => by simpa [evs] using evs_get r i
theorem evs_len : ∀ l : List Operand, (evs σ l).length = l.length
  | [] => rfl
  | x :: r => by simp [evs, evs_len r]
theorem snaps_get (ob : List (Nat × Ob)) : ∀ (l : List D) (i : Nat), (snaps ob l)[i]? = (l[i]?).map (snap ob)
  | [], i => by simp [snaps]
  | x :: r, 0 => by simp [snaps]
  | x :: r, i + 1 => by simpa [snaps] using snaps_get ob r i
theorem snaps_len (ob : List (Nat × Ob)) : ∀ l : List D, (snaps ob l).length = l.length
  | [] => rfl
  | x :: r => by simp [snaps, snaps_len ob r]

theorem rowsOf_mem {d : D} {i : Nat} : ∀ {l : List D}, d ∈ l → (i ∈ d.rows0 ∨ ∃ cs, d = .agg cs ∧ i ∈ cs.flatMap D.rows0) → i ∈ rowsOf l
  | x :: r, hd, hi => by
    rcases List.mem_cons.1 hd with rfl | hd
    · rcases hi with hi | ⟨cs, rfl, hi⟩
      · cases d <;> simp only [rowsOf, List.mem_append] <;> first | exact .inl hi | (simp [D.rows0] at hi)
      · simp only [rowsOf, List.mem_append]; exact .inl hi
    · have := rowsOf_mem hd hi
      cases x <;> simp only [rowsOf, List.mem_append] <;> exact .inr this

theorem R.snap (h : Inv w0 F0 F M σ a w) (hF : ∀ g, F g → F1 g) {v : Value} {d : D} (hr : R w F M v d)
    (hf : ∀ i, (i ∈ d.rows0 ∨ ∃ cs, d = .agg cs ∧ i ∈ cs.flatMap D.rows0) → (∃ e t xs, findOb σ.ob i = some (.row false e t xs)) → ∀ mo g, M i = some mo → mo.g = some g → F1 g) : R1 w F1 noM v (snap σ.ob d) := by
  cases d
  case agg cs =>
    obtain ⟨us, h1, h2, h3⟩ := hr
    have hrel : Rel w F M us.toList cs := ⟨by simpa using h2, fun j c hj => by simpa using h3 j c hj⟩
    have := hrel.snap h hF fun i hi => hf i (.inr ⟨cs, rfl, hi⟩)
    exact ⟨us, h1, by simpa using this.1, fun j c hj => by simpa using this.2 j c hj⟩
  case tup xs => exact trivial
  all_goals (simp only [R, R1] at hr; exact R1.of0 (R0.snap h hF hr fun i hi => hf i (.inl hi)))

theorem args_snap (h : Inv w0 F0 F M σ a w) (hF : ∀ g, F g → F1 g) {l : List Operand} (hf : Froz σ M F1 (rowsOf (evs σ l))) :
    ∀ (i : Nat) d', (snaps σ.ob (evs σ l))[i]? = some d' → ∃ v, (l.map a.eval)[i]? = some v ∧ R1 w F1 noM v d' := by
  intro i d' hi
  rw [snaps_get, evs_get] at hi
  cases hl : l[i]? with
  | none => rw [hl] at hi; cases hi
  | some x =>
    rw [hl] at hi
    simp only [Option.map_some, Option.some.injEq] at hi
    subst hi
    refine ⟨a.eval x, by simp [hl], (h.ev x).snap h hF fun j hj => hf j (rowsOf_mem (d := ev σ x) ?_ hj)⟩
    exact List.mem_of_getElem? (i := i) (by rw [evs_get, hl]; rfl)

theorem allVal_spec : ∀ {l : List D}, allVal l = true → ∀ d ∈ l, ∃ t x, d = .val t x
  | [], _, d, hd => by cases hd
  | e :: r, h, d, hd => by
    cases e <;> simp only [allVal] at h <;> first | (cases h; done) | skip
    rcases List.mem_cons.1 hd with rfl | hd
    · exact ⟨_, _, rfl⟩
    · exact allVal_spec h d hd

theorem capOk_spec : ∀ {l : List D}, capOk l = true → ∀ d ∈ l, (∃ t x, d = .val t x) ∨ ∃ cs, d = .ept cs ∧ allVal cs = true
  | [], _, d, hd => by cases hd
  | e :: r, h, d, hd => by
    cases e <;> simp only [capOk] at h <;> first | (cases h; done) | skip
    case val =>
      rcases List.mem_cons.1 hd with rfl | hd
      · exact .inl ⟨_, _, rfl⟩
      · exact capOk_spec h d hd
    case ept =>
      rw [Bool.and_eq_true] at h
      rcases List.mem_cons.1 hd with rfl | hd
      · exact .inr ⟨_, rfl, h.1⟩
      · exact capOk_spec h.2 d hd

theorem Inv.frz2 (h : Inv w0 F0 F M σ a w) (t id : Nat) : ∃ F' M', Inv w0 F0 F' M' (σ.frz2 t id) a w := by
  unfold St.frz2
  split
  · rename_i i T cs hs ho
    split
    · rename_i hb
      rw [Bool.and_eq_true] at hb
      have hi : i = id := by
        rcases beq_cases i id with ⟨h1, _⟩ | ⟨_, h1⟩
        · exact h1
        · rw [h1] at hb; cases hb.1
      subst hi
      have hsl := h.slots t
      rw [hs] at hsl
      obtain ⟨mo, g, h1, h2, h3⟩ := hsl
      obtain ⟨mo', h4, g', us, h5, h6, h7, h8⟩ := h.obs i _ ho
      have : mo' = mo := Option.some.inj (h4.symm.trans h1)
      subst this
      have : g' = g := Option.some.inj (h5.symm.trans h2)
      subst this
      have hF : ∀ b, F b → (F b ∨ mo'.g = some b) := fun _ x => Or.inl x
      have hice : Inv w0 F0 (fun b => F b ∨ mo'.g = some b) (dropM M i) (σ.kill i) a w :=
        h.ice_ hF (fun b hb' => hb'.imp_right fun hb' => ⟨mo', h1, hb'⟩) (fun _ _ => trivial)
      refine ⟨_, _, hice.know (t := t) (d := .ept cs) ?_⟩
      rw [h3]
      refine ⟨⟨g', 0, none⟩, us.toList, rfl, .inr h2, fun j u hj => ?_, by simpa using h7, fun j c hj => ?_⟩
      · rw [add_lit, Nat.zero_add, cell_of_row w g' _ us T (0, 0) h6]
        have hju : us[j]? = some u := by simpa using hj
        refine ⟨hju, ?_⟩
        have hlt : j < cs.length := by
          have := (Array.getElem?_eq_some_iff.1 hju).1; omega
        obtain ⟨u', h9, h10, _⟩ := h8 j cs[j] (List.getElem?_eq_getElem hlt)
        have : u' = u := Option.some.inj (h9.symm.trans hju)
        rw [← this]; exact h10
      · obtain ⟨u, h9, h10, h11⟩ := h8 j c hj
        obtain ⟨t', x, rfl⟩ := allVal_spec hb.2 c (List.mem_of_getElem? hj)
        have h12 : RV w F t' x [u] := h11
        exact ⟨u, by simpa using h9, h12.keep (fun _ _ => rfl) hF⟩
    · exact ⟨F, M, h⟩
  · exact ⟨F, M, h⟩
theorem Inv.frz1 (h : Inv w0 F0 F M σ a w) (x : Operand) : ∃ F' M', Inv w0 F0 F' M' (σ.frz1 x) a w := by
  unfold St.frz1
  split
  · split
    · split
      · obtain ⟨F1, M1, h1, _⟩ := iceAll_froz (rowsOf _) h
        exact h1.frz2 _ _
      · exact ⟨F, M, h⟩
    · exact ⟨F, M, h⟩
  · exact ⟨F, M, h⟩
theorem Inv.frzs : ∀ (l : List Operand) {F : Nat → Prop} {M : Nat → Option MO} {σ : St}, Inv w0 F0 F M σ a w → ∃ F' M', Inv w0 F0 F' M' (σ.frzs l) a w
  | [], F, M, σ, h => ⟨F, M, h⟩
  | x :: r, F, M, σ, h => by
    obtain ⟨F1, M1, h1⟩ := h.frz1 x
    exact Inv.frzs r h1

/-- A function value is made. -/
theorem s_make (h : Inv w0 F0 F M σ a w) {g : FuncId} {first cap : Array Operand} (ho : o.op = .makeFunc (.func g) first cap) (hk : makeD σ o.dst g first.toList cap.toList K) : QS P w0 F0 a w o K := by
  unfold makeD at hk
  split at hk
  · rename_i hfi hal
    obtain ⟨F9, M9, h⟩ := h.frzs cap.toList
    obtain ⟨F1, M1, h1, h2, h3, _, _⟩ := iceAll_froz (rowsOf (evs (σ.frzs cap.toList) cap.toList)) h
    have hfirst : first = #[] := by cases first; simp_all
    have hr : R w F1 M1 (.func (.func g) #[] (cap.map a.eval)) (.clo g (snaps (σ.frzs cap.toList).ob (evs (σ.frzs cap.toList) cap.toList))) := by
      refine ⟨_, rfl, by rw [snaps_len, evs_len]; simp, fun j c hj => ?_⟩
      obtain ⟨v, h6, h7⟩ := args_snap h h2 h3 j _ hj
      rcases capOk_spec hal c (List.mem_of_getElem? hj) with ⟨t, x, rfl⟩ | ⟨cs, rfl, hcs⟩
      · have h7' : RV w F1 t x [v] := h7
        exact ⟨v, by simpa using h6, h7'.one v (by simp), h7'⟩
      · obtain ⟨a1, us, e1, e2, e3, e4, e5⟩ := h7
        refine ⟨v, by simpa using h6, by rw [e1]; rfl, a1, us, e1, e2, e3, e4, fun i c' hi => ?_⟩
        obtain ⟨u', e6, e7⟩ := e5 i c' hi
        obtain ⟨t, x, rfl⟩ := allVal_spec hcs c' (List.mem_of_getElem? hi)
        exact ⟨u', e6, e7⟩
    refine ⟨_, _, F1, M1, hk, h1.put hr o.dst, fun w' _ => ?_⟩
    unfold execOp; rw [ho]
    simp [Instr.makeFunc, hfirst]
  · exact hk.elim

theorem Inv.widen {w' : World} {F' : Nat → Prop} (h : Inv w0 F0 F M σ a w) (hb : Below w.heap.size w w') (hF : ∀ g, F g → F' g) (hlt : ∀ g, F' g → g < w'.heap.size ∧ (F g ∨ w.heap.size ≤ g)) : Inv w0 F0 F' M σ a w' := by
  have h1 := h.grow hb
  have hB := h.below.size
  refine ⟨h1.defers, h1.size, fun i => (h1.slots i).keep (fun _ _ => rfl) hF (MLe.refl M), fun id o ho => ?_, h1.apart, fun i mi g hi hg => ?_, fun g hg => ?_, fun g hg => hF g (h1.fle g hg), h1.below, h1.pins⟩
  · obtain ⟨mo, h2, h3⟩ := h1.obs id o ho
    exact ⟨mo, h2, h3.keep (fun _ _ => rfl) hF (MLe.refl M) fun _ _ => rfl⟩
  · obtain ⟨h2, h3, h4⟩ := h1.mine i mi g hi hg
    refine ⟨fun hc => ?_, h3, h4⟩
    rcases (hlt g hc).2 with hc | hc
    · exact h2 hc
    · have := (h.mine i mi g hi hg).2.2; omega
  · obtain ⟨h2, h3⟩ := hlt g hg
    refine ⟨h2, ?_⟩
    rcases h3 with h3 | h3
    · exact (h.flt g h3).2
    · exact .inr (h.below.new h3)

theorem RV.uniq {w' : World} {F' : Nat → Prop} : ∀ {t : Ty} {x : t.I} {c1 c2 : List Value}, t.flat = true → RV w F t x c1 → RV w' F' t x c2 → c1 = c2
  | .int _, _, _, _, _, h1, h2 => by have h1 : _ = _ := h1; have h2 : _ = _ := h2; rw [h1, h2]
  | .bool, _, _, _, _, h1, h2 => by have h1 : _ = _ := h1; have h2 : _ = _ := h2; rw [h1, h2]
  | .str, _, _, _, _, h1, h2 => by
    obtain ⟨s1, rfl, e1⟩ := h1
    obtain ⟨s2, rfl, e2⟩ := h2
    have : s1 = s2 := by
      cases s1; cases s2
      congr 1
      exact Array.toList_inj.1 (e1.trans e2.symm)
    rw [this]
  | .pair p q, _, _, _, hf, h1, h2 => by
    simp only [Ty.flat, Bool.and_eq_true] at hf
    obtain ⟨a1, a2, rfl, h3, h4⟩ := h1
    obtain ⟨b1, b2, rfl, h5, h6⟩ := h2
    rw [h3.uniq hf.1 h5, h4.uniq hf.2 h6]
  | .list _, _, _, _, hf, _, _ => by cases hf

/-- A value of data, out of its cells. -/
theorem R1.enc_cells {u : Ty} {x : u.I} {v : Value} (h : R1 w F M v (encV u x)) (hf : u.flat = true) : RV w F u x v.cells.toList ∧ (v.oneCell' = true ∨ ∃ cs, v = .agg cs) := by
  cases u
  case pair p q =>
    obtain ⟨us, rfl, h1, h2⟩ := h
    refine ⟨?_, .inr ⟨us, rfl⟩⟩
    -- the cells are those of the encoding
    have key : ∀ (t : Ty) (y : t.I) (l : List Value), t.flat = true → l.length = (enc t y).length → (∀ (j : Nat) c, (enc t y)[j]? = some c → ∃ u, l[j]? = some u ∧ u.oneCell' = true ∧ R0 w F M u c) → RV w F t y l := by
      intro t
      induction t with
      | int k =>
        intro y l _ hl hc
        match l, hl with
        | [z], _ =>
          obtain ⟨u, h3, _, h4⟩ := hc 0 _ rfl
          have : z = u := by simpa using h3
          subst this
          exact h4
      | bool =>
        intro y l _ hl hc
        match l, hl with
        | [z], _ =>
          obtain ⟨u, h3, _, h4⟩ := hc 0 _ rfl
          have : z = u := by simpa using h3
          subst this
          exact h4
      | str =>
        intro y l _ hl hc
        match l, hl with
        | [z], _ =>
          obtain ⟨u, h3, _, h4⟩ := hc 0 _ rfl
          have : z = u := by simpa using h3
          subst this
          exact h4
      | list t _ => intro y l hf _ _; cases hf
      | pair p q ih1 ih2 =>
        intro y l hf hl hc
        simp only [Ty.flat, Bool.and_eq_true] at hf
        simp only [enc, List.length_append] at hl hc
        refine ⟨l.take (enc p y.1).length, l.drop (enc p y.1).length, (List.take_append_drop _ _).symm, ih1 y.1 _ hf.1 (by simp; omega) fun j c hj => ?_, ih2 y.2 _ hf.2 (by simp; omega) fun j c hj => ?_⟩
        · have hlt := (List.getElem?_eq_some_iff.1 hj).1
          obtain ⟨u, h3, h4⟩ := hc j c (by rw [List.getElem?_append_left hlt]; exact hj)
          exact ⟨u, by rw [List.getElem?_take, if_pos hlt]; exact h3, h4⟩
        · obtain ⟨u, h3, h4⟩ := hc ((enc p y.1).length + j) c (by rw [List.getElem?_append_right (by omega)]; simpa using hj)
          exact ⟨u, by rw [List.getElem?_drop]; exact h3, h4⟩
    exact key _ x us.toList hf (by simpa using h1) fun j c hj => by simpa using h2 j c hj
  case list t => cases hf
  all_goals
    have h' : RV w F _ x [v] := h
    have h1 := h'.one v (by simp)
    have hc : v.cells = #[v] := by cases v <;> simp_all [Value.oneCell', Value.cells]
    exact ⟨by rw [hc]; exact h', .inl h1⟩

theorem R1.of_cells {u : Ty} {x : u.I} {v : Value} (h : RV w F u x v.cells.toList) (h1 : v.oneCell' = true ∨ ∃ cs, v = .agg cs) (hw : u.width = 1 → v.oneCell' = true ∨ ∃ p q, u = .pair p q) : R1 w F M v (encV u x) := by
  cases u
  case pair p q =>
    rcases h1 with h1 | ⟨cs, rfl⟩
    · exfalso
      have hl := h.len
      have hc : v.cells = #[v] := by cases v <;> simp_all [Value.oneCell', Value.cells]
      rw [hc] at hl
      have := width_pos p
      have := width_pos q
      simp only [Ty.width, List.length_cons, List.length_nil] at hl
      omega
    · refine ⟨cs, rfl, ?_, fun j c hj => ?_⟩
      · have := h.len; rw [enc_len]; simpa [Value.cells] using this
      · have h' : RV w F (.pair p q) x cs.toList := h
        obtain ⟨u, h2, h3⟩ := enc_reads h' j c hj
        exact ⟨u, by simpa using h2, h'.one u (List.mem_of_getElem? h2), h3.to0⟩
  all_goals
    have hv : v.oneCell' = true := by
      rcases hw rfl with h2 | ⟨p, q, h2⟩
      · exact h2
      · cases h2
    have hc : v.cells = #[v] := by cases v <;> simp_all [Value.oneCell', Value.cells]
    rw [hc] at h
    exact h

theorem R1.flat {w' : World} {F' : Nat → Prop} {M' : Nat → Option MO} {u : Ty} {x : u.I} {v : Value} (h : R1 w F M v (encV u x)) (hf : u.flat = true) : R1 w' F' M' v (encV u x) := by
  obtain ⟨h1, h2⟩ := h.enc_cells hf
  refine R1.of_cells (h1.free hf) h2 fun hw => ?_
  cases u <;> first | exact .inr ⟨_, _, rfl⟩ | skip
  case list => cases hf
  all_goals
    left
    have h' : RV w F _ x [v] := h
    exact h'.one v (by simp)

theorem R1.flat_uniq {w' : World} {F' : Nat → Prop} {M' : Nat → Option MO} {u : Ty} {x : u.I} {v v' : Value} (h : R1 w F M v (encV u x)) (h' : R1 w' F' M' v' (encV u x)) (hf : u.flat = true) : v = v' := by
  obtain ⟨h1, h2⟩ := h.enc_cells hf
  obtain ⟨h3, h4⟩ := h'.enc_cells hf
  have e := h1.uniq hf h3
  cases u
  case pair p q =>
    obtain ⟨us, rfl, _⟩ := h
    obtain ⟨us', rfl, _⟩ := h'
    have : us = us' := Array.toList_inj.1 e
    rw [this]
  case list t => cases hf
  all_goals
    have g1 : RV w F _ x [v] := h
    have g2 : RV w' F' _ x [v'] := h'
    have := g1.uniq hf g2
    simpa using this

end
end Go.Proofs.Ytnkinnhgahpcoaa.Vc
