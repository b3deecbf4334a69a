/-
  THE CONDITION IS SOUND, FIRST PART: what data mean in memory is kept where memory is kept; objects that are killed or frozen; slots that are written.
  No condition: the lemmas hold for every program.
-/
import Derived.Test.YtnkinnhgahpcoaaVc
namespace Go.Proofs.Ytnkinnhgahpcoaa.Vc
open Go.RowKit

theorem RV.len {w : World} {F : Nat → Prop} : ∀ {t : Ty} {x : t.I} {cs : List Value}, RV w F t x cs → cs.length = t.width
  | .int _, _, _, h => by simp only [RV] at h; subst h; rfl
  | .bool, _, _, h => by simp only [RV] at h; subst h; rfl
  | .str, _, _, h => by obtain ⟨s, rfl, _⟩ := h; rfl
  | .pair a b, x, _, h => by obtain ⟨c1, c2, rfl, h1, h2⟩ := h; rw [List.length_append, h1.len, h2.len]; rfl
  | .list _, _, _, h => by obtain ⟨A, c, rfl, _⟩ := h; rfl

theorem RV.one {w : World} {F : Nat → Prop} : ∀ {t : Ty} {x : t.I} {cs : List Value}, RV w F t x cs → ∀ u ∈ cs, u.oneCell' = true
  | .int _, _, _, h => by simp only [RV] at h; subst h; simp [Value.oneCell']
  | .bool, _, _, h => by simp only [RV] at h; subst h; simp [Value.oneCell']
  | .str, _, _, h => by obtain ⟨s, rfl, _⟩ := h; simp [Value.oneCell']
  | .pair a b, x, _, h => by
    obtain ⟨c1, c2, rfl, h1, h2⟩ := h
    intro u hu
    rcases List.mem_append.1 hu with hu | hu
    · exact h1.one u hu
    · exact h2.one u hu
  | .list _, _, _, h => by obtain ⟨A, c, rfl, _⟩ := h; simp [Value.oneCell']

theorem add_block (a : Addr) (n : Nat) : (a.add n).block = a.block := by unfold Addr.add; split <;> rfl
theorem add_add (a : Addr) (i j : Nat) : (a.add i).add j = a.add (i + j) := by
  unfold Addr.add
  by_cases hi : i = 0 <;> by_cases hj : j = 0 <;> simp [hi, hj, Nat.add_assoc]
theorem add_lit (g o n : Nat) : (⟨g, o, none⟩ : Addr).add n = ⟨g, o + n, none⟩ := by
  unfold Addr.add; split
  · rename_i h; subst h; rfl
  · rfl

/-- The blocks of F are as they were. -/
def Same (F : Nat → Prop) (w w' : World) : Prop := ∀ g, F g → w'.heap[g]? = w.heap[g]?

theorem Reads.keep {w w' : World} {F : Nat → Prop} {a : Addr} {us : List Value} (h : Reads w a us) (ha : F a.block) (hs : Same F w w') : Reads w' a us := by
  intro j u hj
  obtain ⟨h1, h2⟩ := h j u hj
  exact ⟨(World.cell?_of_block (by rw [add_block]; exact hs _ ha)).trans h1, h2⟩

theorem RV.keep {w w' : World} {F F' : Nat → Prop} (hs : Same F w w') (hF : ∀ g, F g → F' g) : ∀ {t : Ty} {x : t.I} {cs : List Value}, RV w F t x cs → RV w' F' t x cs
  | .int _, _, _, h => h
  | .bool, _, _, h => h
  | .str, _, _, h => h
  | .pair a b, x, _, h => by
    obtain ⟨c1, c2, rfl, h1, h2⟩ := h
    exact ⟨c1, c2, rfl, h1.keep hs hF, h2.keep hs hF⟩
  | .list t, x, _, h => by
    obtain ⟨A, c, rfl, h1, h2, h3⟩ := h
    refine ⟨A, c, rfl, h1, h2, fun i x hi => ?_⟩
    obtain ⟨a, us, rfl, hb, hr, hc⟩ := h3 i x hi
    exact ⟨a, us, rfl, hF _ hb, hr.keep hs hF, hc.keep (F := F) (by rw [add_block]; exact hb) hs⟩

theorem RE0.keep {w w' : World} {F F' : Nat → Prop} (hs : Same F w w') (hF : ∀ g, F g → F' g) {u : Value} {d : D} (h : RE0 w F u d) : RE0 w' F' u d := by
  cases d <;> simp only [RE0] at h ⊢
  exact h.keep hs hF
theorem RE0.toE {w : World} {F : Nat → Prop} {u : Value} {d : D} (h : RE0 w F u d) : RE w F u d := by
  cases d <;> simp only [RE0] at h
  exact h
theorem RE.keep {w w' : World} {F F' : Nat → Prop} (hs : Same F w w') (hF : ∀ g, F g → F' g) {u : Value} {d : D} (h : RE w F u d) : RE w' F' u d := by
  cases d <;> simp only [RE] at h ⊢
  case val => exact h.keep hs hF
  case ept =>
    obtain ⟨a, us, h1, h2, h3, h4, h5⟩ := h
    refine ⟨a, us, h1, hF _ h2, h3.keep h2 hs, h4, fun j c hj => ?_⟩
    obtain ⟨u', h6, h7⟩ := h5 j c hj
    exact ⟨u', h6, h7.keep hs hF⟩

/-- M' has all that M has. -/
def MLe (M M' : Nat → Option MO) : Prop := ∀ i mo, M i = some mo → M' i = some mo

theorem R0.keep {w w' : World} {F F' : Nat → Prop} {M M' : Nat → Option MO} (hs : Same F w w') (hF : ∀ g, F g → F' g) (hM : MLe M M') {v : Value} {d : D} (h : R0 w F M v d) : R0 w' F' M' v d := by
  cases d <;> simp only [R0] at h ⊢
  case und => exact h
  case val => exact h.keep hs hF
  case fn => exact h
  case nils => exact h
  case pnil => exact h
  case slf => exact h.imp_right fun ⟨mo, g, h1, h2⟩ => ⟨mo, g, hM _ _ h1, h2⟩
  case clo =>
    obtain ⟨us, h1, h2, h3⟩ := h
    refine ⟨us, h1, h2, fun j c hj => ?_⟩
    obtain ⟨u, h4, h5, h6⟩ := h3 j c hj
    exact ⟨u, h4, h5, h6.keep hs hF⟩
  case slo => obtain ⟨mo, h1, h2⟩ := h; exact ⟨mo, hM _ _ h1, h2⟩
  case ptr => obtain ⟨mo, g, h1, h2⟩ := h; exact ⟨mo, g, hM _ _ h1, h2⟩
  case aptr => obtain ⟨mo, g, h1, h2⟩ := h; exact ⟨mo, g, hM _ _ h1, h2⟩
  case rptr => obtain ⟨mo, g, h1, h2⟩ := h; exact ⟨mo, g, hM _ _ h1, h2⟩
  case ept =>
    obtain ⟨a, us, h1, h2, h3, h4, h5⟩ := h
    refine ⟨a, us, h1, hF _ h2, h3.keep h2 hs, h4, fun j c hj => ?_⟩
    obtain ⟨u, h6, h7⟩ := h5 j c hj
    exact ⟨u, h6, h7.keep hs hF⟩

theorem R1.keep {w w' : World} {F F' : Nat → Prop} {M M' : Nat → Option MO} (hs : Same F w w') (hF : ∀ g, F g → F' g) (hM : MLe M M') {v : Value} {d : D} (h : R1 w F M v d) : R1 w' F' M' v d := by
  cases d
  case agg cs =>
    obtain ⟨vs, h1, h2, h3⟩ := h
    refine ⟨vs, h1, h2, fun j c hj => ?_⟩
    obtain ⟨u, h4, h5, h6⟩ := h3 j c hj
    exact ⟨u, h4, h5, h6.keep hs hF hM⟩
  all_goals (simp only [R1] at h ⊢; exact R0.keep hs hF hM h)

theorem R.keep {w w' : World} {F F' : Nat → Prop} {M M' : Nat → Option MO} (hs : Same F w w') (hF : ∀ g, F g → F' g) (hM : MLe M M') {v : Value} {d : D} (h : R w F M v d) : R w' F' M' v d := by
  cases d
  case tup xs =>
    obtain ⟨vs, h1, h2, h3⟩ := h
    refine ⟨vs, h1, h2, fun j c hj => ?_⟩
    obtain ⟨u, h4, h5⟩ := h3 j c hj
    exact ⟨u, h4, h5.keep hs hF hM⟩
  all_goals (simp only [R] at h ⊢; exact R1.keep hs hF hM h)

theorem R.of0 {w : World} {F : Nat → Prop} {M : Nat → Option MO} {v : Value} {d : D} (h : R0 w F M v d) : R w F M v d := by
  cases d <;> first | exact h | exact h.elim
theorem R1.of0 {w : World} {F : Nat → Prop} {M : Nat → Option MO} {v : Value} {d : D} (h : R0 w F M v d) : R1 w F M v d := by
  cases d <;> first | exact h | exact h.elim
theorem R.of1 {w : World} {F : Nat → Prop} {M : Nat → Option MO} {v : Value} {d : D} (h : R1 w F M v d) : R w F M v d := by
  cases d <;> first | exact h | exact h.elim

theorem Holds.keep {w w' : World} {F F' : Nat → Prop} (hs : Same F w w') (hF : ∀ g, F g → F' g) {t : Ty} {xs : List t.I} {us : List Value} (h : Holds w F t xs us) : Holds w' F' t xs us :=
  fun i x hi => (h i x hi).keep hs hF

theorem OwnR.keep {w w' : World} {F F' : Nat → Prop} (hs : Same F w w') (hF : ∀ g, F g → F' g) {B : Nat → Prop} {G : Option Nat} {v : Value} {e : TypeId} {t : Ty} {xs : List t.I}
    (hg : ∀ g, G = some g → w'.heap[g]? = w.heap[g]?) (h : OwnR w F B G v e t xs) : OwnR w' F' B G v e t xs := by
  rcases h with h | ⟨g, cap, us, h1, h2, h3, h4, h5, h6, h7, h8⟩
  · exact .inl h
  · exact .inr ⟨g, cap, us, h1, h2, h3, by rw [hg g h1]; exact h4, h5, h6, h7, h8.keep hs hF⟩

theorem ObR.keep {w w' : World} {F F' : Nat → Prop} {M M' : Nat → Option MO} (hs : Same F w w') (hF : ∀ g, F g → F' g) (hM : MLe M M') {B : Nat → Prop} {mo : MO} {o : Ob}
    (hg : ∀ g, mo.g = some g → w'.heap[g]? = w.heap[g]?) (h : ObR w F M B mo o) : ObR w' F' M' B mo o := by
  cases o
  case cells p t cs =>
    obtain ⟨g, us, h1, h2, h3, h4⟩ := h
    refine ⟨g, us, h1, by rw [hg g h1]; exact h2, h3, fun j c hj => ?_⟩
    obtain ⟨u, h5, h6, h7⟩ := h4 j c hj
    exact ⟨u, h5, h6, h7.keep hs hF hM⟩
  case arr t xs =>
    obtain ⟨g, us, ty, h1, h2, h3, h4, h5⟩ := h
    exact ⟨g, us, ty, h1, h2, by rw [hg g h1]; exact h3, h4, h5.keep hs hF⟩
  case row p e t xs => exact ⟨h.1, h.2.keep hs hF hg⟩
  case buf e xs => exact ⟨h.1, h.2.1.keep hs hF hg, h.2.2⟩

theorem MLe.refl (M : Nat → Option MO) : MLe M M := fun _ _ h => h
theorem MLe.none (M : Nat → Option MO) : MLe noM M := fun _ _ h => by cases h

/-! ### The world goes on: blocks are added, nothing that was there turns -/

theorem Inv.grow {P : Program} {w0 : W0 P} {F0 F : Nat → Prop} {M : Nat → Option MO} {σ : St} {a : Act} {w w' : World} (h : Inv w0 F0 F M σ a w) (hb : Below w.heap.size w w') : Inv w0 F0 F M σ a w' := by
  have hs : Same F w w' := fun g hg => hb.block g (h.flt g hg).1
  refine ⟨h.defers, h.size, fun i => (h.slots i).keep hs (fun _ x => x) (MLe.refl M), fun id o ho => ?_, h.apart, fun i mi g hi hg => ?_, fun g hg => ?_, h.fle, ?_, h.pins⟩
  · obtain ⟨mo, h1, h2⟩ := h.obs id o ho
    exact ⟨mo, h1, h2.keep hs (fun _ x => x) (MLe.refl M) fun g hg => hb.block g (h.mine _ _ _ h1 hg).2.2⟩
  · obtain ⟨h1, h2, h3⟩ := h.mine i mi g hi hg
    exact ⟨h1, h2, Nat.lt_of_lt_of_le h3 hb.size⟩
  · obtain ⟨h1, h2⟩ := h.flt g hg
    exact ⟨Nat.lt_of_lt_of_le h1 hb.size, h2⟩
  · exact h.below.trans hb

/-! ### Slots -/

theorem find_cons_eq (t : Nat) (d : D) (l : List (Nat × D)) : find ((t, d) :: l) t = d := by simp [find]
theorem find_cons_ne {t i : Nat} (d : D) (l : List (Nat × D)) (h : i ≠ t) : find ((t, d) :: l) i = find l i := by
  have : Nat.beq i t = false := by cases hb : Nat.beq i t with
    | false => rfl
    | true => exact absurd (Nat.eq_of_beq_eq_true hb) h
  simp [find, this]

theorem Inv.put {P : Program} {w0 : W0 P} {F0 F : Nat → Prop} {M : Nat → Option MO} {σ : St} {a : Act} {w : World} (h : Inv w0 F0 F M σ a w) {v : Value} {d : D} (hr : R w F M v d) (dst : Option Nat) :
    Inv w0 F0 F M (σ.put dst d) (a.put dst v) w := by
  cases dst with
  | none => exact h
  | some t =>
    refine ⟨h.defers, by simpa [St.put, Act.put] using h.size, fun i => ?_, h.obs, h.apart, h.mine, h.flt, h.fle, h.below, h.pins⟩
    simp only [St.put, Act.put]
    by_cases hi : i = t
    · subst hi
      rw [find_cons_eq]
      by_cases hlt : i < σ.n
      · have hb : Nat.blt i σ.n = true := by simpa [Nat.blt_eq] using hlt
        rw [hb]
        have hsz : i < a.tmps.size := by rw [h.size]; exact hlt
        simpa [Array.getD, hsz] using hr
      · have hb : Nat.blt i σ.n = false := by
          cases hbb : Nat.blt i σ.n with
          | false => rfl
          | true => exact absurd (by simpa [Nat.blt_eq] using hbb) hlt
        rw [hb]
        exact trivial
    · rw [find_cons_ne _ _ hi]
      have : (a.tmps.setIfInBounds t v).getD i undef = a.tmps.getD i undef := by
        simp only [Array.getD_eq_getD_getElem?]
        rw [Array.getElem?_setIfInBounds_ne (Ne.symm hi)]
      rw [this]
      exact h.slots i

theorem Inv.lit {P : Program} {w0 : W0 P} {F0 F : Nat → Prop} {M : Nat → Option MO} {σ : St} {a : Act} {w : World} (h : Inv w0 F0 F M σ a w) {t : Nat} {b : Bool} (hb : a.tmps.getD t undef = .bool b) :
    Inv w0 F0 F M (σ.lit t b) a w := by
  refine ⟨h.defers, h.size, fun i => ?_, h.obs, h.apart, h.mine, h.flt, h.fle, h.below, h.pins⟩
  simp only [St.lit]
  by_cases hi : i = t
  · subst hi
    rw [find_cons_eq, hb]
    show RV w F .bool b [Value.bool b]
    rfl
  · rw [find_cons_ne _ _ hi]; exact h.slots i

/-- More is known of a slot. -/
theorem Inv.know {P : Program} {w0 : W0 P} {F0 F : Nat → Prop} {M : Nat → Option MO} {σ : St} {a : Act} {w : World} (h : Inv w0 F0 F M σ a w) {t : Nat} {d : D} (hd : R w F M (a.tmps.getD t undef) d) :
    Inv w0 F0 F M { σ with sl := (t, d) :: σ.sl } a w := by
  refine ⟨h.defers, h.size, fun i => ?_, h.obs, h.apart, h.mine, h.flt, h.fle, h.below, h.pins⟩
  show R w F M _ (find ((t, d) :: σ.sl) i)
  by_cases hi : i = t
  · subst hi
    rw [find_cons_eq]; exact hd
  · rw [find_cons_ne _ _ hi]; exact h.slots i

/-! ### Objects that are gone, or frozen -/

def dropM (M : Nat → Option MO) (id : Nat) : Nat → Option MO := fun j => if j = id then none else M j

theorem dropM_some {M : Nat → Option MO} {id j : Nat} {mo : MO} (h : dropM M id j = some mo) : j ≠ id ∧ M j = some mo := by
  unfold dropM at h
  split at h
  · cases h
  · exact ⟨‹_›, h⟩
theorem dropM_ne {M : Nat → Option MO} {id j : Nat} (h : j ≠ id) : dropM M id j = M j := by unfold dropM; rw [if_neg h]

theorem beq_cases (i j : Nat) : (i = j ∧ Nat.beq i j = true) ∨ (i ≠ j ∧ Nat.beq i j = false) := by
  by_cases h : i = j
  · exact .inl ⟨h, by subst h; exact Nat.beq_refl i⟩
  · refine .inr ⟨h, ?_⟩
    cases hb : Nat.beq i j with
    | false => rfl
    | true => exact absurd (Nat.eq_of_beq_eq_true hb) h

section
variable {w : World} {F F' : Nat → Prop} {M : Nat → Option MO} {id : Nat} {new : D}

theorem R0.ice (hF : ∀ g, F g → F' g) (hn : ∀ mo, M id = some mo → R0 w F' (dropM M id) mo.v new) {v : Value} {d : D} (h : R0 w F M v d) : R0 w F' (dropM M id) v (ic0 id new d) := by
  have hs : Same F w w := fun _ _ => rfl
  cases d
  case slo i =>
    obtain ⟨mo, h1, rfl, h3⟩ := h
    simp only [ic0]
    rcases beq_cases i id with ⟨rfl, hb⟩ | ⟨hne, hb⟩
    · rw [hb]; exact hn mo h1
    · rw [hb]; exact ⟨mo, by rw [dropM_ne hne]; exact h1, rfl, h3⟩
  case ptr i o =>
    obtain ⟨mo, g, h1, h2⟩ := h
    simp only [ic0]
    rcases beq_cases i id with ⟨rfl, hb⟩ | ⟨hne, hb⟩
    · rw [hb]; exact trivial
    · rw [hb]; exact ⟨mo, g, by rw [dropM_ne hne]; exact h1, h2⟩
  case aptr i =>
    obtain ⟨mo, g, h1, h2⟩ := h
    simp only [ic0]
    rcases beq_cases i id with ⟨rfl, hb⟩ | ⟨hne, hb⟩
    · rw [hb]; exact trivial
    · rw [hb]; exact ⟨mo, g, by rw [dropM_ne hne]; exact h1, h2⟩
  case rptr i x o =>
    obtain ⟨mo, g, h1, h2⟩ := h
    simp only [ic0]
    rcases beq_cases i id with ⟨rfl, hb⟩ | ⟨hne, hb⟩
    · rw [hb]; exact trivial
    · rw [hb]; exact ⟨mo, g, by rw [dropM_ne hne]; exact h1, h2⟩
  case slf i =>
    simp only [ic0]
    rcases beq_cases i id with ⟨rfl, hb⟩ | ⟨hne, hb⟩
    · rw [hb]; exact trivial
    · rw [hb]; exact h.imp_right fun ⟨mo, g, h1, h2⟩ => ⟨mo, g, by rw [dropM_ne hne]; exact h1, h2⟩
  case pnil => exact h
  case clo g cs =>
    obtain ⟨us, h1, h2, h3⟩ := h
    refine ⟨us, h1, h2, fun j c hj => ?_⟩
    obtain ⟨u, h4, h5, h6⟩ := h3 j c hj
    exact ⟨u, h4, h5, h6.keep hs hF⟩
  case agg => exact h.elim
  case tup => exact h.elim
  case own => exact h.elim
  case bad => exact trivial
  case und => exact h
  case val => exact RV.keep hs hF h
  case fn => exact h
  case nils => exact h
  case ept cs =>
    obtain ⟨a, us, h1, h2, h3, h4, h5⟩ := h
    refine ⟨a, us, h1, hF _ h2, h3, h4, fun j c hj => ?_⟩
    obtain ⟨u, h6, h7⟩ := h5 j c hj
    exact ⟨u, h6, h7.keep hs hF⟩

theorem ices0_get (cs : List D) : ∀ j : Nat, (ices0 id new cs)[j]? = (cs[j]?).map (ic0 id new) := by
  induction cs with
  | nil => intro j; simp [ices0]
  | cons c r ih =>
    intro j
    cases j with
    | zero => simp [ices0]
    | succ j => simpa [ices0] using ih j
theorem ices0_len (cs : List D) : (ices0 id new cs).length = cs.length := by
  induction cs with
  | nil => rfl
  | cons c r ih => simp [ices0, ih]
theorem ices1_get (cs : List D) : ∀ j : Nat, (ices1 id new cs)[j]? = (cs[j]?).map (ic1 id new) := by
  induction cs with
  | nil => intro j; simp [ices1]
  | cons c r ih =>
    intro j
    cases j with
    | zero => simp [ices1]
    | succ j => simpa [ices1] using ih j
theorem ices1_len (cs : List D) : (ices1 id new cs).length = cs.length := by
  induction cs with
  | nil => rfl
  | cons c r ih => simp [ices1, ih]

theorem R1.ice (hF : ∀ g, F g → F' g) (hn : ∀ mo, M id = some mo → R0 w F' (dropM M id) mo.v new) {v : Value} {d : D} (h : R1 w F M v d) : R1 w F' (dropM M id) v (ic1 id new d) := by
  cases d
  case agg cs =>
    obtain ⟨us, h1, h2, h3⟩ := h
    refine ⟨us, h1, by rw [ices0_len]; exact h2, fun j c hj => ?_⟩
    rw [ices0_get] at hj
    obtain ⟨c', hc', rfl⟩ := Option.map_eq_some_iff.1 hj
    obtain ⟨u, h4, h5, h6⟩ := h3 j c' hc'
    exact ⟨u, h4, h5, h6.ice hF hn⟩
  all_goals (simp only [R1] at h; simp only [ic1]; exact R1.of0 (h.ice hF hn))

theorem R.ice (hF : ∀ g, F g → F' g) (hn : ∀ mo, M id = some mo → R0 w F' (dropM M id) mo.v new) {v : Value} {d : D} (h : R w F M v d) : R w F' (dropM M id) v (ic2 id new d) := by
  cases d
  case tup xs =>
    obtain ⟨us, h1, h2, h3⟩ := h
    refine ⟨us, h1, by rw [ices1_len]; exact h2, fun j c hj => ?_⟩
    rw [ices1_get] at hj
    obtain ⟨c', hc', rfl⟩ := Option.map_eq_some_iff.1 hj
    obtain ⟨u, h4, h5⟩ := h3 j c' hc'
    exact ⟨u, h4, h5.ice hF hn⟩
  all_goals (simp only [R] at h; simp only [ic2]; exact R.of1 (h.ice hF hn))

theorem find_ice (l : List (Nat × D)) (i : Nat) : find (iceSl id new l) i = ic2 id new (find l i) := by
  induction l with
  | nil => rfl
  | cons p r ih =>
    obtain ⟨j, d⟩ := p
    simp only [iceSl, find]
    cases Nat.beq i j
    · exact ih
    · rfl

def icOb (id : Nat) (new : D) : Ob → Ob
  | .cells p T cs => .cells p T (ices0 id new cs)
  | o => o

theorem findOb_ice (l : List (Nat × Ob)) (i : Nat) : findOb (iceOb id new l) i = if i = id then none else (findOb l i).map (icOb id new) := by
  induction l with
  | nil => simp [iceOb, findOb]
  | cons p r ih =>
    obtain ⟨j, o⟩ := p
    have key : findOb (iceOb id new ((j, o) :: r)) i = findOb (bif Nat.beq j id then iceOb id new r else (j, icOb id new o) :: iceOb id new r) i := by
      cases o <;> rfl
    rw [key]
    rcases beq_cases j id with ⟨rfl, hb⟩ | ⟨hne, hb⟩
    · rw [hb]
      simp only [cond_true, ih, findOb]
      by_cases hi : i = j
      · simp [hi]
      · rw [if_neg hi]
        have hbb : Nat.beq i j = false := (beq_cases i j).resolve_left (fun h => hi h.1) |>.2
        rw [if_neg hi]; show _ = Option.map _ (bif Nat.beq i j then some o else findOb r i); rw [hbb]; rfl
    · rw [hb]
      show (bif Nat.beq i j then some (icOb id new o) else findOb (iceOb id new r) i) = if i = id then none else Option.map (icOb id new) (bif Nat.beq i j then some o else findOb r i)
      rw [ih]
      rcases beq_cases i j with ⟨rfl, hbb⟩ | ⟨hij, hbb⟩
      · simp [hne]
      · rw [hbb]; rfl

theorem ObR.ice (hF : ∀ g, F g → F' g) (hn : ∀ mo, M id = some mo → R0 w F' (dropM M id) mo.v new) {B : Nat → Prop} {mo : MO} {o : Ob} (h : ObR w F M B mo o) : ObR w F' (dropM M id) B mo (icOb id new o) := by
  have hs : Same F w w := fun _ _ => rfl
  cases o
  case cells p t cs =>
    obtain ⟨g, us, h1, h2, h3, h4⟩ := h
    refine ⟨g, us, h1, h2, by rw [ices0_len]; exact h3, fun j c hj => ?_⟩
    rw [ices0_get] at hj
    obtain ⟨c', hc', rfl⟩ := Option.map_eq_some_iff.1 hj
    obtain ⟨u, h5, h6, h7⟩ := h4 j c' hc'
    exact ⟨u, h5, h6, h7.ice hF hn⟩
  case arr t xs =>
    obtain ⟨g, us, ty, h1, h2, h3, h4, h5⟩ := h
    exact ⟨g, us, ty, h1, h2, h3, h4, h5.keep hs hF⟩
  case row p e t xs => exact ⟨h.1, h.2.keep hs hF fun _ _ => rfl⟩
  case buf e xs => exact ⟨h.1, h.2.1.keep hs hF fun _ _ => rfl, h.2.2⟩

theorem Inv.ice_ {P : Program} {w0 : W0 P} {F0 : Nat → Prop} {σ : St} {a : Act} (h : Inv w0 F0 F M σ a w) (hF : ∀ g, F g → F' g) (hF' : ∀ g, F' g → F g ∨ ∃ mo, M id = some mo ∧ mo.g = some g)
    (hn : ∀ mo, M id = some mo → R0 w F' (dropM M id) mo.v new) : Inv w0 F0 F' (dropM M id) { σ with sl := iceSl id new σ.sl, ob := iceOb id new σ.ob } a w := by
  refine ⟨h.defers, h.size, fun i => ?_, fun j o ho => ?_, fun i j mi mj g hi hj => ?_, fun i mi g hi hg => ?_, fun g hg => ?_, fun g hg => hF g (h.fle g hg), h.below, fun j o ho hp => ?_⟩
  · show R _ _ _ _ (find (iceSl id new σ.sl) i)
    rw [find_ice]; exact (h.slots i).ice hF hn
  · change findOb (iceOb id new σ.ob) j = some o at ho
    rw [findOb_ice] at ho
    split at ho
    · cases ho
    · obtain ⟨o', h1, rfl⟩ := Option.map_eq_some_iff.1 ho
      obtain ⟨mo, h2, h3⟩ := h.obs j o' h1
      exact ⟨mo, by rw [dropM_ne ‹_›]; exact h2, h3.ice hF hn⟩
  · exact h.apart i j mi mj g (dropM_some hi).2 (dropM_some hj).2
  · obtain ⟨hne, hi'⟩ := dropM_some hi
    obtain ⟨h1, h2⟩ := h.mine i mi g hi' hg
    refine ⟨fun hc => ?_, h2⟩
    rcases hF' g hc with hc | ⟨mo, hm, hg'⟩
    · exact h1 hc
    · exact hne (h.apart i id mi mo g hi' hm hg hg')
  · rcases hF' g hg with hc | ⟨mo, hm, hg'⟩
    · exact h.flt g hc
    · obtain ⟨_, h2, h3⟩ := h.mine id mo g hm hg'
      exact ⟨h3, .inr h2⟩
  · change findOb (iceOb id new σ.ob) j = some o at ho
    rw [findOb_ice] at ho
    split at ho
    · cases ho
    · obtain ⟨o', h1, rfl⟩ := Option.map_eq_some_iff.1 ho
      rw [dropM_ne ‹_›]
      exact h.pins j o' h1 (by rw [← hp]; cases o' <;> rfl)

theorem Inv.kill {P : Program} {w0 : W0 P} {F0 : Nat → Prop} {σ : St} {a : Act} (h : Inv w0 F0 F M σ a w) (id : Nat) : Inv w0 F0 F (dropM M id) (σ.kill id) a w :=
  h.ice_ (fun _ x => x) (fun _ x => .inl x) fun _ _ => trivial

theorem dropM_none (M : Nat → Option MO) (id : Nat) : dropM M id id = none := by simp [dropM]
end

/-- An own row, read as data. -/
theorem OwnR.reads {w : World} {F F' : Nat → Prop} {B : Nat → Prop} {G : Option Nat} {v : Value} {e : TypeId} {t : Ty} {xs : List t.I} (h : OwnR w F B G v e t xs) (hF : ∀ g, F g → F' g)
    (hG : ∀ g, G = some g → F' g) : RV w F' (.list t) xs [v] := by
  rcases h with ⟨rfl, rfl, A, rfl⟩ | ⟨g, cap, us, rfl, _, rfl, hg, hc, hm, hs, hh⟩
  · exact ⟨A, 0, rfl, Nat.le_refl _, by simp [maxLen], fun i x hi => by simp at hi⟩
  · refine ⟨_, cap, rfl, hc, hm, fun i x hi => ?_⟩
    have hr := (hh i x hi).keep (w' := w) (F' := F') (fun _ _ => rfl) hF
    refine ⟨⟨g, 0, none⟩, _, rfl, hG g rfl, hr, fun j u hj => ⟨?_, hr.one u (List.mem_of_getElem? hj)⟩⟩
    rw [add_lit, add_lit, cell_of_row w g _ us e (0, 0) hg]
    rw [List.getElem?_take] at hj
    split at hj
    · rw [List.getElem?_drop] at hj
      simpa using hj
    · cases hj

theorem Inv.ice {P : Program} {w0 : W0 P} {F0 F : Nat → Prop} {M : Nat → Option MO} {σ : St} {a : Act} {w : World} (h : Inv w0 F0 F M σ a w) (id : Nat) : ∃ F' M', Inv w0 F0 F' M' (σ.ice id) a w ∧ (∀ g, F g → F' g) := by
  unfold St.ice
  split
  · rename_i e t xs hf
    obtain ⟨mo, h1, h2⟩ := h.obs id _ hf
    refine ⟨fun b => F b ∨ mo.g = some b, dropM M id, h.ice_ (fun _ x => .inl x) (fun g hg => hg.imp_right fun hg => ⟨mo, h1, hg⟩) fun mo' hmo' => ?_, fun _ x => .inl x⟩
    have : mo' = mo := Option.some.inj (hmo'.symm.trans h1)
    subst this
    exact h2.2.reads (F' := fun b => F b ∨ mo'.g = some b) (fun _ x => Or.inl x) fun g hg => Or.inr hg
  · exact ⟨F, M, h, fun _ x => x⟩

theorem Inv.iceAll {P : Program} {w0 : W0 P} {F0 : Nat → Prop} {a : Act} {w : World} (l : List Nat) : ∀ {F : Nat → Prop} {M : Nat → Option MO} {σ : St}, Inv w0 F0 F M σ a w →
    ∃ F' M', Inv w0 F0 F' M' (σ.iceAll l) a w ∧ (∀ g, F g → F' g) := by
  induction l with
  | nil => intro F M σ h; exact ⟨F, M, h, fun _ x => x⟩
  | cons i r ih =>
    intro F M σ h
    obtain ⟨F1, M1, h1, hF1⟩ := h.ice i
    obtain ⟨F2, M2, h2, hF2⟩ := ih h1
    exact ⟨F2, M2, h2, fun g hg => hF2 g (hF1 g hg)⟩

end Go.Proofs.Ytnkinnhgahpcoaa.Vc
