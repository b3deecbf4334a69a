/-
  THE CONDITION IS SOUND, TENTH PART: calls; each operation under one name.
  No condition: the lemmas hold for every program.
-/
import Derived.Test.YtnkinnhgahpcoaaVw
namespace Go.Proofs.Ytnkinnhgahpcoaa.Vc
open Go.RowKit

section
variable {P : Program} {w0 : W0 P} {w : World} {F0 F F1 : Nat → Prop} {M : Nat → Option MO} {σ : St} {a : Act} {o : Oper} {K : St → Prop} {μ : List Nat}

/-- The value, as a slot holds it: no own row. -/
theorem encV_RR {u : Ty} {x : u.I} {v : Value} {w' : World} {B : Nat → Prop} {G : Option Nat} (h : RR w' F B G v (encV u x)) : R1 w' F noM v (encV u x) := by
  cases u <;> exact h

theorem encV_R {u : Ty} {x : u.I} {v : Value} (h : R1 w F noM v (encV u x)) : R w F M v (encV u x) :=
  R.of1 (h.keep (fun _ _ => rfl) (fun _ y => y) (MLe.none M))

theorem encV_RR0 {u : Ty} {x : u.I} {v : Value} {w' : World} {B : Nat → Prop} {G : Option Nat} (h : RR0 w' F B G v (encV u x)) : R1 w' F noM v (encV u x) := by
  cases u <;> exact h

/-- How a call of a Go function is entered. -/
theorem run_call0 {f : Operand} {g : FuncId} {c : Call} (h : Inv w0 F0 F M σ a w) (ho : o.op = .call c) (hc : c.callee = .value f) (hf : ev σ f = .fn (.func g))
    (hs : ∀ (args : Array Value) (w : World), (callFunc g args).run P w = .ok (.enter g args) w) (w' : World) :
    (execOp a.eval o).run P w' = .ok (.enter g (c.args.map a.eval)) w' := by
  have hff := h.ev f
  rw [hf] at hff
  have hv : a.eval f = .func (.func g) #[] #[] := hff
  unfold execOp; rw [ho]
  simp [resolve, hc, hv, Deferred.ofValue, invoke, hs]
theorem run_call {f : Operand} {g : FuncId} {c : Call} (h : Inv w0 F0 F M σ a w) (ho : o.op = .call c) (hc : c.callee = .value f) (hf : ev σ f = .fn (.func g)) {ds : List D} {d : D} (hs : Spec P g ds d) (w' : World) :
    (execOp a.eval o).run P w' = .ok (.enter g (c.args.map a.eval)) w' := run_call0 h ho hc hf hs.1 w'

/-- All own blocks are let in: for a call whose answer bears no list. -/
def allF (F : Nat → Prop) (M : Nat → Option MO) : Nat → Prop := fun g => F g ∨ ∃ i mo, M i = some mo ∧ mo.g = some g

theorem allF_lt (h : Inv w0 F0 F M σ a w) : ∀ g, allF F M g → g < w.heap.size := fun g hg => by
  rcases hg with hg | ⟨i, mo, h1, h2⟩
  · exact (h.flt g hg).1
  · exact (h.mine _ _ _ h1 h2).2.2

theorem args_all (h : Inv w0 F0 F M σ a w) (l : List Operand) : ∀ (i : Nat) d', (snaps σ.ob (evs σ l))[i]? = some d' → ∃ v, (l.map a.eval)[i]? = some v ∧ R1 w (allF F M) noM v d' :=
  args_snap h (fun _ hg => Or.inl hg) fun i _ _ mo _ hm hg => Or.inr ⟨i, mo, hm, hg⟩

/-- What a call does. -/
def CY (P : Program) (w0 : W0 P) (F0 : Nat → Prop) (a : Act) (w : World) (o : Oper) (K : St → Prop) : Prop :=
  ∃ g vs, (execOp a.eval o).run P w = .ok (.enter g vs) w ∧ Calls P g vs w fun e w' => ∃ v σ' F' M', e = .returned v ∧ K σ' ∧ Inv w0 F0 F' M' σ' (a.put o.dst v) w'

/-- How a call is entered, and with what. -/
structure Enters (P : Program) (w : World) (F : Nat → Prop) (M : Nat → Option MO) (σ : St) (a : Act) (o : Oper) (g : FuncId) (ads : List D) (avs : Array Value) : Prop where
  run : (∀ (args : Array Value) (w : World), (callFunc g args).run P w = .ok (.enter g args) w) → ∀ w', (execOp a.eval o).run P w' = .ok (.enter g avs) w'
  size : avs.size = ads.length
  args : ∀ F1 : Nat → Prop, (∀ g, F g → F1 g) → Froz σ M F1 (rowsOf ads) → ∀ (i : Nat) d', (snaps σ.ob ads)[i]? = some d' → ∃ v, avs[i]? = some v ∧ R1 w F1 noM v d'

theorem Enters.all {g : FuncId} {ads : List D} {avs : Array Value} (h : Enters P w F M σ a o g ads avs) : ∀ (i : Nat) d', (snaps σ.ob ads)[i]? = some d' → ∃ v, avs[i]? = some v ∧ R1 w (allF F M) noM v d' :=
  h.args _ (fun _ hg => Or.inl hg) fun i _ _ mo _ hm hg => Or.inr ⟨i, mo, hm, hg⟩

theorem enters_fn (h : Inv w0 F0 F M σ a w) {f : Operand} {g : FuncId} {c : Call} (ho : o.op = .call c) (hc : c.callee = .value f) (hf : ev σ f = .fn (.func g)) : Enters P w F M σ a o g (evs σ c.args.toList) (c.args.map a.eval) :=
  ⟨fun hs w' => run_call0 h ho hc hf hs w', by rw [evs_len]; simp, fun F1 h1 h2 i d' hi => by
    obtain ⟨v, h6, h7⟩ := args_snap h h1 h2 i d' hi
    exact ⟨v, by simpa using h6, h7⟩⟩

theorem rowsOf_append : ∀ (l1 l2 : List D), rowsOf (l1 ++ l2) = rowsOf l1 ++ rowsOf l2
  | [], _ => rfl
  | d :: r, l2 => by
    cases d <;> simp only [List.cons_append, rowsOf, rowsOf_append r l2, List.append_assoc]
theorem snaps_append (ob : List (Nat × Ob)) : ∀ (l1 l2 : List D), snaps ob (l1 ++ l2) = snaps ob l1 ++ snaps ob l2
  | [], _ => rfl
  | d :: r, l2 => by simp only [List.cons_append, snaps, snaps_append ob r l2]

theorem enters_clo (h : Inv w0 F0 F M σ a w) {f : Operand} {g : FuncId} {cs : List D} {c : Call} (ho : o.op = .call c) (hc : c.callee = .value f) (hf : ev σ f = .clo g cs) : ∃ avs, Enters P w F M σ a o g (evs σ c.args.toList ++ cs) avs := by
  have hff := h.ev f
  rw [hf] at hff
  obtain ⟨us, hv, hsz, hel⟩ := id hff
  have hval : ∀ c' ∈ cs, (∃ t x, c' = .val t x) ∨ ∃ q, c' = .ept q := fun c' hc' => by
    obtain ⟨j, hj⟩ := List.getElem?_of_mem hc'
    obtain ⟨u, _, _, hre⟩ := hel j c' hj
    cases c' <;> first | exact hre.elim | exact .inl ⟨_, _, rfl⟩ | exact .inr ⟨_, rfl⟩
  have hsnap : snaps σ.ob cs = cs := by
    clear hel hsz hf hff
    induction cs with
    | nil => rfl
    | cons c' r ih =>
      rcases hval c' (by simp) with ⟨t, x, rfl⟩ | ⟨q, rfl⟩ <;>
      simp only [snaps, snap, snap0, ih fun c'' h'' => hval c'' (by simp [h''])]
  refine ⟨c.args.map a.eval ++ us, fun hs w' => ?_, by simp [evs_len, hsz], fun F1 h1 h2 i d' hi => ?_⟩
  · unfold execOp; rw [ho]
    simp [resolve, hc, hv, Deferred.ofValue, invoke, hs]
  · rw [snaps_append, hsnap] at hi
    rcases Nat.lt_or_ge i (snaps σ.ob (evs σ c.args.toList)).length with hlt | hge
    · rw [List.getElem?_append_left hlt] at hi
      obtain ⟨v, h6, h7⟩ := args_snap h h1 (fun k hk => h2 k (by rw [rowsOf_append]; exact List.mem_append_left _ hk)) i d' hi
      rw [snaps_len, evs_len] at hlt
      exact ⟨v, by rw [Array.getElem?_append_left (by simpa using hlt)]; simpa using h6, h7⟩
    · rw [List.getElem?_append_right hge] at hi
      obtain ⟨u, h6, _, h7⟩ := hel _ d' hi
      rw [snaps_len, evs_len] at hge h6
      refine ⟨u, by rw [Array.getElem?_append_right (by simpa using hge)]; simpa using h6, ?_⟩
      have h8 := h7.keep (w' := w) (F' := F1) (fun _ _ => rfl) h1
      cases d' <;> first | exact h8.elim | exact h8 | exact RE.to0 (M := noM) h8

/-- A call whose answer bears no list. -/
theorem call_flat (h : Inv w0 F0 F M σ a w) {g : FuncId} {ads : List D} {avs : Array Value} (hen : Enters P w F M σ a o g ads avs) {d : D} (hs : Spec P g (snaps σ.ob ads) d)
    (hK : K (σ.put o.dst d)) (hd : ∀ {w' : World} {F' : Nat → Prop} {B : Nat → Prop} {G : Option Nat} {v : Value}, RR w' F' B G v d → ∀ F2 M2, R w' F2 M2 v d) : CY P w0 F0 a w o K := by
  refine ⟨g, avs, hen.run hs.1 w, ?_⟩
  refine (hs.2 w avs (allF F M) (allF_lt h) (h.glb.imp fun _ hg => Or.inl hg) (by rw [snaps_len]; exact hen.size) fun i d' hi => ?_).mono fun e w' ⟨v, F', G, he, hb, _, _, _, hr⟩ => ?_
  · exact hen.all i d' hi
  · exact ⟨v, _, F, M, he, hK, (h.grow hb).put (hd hr F M) o.dst⟩

/-- A call, whatever its answer: what it might share with an own row is frozen. -/
theorem call_any (h : Inv w0 F0 F M σ a w) {g : FuncId} {ads : List D} {avs : Array Value} (hen : Enters P w F M σ a o g ads avs) {d d2 : D} (hs : Spec P g (snaps σ.ob ads) d)
    (hK : K ((σ.iceAll (rowsOf ads)).put o.dst d2)) (hd : ∀ {w' : World} {F' : Nat → Prop} {B : Nat → Prop} {G : Option Nat} {v : Value}, RR w' F' B G v d → ∀ M2, R w' F' M2 v d2) : CY P w0 F0 a w o K := by
  obtain ⟨F1, M1, h1, h2, h3, h4, h5⟩ := iceAll_froz (rowsOf ads) h
  refine ⟨g, avs, hen.run hs.1 w, ?_⟩
  refine (hs.2 w avs F1 (fun g hg => (h1.flt g hg).1) h1.glb (by rw [snaps_len]; exact hen.size) fun i d' hi => ?_).mono fun e w' ⟨v, F', G, he, hb, hF', hlt, _, hr⟩ => ?_
  · exact hen.args F1 h2 h3 i d' hi
  · exact ⟨v, _, F', M1, he, hK, (h1.widen hb hF' hlt).put (hd hr M1) o.dst⟩

/-- A call whose first result is a row that is the caller's own from now on. -/
theorem call_own (h : Inv w0 F0 F M σ a w) {g : FuncId} {ads : List D} {avs : Array Value} (hen : Enters P w F M σ a o g ads avs) {d p : D} (hs : Spec P g (snaps σ.ob ads) d)
    {k : Nat} (hdst : o.dst = some k) {e : TypeId} {u : Ty} {xs : List u.I} (hK : K ((σ.iceAll (rowsOf ads)).putOb k (.row false e u xs) p))
    (hd : ∀ {w' : World} {F' : Nat → Prop} {B : Nat → Prop} {G : Option Nat} {v : Value}, RR w' F' B G v d → ∃ v1, OwnR w' F' B G v1 e u xs ∧ ∀ M2, M2 k = some ⟨G, v1, u.width⟩ → R w' F' M2 v p) : CY P w0 F0 a w o K := by
  obtain ⟨F1, M1, h1, h2, h3, h4, h5⟩ := iceAll_froz (rowsOf ads) h
  refine ⟨g, avs, hen.run hs.1 w, ?_⟩
  refine (hs.2 w avs F1 (fun g hg => (h1.flt g hg).1) h1.glb (by rw [snaps_len]; exact hen.size) fun i d' hi => ?_).mono fun en w' ⟨v, F', G, he, hb, hF', hlt, hG, hr⟩ => ?_
  · exact hen.args F1 h2 h3 i d' hi
  · obtain ⟨v1, hown, hp⟩ := hd hr
    have hB := h.below.size
    have h6 := (h1.widen hb hF' hlt).kill k
    obtain ⟨M', hinv⟩ := h6.add k (dropM_none M1 k) (.row false e u xs) p ⟨G, v1, u.width⟩ v (some k) (fun g hg => by
        obtain ⟨h7, h8, h9⟩ := hG g hg
        refine ⟨h.below.new h7, h8, h9, fun j mj hj hjg => ?_⟩
        have := (h1.mine _ _ _ (dropM_some hj).2 hjg).2.2
        omega)
      (fun M' _ _ => ⟨rfl, by
        rcases hown with hown | ⟨g, cap, us, h7, h8, h9⟩
        · exact .inl hown
        · exact .inr ⟨g, cap, us, h7, h.below.new h8, h9⟩⟩) fun M' hM' _ => hp M' hM'
    exact ⟨v, _, F', M', he, hK, by rw [hdst]; exact hinv⟩

theorem tup_R {w' : World} {F' : Nat → Prop} {B : Nat → Prop} {G : Option Nat} {v : Value} {ds : List D} (h : RR w' F' B G v (.tup ds)) (hd : ∀ d ∈ ds, ∀ u, RR0 w' F' B G u d → R1 w' F' noM u d) (M2 : Nat → Option MO) : R w' F' M2 v (.tup ds) := by
  obtain ⟨us, h1, h2, h3⟩ := h
  refine ⟨us, h1, h2, fun j d hj => ?_⟩
  obtain ⟨u, h4, h5⟩ := h3 j d hj
  exact ⟨u, h4, (hd d (List.mem_of_getElem? hj) u h5).keep (fun _ _ => rfl) (fun _ y => y) (MLe.none M2)⟩

theorem tup_flat {w' : World} {F' : Nat → Prop} {B : Nat → Prop} {G : Option Nat} {v : Value} {ds : List D} (h : RR w' F' B G v (.tup ds)) (hd : ∀ d ∈ ds, ∀ u, RR0 w' F' B G u d → ∀ F2 M2, R1 w' F2 M2 u d) (F2 : Nat → Prop) (M2 : Nat → Option MO) : R w' F2 M2 v (.tup ds) := by
  obtain ⟨us, h1, h2, h3⟩ := h
  refine ⟨us, h1, h2, fun j d hj => ?_⟩
  obtain ⟨u, h4, h5⟩ := h3 j d hj
  exact ⟨u, h4, hd d (List.mem_of_getElem? hj) u h5 F2 M2⟩

/-- A call, whatever its results, none of them the caller's own. -/
theorem call_after (h : Inv w0 F0 F M σ a w) {g : FuncId} {ads : List D} {avs : Array Value} (hen : Enters P w F M σ a o g ads avs) {d : D} (hs : Spec P g (snaps σ.ob ads) d) (flat : Bool)
    (hK : K ((σ.after flat ads).put o.dst d)) (hd : ∀ {w' : World} {F' : Nat → Prop} {B : Nat → Prop} {G : Option Nat} {v : Value}, RR w' F' B G v d → ∀ M2, R w' F' M2 v d)
    (hfl : flat = true → ∀ {w' : World} {F' : Nat → Prop} {B : Nat → Prop} {G : Option Nat} {v : Value}, RR w' F' B G v d → ∀ F2 M2, R w' F2 M2 v d) : CY P w0 F0 a w o K := by
  cases flat with
  | true => exact call_flat h hen hs hK (hfl rfl)
  | false => exact call_any h hen hs hK hd

/-! ### Calls that write into a row -/

/-- An object is written, and data grow. -/
theorem Inv.wrote {w' : World} {F' : Nat → Prop} (h : Inv w0 F0 F M σ a w) {i : Nat} {mo : MO} (hm : M i = some mo) (hg : w.grownBy w' mo.g) (hF : ∀ g, F g → F' g)
    (hlt : ∀ g, F' g → g < w'.heap.size ∧ (F g ∨ w.heap.size ≤ g)) (o : Ob) (ho : ObR w' F' M w0.nw mo o) (hpin : o.pin = true → M i = w0.p i) :
    Inv w0 F0 F' M { σ with ob := setOb σ.ob i o } a w' := by
  have hs : Same F w w' := fun b hb => hg.block b (h.flt b hb).1 (fun e => (h.mine i mo b hm e.symm).1 hb)
  refine ⟨h.defers, h.size, fun j => (h.slots j).keep hs hF (MLe.refl M), fun j o' ho' => ?_, h.apart, fun j mj b hj hb => ?_, fun b hb => ?_, fun b hb => hF b (h.fle b hb), ?_, fun j o' ho' hpo => ?_⟩
  · rcases findOb_set _ _ _ _ ho' with ⟨rfl, rfl⟩ | ⟨hne, hf⟩
    · exact ⟨mo, hm, ho⟩
    · obtain ⟨m, h1, h2⟩ := h.obs j o' hf
      exact ⟨m, h1, h2.keep hs hF (MLe.refl M) fun b hb => hg.block b (h.mine _ _ _ h1 hb).2.2 (fun e => hne (h.apart _ _ _ _ _ h1 hm hb e.symm))⟩
  · obtain ⟨h1, h2, h3⟩ := h.mine j mj b hj hb
    refine ⟨fun hc => ?_, h2, Nat.lt_of_lt_of_le h3 hg.size⟩
    rcases (hlt b hc).2 with hc | hc
    · exact h1 hc
    · omega
  · obtain ⟨h1, h2⟩ := hlt b hb
    refine ⟨h1, ?_⟩
    rcases h2 with h2 | h2
    · exact (h.flt b h2).2
    · exact .inr (h.below.new h2)
  · exact h.below.grown hg fun b hb => (h.mine i mo b hm hb).2.1
  · rcases findOb_set _ _ _ _ ho' with ⟨rfl, rfl⟩ | ⟨_, hf⟩
    · exact hpin hpo
    · exact h.pins j o' hf hpo

theorem OwnR.setB {B B' : Nat → Prop} {G : Option Nat} {v : Value} {e : TypeId} {t : Ty} {xs : List t.I} (h : OwnR w F B G v e t xs) (hB : ∀ g, G = some g → B' g) : OwnR w F B' G v e t xs := by
  rcases h with h | ⟨g, cap, us, h1, h2, h3⟩
  · exact .inl h
  · exact .inr ⟨g, cap, us, h1, hB g h1, h3⟩

/-- Data grow. -/
theorem Inv.more {F' : Nat → Prop} (h : Inv w0 F0 F M σ a w) (hF : ∀ g, F g → F' g) (hlt : ∀ g, F' g → g < w.heap.size ∧ (F g ∨ (w0.nw g ∧ ∀ j mj, M j = some mj → mj.g ≠ some g))) : Inv w0 F0 F' M σ a w := by
  refine ⟨h.defers, h.size, fun i => (h.slots i).keep (fun _ _ => rfl) hF (MLe.refl M), fun id o ho => ?_, h.apart, fun i mi g hi hg => ?_, fun g hg => ?_, fun g hg => hF g (h.fle g hg), h.below, h.pins⟩
  · obtain ⟨mo, h2, h3⟩ := h.obs id o ho
    exact ⟨mo, h2, h3.keep (fun _ _ => rfl) hF (MLe.refl M) fun _ _ => rfl⟩
  · obtain ⟨h2, h3, h4⟩ := h.mine i mi g hi hg
    refine ⟨fun hc => ?_, h3, h4⟩
    rcases (hlt g hc).2 with hc | hc
    · exact h2 hc
    · exact hc.2 i mi hi hg
  · obtain ⟨h2, h3⟩ := hlt g hg
    refine ⟨h2, ?_⟩
    rcases h3 with h3 | h3
    · exact (h.flt g h3).2
    · exact .inr h3.1

theorem call_R (h : Inv w0 F0 F M σ a w) {f : Operand} {g : FuncId} {c : Call} (ho : o.op = .call c) (hc : c.callee = .value f) (hf : ev σ f = .fn (.func g)) {i : Nat} {r : List D} (hargs : evs σ c.args.toList = .slo i :: r)
    {p : Bool} {e : TypeId} {u : Ty} {xs ys : List u.I} (hob : findOb σ.ob i = some (.row p e u xs)) (hrow : rowsOf r = []) {d d2 : D} (hs : SpecR P g e u xs (snaps σ.ob r) ys d)
    (hK : K (({ σ with ob := setOb σ.ob i (.row p e u ys) } : St).put o.dst d2)) (hd : ∀ {w' : World} {v : Value}, (∀ F2 M2, R w' F2 M2 v d) → ∀ F2 M2, R w' F2 M2 v d2) : CY P w0 F0 a w o K := by
  refine ⟨g, c.args.map a.eval, run_call0 h ho hc hf hs.1 w, ?_⟩
  cases hl : c.args.toList with
  | nil => rw [hl] at hargs; cases hargs
  | cons x l =>
    rw [hl] at hargs
    injection (show ev σ x :: evs σ l = .slo i :: r from hargs) with hx hr
    subst hr
    have hxx := h.ev x
    rw [hx] at hxx
    obtain ⟨mo, hm, hv, _⟩ := hxx
    obtain ⟨mo', hm', hmk, hown⟩ := h.obs _ _ hob
    have : mo' = mo := Option.some.inj (hm'.symm.trans hm)
    subst this
    have hva : c.args.map a.eval = #[mo'.v] ++ (l.map a.eval).toArray := by
      apply Array.toList_inj.1
      simp [hl, hv]
    rw [hva]
    refine (hs.2 w mo'.v (l.map a.eval).toArray F mo'.g (fun b hb => (h.flt b hb).1) h.glb (hown.setB fun b hb => ?_) (by rw [snaps_len, evs_len]; simp) fun j d' hj => ?_).mono fun en w' ⟨v, F', he, hg, hF, hlt, hr, hown'⟩ => ?_
    · obtain ⟨h1, _, h3⟩ := h.mine _ _ _ hm hb
      exact ⟨h3, h1⟩
    · obtain ⟨v, h1, h2⟩ := args_snap h (fun _ hg => hg) (l := l) (by rw [hrow]; intro j hj; cases hj) j d' hj
      exact ⟨v, by simpa using h1, h2⟩
    · have hi := h.wrote hm hg hF hlt (.row p e u ys) ⟨hmk, hown'.setB fun b hb => (h.mine _ _ _ hm hb).2.1⟩ (fun hp => h.pins _ _ hob hp)
      exact ⟨v, _, F', M, he, hK, hi.put (hd hr F' M) o.dst⟩

theorem hasN_mem {i : Nat} : ∀ {l : List Nat}, hasN i l = false → i ∉ l
  | [], _ => by simp
  | j :: r, h => by
    simp only [hasN, Bool.or_eq_false_iff] at h
    intro hm
    rcases List.mem_cons.1 hm with rfl | hm
    · rw [show Nat.beq i i = true from Nat.beq_refl i] at h; cases h.1
    · exact hasN_mem h.2 hm

theorem call_T (h : Inv w0 F0 F M σ a w) {f : Operand} {g : FuncId} {c : Call} (ho : o.op = .call c) (hc : c.callee = .value f) (hf : ev σ f = .fn (.func g)) {i : Nat} {r : List D} (hargs : evs σ c.args.toList = .slo i :: r)
    {e : TypeId} {u : Ty} {xs : List u.I} (hob : findOb σ.ob i = some (.row false e u xs)) (hn : hasN i (rowsOf r) = false) {e' : TypeId} {v : Ty} {ys : List v.I} (hs : SpecT P g e u xs (snaps σ.ob r) (.own e' v ys))
    {k : Nat} (hdst : o.dst = some k) (hK : K (((σ.kill i).iceAll (rowsOf r)).putOb k (.row false e' v ys) (.slo k))) : CY P w0 F0 a w o K := by
  refine ⟨g, c.args.map a.eval, run_call0 h ho hc hf hs.1 w, ?_⟩
  cases hl : c.args.toList with
  | nil => rw [hl] at hargs; cases hargs
  | cons x l =>
    rw [hl] at hargs
    injection (show ev σ x :: evs σ l = .slo i :: r from hargs) with hx hr
    subst hr
    have hxx := h.ev x
    rw [hx] at hxx
    obtain ⟨mo, hm, hv, _⟩ := hxx
    obtain ⟨mo', hm', hmk, hown⟩ := h.obs _ _ hob
    have : mo' = mo := Option.some.inj (hm'.symm.trans hm)
    subst this
    have hva : c.args.map a.eval = #[mo'.v] ++ (l.map a.eval).toArray := by
      apply Array.toList_inj.1
      simp [hl, hv]
    rw [hva]
    obtain ⟨F1, M1, h1, h2, h3, h4, h5⟩ := iceAll_froz (rowsOf (evs σ l)) (h.kill i)
    have hG0 : ∀ b, mo'.g = some b → ¬F1 b := fun b hb hc => by
      rcases h4 b hc with hc | ⟨j, mj, hj, hjb⟩
      · exact (h.mine _ _ _ hm hb).1 hc
      · exact (dropM_some hj).1 (h.apart _ _ _ _ _ (dropM_some hj).2 hm hjb hb)
    have hfr : Froz σ M F1 (rowsOf (evs σ l)) := fun j hj ⟨e2, t2, xs2, hf2⟩ mj b hmj hb => by
      have hji : j ≠ i := fun e => hasN_mem hn (e ▸ hj)
      refine h3 j hj ⟨e2, t2, xs2, ?_⟩ mj b (by rw [dropM_ne hji]; exact hmj) hb
      show findOb (iceOb i .bad σ.ob) j = _
      rw [findOb_ice, if_neg hji, hf2]
      rfl
    refine (hs.2 w mo'.v (l.map a.eval).toArray F1 mo'.g (fun b hb => (h1.flt b hb).1) h1.glb ((hown.keep (fun _ _ => rfl) h2 fun _ _ => rfl).setB fun b hb => ⟨(h.mine _ _ _ hm hb).2.2, hG0 b hb⟩) (by rw [snaps_len, evs_len]; simp)
      fun j d' hj => ?_).mono fun en w' ⟨vv, F', G, he, hg, hF, hlt, hG, hr⟩ => ?_
    · obtain ⟨v, h6, h7⟩ := args_snap h h2 hfr j d' hj
      exact ⟨v, by simpa using h6, h7⟩
    · have hM1 : ∀ b, mo'.g = some b → ∀ j mj, M1 j = some mj → mj.g ≠ some b := fun b hb j mj hj hjb =>
        (dropM_some (h5 j mj hj)).1 (h.apart _ _ _ _ _ (dropM_some (h5 j mj hj)).2 hm hjb hb)
      have h6 := h1.turn hg fun b hb => ⟨(h.mine _ _ _ hm hb).2.1, hG0 b hb, hM1 b hb⟩
      have hnew : ∀ b, w.heap.size ≤ b → ∀ j mj, M1 j = some mj → mj.g ≠ some b := fun b hb j mj hj hjb => by
        have := (h1.mine _ _ _ hj hjb).2.2; omega
      have h7 := h6.more hF fun b hb => ⟨(hlt b hb).1, (hlt b hb).2.imp id fun hb' => ⟨h.below.new hb', hnew b hb'⟩⟩
      have hr' : OwnR w' F' (fun _ => True) G vv e' v ys := hr
      obtain ⟨M', hinv⟩ := (h7.kill k).add k (dropM_none M1 k) (.row false e' v ys) (.slo k) ⟨G, vv, v.width⟩ vv (some k) (fun b hb => by
          obtain ⟨h8, h9, h10⟩ := hG b hb
          refine ⟨?_, h9, h10, fun j mj hj hjb => ?_⟩
          · rcases h8 with h8 | h8
            · exact h.below.new h8
            · exact (h.mine _ _ _ hm h8).2.1
          · rcases h8 with h8 | h8
            · exact hnew b h8 j mj (dropM_some hj).2 hjb
            · exact hM1 b h8 j mj (dropM_some hj).2 hjb)
        (fun M' _ _ => ⟨rfl, hr'.setB fun b hb => by
          rcases (hG b hb).1 with h8 | h8
          · exact h.below.new h8
          · exact (h.mine _ _ _ hm h8).2.1⟩) fun M' hM' _ => ⟨_, hM', rfl, hr'.one⟩
      exact ⟨vv, _, F', M', he, hK, by rw [hdst]; exact hinv⟩

theorem c_callP (h : Inv w0 F0 F M σ a w) {g : FuncId} {ads : List D} {avs : Array Value} (hen : Enters P w F M σ a o g ads avs) {rts : List TypeId}
    (hk : callP P μ σ o.dst g ads rts K) : CY P w0 F0 a w o K := by
  unfold callP at hk
  split at hk
  · -- no result
    obtain ⟨hs, hk⟩ := hk
    refine ⟨g, avs, hen.run hs.1 w, ?_⟩
    refine (hs.2 w avs (allF F M) (allF_lt h) (h.glb.imp fun _ hg => Or.inl hg) (by rw [snaps_len]; exact hen.size) fun i d' hi => ?_).mono fun e w' ⟨v, F', G, he, hb, _, _, _, hr⟩ => ?_
    · exact hen.all i d' hi
    · exact ⟨v, _, F, M, he, hk, (h.grow hb).put (d := .bad) trivial o.dst⟩
  · rename_i t
    split at hk
    · rename_i u hty
      split at hk
      · rename_i d e hmu hdst he
        obtain ⟨xs, hs, hk⟩ := hk
        refine call_own h hen hs hdst hk fun {w' F' B G v} hr => ⟨v, hr, fun M2 hM => ⟨_, hM, rfl, ?_⟩⟩
        have hr' : OwnR w' F' B G v e u xs := hr
        exact hr'.one
      · obtain ⟨xs, hs, hk⟩ := hk
        exact call_any h hen hs hk fun {w' F' B G v} hr M2 => encV_R (u := .list u) (x := xs) hr
      · exact hk.elim
    · rename_i u hnl hty
      obtain ⟨x, hs, hk⟩ := hk
      exact call_after h hen hs u.flat hk (fun hr M2 => encV_R (encV_RR hr)) fun hfl _ _ _ _ _ hr F2 M2 => R.of1 ((encV_RR hr).flat hfl)
    · exact hk.elim
  · rename_i t t'
    split at hk
    · rename_i u0 u' h1 h2
      split at hk
      · rename_i d e v hmu hdst he
        have ownC : ∀ (xs : List v.I) (y : u'.I), Spec P g (snaps σ.ob ads) (.tup [.own e v xs, encV u' y]) →
            K ((σ.after false ads).putOb d (.row false e v xs) (.tup [.slo d, encV u' y])) → CY P w0 F0 a w o K := ?ownC
        split at hk
        · obtain ⟨xs, y, hs, hk⟩ := hk
          exact ownC xs y hs hk
        · obtain ⟨b, xs, y, hs, hk⟩ := hk
          cases b with
          | true => exact ownC xs y hs hk
          | false =>
            refine call_any h hen hs (d2 := .tup [vl v xs, encV u' y]) (by rw [hdst]; exact hk) fun hr M2 => tup_R hr (fun d hd u0 h0 => ?_) M2
            rcases List.mem_cons.1 hd with rfl | hd
            · exact encV_RR0 (u := .list v) (x := xs) h0
            · rcases List.mem_cons.1 hd with rfl | hd
              · exact encV_RR0 h0
              · cases hd
        intro xs y hs hk
        refine call_own h hen hs hdst hk fun {w' F' B G vv} hr => ?_
        obtain ⟨us, e1, e2, e3⟩ := hr
        obtain ⟨u0, h3, h4⟩ := e3 0 _ rfl
        obtain ⟨u1, h5, h6⟩ := e3 1 _ rfl
        have h4' : OwnR w' F' B G u0 e v xs := h4
        refine ⟨u0, h4', fun M2 hM => ⟨us, e1, e2, fun j dd hj => ?_⟩⟩
        match j, hj with
        | 0, hj =>
          simp only [List.getElem?_cons_zero, Option.some.injEq] at hj
          subst hj
          exact ⟨u0, h3, _, hM, rfl, h4'.one⟩
        | 1, hj =>
          simp only [List.getElem?_cons_succ, List.getElem?_cons_zero, Option.some.injEq] at hj
          subst hj
          exact ⟨u1, h5, (encV_RR0 h6).keep (fun _ _ => rfl) (fun _ z => z) (MLe.none M2)⟩
        | j + 2, hj => simp at hj
      · rename_i u _ _ _ _ _
        obtain ⟨x, y, hs, hk⟩ := hk
        refine call_after h hen hs (u.flat && u'.flat) hk (fun hr M2 => tup_R hr (fun d hd u0 h0 => ?_) M2) fun hfl _ _ _ _ _ hr F2 M2 => tup_flat hr (fun d hd u0 h0 F2 M2 => ?_) F2 M2
        · rcases List.mem_cons.1 hd with rfl | hd
          · exact encV_RR0 h0
          · rcases List.mem_cons.1 hd with rfl | hd
            · exact encV_RR0 h0
            · cases hd
        · simp only [Bool.and_eq_true] at hfl
          rcases List.mem_cons.1 hd with rfl | hd
          · exact (encV_RR0 h0).flat hfl.1
          · rcases List.mem_cons.1 hd with rfl | hd
            · exact (encV_RR0 h0).flat hfl.2
            · cases hd
      · exact hk.elim
    · exact hk.elim
  · rename_i t t' t''
    split at hk
    · rename_i u u' u'' h1 h2 h3
      obtain ⟨x, y, z, hs, hk⟩ := hk
      refine call_after h hen hs (u.flat && (u'.flat && u''.flat)) hk (fun hr M2 => tup_R hr (fun d hd u0 h0 => ?_) M2) fun hfl _ _ _ _ _ hr F2 M2 => tup_flat hr (fun d hd u0 h0 F2 M2 => ?_) F2 M2
      · rcases List.mem_cons.1 hd with rfl | hd
        · exact encV_RR0 h0
        · rcases List.mem_cons.1 hd with rfl | hd
          · exact encV_RR0 h0
          · rcases List.mem_cons.1 hd with rfl | hd
            · exact encV_RR0 h0
            · cases hd
      · simp only [Bool.and_eq_true] at hfl
        rcases List.mem_cons.1 hd with rfl | hd
        · exact (encV_RR0 h0).flat hfl.1
        · rcases List.mem_cons.1 hd with rfl | hd
          · exact (encV_RR0 h0).flat hfl.2.1
          · rcases List.mem_cons.1 hd with rfl | hd
            · exact (encV_RR0 h0).flat hfl.2.2
            · cases hd
    · exact hk.elim
  · rename_i t t' t'' t3
    split at hk
    · rename_i u u' u'' u3 h1 h2 h3 h4
      obtain ⟨x, y, z, q, hs, hk⟩ := hk
      refine call_after h hen hs false hk (fun hr M2 => tup_R hr (fun d hd u0 h0 => ?_) M2) fun hfl => by cases hfl
      rcases List.mem_cons.1 hd with rfl | hd
      · exact encV_RR0 h0
      · rcases List.mem_cons.1 hd with rfl | hd
        · exact encV_RR0 h0
        · rcases List.mem_cons.1 hd with rfl | hd
          · exact encV_RR0 h0
          · rcases List.mem_cons.1 hd with rfl | hd
            · exact encV_RR0 h0
            · cases hd
    · exact hk.elim
  · exact hk.elim

theorem args_ptr (h : Inv w0 F0 F M σ a w) {c : Call} {id : Nat} {r : List D} (hargs : evs σ c.args.toList = .ptr id 0 :: r) : ∃ mo b l, M id = some mo ∧ mo.g = some b ∧ evs σ l = r ∧ c.args.map a.eval = #[.pointer (some ⟨b, 0, none⟩)] ++ (l.map a.eval).toArray := by
  cases hl : c.args.toList with
  | nil => rw [hl] at hargs; cases hargs
  | cons x l =>
    rw [hl] at hargs
    injection (show ev σ x :: evs σ l = .ptr id 0 :: r from hargs) with hx hr
    have hxx := h.ev x
    rw [hx] at hxx
    obtain ⟨mo, b, hm, hb, hv⟩ := hxx
    refine ⟨mo, b, l, hm, hb, hr, ?_⟩
    apply Array.toList_inj.1
    simp [hl, hv]

/-- The struct that a call is handed, read off the state. -/
theorem grp_pre (h : Inv w0 F0 F M σ a w) {id : Nat} {m0 : MO} {b : Nat} (hm0 : M id = some m0) (hb : m0.g = some b) {p : Bool} {T : TypeId} {cs : List D} {fs : List Fd} {x : (gTy fs).I} (hob : findOb σ.ob id = some (.cells p T cs)) (hx : gRead σ.ob id 0 fs cs = some x) :
    ∃ ms : Nat → Option MO, (∀ i mo, ms i = some mo → gid id i ∈ gids id 0 fs ∧ M (gid id i) = some mo) ∧ GrR w F (fun _ => True) b T fs x ms ∧ ∀ g, grX b ms g → ¬F g ∧ g < w.heap.size := by
  let ms : Nat → Option MO := fun j => if gid id j ∈ gids id 0 fs then M (gid id j) else none
  have hms : ∀ i mo, ms i = some mo → gid id i ∈ gids id 0 fs ∧ M (gid id i) = some mo := fun i mo hi => by
    have hi : (if gid id i ∈ gids id 0 fs then M (gid id i) else none) = some mo := hi
    split at hi
    · exact ⟨‹_›, hi⟩
    · cases hi
  obtain ⟨mo, hm, g, us, hg, hus, hl, hc⟩ := h.obs _ _ hob
  have : mo = m0 := Option.some.inj (hm.symm.trans hm0)
  subst this
  have : g = b := Option.some.inj (hg.symm.trans hb)
  subst this
  have hgr := gRead_spec h hm0 hb (ms := ms) (fun i hi => if_pos hi) (us := us.toList) ⟨by simpa using hl, fun j c hj => by simpa using hc j c hj⟩ hx
  refine ⟨ms, hms, ⟨⟨us, hus, GrsR.keep (fun _ _ => rfl) (fun _ z => z) (fun _ _ _ _ _ => ⟨rfl, trivial⟩) hgr⟩, fun i j mi mj g' hi hj hgi hgj => gid_inj (h.apart _ _ _ _ _ (hms i mi hi).2 (hms j mj hj).2 hgi hgj), fun i mi hi hgi => ?_⟩, fun g' hg' => ?_⟩
  · exact gid_ne id i (h.apart _ _ _ _ _ (hms i mi hi).2 hm0 hgi hb)
  · rcases hg' with rfl | ⟨j, mj, hj, hjg⟩
    · obtain ⟨h1, _, h2⟩ := h.mine _ _ _ hm0 hb; exact ⟨h1, h2⟩
    · obtain ⟨h1, _, h2⟩ := h.mine _ _ _ (hms j mj hj).2 hjg; exact ⟨h1, h2⟩

theorem call_G (h : Inv w0 F0 F M σ a w) {f : Operand} {g : FuncId} {c : Call} (ho : o.op = .call c) (hc : c.callee = .value f) (hf : ev σ f = .fn (.func g)) {id : Nat} {r : List D} (hargs : evs σ c.args.toList = .ptr id 0 :: r) (hrow : rowsOf r = [])
    {fs : List Fd} {p : Bool} {T : TypeId} {cs : List D} {x y : (gTy fs).I} (hob : findOb (σ.gnils id 0 0 fs).ob id = some (.cells p T cs)) (hx : gRead (σ.gnils id 0 0 fs).ob id 0 fs cs = some x) {d d2 : D} (hs : SpecG P g T fs x (snaps σ.ob r) y d)
    (hK : K (((σ.gnils id 0 0 fs).gset id p T fs y).put o.dst d2)) (hd : ∀ {w' : World} {v : Value}, (∀ F2 M2, R w' F2 M2 v d) → ∀ F2 M2, R w' F2 M2 v d2) : CY P w0 F0 a w o K := by
  obtain ⟨mo, b, l, hm, hb, hl, hva⟩ := args_ptr h hargs
  obtain ⟨M2, h2, hM2⟩ := h.gnils id fs 0 0
  have hm2 : M2 id = some mo := by rw [hM2]; exact hm
  obtain ⟨ms, hms, hG, hX⟩ := grp_pre h2 hm2 hb hob hx
  refine ⟨g, c.args.map a.eval, run_call0 h ho hc hf hs.1 w, ?_⟩
  rw [hva]
  subst hl
  refine (hs.2 w b (l.map a.eval).toArray F ms (fun g hg => (h.flt g hg).1) h.glb hX hG (by rw [snaps_len, evs_len]; simp) fun i d' hi => ?_).mono fun en w' ⟨v, F', ms', he, hbel, hF, hlt, hX', hG', hr⟩ => ?_
  · obtain ⟨v, h6, h7⟩ := args_snap h (fun _ z => z) (l := l) (by rw [hrow]; intro j hj; cases hj) i d' hi
    exact ⟨v, by simpa using h6, h7⟩
  · obtain ⟨M', hi⟩ := h2.gset hob hm2 hb hms hbel hF hlt hX' hG'
    exact ⟨v, _, F', M', he, hK, hi.put (hd hr F' M') o.dst⟩

theorem call_K (h : Inv w0 F0 F M σ a w) {f : Operand} {g : FuncId} {c : Call} (ho : o.op = .call c) (hc : c.callee = .value f) (hf : ev σ f = .fn (.func g)) {id : Nat} {r : List D} (hargs : evs σ c.args.toList = .ptr id 0 :: r) (hrow : rowsOf r = [])
    {fs : List Fd} {p : Bool} {T : TypeId} {cs : List D} {x : (gTy fs).I} (hob : findOb (σ.gnils id 0 0 fs).ob id = some (.cells p T cs)) (hx : gRead (σ.gnils id 0 0 fs).ob id 0 fs cs = some x) {d : D} (hs : SpecK P g T fs x (snaps σ.ob r) d)
    (hK : K ((((σ.gnils id 0 0 fs).kills (gids id 0 fs)).kill id).put o.dst d)) : CY P w0 F0 a w o K := by
  obtain ⟨mo, b, l, hm, hb, hl, hva⟩ := args_ptr h hargs
  obtain ⟨M2, h2, hM2⟩ := h.gnils id fs 0 0
  have hm2 : M2 id = some mo := by rw [hM2]; exact hm
  obtain ⟨ms, hms, hG, hX⟩ := grp_pre h2 hm2 hb hob hx
  refine ⟨g, c.args.map a.eval, run_call0 h ho hc hf hs.1 w, ?_⟩
  rw [hva]
  subst hl
  refine (hs.2 w b (l.map a.eval).toArray F ms (fun g hg => (h.flt g hg).1) h.glb hX hG (by rw [snaps_len, evs_len]; simp) fun i d' hi => ?_).mono fun en w' ⟨v, he, hbel, hr⟩ => ?_
  · obtain ⟨v, h6, h7⟩ := args_snap h (fun _ z => z) (l := l) (by rw [hrow]; intro j hj; cases hj) i d' hi
    exact ⟨v, by simpa using h6, h7⟩
  · have h3 := (h2.kills (gids id 0 fs)).kill id
    have hi := h3.turnX hbel fun k hk => ⟨?_, (hX k hk).1, fun i mi hi hik => ?_⟩
    · exact ⟨v, _, F, _, he, hK, hi.put (hr F _) o.dst⟩
    · rcases hk with rfl | ⟨j, mj, hj, hjg⟩
      · exact (h2.mine _ _ _ hm2 hb).2.1
      · exact (h2.mine _ _ _ (hms j mj hj).2 hjg).2.1
    · obtain ⟨h5, h6⟩ := dropM_some hi
      obtain ⟨h7, h8⟩ := dropMs_some h6
      rcases hk with rfl | ⟨j, mj, hj, hjg⟩
      · exact h5 (h2.apart _ _ _ _ _ h8 hm2 hik hb)
      · have := h2.apart _ _ _ _ _ h8 (hms j mj hj).2 hik hjg
        rw [this] at h7
        exact h7 (hms j mj hj).1

theorem c_callG (h : Inv w0 F0 F M σ a w) {f : Operand} {g : FuncId} {c : Call} (ho : o.op = .call c) (hc : c.callee = .value f) (hf : ev σ f = .fn (.func g)) {rts : List TypeId}
    (hk : callG P σ o.dst g (evs σ c.args.toList) rts K) : CY P w0 F0 a w o K := by
  unfold callG at hk
  split at hk
  · rename_i id r hargs
    split at hk
    · rename_i p0 T cs0 hob0 hrow
      split at hk
      · rename_i fs hfs
        split at hk
        · rename_i p T' cs hob
          split at hk
          · rename_i x hT hx
            have hT := of_decide_eq_true hT
            subst hT
            split at hk
            · obtain ⟨y, hs, hk⟩ := hk
              exact call_G h ho hc hf hargs hrow hob hx hs hk fun _ _ _ => trivial
            · split at hk
              · split at hk
                · obtain ⟨y, z, hs, hk⟩ := hk
                  exact call_G h ho hc hf hargs hrow hob hx hs hk fun hr => hr
                · exact hk.elim
              · obtain ⟨y, hs, hk⟩ := hk
                exact call_G h ho hc hf hargs hrow hob hx hs hk fun hr => hr
            · split at hk
              · split at hk
                · obtain ⟨y, z, z', hs, hk⟩ := hk
                  exact call_G h ho hc hf hargs hrow hob hx hs hk fun hr => hr
                · exact hk.elim
              · obtain ⟨y, hs, hk⟩ := hk
                exact call_G h ho hc hf hargs hrow hob hx hs hk fun hr => hr
            · exact hk.elim
          · exact hk.elim
        · exact hk.elim
      · exact hk.elim
    · exact hk.elim
  · exact hk.elim

theorem c_callK (h : Inv w0 F0 F M σ a w) {f : Operand} {g : FuncId} {c : Call} (ho : o.op = .call c) (hc : c.callee = .value f) (hf : ev σ f = .fn (.func g)) {rts : List TypeId}
    (hk : callK P σ o.dst g (evs σ c.args.toList) rts K) : CY P w0 F0 a w o K := by
  unfold callK at hk
  split at hk
  · rename_i id r hargs
    split at hk
    · rename_i p0 T cs0 hob0 hrow
      split at hk
      · rename_i fs hfs
        split at hk
        · rename_i T' cs hob
          split at hk
          · rename_i x hT hx
            have hT := of_decide_eq_true hT
            subst hT
            split at hk
            · split at hk
              · split at hk
                · obtain ⟨z, hs, hk⟩ := hk
                  exact call_K h ho hc hf hargs hrow hob hx hs hk
                · exact hk.elim
              · exact hk.elim
            · exact hk.elim
          · exact hk.elim
        · exact hk.elim
      · exact hk.elim
    · exact hk.elim
  · exact hk.elim

theorem c_clo (h : Inv w0 F0 F M σ a w) {f : Operand} {g : FuncId} {cs : List D} {c : Call} (ho : o.op = .call c) (hc : c.callee = .value f) (hf : ev σ f = .clo g cs) {rts : List TypeId}
    (hk : callP P μ σ o.dst g (evs σ c.args.toList ++ cs) rts K) : CY P w0 F0 a w o K := by
  obtain ⟨avs, hen⟩ := enters_clo (P := P) h ho hc hf
  exact c_callP h hen hk

theorem c_call (h : Inv w0 F0 F M σ a w) {f : Operand} {g : FuncId} {c : Call} (ho : o.op = .call c) (hc : c.callee = .value f) (hf : ev σ f = .fn (.func g)) {rts : List TypeId}
    (hk : callD P μ σ o.dst g (evs σ c.args.toList) rts K) : CY P w0 F0 a w o K := by
  unfold callD at hk
  split at hk
  · split at hk
    · exact c_callP h (enters_fn h ho hc hf) hk
    · exact c_callG h ho hc hf hk
    · exact c_callK h ho hc hf hk
  · unfold callR at hk
    split at hk
    · rename_i i r hargs
      split at hk
      · rename_i p e u xs hob hrow
        split at hk
        · obtain ⟨ys, hs, hk⟩ := hk
          exact call_R h ho hc hf hargs hob hrow hs hk fun _ _ _ => trivial
        · split at hk
          · split at hk
            · obtain ⟨ys, x, hs, hk⟩ := hk
              exact call_R h ho hc hf hargs hob hrow hs hk fun hr => hr
            · exact hk.elim
          · exact hk.elim
        · exact hk.elim
      · exact hk.elim
    · exact hk.elim
  · unfold callT at hk
    split at hk
    · rename_i i r hargs
      split at hk
      · rename_i e u xs hob hn
        split at hk
        · split at hk
          · split at hk
            · rename_i d e' hmu hdst he
              obtain ⟨ys, hs, hk⟩ := hk
              exact call_T h ho hc hf hargs hob hn hs hdst hk
            · exact hk.elim
          · exact hk.elim
        · exact hk.elim
      · exact hk.elim
    · exact hk.elim

end
end Go.Proofs.Ytnkinnhgahpcoaa.Vc
