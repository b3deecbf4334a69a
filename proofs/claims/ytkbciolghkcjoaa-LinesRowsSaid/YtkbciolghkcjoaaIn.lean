/-
  slices.Insert at []api.Line: what it does with a row of the caller's own; no contract of the library speaks of elements of three cells. No condition.
-/
import Derived.Test.YtkbciolghkcjoaaVp
import Derived.Laws.Externs
import Derived.Lib.Overlaps
import Derived.Lib.Walk
import Derived.Shelf.RegionOpenPlain
import Derived.Lib.AppendZerosOnto
set_option linter.unusedVariables false
set_option linter.unusedSimpArgs false
namespace Go.Proofs.Ytkbciolghkcjoaa.Vc
open Go.RowKit Go.Proofs Go.Lib

section
variable {P : Program} {w : World}

/-- copy: all is read before anything is written. -/
theorem run_copyK (dT sT ty elem : TypeId) (k : Nat) (g o dLen dCap : Nat) (a : Addr) (sLen sCap : Nat) (us : Array Value) (T : TypeId) (cs : List Value)
    (hu : P.underlying dT = some (.slice elem)) (hs : (P.info? elem).map (·.size) = some k) (hg : w.heap[g]? = some (.cells us T (0, 0))) (hn : cs.length = Nat.min sLen dLen * k)
    (hsrc : ∀ j v, cs[j]? = some v → w.cell? (a.add j) = some v) (hfit : o + cs.length ≤ us.size) (h1 : ∀ v ∈ cs, v.oneCell' = true) :
    (Builtin.copy_ #[dT, sT] ty #[.slice (some ⟨g, o, none⟩) dLen dCap, .slice (some a) sLen sCap]).run P w = .ok (goInt (Nat.min sLen dLen)) (w.setRow g (us.toList.take o ++ cs ++ us.toList.drop (o + cs.length)).toArray) := by
  have hl := run_loadCells_list (P := P) w a cs hsrc
  have hst := run_storeCells_at P g o T cs 0 us w hg (by simpa using hfit) h1
  cases hq : P.info? elem with
  | none => simp [hq] at hs
  | some i =>
    have hi : i.size = k := by simpa [hq] using hs
    simp only [Nat.add_zero] at hst
    simp [Builtin.copy_, run_underlying hu, Builtin.lenOf, Builtin.firstCells, sizeOf, typeInfo, hq, hi, ← hn, hl, hst]

/-- Two rows in two blocks, the second one of the call's own. -/
theorem run_overlapsK (tS tR e : TypeId) (ht : P.underlying tS = some (.slice e)) (size : Nat) (hz : ∀ w, (Go.sizeOf e).run P w = .ok size w) (a b : Addr) (la ca lb cb : Nat) (hne : a.block ≠ b.block) (va : Value) (hva : w.cell? a = some va)
    (us : Array Value) (T : TypeId) (hb : w.heap[b.block]? = some (.cells us T (0, 0))) (hus : us.size ≠ 0) :
    (Extern.SlicesOverlaps.overlaps #[tS, tS] #[tR] #[.slice (some a) la ca, .slice (some b) lb cb]).run P w = .ok (.bool false) w := by
  have hnb : (a.block != b.block) = true := by simpa using hne
  have hnb' : (a.block == b.block) = false := by simpa using hne
  have hsb : w.shape? b.block = some (T, us.size) := by simp [World.shape?, hb]
  have hfb : ∀ o, w.frozen? { block := b.block, off := o, spot := none } = false := fun o => by simp [World.frozen?, hb]
  have hfb' : w.frozen? b = false := by unfold World.frozen?; rw [hb]; simp
  have hsa : ∃ tA kA, w.shape? a.block = some (tA, kA + 1) := by
    unfold World.cell? at hva
    unfold World.shape?
    cases hq : w.heap[a.block]? with
    | none => rw [hq] at hva; simp at hva
    | some ob =>
      rw [hq] at hva
      cases ob <;> simp at hva ⊢
      rename_i c _ _
      have := (Array.getElem?_eq_some_iff.1 hva.2).1
      omega
  obtain ⟨tA, kA, hsa⟩ := hsa
  cases hk : us.size with
  | zero => exact absurd hk hus
  | succ kB =>
    rw [hk] at hsb
    conv =>
      lhs
      arg 2
      whnf
    have hbind : ∀ {α β : Type} (s : Sem α) (f : α → Sem β) (w : World), (Sem.bind s f).run P w = (s.run P w).andThen fun x w' => (f x).run P w' := fun s f w => Sem.run_bind' P s f w
    have hprog : ∀ {α : Type} (k : Program → Sem α) (w : World), (Sem.program k).run P w = (k P).run P w := fun k w => rfl
    rw [hprog, hbind, hbind]
    have hg0 : (#[tS, tS] : Array TypeId)[0] = tS := rfl
    have hpure : ∀ {α : Type} (x : α) (w : World), (Sem.pure x).run P w = .ok x w := fun x w => rfl
    simp only [Sem.run_pure, hpure, Result.andThen_ok, hg0]
    rw [ht]
    simp only [Sem.run_pure, Result.andThen_ok, Sem.run_bind, hz]
    by_cases h0 : la = 0 ∨ lb = 0 ∨ size = 0
    · simp [h0]
    · cases hfa : w.frozen? a <;> cases hfe : w.frozen? { block := a.block, off := kA + 1, spot := none } <;> simp [h0, hnb, hnb', frozen, noView, viewAt, mayBeOne, stringish, shape, Sem.run, hsa, hsb, hfb, hfb', hfa, hfe]


theorem cell_row {g : Nat} {us : Array Value} {T : TypeId} (hg : w.heap[g]? = some (.cells us T (0, 0))) (j : Nat) : w.cell? ⟨g, j, none⟩ = us[j]? := by
  simp [World.cell?, hg]

/-- A row, some of its cells written over. -/
def patch (us : List Value) (o : Nat) (cs : List Value) : List Value := us.take o ++ cs ++ us.drop (o + cs.length)

theorem add_zero0 (a : Addr) : a.add 0 = a := by
  obtain ⟨b, o, s⟩ := a
  cases s <;> simp [Addr.add]

/-- A call of copy whose run is known: as one operation, in a list, and in a region that draws. -/
theorem wp_copyK {o : Oper} {a : Act} {K : Act → World → Prop} {Q : Exit → Act → World → Prop} (d s : Operand) (t t' : TypeId) (ho : o.op = .call { callee := .builtin .copy, args := #[d, s], argTypes := #[t, t'] }) (v u : Value) (hd : a.eval d = v) (hs : a.eval s = u)
    {v' : Value} {w' : World} (hr : (Builtin.copy_ #[t, t'] o.type #[v, u]).run P w = .ok v' w') (h : K (a.put o.dst v') w') : o.wp P a w K Q := by
  have : (execOp a.eval o).run P w = .ok (.value v') w' := by
    unfold execOp
    rw [ho]
    simp only [resolve, invoke, builtin, Sem.run_bind, Sem.run_pure, Result.andThen_ok, List.map_toArray, List.map_cons, List.map_nil, hd, hs, hr]
  unfold Oper.wp
  rw [this]
  exact h
theorem wpl_copyK {ops : Array Oper} {rest : List Oper} {o : Oper} {a : Act} {Q : Exit → Act → World → Prop} (hgd : o.guard = none) (d s : Operand) (t t' : TypeId) (ho : o.op = .call { callee := .builtin .copy, args := #[d, s], argTypes := #[t, t'] })
    (v u : Value) (hd : a.eval d = v) (hs : a.eval s = u) {v' : Value} {w' : World} (hr : (Builtin.copy_ #[t, t'] o.type #[v, u]).run P w = .ok v' w') (h : wpList P ops Q rest (a.put o.dst v') w') : wpList P ops Q (o :: rest) a w :=
  wpList_plain hgd fun _ hK => wp_copyK d s t t' ho v u hd hs hr (hK _ _ h)
theorem step_copyK {ops : Array Oper} {o : Oper} {a : Act} {K : Act → World → Prop} {Q : Exit → Act → World → Prop} {E : Prop} (hg : o.guard = none) (d s : Operand) (t t' : TypeId) (ho : o.op = .call { callee := .builtin .copy, args := #[d, s], argTypes := #[t, t'] })
    (v u : Value) (hd : a.eval d = v) (hs : a.eval s = u) {v' : Value} {w' : World} (hr : (Builtin.copy_ #[t, t'] o.type #[v, u]).run P w = .ok v' w') (h : K (a.put o.dst v') w') :
    if Region.wanted o (yielded ops a.tmps) = true then o.wp P a w K Q else E := by
  have hw : Region.wanted o (yielded ops a.tmps) = true := by simp [Region.wanted, hg]
  rw [if_pos hw]
  exact wp_copyK d s t t' ho v u hd hs hr h

set_option maxHeartbeats 4000000 in
set_option maxRecDepth 100000 in
/-- There is room, and something behind: in place. -/
theorem ins_shift (g n c i m vc : Nat) (va : Addr) (us : Array Value) (vs : List Value) (hi : i < n) (hm : 0 < m) (hroom : n + m ≤ c) (hc63 : c ≤ 9223372036854775807) (hvb : va.block ≠ g) (hus : us.size = c * 3) (hvl : vs.length = m * 3)
    (hg : w.heap[g]? = some (.cells us 43 (0, 0))) (hone : ∀ j v, j < n * 3 → us[j]? = some v → v.oneCell' = true) (hvs : ∀ j v, vs[j]? = some v → w.cell? (va.add j) = some v) (h1v : ∀ v ∈ vs, v.oneCell' = true) :
    Calls Try.prog 25 #[.slice (some ⟨g, 0, none⟩) n c, .int .i64 i, .slice (some va) m vc] w fun e w' =>
      e = .returned (.slice (some ⟨g, 0, none⟩) (n + m) c) ∧ w' = (w.drew.setRow g (patch us.toList ((i + m) * 3) ((us.toList.drop (i * 3)).take ((n - i) * 3))).toArray).setRow g (patch (patch us.toList ((i + m) * 3) ((us.toList.drop (i * 3)).take ((n - i) * 3))) (i * 3) vs).toArray := by
  have hz1 : ¬ ((m : Int) = 0) := by omega
  have hz2 : ¬ ((i : Int) = (n : Int)) := by omega
  have mixed := mixed
  have hul : us.toList.length = c * 3 := by rw [Array.length_toList]; exact hus
  obtain ⟨va0, hva0⟩ : ∃ v, vs[0]? = some v := ⟨_, List.getElem?_eq_getElem (by omega)⟩
  have hcell0 : w.cell? va = some va0 := by have := hvs 0 va0 hva0; rwa [add_zero0] at this
  have hov : ∀ lb cb, (callFunc 45 #[.slice (some va) m vc, .slice (some ⟨g, (i + m) * 3, none⟩) lb cb]).run Try.prog w = .ok (.value (.bool false)) w := fun lb cb => by
    rw [run_callFunc_extern Try.func45 (by kernel_rfl) (by kernel_rfl) (by kernel_rfl) (e := Extern.SlicesOverlaps.overlaps #[22, 22] #[4]) (by kernel_rfl),
      run_overlapsK 22 4 43 Try.underlying22 3 Try.sizeOf43 va ⟨g, (i + m) * 3, none⟩ m vc lb cb hvb va0 hcell0 us 43 hg (by omega)]
    rfl
  have hsz : (Try.prog.info? 43).map (·.size) = some 3 := by kernel_rfl
  have hw1 : IntKind.i64.wrap ((i : Int) + (m : Int)) = (i : Int) + (m : Int) := by rw [IntKind.wrap_i64]; omega
  have hb1 : (0 : Int) ≤ (i : Int) + (m : Int) := by omega
  have hin : i ≤ n := by omega
  have htn : ((i : Int) + (m : Int)).toNat = i + m := by omega
  have hb2 : ¬ (c = i + m) := by omega
  have hb3 : (i : Int) ≤ (n : Int) + (m : Int) := by omega
  have hb4 : ¬ (c = i) := by omega
  obtain ⟨cs, hcs⟩ : ∃ cs, (us.toList.drop (i * 3)).take ((n - i) * 3) = cs := ⟨_, rfl⟩
  have hcl : cs.length = (n - i) * 3 := by rw [← hcs, List.length_take, List.length_drop]; omega
  obtain ⟨U1, hU1⟩ : ∃ U1 : Array Value, (patch us.toList ((i + m) * 3) cs).toArray = U1 := ⟨_, rfl⟩
  have hU1s : U1.size = c * 3 := by rw [← hU1]; simp only [patch, List.size_toArray, List.length_append, List.length_take, List.length_drop]; omega
  rw [hcs, hU1]
  have hcp1 : ∀ ty dc sc, (Builtin.copy_ #[22, 22] ty #[.slice (some ⟨g, (i + m) * 3, none⟩) (n + m - (i + m)) dc, .slice (some ⟨g, i * 3, none⟩) (n + m - i) sc]).run Try.prog w.drew = .ok (goInt (Nat.min (n + m - i) (n + m - (i + m)))) (w.drew.setRow g U1) := fun ty dc sc => by
    have := run_copyK (w := w.drew) 22 22 ty 43 3 g ((i + m) * 3) (n + m - (i + m)) dc ⟨g, i * 3, none⟩ (n + m - i) sc us 43 cs Try.underlying22 hsz hg
      (by rw [hcl]; simp only [Nat.min_def]; split <;> omega)
      (fun j v hj => by
        rw [add_lit, cell_row (w := w.drew) hg]
        rw [← hcs, List.getElem?_take] at hj
        split at hj
        · rw [List.getElem?_drop] at hj; simpa using hj
        · cases hj)
      (by omega) (fun v hv => by
        obtain ⟨j, hj, rfl⟩ := List.getElem_of_mem hv
        refine hone (i * 3 + j) _ (by omega) ?_
        have : cs[j]? = some cs[j] := List.getElem?_eq_getElem hj
        rw [← this, ← hcs, List.getElem?_take, if_pos (by omega), List.getElem?_drop]; simp)
    rw [this, ← hU1]; rfl
  have hg1 : ∀ W : World, (∀ k, W.heap[k]? = (w.drew.setRow g U1).heap[k]?) → W.heap[g]? = some (.cells U1 43 (0, 0)) := fun W hW => by rw [hW]; exact setRow_heap w.drew g us U1 43 (0, 0) hg
  have hcp2 : ∀ (W : World), (∀ k, W.heap[k]? = (w.drew.setRow g U1).heap[k]?) → ∀ ty dc, (Builtin.copy_ #[22, 22] ty #[.slice (some ⟨g, i * 3, none⟩) (n + m - i) dc, .slice (some va) m vc]).run Try.prog W = .ok (goInt (Nat.min m (n + m - i))) (W.setRow g (patch U1.toList (i * 3) vs).toArray) := fun W hW ty dc =>
    run_copyK (w := W) 22 22 ty 43 3 g (i * 3) (n + m - i) dc va m vc U1 43 vs Try.underlying22 hsz (hg1 W hW) (by rw [hvl]; simp only [Nat.min_def]; split <;> omega)
      (fun j v hj => by
        have : W.cell? (va.add j) = w.cell? (va.add j) := by
          have h3 : W.heap[(va.add j).block]? = w.heap[(va.add j).block]? := by rw [hW, setRow_other w.drew g _ U1 (by rw [add_block]; exact hvb)]; rfl
          unfold World.cell?; rw [h3]
        rw [this]; exact hvs j v hj)
      (by omega) h1v
  go_enter Try.func25, Try.ntmps25
  go_wp2_with (simp only [hov])
  go_region_law_o (refine step_copyK rfl _ _ 22 22 rfl _ _ (by simp [Act.eval, Act.put]) (by simp [Act.eval, Act.put]) (hcp1 _ _ _) ?_)
  go_wp2_with (at_builtin; refine wpl_copyK rfl _ _ 22 22 rfl _ _ rfl rfl (hcp2 _ (fun _ => rfl) _ _) ?_)
  go_ret
  first | exact ⟨rfl, rfl⟩ | exact ⟨rfl, by rw [← hU1]⟩

set_option maxHeartbeats 4000000 in
set_option maxRecDepth 100000 in
/-- Nothing is put in. -/
theorem ins_none (base va : Option Addr) (n c i vc : Nat) (hi : i ≤ n) (hnc : n ≤ c) (hc63 : c ≤ 9223372036854775807) :
    Calls Try.prog 25 #[.slice base n c, .int .i64 i, .slice va 0 vc] w fun e w' => e = .returned (.slice base n c) ∧ w' = w := by
  have mixed := mixed
  have h1 : (i : Int) ≤ (n : Int) := by omega
  have h2 : (n : Int) ≤ (c : Int) := by omega
  cases base with
  | none =>
    go_enter Try.func25, Try.ntmps25
    go_wp2
    all_goals (go_ret; exact ⟨rfl, rfl⟩)
  | some a =>
    obtain ⟨ab, ao, asp⟩ := a
    go_enter Try.func25, Try.ntmps25
    go_wp2
    all_goals (go_ret; exact ⟨rfl, rfl⟩)

set_option maxHeartbeats 4000000 in
set_option maxRecDepth 100000 in
/-- At the end: what append does. -/
theorem ins_end (base va : Option Addr) (n c m vc : Nat) (hm : 0 < m) (hnc : n ≤ c) (hc63 : c ≤ 9223372036854775807) {v' : Value} {w' : World} (hr : ∀ ty, (Builtin.append_ #[22, 22] ty #[.slice base n c, .slice va m vc]).run Try.prog w = .ok v' w') :
    Calls Try.prog 25 #[.slice base n c, .int .i64 n, .slice va m vc] w fun e w'' => e = .returned v' ∧ w'' = w' := by
  have mixed := mixed
  have hz1 : ¬ ((m : Int) = 0) := by omega
  have h2 : (n : Int) ≤ (c : Int) := by omega
  cases base with
  | none =>
    go_enter Try.func25, Try.ntmps25
    go_wp2_with (at_builtin; refine Lib.wpList_append_run _ rfl _ _ _ _ rfl _ _ rfl rfl _ _ (hr _) ?_)
    all_goals (go_ret; exact ⟨rfl, rfl⟩)
  | some a =>
    obtain ⟨ab, ao, asp⟩ := a
    go_enter Try.func25, Try.ntmps25
    go_wp2_with (at_builtin; refine Lib.wpList_append_run _ rfl _ _ _ _ rfl _ _ rfl rfl _ _ (hr _) ?_)
    all_goals (go_ret; exact ⟨rfl, rfl⟩)

set_option maxHeartbeats 4000000 in
set_option maxRecDepth 100000 in
/-- There is no room, and something behind: a new row. -/
theorem ins_grow (g n c i m vc : Nat) (va : Addr) (us : Array Value) (vs : List Value) (hi : i < n) (hm : 0 < m) (hnc : n ≤ c) (hroom : c < n + m) (hbig : (n + m) * 32 ≤ 140737488355328) (hus : us.size = c * 3) (hvl : vs.length = m * 3)
    (hg : w.heap[g]? = some (.cells us 43 (0, 0))) (hone : ∀ j v, j < n * 3 → us[j]? = some v → v.oneCell' = true) (hvs : ∀ j v, vs[j]? = some v → w.cell? (va.add j) = some v) (h1v : ∀ v ∈ vs, v.oneCell' = true)
    {z : Value} {q : TypeInfo} (hq : Try.prog.info? 43 = some q) (hqs : q.size = 3) (hqb : q.bytes = 32) (hz : q.zero = some z) (hzs : z.cells.size = 3) :
    Calls Try.prog 25 #[.slice (some ⟨g, 0, none⟩) n c, .int .i64 i, .slice (some va) m vc] w fun e w' =>
      ∃ (G : Nat) (U0 : Array Value), e = .returned (.slice (some ⟨w.heap.size, 0, none⟩) (n + m) G) ∧ n + m ≤ G ∧ G ≤ maxLen ∧ U0.size = G * 3 ∧ U0.toList.take (i * 3) = us.toList.take (i * 3) ∧
        Below w.heap.size w w' ∧ w'.heap.size = w.heap.size + 1 ∧
        w'.heap[w.heap.size]? = some (.cells (patch (patch U0.toList (i * 3) vs) ((i + m) * 3) ((us.toList.drop (i * 3)).take ((n - i) * 3))).toArray 43 (0, 0)) := by
  have hz1 : ¬ ((m : Int) = 0) := by omega
  have hz2 : ¬ ((i : Int) = (n : Int)) := by omega
  have hz3 : (c : Int) < (n : Int) + (m : Int) := by omega
  have mixed := mixed
  have hul : us.toList.length = c * 3 := by rw [Array.length_toList]; exact hus
  have hsz : (Try.prog.info? 43).map (·.size) = some 3 := by rw [hq]; simp [hqs]
  have hgw : g < w.heap.size := (Array.getElem?_eq_some_iff.1 hg).1
  obtain ⟨va0, hva0⟩ : ∃ v, vs[0]? = some v := ⟨_, List.getElem?_eq_getElem (by omega)⟩
  have hcell0 : w.cell? va = some va0 := by have := hvs 0 va0 hva0; rwa [add_zero0] at this
  have hvw : va.block < w.heap.size := by
    unfold World.cell? at hcell0
    cases hh : w.heap[va.block]? with
    | none => rw [hh] at hcell0; simp at hcell0
    | some o => exact (Array.getElem?_eq_some_iff.1 hh).1
  have hkk : (n : Int) + (m : Int) - (i : Int) = ((n + m - i : Nat) : Int) := by omega
  have hik : i + (n + m - i) = n + m := by omega
  obtain ⟨cs, hcs⟩ : ∃ cs, (us.toList.drop (i * 3)).take ((n - i) * 3) = cs := ⟨_, rfl⟩
  have hcl : cs.length = (n - i) * 3 := by rw [← hcs, List.length_take, List.length_drop]; omega
  have hold : (Builtin.firstCells q.size i (.slice (some ⟨g, 0, none⟩) i c)).run Try.prog w.drew = .ok (us.toList.take (i * 3)).toArray w.drew := by
    rw [hqs]
    exact run_firstCells_some w.drew 3 i ⟨g, 0, none⟩ i c (us.toList.take (i * 3)) (by rw [List.length_take]; omega) (fun j v hj => by
      rw [add_lit, cell_row (w := w.drew) hg]
      rw [List.getElem?_take] at hj
      split at hj
      · simpa using hj
      · cases hj)
  obtain ⟨G, hG⟩ : ∃ G, G = grownCap w (n + m) c 43 := ⟨_, rfl⟩
  obtain ⟨U0, hU0⟩ : ∃ U0 : Array Value, U0 = (us.toList.take (i * 3)).toArray ++ Builtin.zeroCells z.cells (n + m - i) ++ Builtin.zeroCells z.cells (G - (n + m)) := ⟨_, rfl⟩
  obtain ⟨W1, hW1⟩ : ∃ W1, W1 = w.drew.alloc (.cells U0 43) := ⟨_, rfl⟩
  have hGn : n + m ≤ G := by rw [hG]; exact grownCap_ge w _ _ _
  have hGm : G ≤ maxLen := by rw [hG]; exact grownCap_le_maxLen w (n + m) c 43 (by unfold maxLen; omega)
  have hG63 : G ≤ 9223372036854775807 := hGm
  have hU0s : U0.size = G * 3 := by
    rw [hU0]
    simp only [Array.size_append, List.size_toArray, List.length_take, size_zeroCells, hzs]
    omega
  have hU0t : U0.toList.take (i * 3) = us.toList.take (i * 3) := by
    rw [hU0, Array.toList_append, Array.toList_append, List.append_assoc, List.take_append_of_le_length (by rw [List.length_take]; omega), List.take_take, Nat.min_self]
  have hrz : ∀ ty, (Builtin.append_ #[22, 3] ty #[.slice (some ⟨g, 0, none⟩) i c, .int .i64 ((n : Int) + (m : Int) - (i : Int))]).run Try.prog w = .ok (.slice (some ⟨w.heap.size, 0, none⟩) (n + m) G) W1 := fun ty => by
    have h := Lib.run_append_grow_zeros w 22 3 ty 43 q z .i64 .i64 Try.underlying22 Try.underlying3 hq hz (some ⟨g, 0, none⟩) i c (us.toList.take (i * 3)) hold (n + m - i) (by omega) (by omega) (by omega) (by omega) (by rw [hqb]; omega) (by rw [hqb, hik]; exact growslice_fits hroom hbig)
    rw [hik] at h
    rw [hkk, hW1, hU0, hG]
    exact h
  have hW1h : W1.heap[w.heap.size]? = some (.cells U0 43 (0, 0)) := by rw [hW1]; exact heap_alloc_new w.drew _
  have hW1o : ∀ k, k < w.heap.size → W1.heap[k]? = w.heap[k]? := fun k hk => by rw [hW1]; exact Below.heap_alloc w.drew _ k hk
  have hOld : ∀ (W : World), (∀ k, k < w.heap.size → W.heap[k]? = w.heap[k]?) → ∀ a : Addr, a.block < w.heap.size → W.cell? a = w.cell? a := fun W hW a ha => by unfold World.cell?; rw [hW _ ha]
  obtain ⟨U1, hU1⟩ : ∃ U1 : Array Value, (patch U0.toList (i * 3) vs).toArray = U1 := ⟨_, rfl⟩
  have hU0l : U0.toList.length = G * 3 := by rw [Array.length_toList]; exact hU0s
  have hU1s : U1.size = G * 3 := by rw [← hU1]; simp only [patch, List.size_toArray, List.length_append, List.length_take, List.length_drop]; omega
  have hcpA : ∀ (W : World), (∀ k, W.heap[k]? = W1.heap[k]?) → ∀ ty dc, (Builtin.copy_ #[22, 22] ty #[.slice (some ⟨w.heap.size, i * 3, none⟩) (n + m - i) dc, .slice (some va) m vc]).run Try.prog W = .ok (goInt (Nat.min m (n + m - i))) (W.setRow w.heap.size U1) := fun W hW ty dc => by
    rw [← hU1]
    exact run_copyK (w := W) 22 22 ty 43 3 w.heap.size (i * 3) (n + m - i) dc va m vc U0 43 vs Try.underlying22 hsz (by rw [hW]; exact hW1h) (by rw [hvl]; simp only [Nat.min_def]; split <;> omega)
      (fun j v hj => by
        rw [hOld W (fun k hk => by rw [hW]; exact hW1o k hk) _ (by rw [add_block]; exact hvw)]
        exact hvs j v hj)
      (by omega) h1v
  have hcpB : ∀ (W : World), (∀ k, W.heap[k]? = (W1.setRow w.heap.size U1).heap[k]?) → ∀ ty dc sc, (Builtin.copy_ #[22, 22] ty #[.slice (some ⟨w.heap.size, (i + m) * 3, none⟩) (n + m - (i + m)) dc, .slice (some ⟨g, i * 3, none⟩) (n - i) sc]).run Try.prog W =
      .ok (goInt (Nat.min (n - i) (n + m - (i + m)))) (W.setRow w.heap.size (patch U1.toList ((i + m) * 3) cs).toArray) := fun W hW ty dc sc =>
    run_copyK (w := W) 22 22 ty 43 3 w.heap.size ((i + m) * 3) (n + m - (i + m)) dc ⟨g, i * 3, none⟩ (n - i) sc U1 43 cs Try.underlying22 hsz (by rw [hW]; exact setRow_heap W1 w.heap.size U0 U1 43 (0, 0) hW1h) (by rw [hcl]; simp only [Nat.min_def]; split <;> omega)
      (fun j v hj => by
        rw [hOld W (fun k hk => by rw [hW, setRow_other W1 w.heap.size k U1 (by omega)]; exact hW1o k hk) _ (by rw [add_block]; exact hgw)]
        rw [add_lit, cell_row hg]
        rw [← hcs, List.getElem?_take] at hj
        split at hj
        · rw [List.getElem?_drop] at hj; simpa using hj
        · cases hj)
      (by omega) (fun v hv => by
        obtain ⟨j, hj, rfl⟩ := List.getElem_of_mem hv
        refine hone (i * 3 + j) _ (by omega) ?_
        have : cs[j]? = some cs[j] := List.getElem?_eq_getElem hj
        rw [← this, ← hcs, List.getElem?_take, if_pos (by omega), List.getElem?_drop]; simp)
  have hGi : ¬ (G = i) := by omega
  have hGim : ¬ (G = i + m) := by omega
  have hci : ¬ (c = i) := by omega
  have hw1 : IntKind.i64.wrap ((i : Int) + (m : Int)) = (i : Int) + (m : Int) := by rw [IntKind.wrap_i64]; omega
  have hb1 : (0 : Int) ≤ (i : Int) + (m : Int) := by omega
  have hin : i ≤ n := by omega
  have htn : ((i : Int) + (m : Int)).toNat = i + m := by omega
  have hb3 : (i : Int) ≤ (n : Int) := by omega
  -- the world behind
  have fin : ∀ (w' : World), (∀ k, w'.heap[k]? = ((W1.setRow w.heap.size U1).setRow w.heap.size (patch U1.toList ((i + m) * 3) cs).toArray).heap[k]?) → w'.os = w.os → w'.tape = w.tape → w'.output = w.output → w'.heap.size = w.heap.size + 1 →
      Below w.heap.size w w' ∧ w'.heap.size = w.heap.size + 1 ∧ w'.heap[w.heap.size]? = some (.cells (patch (patch U0.toList (i * 3) vs) ((i + m) * 3) cs).toArray 43 (0, 0)) := fun w' hh h1 h2 h3 h4 => by
    refine ⟨⟨h1, h2, h3, by omega, fun k hk => ?_⟩, h4, ?_⟩
    · rw [hh, setRow_other _ _ k _ (by omega), setRow_other _ _ k _ (by omega)]; exact hW1o k hk
    · rw [hh, setRow_heap _ w.heap.size U1 _ 43 (0, 0) (setRow_heap W1 w.heap.size U0 U1 43 (0, 0) hW1h), ← hU1]
  rw [hcs]
  subst hW1
  have hE1 : ∀ k : Nat, ((w.alloc (.cells U0 43)).drew).heap[k]? = (w.drew.alloc (.cells U0 43)).heap[k]? := fun k => rfl
  have hE2 : ∀ k : Nat, (((w.alloc (.cells U0 43)).drew.setRow w.heap.size U1).drew).heap[k]? = ((w.drew.alloc (.cells U0 43)).setRow w.heap.size U1).heap[k]? := fun k => rfl
  clear hkk hik hold hU0 hG
  go_enter Try.func25, Try.ntmps25
  go_wp2_with (first
    | (at_builtin; refine Lib.wpList_append_run _ rfl _ _ _ _ rfl _ _ rfl rfl _ _ (hrz _) ?_)
    | (at_builtin; refine wpl_copyK rfl _ _ 22 22 rfl _ _ rfl rfl (hcpA _ hE1 _ _) ?_))
  go_region_law_o (refine step_copyK rfl _ _ 22 22 rfl (.slice (some ⟨w.heap.size, (i + m) * 3, none⟩) (n + m - (i + m)) (G - (i + m))) (.slice (some ⟨g, i * 3, none⟩) (n - i) (c - i)) (by simp [Act.eval, Act.put]) (by simp [Act.eval, Act.put]) (hcpB _ hE2 3 (G - (i + m)) (c - i)) ?_)
  go_wp2
  go_ret
  exact ⟨G, U0, rfl, hGn, hGm, hU0s, hU0t, fin _ (fun _ => rfl) rfl rfl rfl (by simp)⟩

/-! ### As data -/

theorem patch_down {us cs vs : List Value} {i n m k : Nat} (hi : i ≤ n) (hc : cs.length = (n - i) * k) (hv : vs.length = m * k) (hu : (n + m) * k ≤ us.length) :
    patch (patch us ((i + m) * k) cs) (i * k) vs = (us.take (i * k) ++ vs ++ cs) ++ us.drop ((n + m) * k) := by
  have e1 : (i + m) * k + cs.length = (n + m) * k := by rw [hc, ← Nat.add_mul]; congr 1; omega
  have e2 : i * k + vs.length = (i + m) * k := by rw [hv, ← Nat.add_mul]
  have l1 : (i + m) * k ≤ us.length := by omega
  unfold patch
  have l3 : (us.take ((i + m) * k)).length = (i + m) * k := by rw [List.length_take]; omega
  rw [e2, e1, List.append_assoc (us.take ((i + m) * k)), List.take_append_of_le_length (by omega), List.take_take, Nat.min_eq_left (by omega), List.drop_left' l3]
  simp only [List.append_assoc]
theorem patch_up {us cs vs : List Value} {i n m k : Nat} (hi : i ≤ n) (hc : cs.length = (n - i) * k) (hv : vs.length = m * k) (hu : (n + m) * k ≤ us.length) :
    patch (patch us (i * k) vs) ((i + m) * k) cs = (us.take (i * k) ++ vs ++ cs) ++ us.drop ((n + m) * k) := by
  have e1 : (i + m) * k + cs.length = (n + m) * k := by rw [hc, ← Nat.add_mul]; congr 1; omega
  have e2 : i * k + vs.length = (i + m) * k := by rw [hv, ← Nat.add_mul]
  have l1 : (i + m) * k ≤ us.length := by omega
  have l2 : (us.take (i * k) ++ vs).length = (i + m) * k := by rw [List.length_append, List.length_take]; omega
  unfold patch
  rw [e2, e1, List.take_left' l2]
  rw [show (n + m) * k = (i + m) * k + ((n + m) * k - (i + m) * k) by omega, ← List.drop_drop, List.drop_left' l2, List.drop_drop]

theorem holds_take {F : Nat → Prop} {t : Ty} {xs : List t.I} {us : List Value} (h : Holds w F t xs us) (i : Nat) : Holds w F t (xs.take i) (us.take (i * t.width)) := fun j x hj => by
  rw [List.getElem?_take] at hj
  split at hj
  · rename_i hlt
    have := h j x hj
    have hle : j * t.width + t.width ≤ i * t.width := by rw [← Nat.succ_mul]; exact Nat.mul_le_mul_right _ hlt
    rw [List.drop_take, List.take_take, Nat.min_eq_left (by omega)]
    exact this
  · cases hj
theorem holds_drop {F : Nat → Prop} {t : Ty} {xs : List t.I} {us : List Value} (h : Holds w F t xs us) (i n : Nat) (hn : xs.length ≤ n) : Holds w F t (xs.drop i) ((us.drop (i * t.width)).take ((n - i) * t.width)) := fun j x hj => by
  rw [List.getElem?_drop] at hj
  have hlt := (List.getElem?_eq_some_iff.1 hj).1
  have := h (i + j) x hj
  have hle : j * t.width + t.width ≤ (n - i) * t.width := by rw [← Nat.succ_mul]; exact Nat.mul_le_mul_right _ (by omega)
  rw [List.drop_take, List.take_take, Nat.min_eq_left (by omega), List.drop_drop, ← Nat.add_mul]
  exact this

/-- A row of lines is put together anew: the cells of each part behind one another. -/
theorem holds_ins {F : Nat → Prop} {xs ys : List tLn.I} {us vs r : List Value} {i : Nat} (hi : i ≤ xs.length) (hx : Holds w F tLn xs us) (hul : xs.length * 3 ≤ us.length) (hy : Holds w F tLn ys vs) (hvl : vs.length = ys.length * 3) :
    Holds w F tLn (xs.take i ++ ys ++ xs.drop i) ((us.take (i * 3) ++ vs ++ (us.drop (i * 3)).take ((xs.length - i) * 3)) ++ r) := by
  have w3 : tLn.width = 3 := rfl
  have h1 := holds_take hx i
  have h2 := holds_drop hx i xs.length (Nat.le_refl _)
  rw [w3] at h1 h2
  have l1 : (us.take (i * 3)).length = (xs.take i).length * tLn.width := by rw [List.length_take, List.length_take, w3]; omega
  have h3 := h1.append l1 hy
  have l3 : (us.take (i * 3) ++ vs).length = (xs.take i ++ ys).length * tLn.width := by rw [List.length_append, List.length_append, l1, hvl, w3]; omega
  have h4 := h3.append l3 h2
  refine h4.more ?_
  have l4 : ((us.drop (i * 3)).take ((xs.length - i) * 3)).length = (xs.length - i) * 3 := by rw [List.length_take, List.length_drop]; omega
  have l5 : (xs.take i ++ ys ++ xs.drop i).length = (xs.take i ++ ys).length + (xs.length - i) := by rw [List.length_append, List.length_drop]
  rw [List.length_append, l3, l4, l5, w3, Nat.add_mul]

end

def E25t : List Ln → D := fun x => .own 43 tLn x
/-- What is put in stands at its place. -/
def F25t (N : Nat) (s : List Ln) (i : Int) (v : List Ln) : Option (List Ln) := if 0 ≤ i ∧ i ≤ s.length ∧ s.length + v.length ≤ 1000000 then some (s.take i.toNat ++ v ++ s.drop i.toNat) else none

theorem two_more {w : World} {F : Nat → Prop} {vs : Array Value} {d1 d2 : D} (hsz : vs.size = 2) (h : ∀ (i : Nat) d', [d1, d2][i]? = some d' → ∃ v, vs[i]? = some v ∧ R1 w F noM v d') : ∃ a b, vs = #[a, b] ∧ R1 w F noM a d1 ∧ R1 w F noM b d2 := by
  obtain ⟨l⟩ := vs
  match l, hsz with
  | [a, b], _ =>
    obtain ⟨x, h1, h2⟩ := h 0 d1 rfl
    obtain ⟨y, h3, h4⟩ := h 1 d2 rfl
    have : a = x := by simpa using h1
    subst this
    have : b = y := by simpa using h3
    subst this
    exact ⟨a, b, rfl, h2, h4⟩

set_option maxRecDepth 100000 in
theorem P25t (N : Nat) (s : List Ln) (i : Int) (v : List Ln) : ∀ r, F25t N s i v = some r → SpecT Try.prog 25 43 tLn s [.val tI i, .val (.list tLn) v] (E25t r) := fun r h => by
  unfold F25t at h
  split at h
  · rename_i hc
    obtain ⟨h0, h1, h2⟩ := hc
    cases h
    obtain ⟨i, rfl⟩ : ∃ k : Nat, i = (k : Int) := ⟨i.toNat, by omega⟩
    rw [Int.toNat_natCast]
    have hi : i ≤ s.length := by omega
    refine ⟨enter_of (fn := Try.f25) rfl rfl rfl, fun w v0 vs F G0 hF hgl hown hsz hargs => ?_⟩
    obtain ⟨vi, vv, rfl, hi1, hv1⟩ := two_more hsz hargs
    have hvi : vi = .int .i64 i := by have h : [vi] = [Value.int .i64 (i : Int)] := hi1; simpa using h
    subst hvi
    obtain ⟨A, vc, news, hsrc⟩ := Src.of_data (w := w) (F := F) (t := tLn) (xs := v) (v := vv) hv1
    have hform := hsrc.form
    have hlen : news.length = v.length * 3 := hsrc.len
    have hholds := hsrc.holds
    obtain ⟨q, hq, hqs, hqb, z, hz, hzs⟩ : ∃ q : TypeInfo, Try.prog.info? 43 = some q ∧ q.size = 3 ∧ q.bytes = 32 ∧ ∃ z, q.zero = some z ∧ z.cells.size = 3 := ⟨_, rfl, by kernel_rfl, by kernel_rfl, _, rfl, by kernel_rfl⟩
    have hGF : ∀ g, G0 = some g → ¬F g := fun g hg => by
      rcases hown with ⟨_, h3, _⟩ | ⟨g', _, _, h3, h4, _⟩
      · rw [h3] at hg; cases hg
      · rw [h3] at hg; cases hg; exact h4.2
    have hnc : ∃ base c, v0 = .slice base s.length c ∧ s.length ≤ c ∧ c ≤ maxLen := by
      rcases hown with ⟨h3, _, A0, h4⟩ | ⟨g, cap, us, h3, _, h5, _, h7, h8, _⟩
      · exact ⟨A0, 0, by rw [h4, h3]; rfl, by rw [h3]; exact Nat.le_refl _, Nat.zero_le _⟩
      · exact ⟨_, cap, h5, h7, h8⟩
    obtain ⟨base, c, hv0, hnc1, hnc2⟩ := hnc
    have hc63 : c ≤ 9223372036854775807 := hnc2
    rcases Nat.eq_zero_or_pos v.length with hm0 | hm0
    · -- nothing is put in
      have hv : v = [] := List.eq_nil_of_length_eq_zero hm0
      subst hv
      rw [hform, hv0]
      refine (ins_none base A s.length c i vc hi hnc1 hc63).mono ?_
      rintro en w' ⟨rfl, rfl⟩
      rw [hv0] at hown
      refine ⟨_, F, G0, rfl, ⟨rfl, rfl, rfl, Nat.le_refl _, fun _ _ _ => rfl⟩, fun _ z => z, fun g hg => ⟨hF g hg, .inl hg⟩, fun g hg => ⟨.inr hg, hGF g hg, ?_⟩, ?_⟩
      · rcases hown with ⟨_, h3, _⟩ | ⟨g', _, _, h3, h4, _⟩
        · rw [h3] at hg; cases hg
        · rw [h3] at hg; cases hg; exact h4.1
      · show OwnR w' F (fun _ => True) G0 _ _ tLn _
        rw [List.append_nil, List.take_append_drop]
        rcases hown with h3 | ⟨g', cap, us, h3, h4, h5⟩
        · exact .inl h3
        · exact .inr ⟨g', cap, us, h3, trivial, h5⟩
    · obtain ⟨va, hA, hread⟩ := hsrc.at_ hm0
      subst hA
      have hones := hholds.one hlen
      have hvs : ∀ (j : Nat) x, news[j]? = some x → w.cell? (va.add j) = some x := fun j x hj => (hread j x hj).1
      by_cases hin : i = s.length
      · -- at the end
        subst hin
        obtain ⟨v', w', G', hr, hgr, hown', hG'⟩ := app_run (B := fun _ => True) (ty := 22) (u := tLn) Try.underlying22 hq hz hqs hzs (by omega) (G := G0) (v := v0) (xs := s) (by
            rcases hown with h3 | ⟨g', cap, us, h3, h4, h5⟩
            · exact .inl h3
            · exact .inr ⟨g', cap, us, h3, trivial, h5⟩) hsrc (by omega) trivial hF hGF
        have hty : ∀ ty, (Builtin.append_ #[22, 22] ty #[.slice base s.length c, .slice (some va) v.length vc]).run Try.prog w = .ok v' w' := fun ty => by
          rw [← hv0, ← hform]; exact hr
        rw [hform, hv0]
        refine (ins_end base (some va) s.length c v.length vc hm0 hnc1 hc63 hty).mono ?_
        rintro en w'' ⟨rfl, rfl⟩
        refine ⟨v', F, G', rfl, hgr, fun _ z => z, fun g hg => ⟨Nat.lt_of_lt_of_le (hF g hg) hgr.size, .inl hg⟩, fun g hg => ?_, ?_⟩
        · obtain ⟨k1, k2⟩ := hG' g hg
          refine ⟨k2.symm.imp id id, fun hFg => ?_, k1⟩
          rcases k2 with k2 | k2
          · exact hGF g k2 hFg
          · have := hF g hFg; omega
        · show OwnR w'' F (fun _ => True) G' v' _ tLn _
          rw [List.take_length, List.drop_length, List.append_nil]
          exact hown'
      · -- in the midst
        have hlt : i < s.length := by omega
        rcases hown with ⟨h3, _⟩ | ⟨g, cap, us, hG0, hB, h5, h6, h7, h8, h9, h10⟩
        · rw [h3] at hlt; simp at hlt
        · rw [h5] at hv0
          injection hv0 with e1 e2 e3
          subst e1; subst e3
          have hus : us.size = cap * 3 := h9
          have hul : us.toList.length = cap * 3 := by rw [Array.length_toList]; exact hus
          have hle3 : s.length * 3 ≤ us.toList.length := by omega
          have hone : ∀ j v, j < s.length * 3 → us[j]? = some v → v.oneCell' = true := fun j v hj hv => by
            have hx : Holds w F tLn s (us.toList.take (s.length * 3)) := by have := holds_take h10 s.length; rwa [List.take_length] at this
            have := hx.one (by rw [List.length_take]; show _ = s.length * 3; omega)
            exact this v (List.mem_of_getElem? (i := j) (by rw [List.getElem?_take, if_pos hj]; simpa using hv))
          have hvb : va.block ≠ g := fun e => by
            obtain ⟨A2, c2, k1, _, _, k4⟩ := hv1
            obtain ⟨a2, us2, k5, k6, _⟩ := k4 0 _ (List.getElem?_eq_getElem hm0)
            have k7 : vv = .slice A2 v.length c2 := by simpa using k1
            rw [hform] at k7
            injection k7 with k8
            rw [k5] at k8
            injection k8 with k9
            rw [← k9, e] at k6
            exact hB.2 k6
          have hcl : ((us.toList.drop (i * 3)).take ((s.length - i) * 3)).length = (s.length - i) * 3 := by rw [List.length_take, List.length_drop]; omega
          rw [hform, h5]
          by_cases hroom : s.length + v.length ≤ cap
          · refine (ins_shift g s.length cap i v.length vc va us news hlt hm0 hroom hc63 hvb hus hlen h6 hone hvs hones).mono ?_
            rintro en w' ⟨rfl, rfl⟩
            rw [patch_down hi hcl hlen (by omega)]
            obtain ⟨U1, hU1⟩ : ∃ U1 : Array Value, (patch us.toList ((i + v.length) * 3) ((us.toList.drop (i * 3)).take ((s.length - i) * 3))).toArray = U1 := ⟨_, rfl⟩
            rw [hU1, setRow_setRow]
            obtain ⟨U2, hU2⟩ : ∃ U2 : List Value, (us.toList.take (i * 3) ++ news ++ (us.toList.drop (i * 3)).take ((s.length - i) * 3)) ++ us.toList.drop ((s.length + v.length) * 3) = U2 := ⟨_, rfl⟩
            have hU2l : U2.length = cap * 3 := by rw [← hU2]; simp only [List.length_append, List.length_take, List.length_drop]; omega
            have hs : Same F w (w.drew.setRow g U2.toArray) := fun b hb => by rw [setRow_other w.drew g b _ (fun e => by subst e; exact hB.2 hb)]; rfl
            rw [hU2]
            refine ⟨_, F, some g, rfl, ?_, fun _ z => z, fun k hk => ⟨by have := hF k hk; simpa using this, .inl hk⟩, fun k hk => ?_, .inr ⟨g, cap, U2.toArray, rfl, trivial, ?_, setRow_heap w.drew g us _ _ (0, 0) h6, ?_, h8, by show U2.toArray.size = cap * 3; simpa using hU2l, ?_⟩⟩
            · rw [hG0]; exact ⟨rfl, rfl, rfl, by simp, fun k _ hk => by rw [setRow_other w.drew g k _ (fun e => hk (by rw [e]))]; rfl⟩
            · cases hk; exact ⟨.inr hG0, hB.2, by simpa using hB.1⟩
            · congr 1; simp only [List.length_append, List.length_take, List.length_drop]; omega
            · simp only [List.length_append, List.length_take, List.length_drop]; omega
            · rw [← hU2]
              exact (holds_ins hi h10 hle3 hholds hlen).keep hs (fun _ z => z)
          · refine (ins_grow g s.length cap i v.length vc va us news hlt hm0 h7 (by omega) (by omega) hus hlen h6 hone hvs hones hq hqs hqb hz hzs).mono ?_
            rintro en w' ⟨G, U0, rfl, k1, k2, k3, k4, k5, k6, k7⟩
            have hU0l : U0.toList.length = G * 3 := by rw [Array.length_toList]; exact k3
            rw [patch_up hi hcl hlen (by omega), k4] at k7
            have hs : Same F w w' := fun b hb => k5.block b (hF b hb)
            obtain ⟨U2, hU2⟩ : ∃ U2 : List Value, (us.toList.take (i * 3) ++ news ++ (us.toList.drop (i * 3)).take ((s.length - i) * 3)) ++ U0.toList.drop ((s.length + v.length) * 3) = U2 := ⟨_, rfl⟩
            have hU2l : U2.length = G * 3 := by rw [← hU2]; simp only [List.length_append, List.length_take, List.length_drop]; omega
            rw [hU2] at k7
            refine ⟨_, F, some w.heap.size, rfl, ⟨k5.os, k5.tape, k5.output, by omega, fun k hk _ => k5.block k hk⟩, fun _ z => z, fun k hk => ⟨by have := hF k hk; omega, .inl hk⟩, fun k hk => ?_, .inr ⟨w.heap.size, G, U2.toArray, rfl, trivial, ?_, k7, ?_, k2, by show U2.toArray.size = G * 3; simpa using hU2l, ?_⟩⟩
            · cases hk; exact ⟨.inl (Nat.le_refl _), fun hFg => by have := hF _ hFg; omega, by omega⟩
            · congr 1; simp only [List.length_append, List.length_take, List.length_drop]; omega
            · simp only [List.length_append, List.length_take, List.length_drop]; omega
            · rw [← hU2]
              exact (holds_ins hi h10 hle3 hholds hlen).keep hs (fun _ z => z)
  · cases h

end Go.Proofs.Ytkbciolghkcjoaa.Vc
