/-
  slices.Delete at []api.Line: what it does with a row of the caller's own. No condition.
-/
import Derived.Test.YtncgafojgdemdaaDoorIn
set_option linter.unusedVariables false
set_option linter.unusedSimpArgs false
namespace Go.Proofs.YtncgafojgdemdaaDoor.Vc
open Go.RowKit Go.Proofs Go.Lib

section
variable {P : Program} {w : World}

/-- clear: the cells of so many zero values. -/
theorem run_clearK (t ty elem : TypeId) (z : Value) (g o n c : Nat) (us : Array Value) (T : TypeId) (hu : P.underlying t = some (.slice elem)) (hz : P.info? elem >>= (·.zero) = some z) (hg : w.heap[g]? = some (.cells us T (0, 0))) (hn : 0 < n)
    (hfit : o + (Builtin.zeroCells z.cells n).size ≤ us.size) (h1 : ∀ v ∈ (Builtin.zeroCells z.cells n).toList, v.oneCell' = true) :
    (Builtin.clear_ #[t] ty #[.slice (some ⟨g, o, none⟩) n c]).run P w = .ok (.tuple #[]) (w.setRow g (patch us.toList o (Builtin.zeroCells z.cells n).toList).toArray) := by
  have hst := run_storeCells_at P g o T (Builtin.zeroCells z.cells n).toList 0 us w hg (by simpa using hfit) h1
  obtain ⟨k, rfl⟩ : ∃ k, n = k + 1 := ⟨n - 1, by omega⟩
  cases hq : P.info? elem with
  | none => simp [hq] at hz
  | some i =>
    have hi : i.zero = some z := by simpa [hq] using hz
    simp only [Nat.add_zero] at hst
    simp [Builtin.clear_, run_underlying hu, zeroValue, typeInfo, hq, hi, hst, patch]

/-- append in a region that draws; clear. -/
theorem wp_appK {o : Oper} {a : Act} {K : Act → World → Prop} {Q : Exit → Act → World → Prop} (d s : Operand) (t t' : TypeId) (ho : o.op = .call { callee := .builtin .append, args := #[d, s], argTypes := #[t, t'] }) (v u : Value) (hd : a.eval d = v) (hs : a.eval s = u)
    {v' : Value} {w' : World} (hr : (Builtin.append_ #[t, t'] o.type #[v, u]).run P w = .ok v' w') (h : K (a.put o.dst v') w') : o.wp P a w K Q := by
  have : (execOp a.eval o).run P w = .ok (.value v') w' := by
    unfold execOp
    rw [ho]
    simp only [resolve, invoke, builtin, Sem.run_bind, Sem.run_pure, Result.andThen_ok, List.map_toArray, List.map_cons, List.map_nil, hd, hs, hr]
  unfold Oper.wp
  rw [this]
  exact h
theorem step_appK {ops : Array Oper} {o : Oper} {a : Act} {K : Act → World → Prop} {Q : Exit → Act → World → Prop} {E : Prop} (hg : o.guard = none) (d s : Operand) (t t' : TypeId) (ho : o.op = .call { callee := .builtin .append, args := #[d, s], argTypes := #[t, t'] })
    (v u : Value) (hd : a.eval d = v) (hs : a.eval s = u) {v' : Value} {w' : World} (hr : (Builtin.append_ #[t, t'] o.type #[v, u]).run P w = .ok v' w') (h : K (a.put o.dst v') w') :
    if Region.wanted o (yielded ops a.tmps) = true then o.wp P a w K Q else E := by
  have hw : Region.wanted o (yielded ops a.tmps) = true := by simp [Region.wanted, hg]
  rw [if_pos hw]
  exact wp_appK d s t t' ho v u hd hs hr h
theorem wp_clearK {o : Oper} {a : Act} {K : Act → World → Prop} {Q : Exit → Act → World → Prop} (d : Operand) (t : TypeId) (ho : o.op = .call { callee := .builtin .clear, args := #[d], argTypes := #[t] }) (v : Value) (hd : a.eval d = v)
    {v' : Value} {w' : World} (hr : (Builtin.clear_ #[t] o.type #[v]).run P w = .ok v' w') (h : K (a.put o.dst v') w') : o.wp P a w K Q := by
  have : (execOp a.eval o).run P w = .ok (.value v') w' := by
    unfold execOp
    rw [ho]
    simp only [resolve, invoke, builtin, Sem.run_bind, Sem.run_pure, Result.andThen_ok, List.map_toArray, List.map_cons, List.map_nil, hd, hr]
  unfold Oper.wp
  rw [this]
  exact h
theorem wpl_clearK {ops : Array Oper} {rest : List Oper} {o : Oper} {a : Act} {Q : Exit → Act → World → Prop} (hgd : o.guard = none) (d : Operand) (t : TypeId) (ho : o.op = .call { callee := .builtin .clear, args := #[d], argTypes := #[t] })
    (v : Value) (hd : a.eval d = v) {v' : Value} {w' : World} (hr : (Builtin.clear_ #[t] o.type #[v]).run P w = .ok v' w') (h : wpList P ops Q rest (a.put o.dst v') w') : wpList P ops Q (o :: rest) a w :=
  wpList_plain hgd fun _ hK => wp_clearK d t ho v hd hr (hK _ _ h)

set_option maxHeartbeats 4000000 in
set_option maxRecDepth 100000 in
/-- Nothing goes. -/
theorem del_none (base : Option Addr) (n c i : Nat) (hi : i ≤ n) (hnc : n ≤ c) (hc63 : c ≤ 9223372036854775807) :
    Calls Tryd.prog 53 #[.slice base n c, .int .i64 i, .int .i64 i] w fun e w' => e = .returned (.slice base n c) ∧ w' = w := by
  have mixed := mixed
  have h1 : (i : Int) ≤ (n : Int) := by omega
  have h2 : (n : Int) ≤ (c : Int) := by omega
  cases base with
  | none =>
    go_enter Tryd.func53, Tryd.ntmps53
    go_wp2
    all_goals (go_ret; exact ⟨rfl, rfl⟩)
  | some a =>
    obtain ⟨ab, ao, asp⟩ := a
    go_enter Tryd.func53, Tryd.ntmps53
    go_wp2
    all_goals (go_ret; exact ⟨rfl, rfl⟩)

set_option maxHeartbeats 4000000 in
set_option maxRecDepth 100000 in
/-- What is behind moves down; what is left over behind is zero. -/
theorem del_some (g n c i j : Nat) (us : Array Value) (hij : i < j) (hj : j ≤ n) (hnc : n ≤ c) (hc63 : c ≤ 9223372036854775807) (hus : us.size = c * 3)
    (hg : w.heap[g]? = some (.cells us 49 (0, 0))) (hone : ∀ k v, k < n * 3 → us[k]? = some v → v.oneCell' = true)
    {z : Value} {q : TypeInfo} (hq : Tryd.prog.info? 49 = some q) (hqs : q.size = 3) (hz : q.zero = some z) (hzs : z.cells.size = 3) (hz1 : ∀ v ∈ (Builtin.zeroCells z.cells (j - i)).toList, v.oneCell' = true) :
    Calls Tryd.prog 53 #[.slice (some ⟨g, 0, none⟩) n c, .int .i64 i, .int .i64 j] w fun e w' =>
      e = .returned (.slice (some ⟨g, 0, none⟩) (i + (n - j)) c) ∧ w' = (w.drew.setRow g (patch us.toList (i * 3) ((us.toList.drop (j * 3)).take ((n - j) * 3))).toArray).setRow g
        (patch (patch us.toList (i * 3) ((us.toList.drop (j * 3)).take ((n - j) * 3))) ((i + (n - j)) * 3) (Builtin.zeroCells z.cells (j - i)).toList).toArray := by
  have mixed := mixed
  have hul : us.toList.length = c * 3 := by rw [Array.length_toList]; exact hus
  have hne : ¬ ((i : Int) = (j : Int)) := by omega
  have b1 : (i : Int) ≤ (j : Int) := by omega
  have b2 : (j : Int) ≤ (n : Int) := by omega
  have b3 : (n : Int) ≤ (c : Int) := by omega
  have b4 : (i : Int) ≤ (c : Int) := by omega
  have b5 : (i : Int) ≤ (n : Int) := by omega
  have b6 : i ≤ c := by omega
  have b7 : j ≤ c := by omega
  obtain ⟨cs, hcs⟩ : ∃ cs, (us.toList.drop (j * 3)).take ((n - j) * 3) = cs := ⟨_, rfl⟩
  have hcl : cs.length = (n - j) * 3 := by rw [← hcs, List.length_take, List.length_drop]; omega
  obtain ⟨U1, hU1⟩ : ∃ U1 : Array Value, (patch us.toList (i * 3) cs).toArray = U1 := ⟨_, rfl⟩
  have hU1s : U1.size = c * 3 := by rw [← hU1]; simp only [patch, List.size_toArray, List.length_append, List.length_take, List.length_drop]; omega
  rw [hcs, hU1]
  obtain ⟨A, hA, hsrc⟩ : ∃ A : Addr, (if c = j then some (⟨g, 0, none⟩ : Addr) else some ⟨g, j * 3, none⟩) = some A ∧ (∀ t u, cs[t]? = some u → w.drew.cell? (A.add t) = some u) := by
    by_cases h : c = j
    · refine ⟨⟨g, 0, none⟩, by simp [h], fun t u hu => ?_⟩
      have h0 : cs.length = 0 := by rw [hcl]; omega
      rw [List.length_eq_zero_iff.1 h0] at hu
      simp at hu
    · refine ⟨⟨g, j * 3, none⟩, by simp [h], fun t u hu => ?_⟩
      rw [add_lit, cell_row (w := w.drew) hg]
      rw [← hcs, List.getElem?_take] at hu
      split at hu
      · rw [List.getElem?_drop] at hu; simpa using hu
      · cases hu
  have hones : ∀ v ∈ cs, v.oneCell' = true := fun v hv => by
    obtain ⟨k, hk, rfl⟩ := List.getElem_of_mem hv
    refine hone (j * 3 + k) _ (by omega) ?_
    have : cs[k]? = some cs[k] := List.getElem?_eq_getElem hk
    rw [← this, ← hcs, List.getElem?_take, if_pos (by omega), List.getElem?_drop]; simp
  have hap : ∀ ty, (Builtin.append_ #[22, 22] ty #[.slice (some ⟨g, 0, none⟩) i c, .slice (some A) (n - j) (c - j)]).run Tryd.prog w.drew = .ok (.slice (some ⟨g, 0, none⟩) (i + (n - j)) c) (w.drew.setRow g U1) := fun ty => by
    have h := run_append_room (P := Tryd.prog) w.drew 22 ty 49 q Tryd.underlying22 hq g i c us hg A (n - j) (c - j) cs (by rw [hqs]; exact hcl) hsrc hones (by omega) (by rw [hqs]; omega)
    rw [hqs] at h
    rw [← hU1]
    exact h
  have hg1 : ∀ W : World, (∀ k : Nat, W.heap[k]? = (w.drew.setRow g U1).heap[k]?) → W.heap[g]? = some (.cells U1 49 (0, 0)) := fun W hW => by rw [hW]; exact setRow_heap w.drew g us U1 49 (0, 0) hg
  have hzl : (Builtin.zeroCells z.cells (j - i)).size = (j - i) * 3 := by rw [size_zeroCells, hzs]
  have hcr : ∀ (W : World), (∀ k : Nat, W.heap[k]? = (w.drew.setRow g U1).heap[k]?) → ∀ ty, (Builtin.clear_ #[22] ty #[.slice (some ⟨g, (i + (n - j)) * 3, none⟩) (n - (i + (n - j))) (c - (i + (n - j)))]).run Tryd.prog W =
      .ok (.tuple #[]) (W.setRow g (patch U1.toList ((i + (n - j)) * 3) (Builtin.zeroCells z.cells (j - i)).toList).toArray) := fun W hW ty => by
    have e : n - (i + (n - j)) = j - i := by omega
    rw [e]
    exact run_clearK (w := W) 22 ty 49 z g ((i + (n - j)) * 3) (j - i) (c - (i + (n - j))) U1 49 Tryd.underlying22 (by rw [hq]; exact hz) (hg1 W hW) (by omega) (by rw [hzl]; omega) hz1
  have b8 : (i : Int) + (n - j : Nat) ≤ (n : Int) := by omega
  have b9 : ¬ (c = i + (n - j)) := by omega
  clear hzl hz1 hzs hz
  generalize (Builtin.zeroCells z.cells (j - i)).toList = zs at hcr ⊢
  clear z
  go_enter Tryd.func53, Tryd.ntmps53
  go_wp2
  go_region_law_o (refine step_appK rfl _ _ 22 22 rfl (.slice (some ⟨g, 0, none⟩) i c) (.slice (some A) (n - j) (c - j)) (by simp [Act.eval, Act.put]) (by rw [← hA]; simp [Act.eval, Act.put]) (hap _) ?_)
  go_wp2_with (at_builtin; refine wpl_clearK rfl _ 22 rfl _ rfl (hcr _ (fun _ => rfl) _) ?_)
  go_ret
  first | exact ⟨rfl, rfl⟩ | exact ⟨rfl, by rw [← hU1]⟩

theorem zero_one {zs : Array Value} (h : ∀ v ∈ zs, v.oneCell' = true) (n : Nat) : ∀ v ∈ (Builtin.zeroCells zs n).toList, v.oneCell' = true := fun v hv => by
  rw [Array.mem_toList_iff] at hv
  unfold Builtin.zeroCells at hv
  obtain ⟨i, hi, rfl⟩ := Array.mem_map.1 hv
  rw [Array.mem_range] at hi
  have hp : 0 < zs.size := by
    rcases Nat.eq_zero_or_pos zs.size with h0 | h0
    · rw [h0] at hi; simp at hi
    · exact h0
  have hlt : i % zs.size < zs.size := Nat.mod_lt _ hp
  rw [getElem!_pos zs _ hlt]
  exact h _ (Array.getElem_mem hlt)

theorem patch_del {us cs zs : List Value} {a b : Nat} (ha : a ≤ us.length) (hb : b = a + cs.length) : ∃ r, patch (patch us a cs) b zs = (us.take a ++ cs) ++ r := by
  subst hb
  refine ⟨zs ++ (us.take a ++ cs ++ us.drop (a + cs.length)).drop (a + cs.length + zs.length), ?_⟩
  have l : (us.take a ++ cs).length = a + cs.length := by rw [List.length_append, List.length_take]; omega
  have h : (us.take a ++ cs ++ us.drop (a + cs.length)).take (a + cs.length) = us.take a ++ cs := List.take_left' l
  unfold patch
  rw [h, List.append_assoc (us.take a ++ cs) zs]

theorem patch_length {us cs : List Value} {a : Nat} (h : a + cs.length ≤ us.length) : (patch us a cs).length = us.length := by
  unfold patch; simp only [List.length_append, List.length_take, List.length_drop]; omega

/-- A row of lines without a part. -/
theorem holds_del {F : Nat → Prop} {xs : List tLn.I} {us r : List Value} {i j : Nat} (hi : i ≤ j) (hj : j ≤ xs.length) (hx : Holds w F tLn xs us) (hul : xs.length * 3 ≤ us.length) :
    Holds w F tLn (xs.take i ++ xs.drop j) ((us.take (i * 3) ++ (us.drop (j * 3)).take ((xs.length - j) * 3)) ++ r) := by
  have w3 : tLn.width = 3 := rfl
  have h1 := holds_take hx i
  have h2 := holds_drop hx j xs.length (Nat.le_refl _)
  rw [w3] at h1 h2
  have l1 : (us.take (i * 3)).length = (xs.take i).length * tLn.width := by rw [List.length_take, List.length_take, w3]; omega
  have h3 := h1.append l1 h2
  refine h3.more ?_
  have l4 : ((us.drop (j * 3)).take ((xs.length - j) * 3)).length = (xs.length - j) * 3 := by rw [List.length_take, List.length_drop]; omega
  rw [List.length_append, l1, l4, List.length_append, List.length_take, List.length_drop, w3]
  omega

end

def E53t : List Ln → D := fun x => .own 49 tLn x
/-- A part is gone. -/
def F53t (N : Nat) (s : List Ln) (i j : Int) : Option (List Ln) := if 0 ≤ i ∧ i ≤ j ∧ j ≤ s.length then some (s.take i.toNat ++ s.drop j.toNat) else none

set_option maxRecDepth 100000 in
theorem P53t (N : Nat) (s : List Ln) (i j : Int) : ∀ r, F53t N s i j = some r → SpecT Tryd.prog 53 49 tLn s [.val tI i, .val tI j] (E53t r) := fun r h => by
  unfold F53t at h
  split at h
  · rename_i hc
    obtain ⟨h0, h1, h2⟩ := hc
    cases h
    obtain ⟨i, rfl⟩ : ∃ k : Nat, i = (k : Int) := ⟨i.toNat, by omega⟩
    obtain ⟨j, rfl⟩ : ∃ k : Nat, j = (k : Int) := ⟨j.toNat, by omega⟩
    rw [Int.toNat_natCast, Int.toNat_natCast]
    have hij : i ≤ j := by omega
    have hj : j ≤ s.length := by omega
    refine ⟨enter_of (fn := Tryd.f53) rfl rfl rfl, fun w v0 vs F G0 hF hgl hown hsz hargs => ?_⟩
    obtain ⟨vi, vj, rfl, hi1, hj1⟩ := two_more hsz hargs
    have hvi : vi = .int .i64 i := by have h : [vi] = [Value.int .i64 (i : Int)] := hi1; simpa using h
    have hvj : vj = .int .i64 j := by have h : [vj] = [Value.int .i64 (j : Int)] := hj1; simpa using h
    subst hvi
    subst hvj
    have hGF : ∀ g, G0 = some g → ¬F g := fun g hg => by
      rcases hown with ⟨_, h3, _⟩ | ⟨g', _, _, h3, h4, _⟩
      · rw [h3] at hg; cases hg
      · rw [h3] at hg; cases hg; exact h4.2
    have hnc : ∃ base c, v0 = .slice base s.length c ∧ s.length ≤ c ∧ c ≤ maxLen := by
      rcases hown with ⟨h3, _, A0, h4⟩ | ⟨g, cap, us, h3, _, h5, _, h7, h8, _⟩
      · exact ⟨A0, 0, by rw [h4, h3]; rfl, by rw [h3]; exact Nat.le_refl _, Nat.zero_le _⟩
      · exact ⟨_, cap, h5, h7, h8⟩
    obtain ⟨base, c, hv0, hnc1, hnc2⟩ := hnc
    have hc63 : c ≤ 9223372036854775807 := hnc2
    rcases Nat.lt_or_eq_of_le hij with hlt | rfl
    · rcases hown with ⟨h3, _⟩ | ⟨g, cap, us, hG0, hB, h5, h6, h7, h8, h9, h10⟩
      · rw [h3] at hj; simp at hj; omega
      · rw [h5] at hv0
        injection hv0 with e1 e2 e3
        subst e1; subst e3
        obtain ⟨q, hq, hqs, z, hz, hzs, hz1⟩ : ∃ q : TypeInfo, Tryd.prog.info? 49 = some q ∧ q.size = 3 ∧ ∃ z, q.zero = some z ∧ z.cells.size = 3 ∧ ∀ v ∈ z.cells, v.oneCell' = true :=
          ⟨_, rfl, by kernel_rfl, _, rfl, by kernel_rfl, fun v hv => by
            have : v ∈ [Value.int .i64 0, .string ⟨#[]⟩, .int .i64 0] := Array.mem_toList_iff.2 hv
            simp only [List.mem_cons, List.not_mem_nil, or_false] at this
            rcases this with rfl | rfl | rfl <;> rfl⟩
        have hus : us.size = cap * 3 := h9
        have hul : us.toList.length = cap * 3 := by rw [Array.length_toList]; exact hus
        have hle3 : s.length * 3 ≤ us.toList.length := by omega
        have hone : ∀ k v, k < s.length * 3 → us[k]? = some v → v.oneCell' = true := fun k v hk hv => by
          have hx : Holds w F tLn s (us.toList.take (s.length * 3)) := by have := holds_take h10 s.length; rwa [List.take_length] at this
          have := hx.one (by rw [List.length_take]; show _ = s.length * 3; omega)
          exact this v (List.mem_of_getElem? (i := k) (by rw [List.getElem?_take, if_pos hk]; simpa using hv))
        have hzo : ∀ v ∈ (Builtin.zeroCells z.cells (j - i)).toList, v.oneCell' = true := zero_one hz1 _
        have hzl : (Builtin.zeroCells z.cells (j - i)).toList.length = (j - i) * 3 := by rw [Array.length_toList, size_zeroCells, hzs]
        rw [h5]
        refine (del_some g s.length cap i j us hlt hj h7 hc63 hus h6 hone hq hqs hz hzs hzo).mono ?_
        rintro en w' ⟨rfl, rfl⟩
        obtain ⟨cs, hcs⟩ : ∃ cs, (us.toList.drop (j * 3)).take ((s.length - j) * 3) = cs := ⟨_, rfl⟩
        have hcl : cs.length = (s.length - j) * 3 := by rw [← hcs, List.length_take, List.length_drop]; omega
        obtain ⟨zs, hzs⟩ : ∃ zs, (Builtin.zeroCells z.cells (j - i)).toList = zs := ⟨_, rfl⟩
        rw [hzs] at hzl
        rw [hcs, hzs]
        have hl1 := patch_length (us := us.toList) (cs := cs) (a := i * 3) (by omega)
        have hl2 := patch_length (us := patch us.toList (i * 3) cs) (cs := zs) (a := (i + (s.length - j)) * 3) (by omega)
        obtain ⟨r, hr⟩ := patch_del (us := us.toList) (cs := cs) (zs := zs) (a := i * 3) (b := (i + (s.length - j)) * 3) (by omega) (by omega)
        obtain ⟨U2, hU2⟩ : ∃ U2, patch (patch us.toList (i * 3) cs) ((i + (s.length - j)) * 3) zs = U2 := ⟨_, rfl⟩
        rw [hU2] at hl2 hr ⊢
        have hU2l : U2.length = cap * 3 := by omega
        obtain ⟨U1, hU1⟩ : ∃ U1 : Array Value, (patch us.toList (i * 3) cs).toArray = U1 := ⟨_, rfl⟩
        rw [hU1, setRow_setRow]
        have hs : Same F w (w.drew.setRow g U2.toArray) := fun b hb => by rw [setRow_other w.drew g b _ (fun e => by subst e; exact hB.2 hb)]; rfl
        refine ⟨_, F, some g, rfl, ?_, fun _ z => z, fun k hk => ⟨by have := hF k hk; simpa using this, .inl hk⟩, fun k hk => ?_, .inr ⟨g, cap, U2.toArray, rfl, trivial, ?_, setRow_heap w.drew g us _ _ (0, 0) h6, ?_, h8, by show U2.toArray.size = cap * 3; simpa using hU2l, ?_⟩⟩
        · rw [hG0]; exact ⟨rfl, rfl, rfl, by simp, fun k _ hk => by rw [setRow_other w.drew g k _ (fun e => hk (by rw [e]))]; rfl⟩
        · cases hk; exact ⟨.inr hG0, hB.2, by simpa using hB.1⟩
        · congr 1; simp only [List.length_append, List.length_take, List.length_drop]; omega
        · simp only [List.length_append, List.length_take, List.length_drop]; omega
        · have h9 := (holds_del (w := w) (r := r) (us := us.toList) (by omega) hj h10 hle3).keep hs (fun _ z => z)
          rw [hcs, ← hr] at h9
          exact h9
    · -- nothing goes
      rw [hv0]
      refine (del_none base s.length c i hj hnc1 hc63).mono ?_
      rintro en w' ⟨rfl, rfl⟩
      rw [hv0] at hown
      refine ⟨_, F, G0, rfl, ⟨rfl, rfl, rfl, Nat.le_refl _, fun _ _ _ => rfl⟩, fun _ z => z, fun g hg => ⟨hF g hg, .inl hg⟩, fun g hg => ⟨.inr hg, hGF g hg, ?_⟩, ?_⟩
      · rcases hown with ⟨_, h3, _⟩ | ⟨g', _, _, h3, h4, _⟩
        · rw [h3] at hg; cases hg
        · rw [h3] at hg; cases hg; exact h4.1
      · show OwnR w' F (fun _ => True) G0 _ _ tLn _
        rw [List.take_append_drop]
        rcases hown with h3 | ⟨g', cap, us, h3, h4, h5⟩
        · exact .inl h3
        · exact .inr ⟨g', cap, us, h3, trivial, h5⟩
  · cases h

end Go.Proofs.YtncgafojgdemdaaDoor.Vc
