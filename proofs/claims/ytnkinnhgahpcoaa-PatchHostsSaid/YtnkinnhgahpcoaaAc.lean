/-
  slices.DeleteFunc at entries: what it does with a row of the caller's own. No condition.
-/
import Derived.Test.YtnkinnhgahpcoaaAb
import Derived.Test.YtnkinnhgahpcoaaCg
import Derived.Shelf.SlicesQ.IndexFunc
import Derived.Shelf.Lay
import Derived.Ground.SlgfProg
import Derived.Lib.SliceRun
set_option linter.unusedVariables false
set_option linter.unusedSimpArgs false
set_option maxRecDepth 100000
namespace Go.Proofs
open Go.Shelf
def Try.idxE_ren : Go.Shelf.Ren := ⟨fun | 6 => 44 | n => n, fun | 22 => 22 | 23 => 44 | 25 => 63 | 3 => 3 | 0 => 0 | 4 => 4 | n => n, fun | n => n⟩
theorem Try.idxE : Go.Proofs.SlLaysH0.n6 Try.prog Try.idxE_ren := {
  mixed := by kernel_rfl
  f6 := ⟨Try.f44.name, by decide, Try.func44.trans (congrArg some (by kernel_rfl))⟩
  t0 := Try.underlying0
  a0 := Try.isAgg0
  z0 := Try.sizeOf0
  v0 := Try.zeroValue0
  t3 := Try.underlying3
  a3 := Try.isAgg3
  z3 := Try.sizeOf3
  v3 := Try.zeroValue3
  t4 := Try.underlying4
  a4 := Try.isAgg4
  z4 := Try.sizeOf4
  v4 := Try.zeroValue4
  t22 := Try.underlying22
  a22 := Try.isAgg22
  z22 := Try.sizeOf22
  v22 := Try.zeroValue22
  t25 := Try.underlying63
  a25 := Try.isAgg63
  z25 := Try.sizeOf63
  v25 := Try.zeroValue63 }
end Go.Proofs
namespace Go.Proofs.Ytnkinnhgahpcoaa.Vc
open Go.RowKit Go.Proofs Go.Lib

/-- A row of entries, of which all else that was there is as it was. -/
structure RowE (w : World) (b cap n : Nat) (d : Nat → En) (W : World) : Prop where
  gr : w.grownBy W (some b)
  row : ∃ us : Array Value, W.heap[b]? = some (.cells us 44 (0, 0)) ∧ us.size = cap * 4 ∧ ∀ i, i < n → ∀ c v, (encE (d i))[c]? = some v → us.toList[i * 4 + c]? = some v

section
variable {w W : World} {b cap n : Nat} {d : Nat → En}
theorem RowE.drewN (h : RowE w b cap n d W) (q : Nat) : RowE w b cap n d (W.drewN q) := ⟨⟨h.gr.os, h.gr.tape, h.gr.output, h.gr.size, h.gr.block⟩, h.row⟩
theorem RowE.below (h : RowE w b cap n d W) (hb : b < w.heap.size) {W' : World} (hB : Below W.heap.size W W') : RowE w b cap n d W' := by
  obtain ⟨us, h1, h2, h3⟩ := h.row
  have hbW : b < W.heap.size := (Array.getElem?_eq_some_iff.1 h1).1
  exact ⟨⟨hB.os.trans h.gr.os, hB.tape.trans h.gr.tape, hB.output.trans h.gr.output, Nat.le_trans h.gr.size hB.size, fun k hk hne => (hB.block k (Nat.lt_of_lt_of_le hk h.gr.size)).trans (h.gr.block k hk hne)⟩, us, (hB.block b hbW).trans h1, h2, h3⟩
theorem RowE.cell (h : RowE w b cap n d W) {i : Nat} (hi : i < n) : W.cell? ⟨b, i * 4, none⟩ = some (.string ⟨(d i).1.toArray⟩) ∧ W.cell? ⟨b, i * 4 + 1, none⟩ = some (.int .i64 (d i).2.1) ∧
    W.cell? ⟨b, i * 4 + 2, none⟩ = some (.string ⟨(d i).2.2.1.toArray⟩) ∧ W.cell? ⟨b, i * 4 + 3, none⟩ = some (.string ⟨(d i).2.2.2.toArray⟩) := by
  obtain ⟨us, h1, h2, h3⟩ := h.row
  have hc : ∀ k, W.cell? ⟨b, k, none⟩ = us.toList[k]? := fun k => by simp [World.cell?, h1]
  refine ⟨?_, ?_, ?_, ?_⟩
  · rw [hc]; exact h3 i hi 0 _ rfl
  · rw [hc]; exact h3 i hi 1 _ rfl
  · rw [hc]; exact h3 i hi 2 _ rfl
  · rw [hc]; exact h3 i hi 3 _ rfl
theorem RowE.frozen (h : RowE w b cap n d W) (k : Nat) : W.frozen? ⟨b, k, none⟩ = false := by
  obtain ⟨us, h1, h2, h3⟩ := h.row
  simp [World.frozen?, h1]
end

theorem RowE.alloc {w W : World} {b cap n : Nat} {d : Nat → En} (h : RowE w b cap n d W) (o : Obj) : RowE w b cap n d (W.alloc o) := by
  obtain ⟨us, h1, h2, h3⟩ := h.row
  have hbW : b < W.heap.size := (Array.getElem?_eq_some_iff.1 h1).1
  exact ⟨⟨h.gr.os, h.gr.tape, h.gr.output, Nat.le_trans h.gr.size (by simp), fun k hk hne => (Below.heap_alloc W o k (Nat.lt_of_lt_of_le hk h.gr.size)).trans (h.gr.block k hk hne)⟩, us, (Below.heap_alloc W o b hbW).trans h1, h2, h3⟩
/-- Behind a call: a new block, and what was there. -/
theorem box_cell {W w' : World} {cs : Array Value} {e : TypeId} (h : Below (W.alloc (.cells cs e)).heap.size (W.alloc (.cells cs e)) w') (k : Nat) : w'.cell? ⟨W.heap.size, k, none⟩ = cs[k]? := by
  rw [World.cell?_of_block (a := ⟨W.heap.size, k, none⟩) (h.block _ (by simp))]
  have e1 : (W.alloc (.cells cs e)).heap[W.heap.size]? = some (.cells cs e (0, 0)) := by
    show (W.heap.push _)[W.heap.size]? = _
    rw [Array.getElem?_push, if_pos rfl]
  simp only [World.cell?, e1, Option.isSome_none, Bool.false_eq_true, if_false]
theorem old_cell {W w' : World} {o : Obj} (h : Below (W.alloc o).heap.size (W.alloc o) w') {b : Nat} (hb : b < W.heap.size) (k : Nat) : w'.cell? ⟨b, k, none⟩ = W.cell? ⟨b, k, none⟩ := by
  rw [World.cell?_of_block (a := ⟨b, k, none⟩) (h.block b (by simp; omega))]
  exact World.cell?_of_block (a := ⟨b, k, none⟩) (Below.heap_alloc W o b hb)
theorem old_frozen {W w' : World} {o : Obj} (h : Below (W.alloc o).heap.size (W.alloc o) w') {b : Nat} (hb : b < W.heap.size) (k : Nat) : w'.frozen? ⟨b, k, none⟩ = W.frozen? ⟨b, k, none⟩ := by
  rw [World.frozen?_of_block (a := ⟨b, k, none⟩) (h.block b (by simp; omega))]
  exact World.frozen?_of_block (a := ⟨b, k, none⟩) (Below.heap_alloc W o b hb)

theorem setCell_row {W : World} {b k : Nat} {us : Array Value} {e : TypeId} {fr : Nat × Nat} (h : W.heap[b]? = some (.cells us e fr)) (v : Value) : (W.setCell ⟨b, k, none⟩ v).heap[b]? = some (.cells (us.setIfInBounds k v) e fr) := by
  simp only [World.setCell, Array.getElem?_modify, if_true, h, Option.map_some, Option.isSome_none, Bool.false_eq_true, if_false]
/-- An element is put. -/
theorem RowE.set4 {w W : World} {b cap n i : Nat} {d : Nat → En} (h : RowE w b cap n d W) (hi : i < n) (hn : n ≤ cap) (x : En) :
    RowE w b cap n (fun t => if t = i then x else d t) ((((W.setCell ⟨b, i * 4, none⟩ (.string ⟨x.1.toArray⟩)).setCell ⟨b, i * 4 + 1, none⟩ (.int .i64 x.2.1)).setCell ⟨b, i * 4 + 2, none⟩ (.string ⟨x.2.2.1.toArray⟩)).setCell ⟨b, i * 4 + 3, none⟩ (.string ⟨x.2.2.2.toArray⟩)) := by
  obtain ⟨us, h1, h2, h3⟩ := h.row
  have hs : ∀ (W : World) k v, W.heap.size = (W.setCell ⟨b, k, none⟩ v).heap.size := fun W k v => by simp [World.setCell]
  refine ⟨⟨h.gr.os, h.gr.tape, h.gr.output, ?_, fun k hk hne => ?_⟩, _, setCell_row (setCell_row (setCell_row (setCell_row h1 _) _) _) _, by simp [h2], fun t ht c v hc => ?_⟩
  · rw [← hs, ← hs, ← hs, ← hs]; exact h.gr.size
  · have hkb : k ≠ b := fun e => hne (by rw [e])
    rw [Below.heap_setCell _ _ _ _ hkb, Below.heap_setCell _ _ _ _ hkb, Below.heap_setCell _ _ _ _ hkb, Below.heap_setCell _ _ _ _ hkb]
    exact h.gr.block k hk hne
  · obtain ⟨hc4, _⟩ := encE_get _ c v hc
    rw [Array.getElem?_toList]
    simp only [Array.getElem?_setIfInBounds, Array.size_setIfInBounds]
    by_cases e : t = i
    · subst e
      simp only [if_true] at hc
      have hu : t * 4 + 3 < us.size := by omega
      rcases (show c = 0 ∨ c = 1 ∨ c = 2 ∨ c = 3 by omega) with rfl | rfl | rfl | rfl
      · rw [if_neg (by omega), if_neg (by omega), if_neg (by omega), if_pos (show t * 4 = t * 4 + 0 by omega), if_pos (by omega)]; exact hc
      · rw [if_neg (by omega), if_neg (by omega), if_pos rfl, if_pos (by omega)]; exact hc
      · rw [if_neg (by omega), if_pos rfl, if_pos (by omega)]; exact hc
      · rw [if_pos rfl, if_pos (by omega)]; exact hc
    · rw [if_neg e] at hc
      rw [if_neg (by omega), if_neg (by omega), if_neg (by omega), if_neg (by omega), ← Array.getElem?_toList]
      exact h3 t ht c v hc
theorem run_clearE {P : Program} {w : World} (t ty elem : TypeId) (z : Value) (g o n c : Nat) (us : Array Value) (T : TypeId) (hu : P.underlying t = some (.slice elem)) (hz : P.info? elem >>= (·.zero) = some z) (hg : w.heap[g]? = some (.cells us T (0, 0))) (hn : 0 < n)
    (hfit : o + (Builtin.zeroCells z.cells n).size ≤ us.size) (h1 : ∀ v ∈ (Builtin.zeroCells z.cells n).toList, v.oneCell' = true) :
    (Builtin.clear_ #[t] ty #[.slice (some ⟨g, o, none⟩) n c]).run P w = .ok (.tuple #[]) (w.setRow g (us.toList.take o ++ (Builtin.zeroCells z.cells n).toList ++ us.toList.drop (o + (Builtin.zeroCells z.cells n).toList.length)).toArray) := by
  have hst := run_storeCells_at P g o T (Builtin.zeroCells z.cells n).toList 0 us w hg (by simpa using hfit) h1
  obtain ⟨k, rfl⟩ : ∃ k, n = k + 1 := ⟨n - 1, by omega⟩
  cases hq : P.info? elem with
  | none => simp [hq] at hz
  | some i =>
    have hi : i.zero = some z := by simpa [hq] using hz
    simp only [Nat.add_zero] at hst
    simp [Builtin.clear_, run_underlying hu, zeroValue, typeInfo, hq, hi, hst]
theorem zero_one {zs : Array Value} (h : ∀ v ∈ zs, v.oneCell' = true) (n : Nat) : ∀ v ∈ (Builtin.zeroCells zs n).toList, v.oneCell' = true := fun v hv => by
  rw [Array.mem_toList_iff] at hv
  unfold Builtin.zeroCells at hv
  obtain ⟨i, hi, rfl⟩ := Array.mem_map.1 hv
  rw [Array.mem_range] at hi
  have hp : 0 < zs.size := by
    rcases Nat.eq_zero_or_pos zs.size with h0 | h0
    · rw [h0] at hi; simp at hi
    · exact h0
  have hlt : i % zs.size < zs.size := Nat.mod_lt _ hp
  rw [getElem!_pos zs _ hlt]
  exact h _ (Array.getElem_mem hlt)
/-- What is behind is cleared. -/
theorem RowE.clear {w W : World} {b cap n i : Nat} {d : Nat → En} (h : RowE w b cap n d W) (hi : i < n) (hn : n ≤ cap) :
    ∃ W', (∀ ty, (Builtin.clear_ #[22] ty #[.slice (some ⟨b, i * 4, none⟩) (n - i) (cap - i)]).run Try.prog W = .ok (.tuple #[]) W') ∧ RowE w b cap i d W' := by
  obtain ⟨us, h1, h2, h3⟩ := h.row
  obtain ⟨q, hq, z, hz, hzs, hz1⟩ : ∃ q : TypeInfo, Try.prog.info? 44 = some q ∧ ∃ z, q.zero = some z ∧ z.cells.size = 4 ∧ ∀ v ∈ z.cells, v.oneCell' = true :=
    ⟨_, rfl, _, rfl, rfl, fun v hv => by
      have hv : v ∈ [Value.string ByteArray.empty, Value.int .i64 0, Value.string ByteArray.empty, Value.string ByteArray.empty] := Array.mem_def.1 hv
      simp only [List.mem_cons, List.not_mem_nil, or_false] at hv
      rcases hv with rfl | rfl | rfl | rfl <;> rfl⟩
  have hzl : (Builtin.zeroCells z.cells (n - i)).size = (n - i) * 4 := by rw [size_zeroCells, hzs]
  refine ⟨_, fun ty => run_clearE (w := W) 22 ty 44 z b (i * 4) (n - i) (cap - i) us 44 Try.underlying22 (by rw [hq]; exact hz) h1 (by omega) (by rw [hzl]; omega) (zero_one hz1 _), ⟨⟨h.gr.os, h.gr.tape, h.gr.output, by simpa using h.gr.size, fun k hk hne => ?_⟩, _, setRow_heap W b us _ _ _ h1, ?_, fun t ht c v hc => ?_⟩⟩
  · rw [setRow_other W b k _ (fun e => hne (by rw [e]))]
    exact h.gr.block k hk hne
  · simp only [List.size_toArray, List.length_append, List.length_take, List.length_drop, Array.length_toList, hzl]
    omega
  · obtain ⟨hc4, _⟩ := encE_get _ c v hc
    have := h3 t (by omega) c v hc
    have hul : us.toList.length = cap * 4 := by rw [Array.length_toList]; exact h2
    show (us.toList.take (i * 4) ++ _ ++ _)[t * 4 + c]? = _
    rw [List.append_assoc, List.getElem?_append_left (by rw [List.length_take]; omega), List.getElem?_take, if_pos (by omega)]
    exact this

theorem first_hit (p : En → Bool) : ∀ l : List En, (∀ j, j < l.length → p l[j]! = false) ∨ ∃ k, k < l.length ∧ p l[k]! = true ∧ ∀ j, j < k → p l[j]! = false
  | [] => .inl fun j hj => by simp at hj
  | x :: l => by
    cases h : p x with
    | true => exact .inr ⟨0, by simp, by simpa using h, fun j hj => by omega⟩
    | false =>
      rcases first_hit p l with h1 | ⟨k, k1, k2, k3⟩
      · refine .inl fun j hj => ?_
        cases j with
        | zero => simpa using h
        | succ j => simpa using h1 j (by simpa using hj)
      · refine .inr ⟨k + 1, by simpa using k1, by simpa using k2, fun j hj => ?_⟩
        cases j with
        | zero => simpa using h
        | succ j => simpa using k3 j (by omega)
theorem filter_all (p : En → Bool) (l : List En) (h : ∀ j, j < l.length → p l[j]! = false) : (l.filter fun x => !p x) = l := by
  rw [List.filter_eq_self]
  intro x hx
  obtain ⟨j, hj, rfl⟩ := List.getElem_of_mem hx
  have := h j hj
  rw [getElem!_pos l j hj] at this
  simp [this]

/-- What the loop keeps: the first j elements are told, i of them stay. -/
structure DInv (p : En → Bool) (l : List En) (i j : Nat) (d : Nat → En) : Prop where
  lt : i < j
  len : ((l.take j).filter fun x => !p x).length = i
  low : ∀ t, t < i → d t = ((l.take j).filter fun x => !p x)[t]!
  high : ∀ t, j ≤ t → d t = l[t]!
theorem DInv.start {p : En → Bool} {l : List En} {k : Nat} (hk : k < l.length) (h : p l[k]! = true) (hb : ∀ j, j < k → p l[j]! = false) : DInv p l k (k + 1) (fun t => l[t]!) := by
  have e : ((l.take (k + 1)).filter fun x => !p x) = l.take k := by
    rw [List.take_succ_eq_append_getElem hk, List.filter_append, filter_all p (l.take k) (fun j hj => by
      have hj' : j < k := by rw [List.length_take] at hj; omega
      have := hb j hj'
      rw [getElem!_pos l j (by omega)] at this
      rw [getElem!_pos (l.take k) j hj, List.getElem_take]; exact this)]
    rw [getElem!_pos l k hk] at h
    simp [h]
  refine ⟨by omega, by rw [e, List.length_take]; omega, fun t ht => ?_, fun t ht => rfl⟩
  rw [e, getElem!_pos (l.take k) t (by rw [List.length_take]; omega), List.getElem_take, getElem!_pos l t (by omega)]
theorem DInv.skip {p : En → Bool} {l : List En} {i j : Nat} {d : Nat → En} (h : DInv p l i j d) (hj : j < l.length) (hp : p l[j]! = true) : DInv p l i (j + 1) d := by
  have e : ((l.take (j + 1)).filter fun x => !p x) = (l.take j).filter fun x => !p x := by
    rw [List.take_succ_eq_append_getElem hj, List.filter_append]
    rw [getElem!_pos l j hj] at hp
    simp [hp]
  exact ⟨by have := h.lt; omega, by rw [e]; exact h.len, fun t ht => by rw [e]; exact h.low t ht, fun t ht => h.high t (by omega)⟩
theorem DInv.keep {p : En → Bool} {l : List En} {i j : Nat} {d : Nat → En} (h : DInv p l i j d) (hj : j < l.length) (hp : p l[j]! = false) : DInv p l (i + 1) (j + 1) (fun t => if t = i then l[j]! else d t) := by
  have e : ((l.take (j + 1)).filter fun x => !p x) = ((l.take j).filter fun x => !p x) ++ [l[j]!] := by
    rw [List.take_succ_eq_append_getElem hj, List.filter_append]
    rw [getElem!_pos l j hj] at hp ⊢
    simp [hp]
  refine ⟨by have := h.lt; omega, by rw [e, List.length_append, h.len]; rfl, fun t ht => ?_, fun t ht => ?_⟩
  · rw [e]
    by_cases hti : t = i
    · subst hti
      simp only [if_true]
      rw [getElem!_pos _ t (by rw [List.length_append, h.len]; simp), List.getElem_append_right (by rw [h.len]; exact Nat.le_refl _)]
      simp [h.len]
    · simp only [if_neg hti]
      have h1 : t < ((l.take j).filter fun x => !p x).length := by rw [h.len]; omega
      rw [h.low t (by omega), getElem!_pos _ t h1, getElem!_pos _ t (by rw [List.length_append]; omega), List.getElem_append_left h1]
  · have := h.lt
    simp only [if_neg (show t ≠ i by omega)]
    exact h.high t (by omega)

set_option maxHeartbeats 4000000 in
set_option maxRecDepth 1000000 in
theorem delFn_w (g : Nat) (cb : Array Value) (p : En → Bool) (eg : ∀ args w, (callFunc g args).run Try.prog w = .ok (.enter g args) w) (b cap : Nat) (d : List En) (w : World) (hb : b < w.heap.size) (hle : d.length ≤ cap) (hcap : cap ≤ 9223372036854775807)
    (hp : ∀ W (x : En), w.grownBy W (some b) → Calls Try.prog g (#[.agg (encE x).toArray] ++ cb) W fun e w' => e = .returned (.bool (p x)) ∧ Below W.heap.size W w')
    (hR : RowE w b cap d.length (fun i => d[i]!) w) :
    Calls Try.prog 32 #[.slice (some ⟨b, 0, none⟩) d.length cap, .func (.func g) #[] cb] w fun e w' =>
      e = .returned (.slice (some ⟨b, 0, none⟩) (d.filter fun x => !p x).length cap) ∧ RowE w b cap (d.filter fun x => !p x).length (fun i => (d.filter fun x => !p x)[i]!) w' := by
  have mixed := mixed
  have hI : Calls Try.prog 44 #[.slice (some ⟨b, 0, none⟩) d.length cap, .func (.func g) #[] cb] w fun e w' => e = .returned (.int .i64 (Lib.idxBy (fun _ y => p y) (d.take d.length) default)) ∧ Below w.heap.size w w' := by
    have hS := AnyQ.slices_IndexFunc (P := Try.prog) (ρ := Try.idxE_ren) Try.idxE 4 Try.isAgg44 Try.sizeOf44 encE encE_len p g cb eg b 0 d.length cap d w
      (fun W x hB => (hp W x ⟨hB.os, hB.tape, hB.output, hB.size, fun k hk _ => hB.block k hk⟩).mono fun e w' ⟨h1, h2⟩ => ⟨h1, hB.trans (h2.mono hB.size)⟩) (Nat.le_refl _) (by omega) hb (fun j hj i v hi => by
        obtain ⟨us, h1, h2, h3⟩ := hR.row
        simp only [World.cell?, h1, Nat.zero_add, Option.isSome_none, Bool.false_eq_true, if_false]
        rw [← Array.getElem?_toList]
        exact h3 j hj i v hi)
    change Calls Try.prog 44 _ _ _ at hS
    exact hS
  rcases first_hit p d with hall | ⟨k0, hk0, ht, hbefore⟩
  · rw [Lib.idxBy_miss (fun _ y => p y) d d.length default hall] at hI
    rw [filter_all p d hall]
    have HR : Aside _ := hR
    have HB : Aside _ := hb
    clear hp hR hall
    generalize d.length = n at *
    go_enter Try.func32, Try.ntmps32
    go_wp2_with (go_at_call 44; refine hI.mono ?_; rintro e w' ⟨rfl, hB2⟩)
    go_ret
    exact ⟨rfl, HR.out.below HB.out hB2⟩
  · rw [Lib.idxBy_hit (fun _ y => p y) d d.length k0 default hk0 (Nat.le_refl _) ht hbefore] at hI
    have D0 : Aside (DInv p d k0 (k0 + 1) (fun t => d[t]!)) := DInv.start hk0 ht hbefore
    have HR : Aside _ := hR
    have HB : Aside _ := hb
    have HP : Aside _ := hp
    obtain ⟨n, hn⟩ : ∃ n, d.length = n := ⟨_, rfl⟩
    have HN : Aside (d.length = n) := hn
    rw [hn] at hI hk0 hle
    rw [hn]
    clear hp hR ht hbefore hn
    have hne1 : ((k0 : Int) == -1) = false := beq_eq_false_iff_ne.2 (by omega)
    go_enter Try.func32, Try.ntmps32
    go_wp2_with (go_at_call 44; refine hI.mono ?_; rintro e w' ⟨rfl, hB2⟩)
    go_loopg [5, 6, 7] n (fun gg s3 s4 _ wr => ∃ (i j : Nat) (dk : Nat → En), s3 = .int .i64 i ∧ s4 = .int .i64 j ∧ j ≤ n ∧ n - j ≤ gg ∧ Aside (RowE w b cap n dk wr) ∧ Aside (DInv p d i j dk))
    case atStart => exact ⟨k0, k0 + 1, _, rfl, by go_num, by omega, by omega, HN.out ▸ HR.out.below HB.out hB2, D0⟩
    case round =>
      obtain ⟨i, j, dk, rfl, rfl, hjd, hgg, R2, I2⟩ := hrel
      by_cases hlt : j < n
      · have hltz : (j : Int) < (n : Int) := by omega
        have hij := I2.out.lt
        have hin : i < n := by omega
        have hiz : (i : Int) < (n : Int) := by omega
        obtain ⟨u0, u1, u2, u3⟩ := R2.out.cell hlt
        obtain ⟨o0, o1, o2, o3⟩ := R2.out.cell hin
        have hcall := HP.out (wr.alloc (.cells (encE (dk j)).toArray 44)) (dk j) (R2.out.alloc _).gr
        have hbW : b < wr.heap.size := by
          obtain ⟨us, h1, _⟩ := R2.out.row
          exact (Array.getElem?_eq_some_iff.1 h1).1
        have hdj := I2.out.high j (Nat.le_refl _)
        have DJ : Aside (dk j = d[j]!) := hdj
        clear hdj
        unfold encE at hcall
        have HQ : Aside (p (dk j) = p d[j]!) := congrArg p DJ.out
        generalize hx1 : (⟨(dk j).1.toArray⟩ : ByteArray) = x1 at u0 hcall
        generalize hxm : (dk j).2.1 = xm at u1 hcall
        generalize hx2 : (⟨(dk j).2.2.1.toArray⟩ : ByteArray) = x2 at u2 hcall
        generalize hx3 : (⟨(dk j).2.2.2.toArray⟩ : ByteArray) = x3 at u3 hcall
        generalize (⟨(dk i).1.toArray⟩ : ByteArray) = y1 at o0
        generalize (dk i).2.1 = ym at o1
        generalize (⟨(dk i).2.2.1.toArray⟩ : ByteArray) = y2 at o2
        generalize (⟨(dk i).2.2.2.toArray⟩ : ByteArray) = y3 at o3
        have RA : ∀ o, Aside (RowE w b cap n dk (wr.alloc o)) := fun o => R2.out.alloc o
        have hbA : Aside (b < wr.heap.size) := hbW
        have FZ : Aside (∀ k, wr.frozen? ⟨b, k, none⟩ = false) := R2.out.frozen
        clear hbW
        have HX : Aside ((⟨(dk j).1.toArray⟩ : ByteArray) = x1 ∧ (dk j).2.1 = xm ∧ (⟨(dk j).2.2.1.toArray⟩ : ByteArray) = x2 ∧ (⟨(dk j).2.2.2.toArray⟩ : ByteArray) = x3) := ⟨hx1, hxm, hx2, hx3⟩
        clear hx1 hxm hx2 hx3
        cases hq : p (dk j) with
        | true =>
          rw [hq] at hcall
          go_wp2_with (go_at_fn g; refine hcall.mono ?_; rintro e w' ⟨rfl, hB3⟩)
          go_roundg (n - (j + 1))
          case measure => omega
          case rel => exact ⟨i, j + 1, dk, rfl, by go_num, by omega, Nat.le_refl _, (RA _).out.below HB.out hB3, I2.out.skip (by rw [HN.out]; exact hlt) (by rw [← HQ.out, hq])⟩
        | false =>
          rw [hq] at hcall
          go_wp2_with (go_at_fn g; refine hcall.mono ?_; rintro e w' ⟨rfl, hB3⟩; have f0 := box_cell hB3 0; have f1 := box_cell hB3 1; have f2 := box_cell hB3 2; have f3 := box_cell hB3 3; have g0 := (old_cell hB3 hbA.out (i * 4)).trans o0; have g1 := (old_cell hB3 hbA.out (i * 4 + 1)).trans o1; have g2 := (old_cell hB3 hbA.out (i * 4 + 2)).trans o2; have g3 := (old_cell hB3 hbA.out (i * 4 + 3)).trans o3; have z0 := (old_frozen hB3 hbA.out (i * 4)).trans (FZ.out _); have z1 := (old_frozen hB3 hbA.out (i * 4 + 1)).trans (FZ.out _); have z2 := (old_frozen hB3 hbA.out (i * 4 + 2)).trans (FZ.out _); have z3 := (old_frozen hB3 hbA.out (i * 4 + 3)).trans (FZ.out _); have RB := (show Aside _ from (RA _).out.below HB.out hB3); clear hB3)
          go_roundg (n - (j + 1))
          case measure => omega
          case rel =>
            refine ⟨i + 1, j + 1, fun t => if t = i then d[j]! else dk t, by go_num, by go_num, by omega, Nat.le_refl _, ?_, I2.out.keep (by rw [HN.out]; exact hlt) (by rw [← HQ.out, hq])⟩
            obtain ⟨e1, e2, e3, e4⟩ := HX.out
            rw [← e1, ← e2, ← e3, ← e4]
            have := RB.out.set4 hin hle (dk j)
            rw [DJ.out] at this ⊢
            exact this
      · have hjn : j = n := by omega
        subst hjn
        have hltz : ¬ (j : Int) < (j : Int) := by omega
        have hij := I2.out.lt
        have hin : (i : Int) ≤ (j : Int) := by omega
        have hic : (j : Int) ≤ (cap : Int) := by omega
        have hii : (i : Int) ≤ (cap : Int) := by omega
        have hiN : i ≠ cap := by omega
        obtain ⟨W', hcl, RC⟩ := R2.out.clear hij hle
        have RD : Aside (RowE w b cap i dk W') := RC
        clear RC R2
        go_wp2
        go_ret
        have hlen := I2.out.len
        rw [List.take_of_length_le (by rw [HN.out]; exact Nat.le_refl _)] at hlen
        rw [hlen]
        refine ⟨rfl, RD.out.gr, ?_⟩
        obtain ⟨us, h1, h2, h3⟩ := RD.out.row
        refine ⟨us, h1, h2, fun t ht c v hc => h3 t ht c v ?_⟩
        have := I2.out.low t ht
        rw [List.take_of_length_le (by rw [HN.out]; exact Nat.le_refl _)] at this
        rw [this, List.getElem!_eq_getElem?_getD]; exact hc

end Go.Proofs.Ytnkinnhgahpcoaa.Vc
