/-
  slices.Grow at entries, of nothing: a row of the call's own. No condition.
-/
import Derived.Test.YtnkinnhgahpcoaaAe
import Derived.Lib.AppendZerosOnto
set_option linter.unusedVariables false
set_option linter.unusedSimpArgs false
set_option maxRecDepth 100000
namespace Go.Proofs.Ytnkinnhgahpcoaa.Vc
open Go.RowKit Go.Proofs Go.Lib

theorem wp_appE {P : Program} {w : World} {o : Oper} {a : Act} {K : Act → World → Prop} {Q : Exit → Act → World → Prop} (d s : Operand) (t t' : TypeId) (ho : o.op = .call { callee := .builtin .append, args := #[d, s], argTypes := #[t, t'] }) (v u : Value) (hd : a.eval d = v) (hs : a.eval s = u)
    {v' : Value} {w' : World} (hr : (Builtin.append_ #[t, t'] o.type #[v, u]).run P w = .ok v' w') (h : K (a.put o.dst v') w') : o.wp P a w K Q := by
  have : (execOp a.eval o).run P w = .ok (.value v') w' := by
    unfold execOp
    rw [ho]
    simp only [resolve, invoke, builtin, Sem.run_bind, Sem.run_pure, Result.andThen_ok, List.map_toArray, List.map_cons, List.map_nil, hd, hs, hr]
  unfold Oper.wp
  rw [this]
  exact h
theorem wpl_appE {P : Program} {w : World} {ops : Array Oper} {rest : List Oper} {o : Oper} {a : Act} {Q : Exit → Act → World → Prop} (hgd : o.guard = none) (d s : Operand) (t t' : TypeId) (ho : o.op = .call { callee := .builtin .append, args := #[d, s], argTypes := #[t, t'] }) (v u : Value) (hd : a.eval d = v) (hs : a.eval s = u)
    {v' : Value} {w' : World} (hr : (Builtin.append_ #[t, t'] o.type #[v, u]).run P w = .ok v' w') (h : wpList P ops Q rest (a.put o.dst v') w') : wpList P ops Q (o :: rest) a w :=
  wpList_plain hgd fun _ hK => wp_appE d s t t' ho v u hd hs hr (hK _ _ h)

set_option maxHeartbeats 4000000 in
theorem grow_zero (A : Option Addr) (w : World) : Calls Try.prog 41 #[.slice A 0 0, .int .i64 0] w fun e w' => e = .returned (.slice A 0 0) ∧ w' = w := by
  have mixed := mixed
  cases A with
  | none =>
    go_enter Try.func41, Try.ntmps41
    go_wp2
    go_ret
    exact ⟨rfl, rfl⟩
  | some a =>
    go_enter Try.func41, Try.ntmps41
    go_wp2
    go_ret
    exact ⟨rfl, rfl⟩
set_option maxHeartbeats 4000000 in
theorem grow_some (A : Option Addr) (n : Nat) (h0 : 0 < n) (h1 : n ≤ 1000000) (w : World) : Calls Try.prog 41 #[.slice A 0 0, .int .i64 n] w fun e w' =>
    ∃ (G : Nat) (us : Array Value), e = .returned (.slice (some ⟨w.heap.size, 0, none⟩) 0 G) ∧ G ≤ maxLen ∧ us.size = G * 4 ∧ w' = w.drew.alloc (.cells us 44) := by
  have mixed := mixed
  obtain ⟨q, hq, hqs, hqb, z, hz, hzs⟩ : ∃ q : TypeInfo, Try.prog.info? 44 = some q ∧ q.size = 4 ∧ q.bytes = 56 ∧ ∃ z, q.zero = some z ∧ z.cells.size = 4 :=
    ⟨_, rfl, by kernel_rfl, by kernel_rfl, _, rfl, by kernel_rfl⟩
  have hold : (Builtin.firstCells q.size 0 (.slice A 0 0)).run Try.prog w.drew = .ok ([] : List Value).toArray w.drew := by
    rw [hqs]
    cases A with
    | none => exact run_firstCells_none _ _ _ _ _
    | some a => exact run_firstCells_some w.drew 4 0 a 0 0 [] rfl (fun j v hj => by simp at hj)
  obtain ⟨G, hG⟩ : ∃ G, G = grownCap w n 0 44 := ⟨_, rfl⟩
  obtain ⟨U0, hU0⟩ : ∃ U0 : Array Value, U0 = ([] : List Value).toArray ++ Builtin.zeroCells z.cells n ++ Builtin.zeroCells z.cells (G - n) := ⟨_, rfl⟩
  have hGn : n ≤ G := by rw [hG]; exact grownCap_ge w _ _ _
  have hGm : G ≤ maxLen := by rw [hG]; exact grownCap_le_maxLen w n 0 44 (by unfold maxLen; omega)
  have hU0s : U0.size = G * 4 := by
    rw [hU0]
    simp only [Array.size_append, List.size_toArray, List.length_nil, size_zeroCells, hzs]
    omega
  have hrz : ∀ ty, (Builtin.append_ #[22, 3] ty #[.slice A 0 0, .int .i64 (n : Int)]).run Try.prog w = .ok (.slice (some ⟨w.heap.size, 0, none⟩) n G) (w.drew.alloc (.cells U0 44)) := fun ty => by
    have h := Lib.run_append_grow_zeros w 22 3 ty 44 q z .i64 .i64 Try.underlying22 Try.underlying3 hq hz A 0 0 [] hold n h0 (by omega) (by omega) (by omega) (by rw [hqb]; omega) (by rw [hqb, Nat.zero_add]; exact growslice_fits h0 (by omega))
    rw [Nat.zero_add] at h
    rw [hU0, hG]
    exact h
  have hpos : (0 : Int) < (n : Int) := by omega
  have hnn : ¬ (n : Int) < 0 := by omega
  have hrest : Aside (U0.size = G * 4 ∧ G ≤ maxLen) := ⟨hU0s, hGm⟩
  have hG63 : G ≤ 9223372036854775807 := hGm
  have hw1 : IntKind.i64.wrap (n : Int) = n := by rw [IntKind.wrap_i64]; omega
  clear hU0 hU0s hG hold hzs hz hqb hqs hq
  cases A with
  | none =>
    go_enter Try.func41, Try.ntmps41
    go_wp2_with (at_builtin; refine wpl_appE rfl _ _ 22 3 rfl _ _ rfl rfl (hrz _) ?_)
    go_ret
    exact ⟨G, rfl, hrest.out.2, U0, hrest.out.1, rfl⟩
  | some a =>
    obtain ⟨ab, ao, asp⟩ := a
    go_enter Try.func41, Try.ntmps41
    go_wp2_with (at_builtin; refine wpl_appE rfl _ _ 22 3 rfl _ _ rfl rfl (hrz _) ?_)
    go_ret
    exact ⟨G, rfl, hrest.out.2, U0, hrest.out.1, rfl⟩

def E41o : List En → D := fun x => .own 44 tEn x
def F41on (_ : Nat) (n : Int) : Option (List En) := if 0 ≤ n ∧ n ≤ 1000000 then some [] else none
theorem P41on (N : Nat) (n : Int) : ∀ r, F41on N n = some r → Spec Try.prog 41 [.nils, .val tI n] (E41o r) := fun r h => by
  unfold F41on at h
  split at h
  · rename_i hc
    cases h
    refine ⟨enter_of (fn := Try.f41) rfl rfl rfl, fun W vs F hF hgl hsz hargs => ?_⟩
    obtain ⟨v, u, rfl, hv, hu⟩ := two_args (hsz := hsz) hargs
    obtain ⟨A, rfl⟩ : ∃ A, v = .slice A 0 0 := hv
    have hu : [u] = [Value.int .i64 n] := hu
    have : u = .int .i64 n := by simpa using hu
    subst this
    obtain ⟨k, rfl⟩ := Int.eq_ofNat_of_zero_le hc.1
    rcases Nat.eq_zero_or_pos k with h0 | h0
    · subst h0
      refine (grow_zero A W).mono ?_
      rintro en w' ⟨rfl, rfl⟩
      exact ⟨_, F, none, rfl, Below.refl _ _, fun _ h => h, fun g hg => ⟨hF g hg, .inl hg⟩, fun g hg => (by cases hg), .inl ⟨rfl, rfl, A, rfl⟩⟩
    · refine (grow_some A k h0 (by omega) W).mono ?_
      rintro en w' ⟨G, us, rfl, g1, g2, rfl⟩
      have hb : Below W.heap.size W (W.drew.alloc (.cells us 44)) := (Below.refl _ W).drew.alloc (Nat.le_refl _) _
      have hn : (W.drew.alloc (.cells us 44)).heap[W.heap.size]? = some (.cells us 44 (0, 0)) := by
        show (W.heap.push _)[W.heap.size]? = _
        rw [Array.getElem?_push, if_pos rfl]
      refine ⟨_, F, some W.heap.size, rfl, hb, fun _ h => h, fun g hg => ⟨Nat.lt_of_lt_of_le (hF g hg) hb.size, .inl hg⟩, fun g hg => ?_, .inr ⟨W.heap.size, G, us, rfl, Nat.le_refl _, rfl, hn, Nat.zero_le _, g1, g2, fun i x hx => by simp at hx⟩⟩
      cases hg
      exact ⟨Nat.le_refl _, fun h => Nat.lt_irrefl _ (hF _ h), (Array.getElem?_eq_some_iff.1 hn).1⟩
  · cases h

end Go.Proofs.Ytnkinnhgahpcoaa.Vc
