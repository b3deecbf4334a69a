/-
  (*strings.Builder).String, of a builder that holds a byte, with the exact frame: one block is frozen, all others stand. After the shelf's own walk. No condition: it holds over any program that bears the function.
  strings.Builder: copyCheck, walked; String, from the shelf's contract. No condition.
-/
import Derived.Test.YtmohgkoomnihfaaVc
import Derived.Shelf.Strings.Builder1
import Derived.Test.YtmohgkoomnihfaaVp
import Derived.Test.YtmohgkoomnihfaaSh
set_option linter.unusedVariables false
set_option linter.unusedSimpArgs false
set_option maxRecDepth 100000
namespace Go.Proofs.Ytmohgkoomnihfaa.Vc

section
open Go.Shelf Go.RowKit Go.Proofs

theorem belX_freeze (w : World) (g n : Nat) : BelX w (fun k => k = g) (w.drew.freeze ⟨g, 0, none⟩ n) := by
  unfold World.freeze
  split
  · exact ⟨rfl, rfl, rfl, Nat.le_refl _, fun _ _ _ => rfl⟩
  · refine ⟨rfl, rfl, rfl, by simp, fun k _ hk => ?_⟩
    simp only [Array.getElem?_modify]
    rw [if_neg (fun e => hk e.symm)]
    rfl

section
variable {P : Program} {ρ : Ren}

set_option maxHeartbeats 2000000 in
set_option maxRecDepth 100000 in
theorem bs_full (L : Lays.n169 P ρ) (X : Builder.Extra P ρ) (b g cap : Nat) (cur : Array Value) (p : Value) (l : List UInt8) (w : World) (hbk : w.heap[b]? = some (.cells #[p, .slice (some ⟨g, 0, none⟩) l.length cap] (ρ.t 72) (0, 0)))
    (hg : w.heap[g]? = some (.cells cur (ρ.t 5) (0, 0))) (hnc : l.length ≤ cap) (hcm : cap ≤ maxLen) (hcs : cur.size = cap) (htake : cur.toList.take l.length = Lib.byteCells l) (h0 : l ≠ []) :
    Calls P (ρ.f 169) #[.pointer (some ⟨b, 0, none⟩)] w fun e w' => e = .returned (.string ⟨l.toArray⟩) ∧ BelX w (fun k => k = g) w' := by
  have hl0 : l.length ≠ 0 := by simpa using h0
  have hlen : (Lib.byteCells l).length = l.length := Lib.byteCells_length l
  have c1 : w.drew.cell? ⟨b, 1, none⟩ = some (.slice (some ⟨g, 0, none⟩) l.length cap) := by
    have : w.drew.heap[b]? = some (.cells #[p, .slice (some ⟨g, 0, none⟩) l.length cap] (ρ.t 72) (0, 0)) := hbk
    rw [Lib.cell_of_heap this]; rfl
  have hSD : (Builtin.unsafeSliceData_ #[(ρ.t 37)] (ρ.t 127) #[.slice (some ⟨g, 0, none⟩) l.length cap]).run P w.drew = .ok (.pointer (some ⟨g, 0, none⟩)) w.drew :=
    Lib.run_unsafeSliceData_row _ _ _ _ _ _ (by omega)
  have hUS : (Builtin.unsafeString_ #[(ρ.t 127), (ρ.t 3)] (ρ.t 9) #[.pointer (some ⟨g, 0, none⟩), .int .i64 l.length]).run P w.drew = .ok (.string ⟨l.toArray⟩) (w.drew.freeze ⟨g, 0, none⟩ l.length) := by
    refine Lib.run_unsafeString_row w.drew (ρ.t 127) (ρ.t 3) (ρ.t 9) (ρ.t 5) L.t127 X.cellsByte g cur.size (by have hg' : w.drew.heap[g]? = some (.cells cur (ρ.t 5) (0, 0)) := hg; simp [World.shape?, hg']) l h0 (by omega) (by unfold maxLen at hcm; omega) ?_
    intro j x hx
    have hg' : w.drew.heap[g]? = some (.cells cur (ρ.t 5) (0, 0)) := hg
    rw [show (⟨g, 0, none⟩ : Addr).add j = ⟨g, j, none⟩ by simp [Addr.add_lit], Lib.cell_of_heap hg']
    have hj : (Lib.byteCells l)[j]? = some (.int .u8 x.toNat) := by simp [Lib.byteCells, hx]
    rw [← htake, List.getElem?_take] at hj
    split at hj
    · simpa using hj
    · cases hj
  have mixed := L.mixed
  have t72 := L.t72; have a72 := L.a72; have z72 := L.z72; have v72 := L.v72; have u72 := run_underlying L.t72
  have t70 := L.t70; have a70 := L.a70; have z70 := L.z70; have v70 := L.v70; have u70 := run_underlying L.t70
  have t37 := L.t37; have a37 := L.a37; have z37 := L.z37; have v37 := L.v37; have u37 := run_underlying L.t37
  have t127 := L.t127; have a127 := L.a127; have z127 := L.z127; have v127 := L.v127; have u127 := run_underlying L.t127
  have t3 := L.t3; have a3 := L.a3; have z3 := L.z3; have v3 := L.v3; have u3 := run_underlying L.t3
  have t9 := L.t9; have a9 := L.a9; have z9 := L.z9; have v9 := L.v9; have u9 := run_underlying L.t9
  have t5 := X.t5; have a5 := X.a5; have z5 := X.z5; have v5 := X.v5; have u5 := run_underlying X.t5
  go_enter L.f169, Body.n169_ntmps ρ
  go_wp2
  go_region_o
  all_goals (go_wp2; go_ret; exact ⟨rfl, belX_freeze w g _⟩)

end
end

section
open Go.RowKit Go.Proofs

theorem cc_used (b : Nat) (w : World) (h0 : w.cell? ⟨b, 0, none⟩ = some (.pointer (some ⟨b, 0, none⟩))) :
    Calls Try.prog 58 #[.pointer (some ⟨b, 0, none⟩)] w fun e w' => e = .returned (.tuple #[]) ∧ w' = w := by
  obtain ⟨j, hj, _⟩ := Option.map_eq_some_iff.1 Try.Builder_Extra_169.sizeBuilder
  go_enter Try.func58, Try.ntmps58
  go_wp2
  rw [Lib.run_neq_ptr_same w _ Try.underlying68 hj]
  go_wp2
  go_end0
  exact ⟨rfl, rfl⟩

theorem cc_fresh (b : Nat) (w : World) (h0 : w.cell? ⟨b, 0, none⟩ = some (.pointer none)) (hsh : w.shape? b = some (71, 2)) (hfz : w.frozen? ⟨b, 0, none⟩ = false) :
    Calls Try.prog 58 #[.pointer (some ⟨b, 0, none⟩)] w fun e w' => e = .returned (.tuple #[]) ∧ w' = w.setCell ⟨b, 0, none⟩ (.pointer (some ⟨b, 0, none⟩)) := by
  obtain ⟨j, hj, hjs⟩ := Option.map_eq_some_iff.1 Try.Builder_Extra_169.sizeBuilder
  go_enter Try.func58, Try.ntmps58
  go_wp2
  rw [Lib.run_to_unsafe w ⟨b, 0, none⟩ Try.underlying68 Try.underlying110 hj (by rw [hjs]; decide) hsh (Nat.zero_lt_succ 1)]
  simp only [Result.andThen]
  rw [Oper.upon_value]
  go_wp2
  rw [run_callFunc_extern Try.func74 (by kernel_rfl) (by kernel_rfl) (by kernel_rfl) (e := Extern.AbiNoEscape.same) (by kernel_rfl)]
  rw [Lib.run_noEscape]
  simp only [Result.andThen]
  rw [Oper.upon_value]
  go_wp2
  rw [Lib.run_from_unsafe w ⟨b, 0, none⟩ Try.underlying110 Try.underlying68 hj hsh Try.Builder_Extra_169.liesBuilder]
  simp only [Result.andThen]
  rw [Oper.upon_value]
  go_wp2
  go_end0
  exact ⟨rfl, rfl⟩

/-! ### A builder's two cells -/

theorem bld_cells {w : World} {F B : Nat → Prop} {b : Nat} {T e : TypeId} {x : Bool × List Int} {ms : Nat → Option MO} {us : Array Value} (h : GrsR w F B b ms 0 [.slf, .row e (.int .u8)] x us.toList) :
    ∃ p mo, us = #[p, mo.v] ∧ (p = .pointer none ∨ p = .pointer (some ⟨b, 0, none⟩)) ∧ ms 1 = some mo ∧ mo.k = 1 ∧ OwnR w F B mo.g mo.v e (.int .u8) x.2 := by
  obtain ⟨u1, u2, h1, h2, h3⟩ := h
  obtain ⟨mo, h4, rfl, h5, h6⟩ := h3
  have hp : ∃ p, u1 = [p] ∧ (p = .pointer none ∨ p = .pointer (some ⟨b, 0, none⟩)) := by
    rcases h2 with h2 | h2
    · exact ⟨_, h2, .inl rfl⟩
    · exact ⟨_, h2, .inr rfl⟩
  obtain ⟨p, rfl, hp⟩ := hp
  exact ⟨p, mo, Array.toList_inj.1 (by simpa using h1), hp, h4, h5, h6⟩

theorem bld_mk {w : World} {F B : Nat → Prop} {b : Nat} {e : TypeId} {x : Bool × List Int} {ms : Nat → Option MO} {p : Value} {mo : MO} (hp : p = .pointer none ∨ p = .pointer (some ⟨b, 0, none⟩)) (hm : ms 1 = some mo) (hk : mo.k = 1)
    (ho : OwnR w F B mo.g mo.v e (.int .u8) x.2) : GrsR w F B b ms 0 [.slf, .row e (.int .u8)] x (#[p, mo.v] : Array Value).toList :=
  ⟨[p], [mo.v], rfl, hp.imp (fun h => by rw [h]) (fun h => by rw [h]), mo, hm, rfl, hk, ho⟩

theorem cc_G {e : TypeId} (x : Bool × List Int) : SpecG Try.prog 58 71 [.slf, .row e (.int .u8)] x [] x (.tup []) := by
  refine ⟨enter_of (fn := Try.f58) rfl rfl rfl, fun w b vs F ms hF hgl hX hG hsz hargs => ?_⟩
  have hvs : vs = #[] := Array.eq_empty_of_size_eq_zero hsz
  subst hvs
  obtain ⟨us, hus, hgr⟩ := hG.cells
  obtain ⟨p, mo, rfl, hp, hm, hk, ho⟩ := bld_cells (T := 0) hgr
  have hret : ∀ (w' : World) F2 M2, R w' F2 M2 (.tuple #[]) (.tup []) := fun w' F2 M2 => ⟨#[], rfl, rfl, fun j d hj => by simp at hj⟩
  rcases hp with rfl | rfl
  · refine (cc_fresh b w (by rw [Lib.cell_of_heap hus]; rfl) (by simp [World.shape?, hus]) (by simp [World.frozen?, hus])).mono ?_
    rintro en w' ⟨rfl, rfl⟩
    have hsz' : (w.setCell ⟨b, 0, none⟩ (.pointer (some ⟨b, 0, none⟩))).heap.size = w.heap.size := by simp [World.setCell]
    have hoth : ∀ k, k ≠ b → (w.setCell ⟨b, 0, none⟩ (.pointer (some ⟨b, 0, none⟩))).heap[k]? = w.heap[k]? := fun k hk => Below.heap_setCell _ _ _ _ hk
    have hb := Joins.block_setCell (i := 0) hus (.pointer (some ⟨b, 0, none⟩))
    refine ⟨_, F, ms, rfl, ⟨rfl, rfl, rfl, by rw [hsz']; exact Nat.le_refl _, fun k _ hx => hoth k fun e => hx (.inl e)⟩, fun _ z => z, fun g hg => ⟨by rw [hsz']; exact hF g hg, .inl hg⟩, fun g hg => ⟨(hX g hg).1, by rw [hsz']; exact (hX g hg).2, .inl hg⟩,
      ⟨⟨_, hb, bld_mk (.inr rfl) hm hk (ho.keep (fun g hg => hoth g fun e => (hX b (.inl rfl)).1 (e ▸ hg)) (fun _ z => z) fun g hg => hoth g fun e => hG.off 1 mo hm (e ▸ hg))⟩, hG.apart, hG.off⟩, hret _⟩
  · refine (cc_used b w (by rw [Lib.cell_of_heap hus]; rfl)).mono ?_
    rintro en w' ⟨rfl, rfl⟩
    exact ⟨_, F, ms, rfl, ⟨rfl, rfl, rfl, Nat.le_refl _, fun _ _ _ => rfl⟩, fun _ z => z, fun g hg => ⟨hF g hg, .inl hg⟩, fun g hg => ⟨(hX g hg).1, (hX g hg).2, .inl hg⟩, hG, hret _⟩

def E58g : Bool × List Int → D := fun _ => .tup []
/-- It changes nothing that data tell. -/
def F58g (N : Nat) (x : Bool × List Int) : Option (Bool × List Int) := some x
theorem P58g (N : Nat) (x : Bool × List Int) : ∀ r, F58g N x = some r → SpecG Try.prog 58 71 [.slf, .row 5 (.int .u8)] x [] r (E58g r) := fun r h => by
  cases h
  exact cc_G x

/-- A buffer is a row, and a row that is not empty a buffer. -/
theorem SpecG_buf {P : Program} {f : FuncId} {T e : TypeId} {x y : Bool × List Int} {ds : List D} {d : D} (h : SpecG P f T [.slf, .row e (.int .u8)] x ds y d) (hy : y.2 ≠ []) : SpecG P f T [.slf, .buf e] x ds y d := by
  refine ⟨h.1, fun w b vs F ms hF hgl hX hG hsz hargs => ?_⟩
  have hG' : GrR w F (fun _ => True) b T [.slf, .row e (.int .u8)] x ms := by
    refine ⟨?_, hG.apart, hG.off⟩
    obtain ⟨us, hus, u1, u2, h1, h2, mo, h4, h5, h6, h7, _⟩ := hG.cells
    exact ⟨us, hus, u1, u2, h1, h2, mo, h4, h5, h6, h7⟩
  refine (h.2 w b vs F ms hF hgl hX hG' hsz hargs).mono ?_
  rintro en w' ⟨v, F', ms', he, hbel, hFF, hlt, hX', hG2, hr⟩
  refine ⟨v, F', ms', he, hbel, hFF, hlt, hX', ⟨?_, hG2.apart, hG2.off⟩, hr⟩
  obtain ⟨us, hus, u1, u2, h1, h2, mo, h4, h5, h6, h7⟩ := hG2.cells
  refine ⟨us, hus, u1, u2, h1, h2, mo, h4, h5, h6, h7, fun hg => ?_⟩
  rcases h7 with ⟨h8, _⟩ | ⟨g, _, _, h8, _⟩
  · exact absurd h8 hy
  · rw [hg] at h8; cases h8

/-! ### String -/

theorem bytes_take {w : World} {F : Nat → Prop} {xs : List Int} {us : Array Value} (hh : Holds w F (.int .u8) xs us.toList) (hx : ∀ n ∈ xs, 0 ≤ n ∧ n < 256) (hl : xs.length ≤ us.size) : us.toList.take xs.length = Lib.byteCells (strOf xs) := by
  apply List.ext_getElem?
  intro i
  unfold Lib.byteCells strOf
  rw [List.map_map, List.getElem?_map, List.getElem?_take]
  by_cases hi : i < xs.length
  · rw [if_pos hi, List.getElem?_eq_getElem hi]
    have h1 : (us.toList.drop (i * 1)).take 1 = [Value.int .u8 xs[i]] := hh i xs[i] (List.getElem?_eq_getElem hi)
    have hlt : i < us.toList.length := by simp; omega
    rw [Nat.mul_one, List.drop_eq_getElem_cons hlt] at h1
    have h2 : us.toList[i] = Value.int .u8 xs[i] := by simpa using h1
    rw [List.getElem?_eq_getElem hlt, h2]
    obtain ⟨h3, h4⟩ := hx xs[i] (List.getElem_mem hi)
    simp only [Option.map_some, Function.comp, Option.some.injEq, Value.int.injEq, true_and]
    rw [UInt8.toNat_ofNat']
    omega
  · rw [if_neg hi, List.getElem?_eq_none (by omega)]
    rfl

def E38 : List UInt8 → D := fun x => encV tS x
/-- The bytes, as a text. -/
def F38k (N : Nat) (x : Bool × List Int) : Option (List UInt8) := if x.2.all (fun n => decide (0 ≤ n ∧ n < 256)) = true then some (strOf x.2) else none

theorem P38k (N : Nat) (x : Bool × List Int) : ∀ r, F38k N x = some r → SpecK Try.prog 38 71 [.slf, .buf 5] x [] (E38 r) := fun r h => by
  unfold F38k at h
  split at h
  · rename_i hall
    cases h
    have hx : ∀ n ∈ x.2, 0 ≤ n ∧ n < 256 := fun n hn => by simpa using List.all_eq_true.1 hall n hn
    refine ⟨enter_of (fn := Try.f38) rfl rfl rfl, fun w b vs F ms hF hgl hX hG hsz hargs => ?_⟩
    have hvs : vs = #[] := Array.eq_empty_of_size_eq_zero hsz
    subst hvs
    obtain ⟨us, hus, u1, u2, h1, h2, mo, h4, rfl, h6, h7, hex⟩ := hG.cells
    have hp : ∃ p, us = #[p, mo.v] := by
      rcases h2 with rfl | rfl
      · exact ⟨_, Array.toList_inj.1 (by simpa using h1)⟩
      · exact ⟨_, Array.toList_inj.1 (by simpa using h1)⟩
    obtain ⟨p, rfl⟩ := hp
    have hret : ∀ (s : List UInt8) (w' : World) F2 M2, R w' F2 M2 (.string ⟨s.toArray⟩) (encV tS s) := fun s w' F2 M2 => ⟨_, rfl, by simp⟩
    have hbelow : ∀ {w' : World}, Below w.heap.size w w' → BelX w (grX b ms) w' := fun hb => ⟨hb.os, hb.tape, hb.output, hb.size, fun k hk _ => hb.block k hk⟩
    rcases h7 with ⟨h8, h9, _⟩ | ⟨g, cap, us', h8, _, h10, h11, h12, h13, h14, h15⟩
    · have hv := hex h9
      rw [hv] at hus
      refine (Any.Builder_String_nil Try.lays169 Try.Builder_Extra_169 w.heap.size b p w hus).mono ?_
      rintro en w' ⟨rfl, hb⟩
      rw [h8]
      exact ⟨_, rfl, hbelow hb, hret [] _⟩
    · rw [h10] at hus
      by_cases hne : x.2 = []
      · rw [hne] at hus ⊢
        simp only [List.length_nil] at hus
        by_cases hc0 : cap = 0
        · subst hc0
          refine (Any.Builder_String_noroom Try.lays169 Try.Builder_Extra_169 w.heap.size b g p us' w (Nat.le_refl _) hus h11).mono ?_
          rintro en w' ⟨rfl, hb⟩
          exact ⟨_, rfl, hbelow hb, hret [] _⟩
        · refine (Any.Builder_String_room Try.lays169 Try.Builder_Extra_169 w.heap.size b g cap p w hc0 hus).mono ?_
          rintro en w' ⟨rfl, hb⟩
          exact ⟨_, rfl, hbelow hb, hret [] _⟩
      · have hsl : (strOf x.2).length = x.2.length := by unfold strOf; rw [List.length_map]
        have hw : us'.size = cap := by rw [h14]; simp [Ty.width]
        refine (bs_full Try.lays169 Try.Builder_Extra_169 b g cap us' p (strOf x.2) w (by rw [hsl]; exact hus) h11 (by rw [hsl]; exact h12) h13 hw (by rw [hsl]; exact bytes_take h15 hx (by rw [hw]; exact h12)) (fun e => hne (List.eq_nil_of_length_eq_zero (by rw [← hsl, e]; rfl)))).mono ?_
        rintro en w' ⟨rfl, hb⟩
        exact ⟨_, rfl, ⟨hb.os, hb.tape, hb.output, hb.size, fun k hk hx => hb.block k hk fun e => hx (.inr ⟨1, mo, h4, by rw [h8, e]⟩)⟩, hret _ _⟩
  · cases h
end

end Go.Proofs.Ytmohgkoomnihfaa.Vc
