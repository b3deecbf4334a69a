/-
  ENTRIES: their cells; host.Compare; slices.SortFunc by it: what it does with a row of the caller's own. No condition.
-/
import Derived.Test.YtnkinnhgahpcoaaSq
import Derived.Test.YtnkinnhgahpcoaaSh
import Derived.Test.YtnkinnhgahpcoaaVp
import Derived.Test.YtnkinnhgahpcoaaVu
import Derived.Shelf.SlSortCmp.NoneTotal
import Derived.Shelf.Lay
import Derived.Ground.SlsfProg
import Derived.Laws.Externs
import Derived.Lib.Walk
import Derived.Deep.Draws
import Derived.Deep.QuietTactic
import Derived.Deep.LoopGhost
import Derived.BigQuiet
import Derived.StillTailTactics
import Derived.Shelf.RegionOpenPlain
set_option linter.unusedVariables false
set_option linter.unusedSimpArgs false
set_option maxRecDepth 100000
namespace Go.Proofs
open Go.Shelf
def Try.sortE_ren : Go.Shelf.Ren := ⟨fun | 6 => 39 | 15 => 43 | 14 => 48 | 28 => 58 | 29 => 59 | 20 => 62 | 21 => 63 | 22 => 64 | 23 => 65 | 24 => 66 | 25 => 67 | 26 => 68 | 27 => 69 | 46 => 77 | 47 => 71 | 48 => 72 | 49 => 78 | 50 => 79 | 57 => 81 | n => n, fun | 22 => 22 | 24 => 44 | 25 => 62 | 3 => 3 | 39 => 70 | 0 => 0 | 53 => 85 | 55 => 87 | 4 => 4 | 46 => 78 | 45 => 77 | 50 => 60 | 5 => 5 | 9 => 9 | 66 => 95 | 70 => 99 | 76 => 104 | 77 => 105 | n => n, fun | n => n⟩
theorem Try.sortE : Go.Proofs.SlLaysF0.n6 Try.prog Try.sortE_ren := {
  mixed := by kernel_rfl
  f6 := ⟨Try.f39.name, by decide, Try.func39.trans (congrArg some (by kernel_rfl))⟩
  f14 := ⟨Try.f48.name, by decide, Try.func48.trans (congrArg some (by kernel_rfl))⟩
  f15 := Try.func43.trans (congrArg some (by kernel_rfl))
  f20 := ⟨Try.f62.name, by decide, Try.func62.trans (congrArg some (by kernel_rfl))⟩
  f21 := ⟨Try.f63.name, by decide, Try.func63.trans (congrArg some (by kernel_rfl))⟩
  f22 := ⟨Try.f64.name, by decide, Try.func64.trans (congrArg some (by kernel_rfl))⟩
  f23 := ⟨Try.f65.name, by decide, Try.func65.trans (congrArg some (by kernel_rfl))⟩
  f24 := ⟨Try.f66.name, by decide, Try.func66.trans (congrArg some (by kernel_rfl))⟩
  f25 := ⟨Try.f67.name, by decide, Try.func67.trans (congrArg some (by kernel_rfl))⟩
  f26 := ⟨Try.f68.name, by decide, Try.func68.trans (congrArg some (by kernel_rfl))⟩
  f27 := ⟨Try.f69.name, by decide, Try.func69.trans (congrArg some (by kernel_rfl))⟩
  f28 := Try.func58.trans (congrArg some (by kernel_rfl))
  f29 := Try.func59.trans (congrArg some (by kernel_rfl))
  f46 := ⟨Try.f77.name, by decide, Try.func77.trans (congrArg some (by kernel_rfl))⟩
  f47 := Try.func71.trans (congrArg some (by kernel_rfl))
  f48 := Try.func72.trans (congrArg some (by kernel_rfl))
  f49 := ⟨Try.f78.name, by decide, Try.func78.trans (congrArg some (by kernel_rfl))⟩
  f50 := ⟨Try.f79.name, by decide, Try.func79.trans (congrArg some (by kernel_rfl))⟩
  f57 := ⟨Try.f81.name, by decide, Try.func81.trans (congrArg some (by kernel_rfl))⟩
  t0 := Try.underlying0
  a0 := Try.isAgg0
  z0 := Try.sizeOf0
  v0 := Try.zeroValue0
  t3 := Try.underlying3
  a3 := Try.isAgg3
  z3 := Try.sizeOf3
  v3 := Try.zeroValue3
  t4 := Try.underlying4
  a4 := Try.isAgg4
  z4 := Try.sizeOf4
  v4 := Try.zeroValue4
  t5 := Try.underlying5
  a5 := Try.isAgg5
  z5 := Try.sizeOf5
  v5 := Try.zeroValue5
  t9 := Try.underlying9
  a9 := Try.isAgg9
  z9 := Try.sizeOf9
  v9 := Try.zeroValue9
  t22 := Try.underlying22
  a22 := Try.isAgg22
  z22 := Try.sizeOf22
  v22 := Try.zeroValue22
  t25 := Try.underlying62
  a25 := Try.isAgg62
  z25 := Try.sizeOf62
  v25 := Try.zeroValue62
  t39 := Try.underlying70
  a39 := Try.isAgg70
  z39 := Try.sizeOf70
  v39 := Try.zeroValue70
  t45 := Try.underlying77
  a45 := Try.isAgg77
  z45 := Try.sizeOf77
  v45 := Try.zeroValue77
  t46 := Try.underlying78
  a46 := Try.isAgg78
  z46 := Try.sizeOf78
  v46 := Try.zeroValue78
  t50 := Try.underlying60
  a50 := Try.isAgg60
  z50 := Try.sizeOf60
  v50 := Try.zeroValue60
  t53 := Try.underlying85
  a53 := Try.isAgg85
  z53 := Try.sizeOf85
  v53 := Try.zeroValue85
  t55 := Try.underlying87
  a55 := Try.isAgg87
  z55 := Try.sizeOf87
  v55 := Try.zeroValue87
  t66 := Try.underlying95
  a66 := Try.isAgg95
  z66 := Try.sizeOf95
  v66 := Try.zeroValue95
  t70 := Try.underlying99
  a70 := Try.isAgg99
  z70 := Try.sizeOf99
  v70 := Try.zeroValue99
  t76 := Try.underlying104
  a76 := Try.isAgg104
  z76 := Try.sizeOf104
  v76 := Try.zeroValue104
  t77 := Try.underlying105
  a77 := Try.isAgg105
  z77 := Try.sizeOf105
  v77 := Try.zeroValue105 }
end Go.Proofs
namespace Go.Proofs.Ytnkinnhgahpcoaa.Vc
open Go.RowKit Go.Proofs Go.Sort

abbrev bl := Op.bytesLess
theorem bl_irr (x : List UInt8) : bl x x = false := bl_irrefl x
theorem bl_tri (x y : Bs) : bl x y = true ∨ x = y ∨ bl y x = true := by
  have := bl_not x y
  cases h : bl y x with
  | true => exact .inr (.inr rfl)
  | false =>
    rw [show Op.bytesLess y x = false from h] at this
    simp only [Bool.not_false, Bool.or_eq_true, beq_iff_eq] at this
    rcases this with h | h
    · exact .inl h
    · exact .inr (.inl h)
theorem cb_bl : ∀ a b : Bs, Lib.compareBytes a b = if bl a b = true then -1 else if bl b a = true then 1 else 0
  | [], [] => rfl
  | [], _ :: _ => rfl
  | _ :: _, [] => rfl
  | a :: x, b :: y => by
    have ih := cb_bl x y
    show (if a < b then (-1 : Int) else if b < a then 1 else Lib.compareBytes x y) = _
    have e1 : bl (a :: x) (b :: y) = (decide (a < b) || (a == b && bl x y)) := rfl
    have e2 : bl (b :: y) (a :: x) = (decide (b < a) || (b == a && bl y x)) := rfl
    rw [e1, e2, ih]
    by_cases h1 : a < b
    · simp [h1]
    · by_cases h2 : b < a
      · have hne : a ≠ b := fun e => h1 (by rw [e] at h2 ⊢; exact h2)
        have hne' : b ≠ a := fun e => hne e.symm
        simp [h1, h2, hne]
      · have hab : a = b := by
          rw [UInt8.lt_iff_toNat_lt] at h1 h2
          exact UInt8.toNat_inj.1 (by omega)
        subst hab
        simp [h1]

/-! ### Entries -/

abbrev tEn : Ty := .pair tS (.pair tI (.pair tS tS))
abbrev En := Bs × Int × Bs × Bs
def encE (x : En) : List Value := [.string ⟨x.1.toArray⟩, .int .i64 x.2.1, .string ⟨x.2.2.1.toArray⟩, .string ⟨x.2.2.2.toArray⟩]
theorem encE_len (x : En) : (encE x).length = 4 := rfl
theorem encE_one (x : En) : ∀ v ∈ encE x, v.oneCell' = true := fun v hv => by
  simp only [encE, List.mem_cons, List.not_mem_nil, or_false] at hv
  rcases hv with rfl | rfl | rfl | rfl <;> rfl
theorem str_en {s : ByteArray} {l : Bs} (h : s.data.toList = l) : s = ⟨l.toArray⟩ := by
  subst h
  cases s
  rfl
theorem rv_en {w : World} {F : Nat → Prop} {x : En} {cs : List Value} : RV w F tEn x cs ↔ cs = encE x := by
  constructor
  · rintro ⟨c1, c2, rfl, ⟨s1, rfl, h1⟩, d1, d2, rfl, hd, e1, e2, rfl, ⟨s2, rfl, h2⟩, s3, rfl, h3⟩
    have hd : d1 = [Value.int .i64 x.2.1] := hd
    subst hd
    rw [str_en h1, str_en h2, str_en h3]
    rfl
  · rintro rfl
    exact ⟨[_], [_, _, _], rfl, ⟨_, rfl, by simp⟩, [_], [_, _], rfl, rfl, [_], [_], rfl, ⟨_, rfl, by simp⟩, _, rfl, by simp⟩

/-! ### Which of two stands ahead -/

def or4 (a b c d : Int) : Int := if a ≠ 0 then a else if b ≠ 0 then b else if c ≠ 0 then c else d
def cmpE (x y : En) : Int := or4 (Lib.compareBytes x.1 y.1) (Lib.compareInt x.2.1 y.2.1) (Lib.compareBytes x.2.2.1 y.2.2.1) (Lib.compareBytes x.2.2.2 y.2.2.2)

set_option maxHeartbeats 4000000 in
theorem or_w (g : Nat) (a b c d : Int) (w : World) (h0 : w.cell? ⟨g, 0, none⟩ = some (.int .i64 a)) (h1 : w.cell? ⟨g, 1, none⟩ = some (.int .i64 b)) (h2 : w.cell? ⟨g, 2, none⟩ = some (.int .i64 c)) (h3 : w.cell? ⟨g, 3, none⟩ = some (.int .i64 d)) :
    Calls Try.prog 45 #[.slice (some ⟨g, 0, none⟩) 4 4] w fun e w' => e = .returned (.int .i64 (or4 a b c d)) ∧ w' = w := by
  have mixed := mixed
  by_cases ha : a = 0
  · by_cases hb : b = 0
    · by_cases hc : c = 0
      · by_cases hd : d = 0
        · subst ha; subst hb; subst hc; subst hd
          go_enter Try.func45, Try.ntmps45
          go_wp2
          refine wp_loop_rounds 5 ?_
          repeat any_goals (rw [rounds_succ]; go_wp2)
          go_ret
          exact ⟨rfl, rfl⟩
        · subst ha; subst hb; subst hc
          have e : or4 0 0 0 d = d := rfl
          rw [e]
          go_enter Try.func45, Try.ntmps45
          go_wp2
          refine wp_loop_rounds 5 ?_
          repeat any_goals (rw [rounds_succ]; go_wp2)
          go_ret
          exact ⟨rfl, rfl⟩
      · subst ha; subst hb
        have e : or4 0 0 c d = c := by unfold or4; rw [if_neg (by simp), if_neg (by simp), if_pos hc]
        rw [e]
        go_enter Try.func45, Try.ntmps45
        go_wp2
        refine wp_loop_rounds 5 ?_
        repeat any_goals (rw [rounds_succ]; go_wp2)
        go_ret
        exact ⟨rfl, rfl⟩
    · subst ha
      have e : or4 0 b c d = b := by unfold or4; rw [if_neg (by simp), if_pos hb]
      rw [e]
      go_enter Try.func45, Try.ntmps45
      go_wp2
      refine wp_loop_rounds 5 ?_
      repeat any_goals (rw [rounds_succ]; go_wp2)
      go_ret
      exact ⟨rfl, rfl⟩
  · have e : or4 a b c d = a := by unfold or4; rw [if_pos ha]
    rw [e]
    go_enter Try.func45, Try.ntmps45
    go_wp2
    refine wp_loop_rounds 5 ?_
    repeat any_goals (rw [rounds_succ]; go_wp2)
    go_ret
    exact ⟨rfl, rfl⟩

theorem cell_drewE (w : World) (a : Addr) : w.drew.cell? a = w.cell? a := rfl
theorem still_tailD {P : Program} {id : Nat} {Q : Exit → Act → World → Prop} {a : Act} {w : World} {l : List Oper} (n : Nat) (hm : P.follows .mixedOrders = true) (hB : Region.lexTailB .any l.toArray n = true) (W : World) (hW : w.drew = W)
    (h : wpStill P l.toArray W (fun a' => wpList P l.toArray Q (l.drop n) a' W) (l.take n) a) : (Code.region id l.toArray true).wp P Q a w := by
  subst hW
  exact wp_region_still_tail n hm hB h

set_option maxHeartbeats 4000000 in
theorem cmpE_w0 (a1 a2 a3 b1 b2 b3 : ByteArray) (m n : Int) (w : World) : Calls Try.prog 35 #[.agg #[.string a1, .int .i64 m, .string a2, .string a3], .agg #[.string b1, .int .i64 n, .string b2, .string b3]] w fun e w' =>
    e = .returned (.int .i64 (or4 (Lib.compareBytes a1.data.toList b1.data.toList) (Lib.compareInt m n) (Lib.compareBytes a2.data.toList b2.data.toList) (Lib.compareBytes a3.data.toList b3.data.toList))) ∧ ∃ q os', w' = grow (w.drewN q) os' := by
  have mixed := mixed
  have k1 := fun (w : World) => Try.strings_Compare a1 b1 w
  have k2 := fun (w : World) => Try.cmp_Compare_int m n w
  have k3 := fun (w : World) => Try.strings_Compare a2 b2 w
  have k4 := fun (w : World) => Try.strings_Compare a3 b3 w
  generalize Lib.compareBytes a1.data.toList b1.data.toList = c1 at k1 ⊢
  generalize Lib.compareInt m n = c2 at k2 ⊢
  generalize Lib.compareBytes a2.data.toList b2.data.toList = c3 at k3 ⊢
  generalize Lib.compareBytes a3.data.toList b3.data.toList = c4 at k4 ⊢
  go_enter Try.func35, Try.ntmps35
  go_wp2
  obtain ⟨W, hW⟩ : ∃ W, ((w.alloc (.cells #[.string a1, .int .i64 m, .string a2, .string a3] 44)).alloc (.cells #[.string b1, .int .i64 n, .string b2, .string b3] 44)).drew = W := ⟨_, rfl⟩
  have x0 : W.cell? ⟨w.heap.size, 0, none⟩ = some (.string a1) := by rw [← hW, cell_drewE]; simp
  have x1 : W.cell? ⟨w.heap.size, 1, none⟩ = some (.int .i64 m) := by rw [← hW, cell_drewE]; simp
  have x2 : W.cell? ⟨w.heap.size, 2, none⟩ = some (.string a2) := by rw [← hW, cell_drewE]; simp
  have x3 : W.cell? ⟨w.heap.size, 3, none⟩ = some (.string a3) := by rw [← hW, cell_drewE]; simp
  have y0 : W.cell? ⟨w.heap.size + 1, 0, none⟩ = some (.string b1) := by rw [← hW, cell_drewE]; simp
  have y1 : W.cell? ⟨w.heap.size + 1, 1, none⟩ = some (.int .i64 n) := by rw [← hW, cell_drewE]; simp
  have y2 : W.cell? ⟨w.heap.size + 1, 2, none⟩ = some (.string b2) := by rw [← hW, cell_drewE]; simp
  have y3 : W.cell? ⟨w.heap.size + 1, 3, none⟩ = some (.string b3) := by rw [← hW, cell_drewE]; simp
  refine still_tailD 20 (by assumption) (by kernel_rfl) W hW ?_
  have HW : Aside _ := hW
  clear hW
  simp only [List.take_succ_cons, List.take_zero, List.drop_succ_cons, List.drop_zero]
  repeat (first | still_step | still_call (k1 _) | still_call (k2 _) | still_call (k3 _) | still_call (k4 _))
  refine wpStill_nil ?_
  go_wp2_with (go_at_call 45; refine (or_w _ c1 c2 c3 c4 _ (by simp) (by simp) (by simp) (by simp)).mono ?_; rintro e w' ⟨rfl, rfl⟩)
  go_ret
  refine ⟨rfl, 1, #[.cells #[.string a1, .int .i64 m, .string a2, .string a3] 44, .cells #[.string b1, .int .i64 n, .string b2, .string b3] 44, .cells #[.int .i64 c1, .int .i64 c2, .int .i64 c3, .int .i64 c4] 3], ?_⟩
  rw [← HW.out]
  simp only [alloc_eq_grow]
  show grow (grow (grow (w.drewN 1) _) _) _ = _
  rw [grow_grow, grow_grow]
  rfl

theorem cmpE_w (x y : En) (w : World) : Calls Try.prog 35 #[.agg (encE x).toArray, .agg (encE y).toArray] w fun e w' => e = .returned (.int .i64 (cmpE x y)) ∧ ∃ q os', w' = grow (w.drewN q) os' := by
  have h := cmpE_w0 ⟨x.1.toArray⟩ ⟨x.2.2.1.toArray⟩ ⟨x.2.2.2.toArray⟩ ⟨y.1.toArray⟩ ⟨y.2.2.1.toArray⟩ ⟨y.2.2.2.toArray⟩ x.2.1 y.2.1 w
  exact h

/-! ### Their order -/

/-- Does one stand ahead of another one? -/
def ahd (x y : En) : Bool := bl x.1 y.1 || (decide (x.1 = y.1) && (decide (x.2.1 < y.2.1) || (decide (x.2.1 = y.2.1) && (bl x.2.2.1 y.2.2.1 || (decide (x.2.2.1 = y.2.2.1) && bl x.2.2.2 y.2.2.2)))))
theorem cb_zero (a b : Bs) : Lib.compareBytes a b = 0 ↔ a = b := by
  rw [cb_bl]
  constructor
  · intro h
    rcases bl_tri a b with h1 | h1 | h1
    · rw [if_pos h1] at h; cases h
    · exact h1
    · rw [if_neg (by rw [show bl a b = false from bl_asymm h1]; simp), if_pos h1] at h; cases h
  · rintro rfl
    rw [bl_irr]; rfl
theorem cb_neg (a b : Bs) : Lib.compareBytes a b < 0 ↔ bl a b = true := by
  rw [cb_bl]
  cases h : bl a b with
  | true => simp
  | false => cases h2 : bl b a <;> simp
theorem ci_zero (a b : Int) : Lib.compareInt a b = 0 ↔ a = b := by
  unfold Lib.compareInt
  split
  · omega
  · split <;> omega
theorem ci_neg (a b : Int) : Lib.compareInt a b < 0 ↔ a < b := by
  unfold Lib.compareInt
  split
  · omega
  · split <;> omega
theorem lt_ahd (x y : En) : Go.Proofs.ltOf cmpE x y = ahd x y := by
  rw [Bool.eq_iff_iff]
  unfold Go.Proofs.ltOf cmpE or4 ahd
  simp only [decide_eq_true_eq, Bool.or_eq_true, Bool.and_eq_true, ne_eq, cb_zero, ci_zero]
  by_cases h1 : x.1 = y.1
  · rw [if_neg (by simpa using h1)]
    by_cases h2 : x.2.1 = y.2.1
    · rw [if_neg (by simpa using h2)]
      by_cases h3 : x.2.2.1 = y.2.2.1
      · rw [if_neg (by simpa using h3), cb_neg]
        simp [h1, h2, h3, bl_irr]
      · rw [if_pos h3, cb_neg]
        simp [h1, h2, h3, bl_irr]
    · rw [if_pos h2, ci_neg]
      simp [h1, h2, bl_irr]
  · rw [if_pos h1, cb_neg]
    simp [h1]
theorem ahd_irr (x : En) : ahd x x = false := by simp [ahd, bl_irr]
theorem ahd_iff {x y : En} : ahd x y = true ↔ bl x.1 y.1 = true ∨ (x.1 = y.1 ∧ (x.2.1 < y.2.1 ∨ (x.2.1 = y.2.1 ∧ (bl x.2.2.1 y.2.2.1 = true ∨ (x.2.2.1 = y.2.2.1 ∧ bl x.2.2.2 y.2.2.2 = true))))) := by
  unfold ahd
  simp only [decide_eq_true_eq, Bool.or_eq_true, Bool.and_eq_true]
theorem ahd_trans {x y z : En} (h1 : ahd x y = true) (h2 : ahd y z = true) : ahd x z = true := by
  rw [ahd_iff] at *
  rcases h1 with h1 | ⟨e1, h1⟩
  · rcases h2 with h2 | ⟨f1, h2⟩
    · exact .inl (bl_trans h1 h2)
    · exact .inl (f1 ▸ h1)
  · rcases h2 with h2 | ⟨f1, h2⟩
    · exact .inl (e1 ▸ h2)
    · refine .inr ⟨e1.trans f1, ?_⟩
      rcases h1 with h1 | ⟨e2, h1⟩
      · rcases h2 with h2 | ⟨f2, h2⟩
        · exact .inl (by omega)
        · exact .inl (by omega)
      · rcases h2 with h2 | ⟨f2, h2⟩
        · exact .inl (by omega)
        · refine .inr ⟨e2.trans f2, ?_⟩
          rcases h1 with h1 | ⟨e3, h1⟩
          · rcases h2 with h2 | ⟨f3, h2⟩
            · exact .inl (bl_trans h1 h2)
            · exact .inl (f3 ▸ h1)
          · rcases h2 with h2 | ⟨f3, h2⟩
            · exact .inl (e3 ▸ h2)
            · exact .inr ⟨e3.trans f3, bl_trans h1 h2⟩
theorem ahd_tri (x y : En) : ahd x y = true ∨ x = y ∨ ahd y x = true := by
  rw [ahd_iff, ahd_iff]
  rcases bl_tri x.1 y.1 with h | h | h
  · exact .inl (.inl h)
  · rcases Int.lt_trichotomy x.2.1 y.2.1 with h2 | h2 | h2
    · exact .inl (.inr ⟨h, .inl h2⟩)
    · rcases bl_tri x.2.2.1 y.2.2.1 with h3 | h3 | h3
      · exact .inl (.inr ⟨h, .inr ⟨h2, .inl h3⟩⟩)
      · rcases bl_tri x.2.2.2 y.2.2.2 with h4 | h4 | h4
        · exact .inl (.inr ⟨h, .inr ⟨h2, .inr ⟨h3, h4⟩⟩⟩)
        · exact .inr (.inl (Prod.ext h (Prod.ext h2 (Prod.ext h3 h4))))
        · exact .inr (.inr (.inr ⟨h.symm, .inr ⟨h2.symm, .inr ⟨h3.symm, h4⟩⟩⟩))
      · exact .inr (.inr (.inr ⟨h.symm, .inr ⟨h2.symm, .inl h3⟩⟩))
    · exact .inr (.inr (.inr ⟨h.symm, .inl h2⟩))
  · exact .inr (.inr (.inl h))
theorem ahd_asymm {x y : En} (h : ahd x y = true) : ahd y x = false := by
  cases h' : ahd y x with
  | false => rfl
  | true => have := ahd_trans h h'; rw [ahd_irr] at this; cases this
theorem ahd_swo : SWO (Go.Proofs.ltOf cmpE) := by
  have e : Go.Proofs.ltOf cmpE = ahd := funext fun x => funext fun y => lt_ahd x y
  rw [e]
  refine ⟨ahd_irr, fun x y z h1 h2 => ahd_trans h1 h2, fun x y z h1 h2 => ?_⟩
  cases h : ahd x z with
  | false => rfl
  | true =>
    rcases ahd_tri x y with h3 | rfl | h3
    · rw [h1] at h3; cases h3
    · rw [h2] at h; cases h
    · rcases ahd_tri y z with h4 | rfl | h4
      · rw [h2] at h4; cases h4
      · rw [h1] at h; cases h
      · have := ahd_trans (ahd_trans h4 h3) h; rw [ahd_irr] at this; cases this

end Go.Proofs.Ytnkinnhgahpcoaa.Vc
