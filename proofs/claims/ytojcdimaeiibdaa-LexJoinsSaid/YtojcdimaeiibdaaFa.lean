/-
  WHAT THE FUNCTIONS DO WITH DATA, printed by a program from the translation. No condition.
-/
import Derived.Test.YtojcdimaeiibdaaVp
import Derived.Test.YtojcdimaeiibdaaBs
import Derived.Test.YtojcdimaeiibdaaBc
set_option linter.unusedVariables false
set_option linter.unusedSimpArgs false
namespace Go.Proofs.Ytojcdimaeiibdaa.Vc
open Go.RowKit

/-! ferryslip/lex.comment -/
def E29 : Int → D := fun x => encV tI x
noncomputable def V29 (N : Nat) (a0 : Bs) (a1 : Int) : Vt Int (Option D) (fun q => some (E29 q)) :=
  .ck ((0 : Int) ≤ a1 ∧ a1 ≤ (a0.length : Int) ∧ (a0.length : Int) ≤ (a0.length : Int)) (.c1 (P40 N (slc a0 a1 (a0.length : Int)) ([35] : Bs)) (fun x1 => .br x1 (.c1 (P41 N (slc a0 a1 (a0.length : Int)) 10) (fun x2 => .br (decide (x2 < 0)) (.leaf (a0.length : Int)) (.leaf (IntKind.i64.wrap (a1 + x2))))) (.c1 (P40 N (slc a0 a1 (a0.length : Int)) ([47, 42] : Bs)) (fun x3 => .br x3 (.ck ((0 : Int) ≤ 2 ∧ (2 : Int) ≤ ((slc a0 a1 (a0.length : Int)).length : Int) ∧ ((slc a0 a1 (a0.length : Int)).length : Int) ≤ ((slc a0 a1 (a0.length : Int)).length : Int)) (.c1 (P38 N (slc (slc a0 a1 (a0.length : Int)) 2 ((slc a0 a1 (a0.length : Int)).length : Int)) ([42, 47] : Bs)) (fun x4 => .br (decide (x4 < 0)) (.leaf (-1)) (.leaf (IntKind.i64.wrap ((IntKind.i64.wrap (a1 + x4)) + 4)))))) (.leaf a1)))))
noncomputable def F29 (N : Nat) (a0 : Bs) (a1 : Int) : Option Int := (V29 N a0 a1).eval
def t29 : List (Nat × List Nat × List (Nat × Sh)) := []
theorem P29 (N : Nat) (a0 : Bs) (a1 : Int) : ∀ r, F29 N a0 a1 = some r → Spec Try.prog 29 [.val tS a0, .val tI a1] (E29 r) := fun r h => Spec_of (fn := Try.f29) rfl rfl rfl rfl false (wpc_sound (tbl := t29) (μ := []) mixed _ _ _ (by
  have h1 := Vt.sound _ h
  refine Eq.mp ?_ h1
  kernel_rfl))

/-! ferryslip/lex.blanks -/
def E19 : (Int × Bool) → D := fun x => .tup [encV tI x.1, encV tB x.2]
abbrev l19_1 : List (Nat × Sh) := [(0, .val tS), (1, .val tI)]
noncomputable def b19_1 : Code := loopBody 1 (bodyOf Try.f19)
noncomputable def U19_1 (N : Nat) (s0 : Bs) (s1 : Int) : Vt (Lp (shTy l19_1).I (Int × Bool)) (O3 (Option D)) (encO 34 l19_1 [0] (fun q => some (E19 q))) :=
  .br (decide (s1 < (s0.length : Int))) (.ck (inR s1 s0.length) (.br ((byteAt s0 s1) == 32) (.leaf (.next (s0, (IntKind.i64.wrap (s1 + 1))))) (.br ((byteAt s0 s1) == 9) (.leaf (.next (s0, (IntKind.i64.wrap (s1 + 1))))) (.br ((byteAt s0 s1) == 10) (.leaf (.next (s0, (IntKind.i64.wrap (s1 + 1))))) (.br ((byteAt s0 s1) == 13) (.leaf (.next (s0, (IntKind.i64.wrap (s1 + 1))))) (.c1 (P29 N s0 s1) (fun x1 => .br (decide (x1 < 0)) (.leaf (.ret (s1, false))) (.br (x1 == s1) (.leaf (.brk 0 (s0, s1))) (.leaf (.next (s0, x1))))))))))) (.leaf (.brk 0 (s0, s1)))
noncomputable def L19_1 (N : Nat) (s0 : Bs) (s1 : Int) : Option (Lp (Bs × Int) (Int × Bool)) := (U19_1 N s0 s1).eval
noncomputable def W19_1 (N : Nat) (x : (Bs × Int)) : Option (Lp (Bs × Int) (Int × Bool)) := runLoop (fun x => L19_1 N x.1 x.2) N x
theorem WS19_1 (N : Nat) (x : (shTy l19_1).I) : ∀ o, W19_1 N x = some o → S Try.prog (.loop b19_1) (buildSt 34 l19_1 x) (stepZ (rdD Try.prog Try.f19 false) l19_1 (encO 34 l19_1 [0] (fun q => some (E19 q)) o)) :=
  fun o h => loop_S (l := l19_1) (step := fun x => L19_1 N x.1 x.2) (fun x o h => wpc_sound (tbl := []) (μ := []) mixed _ _ _ (by
    have h1 := Vt.sound _ h
    refine Eq.mp ?_ h1
    kernel_rfl)) N x o h
noncomputable def V19 (N : Nat) (a0 : Bs) (a1 : Int) : Vt (Int × Bool) (Option D) (fun q => some (E19 q)) :=
  .f1 (l := l19_1) (o := W19_1 N (a0, a1)) (WS19_1 N (a0, a1)) (fun x1 => .leaf (x1.2, true))
noncomputable def F19 (N : Nat) (a0 : Bs) (a1 : Int) : Option (Int × Bool) := (V19 N a0 a1).eval
def t19 : List (Nat × List Nat × List (Nat × Sh)) := [(1, [0], l19_1)]
theorem P19 (N : Nat) (a0 : Bs) (a1 : Int) : ∀ r, F19 N a0 a1 = some r → Spec Try.prog 19 [.val tS a0, .val tI a1] (E19 r) := fun r h => Spec_of (fn := Try.f19) rfl rfl rfl rfl false (wpc_sound (tbl := t19) (μ := []) mixed _ _ _ (by
  have h1 := Vt.sound _ h
  refine Eq.mp ?_ h1
  kernel_rfl))

/-! ferryslip/lex.signs -/
def E30 : Int → D := fun x => encV tI x
noncomputable def V30 (N : Nat) (a0 : Int) : Vt Int (Option D) (fun q => some (E30 q)) :=
  .br (a0 == 123) (.leaf 2) (.br (a0 == 125) (.leaf 3) (.br (a0 == 59) (.leaf 4) (.leaf 0)))
noncomputable def F30 (N : Nat) (a0 : Int) : Option Int := (V30 N a0).eval
def t30 : List (Nat × List Nat × List (Nat × Sh)) := []
theorem P30 (N : Nat) (a0 : Int) : ∀ r, F30 N a0 = some r → Spec Try.prog 30 [.val (.int .u8) a0] (E30 r) := fun r h => Spec_of (fn := Try.f30) rfl rfl rfl rfl false (wpc_sound (tbl := t30) (μ := []) mixed _ _ _ (by
  have h1 := Vt.sound _ h
  refine Eq.mp ?_ h1
  kernel_rfl))

/-! ferryslip/word.bare -/
def E48 : Bool → D := fun x => encV tB x
noncomputable def V48 (N : Nat) (a0 : Int) : Vt Bool (Option D) (fun q => some (E48 q)) :=
  .br (decide ((97 : Int) ≤ a0)) (.br (decide (a0 ≤ 122)) (.leaf true) (.br (decide ((65 : Int) ≤ a0)) (.br (decide (a0 ≤ 90)) (.leaf true) (.br (decide ((48 : Int) ≤ a0)) (.br (decide (a0 ≤ 57)) (.leaf true) (.c1 (P41 N ([45, 95, 46, 47, 58, 42] : Bs) a0) (fun x1 => .leaf (decide ((0 : Int) ≤ x1))))) (.c1 (P41 N ([45, 95, 46, 47, 58, 42] : Bs) a0) (fun x2 => .leaf (decide ((0 : Int) ≤ x2)))))) (.br (decide ((48 : Int) ≤ a0)) (.br (decide (a0 ≤ 57)) (.leaf true) (.c1 (P41 N ([45, 95, 46, 47, 58, 42] : Bs) a0) (fun x3 => .leaf (decide ((0 : Int) ≤ x3))))) (.c1 (P41 N ([45, 95, 46, 47, 58, 42] : Bs) a0) (fun x4 => .leaf (decide ((0 : Int) ≤ x4))))))) (.br (decide ((65 : Int) ≤ a0)) (.br (decide (a0 ≤ 90)) (.leaf true) (.br (decide ((48 : Int) ≤ a0)) (.br (decide (a0 ≤ 57)) (.leaf true) (.c1 (P41 N ([45, 95, 46, 47, 58, 42] : Bs) a0) (fun x5 => .leaf (decide ((0 : Int) ≤ x5))))) (.c1 (P41 N ([45, 95, 46, 47, 58, 42] : Bs) a0) (fun x6 => .leaf (decide ((0 : Int) ≤ x6)))))) (.br (decide ((48 : Int) ≤ a0)) (.br (decide (a0 ≤ 57)) (.leaf true) (.c1 (P41 N ([45, 95, 46, 47, 58, 42] : Bs) a0) (fun x7 => .leaf (decide ((0 : Int) ≤ x7))))) (.c1 (P41 N ([45, 95, 46, 47, 58, 42] : Bs) a0) (fun x8 => .leaf (decide ((0 : Int) ≤ x8))))))
noncomputable def F48 (N : Nat) (a0 : Int) : Option Bool := (V48 N a0).eval
def t48 : List (Nat × List Nat × List (Nat × Sh)) := []
theorem P48 (N : Nat) (a0 : Int) : ∀ r, F48 N a0 = some r → Spec Try.prog 48 [.val (.int .u8) a0] (E48 r) := fun r h => Spec_of (fn := Try.f48) rfl rfl rfl rfl false (wpc_sound (tbl := t48) (μ := []) mixed _ _ _ (by
  have h1 := Vt.sound _ h
  refine Eq.mp ?_ h1
  kernel_rfl))

/-! ferryslip/word.run -/
def E42 : Int → D := fun x => encV tI x
abbrev l42_2 : List (Nat × Sh) := [(0, .val tS), (3, .val tI)]
noncomputable def b42_2 : Code := loopBody 2 (bodyOf Try.f42)
noncomputable def U42_2 (N : Nat) (s0 : Bs) (s3 : Int) : Vt (Lp (shTy l42_2).I Int) (O3 (Option D)) (encO 17 l42_2 [0] (fun q => some (E42 q))) :=
  .br (decide (s3 < (s0.length : Int))) (.ck (inR s3 s0.length) (.c1 (P48 N (byteAt s0 s3)) (fun x1 => .br x1 (.leaf (.next (s0, (IntKind.i64.wrap (s3 + 1))))) (.leaf (.brk 0 (s0, s3)))))) (.leaf (.brk 0 (s0, s3)))
noncomputable def L42_2 (N : Nat) (s0 : Bs) (s3 : Int) : Option (Lp (Bs × Int) Int) := (U42_2 N s0 s3).eval
noncomputable def W42_2 (N : Nat) (x : (Bs × Int)) : Option (Lp (Bs × Int) Int) := runLoop (fun x => L42_2 N x.1 x.2) N x
theorem WS42_2 (N : Nat) (x : (shTy l42_2).I) : ∀ o, W42_2 N x = some o → S Try.prog (.loop b42_2) (buildSt 17 l42_2 x) (stepZ (rdD Try.prog Try.f42 false) l42_2 (encO 17 l42_2 [0] (fun q => some (E42 q)) o)) :=
  fun o h => loop_S (l := l42_2) (step := fun x => L42_2 N x.1 x.2) (fun x o h => wpc_sound (tbl := []) (μ := []) mixed _ _ _ (by
    have h1 := Vt.sound _ h
    refine Eq.mp ?_ h1
    kernel_rfl)) N x o h
noncomputable def V42 (N : Nat) (a0 : Bs) : Vt Int (Option D) (fun q => some (E42 q)) :=
  .f1 (l := l42_2) (o := W42_2 N (a0, 0)) (WS42_2 N (a0, 0)) (fun x1 => .leaf x1.2)
noncomputable def F42 (N : Nat) (a0 : Bs) : Option Int := (V42 N a0).eval
def t42 : List (Nat × List Nat × List (Nat × Sh)) := [(2, [0], l42_2)]
theorem P42 (N : Nat) (a0 : Bs) : ∀ r, F42 N a0 = some r → Spec Try.prog 42 [.val tS a0] (E42 r) := fun r h => Spec_of (fn := Try.f42) rfl rfl rfl rfl false (wpc_sound (tbl := t42) (μ := []) mixed _ _ _ (by
  have h1 := Vt.sound _ h
  refine Eq.mp ?_ h1
  kernel_rfl))

/-! ferryslip/word.Scan -/
def E31 : (Int × Bool) → D := fun x => .tup [encV tI x.1, encV tB x.2]
abbrev l31_9 : List (Nat × Sh) := [(0, .val tS), (7, .val tI)]
noncomputable def b31_9 : Code := loopBody 9 (bodyOf Try.f31)
noncomputable def U31_9 (N : Nat) (s0 : Bs) (s7 : Int) : Vt (Lp (shTy l31_9).I (Int × Bool)) (O3 (Option D)) (encO 48 l31_9 [0] (fun q => some (E31 q))) :=
  .br (decide (s7 < (s0.length : Int))) (.ck (inR s7 s0.length) (.br ((byteAt s0 s7) == 92) (.leaf (.next (s0, (IntKind.i64.wrap ((IntKind.i64.wrap (s7 + 1)) + 1))))) (.br ((byteAt s0 s7) == 34) (.leaf (.ret ((IntKind.i64.wrap (s7 + 1)), true))) (.leaf (.next (s0, (IntKind.i64.wrap (s7 + 1)))))))) (.leaf (.brk 0 (s0, s7)))
noncomputable def L31_9 (N : Nat) (s0 : Bs) (s7 : Int) : Option (Lp (Bs × Int) (Int × Bool)) := (U31_9 N s0 s7).eval
noncomputable def W31_9 (N : Nat) (x : (Bs × Int)) : Option (Lp (Bs × Int) (Int × Bool)) := runLoop (fun x => L31_9 N x.1 x.2) N x
theorem WS31_9 (N : Nat) (x : (shTy l31_9).I) : ∀ o, W31_9 N x = some o → S Try.prog (.loop b31_9) (buildSt 48 l31_9 x) (stepZ (rdD Try.prog Try.f31 false) l31_9 (encO 48 l31_9 [0] (fun q => some (E31 q)) o)) :=
  fun o h => loop_S (l := l31_9) (step := fun x => L31_9 N x.1 x.2) (fun x o h => wpc_sound (tbl := []) (μ := []) mixed _ _ _ (by
    have h1 := Vt.sound _ h
    refine Eq.mp ?_ h1
    kernel_rfl)) N x o h
noncomputable def V31 (N : Nat) (a0 : Bs) (a1 : Int) : Vt (Int × Bool) (Option D) (fun q => some (E31 q)) :=
  .br (decide (a1 < 0)) (.leaf (0, false)) (.br (decide ((a0.length : Int) ≤ a1)) (.leaf (0, false)) (.ck (inR a1 a0.length) (.br ((byteAt a0 a1) != 34) (.ck ((0 : Int) ≤ a1 ∧ a1 ≤ (a0.length : Int) ∧ (a0.length : Int) ≤ (a0.length : Int)) (.c1 (P42 N (slc a0 a1 (a0.length : Int))) (fun x1 => .br (x1 == 0) (.leaf (0, false)) (.leaf ((IntKind.i64.wrap (a1 + x1)), true))))) (.f1 (l := l31_9) (o := W31_9 N (a0, (IntKind.i64.wrap (a1 + 1)))) (WS31_9 N (a0, (IntKind.i64.wrap (a1 + 1)))) (fun x2 => .leaf (0, false))))))
noncomputable def F31 (N : Nat) (a0 : Bs) (a1 : Int) : Option (Int × Bool) := (V31 N a0 a1).eval
def t31 : List (Nat × List Nat × List (Nat × Sh)) := [(9, [0], l31_9)]
theorem P31 (N : Nat) (a0 : Bs) (a1 : Int) : ∀ r, F31 N a0 a1 = some r → Spec Try.prog 31 [.val tS a0, .val tI a1] (E31 r) := fun r h => Spec_of (fn := Try.f31) rfl rfl rfl rfl false (wpc_sound (tbl := t31) (μ := []) mixed _ _ _ (by
  have h1 := Vt.sound _ h
  refine Eq.mp ?_ h1
  kernel_rfl))

/-! ferryslip/lex.bit -/
def E32 : Int → D := fun x => encV tI x
noncomputable def V32 (N : Nat) (a0 : Bs) : Vt Int (Option D) (fun q => some (E32 q)) :=
  .br (a0 == ([105, 110, 97, 99, 116, 105, 118, 101, 58] : Bs)) (.leaf 1) (.br (a0 == ([112, 114, 111, 116, 101, 99, 116, 58] : Bs)) (.leaf 2) (.leaf 0))
noncomputable def F32 (N : Nat) (a0 : Bs) : Option Int := (V32 N a0).eval
def t32 : List (Nat × List Nat × List (Nat × Sh)) := []
theorem P32 (N : Nat) (a0 : Bs) : ∀ r, F32 N a0 = some r → Spec Try.prog 32 [.val tS a0] (E32 r) := fun r h => Spec_of (fn := Try.f32) rfl rfl rfl rfl false (wpc_sound (tbl := t32) (μ := []) mixed _ _ _ (by
  have h1 := Vt.sound _ h
  refine Eq.mp ?_ h1
  kernel_rfl))

/-! ferryslip/word.mark -/
def E43 : Bool → D := fun x => encV tB x
noncomputable def V43 (N : Nat) (a0 : Bs) : Vt Bool (Option D) (fun q => some (E43 q)) :=
  .br (a0 == ([105, 110, 97, 99, 116, 105, 118, 101, 58] : Bs)) (.leaf true) (.br (a0 == ([112, 114, 111, 116, 101, 99, 116, 58] : Bs)) (.leaf true) (.c1 (P40 N a0 ([47, 42] : Bs)) (fun x1 => .leaf x1)))
noncomputable def F43 (N : Nat) (a0 : Bs) : Option Bool := (V43 N a0).eval
def t43 : List (Nat × List Nat × List (Nat × Sh)) := []
theorem P43 (N : Nat) (a0 : Bs) : ∀ r, F43 N a0 = some r → Spec Try.prog 43 [.val tS a0] (E43 r) := fun r h => Spec_of (fn := Try.f43) rfl rfl rfl rfl false (wpc_sound (tbl := t43) (μ := []) mixed _ _ _ (by
  have h1 := Vt.sound _ h
  refine Eq.mp ?_ h1
  kernel_rfl))

/-! ferryslip/word.piece -/
def E49 : (Int × Int) → D := fun x => .tup [encV (.int .u8) x.1, encV tI x.2]
noncomputable def V49 (N : Nat) (a0 : Bs) : Vt (Int × Int) (Option D) (fun q => some (E49 q)) :=
  .ck (inR 0 a0.length) (.br ((byteAt a0 0) == 34) (.leaf (0, 0)) (.ck (inR 0 a0.length) (.br (decide ((byteAt a0 0) < 32)) (.leaf (0, 0)) (.ck (inR 0 a0.length) (.br (decide ((126 : Int) < (byteAt a0 0))) (.leaf (0, 0)) (.ck (inR 0 a0.length) (.br ((byteAt a0 0) != 92) (.ck (inR 0 a0.length) (.leaf ((byteAt a0 0), 1))) (.br (decide ((a0.length : Int) < 2)) (.leaf (0, 0)) (.ck (inR 1 a0.length) (.br ((byteAt a0 1) == 34) (.ck (inR 1 a0.length) (.leaf ((byteAt a0 1), 2))) (.ck (inR 1 a0.length) (.br ((byteAt a0 1) == 92) (.ck (inR 1 a0.length) (.leaf ((byteAt a0 1), 2))) (.ck (inR 1 a0.length) (.br ((byteAt a0 1) != 120) (.leaf (0, 0)) (.br (decide ((a0.length : Int) < 4)) (.leaf (0, 0)) (.ck (inR 2 a0.length) (.c1 (P41 N ([48, 49, 50, 51, 52, 53, 54, 55, 56, 57, 97, 98, 99, 100, 101, 102] : Bs) (byteAt a0 2)) (fun x1 => .ck (inR 3 a0.length) (.c1 (P41 N ([48, 49, 50, 51, 52, 53, 54, 55, 56, 57, 97, 98, 99, 100, 101, 102] : Bs) (byteAt a0 3)) (fun x2 => .br (decide (x1 < 0)) (.leaf (0, 0)) (.br (decide (x2 < 0)) (.leaf (0, 0)) (.ck (0 ≤ (4 : Int)) (.leaf ((IntKind.u8.wrap (IntKind.i64.wrap (((BitVec.ofInt IntKind.i64.bits (IntKind.i64.wrap (x1 * 2 ^ (min (4 : Int).toNat (IntKind.i64.bits)))) ||| BitVec.ofInt IntKind.i64.bits x2).toNat : Int)))), 4))))))))))))))))))))))))
noncomputable def F49 (N : Nat) (a0 : Bs) : Option (Int × Int) := (V49 N a0).eval
def t49 : List (Nat × List Nat × List (Nat × Sh)) := []
theorem P49 (N : Nat) (a0 : Bs) : ∀ r, F49 N a0 = some r → Spec Try.prog 49 [.val tS a0] (E49 r) := fun r h => Spec_of (fn := Try.f49) rfl rfl rfl rfl false (wpc_sound (tbl := t49) (μ := []) mixed _ _ _ (by
  have h1 := Vt.sound _ h
  refine Eq.mp ?_ h1
  kernel_rfl))

/-! ferryslip/word.inner -/
def E44 : (Bs × Bool) → D := fun x => .tup [encV tS x.1, encV tB x.2]
abbrev l44_2 : List (Nat × Sh) := [(0, .val tS), (4, .grp false 4 65 [.slf, .buf 5])]
noncomputable def b44_2 : Code := loopBody 2 (bodyOf Try.f44)
noncomputable def U44_2 (N : Nat) (s0 : Bs) (s4 : (Bool × (List Int))) : Vt (Lp (shTy l44_2).I (Bs × Bool)) (O3 (Option D)) (encO 22 l44_2 [0] (fun q => some (E44 q))) :=
  .br (!(s0 == ([] : Bs))) (.c2 (P49 N s0) (fun x1 x2 => .br (x2 == 0) (.leaf (.ret (([] : Bs), false))) (.cr (P50b N (true, s4.2) x1) (fun x3 => .ck ((0 : Int) ≤ x2 ∧ x2 ≤ (s0.length : Int) ∧ (s0.length : Int) ≤ (s0.length : Int)) (.leaf (.next ((slc s0 x2 (s0.length : Int)), (true, x3.2)))))))) (.leaf (.brk 0 (s0, (true, s4.2))))
noncomputable def L44_2 (N : Nat) (s0 : Bs) (s4 : (Bool × (List Int))) : Option (Lp (Bs × (Bool × (List Int))) (Bs × Bool)) := (U44_2 N s0 s4).eval
noncomputable def W44_2 (N : Nat) (x : (Bs × (Bool × (List Int)))) : Option (Lp (Bs × (Bool × (List Int))) (Bs × Bool)) := runLoop (fun x => L44_2 N x.1 x.2) N x
theorem WS44_2 (N : Nat) (x : (shTy l44_2).I) : ∀ o, W44_2 N x = some o → S Try.prog (.loop b44_2) (buildSt 22 l44_2 x) (stepZ (rdD Try.prog Try.f44 false) l44_2 (encO 22 l44_2 [0] (fun q => some (E44 q)) o)) :=
  fun o h => loop_S (l := l44_2) (step := fun x => L44_2 N x.1 x.2) (fun x o h => wpc_sound (tbl := []) (μ := [4000050]) mixed _ _ _ (by
    have h1 := Vt.sound _ h
    refine Eq.mp ?_ h1
    kernel_rfl)) N x o h
noncomputable def V44 (N : Nat) (a0 : Bs) : Vt (Bs × Bool) (Option D) (fun q => some (E44 q)) :=
  .f1 (l := l44_2) (o := W44_2 N (a0, (true, ([] : List Int)))) (WS44_2 N (a0, (true, ([] : List Int)))) (fun x1 => .cr (P51k N (true, x1.2.2)) (fun x2 => .leaf (x2, true)))
noncomputable def F44 (N : Nat) (a0 : Bs) : Option (Bs × Bool) := (V44 N a0).eval
def t44 : List (Nat × List Nat × List (Nat × Sh)) := [(2, [0], l44_2)]
theorem P44 (N : Nat) (a0 : Bs) : ∀ r, F44 N a0 = some r → Spec Try.prog 44 [.val tS a0] (E44 r) := fun r h => Spec_of (fn := Try.f44) rfl rfl rfl rfl false (wpc_sound (tbl := t44) (μ := [4000050, 5000051]) mixed _ _ _ (by
  have h1 := Vt.sound _ h
  refine Eq.mp ?_ h1
  kernel_rfl))

/-! ferryslip/word.Unquote -/
def E33 : (Bs × Int) → D := fun x => .tup [encV tS x.1, encV tI x.2]
noncomputable def V33 (N : Nat) (a0 : Bs) : Vt (Bs × Int) (Option D) (fun q => some (E33 q)) :=
  .br (!(a0 == ([] : Bs))) (.c1 (P42 N a0) (fun x1 => .br (x1 == (a0.length : Int)) (.c1 (P43 N a0) (fun x2 => .br (decide ((1 : Int) < (a0.length : Int))) (.ck (inR 0 a0.length) (.br ((byteAt a0 0) == 34) (.ck (inR (IntKind.i64.wrap ((a0.length : Int) - 1)) a0.length) (.br ((byteAt a0 (IntKind.i64.wrap ((a0.length : Int) - 1))) == 34) (.ck ((0 : Int) ≤ 1 ∧ (1 : Int) ≤ (IntKind.i64.wrap ((a0.length : Int) - 1)) ∧ (IntKind.i64.wrap ((a0.length : Int) - 1)) ≤ (a0.length : Int)) (.c2 (P44 N (slc a0 1 (IntKind.i64.wrap ((a0.length : Int) - 1)))) (fun x3 x4 => .br (!x4) (.leaf (([] : Bs), 2)) (.br (decide ((40 : Int) < (x3.length : Int))) (.leaf (([] : Bs), 5)) (.leaf (x3, 0)))))) (.br (!(!x2)) (.leaf (([] : Bs), 2)) (.br (decide ((40 : Int) < (a0.length : Int))) (.leaf (([] : Bs), 5)) (.leaf (a0, 0)))))) (.br (!(!x2)) (.leaf (([] : Bs), 2)) (.br (decide ((40 : Int) < (a0.length : Int))) (.leaf (([] : Bs), 5)) (.leaf (a0, 0)))))) (.br (!(!x2)) (.leaf (([] : Bs), 2)) (.br (decide ((40 : Int) < (a0.length : Int))) (.leaf (([] : Bs), 5)) (.leaf (a0, 0)))))) (.br (decide ((1 : Int) < (a0.length : Int))) (.ck (inR 0 a0.length) (.br ((byteAt a0 0) == 34) (.ck (inR (IntKind.i64.wrap ((a0.length : Int) - 1)) a0.length) (.br ((byteAt a0 (IntKind.i64.wrap ((a0.length : Int) - 1))) == 34) (.ck ((0 : Int) ≤ 1 ∧ (1 : Int) ≤ (IntKind.i64.wrap ((a0.length : Int) - 1)) ∧ (IntKind.i64.wrap ((a0.length : Int) - 1)) ≤ (a0.length : Int)) (.c2 (P44 N (slc a0 1 (IntKind.i64.wrap ((a0.length : Int) - 1)))) (fun x5 x6 => .br (!x6) (.leaf (([] : Bs), 2)) (.br (decide ((40 : Int) < (x5.length : Int))) (.leaf (([] : Bs), 5)) (.leaf (x5, 0)))))) (.leaf (([] : Bs), 2)))) (.leaf (([] : Bs), 2)))) (.leaf (([] : Bs), 2))))) (.br (decide ((1 : Int) < (a0.length : Int))) (.ck (inR 0 a0.length) (.br ((byteAt a0 0) == 34) (.ck (inR (IntKind.i64.wrap ((a0.length : Int) - 1)) a0.length) (.br ((byteAt a0 (IntKind.i64.wrap ((a0.length : Int) - 1))) == 34) (.ck ((0 : Int) ≤ 1 ∧ (1 : Int) ≤ (IntKind.i64.wrap ((a0.length : Int) - 1)) ∧ (IntKind.i64.wrap ((a0.length : Int) - 1)) ≤ (a0.length : Int)) (.c2 (P44 N (slc a0 1 (IntKind.i64.wrap ((a0.length : Int) - 1)))) (fun x7 x8 => .br (!x8) (.leaf (([] : Bs), 2)) (.br (decide ((40 : Int) < (x7.length : Int))) (.leaf (([] : Bs), 5)) (.leaf (x7, 0)))))) (.leaf (([] : Bs), 2)))) (.leaf (([] : Bs), 2)))) (.leaf (([] : Bs), 2)))
noncomputable def F33 (N : Nat) (a0 : Bs) : Option (Bs × Int) := (V33 N a0).eval
def t33 : List (Nat × List Nat × List (Nat × Sh)) := []
theorem P33 (N : Nat) (a0 : Bs) : ∀ r, F33 N a0 = some r → Spec Try.prog 33 [.val tS a0] (E33 r) := fun r h => Spec_of (fn := Try.f33) rfl rfl rfl rfl false (wpc_sound (tbl := t33) (μ := []) mixed _ _ _ (by
  have h1 := Vt.sound _ h
  refine Eq.mp ?_ h1
  kernel_rfl))

/-! ferryslip/lex.token -/
def E20 : ((Int × Ln) × Int × Int) → D := fun x => .tup [encV (.pair tI tLn) x.1, encV tI x.2.1, encV tI x.2.2]
noncomputable def V20 (N : Nat) (a0 : Bs) (a1 : Int) : Vt ((Int × Ln) × Int × Int) (Option D) (fun q => some (E20 q)) :=
  .ck (inR a1 a0.length) (.c1 (P30 N (byteAt a0 a1)) (fun x1 => .br (decide ((0 : Int) < x1)) (.leaf ((x1, a1, ([] : Bs), 0), (IntKind.i64.wrap (a1 + 1)), 0)) (.c2 (P31 N a0 a1) (fun x2 x3 => .br (!x3) (.leaf ((0, 0, ([] : Bs), 0), 0, 2)) (.ck ((0 : Int) ≤ a1 ∧ a1 ≤ x2 ∧ x2 ≤ (a0.length : Int)) (.c1 (P32 N (slc a0 a1 x2)) (fun x4 => .br (decide ((0 : Int) < x4)) (.leaf ((5, a1, ([] : Bs), x4), x2, 0)) (.ck ((0 : Int) ≤ a1 ∧ a1 ≤ x2 ∧ x2 ≤ (a0.length : Int)) (.c2 (P33 N (slc a0 a1 x2)) (fun x5 x6 => .leaf ((1, a1, x5, 0), x2, x6)))))))))))
noncomputable def F20 (N : Nat) (a0 : Bs) (a1 : Int) : Option ((Int × Ln) × Int × Int) := (V20 N a0 a1).eval
def t20 : List (Nat × List Nat × List (Nat × Sh)) := []
theorem P20 (N : Nat) (a0 : Bs) (a1 : Int) : ∀ r, F20 N a0 a1 = some r → Spec Try.prog 20 [.val tS a0, .val tI a1] (E20 r) := fun r h => Spec_of (fn := Try.f20) rfl rfl rfl rfl false (wpc_sound (tbl := t20) (μ := []) mixed _ _ _ (by
  have h1 := Vt.sound _ h
  refine Eq.mp ?_ h1
  kernel_rfl))

/-! ferryslip/lex.All -/
def E11 : ((List (Int × Ln)) × Int × Int) → D := fun x => .tup [encV (.list (.pair tI tLn)) x.1, encV tI x.2.1, encV tI x.2.2]
abbrev l11_3 : List (Nat × Sh) := [(0, .val tS), (5, .row false 42 38 (.pair tI tLn)), (6, .val tI)]
noncomputable def b11_3 : Code := loopBody 3 (bodyOf Try.f11)
noncomputable def U11_3 (N : Nat) (s0 : Bs) (s5 : (List (Int × Ln))) (s6 : Int) : Vt (Lp (shTy l11_3).I ((List (Int × Ln)) × Int × Int)) (O3 (Option D)) (encO 44 l11_3 [] (fun q => some (E11 q))) :=
  .c2 (P19 N s0 s6) (fun x1 x2 => .br (!x2) (.leaf (.ret (([] : (List (Int × Ln))), x1, 2))) (.br (x1 == (s0.length : Int)) (.leaf (.ret (s5, 0, 0))) (.c3 (P20 N s0 x1) (fun x3 x4 x5 => .br (x5 != 0) (.leaf (.ret (([] : (List (Int × Ln))), x1, x5))) (.ck (room (s5.length + ([x3] : (List (Int × Ln))).length)) (.leaf (.next (s0, (s5 ++ ([x3] : (List (Int × Ln)))), x4))))))))
noncomputable def L11_3 (N : Nat) (s0 : Bs) (s5 : (List (Int × Ln))) (s6 : Int) : Option (Lp (Bs × (List (Int × Ln)) × Int) ((List (Int × Ln)) × Int × Int)) := (U11_3 N s0 s5 s6).eval
noncomputable def W11_3 (N : Nat) (x : (Bs × (List (Int × Ln)) × Int)) : Option (Lp (Bs × (List (Int × Ln)) × Int) ((List (Int × Ln)) × Int × Int)) := runLoop (fun x => L11_3 N x.1 x.2.1 x.2.2) N x
theorem WS11_3 (N : Nat) (x : (shTy l11_3).I) : ∀ o, W11_3 N x = some o → S Try.prog (.loop b11_3) (buildSt 44 l11_3 x) (stepZ (rdD Try.prog Try.f11 false) l11_3 (encO 44 l11_3 [] (fun q => some (E11 q)) o)) :=
  fun o h => loop_S (l := l11_3) (step := fun x => L11_3 N x.1 x.2.1 x.2.2) (fun x o h => wpc_sound (tbl := []) (μ := []) mixed _ _ _ (by
    have h1 := Vt.sound _ h
    refine Eq.mp ?_ h1
    kernel_rfl)) N x o h
noncomputable def V11 (N : Nat) (a0 : Bs) : Vt ((List (Int × Ln)) × Int × Int) (Option D) (fun q => some (E11 q)) :=
  .f0 (l := l11_3) (o := W11_3 N (a0, ([] : (List (Int × Ln))), 0)) (WS11_3 N (a0, ([] : (List (Int × Ln))), 0))
noncomputable def F11 (N : Nat) (a0 : Bs) : Option ((List (Int × Ln)) × Int × Int) := (V11 N a0).eval
def t11 : List (Nat × List Nat × List (Nat × Sh)) := [(3, [], l11_3)]
theorem P11 (N : Nat) (a0 : Bs) : ∀ r, F11 N a0 = some r → Spec Try.prog 11 [.val tS a0] (E11 r) := fun r h => Spec_of (fn := Try.f11) rfl rfl rfl rfl false (wpc_sound (tbl := t11) (μ := []) mixed _ _ _ (by
  have h1 := Vt.sound _ h
  refine Eq.mp ?_ h1
  kernel_rfl))

/-! ferryslip/lex.Place -/
def E15 : (Int × Int) → D := fun x => .tup [encV tI x.1, encV tI x.2]
noncomputable def V15 (N : Nat) (a0 : Bs) (a1 : Int) : Vt (Int × Int) (Option D) (fun q => some (E15 q)) :=
  .ck ((0 : Int) ≤ 0 ∧ (0 : Int) ≤ (imin (imax a1 0) (a0.length : Int)) ∧ (imin (imax a1 0) (a0.length : Int)) ≤ (a0.length : Int)) (.c1 (P25 N (slc a0 0 (imin (imax a1 0) (a0.length : Int))) ([10] : Bs)) (fun x1 => .c1 (P26 N (slc a0 0 (imin (imax a1 0) (a0.length : Int))) 10) (fun x2 => .leaf ((IntKind.i64.wrap (1 + x1)), (IntKind.i64.wrap (((slc a0 0 (imin (imax a1 0) (a0.length : Int))).length : Int) - x2))))))
noncomputable def F15 (N : Nat) (a0 : Bs) (a1 : Int) : Option (Int × Int) := (V15 N a0 a1).eval
def t15 : List (Nat × List Nat × List (Nat × Sh)) := []
theorem P15 (N : Nat) (a0 : Bs) (a1 : Int) : ∀ r, F15 N a0 a1 = some r → Spec Try.prog 15 [.val tS a0, .val tI a1] (E15 r) := fun r h => Spec_of (fn := Try.f15) rfl rfl rfl rfl false (wpc_sound (tbl := t15) (μ := []) mixed _ _ _ (by
  have h1 := Vt.sound _ h
  refine Eq.mp ?_ h1
  kernel_rfl))

/-! ferryslip/ferrysliplaw02.awake -/
def E10 : Bool → D := fun x => encV tB x
noncomputable def V10 (N : Nat)  : Vt Bool (Option D) (fun q => some (E10 q)) :=
  .c3 (P11 N ([112, 114, 111, 116, 101, 99, 116, 58, 32, 97, 32, 123, 32, 34, 98, 32, 99, 34, 59, 32, 125, 32, 35, 32, 120] : Bs)) (fun x1 x2 x3 => .c3 (P11 N ([97, 32, 44] : Bs)) (fun x4 x5 x6 => .c2 (P15 N ([97, 10, 98, 99] : Bs) 3) (fun x7 x8 => .br ((x1.length : Int) == 6) (.ck (inR 0 x1.length) (.br (((atI (.pair tI tLn) x1 0).2.2.2) == 2) (.ck (inR 1 x1.length) (.br (((atI (.pair tI tLn) x1 1).2.2.1) == ([97] : Bs)) (.ck (inR 2 x1.length) (.br (((atI (.pair tI tLn) x1 2).1) == 2) (.ck (inR 3 x1.length) (.br (((atI (.pair tI tLn) x1 3).2.2.1) == ([98, 32, 99] : Bs)) (.ck (inR 4 x1.length) (.br (((atI (.pair tI tLn) x1 4).1) == 4) (.ck (inR 5 x1.length) (.br (((atI (.pair tI tLn) x1 5).1) == 3) (.br (x3 == 0) (.br (x5 == 2) (.br (x6 == 2) (.br (x7 == 2) (.leaf (x8 == 2)) (.leaf false)) (.leaf false)) (.leaf false)) (.leaf false)) (.leaf false))) (.leaf false))) (.leaf false))) (.leaf false))) (.leaf false))) (.leaf false))) (.leaf false))))
noncomputable def F10 (N : Nat)  : Option Bool := (V10 N ).eval
def t10 : List (Nat × List Nat × List (Nat × Sh)) := []
theorem P10 (N : Nat)  : ∀ r, F10 N  = some r → Spec Try.prog 10 [] (E10 r) := fun r h => Spec_of (fn := Try.f10) rfl rfl rfl rfl false (wpc_sound (tbl := t10) (μ := []) mixed _ _ _ (by
  have h1 := Vt.sound _ h
  refine Eq.mp ?_ h1
  kernel_rfl))

/-! ferryslip/ferryslipref02.gap -/
def E21 : Int → D := fun x => encV tI x
abbrev l21_6 : List (Nat × Sh) := [(0, .val tS), (1, .val tI)]
noncomputable def b21_6 : Code := loopBody 6 (bodyOf Try.f21)
noncomputable def U21_6 (N : Nat) (s0 : Bs) (s1 : Int) : Vt (Lp (shTy l21_6).I Int) (O3 (Option D)) (encO 92 l21_6 [2] (fun q => some (E21 q))) :=
  .br (decide (s1 < (s0.length : Int))) (.ck (inR s1 s0.length) (.br ((byteAt s0 s1) != 10) (.leaf (.next (s0, (IntKind.i64.wrap (s1 + 1))))) (.leaf (.brk 0 (s0, s1))))) (.leaf (.brk 0 (s0, s1)))
noncomputable def L21_6 (N : Nat) (s0 : Bs) (s1 : Int) : Option (Lp (Bs × Int) Int) := (U21_6 N s0 s1).eval
noncomputable def W21_6 (N : Nat) (x : (Bs × Int)) : Option (Lp (Bs × Int) Int) := runLoop (fun x => L21_6 N x.1 x.2) N x
theorem WS21_6 (N : Nat) (x : (shTy l21_6).I) : ∀ o, W21_6 N x = some o → S Try.prog (.loop b21_6) (buildSt 92 l21_6 x) (stepZ (rdD Try.prog Try.f21 false) l21_6 (encO 92 l21_6 [2] (fun q => some (E21 q)) o)) :=
  fun o h => loop_S (l := l21_6) (step := fun x => L21_6 N x.1 x.2) (fun x o h => wpc_sound (tbl := []) (μ := []) mixed _ _ _ (by
    have h1 := Vt.sound _ h
    refine Eq.mp ?_ h1
    kernel_rfl)) N x o h
abbrev l21_10 : List (Nat × Sh) := [(0, .val tS), (6, .val tI)]
noncomputable def b21_10 : Code := loopBody 10 (bodyOf Try.f21)
noncomputable def U21_10 (N : Nat) (s0 : Bs) (s6 : Int) : Vt (Lp (shTy l21_10).I Int) (O3 (Option D)) (encO 92 l21_10 [4] (fun q => some (E21 q))) :=
  .br (decide ((IntKind.i64.wrap (s6 + 1)) < (s0.length : Int))) (.ck (inR s6 s0.length) (.br ((byteAt s0 s6) == 42) (.ck (inR (IntKind.i64.wrap (s6 + 1)) s0.length) (.br (!((byteAt s0 (IntKind.i64.wrap (s6 + 1))) == 47)) (.leaf (.next (s0, (IntKind.i64.wrap (s6 + 1))))) (.leaf (.brk 0 (s0, s6))))) (.leaf (.next (s0, (IntKind.i64.wrap (s6 + 1))))))) (.leaf (.brk 0 (s0, s6)))
noncomputable def L21_10 (N : Nat) (s0 : Bs) (s6 : Int) : Option (Lp (Bs × Int) Int) := (U21_10 N s0 s6).eval
noncomputable def W21_10 (N : Nat) (x : (Bs × Int)) : Option (Lp (Bs × Int) Int) := runLoop (fun x => L21_10 N x.1 x.2) N x
theorem WS21_10 (N : Nat) (x : (shTy l21_10).I) : ∀ o, W21_10 N x = some o → S Try.prog (.loop b21_10) (buildSt 92 l21_10 x) (stepZ (rdD Try.prog Try.f21 false) l21_10 (encO 92 l21_10 [4] (fun q => some (E21 q)) o)) :=
  fun o h => loop_S (l := l21_10) (step := fun x => L21_10 N x.1 x.2) (fun x o h => wpc_sound (tbl := [(6, [2], l21_6)]) (μ := []) mixed _ _ _ (by
    have h1 := Vt.sound _ h
    refine Eq.mp ?_ h1
    kernel_rfl)) N x o h
abbrev l21_1 : List (Nat × Sh) := [(0, .val tS), (1, .val tI)]
noncomputable def b21_1 : Code := loopBody 1 (bodyOf Try.f21)
noncomputable def U21_1 (N : Nat) (s0 : Bs) (s1 : Int) : Vt (Lp (shTy l21_1).I Int) (O3 (Option D)) (encO 92 l21_1 [0] (fun q => some (E21 q))) :=
  .br (decide (s1 < (s0.length : Int))) (.ck (inR s1 s0.length) (.br ((byteAt s0 s1) == 32) (.leaf (.next (s0, (IntKind.i64.wrap (s1 + 1))))) (.br ((byteAt s0 s1) == 9) (.leaf (.next (s0, (IntKind.i64.wrap (s1 + 1))))) (.br ((byteAt s0 s1) == 10) (.leaf (.next (s0, (IntKind.i64.wrap (s1 + 1))))) (.br ((byteAt s0 s1) == 13) (.leaf (.next (s0, (IntKind.i64.wrap (s1 + 1))))) (.br ((byteAt s0 s1) == 35) (.g1 (l := l21_6) (o := W21_6 N (s0, s1)) (WS21_6 N (s0, s1)) (fun x1 => .leaf (.next (x1.1, x1.2)))) (.br ((byteAt s0 s1) == 47) (.br (decide ((IntKind.i64.wrap (s1 + 1)) < (s0.length : Int))) (.ck (inR (IntKind.i64.wrap (s1 + 1)) s0.length) (.br ((byteAt s0 (IntKind.i64.wrap (s1 + 1))) == 42) (.g1 (l := l21_10) (o := W21_10 N (s0, (IntKind.i64.wrap (s1 + 2)))) (WS21_10 N (s0, (IntKind.i64.wrap (s1 + 2)))) (fun x2 => .br (decide ((x2.1.length : Int) ≤ (IntKind.i64.wrap (x2.2 + 1)))) (.leaf (.ret (-1))) (.leaf (.next (x2.1, (IntKind.i64.wrap (x2.2 + 2))))))) (.leaf (.ret s1)))) (.leaf (.ret s1))) (.leaf (.ret s1))))))))) (.leaf (.brk 0 (s0, s1)))
noncomputable def L21_1 (N : Nat) (s0 : Bs) (s1 : Int) : Option (Lp (Bs × Int) Int) := (U21_1 N s0 s1).eval
noncomputable def W21_1 (N : Nat) (x : (Bs × Int)) : Option (Lp (Bs × Int) Int) := runLoop (fun x => L21_1 N x.1 x.2) N x
theorem WS21_1 (N : Nat) (x : (shTy l21_1).I) : ∀ o, W21_1 N x = some o → S Try.prog (.loop b21_1) (buildSt 92 l21_1 x) (stepZ (rdD Try.prog Try.f21 false) l21_1 (encO 92 l21_1 [0] (fun q => some (E21 q)) o)) :=
  fun o h => loop_S (l := l21_1) (step := fun x => L21_1 N x.1 x.2) (fun x o h => wpc_sound (tbl := [(6, [2], l21_6), (10, [4], l21_10)]) (μ := []) mixed _ _ _ (by
    have h1 := Vt.sound _ h
    refine Eq.mp ?_ h1
    kernel_rfl)) N x o h
noncomputable def V21 (N : Nat) (a0 : Bs) (a1 : Int) : Vt Int (Option D) (fun q => some (E21 q)) :=
  .f1 (l := l21_1) (o := W21_1 N (a0, a1)) (WS21_1 N (a0, a1)) (fun x1 => .leaf x1.2)
noncomputable def F21 (N : Nat) (a0 : Bs) (a1 : Int) : Option Int := (V21 N a0 a1).eval
def t21 : List (Nat × List Nat × List (Nat × Sh)) := [(6, [2], l21_6), (10, [4], l21_10), (1, [0], l21_1)]
theorem P21 (N : Nat) (a0 : Bs) (a1 : Int) : ∀ r, F21 N a0 a1 = some r → Spec Try.prog 21 [.val tS a0, .val tI a1] (E21 r) := fun r h => Spec_of (fn := Try.f21) rfl rfl rfl rfl false (wpc_sound (tbl := t21) (μ := []) mixed _ _ _ (by
  have h1 := Vt.sound _ h
  refine Eq.mp ?_ h1
  kernel_rfl))

/-! ferryslip/ferryslipref02.open -/
def E22 : Int → D := fun x => encV tI x
abbrev l22_2 : List (Nat × Sh) := [(0, .val tS), (5, .val tI)]
noncomputable def b22_2 : Code := loopBody 2 (bodyOf Try.f22)
noncomputable def U22_2 (N : Nat) (s0 : Bs) (s5 : Int) : Vt (Lp (shTy l22_2).I Int) (O3 (Option D)) (encO 80 l22_2 [2] (fun q => some (E22 q))) :=
  .br (decide (s5 < (s0.length : Int))) (.ck (inR s5 s0.length) (.br ((byteAt s0 s5) == 32) (.leaf (.next (s0, (IntKind.i64.wrap (s5 + 1))))) (.ck (inR s5 s0.length) (.br ((byteAt s0 s5) == 9) (.leaf (.next (s0, (IntKind.i64.wrap (s5 + 1))))) (.ck (inR s5 s0.length) (.br ((byteAt s0 s5) == 10) (.leaf (.next (s0, (IntKind.i64.wrap (s5 + 1))))) (.ck (inR s5 s0.length) (.br ((byteAt s0 s5) == 13) (.leaf (.next (s0, (IntKind.i64.wrap (s5 + 1))))) (.leaf (.brk 0 (s0, s5))))))))))) (.leaf (.brk 0 (s0, s5)))
noncomputable def L22_2 (N : Nat) (s0 : Bs) (s5 : Int) : Option (Lp (Bs × Int) Int) := (U22_2 N s0 s5).eval
noncomputable def W22_2 (N : Nat) (x : (Bs × Int)) : Option (Lp (Bs × Int) Int) := runLoop (fun x => L22_2 N x.1 x.2) N x
theorem WS22_2 (N : Nat) (x : (shTy l22_2).I) : ∀ o, W22_2 N x = some o → S Try.prog (.loop b22_2) (buildSt 80 l22_2 x) (stepZ (rdD Try.prog Try.f22 false) l22_2 (encO 80 l22_2 [2] (fun q => some (E22 q)) o)) :=
  fun o h => loop_S (l := l22_2) (step := fun x => L22_2 N x.1 x.2) (fun x o h => wpc_sound (tbl := []) (μ := []) mixed _ _ _ (by
    have h1 := Vt.sound _ h
    refine Eq.mp ?_ h1
    kernel_rfl)) N x o h
abbrev l22_5 : List (Nat × Sh) := [(0, .val tS), (5, .val tI)]
noncomputable def b22_5 : Code := loopBody 5 (bodyOf Try.f22)
noncomputable def U22_5 (N : Nat) (s0 : Bs) (s5 : Int) : Vt (Lp (shTy l22_5).I Int) (O3 (Option D)) (encO 80 l22_5 [4] (fun q => some (E22 q))) :=
  .ck (inR s5 s0.length) (.br ((byteAt s0 s5) != 10) (.leaf (.next (s0, (IntKind.i64.wrap (s5 + 1))))) (.leaf (.brk 0 (s0, s5))))
noncomputable def L22_5 (N : Nat) (s0 : Bs) (s5 : Int) : Option (Lp (Bs × Int) Int) := (U22_5 N s0 s5).eval
noncomputable def W22_5 (N : Nat) (x : (Bs × Int)) : Option (Lp (Bs × Int) Int) := runLoop (fun x => L22_5 N x.1 x.2) N x
theorem WS22_5 (N : Nat) (x : (shTy l22_5).I) : ∀ o, W22_5 N x = some o → S Try.prog (.loop b22_5) (buildSt 80 l22_5 x) (stepZ (rdD Try.prog Try.f22 false) l22_5 (encO 80 l22_5 [4] (fun q => some (E22 q)) o)) :=
  fun o h => loop_S (l := l22_5) (step := fun x => L22_5 N x.1 x.2) (fun x o h => wpc_sound (tbl := [(2, [2], l22_2)]) (μ := []) mixed _ _ _ (by
    have h1 := Vt.sound _ h
    refine Eq.mp ?_ h1
    kernel_rfl)) N x o h
abbrev l22_9 : List (Nat × Sh) := [(0, .val tS), (5, .val tI), (6, .val tI)]
noncomputable def b22_9 : Code := loopBody 9 (bodyOf Try.f22)
noncomputable def U22_9 (N : Nat) (s0 : Bs) (s5 : Int) (s6 : Int) : Vt (Lp (shTy l22_9).I Int) (O3 (Option D)) (encO 80 l22_9 [6] (fun q => some (E22 q))) :=
  .br (decide ((IntKind.i64.wrap (s6 + 1)) < (s0.length : Int))) (.ck (inR s6 s0.length) (.br ((byteAt s0 s6) == 42) (.ck (inR (IntKind.i64.wrap (s6 + 1)) s0.length) (.br (!((byteAt s0 (IntKind.i64.wrap (s6 + 1))) == 47)) (.leaf (.next (s0, s5, (IntKind.i64.wrap (s6 + 1))))) (.leaf (.brk 0 (s0, s5, s6))))) (.leaf (.next (s0, s5, (IntKind.i64.wrap (s6 + 1))))))) (.leaf (.brk 0 (s0, s5, s6)))
noncomputable def L22_9 (N : Nat) (s0 : Bs) (s5 : Int) (s6 : Int) : Option (Lp (Bs × Int × Int) Int) := (U22_9 N s0 s5 s6).eval
noncomputable def W22_9 (N : Nat) (x : (Bs × Int × Int)) : Option (Lp (Bs × Int × Int) Int) := runLoop (fun x => L22_9 N x.1 x.2.1 x.2.2) N x
theorem WS22_9 (N : Nat) (x : (shTy l22_9).I) : ∀ o, W22_9 N x = some o → S Try.prog (.loop b22_9) (buildSt 80 l22_9 x) (stepZ (rdD Try.prog Try.f22 false) l22_9 (encO 80 l22_9 [6] (fun q => some (E22 q)) o)) :=
  fun o h => loop_S (l := l22_9) (step := fun x => L22_9 N x.1 x.2.1 x.2.2) (fun x o h => wpc_sound (tbl := [(2, [2], l22_2), (5, [4], l22_5)]) (μ := []) mixed _ _ _ (by
    have h1 := Vt.sound _ h
    refine Eq.mp ?_ h1
    kernel_rfl)) N x o h
abbrev l22_1 : List (Nat × Sh) := [(0, .val tS), (1, .val tI)]
noncomputable def b22_1 : Code := loopBody 1 (bodyOf Try.f22)
noncomputable def U22_1 (N : Nat) (s0 : Bs) (s1 : Int) : Vt (Lp (shTy l22_1).I Int) (O3 (Option D)) (encO 80 l22_1 [] (fun q => some (E22 q))) :=
  .g1 (l := l22_2) (o := W22_2 N (s0, s1)) (WS22_2 N (s0, s1)) (fun x1 => .ck (inR x1.2 x1.1.length) (.br ((byteAt x1.1 x1.2) == 35) (.g1 (l := l22_5) (o := W22_5 N (x1.1, x1.2)) (WS22_5 N (x1.1, x1.2)) (fun x2 => .leaf (.next (x2.1, x2.2)))) (.g1 (l := l22_9) (o := W22_9 N (x1.1, x1.2, (IntKind.i64.wrap (x1.2 + 2)))) (WS22_9 N (x1.1, x1.2, (IntKind.i64.wrap (x1.2 + 2)))) (fun x3 => .br (decide ((x3.1.length : Int) ≤ (IntKind.i64.wrap (x3.2.2 + 1)))) (.leaf (.ret x3.2.1)) (.leaf (.next (x3.1, (IntKind.i64.wrap (x3.2.2 + 2)))))))))
noncomputable def L22_1 (N : Nat) (s0 : Bs) (s1 : Int) : Option (Lp (Bs × Int) Int) := (U22_1 N s0 s1).eval
noncomputable def W22_1 (N : Nat) (x : (Bs × Int)) : Option (Lp (Bs × Int) Int) := runLoop (fun x => L22_1 N x.1 x.2) N x
theorem WS22_1 (N : Nat) (x : (shTy l22_1).I) : ∀ o, W22_1 N x = some o → S Try.prog (.loop b22_1) (buildSt 80 l22_1 x) (stepZ (rdD Try.prog Try.f22 false) l22_1 (encO 80 l22_1 [] (fun q => some (E22 q)) o)) :=
  fun o h => loop_S (l := l22_1) (step := fun x => L22_1 N x.1 x.2) (fun x o h => wpc_sound (tbl := [(2, [2], l22_2), (5, [4], l22_5), (9, [6], l22_9)]) (μ := []) mixed _ _ _ (by
    have h1 := Vt.sound _ h
    refine Eq.mp ?_ h1
    kernel_rfl)) N x o h
noncomputable def V22 (N : Nat) (a0 : Bs) (a1 : Int) : Vt Int (Option D) (fun q => some (E22 q)) :=
  .f0 (l := l22_1) (o := W22_1 N (a0, a1)) (WS22_1 N (a0, a1))
noncomputable def F22 (N : Nat) (a0 : Bs) (a1 : Int) : Option Int := (V22 N a0 a1).eval
def t22 : List (Nat × List Nat × List (Nat × Sh)) := [(2, [2], l22_2), (5, [4], l22_5), (9, [6], l22_9), (1, [], l22_1)]
theorem P22 (N : Nat) (a0 : Bs) (a1 : Int) : ∀ r, F22 N a0 a1 = some r → Spec Try.prog 22 [.val tS a0, .val tI a1] (E22 r) := fun r h => Spec_of (fn := Try.f22) rfl rfl rfl rfl false (wpc_sound (tbl := t22) (μ := []) mixed _ _ _ (by
  have h1 := Vt.sound _ h
  refine Eq.mp ?_ h1
  kernel_rfl))

/-! ferryslip/ferryslipref01.bare -/
def E34 : Bool → D := fun x => encV tB x
noncomputable def V34 (N : Nat) (a0 : Int) : Vt Bool (Option D) (fun q => some (E34 q)) :=
  .br (decide ((97 : Int) ≤ a0)) (.br (decide (a0 ≤ 122)) (.leaf true) (.br (decide ((65 : Int) ≤ a0)) (.br (decide (a0 ≤ 90)) (.leaf true) (.br (decide ((48 : Int) ≤ a0)) (.br (decide (a0 ≤ 57)) (.leaf true) (.br (a0 == 45) (.leaf true) (.br (a0 == 95) (.leaf true) (.br (a0 == 46) (.leaf true) (.br (a0 == 47) (.leaf true) (.br (a0 == 58) (.leaf true) (.leaf (a0 == 42)))))))) (.br (a0 == 45) (.leaf true) (.br (a0 == 95) (.leaf true) (.br (a0 == 46) (.leaf true) (.br (a0 == 47) (.leaf true) (.br (a0 == 58) (.leaf true) (.leaf (a0 == 42))))))))) (.br (decide ((48 : Int) ≤ a0)) (.br (decide (a0 ≤ 57)) (.leaf true) (.br (a0 == 45) (.leaf true) (.br (a0 == 95) (.leaf true) (.br (a0 == 46) (.leaf true) (.br (a0 == 47) (.leaf true) (.br (a0 == 58) (.leaf true) (.leaf (a0 == 42)))))))) (.br (a0 == 45) (.leaf true) (.br (a0 == 95) (.leaf true) (.br (a0 == 46) (.leaf true) (.br (a0 == 47) (.leaf true) (.br (a0 == 58) (.leaf true) (.leaf (a0 == 42)))))))))) (.br (decide ((65 : Int) ≤ a0)) (.br (decide (a0 ≤ 90)) (.leaf true) (.br (decide ((48 : Int) ≤ a0)) (.br (decide (a0 ≤ 57)) (.leaf true) (.br (a0 == 45) (.leaf true) (.br (a0 == 95) (.leaf true) (.br (a0 == 46) (.leaf true) (.br (a0 == 47) (.leaf true) (.br (a0 == 58) (.leaf true) (.leaf (a0 == 42)))))))) (.br (a0 == 45) (.leaf true) (.br (a0 == 95) (.leaf true) (.br (a0 == 46) (.leaf true) (.br (a0 == 47) (.leaf true) (.br (a0 == 58) (.leaf true) (.leaf (a0 == 42))))))))) (.br (decide ((48 : Int) ≤ a0)) (.br (decide (a0 ≤ 57)) (.leaf true) (.br (a0 == 45) (.leaf true) (.br (a0 == 95) (.leaf true) (.br (a0 == 46) (.leaf true) (.br (a0 == 47) (.leaf true) (.br (a0 == 58) (.leaf true) (.leaf (a0 == 42)))))))) (.br (a0 == 45) (.leaf true) (.br (a0 == 95) (.leaf true) (.br (a0 == 46) (.leaf true) (.br (a0 == 47) (.leaf true) (.br (a0 == 58) (.leaf true) (.leaf (a0 == 42)))))))))
noncomputable def F34 (N : Nat) (a0 : Int) : Option Bool := (V34 N a0).eval
def t34 : List (Nat × List Nat × List (Nat × Sh)) := []
theorem P34 (N : Nat) (a0 : Int) : ∀ r, F34 N a0 = some r → Spec Try.prog 34 [.val (.int .u8) a0] (E34 r) := fun r h => Spec_of (fn := Try.f34) rfl rfl rfl rfl false (wpc_sound (tbl := t34) (μ := []) mixed _ _ _ (by
  have h1 := Vt.sound _ h
  refine Eq.mp ?_ h1
  kernel_rfl))

/-! ferryslip/ferryslipref01.Scan -/
def E23 : (Int × Bool) → D := fun x => .tup [encV tI x.1, encV tB x.2]
abbrev l23_5 : List (Nat × Sh) := [(0, .val tS), (1, .val tI), (6, .val tI)]
noncomputable def b23_5 : Code := loopBody 5 (bodyOf Try.f23)
noncomputable def U23_5 (N : Nat) (s0 : Bs) (s1 : Int) (s6 : Int) : Vt (Lp (shTy l23_5).I (Int × Bool)) (O3 (Option D)) (encO 57 l23_5 [0] (fun q => some (E23 q))) :=
  .br (decide (s6 < (s0.length : Int))) (.ck (inR s6 s0.length) (.c1 (P34 N (byteAt s0 s6)) (fun x1 => .br x1 (.leaf (.next (s0, s1, (IntKind.i64.wrap (s6 + 1))))) (.leaf (.brk 0 (s0, s1, s6)))))) (.leaf (.brk 0 (s0, s1, s6)))
noncomputable def L23_5 (N : Nat) (s0 : Bs) (s1 : Int) (s6 : Int) : Option (Lp (Bs × Int × Int) (Int × Bool)) := (U23_5 N s0 s1 s6).eval
noncomputable def W23_5 (N : Nat) (x : (Bs × Int × Int)) : Option (Lp (Bs × Int × Int) (Int × Bool)) := runLoop (fun x => L23_5 N x.1 x.2.1 x.2.2) N x
theorem WS23_5 (N : Nat) (x : (shTy l23_5).I) : ∀ o, W23_5 N x = some o → S Try.prog (.loop b23_5) (buildSt 57 l23_5 x) (stepZ (rdD Try.prog Try.f23 false) l23_5 (encO 57 l23_5 [0] (fun q => some (E23 q)) o)) :=
  fun o h => loop_S (l := l23_5) (step := fun x => L23_5 N x.1 x.2.1 x.2.2) (fun x o h => wpc_sound (tbl := []) (μ := []) mixed _ _ _ (by
    have h1 := Vt.sound _ h
    refine Eq.mp ?_ h1
    kernel_rfl)) N x o h
abbrev l23_12 : List (Nat × Sh) := [(0, .val tS), (7, .val tB), (8, .val tI)]
noncomputable def b23_12 : Code := loopBody 12 (bodyOf Try.f23)
noncomputable def U23_12 (N : Nat) (s0 : Bs) (s7 : Bool) (s8 : Int) : Vt (Lp (shTy l23_12).I (Int × Bool)) (O3 (Option D)) (encO 57 l23_12 [2] (fun q => some (E23 q))) :=
  .br (decide (s8 < (s0.length : Int))) (.br s7 (.leaf (.next (s0, false, (IntKind.i64.wrap (s8 + 1))))) (.ck (inR s8 s0.length) (.br ((byteAt s0 s8) == 92) (.leaf (.next (s0, true, (IntKind.i64.wrap (s8 + 1))))) (.ck (inR s8 s0.length) (.br ((byteAt s0 s8) == 34) (.leaf (.ret ((IntKind.i64.wrap (s8 + 1)), true))) (.leaf (.next (s0, s7, (IntKind.i64.wrap (s8 + 1)))))))))) (.leaf (.brk 0 (s0, s7, s8)))
noncomputable def L23_12 (N : Nat) (s0 : Bs) (s7 : Bool) (s8 : Int) : Option (Lp (Bs × Bool × Int) (Int × Bool)) := (U23_12 N s0 s7 s8).eval
noncomputable def W23_12 (N : Nat) (x : (Bs × Bool × Int)) : Option (Lp (Bs × Bool × Int) (Int × Bool)) := runLoop (fun x => L23_12 N x.1 x.2.1 x.2.2) N x
theorem WS23_12 (N : Nat) (x : (shTy l23_12).I) : ∀ o, W23_12 N x = some o → S Try.prog (.loop b23_12) (buildSt 57 l23_12 x) (stepZ (rdD Try.prog Try.f23 false) l23_12 (encO 57 l23_12 [2] (fun q => some (E23 q)) o)) :=
  fun o h => loop_S (l := l23_12) (step := fun x => L23_12 N x.1 x.2.1 x.2.2) (fun x o h => wpc_sound (tbl := [(5, [0], l23_5)]) (μ := []) mixed _ _ _ (by
    have h1 := Vt.sound _ h
    refine Eq.mp ?_ h1
    kernel_rfl)) N x o h
noncomputable def V23 (N : Nat) (a0 : Bs) (a1 : Int) : Vt (Int × Bool) (Option D) (fun q => some (E23 q)) :=
  .br (decide (a1 < 0)) (.leaf (0, false)) (.br (decide ((a0.length : Int) ≤ a1)) (.leaf (0, false)) (.ck (inR a1 a0.length) (.br ((byteAt a0 a1) != 34) (.f1 (l := l23_5) (o := W23_5 N (a0, a1, a1)) (WS23_5 N (a0, a1, a1)) (fun x1 => .br (x1.2.2 == x1.2.1) (.leaf (0, false)) (.leaf (x1.2.2, true)))) (.f1 (l := l23_12) (o := W23_12 N (a0, false, (IntKind.i64.wrap (a1 + 1)))) (WS23_12 N (a0, false, (IntKind.i64.wrap (a1 + 1)))) (fun x2 => .leaf (0, false))))))
noncomputable def F23 (N : Nat) (a0 : Bs) (a1 : Int) : Option (Int × Bool) := (V23 N a0 a1).eval
def t23 : List (Nat × List Nat × List (Nat × Sh)) := [(5, [0], l23_5), (12, [2], l23_12)]
theorem P23 (N : Nat) (a0 : Bs) (a1 : Int) : ∀ r, F23 N a0 a1 = some r → Spec Try.prog 23 [.val tS a0, .val tI a1] (E23 r) := fun r h => Spec_of (fn := Try.f23) rfl rfl rfl rfl false (wpc_sound (tbl := t23) (μ := []) mixed _ _ _ (by
  have h1 := Vt.sound _ h
  refine Eq.mp ?_ h1
  kernel_rfl))

/-! ferryslip/ferryslipref01.Bare -/
def E27 : Bool → D := fun x => encV tB x
abbrev l27_4 : List (Nat × Sh) := [(0, .val tS), (3, .val tI)]
noncomputable def b27_4 : Code := loopBody 4 (bodyOf Try.f27)
noncomputable def U27_4 (N : Nat) (s0 : Bs) (s3 : Int) : Vt (Lp (shTy l27_4).I Bool) (O3 (Option D)) (encO 40 l27_4 [0] (fun q => some (E27 q))) :=
  .br (decide (s3 < (s0.length : Int))) (.ck (inR s3 s0.length) (.c1 (P34 N (byteAt s0 s3)) (fun x1 => .br (!x1) (.leaf (.ret false)) (.leaf (.next (s0, (IntKind.i64.wrap (s3 + 1)))))))) (.leaf (.brk 0 (s0, s3)))
noncomputable def L27_4 (N : Nat) (s0 : Bs) (s3 : Int) : Option (Lp (Bs × Int) Bool) := (U27_4 N s0 s3).eval
noncomputable def W27_4 (N : Nat) (x : (Bs × Int)) : Option (Lp (Bs × Int) Bool) := runLoop (fun x => L27_4 N x.1 x.2) N x
theorem WS27_4 (N : Nat) (x : (shTy l27_4).I) : ∀ o, W27_4 N x = some o → S Try.prog (.loop b27_4) (buildSt 40 l27_4 x) (stepZ (rdD Try.prog Try.f27 false) l27_4 (encO 40 l27_4 [0] (fun q => some (E27 q)) o)) :=
  fun o h => loop_S (l := l27_4) (step := fun x => L27_4 N x.1 x.2) (fun x o h => wpc_sound (tbl := []) (μ := []) mixed _ _ _ (by
    have h1 := Vt.sound _ h
    refine Eq.mp ?_ h1
    kernel_rfl)) N x o h
noncomputable def V27 (N : Nat) (a0 : Bs) : Vt Bool (Option D) (fun q => some (E27 q)) :=
  .br (a0 == ([] : Bs)) (.leaf false) (.br (a0 == ([105, 110, 97, 99, 116, 105, 118, 101, 58] : Bs)) (.leaf false) (.br (a0 == ([112, 114, 111, 116, 101, 99, 116, 58] : Bs)) (.leaf false) (.br (decide ((1 : Int) < (a0.length : Int))) (.ck (inR 0 a0.length) (.br ((byteAt a0 0) == 47) (.ck (inR 1 a0.length) (.br ((byteAt a0 1) == 42) (.leaf false) (.f1 (l := l27_4) (o := W27_4 N (a0, 0)) (WS27_4 N (a0, 0)) (fun x1 => .leaf true)))) (.f1 (l := l27_4) (o := W27_4 N (a0, 0)) (WS27_4 N (a0, 0)) (fun x2 => .leaf true)))) (.f1 (l := l27_4) (o := W27_4 N (a0, 0)) (WS27_4 N (a0, 0)) (fun x3 => .leaf true)))))
noncomputable def F27 (N : Nat) (a0 : Bs) : Option Bool := (V27 N a0).eval
def t27 : List (Nat × List Nat × List (Nat × Sh)) := [(4, [0], l27_4)]
theorem P27 (N : Nat) (a0 : Bs) : ∀ r, F27 N a0 = some r → Spec Try.prog 27 [.val tS a0] (E27 r) := fun r h => Spec_of (fn := Try.f27) rfl rfl rfl rfl false (wpc_sound (tbl := t27) (μ := []) mixed _ _ _ (by
  have h1 := Vt.sound _ h
  refine Eq.mp ?_ h1
  kernel_rfl))

/-! ferryslip/ferryslipref01.value -/
def E35 : Int → D := fun x => encV tI x
noncomputable def V35 (N : Nat) (a0 : Int) : Vt Int (Option D) (fun q => some (E35 q)) :=
  .br (decide ((48 : Int) ≤ a0)) (.br (decide (a0 ≤ 57)) (.leaf (IntKind.i64.wrap (IntKind.u8.wrap (a0 - 48)))) (.br (decide ((97 : Int) ≤ a0)) (.br (decide (a0 ≤ 102)) (.leaf (IntKind.i64.wrap ((IntKind.i64.wrap (IntKind.u8.wrap (a0 - 97))) + 10))) (.leaf (-1))) (.leaf (-1)))) (.br (decide ((97 : Int) ≤ a0)) (.br (decide (a0 ≤ 102)) (.leaf (IntKind.i64.wrap ((IntKind.i64.wrap (IntKind.u8.wrap (a0 - 97))) + 10))) (.leaf (-1))) (.leaf (-1)))
noncomputable def F35 (N : Nat) (a0 : Int) : Option Int := (V35 N a0).eval
def t35 : List (Nat × List Nat × List (Nat × Sh)) := []
theorem P35 (N : Nat) (a0 : Int) : ∀ r, F35 N a0 = some r → Spec Try.prog 35 [.val (.int .u8) a0] (E35 r) := fun r h => Spec_of (fn := Try.f35) rfl rfl rfl rfl false (wpc_sound (tbl := t35) (μ := []) mixed _ _ _ (by
  have h1 := Vt.sound _ h
  refine Eq.mp ?_ h1
  kernel_rfl))

/-! ferryslip/ferryslipref01.Unquote -/
def E24 : (Bs × Int) → D := fun x => .tup [encV tS x.1, encV tI x.2]
abbrev l24_9 : List (Nat × Sh) := [(0, .val tS), (4, .row false 56 5 (.int .u8)), (5, .val tI)]
noncomputable def b24_9 : Code := loopBody 9 (bodyOf Try.f24)
noncomputable def U24_9 (N : Nat) (s0 : Bs) (s4 : (List Int)) (s5 : Int) : Vt (Lp (shTy l24_9).I (Bs × Int)) (O3 (Option D)) (encO 123 l24_9 [0] (fun q => some (E24 q))) :=
  .br (decide (s5 < (IntKind.i64.wrap ((s0.length : Int) - 1)))) (.ck (inR s5 s0.length) (.br (decide ((byteAt s0 s5) < 32)) (.leaf (.ret (([] : Bs), 2))) (.br (decide ((126 : Int) < (byteAt s0 s5))) (.leaf (.ret (([] : Bs), 2))) (.br ((byteAt s0 s5) == 34) (.leaf (.ret (([] : Bs), 2))) (.br ((byteAt s0 s5) != 92) (.ck (room (s4.length + ([(byteAt s0 s5)] : (List Int)).length)) (.leaf (.next (s0, (s4 ++ ([(byteAt s0 s5)] : (List Int))), (IntKind.i64.wrap (s5 + 1)))))) (.ck ((0 : Int) ≤ (IntKind.i64.wrap (s5 + 1)) ∧ (IntKind.i64.wrap (s5 + 1)) ≤ (IntKind.i64.wrap ((s0.length : Int) - 1)) ∧ (IntKind.i64.wrap ((s0.length : Int) - 1)) ≤ (s0.length : Int)) (.br (decide ((0 : Int) < ((slc s0 (IntKind.i64.wrap (s5 + 1)) (IntKind.i64.wrap ((s0.length : Int) - 1))).length : Int))) (.ck (inR 0 (slc s0 (IntKind.i64.wrap (s5 + 1)) (IntKind.i64.wrap ((s0.length : Int) - 1))).length) (.br ((byteAt (slc s0 (IntKind.i64.wrap (s5 + 1)) (IntKind.i64.wrap ((s0.length : Int) - 1))) 0) == 34) (.ck (inR 0 (slc s0 (IntKind.i64.wrap (s5 + 1)) (IntKind.i64.wrap ((s0.length : Int) - 1))).length) (.ck (room (s4.length + ([(byteAt (slc s0 (IntKind.i64.wrap (s5 + 1)) (IntKind.i64.wrap ((s0.length : Int) - 1))) 0)] : (List Int)).length)) (.leaf (.next (s0, (s4 ++ ([(byteAt (slc s0 (IntKind.i64.wrap (s5 + 1)) (IntKind.i64.wrap ((s0.length : Int) - 1))) 0)] : (List Int))), (IntKind.i64.wrap ((IntKind.i64.wrap (s5 + 1)) + 1))))))) (.ck (inR 0 (slc s0 (IntKind.i64.wrap (s5 + 1)) (IntKind.i64.wrap ((s0.length : Int) - 1))).length) (.br ((byteAt (slc s0 (IntKind.i64.wrap (s5 + 1)) (IntKind.i64.wrap ((s0.length : Int) - 1))) 0) == 92) (.ck (inR 0 (slc s0 (IntKind.i64.wrap (s5 + 1)) (IntKind.i64.wrap ((s0.length : Int) - 1))).length) (.ck (room (s4.length + ([(byteAt (slc s0 (IntKind.i64.wrap (s5 + 1)) (IntKind.i64.wrap ((s0.length : Int) - 1))) 0)] : (List Int)).length)) (.leaf (.next (s0, (s4 ++ ([(byteAt (slc s0 (IntKind.i64.wrap (s5 + 1)) (IntKind.i64.wrap ((s0.length : Int) - 1))) 0)] : (List Int))), (IntKind.i64.wrap ((IntKind.i64.wrap (s5 + 1)) + 1))))))) (.br (decide (((slc s0 (IntKind.i64.wrap (s5 + 1)) (IntKind.i64.wrap ((s0.length : Int) - 1))).length : Int) < 3)) (.leaf (.ret (([] : Bs), 2))) (.ck (inR 0 (slc s0 (IntKind.i64.wrap (s5 + 1)) (IntKind.i64.wrap ((s0.length : Int) - 1))).length) (.br ((byteAt (slc s0 (IntKind.i64.wrap (s5 + 1)) (IntKind.i64.wrap ((s0.length : Int) - 1))) 0) != 120) (.leaf (.ret (([] : Bs), 2))) (.ck (inR 1 (slc s0 (IntKind.i64.wrap (s5 + 1)) (IntKind.i64.wrap ((s0.length : Int) - 1))).length) (.c1 (P35 N (byteAt (slc s0 (IntKind.i64.wrap (s5 + 1)) (IntKind.i64.wrap ((s0.length : Int) - 1))) 1)) (fun x1 => .br (decide (x1 < 0)) (.leaf (.ret (([] : Bs), 2))) (.ck (inR 2 (slc s0 (IntKind.i64.wrap (s5 + 1)) (IntKind.i64.wrap ((s0.length : Int) - 1))).length) (.c1 (P35 N (byteAt (slc s0 (IntKind.i64.wrap (s5 + 1)) (IntKind.i64.wrap ((s0.length : Int) - 1))) 2)) (fun x2 => .br (decide (x2 < 0)) (.leaf (.ret (([] : Bs), 2))) (.ck (inR 1 (slc s0 (IntKind.i64.wrap (s5 + 1)) (IntKind.i64.wrap ((s0.length : Int) - 1))).length) (.c1 (P35 N (byteAt (slc s0 (IntKind.i64.wrap (s5 + 1)) (IntKind.i64.wrap ((s0.length : Int) - 1))) 1)) (fun x3 => .ck (inR 2 (slc s0 (IntKind.i64.wrap (s5 + 1)) (IntKind.i64.wrap ((s0.length : Int) - 1))).length) (.c1 (P35 N (byteAt (slc s0 (IntKind.i64.wrap (s5 + 1)) (IntKind.i64.wrap ((s0.length : Int) - 1))) 2)) (fun x4 => .ck (room (s4.length + ([(IntKind.u8.wrap (IntKind.i64.wrap ((IntKind.i64.wrap (16 * x3)) + x4)))] : (List Int)).length)) (.leaf (.next (s0, (s4 ++ ([(IntKind.u8.wrap (IntKind.i64.wrap ((IntKind.i64.wrap (16 * x3)) + x4)))] : (List Int))), (IntKind.i64.wrap ((IntKind.i64.wrap (s5 + 3)) + 1))))))))))))))))))))))) (.br (decide (((slc s0 (IntKind.i64.wrap (s5 + 1)) (IntKind.i64.wrap ((s0.length : Int) - 1))).length : Int) < 3)) (.leaf (.ret (([] : Bs), 2))) (.ck (inR 0 (slc s0 (IntKind.i64.wrap (s5 + 1)) (IntKind.i64.wrap ((s0.length : Int) - 1))).length) (.br ((byteAt (slc s0 (IntKind.i64.wrap (s5 + 1)) (IntKind.i64.wrap ((s0.length : Int) - 1))) 0) != 120) (.leaf (.ret (([] : Bs), 2))) (.ck (inR 1 (slc s0 (IntKind.i64.wrap (s5 + 1)) (IntKind.i64.wrap ((s0.length : Int) - 1))).length) (.c1 (P35 N (byteAt (slc s0 (IntKind.i64.wrap (s5 + 1)) (IntKind.i64.wrap ((s0.length : Int) - 1))) 1)) (fun x5 => .br (decide (x5 < 0)) (.leaf (.ret (([] : Bs), 2))) (.ck (inR 2 (slc s0 (IntKind.i64.wrap (s5 + 1)) (IntKind.i64.wrap ((s0.length : Int) - 1))).length) (.c1 (P35 N (byteAt (slc s0 (IntKind.i64.wrap (s5 + 1)) (IntKind.i64.wrap ((s0.length : Int) - 1))) 2)) (fun x6 => .br (decide (x6 < 0)) (.leaf (.ret (([] : Bs), 2))) (.ck (inR 1 (slc s0 (IntKind.i64.wrap (s5 + 1)) (IntKind.i64.wrap ((s0.length : Int) - 1))).length) (.c1 (P35 N (byteAt (slc s0 (IntKind.i64.wrap (s5 + 1)) (IntKind.i64.wrap ((s0.length : Int) - 1))) 1)) (fun x7 => .ck (inR 2 (slc s0 (IntKind.i64.wrap (s5 + 1)) (IntKind.i64.wrap ((s0.length : Int) - 1))).length) (.c1 (P35 N (byteAt (slc s0 (IntKind.i64.wrap (s5 + 1)) (IntKind.i64.wrap ((s0.length : Int) - 1))) 2)) (fun x8 => .ck (room (s4.length + ([(IntKind.u8.wrap (IntKind.i64.wrap ((IntKind.i64.wrap (16 * x7)) + x8)))] : (List Int)).length)) (.leaf (.next (s0, (s4 ++ ([(IntKind.u8.wrap (IntKind.i64.wrap ((IntKind.i64.wrap (16 * x7)) + x8)))] : (List Int))), (IntKind.i64.wrap ((IntKind.i64.wrap (s5 + 3)) + 1)))))))))))))))))))))))))) (.leaf (.brk 0 (s0, s4, s5)))
noncomputable def L24_9 (N : Nat) (s0 : Bs) (s4 : (List Int)) (s5 : Int) : Option (Lp (Bs × (List Int) × Int) (Bs × Int)) := (U24_9 N s0 s4 s5).eval
noncomputable def W24_9 (N : Nat) (x : (Bs × (List Int) × Int)) : Option (Lp (Bs × (List Int) × Int) (Bs × Int)) := runLoop (fun x => L24_9 N x.1 x.2.1 x.2.2) N x
theorem WS24_9 (N : Nat) (x : (shTy l24_9).I) : ∀ o, W24_9 N x = some o → S Try.prog (.loop b24_9) (buildSt 123 l24_9 x) (stepZ (rdD Try.prog Try.f24 false) l24_9 (encO 123 l24_9 [0] (fun q => some (E24 q)) o)) :=
  fun o h => loop_S (l := l24_9) (step := fun x => L24_9 N x.1 x.2.1 x.2.2) (fun x o h => wpc_sound (tbl := []) (μ := []) mixed _ _ _ (by
    have h1 := Vt.sound _ h
    refine Eq.mp ?_ h1
    kernel_rfl)) N x o h
noncomputable def V24 (N : Nat) (a0 : Bs) : Vt (Bs × Int) (Option D) (fun q => some (E24 q)) :=
  .br (decide ((a0.length : Int) < 2)) (.c1 (P27 N a0) (fun x1 => .br (!x1) (.leaf (([] : Bs), 2)) (.br (decide ((40 : Int) < (a0.length : Int))) (.leaf (([] : Bs), 5)) (.leaf (a0, 0))))) (.ck (inR 0 a0.length) (.br ((byteAt a0 0) != 34) (.c1 (P27 N a0) (fun x2 => .br (!x2) (.leaf (([] : Bs), 2)) (.br (decide ((40 : Int) < (a0.length : Int))) (.leaf (([] : Bs), 5)) (.leaf (a0, 0))))) (.ck (inR (IntKind.i64.wrap ((a0.length : Int) - 1)) a0.length) (.br ((byteAt a0 (IntKind.i64.wrap ((a0.length : Int) - 1))) != 34) (.c1 (P27 N a0) (fun x3 => .br (!x3) (.leaf (([] : Bs), 2)) (.br (decide ((40 : Int) < (a0.length : Int))) (.leaf (([] : Bs), 5)) (.leaf (a0, 0))))) (.f1 (l := l24_9) (o := W24_9 N (a0, ([] : (List Int)), 1)) (WS24_9 N (a0, ([] : (List Int)), 1)) (fun x1 => .br (decide ((40 : Int) < (x1.2.1.length : Int))) (.leaf (([] : Bs), 5)) (.leaf ((strOf x1.2.1), 0))))))))
noncomputable def F24 (N : Nat) (a0 : Bs) : Option (Bs × Int) := (V24 N a0).eval
def t24 : List (Nat × List Nat × List (Nat × Sh)) := [(9, [0], l24_9)]
theorem P24 (N : Nat) (a0 : Bs) : ∀ r, F24 N a0 = some r → Spec Try.prog 24 [.val tS a0] (E24 r) := fun r h => Spec_of (fn := Try.f24) rfl rfl rfl rfl false (wpc_sound (tbl := t24) (μ := []) mixed _ _ _ (by
  have h1 := Vt.sound _ h
  refine Eq.mp ?_ h1
  kernel_rfl))

/-! ferryslip/ferryslipref02.All -/
def E12 : ((List (Int × Ln)) × Int × Int) → D := fun x => .tup [encV (.list (.pair tI tLn)) x.1, encV tI x.2.1, encV tI x.2.2]
abbrev l12_3 : List (Nat × Sh) := [(0, .val tS), (5, .row false 85 49 (.pair tI tLn)), (6, .val tI)]
noncomputable def b12_3 : Code := loopBody 3 (bodyOf Try.f12)
noncomputable def U12_3 (N : Nat) (s0 : Bs) (s5 : (List (Int × Ln))) (s6 : Int) : Vt (Lp (shTy l12_3).I ((List (Int × Ln)) × Int × Int)) (O3 (Option D)) (encO 87 l12_3 [] (fun q => some (E12 q))) :=
  .c1 (P21 N s0 s6) (fun x1 => .br (decide (x1 < 0)) (.c1 (P22 N s0 s6) (fun x2 => .leaf (.ret (([] : (List (Int × Ln))), x2, 2)))) (.br (x1 == (s0.length : Int)) (.leaf (.ret (s5, 0, 0))) (.ck (inR x1 s0.length) (.br ((byteAt s0 x1) == 123) (.ck (room (s5.length + ([(2, x1, ([] : Bs), 0)] : (List (Int × Ln))).length)) (.leaf (.next (s0, (s5 ++ ([(2, x1, ([] : Bs), 0)] : (List (Int × Ln)))), (IntKind.i64.wrap (x1 + 1)))))) (.br ((byteAt s0 x1) == 125) (.ck (room (s5.length + ([(3, x1, ([] : Bs), 0)] : (List (Int × Ln))).length)) (.leaf (.next (s0, (s5 ++ ([(3, x1, ([] : Bs), 0)] : (List (Int × Ln)))), (IntKind.i64.wrap (x1 + 1)))))) (.br ((byteAt s0 x1) == 59) (.ck (room (s5.length + ([(4, x1, ([] : Bs), 0)] : (List (Int × Ln))).length)) (.leaf (.next (s0, (s5 ++ ([(4, x1, ([] : Bs), 0)] : (List (Int × Ln)))), (IntKind.i64.wrap (x1 + 1)))))) (.c2 (P23 N s0 x1) (fun x3 x4 => .br (!x4) (.leaf (.ret (([] : (List (Int × Ln))), x1, 2))) (.ck ((0 : Int) ≤ x1 ∧ x1 ≤ x3 ∧ x3 ≤ (s0.length : Int)) (.c2 (P24 N (slc s0 x1 x3)) (fun x5 x6 => .ck ((0 : Int) ≤ x1 ∧ x1 ≤ x3 ∧ x3 ≤ (s0.length : Int)) (.br ((slc s0 x1 x3) == ([105, 110, 97, 99, 116, 105, 118, 101, 58] : Bs)) (.ck ((0 : Int) ≤ x1 ∧ x1 ≤ x3 ∧ x3 ≤ (s0.length : Int)) (.br ((slc s0 x1 x3) == ([112, 114, 111, 116, 101, 99, 116, 58] : Bs)) (.br ((0 : Int) != 0) (.leaf (.ret (([] : (List (Int × Ln))), x1, 0))) (.ck (room (s5.length + ([(5, x1, x5, 2)] : (List (Int × Ln))).length)) (.leaf (.next (s0, (s5 ++ ([(5, x1, x5, 2)] : (List (Int × Ln)))), x3))))) (.br ((0 : Int) != 0) (.leaf (.ret (([] : (List (Int × Ln))), x1, 0))) (.ck (room (s5.length + ([(5, x1, x5, 1)] : (List (Int × Ln))).length)) (.leaf (.next (s0, (s5 ++ ([(5, x1, x5, 1)] : (List (Int × Ln)))), x3))))))) (.ck ((0 : Int) ≤ x1 ∧ x1 ≤ x3 ∧ x3 ≤ (s0.length : Int)) (.br ((slc s0 x1 x3) == ([112, 114, 111, 116, 101, 99, 116, 58] : Bs)) (.br ((0 : Int) != 0) (.leaf (.ret (([] : (List (Int × Ln))), x1, 0))) (.ck (room (s5.length + ([(5, x1, x5, 2)] : (List (Int × Ln))).length)) (.leaf (.next (s0, (s5 ++ ([(5, x1, x5, 2)] : (List (Int × Ln)))), x3))))) (.br (x6 != 0) (.leaf (.ret (([] : (List (Int × Ln))), x1, x6))) (.ck (room (s5.length + ([(1, x1, x5, 0)] : (List (Int × Ln))).length)) (.leaf (.next (s0, (s5 ++ ([(1, x1, x5, 0)] : (List (Int × Ln)))), x3)))))))))))))))))))
noncomputable def L12_3 (N : Nat) (s0 : Bs) (s5 : (List (Int × Ln))) (s6 : Int) : Option (Lp (Bs × (List (Int × Ln)) × Int) ((List (Int × Ln)) × Int × Int)) := (U12_3 N s0 s5 s6).eval
noncomputable def W12_3 (N : Nat) (x : (Bs × (List (Int × Ln)) × Int)) : Option (Lp (Bs × (List (Int × Ln)) × Int) ((List (Int × Ln)) × Int × Int)) := runLoop (fun x => L12_3 N x.1 x.2.1 x.2.2) N x
theorem WS12_3 (N : Nat) (x : (shTy l12_3).I) : ∀ o, W12_3 N x = some o → S Try.prog (.loop b12_3) (buildSt 87 l12_3 x) (stepZ (rdD Try.prog Try.f12 false) l12_3 (encO 87 l12_3 [] (fun q => some (E12 q)) o)) :=
  fun o h => loop_S (l := l12_3) (step := fun x => L12_3 N x.1 x.2.1 x.2.2) (fun x o h => wpc_sound (tbl := []) (μ := []) mixed _ _ _ (by
    have h1 := Vt.sound _ h
    refine Eq.mp ?_ h1
    kernel_rfl)) N x o h
noncomputable def V12 (N : Nat) (a0 : Bs) : Vt ((List (Int × Ln)) × Int × Int) (Option D) (fun q => some (E12 q)) :=
  .f0 (l := l12_3) (o := W12_3 N (a0, ([] : (List (Int × Ln))), 0)) (WS12_3 N (a0, ([] : (List (Int × Ln))), 0))
noncomputable def F12 (N : Nat) (a0 : Bs) : Option ((List (Int × Ln)) × Int × Int) := (V12 N a0).eval
def t12 : List (Nat × List Nat × List (Nat × Sh)) := [(3, [], l12_3)]
theorem P12 (N : Nat) (a0 : Bs) : ∀ r, F12 N a0 = some r → Spec Try.prog 12 [.val tS a0] (E12 r) := fun r h => Spec_of (fn := Try.f12) rfl rfl rfl rfl false (wpc_sound (tbl := t12) (μ := []) mixed _ _ _ (by
  have h1 := Vt.sound _ h
  refine Eq.mp ?_ h1
  kernel_rfl))

/-! ferryslip/ferrysliplaw02.same -/
def E13 : Bool → D := fun x => encV tB x
abbrev l13_4 : List (Nat × Sh) := [(0, .val (.list (.pair tI tLn))), (1, .val (.list (.pair tI tLn))), (12, .val tI), (13, .val tI)]
noncomputable def b13_4 : Code := loopBody 4 (bodyOf Try.f13)
noncomputable def U13_4 (N : Nat) (s0 : (List (Int × Ln))) (s1 : (List (Int × Ln))) (s12 : Int) (s13 : Int) : Vt (Lp (shTy l13_4).I Bool) (O3 (Option D)) (encO 26 l13_4 [0] (fun q => some (E13 q))) :=
  .br (decide (s13 < s12)) (.ck (inR s13 s0.length) (.ck (inR s13 s1.length) (.br (!((((atI (.pair tI tLn) s0 s13).1) == ((atI (.pair tI tLn) s1 s13).1)) && ((((atI (.pair tI tLn) s0 s13).2.1) == ((atI (.pair tI tLn) s1 s13).2.1)) && ((((atI (.pair tI tLn) s0 s13).2.2.1) == ((atI (.pair tI tLn) s1 s13).2.2.1)) && ((((atI (.pair tI tLn) s0 s13).2.2.2) == ((atI (.pair tI tLn) s1 s13).2.2.2)) && true))))) (.leaf (.ret false)) (.leaf (.next (s0, s1, s12, (IntKind.i64.wrap (s13 + 1)))))))) (.leaf (.brk 0 (s0, s1, s12, s13)))
noncomputable def L13_4 (N : Nat) (s0 : (List (Int × Ln))) (s1 : (List (Int × Ln))) (s12 : Int) (s13 : Int) : Option (Lp ((List (Int × Ln)) × (List (Int × Ln)) × Int × Int) Bool) := (U13_4 N s0 s1 s12 s13).eval
noncomputable def W13_4 (N : Nat) (x : ((List (Int × Ln)) × (List (Int × Ln)) × Int × Int)) : Option (Lp ((List (Int × Ln)) × (List (Int × Ln)) × Int × Int) Bool) := runLoop (fun x => L13_4 N x.1 x.2.1 x.2.2.1 x.2.2.2) N x
theorem WS13_4 (N : Nat) (x : (shTy l13_4).I) : ∀ o, W13_4 N x = some o → S Try.prog (.loop b13_4) (buildSt 26 l13_4 x) (stepZ (rdD Try.prog Try.f13 false) l13_4 (encO 26 l13_4 [0] (fun q => some (E13 q)) o)) :=
  fun o h => loop_S (l := l13_4) (step := fun x => L13_4 N x.1 x.2.1 x.2.2.1 x.2.2.2) (fun x o h => wpc_sound (tbl := []) (μ := []) mixed _ _ _ (by
    have h1 := Vt.sound _ h
    refine Eq.mp ?_ h1
    kernel_rfl)) N x o h
noncomputable def V13 (N : Nat) (a0 : (List (Int × Ln))) (a1 : (List (Int × Ln))) : Vt Bool (Option D) (fun q => some (E13 q)) :=
  .br ((a0.length : Int) != (a1.length : Int)) (.leaf false) (.f1 (l := l13_4) (o := W13_4 N (a0, a1, (a0.length : Int), 0)) (WS13_4 N (a0, a1, (a0.length : Int), 0)) (fun x1 => .leaf true))
noncomputable def F13 (N : Nat) (a0 : (List (Int × Ln))) (a1 : (List (Int × Ln))) : Option Bool := (V13 N a0 a1).eval
def t13 : List (Nat × List Nat × List (Nat × Sh)) := [(4, [0], l13_4)]
theorem P13 (N : Nat) (a0 : (List (Int × Ln))) (a1 : (List (Int × Ln))) : ∀ r, F13 N a0 a1 = some r → Spec Try.prog 13 [.val (.list (.pair tI tLn)) a0, .val (.list (.pair tI tLn)) a1] (E13 r) := fun r h => Spec_of (fn := Try.f13) rfl rfl rfl rfl false (wpc_sound (tbl := t13) (μ := []) mixed _ _ _ (by
  have h1 := Vt.sound _ h
  refine Eq.mp ?_ h1
  kernel_rfl))

/-! ferryslip/ferrysliplaw02.refs -/
def E14o : (List (Int × Ln)) → D := fun x => .own 49 (.pair tI tLn) x
abbrev l14o_3 : List (Nat × Sh) := [(3, .row false 15 49 (.pair tI tLn)), (6, .val (.list (.pair tI tLn))), (7, .val tI), (8, .val tI)]
noncomputable def b14o_3 : Code := loopBody 3 (bodyOf Try.f14)
noncomputable def U14o_3 (N : Nat) (s3 : (List (Int × Ln))) (s6 : (List (Int × Ln))) (s7 : Int) (s8 : Int) : Vt (Lp (shTy l14o_3).I (List (Int × Ln))) (O3 (Option D)) (encO 18 l14o_3 [0] (fun q => some (E14o q))) :=
  .br (decide (s8 < s7)) (.ck (inR s8 s6.length) (.ck (room (s3.length + ([(atI (.pair tI tLn) s6 s8)] : (List (Int × Ln))).length)) (.leaf (.next ((s3 ++ ([(atI (.pair tI tLn) s6 s8)] : (List (Int × Ln)))), s6, s7, (IntKind.i64.wrap (s8 + 1))))))) (.leaf (.brk 0 (s3, s6, s7, s8)))
noncomputable def L14o_3 (N : Nat) (s3 : (List (Int × Ln))) (s6 : (List (Int × Ln))) (s7 : Int) (s8 : Int) : Option (Lp ((List (Int × Ln)) × (List (Int × Ln)) × Int × Int) (List (Int × Ln))) := (U14o_3 N s3 s6 s7 s8).eval
noncomputable def W14o_3 (N : Nat) (x : ((List (Int × Ln)) × (List (Int × Ln)) × Int × Int)) : Option (Lp ((List (Int × Ln)) × (List (Int × Ln)) × Int × Int) (List (Int × Ln))) := runLoop (fun x => L14o_3 N x.1 x.2.1 x.2.2.1 x.2.2.2) N x
theorem WS14o_3 (N : Nat) (x : (shTy l14o_3).I) : ∀ o, W14o_3 N x = some o → S Try.prog (.loop b14o_3) (buildSt 18 l14o_3 x) (stepZ (rdD Try.prog Try.f14 true) l14o_3 (encO 18 l14o_3 [0] (fun q => some (E14o q)) o)) :=
  fun o h => loop_S (l := l14o_3) (step := fun x => L14o_3 N x.1 x.2.1 x.2.2.1 x.2.2.2) (fun x o h => wpc_sound (tbl := []) (μ := []) mixed _ _ _ (by
    have h1 := Vt.sound _ h
    refine Eq.mp ?_ h1
    kernel_rfl)) N x o h
noncomputable def V14o (N : Nat) (a0 : (List (Int × Ln))) : Vt (List (Int × Ln)) (Option D) (fun q => some (E14o q)) :=
  .f1 (l := l14o_3) (o := W14o_3 N (([] : (List (Int × Ln))), a0, (a0.length : Int), 0)) (WS14o_3 N (([] : (List (Int × Ln))), a0, (a0.length : Int), 0)) (fun x1 => .leaf x1.1)
noncomputable def F14o (N : Nat) (a0 : (List (Int × Ln))) : Option (List (Int × Ln)) := (V14o N a0).eval
def t14o : List (Nat × List Nat × List (Nat × Sh)) := [(3, [0], l14o_3)]
theorem P14o (N : Nat) (a0 : (List (Int × Ln))) : ∀ r, F14o N a0 = some r → Spec Try.prog 14 [.val (.list (.pair tI tLn)) a0] (E14o r) := fun r h => Spec_of (fn := Try.f14) rfl rfl rfl rfl true (wpc_sound (tbl := t14o) (μ := []) mixed _ _ _ (by
  have h1 := Vt.sound _ h
  refine Eq.mp ?_ h1
  kernel_rfl))

/-! ferryslip/ferrysliplaw02.LexExact -/
def E3 : Bool → D := fun x => encV tB x
noncomputable def V3 (N : Nat) (a0 : Bs) : Vt Bool (Option D) (fun q => some (E3 q)) :=
  .br (decide ((600 : Int) < (a0.length : Int))) (.c1 (P10 N) (fun x1 => .leaf x1)) (.c3 (P11 N a0) (fun x2 x3 x4 => .c3 (P12 N a0) (fun x5 x6 x7 => .c1 (P14o N x2) (fun x8 => .c1 (P13 N x8 x5) (fun x9 => .br x9 (.br (x3 == x6) (.br (x4 == x7) (.c1 (P10 N) (fun x10 => .leaf x10)) (.leaf false)) (.leaf false)) (.leaf false))))))
noncomputable def F3 (N : Nat) (a0 : Bs) : Option Bool := (V3 N a0).eval
def t3 : List (Nat × List Nat × List (Nat × Sh)) := []
theorem P3 (N : Nat) (a0 : Bs) : ∀ r, F3 N a0 = some r → Spec Try.prog 3 [.val tS a0] (E3 r) := fun r h => Spec_of (fn := Try.f3) rfl rfl rfl rfl false (wpc_sound (tbl := t3) (μ := [26]) mixed _ _ _ (by
  have h1 := Vt.sound _ h
  refine Eq.mp ?_ h1
  kernel_rfl))

/-! ferryslip/ferryslipref02.Place -/
def E16 : (Int × Int) → D := fun x => .tup [encV tI x.1, encV tI x.2]
abbrev l16_3 : List (Nat × Sh) := [(0, .val tS), (1, .val tI), (6, .val tI), (7, .val tI), (8, .val tI)]
noncomputable def b16_3 : Code := loopBody 3 (bodyOf Try.f16)
noncomputable def U16_3 (N : Nat) (s0 : Bs) (s1 : Int) (s6 : Int) (s7 : Int) (s8 : Int) : Vt (Lp (shTy l16_3).I (Int × Int)) (O3 (Option D)) (encO 30 l16_3 [0] (fun q => some (E16 q))) :=
  .br (decide (s8 < (s0.length : Int))) (.br (decide (s8 < s1)) (.ck (inR s8 s0.length) (.br ((byteAt s0 s8) == 10) (.leaf (.next (s0, s1, (IntKind.i64.wrap (s6 + 1)), 1, (IntKind.i64.wrap (s8 + 1))))) (.leaf (.next (s0, s1, s6, (IntKind.i64.wrap (s7 + 1)), (IntKind.i64.wrap (s8 + 1))))))) (.leaf (.brk 0 (s0, s1, s6, s7, s8)))) (.leaf (.brk 0 (s0, s1, s6, s7, s8)))
noncomputable def L16_3 (N : Nat) (s0 : Bs) (s1 : Int) (s6 : Int) (s7 : Int) (s8 : Int) : Option (Lp (Bs × Int × Int × Int × Int) (Int × Int)) := (U16_3 N s0 s1 s6 s7 s8).eval
noncomputable def W16_3 (N : Nat) (x : (Bs × Int × Int × Int × Int)) : Option (Lp (Bs × Int × Int × Int × Int) (Int × Int)) := runLoop (fun x => L16_3 N x.1 x.2.1 x.2.2.1 x.2.2.2.1 x.2.2.2.2) N x
theorem WS16_3 (N : Nat) (x : (shTy l16_3).I) : ∀ o, W16_3 N x = some o → S Try.prog (.loop b16_3) (buildSt 30 l16_3 x) (stepZ (rdD Try.prog Try.f16 false) l16_3 (encO 30 l16_3 [0] (fun q => some (E16 q)) o)) :=
  fun o h => loop_S (l := l16_3) (step := fun x => L16_3 N x.1 x.2.1 x.2.2.1 x.2.2.2.1 x.2.2.2.2) (fun x o h => wpc_sound (tbl := []) (μ := []) mixed _ _ _ (by
    have h1 := Vt.sound _ h
    refine Eq.mp ?_ h1
    kernel_rfl)) N x o h
noncomputable def V16 (N : Nat) (a0 : Bs) (a1 : Int) : Vt (Int × Int) (Option D) (fun q => some (E16 q)) :=
  .f1 (l := l16_3) (o := W16_3 N (a0, a1, 1, 1, 0)) (WS16_3 N (a0, a1, 1, 1, 0)) (fun x1 => .leaf (x1.2.2.1, x1.2.2.2.1))
noncomputable def F16 (N : Nat) (a0 : Bs) (a1 : Int) : Option (Int × Int) := (V16 N a0 a1).eval
def t16 : List (Nat × List Nat × List (Nat × Sh)) := [(3, [0], l16_3)]
theorem P16 (N : Nat) (a0 : Bs) (a1 : Int) : ∀ r, F16 N a0 a1 = some r → Spec Try.prog 16 [.val tS a0, .val tI a1] (E16 r) := fun r h => Spec_of (fn := Try.f16) rfl rfl rfl rfl false (wpc_sound (tbl := t16) (μ := []) mixed _ _ _ (by
  have h1 := Vt.sound _ h
  refine Eq.mp ?_ h1
  kernel_rfl))

/-! ferryslip/ferrysliplaw02.LexPlace -/
def E4 : Bool → D := fun x => encV tB x
noncomputable def V4 (N : Nat) (a0 : Bs) (a1 : Int) : Vt Bool (Option D) (fun q => some (E4 q)) :=
  .br (decide ((600 : Int) < (a0.length : Int))) (.c1 (P10 N) (fun x1 => .leaf x1)) (.c2 (P15 N a0 a1) (fun x2 x3 => .c2 (P16 N a0 a1) (fun x4 x5 => .br (x2 == x4) (.br (x3 == x5) (.c1 (P10 N) (fun x6 => .leaf x6)) (.leaf false)) (.leaf false))))
noncomputable def F4 (N : Nat) (a0 : Bs) (a1 : Int) : Option Bool := (V4 N a0 a1).eval
def t4 : List (Nat × List Nat × List (Nat × Sh)) := []
theorem P4 (N : Nat) (a0 : Bs) (a1 : Int) : ∀ r, F4 N a0 a1 = some r → Spec Try.prog 4 [.val tS a0, .val tI a1] (E4 r) := fun r h => Spec_of (fn := Try.f4) rfl rfl rfl rfl false (wpc_sound (tbl := t4) (μ := []) mixed _ _ _ (by
  have h1 := Vt.sound _ h
  refine Eq.mp ?_ h1
  kernel_rfl))

/-! ferryslip/ferryslipref01.digit -/
def E28 : Int → D := fun x => encV (.int .u8) x
noncomputable def V28 (N : Nat) (a0 : Int) : Vt Int (Option D) (fun q => some (E28 q)) :=
  .br (decide (a0 < 10)) (.leaf (IntKind.u8.wrap (IntKind.i64.wrap (48 + a0)))) (.leaf (IntKind.u8.wrap (IntKind.i64.wrap ((IntKind.i64.wrap (97 + a0)) - 10))))
noncomputable def F28 (N : Nat) (a0 : Int) : Option Int := (V28 N a0).eval
def t28 : List (Nat × List Nat × List (Nat × Sh)) := []
theorem P28 (N : Nat) (a0 : Int) : ∀ r, F28 N a0 = some r → Spec Try.prog 28 [.val tI a0] (E28 r) := fun r h => Spec_of (fn := Try.f28) rfl rfl rfl rfl false (wpc_sound (tbl := t28) (μ := []) mixed _ _ _ (by
  have h1 := Vt.sound _ h
  refine Eq.mp ?_ h1
  kernel_rfl))

/-! ferryslip/ferryslipref01.Quote -/
def E18 : Bs → D := fun x => encV tS x
abbrev l18_5 : List (Nat × Sh) := [(0, .val tS), (3, .row false 9 5 (.int .u8)), (4, .val tI)]
noncomputable def b18_5 : Code := loopBody 5 (bodyOf Try.f18)
noncomputable def U18_5 (N : Nat) (s0 : Bs) (s3 : (List Int)) (s4 : Int) : Vt (Lp (shTy l18_5).I Bs) (O3 (Option D)) (encO 54 l18_5 [0] (fun q => some (E18 q))) :=
  .br (decide (s4 < (s0.length : Int))) (.ck (inR s4 s0.length) (.br ((byteAt s0 s4) == 34) (.ck (room (s3.length + ([92, (byteAt s0 s4)] : (List Int)).length)) (.leaf (.next (s0, (s3 ++ ([92, (byteAt s0 s4)] : (List Int))), (IntKind.i64.wrap (s4 + 1)))))) (.br ((byteAt s0 s4) == 92) (.ck (room (s3.length + ([92, (byteAt s0 s4)] : (List Int)).length)) (.leaf (.next (s0, (s3 ++ ([92, (byteAt s0 s4)] : (List Int))), (IntKind.i64.wrap (s4 + 1)))))) (.br (decide ((byteAt s0 s4) < 32)) (.ck ((16 : Int) ≠ 0) (.c1 (P28 N (IntKind.i64.wrap ((IntKind.i64.wrap (byteAt s0 s4)).tdiv 16))) (fun x1 => .ck ((16 : Int) ≠ 0) (.c1 (P28 N ((IntKind.i64.wrap (byteAt s0 s4)).tmod 16)) (fun x2 => .ck (room (s3.length + ([92, 120, x1, x2] : (List Int)).length)) (.leaf (.next (s0, (s3 ++ ([92, 120, x1, x2] : (List Int))), (IntKind.i64.wrap (s4 + 1)))))))))) (.br (decide ((126 : Int) < (byteAt s0 s4))) (.ck ((16 : Int) ≠ 0) (.c1 (P28 N (IntKind.i64.wrap ((IntKind.i64.wrap (byteAt s0 s4)).tdiv 16))) (fun x3 => .ck ((16 : Int) ≠ 0) (.c1 (P28 N ((IntKind.i64.wrap (byteAt s0 s4)).tmod 16)) (fun x4 => .ck (room (s3.length + ([92, 120, x3, x4] : (List Int)).length)) (.leaf (.next (s0, (s3 ++ ([92, 120, x3, x4] : (List Int))), (IntKind.i64.wrap (s4 + 1)))))))))) (.ck (room (s3.length + ([(byteAt s0 s4)] : (List Int)).length)) (.leaf (.next (s0, (s3 ++ ([(byteAt s0 s4)] : (List Int))), (IntKind.i64.wrap (s4 + 1))))))))))) (.leaf (.brk 0 (s0, s3, s4)))
noncomputable def L18_5 (N : Nat) (s0 : Bs) (s3 : (List Int)) (s4 : Int) : Option (Lp (Bs × (List Int) × Int) Bs) := (U18_5 N s0 s3 s4).eval
noncomputable def W18_5 (N : Nat) (x : (Bs × (List Int) × Int)) : Option (Lp (Bs × (List Int) × Int) Bs) := runLoop (fun x => L18_5 N x.1 x.2.1 x.2.2) N x
theorem WS18_5 (N : Nat) (x : (shTy l18_5).I) : ∀ o, W18_5 N x = some o → S Try.prog (.loop b18_5) (buildSt 54 l18_5 x) (stepZ (rdD Try.prog Try.f18 false) l18_5 (encO 54 l18_5 [0] (fun q => some (E18 q)) o)) :=
  fun o h => loop_S (l := l18_5) (step := fun x => L18_5 N x.1 x.2.1 x.2.2) (fun x o h => wpc_sound (tbl := []) (μ := []) mixed _ _ _ (by
    have h1 := Vt.sound _ h
    refine Eq.mp ?_ h1
    kernel_rfl)) N x o h
noncomputable def V18 (N : Nat) (a0 : Bs) : Vt Bs (Option D) (fun q => some (E18 q)) :=
  .c1 (P27 N a0) (fun x1 => .br x1 (.leaf a0) (.f1 (l := l18_5) (o := W18_5 N (a0, ([34] : (List Int)), 0)) (WS18_5 N (a0, ([34] : (List Int)), 0)) (fun x2 => .ck (room (x2.2.1.length + ([34] : (List Int)).length)) (.leaf (strOf (x2.2.1 ++ ([34] : (List Int))))))))
noncomputable def F18 (N : Nat) (a0 : Bs) : Option Bs := (V18 N a0).eval
def t18 : List (Nat × List Nat × List (Nat × Sh)) := [(5, [0], l18_5)]
theorem P18 (N : Nat) (a0 : Bs) : ∀ r, F18 N a0 = some r → Spec Try.prog 18 [.val tS a0] (E18 r) := fun r h => Spec_of (fn := Try.f18) rfl rfl rfl rfl false (wpc_sound (tbl := t18) (μ := []) mixed _ _ _ (by
  have h1 := Vt.sound _ h
  refine Eq.mp ?_ h1
  kernel_rfl))

/-! ferryslip/ferryslipref02.Text -/
def E17 : Bs → D := fun x => encV tS x
abbrev l17_3 : List (Nat × Sh) := [(0, .val (.list (.pair tI tLn))), (3, .val tS), (4, .val tI)]
noncomputable def b17_3 : Code := loopBody 3 (bodyOf Try.f17)
noncomputable def U17_3 (N : Nat) (s0 : (List (Int × Ln))) (s3 : Bs) (s4 : Int) : Vt (Lp (shTy l17_3).I Bs) (O3 (Option D)) (encO 53 l17_3 [0] (fun q => some (E17 q))) :=
  .br (decide (s4 < (s0.length : Int))) (.br (decide ((0 : Int) < s4)) (.ck (room (s3.length + ([32] : Bs).length)) (.ck (inR s4 s0.length) (.br (((atI (.pair tI tLn) s0 s4).1) == 1) (.ck (inR s4 s0.length) (.c1 (P18 N ((atI (.pair tI tLn) s0 s4).2.2.1)) (fun x1 => .ck (room ((s3 ++ ([32] : Bs)).length + x1.length)) (.leaf (.next (s0, ((s3 ++ ([32] : Bs)) ++ x1), (IntKind.i64.wrap (s4 + 1)))))))) (.br (((atI (.pair tI tLn) s0 s4).1) == 2) (.ck (room ((s3 ++ ([32] : Bs)).length + ([123] : Bs).length)) (.leaf (.next (s0, ((s3 ++ ([32] : Bs)) ++ ([123] : Bs)), (IntKind.i64.wrap (s4 + 1)))))) (.br (((atI (.pair tI tLn) s0 s4).1) == 3) (.ck (room ((s3 ++ ([32] : Bs)).length + ([125] : Bs).length)) (.leaf (.next (s0, ((s3 ++ ([32] : Bs)) ++ ([125] : Bs)), (IntKind.i64.wrap (s4 + 1)))))) (.br (((atI (.pair tI tLn) s0 s4).1) == 4) (.ck (room ((s3 ++ ([32] : Bs)).length + ([59] : Bs).length)) (.leaf (.next (s0, ((s3 ++ ([32] : Bs)) ++ ([59] : Bs)), (IntKind.i64.wrap (s4 + 1)))))) (.ck (inR s4 s0.length) (.br (((atI (.pair tI tLn) s0 s4).2.2.2) == 1) (.ck (room ((s3 ++ ([32] : Bs)).length + ([105, 110, 97, 99, 116, 105, 118, 101, 58] : Bs).length)) (.leaf (.next (s0, ((s3 ++ ([32] : Bs)) ++ ([105, 110, 97, 99, 116, 105, 118, 101, 58] : Bs)), (IntKind.i64.wrap (s4 + 1)))))) (.ck (room ((s3 ++ ([32] : Bs)).length + ([112, 114, 111, 116, 101, 99, 116, 58] : Bs).length)) (.leaf (.next (s0, ((s3 ++ ([32] : Bs)) ++ ([112, 114, 111, 116, 101, 99, 116, 58] : Bs)), (IntKind.i64.wrap (s4 + 1)))))))))))))) (.ck (inR s4 s0.length) (.br (((atI (.pair tI tLn) s0 s4).1) == 1) (.ck (inR s4 s0.length) (.c1 (P18 N ((atI (.pair tI tLn) s0 s4).2.2.1)) (fun x2 => .ck (room (s3.length + x2.length)) (.leaf (.next (s0, (s3 ++ x2), (IntKind.i64.wrap (s4 + 1)))))))) (.br (((atI (.pair tI tLn) s0 s4).1) == 2) (.ck (room (s3.length + ([123] : Bs).length)) (.leaf (.next (s0, (s3 ++ ([123] : Bs)), (IntKind.i64.wrap (s4 + 1)))))) (.br (((atI (.pair tI tLn) s0 s4).1) == 3) (.ck (room (s3.length + ([125] : Bs).length)) (.leaf (.next (s0, (s3 ++ ([125] : Bs)), (IntKind.i64.wrap (s4 + 1)))))) (.br (((atI (.pair tI tLn) s0 s4).1) == 4) (.ck (room (s3.length + ([59] : Bs).length)) (.leaf (.next (s0, (s3 ++ ([59] : Bs)), (IntKind.i64.wrap (s4 + 1)))))) (.ck (inR s4 s0.length) (.br (((atI (.pair tI tLn) s0 s4).2.2.2) == 1) (.ck (room (s3.length + ([105, 110, 97, 99, 116, 105, 118, 101, 58] : Bs).length)) (.leaf (.next (s0, (s3 ++ ([105, 110, 97, 99, 116, 105, 118, 101, 58] : Bs)), (IntKind.i64.wrap (s4 + 1)))))) (.ck (room (s3.length + ([112, 114, 111, 116, 101, 99, 116, 58] : Bs).length)) (.leaf (.next (s0, (s3 ++ ([112, 114, 111, 116, 101, 99, 116, 58] : Bs)), (IntKind.i64.wrap (s4 + 1)))))))))))))) (.leaf (.brk 0 (s0, s3, s4)))
noncomputable def L17_3 (N : Nat) (s0 : (List (Int × Ln))) (s3 : Bs) (s4 : Int) : Option (Lp ((List (Int × Ln)) × Bs × Int) Bs) := (U17_3 N s0 s3 s4).eval
noncomputable def W17_3 (N : Nat) (x : ((List (Int × Ln)) × Bs × Int)) : Option (Lp ((List (Int × Ln)) × Bs × Int) Bs) := runLoop (fun x => L17_3 N x.1 x.2.1 x.2.2) N x
theorem WS17_3 (N : Nat) (x : (shTy l17_3).I) : ∀ o, W17_3 N x = some o → S Try.prog (.loop b17_3) (buildSt 53 l17_3 x) (stepZ (rdD Try.prog Try.f17 false) l17_3 (encO 53 l17_3 [0] (fun q => some (E17 q)) o)) :=
  fun o h => loop_S (l := l17_3) (step := fun x => L17_3 N x.1 x.2.1 x.2.2) (fun x o h => wpc_sound (tbl := []) (μ := []) mixed _ _ _ (by
    have h1 := Vt.sound _ h
    refine Eq.mp ?_ h1
    kernel_rfl)) N x o h
noncomputable def V17 (N : Nat) (a0 : (List (Int × Ln))) : Vt Bs (Option D) (fun q => some (E17 q)) :=
  .f1 (l := l17_3) (o := W17_3 N (a0, ([] : Bs), 0)) (WS17_3 N (a0, ([] : Bs), 0)) (fun x1 => .leaf x1.2.1)
noncomputable def F17 (N : Nat) (a0 : (List (Int × Ln))) : Option Bs := (V17 N a0).eval
def t17 : List (Nat × List Nat × List (Nat × Sh)) := [(3, [0], l17_3)]
theorem P17 (N : Nat) (a0 : (List (Int × Ln))) : ∀ r, F17 N a0 = some r → Spec Try.prog 17 [.val (.list (.pair tI tLn)) a0] (E17 r) := fun r h => Spec_of (fn := Try.f17) rfl rfl rfl rfl false (wpc_sound (tbl := t17) (μ := []) mixed _ _ _ (by
  have h1 := Vt.sound _ h
  refine Eq.mp ?_ h1
  kernel_rfl))

/-! ferryslip/ferrysliplaw02.LexAgain -/
def E5 : Bool → D := fun x => encV tB x
abbrev l5_10 : List (Nat × Sh) := [(3, .val (.list (.pair tI tLn))), (6, .val (.list (.pair tI tLn))), (46, .val tI), (47, .val tI)]
noncomputable def b5_10 : Code := loopBody 10 (bodyOf Try.f5)
noncomputable def U5_10 (N : Nat) (s3 : (List (Int × Ln))) (s6 : (List (Int × Ln))) (s46 : Int) (s47 : Int) : Vt (Lp (shTy l5_10).I Bool) (O3 (Option D)) (encO 89 l5_10 [0] (fun q => some (E5 q))) :=
  .br (decide (s47 < s46)) (.ck (inR s47 s6.length) (.ck (inR s47 s3.length) (.br (((atI (.pair tI tLn) s6 s47).1) != ((atI (.pair tI tLn) s3 s47).1)) (.leaf (.ret false)) (.ck (inR s47 s6.length) (.ck (inR s47 s3.length) (.br (!(((atI (.pair tI tLn) s6 s47).2.2.1) == ((atI (.pair tI tLn) s3 s47).2.2.1))) (.leaf (.ret false)) (.ck (inR s47 s6.length) (.ck (inR s47 s3.length) (.br (((atI (.pair tI tLn) s6 s47).2.2.2) != ((atI (.pair tI tLn) s3 s47).2.2.2)) (.leaf (.ret false)) (.leaf (.next (s3, s6, s46, (IntKind.i64.wrap (s47 + 1)))))))))))))) (.leaf (.brk 0 (s3, s6, s46, s47)))
noncomputable def L5_10 (N : Nat) (s3 : (List (Int × Ln))) (s6 : (List (Int × Ln))) (s46 : Int) (s47 : Int) : Option (Lp ((List (Int × Ln)) × (List (Int × Ln)) × Int × Int) Bool) := (U5_10 N s3 s6 s46 s47).eval
noncomputable def W5_10 (N : Nat) (x : ((List (Int × Ln)) × (List (Int × Ln)) × Int × Int)) : Option (Lp ((List (Int × Ln)) × (List (Int × Ln)) × Int × Int) Bool) := runLoop (fun x => L5_10 N x.1 x.2.1 x.2.2.1 x.2.2.2) N x
theorem WS5_10 (N : Nat) (x : (shTy l5_10).I) : ∀ o, W5_10 N x = some o → S Try.prog (.loop b5_10) (buildSt 89 l5_10 x) (stepZ (rdD Try.prog Try.f5 false) l5_10 (encO 89 l5_10 [0] (fun q => some (E5 q)) o)) :=
  fun o h => loop_S (l := l5_10) (step := fun x => L5_10 N x.1 x.2.1 x.2.2.1 x.2.2.2) (fun x o h => wpc_sound (tbl := []) (μ := [30]) mixed _ _ _ (by
    have h1 := Vt.sound _ h
    refine Eq.mp ?_ h1
    kernel_rfl)) N x o h
noncomputable def V5 (N : Nat) (a0 : Bs) : Vt Bool (Option D) (fun q => some (E5 q)) :=
  .br (decide ((600 : Int) < (a0.length : Int))) (.c1 (P10 N) (fun x1 => .leaf x1)) (.c3 (P11 N a0) (fun x2 x3 x4 => .br (x4 != 0) (.br ((x2.length : Int) == 0) (.c1 (P10 N) (fun x5 => .leaf x5)) (.leaf false)) (.c1 (P14o N x2) (fun x6 => .c1 (P17 N x6) (fun x7 => .c3 (P11 N x7) (fun x8 x9 x10 => .br (x10 != 0) (.leaf false) (.br ((x8.length : Int) != (x2.length : Int)) (.leaf false) (.f1 (l := l5_10) (o := W5_10 N (x2, x8, (x2.length : Int), 0)) (WS5_10 N (x2, x8, (x2.length : Int), 0)) (fun x11 => .c1 (P10 N) (fun x12 => .leaf x12))))))))))
noncomputable def F5 (N : Nat) (a0 : Bs) : Option Bool := (V5 N a0).eval
def t5 : List (Nat × List Nat × List (Nat × Sh)) := [(10, [0], l5_10)]
theorem P5 (N : Nat) (a0 : Bs) : ∀ r, F5 N a0 = some r → Spec Try.prog 5 [.val tS a0] (E5 r) := fun r h => Spec_of (fn := Try.f5) rfl rfl rfl rfl false (wpc_sound (tbl := t5) (μ := [30]) mixed _ _ _ (by
  have h1 := Vt.sound _ h
  refine Eq.mp ?_ h1
  kernel_rfl))

/-! ferryslip/ferrysliplaw02.LexJoins -/
def E6 : Bool → D := fun x => encV tB x
abbrev l6_13 : List (Nat × Sh) := [(0, .val tS), (5, .val (.list (.pair tI tLn))), (8, .val (.list (.pair tI tLn))), (11, .val (.list (.pair tI tLn))), (90, .val (.list (.pair tI tLn))), (91, .val tI), (92, .val tI)]
noncomputable def b6_13 : Code := loopBody 13 (bodyOf Try.f6)
noncomputable def U6_13 (N : Nat) (s0 : Bs) (s5 : (List (Int × Ln))) (s8 : (List (Int × Ln))) (s11 : (List (Int × Ln))) (s90 : (List (Int × Ln))) (s91 : Int) (s92 : Int) : Vt (Lp (shTy l6_13).I Bool) (O3 (Option D)) (encO 129 l6_13 [0] (fun q => some (E6 q))) :=
  .br (decide (s92 < s91)) (.ck (inR s92 s90.length) (.ck (inR s92 s11.length) (.br (!((((atI (.pair tI tLn) s11 s92).1) == ((atI (.pair tI tLn) s90 s92).1)) && ((((atI (.pair tI tLn) s11 s92).2.1) == ((atI (.pair tI tLn) s90 s92).2.1)) && ((((atI (.pair tI tLn) s11 s92).2.2.1) == ((atI (.pair tI tLn) s90 s92).2.2.1)) && ((((atI (.pair tI tLn) s11 s92).2.2.2) == ((atI (.pair tI tLn) s90 s92).2.2.2)) && true))))) (.leaf (.ret false)) (.leaf (.next (s0, s5, s8, s11, s90, s91, (IntKind.i64.wrap (s92 + 1)))))))) (.leaf (.brk 0 (s0, s5, s8, s11, s90, s91, s92)))
noncomputable def L6_13 (N : Nat) (s0 : Bs) (s5 : (List (Int × Ln))) (s8 : (List (Int × Ln))) (s11 : (List (Int × Ln))) (s90 : (List (Int × Ln))) (s91 : Int) (s92 : Int) : Option (Lp (Bs × (List (Int × Ln)) × (List (Int × Ln)) × (List (Int × Ln)) × (List (Int × Ln)) × Int × Int) Bool) := (U6_13 N s0 s5 s8 s11 s90 s91 s92).eval
noncomputable def W6_13 (N : Nat) (x : (Bs × (List (Int × Ln)) × (List (Int × Ln)) × (List (Int × Ln)) × (List (Int × Ln)) × Int × Int)) : Option (Lp (Bs × (List (Int × Ln)) × (List (Int × Ln)) × (List (Int × Ln)) × (List (Int × Ln)) × Int × Int) Bool) := runLoop (fun x => L6_13 N x.1 x.2.1 x.2.2.1 x.2.2.2.1 x.2.2.2.2.1 x.2.2.2.2.2.1 x.2.2.2.2.2.2) N x
theorem WS6_13 (N : Nat) (x : (shTy l6_13).I) : ∀ o, W6_13 N x = some o → S Try.prog (.loop b6_13) (buildSt 129 l6_13 x) (stepZ (rdD Try.prog Try.f6 false) l6_13 (encO 129 l6_13 [0] (fun q => some (E6 q)) o)) :=
  fun o h => loop_S (l := l6_13) (step := fun x => L6_13 N x.1 x.2.1 x.2.2.1 x.2.2.2.1 x.2.2.2.2.1 x.2.2.2.2.2.1 x.2.2.2.2.2.2) (fun x o h => wpc_sound (tbl := []) (μ := []) mixed _ _ _ (by
    have h1 := Vt.sound _ h
    refine Eq.mp ?_ h1
    kernel_rfl)) N x o h
abbrev l6_19 : List (Nat × Sh) := [(0, .val tS), (5, .val (.list (.pair tI tLn))), (11, .val (.list (.pair tI tLn))), (104, .val (.list (.pair tI tLn))), (105, .val tI), (106, .val tI)]
noncomputable def b6_19 : Code := loopBody 19 (bodyOf Try.f6)
noncomputable def U6_19 (N : Nat) (s0 : Bs) (s5 : (List (Int × Ln))) (s11 : (List (Int × Ln))) (s104 : (List (Int × Ln))) (s105 : Int) (s106 : Int) : Vt (Lp (shTy l6_19).I Bool) (O3 (Option D)) (encO 129 l6_19 [2] (fun q => some (E6 q))) :=
  .br (decide (s106 < s105)) (.ck (inR s106 s104.length) (.ck (inR (IntKind.i64.wrap ((s5.length : Int) + s106)) s11.length) (.br (!((((atI (.pair tI tLn) s11 (IntKind.i64.wrap ((s5.length : Int) + s106))).1) == ((atI (.pair tI tLn) s104 s106).1)) && ((((atI (.pair tI tLn) s11 (IntKind.i64.wrap ((s5.length : Int) + s106))).2.1) == (IntKind.i64.wrap (((atI (.pair tI tLn) s104 s106).2.1) + (IntKind.i64.wrap ((s0.length : Int) + 1))))) && ((((atI (.pair tI tLn) s11 (IntKind.i64.wrap ((s5.length : Int) + s106))).2.2.1) == ((atI (.pair tI tLn) s104 s106).2.2.1)) && ((((atI (.pair tI tLn) s11 (IntKind.i64.wrap ((s5.length : Int) + s106))).2.2.2) == ((atI (.pair tI tLn) s104 s106).2.2.2)) && true))))) (.leaf (.ret false)) (.leaf (.next (s0, s5, s11, s104, s105, (IntKind.i64.wrap (s106 + 1)))))))) (.leaf (.brk 0 (s0, s5, s11, s104, s105, s106)))
noncomputable def L6_19 (N : Nat) (s0 : Bs) (s5 : (List (Int × Ln))) (s11 : (List (Int × Ln))) (s104 : (List (Int × Ln))) (s105 : Int) (s106 : Int) : Option (Lp (Bs × (List (Int × Ln)) × (List (Int × Ln)) × (List (Int × Ln)) × Int × Int) Bool) := (U6_19 N s0 s5 s11 s104 s105 s106).eval
noncomputable def W6_19 (N : Nat) (x : (Bs × (List (Int × Ln)) × (List (Int × Ln)) × (List (Int × Ln)) × Int × Int)) : Option (Lp (Bs × (List (Int × Ln)) × (List (Int × Ln)) × (List (Int × Ln)) × Int × Int) Bool) := runLoop (fun x => L6_19 N x.1 x.2.1 x.2.2.1 x.2.2.2.1 x.2.2.2.2.1 x.2.2.2.2.2) N x
theorem WS6_19 (N : Nat) (x : (shTy l6_19).I) : ∀ o, W6_19 N x = some o → S Try.prog (.loop b6_19) (buildSt 129 l6_19 x) (stepZ (rdD Try.prog Try.f6 false) l6_19 (encO 129 l6_19 [2] (fun q => some (E6 q)) o)) :=
  fun o h => loop_S (l := l6_19) (step := fun x => L6_19 N x.1 x.2.1 x.2.2.1 x.2.2.2.1 x.2.2.2.2.1 x.2.2.2.2.2) (fun x o h => wpc_sound (tbl := [(13, [0], l6_13)]) (μ := []) mixed _ _ _ (by
    have h1 := Vt.sound _ h
    refine Eq.mp ?_ h1
    kernel_rfl)) N x o h
noncomputable def V6 (N : Nat) (a0 : Bs) (a1 : Bs) : Vt Bool (Option D) (fun q => some (E6 q)) :=
  .br (decide ((300 : Int) < (a0.length : Int))) (.c1 (P10 N) (fun x1 => .leaf x1)) (.br (decide ((300 : Int) < (a1.length : Int))) (.c1 (P10 N) (fun x2 => .leaf x2)) (.c3 (P11 N a0) (fun x3 x4 x5 => .br (x5 != 0) (.br ((x3.length : Int) == 0) (.c1 (P10 N) (fun x6 => .leaf x6)) (.leaf false)) (.c3 (P11 N a1) (fun x7 x8 x9 => .ck (room (a0.length + ([10] : Bs).length)) (.ck (room ((a0 ++ ([10] : Bs)).length + a1.length)) (.c3 (P11 N ((a0 ++ ([10] : Bs)) ++ a1)) (fun x10 x11 x12 => .br (x9 != 0) (.br (x12 == x9) (.br (x11 == (IntKind.i64.wrap ((IntKind.i64.wrap (x8 + (a0.length : Int))) + 1))) (.br ((x10.length : Int) == 0) (.c1 (P10 N) (fun x13 => .leaf x13)) (.leaf false)) (.leaf false)) (.leaf false)) (.br (x12 != 0) (.leaf false) (.br ((x10.length : Int) != (IntKind.i64.wrap ((x3.length : Int) + (x7.length : Int)))) (.leaf false) (.f1 (l := l6_13) (o := W6_13 N (a0, x3, x7, x10, x3, (x3.length : Int), 0)) (WS6_13 N (a0, x3, x7, x10, x3, (x3.length : Int), 0)) (fun x14 => .f1 (l := l6_19) (o := W6_19 N (x14.1, x14.2.1, x14.2.2.2.1, x14.2.2.1, (x14.2.2.1.length : Int), 0)) (WS6_19 N (x14.1, x14.2.1, x14.2.2.2.1, x14.2.2.1, (x14.2.2.1.length : Int), 0)) (fun x15 => .c1 (P10 N) (fun x16 => .leaf x16))))))))))))))
noncomputable def F6 (N : Nat) (a0 : Bs) (a1 : Bs) : Option Bool := (V6 N a0 a1).eval
def t6 : List (Nat × List Nat × List (Nat × Sh)) := [(13, [0], l6_13), (19, [2], l6_19)]
theorem P6 (N : Nat) (a0 : Bs) (a1 : Bs) : ∀ r, F6 N a0 a1 = some r → Spec Try.prog 6 [.val tS a0, .val tS a1] (E6 r) := fun r h => Spec_of (fn := Try.f6) rfl rfl rfl rfl false (wpc_sound (tbl := t6) (μ := []) mixed _ _ _ (by
  have h1 := Vt.sound _ h
  refine Eq.mp ?_ h1
  kernel_rfl))

/-! ferryslip/ferrysliplaw02.LexComment -/
def E7 : Bool → D := fun x => encV tB x
abbrev l7_4 : List (Nat × Sh) := [(0, .val tS), (1, .val tS), (2, .val tS), (36, .val tI), (37, .val tI)]
noncomputable def b7_4 : Code := loopBody 4 (bodyOf Try.f7)
noncomputable def U7_4 (N : Nat) (s0 : Bs) (s1 : Bs) (s2 : Bs) (s36 : Int) (s37 : Int) : Vt (Lp (shTy l7_4).I Bool) (O3 (Option D)) (encO 178 l7_4 [0] (fun q => some (E7 q))) :=
  .br (decide (s37 < s36)) (.ck (inR s37 s1.length) (.br ((byteAt s1 s37) == 42) (.c1 (P10 N) (fun x1 => .leaf (.ret x1))) (.ck (inR s37 s1.length) (.br ((byteAt s1 s37) == 10) (.c1 (P10 N) (fun x2 => .leaf (.ret x2))) (.leaf (.next (s0, s1, s2, s36, (IntKind.i64.wrap (s37 + 1))))))))) (.leaf (.brk 0 (s0, s1, s2, s36, s37)))
noncomputable def L7_4 (N : Nat) (s0 : Bs) (s1 : Bs) (s2 : Bs) (s36 : Int) (s37 : Int) : Option (Lp (Bs × Bs × Bs × Int × Int) Bool) := (U7_4 N s0 s1 s2 s36 s37).eval
noncomputable def W7_4 (N : Nat) (x : (Bs × Bs × Bs × Int × Int)) : Option (Lp (Bs × Bs × Bs × Int × Int) Bool) := runLoop (fun x => L7_4 N x.1 x.2.1 x.2.2.1 x.2.2.2.1 x.2.2.2.2) N x
theorem WS7_4 (N : Nat) (x : (shTy l7_4).I) : ∀ o, W7_4 N x = some o → S Try.prog (.loop b7_4) (buildSt 178 l7_4 x) (stepZ (rdD Try.prog Try.f7 false) l7_4 (encO 178 l7_4 [0] (fun q => some (E7 q)) o)) :=
  fun o h => loop_S (l := l7_4) (step := fun x => L7_4 N x.1 x.2.1 x.2.2.1 x.2.2.2.1 x.2.2.2.2) (fun x o h => wpc_sound (tbl := []) (μ := []) mixed _ _ _ (by
    have h1 := Vt.sound _ h
    refine Eq.mp ?_ h1
    kernel_rfl)) N x o h
abbrev l7_18 : List (Nat × Sh) := [(11, .val (.list (.pair tI tLn))), (14, .val (.list (.pair tI tLn))), (17, .val (.list (.pair tI tLn))), (122, .val tI), (123, .val tI)]
noncomputable def b7_18 : Code := loopBody 18 (bodyOf Try.f7)
noncomputable def U7_18 (N : Nat) (s11 : (List (Int × Ln))) (s14 : (List (Int × Ln))) (s17 : (List (Int × Ln))) (s122 : Int) (s123 : Int) : Vt (Lp (shTy l7_18).I Bool) (O3 (Option D)) (encO 178 l7_18 [2] (fun q => some (E7 q))) :=
  .br (decide (s123 < s122)) (.ck (inR s123 s11.length) (.ck (inR s123 s14.length) (.br (!(((atI (.pair tI tLn) s11 s123).2.2.1) == ((atI (.pair tI tLn) s14 s123).2.2.1))) (.leaf (.ret false)) (.ck (inR s123 s11.length) (.ck (inR s123 s14.length) (.br (((atI (.pair tI tLn) s11 s123).1) != ((atI (.pair tI tLn) s14 s123).1)) (.leaf (.ret false)) (.ck (inR s123 s11.length) (.ck (inR s123 s17.length) (.br (!(((atI (.pair tI tLn) s11 s123).2.2.1) == ((atI (.pair tI tLn) s17 s123).2.2.1))) (.leaf (.ret false)) (.ck (inR s123 s11.length) (.ck (inR s123 s17.length) (.br (((atI (.pair tI tLn) s11 s123).1) != ((atI (.pair tI tLn) s17 s123).1)) (.leaf (.ret false)) (.leaf (.next (s11, s14, s17, s122, (IntKind.i64.wrap (s123 + 1))))))))))))))))) (.leaf (.brk 0 (s11, s14, s17, s122, s123)))
noncomputable def L7_18 (N : Nat) (s11 : (List (Int × Ln))) (s14 : (List (Int × Ln))) (s17 : (List (Int × Ln))) (s122 : Int) (s123 : Int) : Option (Lp ((List (Int × Ln)) × (List (Int × Ln)) × (List (Int × Ln)) × Int × Int) Bool) := (U7_18 N s11 s14 s17 s122 s123).eval
noncomputable def W7_18 (N : Nat) (x : ((List (Int × Ln)) × (List (Int × Ln)) × (List (Int × Ln)) × Int × Int)) : Option (Lp ((List (Int × Ln)) × (List (Int × Ln)) × (List (Int × Ln)) × Int × Int) Bool) := runLoop (fun x => L7_18 N x.1 x.2.1 x.2.2.1 x.2.2.2.1 x.2.2.2.2) N x
theorem WS7_18 (N : Nat) (x : (shTy l7_18).I) : ∀ o, W7_18 N x = some o → S Try.prog (.loop b7_18) (buildSt 178 l7_18 x) (stepZ (rdD Try.prog Try.f7 false) l7_18 (encO 178 l7_18 [2] (fun q => some (E7 q)) o)) :=
  fun o h => loop_S (l := l7_18) (step := fun x => L7_18 N x.1 x.2.1 x.2.2.1 x.2.2.2.1 x.2.2.2.2) (fun x o h => wpc_sound (tbl := [(4, [0], l7_4)]) (μ := []) mixed _ _ _ (by
    have h1 := Vt.sound _ h
    refine Eq.mp ?_ h1
    kernel_rfl)) N x o h
noncomputable def V7 (N : Nat) (a0 : Bs) (a1 : Bs) (a2 : Bs) : Vt Bool (Option D) (fun q => some (E7 q)) :=
  .br (decide ((200 : Int) < (a0.length : Int))) (.c1 (P10 N) (fun x1 => .leaf x1)) (.br (decide ((200 : Int) < (a1.length : Int))) (.c1 (P10 N) (fun x2 => .leaf x2)) (.br (decide ((200 : Int) < (a2.length : Int))) (.c1 (P10 N) (fun x3 => .leaf x3)) (.f1 (l := l7_4) (o := W7_4 N (a0, a1, a2, (a1.length : Int), 0)) (WS7_4 N (a0, a1, a2, (a1.length : Int), 0)) (fun x4 => .c3 (P11 N x4.1) (fun x5 x6 x7 => .br (x7 != 0) (.br ((x5.length : Int) == 0) (.c1 (P10 N) (fun x8 => .leaf x8)) (.leaf false)) (.ck (room (x4.1.length + ([10] : Bs).length)) (.ck (room ((x4.1 ++ ([10] : Bs)).length + x4.2.2.1.length)) (.c3 (P11 N ((x4.1 ++ ([10] : Bs)) ++ x4.2.2.1)) (fun x9 x10 x11 => .ck (room (x4.1.length + ([10, 47, 42] : Bs).length)) (.ck (room ((x4.1 ++ ([10, 47, 42] : Bs)).length + x4.2.1.length)) (.ck (room (((x4.1 ++ ([10, 47, 42] : Bs)) ++ x4.2.1).length + ([42, 47] : Bs).length)) (.ck (room ((((x4.1 ++ ([10, 47, 42] : Bs)) ++ x4.2.1) ++ ([42, 47] : Bs)).length + x4.2.2.1.length)) (.c3 (P11 N ((((x4.1 ++ ([10, 47, 42] : Bs)) ++ x4.2.1) ++ ([42, 47] : Bs)) ++ x4.2.2.1)) (fun x12 x13 x14 => .ck (room (x4.1.length + ([10, 35] : Bs).length)) (.ck (room ((x4.1 ++ ([10, 35] : Bs)).length + x4.2.1.length)) (.ck (room (((x4.1 ++ ([10, 35] : Bs)) ++ x4.2.1).length + ([10] : Bs).length)) (.ck (room ((((x4.1 ++ ([10, 35] : Bs)) ++ x4.2.1) ++ ([10] : Bs)).length + x4.2.2.1.length)) (.c3 (P11 N ((((x4.1 ++ ([10, 35] : Bs)) ++ x4.2.1) ++ ([10] : Bs)) ++ x4.2.2.1)) (fun x15 x16 x17 => .br (x11 != x14) (.leaf false) (.br (x11 != x17) (.leaf false) (.br ((x9.length : Int) != (x12.length : Int)) (.leaf false) (.br ((x9.length : Int) != (x15.length : Int)) (.leaf false) (.f1 (l := l7_18) (o := W7_18 N (x9, x12, x15, (x9.length : Int), 0)) (WS7_18 N (x9, x12, x15, (x9.length : Int), 0)) (fun x18 => .c1 (P10 N) (fun x19 => .leaf x19)))))))))))))))))))))))))
noncomputable def F7 (N : Nat) (a0 : Bs) (a1 : Bs) (a2 : Bs) : Option Bool := (V7 N a0 a1 a2).eval
def t7 : List (Nat × List Nat × List (Nat × Sh)) := [(4, [0], l7_4), (18, [2], l7_18)]
theorem P7 (N : Nat) (a0 : Bs) (a1 : Bs) (a2 : Bs) : ∀ r, F7 N a0 a1 a2 = some r → Spec Try.prog 7 [.val tS a0, .val tS a1, .val tS a2] (E7 r) := fun r h => Spec_of (fn := Try.f7) rfl rfl rfl rfl false (wpc_sound (tbl := t7) (μ := []) mixed _ _ _ (by
  have h1 := Vt.sound _ h
  refine Eq.mp ?_ h1
  kernel_rfl))

/-! ferryslip/ferrysliplaw02.LexNames -/
def E8 : Bool → D := fun x => encV tB x
abbrev l8_6 : List (Nat × Sh) := [(0, .val (.list tS)), (5, .val tS), (6, .val tS), (24, .val (.list tS)), (25, .val tI), (26, .val tI)]
noncomputable def b8_6 : Code := loopBody 6 (bodyOf Try.f8)
noncomputable def U8_6 (N : Nat) (s0 : (List Bs)) (s5 : Bs) (s6 : Bs) (s24 : (List Bs)) (s25 : Int) (s26 : Int) : Vt (Lp (shTy l8_6).I Bool) (O3 (Option D)) (encO 81 l8_6 [0] (fun q => some (E8 q))) :=
  .br (decide (s26 < s25)) (.ck (inR s26 s24.length) (.br (decide ((40 : Int) < ((atI tS s24 s26).length : Int))) (.c1 (P10 N) (fun x1 => .leaf (.ret x1))) (.c1 (P18 N (atI tS s24 s26)) (fun x2 => .ck (room (x2.length + s5.length)) (.ck (room (s6.length + (x2 ++ s5).length)) (.leaf (.next (s0, s5, (s6 ++ (x2 ++ s5)), s24, s25, (IntKind.i64.wrap (s26 + 1)))))))))) (.leaf (.brk 0 (s0, s5, s6, s24, s25, s26)))
noncomputable def L8_6 (N : Nat) (s0 : (List Bs)) (s5 : Bs) (s6 : Bs) (s24 : (List Bs)) (s25 : Int) (s26 : Int) : Option (Lp ((List Bs) × Bs × Bs × (List Bs) × Int × Int) Bool) := (U8_6 N s0 s5 s6 s24 s25 s26).eval
noncomputable def W8_6 (N : Nat) (x : ((List Bs) × Bs × Bs × (List Bs) × Int × Int)) : Option (Lp ((List Bs) × Bs × Bs × (List Bs) × Int × Int) Bool) := runLoop (fun x => L8_6 N x.1 x.2.1 x.2.2.1 x.2.2.2.1 x.2.2.2.2.1 x.2.2.2.2.2) N x
theorem WS8_6 (N : Nat) (x : (shTy l8_6).I) : ∀ o, W8_6 N x = some o → S Try.prog (.loop b8_6) (buildSt 81 l8_6 x) (stepZ (rdD Try.prog Try.f8 false) l8_6 (encO 81 l8_6 [0] (fun q => some (E8 q)) o)) :=
  fun o h => loop_S (l := l8_6) (step := fun x => L8_6 N x.1 x.2.1 x.2.2.1 x.2.2.2.1 x.2.2.2.2.1 x.2.2.2.2.2) (fun x o h => wpc_sound (tbl := []) (μ := []) mixed _ _ _ (by
    have h1 := Vt.sound _ h
    refine Eq.mp ?_ h1
    kernel_rfl)) N x o h
abbrev l8_17 : List (Nat × Sh) := [(0, .val (.list tS)), (12, .val tI), (49, .val (.list (.pair tI tLn))), (50, .val tI), (51, .val tI)]
noncomputable def b8_17 : Code := loopBody 17 (bodyOf Try.f8)
noncomputable def U8_17 (N : Nat) (s0 : (List Bs)) (s12 : Int) (s49 : (List (Int × Ln))) (s50 : Int) (s51 : Int) : Vt (Lp (shTy l8_17).I Bool) (O3 (Option D)) (encO 81 l8_17 [2] (fun q => some (E8 q))) :=
  .br (decide (s51 < s50)) (.ck (inR s51 s49.length) (.br (((atI (.pair tI tLn) s49 s51).1) != 1) (.leaf (.next (s0, s12, s49, s50, (IntKind.i64.wrap (s51 + 1))))) (.br (s12 == (s0.length : Int)) (.leaf (.ret false)) (.ck (inR s12 s0.length) (.br (!(((atI (.pair tI tLn) s49 s51).2.2.1) == (atI tS s0 s12))) (.leaf (.ret false)) (.leaf (.next (s0, (IntKind.i64.wrap (s12 + 1)), s49, s50, (IntKind.i64.wrap (s51 + 1)))))))))) (.leaf (.brk 0 (s0, s12, s49, s50, s51)))
noncomputable def L8_17 (N : Nat) (s0 : (List Bs)) (s12 : Int) (s49 : (List (Int × Ln))) (s50 : Int) (s51 : Int) : Option (Lp ((List Bs) × Int × (List (Int × Ln)) × Int × Int) Bool) := (U8_17 N s0 s12 s49 s50 s51).eval
noncomputable def W8_17 (N : Nat) (x : ((List Bs) × Int × (List (Int × Ln)) × Int × Int)) : Option (Lp ((List Bs) × Int × (List (Int × Ln)) × Int × Int) Bool) := runLoop (fun x => L8_17 N x.1 x.2.1 x.2.2.1 x.2.2.2.1 x.2.2.2.2) N x
theorem WS8_17 (N : Nat) (x : (shTy l8_17).I) : ∀ o, W8_17 N x = some o → S Try.prog (.loop b8_17) (buildSt 81 l8_17 x) (stepZ (rdD Try.prog Try.f8 false) l8_17 (encO 81 l8_17 [2] (fun q => some (E8 q)) o)) :=
  fun o h => loop_S (l := l8_17) (step := fun x => L8_17 N x.1 x.2.1 x.2.2.1 x.2.2.2.1 x.2.2.2.2) (fun x o h => wpc_sound (tbl := [(6, [0], l8_6)]) (μ := []) mixed _ _ _ (by
    have h1 := Vt.sound _ h
    refine Eq.mp ?_ h1
    kernel_rfl)) N x o h
noncomputable def V8 (N : Nat) (a0 : (List Bs)) (a1 : Int) : Vt Bool (Option D) (fun q => some (E8 q)) :=
  .br (decide ((20 : Int) < (a0.length : Int))) (.c1 (P10 N) (fun x1 => .leaf x1)) (.ck ((7 : Int) ≠ 0) (.ck (inR (a1.tmod 7) ([([32] : Bs), ([123] : Bs), ([125] : Bs), ([59] : Bs), ([10] : Bs), ([35, 120, 10] : Bs), ([32, 47, 42, 32, 42, 47] : Bs)] : (List Bs)).length) (.ck (inR (a1.tmod 7) ([([32] : Bs), ([123] : Bs), ([125] : Bs), ([59] : Bs), ([10] : Bs), ([35, 120, 10] : Bs), ([32, 47, 42, 32, 42, 47] : Bs)] : (List Bs)).length) (.f1 (l := l8_6) (o := W8_6 N (a0, (atI tS ([([32] : Bs), ([123] : Bs), ([125] : Bs), ([59] : Bs), ([10] : Bs), ([35, 120, 10] : Bs), ([32, 47, 42, 32, 42, 47] : Bs)] : (List Bs)) (a1.tmod 7)), ([] : Bs), a0, (a0.length : Int), 0)) (WS8_6 N (a0, (atI tS ([([32] : Bs), ([123] : Bs), ([125] : Bs), ([59] : Bs), ([10] : Bs), ([35, 120, 10] : Bs), ([32, 47, 42, 32, 42, 47] : Bs)] : (List Bs)) (a1.tmod 7)), ([] : Bs), a0, (a0.length : Int), 0)) (fun x2 => .c3 (P11 N x2.2.2.1) (fun x3 x4 x5 => .br (x5 != 0) (.leaf false) (.f1 (l := l8_17) (o := W8_17 N (x2.1, 0, x3, (x3.length : Int), 0)) (WS8_17 N (x2.1, 0, x3, (x3.length : Int), 0)) (fun x6 => .br (x6.2.1 == (x6.1.length : Int)) (.c1 (P10 N) (fun x7 => .leaf x7)) (.leaf false)))))))))
noncomputable def F8 (N : Nat) (a0 : (List Bs)) (a1 : Int) : Option Bool := (V8 N a0 a1).eval
def t8 : List (Nat × List Nat × List (Nat × Sh)) := [(6, [0], l8_6), (17, [2], l8_17)]
theorem P8 (N : Nat) (a0 : (List Bs)) (a1 : Int) : ∀ r, F8 N a0 a1 = some r → Spec Try.prog 8 [.val (.list tS) a0, .val (.int .u8) a1] (E8 r) := fun r h => Spec_of (fn := Try.f8) rfl rfl rfl rfl false (wpc_sound (tbl := t8) (μ := []) mixed _ _ _ (by
  have h1 := Vt.sound _ h
  refine Eq.mp ?_ h1
  kernel_rfl))

/-! ferryslip/ferrysliplaw02.LexRises -/
def E9 : Bool → D := fun x => encV tB x
abbrev l9_8 : List (Nat × Sh) := [(0, .val tS), (6, .val tI), (38, .val (.list (.pair tI tLn))), (39, .val tI), (40, .val tI)]
noncomputable def b9_8 : Code := loopBody 8 (bodyOf Try.f9)
noncomputable def U9_8 (N : Nat) (s0 : Bs) (s6 : Int) (s38 : (List (Int × Ln))) (s39 : Int) (s40 : Int) : Vt (Lp (shTy l9_8).I Bool) (O3 (Option D)) (encO 97 l9_8 [0] (fun q => some (E9 q))) :=
  .br (decide (s40 < s39)) (.ck (inR s40 s38.length) (.br (decide (((atI (.pair tI tLn) s38 s40).2.1) ≤ s6)) (.leaf (.ret false)) (.br (decide ((s0.length : Int) ≤ ((atI (.pair tI tLn) s38 s40).2.1))) (.leaf (.ret false)) (.ck (inR ((atI (.pair tI tLn) s38 s40).2.1) s0.length) (.br (!((((atI (.pair tI tLn) s38 s40).1) == 2) == ((byteAt s0 ((atI (.pair tI tLn) s38 s40).2.1)) == 123))) (.leaf (.ret false)) (.br (!((((atI (.pair tI tLn) s38 s40).1) == 3) == ((byteAt s0 ((atI (.pair tI tLn) s38 s40).2.1)) == 125))) (.leaf (.ret false)) (.br (!((((atI (.pair tI tLn) s38 s40).1) == 4) == ((byteAt s0 ((atI (.pair tI tLn) s38 s40).2.1)) == 59))) (.leaf (.ret false)) (.br ((byteAt s0 ((atI (.pair tI tLn) s38 s40).2.1)) == 32) (.leaf (.ret false)) (.br ((byteAt s0 ((atI (.pair tI tLn) s38 s40).2.1)) == 10) (.leaf (.ret false)) (.br ((byteAt s0 ((atI (.pair tI tLn) s38 s40).2.1)) == 35) (.leaf (.ret false)) (.leaf (.next (s0, (atI (.pair tI tLn) s38 s40).2.1, s38, s39, (IntKind.i64.wrap (s40 + 1))))))))))))))) (.leaf (.brk 0 (s0, s6, s38, s39, s40)))
noncomputable def L9_8 (N : Nat) (s0 : Bs) (s6 : Int) (s38 : (List (Int × Ln))) (s39 : Int) (s40 : Int) : Option (Lp (Bs × Int × (List (Int × Ln)) × Int × Int) Bool) := (U9_8 N s0 s6 s38 s39 s40).eval
noncomputable def W9_8 (N : Nat) (x : (Bs × Int × (List (Int × Ln)) × Int × Int)) : Option (Lp (Bs × Int × (List (Int × Ln)) × Int × Int) Bool) := runLoop (fun x => L9_8 N x.1 x.2.1 x.2.2.1 x.2.2.2.1 x.2.2.2.2) N x
theorem WS9_8 (N : Nat) (x : (shTy l9_8).I) : ∀ o, W9_8 N x = some o → S Try.prog (.loop b9_8) (buildSt 97 l9_8 x) (stepZ (rdD Try.prog Try.f9 false) l9_8 (encO 97 l9_8 [0] (fun q => some (E9 q)) o)) :=
  fun o h => loop_S (l := l9_8) (step := fun x => L9_8 N x.1 x.2.1 x.2.2.1 x.2.2.2.1 x.2.2.2.2) (fun x o h => wpc_sound (tbl := []) (μ := []) mixed _ _ _ (by
    have h1 := Vt.sound _ h
    refine Eq.mp ?_ h1
    kernel_rfl)) N x o h
noncomputable def V9 (N : Nat) (a0 : Bs) : Vt Bool (Option D) (fun q => some (E9 q)) :=
  .br (decide ((600 : Int) < (a0.length : Int))) (.c1 (P10 N) (fun x1 => .leaf x1)) (.c3 (P11 N a0) (fun x2 x3 x4 => .br (x4 != 0) (.br ((x2.length : Int) == 0) (.br (decide ((0 : Int) ≤ x3)) (.br (decide (x3 < (a0.length : Int))) (.c1 (P10 N) (fun x5 => .leaf x5)) (.leaf false)) (.leaf false)) (.leaf false)) (.f1 (l := l9_8) (o := W9_8 N (a0, (-1), x2, (x2.length : Int), 0)) (WS9_8 N (a0, (-1), x2, (x2.length : Int), 0)) (fun x6 => .c1 (P10 N) (fun x7 => .leaf x7)))))
noncomputable def F9 (N : Nat) (a0 : Bs) : Option Bool := (V9 N a0).eval
def t9 : List (Nat × List Nat × List (Nat × Sh)) := [(8, [0], l9_8)]
theorem P9 (N : Nat) (a0 : Bs) : ∀ r, F9 N a0 = some r → Spec Try.prog 9 [.val tS a0] (E9 r) := fun r h => Spec_of (fn := Try.f9) rfl rfl rfl rfl false (wpc_sound (tbl := t9) (μ := []) mixed _ _ _ (by
  have h1 := Vt.sound _ h
  refine Eq.mp ?_ h1
  kernel_rfl))

end Go.Proofs.Ytojcdimaeiibdaa.Vc
