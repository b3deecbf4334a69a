/-
  WHAT THE FUNCTIONS DO WITH DATA, printed by a program from the translation. No condition.
-/
import Derived.Test.YtmohgkoomnihfaaEs
import Derived.Test.YtmohgkoomnihfaaBs
import Derived.Test.YtmohgkoomnihfaaBc
import Derived.Test.YtmohgkoomnihfaaBr
import Derived.Test.YtmohgkoomnihfaaCf
import Derived.Test.YtmohgkoomnihfaaSc
set_option linter.unusedVariables false
set_option linter.unusedSimpArgs false
set_option maxRecDepth 100000
namespace Go.Proofs.Ytmohgkoomnihfaa.Vc
open Go.RowKit

/-! ferryslip/lex.comment -/
def E60 : Int → D := fun x => encV tI x
noncomputable def V60 (N : Nat) (a0 : Bs) (a1 : Int) : Vt Int (Option D) (fun q => some (E60 q)) :=
  .ck ((0 : Int) ≤ a1 ∧ a1 ≤ (a0.length : Int) ∧ (a0.length : Int) ≤ (a0.length : Int)) (.c1 (P76 N (slc a0 a1 (a0.length : Int)) ([35] : Bs)) (fun x1 => .br x1 (.c1 (P79 N (slc a0 a1 (a0.length : Int)) 10) (fun x2 => .br (decide (x2 < 0)) (.leaf (a0.length : Int)) (.leaf (IntKind.i64.wrap (a1 + x2))))) (.c1 (P76 N (slc a0 a1 (a0.length : Int)) ([47, 42] : Bs)) (fun x3 => .br x3 (.ck ((0 : Int) ≤ 2 ∧ (2 : Int) ≤ ((slc a0 a1 (a0.length : Int)).length : Int) ∧ ((slc a0 a1 (a0.length : Int)).length : Int) ≤ ((slc a0 a1 (a0.length : Int)).length : Int)) (.c1 (P80 N (slc (slc a0 a1 (a0.length : Int)) 2 ((slc a0 a1 (a0.length : Int)).length : Int)) ([42, 47] : Bs)) (fun x4 => .br (decide (x4 < 0)) (.leaf (-1)) (.leaf (IntKind.i64.wrap ((IntKind.i64.wrap (a1 + x4)) + 4)))))) (.leaf a1)))))
noncomputable def F60 (N : Nat) (a0 : Bs) (a1 : Int) : Option Int := (V60 N a0 a1).eval
def t60 : List (Nat × List Nat × List (Nat × Sh)) := []
theorem P60 (N : Nat) (a0 : Bs) (a1 : Int) : ∀ r, F60 N a0 a1 = some r → Spec Try.prog 60 [.val tS a0, .val tI a1] (E60 r) := fun r h => Spec_of (fn := Try.f60) rfl rfl rfl rfl false (wpc_sound (tbl := t60) (μ := []) mixed _ _ _ (by
  have h1 := Vt.sound _ h
  refine Eq.mp ?_ h1
  kernel_rfl))

/-! ferryslip/lex.blanks -/
def E40 : (Int × Bool) → D := fun x => .tup [encV tI x.1, encV tB x.2]
abbrev l40_1 : List (Nat × Sh) := [(0, .val tS), (1, .val tI)]
noncomputable def b40_1 : Code := loopBody 1 (bodyOf Try.f40)
noncomputable def U40_1 (N : Nat) (s0 : Bs) (s1 : Int) : Vt (Lp (shTy l40_1).I (Int × Bool)) (O3 (Option D)) (encO 34 l40_1 [0] (fun q => some (E40 q))) :=
  .br (decide (s1 < (s0.length : Int))) (.ck (inR s1 s0.length) (.br ((byteAt s0 s1) == 32) (.leaf (.next (s0, (IntKind.i64.wrap (s1 + 1))))) (.br ((byteAt s0 s1) == 9) (.leaf (.next (s0, (IntKind.i64.wrap (s1 + 1))))) (.br ((byteAt s0 s1) == 10) (.leaf (.next (s0, (IntKind.i64.wrap (s1 + 1))))) (.br ((byteAt s0 s1) == 13) (.leaf (.next (s0, (IntKind.i64.wrap (s1 + 1))))) (.c1 (P60 N s0 s1) (fun x1 => .br (decide (x1 < 0)) (.leaf (.ret (s1, false))) (.br (x1 == s1) (.leaf (.brk 0 (s0, s1))) (.leaf (.next (s0, x1))))))))))) (.leaf (.brk 0 (s0, s1)))
noncomputable def L40_1 (N : Nat) (s0 : Bs) (s1 : Int) : Option (Lp (Bs × Int) (Int × Bool)) := (U40_1 N s0 s1).eval
noncomputable def W40_1 (N : Nat) (x : (Bs × Int)) : Option (Lp (Bs × Int) (Int × Bool)) := runLoop (fun x => L40_1 N x.1 x.2) N x
theorem WS40_1 (N : Nat) (x : (shTy l40_1).I) : ∀ o, W40_1 N x = some o → S Try.prog (.loop b40_1) (buildSt 34 l40_1 x) (stepZ (rdD Try.prog Try.f40 false) l40_1 (encO 34 l40_1 [0] (fun q => some (E40 q)) o)) :=
  fun o h => loop_S (l := l40_1) (step := fun x => L40_1 N x.1 x.2) (fun x o h => wpc_sound (tbl := []) (μ := []) mixed _ _ _ (by
    have h1 := Vt.sound _ h
    refine Eq.mp ?_ h1
    kernel_rfl)) N x o h
noncomputable def V40 (N : Nat) (a0 : Bs) (a1 : Int) : Vt (Int × Bool) (Option D) (fun q => some (E40 q)) :=
  .f1 (l := l40_1) (o := W40_1 N (a0, a1)) (WS40_1 N (a0, a1)) (fun x1 => .leaf (x1.2, true))
noncomputable def F40 (N : Nat) (a0 : Bs) (a1 : Int) : Option (Int × Bool) := (V40 N a0 a1).eval
def t40 : List (Nat × List Nat × List (Nat × Sh)) := [(1, [0], l40_1)]
theorem P40 (N : Nat) (a0 : Bs) (a1 : Int) : ∀ r, F40 N a0 a1 = some r → Spec Try.prog 40 [.val tS a0, .val tI a1] (E40 r) := fun r h => Spec_of (fn := Try.f40) rfl rfl rfl rfl false (wpc_sound (tbl := t40) (μ := []) mixed _ _ _ (by
  have h1 := Vt.sound _ h
  refine Eq.mp ?_ h1
  kernel_rfl))

/-! ferryslip/lex.signs -/
def E61 : Int → D := fun x => encV tI x
noncomputable def V61 (N : Nat) (a0 : Int) : Vt Int (Option D) (fun q => some (E61 q)) :=
  .br (a0 == 123) (.leaf 2) (.br (a0 == 125) (.leaf 3) (.br (a0 == 59) (.leaf 4) (.leaf 0)))
noncomputable def F61 (N : Nat) (a0 : Int) : Option Int := (V61 N a0).eval
def t61 : List (Nat × List Nat × List (Nat × Sh)) := []
theorem P61 (N : Nat) (a0 : Int) : ∀ r, F61 N a0 = some r → Spec Try.prog 61 [.val (.int .u8) a0] (E61 r) := fun r h => Spec_of (fn := Try.f61) rfl rfl rfl rfl false (wpc_sound (tbl := t61) (μ := []) mixed _ _ _ (by
  have h1 := Vt.sound _ h
  refine Eq.mp ?_ h1
  kernel_rfl))

/-! ferryslip/word.bare -/
def E94 : Bool → D := fun x => encV tB x
noncomputable def V94 (N : Nat) (a0 : Int) : Vt Bool (Option D) (fun q => some (E94 q)) :=
  .br (decide ((97 : Int) ≤ a0)) (.br (decide (a0 ≤ 122)) (.leaf true) (.br (decide ((65 : Int) ≤ a0)) (.br (decide (a0 ≤ 90)) (.leaf true) (.br (decide ((48 : Int) ≤ a0)) (.br (decide (a0 ≤ 57)) (.leaf true) (.c1 (P79 N ([45, 95, 46, 47, 58, 42] : Bs) a0) (fun x1 => .leaf (decide ((0 : Int) ≤ x1))))) (.c1 (P79 N ([45, 95, 46, 47, 58, 42] : Bs) a0) (fun x2 => .leaf (decide ((0 : Int) ≤ x2)))))) (.br (decide ((48 : Int) ≤ a0)) (.br (decide (a0 ≤ 57)) (.leaf true) (.c1 (P79 N ([45, 95, 46, 47, 58, 42] : Bs) a0) (fun x3 => .leaf (decide ((0 : Int) ≤ x3))))) (.c1 (P79 N ([45, 95, 46, 47, 58, 42] : Bs) a0) (fun x4 => .leaf (decide ((0 : Int) ≤ x4))))))) (.br (decide ((65 : Int) ≤ a0)) (.br (decide (a0 ≤ 90)) (.leaf true) (.br (decide ((48 : Int) ≤ a0)) (.br (decide (a0 ≤ 57)) (.leaf true) (.c1 (P79 N ([45, 95, 46, 47, 58, 42] : Bs) a0) (fun x5 => .leaf (decide ((0 : Int) ≤ x5))))) (.c1 (P79 N ([45, 95, 46, 47, 58, 42] : Bs) a0) (fun x6 => .leaf (decide ((0 : Int) ≤ x6)))))) (.br (decide ((48 : Int) ≤ a0)) (.br (decide (a0 ≤ 57)) (.leaf true) (.c1 (P79 N ([45, 95, 46, 47, 58, 42] : Bs) a0) (fun x7 => .leaf (decide ((0 : Int) ≤ x7))))) (.c1 (P79 N ([45, 95, 46, 47, 58, 42] : Bs) a0) (fun x8 => .leaf (decide ((0 : Int) ≤ x8))))))
noncomputable def F94 (N : Nat) (a0 : Int) : Option Bool := (V94 N a0).eval
def t94 : List (Nat × List Nat × List (Nat × Sh)) := []
theorem P94 (N : Nat) (a0 : Int) : ∀ r, F94 N a0 = some r → Spec Try.prog 94 [.val (.int .u8) a0] (E94 r) := fun r h => Spec_of (fn := Try.f94) rfl rfl rfl rfl false (wpc_sound (tbl := t94) (μ := []) mixed _ _ _ (by
  have h1 := Vt.sound _ h
  refine Eq.mp ?_ h1
  kernel_rfl))

/-! ferryslip/word.run -/
def E72 : Int → D := fun x => encV tI x
abbrev l72_2 : List (Nat × Sh) := [(0, .val tS), (3, .val tI)]
noncomputable def b72_2 : Code := loopBody 2 (bodyOf Try.f72)
noncomputable def U72_2 (N : Nat) (s0 : Bs) (s3 : Int) : Vt (Lp (shTy l72_2).I Int) (O3 (Option D)) (encO 17 l72_2 [0] (fun q => some (E72 q))) :=
  .br (decide (s3 < (s0.length : Int))) (.ck (inR s3 s0.length) (.c1 (P94 N (byteAt s0 s3)) (fun x1 => .br x1 (.leaf (.next (s0, (IntKind.i64.wrap (s3 + 1))))) (.leaf (.brk 0 (s0, s3)))))) (.leaf (.brk 0 (s0, s3)))
noncomputable def L72_2 (N : Nat) (s0 : Bs) (s3 : Int) : Option (Lp (Bs × Int) Int) := (U72_2 N s0 s3).eval
noncomputable def W72_2 (N : Nat) (x : (Bs × Int)) : Option (Lp (Bs × Int) Int) := runLoop (fun x => L72_2 N x.1 x.2) N x
theorem WS72_2 (N : Nat) (x : (shTy l72_2).I) : ∀ o, W72_2 N x = some o → S Try.prog (.loop b72_2) (buildSt 17 l72_2 x) (stepZ (rdD Try.prog Try.f72 false) l72_2 (encO 17 l72_2 [0] (fun q => some (E72 q)) o)) :=
  fun o h => loop_S (l := l72_2) (step := fun x => L72_2 N x.1 x.2) (fun x o h => wpc_sound (tbl := []) (μ := []) mixed _ _ _ (by
    have h1 := Vt.sound _ h
    refine Eq.mp ?_ h1
    kernel_rfl)) N x o h
noncomputable def V72 (N : Nat) (a0 : Bs) : Vt Int (Option D) (fun q => some (E72 q)) :=
  .f1 (l := l72_2) (o := W72_2 N (a0, 0)) (WS72_2 N (a0, 0)) (fun x1 => .leaf x1.2)
noncomputable def F72 (N : Nat) (a0 : Bs) : Option Int := (V72 N a0).eval
def t72 : List (Nat × List Nat × List (Nat × Sh)) := [(2, [0], l72_2)]
theorem P72 (N : Nat) (a0 : Bs) : ∀ r, F72 N a0 = some r → Spec Try.prog 72 [.val tS a0] (E72 r) := fun r h => Spec_of (fn := Try.f72) rfl rfl rfl rfl false (wpc_sound (tbl := t72) (μ := []) mixed _ _ _ (by
  have h1 := Vt.sound _ h
  refine Eq.mp ?_ h1
  kernel_rfl))

/-! ferryslip/word.Scan -/
def E62 : (Int × Bool) → D := fun x => .tup [encV tI x.1, encV tB x.2]
abbrev l62_9 : List (Nat × Sh) := [(0, .val tS), (7, .val tI)]
noncomputable def b62_9 : Code := loopBody 9 (bodyOf Try.f62)
noncomputable def U62_9 (N : Nat) (s0 : Bs) (s7 : Int) : Vt (Lp (shTy l62_9).I (Int × Bool)) (O3 (Option D)) (encO 48 l62_9 [0] (fun q => some (E62 q))) :=
  .br (decide (s7 < (s0.length : Int))) (.ck (inR s7 s0.length) (.br ((byteAt s0 s7) == 92) (.leaf (.next (s0, (IntKind.i64.wrap ((IntKind.i64.wrap (s7 + 1)) + 1))))) (.br ((byteAt s0 s7) == 34) (.leaf (.ret ((IntKind.i64.wrap (s7 + 1)), true))) (.leaf (.next (s0, (IntKind.i64.wrap (s7 + 1)))))))) (.leaf (.brk 0 (s0, s7)))
noncomputable def L62_9 (N : Nat) (s0 : Bs) (s7 : Int) : Option (Lp (Bs × Int) (Int × Bool)) := (U62_9 N s0 s7).eval
noncomputable def W62_9 (N : Nat) (x : (Bs × Int)) : Option (Lp (Bs × Int) (Int × Bool)) := runLoop (fun x => L62_9 N x.1 x.2) N x
theorem WS62_9 (N : Nat) (x : (shTy l62_9).I) : ∀ o, W62_9 N x = some o → S Try.prog (.loop b62_9) (buildSt 48 l62_9 x) (stepZ (rdD Try.prog Try.f62 false) l62_9 (encO 48 l62_9 [0] (fun q => some (E62 q)) o)) :=
  fun o h => loop_S (l := l62_9) (step := fun x => L62_9 N x.1 x.2) (fun x o h => wpc_sound (tbl := []) (μ := []) mixed _ _ _ (by
    have h1 := Vt.sound _ h
    refine Eq.mp ?_ h1
    kernel_rfl)) N x o h
noncomputable def V62 (N : Nat) (a0 : Bs) (a1 : Int) : Vt (Int × Bool) (Option D) (fun q => some (E62 q)) :=
  .br (decide (a1 < 0)) (.leaf (0, false)) (.br (decide ((a0.length : Int) ≤ a1)) (.leaf (0, false)) (.ck (inR a1 a0.length) (.br ((byteAt a0 a1) != 34) (.ck ((0 : Int) ≤ a1 ∧ a1 ≤ (a0.length : Int) ∧ (a0.length : Int) ≤ (a0.length : Int)) (.c1 (P72 N (slc a0 a1 (a0.length : Int))) (fun x1 => .br (x1 == 0) (.leaf (0, false)) (.leaf ((IntKind.i64.wrap (a1 + x1)), true))))) (.f1 (l := l62_9) (o := W62_9 N (a0, (IntKind.i64.wrap (a1 + 1)))) (WS62_9 N (a0, (IntKind.i64.wrap (a1 + 1)))) (fun x2 => .leaf (0, false))))))
noncomputable def F62 (N : Nat) (a0 : Bs) (a1 : Int) : Option (Int × Bool) := (V62 N a0 a1).eval
def t62 : List (Nat × List Nat × List (Nat × Sh)) := [(9, [0], l62_9)]
theorem P62 (N : Nat) (a0 : Bs) (a1 : Int) : ∀ r, F62 N a0 a1 = some r → Spec Try.prog 62 [.val tS a0, .val tI a1] (E62 r) := fun r h => Spec_of (fn := Try.f62) rfl rfl rfl rfl false (wpc_sound (tbl := t62) (μ := []) mixed _ _ _ (by
  have h1 := Vt.sound _ h
  refine Eq.mp ?_ h1
  kernel_rfl))

/-! ferryslip/lex.bit -/
def E63 : Int → D := fun x => encV tI x
noncomputable def V63 (N : Nat) (a0 : Bs) : Vt Int (Option D) (fun q => some (E63 q)) :=
  .br (a0 == ([105, 110, 97, 99, 116, 105, 118, 101, 58] : Bs)) (.leaf 1) (.br (a0 == ([112, 114, 111, 116, 101, 99, 116, 58] : Bs)) (.leaf 2) (.leaf 0))
noncomputable def F63 (N : Nat) (a0 : Bs) : Option Int := (V63 N a0).eval
def t63 : List (Nat × List Nat × List (Nat × Sh)) := []
theorem P63 (N : Nat) (a0 : Bs) : ∀ r, F63 N a0 = some r → Spec Try.prog 63 [.val tS a0] (E63 r) := fun r h => Spec_of (fn := Try.f63) rfl rfl rfl rfl false (wpc_sound (tbl := t63) (μ := []) mixed _ _ _ (by
  have h1 := Vt.sound _ h
  refine Eq.mp ?_ h1
  kernel_rfl))

/-! ferryslip/word.mark -/
def E73 : Bool → D := fun x => encV tB x
noncomputable def V73 (N : Nat) (a0 : Bs) : Vt Bool (Option D) (fun q => some (E73 q)) :=
  .br (a0 == ([105, 110, 97, 99, 116, 105, 118, 101, 58] : Bs)) (.leaf true) (.br (a0 == ([112, 114, 111, 116, 101, 99, 116, 58] : Bs)) (.leaf true) (.c1 (P76 N a0 ([47, 42] : Bs)) (fun x1 => .leaf x1)))
noncomputable def F73 (N : Nat) (a0 : Bs) : Option Bool := (V73 N a0).eval
def t73 : List (Nat × List Nat × List (Nat × Sh)) := []
theorem P73 (N : Nat) (a0 : Bs) : ∀ r, F73 N a0 = some r → Spec Try.prog 73 [.val tS a0] (E73 r) := fun r h => Spec_of (fn := Try.f73) rfl rfl rfl rfl false (wpc_sound (tbl := t73) (μ := []) mixed _ _ _ (by
  have h1 := Vt.sound _ h
  refine Eq.mp ?_ h1
  kernel_rfl))

/-! ferryslip/word.piece -/
def E101 : (Int × Int) → D := fun x => .tup [encV (.int .u8) x.1, encV tI x.2]
noncomputable def V101 (N : Nat) (a0 : Bs) : Vt (Int × Int) (Option D) (fun q => some (E101 q)) :=
  .ck (inR 0 a0.length) (.br ((byteAt a0 0) == 34) (.leaf (0, 0)) (.ck (inR 0 a0.length) (.br (decide ((byteAt a0 0) < 32)) (.leaf (0, 0)) (.ck (inR 0 a0.length) (.br (decide ((126 : Int) < (byteAt a0 0))) (.leaf (0, 0)) (.ck (inR 0 a0.length) (.br ((byteAt a0 0) != 92) (.ck (inR 0 a0.length) (.leaf ((byteAt a0 0), 1))) (.br (decide ((a0.length : Int) < 2)) (.leaf (0, 0)) (.ck (inR 1 a0.length) (.br ((byteAt a0 1) == 34) (.ck (inR 1 a0.length) (.leaf ((byteAt a0 1), 2))) (.ck (inR 1 a0.length) (.br ((byteAt a0 1) == 92) (.ck (inR 1 a0.length) (.leaf ((byteAt a0 1), 2))) (.ck (inR 1 a0.length) (.br ((byteAt a0 1) != 120) (.leaf (0, 0)) (.br (decide ((a0.length : Int) < 4)) (.leaf (0, 0)) (.ck (inR 2 a0.length) (.c1 (P79 N ([48, 49, 50, 51, 52, 53, 54, 55, 56, 57, 97, 98, 99, 100, 101, 102] : Bs) (byteAt a0 2)) (fun x1 => .ck (inR 3 a0.length) (.c1 (P79 N ([48, 49, 50, 51, 52, 53, 54, 55, 56, 57, 97, 98, 99, 100, 101, 102] : Bs) (byteAt a0 3)) (fun x2 => .br (decide (x1 < 0)) (.leaf (0, 0)) (.br (decide (x2 < 0)) (.leaf (0, 0)) (.ck (0 ≤ (4 : Int)) (.leaf ((IntKind.u8.wrap (IntKind.i64.wrap (((BitVec.ofInt IntKind.i64.bits (IntKind.i64.wrap (x1 * 2 ^ (min (4 : Int).toNat (IntKind.i64.bits)))) ||| BitVec.ofInt IntKind.i64.bits x2).toNat : Int)))), 4))))))))))))))))))))))))
noncomputable def F101 (N : Nat) (a0 : Bs) : Option (Int × Int) := (V101 N a0).eval
def t101 : List (Nat × List Nat × List (Nat × Sh)) := []
theorem P101 (N : Nat) (a0 : Bs) : ∀ r, F101 N a0 = some r → Spec Try.prog 101 [.val tS a0] (E101 r) := fun r h => Spec_of (fn := Try.f101) rfl rfl rfl rfl false (wpc_sound (tbl := t101) (μ := []) mixed _ _ _ (by
  have h1 := Vt.sound _ h
  refine Eq.mp ?_ h1
  kernel_rfl))

/-! ferryslip/word.inner -/
def E81 : (Bs × Bool) → D := fun x => .tup [encV tS x.1, encV tB x.2]
abbrev l81_2 : List (Nat × Sh) := [(0, .val tS), (4, .grp false 4 71 [.slf, .buf 5])]
noncomputable def b81_2 : Code := loopBody 2 (bodyOf Try.f81)
noncomputable def U81_2 (N : Nat) (s0 : Bs) (s4 : (Bool × (List Int))) : Vt (Lp (shTy l81_2).I (Bs × Bool)) (O3 (Option D)) (encO 22 l81_2 [0] (fun q => some (E81 q))) :=
  .br (!(s0 == ([] : Bs))) (.c2 (P101 N s0) (fun x1 x2 => .br (x2 == 0) (.leaf (.ret (([] : Bs), false))) (.cr (P56b N (true, s4.2) x1) (fun x3 => .ck ((0 : Int) ≤ x2 ∧ x2 ≤ (s0.length : Int) ∧ (s0.length : Int) ≤ (s0.length : Int)) (.leaf (.next ((slc s0 x2 (s0.length : Int)), (true, x3.2)))))))) (.leaf (.brk 0 (s0, (true, s4.2))))
noncomputable def L81_2 (N : Nat) (s0 : Bs) (s4 : (Bool × (List Int))) : Option (Lp (Bs × (Bool × (List Int))) (Bs × Bool)) := (U81_2 N s0 s4).eval
noncomputable def W81_2 (N : Nat) (x : (Bs × (Bool × (List Int)))) : Option (Lp (Bs × (Bool × (List Int))) (Bs × Bool)) := runLoop (fun x => L81_2 N x.1 x.2) N x
theorem WS81_2 (N : Nat) (x : (shTy l81_2).I) : ∀ o, W81_2 N x = some o → S Try.prog (.loop b81_2) (buildSt 22 l81_2 x) (stepZ (rdD Try.prog Try.f81 false) l81_2 (encO 22 l81_2 [0] (fun q => some (E81 q)) o)) :=
  fun o h => loop_S (l := l81_2) (step := fun x => L81_2 N x.1 x.2) (fun x o h => wpc_sound (tbl := []) (μ := [4000056]) mixed _ _ _ (by
    have h1 := Vt.sound _ h
    refine Eq.mp ?_ h1
    kernel_rfl)) N x o h
noncomputable def V81 (N : Nat) (a0 : Bs) : Vt (Bs × Bool) (Option D) (fun q => some (E81 q)) :=
  .f1 (l := l81_2) (o := W81_2 N (a0, (true, ([] : List Int)))) (WS81_2 N (a0, (true, ([] : List Int)))) (fun x1 => .cr (P38k N (true, x1.2.2)) (fun x2 => .leaf (x2, true)))
noncomputable def F81 (N : Nat) (a0 : Bs) : Option (Bs × Bool) := (V81 N a0).eval
def t81 : List (Nat × List Nat × List (Nat × Sh)) := [(2, [0], l81_2)]
theorem P81 (N : Nat) (a0 : Bs) : ∀ r, F81 N a0 = some r → Spec Try.prog 81 [.val tS a0] (E81 r) := fun r h => Spec_of (fn := Try.f81) rfl rfl rfl rfl false (wpc_sound (tbl := t81) (μ := [4000056, 5000038]) mixed _ _ _ (by
  have h1 := Vt.sound _ h
  refine Eq.mp ?_ h1
  kernel_rfl))

/-! ferryslip/word.Unquote -/
def E64 : (Bs × Int) → D := fun x => .tup [encV tS x.1, encV tI x.2]
noncomputable def V64 (N : Nat) (a0 : Bs) : Vt (Bs × Int) (Option D) (fun q => some (E64 q)) :=
  .br (!(a0 == ([] : Bs))) (.c1 (P72 N a0) (fun x1 => .br (x1 == (a0.length : Int)) (.c1 (P73 N a0) (fun x2 => .br (decide ((1 : Int) < (a0.length : Int))) (.ck (inR 0 a0.length) (.br ((byteAt a0 0) == 34) (.ck (inR (IntKind.i64.wrap ((a0.length : Int) - 1)) a0.length) (.br ((byteAt a0 (IntKind.i64.wrap ((a0.length : Int) - 1))) == 34) (.ck ((0 : Int) ≤ 1 ∧ (1 : Int) ≤ (IntKind.i64.wrap ((a0.length : Int) - 1)) ∧ (IntKind.i64.wrap ((a0.length : Int) - 1)) ≤ (a0.length : Int)) (.c2 (P81 N (slc a0 1 (IntKind.i64.wrap ((a0.length : Int) - 1)))) (fun x3 x4 => .br (!x4) (.leaf (([] : Bs), 2)) (.br (decide ((40 : Int) < (x3.length : Int))) (.leaf (([] : Bs), 5)) (.leaf (x3, 0)))))) (.br (!(!x2)) (.leaf (([] : Bs), 2)) (.br (decide ((40 : Int) < (a0.length : Int))) (.leaf (([] : Bs), 5)) (.leaf (a0, 0)))))) (.br (!(!x2)) (.leaf (([] : Bs), 2)) (.br (decide ((40 : Int) < (a0.length : Int))) (.leaf (([] : Bs), 5)) (.leaf (a0, 0)))))) (.br (!(!x2)) (.leaf (([] : Bs), 2)) (.br (decide ((40 : Int) < (a0.length : Int))) (.leaf (([] : Bs), 5)) (.leaf (a0, 0)))))) (.br (decide ((1 : Int) < (a0.length : Int))) (.ck (inR 0 a0.length) (.br ((byteAt a0 0) == 34) (.ck (inR (IntKind.i64.wrap ((a0.length : Int) - 1)) a0.length) (.br ((byteAt a0 (IntKind.i64.wrap ((a0.length : Int) - 1))) == 34) (.ck ((0 : Int) ≤ 1 ∧ (1 : Int) ≤ (IntKind.i64.wrap ((a0.length : Int) - 1)) ∧ (IntKind.i64.wrap ((a0.length : Int) - 1)) ≤ (a0.length : Int)) (.c2 (P81 N (slc a0 1 (IntKind.i64.wrap ((a0.length : Int) - 1)))) (fun x5 x6 => .br (!x6) (.leaf (([] : Bs), 2)) (.br (decide ((40 : Int) < (x5.length : Int))) (.leaf (([] : Bs), 5)) (.leaf (x5, 0)))))) (.leaf (([] : Bs), 2)))) (.leaf (([] : Bs), 2)))) (.leaf (([] : Bs), 2))))) (.br (decide ((1 : Int) < (a0.length : Int))) (.ck (inR 0 a0.length) (.br ((byteAt a0 0) == 34) (.ck (inR (IntKind.i64.wrap ((a0.length : Int) - 1)) a0.length) (.br ((byteAt a0 (IntKind.i64.wrap ((a0.length : Int) - 1))) == 34) (.ck ((0 : Int) ≤ 1 ∧ (1 : Int) ≤ (IntKind.i64.wrap ((a0.length : Int) - 1)) ∧ (IntKind.i64.wrap ((a0.length : Int) - 1)) ≤ (a0.length : Int)) (.c2 (P81 N (slc a0 1 (IntKind.i64.wrap ((a0.length : Int) - 1)))) (fun x7 x8 => .br (!x8) (.leaf (([] : Bs), 2)) (.br (decide ((40 : Int) < (x7.length : Int))) (.leaf (([] : Bs), 5)) (.leaf (x7, 0)))))) (.leaf (([] : Bs), 2)))) (.leaf (([] : Bs), 2)))) (.leaf (([] : Bs), 2)))
noncomputable def F64 (N : Nat) (a0 : Bs) : Option (Bs × Int) := (V64 N a0).eval
def t64 : List (Nat × List Nat × List (Nat × Sh)) := []
theorem P64 (N : Nat) (a0 : Bs) : ∀ r, F64 N a0 = some r → Spec Try.prog 64 [.val tS a0] (E64 r) := fun r h => Spec_of (fn := Try.f64) rfl rfl rfl rfl false (wpc_sound (tbl := t64) (μ := []) mixed _ _ _ (by
  have h1 := Vt.sound _ h
  refine Eq.mp ?_ h1
  kernel_rfl))

/-! ferryslip/lex.token -/
def E41 : ((Int × Ln) × Int × Int) → D := fun x => .tup [encV (.pair tI tLn) x.1, encV tI x.2.1, encV tI x.2.2]
noncomputable def V41 (N : Nat) (a0 : Bs) (a1 : Int) : Vt ((Int × Ln) × Int × Int) (Option D) (fun q => some (E41 q)) :=
  .ck (inR a1 a0.length) (.c1 (P61 N (byteAt a0 a1)) (fun x1 => .br (decide ((0 : Int) < x1)) (.leaf ((x1, a1, ([] : Bs), 0), (IntKind.i64.wrap (a1 + 1)), 0)) (.c2 (P62 N a0 a1) (fun x2 x3 => .br (!x3) (.leaf ((0, 0, ([] : Bs), 0), 0, 2)) (.ck ((0 : Int) ≤ a1 ∧ a1 ≤ x2 ∧ x2 ≤ (a0.length : Int)) (.c1 (P63 N (slc a0 a1 x2)) (fun x4 => .br (decide ((0 : Int) < x4)) (.leaf ((5, a1, ([] : Bs), x4), x2, 0)) (.ck ((0 : Int) ≤ a1 ∧ a1 ≤ x2 ∧ x2 ≤ (a0.length : Int)) (.c2 (P64 N (slc a0 a1 x2)) (fun x5 x6 => .leaf ((1, a1, x5, 0), x2, x6)))))))))))
noncomputable def F41 (N : Nat) (a0 : Bs) (a1 : Int) : Option ((Int × Ln) × Int × Int) := (V41 N a0 a1).eval
def t41 : List (Nat × List Nat × List (Nat × Sh)) := []
theorem P41 (N : Nat) (a0 : Bs) (a1 : Int) : ∀ r, F41 N a0 a1 = some r → Spec Try.prog 41 [.val tS a0, .val tI a1] (E41 r) := fun r h => Spec_of (fn := Try.f41) rfl rfl rfl rfl false (wpc_sound (tbl := t41) (μ := []) mixed _ _ _ (by
  have h1 := Vt.sound _ h
  refine Eq.mp ?_ h1
  kernel_rfl))

/-! ferryslip/lex.All -/
def E20 : ((List (Int × Ln)) × Int × Int) → D := fun x => .tup [encV (.list (.pair tI tLn)) x.1, encV tI x.2.1, encV tI x.2.2]
abbrev l20_3 : List (Nat × Sh) := [(0, .val tS), (5, .row false 42 81 (.pair tI tLn)), (6, .val tI)]
noncomputable def b20_3 : Code := loopBody 3 (bodyOf Try.f20)
noncomputable def U20_3 (N : Nat) (s0 : Bs) (s5 : (List (Int × Ln))) (s6 : Int) : Vt (Lp (shTy l20_3).I ((List (Int × Ln)) × Int × Int)) (O3 (Option D)) (encO 44 l20_3 [] (fun q => some (E20 q))) :=
  .c2 (P40 N s0 s6) (fun x1 x2 => .br (!x2) (.leaf (.ret (([] : (List (Int × Ln))), x1, 2))) (.br (x1 == (s0.length : Int)) (.leaf (.ret (s5, 0, 0))) (.c3 (P41 N s0 x1) (fun x3 x4 x5 => .br (x5 != 0) (.leaf (.ret (([] : (List (Int × Ln))), x1, x5))) (.ck (room (s5.length + ([x3] : (List (Int × Ln))).length)) (.leaf (.next (s0, (s5 ++ ([x3] : (List (Int × Ln)))), x4))))))))
noncomputable def L20_3 (N : Nat) (s0 : Bs) (s5 : (List (Int × Ln))) (s6 : Int) : Option (Lp (Bs × (List (Int × Ln)) × Int) ((List (Int × Ln)) × Int × Int)) := (U20_3 N s0 s5 s6).eval
noncomputable def W20_3 (N : Nat) (x : (Bs × (List (Int × Ln)) × Int)) : Option (Lp (Bs × (List (Int × Ln)) × Int) ((List (Int × Ln)) × Int × Int)) := runLoop (fun x => L20_3 N x.1 x.2.1 x.2.2) N x
theorem WS20_3 (N : Nat) (x : (shTy l20_3).I) : ∀ o, W20_3 N x = some o → S Try.prog (.loop b20_3) (buildSt 44 l20_3 x) (stepZ (rdD Try.prog Try.f20 false) l20_3 (encO 44 l20_3 [] (fun q => some (E20 q)) o)) :=
  fun o h => loop_S (l := l20_3) (step := fun x => L20_3 N x.1 x.2.1 x.2.2) (fun x o h => wpc_sound (tbl := []) (μ := []) mixed _ _ _ (by
    have h1 := Vt.sound _ h
    refine Eq.mp ?_ h1
    kernel_rfl)) N x o h
noncomputable def V20 (N : Nat) (a0 : Bs) : Vt ((List (Int × Ln)) × Int × Int) (Option D) (fun q => some (E20 q)) :=
  .f0 (l := l20_3) (o := W20_3 N (a0, ([] : (List (Int × Ln))), 0)) (WS20_3 N (a0, ([] : (List (Int × Ln))), 0))
noncomputable def F20 (N : Nat) (a0 : Bs) : Option ((List (Int × Ln)) × Int × Int) := (V20 N a0).eval
def t20 : List (Nat × List Nat × List (Nat × Sh)) := [(3, [], l20_3)]
theorem P20 (N : Nat) (a0 : Bs) : ∀ r, F20 N a0 = some r → Spec Try.prog 20 [.val tS a0] (E20 r) := fun r h => Spec_of (fn := Try.f20) rfl rfl rfl rfl false (wpc_sound (tbl := t20) (μ := []) mixed _ _ _ (by
  have h1 := Vt.sound _ h
  refine Eq.mp ?_ h1
  kernel_rfl))

/-! (*ferryslip/parse.parser).next -/
def E42g : (((List (Int × Ln)) × (Int × ((List (Ln × Int)) × (List Int)))) × Int × Int) → D := fun x => .tup [encV tI x.2.1, encV tI x.2.2]
noncomputable def V42g (N : Nat) (a0 : ((List (Int × Ln)) × (Int × ((List (Ln × Int)) × (List Int))))) : Vt (((List (Int × Ln)) × (Int × ((List (Ln × Int)) × (List Int)))) × Int × Int) (Option D × Option (gTy [.dat (.list (.pair tI tLn)), .dat tI, .row 89 (.pair tLn tI), .row 3 tI]).I) (fun q => (some (E42g q), some (q.1 : (gTy [.dat (.list (.pair tI tLn)), .dat tI, .row 89 (.pair tLn tI), .row 3 tI]).I))) :=
  .br ((a0.1.length : Int) == 0) (.leaf (a0, 0, a0.2.1)) (.ck (inR 0 a0.1.length) (.ck (inR 0 a0.1.length) (.leaf (a0, (atI (.pair tI tLn) a0.1 0).1, (atI (.pair tI tLn) a0.1 0).2.1))))
noncomputable def F42g (N : Nat) (a0 : ((List (Int × Ln)) × (Int × ((List (Ln × Int)) × (List Int))))) : Option (((List (Int × Ln)) × (Int × ((List (Ln × Int)) × (List Int)))) × Int × Int) := (V42g N a0).eval
def t42g : List (Nat × List Nat × List (Nat × Sh)) := []
theorem P42g (N : Nat) (a0 : ((List (Int × Ln)) × (Int × ((List (Ln × Int)) × (List Int))))) : ∀ r, F42g N a0 = some r → SpecG Try.prog 42 52 [.dat (.list (.pair tI tLn)), .dat tI, .row 89 (.pair tLn tI), .row 3 tI] a0 [] r.1 (E42g r) := fun r h => SpecG_of2 (fn := Try.f42) rfl rfl rfl rfl (.inr (.inr (.inr ⟨_, _, _, _, rfl, rfl, rfl⟩))) (wpc_sound (tbl := t42g) (μ := []) mixed _ _ _ (by
  have h1 := Vt.sound _ h
  refine Eq.mp ?_ h1
  kernel_rfl))

/-! (*ferryslip/parse.parser).marks -/
def E43g : (((List (Int × Ln)) × (Int × ((List (Ln × Int)) × (List Int)))) × Int × Bool) → D := fun x => .tup [encV tI x.2.1, encV tB x.2.2]
abbrev l43g_2 : List (Nat × Sh) := [(0, .grp true 0 52 [.dat (.list (.pair tI tLn)), .dat tI, .row 89 (.pair tLn tI), .row 3 tI]), (4, .val tI)]
noncomputable def b43g_2 : Code := loopBody 2 (bodyOf Try.f43)
noncomputable def U43g_2 (N : Nat) (s0 : ((List (Int × Ln)) × (Int × ((List (Ln × Int)) × (List Int))))) (s4 : Int) : Vt (Lp (shTy l43g_2).I (((List (Int × Ln)) × (Int × ((List (Ln × Int)) × (List Int)))) × Int × Bool)) (O3 (Option D × Option (gTy [.dat (.list (.pair tI tLn)), .dat tI, .row 89 (.pair tLn tI), .row 3 tI]).I)) (encO 65 l43g_2 [0] (fun q => (some (E43g q), some (q.1 : (gTy [.dat (.list (.pair tI tLn)), .dat tI, .row 89 (.pair tLn tI), .row 3 tI]).I)))) :=
  .br (decide ((0 : Int) < (s0.1.length : Int))) (.ck (inR 0 s0.1.length) (.br (((atI (.pair tI tLn) s0.1 0).1) == 5) (.ck (inR 0 s0.1.length) (.br ((IntKind.i64.wrap (((BitVec.ofInt IntKind.i64.bits s4 &&& BitVec.ofInt IntKind.i64.bits ((atI (.pair tI tLn) s0.1 0).2.2.2)).toNat : Int))) != 0) (.leaf (.ret (s0, 0, false))) (.ck (inR 0 s0.1.length) (.ck ((0 : Int) ≤ 1 ∧ (1 : Int) ≤ (s0.1.length : Int) ∧ (s0.1.length : Int) ≤ (s0.1.length : Int)) (.leaf (.next (((slc s0.1 1 (s0.1.length : Int)), s0.2), (IntKind.i64.wrap (((BitVec.ofInt IntKind.i64.bits s4 ||| BitVec.ofInt IntKind.i64.bits ((atI (.pair tI tLn) s0.1 0).2.2.2)).toNat : Int)))))))))) (.leaf (.brk 0 (s0, s4))))) (.leaf (.brk 0 (s0, s4)))
noncomputable def L43g_2 (N : Nat) (s0 : ((List (Int × Ln)) × (Int × ((List (Ln × Int)) × (List Int))))) (s4 : Int) : Option (Lp (((List (Int × Ln)) × (Int × ((List (Ln × Int)) × (List Int)))) × Int) (((List (Int × Ln)) × (Int × ((List (Ln × Int)) × (List Int)))) × Int × Bool)) := (U43g_2 N s0 s4).eval
noncomputable def W43g_2 (N : Nat) (x : (((List (Int × Ln)) × (Int × ((List (Ln × Int)) × (List Int)))) × Int)) : Option (Lp (((List (Int × Ln)) × (Int × ((List (Ln × Int)) × (List Int)))) × Int) (((List (Int × Ln)) × (Int × ((List (Ln × Int)) × (List Int)))) × Int × Bool)) := runLoop (fun x => L43g_2 N x.1 x.2) N x
theorem WS43g_2 (N : Nat) (x : (shTy l43g_2).I) : ∀ o, W43g_2 N x = some o → S Try.prog (.loop b43g_2) (buildSt 65 l43g_2 x) (stepZ (rdG Try.prog Try.f43 52 [.dat (.list (.pair tI tLn)), .dat tI, .row 89 (.pair tLn tI), .row 3 tI]) l43g_2 (encO 65 l43g_2 [0] (fun q => (some (E43g q), some (q.1 : (gTy [.dat (.list (.pair tI tLn)), .dat tI, .row 89 (.pair tLn tI), .row 3 tI]).I))) o)) :=
  fun o h => loop_S (l := l43g_2) (step := fun x => L43g_2 N x.1 x.2) (fun x o h => wpc_sound (tbl := []) (μ := []) mixed _ _ _ (by
    have h1 := Vt.sound _ h
    refine Eq.mp ?_ h1
    kernel_rfl)) N x o h
noncomputable def V43g (N : Nat) (a0 : ((List (Int × Ln)) × (Int × ((List (Ln × Int)) × (List Int))))) : Vt (((List (Int × Ln)) × (Int × ((List (Ln × Int)) × (List Int)))) × Int × Bool) (Option D × Option (gTy [.dat (.list (.pair tI tLn)), .dat tI, .row 89 (.pair tLn tI), .row 3 tI]).I) (fun q => (some (E43g q), some (q.1 : (gTy [.dat (.list (.pair tI tLn)), .dat tI, .row 89 (.pair tLn tI), .row 3 tI]).I))) :=
  .f1 (l := l43g_2) (o := W43g_2 N (a0, 0)) (WS43g_2 N (a0, 0)) (fun x1 => .br (decide ((0 : Int) < (x1.1.1.length : Int))) (.ck (inR 0 x1.1.1.length) (.leaf (x1.1, x1.2, (((atI (.pair tI tLn) x1.1.1 0).1) == 1)))) (.leaf (x1.1, x1.2, false)))
noncomputable def F43g (N : Nat) (a0 : ((List (Int × Ln)) × (Int × ((List (Ln × Int)) × (List Int))))) : Option (((List (Int × Ln)) × (Int × ((List (Ln × Int)) × (List Int)))) × Int × Bool) := (V43g N a0).eval
def t43g : List (Nat × List Nat × List (Nat × Sh)) := [(2, [0], l43g_2)]
theorem P43g (N : Nat) (a0 : ((List (Int × Ln)) × (Int × ((List (Ln × Int)) × (List Int))))) : ∀ r, F43g N a0 = some r → SpecG Try.prog 43 52 [.dat (.list (.pair tI tLn)), .dat tI, .row 89 (.pair tLn tI), .row 3 tI] a0 [] r.1 (E43g r) := fun r h => SpecG_of2 (fn := Try.f43) rfl rfl rfl rfl (.inr (.inr (.inr ⟨_, _, _, _, rfl, rfl, rfl⟩))) (wpc_sound (tbl := t43g) (μ := []) mixed _ _ _ (by
  have h1 := Vt.sound _ h
  refine Eq.mp ?_ h1
  kernel_rfl))

/-! (*ferryslip/parse.parser).top -/
def E65g : (((List (Int × Ln)) × (Int × ((List (Ln × Int)) × (List Int)))) × Int) → D := fun x => encV tI x.2
noncomputable def V65g (N : Nat) (a0 : ((List (Int × Ln)) × (Int × ((List (Ln × Int)) × (List Int))))) : Vt (((List (Int × Ln)) × (Int × ((List (Ln × Int)) × (List Int)))) × Int) (Option D × Option (gTy [.dat (.list (.pair tI tLn)), .dat tI, .row 89 (.pair tLn tI), .row 3 tI]).I) (fun q => (some (E65g q), some (q.1 : (gTy [.dat (.list (.pair tI tLn)), .dat tI, .row 89 (.pair tLn tI), .row 3 tI]).I))) :=
  .br ((a0.2.2.2.length : Int) == 0) (.leaf (a0, (-1))) (.ck (inR (IntKind.i64.wrap ((a0.2.2.2.length : Int) - 1)) a0.2.2.2.length) (.ck (inR (IntKind.i64.wrap ((a0.2.2.2.length : Int) - 1)) a0.2.2.2.length) (.leaf (a0, (atI tI a0.2.2.2 (IntKind.i64.wrap ((a0.2.2.2.length : Int) - 1)))))))
noncomputable def F65g (N : Nat) (a0 : ((List (Int × Ln)) × (Int × ((List (Ln × Int)) × (List Int))))) : Option (((List (Int × Ln)) × (Int × ((List (Ln × Int)) × (List Int)))) × Int) := (V65g N a0).eval
def t65g : List (Nat × List Nat × List (Nat × Sh)) := []
theorem P65g (N : Nat) (a0 : ((List (Int × Ln)) × (Int × ((List (Ln × Int)) × (List Int))))) : ∀ r, F65g N a0 = some r → SpecG Try.prog 65 52 [.dat (.list (.pair tI tLn)), .dat tI, .row 89 (.pair tLn tI), .row 3 tI] a0 [] r.1 (E65g r) := fun r h => SpecG_of2 (fn := Try.f65) rfl rfl rfl rfl (.inr (.inr (.inl ⟨_, _, rfl, rfl⟩))) (wpc_sound (tbl := t65g) (μ := []) mixed _ _ _ (by
  have h1 := Vt.sound _ h
  refine Eq.mp ?_ h1
  kernel_rfl))

/-! (*ferryslip/parse.parser).name -/
def E44g : (((List (Int × Ln)) × (Int × ((List (Ln × Int)) × (List Int)))) × Int) → D := fun x => encV tI x.2
abbrev q44g_1a : List (Nat × Sh) := [(0, .grp true 0 52 [.dat (.list (.pair tI tLn)), .dat tI, .row 89 (.pair tLn tI), .row 3 tI]), (1, .val tI)]
abbrev q44g_1b : List (Nat × Sh) := [(0, .grp true 0 52 [.dat (.list (.pair tI tLn)), .dat tI, .row 89 (.pair tLn tI), .row 3 tI]), (1, .val tI), (5, .cel false 5 9 tS), (6, .cel false 6 3 tI)]
set_option maxHeartbeats 4000000 in
noncomputable def RU44g_1 (N : Nat) (s0 : ((List (Int × Ln)) × (Int × ((List (Ln × Int)) × (List Int))))) (s1 : Int) : Vt (shTy q44g_1b).I St (fun x => buildSt 64 q44g_1b x) :=
  .nb (.nb (.ck (inR 0 s0.1.length) (.nb (.nb (.cr2 (P65g N s0) (fun x1 x2 => .nb (.leaf (x1, s1, (atI (.pair tI tLn) s0.1 0).2.2.1, x2)) (.leaf (x1, s1, (atI (.pair tI tLn) s0.1 0).2.2.1, x2)))) (.nb (.nb (.cr2 (P65g N s0) (fun x3 x4 => .leaf (x3, s1, (atI (.pair tI tLn) s0.1 0).2.2.1, x4))) (.cr2 (P65g N s0) (fun x5 x6 => .leaf (x5, s1, (atI (.pair tI tLn) s0.1 0).2.2.1, x6)))) (.nb (.cr2 (P65g N s0) (fun x7 x8 => .leaf (x7, s1, (atI (.pair tI tLn) s0.1 0).2.2.1, x8))) (.cr2 (P65g N s0) (fun x9 x10 => .leaf (x9, s1, (atI (.pair tI tLn) s0.1 0).2.2.1, x10)))))) (.nb (.cr2 (P65g N s0) (fun x11 x12 => .nb (.nb (.leaf (x11, s1, (atI (.pair tI tLn) s0.1 0).2.2.1, x12)) (.leaf (x11, s1, (atI (.pair tI tLn) s0.1 0).2.2.1, x12))) (.nb (.nb (.leaf (x11, s1, (atI (.pair tI tLn) s0.1 0).2.2.1, x12)) (.leaf (x11, s1, (atI (.pair tI tLn) s0.1 0).2.2.1, x12))) (.nb (.leaf (x11, s1, (atI (.pair tI tLn) s0.1 0).2.2.1, x12)) (.leaf (x11, s1, (atI (.pair tI tLn) s0.1 0).2.2.1, x12)))))) (.nb (.nb (.nb (.cr2 (P65g N s0) (fun x13 x14 => .leaf (x13, s1, (atI (.pair tI tLn) s0.1 0).2.2.1, x14))) (.cr2 (P65g N s0) (fun x15 x16 => .leaf (x15, s1, (atI (.pair tI tLn) s0.1 0).2.2.1, x16)))) (.nb (.cr2 (P65g N s0) (fun x17 x18 => .nb (.leaf (x17, s1, (atI (.pair tI tLn) s0.1 0).2.2.1, x18)) (.leaf (x17, s1, (atI (.pair tI tLn) s0.1 0).2.2.1, x18)))) (.nb (.cr2 (P65g N s0) (fun x19 x20 => .leaf (x19, s1, (atI (.pair tI tLn) s0.1 0).2.2.1, x20))) (.cr2 (P65g N s0) (fun x21 x22 => .leaf (x21, s1, (atI (.pair tI tLn) s0.1 0).2.2.1, x22)))))) (.nb (.nb (.cr2 (P65g N s0) (fun x23 x24 => .leaf (x23, s1, (atI (.pair tI tLn) s0.1 0).2.2.1, x24))) (.cr2 (P65g N s0) (fun x25 x26 => .leaf (x25, s1, (atI (.pair tI tLn) s0.1 0).2.2.1, x26)))) (.nb (.cr2 (P65g N s0) (fun x27 x28 => .nb (.leaf (x27, s1, (atI (.pair tI tLn) s0.1 0).2.2.1, x28)) (.leaf (x27, s1, (atI (.pair tI tLn) s0.1 0).2.2.1, x28)))) (.nb (.cr2 (P65g N s0) (fun x29 x30 => .leaf (x29, s1, (atI (.pair tI tLn) s0.1 0).2.2.1, x30))) (.cr2 (P65g N s0) (fun x31 x32 => .leaf (x31, s1, (atI (.pair tI tLn) s0.1 0).2.2.1, x32)))))))))) (.nb (.cr2 (P65g N s0) (fun x33 x34 => .nb (.ck (inR 0 x33.1.length) (.nb (.nb (.leaf (x33, s1, (atI (.pair tI tLn) x33.1 0).2.2.1, x34)) (.leaf (x33, s1, (atI (.pair tI tLn) x33.1 0).2.2.1, x34))) (.nb (.nb (.leaf (x33, s1, (atI (.pair tI tLn) x33.1 0).2.2.1, x34)) (.leaf (x33, s1, (atI (.pair tI tLn) x33.1 0).2.2.1, x34))) (.nb (.leaf (x33, s1, (atI (.pair tI tLn) x33.1 0).2.2.1, x34)) (.leaf (x33, s1, (atI (.pair tI tLn) x33.1 0).2.2.1, x34)))))) (.nb (.nb (.ck (inR 0 x33.1.length) (.nb (.leaf (x33, s1, (atI (.pair tI tLn) x33.1 0).2.2.1, x34)) (.leaf (x33, s1, (atI (.pair tI tLn) x33.1 0).2.2.1, x34)))) (.ck (inR 0 x33.1.length) (.leaf (x33, s1, (atI (.pair tI tLn) x33.1 0).2.2.1, x34)))) (.nb (.ck (inR 0 x33.1.length) (.nb (.leaf (x33, s1, (atI (.pair tI tLn) x33.1 0).2.2.1, x34)) (.leaf (x33, s1, (atI (.pair tI tLn) x33.1 0).2.2.1, x34)))) (.ck (inR 0 x33.1.length) (.leaf (x33, s1, (atI (.pair tI tLn) x33.1 0).2.2.1, x34))))))) (.nb (.nb (.ck (inR 0 s0.1.length) (.nb (.nb (.cr2 (P65g N s0) (fun x35 x36 => .leaf (x35, s1, (atI (.pair tI tLn) s0.1 0).2.2.1, x36))) (.cr2 (P65g N s0) (fun x37 x38 => .leaf (x37, s1, (atI (.pair tI tLn) s0.1 0).2.2.1, x38)))) (.nb (.cr2 (P65g N s0) (fun x39 x40 => .nb (.leaf (x39, s1, (atI (.pair tI tLn) s0.1 0).2.2.1, x40)) (.leaf (x39, s1, (atI (.pair tI tLn) s0.1 0).2.2.1, x40)))) (.nb (.cr2 (P65g N s0) (fun x41 x42 => .leaf (x41, s1, (atI (.pair tI tLn) s0.1 0).2.2.1, x42))) (.cr2 (P65g N s0) (fun x43 x44 => .leaf (x43, s1, (atI (.pair tI tLn) s0.1 0).2.2.1, x44))))))) (.nb (.cr2 (P65g N s0) (fun x45 x46 => .nb (.ck (inR 0 x45.1.length) (.nb (.leaf (x45, s1, (atI (.pair tI tLn) x45.1 0).2.2.1, x46)) (.leaf (x45, s1, (atI (.pair tI tLn) x45.1 0).2.2.1, x46)))) (.ck (inR 0 x45.1.length) (.leaf (x45, s1, (atI (.pair tI tLn) x45.1 0).2.2.1, x46))))) (.nb (.ck (inR 0 s0.1.length) (.nb (.cr2 (P65g N s0) (fun x47 x48 => .leaf (x47, s1, (atI (.pair tI tLn) s0.1 0).2.2.1, x48))) (.cr2 (P65g N s0) (fun x49 x50 => .leaf (x49, s1, (atI (.pair tI tLn) s0.1 0).2.2.1, x50))))) (.cr2 (P65g N s0) (fun x51 x52 => .ck (inR 0 x51.1.length) (.leaf (x51, s1, (atI (.pair tI tLn) x51.1 0).2.2.1, x52))))))) (.nb (.ck (inR 0 s0.1.length) (.nb (.nb (.cr2 (P65g N s0) (fun x53 x54 => .leaf (x53, s1, (atI (.pair tI tLn) s0.1 0).2.2.1, x54))) (.cr2 (P65g N s0) (fun x55 x56 => .leaf (x55, s1, (atI (.pair tI tLn) s0.1 0).2.2.1, x56)))) (.nb (.cr2 (P65g N s0) (fun x57 x58 => .nb (.leaf (x57, s1, (atI (.pair tI tLn) s0.1 0).2.2.1, x58)) (.leaf (x57, s1, (atI (.pair tI tLn) s0.1 0).2.2.1, x58)))) (.nb (.cr2 (P65g N s0) (fun x59 x60 => .leaf (x59, s1, (atI (.pair tI tLn) s0.1 0).2.2.1, x60))) (.cr2 (P65g N s0) (fun x61 x62 => .leaf (x61, s1, (atI (.pair tI tLn) s0.1 0).2.2.1, x62))))))) (.nb (.cr2 (P65g N s0) (fun x63 x64 => .nb (.ck (inR 0 x63.1.length) (.nb (.leaf (x63, s1, (atI (.pair tI tLn) x63.1 0).2.2.1, x64)) (.leaf (x63, s1, (atI (.pair tI tLn) x63.1 0).2.2.1, x64)))) (.ck (inR 0 x63.1.length) (.leaf (x63, s1, (atI (.pair tI tLn) x63.1 0).2.2.1, x64))))) (.nb (.ck (inR 0 s0.1.length) (.nb (.cr2 (P65g N s0) (fun x65 x66 => .leaf (x65, s1, (atI (.pair tI tLn) s0.1 0).2.2.1, x66))) (.cr2 (P65g N s0) (fun x67 x68 => .leaf (x67, s1, (atI (.pair tI tLn) s0.1 0).2.2.1, x68))))) (.cr2 (P65g N s0) (fun x69 x70 => .ck (inR 0 x69.1.length) (.leaf (x69, s1, (atI (.pair tI tLn) x69.1 0).2.2.1, x70)))))))))) (.nb (.cr2 (P65g N s0) (fun x71 x72 => .nb (.nb (.ck (inR 0 x71.1.length) (.nb (.nb (.leaf (x71, s1, (atI (.pair tI tLn) x71.1 0).2.2.1, x72)) (.leaf (x71, s1, (atI (.pair tI tLn) x71.1 0).2.2.1, x72))) (.nb (.nb (.leaf (x71, s1, (atI (.pair tI tLn) x71.1 0).2.2.1, x72)) (.leaf (x71, s1, (atI (.pair tI tLn) x71.1 0).2.2.1, x72))) (.nb (.leaf (x71, s1, (atI (.pair tI tLn) x71.1 0).2.2.1, x72)) (.leaf (x71, s1, (atI (.pair tI tLn) x71.1 0).2.2.1, x72)))))) (.nb (.nb (.ck (inR 0 x71.1.length) (.nb (.leaf (x71, s1, (atI (.pair tI tLn) x71.1 0).2.2.1, x72)) (.leaf (x71, s1, (atI (.pair tI tLn) x71.1 0).2.2.1, x72)))) (.ck (inR 0 x71.1.length) (.leaf (x71, s1, (atI (.pair tI tLn) x71.1 0).2.2.1, x72)))) (.nb (.ck (inR 0 x71.1.length) (.nb (.leaf (x71, s1, (atI (.pair tI tLn) x71.1 0).2.2.1, x72)) (.leaf (x71, s1, (atI (.pair tI tLn) x71.1 0).2.2.1, x72)))) (.ck (inR 0 x71.1.length) (.leaf (x71, s1, (atI (.pair tI tLn) x71.1 0).2.2.1, x72)))))) (.nb (.nb (.nb (.ck (inR 0 x71.1.length) (.nb (.leaf (x71, s1, (atI (.pair tI tLn) x71.1 0).2.2.1, x72)) (.leaf (x71, s1, (atI (.pair tI tLn) x71.1 0).2.2.1, x72)))) (.ck (inR 0 x71.1.length) (.leaf (x71, s1, (atI (.pair tI tLn) x71.1 0).2.2.1, x72)))) (.ck (inR 0 x71.1.length) (.leaf (x71, s1, (atI (.pair tI tLn) x71.1 0).2.2.1, x72)))) (.nb (.nb (.ck (inR 0 x71.1.length) (.nb (.leaf (x71, s1, (atI (.pair tI tLn) x71.1 0).2.2.1, x72)) (.leaf (x71, s1, (atI (.pair tI tLn) x71.1 0).2.2.1, x72)))) (.ck (inR 0 x71.1.length) (.leaf (x71, s1, (atI (.pair tI tLn) x71.1 0).2.2.1, x72)))) (.ck (inR 0 x71.1.length) (.leaf (x71, s1, (atI (.pair tI tLn) x71.1 0).2.2.1, x72))))))) (.nb (.nb (.nb (.ck (inR 0 s0.1.length) (.nb (.nb (.cr2 (P65g N s0) (fun x73 x74 => .leaf (x73, s1, (atI (.pair tI tLn) s0.1 0).2.2.1, x74))) (.cr2 (P65g N s0) (fun x75 x76 => .leaf (x75, s1, (atI (.pair tI tLn) s0.1 0).2.2.1, x76)))) (.nb (.cr2 (P65g N s0) (fun x77 x78 => .nb (.leaf (x77, s1, (atI (.pair tI tLn) s0.1 0).2.2.1, x78)) (.leaf (x77, s1, (atI (.pair tI tLn) s0.1 0).2.2.1, x78)))) (.nb (.cr2 (P65g N s0) (fun x79 x80 => .leaf (x79, s1, (atI (.pair tI tLn) s0.1 0).2.2.1, x80))) (.cr2 (P65g N s0) (fun x81 x82 => .leaf (x81, s1, (atI (.pair tI tLn) s0.1 0).2.2.1, x82))))))) (.nb (.cr2 (P65g N s0) (fun x83 x84 => .nb (.ck (inR 0 x83.1.length) (.nb (.leaf (x83, s1, (atI (.pair tI tLn) x83.1 0).2.2.1, x84)) (.leaf (x83, s1, (atI (.pair tI tLn) x83.1 0).2.2.1, x84)))) (.ck (inR 0 x83.1.length) (.leaf (x83, s1, (atI (.pair tI tLn) x83.1 0).2.2.1, x84))))) (.nb (.ck (inR 0 s0.1.length) (.nb (.cr2 (P65g N s0) (fun x85 x86 => .leaf (x85, s1, (atI (.pair tI tLn) s0.1 0).2.2.1, x86))) (.cr2 (P65g N s0) (fun x87 x88 => .leaf (x87, s1, (atI (.pair tI tLn) s0.1 0).2.2.1, x88))))) (.cr2 (P65g N s0) (fun x89 x90 => .ck (inR 0 x89.1.length) (.leaf (x89, s1, (atI (.pair tI tLn) x89.1 0).2.2.1, x90))))))) (.nb (.cr2 (P65g N s0) (fun x91 x92 => .nb (.nb (.ck (inR 0 x91.1.length) (.nb (.leaf (x91, s1, (atI (.pair tI tLn) x91.1 0).2.2.1, x92)) (.leaf (x91, s1, (atI (.pair tI tLn) x91.1 0).2.2.1, x92)))) (.ck (inR 0 x91.1.length) (.leaf (x91, s1, (atI (.pair tI tLn) x91.1 0).2.2.1, x92)))) (.ck (inR 0 x91.1.length) (.leaf (x91, s1, (atI (.pair tI tLn) x91.1 0).2.2.1, x92))))) (.nb (.nb (.ck (inR 0 s0.1.length) (.nb (.cr2 (P65g N s0) (fun x93 x94 => .leaf (x93, s1, (atI (.pair tI tLn) s0.1 0).2.2.1, x94))) (.cr2 (P65g N s0) (fun x95 x96 => .leaf (x95, s1, (atI (.pair tI tLn) s0.1 0).2.2.1, x96))))) (.cr2 (P65g N s0) (fun x97 x98 => .ck (inR 0 x97.1.length) (.leaf (x97, s1, (atI (.pair tI tLn) x97.1 0).2.2.1, x98))))) (.cr2 (P65g N s0) (fun x99 x100 => .ck (inR 0 x99.1.length) (.leaf (x99, s1, (atI (.pair tI tLn) x99.1 0).2.2.1, x100))))))) (.nb (.nb (.ck (inR 0 s0.1.length) (.nb (.nb (.cr2 (P65g N s0) (fun x101 x102 => .leaf (x101, s1, (atI (.pair tI tLn) s0.1 0).2.2.1, x102))) (.cr2 (P65g N s0) (fun x103 x104 => .leaf (x103, s1, (atI (.pair tI tLn) s0.1 0).2.2.1, x104)))) (.nb (.cr2 (P65g N s0) (fun x105 x106 => .nb (.leaf (x105, s1, (atI (.pair tI tLn) s0.1 0).2.2.1, x106)) (.leaf (x105, s1, (atI (.pair tI tLn) s0.1 0).2.2.1, x106)))) (.nb (.cr2 (P65g N s0) (fun x107 x108 => .leaf (x107, s1, (atI (.pair tI tLn) s0.1 0).2.2.1, x108))) (.cr2 (P65g N s0) (fun x109 x110 => .leaf (x109, s1, (atI (.pair tI tLn) s0.1 0).2.2.1, x110))))))) (.nb (.cr2 (P65g N s0) (fun x111 x112 => .nb (.ck (inR 0 x111.1.length) (.nb (.leaf (x111, s1, (atI (.pair tI tLn) x111.1 0).2.2.1, x112)) (.leaf (x111, s1, (atI (.pair tI tLn) x111.1 0).2.2.1, x112)))) (.ck (inR 0 x111.1.length) (.leaf (x111, s1, (atI (.pair tI tLn) x111.1 0).2.2.1, x112))))) (.nb (.ck (inR 0 s0.1.length) (.nb (.cr2 (P65g N s0) (fun x113 x114 => .leaf (x113, s1, (atI (.pair tI tLn) s0.1 0).2.2.1, x114))) (.cr2 (P65g N s0) (fun x115 x116 => .leaf (x115, s1, (atI (.pair tI tLn) s0.1 0).2.2.1, x116))))) (.cr2 (P65g N s0) (fun x117 x118 => .ck (inR 0 x117.1.length) (.leaf (x117, s1, (atI (.pair tI tLn) x117.1 0).2.2.1, x118))))))) (.nb (.cr2 (P65g N s0) (fun x119 x120 => .nb (.nb (.ck (inR 0 x119.1.length) (.nb (.leaf (x119, s1, (atI (.pair tI tLn) x119.1 0).2.2.1, x120)) (.leaf (x119, s1, (atI (.pair tI tLn) x119.1 0).2.2.1, x120)))) (.ck (inR 0 x119.1.length) (.leaf (x119, s1, (atI (.pair tI tLn) x119.1 0).2.2.1, x120)))) (.ck (inR 0 x119.1.length) (.leaf (x119, s1, (atI (.pair tI tLn) x119.1 0).2.2.1, x120))))) (.nb (.nb (.ck (inR 0 s0.1.length) (.nb (.cr2 (P65g N s0) (fun x121 x122 => .leaf (x121, s1, (atI (.pair tI tLn) s0.1 0).2.2.1, x122))) (.cr2 (P65g N s0) (fun x123 x124 => .leaf (x123, s1, (atI (.pair tI tLn) s0.1 0).2.2.1, x124))))) (.cr2 (P65g N s0) (fun x125 x126 => .ck (inR 0 x125.1.length) (.leaf (x125, s1, (atI (.pair tI tLn) x125.1 0).2.2.1, x126))))) (.cr2 (P65g N s0) (fun x127 x128 => .ck (inR 0 x127.1.length) (.leaf (x127, s1, (atI (.pair tI tLn) x127.1 0).2.2.1, x128)))))))))
noncomputable def RW44g_1 (N : Nat) (x : (((List (Int × Ln)) × (Int × ((List (Ln × Int)) × (List Int)))) × Int)) : Option ((((List (Int × Ln)) × (Int × ((List (Ln × Int)) × (List Int)))) × Int × Bs × Int)) := (RU44g_1 N x.1 x.2).eval
set_option maxHeartbeats 4000000 in
theorem RS44g_1 (N : Nat) (x : (shTy q44g_1a).I) : ∀ o, RW44g_1 N x = some o → S Try.prog (.region 1 ((regOps 1 (bodyOf Try.f44)).getD #[]) true) (buildSt 64 q44g_1a x) (normZ q44g_1b (buildSt 64 q44g_1b o)) :=
  fun o h => wpc_sound (tbl := []) (μ := [4000065]) mixed _ _ _ (by
    have h1 := Vt.sound _ h
    refine Eq.mp ?_ h1
    kernel_rfl)
noncomputable def V44g (N : Nat) (a0 : ((List (Int × Ln)) × (Int × ((List (Ln × Int)) × (List Int))))) (a1 : Int) : Vt (((List (Int × Ln)) × (Int × ((List (Ln × Int)) × (List Int)))) × Int) (Option D × Option (gTy [.dat (.list (.pair tI tLn)), .dat tI, .row 89 (.pair tLn tI), .row 3 tI]).I) (fun q => (some (E44g q), some (q.1 : (gTy [.dat (.list (.pair tI tLn)), .dat tI, .row 89 (.pair tLn tI), .row 3 tI]).I))) :=
  .cr (RS44g_1 N (a0, a1)) (fun x1 => .br (decide ((16 : Int) ≤ (x1.1.2.2.2.length : Int))) (.leaf (x1.1, 6)) (.c1 (P66K67 N x1.1.2.2.1 x1.2.2.2 x1.2.2.1) (fun x2 => .br x2 (.leaf (x1.1, 4)) (.br (decide ((200 : Int) ≤ (x1.1.2.2.1.length : Int))) (.leaf (x1.1, 5)) (.nb (.nb (.ck (room (x1.1.2.2.1.length + ([(((x1.1.2.2.2.length : Int), x1.2.2.1, x1.2.1), x1.2.2.2)] : (List (Ln × Int))).length)) (.ck ((0 : Int) ≤ 1 ∧ (1 : Int) ≤ (x1.1.1.length : Int) ∧ (x1.1.1.length : Int) ≤ (x1.1.1.length : Int)) (.leaf (((slc x1.1.1 1 (x1.1.1.length : Int)), x1.1.2.1, (x1.1.2.2.1 ++ ([(((x1.1.2.2.2.length : Int), x1.2.2.1, x1.2.1), x1.2.2.2)] : (List (Ln × Int)))), x1.1.2.2.2), 0)))) (.ck (room (x1.1.2.2.1.length + ([(((x1.1.2.2.2.length : Int), x1.2.2.1, x1.2.1), x1.2.2.2)] : (List (Ln × Int))).length)) (.ck ((0 : Int) ≤ 1 ∧ (1 : Int) ≤ (x1.1.1.length : Int) ∧ (x1.1.1.length : Int) ≤ (x1.1.1.length : Int)) (.leaf (((slc x1.1.1 1 (x1.1.1.length : Int)), x1.1.2.1, (x1.1.2.2.1 ++ ([(((x1.1.2.2.2.length : Int), x1.2.2.1, x1.2.1), x1.2.2.2)] : (List (Ln × Int)))), x1.1.2.2.2), 0))))) (.ck (room (x1.1.2.2.1.length + ([(((x1.1.2.2.2.length : Int), x1.2.2.1, x1.2.1), x1.2.2.2)] : (List (Ln × Int))).length)) (.ck ((0 : Int) ≤ 1 ∧ (1 : Int) ≤ (x1.1.1.length : Int) ∧ (x1.1.1.length : Int) ≤ (x1.1.1.length : Int)) (.leaf (((slc x1.1.1 1 (x1.1.1.length : Int)), x1.1.2.1, (x1.1.2.2.1 ++ ([(((x1.1.2.2.2.length : Int), x1.2.2.1, x1.2.1), x1.2.2.2)] : (List (Ln × Int)))), x1.1.2.2.2), 0)))))))))
noncomputable def F44g (N : Nat) (a0 : ((List (Int × Ln)) × (Int × ((List (Ln × Int)) × (List Int))))) (a1 : Int) : Option (((List (Int × Ln)) × (Int × ((List (Ln × Int)) × (List Int)))) × Int) := (V44g N a0 a1).eval
def t44g : List (Nat × List Nat × List (Nat × Sh)) := [(2000001, [], q44g_1a), (3000001, [], q44g_1b)]
theorem P44g (N : Nat) (a0 : ((List (Int × Ln)) × (Int × ((List (Ln × Int)) × (List Int))))) (a1 : Int) : ∀ r, F44g N a0 a1 = some r → SpecG Try.prog 44 52 [.dat (.list (.pair tI tLn)), .dat tI, .row 89 (.pair tLn tI), .row 3 tI] a0 [.val tI a1] r.1 (E44g r) := fun r h => SpecG_of2 (fn := Try.f44) rfl rfl rfl rfl (.inr (.inr (.inl ⟨_, _, rfl, rfl⟩))) (wpc_sound (tbl := t44g) (μ := [4000065]) mixed _ _ _ (by
  have h1 := Vt.sound _ h
  refine Eq.mp ?_ h1
  kernel_rfl))

/-! (*ferryslip/parse.parser).statement -/
def E21g : (((List (Int × Ln)) × (Int × ((List (Ln × Int)) × (List Int)))) × Int × Int) → D := fun x => .tup [encV tI x.2.1, encV tI x.2.2]
noncomputable def V21g (N : Nat) (a0 : ((List (Int × Ln)) × (Int × ((List (Ln × Int)) × (List Int))))) : Vt (((List (Int × Ln)) × (Int × ((List (Ln × Int)) × (List Int)))) × Int × Int) (Option D × Option (gTy [.dat (.list (.pair tI tLn)), .dat tI, .row 89 (.pair tLn tI), .row 3 tI]).I) (fun q => (some (E21g q), some (q.1 : (gTy [.dat (.list (.pair tI tLn)), .dat tI, .row 89 (.pair tLn tI), .row 3 tI]).I))) :=
  .cr3 (P42g N a0) (fun x1 x2 x3 => .br (x2 == 3) (.br ((x1.2.2.2.length : Int) == 0) (.leaf (x1, x3, 2)) (.ck ((0 : Int) ≤ (IntKind.i64.wrap ((x1.2.2.2.length : Int) - 1)) ∧ (IntKind.i64.wrap ((x1.2.2.2.length : Int) - 1)) ≤ (x1.2.2.2.length : Int)) (.ck ((0 : Int) ≤ 1 ∧ (1 : Int) ≤ (x1.1.length : Int) ∧ (x1.1.length : Int) ≤ (x1.1.length : Int)) (.leaf (((slc x1.1 1 (x1.1.length : Int)), x1.2.1, x1.2.2.1, (x1.2.2.2.take (IntKind.i64.wrap ((x1.2.2.2.length : Int) - 1)).toNat)), 0, 0))))) (.cr3 (P43g N x1) (fun x4 x5 x6 => .cr3 (P42g N x4) (fun x7 x8 x9 => .br (!x6) (.leaf (x7, x9, 2)) (.cr2 (P44g N x7 x5) (fun x10 x11 => .br (x11 != 0) (.leaf (x10, x9, x11)) (.cr3 (P42g N x10) (fun x12 x13 x14 => .br (x13 == 2) (.nb (.nb (.ck (room (x12.2.2.2.length + ([(IntKind.i64.wrap ((x12.2.2.1.length : Int) - 1))] : (List Int)).length)) (.ck ((0 : Int) ≤ 1 ∧ (1 : Int) ≤ (x12.1.length : Int) ∧ (x12.1.length : Int) ≤ (x12.1.length : Int)) (.leaf (((slc x12.1 1 (x12.1.length : Int)), x12.2.1, x12.2.2.1, (x12.2.2.2 ++ ([(IntKind.i64.wrap ((x12.2.2.1.length : Int) - 1))] : (List Int)))), 0, 0)))) (.ck (room (x12.2.2.2.length + ([(IntKind.i64.wrap ((x12.2.2.1.length : Int) - 1))] : (List Int)).length)) (.ck ((0 : Int) ≤ 1 ∧ (1 : Int) ≤ (x12.1.length : Int) ∧ (x12.1.length : Int) ≤ (x12.1.length : Int)) (.leaf (((slc x12.1 1 (x12.1.length : Int)), x12.2.1, x12.2.2.1, (x12.2.2.2 ++ ([(IntKind.i64.wrap ((x12.2.2.1.length : Int) - 1))] : (List Int)))), 0, 0))))) (.ck (room (x12.2.2.2.length + ([(IntKind.i64.wrap ((x12.2.2.1.length : Int) - 1))] : (List Int)).length)) (.ck ((0 : Int) ≤ 1 ∧ (1 : Int) ≤ (x12.1.length : Int) ∧ (x12.1.length : Int) ≤ (x12.1.length : Int)) (.leaf (((slc x12.1 1 (x12.1.length : Int)), x12.2.1, x12.2.2.1, (x12.2.2.2 ++ ([(IntKind.i64.wrap ((x12.2.2.1.length : Int) - 1))] : (List Int)))), 0, 0))))) (.br (x13 == 4) (.ck ((0 : Int) ≤ 1 ∧ (1 : Int) ≤ (x12.1.length : Int) ∧ (x12.1.length : Int) ≤ (x12.1.length : Int)) (.leaf (((slc x12.1 1 (x12.1.length : Int)), x12.2), 0, 0))) (.leaf (x12, x14, 2)))))))))))
noncomputable def F21g (N : Nat) (a0 : ((List (Int × Ln)) × (Int × ((List (Ln × Int)) × (List Int))))) : Option (((List (Int × Ln)) × (Int × ((List (Ln × Int)) × (List Int)))) × Int × Int) := (V21g N a0).eval
def t21g : List (Nat × List Nat × List (Nat × Sh)) := []
theorem P21g (N : Nat) (a0 : ((List (Int × Ln)) × (Int × ((List (Ln × Int)) × (List Int))))) : ∀ r, F21g N a0 = some r → SpecG Try.prog 21 52 [.dat (.list (.pair tI tLn)), .dat tI, .row 89 (.pair tLn tI), .row 3 tI] a0 [] r.1 (E21g r) := fun r h => SpecG_of2 (fn := Try.f21) rfl rfl rfl rfl (.inr (.inr (.inr ⟨_, _, _, _, rfl, rfl, rfl⟩))) (wpc_sound (tbl := t21g) (μ := [4000042, 4000043, 4000044, 6000038]) mixed _ _ _ (by
  have h1 := Vt.sound _ h
  refine Eq.mp ?_ h1
  kernel_rfl))

/-! ferryslip/parse.sorted -/
def E22o : (List Ln) → D := fun x => .own 34 tLn x
abbrev l22o_3 : List (Nat × Sh) := [(1, .val tI), (2, .cel false 2 49 (.list (.pair tLn tI))), (5, .row false 25 3 tI), (11, .val (.list (.pair tLn tI))), (12, .val tI), (13, .val tI)]
noncomputable def b22o_3 : Code := loopBody 3 (bodyOf Try.f22)
noncomputable def U22o_3 (N : Nat) (rc : (List (Ln × Int)) → Int → Option (List Ln)) (hrc : ∀ (a0 : (List (Ln × Int))) (a1 : Int) (r : (List Ln)), rc a0 a1 = some r → Spec Try.prog 22 [.val (.list (.pair tLn tI)) a0, .val tI a1] (E22o r)) (s1 : Int) (s2 : (List (Ln × Int))) (s5 : (List Int)) (s11 : (List (Ln × Int))) (s12 : Int) (s13 : Int) : Vt (Lp (shTy l22o_3).I (List Ln)) (O3 (Option D)) (encO 50 l22o_3 [0] (fun q => some (E22o q))) :=
  .br (decide (s13 < s12)) (.ck (inR s13 s11.length) (.br (((atI (.pair tLn tI) s11 s13).2) == s1) (.ck (room (s5.length + ([s13] : (List Int)).length)) (.leaf (.next (s1, s2, (s5 ++ ([s13] : (List Int))), s11, s12, (IntKind.i64.wrap (s13 + 1)))))) (.leaf (.next (s1, s2, s5, s11, s12, (IntKind.i64.wrap (s13 + 1))))))) (.leaf (.brk 0 (s1, s2, s5, s11, s12, s13)))
noncomputable def L22o_3 (N : Nat) (rc : (List (Ln × Int)) → Int → Option (List Ln)) (hrc : ∀ (a0 : (List (Ln × Int))) (a1 : Int) (r : (List Ln)), rc a0 a1 = some r → Spec Try.prog 22 [.val (.list (.pair tLn tI)) a0, .val tI a1] (E22o r)) (s1 : Int) (s2 : (List (Ln × Int))) (s5 : (List Int)) (s11 : (List (Ln × Int))) (s12 : Int) (s13 : Int) : Option (Lp (Int × (List (Ln × Int)) × (List Int) × (List (Ln × Int)) × Int × Int) (List Ln)) := (U22o_3 N rc hrc s1 s2 s5 s11 s12 s13).eval
noncomputable def W22o_3 (N : Nat) (rc : (List (Ln × Int)) → Int → Option (List Ln)) (hrc : ∀ (a0 : (List (Ln × Int))) (a1 : Int) (r : (List Ln)), rc a0 a1 = some r → Spec Try.prog 22 [.val (.list (.pair tLn tI)) a0, .val tI a1] (E22o r)) (x : (Int × (List (Ln × Int)) × (List Int) × (List (Ln × Int)) × Int × Int)) : Option (Lp (Int × (List (Ln × Int)) × (List Int) × (List (Ln × Int)) × Int × Int) (List Ln)) := runLoop (fun x => L22o_3 N rc hrc x.1 x.2.1 x.2.2.1 x.2.2.2.1 x.2.2.2.2.1 x.2.2.2.2.2) N x
theorem WS22o_3 (N : Nat) (rc : (List (Ln × Int)) → Int → Option (List Ln)) (hrc : ∀ (a0 : (List (Ln × Int))) (a1 : Int) (r : (List Ln)), rc a0 a1 = some r → Spec Try.prog 22 [.val (.list (.pair tLn tI)) a0, .val tI a1] (E22o r)) (x : (shTy l22o_3).I) : ∀ o, W22o_3 N rc hrc x = some o → S Try.prog (.loop b22o_3) (buildSt 50 l22o_3 x) (stepZ (rdD Try.prog Try.f22 true) l22o_3 (encO 50 l22o_3 [0] (fun q => some (E22o q)) o)) :=
  fun o h => loop_S (l := l22o_3) (step := fun x => L22o_3 N rc hrc x.1 x.2.1 x.2.2.1 x.2.2.2.1 x.2.2.2.2.1 x.2.2.2.2.2) (fun x o h => wpc_sound (tbl := []) (μ := []) mixed _ _ _ (by
    have h1 := Vt.sound _ h
    refine Eq.mp ?_ h1
    kernel_rfl)) N x o h
abbrev l22o_11 : List (Nat × Sh) := [(2, .ept (.list (.pair tLn tI))), (8, .row false 43 34 tLn), (30, .row false 25 3 tI), (31, .val tI), (32, .val tI)]
noncomputable def b22o_11 : Code := loopBody 11 (bodyOf Try.f22)
noncomputable def U22o_11 (N : Nat) (rc : (List (Ln × Int)) → Int → Option (List Ln)) (hrc : ∀ (a0 : (List (Ln × Int))) (a1 : Int) (r : (List Ln)), rc a0 a1 = some r → Spec Try.prog 22 [.val (.list (.pair tLn tI)) a0, .val tI a1] (E22o r)) (s2 : (List (Ln × Int))) (s8 : (List Ln)) (s30 : (List Int)) (s31 : Int) (s32 : Int) : Vt (Lp (shTy l22o_11).I (List Ln)) (O3 (Option D)) (encO 50 l22o_11 [2] (fun q => some (E22o q))) :=
  .br (decide (s32 < s31)) (.ck (inR s32 s30.length) (.ck (inR s32 s30.length) (.ck (inR (atI tI s30 s32) s2.length) (.nb (.nb (.ck (room (s8.length + ([(atI (.pair tLn tI) s2 (atI tI s30 s32)).1] : (List Ln)).length)) (.c1 (hrc s2 (atI tI s30 s32)) (fun x1 => .ck (room ((s8 ++ ([(atI (.pair tLn tI) s2 (atI tI s30 s32)).1] : (List Ln))).length + x1.length)) (.leaf (.next (s2, ((s8 ++ ([(atI (.pair tLn tI) s2 (atI tI s30 s32)).1] : (List Ln))) ++ x1), s30, s31, (IntKind.i64.wrap (s32 + 1)))))))) (.ck (room (s8.length + ([(atI (.pair tLn tI) s2 (atI tI s30 s32)).1] : (List Ln)).length)) (.c1 (hrc s2 (atI tI s30 s32)) (fun x2 => .ck (room ((s8 ++ ([(atI (.pair tLn tI) s2 (atI tI s30 s32)).1] : (List Ln))).length + x2.length)) (.leaf (.next (s2, ((s8 ++ ([(atI (.pair tLn tI) s2 (atI tI s30 s32)).1] : (List Ln))) ++ x2), s30, s31, (IntKind.i64.wrap (s32 + 1))))))))) (.ck (room (s8.length + ([(atI (.pair tLn tI) s2 (atI tI s30 s32)).1] : (List Ln)).length)) (.c1 (hrc s2 (atI tI s30 s32)) (fun x3 => .ck (room ((s8 ++ ([(atI (.pair tLn tI) s2 (atI tI s30 s32)).1] : (List Ln))).length + x3.length)) (.leaf (.next (s2, ((s8 ++ ([(atI (.pair tLn tI) s2 (atI tI s30 s32)).1] : (List Ln))) ++ x3), s30, s31, (IntKind.i64.wrap (s32 + 1)))))))))))) (.leaf (.brk 0 (s2, s8, s30, s31, s32)))
noncomputable def L22o_11 (N : Nat) (rc : (List (Ln × Int)) → Int → Option (List Ln)) (hrc : ∀ (a0 : (List (Ln × Int))) (a1 : Int) (r : (List Ln)), rc a0 a1 = some r → Spec Try.prog 22 [.val (.list (.pair tLn tI)) a0, .val tI a1] (E22o r)) (s2 : (List (Ln × Int))) (s8 : (List Ln)) (s30 : (List Int)) (s31 : Int) (s32 : Int) : Option (Lp ((List (Ln × Int)) × (List Ln) × (List Int) × Int × Int) (List Ln)) := (U22o_11 N rc hrc s2 s8 s30 s31 s32).eval
noncomputable def W22o_11 (N : Nat) (rc : (List (Ln × Int)) → Int → Option (List Ln)) (hrc : ∀ (a0 : (List (Ln × Int))) (a1 : Int) (r : (List Ln)), rc a0 a1 = some r → Spec Try.prog 22 [.val (.list (.pair tLn tI)) a0, .val tI a1] (E22o r)) (x : ((List (Ln × Int)) × (List Ln) × (List Int) × Int × Int)) : Option (Lp ((List (Ln × Int)) × (List Ln) × (List Int) × Int × Int) (List Ln)) := runLoop (fun x => L22o_11 N rc hrc x.1 x.2.1 x.2.2.1 x.2.2.2.1 x.2.2.2.2) N x
theorem WS22o_11 (N : Nat) (rc : (List (Ln × Int)) → Int → Option (List Ln)) (hrc : ∀ (a0 : (List (Ln × Int))) (a1 : Int) (r : (List Ln)), rc a0 a1 = some r → Spec Try.prog 22 [.val (.list (.pair tLn tI)) a0, .val tI a1] (E22o r)) (x : (shTy l22o_11).I) : ∀ o, W22o_11 N rc hrc x = some o → S Try.prog (.loop b22o_11) (buildSt 50 l22o_11 x) (stepZ (rdD Try.prog Try.f22 true) l22o_11 (encO 50 l22o_11 [2] (fun q => some (E22o q)) o)) :=
  fun o h => loop_S (l := l22o_11) (step := fun x => L22o_11 N rc hrc x.1 x.2.1 x.2.2.1 x.2.2.2.1 x.2.2.2.2) (fun x o h => wpc_sound (tbl := [(3, [0], l22o_3)]) (μ := [46, 1000045]) mixed _ _ _ (by
    have h1 := Vt.sound _ h
    refine Eq.mp ?_ h1
    kernel_rfl)) N x o h
noncomputable def V22o (N : Nat) (rc : (List (Ln × Int)) → Int → Option (List Ln)) (hrc : ∀ (a0 : (List (Ln × Int))) (a1 : Int) (r : (List Ln)), rc a0 a1 = some r → Spec Try.prog 22 [.val (.list (.pair tLn tI)) a0, .val tI a1] (E22o r)) (a0 : (List (Ln × Int))) (a1 : Int) : Vt (List Ln) (Option D) (fun q => some (E22o q)) :=
  .f1 (l := l22o_3) (o := W22o_3 N rc hrc (a1, a0, ([] : (List Int)), a0, (a0.length : Int), 0)) (WS22o_3 N rc hrc (a1, a0, ([] : (List Int)), a0, (a0.length : Int), 0)) (fun x1 => .cr (P45rK46 N x1.2.2.1 x1.2.1) (fun x2 => .f1 (l := l22o_11) (o := W22o_11 N rc hrc (x1.2.1, ([] : (List Ln)), x2, (x2.length : Int), 0)) (WS22o_11 N rc hrc (x1.2.1, ([] : (List Ln)), x2, (x2.length : Int), 0)) (fun x1 => .leaf x1.2.1)))
def t22o : List (Nat × List Nat × List (Nat × Sh)) := [(3, [0], l22o_3), (11, [2], l22o_11)]
theorem PV22o (N : Nat) (rc : (List (Ln × Int)) → Int → Option (List Ln)) (hrc : ∀ (a0 : (List (Ln × Int))) (a1 : Int) (r : (List Ln)), rc a0 a1 = some r → Spec Try.prog 22 [.val (.list (.pair tLn tI)) a0, .val tI a1] (E22o r)) (a0 : (List (Ln × Int))) (a1 : Int) : ∀ r, (V22o N rc hrc a0 a1).eval = some r → Spec Try.prog 22 [.val (.list (.pair tLn tI)) a0, .val tI a1] (E22o r) := fun r h => Spec_of (fn := Try.f22) rfl rfl rfl rfl true (wpc_sound (tbl := t22o) (μ := [46, 1000045]) mixed _ _ _ (by
  have h1 := Vt.sound _ h
  refine Eq.mp ?_ h1
  kernel_rfl))
noncomputable def G22o (N : Nat) : Nat → { rc : (List (Ln × Int)) → Int → Option (List Ln) // ∀ (a0 : (List (Ln × Int))) (a1 : Int) (r : (List Ln)), rc a0 a1 = some r → Spec Try.prog 22 [.val (.list (.pair tLn tI)) a0, .val tI a1] (E22o r) }
  | 0 => ⟨fun _ _ => none, fun _ _ _ h => by cases h⟩
  | n + 1 => ⟨fun a0 a1 => (V22o N (G22o N n).1 (G22o N n).2 a0 a1).eval, fun a0 a1 => PV22o N _ _ a0 a1⟩
noncomputable def F22o (N : Nat) (a0 : (List (Ln × Int))) (a1 : Int) : Option (List Ln) := (G22o N N).1 a0 a1
theorem P22o (N : Nat) (a0 : (List (Ln × Int))) (a1 : Int) : ∀ r, F22o N a0 a1 = some r → Spec Try.prog 22 [.val (.list (.pair tLn tI)) a0, .val tI a1] (E22o r) := (G22o N N).2 a0 a1

/-! ferryslip/parse.Tree -/
def E11 : ((List Ln) × Int × Int) → D := fun x => .tup [encV (.list tLn) x.1, encV tI x.2.1, encV tI x.2.2]
abbrev l11_5 : List (Nat × Sh) := [(0, .val tS), (8, .grp false 25 52 [.dat (.list (.pair tI tLn)), .dat tI, .row 89 (.pair tLn tI), .row 3 tI])]
noncomputable def b11_5 : Code := loopBody 5 (bodyOf Try.f11)
noncomputable def U11_5 (N : Nat) (s0 : Bs) (s8 : ((List (Int × Ln)) × (Int × ((List (Ln × Int)) × (List Int))))) : Vt (Lp (shTy l11_5).I ((List Ln) × Int × Int)) (O3 (Option D)) (encO 54 l11_5 [0] (fun q => some (E11 q))) :=
  .br (decide ((0 : Int) < (s8.1.length : Int))) (.cr3 (P21g N s8) (fun x1 x2 x3 => .br (x3 != 0) (.leaf (.ret (([] : (List Ln)), x2, x3))) (.leaf (.next (s0, x1))))) (.leaf (.brk 0 (s0, s8)))
noncomputable def L11_5 (N : Nat) (s0 : Bs) (s8 : ((List (Int × Ln)) × (Int × ((List (Ln × Int)) × (List Int))))) : Option (Lp (Bs × ((List (Int × Ln)) × (Int × ((List (Ln × Int)) × (List Int))))) ((List Ln) × Int × Int)) := (U11_5 N s0 s8).eval
noncomputable def W11_5 (N : Nat) (x : (Bs × ((List (Int × Ln)) × (Int × ((List (Ln × Int)) × (List Int)))))) : Option (Lp (Bs × ((List (Int × Ln)) × (Int × ((List (Ln × Int)) × (List Int))))) ((List Ln) × Int × Int)) := runLoop (fun x => L11_5 N x.1 x.2) N x
theorem WS11_5 (N : Nat) (x : (shTy l11_5).I) : ∀ o, W11_5 N x = some o → S Try.prog (.loop b11_5) (buildSt 54 l11_5 x) (stepZ (rdD Try.prog Try.f11 false) l11_5 (encO 54 l11_5 [0] (fun q => some (E11 q)) o)) :=
  fun o h => loop_S (l := l11_5) (step := fun x => L11_5 N x.1 x.2) (fun x o h => wpc_sound (tbl := []) (μ := [4000021]) mixed _ _ _ (by
    have h1 := Vt.sound _ h
    refine Eq.mp ?_ h1
    kernel_rfl)) N x o h
noncomputable def V11 (N : Nat) (a0 : Bs) : Vt ((List Ln) × Int × Int) (Option D) (fun q => some (E11 q)) :=
  .c3 (P20 N a0) (fun x1 x2 x3 => .br (x3 != 0) (.leaf (([] : (List Ln)), x2, x3)) (.f1 (l := l11_5) (o := W11_5 N (a0, (x1, (a0.length : Int), ([] : (List (Ln × Int))), ([] : (List Int))))) (WS11_5 N (a0, (x1, (a0.length : Int), ([] : (List (Ln × Int))), ([] : (List Int))))) (fun x4 => .br (decide ((0 : Int) < (x4.2.2.2.2.length : Int))) (.leaf (([] : (List Ln)), (x4.1.length : Int), 2)) (.c1 (P22o N x4.2.2.2.1 (-1)) (fun x5 => .leaf (x5, 0, 0))))))
noncomputable def F11 (N : Nat) (a0 : Bs) : Option ((List Ln) × Int × Int) := (V11 N a0).eval
def t11 : List (Nat × List Nat × List (Nat × Sh)) := [(5, [0], l11_5)]
theorem P11 (N : Nat) (a0 : Bs) : ∀ r, F11 N a0 = some r → Spec Try.prog 11 [.val tS a0] (E11 r) := fun r h => Spec_of (fn := Try.f11) rfl rfl rfl rfl false (wpc_sound (tbl := t11) (μ := [53, 4000021]) mixed _ _ _ (by
  have h1 := Vt.sound _ h
  refine Eq.mp ?_ h1
  kernel_rfl))

/-! ferryslip/ferrysliplaw05.awake -/
def E10 : Bool → D := fun x => encV tB x
noncomputable def V10 (N : Nat)  : Vt Bool (Option D) (fun q => some (E10 q)) :=
  .c3 (P11 N ([98, 59, 32, 112, 114, 111, 116, 101, 99, 116, 58, 32, 97, 32, 123, 32, 99, 59, 32, 125] : Bs)) (fun x1 x2 x3 => .c3 (P11 N ([97, 59, 32, 97, 59] : Bs)) (fun x4 x5 x6 => .br (x3 == 0) (.br ((x1.length : Int) == 3) (.ck (inR 0 x1.length) (.br ((((atI tLn x1 0).1) == 0) && ((((atI tLn x1 0).2.1) == ([97] : Bs)) && ((((atI tLn x1 0).2.2) == 2) && true))) (.ck (inR 1 x1.length) (.br ((((atI tLn x1 1).1) == 1) && ((((atI tLn x1 1).2.1) == ([99] : Bs)) && ((((atI tLn x1 1).2.2) == 0) && true))) (.ck (inR 2 x1.length) (.br (((atI tLn x1 2).2.1) == ([98] : Bs)) (.br (x5 == 3) (.leaf (x6 == 4)) (.leaf false)) (.leaf false))) (.leaf false))) (.leaf false))) (.leaf false)) (.leaf false)))
noncomputable def F10 (N : Nat)  : Option Bool := (V10 N ).eval
def t10 : List (Nat × List Nat × List (Nat × Sh)) := []
theorem P10 (N : Nat)  : ∀ r, F10 N  = some r → Spec Try.prog 10 [] (E10 r) := fun r h => Spec_of (fn := Try.f10) rfl rfl rfl rfl false (wpc_sound (tbl := t10) (μ := []) mixed _ _ _ (by
  have h1 := Vt.sound _ h
  refine Eq.mp ?_ h1
  kernel_rfl))

/-! ferryslip/ferryslipref02.gap -/
def E29 : Int → D := fun x => encV tI x
abbrev l29_6 : List (Nat × Sh) := [(0, .val tS), (1, .val tI)]
noncomputable def b29_6 : Code := loopBody 6 (bodyOf Try.f29)
noncomputable def U29_6 (N : Nat) (s0 : Bs) (s1 : Int) : Vt (Lp (shTy l29_6).I Int) (O3 (Option D)) (encO 92 l29_6 [2] (fun q => some (E29 q))) :=
  .br (decide (s1 < (s0.length : Int))) (.ck (inR s1 s0.length) (.br ((byteAt s0 s1) != 10) (.leaf (.next (s0, (IntKind.i64.wrap (s1 + 1))))) (.leaf (.brk 0 (s0, s1))))) (.leaf (.brk 0 (s0, s1)))
noncomputable def L29_6 (N : Nat) (s0 : Bs) (s1 : Int) : Option (Lp (Bs × Int) Int) := (U29_6 N s0 s1).eval
noncomputable def W29_6 (N : Nat) (x : (Bs × Int)) : Option (Lp (Bs × Int) Int) := runLoop (fun x => L29_6 N x.1 x.2) N x
theorem WS29_6 (N : Nat) (x : (shTy l29_6).I) : ∀ o, W29_6 N x = some o → S Try.prog (.loop b29_6) (buildSt 92 l29_6 x) (stepZ (rdD Try.prog Try.f29 false) l29_6 (encO 92 l29_6 [2] (fun q => some (E29 q)) o)) :=
  fun o h => loop_S (l := l29_6) (step := fun x => L29_6 N x.1 x.2) (fun x o h => wpc_sound (tbl := []) (μ := []) mixed _ _ _ (by
    have h1 := Vt.sound _ h
    refine Eq.mp ?_ h1
    kernel_rfl)) N x o h
abbrev l29_10 : List (Nat × Sh) := [(0, .val tS), (6, .val tI)]
noncomputable def b29_10 : Code := loopBody 10 (bodyOf Try.f29)
noncomputable def U29_10 (N : Nat) (s0 : Bs) (s6 : Int) : Vt (Lp (shTy l29_10).I Int) (O3 (Option D)) (encO 92 l29_10 [4] (fun q => some (E29 q))) :=
  .br (decide ((IntKind.i64.wrap (s6 + 1)) < (s0.length : Int))) (.ck (inR s6 s0.length) (.br ((byteAt s0 s6) == 42) (.ck (inR (IntKind.i64.wrap (s6 + 1)) s0.length) (.br (!((byteAt s0 (IntKind.i64.wrap (s6 + 1))) == 47)) (.leaf (.next (s0, (IntKind.i64.wrap (s6 + 1))))) (.leaf (.brk 0 (s0, s6))))) (.leaf (.next (s0, (IntKind.i64.wrap (s6 + 1))))))) (.leaf (.brk 0 (s0, s6)))
noncomputable def L29_10 (N : Nat) (s0 : Bs) (s6 : Int) : Option (Lp (Bs × Int) Int) := (U29_10 N s0 s6).eval
noncomputable def W29_10 (N : Nat) (x : (Bs × Int)) : Option (Lp (Bs × Int) Int) := runLoop (fun x => L29_10 N x.1 x.2) N x
theorem WS29_10 (N : Nat) (x : (shTy l29_10).I) : ∀ o, W29_10 N x = some o → S Try.prog (.loop b29_10) (buildSt 92 l29_10 x) (stepZ (rdD Try.prog Try.f29 false) l29_10 (encO 92 l29_10 [4] (fun q => some (E29 q)) o)) :=
  fun o h => loop_S (l := l29_10) (step := fun x => L29_10 N x.1 x.2) (fun x o h => wpc_sound (tbl := [(6, [2], l29_6)]) (μ := []) mixed _ _ _ (by
    have h1 := Vt.sound _ h
    refine Eq.mp ?_ h1
    kernel_rfl)) N x o h
abbrev l29_1 : List (Nat × Sh) := [(0, .val tS), (1, .val tI)]
noncomputable def b29_1 : Code := loopBody 1 (bodyOf Try.f29)
noncomputable def U29_1 (N : Nat) (s0 : Bs) (s1 : Int) : Vt (Lp (shTy l29_1).I Int) (O3 (Option D)) (encO 92 l29_1 [0] (fun q => some (E29 q))) :=
  .br (decide (s1 < (s0.length : Int))) (.ck (inR s1 s0.length) (.br ((byteAt s0 s1) == 32) (.leaf (.next (s0, (IntKind.i64.wrap (s1 + 1))))) (.br ((byteAt s0 s1) == 9) (.leaf (.next (s0, (IntKind.i64.wrap (s1 + 1))))) (.br ((byteAt s0 s1) == 10) (.leaf (.next (s0, (IntKind.i64.wrap (s1 + 1))))) (.br ((byteAt s0 s1) == 13) (.leaf (.next (s0, (IntKind.i64.wrap (s1 + 1))))) (.br ((byteAt s0 s1) == 35) (.g1 (l := l29_6) (o := W29_6 N (s0, s1)) (WS29_6 N (s0, s1)) (fun x1 => .leaf (.next (x1.1, x1.2)))) (.br ((byteAt s0 s1) == 47) (.br (decide ((IntKind.i64.wrap (s1 + 1)) < (s0.length : Int))) (.ck (inR (IntKind.i64.wrap (s1 + 1)) s0.length) (.br ((byteAt s0 (IntKind.i64.wrap (s1 + 1))) == 42) (.g1 (l := l29_10) (o := W29_10 N (s0, (IntKind.i64.wrap (s1 + 2)))) (WS29_10 N (s0, (IntKind.i64.wrap (s1 + 2)))) (fun x2 => .br (decide ((x2.1.length : Int) ≤ (IntKind.i64.wrap (x2.2 + 1)))) (.leaf (.ret (-1))) (.leaf (.next (x2.1, (IntKind.i64.wrap (x2.2 + 2))))))) (.leaf (.ret s1)))) (.leaf (.ret s1))) (.leaf (.ret s1))))))))) (.leaf (.brk 0 (s0, s1)))
noncomputable def L29_1 (N : Nat) (s0 : Bs) (s1 : Int) : Option (Lp (Bs × Int) Int) := (U29_1 N s0 s1).eval
noncomputable def W29_1 (N : Nat) (x : (Bs × Int)) : Option (Lp (Bs × Int) Int) := runLoop (fun x => L29_1 N x.1 x.2) N x
theorem WS29_1 (N : Nat) (x : (shTy l29_1).I) : ∀ o, W29_1 N x = some o → S Try.prog (.loop b29_1) (buildSt 92 l29_1 x) (stepZ (rdD Try.prog Try.f29 false) l29_1 (encO 92 l29_1 [0] (fun q => some (E29 q)) o)) :=
  fun o h => loop_S (l := l29_1) (step := fun x => L29_1 N x.1 x.2) (fun x o h => wpc_sound (tbl := [(6, [2], l29_6), (10, [4], l29_10)]) (μ := []) mixed _ _ _ (by
    have h1 := Vt.sound _ h
    refine Eq.mp ?_ h1
    kernel_rfl)) N x o h
noncomputable def V29 (N : Nat) (a0 : Bs) (a1 : Int) : Vt Int (Option D) (fun q => some (E29 q)) :=
  .f1 (l := l29_1) (o := W29_1 N (a0, a1)) (WS29_1 N (a0, a1)) (fun x1 => .leaf x1.2)
noncomputable def F29 (N : Nat) (a0 : Bs) (a1 : Int) : Option Int := (V29 N a0 a1).eval
def t29 : List (Nat × List Nat × List (Nat × Sh)) := [(6, [2], l29_6), (10, [4], l29_10), (1, [0], l29_1)]
theorem P29 (N : Nat) (a0 : Bs) (a1 : Int) : ∀ r, F29 N a0 a1 = some r → Spec Try.prog 29 [.val tS a0, .val tI a1] (E29 r) := fun r h => Spec_of (fn := Try.f29) rfl rfl rfl rfl false (wpc_sound (tbl := t29) (μ := []) mixed _ _ _ (by
  have h1 := Vt.sound _ h
  refine Eq.mp ?_ h1
  kernel_rfl))

/-! ferryslip/ferryslipref02.open -/
def E30 : Int → D := fun x => encV tI x
abbrev l30_2 : List (Nat × Sh) := [(0, .val tS), (5, .val tI)]
noncomputable def b30_2 : Code := loopBody 2 (bodyOf Try.f30)
noncomputable def U30_2 (N : Nat) (s0 : Bs) (s5 : Int) : Vt (Lp (shTy l30_2).I Int) (O3 (Option D)) (encO 80 l30_2 [2] (fun q => some (E30 q))) :=
  .br (decide (s5 < (s0.length : Int))) (.ck (inR s5 s0.length) (.br ((byteAt s0 s5) == 32) (.leaf (.next (s0, (IntKind.i64.wrap (s5 + 1))))) (.ck (inR s5 s0.length) (.br ((byteAt s0 s5) == 9) (.leaf (.next (s0, (IntKind.i64.wrap (s5 + 1))))) (.ck (inR s5 s0.length) (.br ((byteAt s0 s5) == 10) (.leaf (.next (s0, (IntKind.i64.wrap (s5 + 1))))) (.ck (inR s5 s0.length) (.br ((byteAt s0 s5) == 13) (.leaf (.next (s0, (IntKind.i64.wrap (s5 + 1))))) (.leaf (.brk 0 (s0, s5))))))))))) (.leaf (.brk 0 (s0, s5)))
noncomputable def L30_2 (N : Nat) (s0 : Bs) (s5 : Int) : Option (Lp (Bs × Int) Int) := (U30_2 N s0 s5).eval
noncomputable def W30_2 (N : Nat) (x : (Bs × Int)) : Option (Lp (Bs × Int) Int) := runLoop (fun x => L30_2 N x.1 x.2) N x
theorem WS30_2 (N : Nat) (x : (shTy l30_2).I) : ∀ o, W30_2 N x = some o → S Try.prog (.loop b30_2) (buildSt 80 l30_2 x) (stepZ (rdD Try.prog Try.f30 false) l30_2 (encO 80 l30_2 [2] (fun q => some (E30 q)) o)) :=
  fun o h => loop_S (l := l30_2) (step := fun x => L30_2 N x.1 x.2) (fun x o h => wpc_sound (tbl := []) (μ := []) mixed _ _ _ (by
    have h1 := Vt.sound _ h
    refine Eq.mp ?_ h1
    kernel_rfl)) N x o h
abbrev l30_5 : List (Nat × Sh) := [(0, .val tS), (5, .val tI)]
noncomputable def b30_5 : Code := loopBody 5 (bodyOf Try.f30)
noncomputable def U30_5 (N : Nat) (s0 : Bs) (s5 : Int) : Vt (Lp (shTy l30_5).I Int) (O3 (Option D)) (encO 80 l30_5 [4] (fun q => some (E30 q))) :=
  .ck (inR s5 s0.length) (.br ((byteAt s0 s5) != 10) (.leaf (.next (s0, (IntKind.i64.wrap (s5 + 1))))) (.leaf (.brk 0 (s0, s5))))
noncomputable def L30_5 (N : Nat) (s0 : Bs) (s5 : Int) : Option (Lp (Bs × Int) Int) := (U30_5 N s0 s5).eval
noncomputable def W30_5 (N : Nat) (x : (Bs × Int)) : Option (Lp (Bs × Int) Int) := runLoop (fun x => L30_5 N x.1 x.2) N x
theorem WS30_5 (N : Nat) (x : (shTy l30_5).I) : ∀ o, W30_5 N x = some o → S Try.prog (.loop b30_5) (buildSt 80 l30_5 x) (stepZ (rdD Try.prog Try.f30 false) l30_5 (encO 80 l30_5 [4] (fun q => some (E30 q)) o)) :=
  fun o h => loop_S (l := l30_5) (step := fun x => L30_5 N x.1 x.2) (fun x o h => wpc_sound (tbl := [(2, [2], l30_2)]) (μ := []) mixed _ _ _ (by
    have h1 := Vt.sound _ h
    refine Eq.mp ?_ h1
    kernel_rfl)) N x o h
abbrev l30_9 : List (Nat × Sh) := [(0, .val tS), (5, .val tI), (6, .val tI)]
noncomputable def b30_9 : Code := loopBody 9 (bodyOf Try.f30)
noncomputable def U30_9 (N : Nat) (s0 : Bs) (s5 : Int) (s6 : Int) : Vt (Lp (shTy l30_9).I Int) (O3 (Option D)) (encO 80 l30_9 [6] (fun q => some (E30 q))) :=
  .br (decide ((IntKind.i64.wrap (s6 + 1)) < (s0.length : Int))) (.ck (inR s6 s0.length) (.br ((byteAt s0 s6) == 42) (.ck (inR (IntKind.i64.wrap (s6 + 1)) s0.length) (.br (!((byteAt s0 (IntKind.i64.wrap (s6 + 1))) == 47)) (.leaf (.next (s0, s5, (IntKind.i64.wrap (s6 + 1))))) (.leaf (.brk 0 (s0, s5, s6))))) (.leaf (.next (s0, s5, (IntKind.i64.wrap (s6 + 1))))))) (.leaf (.brk 0 (s0, s5, s6)))
noncomputable def L30_9 (N : Nat) (s0 : Bs) (s5 : Int) (s6 : Int) : Option (Lp (Bs × Int × Int) Int) := (U30_9 N s0 s5 s6).eval
noncomputable def W30_9 (N : Nat) (x : (Bs × Int × Int)) : Option (Lp (Bs × Int × Int) Int) := runLoop (fun x => L30_9 N x.1 x.2.1 x.2.2) N x
theorem WS30_9 (N : Nat) (x : (shTy l30_9).I) : ∀ o, W30_9 N x = some o → S Try.prog (.loop b30_9) (buildSt 80 l30_9 x) (stepZ (rdD Try.prog Try.f30 false) l30_9 (encO 80 l30_9 [6] (fun q => some (E30 q)) o)) :=
  fun o h => loop_S (l := l30_9) (step := fun x => L30_9 N x.1 x.2.1 x.2.2) (fun x o h => wpc_sound (tbl := [(2, [2], l30_2), (5, [4], l30_5)]) (μ := []) mixed _ _ _ (by
    have h1 := Vt.sound _ h
    refine Eq.mp ?_ h1
    kernel_rfl)) N x o h
abbrev l30_1 : List (Nat × Sh) := [(0, .val tS), (1, .val tI)]
noncomputable def b30_1 : Code := loopBody 1 (bodyOf Try.f30)
noncomputable def U30_1 (N : Nat) (s0 : Bs) (s1 : Int) : Vt (Lp (shTy l30_1).I Int) (O3 (Option D)) (encO 80 l30_1 [] (fun q => some (E30 q))) :=
  .g1 (l := l30_2) (o := W30_2 N (s0, s1)) (WS30_2 N (s0, s1)) (fun x1 => .ck (inR x1.2 x1.1.length) (.br ((byteAt x1.1 x1.2) == 35) (.g1 (l := l30_5) (o := W30_5 N (x1.1, x1.2)) (WS30_5 N (x1.1, x1.2)) (fun x2 => .leaf (.next (x2.1, x2.2)))) (.g1 (l := l30_9) (o := W30_9 N (x1.1, x1.2, (IntKind.i64.wrap (x1.2 + 2)))) (WS30_9 N (x1.1, x1.2, (IntKind.i64.wrap (x1.2 + 2)))) (fun x3 => .br (decide ((x3.1.length : Int) ≤ (IntKind.i64.wrap (x3.2.2 + 1)))) (.leaf (.ret x3.2.1)) (.leaf (.next (x3.1, (IntKind.i64.wrap (x3.2.2 + 2)))))))))
noncomputable def L30_1 (N : Nat) (s0 : Bs) (s1 : Int) : Option (Lp (Bs × Int) Int) := (U30_1 N s0 s1).eval
noncomputable def W30_1 (N : Nat) (x : (Bs × Int)) : Option (Lp (Bs × Int) Int) := runLoop (fun x => L30_1 N x.1 x.2) N x
theorem WS30_1 (N : Nat) (x : (shTy l30_1).I) : ∀ o, W30_1 N x = some o → S Try.prog (.loop b30_1) (buildSt 80 l30_1 x) (stepZ (rdD Try.prog Try.f30 false) l30_1 (encO 80 l30_1 [] (fun q => some (E30 q)) o)) :=
  fun o h => loop_S (l := l30_1) (step := fun x => L30_1 N x.1 x.2) (fun x o h => wpc_sound (tbl := [(2, [2], l30_2), (5, [4], l30_5), (9, [6], l30_9)]) (μ := []) mixed _ _ _ (by
    have h1 := Vt.sound _ h
    refine Eq.mp ?_ h1
    kernel_rfl)) N x o h
noncomputable def V30 (N : Nat) (a0 : Bs) (a1 : Int) : Vt Int (Option D) (fun q => some (E30 q)) :=
  .f0 (l := l30_1) (o := W30_1 N (a0, a1)) (WS30_1 N (a0, a1))
noncomputable def F30 (N : Nat) (a0 : Bs) (a1 : Int) : Option Int := (V30 N a0 a1).eval
def t30 : List (Nat × List Nat × List (Nat × Sh)) := [(2, [2], l30_2), (5, [4], l30_5), (9, [6], l30_9), (1, [], l30_1)]
theorem P30 (N : Nat) (a0 : Bs) (a1 : Int) : ∀ r, F30 N a0 a1 = some r → Spec Try.prog 30 [.val tS a0, .val tI a1] (E30 r) := fun r h => Spec_of (fn := Try.f30) rfl rfl rfl rfl false (wpc_sound (tbl := t30) (μ := []) mixed _ _ _ (by
  have h1 := Vt.sound _ h
  refine Eq.mp ?_ h1
  kernel_rfl))

/-! ferryslip/ferryslipref01.bare -/
def E53 : Bool → D := fun x => encV tB x
noncomputable def V53 (N : Nat) (a0 : Int) : Vt Bool (Option D) (fun q => some (E53 q)) :=
  .br (decide ((97 : Int) ≤ a0)) (.br (decide (a0 ≤ 122)) (.leaf true) (.br (decide ((65 : Int) ≤ a0)) (.br (decide (a0 ≤ 90)) (.leaf true) (.br (decide ((48 : Int) ≤ a0)) (.br (decide (a0 ≤ 57)) (.leaf true) (.br (a0 == 45) (.leaf true) (.br (a0 == 95) (.leaf true) (.br (a0 == 46) (.leaf true) (.br (a0 == 47) (.leaf true) (.br (a0 == 58) (.leaf true) (.leaf (a0 == 42)))))))) (.br (a0 == 45) (.leaf true) (.br (a0 == 95) (.leaf true) (.br (a0 == 46) (.leaf true) (.br (a0 == 47) (.leaf true) (.br (a0 == 58) (.leaf true) (.leaf (a0 == 42))))))))) (.br (decide ((48 : Int) ≤ a0)) (.br (decide (a0 ≤ 57)) (.leaf true) (.br (a0 == 45) (.leaf true) (.br (a0 == 95) (.leaf true) (.br (a0 == 46) (.leaf true) (.br (a0 == 47) (.leaf true) (.br (a0 == 58) (.leaf true) (.leaf (a0 == 42)))))))) (.br (a0 == 45) (.leaf true) (.br (a0 == 95) (.leaf true) (.br (a0 == 46) (.leaf true) (.br (a0 == 47) (.leaf true) (.br (a0 == 58) (.leaf true) (.leaf (a0 == 42)))))))))) (.br (decide ((65 : Int) ≤ a0)) (.br (decide (a0 ≤ 90)) (.leaf true) (.br (decide ((48 : Int) ≤ a0)) (.br (decide (a0 ≤ 57)) (.leaf true) (.br (a0 == 45) (.leaf true) (.br (a0 == 95) (.leaf true) (.br (a0 == 46) (.leaf true) (.br (a0 == 47) (.leaf true) (.br (a0 == 58) (.leaf true) (.leaf (a0 == 42)))))))) (.br (a0 == 45) (.leaf true) (.br (a0 == 95) (.leaf true) (.br (a0 == 46) (.leaf true) (.br (a0 == 47) (.leaf true) (.br (a0 == 58) (.leaf true) (.leaf (a0 == 42))))))))) (.br (decide ((48 : Int) ≤ a0)) (.br (decide (a0 ≤ 57)) (.leaf true) (.br (a0 == 45) (.leaf true) (.br (a0 == 95) (.leaf true) (.br (a0 == 46) (.leaf true) (.br (a0 == 47) (.leaf true) (.br (a0 == 58) (.leaf true) (.leaf (a0 == 42)))))))) (.br (a0 == 45) (.leaf true) (.br (a0 == 95) (.leaf true) (.br (a0 == 46) (.leaf true) (.br (a0 == 47) (.leaf true) (.br (a0 == 58) (.leaf true) (.leaf (a0 == 42)))))))))
noncomputable def F53 (N : Nat) (a0 : Int) : Option Bool := (V53 N a0).eval
def t53 : List (Nat × List Nat × List (Nat × Sh)) := []
theorem P53 (N : Nat) (a0 : Int) : ∀ r, F53 N a0 = some r → Spec Try.prog 53 [.val (.int .u8) a0] (E53 r) := fun r h => Spec_of (fn := Try.f53) rfl rfl rfl rfl false (wpc_sound (tbl := t53) (μ := []) mixed _ _ _ (by
  have h1 := Vt.sound _ h
  refine Eq.mp ?_ h1
  kernel_rfl))

/-! ferryslip/ferryslipref01.Scan -/
def E31 : (Int × Bool) → D := fun x => .tup [encV tI x.1, encV tB x.2]
abbrev l31_5 : List (Nat × Sh) := [(0, .val tS), (1, .val tI), (6, .val tI)]
noncomputable def b31_5 : Code := loopBody 5 (bodyOf Try.f31)
noncomputable def U31_5 (N : Nat) (s0 : Bs) (s1 : Int) (s6 : Int) : Vt (Lp (shTy l31_5).I (Int × Bool)) (O3 (Option D)) (encO 57 l31_5 [0] (fun q => some (E31 q))) :=
  .br (decide (s6 < (s0.length : Int))) (.ck (inR s6 s0.length) (.c1 (P53 N (byteAt s0 s6)) (fun x1 => .br x1 (.leaf (.next (s0, s1, (IntKind.i64.wrap (s6 + 1))))) (.leaf (.brk 0 (s0, s1, s6)))))) (.leaf (.brk 0 (s0, s1, s6)))
noncomputable def L31_5 (N : Nat) (s0 : Bs) (s1 : Int) (s6 : Int) : Option (Lp (Bs × Int × Int) (Int × Bool)) := (U31_5 N s0 s1 s6).eval
noncomputable def W31_5 (N : Nat) (x : (Bs × Int × Int)) : Option (Lp (Bs × Int × Int) (Int × Bool)) := runLoop (fun x => L31_5 N x.1 x.2.1 x.2.2) N x
theorem WS31_5 (N : Nat) (x : (shTy l31_5).I) : ∀ o, W31_5 N x = some o → S Try.prog (.loop b31_5) (buildSt 57 l31_5 x) (stepZ (rdD Try.prog Try.f31 false) l31_5 (encO 57 l31_5 [0] (fun q => some (E31 q)) o)) :=
  fun o h => loop_S (l := l31_5) (step := fun x => L31_5 N x.1 x.2.1 x.2.2) (fun x o h => wpc_sound (tbl := []) (μ := []) mixed _ _ _ (by
    have h1 := Vt.sound _ h
    refine Eq.mp ?_ h1
    kernel_rfl)) N x o h
abbrev l31_12 : List (Nat × Sh) := [(0, .val tS), (7, .val tB), (8, .val tI)]
noncomputable def b31_12 : Code := loopBody 12 (bodyOf Try.f31)
noncomputable def U31_12 (N : Nat) (s0 : Bs) (s7 : Bool) (s8 : Int) : Vt (Lp (shTy l31_12).I (Int × Bool)) (O3 (Option D)) (encO 57 l31_12 [2] (fun q => some (E31 q))) :=
  .br (decide (s8 < (s0.length : Int))) (.br s7 (.leaf (.next (s0, false, (IntKind.i64.wrap (s8 + 1))))) (.ck (inR s8 s0.length) (.br ((byteAt s0 s8) == 92) (.leaf (.next (s0, true, (IntKind.i64.wrap (s8 + 1))))) (.ck (inR s8 s0.length) (.br ((byteAt s0 s8) == 34) (.leaf (.ret ((IntKind.i64.wrap (s8 + 1)), true))) (.leaf (.next (s0, s7, (IntKind.i64.wrap (s8 + 1)))))))))) (.leaf (.brk 0 (s0, s7, s8)))
noncomputable def L31_12 (N : Nat) (s0 : Bs) (s7 : Bool) (s8 : Int) : Option (Lp (Bs × Bool × Int) (Int × Bool)) := (U31_12 N s0 s7 s8).eval
noncomputable def W31_12 (N : Nat) (x : (Bs × Bool × Int)) : Option (Lp (Bs × Bool × Int) (Int × Bool)) := runLoop (fun x => L31_12 N x.1 x.2.1 x.2.2) N x
theorem WS31_12 (N : Nat) (x : (shTy l31_12).I) : ∀ o, W31_12 N x = some o → S Try.prog (.loop b31_12) (buildSt 57 l31_12 x) (stepZ (rdD Try.prog Try.f31 false) l31_12 (encO 57 l31_12 [2] (fun q => some (E31 q)) o)) :=
  fun o h => loop_S (l := l31_12) (step := fun x => L31_12 N x.1 x.2.1 x.2.2) (fun x o h => wpc_sound (tbl := [(5, [0], l31_5)]) (μ := []) mixed _ _ _ (by
    have h1 := Vt.sound _ h
    refine Eq.mp ?_ h1
    kernel_rfl)) N x o h
noncomputable def V31 (N : Nat) (a0 : Bs) (a1 : Int) : Vt (Int × Bool) (Option D) (fun q => some (E31 q)) :=
  .br (decide (a1 < 0)) (.leaf (0, false)) (.br (decide ((a0.length : Int) ≤ a1)) (.leaf (0, false)) (.ck (inR a1 a0.length) (.br ((byteAt a0 a1) != 34) (.f1 (l := l31_5) (o := W31_5 N (a0, a1, a1)) (WS31_5 N (a0, a1, a1)) (fun x1 => .br (x1.2.2 == x1.2.1) (.leaf (0, false)) (.leaf (x1.2.2, true)))) (.f1 (l := l31_12) (o := W31_12 N (a0, false, (IntKind.i64.wrap (a1 + 1)))) (WS31_12 N (a0, false, (IntKind.i64.wrap (a1 + 1)))) (fun x2 => .leaf (0, false))))))
noncomputable def F31 (N : Nat) (a0 : Bs) (a1 : Int) : Option (Int × Bool) := (V31 N a0 a1).eval
def t31 : List (Nat × List Nat × List (Nat × Sh)) := [(5, [0], l31_5), (12, [2], l31_12)]
theorem P31 (N : Nat) (a0 : Bs) (a1 : Int) : ∀ r, F31 N a0 a1 = some r → Spec Try.prog 31 [.val tS a0, .val tI a1] (E31 r) := fun r h => Spec_of (fn := Try.f31) rfl rfl rfl rfl false (wpc_sound (tbl := t31) (μ := []) mixed _ _ _ (by
  have h1 := Vt.sound _ h
  refine Eq.mp ?_ h1
  kernel_rfl))

/-! ferryslip/ferryslipref01.Bare -/
def E51 : Bool → D := fun x => encV tB x
abbrev l51_4 : List (Nat × Sh) := [(0, .val tS), (3, .val tI)]
noncomputable def b51_4 : Code := loopBody 4 (bodyOf Try.f51)
noncomputable def U51_4 (N : Nat) (s0 : Bs) (s3 : Int) : Vt (Lp (shTy l51_4).I Bool) (O3 (Option D)) (encO 40 l51_4 [0] (fun q => some (E51 q))) :=
  .br (decide (s3 < (s0.length : Int))) (.ck (inR s3 s0.length) (.c1 (P53 N (byteAt s0 s3)) (fun x1 => .br (!x1) (.leaf (.ret false)) (.leaf (.next (s0, (IntKind.i64.wrap (s3 + 1)))))))) (.leaf (.brk 0 (s0, s3)))
noncomputable def L51_4 (N : Nat) (s0 : Bs) (s3 : Int) : Option (Lp (Bs × Int) Bool) := (U51_4 N s0 s3).eval
noncomputable def W51_4 (N : Nat) (x : (Bs × Int)) : Option (Lp (Bs × Int) Bool) := runLoop (fun x => L51_4 N x.1 x.2) N x
theorem WS51_4 (N : Nat) (x : (shTy l51_4).I) : ∀ o, W51_4 N x = some o → S Try.prog (.loop b51_4) (buildSt 40 l51_4 x) (stepZ (rdD Try.prog Try.f51 false) l51_4 (encO 40 l51_4 [0] (fun q => some (E51 q)) o)) :=
  fun o h => loop_S (l := l51_4) (step := fun x => L51_4 N x.1 x.2) (fun x o h => wpc_sound (tbl := []) (μ := []) mixed _ _ _ (by
    have h1 := Vt.sound _ h
    refine Eq.mp ?_ h1
    kernel_rfl)) N x o h
noncomputable def V51 (N : Nat) (a0 : Bs) : Vt Bool (Option D) (fun q => some (E51 q)) :=
  .br (a0 == ([] : Bs)) (.leaf false) (.br (a0 == ([105, 110, 97, 99, 116, 105, 118, 101, 58] : Bs)) (.leaf false) (.br (a0 == ([112, 114, 111, 116, 101, 99, 116, 58] : Bs)) (.leaf false) (.br (decide ((1 : Int) < (a0.length : Int))) (.ck (inR 0 a0.length) (.br ((byteAt a0 0) == 47) (.ck (inR 1 a0.length) (.br ((byteAt a0 1) == 42) (.leaf false) (.f1 (l := l51_4) (o := W51_4 N (a0, 0)) (WS51_4 N (a0, 0)) (fun x1 => .leaf true)))) (.f1 (l := l51_4) (o := W51_4 N (a0, 0)) (WS51_4 N (a0, 0)) (fun x2 => .leaf true)))) (.f1 (l := l51_4) (o := W51_4 N (a0, 0)) (WS51_4 N (a0, 0)) (fun x3 => .leaf true)))))
noncomputable def F51 (N : Nat) (a0 : Bs) : Option Bool := (V51 N a0).eval
def t51 : List (Nat × List Nat × List (Nat × Sh)) := [(4, [0], l51_4)]
theorem P51 (N : Nat) (a0 : Bs) : ∀ r, F51 N a0 = some r → Spec Try.prog 51 [.val tS a0] (E51 r) := fun r h => Spec_of (fn := Try.f51) rfl rfl rfl rfl false (wpc_sound (tbl := t51) (μ := []) mixed _ _ _ (by
  have h1 := Vt.sound _ h
  refine Eq.mp ?_ h1
  kernel_rfl))

/-! ferryslip/ferryslipref01.value -/
def E54 : Int → D := fun x => encV tI x
noncomputable def V54 (N : Nat) (a0 : Int) : Vt Int (Option D) (fun q => some (E54 q)) :=
  .br (decide ((48 : Int) ≤ a0)) (.br (decide (a0 ≤ 57)) (.leaf (IntKind.i64.wrap (IntKind.u8.wrap (a0 - 48)))) (.br (decide ((97 : Int) ≤ a0)) (.br (decide (a0 ≤ 102)) (.leaf (IntKind.i64.wrap ((IntKind.i64.wrap (IntKind.u8.wrap (a0 - 97))) + 10))) (.leaf (-1))) (.leaf (-1)))) (.br (decide ((97 : Int) ≤ a0)) (.br (decide (a0 ≤ 102)) (.leaf (IntKind.i64.wrap ((IntKind.i64.wrap (IntKind.u8.wrap (a0 - 97))) + 10))) (.leaf (-1))) (.leaf (-1)))
noncomputable def F54 (N : Nat) (a0 : Int) : Option Int := (V54 N a0).eval
def t54 : List (Nat × List Nat × List (Nat × Sh)) := []
theorem P54 (N : Nat) (a0 : Int) : ∀ r, F54 N a0 = some r → Spec Try.prog 54 [.val (.int .u8) a0] (E54 r) := fun r h => Spec_of (fn := Try.f54) rfl rfl rfl rfl false (wpc_sound (tbl := t54) (μ := []) mixed _ _ _ (by
  have h1 := Vt.sound _ h
  refine Eq.mp ?_ h1
  kernel_rfl))

/-! ferryslip/ferryslipref01.Unquote -/
def E32 : (Bs × Int) → D := fun x => .tup [encV tS x.1, encV tI x.2]
abbrev l32_9 : List (Nat × Sh) := [(0, .val tS), (4, .row false 56 5 (.int .u8)), (5, .val tI)]
noncomputable def b32_9 : Code := loopBody 9 (bodyOf Try.f32)
noncomputable def U32_9 (N : Nat) (s0 : Bs) (s4 : (List Int)) (s5 : Int) : Vt (Lp (shTy l32_9).I (Bs × Int)) (O3 (Option D)) (encO 123 l32_9 [0] (fun q => some (E32 q))) :=
  .br (decide (s5 < (IntKind.i64.wrap ((s0.length : Int) - 1)))) (.ck (inR s5 s0.length) (.br (decide ((byteAt s0 s5) < 32)) (.leaf (.ret (([] : Bs), 2))) (.br (decide ((126 : Int) < (byteAt s0 s5))) (.leaf (.ret (([] : Bs), 2))) (.br ((byteAt s0 s5) == 34) (.leaf (.ret (([] : Bs), 2))) (.br ((byteAt s0 s5) != 92) (.ck (room (s4.length + ([(byteAt s0 s5)] : (List Int)).length)) (.leaf (.next (s0, (s4 ++ ([(byteAt s0 s5)] : (List Int))), (IntKind.i64.wrap (s5 + 1)))))) (.ck ((0 : Int) ≤ (IntKind.i64.wrap (s5 + 1)) ∧ (IntKind.i64.wrap (s5 + 1)) ≤ (IntKind.i64.wrap ((s0.length : Int) - 1)) ∧ (IntKind.i64.wrap ((s0.length : Int) - 1)) ≤ (s0.length : Int)) (.br (decide ((0 : Int) < ((slc s0 (IntKind.i64.wrap (s5 + 1)) (IntKind.i64.wrap ((s0.length : Int) - 1))).length : Int))) (.ck (inR 0 (slc s0 (IntKind.i64.wrap (s5 + 1)) (IntKind.i64.wrap ((s0.length : Int) - 1))).length) (.br ((byteAt (slc s0 (IntKind.i64.wrap (s5 + 1)) (IntKind.i64.wrap ((s0.length : Int) - 1))) 0) == 34) (.ck (inR 0 (slc s0 (IntKind.i64.wrap (s5 + 1)) (IntKind.i64.wrap ((s0.length : Int) - 1))).length) (.ck (room (s4.length + ([(byteAt (slc s0 (IntKind.i64.wrap (s5 + 1)) (IntKind.i64.wrap ((s0.length : Int) - 1))) 0)] : (List Int)).length)) (.leaf (.next (s0, (s4 ++ ([(byteAt (slc s0 (IntKind.i64.wrap (s5 + 1)) (IntKind.i64.wrap ((s0.length : Int) - 1))) 0)] : (List Int))), (IntKind.i64.wrap ((IntKind.i64.wrap (s5 + 1)) + 1))))))) (.ck (inR 0 (slc s0 (IntKind.i64.wrap (s5 + 1)) (IntKind.i64.wrap ((s0.length : Int) - 1))).length) (.br ((byteAt (slc s0 (IntKind.i64.wrap (s5 + 1)) (IntKind.i64.wrap ((s0.length : Int) - 1))) 0) == 92) (.ck (inR 0 (slc s0 (IntKind.i64.wrap (s5 + 1)) (IntKind.i64.wrap ((s0.length : Int) - 1))).length) (.ck (room (s4.length + ([(byteAt (slc s0 (IntKind.i64.wrap (s5 + 1)) (IntKind.i64.wrap ((s0.length : Int) - 1))) 0)] : (List Int)).length)) (.leaf (.next (s0, (s4 ++ ([(byteAt (slc s0 (IntKind.i64.wrap (s5 + 1)) (IntKind.i64.wrap ((s0.length : Int) - 1))) 0)] : (List Int))), (IntKind.i64.wrap ((IntKind.i64.wrap (s5 + 1)) + 1))))))) (.br (decide (((slc s0 (IntKind.i64.wrap (s5 + 1)) (IntKind.i64.wrap ((s0.length : Int) - 1))).length : Int) < 3)) (.leaf (.ret (([] : Bs), 2))) (.ck (inR 0 (slc s0 (IntKind.i64.wrap (s5 + 1)) (IntKind.i64.wrap ((s0.length : Int) - 1))).length) (.br ((byteAt (slc s0 (IntKind.i64.wrap (s5 + 1)) (IntKind.i64.wrap ((s0.length : Int) - 1))) 0) != 120) (.leaf (.ret (([] : Bs), 2))) (.ck (inR 1 (slc s0 (IntKind.i64.wrap (s5 + 1)) (IntKind.i64.wrap ((s0.length : Int) - 1))).length) (.c1 (P54 N (byteAt (slc s0 (IntKind.i64.wrap (s5 + 1)) (IntKind.i64.wrap ((s0.length : Int) - 1))) 1)) (fun x1 => .br (decide (x1 < 0)) (.leaf (.ret (([] : Bs), 2))) (.ck (inR 2 (slc s0 (IntKind.i64.wrap (s5 + 1)) (IntKind.i64.wrap ((s0.length : Int) - 1))).length) (.c1 (P54 N (byteAt (slc s0 (IntKind.i64.wrap (s5 + 1)) (IntKind.i64.wrap ((s0.length : Int) - 1))) 2)) (fun x2 => .br (decide (x2 < 0)) (.leaf (.ret (([] : Bs), 2))) (.ck (inR 1 (slc s0 (IntKind.i64.wrap (s5 + 1)) (IntKind.i64.wrap ((s0.length : Int) - 1))).length) (.c1 (P54 N (byteAt (slc s0 (IntKind.i64.wrap (s5 + 1)) (IntKind.i64.wrap ((s0.length : Int) - 1))) 1)) (fun x3 => .ck (inR 2 (slc s0 (IntKind.i64.wrap (s5 + 1)) (IntKind.i64.wrap ((s0.length : Int) - 1))).length) (.c1 (P54 N (byteAt (slc s0 (IntKind.i64.wrap (s5 + 1)) (IntKind.i64.wrap ((s0.length : Int) - 1))) 2)) (fun x4 => .ck (room (s4.length + ([(IntKind.u8.wrap (IntKind.i64.wrap ((IntKind.i64.wrap (16 * x3)) + x4)))] : (List Int)).length)) (.leaf (.next (s0, (s4 ++ ([(IntKind.u8.wrap (IntKind.i64.wrap ((IntKind.i64.wrap (16 * x3)) + x4)))] : (List Int))), (IntKind.i64.wrap ((IntKind.i64.wrap (s5 + 3)) + 1))))))))))))))))))))))) (.br (decide (((slc s0 (IntKind.i64.wrap (s5 + 1)) (IntKind.i64.wrap ((s0.length : Int) - 1))).length : Int) < 3)) (.leaf (.ret (([] : Bs), 2))) (.ck (inR 0 (slc s0 (IntKind.i64.wrap (s5 + 1)) (IntKind.i64.wrap ((s0.length : Int) - 1))).length) (.br ((byteAt (slc s0 (IntKind.i64.wrap (s5 + 1)) (IntKind.i64.wrap ((s0.length : Int) - 1))) 0) != 120) (.leaf (.ret (([] : Bs), 2))) (.ck (inR 1 (slc s0 (IntKind.i64.wrap (s5 + 1)) (IntKind.i64.wrap ((s0.length : Int) - 1))).length) (.c1 (P54 N (byteAt (slc s0 (IntKind.i64.wrap (s5 + 1)) (IntKind.i64.wrap ((s0.length : Int) - 1))) 1)) (fun x5 => .br (decide (x5 < 0)) (.leaf (.ret (([] : Bs), 2))) (.ck (inR 2 (slc s0 (IntKind.i64.wrap (s5 + 1)) (IntKind.i64.wrap ((s0.length : Int) - 1))).length) (.c1 (P54 N (byteAt (slc s0 (IntKind.i64.wrap (s5 + 1)) (IntKind.i64.wrap ((s0.length : Int) - 1))) 2)) (fun x6 => .br (decide (x6 < 0)) (.leaf (.ret (([] : Bs), 2))) (.ck (inR 1 (slc s0 (IntKind.i64.wrap (s5 + 1)) (IntKind.i64.wrap ((s0.length : Int) - 1))).length) (.c1 (P54 N (byteAt (slc s0 (IntKind.i64.wrap (s5 + 1)) (IntKind.i64.wrap ((s0.length : Int) - 1))) 1)) (fun x7 => .ck (inR 2 (slc s0 (IntKind.i64.wrap (s5 + 1)) (IntKind.i64.wrap ((s0.length : Int) - 1))).length) (.c1 (P54 N (byteAt (slc s0 (IntKind.i64.wrap (s5 + 1)) (IntKind.i64.wrap ((s0.length : Int) - 1))) 2)) (fun x8 => .ck (room (s4.length + ([(IntKind.u8.wrap (IntKind.i64.wrap ((IntKind.i64.wrap (16 * x7)) + x8)))] : (List Int)).length)) (.leaf (.next (s0, (s4 ++ ([(IntKind.u8.wrap (IntKind.i64.wrap ((IntKind.i64.wrap (16 * x7)) + x8)))] : (List Int))), (IntKind.i64.wrap ((IntKind.i64.wrap (s5 + 3)) + 1)))))))))))))))))))))))))) (.leaf (.brk 0 (s0, s4, s5)))
noncomputable def L32_9 (N : Nat) (s0 : Bs) (s4 : (List Int)) (s5 : Int) : Option (Lp (Bs × (List Int) × Int) (Bs × Int)) := (U32_9 N s0 s4 s5).eval
noncomputable def W32_9 (N : Nat) (x : (Bs × (List Int) × Int)) : Option (Lp (Bs × (List Int) × Int) (Bs × Int)) := runLoop (fun x => L32_9 N x.1 x.2.1 x.2.2) N x
theorem WS32_9 (N : Nat) (x : (shTy l32_9).I) : ∀ o, W32_9 N x = some o → S Try.prog (.loop b32_9) (buildSt 123 l32_9 x) (stepZ (rdD Try.prog Try.f32 false) l32_9 (encO 123 l32_9 [0] (fun q => some (E32 q)) o)) :=
  fun o h => loop_S (l := l32_9) (step := fun x => L32_9 N x.1 x.2.1 x.2.2) (fun x o h => wpc_sound (tbl := []) (μ := []) mixed _ _ _ (by
    have h1 := Vt.sound _ h
    refine Eq.mp ?_ h1
    kernel_rfl)) N x o h
noncomputable def V32 (N : Nat) (a0 : Bs) : Vt (Bs × Int) (Option D) (fun q => some (E32 q)) :=
  .br (decide ((a0.length : Int) < 2)) (.c1 (P51 N a0) (fun x1 => .br (!x1) (.leaf (([] : Bs), 2)) (.br (decide ((40 : Int) < (a0.length : Int))) (.leaf (([] : Bs), 5)) (.leaf (a0, 0))))) (.ck (inR 0 a0.length) (.br ((byteAt a0 0) != 34) (.c1 (P51 N a0) (fun x2 => .br (!x2) (.leaf (([] : Bs), 2)) (.br (decide ((40 : Int) < (a0.length : Int))) (.leaf (([] : Bs), 5)) (.leaf (a0, 0))))) (.ck (inR (IntKind.i64.wrap ((a0.length : Int) - 1)) a0.length) (.br ((byteAt a0 (IntKind.i64.wrap ((a0.length : Int) - 1))) != 34) (.c1 (P51 N a0) (fun x3 => .br (!x3) (.leaf (([] : Bs), 2)) (.br (decide ((40 : Int) < (a0.length : Int))) (.leaf (([] : Bs), 5)) (.leaf (a0, 0))))) (.f1 (l := l32_9) (o := W32_9 N (a0, ([] : (List Int)), 1)) (WS32_9 N (a0, ([] : (List Int)), 1)) (fun x1 => .br (decide ((40 : Int) < (x1.2.1.length : Int))) (.leaf (([] : Bs), 5)) (.leaf ((strOf x1.2.1), 0))))))))
noncomputable def F32 (N : Nat) (a0 : Bs) : Option (Bs × Int) := (V32 N a0).eval
def t32 : List (Nat × List Nat × List (Nat × Sh)) := [(9, [0], l32_9)]
theorem P32 (N : Nat) (a0 : Bs) : ∀ r, F32 N a0 = some r → Spec Try.prog 32 [.val tS a0] (E32 r) := fun r h => Spec_of (fn := Try.f32) rfl rfl rfl rfl false (wpc_sound (tbl := t32) (μ := []) mixed _ _ _ (by
  have h1 := Vt.sound _ h
  refine Eq.mp ?_ h1
  kernel_rfl))

/-! ferryslip/ferryslipref02.All -/
def E17 : ((List (Int × Ln)) × Int × Int) → D := fun x => .tup [encV (.list (.pair tI tLn)) x.1, encV tI x.2.1, encV tI x.2.2]
abbrev l17_3 : List (Nat × Sh) := [(0, .val tS), (5, .row false 85 40 (.pair tI tLn)), (6, .val tI)]
noncomputable def b17_3 : Code := loopBody 3 (bodyOf Try.f17)
noncomputable def U17_3 (N : Nat) (s0 : Bs) (s5 : (List (Int × Ln))) (s6 : Int) : Vt (Lp (shTy l17_3).I ((List (Int × Ln)) × Int × Int)) (O3 (Option D)) (encO 87 l17_3 [] (fun q => some (E17 q))) :=
  .c1 (P29 N s0 s6) (fun x1 => .br (decide (x1 < 0)) (.c1 (P30 N s0 s6) (fun x2 => .leaf (.ret (([] : (List (Int × Ln))), x2, 2)))) (.br (x1 == (s0.length : Int)) (.leaf (.ret (s5, 0, 0))) (.ck (inR x1 s0.length) (.br ((byteAt s0 x1) == 123) (.ck (room (s5.length + ([(2, x1, ([] : Bs), 0)] : (List (Int × Ln))).length)) (.leaf (.next (s0, (s5 ++ ([(2, x1, ([] : Bs), 0)] : (List (Int × Ln)))), (IntKind.i64.wrap (x1 + 1)))))) (.br ((byteAt s0 x1) == 125) (.ck (room (s5.length + ([(3, x1, ([] : Bs), 0)] : (List (Int × Ln))).length)) (.leaf (.next (s0, (s5 ++ ([(3, x1, ([] : Bs), 0)] : (List (Int × Ln)))), (IntKind.i64.wrap (x1 + 1)))))) (.br ((byteAt s0 x1) == 59) (.ck (room (s5.length + ([(4, x1, ([] : Bs), 0)] : (List (Int × Ln))).length)) (.leaf (.next (s0, (s5 ++ ([(4, x1, ([] : Bs), 0)] : (List (Int × Ln)))), (IntKind.i64.wrap (x1 + 1)))))) (.c2 (P31 N s0 x1) (fun x3 x4 => .br (!x4) (.leaf (.ret (([] : (List (Int × Ln))), x1, 2))) (.ck ((0 : Int) ≤ x1 ∧ x1 ≤ x3 ∧ x3 ≤ (s0.length : Int)) (.c2 (P32 N (slc s0 x1 x3)) (fun x5 x6 => .ck ((0 : Int) ≤ x1 ∧ x1 ≤ x3 ∧ x3 ≤ (s0.length : Int)) (.br ((slc s0 x1 x3) == ([105, 110, 97, 99, 116, 105, 118, 101, 58] : Bs)) (.ck ((0 : Int) ≤ x1 ∧ x1 ≤ x3 ∧ x3 ≤ (s0.length : Int)) (.br ((slc s0 x1 x3) == ([112, 114, 111, 116, 101, 99, 116, 58] : Bs)) (.br ((0 : Int) != 0) (.leaf (.ret (([] : (List (Int × Ln))), x1, 0))) (.ck (room (s5.length + ([(5, x1, x5, 2)] : (List (Int × Ln))).length)) (.leaf (.next (s0, (s5 ++ ([(5, x1, x5, 2)] : (List (Int × Ln)))), x3))))) (.br ((0 : Int) != 0) (.leaf (.ret (([] : (List (Int × Ln))), x1, 0))) (.ck (room (s5.length + ([(5, x1, x5, 1)] : (List (Int × Ln))).length)) (.leaf (.next (s0, (s5 ++ ([(5, x1, x5, 1)] : (List (Int × Ln)))), x3))))))) (.ck ((0 : Int) ≤ x1 ∧ x1 ≤ x3 ∧ x3 ≤ (s0.length : Int)) (.br ((slc s0 x1 x3) == ([112, 114, 111, 116, 101, 99, 116, 58] : Bs)) (.br ((0 : Int) != 0) (.leaf (.ret (([] : (List (Int × Ln))), x1, 0))) (.ck (room (s5.length + ([(5, x1, x5, 2)] : (List (Int × Ln))).length)) (.leaf (.next (s0, (s5 ++ ([(5, x1, x5, 2)] : (List (Int × Ln)))), x3))))) (.br (x6 != 0) (.leaf (.ret (([] : (List (Int × Ln))), x1, x6))) (.ck (room (s5.length + ([(1, x1, x5, 0)] : (List (Int × Ln))).length)) (.leaf (.next (s0, (s5 ++ ([(1, x1, x5, 0)] : (List (Int × Ln)))), x3)))))))))))))))))))
noncomputable def L17_3 (N : Nat) (s0 : Bs) (s5 : (List (Int × Ln))) (s6 : Int) : Option (Lp (Bs × (List (Int × Ln)) × Int) ((List (Int × Ln)) × Int × Int)) := (U17_3 N s0 s5 s6).eval
noncomputable def W17_3 (N : Nat) (x : (Bs × (List (Int × Ln)) × Int)) : Option (Lp (Bs × (List (Int × Ln)) × Int) ((List (Int × Ln)) × Int × Int)) := runLoop (fun x => L17_3 N x.1 x.2.1 x.2.2) N x
theorem WS17_3 (N : Nat) (x : (shTy l17_3).I) : ∀ o, W17_3 N x = some o → S Try.prog (.loop b17_3) (buildSt 87 l17_3 x) (stepZ (rdD Try.prog Try.f17 false) l17_3 (encO 87 l17_3 [] (fun q => some (E17 q)) o)) :=
  fun o h => loop_S (l := l17_3) (step := fun x => L17_3 N x.1 x.2.1 x.2.2) (fun x o h => wpc_sound (tbl := []) (μ := []) mixed _ _ _ (by
    have h1 := Vt.sound _ h
    refine Eq.mp ?_ h1
    kernel_rfl)) N x o h
noncomputable def V17 (N : Nat) (a0 : Bs) : Vt ((List (Int × Ln)) × Int × Int) (Option D) (fun q => some (E17 q)) :=
  .f0 (l := l17_3) (o := W17_3 N (a0, ([] : (List (Int × Ln))), 0)) (WS17_3 N (a0, ([] : (List (Int × Ln))), 0))
noncomputable def F17 (N : Nat) (a0 : Bs) : Option ((List (Int × Ln)) × Int × Int) := (V17 N a0).eval
def t17 : List (Nat × List Nat × List (Nat × Sh)) := [(3, [], l17_3)]
theorem P17 (N : Nat) (a0 : Bs) : ∀ r, F17 N a0 = some r → Spec Try.prog 17 [.val tS a0] (E17 r) := fun r h => Spec_of (fn := Try.f17) rfl rfl rfl rfl false (wpc_sound (tbl := t17) (μ := []) mixed _ _ _ (by
  have h1 := Vt.sound _ h
  refine Eq.mp ?_ h1
  kernel_rfl))

/-! ferryslip/ferryslipref05.With -/
def E23o : (List Bs) → D := fun x => .own 9 tS x
noncomputable def V23o (N : Nat) (a0 : (List Bs)) (a1 : Bs) : Vt (List Bs) (Option D) (fun q => some (E23o q)) :=
  .ck (room a0.length) (.ck (room (a0.length + ([a1] : (List Bs)).length)) (.leaf (a0 ++ ([a1] : (List Bs)))))
noncomputable def F23o (N : Nat) (a0 : (List Bs)) (a1 : Bs) : Option (List Bs) := (V23o N a0 a1).eval
def t23o : List (Nat × List Nat × List (Nat × Sh)) := []
theorem P23o (N : Nat) (a0 : (List Bs)) (a1 : Bs) : ∀ r, F23o N a0 a1 = some r → Spec Try.prog 23 [.val (.list tS) a0, .val tS a1] (E23o r) := fun r h => Spec_of (fn := Try.f23) rfl rfl rfl rfl true (wpc_sound (tbl := t23o) (μ := []) mixed _ _ _ (by
  have h1 := Vt.sound _ h
  refine Eq.mp ?_ h1
  kernel_rfl))

/-! ferryslip/ferryslipref03.Equal -/
def E48 : Bool → D := fun x => encV tB x
abbrev l48_4 : List (Nat × Sh) := [(0, .val (.list tS)), (1, .val (.list tS)), (5, .val tI)]
noncomputable def b48_4 : Code := loopBody 4 (bodyOf Try.f48)
noncomputable def U48_4 (N : Nat) (s0 : (List Bs)) (s1 : (List Bs)) (s5 : Int) : Vt (Lp (shTy l48_4).I Bool) (O3 (Option D)) (encO 26 l48_4 [0] (fun q => some (E48 q))) :=
  .br (decide (s5 < (s0.length : Int))) (.ck (inR s5 s0.length) (.ck (inR s5 s1.length) (.br (!((atI tS s0 s5) == (atI tS s1 s5))) (.leaf (.ret false)) (.leaf (.next (s0, s1, (IntKind.i64.wrap (s5 + 1)))))))) (.leaf (.brk 0 (s0, s1, s5)))
noncomputable def L48_4 (N : Nat) (s0 : (List Bs)) (s1 : (List Bs)) (s5 : Int) : Option (Lp ((List Bs) × (List Bs) × Int) Bool) := (U48_4 N s0 s1 s5).eval
noncomputable def W48_4 (N : Nat) (x : ((List Bs) × (List Bs) × Int)) : Option (Lp ((List Bs) × (List Bs) × Int) Bool) := runLoop (fun x => L48_4 N x.1 x.2.1 x.2.2) N x
theorem WS48_4 (N : Nat) (x : (shTy l48_4).I) : ∀ o, W48_4 N x = some o → S Try.prog (.loop b48_4) (buildSt 26 l48_4 x) (stepZ (rdD Try.prog Try.f48 false) l48_4 (encO 26 l48_4 [0] (fun q => some (E48 q)) o)) :=
  fun o h => loop_S (l := l48_4) (step := fun x => L48_4 N x.1 x.2.1 x.2.2) (fun x o h => wpc_sound (tbl := []) (μ := []) mixed _ _ _ (by
    have h1 := Vt.sound _ h
    refine Eq.mp ?_ h1
    kernel_rfl)) N x o h
noncomputable def V48 (N : Nat) (a0 : (List Bs)) (a1 : (List Bs)) : Vt Bool (Option D) (fun q => some (E48 q)) :=
  .br ((a0.length : Int) != (a1.length : Int)) (.leaf false) (.f1 (l := l48_4) (o := W48_4 N (a0, a1, 0)) (WS48_4 N (a0, a1, 0)) (fun x1 => .leaf true))
noncomputable def F48 (N : Nat) (a0 : (List Bs)) (a1 : (List Bs)) : Option Bool := (V48 N a0 a1).eval
def t48 : List (Nat × List Nat × List (Nat × Sh)) := [(4, [0], l48_4)]
theorem P48 (N : Nat) (a0 : (List Bs)) (a1 : (List Bs)) : ∀ r, F48 N a0 a1 = some r → Spec Try.prog 48 [.val (.list tS) a0, .val (.list tS) a1] (E48 r) := fun r h => Spec_of (fn := Try.f48) rfl rfl rfl rfl false (wpc_sound (tbl := t48) (μ := []) mixed _ _ _ (by
  have h1 := Vt.sound _ h
  refine Eq.mp ?_ h1
  kernel_rfl))

/-! ferryslip/ferryslipref03.Under -/
def E71 : Int → D := fun x => encV tI x
abbrev l71_3 : List (Nat × Sh) := [(0, .val (.list tLn)), (1, .val tI), (5, .val tI), (6, .val tI)]
noncomputable def b71_3 : Code := loopBody 3 (bodyOf Try.f71)
noncomputable def U71_3 (N : Nat) (s0 : (List Ln)) (s1 : Int) (s5 : Int) (s6 : Int) : Vt (Lp (shTy l71_3).I Int) (O3 (Option D)) (encO 25 l71_3 [0] (fun q => some (E71 q))) :=
  .br (decide (s6 < s1)) (.ck (inR s6 s0.length) (.ck (inR s1 s0.length) (.br (decide (((atI tLn s0 s6).1) < ((atI tLn s0 s1).1))) (.leaf (.next (s0, s1, s6, (IntKind.i64.wrap (s6 + 1))))) (.leaf (.next (s0, s1, s5, (IntKind.i64.wrap (s6 + 1)))))))) (.leaf (.brk 0 (s0, s1, s5, s6)))
noncomputable def L71_3 (N : Nat) (s0 : (List Ln)) (s1 : Int) (s5 : Int) (s6 : Int) : Option (Lp ((List Ln) × Int × Int × Int) Int) := (U71_3 N s0 s1 s5 s6).eval
noncomputable def W71_3 (N : Nat) (x : ((List Ln) × Int × Int × Int)) : Option (Lp ((List Ln) × Int × Int × Int) Int) := runLoop (fun x => L71_3 N x.1 x.2.1 x.2.2.1 x.2.2.2) N x
theorem WS71_3 (N : Nat) (x : (shTy l71_3).I) : ∀ o, W71_3 N x = some o → S Try.prog (.loop b71_3) (buildSt 25 l71_3 x) (stepZ (rdD Try.prog Try.f71 false) l71_3 (encO 25 l71_3 [0] (fun q => some (E71 q)) o)) :=
  fun o h => loop_S (l := l71_3) (step := fun x => L71_3 N x.1 x.2.1 x.2.2.1 x.2.2.2) (fun x o h => wpc_sound (tbl := []) (μ := []) mixed _ _ _ (by
    have h1 := Vt.sound _ h
    refine Eq.mp ?_ h1
    kernel_rfl)) N x o h
noncomputable def V71 (N : Nat) (a0 : (List Ln)) (a1 : Int) : Vt Int (Option D) (fun q => some (E71 q)) :=
  .f1 (l := l71_3) (o := W71_3 N (a0, a1, (-1), 0)) (WS71_3 N (a0, a1, (-1), 0)) (fun x1 => .leaf x1.2.2.1)
noncomputable def F71 (N : Nat) (a0 : (List Ln)) (a1 : Int) : Option Int := (V71 N a0 a1).eval
def t71 : List (Nat × List Nat × List (Nat × Sh)) := [(3, [0], l71_3)]
theorem P71 (N : Nat) (a0 : (List Ln)) (a1 : Int) : ∀ r, F71 N a0 a1 = some r → Spec Try.prog 71 [.val (.list tLn) a0, .val tI a1] (E71 r) := fun r h => Spec_of (fn := Try.f71) rfl rfl rfl rfl false (wpc_sound (tbl := t71) (μ := []) mixed _ _ _ (by
  have h1 := Vt.sound _ h
  refine Eq.mp ?_ h1
  kernel_rfl))

/-! ferryslip/ferryslipref03.Path -/
def E49 : (List Bs) → D := fun x => encV (.list tS) x
abbrev l49_2 : List (Nat × Sh) := [(0, .val (.list tLn)), (1, .val tI), (5, .val (.list tS))]
noncomputable def b49_2 : Code := loopBody 2 (bodyOf Try.f49)
noncomputable def U49_2 (N : Nat) (s0 : (List Ln)) (s1 : Int) (s5 : (List Bs)) : Vt (Lp (shTy l49_2).I (List Bs)) (O3 (Option D)) (encO 24 l49_2 [0] (fun q => some (E49 q))) :=
  .br (decide ((0 : Int) ≤ s1)) (.ck (inR s1 s0.length) (.ck (room ([(atI tLn s0 s1).2.1] : (List Bs)).length) (.ck (room (([(atI tLn s0 s1).2.1] : (List Bs)).length + s5.length)) (.c1 (P71 N s0 s1) (fun x1 => .leaf (.next (s0, x1, (([(atI tLn s0 s1).2.1] : (List Bs)) ++ s5)))))))) (.leaf (.brk 0 (s0, s1, s5)))
noncomputable def L49_2 (N : Nat) (s0 : (List Ln)) (s1 : Int) (s5 : (List Bs)) : Option (Lp ((List Ln) × Int × (List Bs)) (List Bs)) := (U49_2 N s0 s1 s5).eval
noncomputable def W49_2 (N : Nat) (x : ((List Ln) × Int × (List Bs))) : Option (Lp ((List Ln) × Int × (List Bs)) (List Bs)) := runLoop (fun x => L49_2 N x.1 x.2.1 x.2.2) N x
theorem WS49_2 (N : Nat) (x : (shTy l49_2).I) : ∀ o, W49_2 N x = some o → S Try.prog (.loop b49_2) (buildSt 24 l49_2 x) (stepZ (rdD Try.prog Try.f49 false) l49_2 (encO 24 l49_2 [0] (fun q => some (E49 q)) o)) :=
  fun o h => loop_S (l := l49_2) (step := fun x => L49_2 N x.1 x.2.1 x.2.2) (fun x o h => wpc_sound (tbl := []) (μ := []) mixed _ _ _ (by
    have h1 := Vt.sound _ h
    refine Eq.mp ?_ h1
    kernel_rfl)) N x o h
noncomputable def V49 (N : Nat) (a0 : (List Ln)) (a1 : Int) : Vt (List Bs) (Option D) (fun q => some (E49 q)) :=
  .f1 (l := l49_2) (o := W49_2 N (a0, a1, ([] : (List Bs)))) (WS49_2 N (a0, a1, ([] : (List Bs)))) (fun x2 => .leaf x2.2.2)
noncomputable def F49 (N : Nat) (a0 : (List Ln)) (a1 : Int) : Option (List Bs) := (V49 N a0 a1).eval
def t49 : List (Nat × List Nat × List (Nat × Sh)) := [(2, [0], l49_2)]
theorem P49 (N : Nat) (a0 : (List Ln)) (a1 : Int) : ∀ r, F49 N a0 a1 = some r → Spec Try.prog 49 [.val (.list tLn) a0, .val tI a1] (E49 r) := fun r h => Spec_of (fn := Try.f49) rfl rfl rfl rfl false (wpc_sound (tbl := t49) (μ := []) mixed _ _ _ (by
  have h1 := Vt.sound _ h
  refine Eq.mp ?_ h1
  kernel_rfl))

/-! ferryslip/ferryslipref03.Find -/
def E24 : Int → D := fun x => encV tI x
abbrev l24_2 : List (Nat × Sh) := [(0, .val (.list tLn)), (1, .val (.list tS)), (5, .val tI)]
noncomputable def b24_2 : Code := loopBody 2 (bodyOf Try.f24)
noncomputable def U24_2 (N : Nat) (s0 : (List Ln)) (s1 : (List Bs)) (s5 : Int) : Vt (Lp (shTy l24_2).I Int) (O3 (Option D)) (encO 29 l24_2 [0] (fun q => some (E24 q))) :=
  .br (decide (s5 < (s0.length : Int))) (.ck (inR s5 s0.length) (.br (((atI tLn s0 s5).1) == (IntKind.i64.wrap ((s1.length : Int) - 1))) (.c1 (P49 N s0 s5) (fun x1 => .c1 (P48 N x1 s1) (fun x2 => .br x2 (.leaf (.ret s5)) (.leaf (.next (s0, s1, (IntKind.i64.wrap (s5 + 1)))))))) (.leaf (.next (s0, s1, (IntKind.i64.wrap (s5 + 1))))))) (.leaf (.brk 0 (s0, s1, s5)))
noncomputable def L24_2 (N : Nat) (s0 : (List Ln)) (s1 : (List Bs)) (s5 : Int) : Option (Lp ((List Ln) × (List Bs) × Int) Int) := (U24_2 N s0 s1 s5).eval
noncomputable def W24_2 (N : Nat) (x : ((List Ln) × (List Bs) × Int)) : Option (Lp ((List Ln) × (List Bs) × Int) Int) := runLoop (fun x => L24_2 N x.1 x.2.1 x.2.2) N x
theorem WS24_2 (N : Nat) (x : (shTy l24_2).I) : ∀ o, W24_2 N x = some o → S Try.prog (.loop b24_2) (buildSt 29 l24_2 x) (stepZ (rdD Try.prog Try.f24 false) l24_2 (encO 29 l24_2 [0] (fun q => some (E24 q)) o)) :=
  fun o h => loop_S (l := l24_2) (step := fun x => L24_2 N x.1 x.2.1 x.2.2) (fun x o h => wpc_sound (tbl := []) (μ := []) mixed _ _ _ (by
    have h1 := Vt.sound _ h
    refine Eq.mp ?_ h1
    kernel_rfl)) N x o h
noncomputable def V24 (N : Nat) (a0 : (List Ln)) (a1 : (List Bs)) : Vt Int (Option D) (fun q => some (E24 q)) :=
  .f1 (l := l24_2) (o := W24_2 N (a0, a1, 0)) (WS24_2 N (a0, a1, 0)) (fun x1 => .leaf (-1))
noncomputable def F24 (N : Nat) (a0 : (List Ln)) (a1 : (List Bs)) : Option Int := (V24 N a0 a1).eval
def t24 : List (Nat × List Nat × List (Nat × Sh)) := [(2, [0], l24_2)]
theorem P24 (N : Nat) (a0 : (List Ln)) (a1 : (List Bs)) : ∀ r, F24 N a0 a1 = some r → Spec Try.prog 24 [.val (.list tLn) a0, .val (.list tS) a1] (E24 r) := fun r h => Spec_of (fn := Try.f24) rfl rfl rfl rfl false (wpc_sound (tbl := t24) (μ := []) mixed _ _ _ (by
  have h1 := Vt.sound _ h
  refine Eq.mp ?_ h1
  kernel_rfl))

/-! ferryslip/ferryslipref03.End -/
def E28 : Int → D := fun x => encV tI x
abbrev l28_2 : List (Nat × Sh) := [(0, .val (.list tLn)), (1, .val tI), (5, .val tI)]
noncomputable def b28_2 : Code := loopBody 2 (bodyOf Try.f28)
noncomputable def U28_2 (N : Nat) (s0 : (List Ln)) (s1 : Int) (s5 : Int) : Vt (Lp (shTy l28_2).I Int) (O3 (Option D)) (encO 28 l28_2 [0] (fun q => some (E28 q))) :=
  .br (decide (s5 < (s0.length : Int))) (.ck (inR s5 s0.length) (.ck (inR s1 s0.length) (.br (decide (((atI tLn s0 s5).1) ≤ ((atI tLn s0 s1).1))) (.leaf (.ret s5)) (.leaf (.next (s0, s1, (IntKind.i64.wrap (s5 + 1)))))))) (.leaf (.brk 0 (s0, s1, s5)))
noncomputable def L28_2 (N : Nat) (s0 : (List Ln)) (s1 : Int) (s5 : Int) : Option (Lp ((List Ln) × Int × Int) Int) := (U28_2 N s0 s1 s5).eval
noncomputable def W28_2 (N : Nat) (x : ((List Ln) × Int × Int)) : Option (Lp ((List Ln) × Int × Int) Int) := runLoop (fun x => L28_2 N x.1 x.2.1 x.2.2) N x
theorem WS28_2 (N : Nat) (x : (shTy l28_2).I) : ∀ o, W28_2 N x = some o → S Try.prog (.loop b28_2) (buildSt 28 l28_2 x) (stepZ (rdD Try.prog Try.f28 false) l28_2 (encO 28 l28_2 [0] (fun q => some (E28 q)) o)) :=
  fun o h => loop_S (l := l28_2) (step := fun x => L28_2 N x.1 x.2.1 x.2.2) (fun x o h => wpc_sound (tbl := []) (μ := []) mixed _ _ _ (by
    have h1 := Vt.sound _ h
    refine Eq.mp ?_ h1
    kernel_rfl)) N x o h
noncomputable def V28 (N : Nat) (a0 : (List Ln)) (a1 : Int) : Vt Int (Option D) (fun q => some (E28 q)) :=
  .f1 (l := l28_2) (o := W28_2 N (a0, a1, (IntKind.i64.wrap (a1 + 1)))) (WS28_2 N (a0, a1, (IntKind.i64.wrap (a1 + 1)))) (fun x1 => .leaf (x1.1.length : Int))
noncomputable def F28 (N : Nat) (a0 : (List Ln)) (a1 : Int) : Option Int := (V28 N a0 a1).eval
def t28 : List (Nat × List Nat × List (Nat × Sh)) := [(2, [0], l28_2)]
theorem P28 (N : Nat) (a0 : (List Ln)) (a1 : Int) : ∀ r, F28 N a0 a1 = some r → Spec Try.prog 28 [.val (.list tLn) a0, .val tI a1] (E28 r) := fun r h => Spec_of (fn := Try.f28) rfl rfl rfl rfl false (wpc_sound (tbl := t28) (μ := []) mixed _ _ _ (by
  have h1 := Vt.sound _ h
  refine Eq.mp ?_ h1
  kernel_rfl))

/-! ferryslip/ferryslipref03.Kids -/
def E50o : (List Int) → D := fun x => .own 3 tI x
abbrev l50o_3 : List (Nat × Sh) := [(0, .val (.list tLn)), (1, .val tI), (5, .row false 21 3 tI), (6, .val tI)]
noncomputable def b50o_3 : Code := loopBody 3 (bodyOf Try.f50)
noncomputable def U50o_3 (N : Nat) (s0 : (List Ln)) (s1 : Int) (s5 : (List Int)) (s6 : Int) : Vt (Lp (shTy l50o_3).I (List Int)) (O3 (Option D)) (encO 23 l50o_3 [0] (fun q => some (E50o q))) :=
  .br (decide (s6 < (s0.length : Int))) (.c1 (P71 N s0 s6) (fun x1 => .br (x1 == s1) (.ck (room (s5.length + ([s6] : (List Int)).length)) (.leaf (.next (s0, s1, (s5 ++ ([s6] : (List Int))), (IntKind.i64.wrap (s6 + 1)))))) (.leaf (.next (s0, s1, s5, (IntKind.i64.wrap (s6 + 1))))))) (.leaf (.brk 0 (s0, s1, s5, s6)))
noncomputable def L50o_3 (N : Nat) (s0 : (List Ln)) (s1 : Int) (s5 : (List Int)) (s6 : Int) : Option (Lp ((List Ln) × Int × (List Int) × Int) (List Int)) := (U50o_3 N s0 s1 s5 s6).eval
noncomputable def W50o_3 (N : Nat) (x : ((List Ln) × Int × (List Int) × Int)) : Option (Lp ((List Ln) × Int × (List Int) × Int) (List Int)) := runLoop (fun x => L50o_3 N x.1 x.2.1 x.2.2.1 x.2.2.2) N x
theorem WS50o_3 (N : Nat) (x : (shTy l50o_3).I) : ∀ o, W50o_3 N x = some o → S Try.prog (.loop b50o_3) (buildSt 23 l50o_3 x) (stepZ (rdD Try.prog Try.f50 true) l50o_3 (encO 23 l50o_3 [0] (fun q => some (E50o q)) o)) :=
  fun o h => loop_S (l := l50o_3) (step := fun x => L50o_3 N x.1 x.2.1 x.2.2.1 x.2.2.2) (fun x o h => wpc_sound (tbl := []) (μ := []) mixed _ _ _ (by
    have h1 := Vt.sound _ h
    refine Eq.mp ?_ h1
    kernel_rfl)) N x o h
noncomputable def V50o (N : Nat) (a0 : (List Ln)) (a1 : Int) : Vt (List Int) (Option D) (fun q => some (E50o q)) :=
  .f1 (l := l50o_3) (o := W50o_3 N (a0, a1, ([] : (List Int)), 0)) (WS50o_3 N (a0, a1, ([] : (List Int)), 0)) (fun x2 => .leaf x2.2.2.1)
noncomputable def F50o (N : Nat) (a0 : (List Ln)) (a1 : Int) : Option (List Int) := (V50o N a0 a1).eval
def t50o : List (Nat × List Nat × List (Nat × Sh)) := [(3, [0], l50o_3)]
theorem P50o (N : Nat) (a0 : (List Ln)) (a1 : Int) : ∀ r, F50o N a0 a1 = some r → Spec Try.prog 50 [.val (.list tLn) a0, .val tI a1] (E50o r) := fun r h => Spec_of (fn := Try.f50) rfl rfl rfl rfl true (wpc_sound (tbl := t50o) (μ := []) mixed _ _ _ (by
  have h1 := Vt.sound _ h
  refine Eq.mp ?_ h1
  kernel_rfl))

/-! ferryslip/ferryslipref05.Put -/
def E25o : (List Ln) → D := fun x => .own 34 tLn x
abbrev l25o_8 : List (Nat × Sh) := [(0, .val (.list tLn)), (1, .val (.list tS)), (2, .val tS), (3, .val tI), (10, .val tI), (11, .row false 27 3 tI), (12, .val tI)]
noncomputable def b25o_8 : Code := loopBody 8 (bodyOf Try.f25)
noncomputable def U25o_8 (N : Nat) (s0 : (List Ln)) (s1 : (List Bs)) (s2 : Bs) (s3 : Int) (s10 : Int) (s11 : (List Int)) (s12 : Int) : Vt (Lp (shTy l25o_8).I (List Ln)) (O3 (Option D)) (encO 67 l25o_8 [0] (fun q => some (E25o q))) :=
  .br (decide ((0 : Int) ≤ s12)) (.ck (inR s12 s11.length) (.ck (inR s12 s11.length) (.ck (inR (atI tI s11 s12) s0.length) (.br (!((Op.bytesLess ((atI tLn s0 (atI tI s11 s12)).2.1) s2) || (((atI tLn s0 (atI tI s11 s12)).2.1) == s2))) (.ck (inR s12 s11.length) (.ck (inR s12 s11.length) (.leaf (.next (s0, s1, s2, s3, (atI tI s11 s12), s11, (IntKind.i64.wrap (s12 - 1))))))) (.leaf (.next (s0, s1, s2, s3, s10, s11, (IntKind.i64.wrap (s12 - 1))))))))) (.leaf (.brk 0 (s0, s1, s2, s3, s10, s11, s12)))
noncomputable def L25o_8 (N : Nat) (s0 : (List Ln)) (s1 : (List Bs)) (s2 : Bs) (s3 : Int) (s10 : Int) (s11 : (List Int)) (s12 : Int) : Option (Lp ((List Ln) × (List Bs) × Bs × Int × Int × (List Int) × Int) (List Ln)) := (U25o_8 N s0 s1 s2 s3 s10 s11 s12).eval
noncomputable def W25o_8 (N : Nat) (x : ((List Ln) × (List Bs) × Bs × Int × Int × (List Int) × Int)) : Option (Lp ((List Ln) × (List Bs) × Bs × Int × Int × (List Int) × Int) (List Ln)) := runLoop (fun x => L25o_8 N x.1 x.2.1 x.2.2.1 x.2.2.2.1 x.2.2.2.2.1 x.2.2.2.2.2.1 x.2.2.2.2.2.2) N x
theorem WS25o_8 (N : Nat) (x : (shTy l25o_8).I) : ∀ o, W25o_8 N x = some o → S Try.prog (.loop b25o_8) (buildSt 67 l25o_8 x) (stepZ (rdD Try.prog Try.f25 true) l25o_8 (encO 67 l25o_8 [0] (fun q => some (E25o q)) o)) :=
  fun o h => loop_S (l := l25o_8) (step := fun x => L25o_8 N x.1 x.2.1 x.2.2.1 x.2.2.2.1 x.2.2.2.2.1 x.2.2.2.2.2.1 x.2.2.2.2.2.2) (fun x o h => wpc_sound (tbl := []) (μ := [27]) mixed _ _ _ (by
    have h1 := Vt.sound _ h
    refine Eq.mp ?_ h1
    kernel_rfl)) N x o h
noncomputable def V25o (N : Nat) (a0 : (List Ln)) (a1 : (List Bs)) (a2 : Bs) (a3 : Int) : Vt (List Ln) (Option D) (fun q => some (E25o q)) :=
  .br (decide ((0 : Int) < (a1.length : Int))) (.c1 (P24 N a0 a1) (fun x1 => .c1 (P28 N a0 x1) (fun x2 => .c1 (P50o N a0 x1) (fun x3 => .f1 (l := l25o_8) (o := W25o_8 N (a0, a1, a2, a3, x2, x3, (IntKind.i64.wrap ((x3.length : Int) - 1)))) (WS25o_8 N (a0, a1, a2, a3, x2, x3, (IntKind.i64.wrap ((x3.length : Int) - 1)))) (fun x4 => .ck ((0 : Int) ≤ 0 ∧ (0 : Int) ≤ x4.2.2.2.2.1 ∧ x4.2.2.2.2.1 ≤ (x4.1.length : Int)) (.ck (room (slc x4.1 0 x4.2.2.2.2.1).length) (.ck (room ((slc x4.1 0 x4.2.2.2.2.1).length + ([((x4.2.1.length : Int), x4.2.2.1, x4.2.2.2.1)] : (List Ln)).length)) (.ck ((0 : Int) ≤ x4.2.2.2.2.1 ∧ x4.2.2.2.2.1 ≤ (x4.1.length : Int) ∧ (x4.1.length : Int) ≤ (x4.1.length : Int)) (.ck (room (((slc x4.1 0 x4.2.2.2.2.1) ++ ([((x4.2.1.length : Int), x4.2.2.1, x4.2.2.2.1)] : (List Ln))).length + (slc x4.1 x4.2.2.2.2.1 (x4.1.length : Int)).length)) (.leaf (((slc x4.1 0 x4.2.2.2.2.1) ++ ([((x4.2.1.length : Int), x4.2.2.1, x4.2.2.2.1)] : (List Ln))) ++ (slc x4.1 x4.2.2.2.2.1 (x4.1.length : Int))))))))))))) (.c1 (P50o N a0 (-1)) (fun x5 => .f1 (l := l25o_8) (o := W25o_8 N (a0, a1, a2, a3, (a0.length : Int), x5, (IntKind.i64.wrap ((x5.length : Int) - 1)))) (WS25o_8 N (a0, a1, a2, a3, (a0.length : Int), x5, (IntKind.i64.wrap ((x5.length : Int) - 1)))) (fun x6 => .ck ((0 : Int) ≤ 0 ∧ (0 : Int) ≤ x6.2.2.2.2.1 ∧ x6.2.2.2.2.1 ≤ (x6.1.length : Int)) (.ck (room (slc x6.1 0 x6.2.2.2.2.1).length) (.ck (room ((slc x6.1 0 x6.2.2.2.2.1).length + ([((x6.2.1.length : Int), x6.2.2.1, x6.2.2.2.1)] : (List Ln)).length)) (.ck ((0 : Int) ≤ x6.2.2.2.2.1 ∧ x6.2.2.2.2.1 ≤ (x6.1.length : Int) ∧ (x6.1.length : Int) ≤ (x6.1.length : Int)) (.ck (room (((slc x6.1 0 x6.2.2.2.2.1) ++ ([((x6.2.1.length : Int), x6.2.2.1, x6.2.2.2.1)] : (List Ln))).length + (slc x6.1 x6.2.2.2.2.1 (x6.1.length : Int)).length)) (.leaf (((slc x6.1 0 x6.2.2.2.2.1) ++ ([((x6.2.1.length : Int), x6.2.2.1, x6.2.2.2.1)] : (List Ln))) ++ (slc x6.1 x6.2.2.2.2.1 (x6.1.length : Int)))))))))))
noncomputable def F25o (N : Nat) (a0 : (List Ln)) (a1 : (List Bs)) (a2 : Bs) (a3 : Int) : Option (List Ln) := (V25o N a0 a1 a2 a3).eval
def t25o : List (Nat × List Nat × List (Nat × Sh)) := [(8, [0], l25o_8)]
theorem P25o (N : Nat) (a0 : (List Ln)) (a1 : (List Bs)) (a2 : Bs) (a3 : Int) : ∀ r, F25o N a0 a1 a2 a3 = some r → Spec Try.prog 25 [.val (.list tLn) a0, .val (.list tS) a1, .val tS a2, .val tI a3] (E25o r) := fun r h => Spec_of (fn := Try.f25) rfl rfl rfl rfl true (wpc_sound (tbl := t25o) (μ := [27]) mixed _ _ _ (by
  have h1 := Vt.sound _ h
  refine Eq.mp ?_ h1
  kernel_rfl))

/-! ferryslip/ferryslipref05.Tree -/
def E12 : ((List Ln) × Int × Int) → D := fun x => .tup [encV (.list tLn) x.1, encV tI x.2.1, encV tI x.2.2]
abbrev l12_14 : List (Nat × Sh) := [(0, .val tS), (5, .val (.list (.pair tI tLn))), (8, .val (.list tLn)), (9, .val (.list tS)), (10, .val tI), (11, .val tI)]
noncomputable def b12_14 : Code := loopBody 14 (bodyOf Try.f12)
noncomputable def U12_14 (N : Nat) (s0 : Bs) (s5 : (List (Int × Ln))) (s8 : (List Ln)) (s9 : (List Bs)) (s10 : Int) (s11 : Int) : Vt (Lp (shTy l12_14).I ((List Ln) × Int × Int)) (O3 (Option D)) (encO 189 l12_14 [2] (fun q => some (E12 q))) :=
  .br (decide (s10 < (s5.length : Int))) (.ck (inR s10 s5.length) (.br (((atI (.pair tI tLn) s5 s10).1) == 5) (.ck (inR s10 s5.length) (.br (((atI (.pair tI tLn) s5 s10).2.2.2) == 1) (.ck ((2 : Int) ≠ 0) (.br ((s11.tmod 2) == 1) (.ck (inR s10 s5.length) (.leaf (.ret (([] : (List Ln)), (atI (.pair tI tLn) s5 s10).2.1, 2)))) (.ck (inR s10 s5.length) (.br (((atI (.pair tI tLn) s5 s10).2.2.2) == 2) (.br (decide ((1 : Int) < s11)) (.ck (inR s10 s5.length) (.leaf (.ret (([] : (List Ln)), (atI (.pair tI tLn) s5 s10).2.1, 2)))) (.ck (inR s10 s5.length) (.leaf (.next (s0, s5, s8, s9, (IntKind.i64.wrap (s10 + 1)), (IntKind.i64.wrap (s11 + ((atI (.pair tI tLn) s5 s10).2.2.2)))))))) (.ck (inR s10 s5.length) (.leaf (.next (s0, s5, s8, s9, (IntKind.i64.wrap (s10 + 1)), (IntKind.i64.wrap (s11 + ((atI (.pair tI tLn) s5 s10).2.2.2))))))))))) (.ck (inR s10 s5.length) (.br (((atI (.pair tI tLn) s5 s10).2.2.2) == 2) (.br (decide ((1 : Int) < s11)) (.ck (inR s10 s5.length) (.leaf (.ret (([] : (List Ln)), (atI (.pair tI tLn) s5 s10).2.1, 2)))) (.ck (inR s10 s5.length) (.leaf (.next (s0, s5, s8, s9, (IntKind.i64.wrap (s10 + 1)), (IntKind.i64.wrap (s11 + ((atI (.pair tI tLn) s5 s10).2.2.2)))))))) (.ck (inR s10 s5.length) (.leaf (.next (s0, s5, s8, s9, (IntKind.i64.wrap (s10 + 1)), (IntKind.i64.wrap (s11 + ((atI (.pair tI tLn) s5 s10).2.2.2))))))))))) (.leaf (.brk 0 (s0, s5, s8, s9, s10, s11))))) (.leaf (.brk 0 (s0, s5, s8, s9, s10, s11)))
noncomputable def L12_14 (N : Nat) (s0 : Bs) (s5 : (List (Int × Ln))) (s8 : (List Ln)) (s9 : (List Bs)) (s10 : Int) (s11 : Int) : Option (Lp (Bs × (List (Int × Ln)) × (List Ln) × (List Bs) × Int × Int) ((List Ln) × Int × Int)) := (U12_14 N s0 s5 s8 s9 s10 s11).eval
noncomputable def W12_14 (N : Nat) (x : (Bs × (List (Int × Ln)) × (List Ln) × (List Bs) × Int × Int)) : Option (Lp (Bs × (List (Int × Ln)) × (List Ln) × (List Bs) × Int × Int) ((List Ln) × Int × Int)) := runLoop (fun x => L12_14 N x.1 x.2.1 x.2.2.1 x.2.2.2.1 x.2.2.2.2.1 x.2.2.2.2.2) N x
theorem WS12_14 (N : Nat) (x : (shTy l12_14).I) : ∀ o, W12_14 N x = some o → S Try.prog (.loop b12_14) (buildSt 189 l12_14 x) (stepZ (rdD Try.prog Try.f12 false) l12_14 (encO 189 l12_14 [2] (fun q => some (E12 q)) o)) :=
  fun o h => loop_S (l := l12_14) (step := fun x => L12_14 N x.1 x.2.1 x.2.2.1 x.2.2.2.1 x.2.2.2.2.1 x.2.2.2.2.2) (fun x o h => wpc_sound (tbl := []) (μ := []) mixed _ _ _ (by
    have h1 := Vt.sound _ h
    refine Eq.mp ?_ h1
    kernel_rfl)) N x o h
abbrev l12_7 : List (Nat × Sh) := [(0, .val tS), (5, .val (.list (.pair tI tLn))), (8, .val (.list tLn)), (9, .val (.list tS)), (10, .val tI)]
noncomputable def b12_7 : Code := loopBody 7 (bodyOf Try.f12)
noncomputable def U12_7 (N : Nat) (s0 : Bs) (s5 : (List (Int × Ln))) (s8 : (List Ln)) (s9 : (List Bs)) (s10 : Int) : Vt (Lp (shTy l12_7).I ((List Ln) × Int × Int)) (O3 (Option D)) (encO 189 l12_7 [0] (fun q => some (E12 q))) :=
  .br (decide (s10 < (s5.length : Int))) (.ck (inR s10 s5.length) (.br (((atI (.pair tI tLn) s5 s10).1) == 3) (.br ((s9.length : Int) == 0) (.ck (inR s10 s5.length) (.leaf (.ret (([] : (List Ln)), (atI (.pair tI tLn) s5 s10).2.1, 2)))) (.ck ((0 : Int) ≤ 0 ∧ (0 : Int) ≤ (IntKind.i64.wrap ((s9.length : Int) - 1)) ∧ (IntKind.i64.wrap ((s9.length : Int) - 1)) ≤ (s9.length : Int)) (.leaf (.next (s0, s5, s8, (slc s9 0 (IntKind.i64.wrap ((s9.length : Int) - 1))), (IntKind.i64.wrap (s10 + 1))))))) (.g1 (l := l12_14) (o := W12_14 N (s0, s5, s8, s9, s10, 0)) (WS12_14 N (s0, s5, s8, s9, s10, 0)) (fun x1 => .br (x1.2.2.2.2.1 == (x1.2.1.length : Int)) (.leaf (.ret (([] : (List Ln)), (x1.1.length : Int), 2))) (.ck (inR x1.2.2.2.2.1 x1.2.1.length) (.br (((atI (.pair tI tLn) x1.2.1 x1.2.2.2.2.1).1) != 1) (.ck (inR x1.2.2.2.2.1 x1.2.1.length) (.leaf (.ret (([] : (List Ln)), (atI (.pair tI tLn) x1.2.1 x1.2.2.2.2.1).2.1, 2)))) (.br ((x1.2.2.2.1.length : Int) == 16) (.ck (inR x1.2.2.2.2.1 x1.2.1.length) (.leaf (.ret (([] : (List Ln)), (atI (.pair tI tLn) x1.2.1 x1.2.2.2.2.1).2.1, 6)))) (.ck (inR x1.2.2.2.2.1 x1.2.1.length) (.c1 (P23o N x1.2.2.2.1 ((atI (.pair tI tLn) x1.2.1 x1.2.2.2.2.1).2.2.1)) (fun x2 => .c1 (P24 N x1.2.2.1 x2) (fun x3 => .br (decide ((0 : Int) ≤ x3)) (.ck (inR x1.2.2.2.2.1 x1.2.1.length) (.leaf (.ret (([] : (List Ln)), (atI (.pair tI tLn) x1.2.1 x1.2.2.2.2.1).2.1, 4)))) (.br ((x1.2.2.1.length : Int) == 200) (.ck (inR x1.2.2.2.2.1 x1.2.1.length) (.leaf (.ret (([] : (List Ln)), (atI (.pair tI tLn) x1.2.1 x1.2.2.2.2.1).2.1, 5)))) (.ck (inR x1.2.2.2.2.1 x1.2.1.length) (.c1 (P25o N x1.2.2.1 x1.2.2.2.1 ((atI (.pair tI tLn) x1.2.1 x1.2.2.2.2.1).2.2.1) x1.2.2.2.2.2) (fun x4 => .br ((IntKind.i64.wrap (x1.2.2.2.2.1 + 1)) == (x1.2.1.length : Int)) (.leaf (.ret (([] : (List Ln)), (x1.1.length : Int), 2))) (.ck (inR (IntKind.i64.wrap (x1.2.2.2.2.1 + 1)) x1.2.1.length) (.br (((atI (.pair tI tLn) x1.2.1 (IntKind.i64.wrap (x1.2.2.2.2.1 + 1))).1) == 2) (.leaf (.next (x1.1, x1.2.1, x4, x2, (IntKind.i64.wrap ((IntKind.i64.wrap (x1.2.2.2.2.1 + 1)) + 1))))) (.ck (inR (IntKind.i64.wrap (x1.2.2.2.2.1 + 1)) x1.2.1.length) (.br (((atI (.pair tI tLn) x1.2.1 (IntKind.i64.wrap (x1.2.2.2.2.1 + 1))).1) != 4) (.ck (inR (IntKind.i64.wrap (x1.2.2.2.2.1 + 1)) x1.2.1.length) (.leaf (.ret (([] : (List Ln)), (atI (.pair tI tLn) x1.2.1 (IntKind.i64.wrap (x1.2.2.2.2.1 + 1))).2.1, 2)))) (.leaf (.next (x1.1, x1.2.1, x4, x1.2.2.2.1, (IntKind.i64.wrap ((IntKind.i64.wrap (x1.2.2.2.2.1 + 1)) + 1)))))))))))))))))))))))) (.leaf (.brk 0 (s0, s5, s8, s9, s10)))
noncomputable def L12_7 (N : Nat) (s0 : Bs) (s5 : (List (Int × Ln))) (s8 : (List Ln)) (s9 : (List Bs)) (s10 : Int) : Option (Lp (Bs × (List (Int × Ln)) × (List Ln) × (List Bs) × Int) ((List Ln) × Int × Int)) := (U12_7 N s0 s5 s8 s9 s10).eval
noncomputable def W12_7 (N : Nat) (x : (Bs × (List (Int × Ln)) × (List Ln) × (List Bs) × Int)) : Option (Lp (Bs × (List (Int × Ln)) × (List Ln) × (List Bs) × Int) ((List Ln) × Int × Int)) := runLoop (fun x => L12_7 N x.1 x.2.1 x.2.2.1 x.2.2.2.1 x.2.2.2.2) N x
theorem WS12_7 (N : Nat) (x : (shTy l12_7).I) : ∀ o, W12_7 N x = some o → S Try.prog (.loop b12_7) (buildSt 189 l12_7 x) (stepZ (rdD Try.prog Try.f12 false) l12_7 (encO 189 l12_7 [0] (fun q => some (E12 q)) o)) :=
  fun o h => loop_S (l := l12_7) (step := fun x => L12_7 N x.1 x.2.1 x.2.2.1 x.2.2.2.1 x.2.2.2.2) (fun x o h => wpc_sound (tbl := [(14, [2], l12_14)]) (μ := [128, 154]) mixed _ _ _ (by
    have h1 := Vt.sound _ h
    refine Eq.mp ?_ h1
    kernel_rfl)) N x o h
noncomputable def V12 (N : Nat) (a0 : Bs) : Vt ((List Ln) × Int × Int) (Option D) (fun q => some (E12 q)) :=
  .c3 (P17 N a0) (fun x1 x2 x3 => .br (x3 != 0) (.leaf (([] : (List Ln)), x2, x3)) (.f1 (l := l12_7) (o := W12_7 N (a0, x1, ([] : (List Ln)), ([] : (List Bs)), 0)) (WS12_7 N (a0, x1, ([] : (List Ln)), ([] : (List Bs)), 0)) (fun x4 => .br (decide ((0 : Int) < (x4.2.2.2.1.length : Int))) (.leaf (([] : (List Ln)), (x4.1.length : Int), 2)) (.leaf (x4.2.2.1, 0, 0)))))
noncomputable def F12 (N : Nat) (a0 : Bs) : Option ((List Ln) × Int × Int) := (V12 N a0).eval
def t12 : List (Nat × List Nat × List (Nat × Sh)) := [(14, [2], l12_14), (7, [0], l12_7)]
theorem P12 (N : Nat) (a0 : Bs) : ∀ r, F12 N a0 = some r → Spec Try.prog 12 [.val tS a0] (E12 r) := fun r h => Spec_of (fn := Try.f12) rfl rfl rfl rfl false (wpc_sound (tbl := t12) (μ := [128, 154]) mixed _ _ _ (by
  have h1 := Vt.sound _ h
  refine Eq.mp ?_ h1
  kernel_rfl))

/-! ferryslip/ferryslipref03.Same -/
def E13 : Bool → D := fun x => encV tB x
abbrev l13_4 : List (Nat × Sh) := [(0, .val (.list tLn)), (1, .val (.list tLn)), (5, .val tI)]
noncomputable def b13_4 : Code := loopBody 4 (bodyOf Try.f13)
noncomputable def U13_4 (N : Nat) (s0 : (List Ln)) (s1 : (List Ln)) (s5 : Int) : Vt (Lp (shTy l13_4).I Bool) (O3 (Option D)) (encO 26 l13_4 [0] (fun q => some (E13 q))) :=
  .br (decide (s5 < (s0.length : Int))) (.ck (inR s5 s0.length) (.ck (inR s5 s1.length) (.br (!((((atI tLn s0 s5).1) == ((atI tLn s1 s5).1)) && ((((atI tLn s0 s5).2.1) == ((atI tLn s1 s5).2.1)) && ((((atI tLn s0 s5).2.2) == ((atI tLn s1 s5).2.2)) && true)))) (.leaf (.ret false)) (.leaf (.next (s0, s1, (IntKind.i64.wrap (s5 + 1)))))))) (.leaf (.brk 0 (s0, s1, s5)))
noncomputable def L13_4 (N : Nat) (s0 : (List Ln)) (s1 : (List Ln)) (s5 : Int) : Option (Lp ((List Ln) × (List Ln) × Int) Bool) := (U13_4 N s0 s1 s5).eval
noncomputable def W13_4 (N : Nat) (x : ((List Ln) × (List Ln) × Int)) : Option (Lp ((List Ln) × (List Ln) × Int) Bool) := runLoop (fun x => L13_4 N x.1 x.2.1 x.2.2) N x
theorem WS13_4 (N : Nat) (x : (shTy l13_4).I) : ∀ o, W13_4 N x = some o → S Try.prog (.loop b13_4) (buildSt 26 l13_4 x) (stepZ (rdD Try.prog Try.f13 false) l13_4 (encO 26 l13_4 [0] (fun q => some (E13 q)) o)) :=
  fun o h => loop_S (l := l13_4) (step := fun x => L13_4 N x.1 x.2.1 x.2.2) (fun x o h => wpc_sound (tbl := []) (μ := []) mixed _ _ _ (by
    have h1 := Vt.sound _ h
    refine Eq.mp ?_ h1
    kernel_rfl)) N x o h
noncomputable def V13 (N : Nat) (a0 : (List Ln)) (a1 : (List Ln)) : Vt Bool (Option D) (fun q => some (E13 q)) :=
  .br ((a0.length : Int) != (a1.length : Int)) (.leaf false) (.f1 (l := l13_4) (o := W13_4 N (a0, a1, 0)) (WS13_4 N (a0, a1, 0)) (fun x1 => .leaf true))
noncomputable def F13 (N : Nat) (a0 : (List Ln)) (a1 : (List Ln)) : Option Bool := (V13 N a0 a1).eval
def t13 : List (Nat × List Nat × List (Nat × Sh)) := [(4, [0], l13_4)]
theorem P13 (N : Nat) (a0 : (List Ln)) (a1 : (List Ln)) : ∀ r, F13 N a0 a1 = some r → Spec Try.prog 13 [.val (.list tLn) a0, .val (.list tLn) a1] (E13 r) := fun r h => Spec_of (fn := Try.f13) rfl rfl rfl rfl false (wpc_sound (tbl := t13) (μ := []) mixed _ _ _ (by
  have h1 := Vt.sound _ h
  refine Eq.mp ?_ h1
  kernel_rfl))

/-! ferryslip/ferrysliplaw05.ParseExact -/
def E3 : Bool → D := fun x => encV tB x
noncomputable def V3 (N : Nat) (a0 : Bs) : Vt Bool (Option D) (fun q => some (E3 q)) :=
  .br (decide ((600 : Int) < (a0.length : Int))) (.c1 (P10 N) (fun x1 => .leaf x1)) (.c3 (P11 N a0) (fun x2 x3 x4 => .c3 (P12 N a0) (fun x5 x6 x7 => .c1 (P13 N x2 x5) (fun x8 => .br x8 (.br (x3 == x6) (.br (x4 == x7) (.c1 (P10 N) (fun x9 => .leaf x9)) (.leaf false)) (.leaf false)) (.leaf false)))))
noncomputable def F3 (N : Nat) (a0 : Bs) : Option Bool := (V3 N a0).eval
def t3 : List (Nat × List Nat × List (Nat × Sh)) := []
theorem P3 (N : Nat) (a0 : Bs) : ∀ r, F3 N a0 = some r → Spec Try.prog 3 [.val tS a0] (E3 r) := fun r h => Spec_of (fn := Try.f3) rfl rfl rfl rfl false (wpc_sound (tbl := t3) (μ := []) mixed _ _ _ (by
  have h1 := Vt.sound _ h
  refine Eq.mp ?_ h1
  kernel_rfl))

/-! ferryslip/ferryslipref03.Small -/
def E14 : Bool → D := fun x => encV tB x
abbrev l14_4 : List (Nat × Sh) := [(0, .val (.list tLn)), (3, .val tI)]
noncomputable def b14_4 : Code := loopBody 4 (bodyOf Try.f14)
noncomputable def U14_4 (N : Nat) (s0 : (List Ln)) (s3 : Int) : Vt (Lp (shTy l14_4).I Bool) (O3 (Option D)) (encO 20 l14_4 [0] (fun q => some (E14 q))) :=
  .br (decide (s3 < (s0.length : Int))) (.ck (inR s3 s0.length) (.br (decide ((100 : Int) < (((atI tLn s0 s3).2.1).length : Int))) (.leaf (.ret false)) (.leaf (.next (s0, (IntKind.i64.wrap (s3 + 1))))))) (.leaf (.brk 0 (s0, s3)))
noncomputable def L14_4 (N : Nat) (s0 : (List Ln)) (s3 : Int) : Option (Lp ((List Ln) × Int) Bool) := (U14_4 N s0 s3).eval
noncomputable def W14_4 (N : Nat) (x : ((List Ln) × Int)) : Option (Lp ((List Ln) × Int) Bool) := runLoop (fun x => L14_4 N x.1 x.2) N x
theorem WS14_4 (N : Nat) (x : (shTy l14_4).I) : ∀ o, W14_4 N x = some o → S Try.prog (.loop b14_4) (buildSt 20 l14_4 x) (stepZ (rdD Try.prog Try.f14 false) l14_4 (encO 20 l14_4 [0] (fun q => some (E14 q)) o)) :=
  fun o h => loop_S (l := l14_4) (step := fun x => L14_4 N x.1 x.2) (fun x o h => wpc_sound (tbl := []) (μ := []) mixed _ _ _ (by
    have h1 := Vt.sound _ h
    refine Eq.mp ?_ h1
    kernel_rfl)) N x o h
noncomputable def V14 (N : Nat) (a0 : (List Ln)) : Vt Bool (Option D) (fun q => some (E14 q)) :=
  .br (decide ((220 : Int) < (a0.length : Int))) (.leaf false) (.f1 (l := l14_4) (o := W14_4 N (a0, 0)) (WS14_4 N (a0, 0)) (fun x1 => .leaf true))
noncomputable def F14 (N : Nat) (a0 : (List Ln)) : Option Bool := (V14 N a0).eval
def t14 : List (Nat × List Nat × List (Nat × Sh)) := [(4, [0], l14_4)]
theorem P14 (N : Nat) (a0 : (List Ln)) : ∀ r, F14 N a0 = some r → Spec Try.prog 14 [.val (.list tLn) a0] (E14 r) := fun r h => Spec_of (fn := Try.f14) rfl rfl rfl rfl false (wpc_sound (tbl := t14) (μ := []) mixed _ _ _ (by
  have h1 := Vt.sound _ h
  refine Eq.mp ?_ h1
  kernel_rfl))

/-! ferryslip/ferryslipref03.Right -/
def E15 : Bool → D := fun x => encV tB x
abbrev l15_4 : List (Nat × Sh) := [(0, .val (.list tLn)), (3, .val tI)]
noncomputable def b15_4 : Code := loopBody 4 (bodyOf Try.f15)
noncomputable def U15_4 (N : Nat) (s0 : (List Ln)) (s3 : Int) : Vt (Lp (shTy l15_4).I Bool) (O3 (Option D)) (encO 118 l15_4 [0] (fun q => some (E15 q))) :=
  .br (decide (s3 < (s0.length : Int))) (.ck (inR s3 s0.length) (.br (decide (((atI tLn s0 s3).1) < 0)) (.leaf (.ret false)) (.br (decide ((15 : Int) < ((atI tLn s0 s3).1))) (.leaf (.ret false)) (.br (decide ((40 : Int) < (((atI tLn s0 s3).2.1).length : Int))) (.leaf (.ret false)) (.br (decide (((atI tLn s0 s3).2.2) < 0)) (.leaf (.ret false)) (.br (decide ((3 : Int) < ((atI tLn s0 s3).2.2))) (.leaf (.ret false)) (.br (s3 == 0) (.br (((atI tLn s0 s3).1) != 0) (.leaf (.ret false)) (.br (decide ((0 : Int) < s3)) (.ck (inR (IntKind.i64.wrap (s3 - 1)) s0.length) (.br (decide ((IntKind.i64.wrap (((atI tLn s0 (IntKind.i64.wrap (s3 - 1))).1) + 1)) < ((atI tLn s0 s3).1))) (.leaf (.ret false)) (.leaf (.next (s0, (IntKind.i64.wrap (s3 + 1))))))) (.leaf (.next (s0, (IntKind.i64.wrap (s3 + 1))))))) (.br (decide ((0 : Int) < s3)) (.ck (inR (IntKind.i64.wrap (s3 - 1)) s0.length) (.br (decide ((IntKind.i64.wrap (((atI tLn s0 (IntKind.i64.wrap (s3 - 1))).1) + 1)) < ((atI tLn s0 s3).1))) (.leaf (.ret false)) (.leaf (.next (s0, (IntKind.i64.wrap (s3 + 1))))))) (.leaf (.next (s0, (IntKind.i64.wrap (s3 + 1))))))))))))) (.leaf (.brk 0 (s0, s3)))
noncomputable def L15_4 (N : Nat) (s0 : (List Ln)) (s3 : Int) : Option (Lp ((List Ln) × Int) Bool) := (U15_4 N s0 s3).eval
noncomputable def W15_4 (N : Nat) (x : ((List Ln) × Int)) : Option (Lp ((List Ln) × Int) Bool) := runLoop (fun x => L15_4 N x.1 x.2) N x
theorem WS15_4 (N : Nat) (x : (shTy l15_4).I) : ∀ o, W15_4 N x = some o → S Try.prog (.loop b15_4) (buildSt 118 l15_4 x) (stepZ (rdD Try.prog Try.f15 false) l15_4 (encO 118 l15_4 [0] (fun q => some (E15 q)) o)) :=
  fun o h => loop_S (l := l15_4) (step := fun x => L15_4 N x.1 x.2) (fun x o h => wpc_sound (tbl := []) (μ := []) mixed _ _ _ (by
    have h1 := Vt.sound _ h
    refine Eq.mp ?_ h1
    kernel_rfl)) N x o h
abbrev l15_15 : List (Nat × Sh) := [(0, .val (.list tLn)), (5, .val tI), (6, .val tI)]
noncomputable def b15_15 : Code := loopBody 15 (bodyOf Try.f15)
noncomputable def U15_15 (N : Nat) (s0 : (List Ln)) (s5 : Int) (s6 : Int) : Vt (Lp (shTy l15_15).I Bool) (O3 (Option D)) (encO 118 l15_15 [4] (fun q => some (E15 q))) :=
  .br (decide (s6 < (s0.length : Int))) (.ck (inR s6 s0.length) (.ck (inR s5 s0.length) (.br (decide (((atI tLn s0 s5).1) ≤ ((atI tLn s0 s6).1))) (.ck (inR s6 s0.length) (.ck (inR s5 s0.length) (.br (((atI tLn s0 s6).1) == ((atI tLn s0 s5).1)) (.ck (inR s6 s0.length) (.ck (inR s5 s0.length) (.br ((Op.bytesLess ((atI tLn s0 s6).2.1) ((atI tLn s0 s5).2.1)) || (((atI tLn s0 s6).2.1) == ((atI tLn s0 s5).2.1))) (.leaf (.ret false)) (.leaf (.next (s0, s5, (IntKind.i64.wrap (s6 + 1)))))))) (.leaf (.next (s0, s5, (IntKind.i64.wrap (s6 + 1)))))))) (.leaf (.brk 0 (s0, s5, s6)))))) (.leaf (.brk 0 (s0, s5, s6)))
noncomputable def L15_15 (N : Nat) (s0 : (List Ln)) (s5 : Int) (s6 : Int) : Option (Lp ((List Ln) × Int × Int) Bool) := (U15_15 N s0 s5 s6).eval
noncomputable def W15_15 (N : Nat) (x : ((List Ln) × Int × Int)) : Option (Lp ((List Ln) × Int × Int) Bool) := runLoop (fun x => L15_15 N x.1 x.2.1 x.2.2) N x
theorem WS15_15 (N : Nat) (x : (shTy l15_15).I) : ∀ o, W15_15 N x = some o → S Try.prog (.loop b15_15) (buildSt 118 l15_15 x) (stepZ (rdD Try.prog Try.f15 false) l15_15 (encO 118 l15_15 [4] (fun q => some (E15 q)) o)) :=
  fun o h => loop_S (l := l15_15) (step := fun x => L15_15 N x.1 x.2.1 x.2.2) (fun x o h => wpc_sound (tbl := [(4, [0], l15_4)]) (μ := []) mixed _ _ _ (by
    have h1 := Vt.sound _ h
    refine Eq.mp ?_ h1
    kernel_rfl)) N x o h
abbrev l15_12 : List (Nat × Sh) := [(0, .val (.list tLn)), (5, .val tI)]
noncomputable def b15_12 : Code := loopBody 12 (bodyOf Try.f15)
noncomputable def U15_12 (N : Nat) (s0 : (List Ln)) (s5 : Int) : Vt (Lp (shTy l15_12).I Bool) (O3 (Option D)) (encO 118 l15_12 [2] (fun q => some (E15 q))) :=
  .br (decide (s5 < (s0.length : Int))) (.g1 (l := l15_15) (o := W15_15 N (s0, s5, (IntKind.i64.wrap (s5 + 1)))) (WS15_15 N (s0, s5, (IntKind.i64.wrap (s5 + 1)))) (fun x1 => .leaf (.next (x1.1, (IntKind.i64.wrap (x1.2.1 + 1)))))) (.leaf (.brk 0 (s0, s5)))
noncomputable def L15_12 (N : Nat) (s0 : (List Ln)) (s5 : Int) : Option (Lp ((List Ln) × Int) Bool) := (U15_12 N s0 s5).eval
noncomputable def W15_12 (N : Nat) (x : ((List Ln) × Int)) : Option (Lp ((List Ln) × Int) Bool) := runLoop (fun x => L15_12 N x.1 x.2) N x
theorem WS15_12 (N : Nat) (x : (shTy l15_12).I) : ∀ o, W15_12 N x = some o → S Try.prog (.loop b15_12) (buildSt 118 l15_12 x) (stepZ (rdD Try.prog Try.f15 false) l15_12 (encO 118 l15_12 [2] (fun q => some (E15 q)) o)) :=
  fun o h => loop_S (l := l15_12) (step := fun x => L15_12 N x.1 x.2) (fun x o h => wpc_sound (tbl := [(4, [0], l15_4), (15, [4], l15_15)]) (μ := []) mixed _ _ _ (by
    have h1 := Vt.sound _ h
    refine Eq.mp ?_ h1
    kernel_rfl)) N x o h
noncomputable def V15 (N : Nat) (a0 : (List Ln)) : Vt Bool (Option D) (fun q => some (E15 q)) :=
  .br (decide ((200 : Int) < (a0.length : Int))) (.leaf false) (.f1 (l := l15_4) (o := W15_4 N (a0, 0)) (WS15_4 N (a0, 0)) (fun x1 => .f1 (l := l15_12) (o := W15_12 N (x1.1, 0)) (WS15_12 N (x1.1, 0)) (fun x2 => .leaf true)))
noncomputable def F15 (N : Nat) (a0 : (List Ln)) : Option Bool := (V15 N a0).eval
def t15 : List (Nat × List Nat × List (Nat × Sh)) := [(4, [0], l15_4), (15, [4], l15_15), (12, [2], l15_12)]
theorem P15 (N : Nat) (a0 : (List Ln)) : ∀ r, F15 N a0 = some r → Spec Try.prog 15 [.val (.list tLn) a0] (E15 r) := fun r h => Spec_of (fn := Try.f15) rfl rfl rfl rfl false (wpc_sound (tbl := t15) (μ := []) mixed _ _ _ (by
  have h1 := Vt.sound _ h
  refine Eq.mp ?_ h1
  kernel_rfl))

/-! ferryslip/ferryslipref04.blanks -/
def E26 : Bs → D := fun x => encV tS x
abbrev l26_3 : List (Nat × Sh) := [(0, .val tI), (3, .val tS), (4, .val tI)]
noncomputable def b26_3 : Code := loopBody 3 (bodyOf Try.f26)
noncomputable def U26_3 (N : Nat) (s0 : Int) (s3 : Bs) (s4 : Int) : Vt (Lp (shTy l26_3).I Bs) (O3 (Option D)) (encO 13 l26_3 [0] (fun q => some (E26 q))) :=
  .br (decide (s4 < s0)) (.ck (room (s3.length + ([32, 32] : Bs).length)) (.leaf (.next (s0, (s3 ++ ([32, 32] : Bs)), (IntKind.i64.wrap (s4 + 1)))))) (.leaf (.brk 0 (s0, s3, s4)))
noncomputable def L26_3 (N : Nat) (s0 : Int) (s3 : Bs) (s4 : Int) : Option (Lp (Int × Bs × Int) Bs) := (U26_3 N s0 s3 s4).eval
noncomputable def W26_3 (N : Nat) (x : (Int × Bs × Int)) : Option (Lp (Int × Bs × Int) Bs) := runLoop (fun x => L26_3 N x.1 x.2.1 x.2.2) N x
theorem WS26_3 (N : Nat) (x : (shTy l26_3).I) : ∀ o, W26_3 N x = some o → S Try.prog (.loop b26_3) (buildSt 13 l26_3 x) (stepZ (rdD Try.prog Try.f26 false) l26_3 (encO 13 l26_3 [0] (fun q => some (E26 q)) o)) :=
  fun o h => loop_S (l := l26_3) (step := fun x => L26_3 N x.1 x.2.1 x.2.2) (fun x o h => wpc_sound (tbl := []) (μ := []) mixed _ _ _ (by
    have h1 := Vt.sound _ h
    refine Eq.mp ?_ h1
    kernel_rfl)) N x o h
noncomputable def V26 (N : Nat) (a0 : Int) : Vt Bs (Option D) (fun q => some (E26 q)) :=
  .f1 (l := l26_3) (o := W26_3 N (a0, ([] : Bs), 0)) (WS26_3 N (a0, ([] : Bs), 0)) (fun x1 => .leaf x1.2.1)
noncomputable def F26 (N : Nat) (a0 : Int) : Option Bs := (V26 N a0).eval
def t26 : List (Nat × List Nat × List (Nat × Sh)) := [(3, [0], l26_3)]
theorem P26 (N : Nat) (a0 : Int) : ∀ r, F26 N a0 = some r → Spec Try.prog 26 [.val tI a0] (E26 r) := fun r h => Spec_of (fn := Try.f26) rfl rfl rfl rfl false (wpc_sound (tbl := t26) (μ := []) mixed _ _ _ (by
  have h1 := Vt.sound _ h
  refine Eq.mp ?_ h1
  kernel_rfl))

/-! ferryslip/ferryslipref01.digit -/
def E52 : Int → D := fun x => encV (.int .u8) x
noncomputable def V52 (N : Nat) (a0 : Int) : Vt Int (Option D) (fun q => some (E52 q)) :=
  .br (decide (a0 < 10)) (.leaf (IntKind.u8.wrap (IntKind.i64.wrap (48 + a0)))) (.leaf (IntKind.u8.wrap (IntKind.i64.wrap ((IntKind.i64.wrap (97 + a0)) - 10))))
noncomputable def F52 (N : Nat) (a0 : Int) : Option Int := (V52 N a0).eval
def t52 : List (Nat × List Nat × List (Nat × Sh)) := []
theorem P52 (N : Nat) (a0 : Int) : ∀ r, F52 N a0 = some r → Spec Try.prog 52 [.val tI a0] (E52 r) := fun r h => Spec_of (fn := Try.f52) rfl rfl rfl rfl false (wpc_sound (tbl := t52) (μ := []) mixed _ _ _ (by
  have h1 := Vt.sound _ h
  refine Eq.mp ?_ h1
  kernel_rfl))

/-! ferryslip/ferryslipref01.Quote -/
def E27 : Bs → D := fun x => encV tS x
abbrev l27_5 : List (Nat × Sh) := [(0, .val tS), (3, .row false 9 5 (.int .u8)), (4, .val tI)]
noncomputable def b27_5 : Code := loopBody 5 (bodyOf Try.f27)
noncomputable def U27_5 (N : Nat) (s0 : Bs) (s3 : (List Int)) (s4 : Int) : Vt (Lp (shTy l27_5).I Bs) (O3 (Option D)) (encO 54 l27_5 [0] (fun q => some (E27 q))) :=
  .br (decide (s4 < (s0.length : Int))) (.ck (inR s4 s0.length) (.br ((byteAt s0 s4) == 34) (.ck (room (s3.length + ([92, (byteAt s0 s4)] : (List Int)).length)) (.leaf (.next (s0, (s3 ++ ([92, (byteAt s0 s4)] : (List Int))), (IntKind.i64.wrap (s4 + 1)))))) (.br ((byteAt s0 s4) == 92) (.ck (room (s3.length + ([92, (byteAt s0 s4)] : (List Int)).length)) (.leaf (.next (s0, (s3 ++ ([92, (byteAt s0 s4)] : (List Int))), (IntKind.i64.wrap (s4 + 1)))))) (.br (decide ((byteAt s0 s4) < 32)) (.ck ((16 : Int) ≠ 0) (.c1 (P52 N (IntKind.i64.wrap ((IntKind.i64.wrap (byteAt s0 s4)).tdiv 16))) (fun x1 => .ck ((16 : Int) ≠ 0) (.c1 (P52 N ((IntKind.i64.wrap (byteAt s0 s4)).tmod 16)) (fun x2 => .ck (room (s3.length + ([92, 120, x1, x2] : (List Int)).length)) (.leaf (.next (s0, (s3 ++ ([92, 120, x1, x2] : (List Int))), (IntKind.i64.wrap (s4 + 1)))))))))) (.br (decide ((126 : Int) < (byteAt s0 s4))) (.ck ((16 : Int) ≠ 0) (.c1 (P52 N (IntKind.i64.wrap ((IntKind.i64.wrap (byteAt s0 s4)).tdiv 16))) (fun x3 => .ck ((16 : Int) ≠ 0) (.c1 (P52 N ((IntKind.i64.wrap (byteAt s0 s4)).tmod 16)) (fun x4 => .ck (room (s3.length + ([92, 120, x3, x4] : (List Int)).length)) (.leaf (.next (s0, (s3 ++ ([92, 120, x3, x4] : (List Int))), (IntKind.i64.wrap (s4 + 1)))))))))) (.ck (room (s3.length + ([(byteAt s0 s4)] : (List Int)).length)) (.leaf (.next (s0, (s3 ++ ([(byteAt s0 s4)] : (List Int))), (IntKind.i64.wrap (s4 + 1))))))))))) (.leaf (.brk 0 (s0, s3, s4)))
noncomputable def L27_5 (N : Nat) (s0 : Bs) (s3 : (List Int)) (s4 : Int) : Option (Lp (Bs × (List Int) × Int) Bs) := (U27_5 N s0 s3 s4).eval
noncomputable def W27_5 (N : Nat) (x : (Bs × (List Int) × Int)) : Option (Lp (Bs × (List Int) × Int) Bs) := runLoop (fun x => L27_5 N x.1 x.2.1 x.2.2) N x
theorem WS27_5 (N : Nat) (x : (shTy l27_5).I) : ∀ o, W27_5 N x = some o → S Try.prog (.loop b27_5) (buildSt 54 l27_5 x) (stepZ (rdD Try.prog Try.f27 false) l27_5 (encO 54 l27_5 [0] (fun q => some (E27 q)) o)) :=
  fun o h => loop_S (l := l27_5) (step := fun x => L27_5 N x.1 x.2.1 x.2.2) (fun x o h => wpc_sound (tbl := []) (μ := []) mixed _ _ _ (by
    have h1 := Vt.sound _ h
    refine Eq.mp ?_ h1
    kernel_rfl)) N x o h
noncomputable def V27 (N : Nat) (a0 : Bs) : Vt Bs (Option D) (fun q => some (E27 q)) :=
  .c1 (P51 N a0) (fun x1 => .br x1 (.leaf a0) (.f1 (l := l27_5) (o := W27_5 N (a0, ([34] : (List Int)), 0)) (WS27_5 N (a0, ([34] : (List Int)), 0)) (fun x2 => .ck (room (x2.2.1.length + ([34] : (List Int)).length)) (.leaf (strOf (x2.2.1 ++ ([34] : (List Int))))))))
noncomputable def F27 (N : Nat) (a0 : Bs) : Option Bs := (V27 N a0).eval
def t27 : List (Nat × List Nat × List (Nat × Sh)) := [(5, [0], l27_5)]
theorem P27 (N : Nat) (a0 : Bs) : ∀ r, F27 N a0 = some r → Spec Try.prog 27 [.val tS a0] (E27 r) := fun r h => Spec_of (fn := Try.f27) rfl rfl rfl rfl false (wpc_sound (tbl := t27) (μ := []) mixed _ _ _ (by
  have h1 := Vt.sound _ h
  refine Eq.mp ?_ h1
  kernel_rfl))

/-! ferryslip/ferryslipref04.Text -/
def E16 : Bs → D := fun x => encV tS x
abbrev l16_19 : List (Nat × Sh) := [(0, .val (.list tLn)), (3, .val tS), (4, .val tI), (6, .val tI), (7, .val tI)]
noncomputable def b16_19 : Code := loopBody 19 (bodyOf Try.f16)
noncomputable def U16_19 (N : Nat) (s0 : (List Ln)) (s3 : Bs) (s4 : Int) (s6 : Int) (s7 : Int) : Vt (Lp (shTy l16_19).I Bs) (O3 (Option D)) (encO 78 l16_19 [4] (fun q => some (E16 q))) :=
  .ck (inR s7 s0.length) (.br (decide (s6 < ((atI tLn s0 s7).1))) (.leaf (.next (s0, s3, s4, s6, (IntKind.i64.wrap (s7 - 1))))) (.leaf (.brk 0 (s0, s3, s4, s6, s7))))
noncomputable def L16_19 (N : Nat) (s0 : (List Ln)) (s3 : Bs) (s4 : Int) (s6 : Int) (s7 : Int) : Option (Lp ((List Ln) × Bs × Int × Int × Int) Bs) := (U16_19 N s0 s3 s4 s6 s7).eval
noncomputable def W16_19 (N : Nat) (x : ((List Ln) × Bs × Int × Int × Int)) : Option (Lp ((List Ln) × Bs × Int × Int × Int) Bs) := runLoop (fun x => L16_19 N x.1 x.2.1 x.2.2.1 x.2.2.2.1 x.2.2.2.2) N x
theorem WS16_19 (N : Nat) (x : (shTy l16_19).I) : ∀ o, W16_19 N x = some o → S Try.prog (.loop b16_19) (buildSt 78 l16_19 x) (stepZ (rdD Try.prog Try.f16 false) l16_19 (encO 78 l16_19 [4] (fun q => some (E16 q)) o)) :=
  fun o h => loop_S (l := l16_19) (step := fun x => L16_19 N x.1 x.2.1 x.2.2.1 x.2.2.2.1 x.2.2.2.2) (fun x o h => wpc_sound (tbl := []) (μ := []) mixed _ _ _ (by
    have h1 := Vt.sound _ h
    refine Eq.mp ?_ h1
    kernel_rfl)) N x o h
abbrev l16_16 : List (Nat × Sh) := [(0, .val (.list tLn)), (3, .val tS), (4, .val tI), (6, .val tI)]
noncomputable def b16_16 : Code := loopBody 16 (bodyOf Try.f16)
noncomputable def U16_16 (N : Nat) (s0 : (List Ln)) (s3 : Bs) (s4 : Int) (s6 : Int) : Vt (Lp (shTy l16_16).I Bs) (O3 (Option D)) (encO 78 l16_16 [2] (fun q => some (E16 q))) :=
  .br (decide ((0 : Int) ≤ s6)) (.g1 (l := l16_19) (o := W16_19 N (s0, s3, s4, s6, s4)) (WS16_19 N (s0, s3, s4, s6, s4)) (fun x1 => .c1 (P28 N x1.1 x1.2.2.2.2) (fun x2 => .br (x2 == (IntKind.i64.wrap (x1.2.2.1 + 1))) (.c1 (P26 N x1.2.2.2.1) (fun x3 => .ck (room (x1.2.1.length + x3.length)) (.ck (room ((x1.2.1 ++ x3).length + ([125, 10] : Bs).length)) (.leaf (.next (x1.1, ((x1.2.1 ++ x3) ++ ([125, 10] : Bs)), x1.2.2.1, (IntKind.i64.wrap (x1.2.2.2.1 - 1)))))))) (.leaf (.next (x1.1, x1.2.1, x1.2.2.1, (IntKind.i64.wrap (x1.2.2.2.1 - 1)))))))) (.leaf (.brk 0 (s0, s3, s4, s6)))
noncomputable def L16_16 (N : Nat) (s0 : (List Ln)) (s3 : Bs) (s4 : Int) (s6 : Int) : Option (Lp ((List Ln) × Bs × Int × Int) Bs) := (U16_16 N s0 s3 s4 s6).eval
noncomputable def W16_16 (N : Nat) (x : ((List Ln) × Bs × Int × Int)) : Option (Lp ((List Ln) × Bs × Int × Int) Bs) := runLoop (fun x => L16_16 N x.1 x.2.1 x.2.2.1 x.2.2.2) N x
theorem WS16_16 (N : Nat) (x : (shTy l16_16).I) : ∀ o, W16_16 N x = some o → S Try.prog (.loop b16_16) (buildSt 78 l16_16 x) (stepZ (rdD Try.prog Try.f16 false) l16_16 (encO 78 l16_16 [2] (fun q => some (E16 q)) o)) :=
  fun o h => loop_S (l := l16_16) (step := fun x => L16_16 N x.1 x.2.1 x.2.2.1 x.2.2.2) (fun x o h => wpc_sound (tbl := [(19, [4], l16_19)]) (μ := []) mixed _ _ _ (by
    have h1 := Vt.sound _ h
    refine Eq.mp ?_ h1
    kernel_rfl)) N x o h
abbrev l16_3 : List (Nat × Sh) := [(0, .val (.list tLn)), (3, .val tS), (4, .val tI)]
noncomputable def b16_3 : Code := loopBody 3 (bodyOf Try.f16)
noncomputable def U16_3 (N : Nat) (s0 : (List Ln)) (s3 : Bs) (s4 : Int) : Vt (Lp (shTy l16_3).I Bs) (O3 (Option D)) (encO 78 l16_3 [0] (fun q => some (E16 q))) :=
  .br (decide (s4 < (s0.length : Int))) (.ck (inR s4 s0.length) (.c1 (P26 N ((atI tLn s0 s4).1)) (fun x1 => .ck (room (s3.length + x1.length)) (.ck ((2 : Int) ≠ 0) (.br ((((atI tLn s0 s4).2.2).tmod 2) == 1) (.ck (room ((s3 ++ x1).length + ([105, 110, 97, 99, 116, 105, 118, 101, 58, 32] : Bs).length)) (.br (decide ((1 : Int) < ((atI tLn s0 s4).2.2))) (.ck (room (((s3 ++ x1) ++ ([105, 110, 97, 99, 116, 105, 118, 101, 58, 32] : Bs)).length + ([112, 114, 111, 116, 101, 99, 116, 58, 32] : Bs).length)) (.c1 (P27 N ((atI tLn s0 s4).2.1)) (fun x2 => .ck (room ((((s3 ++ x1) ++ ([105, 110, 97, 99, 116, 105, 118, 101, 58, 32] : Bs)) ++ ([112, 114, 111, 116, 101, 99, 116, 58, 32] : Bs)).length + x2.length)) (.c1 (P28 N s0 s4) (fun x3 => .br (decide ((IntKind.i64.wrap (s4 + 1)) < x3)) (.ck (room (((((s3 ++ x1) ++ ([105, 110, 97, 99, 116, 105, 118, 101, 58, 32] : Bs)) ++ ([112, 114, 111, 116, 101, 99, 116, 58, 32] : Bs)) ++ x2).length + ([32, 123, 10] : Bs).length)) (.g1 (l := l16_16) (o := W16_16 N (s0, (((((s3 ++ x1) ++ ([105, 110, 97, 99, 116, 105, 118, 101, 58, 32] : Bs)) ++ ([112, 114, 111, 116, 101, 99, 116, 58, 32] : Bs)) ++ x2) ++ ([32, 123, 10] : Bs)), s4, (IntKind.i64.wrap (((atI tLn s0 s4).1) - 1)))) (WS16_16 N (s0, (((((s3 ++ x1) ++ ([105, 110, 97, 99, 116, 105, 118, 101, 58, 32] : Bs)) ++ ([112, 114, 111, 116, 101, 99, 116, 58, 32] : Bs)) ++ x2) ++ ([32, 123, 10] : Bs)), s4, (IntKind.i64.wrap (((atI tLn s0 s4).1) - 1)))) (fun x4 => .leaf (.next (x4.1, x4.2.1, (IntKind.i64.wrap (x4.2.2.1 + 1))))))) (.ck (room (((((s3 ++ x1) ++ ([105, 110, 97, 99, 116, 105, 118, 101, 58, 32] : Bs)) ++ ([112, 114, 111, 116, 101, 99, 116, 58, 32] : Bs)) ++ x2).length + ([59, 10] : Bs).length)) (.g1 (l := l16_16) (o := W16_16 N (s0, (((((s3 ++ x1) ++ ([105, 110, 97, 99, 116, 105, 118, 101, 58, 32] : Bs)) ++ ([112, 114, 111, 116, 101, 99, 116, 58, 32] : Bs)) ++ x2) ++ ([59, 10] : Bs)), s4, (IntKind.i64.wrap (((atI tLn s0 s4).1) - 1)))) (WS16_16 N (s0, (((((s3 ++ x1) ++ ([105, 110, 97, 99, 116, 105, 118, 101, 58, 32] : Bs)) ++ ([112, 114, 111, 116, 101, 99, 116, 58, 32] : Bs)) ++ x2) ++ ([59, 10] : Bs)), s4, (IntKind.i64.wrap (((atI tLn s0 s4).1) - 1)))) (fun x5 => .leaf (.next (x5.1, x5.2.1, (IntKind.i64.wrap (x5.2.2.1 + 1)))))))))))) (.c1 (P27 N ((atI tLn s0 s4).2.1)) (fun x6 => .ck (room (((s3 ++ x1) ++ ([105, 110, 97, 99, 116, 105, 118, 101, 58, 32] : Bs)).length + x6.length)) (.c1 (P28 N s0 s4) (fun x7 => .br (decide ((IntKind.i64.wrap (s4 + 1)) < x7)) (.ck (room ((((s3 ++ x1) ++ ([105, 110, 97, 99, 116, 105, 118, 101, 58, 32] : Bs)) ++ x6).length + ([32, 123, 10] : Bs).length)) (.g1 (l := l16_16) (o := W16_16 N (s0, ((((s3 ++ x1) ++ ([105, 110, 97, 99, 116, 105, 118, 101, 58, 32] : Bs)) ++ x6) ++ ([32, 123, 10] : Bs)), s4, (IntKind.i64.wrap (((atI tLn s0 s4).1) - 1)))) (WS16_16 N (s0, ((((s3 ++ x1) ++ ([105, 110, 97, 99, 116, 105, 118, 101, 58, 32] : Bs)) ++ x6) ++ ([32, 123, 10] : Bs)), s4, (IntKind.i64.wrap (((atI tLn s0 s4).1) - 1)))) (fun x8 => .leaf (.next (x8.1, x8.2.1, (IntKind.i64.wrap (x8.2.2.1 + 1))))))) (.ck (room ((((s3 ++ x1) ++ ([105, 110, 97, 99, 116, 105, 118, 101, 58, 32] : Bs)) ++ x6).length + ([59, 10] : Bs).length)) (.g1 (l := l16_16) (o := W16_16 N (s0, ((((s3 ++ x1) ++ ([105, 110, 97, 99, 116, 105, 118, 101, 58, 32] : Bs)) ++ x6) ++ ([59, 10] : Bs)), s4, (IntKind.i64.wrap (((atI tLn s0 s4).1) - 1)))) (WS16_16 N (s0, ((((s3 ++ x1) ++ ([105, 110, 97, 99, 116, 105, 118, 101, 58, 32] : Bs)) ++ x6) ++ ([59, 10] : Bs)), s4, (IntKind.i64.wrap (((atI tLn s0 s4).1) - 1)))) (fun x9 => .leaf (.next (x9.1, x9.2.1, (IntKind.i64.wrap (x9.2.2.1 + 1))))))))))))) (.br (decide ((1 : Int) < ((atI tLn s0 s4).2.2))) (.ck (room ((s3 ++ x1).length + ([112, 114, 111, 116, 101, 99, 116, 58, 32] : Bs).length)) (.c1 (P27 N ((atI tLn s0 s4).2.1)) (fun x10 => .ck (room (((s3 ++ x1) ++ ([112, 114, 111, 116, 101, 99, 116, 58, 32] : Bs)).length + x10.length)) (.c1 (P28 N s0 s4) (fun x11 => .br (decide ((IntKind.i64.wrap (s4 + 1)) < x11)) (.ck (room ((((s3 ++ x1) ++ ([112, 114, 111, 116, 101, 99, 116, 58, 32] : Bs)) ++ x10).length + ([32, 123, 10] : Bs).length)) (.g1 (l := l16_16) (o := W16_16 N (s0, ((((s3 ++ x1) ++ ([112, 114, 111, 116, 101, 99, 116, 58, 32] : Bs)) ++ x10) ++ ([32, 123, 10] : Bs)), s4, (IntKind.i64.wrap (((atI tLn s0 s4).1) - 1)))) (WS16_16 N (s0, ((((s3 ++ x1) ++ ([112, 114, 111, 116, 101, 99, 116, 58, 32] : Bs)) ++ x10) ++ ([32, 123, 10] : Bs)), s4, (IntKind.i64.wrap (((atI tLn s0 s4).1) - 1)))) (fun x12 => .leaf (.next (x12.1, x12.2.1, (IntKind.i64.wrap (x12.2.2.1 + 1))))))) (.ck (room ((((s3 ++ x1) ++ ([112, 114, 111, 116, 101, 99, 116, 58, 32] : Bs)) ++ x10).length + ([59, 10] : Bs).length)) (.g1 (l := l16_16) (o := W16_16 N (s0, ((((s3 ++ x1) ++ ([112, 114, 111, 116, 101, 99, 116, 58, 32] : Bs)) ++ x10) ++ ([59, 10] : Bs)), s4, (IntKind.i64.wrap (((atI tLn s0 s4).1) - 1)))) (WS16_16 N (s0, ((((s3 ++ x1) ++ ([112, 114, 111, 116, 101, 99, 116, 58, 32] : Bs)) ++ x10) ++ ([59, 10] : Bs)), s4, (IntKind.i64.wrap (((atI tLn s0 s4).1) - 1)))) (fun x13 => .leaf (.next (x13.1, x13.2.1, (IntKind.i64.wrap (x13.2.2.1 + 1)))))))))))) (.c1 (P27 N ((atI tLn s0 s4).2.1)) (fun x14 => .ck (room ((s3 ++ x1).length + x14.length)) (.c1 (P28 N s0 s4) (fun x15 => .br (decide ((IntKind.i64.wrap (s4 + 1)) < x15)) (.ck (room (((s3 ++ x1) ++ x14).length + ([32, 123, 10] : Bs).length)) (.g1 (l := l16_16) (o := W16_16 N (s0, (((s3 ++ x1) ++ x14) ++ ([32, 123, 10] : Bs)), s4, (IntKind.i64.wrap (((atI tLn s0 s4).1) - 1)))) (WS16_16 N (s0, (((s3 ++ x1) ++ x14) ++ ([32, 123, 10] : Bs)), s4, (IntKind.i64.wrap (((atI tLn s0 s4).1) - 1)))) (fun x16 => .leaf (.next (x16.1, x16.2.1, (IntKind.i64.wrap (x16.2.2.1 + 1))))))) (.ck (room (((s3 ++ x1) ++ x14).length + ([59, 10] : Bs).length)) (.g1 (l := l16_16) (o := W16_16 N (s0, (((s3 ++ x1) ++ x14) ++ ([59, 10] : Bs)), s4, (IntKind.i64.wrap (((atI tLn s0 s4).1) - 1)))) (WS16_16 N (s0, (((s3 ++ x1) ++ x14) ++ ([59, 10] : Bs)), s4, (IntKind.i64.wrap (((atI tLn s0 s4).1) - 1)))) (fun x17 => .leaf (.next (x17.1, x17.2.1, (IntKind.i64.wrap (x17.2.2.1 + 1))))))))))))))))) (.leaf (.brk 0 (s0, s3, s4)))
noncomputable def L16_3 (N : Nat) (s0 : (List Ln)) (s3 : Bs) (s4 : Int) : Option (Lp ((List Ln) × Bs × Int) Bs) := (U16_3 N s0 s3 s4).eval
noncomputable def W16_3 (N : Nat) (x : ((List Ln) × Bs × Int)) : Option (Lp ((List Ln) × Bs × Int) Bs) := runLoop (fun x => L16_3 N x.1 x.2.1 x.2.2) N x
theorem WS16_3 (N : Nat) (x : (shTy l16_3).I) : ∀ o, W16_3 N x = some o → S Try.prog (.loop b16_3) (buildSt 78 l16_3 x) (stepZ (rdD Try.prog Try.f16 false) l16_3 (encO 78 l16_3 [0] (fun q => some (E16 q)) o)) :=
  fun o h => loop_S (l := l16_3) (step := fun x => L16_3 N x.1 x.2.1 x.2.2) (fun x o h => wpc_sound (tbl := [(19, [4], l16_19), (16, [2], l16_16)]) (μ := []) mixed _ _ _ (by
    have h1 := Vt.sound _ h
    refine Eq.mp ?_ h1
    kernel_rfl)) N x o h
noncomputable def V16 (N : Nat) (a0 : (List Ln)) : Vt Bs (Option D) (fun q => some (E16 q)) :=
  .f1 (l := l16_3) (o := W16_3 N (a0, ([] : Bs), 0)) (WS16_3 N (a0, ([] : Bs), 0)) (fun x1 => .leaf x1.2.1)
noncomputable def F16 (N : Nat) (a0 : (List Ln)) : Option Bs := (V16 N a0).eval
def t16 : List (Nat × List Nat × List (Nat × Sh)) := [(19, [4], l16_19), (16, [2], l16_16), (3, [0], l16_3)]
theorem P16 (N : Nat) (a0 : (List Ln)) : ∀ r, F16 N a0 = some r → Spec Try.prog 16 [.val (.list tLn) a0] (E16 r) := fun r h => Spec_of (fn := Try.f16) rfl rfl rfl rfl false (wpc_sound (tbl := t16) (μ := []) mixed _ _ _ (by
  have h1 := Vt.sound _ h
  refine Eq.mp ?_ h1
  kernel_rfl))

/-! ferryslip/ferrysliplaw05.ParseTurned -/
def E4 : Bool → D := fun x => encV tB x
noncomputable def V4 (N : Nat) (a0 : (List Ln)) (a1 : (List Ln)) : Vt Bool (Option D) (fun q => some (E4 q)) :=
  .c1 (P14 N a0) (fun x1 => .br (!x1) (.c1 (P10 N) (fun x2 => .leaf x2)) (.c1 (P14 N a1) (fun x3 => .br (!x3) (.c1 (P10 N) (fun x4 => .leaf x4)) (.br (decide ((120 : Int) < (IntKind.i64.wrap ((a0.length : Int) + (a1.length : Int))))) (.c1 (P10 N) (fun x5 => .leaf x5)) (.c1 (P15 N a0) (fun x6 => .br (!x6) (.c1 (P10 N) (fun x7 => .leaf x7)) (.c1 (P15 N a1) (fun x8 => .br (!x8) (.c1 (P10 N) (fun x9 => .leaf x9)) (.c1 (P16 N a0) (fun x10 => .c1 (P16 N a1) (fun x11 => .ck (room (x10.length + x11.length)) (.c3 (P11 N (x10 ++ x11)) (fun x12 x13 x14 => .ck (room (x11.length + x10.length)) (.c3 (P11 N (x11 ++ x10)) (fun x15 x16 x17 => .br (x14 == x17) (.c1 (P13 N x12 x15) (fun x18 => .br x18 (.br (x14 == 0) (.br ((x12.length : Int) == (IntKind.i64.wrap ((a0.length : Int) + (a1.length : Int)))) (.c1 (P10 N) (fun x19 => .leaf x19)) (.br (x14 == 4) (.c1 (P10 N) (fun x20 => .leaf x20)) (.leaf false))) (.br (x14 == 4) (.c1 (P10 N) (fun x21 => .leaf x21)) (.leaf false))) (.leaf false))) (.leaf false))))))))))))))))
noncomputable def F4 (N : Nat) (a0 : (List Ln)) (a1 : (List Ln)) : Option Bool := (V4 N a0 a1).eval
def t4 : List (Nat × List Nat × List (Nat × Sh)) := []
theorem P4 (N : Nat) (a0 : (List Ln)) (a1 : (List Ln)) : ∀ r, F4 N a0 a1 = some r → Spec Try.prog 4 [.val (.list tLn) a0, .val (.list tLn) a1] (E4 r) := fun r h => Spec_of (fn := Try.f4) rfl rfl rfl rfl false (wpc_sound (tbl := t4) (μ := []) mixed _ _ _ (by
  have h1 := Vt.sound _ h
  refine Eq.mp ?_ h1
  kernel_rfl))

/-! ferryslip/ferrysliplaw05.ParseDeep -/
def E5 : Bool → D := fun x => encV tB x
abbrev l5_4 : List (Nat × Sh) := [(1, .val tB), (5, .val tI), (6, .val tS), (14, .val tI), (15, .val tI)]
noncomputable def b5_4 : Code := loopBody 4 (bodyOf Try.f5)
noncomputable def U5_4 (N : Nat) (s1 : Bool) (s5 : Int) (s6 : Bs) (s14 : Int) (s15 : Int) : Vt (Lp (shTy l5_4).I Bool) (O3 (Option D)) (encO 89 l5_4 [0] (fun q => some (E5 q))) :=
  .br (decide (s15 < s14)) (.ck (room (s6.length + ([97, 123] : Bs).length)) (.leaf (.next (s1, s5, (s6 ++ ([97, 123] : Bs)), s14, (IntKind.i64.wrap (s15 + 1)))))) (.leaf (.brk 0 (s1, s5, s6, s14, s15)))
noncomputable def L5_4 (N : Nat) (s1 : Bool) (s5 : Int) (s6 : Bs) (s14 : Int) (s15 : Int) : Option (Lp (Bool × Int × Bs × Int × Int) Bool) := (U5_4 N s1 s5 s6 s14 s15).eval
noncomputable def W5_4 (N : Nat) (x : (Bool × Int × Bs × Int × Int)) : Option (Lp (Bool × Int × Bs × Int × Int) Bool) := runLoop (fun x => L5_4 N x.1 x.2.1 x.2.2.1 x.2.2.2.1 x.2.2.2.2) N x
theorem WS5_4 (N : Nat) (x : (shTy l5_4).I) : ∀ o, W5_4 N x = some o → S Try.prog (.loop b5_4) (buildSt 89 l5_4 x) (stepZ (rdD Try.prog Try.f5 false) l5_4 (encO 89 l5_4 [0] (fun q => some (E5 q)) o)) :=
  fun o h => loop_S (l := l5_4) (step := fun x => L5_4 N x.1 x.2.1 x.2.2.1 x.2.2.2.1 x.2.2.2.2) (fun x o h => wpc_sound (tbl := []) (μ := []) mixed _ _ _ (by
    have h1 := Vt.sound _ h
    refine Eq.mp ?_ h1
    kernel_rfl)) N x o h
abbrev l5_9 : List (Nat × Sh) := [(1, .val tB), (5, .val tI), (6, .val tS), (21, .val tI), (22, .val tI)]
noncomputable def b5_9 : Code := loopBody 9 (bodyOf Try.f5)
noncomputable def U5_9 (N : Nat) (s1 : Bool) (s5 : Int) (s6 : Bs) (s21 : Int) (s22 : Int) : Vt (Lp (shTy l5_9).I Bool) (O3 (Option D)) (encO 89 l5_9 [2] (fun q => some (E5 q))) :=
  .br (decide (s22 < s21)) (.ck (room (s6.length + ([125] : Bs).length)) (.leaf (.next (s1, s5, (s6 ++ ([125] : Bs)), s21, (IntKind.i64.wrap (s22 + 1)))))) (.leaf (.brk 0 (s1, s5, s6, s21, s22)))
noncomputable def L5_9 (N : Nat) (s1 : Bool) (s5 : Int) (s6 : Bs) (s21 : Int) (s22 : Int) : Option (Lp (Bool × Int × Bs × Int × Int) Bool) := (U5_9 N s1 s5 s6 s21 s22).eval
noncomputable def W5_9 (N : Nat) (x : (Bool × Int × Bs × Int × Int)) : Option (Lp (Bool × Int × Bs × Int × Int) Bool) := runLoop (fun x => L5_9 N x.1 x.2.1 x.2.2.1 x.2.2.2.1 x.2.2.2.2) N x
theorem WS5_9 (N : Nat) (x : (shTy l5_9).I) : ∀ o, W5_9 N x = some o → S Try.prog (.loop b5_9) (buildSt 89 l5_9 x) (stepZ (rdD Try.prog Try.f5 false) l5_9 (encO 89 l5_9 [2] (fun q => some (E5 q)) o)) :=
  fun o h => loop_S (l := l5_9) (step := fun x => L5_9 N x.1 x.2.1 x.2.2.1 x.2.2.2.1 x.2.2.2.2) (fun x o h => wpc_sound (tbl := [(4, [0], l5_4)]) (μ := []) mixed _ _ _ (by
    have h1 := Vt.sound _ h
    refine Eq.mp ?_ h1
    kernel_rfl)) N x o h
noncomputable def V5 (N : Nat) (a0 : Int) (a1 : Bool) : Vt Bool (Option D) (fun q => some (E5 q)) :=
  .ck ((30 : Int) ≠ 0) (.f1 (l := l5_4) (o := W5_4 N (a1, (IntKind.i64.wrap (1 + (IntKind.i64.wrap (a0.tmod 30)))), ([] : Bs), (IntKind.i64.wrap (1 + (IntKind.i64.wrap (a0.tmod 30)))), 0)) (WS5_4 N (a1, (IntKind.i64.wrap (1 + (IntKind.i64.wrap (a0.tmod 30)))), ([] : Bs), (IntKind.i64.wrap (1 + (IntKind.i64.wrap (a0.tmod 30)))), 0)) (fun x1 => .br x1.1 (.f1 (l := l5_9) (o := W5_9 N (x1.1, x1.2.1, x1.2.2.1, x1.2.1, 0)) (WS5_9 N (x1.1, x1.2.1, x1.2.2.1, x1.2.1, 0)) (fun x2 => .c3 (P11 N x2.2.2.1) (fun x3 x4 x5 => .br (decide ((16 : Int) < x2.2.1)) (.br ((x3.length : Int) == 0) (.br (x4 == 32) (.br (x5 == 6) (.c1 (P10 N) (fun x6 => .leaf x6)) (.leaf false)) (.leaf false)) (.leaf false)) (.br (!x2.1) (.br ((x3.length : Int) == 0) (.br (x4 == (x2.2.2.1.length : Int)) (.br (x5 == 2) (.c1 (P10 N) (fun x7 => .leaf x7)) (.leaf false)) (.leaf false)) (.leaf false)) (.br ((x3.length : Int) == x2.2.1) (.br (x5 == 0) (.ck (inR (IntKind.i64.wrap (x2.2.1 - 1)) x3.length) (.br (((atI tLn x3 (IntKind.i64.wrap (x2.2.1 - 1))).1) == (IntKind.i64.wrap (x2.2.1 - 1))) (.c1 (P10 N) (fun x8 => .leaf x8)) (.leaf false))) (.leaf false)) (.leaf false)))))) (.c3 (P11 N x1.2.2.1) (fun x9 x10 x11 => .br (decide ((16 : Int) < x1.2.1)) (.br ((x9.length : Int) == 0) (.br (x10 == 32) (.br (x11 == 6) (.c1 (P10 N) (fun x12 => .leaf x12)) (.leaf false)) (.leaf false)) (.leaf false)) (.br (!x1.1) (.br ((x9.length : Int) == 0) (.br (x10 == (x1.2.2.1.length : Int)) (.br (x11 == 2) (.c1 (P10 N) (fun x13 => .leaf x13)) (.leaf false)) (.leaf false)) (.leaf false)) (.br ((x9.length : Int) == x1.2.1) (.br (x11 == 0) (.ck (inR (IntKind.i64.wrap (x1.2.1 - 1)) x9.length) (.br (((atI tLn x9 (IntKind.i64.wrap (x1.2.1 - 1))).1) == (IntKind.i64.wrap (x1.2.1 - 1))) (.c1 (P10 N) (fun x14 => .leaf x14)) (.leaf false))) (.leaf false)) (.leaf false)))))))
noncomputable def F5 (N : Nat) (a0 : Int) (a1 : Bool) : Option Bool := (V5 N a0 a1).eval
def t5 : List (Nat × List Nat × List (Nat × Sh)) := [(4, [0], l5_4), (9, [2], l5_9)]
theorem P5 (N : Nat) (a0 : Int) (a1 : Bool) : ∀ r, F5 N a0 a1 = some r → Spec Try.prog 5 [.val (.int .u8) a0, .val tB a1] (E5 r) := fun r h => Spec_of (fn := Try.f5) rfl rfl rfl rfl false (wpc_sound (tbl := t5) (μ := []) mixed _ _ _ (by
  have h1 := Vt.sound _ h
  refine Eq.mp ?_ h1
  kernel_rfl))

/-! ferryslip/ferrysliplaw05.ParseCounts -/
def E6 : Bool → D := fun x => encV tB x
abbrev l6_9 : List (Nat × Sh) := [(3, .val (.list tLn)), (8, .val tI), (9, .val tI), (10, .val tI), (11, .val tI), (38, .val (.list (.pair tI tLn))), (39, .val tI), (40, .val tI)]
noncomputable def b6_9 : Code := loopBody 9 (bodyOf Try.f6)
noncomputable def U6_9 (N : Nat) (s3 : (List Ln)) (s8 : Int) (s9 : Int) (s10 : Int) (s11 : Int) (s38 : (List (Int × Ln))) (s39 : Int) (s40 : Int) : Vt (Lp (shTy l6_9).I Bool) (O3 (Option D)) (encO 75 l6_9 [0] (fun q => some (E6 q))) :=
  .br (decide (s40 < s39)) (.ck (inR s40 s38.length) (.br (((atI (.pair tI tLn) s38 s40).1) == 1) (.leaf (.next (s3, s8, (IntKind.i64.wrap (s9 + 1)), s10, s11, s38, s39, (IntKind.i64.wrap (s40 + 1))))) (.br (((atI (.pair tI tLn) s38 s40).1) == 2) (.leaf (.next (s3, s8, s9, (IntKind.i64.wrap (s10 + 1)), s11, s38, s39, (IntKind.i64.wrap (s40 + 1))))) (.br (((atI (.pair tI tLn) s38 s40).1) == 3) (.leaf (.next (s3, s8, s9, s10, (IntKind.i64.wrap (s11 + 1)), s38, s39, (IntKind.i64.wrap (s40 + 1))))) (.leaf (.next (s3, s8, s9, s10, s11, s38, s39, (IntKind.i64.wrap (s40 + 1))))))))) (.leaf (.brk 0 (s3, s8, s9, s10, s11, s38, s39, s40)))
noncomputable def L6_9 (N : Nat) (s3 : (List Ln)) (s8 : Int) (s9 : Int) (s10 : Int) (s11 : Int) (s38 : (List (Int × Ln))) (s39 : Int) (s40 : Int) : Option (Lp ((List Ln) × Int × Int × Int × Int × (List (Int × Ln)) × Int × Int) Bool) := (U6_9 N s3 s8 s9 s10 s11 s38 s39 s40).eval
noncomputable def W6_9 (N : Nat) (x : ((List Ln) × Int × Int × Int × Int × (List (Int × Ln)) × Int × Int)) : Option (Lp ((List Ln) × Int × Int × Int × Int × (List (Int × Ln)) × Int × Int) Bool) := runLoop (fun x => L6_9 N x.1 x.2.1 x.2.2.1 x.2.2.2.1 x.2.2.2.2.1 x.2.2.2.2.2.1 x.2.2.2.2.2.2.1 x.2.2.2.2.2.2.2) N x
theorem WS6_9 (N : Nat) (x : (shTy l6_9).I) : ∀ o, W6_9 N x = some o → S Try.prog (.loop b6_9) (buildSt 75 l6_9 x) (stepZ (rdD Try.prog Try.f6 false) l6_9 (encO 75 l6_9 [0] (fun q => some (E6 q)) o)) :=
  fun o h => loop_S (l := l6_9) (step := fun x => L6_9 N x.1 x.2.1 x.2.2.1 x.2.2.2.1 x.2.2.2.2.1 x.2.2.2.2.2.1 x.2.2.2.2.2.2.1 x.2.2.2.2.2.2.2) (fun x o h => wpc_sound (tbl := []) (μ := []) mixed _ _ _ (by
    have h1 := Vt.sound _ h
    refine Eq.mp ?_ h1
    kernel_rfl)) N x o h
noncomputable def V6 (N : Nat) (a0 : Bs) : Vt Bool (Option D) (fun q => some (E6 q)) :=
  .br (decide ((600 : Int) < (a0.length : Int))) (.c1 (P10 N) (fun x1 => .leaf x1)) (.c3 (P11 N a0) (fun x2 x3 x4 => .c3 (P17 N a0) (fun x5 x6 x7 => .br (x4 != 0) (.br ((x2.length : Int) == 0) (.c1 (P10 N) (fun x8 => .leaf x8)) (.leaf false)) (.f1 (l := l6_9) (o := W6_9 N (x2, x7, 0, 0, 0, x5, (x5.length : Int), 0)) (WS6_9 N (x2, x7, 0, 0, 0, x5, (x5.length : Int), 0)) (fun x9 => .br (x9.2.1 == 0) (.br (x9.2.2.1 == (x9.1.length : Int)) (.br (x9.2.2.2.1 == x9.2.2.2.2.1) (.c1 (P10 N) (fun x10 => .leaf x10)) (.leaf false)) (.leaf false)) (.leaf false))))))
noncomputable def F6 (N : Nat) (a0 : Bs) : Option Bool := (V6 N a0).eval
def t6 : List (Nat × List Nat × List (Nat × Sh)) := [(9, [0], l6_9)]
theorem P6 (N : Nat) (a0 : Bs) : ∀ r, F6 N a0 = some r → Spec Try.prog 6 [.val tS a0] (E6 r) := fun r h => Spec_of (fn := Try.f6) rfl rfl rfl rfl false (wpc_sound (tbl := t6) (μ := []) mixed _ _ _ (by
  have h1 := Vt.sound _ h
  refine Eq.mp ?_ h1
  kernel_rfl))

/-! ferryslip/ferrysliplaw05.ParseCut -/
def E7 : Bool → D := fun x => encV tB x
noncomputable def V7 (N : Nat) (a0 : (List Ln)) (a1 : Int) : Vt Bool (Option D) (fun q => some (E7 q)) :=
  .c1 (P14 N a0) (fun x1 => .br (!x1) (.c1 (P10 N) (fun x2 => .leaf x2)) (.br (decide ((60 : Int) < (a0.length : Int))) (.c1 (P10 N) (fun x3 => .leaf x3)) (.br ((a0.length : Int) == 0) (.c1 (P10 N) (fun x4 => .leaf x4)) (.c1 (P15 N a0) (fun x5 => .br (!x5) (.c1 (P10 N) (fun x6 => .leaf x6)) (.c1 (P16 N a0) (fun x7 => .ck ((x7.length : Int) ≠ 0) (.ck ((0 : Int) ≤ 0 ∧ (0 : Int) ≤ ((IntKind.i64.wrap a1).tmod (x7.length : Int)) ∧ ((IntKind.i64.wrap a1).tmod (x7.length : Int)) ≤ (x7.length : Int)) (.c3 (P11 N (slc x7 0 ((IntKind.i64.wrap a1).tmod (x7.length : Int)))) (fun x8 x9 x10 => .br (x10 != 0) (.br ((x8.length : Int) == 0) (.ck ((x7.length : Int) ≠ 0) (.br (decide (x9 ≤ ((IntKind.i64.wrap a1).tmod (x7.length : Int)))) (.c1 (P10 N) (fun x11 => .leaf x11)) (.leaf false))) (.leaf false)) (.br (decide ((x8.length : Int) ≤ (a0.length : Int))) (.ck ((0 : Int) ≤ 0 ∧ (0 : Int) ≤ (x8.length : Int) ∧ (x8.length : Int) ≤ (a0.length : Int)) (.c1 (P13 N x8 (slc a0 0 (x8.length : Int))) (fun x12 => .br x12 (.br ((x8.length : Int) == (a0.length : Int)) (.c1 (P10 N) (fun x13 => .leaf x13)) (.ck (inR (x8.length : Int) a0.length) (.br (((atI tLn a0 (x8.length : Int)).1) == 0) (.c1 (P10 N) (fun x14 => .leaf x14)) (.leaf false)))) (.leaf false)))) (.leaf false))))))))))))
noncomputable def F7 (N : Nat) (a0 : (List Ln)) (a1 : Int) : Option Bool := (V7 N a0 a1).eval
def t7 : List (Nat × List Nat × List (Nat × Sh)) := []
theorem P7 (N : Nat) (a0 : (List Ln)) (a1 : Int) : ∀ r, F7 N a0 a1 = some r → Spec Try.prog 7 [.val (.list tLn) a0, .val (.int .u16) a1] (E7 r) := fun r h => Spec_of (fn := Try.f7) rfl rfl rfl rfl false (wpc_sound (tbl := t7) (μ := []) mixed _ _ _ (by
  have h1 := Vt.sound _ h
  refine Eq.mp ?_ h1
  kernel_rfl))

/-! ferryslip/tree.sound -/
def E39 : Bool → D := fun x => encV tB x
noncomputable def V39 (N : Nat) (a0 : Ln) : Vt Bool (Option D) (fun q => some (E39 q)) :=
  .br (decide ((0 : Int) ≤ a0.1)) (.br (decide (a0.1 < 16)) (.br (decide ((a0.2.1.length : Int) ≤ 40)) (.br (decide ((0 : Int) ≤ a0.2.2)) (.leaf (decide (a0.2.2 ≤ 3))) (.leaf false)) (.leaf false)) (.leaf false)) (.leaf false)
noncomputable def F39 (N : Nat) (a0 : Ln) : Option Bool := (V39 N a0).eval
def t39 : List (Nat × List Nat × List (Nat × Sh)) := []
theorem P39 (N : Nat) (a0 : Ln) : ∀ r, F39 N a0 = some r → Spec Try.prog 39 [.agg [.val tI a0.1, .val tS a0.2.1, .val tI a0.2.2]] (E39 r) := fun r h => Spec_of (fn := Try.f39) rfl rfl rfl rfl false (wpc_sound (tbl := t39) (μ := []) mixed _ _ _ (by
  have h1 := Vt.sound _ h
  refine Eq.mp ?_ h1
  kernel_rfl))

/-! ferryslip/tree.Right -/
def E19 : Bool → D := fun x => encV tB x
abbrev l19_6 : List (Nat × Sh) := [(3, .arr 3 tS), (4, .val tI), (10, .val (.list tLn)), (11, .val tI), (12, .val tI)]
noncomputable def b19_6 : Code := loopBody 6 (bodyOf Try.f19)
noncomputable def U19_6 (N : Nat) (s3 : (List Bs)) (s4 : Int) (s10 : (List Ln)) (s11 : Int) (s12 : Int) : Vt (Lp (shTy l19_6).I Bool) (O3 (Option D)) (encO 48 l19_6 [0] (fun q => some (E19 q))) :=
  .br (decide (s12 < s11)) (.ck (inR s12 s10.length) (.c1 (P39 N (atI tLn s10 s12)) (fun x1 => .br (!x1) (.leaf (.ret false)) (.br (decide ((IntKind.i64.wrap (s4 + 1)) < ((atI tLn s10 s12).1))) (.leaf (.ret false)) (.br (decide (((atI tLn s10 s12).1) ≤ s4)) (.ck (inR ((atI tLn s10 s12).1) 16) (.ck (s3.length = 16) (.ck (inR ((atI tLn s10 s12).1) s3.length) (.br ((Op.bytesLess ((atI tLn s10 s12).2.1) (atI tS s3 ((atI tLn s10 s12).1))) || (((atI tLn s10 s12).2.1) == (atI tS s3 ((atI tLn s10 s12).1)))) (.leaf (.ret false)) (.ck (inR ((atI tLn s10 s12).1) 16) (.ck (s3.length = 16) (.ck (inR ((atI tLn s10 s12).1) s3.length) (.leaf (.next ((s3.set ((atI tLn s10 s12).1).toNat ((atI tLn s10 s12).2.1)), (atI tLn s10 s12).1, s10, s11, (IntKind.i64.wrap (s12 + 1)))))))))))) (.ck (inR ((atI tLn s10 s12).1) 16) (.ck (s3.length = 16) (.ck (inR ((atI tLn s10 s12).1) s3.length) (.leaf (.next ((s3.set ((atI tLn s10 s12).1).toNat ((atI tLn s10 s12).2.1)), (atI tLn s10 s12).1, s10, s11, (IntKind.i64.wrap (s12 + 1))))))))))))) (.leaf (.brk 0 (s3, s4, s10, s11, s12)))
noncomputable def L19_6 (N : Nat) (s3 : (List Bs)) (s4 : Int) (s10 : (List Ln)) (s11 : Int) (s12 : Int) : Option (Lp ((List Bs) × Int × (List Ln) × Int × Int) Bool) := (U19_6 N s3 s4 s10 s11 s12).eval
noncomputable def W19_6 (N : Nat) (x : ((List Bs) × Int × (List Ln) × Int × Int)) : Option (Lp ((List Bs) × Int × (List Ln) × Int × Int) Bool) := runLoop (fun x => L19_6 N x.1 x.2.1 x.2.2.1 x.2.2.2.1 x.2.2.2.2) N x
theorem WS19_6 (N : Nat) (x : (shTy l19_6).I) : ∀ o, W19_6 N x = some o → S Try.prog (.loop b19_6) (buildSt 48 l19_6 x) (stepZ (rdD Try.prog Try.f19 false) l19_6 (encO 48 l19_6 [0] (fun q => some (E19 q)) o)) :=
  fun o h => loop_S (l := l19_6) (step := fun x => L19_6 N x.1 x.2.1 x.2.2.1 x.2.2.2.1 x.2.2.2.2) (fun x o h => wpc_sound (tbl := []) (μ := []) mixed _ _ _ (by
    have h1 := Vt.sound _ h
    refine Eq.mp ?_ h1
    kernel_rfl)) N x o h
noncomputable def V19 (N : Nat) (a0 : (List Ln)) : Vt Bool (Option D) (fun q => some (E19 q)) :=
  .br (decide ((200 : Int) < (a0.length : Int))) (.leaf false) (.f1 (l := l19_6) (o := W19_6 N (([([] : Bs), ([] : Bs), ([] : Bs), ([] : Bs), ([] : Bs), ([] : Bs), ([] : Bs), ([] : Bs), ([] : Bs), ([] : Bs), ([] : Bs), ([] : Bs), ([] : Bs), ([] : Bs), ([] : Bs), ([] : Bs)] : (List Bs)), (-1), a0, (a0.length : Int), 0)) (WS19_6 N (([([] : Bs), ([] : Bs), ([] : Bs), ([] : Bs), ([] : Bs), ([] : Bs), ([] : Bs), ([] : Bs), ([] : Bs), ([] : Bs), ([] : Bs), ([] : Bs), ([] : Bs), ([] : Bs), ([] : Bs), ([] : Bs)] : (List Bs)), (-1), a0, (a0.length : Int), 0)) (fun x1 => .leaf true))
noncomputable def F19 (N : Nat) (a0 : (List Ln)) : Option Bool := (V19 N a0).eval
def t19 : List (Nat × List Nat × List (Nat × Sh)) := [(6, [0], l19_6)]
theorem P19 (N : Nat) (a0 : (List Ln)) : ∀ r, F19 N a0 = some r → Spec Try.prog 19 [.val (.list tLn) a0] (E19 r) := fun r h => Spec_of (fn := Try.f19) rfl rfl rfl rfl false (wpc_sound (tbl := t19) (μ := []) mixed _ _ _ (by
  have h1 := Vt.sound _ h
  refine Eq.mp ?_ h1
  kernel_rfl))

/-! ferryslip/word.Plain -/
def E55 : Bool → D := fun x => encV tB x
noncomputable def V55 (N : Nat) (a0 : Bs) : Vt Bool (Option D) (fun q => some (E55 q)) :=
  .br (!(a0 == ([] : Bs))) (.br (decide ((a0.length : Int) ≤ 40)) (.c1 (P72 N a0) (fun x1 => .br (x1 == (a0.length : Int)) (.c1 (P73 N a0) (fun x2 => .leaf (!x2))) (.leaf false))) (.leaf false)) (.leaf false)
noncomputable def F55 (N : Nat) (a0 : Bs) : Option Bool := (V55 N a0).eval
def t55 : List (Nat × List Nat × List (Nat × Sh)) := []
theorem P55 (N : Nat) (a0 : Bs) : ∀ r, F55 N a0 = some r → Spec Try.prog 55 [.val tS a0] (E55 r) := fun r h => Spec_of (fn := Try.f55) rfl rfl rfl rfl false (wpc_sound (tbl := t55) (μ := []) mixed _ _ _ (by
  have h1 := Vt.sound _ h
  refine Eq.mp ?_ h1
  kernel_rfl))

/-! ferryslip/word.escape -/
def E57 : Bs → D := fun x => encV tS x
noncomputable def V57 (N : Nat) (a0 : Int) : Vt Bs (Option D) (fun q => some (E57 q)) :=
  .br (a0 == 34) (.leaf (strOf ([92, a0] : (List Int)))) (.br (a0 == 92) (.leaf (strOf ([92, a0] : (List Int)))) (.br (decide ((32 : Int) ≤ a0)) (.br (decide (a0 ≤ 126)) (.leaf (strOf ([a0] : (List Int)))) (.ck (0 ≤ (4 : Int)) (.ck (inR (a0.fdiv (2 ^ (min (4 : Int).toNat (IntKind.u8.bits)))) ([48, 49, 50, 51, 52, 53, 54, 55, 56, 57, 97, 98, 99, 100, 101, 102] : Bs).length) (.ck (inR (IntKind.u8.wrap (((BitVec.ofInt IntKind.u8.bits a0 &&& BitVec.ofInt IntKind.u8.bits 15).toNat : Int))) ([48, 49, 50, 51, 52, 53, 54, 55, 56, 57, 97, 98, 99, 100, 101, 102] : Bs).length) (.ck (room (([92, 120] : Bs).length + (strOf ([(byteAt ([48, 49, 50, 51, 52, 53, 54, 55, 56, 57, 97, 98, 99, 100, 101, 102] : Bs) (a0.fdiv (2 ^ (min (4 : Int).toNat (IntKind.u8.bits))))), (byteAt ([48, 49, 50, 51, 52, 53, 54, 55, 56, 57, 97, 98, 99, 100, 101, 102] : Bs) (IntKind.u8.wrap (((BitVec.ofInt IntKind.u8.bits a0 &&& BitVec.ofInt IntKind.u8.bits 15).toNat : Int))))] : (List Int))).length)) (.leaf (([92, 120] : Bs) ++ (strOf ([(byteAt ([48, 49, 50, 51, 52, 53, 54, 55, 56, 57, 97, 98, 99, 100, 101, 102] : Bs) (a0.fdiv (2 ^ (min (4 : Int).toNat (IntKind.u8.bits))))), (byteAt ([48, 49, 50, 51, 52, 53, 54, 55, 56, 57, 97, 98, 99, 100, 101, 102] : Bs) (IntKind.u8.wrap (((BitVec.ofInt IntKind.u8.bits a0 &&& BitVec.ofInt IntKind.u8.bits 15).toNat : Int))))] : (List Int)))))))))) (.ck (0 ≤ (4 : Int)) (.ck (inR (a0.fdiv (2 ^ (min (4 : Int).toNat (IntKind.u8.bits)))) ([48, 49, 50, 51, 52, 53, 54, 55, 56, 57, 97, 98, 99, 100, 101, 102] : Bs).length) (.ck (inR (IntKind.u8.wrap (((BitVec.ofInt IntKind.u8.bits a0 &&& BitVec.ofInt IntKind.u8.bits 15).toNat : Int))) ([48, 49, 50, 51, 52, 53, 54, 55, 56, 57, 97, 98, 99, 100, 101, 102] : Bs).length) (.ck (room (([92, 120] : Bs).length + (strOf ([(byteAt ([48, 49, 50, 51, 52, 53, 54, 55, 56, 57, 97, 98, 99, 100, 101, 102] : Bs) (a0.fdiv (2 ^ (min (4 : Int).toNat (IntKind.u8.bits))))), (byteAt ([48, 49, 50, 51, 52, 53, 54, 55, 56, 57, 97, 98, 99, 100, 101, 102] : Bs) (IntKind.u8.wrap (((BitVec.ofInt IntKind.u8.bits a0 &&& BitVec.ofInt IntKind.u8.bits 15).toNat : Int))))] : (List Int))).length)) (.leaf (([92, 120] : Bs) ++ (strOf ([(byteAt ([48, 49, 50, 51, 52, 53, 54, 55, 56, 57, 97, 98, 99, 100, 101, 102] : Bs) (a0.fdiv (2 ^ (min (4 : Int).toNat (IntKind.u8.bits))))), (byteAt ([48, 49, 50, 51, 52, 53, 54, 55, 56, 57, 97, 98, 99, 100, 101, 102] : Bs) (IntKind.u8.wrap (((BitVec.ofInt IntKind.u8.bits a0 &&& BitVec.ofInt IntKind.u8.bits 15).toNat : Int))))] : (List Int)))))))))))
noncomputable def F57 (N : Nat) (a0 : Int) : Option Bs := (V57 N a0).eval
def t57 : List (Nat × List Nat × List (Nat × Sh)) := []
theorem P57 (N : Nat) (a0 : Int) : ∀ r, F57 N a0 = some r → Spec Try.prog 57 [.val (.int .u8) a0] (E57 r) := fun r h => Spec_of (fn := Try.f57) rfl rfl rfl rfl false (wpc_sound (tbl := t57) (μ := []) mixed _ _ _ (by
  have h1 := Vt.sound _ h
  refine Eq.mp ?_ h1
  kernel_rfl))

/-! ferryslip/word.Quote -/
def E33 : (Bs × Int) → D := fun x => .tup [encV tS x.1, encV tI x.2]
abbrev l33_8 : List (Nat × Sh) := [(0, .val tS), (4, .grp false 4 71 [.slf, .buf 5]), (16, .val tI), (17, .val tI)]
noncomputable def b33_8 : Code := loopBody 8 (bodyOf Try.f33)
noncomputable def U33_8 (N : Nat) (s0 : Bs) (s4 : (Bool × (List Int))) (s16 : Int) (s17 : Int) : Vt (Lp (shTy l33_8).I (Bs × Int)) (O3 (Option D)) (encO 28 l33_8 [1] (fun q => some (E33 q))) :=
  .br (decide (s17 < s16)) (.ck (inR s17 s0.length) (.c1 (P57 N (byteAt s0 s17)) (fun x1 => .cr (P34b N (true, s4.2) x1) (fun x2 => .leaf (.next (s0, (true, x2.2), s16, (IntKind.i64.wrap (s17 + 1)))))))) (.leaf (.brk 0 (s0, (true, s4.2), s16, s17)))
noncomputable def L33_8 (N : Nat) (s0 : Bs) (s4 : (Bool × (List Int))) (s16 : Int) (s17 : Int) : Option (Lp (Bs × (Bool × (List Int)) × Int × Int) (Bs × Int)) := (U33_8 N s0 s4 s16 s17).eval
noncomputable def W33_8 (N : Nat) (x : (Bs × (Bool × (List Int)) × Int × Int)) : Option (Lp (Bs × (Bool × (List Int)) × Int × Int) (Bs × Int)) := runLoop (fun x => L33_8 N x.1 x.2.1 x.2.2.1 x.2.2.2) N x
theorem WS33_8 (N : Nat) (x : (shTy l33_8).I) : ∀ o, W33_8 N x = some o → S Try.prog (.loop b33_8) (buildSt 28 l33_8 x) (stepZ (rdD Try.prog Try.f33 false) l33_8 (encO 28 l33_8 [1] (fun q => some (E33 q)) o)) :=
  fun o h => loop_S (l := l33_8) (step := fun x => L33_8 N x.1 x.2.1 x.2.2.1 x.2.2.2) (fun x o h => wpc_sound (tbl := []) (μ := [4000034, 4000056]) mixed _ _ _ (by
    have h1 := Vt.sound _ h
    refine Eq.mp ?_ h1
    kernel_rfl)) N x o h
noncomputable def V33 (N : Nat) (a0 : Bs) : Vt (Bs × Int) (Option D) (fun q => some (E33 q)) :=
  .br (decide ((40 : Int) < (a0.length : Int))) (.leaf (([] : Bs), 5)) (.c1 (P55 N a0) (fun x1 => .br x1 (.leaf (a0, 0)) (.cr (P56b N (true, ([] : List Int)) 34) (fun x2 => .f1 (l := l33_8) (o := W33_8 N (a0, (true, x2.2), (a0.length : Int), 0)) (WS33_8 N (a0, (true, x2.2), (a0.length : Int), 0)) (fun x3 => .cr (P38k N (true, x3.2.1.2)) (fun x4 => .ck (room (x4.length + ([34] : Bs).length)) (.leaf ((x4 ++ ([34] : Bs)), 0))))))))
noncomputable def F33 (N : Nat) (a0 : Bs) : Option (Bs × Int) := (V33 N a0).eval
def t33 : List (Nat × List Nat × List (Nat × Sh)) := [(8, [1], l33_8)]
theorem P33 (N : Nat) (a0 : Bs) : ∀ r, F33 N a0 = some r → Spec Try.prog 33 [.val tS a0] (E33 r) := fun r h => Spec_of (fn := Try.f33) rfl rfl rfl rfl false (wpc_sound (tbl := t33) (μ := [4000034, 4000056, 5000038]) mixed _ _ _ (by
  have h1 := Vt.sound _ h
  refine Eq.mp ?_ h1
  kernel_rfl))

/-! ferryslip/show.indent -/
def E35 : Bs → D := fun x => encV tS x
noncomputable def V35 (N : Nat) (a0 : Int) : Vt Bs (Option D) (fun q => some (E35 q)) :=
  .c1 (P59 N ([32, 32] : Bs) a0) (fun x1 => .leaf x1)
noncomputable def F35 (N : Nat) (a0 : Int) : Option Bs := (V35 N a0).eval
def t35 : List (Nat × List Nat × List (Nat × Sh)) := []
theorem P35 (N : Nat) (a0 : Int) : ∀ r, F35 N a0 = some r → Spec Try.prog 35 [.val tI a0] (E35 r) := fun r h => Spec_of (fn := Try.f35) rfl rfl rfl rfl false (wpc_sound (tbl := t35) (μ := []) mixed _ _ _ (by
  have h1 := Vt.sound _ h
  refine Eq.mp ?_ h1
  kernel_rfl))

/-! ferryslip/show.marks -/
def E36 : Bs → D := fun x => encV tS x
noncomputable def V36 (N : Nat) (a0 : Int) : Vt Bs (Option D) (fun q => some (E36 q)) :=
  .br ((IntKind.i64.wrap (((BitVec.ofInt IntKind.i64.bits a0 &&& BitVec.ofInt IntKind.i64.bits 1).toNat : Int))) != 0) (.ck (room (([] : Bs).length + ([105, 110, 97, 99, 116, 105, 118, 101, 58, 32] : Bs).length)) (.br ((IntKind.i64.wrap (((BitVec.ofInt IntKind.i64.bits a0 &&& BitVec.ofInt IntKind.i64.bits 2).toNat : Int))) != 0) (.ck (room ((([] : Bs) ++ ([105, 110, 97, 99, 116, 105, 118, 101, 58, 32] : Bs)).length + ([112, 114, 111, 116, 101, 99, 116, 58, 32] : Bs).length)) (.leaf ((([] : Bs) ++ ([105, 110, 97, 99, 116, 105, 118, 101, 58, 32] : Bs)) ++ ([112, 114, 111, 116, 101, 99, 116, 58, 32] : Bs)))) (.leaf (([] : Bs) ++ ([105, 110, 97, 99, 116, 105, 118, 101, 58, 32] : Bs))))) (.br ((IntKind.i64.wrap (((BitVec.ofInt IntKind.i64.bits a0 &&& BitVec.ofInt IntKind.i64.bits 2).toNat : Int))) != 0) (.ck (room (([] : Bs).length + ([112, 114, 111, 116, 101, 99, 116, 58, 32] : Bs).length)) (.leaf (([] : Bs) ++ ([112, 114, 111, 116, 101, 99, 116, 58, 32] : Bs)))) (.leaf ([] : Bs)))
noncomputable def F36 (N : Nat) (a0 : Int) : Option Bs := (V36 N a0).eval
def t36 : List (Nat × List Nat × List (Nat × Sh)) := []
theorem P36 (N : Nat) (a0 : Int) : ∀ r, F36 N a0 = some r → Spec Try.prog 36 [.val tI a0] (E36 r) := fun r h => Spec_of (fn := Try.f36) rfl rfl rfl rfl false (wpc_sound (tbl := t36) (μ := []) mixed _ _ _ (by
  have h1 := Vt.sound _ h
  refine Eq.mp ?_ h1
  kernel_rfl))

/-! ferryslip/show.closed -/
def E37 : Bs → D := fun x => encV tS x
abbrev l37_3 : List (Nat × Sh) := [(1, .val tI), (5, .val tS), (6, .val tI)]
noncomputable def b37_3 : Code := loopBody 3 (bodyOf Try.f37)
noncomputable def U37_3 (N : Nat) (s1 : Int) (s5 : Bs) (s6 : Int) : Vt (Lp (shTy l37_3).I Bs) (O3 (Option D)) (encO 20 l37_3 [0] (fun q => some (E37 q))) :=
  .br (decide (s1 ≤ s6)) (.c1 (P35 N s6) (fun x1 => .ck (room (x1.length + ([125, 10] : Bs).length)) (.ck (room (s5.length + (x1 ++ ([125, 10] : Bs)).length)) (.leaf (.next (s1, (s5 ++ (x1 ++ ([125, 10] : Bs))), (IntKind.i64.wrap (s6 - 1)))))))) (.leaf (.brk 0 (s1, s5, s6)))
noncomputable def L37_3 (N : Nat) (s1 : Int) (s5 : Bs) (s6 : Int) : Option (Lp (Int × Bs × Int) Bs) := (U37_3 N s1 s5 s6).eval
noncomputable def W37_3 (N : Nat) (x : (Int × Bs × Int)) : Option (Lp (Int × Bs × Int) Bs) := runLoop (fun x => L37_3 N x.1 x.2.1 x.2.2) N x
theorem WS37_3 (N : Nat) (x : (shTy l37_3).I) : ∀ o, W37_3 N x = some o → S Try.prog (.loop b37_3) (buildSt 20 l37_3 x) (stepZ (rdD Try.prog Try.f37 false) l37_3 (encO 20 l37_3 [0] (fun q => some (E37 q)) o)) :=
  fun o h => loop_S (l := l37_3) (step := fun x => L37_3 N x.1 x.2.1 x.2.2) (fun x o h => wpc_sound (tbl := []) (μ := []) mixed _ _ _ (by
    have h1 := Vt.sound _ h
    refine Eq.mp ?_ h1
    kernel_rfl)) N x o h
noncomputable def V37 (N : Nat) (a0 : Int) (a1 : Int) : Vt Bs (Option D) (fun q => some (E37 q)) :=
  .f1 (l := l37_3) (o := W37_3 N (a1, ([] : Bs), (IntKind.i64.wrap (a0 - 1)))) (WS37_3 N (a1, ([] : Bs), (IntKind.i64.wrap (a0 - 1)))) (fun x1 => .leaf x1.2.1)
noncomputable def F37 (N : Nat) (a0 : Int) (a1 : Int) : Option Bs := (V37 N a0 a1).eval
def t37 : List (Nat × List Nat × List (Nat × Sh)) := [(3, [0], l37_3)]
theorem P37 (N : Nat) (a0 : Int) (a1 : Int) : ∀ r, F37 N a0 a1 = some r → Spec Try.prog 37 [.val tI a0, .val tI a1] (E37 r) := fun r h => Spec_of (fn := Try.f37) rfl rfl rfl rfl false (wpc_sound (tbl := t37) (μ := []) mixed _ _ _ (by
  have h1 := Vt.sound _ h
  refine Eq.mp ?_ h1
  kernel_rfl))

/-! ferryslip/show.Text -/
def E18 : (Bs × Int) → D := fun x => .tup [encV tS x.1, encV tI x.2]
abbrev l18_5 : List (Nat × Sh) := [(0, .val (.list tLn)), (4, .grp false 4 71 [.slf, .buf 5]), (13, .val (.list tLn)), (14, .val tI), (15, .val tI)]
noncomputable def b18_5 : Code := loopBody 5 (bodyOf Try.f18)
noncomputable def U18_5 (N : Nat) (s0 : (List Ln)) (s4 : (Bool × (List Int))) (s13 : (List Ln)) (s14 : Int) (s15 : Int) : Vt (Lp (shTy l18_5).I (Bs × Int)) (O3 (Option D)) (encO 60 l18_5 [0] (fun q => some (E18 q))) :=
  .br (decide (s15 < s14)) (.ck (inR s15 s13.length) (.c2 (P33 N ((atI tLn s13 s15).2.1)) (fun x1 x2 => .nb (.c1 (P35 N ((atI tLn s13 s15).1)) (fun x3 => .c1 (P36 N ((atI tLn s13 s15).2.2)) (fun x4 => .ck (room (x3.length + x4.length)) (.ck (room ((x3 ++ x4).length + x1.length)) (.cr (P34b N (true, s4.2) ((x3 ++ x4) ++ x1)) (fun x5 => .br (decide ((IntKind.i64.wrap (s15 + 1)) < (s0.length : Int))) (.ck (inR (IntKind.i64.wrap (s15 + 1)) s0.length) (.br (decide (((atI tLn s13 s15).1) < ((atI tLn s0 (IntKind.i64.wrap (s15 + 1))).1))) (.cr (P34b N (true, x5.2) ([32, 123, 10] : Bs)) (fun x6 => .leaf (.next (s0, (true, x6.2), s13, s14, (IntKind.i64.wrap (s15 + 1)))))) (.c1 (P37 N ((atI tLn s13 s15).1) ((atI tLn s0 (IntKind.i64.wrap (s15 + 1))).1)) (fun x7 => .ck (room (([59, 10] : Bs).length + x7.length)) (.cr (P34b N (true, x5.2) (([59, 10] : Bs) ++ x7)) (fun x8 => .leaf (.next (s0, (true, x8.2), s13, s14, (IntKind.i64.wrap (s15 + 1)))))))))) (.br (decide (((atI tLn s13 s15).1) < 0)) (.cr (P34b N (true, x5.2) ([32, 123, 10] : Bs)) (fun x9 => .leaf (.next (s0, (true, x9.2), s13, s14, (IntKind.i64.wrap (s15 + 1)))))) (.c1 (P37 N ((atI tLn s13 s15).1) 0) (fun x10 => .ck (room (([59, 10] : Bs).length + x10.length)) (.cr (P34b N (true, x5.2) (([59, 10] : Bs) ++ x10)) (fun x11 => .leaf (.next (s0, (true, x11.2), s13, s14, (IntKind.i64.wrap (s15 + 1))))))))))))))) (.c1 (P35 N ((atI tLn s13 s15).1)) (fun x12 => .c1 (P36 N ((atI tLn s13 s15).2.2)) (fun x13 => .ck (room (x12.length + x13.length)) (.ck (room ((x12 ++ x13).length + x1.length)) (.cr (P34b N (true, s4.2) ((x12 ++ x13) ++ x1)) (fun x14 => .br (decide ((IntKind.i64.wrap (s15 + 1)) < (s0.length : Int))) (.ck (inR (IntKind.i64.wrap (s15 + 1)) s0.length) (.br (decide (((atI tLn s13 s15).1) < ((atI tLn s0 (IntKind.i64.wrap (s15 + 1))).1))) (.cr (P34b N (true, x14.2) ([32, 123, 10] : Bs)) (fun x15 => .leaf (.next (s0, (true, x15.2), s13, s14, (IntKind.i64.wrap (s15 + 1)))))) (.c1 (P37 N ((atI tLn s13 s15).1) ((atI tLn s0 (IntKind.i64.wrap (s15 + 1))).1)) (fun x16 => .ck (room (([59, 10] : Bs).length + x16.length)) (.cr (P34b N (true, x14.2) (([59, 10] : Bs) ++ x16)) (fun x17 => .leaf (.next (s0, (true, x17.2), s13, s14, (IntKind.i64.wrap (s15 + 1)))))))))) (.br (decide (((atI tLn s13 s15).1) < 0)) (.cr (P34b N (true, x14.2) ([32, 123, 10] : Bs)) (fun x18 => .leaf (.next (s0, (true, x18.2), s13, s14, (IntKind.i64.wrap (s15 + 1)))))) (.c1 (P37 N ((atI tLn s13 s15).1) 0) (fun x19 => .ck (room (([59, 10] : Bs).length + x19.length)) (.cr (P34b N (true, x14.2) (([59, 10] : Bs) ++ x19)) (fun x20 => .leaf (.next (s0, (true, x20.2), s13, s14, (IntKind.i64.wrap (s15 + 1)))))))))))))))))) (.leaf (.brk 0 (s0, (true, s4.2), s13, s14, s15)))
noncomputable def L18_5 (N : Nat) (s0 : (List Ln)) (s4 : (Bool × (List Int))) (s13 : (List Ln)) (s14 : Int) (s15 : Int) : Option (Lp ((List Ln) × (Bool × (List Int)) × (List Ln) × Int × Int) (Bs × Int)) := (U18_5 N s0 s4 s13 s14 s15).eval
noncomputable def W18_5 (N : Nat) (x : ((List Ln) × (Bool × (List Int)) × (List Ln) × Int × Int)) : Option (Lp ((List Ln) × (Bool × (List Int)) × (List Ln) × Int × Int) (Bs × Int)) := runLoop (fun x => L18_5 N x.1 x.2.1 x.2.2.1 x.2.2.2.1 x.2.2.2.2) N x
theorem WS18_5 (N : Nat) (x : (shTy l18_5).I) : ∀ o, W18_5 N x = some o → S Try.prog (.loop b18_5) (buildSt 60 l18_5 x) (stepZ (rdD Try.prog Try.f18 false) l18_5 (encO 60 l18_5 [0] (fun q => some (E18 q)) o)) :=
  fun o h => loop_S (l := l18_5) (step := fun x => L18_5 N x.1 x.2.1 x.2.2.1 x.2.2.2.1 x.2.2.2.2) (fun x o h => wpc_sound (tbl := []) (μ := [4000034]) mixed _ _ _ (by
    have h1 := Vt.sound _ h
    refine Eq.mp ?_ h1
    kernel_rfl)) N x o h
noncomputable def V18 (N : Nat) (a0 : (List Ln)) : Vt (Bs × Int) (Option D) (fun q => some (E18 q)) :=
  .c1 (P19 N a0) (fun x1 => .br (!x1) (.leaf (([] : Bs), 1)) (.f1 (l := l18_5) (o := W18_5 N (a0, (true, ([] : List Int)), a0, (a0.length : Int), 0)) (WS18_5 N (a0, (true, ([] : List Int)), a0, (a0.length : Int), 0)) (fun x2 => .cr (P38k N (true, x2.2.1.2)) (fun x3 => .leaf (x3, 0)))))
noncomputable def F18 (N : Nat) (a0 : (List Ln)) : Option (Bs × Int) := (V18 N a0).eval
def t18 : List (Nat × List Nat × List (Nat × Sh)) := [(5, [0], l18_5)]
theorem P18 (N : Nat) (a0 : (List Ln)) : ∀ r, F18 N a0 = some r → Spec Try.prog 18 [.val (.list tLn) a0] (E18 r) := fun r h => Spec_of (fn := Try.f18) rfl rfl rfl rfl false (wpc_sound (tbl := t18) (μ := [4000034, 5000038]) mixed _ _ _ (by
  have h1 := Vt.sound _ h
  refine Eq.mp ?_ h1
  kernel_rfl))

/-! ferryslip/ferrysliplaw05.ParseBack -/
def E8 : Bool → D := fun x => encV tB x
noncomputable def V8 (N : Nat) (a0 : (List Ln)) : Vt Bool (Option D) (fun q => some (E8 q)) :=
  .c1 (P14 N a0) (fun x1 => .br (!x1) (.c1 (P10 N) (fun x2 => .leaf x2)) (.c2 (P18 N a0) (fun x3 x4 => .br (x4 != 0) (.c1 (P15 N a0) (fun x5 => .br (!x5) (.c1 (P10 N) (fun x6 => .leaf x6)) (.leaf false))) (.c3 (P11 N x3) (fun x7 x8 x9 => .br (x9 == 0) (.br (x8 == 0) (.c1 (P13 N a0 x7) (fun x10 => .br x10 (.c1 (P10 N) (fun x11 => .leaf x11)) (.leaf false))) (.leaf false)) (.leaf false))))))
noncomputable def F8 (N : Nat) (a0 : (List Ln)) : Option Bool := (V8 N a0).eval
def t8 : List (Nat × List Nat × List (Nat × Sh)) := []
theorem P8 (N : Nat) (a0 : (List Ln)) : ∀ r, F8 N a0 = some r → Spec Try.prog 8 [.val (.list tLn) a0] (E8 r) := fun r h => Spec_of (fn := Try.f8) rfl rfl rfl rfl false (wpc_sound (tbl := t8) (μ := []) mixed _ _ _ (by
  have h1 := Vt.sound _ h
  refine Eq.mp ?_ h1
  kernel_rfl))

/-! ferryslip/ferrysliplaw05.ParseFixed -/
def E9 : Bool → D := fun x => encV tB x
noncomputable def V9 (N : Nat) (a0 : Bs) : Vt Bool (Option D) (fun q => some (E9 q)) :=
  .br (decide ((600 : Int) < (a0.length : Int))) (.c1 (P10 N) (fun x1 => .leaf x1)) (.c3 (P11 N a0) (fun x2 x3 x4 => .br (x4 != 0) (.br ((x2.length : Int) == 0) (.br (decide ((0 : Int) ≤ x3)) (.br (decide (x3 ≤ (a0.length : Int))) (.c1 (P10 N) (fun x5 => .leaf x5)) (.leaf false)) (.leaf false)) (.leaf false)) (.c2 (P18 N x2) (fun x6 x7 => .c3 (P11 N x6) (fun x8 x9 x10 => .c2 (P18 N x8) (fun x11 x12 => .c1 (P19 N x2) (fun x13 => .br x13 (.br (x7 == 0) (.br (x10 == 0) (.br (x12 == 0) (.c1 (P13 N x2 x8) (fun x14 => .br x14 (.br (x6 == x11) (.c1 (P10 N) (fun x15 => .leaf x15)) (.leaf false)) (.leaf false))) (.leaf false)) (.leaf false)) (.leaf false)) (.leaf false))))))))
noncomputable def F9 (N : Nat) (a0 : Bs) : Option Bool := (V9 N a0).eval
def t9 : List (Nat × List Nat × List (Nat × Sh)) := []
theorem P9 (N : Nat) (a0 : Bs) : ∀ r, F9 N a0 = some r → Spec Try.prog 9 [.val tS a0] (E9 r) := fun r h => Spec_of (fn := Try.f9) rfl rfl rfl rfl false (wpc_sound (tbl := t9) (μ := []) mixed _ _ _ (by
  have h1 := Vt.sound _ h
  refine Eq.mp ?_ h1
  kernel_rfl))

end Go.Proofs.Ytmohgkoomnihfaa.Vc
