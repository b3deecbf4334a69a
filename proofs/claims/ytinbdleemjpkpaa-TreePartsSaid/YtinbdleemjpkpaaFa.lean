/-
  WHAT THE FUNCTIONS DO WITH DATA, printed by a program from the translation. No condition.
-/
import Derived.Test.YtinbdleemjpkpaaRv
set_option linter.unusedVariables false
set_option linter.unusedSimpArgs false
namespace Go.Proofs.Ytinbdleemjpkpaa.Vc
open Go.RowKit

/-! ferryslip/ferryslipref03.Small -/
def E9 : Bool → D := fun x => encV tB x
abbrev l9_4 : List (Nat × Sh) := [(0, .val (.list tLn)), (3, .val tI)]
noncomputable def b9_4 : Code := loopBody 4 (bodyOf Try.f9)
noncomputable def U9_4 (N : Nat) (s0 : (List Ln)) (s3 : Int) : Vt (Lp (shTy l9_4).I Bool) (O3 (Option D)) (encO 20 l9_4 [0] (fun q => some (E9 q))) :=
  .br (decide (s3 < (s0.length : Int))) (.ck (inR s3 s0.length) (.br (decide ((100 : Int) < (((atI tLn s0 s3).2.1).length : Int))) (.leaf (.ret false)) (.leaf (.next (s0, (IntKind.i64.wrap (s3 + 1))))))) (.leaf (.brk 0 (s0, s3)))
noncomputable def L9_4 (N : Nat) (s0 : (List Ln)) (s3 : Int) : Option (Lp ((List Ln) × Int) Bool) := (U9_4 N s0 s3).eval
noncomputable def W9_4 (N : Nat) (x : ((List Ln) × Int)) : Option (Lp ((List Ln) × Int) Bool) := runLoop (fun x => L9_4 N x.1 x.2) N x
theorem WS9_4 (N : Nat) (x : (shTy l9_4).I) : ∀ o, W9_4 N x = some o → S Try.prog (.loop b9_4) (buildSt 20 l9_4 x) (stepZ (rdD Try.prog Try.f9 false) l9_4 (encO 20 l9_4 [0] (fun q => some (E9 q)) o)) :=
  fun o h => loop_S (l := l9_4) (step := fun x => L9_4 N x.1 x.2) (fun x o h => wpc_sound (tbl := []) (μ := []) mixed _ _ _ (by
    have h1 := Vt.sound _ h
    refine Eq.mp ?_ h1
    kernel_rfl)) N x o h
noncomputable def V9 (N : Nat) (a0 : (List Ln)) : Vt Bool (Option D) (fun q => some (E9 q)) :=
  .br (decide ((220 : Int) < (a0.length : Int))) (.leaf false) (.f1 (l := l9_4) (o := W9_4 N (a0, 0)) (WS9_4 N (a0, 0)) (fun x1 => .leaf true))
noncomputable def F9 (N : Nat) (a0 : (List Ln)) : Option Bool := (V9 N a0).eval
def t9 : List (Nat × List Nat × List (Nat × Sh)) := [(4, [0], l9_4)]
theorem P9 (N : Nat) (a0 : (List Ln)) : ∀ r, F9 N a0 = some r → Spec Try.prog 9 [.val (.list tLn) a0] (E9 r) := fun r h => Spec_of (fn := Try.f9) rfl rfl rfl rfl false (wpc_sound (tbl := t9) (μ := []) mixed _ _ _ (by
  have h1 := Vt.sound _ h
  refine Eq.mp ?_ h1
  kernel_rfl))

/-! ferryslip/tree.sound -/
def E30 : Bool → D := fun x => encV tB x
noncomputable def V30 (N : Nat) (a0 : Ln) : Vt Bool (Option D) (fun q => some (E30 q)) :=
  .br (decide ((0 : Int) ≤ a0.1)) (.br (decide (a0.1 < 16)) (.br (decide ((a0.2.1.length : Int) ≤ 40)) (.br (decide ((0 : Int) ≤ a0.2.2)) (.leaf (decide (a0.2.2 ≤ 3))) (.leaf false)) (.leaf false)) (.leaf false)) (.leaf false)
noncomputable def F30 (N : Nat) (a0 : Ln) : Option Bool := (V30 N a0).eval
def t30 : List (Nat × List Nat × List (Nat × Sh)) := []
theorem P30 (N : Nat) (a0 : Ln) : ∀ r, F30 N a0 = some r → Spec Try.prog 30 [.agg [.val tI a0.1, .val tS a0.2.1, .val tI a0.2.2]] (E30 r) := fun r h => Spec_of (fn := Try.f30) rfl rfl rfl rfl false (wpc_sound (tbl := t30) (μ := []) mixed _ _ _ (by
  have h1 := Vt.sound _ h
  refine Eq.mp ?_ h1
  kernel_rfl))

/-! ferryslip/tree.Right -/
def E12 : Bool → D := fun x => encV tB x
abbrev l12_6 : List (Nat × Sh) := [(3, .arr 3 tS), (4, .val tI), (10, .val (.list tLn)), (11, .val tI), (12, .val tI)]
noncomputable def b12_6 : Code := loopBody 6 (bodyOf Try.f12)
noncomputable def U12_6 (N : Nat) (s3 : (List Bs)) (s4 : Int) (s10 : (List Ln)) (s11 : Int) (s12 : Int) : Vt (Lp (shTy l12_6).I Bool) (O3 (Option D)) (encO 48 l12_6 [0] (fun q => some (E12 q))) :=
  .br (decide (s12 < s11)) (.ck (inR s12 s10.length) (.c1 (P30 N (atI tLn s10 s12)) (fun x1 => .br (!x1) (.leaf (.ret false)) (.br (decide ((IntKind.i64.wrap (s4 + 1)) < ((atI tLn s10 s12).1))) (.leaf (.ret false)) (.br (decide (((atI tLn s10 s12).1) ≤ s4)) (.ck (inR ((atI tLn s10 s12).1) 16) (.ck (s3.length = 16) (.ck (inR ((atI tLn s10 s12).1) s3.length) (.br ((Op.bytesLess ((atI tLn s10 s12).2.1) (atI tS s3 ((atI tLn s10 s12).1))) || (((atI tLn s10 s12).2.1) == (atI tS s3 ((atI tLn s10 s12).1)))) (.leaf (.ret false)) (.ck (inR ((atI tLn s10 s12).1) 16) (.ck (s3.length = 16) (.ck (inR ((atI tLn s10 s12).1) s3.length) (.leaf (.next ((s3.set ((atI tLn s10 s12).1).toNat ((atI tLn s10 s12).2.1)), (atI tLn s10 s12).1, s10, s11, (IntKind.i64.wrap (s12 + 1)))))))))))) (.ck (inR ((atI tLn s10 s12).1) 16) (.ck (s3.length = 16) (.ck (inR ((atI tLn s10 s12).1) s3.length) (.leaf (.next ((s3.set ((atI tLn s10 s12).1).toNat ((atI tLn s10 s12).2.1)), (atI tLn s10 s12).1, s10, s11, (IntKind.i64.wrap (s12 + 1))))))))))))) (.leaf (.brk 0 (s3, s4, s10, s11, s12)))
noncomputable def L12_6 (N : Nat) (s3 : (List Bs)) (s4 : Int) (s10 : (List Ln)) (s11 : Int) (s12 : Int) : Option (Lp ((List Bs) × Int × (List Ln) × Int × Int) Bool) := (U12_6 N s3 s4 s10 s11 s12).eval
noncomputable def W12_6 (N : Nat) (x : ((List Bs) × Int × (List Ln) × Int × Int)) : Option (Lp ((List Bs) × Int × (List Ln) × Int × Int) Bool) := runLoop (fun x => L12_6 N x.1 x.2.1 x.2.2.1 x.2.2.2.1 x.2.2.2.2) N x
theorem WS12_6 (N : Nat) (x : (shTy l12_6).I) : ∀ o, W12_6 N x = some o → S Try.prog (.loop b12_6) (buildSt 48 l12_6 x) (stepZ (rdD Try.prog Try.f12 false) l12_6 (encO 48 l12_6 [0] (fun q => some (E12 q)) o)) :=
  fun o h => loop_S (l := l12_6) (step := fun x => L12_6 N x.1 x.2.1 x.2.2.1 x.2.2.2.1 x.2.2.2.2) (fun x o h => wpc_sound (tbl := []) (μ := []) mixed _ _ _ (by
    have h1 := Vt.sound _ h
    refine Eq.mp ?_ h1
    kernel_rfl)) N x o h
noncomputable def V12 (N : Nat) (a0 : (List Ln)) : Vt Bool (Option D) (fun q => some (E12 q)) :=
  .br (decide ((200 : Int) < (a0.length : Int))) (.leaf false) (.f1 (l := l12_6) (o := W12_6 N (([([] : Bs), ([] : Bs), ([] : Bs), ([] : Bs), ([] : Bs), ([] : Bs), ([] : Bs), ([] : Bs), ([] : Bs), ([] : Bs), ([] : Bs), ([] : Bs), ([] : Bs), ([] : Bs), ([] : Bs), ([] : Bs)] : (List Bs)), (-1), a0, (a0.length : Int), 0)) (WS12_6 N (([([] : Bs), ([] : Bs), ([] : Bs), ([] : Bs), ([] : Bs), ([] : Bs), ([] : Bs), ([] : Bs), ([] : Bs), ([] : Bs), ([] : Bs), ([] : Bs), ([] : Bs), ([] : Bs), ([] : Bs), ([] : Bs)] : (List Bs)), (-1), a0, (a0.length : Int), 0)) (fun x1 => .leaf true))
noncomputable def F12 (N : Nat) (a0 : (List Ln)) : Option Bool := (V12 N a0).eval
def t12 : List (Nat × List Nat × List (Nat × Sh)) := [(6, [0], l12_6)]
theorem P12 (N : Nat) (a0 : (List Ln)) : ∀ r, F12 N a0 = some r → Spec Try.prog 12 [.val (.list tLn) a0] (E12 r) := fun r h => Spec_of (fn := Try.f12) rfl rfl rfl rfl false (wpc_sound (tbl := t12) (μ := []) mixed _ _ _ (by
  have h1 := Vt.sound _ h
  refine Eq.mp ?_ h1
  kernel_rfl))

/-! ferryslip/tree.there -/
def E31 : Bool → D := fun x => encV tB x
noncomputable def V31 (N : Nat) (a0 : (List Ln)) (a1 : Int) : Vt Bool (Option D) (fun q => some (E31 q)) :=
  .br (decide ((0 : Int) ≤ a1)) (.br (decide (a1 < (a0.length : Int))) (.c1 (P12 N a0) (fun x1 => .leaf x1)) (.leaf false)) (.leaf false)
noncomputable def F31 (N : Nat) (a0 : (List Ln)) (a1 : Int) : Option Bool := (V31 N a0 a1).eval
def t31 : List (Nat × List Nat × List (Nat × Sh)) := []
theorem P31 (N : Nat) (a0 : (List Ln)) (a1 : Int) : ∀ r, F31 N a0 a1 = some r → Spec Try.prog 31 [.val (.list tLn) a0, .val tI a1] (E31 r) := fun r h => Spec_of (fn := Try.f31) rfl rfl rfl rfl false (wpc_sound (tbl := t31) (μ := []) mixed _ _ _ (by
  have h1 := Vt.sound _ h
  refine Eq.mp ?_ h1
  kernel_rfl))

/-! ferryslip/tree.Under -/
def E15 : Int → D := fun x => encV tI x
abbrev l15_4 : List (Nat × Sh) := [(0, .val (.list tLn)), (1, .val tI), (5, .val tI)]
noncomputable def b15_4 : Code := loopBody 4 (bodyOf Try.f15)
noncomputable def U15_4 (N : Nat) (s0 : (List Ln)) (s1 : Int) (s5 : Int) : Vt (Lp (shTy l15_4).I Int) (O3 (Option D)) (encO 29 l15_4 [0] (fun q => some (E15 q))) :=
  .br (decide ((0 : Int) ≤ s5)) (.ck (inR s5 s0.length) (.ck (inR s1 s0.length) (.br (decide (((atI tLn s0 s1).1) ≤ ((atI tLn s0 s5).1))) (.leaf (.next (s0, s1, (IntKind.i64.wrap (s5 - 1))))) (.leaf (.brk 0 (s0, s1, s5)))))) (.leaf (.brk 0 (s0, s1, s5)))
noncomputable def L15_4 (N : Nat) (s0 : (List Ln)) (s1 : Int) (s5 : Int) : Option (Lp ((List Ln) × Int × Int) Int) := (U15_4 N s0 s1 s5).eval
noncomputable def W15_4 (N : Nat) (x : ((List Ln) × Int × Int)) : Option (Lp ((List Ln) × Int × Int) Int) := runLoop (fun x => L15_4 N x.1 x.2.1 x.2.2) N x
theorem WS15_4 (N : Nat) (x : (shTy l15_4).I) : ∀ o, W15_4 N x = some o → S Try.prog (.loop b15_4) (buildSt 29 l15_4 x) (stepZ (rdD Try.prog Try.f15 false) l15_4 (encO 29 l15_4 [0] (fun q => some (E15 q)) o)) :=
  fun o h => loop_S (l := l15_4) (step := fun x => L15_4 N x.1 x.2.1 x.2.2) (fun x o h => wpc_sound (tbl := []) (μ := []) mixed _ _ _ (by
    have h1 := Vt.sound _ h
    refine Eq.mp ?_ h1
    kernel_rfl)) N x o h
noncomputable def V15 (N : Nat) (a0 : (List Ln)) (a1 : Int) : Vt Int (Option D) (fun q => some (E15 q)) :=
  .c1 (P31 N a0 a1) (fun x1 => .br (!x1) (.leaf (-1)) (.f1 (l := l15_4) (o := W15_4 N (a0, a1, a1)) (WS15_4 N (a0, a1, a1)) (fun x2 => .leaf x2.2.2)))
noncomputable def F15 (N : Nat) (a0 : (List Ln)) (a1 : Int) : Option Int := (V15 N a0 a1).eval
def t15 : List (Nat × List Nat × List (Nat × Sh)) := [(4, [0], l15_4)]
theorem P15 (N : Nat) (a0 : (List Ln)) (a1 : Int) : ∀ r, F15 N a0 a1 = some r → Spec Try.prog 15 [.val (.list tLn) a0, .val tI a1] (E15 r) := fun r h => Spec_of (fn := Try.f15) rfl rfl rfl rfl false (wpc_sound (tbl := t15) (μ := []) mixed _ _ _ (by
  have h1 := Vt.sound _ h
  refine Eq.mp ?_ h1
  kernel_rfl))

/-! ferryslip/tree.Path -/
def E13o : ((List Bs) × Int) → D := fun x => .tup [.own 9 tS x.1, encV tI x.2]
abbrev l13o_5 : List (Nat × Sh) := [(0, .val (.list tLn)), (6, .row false 25 9 tS), (7, .val tI)]
noncomputable def b13o_5 : Code := loopBody 5 (bodyOf Try.f13)
noncomputable def U13o_5 (N : Nat) (s0 : (List Ln)) (s6 : (List Bs)) (s7 : Int) : Vt (Lp (shTy l13o_5).I ((List Bs) × Int)) (O3 (Option D)) (encO 29 l13o_5 [0] (fun q => some (E13o q))) :=
  .br (decide ((0 : Int) ≤ s7)) (.ck (inR s7 s0.length) (.ck (room (s6.length + ([(atI tLn s0 s7).2.1] : (List Bs)).length)) (.c1 (P15 N s0 s7) (fun x1 => .leaf (.next (s0, (s6 ++ ([(atI tLn s0 s7).2.1] : (List Bs))), x1)))))) (.leaf (.brk 0 (s0, s6, s7)))
noncomputable def L13o_5 (N : Nat) (s0 : (List Ln)) (s6 : (List Bs)) (s7 : Int) : Option (Lp ((List Ln) × (List Bs) × Int) ((List Bs) × Int)) := (U13o_5 N s0 s6 s7).eval
noncomputable def W13o_5 (N : Nat) (x : ((List Ln) × (List Bs) × Int)) : Option (Lp ((List Ln) × (List Bs) × Int) ((List Bs) × Int)) := runLoop (fun x => L13o_5 N x.1 x.2.1 x.2.2) N x
theorem WS13o_5 (N : Nat) (x : (shTy l13o_5).I) : ∀ o, W13o_5 N x = some o → S Try.prog (.loop b13o_5) (buildSt 29 l13o_5 x) (stepZ (rdD Try.prog Try.f13 true) l13o_5 (encO 29 l13o_5 [0] (fun q => some (E13o q)) o)) :=
  fun o h => loop_S (l := l13o_5) (step := fun x => L13o_5 N x.1 x.2.1 x.2.2) (fun x o h => wpc_sound (tbl := []) (μ := []) mixed _ _ _ (by
    have h1 := Vt.sound _ h
    refine Eq.mp ?_ h1
    kernel_rfl)) N x o h
noncomputable def V13o (N : Nat) (a0 : (List Ln)) (a1 : Int) : Vt ((List Bs) × Int) (Option D) (fun q => some (E13o q)) :=
  .c1 (P31 N a0 a1) (fun x1 => .br (!x1) (.leaf (([] : (List Bs)), 1)) (.f1 (l := l13o_5) (o := W13o_5 N (a0, ([] : (List Bs)), a1)) (WS13o_5 N (a0, ([] : (List Bs)), a1)) (fun x1 => .cr (P32r N x1.2.1) (fun x2 => .leaf (x2, 0)))))
noncomputable def F13o (N : Nat) (a0 : (List Ln)) (a1 : Int) : Option ((List Bs) × Int) := (V13o N a0 a1).eval
def t13o : List (Nat × List Nat × List (Nat × Sh)) := [(5, [0], l13o_5)]
theorem P13o (N : Nat) (a0 : (List Ln)) (a1 : Int) : ∀ r, F13o N a0 a1 = some r → Spec Try.prog 13 [.val (.list tLn) a0, .val tI a1] (E13o r) := fun r h => Spec_of (fn := Try.f13) rfl rfl rfl rfl true (wpc_sound (tbl := t13o) (μ := [1000032]) mixed _ _ _ (by
  have h1 := Vt.sound _ h
  refine Eq.mp ?_ h1
  kernel_rfl))

/-! ferryslip/tree.End -/
def E16 : Int → D := fun x => encV tI x
abbrev l16_4 : List (Nat × Sh) := [(0, .val (.list tLn)), (1, .val tI), (5, .val tI)]
noncomputable def b16_4 : Code := loopBody 4 (bodyOf Try.f16)
noncomputable def U16_4 (N : Nat) (s0 : (List Ln)) (s1 : Int) (s5 : Int) : Vt (Lp (shTy l16_4).I Int) (O3 (Option D)) (encO 32 l16_4 [0] (fun q => some (E16 q))) :=
  .br (decide (s5 < (s0.length : Int))) (.ck (inR s5 s0.length) (.ck (inR s1 s0.length) (.br (decide (((atI tLn s0 s1).1) < ((atI tLn s0 s5).1))) (.leaf (.next (s0, s1, (IntKind.i64.wrap (s5 + 1))))) (.leaf (.brk 0 (s0, s1, s5)))))) (.leaf (.brk 0 (s0, s1, s5)))
noncomputable def L16_4 (N : Nat) (s0 : (List Ln)) (s1 : Int) (s5 : Int) : Option (Lp ((List Ln) × Int × Int) Int) := (U16_4 N s0 s1 s5).eval
noncomputable def W16_4 (N : Nat) (x : ((List Ln) × Int × Int)) : Option (Lp ((List Ln) × Int × Int) Int) := runLoop (fun x => L16_4 N x.1 x.2.1 x.2.2) N x
theorem WS16_4 (N : Nat) (x : (shTy l16_4).I) : ∀ o, W16_4 N x = some o → S Try.prog (.loop b16_4) (buildSt 32 l16_4 x) (stepZ (rdD Try.prog Try.f16 false) l16_4 (encO 32 l16_4 [0] (fun q => some (E16 q)) o)) :=
  fun o h => loop_S (l := l16_4) (step := fun x => L16_4 N x.1 x.2.1 x.2.2) (fun x o h => wpc_sound (tbl := []) (μ := []) mixed _ _ _ (by
    have h1 := Vt.sound _ h
    refine Eq.mp ?_ h1
    kernel_rfl)) N x o h
noncomputable def V16 (N : Nat) (a0 : (List Ln)) (a1 : Int) : Vt Int (Option D) (fun q => some (E16 q)) :=
  .c1 (P31 N a0 a1) (fun x1 => .br (!x1) (.leaf 0) (.f1 (l := l16_4) (o := W16_4 N (a0, a1, (IntKind.i64.wrap (a1 + 1)))) (WS16_4 N (a0, a1, (IntKind.i64.wrap (a1 + 1)))) (fun x2 => .leaf x2.2.2)))
noncomputable def F16 (N : Nat) (a0 : (List Ln)) (a1 : Int) : Option Int := (V16 N a0 a1).eval
def t16 : List (Nat × List Nat × List (Nat × Sh)) := [(4, [0], l16_4)]
theorem P16 (N : Nat) (a0 : (List Ln)) (a1 : Int) : ∀ r, F16 N a0 a1 = some r → Spec Try.prog 16 [.val (.list tLn) a0, .val tI a1] (E16 r) := fun r h => Spec_of (fn := Try.f16) rfl rfl rfl rfl false (wpc_sound (tbl := t16) (μ := []) mixed _ _ _ (by
  have h1 := Vt.sound _ h
  refine Eq.mp ?_ h1
  kernel_rfl))

/-! ferryslip/tree.Kids -/
def E14o : (List Int) → D := fun x => .own 3 tI x
abbrev l14o_8 : List (Nat × Sh) := [(0, .val (.list tLn)), (6, .val tI), (7, .val tI), (8, .row false 54 3 tI), (9, .val tI)]
noncomputable def b14o_8 : Code := loopBody 8 (bodyOf Try.f14)
noncomputable def U14o_8 (N : Nat) (s0 : (List Ln)) (s6 : Int) (s7 : Int) (s8 : (List Int)) (s9 : Int) : Vt (Lp (shTy l14o_8).I (List Int)) (O3 (Option D)) (encO 56 l14o_8 [0] (fun q => some (E14o q))) :=
  .br (decide (s9 < s6)) (.ck (inR s9 s0.length) (.br (((atI tLn s0 s9).1) == s7) (.ck (room (s8.length + ([s9] : (List Int)).length)) (.leaf (.next (s0, s6, s7, (s8 ++ ([s9] : (List Int))), (IntKind.i64.wrap (s9 + 1)))))) (.leaf (.next (s0, s6, s7, s8, (IntKind.i64.wrap (s9 + 1))))))) (.leaf (.brk 0 (s0, s6, s7, s8, s9)))
noncomputable def L14o_8 (N : Nat) (s0 : (List Ln)) (s6 : Int) (s7 : Int) (s8 : (List Int)) (s9 : Int) : Option (Lp ((List Ln) × Int × Int × (List Int) × Int) (List Int)) := (U14o_8 N s0 s6 s7 s8 s9).eval
noncomputable def W14o_8 (N : Nat) (x : ((List Ln) × Int × Int × (List Int) × Int)) : Option (Lp ((List Ln) × Int × Int × (List Int) × Int) (List Int)) := runLoop (fun x => L14o_8 N x.1 x.2.1 x.2.2.1 x.2.2.2.1 x.2.2.2.2) N x
theorem WS14o_8 (N : Nat) (x : (shTy l14o_8).I) : ∀ o, W14o_8 N x = some o → S Try.prog (.loop b14o_8) (buildSt 56 l14o_8 x) (stepZ (rdD Try.prog Try.f14 true) l14o_8 (encO 56 l14o_8 [0] (fun q => some (E14o q)) o)) :=
  fun o h => loop_S (l := l14o_8) (step := fun x => L14o_8 N x.1 x.2.1 x.2.2.1 x.2.2.2.1 x.2.2.2.2) (fun x o h => wpc_sound (tbl := []) (μ := []) mixed _ _ _ (by
    have h1 := Vt.sound _ h
    refine Eq.mp ?_ h1
    kernel_rfl)) N x o h
noncomputable def V14o (N : Nat) (a0 : (List Ln)) (a1 : Int) : Vt (List Int) (Option D) (fun q => some (E14o q)) :=
  .c1 (P12 N a0) (fun x1 => .br (!x1) (.leaf ([] : (List Int))) (.br (decide (a1 < (-1))) (.leaf ([] : (List Int))) (.br (decide ((a0.length : Int) ≤ a1)) (.leaf ([] : (List Int))) (.br (decide ((0 : Int) ≤ a1)) (.c1 (P16 N a0 a1) (fun x2 => .ck (inR a1 a0.length) (.f1 (l := l14o_8) (o := W14o_8 N (a0, x2, (IntKind.i64.wrap (((atI tLn a0 a1).1) + 1)), ([] : (List Int)), (IntKind.i64.wrap (a1 + 1)))) (WS14o_8 N (a0, x2, (IntKind.i64.wrap (((atI tLn a0 a1).1) + 1)), ([] : (List Int)), (IntKind.i64.wrap (a1 + 1)))) (fun x1 => .leaf x1.2.2.2.1)))) (.f1 (l := l14o_8) (o := W14o_8 N (a0, (a0.length : Int), 0, ([] : (List Int)), 0)) (WS14o_8 N (a0, (a0.length : Int), 0, ([] : (List Int)), 0)) (fun x2 => .leaf x2.2.2.2.1))))))
noncomputable def F14o (N : Nat) (a0 : (List Ln)) (a1 : Int) : Option (List Int) := (V14o N a0 a1).eval
def t14o : List (Nat × List Nat × List (Nat × Sh)) := [(8, [0], l14o_8)]
theorem P14o (N : Nat) (a0 : (List Ln)) (a1 : Int) : ∀ r, F14o N a0 a1 = some r → Spec Try.prog 14 [.val (.list tLn) a0, .val tI a1] (E14o r) := fun r h => Spec_of (fn := Try.f14) rfl rfl rfl rfl true (wpc_sound (tbl := t14o) (μ := []) mixed _ _ _ (by
  have h1 := Vt.sound _ h
  refine Eq.mp ?_ h1
  kernel_rfl))

/-! slices.Clone[[]ferryslip/api.Line,ferryslip/api.Line] -/
def E33o : (List Ln) → D := fun x => .own 45 tLn x
noncomputable def V33o (N : Nat) (a0 : (List Ln)) : Vt (List Ln) (Option D) (fun q => some (E33o q)) :=
  .nq (a0 = []) (.leaf ([] : (List Ln))) (.ck (room (([] : (List Ln)).length + a0.length)) (.leaf (([] : (List Ln)) ++ a0)))
noncomputable def F33o (N : Nat) (a0 : (List Ln)) : Option (List Ln) := (V33o N a0).eval
def t33o : List (Nat × List Nat × List (Nat × Sh)) := []
theorem P33o (N : Nat) (a0 : (List Ln)) : ∀ r, F33o N a0 = some r → Spec Try.prog 33 [.val (.list tLn) a0] (E33o r) := fun r h => Spec_of (fn := Try.f33) rfl rfl rfl rfl true (wpc_sound (tbl := t33o) (μ := []) mixed _ _ _ (by
  have h1 := Vt.sound _ h
  refine Eq.mp ?_ h1
  kernel_rfl))

/-! ferryslip/tree.Sub -/
def E17o : (List Ln) → D := fun x => .own 45 tLn x
abbrev l17o_5 : List (Nat × Sh) := [(0, .val (.list tLn)), (1, .val tI), (5, .row false 17 45 tLn), (19, .val tI), (20, .val tI)]
noncomputable def b17o_5 : Code := loopBody 5 (bodyOf Try.f17)
noncomputable def U17o_5 (N : Nat) (s0 : (List Ln)) (s1 : Int) (s5 : (List Ln)) (s19 : Int) (s20 : Int) : Vt (Lp (shTy l17o_5).I (List Ln)) (O3 (Option D)) (encO 38 l17o_5 [0] (fun q => some (E17o q))) :=
  .br (decide (s20 < s19)) (.ck (inR s20 s5.length) (.ck (inR s20 s5.length) (.ck (inR s1 s0.length) (.ck (inR s20 s5.length) (.ck (inR s20 s5.length) (.leaf (.next (s0, s1, (s5.set s20.toNat ((IntKind.i64.wrap (((atI tLn s5 s20).1) - ((atI tLn s0 s1).1))), (atI tLn s5 s20).2)), s19, (IntKind.i64.wrap (s20 + 1)))))))))) (.leaf (.brk 0 (s0, s1, s5, s19, s20)))
noncomputable def L17o_5 (N : Nat) (s0 : (List Ln)) (s1 : Int) (s5 : (List Ln)) (s19 : Int) (s20 : Int) : Option (Lp ((List Ln) × Int × (List Ln) × Int × Int) (List Ln)) := (U17o_5 N s0 s1 s5 s19 s20).eval
noncomputable def W17o_5 (N : Nat) (x : ((List Ln) × Int × (List Ln) × Int × Int)) : Option (Lp ((List Ln) × Int × (List Ln) × Int × Int) (List Ln)) := runLoop (fun x => L17o_5 N x.1 x.2.1 x.2.2.1 x.2.2.2.1 x.2.2.2.2) N x
theorem WS17o_5 (N : Nat) (x : (shTy l17o_5).I) : ∀ o, W17o_5 N x = some o → S Try.prog (.loop b17o_5) (buildSt 38 l17o_5 x) (stepZ (rdD Try.prog Try.f17 true) l17o_5 (encO 38 l17o_5 [0] (fun q => some (E17o q)) o)) :=
  fun o h => loop_S (l := l17o_5) (step := fun x => L17o_5 N x.1 x.2.1 x.2.2.1 x.2.2.2.1 x.2.2.2.2) (fun x o h => wpc_sound (tbl := []) (μ := [17]) mixed _ _ _ (by
    have h1 := Vt.sound _ h
    refine Eq.mp ?_ h1
    kernel_rfl)) N x o h
noncomputable def V17o (N : Nat) (a0 : (List Ln)) (a1 : Int) : Vt (List Ln) (Option D) (fun q => some (E17o q)) :=
  .c1 (P31 N a0 a1) (fun x1 => .br (!x1) (.leaf ([] : (List Ln))) (.c1 (P16 N a0 a1) (fun x2 => .ck ((0 : Int) ≤ a1 ∧ a1 ≤ x2 ∧ x2 ≤ (a0.length : Int)) (.c1 (P33o N (slc a0 a1 x2)) (fun x3 => .f1 (l := l17o_5) (o := W17o_5 N (a0, a1, x3, (x3.length : Int), 0)) (WS17o_5 N (a0, a1, x3, (x3.length : Int), 0)) (fun x4 => .leaf x4.2.2.1))))))
noncomputable def F17o (N : Nat) (a0 : (List Ln)) (a1 : Int) : Option (List Ln) := (V17o N a0 a1).eval
def t17o : List (Nat × List Nat × List (Nat × Sh)) := [(5, [0], l17o_5)]
theorem P17o (N : Nat) (a0 : (List Ln)) (a1 : Int) : ∀ r, F17o N a0 a1 = some r → Spec Try.prog 17 [.val (.list tLn) a0, .val tI a1] (E17o r) := fun r h => Spec_of (fn := Try.f17) rfl rfl rfl rfl true (wpc_sound (tbl := t17o) (μ := [17]) mixed _ _ _ (by
  have h1 := Vt.sound _ h
  refine Eq.mp ?_ h1
  kernel_rfl))

/-! ferryslip/ferryslipref03.Ints -/
def E18 : Bool → D := fun x => encV tB x
abbrev l18_4 : List (Nat × Sh) := [(0, .val (.list tI)), (1, .val (.list tI)), (5, .val tI)]
noncomputable def b18_4 : Code := loopBody 4 (bodyOf Try.f18)
noncomputable def U18_4 (N : Nat) (s0 : (List Int)) (s1 : (List Int)) (s5 : Int) : Vt (Lp (shTy l18_4).I Bool) (O3 (Option D)) (encO 26 l18_4 [0] (fun q => some (E18 q))) :=
  .br (decide (s5 < (s0.length : Int))) (.ck (inR s5 s0.length) (.ck (inR s5 s1.length) (.br ((atI tI s0 s5) != (atI tI s1 s5)) (.leaf (.ret false)) (.leaf (.next (s0, s1, (IntKind.i64.wrap (s5 + 1)))))))) (.leaf (.brk 0 (s0, s1, s5)))
noncomputable def L18_4 (N : Nat) (s0 : (List Int)) (s1 : (List Int)) (s5 : Int) : Option (Lp ((List Int) × (List Int) × Int) Bool) := (U18_4 N s0 s1 s5).eval
noncomputable def W18_4 (N : Nat) (x : ((List Int) × (List Int) × Int)) : Option (Lp ((List Int) × (List Int) × Int) Bool) := runLoop (fun x => L18_4 N x.1 x.2.1 x.2.2) N x
theorem WS18_4 (N : Nat) (x : (shTy l18_4).I) : ∀ o, W18_4 N x = some o → S Try.prog (.loop b18_4) (buildSt 26 l18_4 x) (stepZ (rdD Try.prog Try.f18 false) l18_4 (encO 26 l18_4 [0] (fun q => some (E18 q)) o)) :=
  fun o h => loop_S (l := l18_4) (step := fun x => L18_4 N x.1 x.2.1 x.2.2) (fun x o h => wpc_sound (tbl := []) (μ := []) mixed _ _ _ (by
    have h1 := Vt.sound _ h
    refine Eq.mp ?_ h1
    kernel_rfl)) N x o h
noncomputable def V18 (N : Nat) (a0 : (List Int)) (a1 : (List Int)) : Vt Bool (Option D) (fun q => some (E18 q)) :=
  .br ((a0.length : Int) != (a1.length : Int)) (.leaf false) (.f1 (l := l18_4) (o := W18_4 N (a0, a1, 0)) (WS18_4 N (a0, a1, 0)) (fun x1 => .leaf true))
noncomputable def F18 (N : Nat) (a0 : (List Int)) (a1 : (List Int)) : Option Bool := (V18 N a0 a1).eval
def t18 : List (Nat × List Nat × List (Nat × Sh)) := [(4, [0], l18_4)]
theorem P18 (N : Nat) (a0 : (List Int)) (a1 : (List Int)) : ∀ r, F18 N a0 a1 = some r → Spec Try.prog 18 [.val (.list tI) a0, .val (.list tI) a1] (E18 r) := fun r h => Spec_of (fn := Try.f18) rfl rfl rfl rfl false (wpc_sound (tbl := t18) (μ := []) mixed _ _ _ (by
  have h1 := Vt.sound _ h
  refine Eq.mp ?_ h1
  kernel_rfl))

/-! ferryslip/ferryslipref03.Equal -/
def E22 : Bool → D := fun x => encV tB x
abbrev l22_4 : List (Nat × Sh) := [(0, .val (.list tS)), (1, .val (.list tS)), (5, .val tI)]
noncomputable def b22_4 : Code := loopBody 4 (bodyOf Try.f22)
noncomputable def U22_4 (N : Nat) (s0 : (List Bs)) (s1 : (List Bs)) (s5 : Int) : Vt (Lp (shTy l22_4).I Bool) (O3 (Option D)) (encO 26 l22_4 [0] (fun q => some (E22 q))) :=
  .br (decide (s5 < (s0.length : Int))) (.ck (inR s5 s0.length) (.ck (inR s5 s1.length) (.br (!((atI tS s0 s5) == (atI tS s1 s5))) (.leaf (.ret false)) (.leaf (.next (s0, s1, (IntKind.i64.wrap (s5 + 1)))))))) (.leaf (.brk 0 (s0, s1, s5)))
noncomputable def L22_4 (N : Nat) (s0 : (List Bs)) (s1 : (List Bs)) (s5 : Int) : Option (Lp ((List Bs) × (List Bs) × Int) Bool) := (U22_4 N s0 s1 s5).eval
noncomputable def W22_4 (N : Nat) (x : ((List Bs) × (List Bs) × Int)) : Option (Lp ((List Bs) × (List Bs) × Int) Bool) := runLoop (fun x => L22_4 N x.1 x.2.1 x.2.2) N x
theorem WS22_4 (N : Nat) (x : (shTy l22_4).I) : ∀ o, W22_4 N x = some o → S Try.prog (.loop b22_4) (buildSt 26 l22_4 x) (stepZ (rdD Try.prog Try.f22 false) l22_4 (encO 26 l22_4 [0] (fun q => some (E22 q)) o)) :=
  fun o h => loop_S (l := l22_4) (step := fun x => L22_4 N x.1 x.2.1 x.2.2) (fun x o h => wpc_sound (tbl := []) (μ := []) mixed _ _ _ (by
    have h1 := Vt.sound _ h
    refine Eq.mp ?_ h1
    kernel_rfl)) N x o h
noncomputable def V22 (N : Nat) (a0 : (List Bs)) (a1 : (List Bs)) : Vt Bool (Option D) (fun q => some (E22 q)) :=
  .br ((a0.length : Int) != (a1.length : Int)) (.leaf false) (.f1 (l := l22_4) (o := W22_4 N (a0, a1, 0)) (WS22_4 N (a0, a1, 0)) (fun x1 => .leaf true))
noncomputable def F22 (N : Nat) (a0 : (List Bs)) (a1 : (List Bs)) : Option Bool := (V22 N a0 a1).eval
def t22 : List (Nat × List Nat × List (Nat × Sh)) := [(4, [0], l22_4)]
theorem P22 (N : Nat) (a0 : (List Bs)) (a1 : (List Bs)) : ∀ r, F22 N a0 a1 = some r → Spec Try.prog 22 [.val (.list tS) a0, .val (.list tS) a1] (E22 r) := fun r h => Spec_of (fn := Try.f22) rfl rfl rfl rfl false (wpc_sound (tbl := t22) (μ := []) mixed _ _ _ (by
  have h1 := Vt.sound _ h
  refine Eq.mp ?_ h1
  kernel_rfl))

/-! ferryslip/tree.Find -/
def E27 : (Int × Bool) → D := fun x => .tup [encV tI x.1, encV tB x.2]
abbrev l27_5 : List (Nat × Sh) := [(1, .val (.list tS)), (6, .val tI), (22, .val (.list tLn)), (23, .val tI), (24, .val tI)]
noncomputable def b27_5 : Code := loopBody 5 (bodyOf Try.f27)
noncomputable def U27_5 (N : Nat) (s1 : (List Bs)) (s6 : Int) (s22 : (List Ln)) (s23 : Int) (s24 : Int) : Vt (Lp (shTy l27_5).I (Int × Bool)) (O3 (Option D)) (encO 58 l27_5 [0] (fun q => some (E27 q))) :=
  .br (decide (s24 < s23)) (.ck (inR s24 s22.length) (.br (decide (((atI tLn s22 s24).1) < s6)) (.leaf (.ret (0, false))) (.br (decide (s6 < ((atI tLn s22 s24).1))) (.leaf (.next (s1, s6, s22, s23, (IntKind.i64.wrap (s24 + 1))))) (.ck (inR s6 s1.length) (.br (!(((atI tLn s22 s24).2.1) == (atI tS s1 s6))) (.leaf (.next (s1, s6, s22, s23, (IntKind.i64.wrap (s24 + 1))))) (.br (s6 == (IntKind.i64.wrap ((s1.length : Int) - 1))) (.leaf (.ret (s24, true))) (.leaf (.next (s1, (IntKind.i64.wrap (s6 + 1)), s22, s23, (IntKind.i64.wrap (s24 + 1))))))))))) (.leaf (.brk 0 (s1, s6, s22, s23, s24)))
noncomputable def L27_5 (N : Nat) (s1 : (List Bs)) (s6 : Int) (s22 : (List Ln)) (s23 : Int) (s24 : Int) : Option (Lp ((List Bs) × Int × (List Ln) × Int × Int) (Int × Bool)) := (U27_5 N s1 s6 s22 s23 s24).eval
noncomputable def W27_5 (N : Nat) (x : ((List Bs) × Int × (List Ln) × Int × Int)) : Option (Lp ((List Bs) × Int × (List Ln) × Int × Int) (Int × Bool)) := runLoop (fun x => L27_5 N x.1 x.2.1 x.2.2.1 x.2.2.2.1 x.2.2.2.2) N x
theorem WS27_5 (N : Nat) (x : (shTy l27_5).I) : ∀ o, W27_5 N x = some o → S Try.prog (.loop b27_5) (buildSt 58 l27_5 x) (stepZ (rdD Try.prog Try.f27 false) l27_5 (encO 58 l27_5 [0] (fun q => some (E27 q)) o)) :=
  fun o h => loop_S (l := l27_5) (step := fun x => L27_5 N x.1 x.2.1 x.2.2.1 x.2.2.2.1 x.2.2.2.2) (fun x o h => wpc_sound (tbl := []) (μ := []) mixed _ _ _ (by
    have h1 := Vt.sound _ h
    refine Eq.mp ?_ h1
    kernel_rfl)) N x o h
noncomputable def V27 (N : Nat) (a0 : (List Ln)) (a1 : (List Bs)) : Vt (Int × Bool) (Option D) (fun q => some (E27 q)) :=
  .c1 (P12 N a0) (fun x1 => .br (!x1) (.leaf (0, false)) (.br ((a1.length : Int) == 0) (.leaf (0, false)) (.br (decide ((16 : Int) < (a1.length : Int))) (.leaf (0, false)) (.f1 (l := l27_5) (o := W27_5 N (a1, 0, a0, (a0.length : Int), 0)) (WS27_5 N (a1, 0, a0, (a0.length : Int), 0)) (fun x2 => .leaf (0, false))))))
noncomputable def F27 (N : Nat) (a0 : (List Ln)) (a1 : (List Bs)) : Option (Int × Bool) := (V27 N a0 a1).eval
def t27 : List (Nat × List Nat × List (Nat × Sh)) := [(5, [0], l27_5)]
theorem P27 (N : Nat) (a0 : (List Ln)) (a1 : (List Bs)) : ∀ r, F27 N a0 a1 = some r → Spec Try.prog 27 [.val (.list tLn) a0, .val (.list tS) a1] (E27 r) := fun r h => Spec_of (fn := Try.f27) rfl rfl rfl rfl false (wpc_sound (tbl := t27) (μ := []) mixed _ _ _ (by
  have h1 := Vt.sound _ h
  refine Eq.mp ?_ h1
  kernel_rfl))

/-! ferryslip/tree.Leaves -/
def E29o : (List Int) → D := fun x => .own 3 tI x
abbrev l29o_5 : List (Nat × Sh) := [(0, .val (.list tLn)), (3, .row false 35 3 tI), (9, .val tI), (10, .val tI)]
noncomputable def b29o_5 : Code := loopBody 5 (bodyOf Try.f29)
noncomputable def U29o_5 (N : Nat) (s0 : (List Ln)) (s3 : (List Int)) (s9 : Int) (s10 : Int) : Vt (Lp (shTy l29o_5).I (List Int)) (O3 (Option D)) (encO 38 l29o_5 [0] (fun q => some (E29o q))) :=
  .br (decide (s10 < s9)) (.br ((IntKind.i64.wrap (s10 + 1)) == (s0.length : Int)) (.ck (room (s3.length + ([s10] : (List Int)).length)) (.leaf (.next (s0, (s3 ++ ([s10] : (List Int))), s9, (IntKind.i64.wrap (s10 + 1)))))) (.ck (inR (IntKind.i64.wrap (s10 + 1)) s0.length) (.ck (inR s10 s0.length) (.br (decide (((atI tLn s0 (IntKind.i64.wrap (s10 + 1))).1) ≤ ((atI tLn s0 s10).1))) (.ck (room (s3.length + ([s10] : (List Int)).length)) (.leaf (.next (s0, (s3 ++ ([s10] : (List Int))), s9, (IntKind.i64.wrap (s10 + 1)))))) (.leaf (.next (s0, s3, s9, (IntKind.i64.wrap (s10 + 1))))))))) (.leaf (.brk 0 (s0, s3, s9, s10)))
noncomputable def L29o_5 (N : Nat) (s0 : (List Ln)) (s3 : (List Int)) (s9 : Int) (s10 : Int) : Option (Lp ((List Ln) × (List Int) × Int × Int) (List Int)) := (U29o_5 N s0 s3 s9 s10).eval
noncomputable def W29o_5 (N : Nat) (x : ((List Ln) × (List Int) × Int × Int)) : Option (Lp ((List Ln) × (List Int) × Int × Int) (List Int)) := runLoop (fun x => L29o_5 N x.1 x.2.1 x.2.2.1 x.2.2.2) N x
theorem WS29o_5 (N : Nat) (x : (shTy l29o_5).I) : ∀ o, W29o_5 N x = some o → S Try.prog (.loop b29o_5) (buildSt 38 l29o_5 x) (stepZ (rdD Try.prog Try.f29 true) l29o_5 (encO 38 l29o_5 [0] (fun q => some (E29o q)) o)) :=
  fun o h => loop_S (l := l29o_5) (step := fun x => L29o_5 N x.1 x.2.1 x.2.2.1 x.2.2.2) (fun x o h => wpc_sound (tbl := []) (μ := []) mixed _ _ _ (by
    have h1 := Vt.sound _ h
    refine Eq.mp ?_ h1
    kernel_rfl)) N x o h
noncomputable def V29o (N : Nat) (a0 : (List Ln)) : Vt (List Int) (Option D) (fun q => some (E29o q)) :=
  .c1 (P12 N a0) (fun x1 => .br (!x1) (.leaf ([] : (List Int))) (.f1 (l := l29o_5) (o := W29o_5 N (a0, ([] : (List Int)), (a0.length : Int), 0)) (WS29o_5 N (a0, ([] : (List Int)), (a0.length : Int), 0)) (fun x1 => .leaf x1.2.1)))
noncomputable def F29o (N : Nat) (a0 : (List Ln)) : Option (List Int) := (V29o N a0).eval
def t29o : List (Nat × List Nat × List (Nat × Sh)) := [(5, [0], l29o_5)]
theorem P29o (N : Nat) (a0 : (List Ln)) : ∀ r, F29o N a0 = some r → Spec Try.prog 29 [.val (.list tLn) a0] (E29o r) := fun r h => Spec_of (fn := Try.f29) rfl rfl rfl rfl true (wpc_sound (tbl := t29o) (μ := []) mixed _ _ _ (by
  have h1 := Vt.sound _ h
  refine Eq.mp ?_ h1
  kernel_rfl))

/-! ferryslip/ferrysliplaw03.awake -/
def E10 : Bool → D := fun x => encV tB x
noncomputable def V10 (N : Nat)  : Vt Bool (Option D) (fun q => some (E10 q)) :=
  .c2 (P13o N ([(0, ([97] : Bs), 0), (1, ([98] : Bs), 0), (1, ([99] : Bs), 1), (0, ([100] : Bs), 0)] : (List Ln)) 2) (fun x1 x2 => .c2 (P27 N ([(0, ([97] : Bs), 0), (1, ([98] : Bs), 0), (1, ([99] : Bs), 1), (0, ([100] : Bs), 0)] : (List Ln)) ([([97] : Bs), ([98] : Bs)] : (List Bs))) (fun x3 x4 => .c1 (P12 N ([(0, ([97] : Bs), 0), (1, ([98] : Bs), 0), (1, ([99] : Bs), 1), (0, ([100] : Bs), 0)] : (List Ln))) (fun x5 => .br x5 (.c1 (P22 N x1 ([([97] : Bs), ([99] : Bs)] : (List Bs))) (fun x6 => .br x6 (.br (x2 == 0) (.br (x3 == 1) (.br x4 (.c1 (P14o N ([(0, ([97] : Bs), 0), (1, ([98] : Bs), 0), (1, ([99] : Bs), 1), (0, ([100] : Bs), 0)] : (List Ln)) (-1)) (fun x7 => .c1 (P18 N x7 ([0, 3] : (List Int))) (fun x8 => .br x8 (.c1 (P16 N ([(0, ([97] : Bs), 0), (1, ([98] : Bs), 0), (1, ([99] : Bs), 1), (0, ([100] : Bs), 0)] : (List Ln)) 0) (fun x9 => .br (x9 == 3) (.c1 (P15 N ([(0, ([97] : Bs), 0), (1, ([98] : Bs), 0), (1, ([99] : Bs), 1), (0, ([100] : Bs), 0)] : (List Ln)) 2) (fun x10 => .br (x10 == 0) (.c1 (P29o N ([(0, ([97] : Bs), 0), (1, ([98] : Bs), 0), (1, ([99] : Bs), 1), (0, ([100] : Bs), 0)] : (List Ln))) (fun x11 => .c1 (P18 N x11 ([1, 2, 3] : (List Int))) (fun x12 => .br x12 (.c1 (P17o N ([(0, ([97] : Bs), 0), (1, ([98] : Bs), 0), (1, ([99] : Bs), 1), (0, ([100] : Bs), 0)] : (List Ln)) 0) (fun x13 => .leaf ((x13.length : Int) == 3))) (.leaf false)))) (.leaf false))) (.leaf false))) (.leaf false)))) (.leaf false)) (.leaf false)) (.leaf false)) (.leaf false))) (.leaf false))))
noncomputable def F10 (N : Nat)  : Option Bool := (V10 N ).eval
def t10 : List (Nat × List Nat × List (Nat × Sh)) := []
theorem P10 (N : Nat)  : ∀ r, F10 N  = some r → Spec Try.prog 10 [] (E10 r) := fun r h => Spec_of (fn := Try.f10) rfl rfl rfl rfl false (wpc_sound (tbl := t10) (μ := [13, 42, 58, 64]) mixed _ _ _ (by
  have h1 := Vt.sound _ h
  refine Eq.mp ?_ h1
  kernel_rfl))

/-! ferryslip/ferryslipref03.Right -/
def E11 : Bool → D := fun x => encV tB x
abbrev l11_4 : List (Nat × Sh) := [(0, .val (.list tLn)), (3, .val tI)]
noncomputable def b11_4 : Code := loopBody 4 (bodyOf Try.f11)
noncomputable def U11_4 (N : Nat) (s0 : (List Ln)) (s3 : Int) : Vt (Lp (shTy l11_4).I Bool) (O3 (Option D)) (encO 118 l11_4 [0] (fun q => some (E11 q))) :=
  .br (decide (s3 < (s0.length : Int))) (.ck (inR s3 s0.length) (.br (decide (((atI tLn s0 s3).1) < 0)) (.leaf (.ret false)) (.br (decide ((15 : Int) < ((atI tLn s0 s3).1))) (.leaf (.ret false)) (.br (decide ((40 : Int) < (((atI tLn s0 s3).2.1).length : Int))) (.leaf (.ret false)) (.br (decide (((atI tLn s0 s3).2.2) < 0)) (.leaf (.ret false)) (.br (decide ((3 : Int) < ((atI tLn s0 s3).2.2))) (.leaf (.ret false)) (.br (s3 == 0) (.br (((atI tLn s0 s3).1) != 0) (.leaf (.ret false)) (.br (decide ((0 : Int) < s3)) (.ck (inR (IntKind.i64.wrap (s3 - 1)) s0.length) (.br (decide ((IntKind.i64.wrap (((atI tLn s0 (IntKind.i64.wrap (s3 - 1))).1) + 1)) < ((atI tLn s0 s3).1))) (.leaf (.ret false)) (.leaf (.next (s0, (IntKind.i64.wrap (s3 + 1))))))) (.leaf (.next (s0, (IntKind.i64.wrap (s3 + 1))))))) (.br (decide ((0 : Int) < s3)) (.ck (inR (IntKind.i64.wrap (s3 - 1)) s0.length) (.br (decide ((IntKind.i64.wrap (((atI tLn s0 (IntKind.i64.wrap (s3 - 1))).1) + 1)) < ((atI tLn s0 s3).1))) (.leaf (.ret false)) (.leaf (.next (s0, (IntKind.i64.wrap (s3 + 1))))))) (.leaf (.next (s0, (IntKind.i64.wrap (s3 + 1))))))))))))) (.leaf (.brk 0 (s0, s3)))
noncomputable def L11_4 (N : Nat) (s0 : (List Ln)) (s3 : Int) : Option (Lp ((List Ln) × Int) Bool) := (U11_4 N s0 s3).eval
noncomputable def W11_4 (N : Nat) (x : ((List Ln) × Int)) : Option (Lp ((List Ln) × Int) Bool) := runLoop (fun x => L11_4 N x.1 x.2) N x
theorem WS11_4 (N : Nat) (x : (shTy l11_4).I) : ∀ o, W11_4 N x = some o → S Try.prog (.loop b11_4) (buildSt 118 l11_4 x) (stepZ (rdD Try.prog Try.f11 false) l11_4 (encO 118 l11_4 [0] (fun q => some (E11 q)) o)) :=
  fun o h => loop_S (l := l11_4) (step := fun x => L11_4 N x.1 x.2) (fun x o h => wpc_sound (tbl := []) (μ := []) mixed _ _ _ (by
    have h1 := Vt.sound _ h
    refine Eq.mp ?_ h1
    kernel_rfl)) N x o h
abbrev l11_15 : List (Nat × Sh) := [(0, .val (.list tLn)), (5, .val tI), (6, .val tI)]
noncomputable def b11_15 : Code := loopBody 15 (bodyOf Try.f11)
noncomputable def U11_15 (N : Nat) (s0 : (List Ln)) (s5 : Int) (s6 : Int) : Vt (Lp (shTy l11_15).I Bool) (O3 (Option D)) (encO 118 l11_15 [4] (fun q => some (E11 q))) :=
  .br (decide (s6 < (s0.length : Int))) (.ck (inR s6 s0.length) (.ck (inR s5 s0.length) (.br (decide (((atI tLn s0 s5).1) ≤ ((atI tLn s0 s6).1))) (.ck (inR s6 s0.length) (.ck (inR s5 s0.length) (.br (((atI tLn s0 s6).1) == ((atI tLn s0 s5).1)) (.ck (inR s6 s0.length) (.ck (inR s5 s0.length) (.br ((Op.bytesLess ((atI tLn s0 s6).2.1) ((atI tLn s0 s5).2.1)) || (((atI tLn s0 s6).2.1) == ((atI tLn s0 s5).2.1))) (.leaf (.ret false)) (.leaf (.next (s0, s5, (IntKind.i64.wrap (s6 + 1)))))))) (.leaf (.next (s0, s5, (IntKind.i64.wrap (s6 + 1)))))))) (.leaf (.brk 0 (s0, s5, s6)))))) (.leaf (.brk 0 (s0, s5, s6)))
noncomputable def L11_15 (N : Nat) (s0 : (List Ln)) (s5 : Int) (s6 : Int) : Option (Lp ((List Ln) × Int × Int) Bool) := (U11_15 N s0 s5 s6).eval
noncomputable def W11_15 (N : Nat) (x : ((List Ln) × Int × Int)) : Option (Lp ((List Ln) × Int × Int) Bool) := runLoop (fun x => L11_15 N x.1 x.2.1 x.2.2) N x
theorem WS11_15 (N : Nat) (x : (shTy l11_15).I) : ∀ o, W11_15 N x = some o → S Try.prog (.loop b11_15) (buildSt 118 l11_15 x) (stepZ (rdD Try.prog Try.f11 false) l11_15 (encO 118 l11_15 [4] (fun q => some (E11 q)) o)) :=
  fun o h => loop_S (l := l11_15) (step := fun x => L11_15 N x.1 x.2.1 x.2.2) (fun x o h => wpc_sound (tbl := [(4, [0], l11_4)]) (μ := []) mixed _ _ _ (by
    have h1 := Vt.sound _ h
    refine Eq.mp ?_ h1
    kernel_rfl)) N x o h
abbrev l11_12 : List (Nat × Sh) := [(0, .val (.list tLn)), (5, .val tI)]
noncomputable def b11_12 : Code := loopBody 12 (bodyOf Try.f11)
noncomputable def U11_12 (N : Nat) (s0 : (List Ln)) (s5 : Int) : Vt (Lp (shTy l11_12).I Bool) (O3 (Option D)) (encO 118 l11_12 [2] (fun q => some (E11 q))) :=
  .br (decide (s5 < (s0.length : Int))) (.g1 (l := l11_15) (o := W11_15 N (s0, s5, (IntKind.i64.wrap (s5 + 1)))) (WS11_15 N (s0, s5, (IntKind.i64.wrap (s5 + 1)))) (fun x1 => .leaf (.next (x1.1, (IntKind.i64.wrap (x1.2.1 + 1)))))) (.leaf (.brk 0 (s0, s5)))
noncomputable def L11_12 (N : Nat) (s0 : (List Ln)) (s5 : Int) : Option (Lp ((List Ln) × Int) Bool) := (U11_12 N s0 s5).eval
noncomputable def W11_12 (N : Nat) (x : ((List Ln) × Int)) : Option (Lp ((List Ln) × Int) Bool) := runLoop (fun x => L11_12 N x.1 x.2) N x
theorem WS11_12 (N : Nat) (x : (shTy l11_12).I) : ∀ o, W11_12 N x = some o → S Try.prog (.loop b11_12) (buildSt 118 l11_12 x) (stepZ (rdD Try.prog Try.f11 false) l11_12 (encO 118 l11_12 [2] (fun q => some (E11 q)) o)) :=
  fun o h => loop_S (l := l11_12) (step := fun x => L11_12 N x.1 x.2) (fun x o h => wpc_sound (tbl := [(4, [0], l11_4), (15, [4], l11_15)]) (μ := []) mixed _ _ _ (by
    have h1 := Vt.sound _ h
    refine Eq.mp ?_ h1
    kernel_rfl)) N x o h
noncomputable def V11 (N : Nat) (a0 : (List Ln)) : Vt Bool (Option D) (fun q => some (E11 q)) :=
  .br (decide ((200 : Int) < (a0.length : Int))) (.leaf false) (.f1 (l := l11_4) (o := W11_4 N (a0, 0)) (WS11_4 N (a0, 0)) (fun x1 => .f1 (l := l11_12) (o := W11_12 N (x1.1, 0)) (WS11_12 N (x1.1, 0)) (fun x2 => .leaf true)))
noncomputable def F11 (N : Nat) (a0 : (List Ln)) : Option Bool := (V11 N a0).eval
def t11 : List (Nat × List Nat × List (Nat × Sh)) := [(4, [0], l11_4), (15, [4], l11_15), (12, [2], l11_12)]
theorem P11 (N : Nat) (a0 : (List Ln)) : ∀ r, F11 N a0 = some r → Spec Try.prog 11 [.val (.list tLn) a0] (E11 r) := fun r h => Spec_of (fn := Try.f11) rfl rfl rfl rfl false (wpc_sound (tbl := t11) (μ := []) mixed _ _ _ (by
  have h1 := Vt.sound _ h
  refine Eq.mp ?_ h1
  kernel_rfl))

/-! ferryslip/ferryslipref03.Under -/
def E20 : Int → D := fun x => encV tI x
abbrev l20_3 : List (Nat × Sh) := [(0, .val (.list tLn)), (1, .val tI), (5, .val tI), (6, .val tI)]
noncomputable def b20_3 : Code := loopBody 3 (bodyOf Try.f20)
noncomputable def U20_3 (N : Nat) (s0 : (List Ln)) (s1 : Int) (s5 : Int) (s6 : Int) : Vt (Lp (shTy l20_3).I Int) (O3 (Option D)) (encO 25 l20_3 [0] (fun q => some (E20 q))) :=
  .br (decide (s6 < s1)) (.ck (inR s6 s0.length) (.ck (inR s1 s0.length) (.br (decide (((atI tLn s0 s6).1) < ((atI tLn s0 s1).1))) (.leaf (.next (s0, s1, s6, (IntKind.i64.wrap (s6 + 1))))) (.leaf (.next (s0, s1, s5, (IntKind.i64.wrap (s6 + 1)))))))) (.leaf (.brk 0 (s0, s1, s5, s6)))
noncomputable def L20_3 (N : Nat) (s0 : (List Ln)) (s1 : Int) (s5 : Int) (s6 : Int) : Option (Lp ((List Ln) × Int × Int × Int) Int) := (U20_3 N s0 s1 s5 s6).eval
noncomputable def W20_3 (N : Nat) (x : ((List Ln) × Int × Int × Int)) : Option (Lp ((List Ln) × Int × Int × Int) Int) := runLoop (fun x => L20_3 N x.1 x.2.1 x.2.2.1 x.2.2.2) N x
theorem WS20_3 (N : Nat) (x : (shTy l20_3).I) : ∀ o, W20_3 N x = some o → S Try.prog (.loop b20_3) (buildSt 25 l20_3 x) (stepZ (rdD Try.prog Try.f20 false) l20_3 (encO 25 l20_3 [0] (fun q => some (E20 q)) o)) :=
  fun o h => loop_S (l := l20_3) (step := fun x => L20_3 N x.1 x.2.1 x.2.2.1 x.2.2.2) (fun x o h => wpc_sound (tbl := []) (μ := []) mixed _ _ _ (by
    have h1 := Vt.sound _ h
    refine Eq.mp ?_ h1
    kernel_rfl)) N x o h
noncomputable def V20 (N : Nat) (a0 : (List Ln)) (a1 : Int) : Vt Int (Option D) (fun q => some (E20 q)) :=
  .f1 (l := l20_3) (o := W20_3 N (a0, a1, (-1), 0)) (WS20_3 N (a0, a1, (-1), 0)) (fun x1 => .leaf x1.2.2.1)
noncomputable def F20 (N : Nat) (a0 : (List Ln)) (a1 : Int) : Option Int := (V20 N a0 a1).eval
def t20 : List (Nat × List Nat × List (Nat × Sh)) := [(3, [0], l20_3)]
theorem P20 (N : Nat) (a0 : (List Ln)) (a1 : Int) : ∀ r, F20 N a0 a1 = some r → Spec Try.prog 20 [.val (.list tLn) a0, .val tI a1] (E20 r) := fun r h => Spec_of (fn := Try.f20) rfl rfl rfl rfl false (wpc_sound (tbl := t20) (μ := []) mixed _ _ _ (by
  have h1 := Vt.sound _ h
  refine Eq.mp ?_ h1
  kernel_rfl))

/-! ferryslip/ferryslipref03.Kids -/
def E19o : (List Int) → D := fun x => .own 3 tI x
abbrev l19o_3 : List (Nat × Sh) := [(0, .val (.list tLn)), (1, .val tI), (5, .row false 21 3 tI), (6, .val tI)]
noncomputable def b19o_3 : Code := loopBody 3 (bodyOf Try.f19)
noncomputable def U19o_3 (N : Nat) (s0 : (List Ln)) (s1 : Int) (s5 : (List Int)) (s6 : Int) : Vt (Lp (shTy l19o_3).I (List Int)) (O3 (Option D)) (encO 23 l19o_3 [0] (fun q => some (E19o q))) :=
  .br (decide (s6 < (s0.length : Int))) (.c1 (P20 N s0 s6) (fun x1 => .br (x1 == s1) (.ck (room (s5.length + ([s6] : (List Int)).length)) (.leaf (.next (s0, s1, (s5 ++ ([s6] : (List Int))), (IntKind.i64.wrap (s6 + 1)))))) (.leaf (.next (s0, s1, s5, (IntKind.i64.wrap (s6 + 1))))))) (.leaf (.brk 0 (s0, s1, s5, s6)))
noncomputable def L19o_3 (N : Nat) (s0 : (List Ln)) (s1 : Int) (s5 : (List Int)) (s6 : Int) : Option (Lp ((List Ln) × Int × (List Int) × Int) (List Int)) := (U19o_3 N s0 s1 s5 s6).eval
noncomputable def W19o_3 (N : Nat) (x : ((List Ln) × Int × (List Int) × Int)) : Option (Lp ((List Ln) × Int × (List Int) × Int) (List Int)) := runLoop (fun x => L19o_3 N x.1 x.2.1 x.2.2.1 x.2.2.2) N x
theorem WS19o_3 (N : Nat) (x : (shTy l19o_3).I) : ∀ o, W19o_3 N x = some o → S Try.prog (.loop b19o_3) (buildSt 23 l19o_3 x) (stepZ (rdD Try.prog Try.f19 true) l19o_3 (encO 23 l19o_3 [0] (fun q => some (E19o q)) o)) :=
  fun o h => loop_S (l := l19o_3) (step := fun x => L19o_3 N x.1 x.2.1 x.2.2.1 x.2.2.2) (fun x o h => wpc_sound (tbl := []) (μ := []) mixed _ _ _ (by
    have h1 := Vt.sound _ h
    refine Eq.mp ?_ h1
    kernel_rfl)) N x o h
noncomputable def V19o (N : Nat) (a0 : (List Ln)) (a1 : Int) : Vt (List Int) (Option D) (fun q => some (E19o q)) :=
  .f1 (l := l19o_3) (o := W19o_3 N (a0, a1, ([] : (List Int)), 0)) (WS19o_3 N (a0, a1, ([] : (List Int)), 0)) (fun x2 => .leaf x2.2.2.1)
noncomputable def F19o (N : Nat) (a0 : (List Ln)) (a1 : Int) : Option (List Int) := (V19o N a0 a1).eval
def t19o : List (Nat × List Nat × List (Nat × Sh)) := [(3, [0], l19o_3)]
theorem P19o (N : Nat) (a0 : (List Ln)) (a1 : Int) : ∀ r, F19o N a0 a1 = some r → Spec Try.prog 19 [.val (.list tLn) a0, .val tI a1] (E19o r) := fun r h => Spec_of (fn := Try.f19) rfl rfl rfl rfl true (wpc_sound (tbl := t19o) (μ := []) mixed _ _ _ (by
  have h1 := Vt.sound _ h
  refine Eq.mp ?_ h1
  kernel_rfl))

/-! ferryslip/ferryslipref03.End -/
def E21 : Int → D := fun x => encV tI x
abbrev l21_2 : List (Nat × Sh) := [(0, .val (.list tLn)), (1, .val tI), (5, .val tI)]
noncomputable def b21_2 : Code := loopBody 2 (bodyOf Try.f21)
noncomputable def U21_2 (N : Nat) (s0 : (List Ln)) (s1 : Int) (s5 : Int) : Vt (Lp (shTy l21_2).I Int) (O3 (Option D)) (encO 28 l21_2 [0] (fun q => some (E21 q))) :=
  .br (decide (s5 < (s0.length : Int))) (.ck (inR s5 s0.length) (.ck (inR s1 s0.length) (.br (decide (((atI tLn s0 s5).1) ≤ ((atI tLn s0 s1).1))) (.leaf (.ret s5)) (.leaf (.next (s0, s1, (IntKind.i64.wrap (s5 + 1)))))))) (.leaf (.brk 0 (s0, s1, s5)))
noncomputable def L21_2 (N : Nat) (s0 : (List Ln)) (s1 : Int) (s5 : Int) : Option (Lp ((List Ln) × Int × Int) Int) := (U21_2 N s0 s1 s5).eval
noncomputable def W21_2 (N : Nat) (x : ((List Ln) × Int × Int)) : Option (Lp ((List Ln) × Int × Int) Int) := runLoop (fun x => L21_2 N x.1 x.2.1 x.2.2) N x
theorem WS21_2 (N : Nat) (x : (shTy l21_2).I) : ∀ o, W21_2 N x = some o → S Try.prog (.loop b21_2) (buildSt 28 l21_2 x) (stepZ (rdD Try.prog Try.f21 false) l21_2 (encO 28 l21_2 [0] (fun q => some (E21 q)) o)) :=
  fun o h => loop_S (l := l21_2) (step := fun x => L21_2 N x.1 x.2.1 x.2.2) (fun x o h => wpc_sound (tbl := []) (μ := []) mixed _ _ _ (by
    have h1 := Vt.sound _ h
    refine Eq.mp ?_ h1
    kernel_rfl)) N x o h
noncomputable def V21 (N : Nat) (a0 : (List Ln)) (a1 : Int) : Vt Int (Option D) (fun q => some (E21 q)) :=
  .f1 (l := l21_2) (o := W21_2 N (a0, a1, (IntKind.i64.wrap (a1 + 1)))) (WS21_2 N (a0, a1, (IntKind.i64.wrap (a1 + 1)))) (fun x1 => .leaf (x1.1.length : Int))
noncomputable def F21 (N : Nat) (a0 : (List Ln)) (a1 : Int) : Option Int := (V21 N a0 a1).eval
def t21 : List (Nat × List Nat × List (Nat × Sh)) := [(2, [0], l21_2)]
theorem P21 (N : Nat) (a0 : (List Ln)) (a1 : Int) : ∀ r, F21 N a0 a1 = some r → Spec Try.prog 21 [.val (.list tLn) a0, .val tI a1] (E21 r) := fun r h => Spec_of (fn := Try.f21) rfl rfl rfl rfl false (wpc_sound (tbl := t21) (μ := []) mixed _ _ _ (by
  have h1 := Vt.sound _ h
  refine Eq.mp ?_ h1
  kernel_rfl))

/-! ferryslip/ferryslipref03.Path -/
def E23 : (List Bs) → D := fun x => encV (.list tS) x
abbrev l23_2 : List (Nat × Sh) := [(0, .val (.list tLn)), (1, .val tI), (5, .val (.list tS))]
noncomputable def b23_2 : Code := loopBody 2 (bodyOf Try.f23)
noncomputable def U23_2 (N : Nat) (s0 : (List Ln)) (s1 : Int) (s5 : (List Bs)) : Vt (Lp (shTy l23_2).I (List Bs)) (O3 (Option D)) (encO 24 l23_2 [0] (fun q => some (E23 q))) :=
  .br (decide ((0 : Int) ≤ s1)) (.ck (inR s1 s0.length) (.ck (room ([(atI tLn s0 s1).2.1] : (List Bs)).length) (.ck (room (([(atI tLn s0 s1).2.1] : (List Bs)).length + s5.length)) (.c1 (P20 N s0 s1) (fun x1 => .leaf (.next (s0, x1, (([(atI tLn s0 s1).2.1] : (List Bs)) ++ s5)))))))) (.leaf (.brk 0 (s0, s1, s5)))
noncomputable def L23_2 (N : Nat) (s0 : (List Ln)) (s1 : Int) (s5 : (List Bs)) : Option (Lp ((List Ln) × Int × (List Bs)) (List Bs)) := (U23_2 N s0 s1 s5).eval
noncomputable def W23_2 (N : Nat) (x : ((List Ln) × Int × (List Bs))) : Option (Lp ((List Ln) × Int × (List Bs)) (List Bs)) := runLoop (fun x => L23_2 N x.1 x.2.1 x.2.2) N x
theorem WS23_2 (N : Nat) (x : (shTy l23_2).I) : ∀ o, W23_2 N x = some o → S Try.prog (.loop b23_2) (buildSt 24 l23_2 x) (stepZ (rdD Try.prog Try.f23 false) l23_2 (encO 24 l23_2 [0] (fun q => some (E23 q)) o)) :=
  fun o h => loop_S (l := l23_2) (step := fun x => L23_2 N x.1 x.2.1 x.2.2) (fun x o h => wpc_sound (tbl := []) (μ := []) mixed _ _ _ (by
    have h1 := Vt.sound _ h
    refine Eq.mp ?_ h1
    kernel_rfl)) N x o h
noncomputable def V23 (N : Nat) (a0 : (List Ln)) (a1 : Int) : Vt (List Bs) (Option D) (fun q => some (E23 q)) :=
  .f1 (l := l23_2) (o := W23_2 N (a0, a1, ([] : (List Bs)))) (WS23_2 N (a0, a1, ([] : (List Bs)))) (fun x2 => .leaf x2.2.2)
noncomputable def F23 (N : Nat) (a0 : (List Ln)) (a1 : Int) : Option (List Bs) := (V23 N a0 a1).eval
def t23 : List (Nat × List Nat × List (Nat × Sh)) := [(2, [0], l23_2)]
theorem P23 (N : Nat) (a0 : (List Ln)) (a1 : Int) : ∀ r, F23 N a0 a1 = some r → Spec Try.prog 23 [.val (.list tLn) a0, .val tI a1] (E23 r) := fun r h => Spec_of (fn := Try.f23) rfl rfl rfl rfl false (wpc_sound (tbl := t23) (μ := []) mixed _ _ _ (by
  have h1 := Vt.sound _ h
  refine Eq.mp ?_ h1
  kernel_rfl))

/-! ferryslip/ferryslipref03.Same -/
def E24 : Bool → D := fun x => encV tB x
abbrev l24_4 : List (Nat × Sh) := [(0, .val (.list tLn)), (1, .val (.list tLn)), (5, .val tI)]
noncomputable def b24_4 : Code := loopBody 4 (bodyOf Try.f24)
noncomputable def U24_4 (N : Nat) (s0 : (List Ln)) (s1 : (List Ln)) (s5 : Int) : Vt (Lp (shTy l24_4).I Bool) (O3 (Option D)) (encO 26 l24_4 [0] (fun q => some (E24 q))) :=
  .br (decide (s5 < (s0.length : Int))) (.ck (inR s5 s0.length) (.ck (inR s5 s1.length) (.br (!((((atI tLn s0 s5).1) == ((atI tLn s1 s5).1)) && ((((atI tLn s0 s5).2.1) == ((atI tLn s1 s5).2.1)) && ((((atI tLn s0 s5).2.2) == ((atI tLn s1 s5).2.2)) && true)))) (.leaf (.ret false)) (.leaf (.next (s0, s1, (IntKind.i64.wrap (s5 + 1)))))))) (.leaf (.brk 0 (s0, s1, s5)))
noncomputable def L24_4 (N : Nat) (s0 : (List Ln)) (s1 : (List Ln)) (s5 : Int) : Option (Lp ((List Ln) × (List Ln) × Int) Bool) := (U24_4 N s0 s1 s5).eval
noncomputable def W24_4 (N : Nat) (x : ((List Ln) × (List Ln) × Int)) : Option (Lp ((List Ln) × (List Ln) × Int) Bool) := runLoop (fun x => L24_4 N x.1 x.2.1 x.2.2) N x
theorem WS24_4 (N : Nat) (x : (shTy l24_4).I) : ∀ o, W24_4 N x = some o → S Try.prog (.loop b24_4) (buildSt 26 l24_4 x) (stepZ (rdD Try.prog Try.f24 false) l24_4 (encO 26 l24_4 [0] (fun q => some (E24 q)) o)) :=
  fun o h => loop_S (l := l24_4) (step := fun x => L24_4 N x.1 x.2.1 x.2.2) (fun x o h => wpc_sound (tbl := []) (μ := []) mixed _ _ _ (by
    have h1 := Vt.sound _ h
    refine Eq.mp ?_ h1
    kernel_rfl)) N x o h
noncomputable def V24 (N : Nat) (a0 : (List Ln)) (a1 : (List Ln)) : Vt Bool (Option D) (fun q => some (E24 q)) :=
  .br ((a0.length : Int) != (a1.length : Int)) (.leaf false) (.f1 (l := l24_4) (o := W24_4 N (a0, a1, 0)) (WS24_4 N (a0, a1, 0)) (fun x1 => .leaf true))
noncomputable def F24 (N : Nat) (a0 : (List Ln)) (a1 : (List Ln)) : Option Bool := (V24 N a0 a1).eval
def t24 : List (Nat × List Nat × List (Nat × Sh)) := [(4, [0], l24_4)]
theorem P24 (N : Nat) (a0 : (List Ln)) (a1 : (List Ln)) : ∀ r, F24 N a0 a1 = some r → Spec Try.prog 24 [.val (.list tLn) a0, .val (.list tLn) a1] (E24 r) := fun r h => Spec_of (fn := Try.f24) rfl rfl rfl rfl false (wpc_sound (tbl := t24) (μ := []) mixed _ _ _ (by
  have h1 := Vt.sound _ h
  refine Eq.mp ?_ h1
  kernel_rfl))

/-! ferryslip/ferryslipref03.Sub -/
def E25o : (List Ln) → D := fun x => .own 45 tLn x
abbrev l25o_3 : List (Nat × Sh) := [(0, .val (.list tLn)), (1, .val tI), (5, .row false 39 45 tLn), (6, .val tI)]
noncomputable def b25o_3 : Code := loopBody 3 (bodyOf Try.f25)
noncomputable def U25o_3 (N : Nat) (s0 : (List Ln)) (s1 : Int) (s5 : (List Ln)) (s6 : Int) : Vt (Lp (shTy l25o_3).I (List Ln)) (O3 (Option D)) (encO 41 l25o_3 [0] (fun q => some (E25o q))) :=
  .c1 (P21 N s0 s1) (fun x1 => .br (decide (s6 < x1)) (.ck (inR s6 s0.length) (.ck (inR s1 s0.length) (.ck (inR s6 s0.length) (.ck (inR s6 s0.length) (.ck (room (s5.length + ([((IntKind.i64.wrap (((atI tLn s0 s6).1) - ((atI tLn s0 s1).1))), (atI tLn s0 s6).2)] : (List Ln)).length)) (.leaf (.next (s0, s1, (s5 ++ ([((IntKind.i64.wrap (((atI tLn s0 s6).1) - ((atI tLn s0 s1).1))), (atI tLn s0 s6).2)] : (List Ln))), (IntKind.i64.wrap (s6 + 1)))))))))) (.leaf (.brk 0 (s0, s1, s5, s6))))
noncomputable def L25o_3 (N : Nat) (s0 : (List Ln)) (s1 : Int) (s5 : (List Ln)) (s6 : Int) : Option (Lp ((List Ln) × Int × (List Ln) × Int) (List Ln)) := (U25o_3 N s0 s1 s5 s6).eval
noncomputable def W25o_3 (N : Nat) (x : ((List Ln) × Int × (List Ln) × Int)) : Option (Lp ((List Ln) × Int × (List Ln) × Int) (List Ln)) := runLoop (fun x => L25o_3 N x.1 x.2.1 x.2.2.1 x.2.2.2) N x
theorem WS25o_3 (N : Nat) (x : (shTy l25o_3).I) : ∀ o, W25o_3 N x = some o → S Try.prog (.loop b25o_3) (buildSt 41 l25o_3 x) (stepZ (rdD Try.prog Try.f25 true) l25o_3 (encO 41 l25o_3 [0] (fun q => some (E25o q)) o)) :=
  fun o h => loop_S (l := l25o_3) (step := fun x => L25o_3 N x.1 x.2.1 x.2.2.1 x.2.2.2) (fun x o h => wpc_sound (tbl := []) (μ := []) mixed _ _ _ (by
    have h1 := Vt.sound _ h
    refine Eq.mp ?_ h1
    kernel_rfl)) N x o h
noncomputable def V25o (N : Nat) (a0 : (List Ln)) (a1 : Int) : Vt (List Ln) (Option D) (fun q => some (E25o q)) :=
  .f1 (l := l25o_3) (o := W25o_3 N (a0, a1, ([] : (List Ln)), a1)) (WS25o_3 N (a0, a1, ([] : (List Ln)), a1)) (fun x2 => .leaf x2.2.2.1)
noncomputable def F25o (N : Nat) (a0 : (List Ln)) (a1 : Int) : Option (List Ln) := (V25o N a0 a1).eval
def t25o : List (Nat × List Nat × List (Nat × Sh)) := [(3, [0], l25o_3)]
theorem P25o (N : Nat) (a0 : (List Ln)) (a1 : Int) : ∀ r, F25o N a0 a1 = some r → Spec Try.prog 25 [.val (.list tLn) a0, .val tI a1] (E25o r) := fun r h => Spec_of (fn := Try.f25) rfl rfl rfl rfl true (wpc_sound (tbl := t25o) (μ := []) mixed _ _ _ (by
  have h1 := Vt.sound _ h
  refine Eq.mp ?_ h1
  kernel_rfl))

/-! ferryslip/ferrysliplaw03.TreeExact -/
def E3 : Bool → D := fun x => encV tB x
noncomputable def V3 (N : Nat) (a0 : (List Ln)) (a1 : Int) : Vt Bool (Option D) (fun q => some (E3 q)) :=
  .c1 (P9 N a0) (fun x1 => .br (!x1) (.c1 (P10 N) (fun x2 => .leaf x2)) (.c1 (P11 N a0) (fun x3 => .c1 (P12 N a0) (fun x4 => .br (!(x4 == x3)) (.leaf false) (.c2 (P13o N a0 a1) (fun x5 x6 => .c1 (P14o N a0 a1) (fun x7 => .br (!x3) (.c1 (P15 N a0 a1) (fun x8 => .br (x8 == (-1)) (.c1 (P16 N a0 a1) (fun x9 => .br (x9 == 0) (.br ((x5.length : Int) == 0) (.br (x6 == 1) (.br ((x7.length : Int) == 0) (.c1 (P17o N a0 a1) (fun x10 => .br ((x10.length : Int) == 0) (.c1 (P10 N) (fun x11 => .leaf x11)) (.leaf false))) (.leaf false)) (.leaf false)) (.leaf false)) (.leaf false))) (.leaf false))) (.br (decide (a1 < (-1))) (.c1 (P15 N a0 a1) (fun x12 => .br (x12 == (-1)) (.c1 (P16 N a0 a1) (fun x13 => .br (x13 == 0) (.br ((x5.length : Int) == 0) (.br (x6 == 1) (.br ((x7.length : Int) == 0) (.c1 (P17o N a0 a1) (fun x14 => .br ((x14.length : Int) == 0) (.c1 (P10 N) (fun x15 => .leaf x15)) (.leaf false))) (.leaf false)) (.leaf false)) (.leaf false)) (.leaf false))) (.leaf false))) (.br (decide ((a0.length : Int) ≤ a1)) (.c1 (P15 N a0 a1) (fun x16 => .br (x16 == (-1)) (.c1 (P16 N a0 a1) (fun x17 => .br (x17 == 0) (.br ((x5.length : Int) == 0) (.br (x6 == 1) (.br ((x7.length : Int) == 0) (.c1 (P17o N a0 a1) (fun x18 => .br ((x18.length : Int) == 0) (.c1 (P10 N) (fun x19 => .leaf x19)) (.leaf false))) (.leaf false)) (.leaf false)) (.leaf false)) (.leaf false))) (.leaf false))) (.c1 (P19o N a0 a1) (fun x20 => .c1 (P18 N x7 x20) (fun x21 => .br (!x21) (.leaf false) (.br (a1 == (-1)) (.c1 (P15 N a0 a1) (fun x22 => .br (x22 == (-1)) (.c1 (P16 N a0 a1) (fun x23 => .br (x23 == 0) (.br ((x5.length : Int) == 0) (.br (x6 == 1) (.c1 (P17o N a0 a1) (fun x24 => .br ((x24.length : Int) == 0) (.c1 (P10 N) (fun x25 => .leaf x25)) (.leaf false))) (.leaf false)) (.leaf false)) (.leaf false))) (.leaf false))) (.c1 (P15 N a0 a1) (fun x26 => .c1 (P20 N a0 a1) (fun x27 => .br (x26 == x27) (.c1 (P16 N a0 a1) (fun x28 => .c1 (P21 N a0 a1) (fun x29 => .br (x28 == x29) (.c1 (P23 N a0 a1) (fun x30 => .c1 (P22 N x5 x30) (fun x31 => .br x31 (.br (x6 == 0) (.c1 (P17o N a0 a1) (fun x32 => .c1 (P25o N a0 a1) (fun x33 => .c1 (P24 N x32 x33) (fun x34 => .br x34 (.c1 (P10 N) (fun x35 => .leaf x35)) (.leaf false))))) (.leaf false)) (.leaf false)))) (.leaf false)))) (.leaf false)))))))))))))))))
noncomputable def F3 (N : Nat) (a0 : (List Ln)) (a1 : Int) : Option Bool := (V3 N a0 a1).eval
def t3 : List (Nat × List Nat × List (Nat × Sh)) := []
theorem P3 (N : Nat) (a0 : (List Ln)) (a1 : Int) : ∀ r, F3 N a0 a1 = some r → Spec Try.prog 3 [.val (.list tLn) a0, .val tI a1] (E3 r) := fun r h => Spec_of (fn := Try.f3) rfl rfl rfl rfl false (wpc_sound (tbl := t3) (μ := [22, 27, 67, 77, 104, 141, 144]) mixed _ _ _ (by
  have h1 := Vt.sound _ h
  refine Eq.mp ?_ h1
  kernel_rfl))

/-! ferryslip/ferryslipref03.Short -/
def E26 : Bool → D := fun x => encV tB x
abbrev l26_4 : List (Nat × Sh) := [(0, .val (.list tS)), (3, .val tI)]
noncomputable def b26_4 : Code := loopBody 4 (bodyOf Try.f26)
noncomputable def U26_4 (N : Nat) (s0 : (List Bs)) (s3 : Int) : Vt (Lp (shTy l26_4).I Bool) (O3 (Option D)) (encO 19 l26_4 [0] (fun q => some (E26 q))) :=
  .br (decide (s3 < (s0.length : Int))) (.ck (inR s3 s0.length) (.br (decide ((100 : Int) < ((atI tS s0 s3).length : Int))) (.leaf (.ret false)) (.leaf (.next (s0, (IntKind.i64.wrap (s3 + 1))))))) (.leaf (.brk 0 (s0, s3)))
noncomputable def L26_4 (N : Nat) (s0 : (List Bs)) (s3 : Int) : Option (Lp ((List Bs) × Int) Bool) := (U26_4 N s0 s3).eval
noncomputable def W26_4 (N : Nat) (x : ((List Bs) × Int)) : Option (Lp ((List Bs) × Int) Bool) := runLoop (fun x => L26_4 N x.1 x.2) N x
theorem WS26_4 (N : Nat) (x : (shTy l26_4).I) : ∀ o, W26_4 N x = some o → S Try.prog (.loop b26_4) (buildSt 19 l26_4 x) (stepZ (rdD Try.prog Try.f26 false) l26_4 (encO 19 l26_4 [0] (fun q => some (E26 q)) o)) :=
  fun o h => loop_S (l := l26_4) (step := fun x => L26_4 N x.1 x.2) (fun x o h => wpc_sound (tbl := []) (μ := []) mixed _ _ _ (by
    have h1 := Vt.sound _ h
    refine Eq.mp ?_ h1
    kernel_rfl)) N x o h
noncomputable def V26 (N : Nat) (a0 : (List Bs)) : Vt Bool (Option D) (fun q => some (E26 q)) :=
  .br (decide ((40 : Int) < (a0.length : Int))) (.leaf false) (.f1 (l := l26_4) (o := W26_4 N (a0, 0)) (WS26_4 N (a0, 0)) (fun x1 => .leaf true))
noncomputable def F26 (N : Nat) (a0 : (List Bs)) : Option Bool := (V26 N a0).eval
def t26 : List (Nat × List Nat × List (Nat × Sh)) := [(4, [0], l26_4)]
theorem P26 (N : Nat) (a0 : (List Bs)) : ∀ r, F26 N a0 = some r → Spec Try.prog 26 [.val (.list tS) a0] (E26 r) := fun r h => Spec_of (fn := Try.f26) rfl rfl rfl rfl false (wpc_sound (tbl := t26) (μ := []) mixed _ _ _ (by
  have h1 := Vt.sound _ h
  refine Eq.mp ?_ h1
  kernel_rfl))

/-! ferryslip/ferryslipref03.Find -/
def E28 : Int → D := fun x => encV tI x
abbrev l28_2 : List (Nat × Sh) := [(0, .val (.list tLn)), (1, .val (.list tS)), (5, .val tI)]
noncomputable def b28_2 : Code := loopBody 2 (bodyOf Try.f28)
noncomputable def U28_2 (N : Nat) (s0 : (List Ln)) (s1 : (List Bs)) (s5 : Int) : Vt (Lp (shTy l28_2).I Int) (O3 (Option D)) (encO 29 l28_2 [0] (fun q => some (E28 q))) :=
  .br (decide (s5 < (s0.length : Int))) (.ck (inR s5 s0.length) (.br (((atI tLn s0 s5).1) == (IntKind.i64.wrap ((s1.length : Int) - 1))) (.c1 (P23 N s0 s5) (fun x1 => .c1 (P22 N x1 s1) (fun x2 => .br x2 (.leaf (.ret s5)) (.leaf (.next (s0, s1, (IntKind.i64.wrap (s5 + 1)))))))) (.leaf (.next (s0, s1, (IntKind.i64.wrap (s5 + 1))))))) (.leaf (.brk 0 (s0, s1, s5)))
noncomputable def L28_2 (N : Nat) (s0 : (List Ln)) (s1 : (List Bs)) (s5 : Int) : Option (Lp ((List Ln) × (List Bs) × Int) Int) := (U28_2 N s0 s1 s5).eval
noncomputable def W28_2 (N : Nat) (x : ((List Ln) × (List Bs) × Int)) : Option (Lp ((List Ln) × (List Bs) × Int) Int) := runLoop (fun x => L28_2 N x.1 x.2.1 x.2.2) N x
theorem WS28_2 (N : Nat) (x : (shTy l28_2).I) : ∀ o, W28_2 N x = some o → S Try.prog (.loop b28_2) (buildSt 29 l28_2 x) (stepZ (rdD Try.prog Try.f28 false) l28_2 (encO 29 l28_2 [0] (fun q => some (E28 q)) o)) :=
  fun o h => loop_S (l := l28_2) (step := fun x => L28_2 N x.1 x.2.1 x.2.2) (fun x o h => wpc_sound (tbl := []) (μ := []) mixed _ _ _ (by
    have h1 := Vt.sound _ h
    refine Eq.mp ?_ h1
    kernel_rfl)) N x o h
noncomputable def V28 (N : Nat) (a0 : (List Ln)) (a1 : (List Bs)) : Vt Int (Option D) (fun q => some (E28 q)) :=
  .f1 (l := l28_2) (o := W28_2 N (a0, a1, 0)) (WS28_2 N (a0, a1, 0)) (fun x1 => .leaf (-1))
noncomputable def F28 (N : Nat) (a0 : (List Ln)) (a1 : (List Bs)) : Option Int := (V28 N a0 a1).eval
def t28 : List (Nat × List Nat × List (Nat × Sh)) := [(2, [0], l28_2)]
theorem P28 (N : Nat) (a0 : (List Ln)) (a1 : (List Bs)) : ∀ r, F28 N a0 a1 = some r → Spec Try.prog 28 [.val (.list tLn) a0, .val (.list tS) a1] (E28 r) := fun r h => Spec_of (fn := Try.f28) rfl rfl rfl rfl false (wpc_sound (tbl := t28) (μ := []) mixed _ _ _ (by
  have h1 := Vt.sound _ h
  refine Eq.mp ?_ h1
  kernel_rfl))

/-! ferryslip/ferrysliplaw03.TreeFinds -/
def E4 : Bool → D := fun x => encV tB x
abbrev l4_12 : List (Nat × Sh) := [(0, .val (.list tLn)), (5, .val tB), (9, .row false 59 3 tI), (43, .val tI), (44, .val tI)]
noncomputable def b4_12 : Code := loopBody 12 (bodyOf Try.f4)
noncomputable def U4_12 (N : Nat) (s0 : (List Ln)) (s5 : Bool) (s9 : (List Int)) (s43 : Int) (s44 : Int) : Vt (Lp (shTy l4_12).I Bool) (O3 (Option D)) (encO 68 l4_12 [0] (fun q => some (E4 q))) :=
  .br (decide (s44 < s43)) (.br s5 (.c1 (P21 N s0 s44) (fun x1 => .br (x1 == (IntKind.i64.wrap (s44 + 1))) (.ck (room (s9.length + ([s44] : (List Int)).length)) (.leaf (.next (s0, s5, (s9 ++ ([s44] : (List Int))), s43, (IntKind.i64.wrap (s44 + 1)))))) (.leaf (.next (s0, s5, s9, s43, (IntKind.i64.wrap (s44 + 1))))))) (.leaf (.next (s0, s5, s9, s43, (IntKind.i64.wrap (s44 + 1)))))) (.leaf (.brk 0 (s0, s5, s9, s43, s44)))
noncomputable def L4_12 (N : Nat) (s0 : (List Ln)) (s5 : Bool) (s9 : (List Int)) (s43 : Int) (s44 : Int) : Option (Lp ((List Ln) × Bool × (List Int) × Int × Int) Bool) := (U4_12 N s0 s5 s9 s43 s44).eval
noncomputable def W4_12 (N : Nat) (x : ((List Ln) × Bool × (List Int) × Int × Int)) : Option (Lp ((List Ln) × Bool × (List Int) × Int × Int) Bool) := runLoop (fun x => L4_12 N x.1 x.2.1 x.2.2.1 x.2.2.2.1 x.2.2.2.2) N x
theorem WS4_12 (N : Nat) (x : (shTy l4_12).I) : ∀ o, W4_12 N x = some o → S Try.prog (.loop b4_12) (buildSt 68 l4_12 x) (stepZ (rdD Try.prog Try.f4 false) l4_12 (encO 68 l4_12 [0] (fun q => some (E4 q)) o)) :=
  fun o h => loop_S (l := l4_12) (step := fun x => L4_12 N x.1 x.2.1 x.2.2.1 x.2.2.2.1 x.2.2.2.2) (fun x o h => wpc_sound (tbl := []) (μ := []) mixed _ _ _ (by
    have h1 := Vt.sound _ h
    refine Eq.mp ?_ h1
    kernel_rfl)) N x o h
noncomputable def V4 (N : Nat) (a0 : (List Ln)) (a1 : (List Bs)) : Vt Bool (Option D) (fun q => some (E4 q)) :=
  .c1 (P9 N a0) (fun x1 => .br (!x1) (.c1 (P10 N) (fun x2 => .leaf x2)) (.c1 (P26 N a1) (fun x3 => .br (!x3) (.c1 (P10 N) (fun x4 => .leaf x4)) (.c1 (P11 N a0) (fun x5 => .c2 (P27 N a0 a1) (fun x6 x7 => .br x5 (.c1 (P28 N a0 a1) (fun x8 => .br (!(x7 == (decide ((0 : Int) ≤ x8)))) (.leaf false) (.br (x6 != (imax x8 0)) (.leaf false) (.f1 (l := l4_12) (o := W4_12 N (a0, x5, ([] : (List Int)), (a0.length : Int), 0)) (WS4_12 N (a0, x5, ([] : (List Int)), (a0.length : Int), 0)) (fun x2 => .c1 (P29o N x2.1) (fun x3 => .c1 (P18 N x3 x2.2.2.1) (fun x4 => .br x4 (.c1 (P10 N) (fun x5 => .leaf x5)) (.leaf false)))))))) (.br (!(x7 == (decide ((0 : Int) ≤ (-1))))) (.leaf false) (.br (x6 != (imax (-1) 0)) (.leaf false) (.f1 (l := l4_12) (o := W4_12 N (a0, x5, ([] : (List Int)), (a0.length : Int), 0)) (WS4_12 N (a0, x5, ([] : (List Int)), (a0.length : Int), 0)) (fun x6 => .c1 (P29o N x6.1) (fun x7 => .c1 (P18 N x7 x6.2.2.1) (fun x8 => .br x8 (.c1 (P10 N) (fun x9 => .leaf x9)) (.leaf false)))))))))))))
noncomputable def F4 (N : Nat) (a0 : (List Ln)) (a1 : (List Bs)) : Option Bool := (V4 N a0 a1).eval
def t4 : List (Nat × List Nat × List (Nat × Sh)) := [(12, [0], l4_12)]
theorem P4 (N : Nat) (a0 : (List Ln)) (a1 : (List Bs)) : ∀ r, F4 N a0 a1 = some r → Spec Try.prog 4 [.val (.list tLn) a0, .val (.list tS) a1] (E4 r) := fun r h => Spec_of (fn := Try.f4) rfl rfl rfl rfl false (wpc_sound (tbl := t4) (μ := [62]) mixed _ _ _ (by
  have h1 := Vt.sound _ h
  refine Eq.mp ?_ h1
  kernel_rfl))

/-! ferryslip/ferrysliplaw03.TreePaths -/
def E5 : Bool → D := fun x => encV tB x
abbrev l5_4 : List (Nat × Sh) := [(0, .val (.list tLn)), (26, .val tI), (27, .val tI)]
noncomputable def b5_4 : Code := loopBody 4 (bodyOf Try.f5)
noncomputable def U5_4 (N : Nat) (s0 : (List Ln)) (s26 : Int) (s27 : Int) : Vt (Lp (shTy l5_4).I Bool) (O3 (Option D)) (encO 112 l5_4 [0] (fun q => some (E5 q))) :=
  .br (decide (s27 < s26)) (.c2 (P13o N s0 s27) (fun x1 x2 => .c2 (P27 N s0 x1) (fun x3 x4 => .br (x2 != 0) (.leaf (.ret false)) (.br (!x4) (.leaf (.ret false)) (.br (x3 != s27) (.leaf (.ret false)) (.ck (inR s27 s0.length) (.br ((x1.length : Int) != (IntKind.i64.wrap (((atI tLn s0 s27).1) + 1))) (.leaf (.ret false)) (.ck (inR (IntKind.i64.wrap ((x1.length : Int) - 1)) x1.length) (.ck (inR (IntKind.i64.wrap ((x1.length : Int) - 1)) x1.length) (.ck (inR s27 s0.length) (.br (!((atI tS x1 (IntKind.i64.wrap ((x1.length : Int) - 1))) == ((atI tLn s0 s27).2.1))) (.leaf (.ret false)) (.c1 (P15 N s0 s27) (fun x5 => .ck (inR s27 s0.length) (.br (!((decide (x5 < 0)) == (((atI tLn s0 s27).1) == 0))) (.leaf (.ret false)) (.br (decide (x5 < 0)) (.leaf (.next (s0, s26, (IntKind.i64.wrap (s27 + 1))))) (.c2 (P13o N s0 x5) (fun x6 x7 => .br (x7 != 0) (.leaf (.ret false)) (.ck ((0 : Int) ≤ 0 ∧ (0 : Int) ≤ (IntKind.i64.wrap ((x1.length : Int) - 1)) ∧ (IntKind.i64.wrap ((x1.length : Int) - 1)) ≤ (x1.length : Int)) (.c1 (P22 N x6 (slc x1 0 (IntKind.i64.wrap ((x1.length : Int) - 1)))) (fun x8 => .br (!x8) (.leaf (.ret false)) (.leaf (.next (s0, s26, (IntKind.i64.wrap (s27 + 1))))))))))))))))))))))))) (.leaf (.brk 0 (s0, s26, s27)))
noncomputable def L5_4 (N : Nat) (s0 : (List Ln)) (s26 : Int) (s27 : Int) : Option (Lp ((List Ln) × Int × Int) Bool) := (U5_4 N s0 s26 s27).eval
noncomputable def W5_4 (N : Nat) (x : ((List Ln) × Int × Int)) : Option (Lp ((List Ln) × Int × Int) Bool) := runLoop (fun x => L5_4 N x.1 x.2.1 x.2.2) N x
theorem WS5_4 (N : Nat) (x : (shTy l5_4).I) : ∀ o, W5_4 N x = some o → S Try.prog (.loop b5_4) (buildSt 112 l5_4 x) (stepZ (rdD Try.prog Try.f5 false) l5_4 (encO 112 l5_4 [0] (fun q => some (E5 q)) o)) :=
  fun o h => loop_S (l := l5_4) (step := fun x => L5_4 N x.1 x.2.1 x.2.2) (fun x o h => wpc_sound (tbl := []) (μ := [33, 95]) mixed _ _ _ (by
    have h1 := Vt.sound _ h
    refine Eq.mp ?_ h1
    kernel_rfl)) N x o h
noncomputable def V5 (N : Nat) (a0 : (List Ln)) : Vt Bool (Option D) (fun q => some (E5 q)) :=
  .c1 (P9 N a0) (fun x1 => .br (!x1) (.c1 (P10 N) (fun x2 => .leaf x2)) (.br (decide ((60 : Int) < (a0.length : Int))) (.c1 (P10 N) (fun x3 => .leaf x3)) (.c1 (P11 N a0) (fun x4 => .br (!x4) (.c1 (P10 N) (fun x5 => .leaf x5)) (.f1 (l := l5_4) (o := W5_4 N (a0, (a0.length : Int), 0)) (WS5_4 N (a0, (a0.length : Int), 0)) (fun x6 => .c1 (P10 N) (fun x7 => .leaf x7)))))))
noncomputable def F5 (N : Nat) (a0 : (List Ln)) : Option Bool := (V5 N a0).eval
def t5 : List (Nat × List Nat × List (Nat × Sh)) := [(4, [0], l5_4)]
theorem P5 (N : Nat) (a0 : (List Ln)) : ∀ r, F5 N a0 = some r → Spec Try.prog 5 [.val (.list tLn) a0] (E5 r) := fun r h => Spec_of (fn := Try.f5) rfl rfl rfl rfl false (wpc_sound (tbl := t5) (μ := [33, 95]) mixed _ _ _ (by
  have h1 := Vt.sound _ h
  refine Eq.mp ?_ h1
  kernel_rfl))

/-! ferryslip/ferrysliplaw03.TreeParts -/
def E6 : Bool → D := fun x => encV tB x
abbrev l6_7 : List (Nat × Sh) := [(0, .val (.list tLn)), (1, .val tI), (5, .val (.list tLn)), (55, .val tI), (56, .val tI)]
noncomputable def b6_7 : Code := loopBody 7 (bodyOf Try.f6)
noncomputable def U6_7 (N : Nat) (s0 : (List Ln)) (s1 : Int) (s5 : (List Ln)) (s55 : Int) (s56 : Int) : Vt (Lp (shTy l6_7).I Bool) (O3 (Option D)) (encO 124 l6_7 [0] (fun q => some (E6 q))) :=
  .br (decide (s56 < s55)) (.c2 (P13o N s5 s56) (fun x1 x2 => .c2 (P13o N s0 (IntKind.i64.wrap (s1 + s56))) (fun x3 x4 => .br (x2 != 0) (.leaf (.ret false)) (.br (x4 != 0) (.leaf (.ret false)) (.ck (inR s1 s0.length) (.br ((x3.length : Int) != (IntKind.i64.wrap ((x1.length : Int) + ((atI tLn s0 s1).1)))) (.leaf (.ret false)) (.ck (inR s1 s0.length) (.ck ((0 : Int) ≤ ((atI tLn s0 s1).1) ∧ ((atI tLn s0 s1).1) ≤ (x3.length : Int) ∧ (x3.length : Int) ≤ (x3.length : Int)) (.c1 (P22 N x1 (slc x3 ((atI tLn s0 s1).1) (x3.length : Int))) (fun x5 => .br (!x5) (.leaf (.ret false)) (.leaf (.next (s0, s1, s5, s55, (IntKind.i64.wrap (s56 + 1))))))))))))))) (.leaf (.brk 0 (s0, s1, s5, s55, s56)))
noncomputable def L6_7 (N : Nat) (s0 : (List Ln)) (s1 : Int) (s5 : (List Ln)) (s55 : Int) (s56 : Int) : Option (Lp ((List Ln) × Int × (List Ln) × Int × Int) Bool) := (U6_7 N s0 s1 s5 s55 s56).eval
noncomputable def W6_7 (N : Nat) (x : ((List Ln) × Int × (List Ln) × Int × Int)) : Option (Lp ((List Ln) × Int × (List Ln) × Int × Int) Bool) := runLoop (fun x => L6_7 N x.1 x.2.1 x.2.2.1 x.2.2.2.1 x.2.2.2.2) N x
theorem WS6_7 (N : Nat) (x : (shTy l6_7).I) : ∀ o, W6_7 N x = some o → S Try.prog (.loop b6_7) (buildSt 124 l6_7 x) (stepZ (rdD Try.prog Try.f6 false) l6_7 (encO 124 l6_7 [0] (fun q => some (E6 q)) o)) :=
  fun o h => loop_S (l := l6_7) (step := fun x => L6_7 N x.1 x.2.1 x.2.2.1 x.2.2.2.1 x.2.2.2.2) (fun x o h => wpc_sound (tbl := []) (μ := [40, 62, 70]) mixed _ _ _ (by
    have h1 := Vt.sound _ h
    refine Eq.mp ?_ h1
    kernel_rfl)) N x o h
abbrev l6_16 : List (Nat × Sh) := [(0, .val (.list tLn)), (11, .row false 116 45 tLn), (106, .row false 106 3 tI), (107, .val tI), (108, .val tI)]
noncomputable def b6_16 : Code := loopBody 16 (bodyOf Try.f6)
noncomputable def U6_16 (N : Nat) (s0 : (List Ln)) (s11 : (List Ln)) (s106 : (List Int)) (s107 : Int) (s108 : Int) : Vt (Lp (shTy l6_16).I Bool) (O3 (Option D)) (encO 124 l6_16 [2] (fun q => some (E6 q))) :=
  .br (decide (s108 < s107)) (.ck (inR s108 s106.length) (.ck (inR s108 s106.length) (.c1 (P17o N s0 (atI tI s106 s108)) (fun x1 => .ck (room (s11.length + x1.length)) (.leaf (.next (s0, (s11 ++ x1), s106, s107, (IntKind.i64.wrap (s108 + 1))))))))) (.leaf (.brk 0 (s0, s11, s106, s107, s108)))
noncomputable def L6_16 (N : Nat) (s0 : (List Ln)) (s11 : (List Ln)) (s106 : (List Int)) (s107 : Int) (s108 : Int) : Option (Lp ((List Ln) × (List Ln) × (List Int) × Int × Int) Bool) := (U6_16 N s0 s11 s106 s107 s108).eval
noncomputable def W6_16 (N : Nat) (x : ((List Ln) × (List Ln) × (List Int) × Int × Int)) : Option (Lp ((List Ln) × (List Ln) × (List Int) × Int × Int) Bool) := runLoop (fun x => L6_16 N x.1 x.2.1 x.2.2.1 x.2.2.2.1 x.2.2.2.2) N x
theorem WS6_16 (N : Nat) (x : (shTy l6_16).I) : ∀ o, W6_16 N x = some o → S Try.prog (.loop b6_16) (buildSt 124 l6_16 x) (stepZ (rdD Try.prog Try.f6 false) l6_16 (encO 124 l6_16 [2] (fun q => some (E6 q)) o)) :=
  fun o h => loop_S (l := l6_16) (step := fun x => L6_16 N x.1 x.2.1 x.2.2.1 x.2.2.2.1 x.2.2.2.2) (fun x o h => wpc_sound (tbl := [(7, [0], l6_7)]) (μ := [40, 62, 70, 106, 115]) mixed _ _ _ (by
    have h1 := Vt.sound _ h
    refine Eq.mp ?_ h1
    kernel_rfl)) N x o h
noncomputable def V6 (N : Nat) (a0 : (List Ln)) (a1 : Int) : Vt Bool (Option D) (fun q => some (E6 q)) :=
  .c1 (P9 N a0) (fun x1 => .br (!x1) (.c1 (P10 N) (fun x2 => .leaf x2)) (.br (decide ((60 : Int) < (a0.length : Int))) (.c1 (P10 N) (fun x3 => .leaf x3)) (.c1 (P11 N a0) (fun x4 => .br (!x4) (.c1 (P10 N) (fun x5 => .leaf x5)) (.br (decide (a1 < 0)) (.c1 (P10 N) (fun x6 => .leaf x6)) (.br (decide ((a0.length : Int) ≤ a1)) (.c1 (P10 N) (fun x7 => .leaf x7)) (.c1 (P17o N a0 a1) (fun x8 => .c1 (P12 N x8) (fun x9 => .br (!x9) (.leaf false) (.c1 (P16 N a0 a1) (fun x10 => .br ((x8.length : Int) != (IntKind.i64.wrap (x10 - a1))) (.leaf false) (.f1 (l := l6_7) (o := W6_7 N (a0, a1, x8, (x8.length : Int), 0)) (WS6_7 N (a0, a1, x8, (x8.length : Int), 0)) (fun x6 => .c1 (P14o N x6.1 (-1)) (fun x7 => .f1 (l := l6_16) (o := W6_16 N (x6.1, ([] : (List Ln)), x7, (x7.length : Int), 0)) (WS6_16 N (x6.1, ([] : (List Ln)), x7, (x7.length : Int), 0)) (fun x8 => .c1 (P24 N x8.2.1 x8.1) (fun x9 => .br x9 (.c1 (P10 N) (fun x10 => .leaf x10)) (.leaf false)))))))))))))))))
noncomputable def F6 (N : Nat) (a0 : (List Ln)) (a1 : Int) : Option Bool := (V6 N a0 a1).eval
def t6 : List (Nat × List Nat × List (Nat × Sh)) := [(7, [0], l6_7), (16, [2], l6_16)]
theorem P6 (N : Nat) (a0 : (List Ln)) (a1 : Int) : ∀ r, F6 N a0 a1 = some r → Spec Try.prog 6 [.val (.list tLn) a0, .val tI a1] (E6 r) := fun r h => Spec_of (fn := Try.f6) rfl rfl rfl rfl false (wpc_sound (tbl := t6) (μ := [40, 62, 70, 106, 115]) mixed _ _ _ (by
  have h1 := Vt.sound _ h
  refine Eq.mp ?_ h1
  kernel_rfl))

/-! ferryslip/ferrysliplaw03.TreeKids -/
def E7 : Bool → D := fun x => encV tB x
abbrev l7_12 : List (Nat × Sh) := [(0, .val (.list tLn)), (3, .val tI), (4, .val tI), (5, .val tI), (45, .row false 31 3 tI), (46, .val tI), (47, .val tI)]
noncomputable def b7_12 : Code := loopBody 12 (bodyOf Try.f7)
noncomputable def U7_12 (N : Nat) (s0 : (List Ln)) (s3 : Int) (s4 : Int) (s5 : Int) (s45 : (List Int)) (s46 : Int) (s47 : Int) : Vt (Lp (shTy l7_12).I Bool) (O3 (Option D)) (encO 81 l7_12 [2] (fun q => some (E7 q))) :=
  .br (decide (s47 < s46)) (.ck (inR s47 s45.length) (.ck (inR s47 s45.length) (.br (decide ((atI tI s45 s47) < 0)) (.leaf (.ret false)) (.br (decide ((s0.length : Int) ≤ (atI tI s45 s47))) (.leaf (.ret false)) (.c1 (P15 N s0 (atI tI s45 s47)) (fun x1 => .br (x1 != s5) (.leaf (.ret false)) (.leaf (.next (s0, s3, s4, s5, s45, s46, (IntKind.i64.wrap (s47 + 1))))))))))) (.leaf (.brk 0 (s0, s3, s4, s5, s45, s46, s47)))
noncomputable def L7_12 (N : Nat) (s0 : (List Ln)) (s3 : Int) (s4 : Int) (s5 : Int) (s45 : (List Int)) (s46 : Int) (s47 : Int) : Option (Lp ((List Ln) × Int × Int × Int × (List Int) × Int × Int) Bool) := (U7_12 N s0 s3 s4 s5 s45 s46 s47).eval
noncomputable def W7_12 (N : Nat) (x : ((List Ln) × Int × Int × Int × (List Int) × Int × Int)) : Option (Lp ((List Ln) × Int × Int × Int × (List Int) × Int × Int) Bool) := runLoop (fun x => L7_12 N x.1 x.2.1 x.2.2.1 x.2.2.2.1 x.2.2.2.2.1 x.2.2.2.2.2.1 x.2.2.2.2.2.2) N x
theorem WS7_12 (N : Nat) (x : (shTy l7_12).I) : ∀ o, W7_12 N x = some o → S Try.prog (.loop b7_12) (buildSt 81 l7_12 x) (stepZ (rdD Try.prog Try.f7 false) l7_12 (encO 81 l7_12 [2] (fun q => some (E7 q)) o)) :=
  fun o h => loop_S (l := l7_12) (step := fun x => L7_12 N x.1 x.2.1 x.2.2.1 x.2.2.2.1 x.2.2.2.2.1 x.2.2.2.2.2.1 x.2.2.2.2.2.2) (fun x o h => wpc_sound (tbl := []) (μ := [31]) mixed _ _ _ (by
    have h1 := Vt.sound _ h
    refine Eq.mp ?_ h1
    kernel_rfl)) N x o h
abbrev l7_5 : List (Nat × Sh) := [(0, .val (.list tLn)), (3, .val tI), (4, .val tI), (5, .val tI)]
noncomputable def b7_5 : Code := loopBody 5 (bodyOf Try.f7)
noncomputable def U7_5 (N : Nat) (s0 : (List Ln)) (s3 : Int) (s4 : Int) (s5 : Int) : Vt (Lp (shTy l7_5).I Bool) (O3 (Option D)) (encO 81 l7_5 [0] (fun q => some (E7 q))) :=
  .br (decide (s5 < (s0.length : Int))) (.c1 (P14o N s0 s5) (fun x1 => .br ((x1.length : Int) == 0) (.br (decide ((0 : Int) ≤ s5)) (.g1 (l := l7_12) (o := W7_12 N (s0, (IntKind.i64.wrap (s3 + (x1.length : Int))), (IntKind.i64.wrap (s4 + 1)), s5, x1, (x1.length : Int), 0)) (WS7_12 N (s0, (IntKind.i64.wrap (s3 + (x1.length : Int))), (IntKind.i64.wrap (s4 + 1)), s5, x1, (x1.length : Int), 0)) (fun x2 => .leaf (.next (x2.1, x2.2.1, x2.2.2.1, (IntKind.i64.wrap (x2.2.2.2.1 + 1)))))) (.g1 (l := l7_12) (o := W7_12 N (s0, (IntKind.i64.wrap (s3 + (x1.length : Int))), s4, s5, x1, (x1.length : Int), 0)) (WS7_12 N (s0, (IntKind.i64.wrap (s3 + (x1.length : Int))), s4, s5, x1, (x1.length : Int), 0)) (fun x3 => .leaf (.next (x3.1, x3.2.1, x3.2.2.1, (IntKind.i64.wrap (x3.2.2.2.1 + 1))))))) (.g1 (l := l7_12) (o := W7_12 N (s0, (IntKind.i64.wrap (s3 + (x1.length : Int))), s4, s5, x1, (x1.length : Int), 0)) (WS7_12 N (s0, (IntKind.i64.wrap (s3 + (x1.length : Int))), s4, s5, x1, (x1.length : Int), 0)) (fun x4 => .leaf (.next (x4.1, x4.2.1, x4.2.2.1, (IntKind.i64.wrap (x4.2.2.2.1 + 1)))))))) (.leaf (.brk 0 (s0, s3, s4, s5)))
noncomputable def L7_5 (N : Nat) (s0 : (List Ln)) (s3 : Int) (s4 : Int) (s5 : Int) : Option (Lp ((List Ln) × Int × Int × Int) Bool) := (U7_5 N s0 s3 s4 s5).eval
noncomputable def W7_5 (N : Nat) (x : ((List Ln) × Int × Int × Int)) : Option (Lp ((List Ln) × Int × Int × Int) Bool) := runLoop (fun x => L7_5 N x.1 x.2.1 x.2.2.1 x.2.2.2) N x
theorem WS7_5 (N : Nat) (x : (shTy l7_5).I) : ∀ o, W7_5 N x = some o → S Try.prog (.loop b7_5) (buildSt 81 l7_5 x) (stepZ (rdD Try.prog Try.f7 false) l7_5 (encO 81 l7_5 [0] (fun q => some (E7 q)) o)) :=
  fun o h => loop_S (l := l7_5) (step := fun x => L7_5 N x.1 x.2.1 x.2.2.1 x.2.2.2) (fun x o h => wpc_sound (tbl := [(12, [2], l7_12)]) (μ := [31]) mixed _ _ _ (by
    have h1 := Vt.sound _ h
    refine Eq.mp ?_ h1
    kernel_rfl)) N x o h
noncomputable def V7 (N : Nat) (a0 : (List Ln)) : Vt Bool (Option D) (fun q => some (E7 q)) :=
  .c1 (P9 N a0) (fun x1 => .br (!x1) (.c1 (P10 N) (fun x2 => .leaf x2)) (.br (decide ((60 : Int) < (a0.length : Int))) (.c1 (P10 N) (fun x3 => .leaf x3)) (.c1 (P11 N a0) (fun x4 => .br (!x4) (.c1 (P10 N) (fun x5 => .leaf x5)) (.f1 (l := l7_5) (o := W7_5 N (a0, 0, 0, (-1))) (WS7_5 N (a0, 0, 0, (-1))) (fun x6 => .br (x6.2.1 == (x6.1.length : Int)) (.c1 (P29o N x6.1) (fun x7 => .br (x6.2.2.1 == (x7.length : Int)) (.c1 (P10 N) (fun x8 => .leaf x8)) (.leaf false))) (.leaf false)))))))
noncomputable def F7 (N : Nat) (a0 : (List Ln)) : Option Bool := (V7 N a0).eval
def t7 : List (Nat × List Nat × List (Nat × Sh)) := [(12, [2], l7_12), (5, [0], l7_5)]
theorem P7 (N : Nat) (a0 : (List Ln)) : ∀ r, F7 N a0 = some r → Spec Try.prog 7 [.val (.list tLn) a0] (E7 r) := fun r h => Spec_of (fn := Try.f7) rfl rfl rfl rfl false (wpc_sound (tbl := t7) (μ := [31, 74]) mixed _ _ _ (by
  have h1 := Vt.sound _ h
  refine Eq.mp ?_ h1
  kernel_rfl))

/-! ferryslip/ferrysliplaw03.TreeCuts -/
def E8 : Bool → D := fun x => encV tB x
noncomputable def V8 (N : Nat) (a0 : (List Ln)) (a1 : Int) : Vt Bool (Option D) (fun q => some (E8 q)) :=
  .c1 (P9 N a0) (fun x1 => .br (!x1) (.c1 (P10 N) (fun x2 => .leaf x2)) (.br (decide ((60 : Int) < (a0.length : Int))) (.c1 (P10 N) (fun x3 => .leaf x3)) (.br ((a0.length : Int) == 0) (.c1 (P10 N) (fun x4 => .leaf x4)) (.c1 (P11 N a0) (fun x5 => .br (!x5) (.c1 (P10 N) (fun x6 => .leaf x6)) (.ck ((a0.length : Int) ≠ 0) (.ck ((0 : Int) ≤ 0 ∧ (0 : Int) ≤ ((IntKind.i64.wrap a1).tmod (a0.length : Int)) ∧ ((IntKind.i64.wrap a1).tmod (a0.length : Int)) ≤ (a0.length : Int)) (.ck (room (slc a0 0 ((IntKind.i64.wrap a1).tmod (a0.length : Int))).length) (.c1 (P16 N a0 ((IntKind.i64.wrap a1).tmod (a0.length : Int))) (fun x7 => .ck ((0 : Int) ≤ x7 ∧ x7 ≤ (a0.length : Int) ∧ (a0.length : Int) ≤ (a0.length : Int)) (.ck (room ((slc a0 0 ((IntKind.i64.wrap a1).tmod (a0.length : Int))).length + (slc a0 x7 (a0.length : Int)).length)) (.ck ((0 : Int) ≤ 0 ∧ (0 : Int) ≤ ((IntKind.i64.wrap a1).tmod (a0.length : Int)) ∧ ((IntKind.i64.wrap a1).tmod (a0.length : Int)) ≤ (a0.length : Int)) (.c1 (P12 N (slc a0 0 ((IntKind.i64.wrap a1).tmod (a0.length : Int)))) (fun x8 => .br x8 (.c1 (P12 N ((slc a0 0 ((IntKind.i64.wrap a1).tmod (a0.length : Int))) ++ (slc a0 x7 (a0.length : Int)))) (fun x9 => .br x9 (.br (decide ((((slc a0 0 ((IntKind.i64.wrap a1).tmod (a0.length : Int))) ++ (slc a0 x7 (a0.length : Int))).length : Int) < (a0.length : Int))) (.c1 (P10 N) (fun x10 => .leaf x10)) (.leaf false)) (.leaf false))) (.leaf false)))))))))))))))
noncomputable def F8 (N : Nat) (a0 : (List Ln)) (a1 : Int) : Option Bool := (V8 N a0 a1).eval
def t8 : List (Nat × List Nat × List (Nat × Sh)) := []
theorem P8 (N : Nat) (a0 : (List Ln)) (a1 : Int) : ∀ r, F8 N a0 a1 = some r → Spec Try.prog 8 [.val (.list tLn) a0, .val (.int .u8) a1] (E8 r) := fun r h => Spec_of (fn := Try.f8) rfl rfl rfl rfl false (wpc_sound (tbl := t8) (μ := []) mixed _ _ _ (by
  have h1 := Vt.sound _ h
  refine Eq.mp ?_ h1
  kernel_rfl))

end Go.Proofs.Ytinbdleemjpkpaa.Vc
