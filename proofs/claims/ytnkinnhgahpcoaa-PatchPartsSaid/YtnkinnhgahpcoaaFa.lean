/-
  WHAT THE FUNCTIONS DO WITH DATA, printed by a program from the translation. No condition.
-/
import Derived.Test.YtnkinnhgahpcoaaAg
import Derived.Test.YtnkinnhgahpcoaaAh
set_option linter.unusedVariables false
set_option linter.unusedSimpArgs false
set_option maxRecDepth 100000
namespace Go.Proofs.Ytnkinnhgahpcoaa.Vc
open Go.RowKit

/-! ferryslip/ferrysliplaw16.few -/
def E10 : Bool → D := fun x => encV tB x
abbrev l10_2 : List (Nat × Sh) := [(0, .val (.list (.pair tS (.pair tI (.pair tS tS))))), (5, .val (.list (.pair tS (.pair tI (.pair tS tS))))), (6, .val tI), (7, .val tI)]
noncomputable def b10_2 : Code := loopBody 2 (bodyOf Try.f10)
noncomputable def U10_2 (N : Nat) (s0 : (List (Bs × (Int × (Bs × Bs))))) (s5 : (List (Bs × (Int × (Bs × Bs))))) (s6 : Int) (s7 : Int) : Vt (Lp (shTy l10_2).I Bool) (O3 (Option D)) (encO 36 l10_2 [0] (fun q => some (E10 q))) :=
  .br (decide (s7 < s6)) (.ck (inR s7 s5.length) (.br (decide (s7 < 60)) (.br (decide ((100 : Int) < (((atI (.pair tS (.pair tI (.pair tS tS))) s5 s7).1).length : Int))) (.leaf (.ret false)) (.br (decide ((100 : Int) < (((atI (.pair tS (.pair tI (.pair tS tS))) s5 s7).2.2.1).length : Int))) (.leaf (.ret false)) (.br (decide ((100 : Int) < (((atI (.pair tS (.pair tI (.pair tS tS))) s5 s7).2.2.2).length : Int))) (.leaf (.ret false)) (.leaf (.next (s0, s5, s6, (IntKind.i64.wrap (s7 + 1)))))))) (.leaf (.next (s0, s5, s6, (IntKind.i64.wrap (s7 + 1))))))) (.leaf (.brk 0 (s0, s5, s6, s7)))
noncomputable def L10_2 (N : Nat) (s0 : (List (Bs × (Int × (Bs × Bs))))) (s5 : (List (Bs × (Int × (Bs × Bs))))) (s6 : Int) (s7 : Int) : Option (Lp ((List (Bs × (Int × (Bs × Bs)))) × (List (Bs × (Int × (Bs × Bs)))) × Int × Int) Bool) := (U10_2 N s0 s5 s6 s7).eval
noncomputable def W10_2 (N : Nat) (x : ((List (Bs × (Int × (Bs × Bs)))) × (List (Bs × (Int × (Bs × Bs)))) × Int × Int)) : Option (Lp ((List (Bs × (Int × (Bs × Bs)))) × (List (Bs × (Int × (Bs × Bs)))) × Int × Int) Bool) := runLoop (fun x => L10_2 N x.1 x.2.1 x.2.2.1 x.2.2.2) N x
theorem WS10_2 (N : Nat) (x : (shTy l10_2).I) : ∀ o, W10_2 N x = some o → S Try.prog (.loop b10_2) (buildSt 36 l10_2 x) (stepZ (rdD Try.prog Try.f10 false) l10_2 (encO 36 l10_2 [0] (fun q => some (E10 q)) o)) :=
  fun o h => loop_S (l := l10_2) (step := fun x => L10_2 N x.1 x.2.1 x.2.2.1 x.2.2.2) (fun x o h => wpc_sound (tbl := []) (μ := []) mixed _ _ _ (by
    have h1 := Vt.sound _ h
    refine Eq.mp ?_ h1
    kernel_rfl)) N x o h
noncomputable def V10 (N : Nat) (a0 : (List (Bs × (Int × (Bs × Bs))))) : Vt Bool (Option D) (fun q => some (E10 q)) :=
  .f1 (l := l10_2) (o := W10_2 N (a0, a0, (a0.length : Int), 0)) (WS10_2 N (a0, a0, (a0.length : Int), 0)) (fun x1 => .leaf (decide ((x1.1.length : Int) ≤ 60)))
noncomputable def F10 (N : Nat) (a0 : (List (Bs × (Int × (Bs × Bs))))) : Option Bool := (V10 N a0).eval
def t10 : List (Nat × List Nat × List (Nat × Sh)) := [(2, [0], l10_2)]
theorem P10 (N : Nat) (a0 : (List (Bs × (Int × (Bs × Bs))))) : ∀ r, F10 N a0 = some r → Spec Try.prog 10 [.val (.list (.pair tS (.pair tI (.pair tS tS)))) a0] (E10 r) := fun r h => Spec_of (fn := Try.f10) rfl rfl rfl rfl false (wpc_sound (tbl := t10) (μ := []) mixed _ _ _ (by
  have h1 := Vt.sound _ h
  refine Eq.mp ?_ h1
  kernel_rfl))

/-! slices.Clone[[]ferryslip/host.Entry,ferryslip/host.Entry] -/
def E36o : (List (Bs × (Int × (Bs × Bs)))) → D := fun x => .own 44 (.pair tS (.pair tI (.pair tS tS))) x
noncomputable def V36o (N : Nat) (a0 : (List (Bs × (Int × (Bs × Bs))))) : Vt (List (Bs × (Int × (Bs × Bs)))) (Option D) (fun q => some (E36o q)) :=
  .nq (a0 = []) (.leaf ([] : (List (Bs × (Int × (Bs × Bs)))))) (.ck (room (([] : (List (Bs × (Int × (Bs × Bs))))).length + a0.length)) (.leaf (([] : (List (Bs × (Int × (Bs × Bs))))) ++ a0)))
noncomputable def F36o (N : Nat) (a0 : (List (Bs × (Int × (Bs × Bs))))) : Option (List (Bs × (Int × (Bs × Bs)))) := (V36o N a0).eval
def t36o : List (Nat × List Nat × List (Nat × Sh)) := []
theorem P36o (N : Nat) (a0 : (List (Bs × (Int × (Bs × Bs))))) : ∀ r, F36o N a0 = some r → Spec Try.prog 36 [.val (.list (.pair tS (.pair tI (.pair tS tS)))) a0] (E36o r) := fun r h => Spec_of (fn := Try.f36) rfl rfl rfl rfl true (wpc_sound (tbl := t36o) (μ := []) mixed _ _ _ (by
  have h1 := Vt.sound _ h
  refine Eq.mp ?_ h1
  kernel_rfl))

/-! ferryslip/host.Set -/
def E28o : (List (Bs × (Int × (Bs × Bs)))) → D := fun x => .own 44 (.pair tS (.pair tI (.pair tS tS))) x
noncomputable def V28o (N : Nat) (a0 : (List (Bs × (Int × (Bs × Bs))))) : Vt (List (Bs × (Int × (Bs × Bs)))) (Option D) (fun q => some (E28o q)) :=
  .c1 (P36o N a0) (fun x1 => .cr (P39rC35 N x1) (fun x2 => .cr (P40t N x2) (fun x3 => .leaf x3)))
noncomputable def F28o (N : Nat) (a0 : (List (Bs × (Int × (Bs × Bs))))) : Option (List (Bs × (Int × (Bs × Bs)))) := (V28o N a0).eval
def t28o : List (Nat × List Nat × List (Nat × Sh)) := []
theorem P28o (N : Nat) (a0 : (List (Bs × (Int × (Bs × Bs))))) : ∀ r, F28o N a0 = some r → Spec Try.prog 28 [.val (.list (.pair tS (.pair tI (.pair tS tS)))) a0] (E28o r) := fun r h => Spec_of (fn := Try.f28) rfl rfl rfl rfl true (wpc_sound (tbl := t28o) (μ := [5, 9, 1000039, 2000040]) mixed _ _ _ (by
  have h1 := Vt.sound _ h
  refine Eq.mp ?_ h1
  kernel_rfl))

/-! ferryslip/patch.less -/
def E25o : (List (Bs × (Int × (Bs × Bs)))) → D := fun x => .own 44 (.pair tS (.pair tI (.pair tS tS))) x
noncomputable def V25o (N : Nat) (a0 : (List (Bs × (Int × (Bs × Bs))))) (a1 : (List (Bs × (Int × (Bs × Bs))))) : Vt (List (Bs × (Int × (Bs × Bs)))) (Option D) (fun q => some (E25o q)) :=
  .c1 (P28o N a1) (fun x1 => .c1 (P28o N a0) (fun x2 => .cr (P32tK33 N x2 x1) (fun x3 => .leaf x3)))
noncomputable def F25o (N : Nat) (a0 : (List (Bs × (Int × (Bs × Bs))))) (a1 : (List (Bs × (Int × (Bs × Bs))))) : Option (List (Bs × (Int × (Bs × Bs)))) := (V25o N a0 a1).eval
def t25o : List (Nat × List Nat × List (Nat × Sh)) := []
theorem P25o (N : Nat) (a0 : (List (Bs × (Int × (Bs × Bs))))) (a1 : (List (Bs × (Int × (Bs × Bs))))) : ∀ r, F25o N a0 a1 = some r → Spec Try.prog 25 [.val (.list (.pair tS (.pair tI (.pair tS tS)))) a0, .val (.list (.pair tS (.pair tI (.pair tS tS)))) a1] (E25o r) := fun r h => Spec_of (fn := Try.f25) rfl rfl rfl rfl true (wpc_sound (tbl := t25o) (μ := [7, 9, 11, 2000032]) mixed _ _ _ (by
  have h1 := Vt.sound _ h
  refine Eq.mp ?_ h1
  kernel_rfl))

/-! ferryslip/patch.Of -/
def E13 : ((List (Bs × (Int × (Bs × Bs)))) × (List (Bs × (Int × (Bs × Bs))))) → D := fun x => encV (.pair (.list (.pair tS (.pair tI (.pair tS tS)))) (.list (.pair tS (.pair tI (.pair tS tS))))) x
noncomputable def V13 (N : Nat) (a0 : (List (Bs × (Int × (Bs × Bs))))) (a1 : (List (Bs × (Int × (Bs × Bs))))) : Vt ((List (Bs × (Int × (Bs × Bs)))) × (List (Bs × (Int × (Bs × Bs))))) (Option D) (fun q => some (E13 q)) :=
  .c1 (P25o N a0 a1) (fun x1 => .c1 (P25o N a1 a0) (fun x2 => .leaf (x1, x2)))
noncomputable def F13 (N : Nat) (a0 : (List (Bs × (Int × (Bs × Bs))))) (a1 : (List (Bs × (Int × (Bs × Bs))))) : Option ((List (Bs × (Int × (Bs × Bs)))) × (List (Bs × (Int × (Bs × Bs))))) := (V13 N a0 a1).eval
def t13 : List (Nat × List Nat × List (Nat × Sh)) := []
theorem P13 (N : Nat) (a0 : (List (Bs × (Int × (Bs × Bs))))) (a1 : (List (Bs × (Int × (Bs × Bs))))) : ∀ r, F13 N a0 a1 = some r → Spec Try.prog 13 [.val (.list (.pair tS (.pair tI (.pair tS tS)))) a0, .val (.list (.pair tS (.pair tI (.pair tS tS)))) a1] (E13 r) := fun r h => Spec_of (fn := Try.f13) rfl rfl rfl rfl false (wpc_sound (tbl := t13) (μ := [7, 10]) mixed _ _ _ (by
  have h1 := Vt.sound _ h
  refine Eq.mp ?_ h1
  kernel_rfl))

/-! ferryslip/patch.of -/
def E26o : (List (Bs × (Int × (Bs × Bs)))) → D := fun x => .own 44 (.pair tS (.pair tI (.pair tS tS))) x
noncomputable def V26o (N : Nat) (a0 : (List (Bs × (Int × (Bs × Bs))))) (a1 : Bs) : Vt (List (Bs × (Int × (Bs × Bs)))) (Option D) (fun q => some (E26o q)) :=
  .c1 (P36o N a0) (fun x1 => .cr (P32tK37 N x1 a1) (fun x2 => .leaf x2))
noncomputable def F26o (N : Nat) (a0 : (List (Bs × (Int × (Bs × Bs))))) (a1 : Bs) : Option (List (Bs × (Int × (Bs × Bs)))) := (V26o N a0 a1).eval
def t26o : List (Nat × List Nat × List (Nat × Sh)) := []
theorem P26o (N : Nat) (a0 : (List (Bs × (Int × (Bs × Bs))))) (a1 : Bs) : ∀ r, F26o N a0 a1 = some r → Spec Try.prog 26 [.val (.list (.pair tS (.pair tI (.pair tS tS)))) a0, .val tS a1] (E26o r) := fun r h => Spec_of (fn := Try.f26) rfl rfl rfl rfl true (wpc_sound (tbl := t26o) (μ := [6, 8, 2000032]) mixed _ _ _ (by
  have h1 := Vt.sound _ h
  refine Eq.mp ?_ h1
  kernel_rfl))

/-! ferryslip/patch.Only -/
def E14 : ((List (Bs × (Int × (Bs × Bs)))) × (List (Bs × (Int × (Bs × Bs))))) → D := fun x => encV (.pair (.list (.pair tS (.pair tI (.pair tS tS)))) (.list (.pair tS (.pair tI (.pair tS tS))))) x
noncomputable def V14 (N : Nat) (a0 : ((List (Bs × (Int × (Bs × Bs)))) × (List (Bs × (Int × (Bs × Bs)))))) (a1 : Bs) : Vt ((List (Bs × (Int × (Bs × Bs)))) × (List (Bs × (Int × (Bs × Bs))))) (Option D) (fun q => some (E14 q)) :=
  .nb (.c1 (P26o N a0.1 a1) (fun x1 => .c1 (P26o N a0.2 a1) (fun x2 => .leaf (x1, x2)))) (.c1 (P26o N a0.1 a1) (fun x3 => .c1 (P26o N a0.2 a1) (fun x4 => .leaf (x3, x4))))
noncomputable def F14 (N : Nat) (a0 : ((List (Bs × (Int × (Bs × Bs)))) × (List (Bs × (Int × (Bs × Bs)))))) (a1 : Bs) : Option ((List (Bs × (Int × (Bs × Bs)))) × (List (Bs × (Int × (Bs × Bs))))) := (V14 N a0 a1).eval
def t14 : List (Nat × List Nat × List (Nat × Sh)) := []
theorem P14 (N : Nat) (a0 : ((List (Bs × (Int × (Bs × Bs)))) × (List (Bs × (Int × (Bs × Bs)))))) (a1 : Bs) : ∀ r, F14 N a0 a1 = some r → Spec Try.prog 14 [.agg [.val (.list (.pair tS (.pair tI (.pair tS tS)))) a0.1, .val (.list (.pair tS (.pair tI (.pair tS tS)))) a0.2], .val tS a1] (E14 r) := fun r h => Spec_of (fn := Try.f14) rfl rfl rfl rfl false (wpc_sound (tbl := t14) (μ := [8, 12]) mixed _ _ _ (by
  have h1 := Vt.sound _ h
  refine Eq.mp ?_ h1
  kernel_rfl))

/-! slices.Concat[[]ferryslip/host.Entry,ferryslip/host.Entry] -/
def E29o : (List (Bs × (Int × (Bs × Bs)))) → D := fun x => .own 44 (.pair tS (.pair tI (.pair tS tS))) x
abbrev l29o_3 : List (Nat × Sh) := [(0, .val (.list (.list (.pair tS (.pair tI (.pair tS tS)))))), (3, .val tI), (9, .val (.list (.list (.pair tS (.pair tI (.pair tS tS)))))), (10, .val tI), (11, .val tI)]
noncomputable def b29o_3 : Code := loopBody 3 (bodyOf Try.f29)
noncomputable def U29o_3 (N : Nat) (s0 : (List (List (Bs × (Int × (Bs × Bs)))))) (s3 : Int) (s9 : (List (List (Bs × (Int × (Bs × Bs)))))) (s10 : Int) (s11 : Int) : Vt (Lp (shTy l29o_3).I (List (Bs × (Int × (Bs × Bs))))) (O3 (Option D)) (encO 36 l29o_3 [0] (fun q => some (E29o q))) :=
  .br (decide (s11 < s10)) (.ck (inR s11 s9.length) (.br (decide ((IntKind.i64.wrap (s3 + ((atI (.list (.pair tS (.pair tI (.pair tS tS)))) s9 s11).length : Int))) < 0)) (.fail) (.leaf (.next (s0, (IntKind.i64.wrap (s3 + ((atI (.list (.pair tS (.pair tI (.pair tS tS)))) s9 s11).length : Int))), s9, s10, (IntKind.i64.wrap (s11 + 1))))))) (.leaf (.brk 0 (s0, s3, s9, s10, s11)))
noncomputable def L29o_3 (N : Nat) (s0 : (List (List (Bs × (Int × (Bs × Bs)))))) (s3 : Int) (s9 : (List (List (Bs × (Int × (Bs × Bs)))))) (s10 : Int) (s11 : Int) : Option (Lp ((List (List (Bs × (Int × (Bs × Bs))))) × Int × (List (List (Bs × (Int × (Bs × Bs))))) × Int × Int) (List (Bs × (Int × (Bs × Bs))))) := (U29o_3 N s0 s3 s9 s10 s11).eval
noncomputable def W29o_3 (N : Nat) (x : ((List (List (Bs × (Int × (Bs × Bs))))) × Int × (List (List (Bs × (Int × (Bs × Bs))))) × Int × Int)) : Option (Lp ((List (List (Bs × (Int × (Bs × Bs))))) × Int × (List (List (Bs × (Int × (Bs × Bs))))) × Int × Int) (List (Bs × (Int × (Bs × Bs))))) := runLoop (fun x => L29o_3 N x.1 x.2.1 x.2.2.1 x.2.2.2.1 x.2.2.2.2) N x
theorem WS29o_3 (N : Nat) (x : (shTy l29o_3).I) : ∀ o, W29o_3 N x = some o → S Try.prog (.loop b29o_3) (buildSt 36 l29o_3 x) (stepZ (rdD Try.prog Try.f29 true) l29o_3 (encO 36 l29o_3 [0] (fun q => some (E29o q)) o)) :=
  fun o h => loop_S (l := l29o_3) (step := fun x => L29o_3 N x.1 x.2.1 x.2.2.1 x.2.2.2.1 x.2.2.2.2) (fun x o h => wpc_sound (tbl := []) (μ := []) mixed _ _ _ (by
    have h1 := Vt.sound _ h
    refine Eq.mp ?_ h1
    kernel_rfl)) N x o h
abbrev l29o_11 : List (Nat × Sh) := [(6, .row false 24 44 (.pair tS (.pair tI (.pair tS tS)))), (25, .val (.list (.list (.pair tS (.pair tI (.pair tS tS)))))), (26, .val tI), (27, .val tI)]
noncomputable def b29o_11 : Code := loopBody 11 (bodyOf Try.f29)
noncomputable def U29o_11 (N : Nat) (s6 : (List (Bs × (Int × (Bs × Bs))))) (s25 : (List (List (Bs × (Int × (Bs × Bs)))))) (s26 : Int) (s27 : Int) : Vt (Lp (shTy l29o_11).I (List (Bs × (Int × (Bs × Bs))))) (O3 (Option D)) (encO 36 l29o_11 [2] (fun q => some (E29o q))) :=
  .br (decide (s27 < s26)) (.ck (inR s27 s25.length) (.ck (room (s6.length + (atI (.list (.pair tS (.pair tI (.pair tS tS)))) s25 s27).length)) (.leaf (.next ((s6 ++ (atI (.list (.pair tS (.pair tI (.pair tS tS)))) s25 s27)), s25, s26, (IntKind.i64.wrap (s27 + 1))))))) (.leaf (.brk 0 (s6, s25, s26, s27)))
noncomputable def L29o_11 (N : Nat) (s6 : (List (Bs × (Int × (Bs × Bs))))) (s25 : (List (List (Bs × (Int × (Bs × Bs)))))) (s26 : Int) (s27 : Int) : Option (Lp ((List (Bs × (Int × (Bs × Bs)))) × (List (List (Bs × (Int × (Bs × Bs))))) × Int × Int) (List (Bs × (Int × (Bs × Bs))))) := (U29o_11 N s6 s25 s26 s27).eval
noncomputable def W29o_11 (N : Nat) (x : ((List (Bs × (Int × (Bs × Bs)))) × (List (List (Bs × (Int × (Bs × Bs))))) × Int × Int)) : Option (Lp ((List (Bs × (Int × (Bs × Bs)))) × (List (List (Bs × (Int × (Bs × Bs))))) × Int × Int) (List (Bs × (Int × (Bs × Bs))))) := runLoop (fun x => L29o_11 N x.1 x.2.1 x.2.2.1 x.2.2.2) N x
theorem WS29o_11 (N : Nat) (x : (shTy l29o_11).I) : ∀ o, W29o_11 N x = some o → S Try.prog (.loop b29o_11) (buildSt 36 l29o_11 x) (stepZ (rdD Try.prog Try.f29 true) l29o_11 (encO 36 l29o_11 [2] (fun q => some (E29o q)) o)) :=
  fun o h => loop_S (l := l29o_11) (step := fun x => L29o_11 N x.1 x.2.1 x.2.2.1 x.2.2.2) (fun x o h => wpc_sound (tbl := [(3, [0], l29o_3)]) (μ := [24]) mixed _ _ _ (by
    have h1 := Vt.sound _ h
    refine Eq.mp ?_ h1
    kernel_rfl)) N x o h
noncomputable def V29o (N : Nat) (a0 : (List (List (Bs × (Int × (Bs × Bs)))))) : Vt (List (Bs × (Int × (Bs × Bs)))) (Option D) (fun q => some (E29o q)) :=
  .f1 (l := l29o_3) (o := W29o_3 N (a0, 0, a0, (a0.length : Int), 0)) (WS29o_3 N (a0, 0, a0, (a0.length : Int), 0)) (fun x1 => .c1 (P41on N x1.2.1) (fun x2 => .f1 (l := l29o_11) (o := W29o_11 N (x2, x1.1, (x1.1.length : Int), 0)) (WS29o_11 N (x2, x1.1, (x1.1.length : Int), 0)) (fun x3 => .leaf x3.1)))
noncomputable def F29o (N : Nat) (a0 : (List (List (Bs × (Int × (Bs × Bs)))))) : Option (List (Bs × (Int × (Bs × Bs)))) := (V29o N a0).eval
def t29o : List (Nat × List Nat × List (Nat × Sh)) := [(3, [0], l29o_3), (11, [2], l29o_11)]
theorem P29o (N : Nat) (a0 : (List (List (Bs × (Int × (Bs × Bs)))))) : ∀ r, F29o N a0 = some r → Spec Try.prog 29 [.val (.list (.list (.pair tS (.pair tI (.pair tS tS))))) a0] (E29o r) := fun r h => Spec_of (fn := Try.f29) rfl rfl rfl rfl true (wpc_sound (tbl := t29o) (μ := [24]) mixed _ _ _ (by
  have h1 := Vt.sound _ h
  refine Eq.mp ?_ h1
  kernel_rfl))

/-! ferryslip/patch.Apply -/
def E18o : (List (Bs × (Int × (Bs × Bs)))) → D := fun x => .own 44 (.pair tS (.pair tI (.pair tS tS))) x
noncomputable def V18o (N : Nat) (a0 : (List (Bs × (Int × (Bs × Bs))))) (a1 : ((List (Bs × (Int × (Bs × Bs)))) × (List (Bs × (Int × (Bs × Bs)))))) : Vt (List (Bs × (Int × (Bs × Bs)))) (Option D) (fun q => some (E18o q)) :=
  .nb (.c1 (P25o N a0 a1.1) (fun x1 => .c1 (P29o N ([x1, a1.2] : (List (List (Bs × (Int × (Bs × Bs))))))) (fun x2 => .c1 (P28o N x2) (fun x3 => .leaf x3)))) (.c1 (P25o N a0 a1.1) (fun x4 => .c1 (P29o N ([x4, a1.2] : (List (List (Bs × (Int × (Bs × Bs))))))) (fun x5 => .c1 (P28o N x5) (fun x6 => .leaf x6))))
noncomputable def F18o (N : Nat) (a0 : (List (Bs × (Int × (Bs × Bs))))) (a1 : ((List (Bs × (Int × (Bs × Bs)))) × (List (Bs × (Int × (Bs × Bs)))))) : Option (List (Bs × (Int × (Bs × Bs)))) := (V18o N a0 a1).eval
def t18o : List (Nat × List Nat × List (Nat × Sh)) := []
theorem P18o (N : Nat) (a0 : (List (Bs × (Int × (Bs × Bs))))) (a1 : ((List (Bs × (Int × (Bs × Bs)))) × (List (Bs × (Int × (Bs × Bs)))))) : ∀ r, F18o N a0 a1 = some r → Spec Try.prog 18 [.val (.list (.pair tS (.pair tI (.pair tS tS)))) a0, .agg [.val (.list (.pair tS (.pair tI (.pair tS tS)))) a1.1, .val (.list (.pair tS (.pair tI (.pair tS tS)))) a1.2]] (E18o r) := fun r h => Spec_of (fn := Try.f18) rfl rfl rfl rfl true (wpc_sound (tbl := t18o) (μ := [8, 12, 13]) mixed _ _ _ (by
  have h1 := Vt.sound _ h
  refine Eq.mp ?_ h1
  kernel_rfl))

/-! ferryslip/ferryslipref03.Equal -/
def E20 : Bool → D := fun x => encV tB x
abbrev l20_4 : List (Nat × Sh) := [(0, .val (.list tS)), (1, .val (.list tS)), (5, .val tI)]
noncomputable def b20_4 : Code := loopBody 4 (bodyOf Try.f20)
noncomputable def U20_4 (N : Nat) (s0 : (List Bs)) (s1 : (List Bs)) (s5 : Int) : Vt (Lp (shTy l20_4).I Bool) (O3 (Option D)) (encO 26 l20_4 [0] (fun q => some (E20 q))) :=
  .br (decide (s5 < (s0.length : Int))) (.ck (inR s5 s0.length) (.ck (inR s5 s1.length) (.br (!((atI tS s0 s5) == (atI tS s1 s5))) (.leaf (.ret false)) (.leaf (.next (s0, s1, (IntKind.i64.wrap (s5 + 1)))))))) (.leaf (.brk 0 (s0, s1, s5)))
noncomputable def L20_4 (N : Nat) (s0 : (List Bs)) (s1 : (List Bs)) (s5 : Int) : Option (Lp ((List Bs) × (List Bs) × Int) Bool) := (U20_4 N s0 s1 s5).eval
noncomputable def W20_4 (N : Nat) (x : ((List Bs) × (List Bs) × Int)) : Option (Lp ((List Bs) × (List Bs) × Int) Bool) := runLoop (fun x => L20_4 N x.1 x.2.1 x.2.2) N x
theorem WS20_4 (N : Nat) (x : (shTy l20_4).I) : ∀ o, W20_4 N x = some o → S Try.prog (.loop b20_4) (buildSt 26 l20_4 x) (stepZ (rdD Try.prog Try.f20 false) l20_4 (encO 26 l20_4 [0] (fun q => some (E20 q)) o)) :=
  fun o h => loop_S (l := l20_4) (step := fun x => L20_4 N x.1 x.2.1 x.2.2) (fun x o h => wpc_sound (tbl := []) (μ := []) mixed _ _ _ (by
    have h1 := Vt.sound _ h
    refine Eq.mp ?_ h1
    kernel_rfl)) N x o h
noncomputable def V20 (N : Nat) (a0 : (List Bs)) (a1 : (List Bs)) : Vt Bool (Option D) (fun q => some (E20 q)) :=
  .br ((a0.length : Int) != (a1.length : Int)) (.leaf false) (.f1 (l := l20_4) (o := W20_4 N (a0, a1, 0)) (WS20_4 N (a0, a1, 0)) (fun x1 => .leaf true))
noncomputable def F20 (N : Nat) (a0 : (List Bs)) (a1 : (List Bs)) : Option Bool := (V20 N a0 a1).eval
def t20 : List (Nat × List Nat × List (Nat × Sh)) := [(4, [0], l20_4)]
theorem P20 (N : Nat) (a0 : (List Bs)) (a1 : (List Bs)) : ∀ r, F20 N a0 a1 = some r → Spec Try.prog 20 [.val (.list tS) a0, .val (.list tS) a1] (E20 r) := fun r h => Spec_of (fn := Try.f20) rfl rfl rfl rfl false (wpc_sound (tbl := t20) (μ := []) mixed _ _ _ (by
  have h1 := Vt.sound _ h
  refine Eq.mp ?_ h1
  kernel_rfl))

/-! ferryslip/patch.Hosts -/
def E21o : (List Bs) → D := fun x => .own 9 tS x
abbrev l21o_3 : List (Nat × Sh) := [(3, .row false 21 9 tS), (11, .row false 11 44 (.pair tS (.pair tI (.pair tS tS)))), (12, .val tI), (13, .val tI)]
noncomputable def b21o_3 : Code := loopBody 3 (bodyOf Try.f21)
noncomputable def U21o_3 (N : Nat) (s3 : (List Bs)) (s11 : (List (Bs × (Int × (Bs × Bs))))) (s12 : Int) (s13 : Int) : Vt (Lp (shTy l21o_3).I (List Bs)) (O3 (Option D)) (encO 27 l21o_3 [0] (fun q => some (E21o q))) :=
  .br (decide (s13 < s12)) (.ck (inR s13 s11.length) (.ck (inR s13 s11.length) (.ck (room (s3.length + ([(atI (.pair tS (.pair tI (.pair tS tS))) s11 s13).1] : (List Bs)).length)) (.leaf (.next ((s3 ++ ([(atI (.pair tS (.pair tI (.pair tS tS))) s11 s13).1] : (List Bs))), s11, s12, (IntKind.i64.wrap (s13 + 1)))))))) (.leaf (.brk 0 (s3, s11, s12, s13)))
noncomputable def L21o_3 (N : Nat) (s3 : (List Bs)) (s11 : (List (Bs × (Int × (Bs × Bs))))) (s12 : Int) (s13 : Int) : Option (Lp ((List Bs) × (List (Bs × (Int × (Bs × Bs)))) × Int × Int) (List Bs)) := (U21o_3 N s3 s11 s12 s13).eval
noncomputable def W21o_3 (N : Nat) (x : ((List Bs) × (List (Bs × (Int × (Bs × Bs)))) × Int × Int)) : Option (Lp ((List Bs) × (List (Bs × (Int × (Bs × Bs)))) × Int × Int) (List Bs)) := runLoop (fun x => L21o_3 N x.1 x.2.1 x.2.2.1 x.2.2.2) N x
theorem WS21o_3 (N : Nat) (x : (shTy l21o_3).I) : ∀ o, W21o_3 N x = some o → S Try.prog (.loop b21o_3) (buildSt 27 l21o_3 x) (stepZ (rdD Try.prog Try.f21 true) l21o_3 (encO 27 l21o_3 [0] (fun q => some (E21o q)) o)) :=
  fun o h => loop_S (l := l21o_3) (step := fun x => L21o_3 N x.1 x.2.1 x.2.2.1 x.2.2.2) (fun x o h => wpc_sound (tbl := []) (μ := [11]) mixed _ _ _ (by
    have h1 := Vt.sound _ h
    refine Eq.mp ?_ h1
    kernel_rfl)) N x o h
noncomputable def V21o (N : Nat) (a0 : ((List (Bs × (Int × (Bs × Bs)))) × (List (Bs × (Int × (Bs × Bs)))))) : Vt (List Bs) (Option D) (fun q => some (E21o q)) :=
  .c1 (P29o N ([a0.1, a0.2] : (List (List (Bs × (Int × (Bs × Bs))))))) (fun x1 => .f1 (l := l21o_3) (o := W21o_3 N (([] : (List Bs)), x1, (x1.length : Int), 0)) (WS21o_3 N (([] : (List Bs)), x1, (x1.length : Int), 0)) (fun x1 => .cr (P30r N x1.1) (fun x2 => .cr (P31t N x2) (fun x3 => .leaf x3))))
noncomputable def F21o (N : Nat) (a0 : ((List (Bs × (Int × (Bs × Bs)))) × (List (Bs × (Int × (Bs × Bs)))))) : Option (List Bs) := (V21o N a0).eval
def t21o : List (Nat × List Nat × List (Nat × Sh)) := [(3, [0], l21o_3)]
theorem P21o (N : Nat) (a0 : ((List (Bs × (Int × (Bs × Bs)))) × (List (Bs × (Int × (Bs × Bs)))))) : ∀ r, F21o N a0 = some r → Spec Try.prog 21 [.agg [.val (.list (.pair tS (.pair tI (.pair tS tS)))) a0.1, .val (.list (.pair tS (.pair tI (.pair tS tS)))) a0.2]] (E21o r) := fun r h => Spec_of (fn := Try.f21) rfl rfl rfl rfl true (wpc_sound (tbl := t21o) (μ := [11, 26, 1000030, 2000031]) mixed _ _ _ (by
  have h1 := Vt.sound _ h
  refine Eq.mp ?_ h1
  kernel_rfl))

/-! ferryslip/ferrysliplaw16.awake -/
def E11 : Bool → D := fun x => encV tB x
noncomputable def V11 (N : Nat)  : Vt Bool (Option D) (fun q => some (E11 q)) :=
  .c1 (P13 N ([(([98] : Bs), 0, ([] : Bs), ([] : Bs)), (([97] : Bs), 0, ([] : Bs), ([] : Bs))] : (List (Bs × (Int × (Bs × Bs))))) ([(([99] : Bs), 0, ([] : Bs), ([] : Bs)), (([98] : Bs), 0, ([] : Bs), ([] : Bs))] : (List (Bs × (Int × (Bs × Bs)))))) (fun x1 => .c1 (P18o N ([(([97] : Bs), 0, ([] : Bs), ([] : Bs)), (([98] : Bs), 0, ([] : Bs), ([] : Bs))] : (List (Bs × (Int × (Bs × Bs))))) x1) (fun x2 => .br ((x1.1.length : Int) == 1) (.ck (inR 0 x1.1.length) (.br ((((atI (.pair tS (.pair tI (.pair tS tS))) x1.1 0).1) == ([97] : Bs)) && ((((atI (.pair tS (.pair tI (.pair tS tS))) x1.1 0).2.1) == 0) && ((((atI (.pair tS (.pair tI (.pair tS tS))) x1.1 0).2.2.1) == ([] : Bs)) && ((((atI (.pair tS (.pair tI (.pair tS tS))) x1.1 0).2.2.2) == ([] : Bs)) && true)))) (.br ((x1.2.length : Int) == 1) (.ck (inR 0 x1.2.length) (.br ((((atI (.pair tS (.pair tI (.pair tS tS))) x1.2 0).1) == ([99] : Bs)) && ((((atI (.pair tS (.pair tI (.pair tS tS))) x1.2 0).2.1) == 0) && ((((atI (.pair tS (.pair tI (.pair tS tS))) x1.2 0).2.2.1) == ([] : Bs)) && ((((atI (.pair tS (.pair tI (.pair tS tS))) x1.2 0).2.2.2) == ([] : Bs)) && true)))) (.br ((x2.length : Int) == 2) (.ck (inR 0 x2.length) (.ck (inR 0 x2.length) (.br ((((atI (.pair tS (.pair tI (.pair tS tS))) x2 0).1) == ([98] : Bs)) && ((((atI (.pair tS (.pair tI (.pair tS tS))) x2 0).2.1) == 0) && ((((atI (.pair tS (.pair tI (.pair tS tS))) x2 0).2.2.1) == ([] : Bs)) && ((((atI (.pair tS (.pair tI (.pair tS tS))) x2 0).2.2.2) == ([] : Bs)) && true)))) (.ck (inR 1 x2.length) (.ck (inR 1 x2.length) (.nb (.br ((((atI (.pair tS (.pair tI (.pair tS tS))) x2 1).1) == ([99] : Bs)) && ((((atI (.pair tS (.pair tI (.pair tS tS))) x2 1).2.1) == 0) && ((((atI (.pair tS (.pair tI (.pair tS tS))) x2 1).2.2.1) == ([] : Bs)) && ((((atI (.pair tS (.pair tI (.pair tS tS))) x2 1).2.2.2) == ([] : Bs)) && true)))) (.nb (.c1 (P21o N x1) (fun x3 => .c1 (P20 N x3 ([([97] : Bs), ([99] : Bs)] : (List Bs))) (fun x4 => .br x4 (.c1 (P14 N x1 ([97] : Bs)) (fun x5 => .leaf ((x5.1.length : Int) == 1))) (.leaf false)))) (.c1 (P21o N x1) (fun x6 => .c1 (P20 N x6 ([([97] : Bs), ([99] : Bs)] : (List Bs))) (fun x7 => .br x7 (.c1 (P14 N x1 ([97] : Bs)) (fun x8 => .leaf ((x8.1.length : Int) == 1))) (.leaf false))))) (.nb (.leaf false) (.leaf false))) (.br ((((atI (.pair tS (.pair tI (.pair tS tS))) x2 1).1) == ([99] : Bs)) && ((((atI (.pair tS (.pair tI (.pair tS tS))) x2 1).2.1) == 0) && ((((atI (.pair tS (.pair tI (.pair tS tS))) x2 1).2.2.1) == ([] : Bs)) && ((((atI (.pair tS (.pair tI (.pair tS tS))) x2 1).2.2.2) == ([] : Bs)) && true)))) (.c1 (P21o N x1) (fun x9 => .c1 (P20 N x9 ([([97] : Bs), ([99] : Bs)] : (List Bs))) (fun x10 => .br x10 (.c1 (P14 N x1 ([97] : Bs)) (fun x11 => .leaf ((x11.1.length : Int) == 1))) (.leaf false)))) (.leaf false))))) (.nb (.nb (.leaf false) (.leaf false)) (.leaf false))))) (.nb (.nb (.leaf false) (.leaf false)) (.leaf false))) (.nb (.nb (.leaf false) (.leaf false)) (.leaf false)))) (.nb (.nb (.leaf false) (.leaf false)) (.leaf false))) (.nb (.nb (.leaf false) (.leaf false)) (.leaf false)))) (.nb (.nb (.leaf false) (.leaf false)) (.leaf false))))
noncomputable def F11 (N : Nat)  : Option Bool := (V11 N ).eval
def t11 : List (Nat × List Nat × List (Nat × Sh)) := []
theorem P11 (N : Nat)  : ∀ r, F11 N  = some r → Spec Try.prog 11 [] (E11 r) := fun r h => Spec_of (fn := Try.f11) rfl rfl rfl rfl false (wpc_sound (tbl := t11) (μ := [20, 68]) mixed _ _ _ (by
  have h1 := Vt.sound _ h
  refine Eq.mp ?_ h1
  kernel_rfl))

/-! ferryslip/ferrysliplaw14.Refs -/
def E12o : (List (Bs × (Int × (Bs × Bs)))) → D := fun x => .own 46 (.pair tS (.pair tI (.pair tS tS))) x
abbrev l12o_3 : List (Nat × Sh) := [(3, .row false 15 46 (.pair tS (.pair tI (.pair tS tS)))), (6, .val (.list (.pair tS (.pair tI (.pair tS tS))))), (7, .val tI), (8, .val tI)]
noncomputable def b12o_3 : Code := loopBody 3 (bodyOf Try.f12)
noncomputable def U12o_3 (N : Nat) (s3 : (List (Bs × (Int × (Bs × Bs))))) (s6 : (List (Bs × (Int × (Bs × Bs))))) (s7 : Int) (s8 : Int) : Vt (Lp (shTy l12o_3).I (List (Bs × (Int × (Bs × Bs))))) (O3 (Option D)) (encO 18 l12o_3 [0] (fun q => some (E12o q))) :=
  .br (decide (s8 < s7)) (.ck (inR s8 s6.length) (.ck (room (s3.length + ([(atI (.pair tS (.pair tI (.pair tS tS))) s6 s8)] : (List (Bs × (Int × (Bs × Bs))))).length)) (.leaf (.next ((s3 ++ ([(atI (.pair tS (.pair tI (.pair tS tS))) s6 s8)] : (List (Bs × (Int × (Bs × Bs)))))), s6, s7, (IntKind.i64.wrap (s8 + 1))))))) (.leaf (.brk 0 (s3, s6, s7, s8)))
noncomputable def L12o_3 (N : Nat) (s3 : (List (Bs × (Int × (Bs × Bs))))) (s6 : (List (Bs × (Int × (Bs × Bs))))) (s7 : Int) (s8 : Int) : Option (Lp ((List (Bs × (Int × (Bs × Bs)))) × (List (Bs × (Int × (Bs × Bs)))) × Int × Int) (List (Bs × (Int × (Bs × Bs))))) := (U12o_3 N s3 s6 s7 s8).eval
noncomputable def W12o_3 (N : Nat) (x : ((List (Bs × (Int × (Bs × Bs)))) × (List (Bs × (Int × (Bs × Bs)))) × Int × Int)) : Option (Lp ((List (Bs × (Int × (Bs × Bs)))) × (List (Bs × (Int × (Bs × Bs)))) × Int × Int) (List (Bs × (Int × (Bs × Bs))))) := runLoop (fun x => L12o_3 N x.1 x.2.1 x.2.2.1 x.2.2.2) N x
theorem WS12o_3 (N : Nat) (x : (shTy l12o_3).I) : ∀ o, W12o_3 N x = some o → S Try.prog (.loop b12o_3) (buildSt 18 l12o_3 x) (stepZ (rdD Try.prog Try.f12 true) l12o_3 (encO 18 l12o_3 [0] (fun q => some (E12o q)) o)) :=
  fun o h => loop_S (l := l12o_3) (step := fun x => L12o_3 N x.1 x.2.1 x.2.2.1 x.2.2.2) (fun x o h => wpc_sound (tbl := []) (μ := []) mixed _ _ _ (by
    have h1 := Vt.sound _ h
    refine Eq.mp ?_ h1
    kernel_rfl)) N x o h
noncomputable def V12o (N : Nat) (a0 : (List (Bs × (Int × (Bs × Bs))))) : Vt (List (Bs × (Int × (Bs × Bs)))) (Option D) (fun q => some (E12o q)) :=
  .f1 (l := l12o_3) (o := W12o_3 N (([] : (List (Bs × (Int × (Bs × Bs))))), a0, (a0.length : Int), 0)) (WS12o_3 N (([] : (List (Bs × (Int × (Bs × Bs))))), a0, (a0.length : Int), 0)) (fun x1 => .leaf x1.1)
noncomputable def F12o (N : Nat) (a0 : (List (Bs × (Int × (Bs × Bs))))) : Option (List (Bs × (Int × (Bs × Bs)))) := (V12o N a0).eval
def t12o : List (Nat × List Nat × List (Nat × Sh)) := [(3, [0], l12o_3)]
theorem P12o (N : Nat) (a0 : (List (Bs × (Int × (Bs × Bs))))) : ∀ r, F12o N a0 = some r → Spec Try.prog 12 [.val (.list (.pair tS (.pair tI (.pair tS tS)))) a0] (E12o r) := fun r h => Spec_of (fn := Try.f12) rfl rfl rfl rfl true (wpc_sound (tbl := t12o) (μ := []) mixed _ _ _ (by
  have h1 := Vt.sound _ h
  refine Eq.mp ?_ h1
  kernel_rfl))

/-! ferryslip/ferryslipref14.Same -/
def E15 : Bool → D := fun x => encV tB x
abbrev l15_4 : List (Nat × Sh) := [(0, .val (.list (.pair tS (.pair tI (.pair tS tS))))), (1, .val (.list (.pair tS (.pair tI (.pair tS tS))))), (5, .val tI)]
noncomputable def b15_4 : Code := loopBody 4 (bodyOf Try.f15)
noncomputable def U15_4 (N : Nat) (s0 : (List (Bs × (Int × (Bs × Bs))))) (s1 : (List (Bs × (Int × (Bs × Bs))))) (s5 : Int) : Vt (Lp (shTy l15_4).I Bool) (O3 (Option D)) (encO 26 l15_4 [0] (fun q => some (E15 q))) :=
  .br (decide (s5 < (s0.length : Int))) (.ck (inR s5 s0.length) (.ck (inR s5 s1.length) (.br (!((((atI (.pair tS (.pair tI (.pair tS tS))) s0 s5).1) == ((atI (.pair tS (.pair tI (.pair tS tS))) s1 s5).1)) && ((((atI (.pair tS (.pair tI (.pair tS tS))) s0 s5).2.1) == ((atI (.pair tS (.pair tI (.pair tS tS))) s1 s5).2.1)) && ((((atI (.pair tS (.pair tI (.pair tS tS))) s0 s5).2.2.1) == ((atI (.pair tS (.pair tI (.pair tS tS))) s1 s5).2.2.1)) && ((((atI (.pair tS (.pair tI (.pair tS tS))) s0 s5).2.2.2) == ((atI (.pair tS (.pair tI (.pair tS tS))) s1 s5).2.2.2)) && true))))) (.leaf (.ret false)) (.leaf (.next (s0, s1, (IntKind.i64.wrap (s5 + 1)))))))) (.leaf (.brk 0 (s0, s1, s5)))
noncomputable def L15_4 (N : Nat) (s0 : (List (Bs × (Int × (Bs × Bs))))) (s1 : (List (Bs × (Int × (Bs × Bs))))) (s5 : Int) : Option (Lp ((List (Bs × (Int × (Bs × Bs)))) × (List (Bs × (Int × (Bs × Bs)))) × Int) Bool) := (U15_4 N s0 s1 s5).eval
noncomputable def W15_4 (N : Nat) (x : ((List (Bs × (Int × (Bs × Bs)))) × (List (Bs × (Int × (Bs × Bs)))) × Int)) : Option (Lp ((List (Bs × (Int × (Bs × Bs)))) × (List (Bs × (Int × (Bs × Bs)))) × Int) Bool) := runLoop (fun x => L15_4 N x.1 x.2.1 x.2.2) N x
theorem WS15_4 (N : Nat) (x : (shTy l15_4).I) : ∀ o, W15_4 N x = some o → S Try.prog (.loop b15_4) (buildSt 26 l15_4 x) (stepZ (rdD Try.prog Try.f15 false) l15_4 (encO 26 l15_4 [0] (fun q => some (E15 q)) o)) :=
  fun o h => loop_S (l := l15_4) (step := fun x => L15_4 N x.1 x.2.1 x.2.2) (fun x o h => wpc_sound (tbl := []) (μ := []) mixed _ _ _ (by
    have h1 := Vt.sound _ h
    refine Eq.mp ?_ h1
    kernel_rfl)) N x o h
noncomputable def V15 (N : Nat) (a0 : (List (Bs × (Int × (Bs × Bs))))) (a1 : (List (Bs × (Int × (Bs × Bs))))) : Vt Bool (Option D) (fun q => some (E15 q)) :=
  .br ((a0.length : Int) != (a1.length : Int)) (.leaf false) (.f1 (l := l15_4) (o := W15_4 N (a0, a1, 0)) (WS15_4 N (a0, a1, 0)) (fun x1 => .leaf true))
noncomputable def F15 (N : Nat) (a0 : (List (Bs × (Int × (Bs × Bs))))) (a1 : (List (Bs × (Int × (Bs × Bs))))) : Option Bool := (V15 N a0 a1).eval
def t15 : List (Nat × List Nat × List (Nat × Sh)) := [(4, [0], l15_4)]
theorem P15 (N : Nat) (a0 : (List (Bs × (Int × (Bs × Bs))))) (a1 : (List (Bs × (Int × (Bs × Bs))))) : ∀ r, F15 N a0 a1 = some r → Spec Try.prog 15 [.val (.list (.pair tS (.pair tI (.pair tS tS)))) a0, .val (.list (.pair tS (.pair tI (.pair tS tS)))) a1] (E15 r) := fun r h => Spec_of (fn := Try.f15) rfl rfl rfl rfl false (wpc_sound (tbl := t15) (μ := []) mixed _ _ _ (by
  have h1 := Vt.sound _ h
  refine Eq.mp ?_ h1
  kernel_rfl))

/-! ferryslip/ferryslipref16.In -/
def E24 : Bool → D := fun x => encV tB x
abbrev l24_2 : List (Nat × Sh) := [(0, .val (.list (.pair tS (.pair tI (.pair tS tS))))), (3, .cel false 3 46 (.pair tS (.pair tI (.pair tS tS)))), (5, .val tI)]
noncomputable def b24_2 : Code := loopBody 2 (bodyOf Try.f24)
noncomputable def U24_2 (N : Nat) (s0 : (List (Bs × (Int × (Bs × Bs))))) (s3 : (Bs × (Int × (Bs × Bs)))) (s5 : Int) : Vt (Lp (shTy l24_2).I Bool) (O3 (Option D)) (encO 18 l24_2 [0] (fun q => some (E24 q))) :=
  .br (decide (s5 < (s0.length : Int))) (.ck (inR s5 s0.length) (.br ((((atI (.pair tS (.pair tI (.pair tS tS))) s0 s5).1) == s3.1) && ((((atI (.pair tS (.pair tI (.pair tS tS))) s0 s5).2.1) == s3.2.1) && ((((atI (.pair tS (.pair tI (.pair tS tS))) s0 s5).2.2.1) == s3.2.2.1) && ((((atI (.pair tS (.pair tI (.pair tS tS))) s0 s5).2.2.2) == s3.2.2.2) && true)))) (.leaf (.ret true)) (.leaf (.next (s0, s3, (IntKind.i64.wrap (s5 + 1))))))) (.leaf (.brk 0 (s0, s3, s5)))
noncomputable def L24_2 (N : Nat) (s0 : (List (Bs × (Int × (Bs × Bs))))) (s3 : (Bs × (Int × (Bs × Bs)))) (s5 : Int) : Option (Lp ((List (Bs × (Int × (Bs × Bs)))) × (Bs × (Int × (Bs × Bs))) × Int) Bool) := (U24_2 N s0 s3 s5).eval
noncomputable def W24_2 (N : Nat) (x : ((List (Bs × (Int × (Bs × Bs)))) × (Bs × (Int × (Bs × Bs))) × Int)) : Option (Lp ((List (Bs × (Int × (Bs × Bs)))) × (Bs × (Int × (Bs × Bs))) × Int) Bool) := runLoop (fun x => L24_2 N x.1 x.2.1 x.2.2) N x
theorem WS24_2 (N : Nat) (x : (shTy l24_2).I) : ∀ o, W24_2 N x = some o → S Try.prog (.loop b24_2) (buildSt 18 l24_2 x) (stepZ (rdD Try.prog Try.f24 false) l24_2 (encO 18 l24_2 [0] (fun q => some (E24 q)) o)) :=
  fun o h => loop_S (l := l24_2) (step := fun x => L24_2 N x.1 x.2.1 x.2.2) (fun x o h => wpc_sound (tbl := []) (μ := []) mixed _ _ _ (by
    have h1 := Vt.sound _ h
    refine Eq.mp ?_ h1
    kernel_rfl)) N x o h
noncomputable def V24 (N : Nat) (a0 : (List (Bs × (Int × (Bs × Bs))))) (a1 : (Bs × (Int × (Bs × Bs)))) : Vt Bool (Option D) (fun q => some (E24 q)) :=
  .f1 (l := l24_2) (o := W24_2 N (a0, a1, 0)) (WS24_2 N (a0, a1, 0)) (fun x1 => .leaf false)
noncomputable def F24 (N : Nat) (a0 : (List (Bs × (Int × (Bs × Bs))))) (a1 : (Bs × (Int × (Bs × Bs)))) : Option Bool := (V24 N a0 a1).eval
def t24 : List (Nat × List Nat × List (Nat × Sh)) := [(2, [0], l24_2)]
theorem P24 (N : Nat) (a0 : (List (Bs × (Int × (Bs × Bs))))) (a1 : (Bs × (Int × (Bs × Bs)))) : ∀ r, F24 N a0 a1 = some r → Spec Try.prog 24 [.val (.list (.pair tS (.pair tI (.pair tS tS)))) a0, .agg [.val tS a1.1, .val tI a1.2.1, .val tS a1.2.2.1, .val tS a1.2.2.2]] (E24 r) := fun r h => Spec_of (fn := Try.f24) rfl rfl rfl rfl false (wpc_sound (tbl := t24) (μ := []) mixed _ _ _ (by
  have h1 := Vt.sound _ h
  refine Eq.mp ?_ h1
  kernel_rfl))

/-! ferryslip/ferryslipref14.Ahead -/
def E38 : Bool → D := fun x => encV tB x
noncomputable def V38 (N : Nat) (a0 : (Bs × (Int × (Bs × Bs)))) (a1 : (Bs × (Int × (Bs × Bs)))) : Vt Bool (Option D) (fun q => some (E38 q)) :=
  .br (!(a0.1 == a1.1)) (.leaf (Op.bytesLess a0.1 a1.1)) (.br (a0.2.1 != a1.2.1) (.leaf (decide (a0.2.1 < a1.2.1))) (.br (!(a0.2.2.1 == a1.2.2.1)) (.leaf (Op.bytesLess a0.2.2.1 a1.2.2.1)) (.leaf (Op.bytesLess a0.2.2.2 a1.2.2.2))))
noncomputable def F38 (N : Nat) (a0 : (Bs × (Int × (Bs × Bs)))) (a1 : (Bs × (Int × (Bs × Bs)))) : Option Bool := (V38 N a0 a1).eval
def t38 : List (Nat × List Nat × List (Nat × Sh)) := []
theorem P38 (N : Nat) (a0 : (Bs × (Int × (Bs × Bs)))) (a1 : (Bs × (Int × (Bs × Bs)))) : ∀ r, F38 N a0 a1 = some r → Spec Try.prog 38 [.agg [.val tS a0.1, .val tI a0.2.1, .val tS a0.2.2.1, .val tS a0.2.2.2], .agg [.val tS a1.1, .val tI a1.2.1, .val tS a1.2.2.1, .val tS a1.2.2.2]] (E38 r) := fun r h => Spec_of (fn := Try.f38) rfl rfl rfl rfl false (wpc_sound (tbl := t38) (μ := []) mixed _ _ _ (by
  have h1 := Vt.sound _ h
  refine Eq.mp ?_ h1
  kernel_rfl))

/-! ferryslip/ferryslipref14.Put -/
def E27 : (List (Bs × (Int × (Bs × Bs)))) → D := fun x => encV (.list (.pair tS (.pair tI (.pair tS tS)))) x
abbrev l27_4 : List (Nat × Sh) := [(0, .val (.list (.pair tS (.pair tI (.pair tS tS))))), (3, .cel false 3 46 (.pair tS (.pair tI (.pair tS tS)))), (5, .row false 34 46 (.pair tS (.pair tI (.pair tS tS)))), (6, .val tB), (7, .val tI)]
noncomputable def b27_4 : Code := loopBody 4 (bodyOf Try.f27)
noncomputable def U27_4 (N : Nat) (s0 : (List (Bs × (Int × (Bs × Bs))))) (s3 : (Bs × (Int × (Bs × Bs)))) (s5 : (List (Bs × (Int × (Bs × Bs))))) (s6 : Bool) (s7 : Int) : Vt (Lp (shTy l27_4).I (List (Bs × (Int × (Bs × Bs))))) (O3 (Option D)) (encO 49 l27_4 [0] (fun q => some (E27 q))) :=
  .br (decide (s7 < (s0.length : Int))) (.ck (inR s7 s0.length) (.br ((((atI (.pair tS (.pair tI (.pair tS tS))) s0 s7).1) == s3.1) && ((((atI (.pair tS (.pair tI (.pair tS tS))) s0 s7).2.1) == s3.2.1) && ((((atI (.pair tS (.pair tI (.pair tS tS))) s0 s7).2.2.1) == s3.2.2.1) && ((((atI (.pair tS (.pair tI (.pair tS tS))) s0 s7).2.2.2) == s3.2.2.2) && true)))) (.leaf (.ret s0)) (.br (!s6) (.ck (inR s7 s0.length) (.c1 (P38 N s3 (atI (.pair tS (.pair tI (.pair tS tS))) s0 s7)) (fun x1 => .br x1 (.ck (room (s5.length + ([s3] : (List (Bs × (Int × (Bs × Bs))))).length)) (.ck (inR s7 s0.length) (.ck (room ((s5 ++ ([s3] : (List (Bs × (Int × (Bs × Bs)))))).length + ([(atI (.pair tS (.pair tI (.pair tS tS))) s0 s7)] : (List (Bs × (Int × (Bs × Bs))))).length)) (.leaf (.next (s0, s3, ((s5 ++ ([s3] : (List (Bs × (Int × (Bs × Bs)))))) ++ ([(atI (.pair tS (.pair tI (.pair tS tS))) s0 s7)] : (List (Bs × (Int × (Bs × Bs)))))), true, (IntKind.i64.wrap (s7 + 1)))))))) (.ck (inR s7 s0.length) (.ck (room (s5.length + ([(atI (.pair tS (.pair tI (.pair tS tS))) s0 s7)] : (List (Bs × (Int × (Bs × Bs))))).length)) (.leaf (.next (s0, s3, (s5 ++ ([(atI (.pair tS (.pair tI (.pair tS tS))) s0 s7)] : (List (Bs × (Int × (Bs × Bs)))))), s6, (IntKind.i64.wrap (s7 + 1)))))))))) (.ck (inR s7 s0.length) (.ck (room (s5.length + ([(atI (.pair tS (.pair tI (.pair tS tS))) s0 s7)] : (List (Bs × (Int × (Bs × Bs))))).length)) (.leaf (.next (s0, s3, (s5 ++ ([(atI (.pair tS (.pair tI (.pair tS tS))) s0 s7)] : (List (Bs × (Int × (Bs × Bs)))))), s6, (IntKind.i64.wrap (s7 + 1)))))))))) (.leaf (.brk 0 (s0, s3, s5, s6, s7)))
noncomputable def L27_4 (N : Nat) (s0 : (List (Bs × (Int × (Bs × Bs))))) (s3 : (Bs × (Int × (Bs × Bs)))) (s5 : (List (Bs × (Int × (Bs × Bs))))) (s6 : Bool) (s7 : Int) : Option (Lp ((List (Bs × (Int × (Bs × Bs)))) × (Bs × (Int × (Bs × Bs))) × (List (Bs × (Int × (Bs × Bs)))) × Bool × Int) (List (Bs × (Int × (Bs × Bs))))) := (U27_4 N s0 s3 s5 s6 s7).eval
noncomputable def W27_4 (N : Nat) (x : ((List (Bs × (Int × (Bs × Bs)))) × (Bs × (Int × (Bs × Bs))) × (List (Bs × (Int × (Bs × Bs)))) × Bool × Int)) : Option (Lp ((List (Bs × (Int × (Bs × Bs)))) × (Bs × (Int × (Bs × Bs))) × (List (Bs × (Int × (Bs × Bs)))) × Bool × Int) (List (Bs × (Int × (Bs × Bs))))) := runLoop (fun x => L27_4 N x.1 x.2.1 x.2.2.1 x.2.2.2.1 x.2.2.2.2) N x
theorem WS27_4 (N : Nat) (x : (shTy l27_4).I) : ∀ o, W27_4 N x = some o → S Try.prog (.loop b27_4) (buildSt 49 l27_4 x) (stepZ (rdD Try.prog Try.f27 false) l27_4 (encO 49 l27_4 [0] (fun q => some (E27 q)) o)) :=
  fun o h => loop_S (l := l27_4) (step := fun x => L27_4 N x.1 x.2.1 x.2.2.1 x.2.2.2.1 x.2.2.2.2) (fun x o h => wpc_sound (tbl := []) (μ := []) mixed _ _ _ (by
    have h1 := Vt.sound _ h
    refine Eq.mp ?_ h1
    kernel_rfl)) N x o h
noncomputable def V27 (N : Nat) (a0 : (List (Bs × (Int × (Bs × Bs))))) (a1 : (Bs × (Int × (Bs × Bs)))) : Vt (List (Bs × (Int × (Bs × Bs)))) (Option D) (fun q => some (E27 q)) :=
  .f1 (l := l27_4) (o := W27_4 N (a0, a1, ([] : (List (Bs × (Int × (Bs × Bs))))), false, 0)) (WS27_4 N (a0, a1, ([] : (List (Bs × (Int × (Bs × Bs))))), false, 0)) (fun x2 => .br (!x2.2.2.2.1) (.ck (room (x2.2.2.1.length + ([x2.2.1] : (List (Bs × (Int × (Bs × Bs))))).length)) (.leaf (x2.2.2.1 ++ ([x2.2.1] : (List (Bs × (Int × (Bs × Bs)))))))) (.leaf x2.2.2.1))
noncomputable def F27 (N : Nat) (a0 : (List (Bs × (Int × (Bs × Bs))))) (a1 : (Bs × (Int × (Bs × Bs)))) : Option (List (Bs × (Int × (Bs × Bs)))) := (V27 N a0 a1).eval
def t27 : List (Nat × List Nat × List (Nat × Sh)) := [(4, [0], l27_4)]
theorem P27 (N : Nat) (a0 : (List (Bs × (Int × (Bs × Bs))))) (a1 : (Bs × (Int × (Bs × Bs)))) : ∀ r, F27 N a0 a1 = some r → Spec Try.prog 27 [.val (.list (.pair tS (.pair tI (.pair tS tS)))) a0, .agg [.val tS a1.1, .val tI a1.2.1, .val tS a1.2.2.1, .val tS a1.2.2.2]] (E27 r) := fun r h => Spec_of (fn := Try.f27) rfl rfl rfl rfl false (wpc_sound (tbl := t27) (μ := []) mixed _ _ _ (by
  have h1 := Vt.sound _ h
  refine Eq.mp ?_ h1
  kernel_rfl))

/-! ferryslip/ferryslipref16.Less -/
def E16 : (List (Bs × (Int × (Bs × Bs)))) → D := fun x => encV (.list (.pair tS (.pair tI (.pair tS tS)))) x
abbrev l16_3 : List (Nat × Sh) := [(0, .val (.list (.pair tS (.pair tI (.pair tS tS))))), (1, .val (.list (.pair tS (.pair tI (.pair tS tS))))), (5, .val (.list (.pair tS (.pair tI (.pair tS tS))))), (6, .val tI)]
noncomputable def b16_3 : Code := loopBody 3 (bodyOf Try.f16)
noncomputable def U16_3 (N : Nat) (s0 : (List (Bs × (Int × (Bs × Bs))))) (s1 : (List (Bs × (Int × (Bs × Bs))))) (s5 : (List (Bs × (Int × (Bs × Bs))))) (s6 : Int) : Vt (Lp (shTy l16_3).I (List (Bs × (Int × (Bs × Bs))))) (O3 (Option D)) (encO 27 l16_3 [0] (fun q => some (E16 q))) :=
  .br (decide (s6 < (s0.length : Int))) (.ck (inR s6 s0.length) (.c1 (P24 N s1 (atI (.pair tS (.pair tI (.pair tS tS))) s0 s6)) (fun x1 => .br (!x1) (.ck (inR s6 s0.length) (.c1 (P27 N s5 (atI (.pair tS (.pair tI (.pair tS tS))) s0 s6)) (fun x2 => .leaf (.next (s0, s1, x2, (IntKind.i64.wrap (s6 + 1))))))) (.leaf (.next (s0, s1, s5, (IntKind.i64.wrap (s6 + 1)))))))) (.leaf (.brk 0 (s0, s1, s5, s6)))
noncomputable def L16_3 (N : Nat) (s0 : (List (Bs × (Int × (Bs × Bs))))) (s1 : (List (Bs × (Int × (Bs × Bs))))) (s5 : (List (Bs × (Int × (Bs × Bs))))) (s6 : Int) : Option (Lp ((List (Bs × (Int × (Bs × Bs)))) × (List (Bs × (Int × (Bs × Bs)))) × (List (Bs × (Int × (Bs × Bs)))) × Int) (List (Bs × (Int × (Bs × Bs))))) := (U16_3 N s0 s1 s5 s6).eval
noncomputable def W16_3 (N : Nat) (x : ((List (Bs × (Int × (Bs × Bs)))) × (List (Bs × (Int × (Bs × Bs)))) × (List (Bs × (Int × (Bs × Bs)))) × Int)) : Option (Lp ((List (Bs × (Int × (Bs × Bs)))) × (List (Bs × (Int × (Bs × Bs)))) × (List (Bs × (Int × (Bs × Bs)))) × Int) (List (Bs × (Int × (Bs × Bs))))) := runLoop (fun x => L16_3 N x.1 x.2.1 x.2.2.1 x.2.2.2) N x
theorem WS16_3 (N : Nat) (x : (shTy l16_3).I) : ∀ o, W16_3 N x = some o → S Try.prog (.loop b16_3) (buildSt 27 l16_3 x) (stepZ (rdD Try.prog Try.f16 false) l16_3 (encO 27 l16_3 [0] (fun q => some (E16 q)) o)) :=
  fun o h => loop_S (l := l16_3) (step := fun x => L16_3 N x.1 x.2.1 x.2.2.1 x.2.2.2) (fun x o h => wpc_sound (tbl := []) (μ := []) mixed _ _ _ (by
    have h1 := Vt.sound _ h
    refine Eq.mp ?_ h1
    kernel_rfl)) N x o h
noncomputable def V16 (N : Nat) (a0 : (List (Bs × (Int × (Bs × Bs))))) (a1 : (List (Bs × (Int × (Bs × Bs))))) : Vt (List (Bs × (Int × (Bs × Bs)))) (Option D) (fun q => some (E16 q)) :=
  .f1 (l := l16_3) (o := W16_3 N (a0, a1, ([] : (List (Bs × (Int × (Bs × Bs))))), 0)) (WS16_3 N (a0, a1, ([] : (List (Bs × (Int × (Bs × Bs))))), 0)) (fun x1 => .leaf x1.2.2.1)
noncomputable def F16 (N : Nat) (a0 : (List (Bs × (Int × (Bs × Bs))))) (a1 : (List (Bs × (Int × (Bs × Bs))))) : Option (List (Bs × (Int × (Bs × Bs)))) := (V16 N a0 a1).eval
def t16 : List (Nat × List Nat × List (Nat × Sh)) := [(3, [0], l16_3)]
theorem P16 (N : Nat) (a0 : (List (Bs × (Int × (Bs × Bs))))) (a1 : (List (Bs × (Int × (Bs × Bs))))) : ∀ r, F16 N a0 a1 = some r → Spec Try.prog 16 [.val (.list (.pair tS (.pair tI (.pair tS tS)))) a0, .val (.list (.pair tS (.pair tI (.pair tS tS)))) a1] (E16 r) := fun r h => Spec_of (fn := Try.f16) rfl rfl rfl rfl false (wpc_sound (tbl := t16) (μ := []) mixed _ _ _ (by
  have h1 := Vt.sound _ h
  refine Eq.mp ?_ h1
  kernel_rfl))

/-! ferryslip/ferryslipref16.Only -/
def E17o : (List (Bs × (Int × (Bs × Bs)))) → D := fun x => .own 46 (.pair tS (.pair tI (.pair tS tS))) x
abbrev l17o_3 : List (Nat × Sh) := [(0, .val (.list (.pair tS (.pair tI (.pair tS tS))))), (1, .val tS), (5, .row false 26 46 (.pair tS (.pair tI (.pair tS tS)))), (6, .val tI)]
noncomputable def b17o_3 : Code := loopBody 3 (bodyOf Try.f17)
noncomputable def U17o_3 (N : Nat) (s0 : (List (Bs × (Int × (Bs × Bs))))) (s1 : Bs) (s5 : (List (Bs × (Int × (Bs × Bs))))) (s6 : Int) : Vt (Lp (shTy l17o_3).I (List (Bs × (Int × (Bs × Bs))))) (O3 (Option D)) (encO 28 l17o_3 [0] (fun q => some (E17o q))) :=
  .br (decide (s6 < (s0.length : Int))) (.ck (inR s6 s0.length) (.br (((atI (.pair tS (.pair tI (.pair tS tS))) s0 s6).1) == s1) (.ck (inR s6 s0.length) (.ck (room (s5.length + ([(atI (.pair tS (.pair tI (.pair tS tS))) s0 s6)] : (List (Bs × (Int × (Bs × Bs))))).length)) (.leaf (.next (s0, s1, (s5 ++ ([(atI (.pair tS (.pair tI (.pair tS tS))) s0 s6)] : (List (Bs × (Int × (Bs × Bs)))))), (IntKind.i64.wrap (s6 + 1))))))) (.leaf (.next (s0, s1, s5, (IntKind.i64.wrap (s6 + 1))))))) (.leaf (.brk 0 (s0, s1, s5, s6)))
noncomputable def L17o_3 (N : Nat) (s0 : (List (Bs × (Int × (Bs × Bs))))) (s1 : Bs) (s5 : (List (Bs × (Int × (Bs × Bs))))) (s6 : Int) : Option (Lp ((List (Bs × (Int × (Bs × Bs)))) × Bs × (List (Bs × (Int × (Bs × Bs)))) × Int) (List (Bs × (Int × (Bs × Bs))))) := (U17o_3 N s0 s1 s5 s6).eval
noncomputable def W17o_3 (N : Nat) (x : ((List (Bs × (Int × (Bs × Bs)))) × Bs × (List (Bs × (Int × (Bs × Bs)))) × Int)) : Option (Lp ((List (Bs × (Int × (Bs × Bs)))) × Bs × (List (Bs × (Int × (Bs × Bs)))) × Int) (List (Bs × (Int × (Bs × Bs))))) := runLoop (fun x => L17o_3 N x.1 x.2.1 x.2.2.1 x.2.2.2) N x
theorem WS17o_3 (N : Nat) (x : (shTy l17o_3).I) : ∀ o, W17o_3 N x = some o → S Try.prog (.loop b17o_3) (buildSt 28 l17o_3 x) (stepZ (rdD Try.prog Try.f17 true) l17o_3 (encO 28 l17o_3 [0] (fun q => some (E17o q)) o)) :=
  fun o h => loop_S (l := l17o_3) (step := fun x => L17o_3 N x.1 x.2.1 x.2.2.1 x.2.2.2) (fun x o h => wpc_sound (tbl := []) (μ := []) mixed _ _ _ (by
    have h1 := Vt.sound _ h
    refine Eq.mp ?_ h1
    kernel_rfl)) N x o h
noncomputable def V17o (N : Nat) (a0 : (List (Bs × (Int × (Bs × Bs))))) (a1 : Bs) : Vt (List (Bs × (Int × (Bs × Bs)))) (Option D) (fun q => some (E17o q)) :=
  .f1 (l := l17o_3) (o := W17o_3 N (a0, a1, ([] : (List (Bs × (Int × (Bs × Bs))))), 0)) (WS17o_3 N (a0, a1, ([] : (List (Bs × (Int × (Bs × Bs))))), 0)) (fun x1 => .leaf x1.2.2.1)
noncomputable def F17o (N : Nat) (a0 : (List (Bs × (Int × (Bs × Bs))))) (a1 : Bs) : Option (List (Bs × (Int × (Bs × Bs)))) := (V17o N a0 a1).eval
def t17o : List (Nat × List Nat × List (Nat × Sh)) := [(3, [0], l17o_3)]
theorem P17o (N : Nat) (a0 : (List (Bs × (Int × (Bs × Bs))))) (a1 : Bs) : ∀ r, F17o N a0 a1 = some r → Spec Try.prog 17 [.val (.list (.pair tS (.pair tI (.pair tS tS)))) a0, .val tS a1] (E17o r) := fun r h => Spec_of (fn := Try.f17) rfl rfl rfl rfl true (wpc_sound (tbl := t17o) (μ := []) mixed _ _ _ (by
  have h1 := Vt.sound _ h
  refine Eq.mp ?_ h1
  kernel_rfl))

/-! ferryslip/ferryslipref16.Apply -/
def E19 : (List (Bs × (Int × (Bs × Bs)))) → D := fun x => encV (.list (.pair tS (.pair tI (.pair tS tS)))) x
abbrev l19_3 : List (Nat × Sh) := [(2, .val (.list (.pair tS (.pair tI (.pair tS tS))))), (7, .val (.list (.pair tS (.pair tI (.pair tS tS))))), (8, .val tI)]
noncomputable def b19_3 : Code := loopBody 3 (bodyOf Try.f19)
noncomputable def U19_3 (N : Nat) (s2 : (List (Bs × (Int × (Bs × Bs))))) (s7 : (List (Bs × (Int × (Bs × Bs))))) (s8 : Int) : Vt (Lp (shTy l19_3).I (List (Bs × (Int × (Bs × Bs))))) (O3 (Option D)) (encO 25 l19_3 [0] (fun q => some (E19 q))) :=
  .br (decide (s8 < (s2.length : Int))) (.ck (inR s8 s2.length) (.c1 (P27 N s7 (atI (.pair tS (.pair tI (.pair tS tS))) s2 s8)) (fun x1 => .leaf (.next (s2, x1, (IntKind.i64.wrap (s8 + 1))))))) (.leaf (.brk 0 (s2, s7, s8)))
noncomputable def L19_3 (N : Nat) (s2 : (List (Bs × (Int × (Bs × Bs))))) (s7 : (List (Bs × (Int × (Bs × Bs))))) (s8 : Int) : Option (Lp ((List (Bs × (Int × (Bs × Bs)))) × (List (Bs × (Int × (Bs × Bs)))) × Int) (List (Bs × (Int × (Bs × Bs))))) := (U19_3 N s2 s7 s8).eval
noncomputable def W19_3 (N : Nat) (x : ((List (Bs × (Int × (Bs × Bs)))) × (List (Bs × (Int × (Bs × Bs)))) × Int)) : Option (Lp ((List (Bs × (Int × (Bs × Bs)))) × (List (Bs × (Int × (Bs × Bs)))) × Int) (List (Bs × (Int × (Bs × Bs))))) := runLoop (fun x => L19_3 N x.1 x.2.1 x.2.2) N x
theorem WS19_3 (N : Nat) (x : (shTy l19_3).I) : ∀ o, W19_3 N x = some o → S Try.prog (.loop b19_3) (buildSt 25 l19_3 x) (stepZ (rdD Try.prog Try.f19 false) l19_3 (encO 25 l19_3 [0] (fun q => some (E19 q)) o)) :=
  fun o h => loop_S (l := l19_3) (step := fun x => L19_3 N x.1 x.2.1 x.2.2) (fun x o h => wpc_sound (tbl := []) (μ := []) mixed _ _ _ (by
    have h1 := Vt.sound _ h
    refine Eq.mp ?_ h1
    kernel_rfl)) N x o h
noncomputable def V19 (N : Nat) (a0 : (List (Bs × (Int × (Bs × Bs))))) (a1 : (List (Bs × (Int × (Bs × Bs))))) (a2 : (List (Bs × (Int × (Bs × Bs))))) : Vt (List (Bs × (Int × (Bs × Bs)))) (Option D) (fun q => some (E19 q)) :=
  .c1 (P16 N a0 a1) (fun x1 => .f1 (l := l19_3) (o := W19_3 N (a2, x1, 0)) (WS19_3 N (a2, x1, 0)) (fun x2 => .leaf x2.2.1))
noncomputable def F19 (N : Nat) (a0 : (List (Bs × (Int × (Bs × Bs))))) (a1 : (List (Bs × (Int × (Bs × Bs))))) (a2 : (List (Bs × (Int × (Bs × Bs))))) : Option (List (Bs × (Int × (Bs × Bs)))) := (V19 N a0 a1 a2).eval
def t19 : List (Nat × List Nat × List (Nat × Sh)) := [(3, [0], l19_3)]
theorem P19 (N : Nat) (a0 : (List (Bs × (Int × (Bs × Bs))))) (a1 : (List (Bs × (Int × (Bs × Bs))))) (a2 : (List (Bs × (Int × (Bs × Bs))))) : ∀ r, F19 N a0 a1 a2 = some r → Spec Try.prog 19 [.val (.list (.pair tS (.pair tI (.pair tS tS)))) a0, .val (.list (.pair tS (.pair tI (.pair tS tS)))) a1, .val (.list (.pair tS (.pair tI (.pair tS tS)))) a2] (E19 r) := fun r h => Spec_of (fn := Try.f19) rfl rfl rfl rfl false (wpc_sound (tbl := t19) (μ := []) mixed _ _ _ (by
  have h1 := Vt.sound _ h
  refine Eq.mp ?_ h1
  kernel_rfl))

/-! ferryslip/ferryslipref14.Set -/
def E23 : (List (Bs × (Int × (Bs × Bs)))) → D := fun x => encV (.list (.pair tS (.pair tI (.pair tS tS)))) x
abbrev l23_3 : List (Nat × Sh) := [(0, .val (.list (.pair tS (.pair tI (.pair tS tS))))), (3, .val (.list (.pair tS (.pair tI (.pair tS tS))))), (4, .val tI)]
noncomputable def b23_3 : Code := loopBody 3 (bodyOf Try.f23)
noncomputable def U23_3 (N : Nat) (s0 : (List (Bs × (Int × (Bs × Bs))))) (s3 : (List (Bs × (Int × (Bs × Bs))))) (s4 : Int) : Vt (Lp (shTy l23_3).I (List (Bs × (Int × (Bs × Bs))))) (O3 (Option D)) (encO 18 l23_3 [0] (fun q => some (E23 q))) :=
  .br (decide (s4 < (s0.length : Int))) (.ck (inR s4 s0.length) (.c1 (P27 N s3 (atI (.pair tS (.pair tI (.pair tS tS))) s0 s4)) (fun x1 => .leaf (.next (s0, x1, (IntKind.i64.wrap (s4 + 1))))))) (.leaf (.brk 0 (s0, s3, s4)))
noncomputable def L23_3 (N : Nat) (s0 : (List (Bs × (Int × (Bs × Bs))))) (s3 : (List (Bs × (Int × (Bs × Bs))))) (s4 : Int) : Option (Lp ((List (Bs × (Int × (Bs × Bs)))) × (List (Bs × (Int × (Bs × Bs)))) × Int) (List (Bs × (Int × (Bs × Bs))))) := (U23_3 N s0 s3 s4).eval
noncomputable def W23_3 (N : Nat) (x : ((List (Bs × (Int × (Bs × Bs)))) × (List (Bs × (Int × (Bs × Bs)))) × Int)) : Option (Lp ((List (Bs × (Int × (Bs × Bs)))) × (List (Bs × (Int × (Bs × Bs)))) × Int) (List (Bs × (Int × (Bs × Bs))))) := runLoop (fun x => L23_3 N x.1 x.2.1 x.2.2) N x
theorem WS23_3 (N : Nat) (x : (shTy l23_3).I) : ∀ o, W23_3 N x = some o → S Try.prog (.loop b23_3) (buildSt 18 l23_3 x) (stepZ (rdD Try.prog Try.f23 false) l23_3 (encO 18 l23_3 [0] (fun q => some (E23 q)) o)) :=
  fun o h => loop_S (l := l23_3) (step := fun x => L23_3 N x.1 x.2.1 x.2.2) (fun x o h => wpc_sound (tbl := []) (μ := []) mixed _ _ _ (by
    have h1 := Vt.sound _ h
    refine Eq.mp ?_ h1
    kernel_rfl)) N x o h
noncomputable def V23 (N : Nat) (a0 : (List (Bs × (Int × (Bs × Bs))))) : Vt (List (Bs × (Int × (Bs × Bs)))) (Option D) (fun q => some (E23 q)) :=
  .f1 (l := l23_3) (o := W23_3 N (a0, ([] : (List (Bs × (Int × (Bs × Bs))))), 0)) (WS23_3 N (a0, ([] : (List (Bs × (Int × (Bs × Bs))))), 0)) (fun x1 => .leaf x1.2.1)
noncomputable def F23 (N : Nat) (a0 : (List (Bs × (Int × (Bs × Bs))))) : Option (List (Bs × (Int × (Bs × Bs)))) := (V23 N a0).eval
def t23 : List (Nat × List Nat × List (Nat × Sh)) := [(3, [0], l23_3)]
theorem P23 (N : Nat) (a0 : (List (Bs × (Int × (Bs × Bs))))) : ∀ r, F23 N a0 = some r → Spec Try.prog 23 [.val (.list (.pair tS (.pair tI (.pair tS tS)))) a0] (E23 r) := fun r h => Spec_of (fn := Try.f23) rfl rfl rfl rfl false (wpc_sound (tbl := t23) (μ := []) mixed _ _ _ (by
  have h1 := Vt.sound _ h
  refine Eq.mp ?_ h1
  kernel_rfl))

/-! ferryslip/ferryslipref16.Hosts -/
def E22o : (List Bs) → D := fun x => .own 9 tS x
abbrev l22o_4 : List (Nat × Sh) := [(3, .val (.list (.pair tS (.pair tI (.pair tS tS))))), (4, .row false 37 9 tS), (5, .val tI)]
noncomputable def b22o_4 : Code := loopBody 4 (bodyOf Try.f22)
noncomputable def U22o_4 (N : Nat) (s3 : (List (Bs × (Int × (Bs × Bs))))) (s4 : (List Bs)) (s5 : Int) : Vt (Lp (shTy l22o_4).I (List Bs)) (O3 (Option D)) (encO 39 l22o_4 [0] (fun q => some (E22o q))) :=
  .br (decide (s5 < (s3.length : Int))) (.br (s5 == 0) (.ck (inR s5 s3.length) (.ck (room (s4.length + ([(atI (.pair tS (.pair tI (.pair tS tS))) s3 s5).1] : (List Bs)).length)) (.leaf (.next (s3, (s4 ++ ([(atI (.pair tS (.pair tI (.pair tS tS))) s3 s5).1] : (List Bs))), (IntKind.i64.wrap (s5 + 1))))))) (.ck (inR s5 s3.length) (.ck (inR (IntKind.i64.wrap (s5 - 1)) s3.length) (.br (!(((atI (.pair tS (.pair tI (.pair tS tS))) s3 s5).1) == ((atI (.pair tS (.pair tI (.pair tS tS))) s3 (IntKind.i64.wrap (s5 - 1))).1))) (.ck (inR s5 s3.length) (.ck (room (s4.length + ([(atI (.pair tS (.pair tI (.pair tS tS))) s3 s5).1] : (List Bs)).length)) (.leaf (.next (s3, (s4 ++ ([(atI (.pair tS (.pair tI (.pair tS tS))) s3 s5).1] : (List Bs))), (IntKind.i64.wrap (s5 + 1))))))) (.leaf (.next (s3, s4, (IntKind.i64.wrap (s5 + 1))))))))) (.leaf (.brk 0 (s3, s4, s5)))
noncomputable def L22o_4 (N : Nat) (s3 : (List (Bs × (Int × (Bs × Bs))))) (s4 : (List Bs)) (s5 : Int) : Option (Lp ((List (Bs × (Int × (Bs × Bs)))) × (List Bs) × Int) (List Bs)) := (U22o_4 N s3 s4 s5).eval
noncomputable def W22o_4 (N : Nat) (x : ((List (Bs × (Int × (Bs × Bs)))) × (List Bs) × Int)) : Option (Lp ((List (Bs × (Int × (Bs × Bs)))) × (List Bs) × Int) (List Bs)) := runLoop (fun x => L22o_4 N x.1 x.2.1 x.2.2) N x
theorem WS22o_4 (N : Nat) (x : (shTy l22o_4).I) : ∀ o, W22o_4 N x = some o → S Try.prog (.loop b22o_4) (buildSt 39 l22o_4 x) (stepZ (rdD Try.prog Try.f22 true) l22o_4 (encO 39 l22o_4 [0] (fun q => some (E22o q)) o)) :=
  fun o h => loop_S (l := l22o_4) (step := fun x => L22o_4 N x.1 x.2.1 x.2.2) (fun x o h => wpc_sound (tbl := []) (μ := []) mixed _ _ _ (by
    have h1 := Vt.sound _ h
    refine Eq.mp ?_ h1
    kernel_rfl)) N x o h
noncomputable def V22o (N : Nat) (a0 : (List (Bs × (Int × (Bs × Bs))))) : Vt (List Bs) (Option D) (fun q => some (E22o q)) :=
  .c1 (P23 N a0) (fun x1 => .f1 (l := l22o_4) (o := W22o_4 N (x1, ([] : (List Bs)), 0)) (WS22o_4 N (x1, ([] : (List Bs)), 0)) (fun x1 => .leaf x1.2.1))
noncomputable def F22o (N : Nat) (a0 : (List (Bs × (Int × (Bs × Bs))))) : Option (List Bs) := (V22o N a0).eval
def t22o : List (Nat × List Nat × List (Nat × Sh)) := [(4, [0], l22o_4)]
theorem P22o (N : Nat) (a0 : (List (Bs × (Int × (Bs × Bs))))) : ∀ r, F22o N a0 = some r → Spec Try.prog 22 [.val (.list (.pair tS (.pair tI (.pair tS tS)))) a0] (E22o r) := fun r h => Spec_of (fn := Try.f22) rfl rfl rfl rfl true (wpc_sound (tbl := t22o) (μ := []) mixed _ _ _ (by
  have h1 := Vt.sound _ h
  refine Eq.mp ?_ h1
  kernel_rfl))

/-! ferryslip/ferrysliplaw16.PatchExact -/
def E3 : Bool → D := fun x => encV tB x
noncomputable def V3 (N : Nat) (a0 : (List (Bs × (Int × (Bs × Bs))))) (a1 : (List (Bs × (Int × (Bs × Bs))))) (a2 : ((List (Bs × (Int × (Bs × Bs)))) × (List (Bs × (Int × (Bs × Bs)))))) (a3 : Bs) : Vt Bool (Option D) (fun q => some (E3 q)) :=
  .c1 (P10 N a0) (fun x1 => .br (!x1) (.c1 (P11 N) (fun x2 => .leaf x2)) (.c1 (P10 N a1) (fun x3 => .br (!x3) (.c1 (P11 N) (fun x4 => .leaf x4)) (.c1 (P10 N a2.1) (fun x5 => .br (!x5) (.c1 (P11 N) (fun x6 => .leaf x6)) (.c1 (P10 N a2.2) (fun x7 => .br (!x7) (.c1 (P11 N) (fun x8 => .leaf x8)) (.br (decide ((100 : Int) < (a3.length : Int))) (.c1 (P11 N) (fun x9 => .leaf x9)) (.c1 (P12o N a0) (fun x10 => .c1 (P12o N a1) (fun x11 => .nb (.c1 (P12o N a2.1) (fun x12 => .c1 (P12o N a2.2) (fun x13 => .c1 (P13 N a0 a1) (fun x14 => .c1 (P14 N a2 a3) (fun x15 => .c1 (P12o N x14.1) (fun x16 => .c1 (P16 N x10 x11) (fun x17 => .c1 (P15 N x16 x17) (fun x18 => .br (!x18) (.leaf false) (.c1 (P12o N x14.2) (fun x19 => .c1 (P16 N x11 x10) (fun x20 => .c1 (P15 N x19 x20) (fun x21 => .br (!x21) (.leaf false) (.c1 (P12o N x15.1) (fun x22 => .c1 (P17o N x12 a3) (fun x23 => .c1 (P15 N x22 x23) (fun x24 => .br (!x24) (.leaf false) (.c1 (P12o N x15.2) (fun x25 => .c1 (P17o N x13 a3) (fun x26 => .c1 (P15 N x25 x26) (fun x27 => .br (!x27) (.leaf false) (.ck (room (([] : (List (Bs × (Int × (Bs × Bs))))).length + x12.length)) (.ck (room ((([] : (List (Bs × (Int × (Bs × Bs))))) ++ x12).length + x13.length)) (.c1 (P18o N a0 a2) (fun x28 => .c1 (P12o N x28) (fun x29 => .c1 (P19 N x10 x12 x13) (fun x30 => .c1 (P15 N x29 x30) (fun x31 => .br x31 (.c1 (P21o N a2) (fun x32 => .c1 (P22o N ((([] : (List (Bs × (Int × (Bs × Bs))))) ++ x12) ++ x13)) (fun x33 => .c1 (P20 N x32 x33) (fun x34 => .br x34 (.c1 (P11 N) (fun x35 => .leaf x35)) (.leaf false))))) (.leaf false)))))))))))))))))))))))))))) (.c1 (P12o N a2.1) (fun x36 => .c1 (P12o N a2.2) (fun x37 => .c1 (P13 N a0 a1) (fun x38 => .c1 (P14 N a2 a3) (fun x39 => .c1 (P12o N x38.1) (fun x40 => .c1 (P16 N x10 x11) (fun x41 => .c1 (P15 N x40 x41) (fun x42 => .br (!x42) (.leaf false) (.c1 (P12o N x38.2) (fun x43 => .c1 (P16 N x11 x10) (fun x44 => .c1 (P15 N x43 x44) (fun x45 => .br (!x45) (.leaf false) (.c1 (P12o N x39.1) (fun x46 => .c1 (P17o N x36 a3) (fun x47 => .c1 (P15 N x46 x47) (fun x48 => .br (!x48) (.leaf false) (.c1 (P12o N x39.2) (fun x49 => .c1 (P17o N x37 a3) (fun x50 => .c1 (P15 N x49 x50) (fun x51 => .br (!x51) (.leaf false) (.ck (room (([] : (List (Bs × (Int × (Bs × Bs))))).length + x36.length)) (.ck (room ((([] : (List (Bs × (Int × (Bs × Bs))))) ++ x36).length + x37.length)) (.c1 (P18o N a0 a2) (fun x52 => .c1 (P12o N x52) (fun x53 => .c1 (P19 N x10 x36 x37) (fun x54 => .c1 (P15 N x53 x54) (fun x55 => .br x55 (.c1 (P21o N a2) (fun x56 => .c1 (P22o N ((([] : (List (Bs × (Int × (Bs × Bs))))) ++ x36) ++ x37)) (fun x57 => .c1 (P20 N x56 x57) (fun x58 => .br x58 (.c1 (P11 N) (fun x59 => .leaf x59)) (.leaf false))))) (.leaf false)))))))))))))))))))))))))))))))))))))))
noncomputable def F3 (N : Nat) (a0 : (List (Bs × (Int × (Bs × Bs))))) (a1 : (List (Bs × (Int × (Bs × Bs))))) (a2 : ((List (Bs × (Int × (Bs × Bs)))) × (List (Bs × (Int × (Bs × Bs)))))) (a3 : Bs) : Option Bool := (V3 N a0 a1 a2 a3).eval
def t3 : List (Nat × List Nat × List (Nat × Sh)) := []
theorem P3 (N : Nat) (a0 : (List (Bs × (Int × (Bs × Bs))))) (a1 : (List (Bs × (Int × (Bs × Bs))))) (a2 : ((List (Bs × (Int × (Bs × Bs)))) × (List (Bs × (Int × (Bs × Bs)))))) (a3 : Bs) : ∀ r, F3 N a0 a1 a2 a3 = some r → Spec Try.prog 3 [.val (.list (.pair tS (.pair tI (.pair tS tS)))) a0, .val (.list (.pair tS (.pair tI (.pair tS tS)))) a1, .agg [.val (.list (.pair tS (.pair tI (.pair tS tS)))) a2.1, .val (.list (.pair tS (.pair tI (.pair tS tS)))) a2.2], .val tS a3] (E3 r) := fun r h => Spec_of (fn := Try.f3) rfl rfl rfl rfl false (wpc_sound (tbl := t3) (μ := [43, 45, 48, 51, 60, 69, 78, 81, 87, 90, 101, 102, 110, 112]) mixed _ _ _ (by
  have h1 := Vt.sound _ h
  refine Eq.mp ?_ h1
  kernel_rfl))

/-! ferryslip/ferrysliplaw16.PatchMakes -/
def E4 : Bool → D := fun x => encV tB x
noncomputable def V4 (N : Nat) (a0 : (List (Bs × (Int × (Bs × Bs))))) (a1 : (List (Bs × (Int × (Bs × Bs))))) : Vt Bool (Option D) (fun q => some (E4 q)) :=
  .c1 (P10 N a0) (fun x1 => .br (!x1) (.c1 (P11 N) (fun x2 => .leaf x2)) (.c1 (P10 N a1) (fun x3 => .br (!x3) (.c1 (P11 N) (fun x4 => .leaf x4)) (.c1 (P13 N a0 a1) (fun x5 => .c1 (P13 N a1 a0) (fun x6 => .nb (.c1 (P18o N a0 x5) (fun x7 => .c1 (P18o N a1 x6) (fun x8 => .c1 (P12o N x7) (fun x9 => .c1 (P12o N a1) (fun x10 => .c1 (P23 N x10) (fun x11 => .c1 (P15 N x9 x11) (fun x12 => .br x12 (.c1 (P12o N x8) (fun x13 => .c1 (P12o N a0) (fun x14 => .c1 (P23 N x14) (fun x15 => .c1 (P15 N x13 x15) (fun x16 => .br x16 (.c1 (P11 N) (fun x17 => .leaf x17)) (.leaf false)))))) (.leaf false)))))))) (.c1 (P18o N a0 x5) (fun x18 => .c1 (P18o N a1 x6) (fun x19 => .c1 (P12o N x18) (fun x20 => .c1 (P12o N a1) (fun x21 => .c1 (P23 N x21) (fun x22 => .c1 (P15 N x20 x22) (fun x23 => .br x23 (.c1 (P12o N x19) (fun x24 => .c1 (P12o N a0) (fun x25 => .c1 (P23 N x25) (fun x26 => .c1 (P15 N x24 x26) (fun x27 => .br x27 (.c1 (P11 N) (fun x28 => .leaf x28)) (.leaf false)))))) (.leaf false))))))))))))))
noncomputable def F4 (N : Nat) (a0 : (List (Bs × (Int × (Bs × Bs))))) (a1 : (List (Bs × (Int × (Bs × Bs))))) : Option Bool := (V4 N a0 a1).eval
def t4 : List (Nat × List Nat × List (Nat × Sh)) := []
theorem P4 (N : Nat) (a0 : (List (Bs × (Int × (Bs × Bs))))) (a1 : (List (Bs × (Int × (Bs × Bs))))) : ∀ r, F4 N a0 a1 = some r → Spec Try.prog 4 [.val (.list (.pair tS (.pair tI (.pair tS tS)))) a0, .val (.list (.pair tS (.pair tI (.pair tS tS)))) a1] (E4 r) := fun r h => Spec_of (fn := Try.f4) rfl rfl rfl rfl false (wpc_sound (tbl := t4) (μ := [26, 29, 31, 33, 38, 40]) mixed _ _ _ (by
  have h1 := Vt.sound _ h
  refine Eq.mp ?_ h1
  kernel_rfl))

/-! ferryslip/ferrysliplaw16.PatchLeast -/
def E5 : Bool → D := fun x => encV tB x
abbrev l5_8 : List (Nat × Sh) := [(5, .cel false 5 24 (.pair (.list (.pair tS (.pair tI (.pair tS tS)))) (.list (.pair tS (.pair tI (.pair tS tS)))))), (8, .cel false 8 24 (.pair (.list (.pair tS (.pair tI (.pair tS tS)))) (.list (.pair tS (.pair tI (.pair tS tS)))))), (49, .val (.list (.pair tS (.pair tI (.pair tS tS))))), (50, .val tI), (51, .val tI)]
noncomputable def b5_8 : Code := loopBody 8 (bodyOf Try.f5)
noncomputable def U5_8 (N : Nat) (s5 : ((List (Bs × (Int × (Bs × Bs)))) × (List (Bs × (Int × (Bs × Bs)))))) (s8 : ((List (Bs × (Int × (Bs × Bs)))) × (List (Bs × (Int × (Bs × Bs)))))) (s49 : (List (Bs × (Int × (Bs × Bs))))) (s50 : Int) (s51 : Int) : Vt (Lp (shTy l5_8).I Bool) (O3 (Option D)) (encO 77 l5_8 [0] (fun q => some (E5 q))) :=
  .br (decide (s51 < s50)) (.ck (inR s51 s49.length) (.nb (.c1 (P12o N s5.1) (fun x1 => .c1 (P24 N x1 (atI (.pair tS (.pair tI (.pair tS tS))) s49 s51)) (fun x2 => .br (!x2) (.leaf (.ret false)) (.leaf (.next (s5, s8, s49, s50, (IntKind.i64.wrap (s51 + 1)))))))) (.c1 (P12o N s5.1) (fun x3 => .c1 (P24 N x3 (atI (.pair tS (.pair tI (.pair tS tS))) s49 s51)) (fun x4 => .br (!x4) (.leaf (.ret false)) (.leaf (.next (s5, s8, s49, s50, (IntKind.i64.wrap (s51 + 1)))))))))) (.leaf (.brk 0 (s5, s8, s49, s50, s51)))
noncomputable def L5_8 (N : Nat) (s5 : ((List (Bs × (Int × (Bs × Bs)))) × (List (Bs × (Int × (Bs × Bs)))))) (s8 : ((List (Bs × (Int × (Bs × Bs)))) × (List (Bs × (Int × (Bs × Bs)))))) (s49 : (List (Bs × (Int × (Bs × Bs))))) (s50 : Int) (s51 : Int) : Option (Lp (((List (Bs × (Int × (Bs × Bs)))) × (List (Bs × (Int × (Bs × Bs))))) × ((List (Bs × (Int × (Bs × Bs)))) × (List (Bs × (Int × (Bs × Bs))))) × (List (Bs × (Int × (Bs × Bs)))) × Int × Int) Bool) := (U5_8 N s5 s8 s49 s50 s51).eval
noncomputable def W5_8 (N : Nat) (x : (((List (Bs × (Int × (Bs × Bs)))) × (List (Bs × (Int × (Bs × Bs))))) × ((List (Bs × (Int × (Bs × Bs)))) × (List (Bs × (Int × (Bs × Bs))))) × (List (Bs × (Int × (Bs × Bs)))) × Int × Int)) : Option (Lp (((List (Bs × (Int × (Bs × Bs)))) × (List (Bs × (Int × (Bs × Bs))))) × ((List (Bs × (Int × (Bs × Bs)))) × (List (Bs × (Int × (Bs × Bs))))) × (List (Bs × (Int × (Bs × Bs)))) × Int × Int) Bool) := runLoop (fun x => L5_8 N x.1 x.2.1 x.2.2.1 x.2.2.2.1 x.2.2.2.2) N x
theorem WS5_8 (N : Nat) (x : (shTy l5_8).I) : ∀ o, W5_8 N x = some o → S Try.prog (.loop b5_8) (buildSt 77 l5_8 x) (stepZ (rdD Try.prog Try.f5 false) l5_8 (encO 77 l5_8 [0] (fun q => some (E5 q)) o)) :=
  fun o h => loop_S (l := l5_8) (step := fun x => L5_8 N x.1 x.2.1 x.2.2.1 x.2.2.2.1 x.2.2.2.2) (fun x o h => wpc_sound (tbl := []) (μ := [36, 37, 40, 57]) mixed _ _ _ (by
    have h1 := Vt.sound _ h
    refine Eq.mp ?_ h1
    kernel_rfl)) N x o h
abbrev l5_14 : List (Nat × Sh) := [(5, .cel false 5 24 (.pair (.list (.pair tS (.pair tI (.pair tS tS)))) (.list (.pair tS (.pair tI (.pair tS tS)))))), (63, .val (.list (.pair tS (.pair tI (.pair tS tS))))), (64, .val tI), (65, .val tI)]
noncomputable def b5_14 : Code := loopBody 14 (bodyOf Try.f5)
noncomputable def U5_14 (N : Nat) (s5 : ((List (Bs × (Int × (Bs × Bs)))) × (List (Bs × (Int × (Bs × Bs)))))) (s63 : (List (Bs × (Int × (Bs × Bs))))) (s64 : Int) (s65 : Int) : Vt (Lp (shTy l5_14).I Bool) (O3 (Option D)) (encO 77 l5_14 [2] (fun q => some (E5 q))) :=
  .br (decide (s65 < s64)) (.ck (inR s65 s63.length) (.nb (.c1 (P12o N s5.2) (fun x1 => .c1 (P24 N x1 (atI (.pair tS (.pair tI (.pair tS tS))) s63 s65)) (fun x2 => .br (!x2) (.leaf (.ret false)) (.leaf (.next (s5, s63, s64, (IntKind.i64.wrap (s65 + 1)))))))) (.c1 (P12o N s5.2) (fun x3 => .c1 (P24 N x3 (atI (.pair tS (.pair tI (.pair tS tS))) s63 s65)) (fun x4 => .br (!x4) (.leaf (.ret false)) (.leaf (.next (s5, s63, s64, (IntKind.i64.wrap (s65 + 1)))))))))) (.leaf (.brk 0 (s5, s63, s64, s65)))
noncomputable def L5_14 (N : Nat) (s5 : ((List (Bs × (Int × (Bs × Bs)))) × (List (Bs × (Int × (Bs × Bs)))))) (s63 : (List (Bs × (Int × (Bs × Bs))))) (s64 : Int) (s65 : Int) : Option (Lp (((List (Bs × (Int × (Bs × Bs)))) × (List (Bs × (Int × (Bs × Bs))))) × (List (Bs × (Int × (Bs × Bs)))) × Int × Int) Bool) := (U5_14 N s5 s63 s64 s65).eval
noncomputable def W5_14 (N : Nat) (x : (((List (Bs × (Int × (Bs × Bs)))) × (List (Bs × (Int × (Bs × Bs))))) × (List (Bs × (Int × (Bs × Bs)))) × Int × Int)) : Option (Lp (((List (Bs × (Int × (Bs × Bs)))) × (List (Bs × (Int × (Bs × Bs))))) × (List (Bs × (Int × (Bs × Bs)))) × Int × Int) Bool) := runLoop (fun x => L5_14 N x.1 x.2.1 x.2.2.1 x.2.2.2) N x
theorem WS5_14 (N : Nat) (x : (shTy l5_14).I) : ∀ o, W5_14 N x = some o → S Try.prog (.loop b5_14) (buildSt 77 l5_14 x) (stepZ (rdD Try.prog Try.f5 false) l5_14 (encO 77 l5_14 [2] (fun q => some (E5 q)) o)) :=
  fun o h => loop_S (l := l5_14) (step := fun x => L5_14 N x.1 x.2.1 x.2.2.1 x.2.2.2) (fun x o h => wpc_sound (tbl := [(8, [0], l5_8)]) (μ := [36, 37, 40, 57, 71]) mixed _ _ _ (by
    have h1 := Vt.sound _ h
    refine Eq.mp ?_ h1
    kernel_rfl)) N x o h
noncomputable def V5 (N : Nat) (a0 : (List (Bs × (Int × (Bs × Bs))))) (a1 : (List (Bs × (Int × (Bs × Bs))))) (a2 : ((List (Bs × (Int × (Bs × Bs)))) × (List (Bs × (Int × (Bs × Bs)))))) : Vt Bool (Option D) (fun q => some (E5 q)) :=
  .c1 (P10 N a0) (fun x1 => .br (!x1) (.c1 (P11 N) (fun x2 => .leaf x2)) (.c1 (P10 N a1) (fun x3 => .br (!x3) (.c1 (P11 N) (fun x4 => .leaf x4)) (.c1 (P10 N a2.1) (fun x5 => .br (!x5) (.c1 (P11 N) (fun x6 => .leaf x6)) (.c1 (P10 N a2.2) (fun x7 => .br (!x7) (.c1 (P11 N) (fun x8 => .leaf x8)) (.c1 (P18o N a0 a2) (fun x9 => .c1 (P12o N x9) (fun x10 => .c1 (P12o N a1) (fun x11 => .c1 (P23 N x11) (fun x12 => .c1 (P15 N x10 x12) (fun x13 => .br (!x13) (.c1 (P11 N) (fun x14 => .leaf x14)) (.c1 (P13 N a0 a1) (fun x15 => .f1 (l := l5_8) (o := W5_8 N (a2, x15, x15.1, (x15.1.length : Int), 0)) (WS5_8 N (a2, x15, x15.1, (x15.1.length : Int), 0)) (fun x16 => .f1 (l := l5_14) (o := W5_14 N (x16.1, x16.2.1.2, (x16.2.1.2.length : Int), 0)) (WS5_14 N (x16.1, x16.2.1.2, (x16.2.1.2.length : Int), 0)) (fun x17 => .c1 (P11 N) (fun x18 => .leaf x18))))))))))))))))))
noncomputable def F5 (N : Nat) (a0 : (List (Bs × (Int × (Bs × Bs))))) (a1 : (List (Bs × (Int × (Bs × Bs))))) (a2 : ((List (Bs × (Int × (Bs × Bs)))) × (List (Bs × (Int × (Bs × Bs)))))) : Option Bool := (V5 N a0 a1 a2).eval
def t5 : List (Nat × List Nat × List (Nat × Sh)) := [(8, [0], l5_8), (14, [2], l5_14)]
theorem P5 (N : Nat) (a0 : (List (Bs × (Int × (Bs × Bs))))) (a1 : (List (Bs × (Int × (Bs × Bs))))) (a2 : ((List (Bs × (Int × (Bs × Bs)))) × (List (Bs × (Int × (Bs × Bs)))))) : ∀ r, F5 N a0 a1 a2 = some r → Spec Try.prog 5 [.val (.list (.pair tS (.pair tI (.pair tS tS)))) a0, .val (.list (.pair tS (.pair tI (.pair tS tS)))) a1, .agg [.val (.list (.pair tS (.pair tI (.pair tS tS)))) a2.1, .val (.list (.pair tS (.pair tI (.pair tS tS)))) a2.2]] (E5 r) := fun r h => Spec_of (fn := Try.f5) rfl rfl rfl rfl false (wpc_sound (tbl := t5) (μ := [36, 37, 40, 57, 71]) mixed _ _ _ (by
  have h1 := Vt.sound _ h
  refine Eq.mp ?_ h1
  kernel_rfl))

/-! ferryslip/ferrysliplaw16.PatchHosts -/
def E6 : Bool → D := fun x => encV tB x
abbrev l6_7 : List (Nat × Sh) := [(1, .val (.list (.pair tS (.pair tI (.pair tS tS))))), (2, .val (.int .u8)), (7, .cel false 7 24 (.pair (.list (.pair tS (.pair tI (.pair tS tS)))) (.list (.pair tS (.pair tI (.pair tS tS)))))), (8, .row false 24 9 tS), (9, .val (.list (.pair tS (.pair tI (.pair tS tS))))), (27, .val tI), (28, .val tI)]
noncomputable def b6_7 : Code := loopBody 7 (bodyOf Try.f6)
noncomputable def U6_7 (N : Nat) (s1 : (List (Bs × (Int × (Bs × Bs))))) (s2 : Int) (s7 : ((List (Bs × (Int × (Bs × Bs)))) × (List (Bs × (Int × (Bs × Bs)))))) (s8 : (List Bs)) (s9 : (List (Bs × (Int × (Bs × Bs))))) (s27 : Int) (s28 : Int) : Vt (Lp (shTy l6_7).I Bool) (O3 (Option D)) (encO 56 l6_7 [0] (fun q => some (E6 q))) :=
  .br (decide (s28 < s27)) (.ck ((s8.length : Int) ≠ 0) (.ck (inR ((IntKind.i64.wrap (s28 + (IntKind.i64.wrap s2))).tmod (s8.length : Int)) s8.length) (.ck (inR ((IntKind.i64.wrap (s28 + (IntKind.i64.wrap s2))).tmod (s8.length : Int)) s8.length) (.c1 (P14 N s7 (atI tS s8 ((IntKind.i64.wrap (s28 + (IntKind.i64.wrap s2))).tmod (s8.length : Int)))) (fun x1 => .c1 (P18o N s9 x1) (fun x2 => .leaf (.next (s1, s2, s7, s8, x2, s27, (IntKind.i64.wrap (s28 + 1)))))))))) (.leaf (.brk 0 (s1, s2, s7, s8, s9, s27, s28)))
noncomputable def L6_7 (N : Nat) (s1 : (List (Bs × (Int × (Bs × Bs))))) (s2 : Int) (s7 : ((List (Bs × (Int × (Bs × Bs)))) × (List (Bs × (Int × (Bs × Bs)))))) (s8 : (List Bs)) (s9 : (List (Bs × (Int × (Bs × Bs))))) (s27 : Int) (s28 : Int) : Option (Lp ((List (Bs × (Int × (Bs × Bs)))) × Int × ((List (Bs × (Int × (Bs × Bs)))) × (List (Bs × (Int × (Bs × Bs))))) × (List Bs) × (List (Bs × (Int × (Bs × Bs)))) × Int × Int) Bool) := (U6_7 N s1 s2 s7 s8 s9 s27 s28).eval
noncomputable def W6_7 (N : Nat) (x : ((List (Bs × (Int × (Bs × Bs)))) × Int × ((List (Bs × (Int × (Bs × Bs)))) × (List (Bs × (Int × (Bs × Bs))))) × (List Bs) × (List (Bs × (Int × (Bs × Bs)))) × Int × Int)) : Option (Lp ((List (Bs × (Int × (Bs × Bs)))) × Int × ((List (Bs × (Int × (Bs × Bs)))) × (List (Bs × (Int × (Bs × Bs))))) × (List Bs) × (List (Bs × (Int × (Bs × Bs)))) × Int × Int) Bool) := runLoop (fun x => L6_7 N x.1 x.2.1 x.2.2.1 x.2.2.2.1 x.2.2.2.2.1 x.2.2.2.2.2.1 x.2.2.2.2.2.2) N x
theorem WS6_7 (N : Nat) (x : (shTy l6_7).I) : ∀ o, W6_7 N x = some o → S Try.prog (.loop b6_7) (buildSt 56 l6_7 x) (stepZ (rdD Try.prog Try.f6 false) l6_7 (encO 56 l6_7 [0] (fun q => some (E6 q)) o)) :=
  fun o h => loop_S (l := l6_7) (step := fun x => L6_7 N x.1 x.2.1 x.2.2.1 x.2.2.2.1 x.2.2.2.2.1 x.2.2.2.2.2.1 x.2.2.2.2.2.2) (fun x o h => wpc_sound (tbl := []) (μ := [24, 44]) mixed _ _ _ (by
    have h1 := Vt.sound _ h
    refine Eq.mp ?_ h1
    kernel_rfl)) N x o h
noncomputable def V6 (N : Nat) (a0 : (List (Bs × (Int × (Bs × Bs))))) (a1 : (List (Bs × (Int × (Bs × Bs))))) (a2 : Int) : Vt Bool (Option D) (fun q => some (E6 q)) :=
  .c1 (P10 N a0) (fun x1 => .br (!x1) (.c1 (P11 N) (fun x2 => .leaf x2)) (.c1 (P10 N a1) (fun x3 => .br (!x3) (.c1 (P11 N) (fun x4 => .leaf x4)) (.c1 (P13 N a0 a1) (fun x5 => .c1 (P21o N x5) (fun x6 => .f1 (l := l6_7) (o := W6_7 N (a1, a2, x5, x6, a0, (x6.length : Int), 0)) (WS6_7 N (a1, a2, x5, x6, a0, (x6.length : Int), 0)) (fun x7 => .c1 (P12o N x7.2.2.2.2.1) (fun x8 => .c1 (P23 N x8) (fun x9 => .c1 (P12o N x7.1) (fun x10 => .c1 (P23 N x10) (fun x11 => .c1 (P15 N x9 x11) (fun x12 => .br x12 (.c1 (P11 N) (fun x13 => .leaf x13)) (.leaf false)))))))))))))
noncomputable def F6 (N : Nat) (a0 : (List (Bs × (Int × (Bs × Bs))))) (a1 : (List (Bs × (Int × (Bs × Bs))))) (a2 : Int) : Option Bool := (V6 N a0 a1 a2).eval
def t6 : List (Nat × List Nat × List (Nat × Sh)) := [(7, [0], l6_7)]
theorem P6 (N : Nat) (a0 : (List (Bs × (Int × (Bs × Bs))))) (a1 : (List (Bs × (Int × (Bs × Bs))))) (a2 : Int) : ∀ r, F6 N a0 a1 a2 = some r → Spec Try.prog 6 [.val (.list (.pair tS (.pair tI (.pair tS tS)))) a0, .val (.list (.pair tS (.pair tI (.pair tS tS)))) a1, .val (.int .u8) a2] (E6 r) := fun r h => Spec_of (fn := Try.f6) rfl rfl rfl rfl false (wpc_sound (tbl := t6) (μ := [24, 44, 47, 50]) mixed _ _ _ (by
  have h1 := Vt.sound _ h
  refine Eq.mp ?_ h1
  kernel_rfl))

/-! ferryslip/ferrysliplaw16.PatchTwice -/
def E7 : Bool → D := fun x => encV tB x
noncomputable def V7 (N : Nat) (a0 : (List (Bs × (Int × (Bs × Bs))))) (a1 : ((List (Bs × (Int × (Bs × Bs)))) × (List (Bs × (Int × (Bs × Bs)))))) : Vt Bool (Option D) (fun q => some (E7 q)) :=
  .c1 (P10 N a0) (fun x1 => .br (!x1) (.c1 (P11 N) (fun x2 => .leaf x2)) (.c1 (P10 N a1.1) (fun x3 => .br (!x3) (.c1 (P11 N) (fun x4 => .leaf x4)) (.c1 (P10 N a1.2) (fun x5 => .br (!x5) (.c1 (P11 N) (fun x6 => .leaf x6)) (.c1 (P18o N a0 a1) (fun x7 => .c1 (P18o N x7 a1) (fun x8 => .c1 (P13 N a0 a0) (fun x9 => .c1 (P12o N x7) (fun x10 => .c1 (P12o N x8) (fun x11 => .c1 (P15 N x10 x11) (fun x12 => .br x12 (.br ((IntKind.i64.wrap ((x9.1.length : Int) + (x9.2.length : Int))) == 0) (.c1 (P11 N) (fun x13 => .leaf x13)) (.leaf false)) (.leaf false)))))))))))))
noncomputable def F7 (N : Nat) (a0 : (List (Bs × (Int × (Bs × Bs))))) (a1 : ((List (Bs × (Int × (Bs × Bs)))) × (List (Bs × (Int × (Bs × Bs)))))) : Option Bool := (V7 N a0 a1).eval
def t7 : List (Nat × List Nat × List (Nat × Sh)) := []
theorem P7 (N : Nat) (a0 : (List (Bs × (Int × (Bs × Bs))))) (a1 : ((List (Bs × (Int × (Bs × Bs)))) × (List (Bs × (Int × (Bs × Bs)))))) : ∀ r, F7 N a0 a1 = some r → Spec Try.prog 7 [.val (.list (.pair tS (.pair tI (.pair tS tS)))) a0, .agg [.val (.list (.pair tS (.pair tI (.pair tS tS)))) a1.1, .val (.list (.pair tS (.pair tI (.pair tS tS)))) a1.2]] (E7 r) := fun r h => Spec_of (fn := Try.f7) rfl rfl rfl rfl false (wpc_sound (tbl := t7) (μ := [26, 29, 34, 36]) mixed _ _ _ (by
  have h1 := Vt.sound _ h
  refine Eq.mp ?_ h1
  kernel_rfl))

/-! ferryslip/ferrysliplaw16.PatchChain -/
def E8 : Bool → D := fun x => encV tB x
noncomputable def V8 (N : Nat) (a0 : (List (Bs × (Int × (Bs × Bs))))) (a1 : (List (Bs × (Int × (Bs × Bs))))) (a2 : (List (Bs × (Int × (Bs × Bs))))) : Vt Bool (Option D) (fun q => some (E8 q)) :=
  .c1 (P10 N a0) (fun x1 => .br (!x1) (.c1 (P11 N) (fun x2 => .leaf x2)) (.c1 (P10 N a1) (fun x3 => .br (!x3) (.c1 (P11 N) (fun x4 => .leaf x4)) (.c1 (P10 N a2) (fun x5 => .br (!x5) (.c1 (P11 N) (fun x6 => .leaf x6)) (.c1 (P13 N a0 a1) (fun x7 => .c1 (P18o N a0 x7) (fun x8 => .c1 (P13 N a1 a2) (fun x9 => .c1 (P18o N x8 x9) (fun x10 => .c1 (P13 N a0 a2) (fun x11 => .c1 (P18o N a0 x11) (fun x12 => .c1 (P12o N x10) (fun x13 => .c1 (P12o N x12) (fun x14 => .c1 (P15 N x13 x14) (fun x15 => .br x15 (.c1 (P11 N) (fun x16 => .leaf x16)) (.leaf false))))))))))))))))
noncomputable def F8 (N : Nat) (a0 : (List (Bs × (Int × (Bs × Bs))))) (a1 : (List (Bs × (Int × (Bs × Bs))))) (a2 : (List (Bs × (Int × (Bs × Bs))))) : Option Bool := (V8 N a0 a1 a2).eval
def t8 : List (Nat × List Nat × List (Nat × Sh)) := []
theorem P8 (N : Nat) (a0 : (List (Bs × (Int × (Bs × Bs))))) (a1 : (List (Bs × (Int × (Bs × Bs))))) (a2 : (List (Bs × (Int × (Bs × Bs))))) : ∀ r, F8 N a0 a1 a2 = some r → Spec Try.prog 8 [.val (.list (.pair tS (.pair tI (.pair tS tS)))) a0, .val (.list (.pair tS (.pair tI (.pair tS tS)))) a1, .val (.list (.pair tS (.pair tI (.pair tS tS)))) a2] (E8 r) := fun r h => Spec_of (fn := Try.f8) rfl rfl rfl rfl false (wpc_sound (tbl := t8) (μ := [27, 31, 36, 38, 40]) mixed _ _ _ (by
  have h1 := Vt.sound _ h
  refine Eq.mp ?_ h1
  kernel_rfl))

/-! ferryslip/ferrysliplaw16.PatchParts -/
def E9 : Bool → D := fun x => encV tB x
abbrev l9_6 : List (Nat × Sh) := [(1, .cel false 1 24 (.pair (.list (.pair tS (.pair tI (.pair tS tS)))) (.list (.pair tS (.pair tI (.pair tS tS)))))), (3, .val tI), (4, .val tI), (5, .val tS), (21, .row false 21 9 tS), (22, .val tI), (23, .val tI)]
noncomputable def b9_6 : Code := loopBody 6 (bodyOf Try.f9)
noncomputable def U9_6 (N : Nat) (s1 : ((List (Bs × (Int × (Bs × Bs)))) × (List (Bs × (Int × (Bs × Bs)))))) (s3 : Int) (s4 : Int) (s5 : Bs) (s21 : (List Bs)) (s22 : Int) (s23 : Int) : Vt (Lp (shTy l9_6).I Bool) (O3 (Option D)) (encO 75 l9_6 [0] (fun q => some (E9 q))) :=
  .br (decide (s23 < s22)) (.ck (inR s23 s21.length) (.ck (inR s23 s21.length) (.c1 (P14 N s1 (atI tS s21 s23)) (fun x1 => .br (decide ((0 : Int) < s23)) (.br ((Op.bytesLess (atI tS s21 s23) s5) || ((atI tS s21 s23) == s5)) (.leaf (.ret false)) (.br ((IntKind.i64.wrap ((x1.1.length : Int) + (x1.2.length : Int))) == 0) (.leaf (.ret false)) (.leaf (.next (s1, (IntKind.i64.wrap (s3 + (x1.1.length : Int))), (IntKind.i64.wrap (s4 + (x1.2.length : Int))), (atI tS s21 s23), s21, s22, (IntKind.i64.wrap (s23 + 1))))))) (.br ((IntKind.i64.wrap ((x1.1.length : Int) + (x1.2.length : Int))) == 0) (.leaf (.ret false)) (.leaf (.next (s1, (IntKind.i64.wrap (s3 + (x1.1.length : Int))), (IntKind.i64.wrap (s4 + (x1.2.length : Int))), (atI tS s21 s23), s21, s22, (IntKind.i64.wrap (s23 + 1)))))))))) (.leaf (.brk 0 (s1, s3, s4, s5, s21, s22, s23)))
noncomputable def L9_6 (N : Nat) (s1 : ((List (Bs × (Int × (Bs × Bs)))) × (List (Bs × (Int × (Bs × Bs)))))) (s3 : Int) (s4 : Int) (s5 : Bs) (s21 : (List Bs)) (s22 : Int) (s23 : Int) : Option (Lp (((List (Bs × (Int × (Bs × Bs)))) × (List (Bs × (Int × (Bs × Bs))))) × Int × Int × Bs × (List Bs) × Int × Int) Bool) := (U9_6 N s1 s3 s4 s5 s21 s22 s23).eval
noncomputable def W9_6 (N : Nat) (x : (((List (Bs × (Int × (Bs × Bs)))) × (List (Bs × (Int × (Bs × Bs))))) × Int × Int × Bs × (List Bs) × Int × Int)) : Option (Lp (((List (Bs × (Int × (Bs × Bs)))) × (List (Bs × (Int × (Bs × Bs))))) × Int × Int × Bs × (List Bs) × Int × Int) Bool) := runLoop (fun x => L9_6 N x.1 x.2.1 x.2.2.1 x.2.2.2.1 x.2.2.2.2.1 x.2.2.2.2.2.1 x.2.2.2.2.2.2) N x
theorem WS9_6 (N : Nat) (x : (shTy l9_6).I) : ∀ o, W9_6 N x = some o → S Try.prog (.loop b9_6) (buildSt 75 l9_6 x) (stepZ (rdD Try.prog Try.f9 false) l9_6 (encO 75 l9_6 [0] (fun q => some (E9 q)) o)) :=
  fun o h => loop_S (l := l9_6) (step := fun x => L9_6 N x.1 x.2.1 x.2.2.1 x.2.2.2.1 x.2.2.2.2.1 x.2.2.2.2.2.1 x.2.2.2.2.2.2) (fun x o h => wpc_sound (tbl := []) (μ := [21]) mixed _ _ _ (by
    have h1 := Vt.sound _ h
    refine Eq.mp ?_ h1
    kernel_rfl)) N x o h
noncomputable def V9 (N : Nat) (a0 : ((List (Bs × (Int × (Bs × Bs)))) × (List (Bs × (Int × (Bs × Bs)))))) : Vt Bool (Option D) (fun q => some (E9 q)) :=
  .c1 (P10 N a0.1) (fun x1 => .br (!x1) (.c1 (P11 N) (fun x2 => .leaf x2)) (.c1 (P10 N a0.2) (fun x3 => .br (!x3) (.c1 (P11 N) (fun x4 => .leaf x4)) (.c1 (P21o N a0) (fun x5 => .f1 (l := l9_6) (o := W9_6 N (a0, 0, 0, ([] : Bs), x5, (x5.length : Int), 0)) (WS9_6 N (a0, 0, 0, ([] : Bs), x5, (x5.length : Int), 0)) (fun x6 => .br (x6.2.1 == (x6.1.1.length : Int)) (.br (x6.2.2.1 == (x6.1.2.length : Int)) (.c1 (P11 N) (fun x7 => .leaf x7)) (.leaf false)) (.leaf false)))))))
noncomputable def F9 (N : Nat) (a0 : ((List (Bs × (Int × (Bs × Bs)))) × (List (Bs × (Int × (Bs × Bs)))))) : Option Bool := (V9 N a0).eval
def t9 : List (Nat × List Nat × List (Nat × Sh)) := [(6, [0], l9_6)]
theorem P9 (N : Nat) (a0 : ((List (Bs × (Int × (Bs × Bs)))) × (List (Bs × (Int × (Bs × Bs)))))) : ∀ r, F9 N a0 = some r → Spec Try.prog 9 [.agg [.val (.list (.pair tS (.pair tI (.pair tS tS)))) a0.1, .val (.list (.pair tS (.pair tI (.pair tS tS)))) a0.2]] (E9 r) := fun r h => Spec_of (fn := Try.f9) rfl rfl rfl rfl false (wpc_sound (tbl := t9) (μ := [21]) mixed _ _ _ (by
  have h1 := Vt.sound _ h
  refine Eq.mp ?_ h1
  kernel_rfl))

end Go.Proofs.Ytnkinnhgahpcoaa.Vc
