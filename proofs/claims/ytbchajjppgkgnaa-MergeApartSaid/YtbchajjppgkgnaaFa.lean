/-
  WHAT THE FUNCTIONS DO WITH DATA, printed by a program from the translation. No condition.
-/
import Derived.Test.YtbchajjppgkgnaaDl
import Derived.Test.YtbchajjppgkgnaaRv
import Derived.Test.YtbchajjppgkgnaaCs
set_option linter.unusedVariables false
set_option linter.unusedSimpArgs false
set_option maxRecDepth 100000
namespace Go.Proofs.Ytbchajjppgkgnaa.Vc
open Go.RowKit

/-! ferryslip/ferryslipref03.Small -/
def E21 : Bool → D := fun x => encV tB x
abbrev l21_4 : List (Nat × Sh) := [(0, .val (.list tLn)), (3, .val tI)]
noncomputable def b21_4 : Code := loopBody 4 (bodyOf Try.f21)
noncomputable def U21_4 (N : Nat) (s0 : (List Ln)) (s3 : Int) : Vt (Lp (shTy l21_4).I Bool) (O3 (Option D)) (encO 20 l21_4 [0] (fun q => some (E21 q))) :=
  .br (decide (s3 < (s0.length : Int))) (.ck (inR s3 s0.length) (.br (decide ((100 : Int) < (((atI tLn s0 s3).2.1).length : Int))) (.leaf (.ret false)) (.leaf (.next (s0, (IntKind.i64.wrap (s3 + 1))))))) (.leaf (.brk 0 (s0, s3)))
noncomputable def L21_4 (N : Nat) (s0 : (List Ln)) (s3 : Int) : Option (Lp ((List Ln) × Int) Bool) := (U21_4 N s0 s3).eval
noncomputable def W21_4 (N : Nat) (x : ((List Ln) × Int)) : Option (Lp ((List Ln) × Int) Bool) := runLoop (fun x => L21_4 N x.1 x.2) N x
theorem WS21_4 (N : Nat) (x : (shTy l21_4).I) : ∀ o, W21_4 N x = some o → S Try.prog (.loop b21_4) (buildSt 20 l21_4 x) (stepZ (rdD Try.prog Try.f21 false) l21_4 (encO 20 l21_4 [0] (fun q => some (E21 q)) o)) :=
  fun o h => loop_S (l := l21_4) (step := fun x => L21_4 N x.1 x.2) (fun x o h => wpc_sound (tbl := []) (μ := []) mixed _ _ _ (by
    have h1 := Vt.sound _ h
    refine Eq.mp ?_ h1
    kernel_rfl)) N x o h
noncomputable def V21 (N : Nat) (a0 : (List Ln)) : Vt Bool (Option D) (fun q => some (E21 q)) :=
  .br (decide ((220 : Int) < (a0.length : Int))) (.leaf false) (.f1 (l := l21_4) (o := W21_4 N (a0, 0)) (WS21_4 N (a0, 0)) (fun x1 => .leaf true))
noncomputable def F21 (N : Nat) (a0 : (List Ln)) : Option Bool := (V21 N a0).eval
def t21 : List (Nat × List Nat × List (Nat × Sh)) := [(4, [0], l21_4)]
theorem P21 (N : Nat) (a0 : (List Ln)) : ∀ r, F21 N a0 = some r → Spec Try.prog 21 [.val (.list tLn) a0] (E21 r) := fun r h => Spec_of (fn := Try.f21) rfl rfl rfl rfl false (wpc_sound (tbl := t21) (μ := []) mixed _ _ _ (by
  have h1 := Vt.sound _ h
  refine Eq.mp ?_ h1
  kernel_rfl))

/-! ferryslip/ferrysliplaw09.few -/
def E9 : Bool → D := fun x => encV tB x
noncomputable def V9 (N : Nat) (a0 : (List Ln)) (a1 : (List Ln)) (a2 : (List Ln)) : Vt Bool (Option D) (fun q => some (E9 q)) :=
  .br (decide ((a0.length : Int) ≤ 30)) (.br (decide ((a1.length : Int) ≤ 30)) (.br (decide ((a2.length : Int) ≤ 30)) (.c1 (P21 N a0) (fun x1 => .br x1 (.c1 (P21 N a1) (fun x2 => .br x2 (.c1 (P21 N a2) (fun x3 => .leaf x3)) (.leaf false))) (.leaf false))) (.leaf false)) (.leaf false)) (.leaf false)
noncomputable def F9 (N : Nat) (a0 : (List Ln)) (a1 : (List Ln)) (a2 : (List Ln)) : Option Bool := (V9 N a0 a1 a2).eval
def t9 : List (Nat × List Nat × List (Nat × Sh)) := []
theorem P9 (N : Nat) (a0 : (List Ln)) (a1 : (List Ln)) (a2 : (List Ln)) : ∀ r, F9 N a0 a1 a2 = some r → Spec Try.prog 9 [.val (.list tLn) a0, .val (.list tLn) a1, .val (.list tLn) a2] (E9 r) := fun r h => Spec_of (fn := Try.f9) rfl rfl rfl rfl false (wpc_sound (tbl := t9) (μ := []) mixed _ _ _ (by
  have h1 := Vt.sound _ h
  refine Eq.mp ?_ h1
  kernel_rfl))

/-! ferryslip/tree.sound -/
def E29 : Bool → D := fun x => encV tB x
noncomputable def V29 (N : Nat) (a0 : Ln) : Vt Bool (Option D) (fun q => some (E29 q)) :=
  .br (decide ((0 : Int) ≤ a0.1)) (.br (decide (a0.1 < 16)) (.br (decide ((a0.2.1.length : Int) ≤ 40)) (.br (decide ((0 : Int) ≤ a0.2.2)) (.leaf (decide (a0.2.2 ≤ 3))) (.leaf false)) (.leaf false)) (.leaf false)) (.leaf false)
noncomputable def F29 (N : Nat) (a0 : Ln) : Option Bool := (V29 N a0).eval
def t29 : List (Nat × List Nat × List (Nat × Sh)) := []
theorem P29 (N : Nat) (a0 : Ln) : ∀ r, F29 N a0 = some r → Spec Try.prog 29 [.agg [.val tI a0.1, .val tS a0.2.1, .val tI a0.2.2]] (E29 r) := fun r h => Spec_of (fn := Try.f29) rfl rfl rfl rfl false (wpc_sound (tbl := t29) (μ := []) mixed _ _ _ (by
  have h1 := Vt.sound _ h
  refine Eq.mp ?_ h1
  kernel_rfl))

/-! ferryslip/tree.Right -/
def E16 : Bool → D := fun x => encV tB x
abbrev l16_6 : List (Nat × Sh) := [(3, .arr 3 tS), (4, .val tI), (10, .val (.list tLn)), (11, .val tI), (12, .val tI)]
noncomputable def b16_6 : Code := loopBody 6 (bodyOf Try.f16)
noncomputable def U16_6 (N : Nat) (s3 : (List Bs)) (s4 : Int) (s10 : (List Ln)) (s11 : Int) (s12 : Int) : Vt (Lp (shTy l16_6).I Bool) (O3 (Option D)) (encO 48 l16_6 [0] (fun q => some (E16 q))) :=
  .br (decide (s12 < s11)) (.ck (inR s12 s10.length) (.c1 (P29 N (atI tLn s10 s12)) (fun x1 => .br (!x1) (.leaf (.ret false)) (.br (decide ((IntKind.i64.wrap (s4 + 1)) < ((atI tLn s10 s12).1))) (.leaf (.ret false)) (.br (decide (((atI tLn s10 s12).1) ≤ s4)) (.ck (inR ((atI tLn s10 s12).1) 16) (.ck (s3.length = 16) (.ck (inR ((atI tLn s10 s12).1) s3.length) (.br ((Op.bytesLess ((atI tLn s10 s12).2.1) (atI tS s3 ((atI tLn s10 s12).1))) || (((atI tLn s10 s12).2.1) == (atI tS s3 ((atI tLn s10 s12).1)))) (.leaf (.ret false)) (.ck (inR ((atI tLn s10 s12).1) 16) (.ck (s3.length = 16) (.ck (inR ((atI tLn s10 s12).1) s3.length) (.leaf (.next ((s3.set ((atI tLn s10 s12).1).toNat ((atI tLn s10 s12).2.1)), (atI tLn s10 s12).1, s10, s11, (IntKind.i64.wrap (s12 + 1)))))))))))) (.ck (inR ((atI tLn s10 s12).1) 16) (.ck (s3.length = 16) (.ck (inR ((atI tLn s10 s12).1) s3.length) (.leaf (.next ((s3.set ((atI tLn s10 s12).1).toNat ((atI tLn s10 s12).2.1)), (atI tLn s10 s12).1, s10, s11, (IntKind.i64.wrap (s12 + 1))))))))))))) (.leaf (.brk 0 (s3, s4, s10, s11, s12)))
noncomputable def L16_6 (N : Nat) (s3 : (List Bs)) (s4 : Int) (s10 : (List Ln)) (s11 : Int) (s12 : Int) : Option (Lp ((List Bs) × Int × (List Ln) × Int × Int) Bool) := (U16_6 N s3 s4 s10 s11 s12).eval
noncomputable def W16_6 (N : Nat) (x : ((List Bs) × Int × (List Ln) × Int × Int)) : Option (Lp ((List Bs) × Int × (List Ln) × Int × Int) Bool) := runLoop (fun x => L16_6 N x.1 x.2.1 x.2.2.1 x.2.2.2.1 x.2.2.2.2) N x
theorem WS16_6 (N : Nat) (x : (shTy l16_6).I) : ∀ o, W16_6 N x = some o → S Try.prog (.loop b16_6) (buildSt 48 l16_6 x) (stepZ (rdD Try.prog Try.f16 false) l16_6 (encO 48 l16_6 [0] (fun q => some (E16 q)) o)) :=
  fun o h => loop_S (l := l16_6) (step := fun x => L16_6 N x.1 x.2.1 x.2.2.1 x.2.2.2.1 x.2.2.2.2) (fun x o h => wpc_sound (tbl := []) (μ := []) mixed _ _ _ (by
    have h1 := Vt.sound _ h
    refine Eq.mp ?_ h1
    kernel_rfl)) N x o h
noncomputable def V16 (N : Nat) (a0 : (List Ln)) : Vt Bool (Option D) (fun q => some (E16 q)) :=
  .br (decide ((200 : Int) < (a0.length : Int))) (.leaf false) (.f1 (l := l16_6) (o := W16_6 N (([([] : Bs), ([] : Bs), ([] : Bs), ([] : Bs), ([] : Bs), ([] : Bs), ([] : Bs), ([] : Bs), ([] : Bs), ([] : Bs), ([] : Bs), ([] : Bs), ([] : Bs), ([] : Bs), ([] : Bs), ([] : Bs)] : (List Bs)), (-1), a0, (a0.length : Int), 0)) (WS16_6 N (([([] : Bs), ([] : Bs), ([] : Bs), ([] : Bs), ([] : Bs), ([] : Bs), ([] : Bs), ([] : Bs), ([] : Bs), ([] : Bs), ([] : Bs), ([] : Bs), ([] : Bs), ([] : Bs), ([] : Bs), ([] : Bs)] : (List Bs)), (-1), a0, (a0.length : Int), 0)) (fun x1 => .leaf true))
noncomputable def F16 (N : Nat) (a0 : (List Ln)) : Option Bool := (V16 N a0).eval
def t16 : List (Nat × List Nat × List (Nat × Sh)) := [(6, [0], l16_6)]
theorem P16 (N : Nat) (a0 : (List Ln)) : ∀ r, F16 N a0 = some r → Spec Try.prog 16 [.val (.list tLn) a0] (E16 r) := fun r h => Spec_of (fn := Try.f16) rfl rfl rfl rfl false (wpc_sound (tbl := t16) (μ := []) mixed _ _ _ (by
  have h1 := Vt.sound _ h
  refine Eq.mp ?_ h1
  kernel_rfl))

/-! ferryslip/tree.there -/
def E30 : Bool → D := fun x => encV tB x
noncomputable def V30 (N : Nat) (a0 : (List Ln)) (a1 : Int) : Vt Bool (Option D) (fun q => some (E30 q)) :=
  .br (decide ((0 : Int) ≤ a1)) (.br (decide (a1 < (a0.length : Int))) (.c1 (P16 N a0) (fun x1 => .leaf x1)) (.leaf false)) (.leaf false)
noncomputable def F30 (N : Nat) (a0 : (List Ln)) (a1 : Int) : Option Bool := (V30 N a0 a1).eval
def t30 : List (Nat × List Nat × List (Nat × Sh)) := []
theorem P30 (N : Nat) (a0 : (List Ln)) (a1 : Int) : ∀ r, F30 N a0 a1 = some r → Spec Try.prog 30 [.val (.list tLn) a0, .val tI a1] (E30 r) := fun r h => Spec_of (fn := Try.f30) rfl rfl rfl rfl false (wpc_sound (tbl := t30) (μ := []) mixed _ _ _ (by
  have h1 := Vt.sound _ h
  refine Eq.mp ?_ h1
  kernel_rfl))

/-! ferryslip/tree.Under -/
def E31 : Int → D := fun x => encV tI x
abbrev l31_4 : List (Nat × Sh) := [(0, .val (.list tLn)), (1, .val tI), (5, .val tI)]
noncomputable def b31_4 : Code := loopBody 4 (bodyOf Try.f31)
noncomputable def U31_4 (N : Nat) (s0 : (List Ln)) (s1 : Int) (s5 : Int) : Vt (Lp (shTy l31_4).I Int) (O3 (Option D)) (encO 29 l31_4 [0] (fun q => some (E31 q))) :=
  .br (decide ((0 : Int) ≤ s5)) (.ck (inR s5 s0.length) (.ck (inR s1 s0.length) (.br (decide (((atI tLn s0 s1).1) ≤ ((atI tLn s0 s5).1))) (.leaf (.next (s0, s1, (IntKind.i64.wrap (s5 - 1))))) (.leaf (.brk 0 (s0, s1, s5)))))) (.leaf (.brk 0 (s0, s1, s5)))
noncomputable def L31_4 (N : Nat) (s0 : (List Ln)) (s1 : Int) (s5 : Int) : Option (Lp ((List Ln) × Int × Int) Int) := (U31_4 N s0 s1 s5).eval
noncomputable def W31_4 (N : Nat) (x : ((List Ln) × Int × Int)) : Option (Lp ((List Ln) × Int × Int) Int) := runLoop (fun x => L31_4 N x.1 x.2.1 x.2.2) N x
theorem WS31_4 (N : Nat) (x : (shTy l31_4).I) : ∀ o, W31_4 N x = some o → S Try.prog (.loop b31_4) (buildSt 29 l31_4 x) (stepZ (rdD Try.prog Try.f31 false) l31_4 (encO 29 l31_4 [0] (fun q => some (E31 q)) o)) :=
  fun o h => loop_S (l := l31_4) (step := fun x => L31_4 N x.1 x.2.1 x.2.2) (fun x o h => wpc_sound (tbl := []) (μ := []) mixed _ _ _ (by
    have h1 := Vt.sound _ h
    refine Eq.mp ?_ h1
    kernel_rfl)) N x o h
noncomputable def V31 (N : Nat) (a0 : (List Ln)) (a1 : Int) : Vt Int (Option D) (fun q => some (E31 q)) :=
  .c1 (P30 N a0 a1) (fun x1 => .br (!x1) (.leaf (-1)) (.f1 (l := l31_4) (o := W31_4 N (a0, a1, a1)) (WS31_4 N (a0, a1, a1)) (fun x2 => .leaf x2.2.2)))
noncomputable def F31 (N : Nat) (a0 : (List Ln)) (a1 : Int) : Option Int := (V31 N a0 a1).eval
def t31 : List (Nat × List Nat × List (Nat × Sh)) := [(4, [0], l31_4)]
theorem P31 (N : Nat) (a0 : (List Ln)) (a1 : Int) : ∀ r, F31 N a0 a1 = some r → Spec Try.prog 31 [.val (.list tLn) a0, .val tI a1] (E31 r) := fun r h => Spec_of (fn := Try.f31) rfl rfl rfl rfl false (wpc_sound (tbl := t31) (μ := []) mixed _ _ _ (by
  have h1 := Vt.sound _ h
  refine Eq.mp ?_ h1
  kernel_rfl))

/-! ferryslip/tree.Path -/
def E17o : ((List Bs) × Int) → D := fun x => .tup [.own 9 tS x.1, encV tI x.2]
abbrev l17o_5 : List (Nat × Sh) := [(0, .val (.list tLn)), (6, .row false 25 9 tS), (7, .val tI)]
noncomputable def b17o_5 : Code := loopBody 5 (bodyOf Try.f17)
noncomputable def U17o_5 (N : Nat) (s0 : (List Ln)) (s6 : (List Bs)) (s7 : Int) : Vt (Lp (shTy l17o_5).I ((List Bs) × Int)) (O3 (Option D)) (encO 29 l17o_5 [0] (fun q => some (E17o q))) :=
  .br (decide ((0 : Int) ≤ s7)) (.ck (inR s7 s0.length) (.ck (room (s6.length + ([(atI tLn s0 s7).2.1] : (List Bs)).length)) (.c1 (P31 N s0 s7) (fun x1 => .leaf (.next (s0, (s6 ++ ([(atI tLn s0 s7).2.1] : (List Bs))), x1)))))) (.leaf (.brk 0 (s0, s6, s7)))
noncomputable def L17o_5 (N : Nat) (s0 : (List Ln)) (s6 : (List Bs)) (s7 : Int) : Option (Lp ((List Ln) × (List Bs) × Int) ((List Bs) × Int)) := (U17o_5 N s0 s6 s7).eval
noncomputable def W17o_5 (N : Nat) (x : ((List Ln) × (List Bs) × Int)) : Option (Lp ((List Ln) × (List Bs) × Int) ((List Bs) × Int)) := runLoop (fun x => L17o_5 N x.1 x.2.1 x.2.2) N x
theorem WS17o_5 (N : Nat) (x : (shTy l17o_5).I) : ∀ o, W17o_5 N x = some o → S Try.prog (.loop b17o_5) (buildSt 29 l17o_5 x) (stepZ (rdD Try.prog Try.f17 true) l17o_5 (encO 29 l17o_5 [0] (fun q => some (E17o q)) o)) :=
  fun o h => loop_S (l := l17o_5) (step := fun x => L17o_5 N x.1 x.2.1 x.2.2) (fun x o h => wpc_sound (tbl := []) (μ := []) mixed _ _ _ (by
    have h1 := Vt.sound _ h
    refine Eq.mp ?_ h1
    kernel_rfl)) N x o h
noncomputable def V17o (N : Nat) (a0 : (List Ln)) (a1 : Int) : Vt ((List Bs) × Int) (Option D) (fun q => some (E17o q)) :=
  .c1 (P30 N a0 a1) (fun x1 => .br (!x1) (.leaf (([] : (List Bs)), 1)) (.f1 (l := l17o_5) (o := W17o_5 N (a0, ([] : (List Bs)), a1)) (WS17o_5 N (a0, ([] : (List Bs)), a1)) (fun x1 => .cr (P32r N x1.2.1) (fun x2 => .leaf (x2, 0)))))
noncomputable def F17o (N : Nat) (a0 : (List Ln)) (a1 : Int) : Option ((List Bs) × Int) := (V17o N a0 a1).eval
def t17o : List (Nat × List Nat × List (Nat × Sh)) := [(5, [0], l17o_5)]
theorem P17o (N : Nat) (a0 : (List Ln)) (a1 : Int) : ∀ r, F17o N a0 a1 = some r → Spec Try.prog 17 [.val (.list tLn) a0, .val tI a1] (E17o r) := fun r h => Spec_of (fn := Try.f17) rfl rfl rfl rfl true (wpc_sound (tbl := t17o) (μ := [1000032]) mixed _ _ _ (by
  have h1 := Vt.sound _ h
  refine Eq.mp ?_ h1
  kernel_rfl))

/-! (ferryslip/merge.three).paths -/
def E23o : (List (List Bs)) → D := fun x => .own 36 (.list tS) x
abbrev l23o_6 : List (Nat × Sh) := [(3, .row false 35 36 (.list tS)), (5, .val (.list tLn)), (15, .row false 15 22 (.list tLn)), (16, .val tI), (17, .val tI), (22, .val tI), (23, .val tI)]
noncomputable def b23o_6 : Code := loopBody 6 (bodyOf Try.f23)
noncomputable def U23o_6 (N : Nat) (s3 : (List (List Bs))) (s5 : (List Ln)) (s15 : (List (List Ln))) (s16 : Int) (s17 : Int) (s22 : Int) (s23 : Int) : Vt (Lp (shTy l23o_6).I (List (List Bs))) (O3 (Option D)) (encO 42 l23o_6 [2] (fun q => some (E23o q))) :=
  .br (decide (s23 < s22)) (.c2 (P17o N s5 s23) (fun x1 x2 => .ck (room (s3.length + ([x1] : (List (List Bs))).length)) (.leaf (.next ((s3 ++ ([x1] : (List (List Bs)))), s5, s15, s16, s17, s22, (IntKind.i64.wrap (s23 + 1))))))) (.leaf (.brk 0 (s3, s5, s15, s16, s17, s22, s23)))
noncomputable def L23o_6 (N : Nat) (s3 : (List (List Bs))) (s5 : (List Ln)) (s15 : (List (List Ln))) (s16 : Int) (s17 : Int) (s22 : Int) (s23 : Int) : Option (Lp ((List (List Bs)) × (List Ln) × (List (List Ln)) × Int × Int × Int × Int) (List (List Bs))) := (U23o_6 N s3 s5 s15 s16 s17 s22 s23).eval
noncomputable def W23o_6 (N : Nat) (x : ((List (List Bs)) × (List Ln) × (List (List Ln)) × Int × Int × Int × Int)) : Option (Lp ((List (List Bs)) × (List Ln) × (List (List Ln)) × Int × Int × Int × Int) (List (List Bs))) := runLoop (fun x => L23o_6 N x.1 x.2.1 x.2.2.1 x.2.2.2.1 x.2.2.2.2.1 x.2.2.2.2.2.1 x.2.2.2.2.2.2) N x
theorem WS23o_6 (N : Nat) (x : (shTy l23o_6).I) : ∀ o, W23o_6 N x = some o → S Try.prog (.loop b23o_6) (buildSt 42 l23o_6 x) (stepZ (rdD Try.prog Try.f23 true) l23o_6 (encO 42 l23o_6 [2] (fun q => some (E23o q)) o)) :=
  fun o h => loop_S (l := l23o_6) (step := fun x => L23o_6 N x.1 x.2.1 x.2.2.1 x.2.2.2.1 x.2.2.2.2.1 x.2.2.2.2.2.1 x.2.2.2.2.2.2) (fun x o h => wpc_sound (tbl := []) (μ := [29]) mixed _ _ _ (by
    have h1 := Vt.sound _ h
    refine Eq.mp ?_ h1
    kernel_rfl)) N x o h
abbrev l23o_3 : List (Nat × Sh) := [(3, .row false 35 36 (.list tS)), (15, .row false 15 22 (.list tLn)), (16, .val tI), (17, .val tI)]
noncomputable def b23o_3 : Code := loopBody 3 (bodyOf Try.f23)
noncomputable def U23o_3 (N : Nat) (s3 : (List (List Bs))) (s15 : (List (List Ln))) (s16 : Int) (s17 : Int) : Vt (Lp (shTy l23o_3).I (List (List Bs))) (O3 (Option D)) (encO 42 l23o_3 [0] (fun q => some (E23o q))) :=
  .br (decide (s17 < s16)) (.ck (inR s17 s15.length) (.ck (inR s17 s15.length) (.g1 (l := l23o_6) (o := W23o_6 N (s3, (atI (.list tLn) s15 s17), s15, s16, s17, ((atI (.list tLn) s15 s17).length : Int), 0)) (WS23o_6 N (s3, (atI (.list tLn) s15 s17), s15, s16, s17, ((atI (.list tLn) s15 s17).length : Int), 0)) (fun x1 => .leaf (.next (x1.1, x1.2.2.1, x1.2.2.2.1, (IntKind.i64.wrap (x1.2.2.2.2.1 + 1)))))))) (.leaf (.brk 0 (s3, s15, s16, s17)))
noncomputable def L23o_3 (N : Nat) (s3 : (List (List Bs))) (s15 : (List (List Ln))) (s16 : Int) (s17 : Int) : Option (Lp ((List (List Bs)) × (List (List Ln)) × Int × Int) (List (List Bs))) := (U23o_3 N s3 s15 s16 s17).eval
noncomputable def W23o_3 (N : Nat) (x : ((List (List Bs)) × (List (List Ln)) × Int × Int)) : Option (Lp ((List (List Bs)) × (List (List Ln)) × Int × Int) (List (List Bs))) := runLoop (fun x => L23o_3 N x.1 x.2.1 x.2.2.1 x.2.2.2) N x
theorem WS23o_3 (N : Nat) (x : (shTy l23o_3).I) : ∀ o, W23o_3 N x = some o → S Try.prog (.loop b23o_3) (buildSt 42 l23o_3 x) (stepZ (rdD Try.prog Try.f23 true) l23o_3 (encO 42 l23o_3 [0] (fun q => some (E23o q)) o)) :=
  fun o h => loop_S (l := l23o_3) (step := fun x => L23o_3 N x.1 x.2.1 x.2.2.1 x.2.2.2) (fun x o h => wpc_sound (tbl := [(6, [2], l23o_6)]) (μ := [29]) mixed _ _ _ (by
    have h1 := Vt.sound _ h
    refine Eq.mp ?_ h1
    kernel_rfl)) N x o h
noncomputable def V23o (N : Nat) (a0 : ((List Ln) × ((List Ln) × (List Ln)))) : Vt (List (List Bs)) (Option D) (fun q => some (E23o q)) :=
  .f1 (l := l23o_3) (o := W23o_3 N (([] : (List (List Bs))), ([a0.1, a0.2.1, a0.2.2] : (List (List Ln))), (([a0.1, a0.2.1, a0.2.2] : (List (List Ln))).length : Int), 0)) (WS23o_3 N (([] : (List (List Bs))), ([a0.1, a0.2.1, a0.2.2] : (List (List Ln))), (([a0.1, a0.2.1, a0.2.2] : (List (List Ln))).length : Int), 0)) (fun x3 => .cr (P36rC37 N x3.1) (fun x4 => .cr (P39tC40 N x4) (fun x5 => .leaf x5)))
noncomputable def F23o (N : Nat) (a0 : ((List Ln) × ((List Ln) × (List Ln)))) : Option (List (List Bs)) := (V23o N a0).eval
def t23o : List (Nat × List Nat × List (Nat × Sh)) := [(6, [2], l23o_6), (3, [0], l23o_3)]
theorem P23o (N : Nat) (a0 : ((List Ln) × ((List Ln) × (List Ln)))) : ∀ r, F23o N a0 = some r → Spec Try.prog 23 [.agg [.val (.list tLn) a0.1, .val (.list tLn) a0.2.1, .val (.list tLn) a0.2.2]] (E23o r) := fun r h => Spec_of (fn := Try.f23) rfl rfl rfl rfl true (wpc_sound (tbl := t23o) (μ := [29, 41, 1000036, 2000039]) mixed _ _ _ (by
  have h1 := Vt.sound _ h
  refine Eq.mp ?_ h1
  kernel_rfl))

/-! ferryslip/tree.Find -/
def E18 : (Int × Bool) → D := fun x => .tup [encV tI x.1, encV tB x.2]
abbrev l18_5 : List (Nat × Sh) := [(1, .val (.list tS)), (6, .val tI), (22, .val (.list tLn)), (23, .val tI), (24, .val tI)]
noncomputable def b18_5 : Code := loopBody 5 (bodyOf Try.f18)
noncomputable def U18_5 (N : Nat) (s1 : (List Bs)) (s6 : Int) (s22 : (List Ln)) (s23 : Int) (s24 : Int) : Vt (Lp (shTy l18_5).I (Int × Bool)) (O3 (Option D)) (encO 58 l18_5 [0] (fun q => some (E18 q))) :=
  .br (decide (s24 < s23)) (.ck (inR s24 s22.length) (.br (decide (((atI tLn s22 s24).1) < s6)) (.leaf (.ret (0, false))) (.br (decide (s6 < ((atI tLn s22 s24).1))) (.leaf (.next (s1, s6, s22, s23, (IntKind.i64.wrap (s24 + 1))))) (.ck (inR s6 s1.length) (.br (!(((atI tLn s22 s24).2.1) == (atI tS s1 s6))) (.leaf (.next (s1, s6, s22, s23, (IntKind.i64.wrap (s24 + 1))))) (.br (s6 == (IntKind.i64.wrap ((s1.length : Int) - 1))) (.leaf (.ret (s24, true))) (.leaf (.next (s1, (IntKind.i64.wrap (s6 + 1)), s22, s23, (IntKind.i64.wrap (s24 + 1))))))))))) (.leaf (.brk 0 (s1, s6, s22, s23, s24)))
noncomputable def L18_5 (N : Nat) (s1 : (List Bs)) (s6 : Int) (s22 : (List Ln)) (s23 : Int) (s24 : Int) : Option (Lp ((List Bs) × Int × (List Ln) × Int × Int) (Int × Bool)) := (U18_5 N s1 s6 s22 s23 s24).eval
noncomputable def W18_5 (N : Nat) (x : ((List Bs) × Int × (List Ln) × Int × Int)) : Option (Lp ((List Bs) × Int × (List Ln) × Int × Int) (Int × Bool)) := runLoop (fun x => L18_5 N x.1 x.2.1 x.2.2.1 x.2.2.2.1 x.2.2.2.2) N x
theorem WS18_5 (N : Nat) (x : (shTy l18_5).I) : ∀ o, W18_5 N x = some o → S Try.prog (.loop b18_5) (buildSt 58 l18_5 x) (stepZ (rdD Try.prog Try.f18 false) l18_5 (encO 58 l18_5 [0] (fun q => some (E18 q)) o)) :=
  fun o h => loop_S (l := l18_5) (step := fun x => L18_5 N x.1 x.2.1 x.2.2.1 x.2.2.2.1 x.2.2.2.2) (fun x o h => wpc_sound (tbl := []) (μ := []) mixed _ _ _ (by
    have h1 := Vt.sound _ h
    refine Eq.mp ?_ h1
    kernel_rfl)) N x o h
noncomputable def V18 (N : Nat) (a0 : (List Ln)) (a1 : (List Bs)) : Vt (Int × Bool) (Option D) (fun q => some (E18 q)) :=
  .c1 (P16 N a0) (fun x1 => .br (!x1) (.leaf (0, false)) (.br ((a1.length : Int) == 0) (.leaf (0, false)) (.br (decide ((16 : Int) < (a1.length : Int))) (.leaf (0, false)) (.f1 (l := l18_5) (o := W18_5 N (a1, 0, a0, (a0.length : Int), 0)) (WS18_5 N (a1, 0, a0, (a0.length : Int), 0)) (fun x2 => .leaf (0, false))))))
noncomputable def F18 (N : Nat) (a0 : (List Ln)) (a1 : (List Bs)) : Option (Int × Bool) := (V18 N a0 a1).eval
def t18 : List (Nat × List Nat × List (Nat × Sh)) := [(5, [0], l18_5)]
theorem P18 (N : Nat) (a0 : (List Ln)) (a1 : (List Bs)) : ∀ r, F18 N a0 a1 = some r → Spec Try.prog 18 [.val (.list tLn) a0, .val (.list tS) a1] (E18 r) := fun r h => Spec_of (fn := Try.f18) rfl rfl rfl rfl false (wpc_sound (tbl := t18) (μ := []) mixed _ _ _ (by
  have h1 := Vt.sound _ h
  refine Eq.mp ?_ h1
  kernel_rfl))

/-! ferryslip/merge.state -/
def E42 : Int → D := fun x => encV tI x
noncomputable def V42 (N : Nat) (a0 : (List Ln)) (a1 : (List Bs)) : Vt Int (Option D) (fun q => some (E42 q)) :=
  .c2 (P18 N a0 a1) (fun x1 x2 => .br (!x2) (.leaf (-1)) (.ck (inR x1 a0.length) (.leaf ((atI tLn a0 x1).2.2))))
noncomputable def F42 (N : Nat) (a0 : (List Ln)) (a1 : (List Bs)) : Option Int := (V42 N a0 a1).eval
def t42 : List (Nat × List Nat × List (Nat × Sh)) := []
theorem P42 (N : Nat) (a0 : (List Ln)) (a1 : (List Bs)) : ∀ r, F42 N a0 a1 = some r → Spec Try.prog 42 [.val (.list tLn) a0, .val (.list tS) a1] (E42 r) := fun r h => Spec_of (fn := Try.f42) rfl rfl rfl rfl false (wpc_sound (tbl := t42) (μ := []) mixed _ _ _ (by
  have h1 := Vt.sound _ h
  refine Eq.mp ?_ h1
  kernel_rfl))

/-! (ferryslip/merge.three).decided -/
def E25 : Int → D := fun x => encV tI x
noncomputable def V25 (N : Nat) (a0 : ((List Ln) × ((List Ln) × (List Ln)))) (a1 : (List Bs)) : Vt Int (Option D) (fun q => some (E25 q)) :=
  .c1 (P42 N a0.1 a1) (fun x1 => .c1 (P42 N a0.2.1 a1) (fun x2 => .c1 (P42 N a0.2.2 a1) (fun x3 => .br (x2 == x3) (.leaf x2) (.br (x3 == x1) (.leaf x2) (.br (x2 == x1) (.leaf x3) (.leaf (-2)))))))
noncomputable def F25 (N : Nat) (a0 : ((List Ln) × ((List Ln) × (List Ln)))) (a1 : (List Bs)) : Option Int := (V25 N a0 a1).eval
def t25 : List (Nat × List Nat × List (Nat × Sh)) := []
theorem P25 (N : Nat) (a0 : ((List Ln) × ((List Ln) × (List Ln)))) (a1 : (List Bs)) : ∀ r, F25 N a0 a1 = some r → Spec Try.prog 25 [.agg [.val (.list tLn) a0.1, .val (.list tLn) a0.2.1, .val (.list tLn) a0.2.2], .val (.list tS) a1] (E25 r) := fun r h => Spec_of (fn := Try.f25) rfl rfl rfl rfl false (wpc_sound (tbl := t25) (μ := []) mixed _ _ _ (by
  have h1 := Vt.sound _ h
  refine Eq.mp ?_ h1
  kernel_rfl))

/-! (ferryslip/merge.three).conflicts -/
def E24 : Bool → D := fun x => encV tB x
noncomputable def V24 (N : Nat) (a0 : ((List Ln) × ((List Ln) × (List Ln)))) (a1 : (List Bs)) : Vt Bool (Option D) (fun q => some (E24 q)) :=
  .c1 (P25 N a0 a1) (fun x1 => .br (x1 == (-2)) (.leaf true) (.br (x1 != (-1)) (.br (decide ((1 : Int) < (a1.length : Int))) (.ck ((0 : Int) ≤ 0 ∧ (0 : Int) ≤ (IntKind.i64.wrap ((a1.length : Int) - 1)) ∧ (IntKind.i64.wrap ((a1.length : Int) - 1)) ≤ (a1.length : Int)) (.c1 (P25 N a0 (slc a1 0 (IntKind.i64.wrap ((a1.length : Int) - 1)))) (fun x2 => .leaf (x2 == (-1))))) (.leaf false)) (.leaf false)))
noncomputable def F24 (N : Nat) (a0 : ((List Ln) × ((List Ln) × (List Ln)))) (a1 : (List Bs)) : Option Bool := (V24 N a0 a1).eval
def t24 : List (Nat × List Nat × List (Nat × Sh)) := []
theorem P24 (N : Nat) (a0 : ((List Ln) × ((List Ln) × (List Ln)))) (a1 : (List Bs)) : ∀ r, F24 N a0 a1 = some r → Spec Try.prog 24 [.agg [.val (.list tLn) a0.1, .val (.list tLn) a0.2.1, .val (.list tLn) a0.2.2], .val (.list tS) a1] (E24 r) := fun r h => Spec_of (fn := Try.f24) rfl rfl rfl rfl false (wpc_sound (tbl := t24) (μ := []) mixed _ _ _ (by
  have h1 := Vt.sound _ h
  refine Eq.mp ?_ h1
  kernel_rfl))

/-! ferryslip/merge.Of -/
def E11 : ((List Ln) × (List (List Bs)) × Int) → D := fun x => .tup [encV (.list tLn) x.1, encV (.list (.list tS)) x.2.1, encV tI x.2.2]
abbrev l11_7 : List (Nat × Sh) := [(9, .cel false 9 50 (.pair (.list tLn) (.pair (.list tLn) (.list tLn)))), (10, .row false 64 35 tLn), (11, .row false 45 36 (.list tS)), (33, .row false 33 36 (.list tS)), (34, .val tI), (35, .val tI)]
noncomputable def b11_7 : Code := loopBody 7 (bodyOf Try.f11)
noncomputable def U11_7 (N : Nat) (s9 : ((List Ln) × ((List Ln) × (List Ln)))) (s10 : (List Ln)) (s11 : (List (List Bs))) (s33 : (List (List Bs))) (s34 : Int) (s35 : Int) : Vt (Lp (shTy l11_7).I ((List Ln) × (List (List Bs)) × Int)) (O3 (Option D)) (encO 76 l11_7 [0] (fun q => some (E11 q))) :=
  .br (decide (s35 < s34)) (.ck (inR s35 s33.length) (.ck (inR s35 s33.length) (.c1 (P24 N s9 (atI (.list tS) s33 s35)) (fun x1 => .br x1 (.ck (room (s11.length + ([(atI (.list tS) s33 s35)] : (List (List Bs))).length)) (.leaf (.next (s9, s10, (s11 ++ ([(atI (.list tS) s33 s35)] : (List (List Bs)))), s33, s34, (IntKind.i64.wrap (s35 + 1)))))) (.c1 (P25 N s9 (atI (.list tS) s33 s35)) (fun x2 => .br (x2 != (-1)) (.ck (inR (IntKind.i64.wrap (((atI (.list tS) s33 s35).length : Int) - 1)) (atI (.list tS) s33 s35).length) (.ck (room (s10.length + ([((IntKind.i64.wrap (((atI (.list tS) s33 s35).length : Int) - 1)), (atI tS (atI (.list tS) s33 s35) (IntKind.i64.wrap (((atI (.list tS) s33 s35).length : Int) - 1))), x2)] : (List Ln)).length)) (.leaf (.next (s9, (s10 ++ ([((IntKind.i64.wrap (((atI (.list tS) s33 s35).length : Int) - 1)), (atI tS (atI (.list tS) s33 s35) (IntKind.i64.wrap (((atI (.list tS) s33 s35).length : Int) - 1))), x2)] : (List Ln))), s11, s33, s34, (IntKind.i64.wrap (s35 + 1))))))) (.leaf (.next (s9, s10, s11, s33, s34, (IntKind.i64.wrap (s35 + 1))))))))))) (.leaf (.brk 0 (s9, s10, s11, s33, s34, s35)))
noncomputable def L11_7 (N : Nat) (s9 : ((List Ln) × ((List Ln) × (List Ln)))) (s10 : (List Ln)) (s11 : (List (List Bs))) (s33 : (List (List Bs))) (s34 : Int) (s35 : Int) : Option (Lp (((List Ln) × ((List Ln) × (List Ln))) × (List Ln) × (List (List Bs)) × (List (List Bs)) × Int × Int) ((List Ln) × (List (List Bs)) × Int)) := (U11_7 N s9 s10 s11 s33 s34 s35).eval
noncomputable def W11_7 (N : Nat) (x : (((List Ln) × ((List Ln) × (List Ln))) × (List Ln) × (List (List Bs)) × (List (List Bs)) × Int × Int)) : Option (Lp (((List Ln) × ((List Ln) × (List Ln))) × (List Ln) × (List (List Bs)) × (List (List Bs)) × Int × Int) ((List Ln) × (List (List Bs)) × Int)) := runLoop (fun x => L11_7 N x.1 x.2.1 x.2.2.1 x.2.2.2.1 x.2.2.2.2.1 x.2.2.2.2.2) N x
theorem WS11_7 (N : Nat) (x : (shTy l11_7).I) : ∀ o, W11_7 N x = some o → S Try.prog (.loop b11_7) (buildSt 76 l11_7 x) (stepZ (rdD Try.prog Try.f11 false) l11_7 (encO 76 l11_7 [0] (fun q => some (E11 q)) o)) :=
  fun o h => loop_S (l := l11_7) (step := fun x => L11_7 N x.1 x.2.1 x.2.2.1 x.2.2.2.1 x.2.2.2.2.1 x.2.2.2.2.2) (fun x o h => wpc_sound (tbl := []) (μ := [33]) mixed _ _ _ (by
    have h1 := Vt.sound _ h
    refine Eq.mp ?_ h1
    kernel_rfl)) N x o h
noncomputable def V11 (N : Nat) (a0 : (List Ln)) (a1 : (List Ln)) (a2 : (List Ln)) : Vt ((List Ln) × (List (List Bs)) × Int) (Option D) (fun q => some (E11 q)) :=
  .c1 (P16 N a0) (fun x1 => .br (!x1) (.leaf (([] : (List Ln)), ([] : (List (List Bs))), 1)) (.c1 (P16 N a1) (fun x2 => .br (!x2) (.leaf (([] : (List Ln)), ([] : (List (List Bs))), 1)) (.c1 (P16 N a2) (fun x3 => .br (!x3) (.leaf (([] : (List Ln)), ([] : (List (List Bs))), 1)) (.c1 (P23o N (a0, a1, a2)) (fun x4 => .f1 (l := l11_7) (o := W11_7 N ((a0, a1, a2), ([] : (List Ln)), ([] : (List (List Bs))), x4, (x4.length : Int), 0)) (WS11_7 N ((a0, a1, a2), ([] : (List Ln)), ([] : (List (List Bs))), x4, (x4.length : Int), 0)) (fun x2 => .br (decide ((0 : Int) < (x2.2.2.1.length : Int))) (.leaf (([] : (List Ln)), x2.2.2.1, 8)) (.br (decide ((200 : Int) < (x2.2.1.length : Int))) (.leaf (([] : (List Ln)), ([] : (List (List Bs))), 5)) (.leaf (x2.2.1, ([] : (List (List Bs))), 0)))))))))))
noncomputable def F11 (N : Nat) (a0 : (List Ln)) (a1 : (List Ln)) (a2 : (List Ln)) : Option ((List Ln) × (List (List Bs)) × Int) := (V11 N a0 a1 a2).eval
def t11 : List (Nat × List Nat × List (Nat × Sh)) := [(7, [0], l11_7)]
theorem P11 (N : Nat) (a0 : (List Ln)) (a1 : (List Ln)) (a2 : (List Ln)) : ∀ r, F11 N a0 a1 a2 = some r → Spec Try.prog 11 [.val (.list tLn) a0, .val (.list tLn) a1, .val (.list tLn) a2] (E11 r) := fun r h => Spec_of (fn := Try.f11) rfl rfl rfl rfl false (wpc_sound (tbl := t11) (μ := [33]) mixed _ _ _ (by
  have h1 := Vt.sound _ h
  refine Eq.mp ?_ h1
  kernel_rfl))

/-! ferryslip/ferryslipref03.Equal -/
def E22 : Bool → D := fun x => encV tB x
abbrev l22_4 : List (Nat × Sh) := [(0, .val (.list tS)), (1, .val (.list tS)), (5, .val tI)]
noncomputable def b22_4 : Code := loopBody 4 (bodyOf Try.f22)
noncomputable def U22_4 (N : Nat) (s0 : (List Bs)) (s1 : (List Bs)) (s5 : Int) : Vt (Lp (shTy l22_4).I Bool) (O3 (Option D)) (encO 26 l22_4 [0] (fun q => some (E22 q))) :=
  .br (decide (s5 < (s0.length : Int))) (.ck (inR s5 s0.length) (.ck (inR s5 s1.length) (.br (!((atI tS s0 s5) == (atI tS s1 s5))) (.leaf (.ret false)) (.leaf (.next (s0, s1, (IntKind.i64.wrap (s5 + 1)))))))) (.leaf (.brk 0 (s0, s1, s5)))
noncomputable def L22_4 (N : Nat) (s0 : (List Bs)) (s1 : (List Bs)) (s5 : Int) : Option (Lp ((List Bs) × (List Bs) × Int) Bool) := (U22_4 N s0 s1 s5).eval
noncomputable def W22_4 (N : Nat) (x : ((List Bs) × (List Bs) × Int)) : Option (Lp ((List Bs) × (List Bs) × Int) Bool) := runLoop (fun x => L22_4 N x.1 x.2.1 x.2.2) N x
theorem WS22_4 (N : Nat) (x : (shTy l22_4).I) : ∀ o, W22_4 N x = some o → S Try.prog (.loop b22_4) (buildSt 26 l22_4 x) (stepZ (rdD Try.prog Try.f22 false) l22_4 (encO 26 l22_4 [0] (fun q => some (E22 q)) o)) :=
  fun o h => loop_S (l := l22_4) (step := fun x => L22_4 N x.1 x.2.1 x.2.2) (fun x o h => wpc_sound (tbl := []) (μ := []) mixed _ _ _ (by
    have h1 := Vt.sound _ h
    refine Eq.mp ?_ h1
    kernel_rfl)) N x o h
noncomputable def V22 (N : Nat) (a0 : (List Bs)) (a1 : (List Bs)) : Vt Bool (Option D) (fun q => some (E22 q)) :=
  .br ((a0.length : Int) != (a1.length : Int)) (.leaf false) (.f1 (l := l22_4) (o := W22_4 N (a0, a1, 0)) (WS22_4 N (a0, a1, 0)) (fun x1 => .leaf true))
noncomputable def F22 (N : Nat) (a0 : (List Bs)) (a1 : (List Bs)) : Option Bool := (V22 N a0 a1).eval
def t22 : List (Nat × List Nat × List (Nat × Sh)) := [(4, [0], l22_4)]
theorem P22 (N : Nat) (a0 : (List Bs)) (a1 : (List Bs)) : ∀ r, F22 N a0 a1 = some r → Spec Try.prog 22 [.val (.list tS) a0, .val (.list tS) a1] (E22 r) := fun r h => Spec_of (fn := Try.f22) rfl rfl rfl rfl false (wpc_sound (tbl := t22) (μ := []) mixed _ _ _ (by
  have h1 := Vt.sound _ h
  refine Eq.mp ?_ h1
  kernel_rfl))

/-! ferryslip/ferrysliplaw09.awake -/
def E10 : Bool → D := fun x => encV tB x
noncomputable def V10 (N : Nat)  : Vt Bool (Option D) (fun q => some (E10 q)) :=
  .c3 (P11 N ([(0, ([97] : Bs), 0)] : (List Ln)) ([(0, ([97] : Bs), 0), (1, ([98] : Bs), 0)] : (List Ln)) ([(0, ([97] : Bs), 1)] : (List Ln))) (fun x1 x2 x3 => .c3 (fun x h => Spec.weak (ds := [.val (.list tLn) ([(0, ([97] : Bs), 0)] : (List Ln)), .val (.list tLn) ([(0, ([97] : Bs), 0), (1, ([98] : Bs), 0)] : (List Ln)), .nils]) (P11 N ([(0, ([97] : Bs), 0)] : (List Ln)) ([(0, ([97] : Bs), 0), (1, ([98] : Bs), 0)] : (List Ln)) ([] : (List Ln)) x h) ⟨rfl, rfl, rfl, trivial⟩) (fun x4 x5 x6 => .br (x3 == 0) (.br ((x1.length : Int) == 2) (.ck (inR 0 x1.length) (.br (((atI tLn x1 0).2.2) == 1) (.ck (inR 1 x1.length) (.br (((atI tLn x1 1).2.1) == ([98] : Bs)) (.br (x6 == 8) (.br ((x5.length : Int) == 1) (.ck (inR 0 x5.length) (.c1 (P22 N (atI (.list tS) x5 0) ([([97] : Bs), ([98] : Bs)] : (List Bs))) (fun x7 => .leaf x7))) (.leaf false)) (.leaf false)) (.leaf false))) (.leaf false))) (.leaf false)) (.leaf false)))
noncomputable def F10 (N : Nat)  : Option Bool := (V10 N ).eval
def t10 : List (Nat × List Nat × List (Nat × Sh)) := []
theorem P10 (N : Nat)  : ∀ r, F10 N  = some r → Spec Try.prog 10 [] (E10 r) := fun r h => Spec_of (fn := Try.f10) rfl rfl rfl rfl false (wpc_sound (tbl := t10) (μ := []) mixed _ _ _ (by
  have h1 := Vt.sound _ h
  refine Eq.mp ?_ h1
  kernel_rfl))

/-! ferryslip/ferryslipref03.Right -/
def E15 : Bool → D := fun x => encV tB x
abbrev l15_4 : List (Nat × Sh) := [(0, .val (.list tLn)), (3, .val tI)]
noncomputable def b15_4 : Code := loopBody 4 (bodyOf Try.f15)
noncomputable def U15_4 (N : Nat) (s0 : (List Ln)) (s3 : Int) : Vt (Lp (shTy l15_4).I Bool) (O3 (Option D)) (encO 118 l15_4 [0] (fun q => some (E15 q))) :=
  .br (decide (s3 < (s0.length : Int))) (.ck (inR s3 s0.length) (.br (decide (((atI tLn s0 s3).1) < 0)) (.leaf (.ret false)) (.br (decide ((15 : Int) < ((atI tLn s0 s3).1))) (.leaf (.ret false)) (.br (decide ((40 : Int) < (((atI tLn s0 s3).2.1).length : Int))) (.leaf (.ret false)) (.br (decide (((atI tLn s0 s3).2.2) < 0)) (.leaf (.ret false)) (.br (decide ((3 : Int) < ((atI tLn s0 s3).2.2))) (.leaf (.ret false)) (.br (s3 == 0) (.br (((atI tLn s0 s3).1) != 0) (.leaf (.ret false)) (.br (decide ((0 : Int) < s3)) (.ck (inR (IntKind.i64.wrap (s3 - 1)) s0.length) (.br (decide ((IntKind.i64.wrap (((atI tLn s0 (IntKind.i64.wrap (s3 - 1))).1) + 1)) < ((atI tLn s0 s3).1))) (.leaf (.ret false)) (.leaf (.next (s0, (IntKind.i64.wrap (s3 + 1))))))) (.leaf (.next (s0, (IntKind.i64.wrap (s3 + 1))))))) (.br (decide ((0 : Int) < s3)) (.ck (inR (IntKind.i64.wrap (s3 - 1)) s0.length) (.br (decide ((IntKind.i64.wrap (((atI tLn s0 (IntKind.i64.wrap (s3 - 1))).1) + 1)) < ((atI tLn s0 s3).1))) (.leaf (.ret false)) (.leaf (.next (s0, (IntKind.i64.wrap (s3 + 1))))))) (.leaf (.next (s0, (IntKind.i64.wrap (s3 + 1))))))))))))) (.leaf (.brk 0 (s0, s3)))
noncomputable def L15_4 (N : Nat) (s0 : (List Ln)) (s3 : Int) : Option (Lp ((List Ln) × Int) Bool) := (U15_4 N s0 s3).eval
noncomputable def W15_4 (N : Nat) (x : ((List Ln) × Int)) : Option (Lp ((List Ln) × Int) Bool) := runLoop (fun x => L15_4 N x.1 x.2) N x
theorem WS15_4 (N : Nat) (x : (shTy l15_4).I) : ∀ o, W15_4 N x = some o → S Try.prog (.loop b15_4) (buildSt 118 l15_4 x) (stepZ (rdD Try.prog Try.f15 false) l15_4 (encO 118 l15_4 [0] (fun q => some (E15 q)) o)) :=
  fun o h => loop_S (l := l15_4) (step := fun x => L15_4 N x.1 x.2) (fun x o h => wpc_sound (tbl := []) (μ := []) mixed _ _ _ (by
    have h1 := Vt.sound _ h
    refine Eq.mp ?_ h1
    kernel_rfl)) N x o h
abbrev l15_15 : List (Nat × Sh) := [(0, .val (.list tLn)), (5, .val tI), (6, .val tI)]
noncomputable def b15_15 : Code := loopBody 15 (bodyOf Try.f15)
noncomputable def U15_15 (N : Nat) (s0 : (List Ln)) (s5 : Int) (s6 : Int) : Vt (Lp (shTy l15_15).I Bool) (O3 (Option D)) (encO 118 l15_15 [4] (fun q => some (E15 q))) :=
  .br (decide (s6 < (s0.length : Int))) (.ck (inR s6 s0.length) (.ck (inR s5 s0.length) (.br (decide (((atI tLn s0 s5).1) ≤ ((atI tLn s0 s6).1))) (.ck (inR s6 s0.length) (.ck (inR s5 s0.length) (.br (((atI tLn s0 s6).1) == ((atI tLn s0 s5).1)) (.ck (inR s6 s0.length) (.ck (inR s5 s0.length) (.br ((Op.bytesLess ((atI tLn s0 s6).2.1) ((atI tLn s0 s5).2.1)) || (((atI tLn s0 s6).2.1) == ((atI tLn s0 s5).2.1))) (.leaf (.ret false)) (.leaf (.next (s0, s5, (IntKind.i64.wrap (s6 + 1)))))))) (.leaf (.next (s0, s5, (IntKind.i64.wrap (s6 + 1)))))))) (.leaf (.brk 0 (s0, s5, s6)))))) (.leaf (.brk 0 (s0, s5, s6)))
noncomputable def L15_15 (N : Nat) (s0 : (List Ln)) (s5 : Int) (s6 : Int) : Option (Lp ((List Ln) × Int × Int) Bool) := (U15_15 N s0 s5 s6).eval
noncomputable def W15_15 (N : Nat) (x : ((List Ln) × Int × Int)) : Option (Lp ((List Ln) × Int × Int) Bool) := runLoop (fun x => L15_15 N x.1 x.2.1 x.2.2) N x
theorem WS15_15 (N : Nat) (x : (shTy l15_15).I) : ∀ o, W15_15 N x = some o → S Try.prog (.loop b15_15) (buildSt 118 l15_15 x) (stepZ (rdD Try.prog Try.f15 false) l15_15 (encO 118 l15_15 [4] (fun q => some (E15 q)) o)) :=
  fun o h => loop_S (l := l15_15) (step := fun x => L15_15 N x.1 x.2.1 x.2.2) (fun x o h => wpc_sound (tbl := [(4, [0], l15_4)]) (μ := []) mixed _ _ _ (by
    have h1 := Vt.sound _ h
    refine Eq.mp ?_ h1
    kernel_rfl)) N x o h
abbrev l15_12 : List (Nat × Sh) := [(0, .val (.list tLn)), (5, .val tI)]
noncomputable def b15_12 : Code := loopBody 12 (bodyOf Try.f15)
noncomputable def U15_12 (N : Nat) (s0 : (List Ln)) (s5 : Int) : Vt (Lp (shTy l15_12).I Bool) (O3 (Option D)) (encO 118 l15_12 [2] (fun q => some (E15 q))) :=
  .br (decide (s5 < (s0.length : Int))) (.g1 (l := l15_15) (o := W15_15 N (s0, s5, (IntKind.i64.wrap (s5 + 1)))) (WS15_15 N (s0, s5, (IntKind.i64.wrap (s5 + 1)))) (fun x1 => .leaf (.next (x1.1, (IntKind.i64.wrap (x1.2.1 + 1)))))) (.leaf (.brk 0 (s0, s5)))
noncomputable def L15_12 (N : Nat) (s0 : (List Ln)) (s5 : Int) : Option (Lp ((List Ln) × Int) Bool) := (U15_12 N s0 s5).eval
noncomputable def W15_12 (N : Nat) (x : ((List Ln) × Int)) : Option (Lp ((List Ln) × Int) Bool) := runLoop (fun x => L15_12 N x.1 x.2) N x
theorem WS15_12 (N : Nat) (x : (shTy l15_12).I) : ∀ o, W15_12 N x = some o → S Try.prog (.loop b15_12) (buildSt 118 l15_12 x) (stepZ (rdD Try.prog Try.f15 false) l15_12 (encO 118 l15_12 [2] (fun q => some (E15 q)) o)) :=
  fun o h => loop_S (l := l15_12) (step := fun x => L15_12 N x.1 x.2) (fun x o h => wpc_sound (tbl := [(4, [0], l15_4), (15, [4], l15_15)]) (μ := []) mixed _ _ _ (by
    have h1 := Vt.sound _ h
    refine Eq.mp ?_ h1
    kernel_rfl)) N x o h
noncomputable def V15 (N : Nat) (a0 : (List Ln)) : Vt Bool (Option D) (fun q => some (E15 q)) :=
  .br (decide ((200 : Int) < (a0.length : Int))) (.leaf false) (.f1 (l := l15_4) (o := W15_4 N (a0, 0)) (WS15_4 N (a0, 0)) (fun x1 => .f1 (l := l15_12) (o := W15_12 N (x1.1, 0)) (WS15_12 N (x1.1, 0)) (fun x2 => .leaf true)))
noncomputable def F15 (N : Nat) (a0 : (List Ln)) : Option Bool := (V15 N a0).eval
def t15 : List (Nat × List Nat × List (Nat × Sh)) := [(4, [0], l15_4), (15, [4], l15_15), (12, [2], l15_12)]
theorem P15 (N : Nat) (a0 : (List Ln)) : ∀ r, F15 N a0 = some r → Spec Try.prog 15 [.val (.list tLn) a0] (E15 r) := fun r h => Spec_of (fn := Try.f15) rfl rfl rfl rfl false (wpc_sound (tbl := t15) (μ := []) mixed _ _ _ (by
  have h1 := Vt.sound _ h
  refine Eq.mp ?_ h1
  kernel_rfl))

/-! ferryslip/ferryslipref09.ahead -/
def E55 : Bool → D := fun x => encV tB x
abbrev l55_2 : List (Nat × Sh) := [(0, .val (.list tS)), (1, .val (.list tS)), (5, .val tI)]
noncomputable def b55_2 : Code := loopBody 2 (bodyOf Try.f55)
noncomputable def U55_2 (N : Nat) (s0 : (List Bs)) (s1 : (List Bs)) (s5 : Int) : Vt (Lp (shTy l55_2).I Bool) (O3 (Option D)) (encO 41 l55_2 [0] (fun q => some (E55 q))) :=
  .br (decide (s5 < (s0.length : Int))) (.br (decide (s5 < (s1.length : Int))) (.ck (inR s5 s0.length) (.ck (inR s5 s1.length) (.br (!((atI tS s0 s5) == (atI tS s1 s5))) (.ck (inR s5 s0.length) (.ck (inR s5 s1.length) (.leaf (.ret (Op.bytesLess (atI tS s0 s5) (atI tS s1 s5)))))) (.leaf (.next (s0, s1, (IntKind.i64.wrap (s5 + 1)))))))) (.leaf (.brk 0 (s0, s1, s5)))) (.leaf (.brk 0 (s0, s1, s5)))
noncomputable def L55_2 (N : Nat) (s0 : (List Bs)) (s1 : (List Bs)) (s5 : Int) : Option (Lp ((List Bs) × (List Bs) × Int) Bool) := (U55_2 N s0 s1 s5).eval
noncomputable def W55_2 (N : Nat) (x : ((List Bs) × (List Bs) × Int)) : Option (Lp ((List Bs) × (List Bs) × Int) Bool) := runLoop (fun x => L55_2 N x.1 x.2.1 x.2.2) N x
theorem WS55_2 (N : Nat) (x : (shTy l55_2).I) : ∀ o, W55_2 N x = some o → S Try.prog (.loop b55_2) (buildSt 41 l55_2 x) (stepZ (rdD Try.prog Try.f55 false) l55_2 (encO 41 l55_2 [0] (fun q => some (E55 q)) o)) :=
  fun o h => loop_S (l := l55_2) (step := fun x => L55_2 N x.1 x.2.1 x.2.2) (fun x o h => wpc_sound (tbl := []) (μ := []) mixed _ _ _ (by
    have h1 := Vt.sound _ h
    refine Eq.mp ?_ h1
    kernel_rfl)) N x o h
noncomputable def V55 (N : Nat) (a0 : (List Bs)) (a1 : (List Bs)) : Vt Bool (Option D) (fun q => some (E55 q)) :=
  .f1 (l := l55_2) (o := W55_2 N (a0, a1, 0)) (WS55_2 N (a0, a1, 0)) (fun x1 => .leaf (decide ((x1.1.length : Int) < (x1.2.1.length : Int))))
noncomputable def F55 (N : Nat) (a0 : (List Bs)) (a1 : (List Bs)) : Option Bool := (V55 N a0 a1).eval
def t55 : List (Nat × List Nat × List (Nat × Sh)) := [(2, [0], l55_2)]
theorem P55 (N : Nat) (a0 : (List Bs)) (a1 : (List Bs)) : ∀ r, F55 N a0 a1 = some r → Spec Try.prog 55 [.val (.list tS) a0, .val (.list tS) a1] (E55 r) := fun r h => Spec_of (fn := Try.f55) rfl rfl rfl rfl false (wpc_sound (tbl := t55) (μ := []) mixed _ _ _ (by
  have h1 := Vt.sound _ h
  refine Eq.mp ?_ h1
  kernel_rfl))

/-! ferryslip/ferryslipref09.put -/
def E43 : (List (List Bs)) → D := fun x => encV (.list (.list tS)) x
abbrev l43_4 : List (Nat × Sh) := [(0, .val (.list (.list tS))), (1, .val (.list tS)), (5, .row false 34 36 (.list tS)), (6, .val tB), (7, .val tI)]
noncomputable def b43_4 : Code := loopBody 4 (bodyOf Try.f43)
noncomputable def U43_4 (N : Nat) (s0 : (List (List Bs))) (s1 : (List Bs)) (s5 : (List (List Bs))) (s6 : Bool) (s7 : Int) : Vt (Lp (shTy l43_4).I (List (List Bs))) (O3 (Option D)) (encO 49 l43_4 [0] (fun q => some (E43 q))) :=
  .br (decide (s7 < (s0.length : Int))) (.ck (inR s7 s0.length) (.c1 (P22 N (atI (.list tS) s0 s7) s1) (fun x1 => .br x1 (.leaf (.ret s0)) (.br (!s6) (.ck (inR s7 s0.length) (.c1 (P55 N s1 (atI (.list tS) s0 s7)) (fun x2 => .br x2 (.ck (room (s5.length + ([s1] : (List (List Bs))).length)) (.ck (inR s7 s0.length) (.ck (room ((s5 ++ ([s1] : (List (List Bs)))).length + ([(atI (.list tS) s0 s7)] : (List (List Bs))).length)) (.leaf (.next (s0, s1, ((s5 ++ ([s1] : (List (List Bs)))) ++ ([(atI (.list tS) s0 s7)] : (List (List Bs)))), true, (IntKind.i64.wrap (s7 + 1)))))))) (.ck (inR s7 s0.length) (.ck (room (s5.length + ([(atI (.list tS) s0 s7)] : (List (List Bs))).length)) (.leaf (.next (s0, s1, (s5 ++ ([(atI (.list tS) s0 s7)] : (List (List Bs)))), s6, (IntKind.i64.wrap (s7 + 1)))))))))) (.ck (inR s7 s0.length) (.ck (room (s5.length + ([(atI (.list tS) s0 s7)] : (List (List Bs))).length)) (.leaf (.next (s0, s1, (s5 ++ ([(atI (.list tS) s0 s7)] : (List (List Bs)))), s6, (IntKind.i64.wrap (s7 + 1))))))))))) (.leaf (.brk 0 (s0, s1, s5, s6, s7)))
noncomputable def L43_4 (N : Nat) (s0 : (List (List Bs))) (s1 : (List Bs)) (s5 : (List (List Bs))) (s6 : Bool) (s7 : Int) : Option (Lp ((List (List Bs)) × (List Bs) × (List (List Bs)) × Bool × Int) (List (List Bs))) := (U43_4 N s0 s1 s5 s6 s7).eval
noncomputable def W43_4 (N : Nat) (x : ((List (List Bs)) × (List Bs) × (List (List Bs)) × Bool × Int)) : Option (Lp ((List (List Bs)) × (List Bs) × (List (List Bs)) × Bool × Int) (List (List Bs))) := runLoop (fun x => L43_4 N x.1 x.2.1 x.2.2.1 x.2.2.2.1 x.2.2.2.2) N x
theorem WS43_4 (N : Nat) (x : (shTy l43_4).I) : ∀ o, W43_4 N x = some o → S Try.prog (.loop b43_4) (buildSt 49 l43_4 x) (stepZ (rdD Try.prog Try.f43 false) l43_4 (encO 49 l43_4 [0] (fun q => some (E43 q)) o)) :=
  fun o h => loop_S (l := l43_4) (step := fun x => L43_4 N x.1 x.2.1 x.2.2.1 x.2.2.2.1 x.2.2.2.2) (fun x o h => wpc_sound (tbl := []) (μ := []) mixed _ _ _ (by
    have h1 := Vt.sound _ h
    refine Eq.mp ?_ h1
    kernel_rfl)) N x o h
noncomputable def V43 (N : Nat) (a0 : (List (List Bs))) (a1 : (List Bs)) : Vt (List (List Bs)) (Option D) (fun q => some (E43 q)) :=
  .f1 (l := l43_4) (o := W43_4 N (a0, a1, ([] : (List (List Bs))), false, 0)) (WS43_4 N (a0, a1, ([] : (List (List Bs))), false, 0)) (fun x3 => .br (!x3.2.2.2.1) (.ck (room (x3.2.2.1.length + ([x3.2.1] : (List (List Bs))).length)) (.leaf (x3.2.2.1 ++ ([x3.2.1] : (List (List Bs)))))) (.leaf x3.2.2.1))
noncomputable def F43 (N : Nat) (a0 : (List (List Bs))) (a1 : (List Bs)) : Option (List (List Bs)) := (V43 N a0 a1).eval
def t43 : List (Nat × List Nat × List (Nat × Sh)) := [(4, [0], l43_4)]
theorem P43 (N : Nat) (a0 : (List (List Bs))) (a1 : (List Bs)) : ∀ r, F43 N a0 a1 = some r → Spec Try.prog 43 [.val (.list (.list tS)) a0, .val (.list tS) a1] (E43 r) := fun r h => Spec_of (fn := Try.f43) rfl rfl rfl rfl false (wpc_sound (tbl := t43) (μ := []) mixed _ _ _ (by
  have h1 := Vt.sound _ h
  refine Eq.mp ?_ h1
  kernel_rfl))

/-! ferryslip/ferryslipref03.Under -/
def E56 : Int → D := fun x => encV tI x
abbrev l56_3 : List (Nat × Sh) := [(0, .val (.list tLn)), (1, .val tI), (5, .val tI), (6, .val tI)]
noncomputable def b56_3 : Code := loopBody 3 (bodyOf Try.f56)
noncomputable def U56_3 (N : Nat) (s0 : (List Ln)) (s1 : Int) (s5 : Int) (s6 : Int) : Vt (Lp (shTy l56_3).I Int) (O3 (Option D)) (encO 25 l56_3 [0] (fun q => some (E56 q))) :=
  .br (decide (s6 < s1)) (.ck (inR s6 s0.length) (.ck (inR s1 s0.length) (.br (decide (((atI tLn s0 s6).1) < ((atI tLn s0 s1).1))) (.leaf (.next (s0, s1, s6, (IntKind.i64.wrap (s6 + 1))))) (.leaf (.next (s0, s1, s5, (IntKind.i64.wrap (s6 + 1)))))))) (.leaf (.brk 0 (s0, s1, s5, s6)))
noncomputable def L56_3 (N : Nat) (s0 : (List Ln)) (s1 : Int) (s5 : Int) (s6 : Int) : Option (Lp ((List Ln) × Int × Int × Int) Int) := (U56_3 N s0 s1 s5 s6).eval
noncomputable def W56_3 (N : Nat) (x : ((List Ln) × Int × Int × Int)) : Option (Lp ((List Ln) × Int × Int × Int) Int) := runLoop (fun x => L56_3 N x.1 x.2.1 x.2.2.1 x.2.2.2) N x
theorem WS56_3 (N : Nat) (x : (shTy l56_3).I) : ∀ o, W56_3 N x = some o → S Try.prog (.loop b56_3) (buildSt 25 l56_3 x) (stepZ (rdD Try.prog Try.f56 false) l56_3 (encO 25 l56_3 [0] (fun q => some (E56 q)) o)) :=
  fun o h => loop_S (l := l56_3) (step := fun x => L56_3 N x.1 x.2.1 x.2.2.1 x.2.2.2) (fun x o h => wpc_sound (tbl := []) (μ := []) mixed _ _ _ (by
    have h1 := Vt.sound _ h
    refine Eq.mp ?_ h1
    kernel_rfl)) N x o h
noncomputable def V56 (N : Nat) (a0 : (List Ln)) (a1 : Int) : Vt Int (Option D) (fun q => some (E56 q)) :=
  .f1 (l := l56_3) (o := W56_3 N (a0, a1, (-1), 0)) (WS56_3 N (a0, a1, (-1), 0)) (fun x1 => .leaf x1.2.2.1)
noncomputable def F56 (N : Nat) (a0 : (List Ln)) (a1 : Int) : Option Int := (V56 N a0 a1).eval
def t56 : List (Nat × List Nat × List (Nat × Sh)) := [(3, [0], l56_3)]
theorem P56 (N : Nat) (a0 : (List Ln)) (a1 : Int) : ∀ r, F56 N a0 a1 = some r → Spec Try.prog 56 [.val (.list tLn) a0, .val tI a1] (E56 r) := fun r h => Spec_of (fn := Try.f56) rfl rfl rfl rfl false (wpc_sound (tbl := t56) (μ := []) mixed _ _ _ (by
  have h1 := Vt.sound _ h
  refine Eq.mp ?_ h1
  kernel_rfl))

/-! ferryslip/ferryslipref03.Path -/
def E44 : (List Bs) → D := fun x => encV (.list tS) x
abbrev l44_2 : List (Nat × Sh) := [(0, .val (.list tLn)), (1, .val tI), (5, .val (.list tS))]
noncomputable def b44_2 : Code := loopBody 2 (bodyOf Try.f44)
noncomputable def U44_2 (N : Nat) (s0 : (List Ln)) (s1 : Int) (s5 : (List Bs)) : Vt (Lp (shTy l44_2).I (List Bs)) (O3 (Option D)) (encO 24 l44_2 [0] (fun q => some (E44 q))) :=
  .br (decide ((0 : Int) ≤ s1)) (.ck (inR s1 s0.length) (.ck (room ([(atI tLn s0 s1).2.1] : (List Bs)).length) (.ck (room (([(atI tLn s0 s1).2.1] : (List Bs)).length + s5.length)) (.c1 (P56 N s0 s1) (fun x1 => .leaf (.next (s0, x1, (([(atI tLn s0 s1).2.1] : (List Bs)) ++ s5)))))))) (.leaf (.brk 0 (s0, s1, s5)))
noncomputable def L44_2 (N : Nat) (s0 : (List Ln)) (s1 : Int) (s5 : (List Bs)) : Option (Lp ((List Ln) × Int × (List Bs)) (List Bs)) := (U44_2 N s0 s1 s5).eval
noncomputable def W44_2 (N : Nat) (x : ((List Ln) × Int × (List Bs))) : Option (Lp ((List Ln) × Int × (List Bs)) (List Bs)) := runLoop (fun x => L44_2 N x.1 x.2.1 x.2.2) N x
theorem WS44_2 (N : Nat) (x : (shTy l44_2).I) : ∀ o, W44_2 N x = some o → S Try.prog (.loop b44_2) (buildSt 24 l44_2 x) (stepZ (rdD Try.prog Try.f44 false) l44_2 (encO 24 l44_2 [0] (fun q => some (E44 q)) o)) :=
  fun o h => loop_S (l := l44_2) (step := fun x => L44_2 N x.1 x.2.1 x.2.2) (fun x o h => wpc_sound (tbl := []) (μ := []) mixed _ _ _ (by
    have h1 := Vt.sound _ h
    refine Eq.mp ?_ h1
    kernel_rfl)) N x o h
noncomputable def V44 (N : Nat) (a0 : (List Ln)) (a1 : Int) : Vt (List Bs) (Option D) (fun q => some (E44 q)) :=
  .f1 (l := l44_2) (o := W44_2 N (a0, a1, ([] : (List Bs)))) (WS44_2 N (a0, a1, ([] : (List Bs)))) (fun x2 => .leaf x2.2.2)
noncomputable def F44 (N : Nat) (a0 : (List Ln)) (a1 : Int) : Option (List Bs) := (V44 N a0 a1).eval
def t44 : List (Nat × List Nat × List (Nat × Sh)) := [(2, [0], l44_2)]
theorem P44 (N : Nat) (a0 : (List Ln)) (a1 : Int) : ∀ r, F44 N a0 a1 = some r → Spec Try.prog 44 [.val (.list tLn) a0, .val tI a1] (E44 r) := fun r h => Spec_of (fn := Try.f44) rfl rfl rfl rfl false (wpc_sound (tbl := t44) (μ := []) mixed _ _ _ (by
  have h1 := Vt.sound _ h
  refine Eq.mp ?_ h1
  kernel_rfl))

/-! ferryslip/ferryslipref09.Paths -/
def E26 : (List (List Bs)) → D := fun x => encV (.list (.list tS)) x
abbrev l26_3 : List (Nat × Sh) := [(0, .val (.list tLn)), (1, .val (.list tLn)), (2, .val (.list tLn)), (7, .val (.list (.list tS))), (8, .val tI)]
noncomputable def b26_3 : Code := loopBody 3 (bodyOf Try.f26)
noncomputable def U26_3 (N : Nat) (s0 : (List Ln)) (s1 : (List Ln)) (s2 : (List Ln)) (s7 : (List (List Bs))) (s8 : Int) : Vt (Lp (shTy l26_3).I (List (List Bs))) (O3 (Option D)) (encO 45 l26_3 [0] (fun q => some (E26 q))) :=
  .br (decide (s8 < (s0.length : Int))) (.c1 (P44 N s0 s8) (fun x1 => .c1 (P43 N s7 x1) (fun x2 => .leaf (.next (s0, s1, s2, x2, (IntKind.i64.wrap (s8 + 1))))))) (.leaf (.brk 0 (s0, s1, s2, s7, s8)))
noncomputable def L26_3 (N : Nat) (s0 : (List Ln)) (s1 : (List Ln)) (s2 : (List Ln)) (s7 : (List (List Bs))) (s8 : Int) : Option (Lp ((List Ln) × (List Ln) × (List Ln) × (List (List Bs)) × Int) (List (List Bs))) := (U26_3 N s0 s1 s2 s7 s8).eval
noncomputable def W26_3 (N : Nat) (x : ((List Ln) × (List Ln) × (List Ln) × (List (List Bs)) × Int)) : Option (Lp ((List Ln) × (List Ln) × (List Ln) × (List (List Bs)) × Int) (List (List Bs))) := runLoop (fun x => L26_3 N x.1 x.2.1 x.2.2.1 x.2.2.2.1 x.2.2.2.2) N x
theorem WS26_3 (N : Nat) (x : (shTy l26_3).I) : ∀ o, W26_3 N x = some o → S Try.prog (.loop b26_3) (buildSt 45 l26_3 x) (stepZ (rdD Try.prog Try.f26 false) l26_3 (encO 45 l26_3 [0] (fun q => some (E26 q)) o)) :=
  fun o h => loop_S (l := l26_3) (step := fun x => L26_3 N x.1 x.2.1 x.2.2.1 x.2.2.2.1 x.2.2.2.2) (fun x o h => wpc_sound (tbl := []) (μ := []) mixed _ _ _ (by
    have h1 := Vt.sound _ h
    refine Eq.mp ?_ h1
    kernel_rfl)) N x o h
abbrev l26_7 : List (Nat × Sh) := [(1, .val (.list tLn)), (2, .val (.list tLn)), (7, .val (.list (.list tS))), (9, .val tI)]
noncomputable def b26_7 : Code := loopBody 7 (bodyOf Try.f26)
noncomputable def U26_7 (N : Nat) (s1 : (List Ln)) (s2 : (List Ln)) (s7 : (List (List Bs))) (s9 : Int) : Vt (Lp (shTy l26_7).I (List (List Bs))) (O3 (Option D)) (encO 45 l26_7 [2] (fun q => some (E26 q))) :=
  .br (decide (s9 < (s1.length : Int))) (.c1 (P44 N s1 s9) (fun x1 => .c1 (P43 N s7 x1) (fun x2 => .leaf (.next (s1, s2, x2, (IntKind.i64.wrap (s9 + 1))))))) (.leaf (.brk 0 (s1, s2, s7, s9)))
noncomputable def L26_7 (N : Nat) (s1 : (List Ln)) (s2 : (List Ln)) (s7 : (List (List Bs))) (s9 : Int) : Option (Lp ((List Ln) × (List Ln) × (List (List Bs)) × Int) (List (List Bs))) := (U26_7 N s1 s2 s7 s9).eval
noncomputable def W26_7 (N : Nat) (x : ((List Ln) × (List Ln) × (List (List Bs)) × Int)) : Option (Lp ((List Ln) × (List Ln) × (List (List Bs)) × Int) (List (List Bs))) := runLoop (fun x => L26_7 N x.1 x.2.1 x.2.2.1 x.2.2.2) N x
theorem WS26_7 (N : Nat) (x : (shTy l26_7).I) : ∀ o, W26_7 N x = some o → S Try.prog (.loop b26_7) (buildSt 45 l26_7 x) (stepZ (rdD Try.prog Try.f26 false) l26_7 (encO 45 l26_7 [2] (fun q => some (E26 q)) o)) :=
  fun o h => loop_S (l := l26_7) (step := fun x => L26_7 N x.1 x.2.1 x.2.2.1 x.2.2.2) (fun x o h => wpc_sound (tbl := [(3, [0], l26_3)]) (μ := []) mixed _ _ _ (by
    have h1 := Vt.sound _ h
    refine Eq.mp ?_ h1
    kernel_rfl)) N x o h
abbrev l26_11 : List (Nat × Sh) := [(2, .val (.list tLn)), (7, .val (.list (.list tS))), (10, .val tI)]
noncomputable def b26_11 : Code := loopBody 11 (bodyOf Try.f26)
noncomputable def U26_11 (N : Nat) (s2 : (List Ln)) (s7 : (List (List Bs))) (s10 : Int) : Vt (Lp (shTy l26_11).I (List (List Bs))) (O3 (Option D)) (encO 45 l26_11 [4] (fun q => some (E26 q))) :=
  .br (decide (s10 < (s2.length : Int))) (.c1 (P44 N s2 s10) (fun x1 => .c1 (P43 N s7 x1) (fun x2 => .leaf (.next (s2, x2, (IntKind.i64.wrap (s10 + 1))))))) (.leaf (.brk 0 (s2, s7, s10)))
noncomputable def L26_11 (N : Nat) (s2 : (List Ln)) (s7 : (List (List Bs))) (s10 : Int) : Option (Lp ((List Ln) × (List (List Bs)) × Int) (List (List Bs))) := (U26_11 N s2 s7 s10).eval
noncomputable def W26_11 (N : Nat) (x : ((List Ln) × (List (List Bs)) × Int)) : Option (Lp ((List Ln) × (List (List Bs)) × Int) (List (List Bs))) := runLoop (fun x => L26_11 N x.1 x.2.1 x.2.2) N x
theorem WS26_11 (N : Nat) (x : (shTy l26_11).I) : ∀ o, W26_11 N x = some o → S Try.prog (.loop b26_11) (buildSt 45 l26_11 x) (stepZ (rdD Try.prog Try.f26 false) l26_11 (encO 45 l26_11 [4] (fun q => some (E26 q)) o)) :=
  fun o h => loop_S (l := l26_11) (step := fun x => L26_11 N x.1 x.2.1 x.2.2) (fun x o h => wpc_sound (tbl := [(3, [0], l26_3), (7, [2], l26_7)]) (μ := []) mixed _ _ _ (by
    have h1 := Vt.sound _ h
    refine Eq.mp ?_ h1
    kernel_rfl)) N x o h
noncomputable def V26 (N : Nat) (a0 : (List Ln)) (a1 : (List Ln)) (a2 : (List Ln)) : Vt (List (List Bs)) (Option D) (fun q => some (E26 q)) :=
  .f1 (l := l26_3) (o := W26_3 N (a0, a1, a2, ([] : (List (List Bs))), 0)) (WS26_3 N (a0, a1, a2, ([] : (List (List Bs))), 0)) (fun x1 => .f1 (l := l26_7) (o := W26_7 N (x1.2.1, x1.2.2.1, x1.2.2.2.1, 0)) (WS26_7 N (x1.2.1, x1.2.2.1, x1.2.2.2.1, 0)) (fun x2 => .f1 (l := l26_11) (o := W26_11 N (x2.2.1, x2.2.2.1, 0)) (WS26_11 N (x2.2.1, x2.2.2.1, 0)) (fun x3 => .leaf x3.2.1)))
noncomputable def F26 (N : Nat) (a0 : (List Ln)) (a1 : (List Ln)) (a2 : (List Ln)) : Option (List (List Bs)) := (V26 N a0 a1 a2).eval
def t26 : List (Nat × List Nat × List (Nat × Sh)) := [(3, [0], l26_3), (7, [2], l26_7), (11, [4], l26_11)]
theorem P26 (N : Nat) (a0 : (List Ln)) (a1 : (List Ln)) (a2 : (List Ln)) : ∀ r, F26 N a0 a1 a2 = some r → Spec Try.prog 26 [.val (.list tLn) a0, .val (.list tLn) a1, .val (.list tLn) a2] (E26 r) := fun r h => Spec_of (fn := Try.f26) rfl rfl rfl rfl false (wpc_sound (tbl := t26) (μ := []) mixed _ _ _ (by
  have h1 := Vt.sound _ h
  refine Eq.mp ?_ h1
  kernel_rfl))

/-! ferryslip/ferryslipref03.Find -/
def E46 : Int → D := fun x => encV tI x
abbrev l46_2 : List (Nat × Sh) := [(0, .val (.list tLn)), (1, .val (.list tS)), (5, .val tI)]
noncomputable def b46_2 : Code := loopBody 2 (bodyOf Try.f46)
noncomputable def U46_2 (N : Nat) (s0 : (List Ln)) (s1 : (List Bs)) (s5 : Int) : Vt (Lp (shTy l46_2).I Int) (O3 (Option D)) (encO 29 l46_2 [0] (fun q => some (E46 q))) :=
  .br (decide (s5 < (s0.length : Int))) (.ck (inR s5 s0.length) (.br (((atI tLn s0 s5).1) == (IntKind.i64.wrap ((s1.length : Int) - 1))) (.c1 (P44 N s0 s5) (fun x1 => .c1 (P22 N x1 s1) (fun x2 => .br x2 (.leaf (.ret s5)) (.leaf (.next (s0, s1, (IntKind.i64.wrap (s5 + 1)))))))) (.leaf (.next (s0, s1, (IntKind.i64.wrap (s5 + 1))))))) (.leaf (.brk 0 (s0, s1, s5)))
noncomputable def L46_2 (N : Nat) (s0 : (List Ln)) (s1 : (List Bs)) (s5 : Int) : Option (Lp ((List Ln) × (List Bs) × Int) Int) := (U46_2 N s0 s1 s5).eval
noncomputable def W46_2 (N : Nat) (x : ((List Ln) × (List Bs) × Int)) : Option (Lp ((List Ln) × (List Bs) × Int) Int) := runLoop (fun x => L46_2 N x.1 x.2.1 x.2.2) N x
theorem WS46_2 (N : Nat) (x : (shTy l46_2).I) : ∀ o, W46_2 N x = some o → S Try.prog (.loop b46_2) (buildSt 29 l46_2 x) (stepZ (rdD Try.prog Try.f46 false) l46_2 (encO 29 l46_2 [0] (fun q => some (E46 q)) o)) :=
  fun o h => loop_S (l := l46_2) (step := fun x => L46_2 N x.1 x.2.1 x.2.2) (fun x o h => wpc_sound (tbl := []) (μ := []) mixed _ _ _ (by
    have h1 := Vt.sound _ h
    refine Eq.mp ?_ h1
    kernel_rfl)) N x o h
noncomputable def V46 (N : Nat) (a0 : (List Ln)) (a1 : (List Bs)) : Vt Int (Option D) (fun q => some (E46 q)) :=
  .f1 (l := l46_2) (o := W46_2 N (a0, a1, 0)) (WS46_2 N (a0, a1, 0)) (fun x1 => .leaf (-1))
noncomputable def F46 (N : Nat) (a0 : (List Ln)) (a1 : (List Bs)) : Option Int := (V46 N a0 a1).eval
def t46 : List (Nat × List Nat × List (Nat × Sh)) := [(2, [0], l46_2)]
theorem P46 (N : Nat) (a0 : (List Ln)) (a1 : (List Bs)) : ∀ r, F46 N a0 a1 = some r → Spec Try.prog 46 [.val (.list tLn) a0, .val (.list tS) a1] (E46 r) := fun r h => Spec_of (fn := Try.f46) rfl rfl rfl rfl false (wpc_sound (tbl := t46) (μ := []) mixed _ _ _ (by
  have h1 := Vt.sound _ h
  refine Eq.mp ?_ h1
  kernel_rfl))

/-! ferryslip/ferryslipref09.state -/
def E45 : Int → D := fun x => encV tI x
noncomputable def V45 (N : Nat) (a0 : (List Ln)) (a1 : (List Bs)) : Vt Int (Option D) (fun q => some (E45 q)) :=
  .c1 (P46 N a0 a1) (fun x1 => .br (decide (x1 < 0)) (.leaf (-1)) (.ck (inR x1 a0.length) (.leaf ((atI tLn a0 x1).2.2))))
noncomputable def F45 (N : Nat) (a0 : (List Ln)) (a1 : (List Bs)) : Option Int := (V45 N a0 a1).eval
def t45 : List (Nat × List Nat × List (Nat × Sh)) := []
theorem P45 (N : Nat) (a0 : (List Ln)) (a1 : (List Bs)) : ∀ r, F45 N a0 a1 = some r → Spec Try.prog 45 [.val (.list tLn) a0, .val (.list tS) a1] (E45 r) := fun r h => Spec_of (fn := Try.f45) rfl rfl rfl rfl false (wpc_sound (tbl := t45) (μ := []) mixed _ _ _ (by
  have h1 := Vt.sound _ h
  refine Eq.mp ?_ h1
  kernel_rfl))

/-! ferryslip/ferryslipref09.Decided -/
def E27 : Int → D := fun x => encV tI x
noncomputable def V27 (N : Nat) (a0 : (List Ln)) (a1 : (List Ln)) (a2 : (List Ln)) (a3 : (List Bs)) : Vt Int (Option D) (fun q => some (E27 q)) :=
  .c1 (P45 N a0 a3) (fun x1 => .c1 (P45 N a1 a3) (fun x2 => .c1 (P45 N a2 a3) (fun x3 => .br (x2 == x3) (.leaf x2) (.br (x2 == x1) (.leaf x3) (.br (x3 == x1) (.leaf x2) (.leaf (-2)))))))
noncomputable def F27 (N : Nat) (a0 : (List Ln)) (a1 : (List Ln)) (a2 : (List Ln)) (a3 : (List Bs)) : Option Int := (V27 N a0 a1 a2 a3).eval
def t27 : List (Nat × List Nat × List (Nat × Sh)) := []
theorem P27 (N : Nat) (a0 : (List Ln)) (a1 : (List Ln)) (a2 : (List Ln)) (a3 : (List Bs)) : ∀ r, F27 N a0 a1 a2 a3 = some r → Spec Try.prog 27 [.val (.list tLn) a0, .val (.list tLn) a1, .val (.list tLn) a2, .val (.list tS) a3] (E27 r) := fun r h => Spec_of (fn := Try.f27) rfl rfl rfl rfl false (wpc_sound (tbl := t27) (μ := []) mixed _ _ _ (by
  have h1 := Vt.sound _ h
  refine Eq.mp ?_ h1
  kernel_rfl))

/-! ferryslip/ferryslipref03.End -/
def E47 : Int → D := fun x => encV tI x
abbrev l47_2 : List (Nat × Sh) := [(0, .val (.list tLn)), (1, .val tI), (5, .val tI)]
noncomputable def b47_2 : Code := loopBody 2 (bodyOf Try.f47)
noncomputable def U47_2 (N : Nat) (s0 : (List Ln)) (s1 : Int) (s5 : Int) : Vt (Lp (shTy l47_2).I Int) (O3 (Option D)) (encO 28 l47_2 [0] (fun q => some (E47 q))) :=
  .br (decide (s5 < (s0.length : Int))) (.ck (inR s5 s0.length) (.ck (inR s1 s0.length) (.br (decide (((atI tLn s0 s5).1) ≤ ((atI tLn s0 s1).1))) (.leaf (.ret s5)) (.leaf (.next (s0, s1, (IntKind.i64.wrap (s5 + 1)))))))) (.leaf (.brk 0 (s0, s1, s5)))
noncomputable def L47_2 (N : Nat) (s0 : (List Ln)) (s1 : Int) (s5 : Int) : Option (Lp ((List Ln) × Int × Int) Int) := (U47_2 N s0 s1 s5).eval
noncomputable def W47_2 (N : Nat) (x : ((List Ln) × Int × Int)) : Option (Lp ((List Ln) × Int × Int) Int) := runLoop (fun x => L47_2 N x.1 x.2.1 x.2.2) N x
theorem WS47_2 (N : Nat) (x : (shTy l47_2).I) : ∀ o, W47_2 N x = some o → S Try.prog (.loop b47_2) (buildSt 28 l47_2 x) (stepZ (rdD Try.prog Try.f47 false) l47_2 (encO 28 l47_2 [0] (fun q => some (E47 q)) o)) :=
  fun o h => loop_S (l := l47_2) (step := fun x => L47_2 N x.1 x.2.1 x.2.2) (fun x o h => wpc_sound (tbl := []) (μ := []) mixed _ _ _ (by
    have h1 := Vt.sound _ h
    refine Eq.mp ?_ h1
    kernel_rfl)) N x o h
noncomputable def V47 (N : Nat) (a0 : (List Ln)) (a1 : Int) : Vt Int (Option D) (fun q => some (E47 q)) :=
  .f1 (l := l47_2) (o := W47_2 N (a0, a1, (IntKind.i64.wrap (a1 + 1)))) (WS47_2 N (a0, a1, (IntKind.i64.wrap (a1 + 1)))) (fun x1 => .leaf (x1.1.length : Int))
noncomputable def F47 (N : Nat) (a0 : (List Ln)) (a1 : Int) : Option Int := (V47 N a0 a1).eval
def t47 : List (Nat × List Nat × List (Nat × Sh)) := [(2, [0], l47_2)]
theorem P47 (N : Nat) (a0 : (List Ln)) (a1 : Int) : ∀ r, F47 N a0 a1 = some r → Spec Try.prog 47 [.val (.list tLn) a0, .val tI a1] (E47 r) := fun r h => Spec_of (fn := Try.f47) rfl rfl rfl rfl false (wpc_sound (tbl := t47) (μ := []) mixed _ _ _ (by
  have h1 := Vt.sound _ h
  refine Eq.mp ?_ h1
  kernel_rfl))

/-! ferryslip/ferryslipref03.Kids -/
def E48o : (List Int) → D := fun x => .own 3 tI x
abbrev l48o_3 : List (Nat × Sh) := [(0, .val (.list tLn)), (1, .val tI), (5, .row false 21 3 tI), (6, .val tI)]
noncomputable def b48o_3 : Code := loopBody 3 (bodyOf Try.f48)
noncomputable def U48o_3 (N : Nat) (s0 : (List Ln)) (s1 : Int) (s5 : (List Int)) (s6 : Int) : Vt (Lp (shTy l48o_3).I (List Int)) (O3 (Option D)) (encO 23 l48o_3 [0] (fun q => some (E48o q))) :=
  .br (decide (s6 < (s0.length : Int))) (.c1 (P56 N s0 s6) (fun x1 => .br (x1 == s1) (.ck (room (s5.length + ([s6] : (List Int)).length)) (.leaf (.next (s0, s1, (s5 ++ ([s6] : (List Int))), (IntKind.i64.wrap (s6 + 1)))))) (.leaf (.next (s0, s1, s5, (IntKind.i64.wrap (s6 + 1))))))) (.leaf (.brk 0 (s0, s1, s5, s6)))
noncomputable def L48o_3 (N : Nat) (s0 : (List Ln)) (s1 : Int) (s5 : (List Int)) (s6 : Int) : Option (Lp ((List Ln) × Int × (List Int) × Int) (List Int)) := (U48o_3 N s0 s1 s5 s6).eval
noncomputable def W48o_3 (N : Nat) (x : ((List Ln) × Int × (List Int) × Int)) : Option (Lp ((List Ln) × Int × (List Int) × Int) (List Int)) := runLoop (fun x => L48o_3 N x.1 x.2.1 x.2.2.1 x.2.2.2) N x
theorem WS48o_3 (N : Nat) (x : (shTy l48o_3).I) : ∀ o, W48o_3 N x = some o → S Try.prog (.loop b48o_3) (buildSt 23 l48o_3 x) (stepZ (rdD Try.prog Try.f48 true) l48o_3 (encO 23 l48o_3 [0] (fun q => some (E48o q)) o)) :=
  fun o h => loop_S (l := l48o_3) (step := fun x => L48o_3 N x.1 x.2.1 x.2.2.1 x.2.2.2) (fun x o h => wpc_sound (tbl := []) (μ := []) mixed _ _ _ (by
    have h1 := Vt.sound _ h
    refine Eq.mp ?_ h1
    kernel_rfl)) N x o h
noncomputable def V48o (N : Nat) (a0 : (List Ln)) (a1 : Int) : Vt (List Int) (Option D) (fun q => some (E48o q)) :=
  .f1 (l := l48o_3) (o := W48o_3 N (a0, a1, ([] : (List Int)), 0)) (WS48o_3 N (a0, a1, ([] : (List Int)), 0)) (fun x2 => .leaf x2.2.2.1)
noncomputable def F48o (N : Nat) (a0 : (List Ln)) (a1 : Int) : Option (List Int) := (V48o N a0 a1).eval
def t48o : List (Nat × List Nat × List (Nat × Sh)) := [(3, [0], l48o_3)]
theorem P48o (N : Nat) (a0 : (List Ln)) (a1 : Int) : ∀ r, F48o N a0 a1 = some r → Spec Try.prog 48 [.val (.list tLn) a0, .val tI a1] (E48o r) := fun r h => Spec_of (fn := Try.f48) rfl rfl rfl rfl true (wpc_sound (tbl := t48o) (μ := []) mixed _ _ _ (by
  have h1 := Vt.sound _ h
  refine Eq.mp ?_ h1
  kernel_rfl))

/-! ferryslip/ferryslipref05.Put -/
def E28o : (List Ln) → D := fun x => .own 35 tLn x
abbrev l28o_8 : List (Nat × Sh) := [(0, .val (.list tLn)), (1, .val (.list tS)), (2, .val tS), (3, .val tI), (10, .val tI), (11, .row false 27 3 tI), (12, .val tI)]
noncomputable def b28o_8 : Code := loopBody 8 (bodyOf Try.f28)
noncomputable def U28o_8 (N : Nat) (s0 : (List Ln)) (s1 : (List Bs)) (s2 : Bs) (s3 : Int) (s10 : Int) (s11 : (List Int)) (s12 : Int) : Vt (Lp (shTy l28o_8).I (List Ln)) (O3 (Option D)) (encO 67 l28o_8 [0] (fun q => some (E28o q))) :=
  .br (decide ((0 : Int) ≤ s12)) (.ck (inR s12 s11.length) (.ck (inR s12 s11.length) (.ck (inR (atI tI s11 s12) s0.length) (.br (!((Op.bytesLess ((atI tLn s0 (atI tI s11 s12)).2.1) s2) || (((atI tLn s0 (atI tI s11 s12)).2.1) == s2))) (.ck (inR s12 s11.length) (.ck (inR s12 s11.length) (.leaf (.next (s0, s1, s2, s3, (atI tI s11 s12), s11, (IntKind.i64.wrap (s12 - 1))))))) (.leaf (.next (s0, s1, s2, s3, s10, s11, (IntKind.i64.wrap (s12 - 1))))))))) (.leaf (.brk 0 (s0, s1, s2, s3, s10, s11, s12)))
noncomputable def L28o_8 (N : Nat) (s0 : (List Ln)) (s1 : (List Bs)) (s2 : Bs) (s3 : Int) (s10 : Int) (s11 : (List Int)) (s12 : Int) : Option (Lp ((List Ln) × (List Bs) × Bs × Int × Int × (List Int) × Int) (List Ln)) := (U28o_8 N s0 s1 s2 s3 s10 s11 s12).eval
noncomputable def W28o_8 (N : Nat) (x : ((List Ln) × (List Bs) × Bs × Int × Int × (List Int) × Int)) : Option (Lp ((List Ln) × (List Bs) × Bs × Int × Int × (List Int) × Int) (List Ln)) := runLoop (fun x => L28o_8 N x.1 x.2.1 x.2.2.1 x.2.2.2.1 x.2.2.2.2.1 x.2.2.2.2.2.1 x.2.2.2.2.2.2) N x
theorem WS28o_8 (N : Nat) (x : (shTy l28o_8).I) : ∀ o, W28o_8 N x = some o → S Try.prog (.loop b28o_8) (buildSt 67 l28o_8 x) (stepZ (rdD Try.prog Try.f28 true) l28o_8 (encO 67 l28o_8 [0] (fun q => some (E28o q)) o)) :=
  fun o h => loop_S (l := l28o_8) (step := fun x => L28o_8 N x.1 x.2.1 x.2.2.1 x.2.2.2.1 x.2.2.2.2.1 x.2.2.2.2.2.1 x.2.2.2.2.2.2) (fun x o h => wpc_sound (tbl := []) (μ := [27]) mixed _ _ _ (by
    have h1 := Vt.sound _ h
    refine Eq.mp ?_ h1
    kernel_rfl)) N x o h
noncomputable def V28o (N : Nat) (a0 : (List Ln)) (a1 : (List Bs)) (a2 : Bs) (a3 : Int) : Vt (List Ln) (Option D) (fun q => some (E28o q)) :=
  .br (decide ((0 : Int) < (a1.length : Int))) (.c1 (P46 N a0 a1) (fun x1 => .c1 (P47 N a0 x1) (fun x2 => .c1 (P48o N a0 x1) (fun x3 => .f1 (l := l28o_8) (o := W28o_8 N (a0, a1, a2, a3, x2, x3, (IntKind.i64.wrap ((x3.length : Int) - 1)))) (WS28o_8 N (a0, a1, a2, a3, x2, x3, (IntKind.i64.wrap ((x3.length : Int) - 1)))) (fun x4 => .ck ((0 : Int) ≤ 0 ∧ (0 : Int) ≤ x4.2.2.2.2.1 ∧ x4.2.2.2.2.1 ≤ (x4.1.length : Int)) (.ck (room (slc x4.1 0 x4.2.2.2.2.1).length) (.ck (room ((slc x4.1 0 x4.2.2.2.2.1).length + ([((x4.2.1.length : Int), x4.2.2.1, x4.2.2.2.1)] : (List Ln)).length)) (.ck ((0 : Int) ≤ x4.2.2.2.2.1 ∧ x4.2.2.2.2.1 ≤ (x4.1.length : Int) ∧ (x4.1.length : Int) ≤ (x4.1.length : Int)) (.ck (room (((slc x4.1 0 x4.2.2.2.2.1) ++ ([((x4.2.1.length : Int), x4.2.2.1, x4.2.2.2.1)] : (List Ln))).length + (slc x4.1 x4.2.2.2.2.1 (x4.1.length : Int)).length)) (.leaf (((slc x4.1 0 x4.2.2.2.2.1) ++ ([((x4.2.1.length : Int), x4.2.2.1, x4.2.2.2.1)] : (List Ln))) ++ (slc x4.1 x4.2.2.2.2.1 (x4.1.length : Int))))))))))))) (.c1 (P48o N a0 (-1)) (fun x5 => .f1 (l := l28o_8) (o := W28o_8 N (a0, a1, a2, a3, (a0.length : Int), x5, (IntKind.i64.wrap ((x5.length : Int) - 1)))) (WS28o_8 N (a0, a1, a2, a3, (a0.length : Int), x5, (IntKind.i64.wrap ((x5.length : Int) - 1)))) (fun x6 => .ck ((0 : Int) ≤ 0 ∧ (0 : Int) ≤ x6.2.2.2.2.1 ∧ x6.2.2.2.2.1 ≤ (x6.1.length : Int)) (.ck (room (slc x6.1 0 x6.2.2.2.2.1).length) (.ck (room ((slc x6.1 0 x6.2.2.2.2.1).length + ([((x6.2.1.length : Int), x6.2.2.1, x6.2.2.2.1)] : (List Ln)).length)) (.ck ((0 : Int) ≤ x6.2.2.2.2.1 ∧ x6.2.2.2.2.1 ≤ (x6.1.length : Int) ∧ (x6.1.length : Int) ≤ (x6.1.length : Int)) (.ck (room (((slc x6.1 0 x6.2.2.2.2.1) ++ ([((x6.2.1.length : Int), x6.2.2.1, x6.2.2.2.1)] : (List Ln))).length + (slc x6.1 x6.2.2.2.2.1 (x6.1.length : Int)).length)) (.leaf (((slc x6.1 0 x6.2.2.2.2.1) ++ ([((x6.2.1.length : Int), x6.2.2.1, x6.2.2.2.1)] : (List Ln))) ++ (slc x6.1 x6.2.2.2.2.1 (x6.1.length : Int)))))))))))
noncomputable def F28o (N : Nat) (a0 : (List Ln)) (a1 : (List Bs)) (a2 : Bs) (a3 : Int) : Option (List Ln) := (V28o N a0 a1 a2 a3).eval
def t28o : List (Nat × List Nat × List (Nat × Sh)) := [(8, [0], l28o_8)]
theorem P28o (N : Nat) (a0 : (List Ln)) (a1 : (List Bs)) (a2 : Bs) (a3 : Int) : ∀ r, F28o N a0 a1 a2 a3 = some r → Spec Try.prog 28 [.val (.list tLn) a0, .val (.list tS) a1, .val tS a2, .val tI a3] (E28o r) := fun r h => Spec_of (fn := Try.f28) rfl rfl rfl rfl true (wpc_sound (tbl := t28o) (μ := [27]) mixed _ _ _ (by
  have h1 := Vt.sound _ h
  refine Eq.mp ?_ h1
  kernel_rfl))

/-! ferryslip/ferryslipref09.Of -/
def E12 : ((List Ln) × (List (List Bs)) × Int) → D := fun x => .tup [encV (.list tLn) x.1, encV (.list (.list tS)) x.2.1, encV tI x.2.2]
abbrev l12_8 : List (Nat × Sh) := [(0, .val (.list tLn)), (1, .val (.list tLn)), (2, .val (.list tLn)), (9, .row false 77 36 (.list tS)), (10, .val (.list tLn)), (11, .val tI), (12, .val (.list (.list tS))), (13, .val tI)]
noncomputable def b12_8 : Code := loopBody 8 (bodyOf Try.f12)
noncomputable def U12_8 (N : Nat) (s0 : (List Ln)) (s1 : (List Ln)) (s2 : (List Ln)) (s9 : (List (List Bs))) (s10 : (List Ln)) (s11 : Int) (s12 : (List (List Bs))) (s13 : Int) : Vt (Lp (shTy l12_8).I ((List Ln) × (List (List Bs)) × Int)) (O3 (Option D)) (encO 120 l12_8 [0] (fun q => some (E12 q))) :=
  .br (decide (s13 < (s12.length : Int))) (.ck (inR s13 s12.length) (.c1 (P27 N s0 s1 s2 (atI (.list tS) s12 s13)) (fun x1 => .br (x1 == (-2)) (.ck (room (s9.length + ([(atI (.list tS) s12 s13)] : (List (List Bs))).length)) (.leaf (.next (s0, s1, s2, (s9 ++ ([(atI (.list tS) s12 s13)] : (List (List Bs)))), s10, s11, s12, (IntKind.i64.wrap (s13 + 1)))))) (.br (decide ((0 : Int) ≤ x1)) (.br (decide ((1 : Int) < ((atI (.list tS) s12 s13).length : Int))) (.ck ((0 : Int) ≤ 0 ∧ (0 : Int) ≤ (IntKind.i64.wrap (((atI (.list tS) s12 s13).length : Int) - 1)) ∧ (IntKind.i64.wrap (((atI (.list tS) s12 s13).length : Int) - 1)) ≤ ((atI (.list tS) s12 s13).length : Int)) (.c1 (P27 N s0 s1 s2 (slc (atI (.list tS) s12 s13) 0 (IntKind.i64.wrap (((atI (.list tS) s12 s13).length : Int) - 1)))) (fun x2 => .br (x2 == (-1)) (.ck (room (s9.length + ([(atI (.list tS) s12 s13)] : (List (List Bs))).length)) (.leaf (.next (s0, s1, s2, (s9 ++ ([(atI (.list tS) s12 s13)] : (List (List Bs)))), s10, s11, s12, (IntKind.i64.wrap (s13 + 1)))))) (.br (decide ((0 : Int) ≤ x1)) (.leaf (.next (s0, s1, s2, s9, s10, (IntKind.i64.wrap (s11 + 1)), s12, (IntKind.i64.wrap (s13 + 1))))) (.leaf (.next (s0, s1, s2, s9, s10, s11, s12, (IntKind.i64.wrap (s13 + 1))))))))) (.br (decide ((0 : Int) ≤ x1)) (.leaf (.next (s0, s1, s2, s9, s10, (IntKind.i64.wrap (s11 + 1)), s12, (IntKind.i64.wrap (s13 + 1))))) (.leaf (.next (s0, s1, s2, s9, s10, s11, s12, (IntKind.i64.wrap (s13 + 1))))))) (.br (decide ((0 : Int) ≤ x1)) (.leaf (.next (s0, s1, s2, s9, s10, (IntKind.i64.wrap (s11 + 1)), s12, (IntKind.i64.wrap (s13 + 1))))) (.leaf (.next (s0, s1, s2, s9, s10, s11, s12, (IntKind.i64.wrap (s13 + 1)))))))))) (.leaf (.brk 0 (s0, s1, s2, s9, s10, s11, s12, s13)))
noncomputable def L12_8 (N : Nat) (s0 : (List Ln)) (s1 : (List Ln)) (s2 : (List Ln)) (s9 : (List (List Bs))) (s10 : (List Ln)) (s11 : Int) (s12 : (List (List Bs))) (s13 : Int) : Option (Lp ((List Ln) × (List Ln) × (List Ln) × (List (List Bs)) × (List Ln) × Int × (List (List Bs)) × Int) ((List Ln) × (List (List Bs)) × Int)) := (U12_8 N s0 s1 s2 s9 s10 s11 s12 s13).eval
noncomputable def W12_8 (N : Nat) (x : ((List Ln) × (List Ln) × (List Ln) × (List (List Bs)) × (List Ln) × Int × (List (List Bs)) × Int)) : Option (Lp ((List Ln) × (List Ln) × (List Ln) × (List (List Bs)) × (List Ln) × Int × (List (List Bs)) × Int) ((List Ln) × (List (List Bs)) × Int)) := runLoop (fun x => L12_8 N x.1 x.2.1 x.2.2.1 x.2.2.2.1 x.2.2.2.2.1 x.2.2.2.2.2.1 x.2.2.2.2.2.2.1 x.2.2.2.2.2.2.2) N x
theorem WS12_8 (N : Nat) (x : (shTy l12_8).I) : ∀ o, W12_8 N x = some o → S Try.prog (.loop b12_8) (buildSt 120 l12_8 x) (stepZ (rdD Try.prog Try.f12 false) l12_8 (encO 120 l12_8 [0] (fun q => some (E12 q)) o)) :=
  fun o h => loop_S (l := l12_8) (step := fun x => L12_8 N x.1 x.2.1 x.2.2.1 x.2.2.2.1 x.2.2.2.2.1 x.2.2.2.2.2.1 x.2.2.2.2.2.2.1 x.2.2.2.2.2.2.2) (fun x o h => wpc_sound (tbl := []) (μ := []) mixed _ _ _ (by
    have h1 := Vt.sound _ h
    refine Eq.mp ?_ h1
    kernel_rfl)) N x o h
abbrev l12_21 : List (Nat × Sh) := [(0, .val (.list tLn)), (1, .val (.list tLn)), (2, .val (.list tLn)), (10, .val (.list tLn)), (12, .val (.list (.list tS))), (16, .val tI)]
noncomputable def b12_21 : Code := loopBody 21 (bodyOf Try.f12)
noncomputable def U12_21 (N : Nat) (s0 : (List Ln)) (s1 : (List Ln)) (s2 : (List Ln)) (s10 : (List Ln)) (s12 : (List (List Bs))) (s16 : Int) : Vt (Lp (shTy l12_21).I ((List Ln) × (List (List Bs)) × Int)) (O3 (Option D)) (encO 120 l12_21 [2] (fun q => some (E12 q))) :=
  .br (decide (s16 < (s12.length : Int))) (.ck (inR s16 s12.length) (.c1 (P27 N s0 s1 s2 (atI (.list tS) s12 s16)) (fun x1 => .br (decide ((0 : Int) ≤ x1)) (.ck ((0 : Int) ≤ 0 ∧ (0 : Int) ≤ (IntKind.i64.wrap (((atI (.list tS) s12 s16).length : Int) - 1)) ∧ (IntKind.i64.wrap (((atI (.list tS) s12 s16).length : Int) - 1)) ≤ ((atI (.list tS) s12 s16).length : Int)) (.ck (inR (IntKind.i64.wrap (((atI (.list tS) s12 s16).length : Int) - 1)) (atI (.list tS) s12 s16).length) (.c1 (P28o N s10 (slc (atI (.list tS) s12 s16) 0 (IntKind.i64.wrap (((atI (.list tS) s12 s16).length : Int) - 1))) (atI tS (atI (.list tS) s12 s16) (IntKind.i64.wrap (((atI (.list tS) s12 s16).length : Int) - 1))) x1) (fun x2 => .leaf (.next (s0, s1, s2, x2, s12, (IntKind.i64.wrap (s16 + 1)))))))) (.leaf (.next (s0, s1, s2, s10, s12, (IntKind.i64.wrap (s16 + 1)))))))) (.leaf (.brk 0 (s0, s1, s2, s10, s12, s16)))
noncomputable def L12_21 (N : Nat) (s0 : (List Ln)) (s1 : (List Ln)) (s2 : (List Ln)) (s10 : (List Ln)) (s12 : (List (List Bs))) (s16 : Int) : Option (Lp ((List Ln) × (List Ln) × (List Ln) × (List Ln) × (List (List Bs)) × Int) ((List Ln) × (List (List Bs)) × Int)) := (U12_21 N s0 s1 s2 s10 s12 s16).eval
noncomputable def W12_21 (N : Nat) (x : ((List Ln) × (List Ln) × (List Ln) × (List Ln) × (List (List Bs)) × Int)) : Option (Lp ((List Ln) × (List Ln) × (List Ln) × (List Ln) × (List (List Bs)) × Int) ((List Ln) × (List (List Bs)) × Int)) := runLoop (fun x => L12_21 N x.1 x.2.1 x.2.2.1 x.2.2.2.1 x.2.2.2.2.1 x.2.2.2.2.2) N x
theorem WS12_21 (N : Nat) (x : (shTy l12_21).I) : ∀ o, W12_21 N x = some o → S Try.prog (.loop b12_21) (buildSt 120 l12_21 x) (stepZ (rdD Try.prog Try.f12 false) l12_21 (encO 120 l12_21 [2] (fun q => some (E12 q)) o)) :=
  fun o h => loop_S (l := l12_21) (step := fun x => L12_21 N x.1 x.2.1 x.2.2.1 x.2.2.2.1 x.2.2.2.2.1 x.2.2.2.2.2) (fun x o h => wpc_sound (tbl := [(8, [0], l12_8)]) (μ := [118]) mixed _ _ _ (by
    have h1 := Vt.sound _ h
    refine Eq.mp ?_ h1
    kernel_rfl)) N x o h
noncomputable def V12 (N : Nat) (a0 : (List Ln)) (a1 : (List Ln)) (a2 : (List Ln)) : Vt ((List Ln) × (List (List Bs)) × Int) (Option D) (fun q => some (E12 q)) :=
  .c1 (P15 N a0) (fun x1 => .br (!x1) (.leaf (([] : (List Ln)), ([] : (List (List Bs))), 1)) (.c1 (P15 N a1) (fun x2 => .br (!x2) (.leaf (([] : (List Ln)), ([] : (List (List Bs))), 1)) (.c1 (P15 N a2) (fun x3 => .br (!x3) (.leaf (([] : (List Ln)), ([] : (List (List Bs))), 1)) (.c1 (P26 N a0 a1 a2) (fun x4 => .f1 (l := l12_8) (o := W12_8 N (a0, a1, a2, ([] : (List (List Bs))), ([] : (List Ln)), 0, x4, 0)) (WS12_8 N (a0, a1, a2, ([] : (List (List Bs))), ([] : (List Ln)), 0, x4, 0)) (fun x2 => .br (decide ((0 : Int) < (x2.2.2.2.1.length : Int))) (.leaf (([] : (List Ln)), x2.2.2.2.1, 8)) (.br (decide ((200 : Int) < x2.2.2.2.2.2.1)) (.leaf (([] : (List Ln)), ([] : (List (List Bs))), 5)) (.f1 (l := l12_21) (o := W12_21 N (x2.1, x2.2.1, x2.2.2.1, x2.2.2.2.2.1, x2.2.2.2.2.2.2.1, 0)) (WS12_21 N (x2.1, x2.2.1, x2.2.2.1, x2.2.2.2.2.1, x2.2.2.2.2.2.2.1, 0)) (fun x3 => .leaf (x3.2.2.2.1, ([] : (List (List Bs))), 0))))))))))))
noncomputable def F12 (N : Nat) (a0 : (List Ln)) (a1 : (List Ln)) (a2 : (List Ln)) : Option ((List Ln) × (List (List Bs)) × Int) := (V12 N a0 a1 a2).eval
def t12 : List (Nat × List Nat × List (Nat × Sh)) := [(8, [0], l12_8), (21, [2], l12_21)]
theorem P12 (N : Nat) (a0 : (List Ln)) (a1 : (List Ln)) (a2 : (List Ln)) : ∀ r, F12 N a0 a1 a2 = some r → Spec Try.prog 12 [.val (.list tLn) a0, .val (.list tLn) a1, .val (.list tLn) a2] (E12 r) := fun r h => Spec_of (fn := Try.f12) rfl rfl rfl rfl false (wpc_sound (tbl := t12) (μ := [118]) mixed _ _ _ (by
  have h1 := Vt.sound _ h
  refine Eq.mp ?_ h1
  kernel_rfl))

/-! ferryslip/ferryslipref03.Same -/
def E13 : Bool → D := fun x => encV tB x
abbrev l13_4 : List (Nat × Sh) := [(0, .val (.list tLn)), (1, .val (.list tLn)), (5, .val tI)]
noncomputable def b13_4 : Code := loopBody 4 (bodyOf Try.f13)
noncomputable def U13_4 (N : Nat) (s0 : (List Ln)) (s1 : (List Ln)) (s5 : Int) : Vt (Lp (shTy l13_4).I Bool) (O3 (Option D)) (encO 26 l13_4 [0] (fun q => some (E13 q))) :=
  .br (decide (s5 < (s0.length : Int))) (.ck (inR s5 s0.length) (.ck (inR s5 s1.length) (.br (!((((atI tLn s0 s5).1) == ((atI tLn s1 s5).1)) && ((((atI tLn s0 s5).2.1) == ((atI tLn s1 s5).2.1)) && ((((atI tLn s0 s5).2.2) == ((atI tLn s1 s5).2.2)) && true)))) (.leaf (.ret false)) (.leaf (.next (s0, s1, (IntKind.i64.wrap (s5 + 1)))))))) (.leaf (.brk 0 (s0, s1, s5)))
noncomputable def L13_4 (N : Nat) (s0 : (List Ln)) (s1 : (List Ln)) (s5 : Int) : Option (Lp ((List Ln) × (List Ln) × Int) Bool) := (U13_4 N s0 s1 s5).eval
noncomputable def W13_4 (N : Nat) (x : ((List Ln) × (List Ln) × Int)) : Option (Lp ((List Ln) × (List Ln) × Int) Bool) := runLoop (fun x => L13_4 N x.1 x.2.1 x.2.2) N x
theorem WS13_4 (N : Nat) (x : (shTy l13_4).I) : ∀ o, W13_4 N x = some o → S Try.prog (.loop b13_4) (buildSt 26 l13_4 x) (stepZ (rdD Try.prog Try.f13 false) l13_4 (encO 26 l13_4 [0] (fun q => some (E13 q)) o)) :=
  fun o h => loop_S (l := l13_4) (step := fun x => L13_4 N x.1 x.2.1 x.2.2) (fun x o h => wpc_sound (tbl := []) (μ := []) mixed _ _ _ (by
    have h1 := Vt.sound _ h
    refine Eq.mp ?_ h1
    kernel_rfl)) N x o h
noncomputable def V13 (N : Nat) (a0 : (List Ln)) (a1 : (List Ln)) : Vt Bool (Option D) (fun q => some (E13 q)) :=
  .br ((a0.length : Int) != (a1.length : Int)) (.leaf false) (.f1 (l := l13_4) (o := W13_4 N (a0, a1, 0)) (WS13_4 N (a0, a1, 0)) (fun x1 => .leaf true))
noncomputable def F13 (N : Nat) (a0 : (List Ln)) (a1 : (List Ln)) : Option Bool := (V13 N a0 a1).eval
def t13 : List (Nat × List Nat × List (Nat × Sh)) := [(4, [0], l13_4)]
theorem P13 (N : Nat) (a0 : (List Ln)) (a1 : (List Ln)) : ∀ r, F13 N a0 a1 = some r → Spec Try.prog 13 [.val (.list tLn) a0, .val (.list tLn) a1] (E13 r) := fun r h => Spec_of (fn := Try.f13) rfl rfl rfl rfl false (wpc_sound (tbl := t13) (μ := []) mixed _ _ _ (by
  have h1 := Vt.sound _ h
  refine Eq.mp ?_ h1
  kernel_rfl))

/-! ferryslip/ferrysliplaw09.same -/
def E14 : Bool → D := fun x => encV tB x
abbrev l14_4 : List (Nat × Sh) := [(0, .val (.list (.list tS))), (1, .val (.list (.list tS))), (12, .val tI), (13, .val tI)]
noncomputable def b14_4 : Code := loopBody 4 (bodyOf Try.f14)
noncomputable def U14_4 (N : Nat) (s0 : (List (List Bs))) (s1 : (List (List Bs))) (s12 : Int) (s13 : Int) : Vt (Lp (shTy l14_4).I Bool) (O3 (Option D)) (encO 27 l14_4 [0] (fun q => some (E14 q))) :=
  .br (decide (s13 < s12)) (.ck (inR s13 s0.length) (.ck (inR s13 s1.length) (.c1 (P22 N (atI (.list tS) s0 s13) (atI (.list tS) s1 s13)) (fun x1 => .br (!x1) (.leaf (.ret false)) (.leaf (.next (s0, s1, s12, (IntKind.i64.wrap (s13 + 1))))))))) (.leaf (.brk 0 (s0, s1, s12, s13)))
noncomputable def L14_4 (N : Nat) (s0 : (List (List Bs))) (s1 : (List (List Bs))) (s12 : Int) (s13 : Int) : Option (Lp ((List (List Bs)) × (List (List Bs)) × Int × Int) Bool) := (U14_4 N s0 s1 s12 s13).eval
noncomputable def W14_4 (N : Nat) (x : ((List (List Bs)) × (List (List Bs)) × Int × Int)) : Option (Lp ((List (List Bs)) × (List (List Bs)) × Int × Int) Bool) := runLoop (fun x => L14_4 N x.1 x.2.1 x.2.2.1 x.2.2.2) N x
theorem WS14_4 (N : Nat) (x : (shTy l14_4).I) : ∀ o, W14_4 N x = some o → S Try.prog (.loop b14_4) (buildSt 27 l14_4 x) (stepZ (rdD Try.prog Try.f14 false) l14_4 (encO 27 l14_4 [0] (fun q => some (E14 q)) o)) :=
  fun o h => loop_S (l := l14_4) (step := fun x => L14_4 N x.1 x.2.1 x.2.2.1 x.2.2.2) (fun x o h => wpc_sound (tbl := []) (μ := []) mixed _ _ _ (by
    have h1 := Vt.sound _ h
    refine Eq.mp ?_ h1
    kernel_rfl)) N x o h
noncomputable def V14 (N : Nat) (a0 : (List (List Bs))) (a1 : (List (List Bs))) : Vt Bool (Option D) (fun q => some (E14 q)) :=
  .br ((a0.length : Int) != (a1.length : Int)) (.leaf false) (.f1 (l := l14_4) (o := W14_4 N (a0, a1, (a0.length : Int), 0)) (WS14_4 N (a0, a1, (a0.length : Int), 0)) (fun x1 => .leaf true))
noncomputable def F14 (N : Nat) (a0 : (List (List Bs))) (a1 : (List (List Bs))) : Option Bool := (V14 N a0 a1).eval
def t14 : List (Nat × List Nat × List (Nat × Sh)) := [(4, [0], l14_4)]
theorem P14 (N : Nat) (a0 : (List (List Bs))) (a1 : (List (List Bs))) : ∀ r, F14 N a0 a1 = some r → Spec Try.prog 14 [.val (.list (.list tS)) a0, .val (.list (.list tS)) a1] (E14 r) := fun r h => Spec_of (fn := Try.f14) rfl rfl rfl rfl false (wpc_sound (tbl := t14) (μ := []) mixed _ _ _ (by
  have h1 := Vt.sound _ h
  refine Eq.mp ?_ h1
  kernel_rfl))

/-! ferryslip/ferrysliplaw09.MergeExact -/
def E3 : Bool → D := fun x => encV tB x
noncomputable def V3 (N : Nat) (a0 : (List Ln)) (a1 : (List Ln)) (a2 : (List Ln)) : Vt Bool (Option D) (fun q => some (E3 q)) :=
  .c1 (P9 N a0 a1 a2) (fun x1 => .br (!x1) (.c1 (P10 N) (fun x2 => .leaf x2)) (.c3 (P11 N a0 a1 a2) (fun x3 x4 x5 => .c3 (P12 N a0 a1 a2) (fun x6 x7 x8 => .c1 (P13 N x3 x6) (fun x9 => .br x9 (.c1 (P14 N x4 x7) (fun x10 => .br x10 (.br (x5 == x8) (.c1 (P10 N) (fun x11 => .leaf x11)) (.leaf false)) (.leaf false))) (.leaf false))))))
noncomputable def F3 (N : Nat) (a0 : (List Ln)) (a1 : (List Ln)) (a2 : (List Ln)) : Option Bool := (V3 N a0 a1 a2).eval
def t3 : List (Nat × List Nat × List (Nat × Sh)) := []
theorem P3 (N : Nat) (a0 : (List Ln)) (a1 : (List Ln)) (a2 : (List Ln)) : ∀ r, F3 N a0 a1 a2 = some r → Spec Try.prog 3 [.val (.list tLn) a0, .val (.list tLn) a1, .val (.list tLn) a2] (E3 r) := fun r h => Spec_of (fn := Try.f3) rfl rfl rfl rfl false (wpc_sound (tbl := t3) (μ := []) mixed _ _ _ (by
  have h1 := Vt.sound _ h
  refine Eq.mp ?_ h1
  kernel_rfl))

/-! ferryslip/ferrysliplaw09.MergeSides -/
def E4 : Bool → D := fun x => encV tB x
noncomputable def V4 (N : Nat) (a0 : (List Ln)) (a1 : (List Ln)) (a2 : (List Ln)) : Vt Bool (Option D) (fun q => some (E4 q)) :=
  .c1 (P9 N a0 a1 a2) (fun x1 => .br (!x1) (.c1 (P10 N) (fun x2 => .leaf x2)) (.c3 (P11 N a0 a1 a2) (fun x3 x4 x5 => .c3 (P11 N a0 a2 a1) (fun x6 x7 x8 => .c1 (P13 N x3 x6) (fun x9 => .br x9 (.c1 (P14 N x4 x7) (fun x10 => .br x10 (.br (x5 == x8) (.br ((x5 == 8) == (decide ((0 : Int) < (x4.length : Int)))) (.br (x5 == 0) (.c1 (P10 N) (fun x11 => .leaf x11)) (.br ((x3.length : Int) == 0) (.c1 (P10 N) (fun x12 => .leaf x12)) (.leaf false))) (.leaf false)) (.leaf false)) (.leaf false))) (.leaf false))))))
noncomputable def F4 (N : Nat) (a0 : (List Ln)) (a1 : (List Ln)) (a2 : (List Ln)) : Option Bool := (V4 N a0 a1 a2).eval
def t4 : List (Nat × List Nat × List (Nat × Sh)) := []
theorem P4 (N : Nat) (a0 : (List Ln)) (a1 : (List Ln)) (a2 : (List Ln)) : ∀ r, F4 N a0 a1 a2 = some r → Spec Try.prog 4 [.val (.list tLn) a0, .val (.list tLn) a1, .val (.list tLn) a2] (E4 r) := fun r h => Spec_of (fn := Try.f4) rfl rfl rfl rfl false (wpc_sound (tbl := t4) (μ := []) mixed _ _ _ (by
  have h1 := Vt.sound _ h
  refine Eq.mp ?_ h1
  kernel_rfl))

/-! ferryslip/ferrysliplaw09.MergeOne -/
def E5 : Bool → D := fun x => encV tB x
noncomputable def V5 (N : Nat) (a0 : (List Ln)) (a1 : (List Ln)) : Vt Bool (Option D) (fun q => some (E5 q)) :=
  .c1 (fun x h => Spec.weak (ds := [.val (.list tLn) a0, .val (.list tLn) a1, .nils]) (P9 N a0 a1 ([] : (List Ln)) x h) ⟨rfl, rfl, rfl, trivial⟩) (fun x1 => .br (!x1) (.c1 (P10 N) (fun x2 => .leaf x2)) (.c3 (P11 N a0 a1 a0) (fun x3 x4 x5 => .c3 (P11 N a0 a0 a1) (fun x6 x7 x8 => .c3 (P11 N a0 a1 a1) (fun x9 x10 x11 => .c1 (P15 N a0) (fun x12 => .br (!x12) (.br (x5 == 1) (.br (x8 == 1) (.br (x11 == 1) (.c1 (P10 N) (fun x13 => .leaf x13)) (.leaf false)) (.leaf false)) (.leaf false)) (.c1 (P15 N a1) (fun x14 => .br (!x14) (.br (x5 == 1) (.br (x8 == 1) (.br (x11 == 1) (.c1 (P10 N) (fun x15 => .leaf x15)) (.leaf false)) (.leaf false)) (.leaf false)) (.br (x5 == 0) (.br (x8 == 0) (.br (x11 == 0) (.br ((IntKind.i64.wrap ((IntKind.i64.wrap ((x4.length : Int) + (x7.length : Int))) + (x10.length : Int))) == 0) (.c1 (P13 N x3 a1) (fun x16 => .br x16 (.c1 (P13 N x6 a1) (fun x17 => .br x17 (.c1 (P13 N x9 a1) (fun x18 => .br x18 (.c1 (P10 N) (fun x19 => .leaf x19)) (.leaf false))) (.leaf false))) (.leaf false))) (.leaf false)) (.leaf false)) (.leaf false)) (.leaf false))))))))))
noncomputable def F5 (N : Nat) (a0 : (List Ln)) (a1 : (List Ln)) : Option Bool := (V5 N a0 a1).eval
def t5 : List (Nat × List Nat × List (Nat × Sh)) := []
theorem P5 (N : Nat) (a0 : (List Ln)) (a1 : (List Ln)) : ∀ r, F5 N a0 a1 = some r → Spec Try.prog 5 [.val (.list tLn) a0, .val (.list tLn) a1] (E5 r) := fun r h => Spec_of (fn := Try.f5) rfl rfl rfl rfl false (wpc_sound (tbl := t5) (μ := []) mixed _ _ _ (by
  have h1 := Vt.sound _ h
  refine Eq.mp ?_ h1
  kernel_rfl))

/-! ferryslip/ferrysliplaw09.MergeTrue -/
def E6 : Bool → D := fun x => encV tB x
abbrev l6_9 : List (Nat × Sh) := [(0, .val (.list tLn)), (1, .val (.list tLn)), (2, .val (.list tLn)), (7, .val (.list tLn)), (53, .val (.list tLn)), (54, .val tI), (55, .val tI)]
noncomputable def b6_9 : Code := loopBody 9 (bodyOf Try.f6)
noncomputable def U6_9 (N : Nat) (s0 : (List Ln)) (s1 : (List Ln)) (s2 : (List Ln)) (s7 : (List Ln)) (s53 : (List Ln)) (s54 : Int) (s55 : Int) : Vt (Lp (shTy l6_9).I Bool) (O3 (Option D)) (encO 174 l6_9 [0] (fun q => some (E6 q))) :=
  .br (decide (s55 < s54)) (.ck (inR s55 s53.length) (.c2 (P17o N s7 s55) (fun x1 x2 => .c2 (P18 N s1 x1) (fun x3 x4 => .c2 (P18 N s2 x1) (fun x5 x6 => .br (x2 != 0) (.leaf (.ret false)) (.br x4 (.ck (inR x3 s1.length) (.br (!((((atI tLn s1 x3).1) == ((atI tLn s53 s55).1)) && ((((atI tLn s1 x3).2.1) == ((atI tLn s53 s55).2.1)) && ((((atI tLn s1 x3).2.2) == ((atI tLn s53 s55).2.2)) && true)))) (.br x6 (.ck (inR x5 s2.length) (.br (!((((atI tLn s2 x5).1) == ((atI tLn s53 s55).1)) && ((((atI tLn s2 x5).2.1) == ((atI tLn s53 s55).2.1)) && ((((atI tLn s2 x5).2.2) == ((atI tLn s53 s55).2.2)) && true)))) (.leaf (.ret false)) (.leaf (.next (s0, s1, s2, s7, s53, s54, (IntKind.i64.wrap (s55 + 1))))))) (.leaf (.ret false))) (.leaf (.next (s0, s1, s2, s7, s53, s54, (IntKind.i64.wrap (s55 + 1))))))) (.br x6 (.ck (inR x5 s2.length) (.br (!((((atI tLn s2 x5).1) == ((atI tLn s53 s55).1)) && ((((atI tLn s2 x5).2.1) == ((atI tLn s53 s55).2.1)) && ((((atI tLn s2 x5).2.2) == ((atI tLn s53 s55).2.2)) && true)))) (.leaf (.ret false)) (.leaf (.next (s0, s1, s2, s7, s53, s54, (IntKind.i64.wrap (s55 + 1))))))) (.leaf (.ret false))))))))) (.leaf (.brk 0 (s0, s1, s2, s7, s53, s54, s55)))
noncomputable def L6_9 (N : Nat) (s0 : (List Ln)) (s1 : (List Ln)) (s2 : (List Ln)) (s7 : (List Ln)) (s53 : (List Ln)) (s54 : Int) (s55 : Int) : Option (Lp ((List Ln) × (List Ln) × (List Ln) × (List Ln) × (List Ln) × Int × Int) Bool) := (U6_9 N s0 s1 s2 s7 s53 s54 s55).eval
noncomputable def W6_9 (N : Nat) (x : ((List Ln) × (List Ln) × (List Ln) × (List Ln) × (List Ln) × Int × Int)) : Option (Lp ((List Ln) × (List Ln) × (List Ln) × (List Ln) × (List Ln) × Int × Int) Bool) := runLoop (fun x => L6_9 N x.1 x.2.1 x.2.2.1 x.2.2.2.1 x.2.2.2.2.1 x.2.2.2.2.2.1 x.2.2.2.2.2.2) N x
theorem WS6_9 (N : Nat) (x : (shTy l6_9).I) : ∀ o, W6_9 N x = some o → S Try.prog (.loop b6_9) (buildSt 174 l6_9 x) (stepZ (rdD Try.prog Try.f6 false) l6_9 (encO 174 l6_9 [0] (fun q => some (E6 q)) o)) :=
  fun o h => loop_S (l := l6_9) (step := fun x => L6_9 N x.1 x.2.1 x.2.2.1 x.2.2.2.1 x.2.2.2.2.1 x.2.2.2.2.2.1 x.2.2.2.2.2.2) (fun x o h => wpc_sound (tbl := []) (μ := [63]) mixed _ _ _ (by
    have h1 := Vt.sound _ h
    refine Eq.mp ?_ h1
    kernel_rfl)) N x o h
abbrev l6_18 : List (Nat × Sh) := [(0, .val (.list tLn)), (1, .val (.list tLn)), (2, .val (.list tLn)), (7, .val (.list tLn)), (105, .val (.list tLn)), (106, .val tI), (107, .val tI)]
noncomputable def b6_18 : Code := loopBody 18 (bodyOf Try.f6)
noncomputable def U6_18 (N : Nat) (s0 : (List Ln)) (s1 : (List Ln)) (s2 : (List Ln)) (s7 : (List Ln)) (s105 : (List Ln)) (s106 : Int) (s107 : Int) : Vt (Lp (shTy l6_18).I Bool) (O3 (Option D)) (encO 174 l6_18 [2] (fun q => some (E6 q))) :=
  .br (decide (s107 < s106)) (.ck (inR s107 s105.length) (.c2 (P17o N s0 s107) (fun x1 x2 => .c2 (P18 N s1 x1) (fun x3 x4 => .c2 (P18 N s2 x1) (fun x5 x6 => .c2 (P18 N s7 x1) (fun x7 x8 => .br (x2 != 0) (.leaf (.ret false)) (.br x4 (.br x6 (.ck (inR x3 s1.length) (.br ((((atI tLn s1 x3).1) == ((atI tLn s105 s107).1)) && ((((atI tLn s1 x3).2.1) == ((atI tLn s105 s107).2.1)) && ((((atI tLn s1 x3).2.2) == ((atI tLn s105 s107).2.2)) && true))) (.ck (inR x5 s2.length) (.br ((((atI tLn s2 x5).1) == ((atI tLn s105 s107).1)) && ((((atI tLn s2 x5).2.1) == ((atI tLn s105 s107).2.1)) && ((((atI tLn s2 x5).2.2) == ((atI tLn s105 s107).2.2)) && true))) (.br (!x8) (.leaf (.ret false)) (.ck (inR x7 s7.length) (.br (!((((atI tLn s7 x7).1) == ((atI tLn s105 s107).1)) && ((((atI tLn s7 x7).2.1) == ((atI tLn s105 s107).2.1)) && ((((atI tLn s7 x7).2.2) == ((atI tLn s105 s107).2.2)) && true)))) (.leaf (.ret false)) (.leaf (.next (s0, s1, s2, s7, s105, s106, (IntKind.i64.wrap (s107 + 1)))))))) (.leaf (.next (s0, s1, s2, s7, s105, s106, (IntKind.i64.wrap (s107 + 1))))))) (.leaf (.next (s0, s1, s2, s7, s105, s106, (IntKind.i64.wrap (s107 + 1))))))) (.leaf (.next (s0, s1, s2, s7, s105, s106, (IntKind.i64.wrap (s107 + 1)))))) (.leaf (.next (s0, s1, s2, s7, s105, s106, (IntKind.i64.wrap (s107 + 1)))))))))))) (.leaf (.brk 0 (s0, s1, s2, s7, s105, s106, s107)))
noncomputable def L6_18 (N : Nat) (s0 : (List Ln)) (s1 : (List Ln)) (s2 : (List Ln)) (s7 : (List Ln)) (s105 : (List Ln)) (s106 : Int) (s107 : Int) : Option (Lp ((List Ln) × (List Ln) × (List Ln) × (List Ln) × (List Ln) × Int × Int) Bool) := (U6_18 N s0 s1 s2 s7 s105 s106 s107).eval
noncomputable def W6_18 (N : Nat) (x : ((List Ln) × (List Ln) × (List Ln) × (List Ln) × (List Ln) × Int × Int)) : Option (Lp ((List Ln) × (List Ln) × (List Ln) × (List Ln) × (List Ln) × Int × Int) Bool) := runLoop (fun x => L6_18 N x.1 x.2.1 x.2.2.1 x.2.2.2.1 x.2.2.2.2.1 x.2.2.2.2.2.1 x.2.2.2.2.2.2) N x
theorem WS6_18 (N : Nat) (x : (shTy l6_18).I) : ∀ o, W6_18 N x = some o → S Try.prog (.loop b6_18) (buildSt 174 l6_18 x) (stepZ (rdD Try.prog Try.f6 false) l6_18 (encO 174 l6_18 [2] (fun q => some (E6 q)) o)) :=
  fun o h => loop_S (l := l6_18) (step := fun x => L6_18 N x.1 x.2.1 x.2.2.1 x.2.2.2.1 x.2.2.2.2.1 x.2.2.2.2.2.1 x.2.2.2.2.2.2) (fun x o h => wpc_sound (tbl := [(9, [0], l6_9)]) (μ := [63, 115]) mixed _ _ _ (by
    have h1 := Vt.sound _ h
    refine Eq.mp ?_ h1
    kernel_rfl)) N x o h
noncomputable def V6 (N : Nat) (a0 : (List Ln)) (a1 : (List Ln)) (a2 : (List Ln)) : Vt Bool (Option D) (fun q => some (E6 q)) :=
  .c1 (P9 N a0 a1 a2) (fun x1 => .br (!x1) (.c1 (P10 N) (fun x2 => .leaf x2)) (.c3 (P11 N a0 a1 a2) (fun x3 x4 x5 => .br (x5 != 0) (.br ((x3.length : Int) == 0) (.c1 (P10 N) (fun x6 => .leaf x6)) (.leaf false)) (.c1 (P16 N x3) (fun x7 => .br (!x7) (.leaf false) (.f1 (l := l6_9) (o := W6_9 N (a0, a1, a2, x3, x3, (x3.length : Int), 0)) (WS6_9 N (a0, a1, a2, x3, x3, (x3.length : Int), 0)) (fun x8 => .f1 (l := l6_18) (o := W6_18 N (x8.1, x8.2.1, x8.2.2.1, x8.2.2.2.1, x8.1, (x8.1.length : Int), 0)) (WS6_18 N (x8.1, x8.2.1, x8.2.2.1, x8.2.2.2.1, x8.1, (x8.1.length : Int), 0)) (fun x9 => .c1 (P10 N) (fun x10 => .leaf x10)))))))))
noncomputable def F6 (N : Nat) (a0 : (List Ln)) (a1 : (List Ln)) (a2 : (List Ln)) : Option Bool := (V6 N a0 a1 a2).eval
def t6 : List (Nat × List Nat × List (Nat × Sh)) := [(9, [0], l6_9), (18, [2], l6_18)]
theorem P6 (N : Nat) (a0 : (List Ln)) (a1 : (List Ln)) (a2 : (List Ln)) : ∀ r, F6 N a0 a1 a2 = some r → Spec Try.prog 6 [.val (.list tLn) a0, .val (.list tLn) a1, .val (.list tLn) a2] (E6 r) := fun r h => Spec_of (fn := Try.f6) rfl rfl rfl rfl false (wpc_sound (tbl := t6) (μ := [63, 115]) mixed _ _ _ (by
  have h1 := Vt.sound _ h
  refine Eq.mp ?_ h1
  kernel_rfl))

/-! ferryslip/ferrysliplaw09.MergeAgain -/
def E7 : Bool → D := fun x => encV tB x
noncomputable def V7 (N : Nat) (a0 : (List Ln)) (a1 : (List Ln)) (a2 : (List Ln)) : Vt Bool (Option D) (fun q => some (E7 q)) :=
  .c1 (P9 N a0 a1 a2) (fun x1 => .br (!x1) (.c1 (P10 N) (fun x2 => .leaf x2)) (.c3 (P11 N a0 a1 a2) (fun x3 x4 x5 => .br (x5 != 0) (.br ((x3.length : Int) == 0) (.c1 (P10 N) (fun x6 => .leaf x6)) (.leaf false)) (.c3 (P11 N a0 x3 a2) (fun x7 x8 x9 => .c3 (P11 N a0 a1 x3) (fun x10 x11 x12 => .br (x9 == 0) (.br (x12 == 0) (.c1 (P13 N x3 x7) (fun x13 => .br x13 (.c1 (P13 N x3 x10) (fun x14 => .br x14 (.c1 (P10 N) (fun x15 => .leaf x15)) (.leaf false))) (.leaf false))) (.leaf false)) (.leaf false)))))))
noncomputable def F7 (N : Nat) (a0 : (List Ln)) (a1 : (List Ln)) (a2 : (List Ln)) : Option Bool := (V7 N a0 a1 a2).eval
def t7 : List (Nat × List Nat × List (Nat × Sh)) := []
theorem P7 (N : Nat) (a0 : (List Ln)) (a1 : (List Ln)) (a2 : (List Ln)) : ∀ r, F7 N a0 a1 a2 = some r → Spec Try.prog 7 [.val (.list tLn) a0, .val (.list tLn) a1, .val (.list tLn) a2] (E7 r) := fun r h => Spec_of (fn := Try.f7) rfl rfl rfl rfl false (wpc_sound (tbl := t7) (μ := []) mixed _ _ _ (by
  have h1 := Vt.sound _ h
  refine Eq.mp ?_ h1
  kernel_rfl))

/-! ferryslip/tree.End -/
def E49 : Int → D := fun x => encV tI x
abbrev l49_4 : List (Nat × Sh) := [(0, .val (.list tLn)), (1, .val tI), (5, .val tI)]
noncomputable def b49_4 : Code := loopBody 4 (bodyOf Try.f49)
noncomputable def U49_4 (N : Nat) (s0 : (List Ln)) (s1 : Int) (s5 : Int) : Vt (Lp (shTy l49_4).I Int) (O3 (Option D)) (encO 32 l49_4 [0] (fun q => some (E49 q))) :=
  .br (decide (s5 < (s0.length : Int))) (.ck (inR s5 s0.length) (.ck (inR s1 s0.length) (.br (decide (((atI tLn s0 s1).1) < ((atI tLn s0 s5).1))) (.leaf (.next (s0, s1, (IntKind.i64.wrap (s5 + 1))))) (.leaf (.brk 0 (s0, s1, s5)))))) (.leaf (.brk 0 (s0, s1, s5)))
noncomputable def L49_4 (N : Nat) (s0 : (List Ln)) (s1 : Int) (s5 : Int) : Option (Lp ((List Ln) × Int × Int) Int) := (U49_4 N s0 s1 s5).eval
noncomputable def W49_4 (N : Nat) (x : ((List Ln) × Int × Int)) : Option (Lp ((List Ln) × Int × Int) Int) := runLoop (fun x => L49_4 N x.1 x.2.1 x.2.2) N x
theorem WS49_4 (N : Nat) (x : (shTy l49_4).I) : ∀ o, W49_4 N x = some o → S Try.prog (.loop b49_4) (buildSt 32 l49_4 x) (stepZ (rdD Try.prog Try.f49 false) l49_4 (encO 32 l49_4 [0] (fun q => some (E49 q)) o)) :=
  fun o h => loop_S (l := l49_4) (step := fun x => L49_4 N x.1 x.2.1 x.2.2) (fun x o h => wpc_sound (tbl := []) (μ := []) mixed _ _ _ (by
    have h1 := Vt.sound _ h
    refine Eq.mp ?_ h1
    kernel_rfl)) N x o h
noncomputable def V49 (N : Nat) (a0 : (List Ln)) (a1 : Int) : Vt Int (Option D) (fun q => some (E49 q)) :=
  .c1 (P30 N a0 a1) (fun x1 => .br (!x1) (.leaf 0) (.f1 (l := l49_4) (o := W49_4 N (a0, a1, (IntKind.i64.wrap (a1 + 1)))) (WS49_4 N (a0, a1, (IntKind.i64.wrap (a1 + 1)))) (fun x2 => .leaf x2.2.2)))
noncomputable def F49 (N : Nat) (a0 : (List Ln)) (a1 : Int) : Option Int := (V49 N a0 a1).eval
def t49 : List (Nat × List Nat × List (Nat × Sh)) := [(4, [0], l49_4)]
theorem P49 (N : Nat) (a0 : (List Ln)) (a1 : Int) : ∀ r, F49 N a0 a1 = some r → Spec Try.prog 49 [.val (.list tLn) a0, .val tI a1] (E49 r) := fun r h => Spec_of (fn := Try.f49) rfl rfl rfl rfl false (wpc_sound (tbl := t49) (μ := []) mixed _ _ _ (by
  have h1 := Vt.sound _ h
  refine Eq.mp ?_ h1
  kernel_rfl))

/-! ferryslip/diff.gone -/
def E33o : (List (Int × ((List Bs) × Int))) → D := fun x => .own 45 (.pair tI (.pair (.list tS) tI)) x
abbrev l33o_3 : List (Nat × Sh) := [(0, .val (.list tLn)), (1, .val (.list tLn)), (5, .row false 35 45 (.pair tI (.pair (.list tS) tI))), (6, .val tI)]
noncomputable def b33o_3 : Code := loopBody 3 (bodyOf Try.f33)
noncomputable def U33o_3 (N : Nat) (s0 : (List Ln)) (s1 : (List Ln)) (s5 : (List (Int × ((List Bs) × Int)))) (s6 : Int) : Vt (Lp (shTy l33o_3).I (List (Int × ((List Bs) × Int)))) (O3 (Option D)) (encO 41 l33o_3 [0] (fun q => some (E33o q))) :=
  .br (decide (s6 < (s0.length : Int))) (.c2 (P17o N s0 s6) (fun x1 x2 => .c2 (P18 N s1 x1) (fun x3 x4 => .br (!x4) (.ck (room (s5.length + ([(1, x1, 0)] : (List (Int × ((List Bs) × Int)))).length)) (.c1 (P49 N s0 s6) (fun x5 => .leaf (.next (s0, s1, (s5 ++ ([(1, x1, 0)] : (List (Int × ((List Bs) × Int))))), (IntKind.i64.wrap ((IntKind.i64.wrap (x5 - 1)) + 1))))))) (.leaf (.next (s0, s1, s5, (IntKind.i64.wrap (s6 + 1)))))))) (.leaf (.brk 0 (s0, s1, s5, s6)))
noncomputable def L33o_3 (N : Nat) (s0 : (List Ln)) (s1 : (List Ln)) (s5 : (List (Int × ((List Bs) × Int)))) (s6 : Int) : Option (Lp ((List Ln) × (List Ln) × (List (Int × ((List Bs) × Int))) × Int) (List (Int × ((List Bs) × Int)))) := (U33o_3 N s0 s1 s5 s6).eval
noncomputable def W33o_3 (N : Nat) (x : ((List Ln) × (List Ln) × (List (Int × ((List Bs) × Int))) × Int)) : Option (Lp ((List Ln) × (List Ln) × (List (Int × ((List Bs) × Int))) × Int) (List (Int × ((List Bs) × Int)))) := runLoop (fun x => L33o_3 N x.1 x.2.1 x.2.2.1 x.2.2.2) N x
theorem WS33o_3 (N : Nat) (x : (shTy l33o_3).I) : ∀ o, W33o_3 N x = some o → S Try.prog (.loop b33o_3) (buildSt 41 l33o_3 x) (stepZ (rdD Try.prog Try.f33 true) l33o_3 (encO 41 l33o_3 [0] (fun q => some (E33o q)) o)) :=
  fun o h => loop_S (l := l33o_3) (step := fun x => L33o_3 N x.1 x.2.1 x.2.2.1 x.2.2.2) (fun x o h => wpc_sound (tbl := []) (μ := [20]) mixed _ _ _ (by
    have h1 := Vt.sound _ h
    refine Eq.mp ?_ h1
    kernel_rfl)) N x o h
noncomputable def V33o (N : Nat) (a0 : (List Ln)) (a1 : (List Ln)) : Vt (List (Int × ((List Bs) × Int))) (Option D) (fun q => some (E33o q)) :=
  .f1 (l := l33o_3) (o := W33o_3 N (a0, a1, ([] : (List (Int × ((List Bs) × Int)))), 0)) (WS33o_3 N (a0, a1, ([] : (List (Int × ((List Bs) × Int)))), 0)) (fun x5 => .leaf x5.2.2.1)
noncomputable def F33o (N : Nat) (a0 : (List Ln)) (a1 : (List Ln)) : Option (List (Int × ((List Bs) × Int))) := (V33o N a0 a1).eval
def t33o : List (Nat × List Nat × List (Nat × Sh)) := [(3, [0], l33o_3)]
theorem P33o (N : Nat) (a0 : (List Ln)) (a1 : (List Ln)) : ∀ r, F33o N a0 a1 = some r → Spec Try.prog 33 [.val (.list tLn) a0, .val (.list tLn) a1] (E33o r) := fun r h => Spec_of (fn := Try.f33) rfl rfl rfl rfl true (wpc_sound (tbl := t33o) (μ := [20]) mixed _ _ _ (by
  have h1 := Vt.sound _ h
  refine Eq.mp ?_ h1
  kernel_rfl))

/-! ferryslip/diff.Of -/
def E19o : ((List (Int × ((List Bs) × Int))) × Int) → D := fun x => .tup [.own 45 (.pair tI (.pair (.list tS) tI)) x.1, encV tI x.2]
abbrev l19o_6 : List (Nat × Sh) := [(0, .val (.list tLn)), (1, .val (.list tLn)), (6, .row false 24 45 (.pair tI (.pair (.list tS) tI))), (7, .row false 53 45 (.pair tI (.pair (.list tS) tI))), (25, .val (.list tLn)), (26, .val tI), (27, .val tI)]
noncomputable def b19o_6 : Code := loopBody 6 (bodyOf Try.f19)
noncomputable def U19o_6 (N : Nat) (s0 : (List Ln)) (s1 : (List Ln)) (s6 : (List (Int × ((List Bs) × Int)))) (s7 : (List (Int × ((List Bs) × Int)))) (s25 : (List Ln)) (s26 : Int) (s27 : Int) : Vt (Lp (shTy l19o_6).I ((List (Int × ((List Bs) × Int))) × Int)) (O3 (Option D)) (encO 74 l19o_6 [0] (fun q => some (E19o q))) :=
  .br (decide (s27 < s26)) (.ck (inR s27 s25.length) (.c2 (P17o N s1 s27) (fun x1 x2 => .c2 (P18 N s0 x1) (fun x3 x4 => .br (!x4) (.ck (room (s6.length + ([(2, x1, (atI tLn s25 s27).2.2)] : (List (Int × ((List Bs) × Int)))).length)) (.leaf (.next (s0, s1, (s6 ++ ([(2, x1, (atI tLn s25 s27).2.2)] : (List (Int × ((List Bs) × Int))))), s7, s25, s26, (IntKind.i64.wrap (s27 + 1)))))) (.ck (inR x3 s0.length) (.br (((atI tLn s0 x3).2.2) != ((atI tLn s25 s27).2.2)) (.ck (room (s7.length + ([(3, x1, (atI tLn s25 s27).2.2)] : (List (Int × ((List Bs) × Int)))).length)) (.leaf (.next (s0, s1, s6, (s7 ++ ([(3, x1, (atI tLn s25 s27).2.2)] : (List (Int × ((List Bs) × Int))))), s25, s26, (IntKind.i64.wrap (s27 + 1)))))) (.leaf (.next (s0, s1, s6, s7, s25, s26, (IntKind.i64.wrap (s27 + 1))))))))))) (.leaf (.brk 0 (s0, s1, s6, s7, s25, s26, s27)))
noncomputable def L19o_6 (N : Nat) (s0 : (List Ln)) (s1 : (List Ln)) (s6 : (List (Int × ((List Bs) × Int)))) (s7 : (List (Int × ((List Bs) × Int)))) (s25 : (List Ln)) (s26 : Int) (s27 : Int) : Option (Lp ((List Ln) × (List Ln) × (List (Int × ((List Bs) × Int))) × (List (Int × ((List Bs) × Int))) × (List Ln) × Int × Int) ((List (Int × ((List Bs) × Int))) × Int)) := (U19o_6 N s0 s1 s6 s7 s25 s26 s27).eval
noncomputable def W19o_6 (N : Nat) (x : ((List Ln) × (List Ln) × (List (Int × ((List Bs) × Int))) × (List (Int × ((List Bs) × Int))) × (List Ln) × Int × Int)) : Option (Lp ((List Ln) × (List Ln) × (List (Int × ((List Bs) × Int))) × (List (Int × ((List Bs) × Int))) × (List Ln) × Int × Int) ((List (Int × ((List Bs) × Int))) × Int)) := runLoop (fun x => L19o_6 N x.1 x.2.1 x.2.2.1 x.2.2.2.1 x.2.2.2.2.1 x.2.2.2.2.2.1 x.2.2.2.2.2.2) N x
theorem WS19o_6 (N : Nat) (x : (shTy l19o_6).I) : ∀ o, W19o_6 N x = some o → S Try.prog (.loop b19o_6) (buildSt 74 l19o_6 x) (stepZ (rdD Try.prog Try.f19 true) l19o_6 (encO 74 l19o_6 [0] (fun q => some (E19o q)) o)) :=
  fun o h => loop_S (l := l19o_6) (step := fun x => L19o_6 N x.1 x.2.1 x.2.2.1 x.2.2.2.1 x.2.2.2.2.1 x.2.2.2.2.2.1 x.2.2.2.2.2.2) (fun x o h => wpc_sound (tbl := []) (μ := [24, 35]) mixed _ _ _ (by
    have h1 := Vt.sound _ h
    refine Eq.mp ?_ h1
    kernel_rfl)) N x o h
noncomputable def V19o (N : Nat) (a0 : (List Ln)) (a1 : (List Ln)) : Vt ((List (Int × ((List Bs) × Int))) × Int) (Option D) (fun q => some (E19o q)) :=
  .c1 (P16 N a0) (fun x1 => .br (!x1) (.leaf (([] : (List (Int × ((List Bs) × Int)))), 1)) (.c1 (P16 N a1) (fun x2 => .br (!x2) (.leaf (([] : (List (Int × ((List Bs) × Int)))), 1)) (.c1 (P33o N a0 a1) (fun x3 => .f1 (l := l19o_6) (o := W19o_6 N (a0, a1, x3, ([] : (List (Int × ((List Bs) × Int)))), a1, (a1.length : Int), 0)) (WS19o_6 N (a0, a1, x3, ([] : (List (Int × ((List Bs) × Int)))), a1, (a1.length : Int), 0)) (fun x5 => .ck (room (x5.2.2.1.length + x5.2.2.2.1.length)) (.leaf ((x5.2.2.1 ++ x5.2.2.2.1), 0))))))))
noncomputable def F19o (N : Nat) (a0 : (List Ln)) (a1 : (List Ln)) : Option ((List (Int × ((List Bs) × Int))) × Int) := (V19o N a0 a1).eval
def t19o : List (Nat × List Nat × List (Nat × Sh)) := [(6, [0], l19o_6)]
theorem P19o (N : Nat) (a0 : (List Ln)) (a1 : (List Ln)) : ∀ r, F19o N a0 a1 = some r → Spec Try.prog 19 [.val (.list tLn) a0, .val (.list tLn) a1] (E19o r) := fun r h => Spec_of (fn := Try.f19) rfl rfl rfl rfl true (wpc_sound (tbl := t19o) (μ := [24, 35]) mixed _ _ _ (by
  have h1 := Vt.sound _ h
  refine Eq.mp ?_ h1
  kernel_rfl))

/-! slices.Clone[[]ferryslip/api.Line,ferryslip/api.Line] -/
def E34o : (List Ln) → D := fun x => .own 35 tLn x
noncomputable def V34o (N : Nat) (a0 : (List Ln)) : Vt (List Ln) (Option D) (fun q => some (E34o q)) :=
  .nq (a0 = []) (.leaf ([] : (List Ln))) (.ck (room (([] : (List Ln)).length + a0.length)) (.leaf (([] : (List Ln)) ++ a0)))
noncomputable def F34o (N : Nat) (a0 : (List Ln)) : Option (List Ln) := (V34o N a0).eval
def t34o : List (Nat × List Nat × List (Nat × Sh)) := []
theorem P34o (N : Nat) (a0 : (List Ln)) : ∀ r, F34o N a0 = some r → Spec Try.prog 34 [.val (.list tLn) a0] (E34o r) := fun r h => Spec_of (fn := Try.f34) rfl rfl rfl rfl true (wpc_sound (tbl := t34o) (μ := []) mixed _ _ _ (by
  have h1 := Vt.sound _ h
  refine Eq.mp ?_ h1
  kernel_rfl))

/-! ferryslip/lines.sound$1 -/
def E78 : Bool → D := fun x => encV tB x
noncomputable def V78 (N : Nat) (a0 : Bs) : Vt Bool (Option D) (fun q => some (E78 q)) :=
  .leaf (decide ((40 : Int) < (a0.length : Int)))
noncomputable def F78 (N : Nat) (a0 : Bs) : Option Bool := (V78 N a0).eval
def t78 : List (Nat × List Nat × List (Nat × Sh)) := []
theorem P78 (N : Nat) (a0 : Bs) : ∀ r, F78 N a0 = some r → Spec Try.prog 78 [.val tS a0] (E78 r) := fun r h => Spec_of (fn := Try.f78) rfl rfl rfl rfl false (wpc_sound (tbl := t78) (μ := []) mixed _ _ _ (by
  have h1 := Vt.sound _ h
  refine Eq.mp ?_ h1
  kernel_rfl))

/-! slices.IndexFunc[[]string,string] -/
def E83C78 : Int → D := fun x => encV tI x
abbrev l83C78_2 : List (Nat × Sh) := [(0, .val (.list tS)), (1, .fnc 78), (7, .val tI), (8, .val tI)]
noncomputable def b83C78_2 : Code := loopBody 2 (bodyOf Try.f83)
noncomputable def U83C78_2 (N : Nat) (s0 : (List Bs)) (s1 : Bool) (s7 : Int) (s8 : Int) : Vt (Lp (shTy l83C78_2).I Int) (O3 (Option D)) (encO 19 l83C78_2 [0] (fun q => some (E83C78 q))) :=
  .br (decide (s8 < s7)) (.ck (inR s8 s0.length) (.c1 (P78 N (atI tS s0 s8)) (fun x1 => .br x1 (.leaf (.ret s8)) (.leaf (.next (s0, true, s7, (IntKind.i64.wrap (s8 + 1)))))))) (.leaf (.brk 0 (s0, true, s7, s8)))
noncomputable def L83C78_2 (N : Nat) (s0 : (List Bs)) (s1 : Bool) (s7 : Int) (s8 : Int) : Option (Lp ((List Bs) × Bool × Int × Int) Int) := (U83C78_2 N s0 s1 s7 s8).eval
noncomputable def W83C78_2 (N : Nat) (x : ((List Bs) × Bool × Int × Int)) : Option (Lp ((List Bs) × Bool × Int × Int) Int) := runLoop (fun x => L83C78_2 N x.1 x.2.1 x.2.2.1 x.2.2.2) N x
theorem WS83C78_2 (N : Nat) (x : (shTy l83C78_2).I) : ∀ o, W83C78_2 N x = some o → S Try.prog (.loop b83C78_2) (buildSt 19 l83C78_2 x) (stepZ (rdD Try.prog Try.f83 false) l83C78_2 (encO 19 l83C78_2 [0] (fun q => some (E83C78 q)) o)) :=
  fun o h => loop_S (l := l83C78_2) (step := fun x => L83C78_2 N x.1 x.2.1 x.2.2.1 x.2.2.2) (fun x o h => wpc_sound (tbl := []) (μ := []) mixed _ _ _ (by
    have h1 := Vt.sound _ h
    refine Eq.mp ?_ h1
    kernel_rfl)) N x o h
noncomputable def V83C78 (N : Nat) (a0 : (List Bs)) : Vt Int (Option D) (fun q => some (E83C78 q)) :=
  .f1 (l := l83C78_2) (o := W83C78_2 N (a0, true, (a0.length : Int), 0)) (WS83C78_2 N (a0, true, (a0.length : Int), 0)) (fun x1 => .leaf (-1))
noncomputable def F83C78 (N : Nat) (a0 : (List Bs)) : Option Int := (V83C78 N a0).eval
def t83C78 : List (Nat × List Nat × List (Nat × Sh)) := [(2, [0], l83C78_2)]
theorem P83C78 (N : Nat) (a0 : (List Bs)) : ∀ r, F83C78 N a0 = some r → Spec Try.prog 83 [.val (.list tS) a0, .fn (.func 78)] (E83C78 r) := fun r h => Spec_of (fn := Try.f83) rfl rfl rfl rfl false (wpc_sound (tbl := t83C78) (μ := []) mixed _ _ _ (by
  have h1 := Vt.sound _ h
  refine Eq.mp ?_ h1
  kernel_rfl))

/-! slices.ContainsFunc[[]string,string] -/
def E77C78 : Bool → D := fun x => encV tB x
noncomputable def V77C78 (N : Nat) (a0 : (List Bs)) : Vt Bool (Option D) (fun q => some (E77C78 q)) :=
  .c1 (P83C78 N a0) (fun x1 => .leaf (decide ((0 : Int) ≤ x1)))
noncomputable def F77C78 (N : Nat) (a0 : (List Bs)) : Option Bool := (V77C78 N a0).eval
def t77C78 : List (Nat × List Nat × List (Nat × Sh)) := []
theorem P77C78 (N : Nat) (a0 : (List Bs)) : ∀ r, F77C78 N a0 = some r → Spec Try.prog 77 [.val (.list tS) a0, .fn (.func 78)] (E77C78 r) := fun r h => Spec_of (fn := Try.f77) rfl rfl rfl rfl false (wpc_sound (tbl := t77C78) (μ := []) mixed _ _ _ (by
  have h1 := Vt.sound _ h
  refine Eq.mp ?_ h1
  kernel_rfl))

/-! ferryslip/lines.sound -/
def E69 : Bool → D := fun x => encV tB x
noncomputable def V69 (N : Nat) (a0 : (List Bs)) : Vt Bool (Option D) (fun q => some (E69 q)) :=
  .br (decide ((0 : Int) < (a0.length : Int))) (.c1 (P77C78 N a0) (fun x1 => .leaf (!x1))) (.leaf false)
noncomputable def F69 (N : Nat) (a0 : (List Bs)) : Option Bool := (V69 N a0).eval
def t69 : List (Nat × List Nat × List (Nat × Sh)) := []
theorem P69 (N : Nat) (a0 : (List Bs)) : ∀ r, F69 N a0 = some r → Spec Try.prog 69 [.val (.list tS) a0] (E69 r) := fun r h => Spec_of (fn := Try.f69) rfl rfl rfl rfl false (wpc_sound (tbl := t69) (μ := []) mixed _ _ _ (by
  have h1 := Vt.sound _ h
  refine Eq.mp ?_ h1
  kernel_rfl))

/-! ferryslip/tree.Kids -/
def E81o : (List Int) → D := fun x => .own 3 tI x
abbrev l81o_8 : List (Nat × Sh) := [(0, .val (.list tLn)), (6, .val tI), (7, .val tI), (8, .row false 54 3 tI), (9, .val tI)]
noncomputable def b81o_8 : Code := loopBody 8 (bodyOf Try.f81)
noncomputable def U81o_8 (N : Nat) (s0 : (List Ln)) (s6 : Int) (s7 : Int) (s8 : (List Int)) (s9 : Int) : Vt (Lp (shTy l81o_8).I (List Int)) (O3 (Option D)) (encO 56 l81o_8 [0] (fun q => some (E81o q))) :=
  .br (decide (s9 < s6)) (.ck (inR s9 s0.length) (.br (((atI tLn s0 s9).1) == s7) (.ck (room (s8.length + ([s9] : (List Int)).length)) (.leaf (.next (s0, s6, s7, (s8 ++ ([s9] : (List Int))), (IntKind.i64.wrap (s9 + 1)))))) (.leaf (.next (s0, s6, s7, s8, (IntKind.i64.wrap (s9 + 1))))))) (.leaf (.brk 0 (s0, s6, s7, s8, s9)))
noncomputable def L81o_8 (N : Nat) (s0 : (List Ln)) (s6 : Int) (s7 : Int) (s8 : (List Int)) (s9 : Int) : Option (Lp ((List Ln) × Int × Int × (List Int) × Int) (List Int)) := (U81o_8 N s0 s6 s7 s8 s9).eval
noncomputable def W81o_8 (N : Nat) (x : ((List Ln) × Int × Int × (List Int) × Int)) : Option (Lp ((List Ln) × Int × Int × (List Int) × Int) (List Int)) := runLoop (fun x => L81o_8 N x.1 x.2.1 x.2.2.1 x.2.2.2.1 x.2.2.2.2) N x
theorem WS81o_8 (N : Nat) (x : (shTy l81o_8).I) : ∀ o, W81o_8 N x = some o → S Try.prog (.loop b81o_8) (buildSt 56 l81o_8 x) (stepZ (rdD Try.prog Try.f81 true) l81o_8 (encO 56 l81o_8 [0] (fun q => some (E81o q)) o)) :=
  fun o h => loop_S (l := l81o_8) (step := fun x => L81o_8 N x.1 x.2.1 x.2.2.1 x.2.2.2.1 x.2.2.2.2) (fun x o h => wpc_sound (tbl := []) (μ := []) mixed _ _ _ (by
    have h1 := Vt.sound _ h
    refine Eq.mp ?_ h1
    kernel_rfl)) N x o h
noncomputable def V81o (N : Nat) (a0 : (List Ln)) (a1 : Int) : Vt (List Int) (Option D) (fun q => some (E81o q)) :=
  .c1 (P16 N a0) (fun x1 => .br (!x1) (.leaf ([] : (List Int))) (.br (decide (a1 < (-1))) (.leaf ([] : (List Int))) (.br (decide ((a0.length : Int) ≤ a1)) (.leaf ([] : (List Int))) (.br (decide ((0 : Int) ≤ a1)) (.c1 (P49 N a0 a1) (fun x2 => .ck (inR a1 a0.length) (.f1 (l := l81o_8) (o := W81o_8 N (a0, x2, (IntKind.i64.wrap (((atI tLn a0 a1).1) + 1)), ([] : (List Int)), (IntKind.i64.wrap (a1 + 1)))) (WS81o_8 N (a0, x2, (IntKind.i64.wrap (((atI tLn a0 a1).1) + 1)), ([] : (List Int)), (IntKind.i64.wrap (a1 + 1)))) (fun x1 => .leaf x1.2.2.2.1)))) (.f1 (l := l81o_8) (o := W81o_8 N (a0, (a0.length : Int), 0, ([] : (List Int)), 0)) (WS81o_8 N (a0, (a0.length : Int), 0, ([] : (List Int)), 0)) (fun x2 => .leaf x2.2.2.2.1))))))
noncomputable def F81o (N : Nat) (a0 : (List Ln)) (a1 : Int) : Option (List Int) := (V81o N a0 a1).eval
def t81o : List (Nat × List Nat × List (Nat × Sh)) := [(8, [0], l81o_8)]
theorem P81o (N : Nat) (a0 : (List Ln)) (a1 : Int) : ∀ r, F81o N a0 a1 = some r → Spec Try.prog 81 [.val (.list tLn) a0, .val tI a1] (E81o r) := fun r h => Spec_of (fn := Try.f81) rfl rfl rfl rfl true (wpc_sound (tbl := t81o) (μ := []) mixed _ _ _ (by
  have h1 := Vt.sound _ h
  refine Eq.mp ?_ h1
  kernel_rfl))

/-! ferryslip/lines.spot -/
def E71 : Int → D := fun x => encV tI x
abbrev l71_7 : List (Nat × Sh) := [(0, .val (.list tLn)), (2, .val tS), (9, .val tI), (26, .row false 26 3 tI), (27, .val tI), (28, .val tI)]
noncomputable def b71_7 : Code := loopBody 7 (bodyOf Try.f71)
noncomputable def U71_7 (N : Nat) (s0 : (List Ln)) (s2 : Bs) (s9 : Int) (s26 : (List Int)) (s27 : Int) (s28 : Int) : Vt (Lp (shTy l71_7).I Int) (O3 (Option D)) (encO 42 l71_7 [0] (fun q => some (E71 q))) :=
  .br (decide (s28 < s27)) (.ck (inR s28 s26.length) (.ck (inR s28 s26.length) (.ck (inR (atI tI s26 s28) s0.length) (.br (!((Op.bytesLess ((atI tLn s0 (atI tI s26 s28)).2.1) s2) || (((atI tLn s0 (atI tI s26 s28)).2.1) == s2))) (.leaf (.ret (atI tI s26 s28))) (.leaf (.next (s0, s2, s9, s26, s27, (IntKind.i64.wrap (s28 + 1))))))))) (.leaf (.brk 0 (s0, s2, s9, s26, s27, s28)))
noncomputable def L71_7 (N : Nat) (s0 : (List Ln)) (s2 : Bs) (s9 : Int) (s26 : (List Int)) (s27 : Int) (s28 : Int) : Option (Lp ((List Ln) × Bs × Int × (List Int) × Int × Int) Int) := (U71_7 N s0 s2 s9 s26 s27 s28).eval
noncomputable def W71_7 (N : Nat) (x : ((List Ln) × Bs × Int × (List Int) × Int × Int)) : Option (Lp ((List Ln) × Bs × Int × (List Int) × Int × Int) Int) := runLoop (fun x => L71_7 N x.1 x.2.1 x.2.2.1 x.2.2.2.1 x.2.2.2.2.1 x.2.2.2.2.2) N x
theorem WS71_7 (N : Nat) (x : (shTy l71_7).I) : ∀ o, W71_7 N x = some o → S Try.prog (.loop b71_7) (buildSt 42 l71_7 x) (stepZ (rdD Try.prog Try.f71 false) l71_7 (encO 42 l71_7 [0] (fun q => some (E71 q)) o)) :=
  fun o h => loop_S (l := l71_7) (step := fun x => L71_7 N x.1 x.2.1 x.2.2.1 x.2.2.2.1 x.2.2.2.2.1 x.2.2.2.2.2) (fun x o h => wpc_sound (tbl := []) (μ := [26]) mixed _ _ _ (by
    have h1 := Vt.sound _ h
    refine Eq.mp ?_ h1
    kernel_rfl)) N x o h
noncomputable def V71 (N : Nat) (a0 : (List Ln)) (a1 : (List Bs)) (a2 : Bs) : Vt Int (Option D) (fun q => some (E71 q)) :=
  .c2 (P18 N a0 a1) (fun x1 x2 => .br x2 (.c1 (P49 N a0 x1) (fun x3 => .c1 (P81o N a0 x1) (fun x4 => .f1 (l := l71_7) (o := W71_7 N (a0, a2, x3, x4, (x4.length : Int), 0)) (WS71_7 N (a0, a2, x3, x4, (x4.length : Int), 0)) (fun x5 => .leaf x5.2.2.1)))) (.c1 (P81o N a0 (-1)) (fun x6 => .f1 (l := l71_7) (o := W71_7 N (a0, a2, (a0.length : Int), x6, (x6.length : Int), 0)) (WS71_7 N (a0, a2, (a0.length : Int), x6, (x6.length : Int), 0)) (fun x7 => .leaf x7.2.2.1))))
noncomputable def F71 (N : Nat) (a0 : (List Ln)) (a1 : (List Bs)) (a2 : Bs) : Option Int := (V71 N a0 a1 a2).eval
def t71 : List (Nat × List Nat × List (Nat × Sh)) := [(7, [0], l71_7)]
theorem P71 (N : Nat) (a0 : (List Ln)) (a1 : (List Bs)) (a2 : Bs) : ∀ r, F71 N a0 a1 a2 = some r → Spec Try.prog 71 [.val (.list tLn) a0, .val (.list tS) a1, .val tS a2] (E71 r) := fun r h => Spec_of (fn := Try.f71) rfl rfl rfl rfl false (wpc_sound (tbl := t71) (μ := [26]) mixed _ _ _ (by
  have h1 := Vt.sound _ h
  refine Eq.mp ?_ h1
  kernel_rfl))

/-! ferryslip/lines.Add -/
def E57f : (Bool × (List Ln) × Int) → D := fun x => .tup [ownIf x.1 35 tLn x.2.1, encV tI x.2.2]
abbrev l57f_7 : List (Nat × Sh) := [(0, .val (.list tLn)), (1, .val (.list tS)), (6, .val (.list tLn)), (27, .val (.list tS)), (28, .val tI), (29, .val tI)]
noncomputable def b57f_7 : Code := loopBody 7 (bodyOf Try.f57)
noncomputable def U57f_7 (N : Nat) (s0 : (List Ln)) (s1 : (List Bs)) (s6 : (List Ln)) (s27 : (List Bs)) (s28 : Int) (s29 : Int) : Vt (Lp (shTy l57f_7).I (Bool × (List Ln) × Int)) (O3 (Option D)) (encO 64 l57f_7 [1] (fun q => some (E57f q))) :=
  .br (decide (s29 < s28)) (.ck (inR s29 s27.length) (.ck ((0 : Int) ≤ 0 ∧ (0 : Int) ≤ (IntKind.i64.wrap (s29 + 1)) ∧ (IntKind.i64.wrap (s29 + 1)) ≤ (s1.length : Int)) (.c2 (P18 N s6 (slc s1 0 (IntKind.i64.wrap (s29 + 1)))) (fun x1 x2 => .br x2 (.leaf (.next (s0, s1, s6, s27, s28, (IntKind.i64.wrap (s29 + 1))))) (.br (decide ((200 : Int) ≤ (s6.length : Int))) (.leaf (.ret (false, s0, 5))) (.ck ((0 : Int) ≤ 0 ∧ (0 : Int) ≤ s29 ∧ s29 ≤ (s1.length : Int)) (.nb (.c1 (P34o N s6) (fun x3 => .nb (.c1 (P71 N s6 (slc s1 0 s29) (atI tS s27 s29)) (fun x4 => .cr (P70t N x3 x4 ([(s29, (atI tS s27 s29), 0)] : (List Ln))) (fun x5 => .leaf (.next (s0, s1, x5, s27, s28, (IntKind.i64.wrap (s29 + 1))))))) (.c1 (P71 N s6 (slc s1 0 s29) (atI tS s27 s29)) (fun x6 => .cr (P70t N x3 x6 ([(s29, (atI tS s27 s29), 0)] : (List Ln))) (fun x7 => .leaf (.next (s0, s1, x7, s27, s28, (IntKind.i64.wrap (s29 + 1))))))))) (.c1 (P34o N s6) (fun x8 => .c1 (P71 N s6 (slc s1 0 s29) (atI tS s27 s29)) (fun x9 => .cr (P70t N x8 x9 ([(s29, (atI tS s27 s29), 0)] : (List Ln))) (fun x10 => .leaf (.next (s0, s1, x10, s27, s28, (IntKind.i64.wrap (s29 + 1))))))))))))))) (.leaf (.brk 0 (s0, s1, s6, s27, s28, s29)))
noncomputable def L57f_7 (N : Nat) (s0 : (List Ln)) (s1 : (List Bs)) (s6 : (List Ln)) (s27 : (List Bs)) (s28 : Int) (s29 : Int) : Option (Lp ((List Ln) × (List Bs) × (List Ln) × (List Bs) × Int × Int) (Bool × (List Ln) × Int)) := (U57f_7 N s0 s1 s6 s27 s28 s29).eval
noncomputable def W57f_7 (N : Nat) (x : ((List Ln) × (List Bs) × (List Ln) × (List Bs) × Int × Int)) : Option (Lp ((List Ln) × (List Bs) × (List Ln) × (List Bs) × Int × Int) (Bool × (List Ln) × Int)) := runLoop (fun x => L57f_7 N x.1 x.2.1 x.2.2.1 x.2.2.2.1 x.2.2.2.2.1 x.2.2.2.2.2) N x
theorem WS57f_7 (N : Nat) (x : (shTy l57f_7).I) : ∀ o, W57f_7 N x = some o → S Try.prog (.loop b57f_7) (buildSt 64 l57f_7 x) (stepZ (rdD Try.prog Try.f57 true) l57f_7 (encO 64 l57f_7 [1] (fun q => some (E57f q)) o)) :=
  fun o h => loop_S (l := l57f_7) (step := fun x => L57f_7 N x.1 x.2.1 x.2.2.1 x.2.2.2.1 x.2.2.2.2.1 x.2.2.2.2.2) (fun x o h => wpc_sound (tbl := []) (μ := [49, 60, 2000070]) mixed _ _ _ (by
    have h1 := Vt.sound _ h
    refine Eq.mp ?_ h1
    kernel_rfl)) N x o h
noncomputable def V57f (N : Nat) (a0 : (List Ln)) (a1 : (List Bs)) : Vt (Bool × (List Ln) × Int) (Option D) (fun q => some (E57f q)) :=
  .c1 (P16 N a0) (fun x1 => .br (!x1) (.leaf (false, a0, 1)) (.c1 (P69 N a1) (fun x2 => .br (!x2) (.leaf (false, a0, 1)) (.br (decide ((16 : Int) < (a1.length : Int))) (.leaf (false, a0, 6)) (.f1 (l := l57f_7) (o := W57f_7 N (a0, a1, a0, a1, (a1.length : Int), 0)) (WS57f_7 N (a0, a1, a0, a1, (a1.length : Int), 0)) (fun x3 => .c1 (P34o N x3.2.2.1) (fun x4 => .leaf (true, x4, 0))))))))
noncomputable def F57f (N : Nat) (a0 : (List Ln)) (a1 : (List Bs)) : Option (Bool × (List Ln) × Int) := (V57f N a0 a1).eval
def t57f : List (Nat × List Nat × List (Nat × Sh)) := [(7, [1], l57f_7)]
theorem P57f (N : Nat) (a0 : (List Ln)) (a1 : (List Bs)) : ∀ r, F57f N a0 a1 = some r → Spec Try.prog 57 [.val (.list tLn) a0, .val (.list tS) a1] (E57f r) := fun r h => Spec_of (fn := Try.f57) rfl rfl rfl rfl true (wpc_sound (tbl := t57f) (μ := [49, 60, 63, 2000070]) mixed _ _ _ (by
  have h1 := Vt.sound _ h
  refine Eq.mp ?_ h1
  kernel_rfl))

/-! ferryslip/diff.add -/
def E50 : ((List Ln) × Int) → D := fun x => .tup [encV (.list tLn) x.1, encV tI x.2]
noncomputable def V50 (N : Nat) (a0 : (List Ln)) (a1 : (Int × ((List Bs) × Int))) : Vt ((List Ln) × Int) (Option D) (fun q => some (E50 q)) :=
  .c3 (P57f N a0 a1.2.1) (fun x3 x1 x2 => .br x3 (.br (x2 == 1) (.leaf (a0, x2)) (.br (x2 == 6) (.leaf (a0, x2)) (.ck ((0 : Int) ≤ 0 ∧ (0 : Int) ≤ (IntKind.i64.wrap ((a1.2.1.length : Int) - 1)) ∧ (IntKind.i64.wrap ((a1.2.1.length : Int) - 1)) ≤ (a1.2.1.length : Int)) (.c2 (P18 N a0 (slc a1.2.1 0 (IntKind.i64.wrap ((a1.2.1.length : Int) - 1)))) (fun x4 x5 => .br (!x5) (.br (decide ((0 : Int) < ((slc a1.2.1 0 (IntKind.i64.wrap ((a1.2.1.length : Int) - 1))).length : Int))) (.leaf (a0, 3)) (.c2 (P18 N a0 a1.2.1) (fun x6 x7 => .br x7 (.leaf (a0, 4)) (.br (x2 != 0) (.leaf (a0, x2)) (.c2 (P18 N x1 a1.2.1) (fun x8 x9 => .ck (inR x8 x1.length) (.ck (inR x8 x1.length) (.leaf ((x1.set x8.toNat ((atI tLn x1 x8).1, (atI tLn x1 x8).2.1, a1.2.2)), 0))))))))) (.c2 (P18 N a0 a1.2.1) (fun x10 x11 => .br x11 (.leaf (a0, 4)) (.br (x2 != 0) (.leaf (a0, x2)) (.c2 (P18 N x1 a1.2.1) (fun x12 x13 => .ck (inR x12 x1.length) (.ck (inR x12 x1.length) (.leaf ((x1.set x12.toNat ((atI tLn x1 x12).1, (atI tLn x1 x12).2.1, a1.2.2)), 0))))))))))))) (.br (x2 == 1) (.leaf (a0, x2)) (.br (x2 == 6) (.leaf (a0, x2)) (.ck ((0 : Int) ≤ 0 ∧ (0 : Int) ≤ (IntKind.i64.wrap ((a1.2.1.length : Int) - 1)) ∧ (IntKind.i64.wrap ((a1.2.1.length : Int) - 1)) ≤ (a1.2.1.length : Int)) (.c2 (P18 N a0 (slc a1.2.1 0 (IntKind.i64.wrap ((a1.2.1.length : Int) - 1)))) (fun x14 x15 => .br (!x15) (.br (decide ((0 : Int) < ((slc a1.2.1 0 (IntKind.i64.wrap ((a1.2.1.length : Int) - 1))).length : Int))) (.leaf (a0, 3)) (.c2 (P18 N a0 a1.2.1) (fun x16 x17 => .br x17 (.leaf (a0, 4)) (.br (x2 != 0) (.leaf (a0, x2)) (.c2 (P18 N x1 a1.2.1) (fun x18 x19 => .ck (inR x18 x1.length) (.fail))))))) (.c2 (P18 N a0 a1.2.1) (fun x20 x21 => .br x21 (.leaf (a0, 4)) (.br (x2 != 0) (.leaf (a0, x2)) (.c2 (P18 N x1 a1.2.1) (fun x22 x23 => .ck (inR x22 x1.length) (.fail))))))))))))
noncomputable def F50 (N : Nat) (a0 : (List Ln)) (a1 : (Int × ((List Bs) × Int))) : Option ((List Ln) × Int) := (V50 N a0 a1).eval
def t50 : List (Nat × List Nat × List (Nat × Sh)) := []
theorem P50 (N : Nat) (a0 : (List Ln)) (a1 : (Int × ((List Bs) × Int))) : ∀ r, F50 N a0 a1 = some r → Spec Try.prog 50 [.val (.list tLn) a0, .agg [.val tI a1.1, .val (.list tS) a1.2.1, .val tI a1.2.2]] (E50 r) := fun r h => Spec_of (fn := Try.f50) rfl rfl rfl rfl false (wpc_sound (tbl := t50) (μ := [19, 3000019]) mixed _ _ _ (by
  have h1 := Vt.sound _ h
  refine Eq.mp ?_ h1
  kernel_rfl))

/-! ferryslip/diff.one -/
def E35 : ((List Ln) × Int) → D := fun x => .tup [encV (.list tLn) x.1, encV tI x.2]
noncomputable def V35 (N : Nat) (a0 : (List Ln)) (a1 : (Int × ((List Bs) × Int))) : Vt ((List Ln) × Int) (Option D) (fun q => some (E35 q)) :=
  .br (decide (a1.1 < 1)) (.leaf (a0, 1)) (.br (decide ((3 : Int) < a1.1)) (.leaf (a0, 1)) (.br ((a1.2.1.length : Int) == 0) (.leaf (a0, 1)) (.br (decide (a1.2.2 < 0)) (.leaf (a0, 1)) (.br (decide ((3 : Int) < a1.2.2)) (.leaf (a0, 1)) (.br (a1.1 == 2) (.c2 (P50 N a0 a1) (fun x1 x2 => .leaf (x1, x2))) (.c2 (P18 N a0 a1.2.1) (fun x3 x4 => .br (!x4) (.leaf (a0, 3)) (.c1 (P34o N a0) (fun x5 => .br (a1.1 == 1) (.c1 (P49 N a0 x3) (fun x6 => .cr (P51t N x5 x3 x6) (fun x7 => .leaf (x7, 0)))) (.ck (inR x3 x5.length) (.ck (inR x3 x5.length) (.leaf ((x5.set x3.toNat ((atI tLn x5 x3).1, (atI tLn x5 x3).2.1, a1.2.2)), 0)))))))))))))
noncomputable def F35 (N : Nat) (a0 : (List Ln)) (a1 : (Int × ((List Bs) × Int))) : Option ((List Ln) × Int) := (V35 N a0 a1).eval
def t35 : List (Nat × List Nat × List (Nat × Sh)) := []
theorem P35 (N : Nat) (a0 : (List Ln)) (a1 : (Int × ((List Bs) × Int))) : ∀ r, F35 N a0 a1 = some r → Spec Try.prog 35 [.val (.list tLn) a0, .agg [.val tI a1.1, .val (.list tS) a1.2.1, .val tI a1.2.2]] (E35 r) := fun r h => Spec_of (fn := Try.f35) rfl rfl rfl rfl false (wpc_sound (tbl := t35) (μ := [55, 64, 2000051]) mixed _ _ _ (by
  have h1 := Vt.sound _ h
  refine Eq.mp ?_ h1
  kernel_rfl))

/-! ferryslip/diff.Apply -/
def E20 : ((List Ln) × Int × Int) → D := fun x => .tup [encV (.list tLn) x.1, encV tI x.2.1, encV tI x.2.2]
abbrev l20_5 : List (Nat × Sh) := [(0, .val (.list tLn)), (1, .val (.list (.pair tI (.pair (.list tS) tI)))), (7, .val (.list tLn)), (18, .val (.list (.pair tI (.pair (.list tS) tI)))), (19, .val tI), (20, .val tI)]
noncomputable def b20_5 : Code := loopBody 5 (bodyOf Try.f20)
noncomputable def U20_5 (N : Nat) (s0 : (List Ln)) (s1 : (List (Int × ((List Bs) × Int)))) (s7 : (List Ln)) (s18 : (List (Int × ((List Bs) × Int)))) (s19 : Int) (s20 : Int) : Vt (Lp (shTy l20_5).I ((List Ln) × Int × Int)) (O3 (Option D)) (encO 41 l20_5 [0] (fun q => some (E20 q))) :=
  .br (decide (s20 < s19)) (.ck (inR s20 s18.length) (.c2 (P35 N s7 (atI (.pair tI (.pair (.list tS) tI)) s18 s20)) (fun x1 x2 => .br (x2 != 0) (.leaf (.ret (s0, s20, x2))) (.leaf (.next (s0, s1, x1, s18, s19, (IntKind.i64.wrap (s20 + 1)))))))) (.leaf (.brk 0 (s0, s1, s7, s18, s19, s20)))
noncomputable def L20_5 (N : Nat) (s0 : (List Ln)) (s1 : (List (Int × ((List Bs) × Int)))) (s7 : (List Ln)) (s18 : (List (Int × ((List Bs) × Int)))) (s19 : Int) (s20 : Int) : Option (Lp ((List Ln) × (List (Int × ((List Bs) × Int))) × (List Ln) × (List (Int × ((List Bs) × Int))) × Int × Int) ((List Ln) × Int × Int)) := (U20_5 N s0 s1 s7 s18 s19 s20).eval
noncomputable def W20_5 (N : Nat) (x : ((List Ln) × (List (Int × ((List Bs) × Int))) × (List Ln) × (List (Int × ((List Bs) × Int))) × Int × Int)) : Option (Lp ((List Ln) × (List (Int × ((List Bs) × Int))) × (List Ln) × (List (Int × ((List Bs) × Int))) × Int × Int) ((List Ln) × Int × Int)) := runLoop (fun x => L20_5 N x.1 x.2.1 x.2.2.1 x.2.2.2.1 x.2.2.2.2.1 x.2.2.2.2.2) N x
theorem WS20_5 (N : Nat) (x : (shTy l20_5).I) : ∀ o, W20_5 N x = some o → S Try.prog (.loop b20_5) (buildSt 41 l20_5 x) (stepZ (rdD Try.prog Try.f20 false) l20_5 (encO 41 l20_5 [0] (fun q => some (E20 q)) o)) :=
  fun o h => loop_S (l := l20_5) (step := fun x => L20_5 N x.1 x.2.1 x.2.2.1 x.2.2.2.1 x.2.2.2.2.1 x.2.2.2.2.2) (fun x o h => wpc_sound (tbl := []) (μ := [17]) mixed _ _ _ (by
    have h1 := Vt.sound _ h
    refine Eq.mp ?_ h1
    kernel_rfl)) N x o h
noncomputable def V20 (N : Nat) (a0 : (List Ln)) (a1 : (List (Int × ((List Bs) × Int)))) : Vt ((List Ln) × Int × Int) (Option D) (fun q => some (E20 q)) :=
  .c1 (P16 N a0) (fun x1 => .br (!x1) (.leaf (a0, 0, 1)) (.c1 (P34o N a0) (fun x2 => .f1 (l := l20_5) (o := W20_5 N (a0, a1, x2, a1, (a1.length : Int), 0)) (WS20_5 N (a0, a1, x2, a1, (a1.length : Int), 0)) (fun x3 => .leaf (x3.2.2.1, (x3.2.1.length : Int), 0)))))
noncomputable def F20 (N : Nat) (a0 : (List Ln)) (a1 : (List (Int × ((List Bs) × Int)))) : Option ((List Ln) × Int × Int) := (V20 N a0 a1).eval
def t20 : List (Nat × List Nat × List (Nat × Sh)) := [(5, [0], l20_5)]
theorem P20 (N : Nat) (a0 : (List Ln)) (a1 : (List (Int × ((List Bs) × Int)))) : ∀ r, F20 N a0 a1 = some r → Spec Try.prog 20 [.val (.list tLn) a0, .val (.list (.pair tI (.pair (.list tS) tI))) a1] (E20 r) := fun r h => Spec_of (fn := Try.f20) rfl rfl rfl rfl false (wpc_sound (tbl := t20) (μ := [17]) mixed _ _ _ (by
  have h1 := Vt.sound _ h
  refine Eq.mp ?_ h1
  kernel_rfl))

/-! ferryslip/ferrysliplaw09.MergeApart -/
def E8 : Bool → D := fun x => encV tB x
abbrev l8_11 : List (Nat × Sh) := [(0, .val (.list tLn)), (1, .val (.list tLn)), (2, .val (.list tLn)), (7, .val (.list (.pair tI (.pair (.list tS) tI)))), (9, .val (.list (.pair tI (.pair (.list tS) tI)))), (12, .cel false 12 45 (.pair tI (.pair (.list tS) tI))), (46, .val (.list (.pair tI (.pair (.list tS) tI)))), (47, .val tI), (48, .val tI), (52, .val (.list (.pair tI (.pair (.list tS) tI)))), (53, .val tI), (54, .val tI)]
noncomputable def b8_11 : Code := loopBody 11 (bodyOf Try.f8)
noncomputable def U8_11 (N : Nat) (s0 : (List Ln)) (s1 : (List Ln)) (s2 : (List Ln)) (s7 : (List (Int × ((List Bs) × Int)))) (s9 : (List (Int × ((List Bs) × Int)))) (s12 : (Int × ((List Bs) × Int))) (s46 : (List (Int × ((List Bs) × Int)))) (s47 : Int) (s48 : Int) (s52 : (List (Int × ((List Bs) × Int)))) (s53 : Int) (s54 : Int) : Vt (Lp (shTy l8_11).I Bool) (O3 (Option D)) (encO 118 l8_11 [2] (fun q => some (E8 q))) :=
  .br (decide (s54 < s53)) (.ck (inR s54 s52.length) (.br ((s12.2.1.length : Int) == 0) (.leaf (.ret false)) (.br ((((atI (.pair tI (.pair (.list tS) tI)) s52 s54).2.1).length : Int) == 0) (.leaf (.ret false)) (.ck (inR 0 s12.2.1.length) (.ck (inR 0 ((atI (.pair tI (.pair (.list tS) tI)) s52 s54).2.1).length) (.br ((atI tS s12.2.1 0) == (atI tS ((atI (.pair tI (.pair (.list tS) tI)) s52 s54).2.1) 0)) (.c1 (P10 N) (fun x1 => .leaf (.ret x1))) (.leaf (.next (s0, s1, s2, s7, s9, s12, s46, s47, s48, s52, s53, (IntKind.i64.wrap (s54 + 1))))))))))) (.leaf (.brk 0 (s0, s1, s2, s7, s9, s12, s46, s47, s48, s52, s53, s54)))
noncomputable def L8_11 (N : Nat) (s0 : (List Ln)) (s1 : (List Ln)) (s2 : (List Ln)) (s7 : (List (Int × ((List Bs) × Int)))) (s9 : (List (Int × ((List Bs) × Int)))) (s12 : (Int × ((List Bs) × Int))) (s46 : (List (Int × ((List Bs) × Int)))) (s47 : Int) (s48 : Int) (s52 : (List (Int × ((List Bs) × Int)))) (s53 : Int) (s54 : Int) : Option (Lp ((List Ln) × (List Ln) × (List Ln) × (List (Int × ((List Bs) × Int))) × (List (Int × ((List Bs) × Int))) × (Int × ((List Bs) × Int)) × (List (Int × ((List Bs) × Int))) × Int × Int × (List (Int × ((List Bs) × Int))) × Int × Int) Bool) := (U8_11 N s0 s1 s2 s7 s9 s12 s46 s47 s48 s52 s53 s54).eval
noncomputable def W8_11 (N : Nat) (x : ((List Ln) × (List Ln) × (List Ln) × (List (Int × ((List Bs) × Int))) × (List (Int × ((List Bs) × Int))) × (Int × ((List Bs) × Int)) × (List (Int × ((List Bs) × Int))) × Int × Int × (List (Int × ((List Bs) × Int))) × Int × Int)) : Option (Lp ((List Ln) × (List Ln) × (List Ln) × (List (Int × ((List Bs) × Int))) × (List (Int × ((List Bs) × Int))) × (Int × ((List Bs) × Int)) × (List (Int × ((List Bs) × Int))) × Int × Int × (List (Int × ((List Bs) × Int))) × Int × Int) Bool) := runLoop (fun x => L8_11 N x.1 x.2.1 x.2.2.1 x.2.2.2.1 x.2.2.2.2.1 x.2.2.2.2.2.1 x.2.2.2.2.2.2.1 x.2.2.2.2.2.2.2.1 x.2.2.2.2.2.2.2.2.1 x.2.2.2.2.2.2.2.2.2.1 x.2.2.2.2.2.2.2.2.2.2.1 x.2.2.2.2.2.2.2.2.2.2.2) N x
theorem WS8_11 (N : Nat) (x : (shTy l8_11).I) : ∀ o, W8_11 N x = some o → S Try.prog (.loop b8_11) (buildSt 118 l8_11 x) (stepZ (rdD Try.prog Try.f8 false) l8_11 (encO 118 l8_11 [2] (fun q => some (E8 q)) o)) :=
  fun o h => loop_S (l := l8_11) (step := fun x => L8_11 N x.1 x.2.1 x.2.2.1 x.2.2.2.1 x.2.2.2.2.1 x.2.2.2.2.2.1 x.2.2.2.2.2.2.1 x.2.2.2.2.2.2.2.1 x.2.2.2.2.2.2.2.2.1 x.2.2.2.2.2.2.2.2.2.1 x.2.2.2.2.2.2.2.2.2.2.1 x.2.2.2.2.2.2.2.2.2.2.2) (fun x o h => wpc_sound (tbl := []) (μ := [30, 36]) mixed _ _ _ (by
    have h1 := Vt.sound _ h
    refine Eq.mp ?_ h1
    kernel_rfl)) N x o h
abbrev l8_8 : List (Nat × Sh) := [(0, .val (.list tLn)), (1, .val (.list tLn)), (2, .val (.list tLn)), (7, .val (.list (.pair tI (.pair (.list tS) tI)))), (9, .val (.list (.pair tI (.pair (.list tS) tI)))), (46, .val (.list (.pair tI (.pair (.list tS) tI)))), (47, .val tI), (48, .val tI)]
noncomputable def b8_8 : Code := loopBody 8 (bodyOf Try.f8)
noncomputable def U8_8 (N : Nat) (s0 : (List Ln)) (s1 : (List Ln)) (s2 : (List Ln)) (s7 : (List (Int × ((List Bs) × Int)))) (s9 : (List (Int × ((List Bs) × Int)))) (s46 : (List (Int × ((List Bs) × Int)))) (s47 : Int) (s48 : Int) : Vt (Lp (shTy l8_8).I Bool) (O3 (Option D)) (encO 118 l8_8 [0] (fun q => some (E8 q))) :=
  .br (decide (s48 < s47)) (.ck (inR s48 s46.length) (.g1 (l := l8_11) (o := W8_11 N (s0, s1, s2, s7, s9, (atI (.pair tI (.pair (.list tS) tI)) s46 s48), s46, s47, s48, s9, (s9.length : Int), 0)) (WS8_11 N (s0, s1, s2, s7, s9, (atI (.pair tI (.pair (.list tS) tI)) s46 s48), s46, s47, s48, s9, (s9.length : Int), 0)) (fun x1 => .leaf (.next (x1.1, x1.2.1, x1.2.2.1, x1.2.2.2.1, x1.2.2.2.2.1, x1.2.2.2.2.2.2.1, x1.2.2.2.2.2.2.2.1, (IntKind.i64.wrap (x1.2.2.2.2.2.2.2.2.1 + 1))))))) (.leaf (.brk 0 (s0, s1, s2, s7, s9, s46, s47, s48)))
noncomputable def L8_8 (N : Nat) (s0 : (List Ln)) (s1 : (List Ln)) (s2 : (List Ln)) (s7 : (List (Int × ((List Bs) × Int)))) (s9 : (List (Int × ((List Bs) × Int)))) (s46 : (List (Int × ((List Bs) × Int)))) (s47 : Int) (s48 : Int) : Option (Lp ((List Ln) × (List Ln) × (List Ln) × (List (Int × ((List Bs) × Int))) × (List (Int × ((List Bs) × Int))) × (List (Int × ((List Bs) × Int))) × Int × Int) Bool) := (U8_8 N s0 s1 s2 s7 s9 s46 s47 s48).eval
noncomputable def W8_8 (N : Nat) (x : ((List Ln) × (List Ln) × (List Ln) × (List (Int × ((List Bs) × Int))) × (List (Int × ((List Bs) × Int))) × (List (Int × ((List Bs) × Int))) × Int × Int)) : Option (Lp ((List Ln) × (List Ln) × (List Ln) × (List (Int × ((List Bs) × Int))) × (List (Int × ((List Bs) × Int))) × (List (Int × ((List Bs) × Int))) × Int × Int) Bool) := runLoop (fun x => L8_8 N x.1 x.2.1 x.2.2.1 x.2.2.2.1 x.2.2.2.2.1 x.2.2.2.2.2.1 x.2.2.2.2.2.2.1 x.2.2.2.2.2.2.2) N x
theorem WS8_8 (N : Nat) (x : (shTy l8_8).I) : ∀ o, W8_8 N x = some o → S Try.prog (.loop b8_8) (buildSt 118 l8_8 x) (stepZ (rdD Try.prog Try.f8 false) l8_8 (encO 118 l8_8 [0] (fun q => some (E8 q)) o)) :=
  fun o h => loop_S (l := l8_8) (step := fun x => L8_8 N x.1 x.2.1 x.2.2.1 x.2.2.2.1 x.2.2.2.2.1 x.2.2.2.2.2.1 x.2.2.2.2.2.2.1 x.2.2.2.2.2.2.2) (fun x o h => wpc_sound (tbl := [(11, [2], l8_11)]) (μ := [30, 36]) mixed _ _ _ (by
    have h1 := Vt.sound _ h
    refine Eq.mp ?_ h1
    kernel_rfl)) N x o h
noncomputable def V8 (N : Nat) (a0 : (List Ln)) (a1 : (List Ln)) (a2 : (List Ln)) : Vt Bool (Option D) (fun q => some (E8 q)) :=
  .c1 (P9 N a0 a1 a2) (fun x1 => .br (!x1) (.c1 (P10 N) (fun x2 => .leaf x2)) (.c2 (P19o N a0 a1) (fun x3 x4 => .c2 (P19o N a0 a2) (fun x5 x6 => .br (x4 != 0) (.c1 (P10 N) (fun x7 => .leaf x7)) (.br (x6 != 0) (.c1 (P10 N) (fun x8 => .leaf x8)) (.f1 (l := l8_8) (o := W8_8 N (a0, a1, a2, x3, x5, x3, (x3.length : Int), 0)) (WS8_8 N (a0, a1, a2, x3, x5, x3, (x3.length : Int), 0)) (fun x2 => .c3 (P11 N x2.1 x2.2.1 x2.2.2.1) (fun x3 x4 x5 => .ck (room (([] : (List (Int × ((List Bs) × Int)))).length + x2.2.2.2.1.length)) (.ck (room ((([] : (List (Int × ((List Bs) × Int)))) ++ x2.2.2.2.1).length + x2.2.2.2.2.1.length)) (.c3 (P20 N x2.1 ((([] : (List (Int × ((List Bs) × Int)))) ++ x2.2.2.2.1) ++ x2.2.2.2.2.1)) (fun x6 x7 x8 => .br (x5 == 0) (.br ((x4.length : Int) == 0) (.br (x8 == 0) (.c1 (P13 N x3 x6) (fun x9 => .br x9 (.c1 (P10 N) (fun x10 => .leaf x10)) (.leaf false))) (.leaf false)) (.leaf false)) (.leaf false))))))))))))
noncomputable def F8 (N : Nat) (a0 : (List Ln)) (a1 : (List Ln)) (a2 : (List Ln)) : Option Bool := (V8 N a0 a1 a2).eval
def t8 : List (Nat × List Nat × List (Nat × Sh)) := [(11, [2], l8_11), (8, [0], l8_8)]
theorem P8 (N : Nat) (a0 : (List Ln)) (a1 : (List Ln)) (a2 : (List Ln)) : ∀ r, F8 N a0 a1 a2 = some r → Spec Try.prog 8 [.val (.list tLn) a0, .val (.list tLn) a1, .val (.list tLn) a2] (E8 r) := fun r h => Spec_of (fn := Try.f8) rfl rfl rfl rfl false (wpc_sound (tbl := t8) (μ := [30, 36]) mixed _ _ _ (by
  have h1 := Vt.sound _ h
  refine Eq.mp ?_ h1
  kernel_rfl))

end Go.Proofs.Ytbchajjppgkgnaa.Vc
