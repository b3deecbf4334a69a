/-
  WHAT THE FUNCTIONS DO WITH DATA, printed by a program from the translation. No condition.
-/
import Derived.Test.YtncgafojgdemdaaDoorDl
import Derived.Test.YtncgafojgdemdaaDoorRv
import Derived.Test.YtncgafojgdemdaaDoorBc
import Derived.Test.YtncgafojgdemdaaDoorBs
set_option linter.unusedVariables false
set_option linter.unusedSimpArgs false
set_option maxRecDepth 100000
namespace Go.Proofs.YtncgafojgdemdaaDoor.Vc
open Go.RowKit

/-! ferryslip/ferryslipref03.Small -/
def E9 : Bool → D := fun x => encV tB x
abbrev l9_4 : List (Nat × Sh) := [(0, .val (.list tLn)), (3, .val tI)]
noncomputable def b9_4 : Code := loopBody 4 (bodyOf Tryd.f9)
noncomputable def U9_4 (N : Nat) (s0 : (List Ln)) (s3 : Int) : Vt (Lp (shTy l9_4).I Bool) (O3 (Option D)) (encO 20 l9_4 [0] (fun q => some (E9 q))) :=
  .br (decide (s3 < (s0.length : Int))) (.ck (inR s3 s0.length) (.br (decide ((100 : Int) < (((atI tLn s0 s3).2.1).length : Int))) (.leaf (.ret false)) (.leaf (.next (s0, (IntKind.i64.wrap (s3 + 1))))))) (.leaf (.brk 0 (s0, s3)))
noncomputable def L9_4 (N : Nat) (s0 : (List Ln)) (s3 : Int) : Option (Lp ((List Ln) × Int) Bool) := (U9_4 N s0 s3).eval
noncomputable def W9_4 (N : Nat) (x : ((List Ln) × Int)) : Option (Lp ((List Ln) × Int) Bool) := runLoop (fun x => L9_4 N x.1 x.2) N x
theorem WS9_4 (N : Nat) (x : (shTy l9_4).I) : ∀ o, W9_4 N x = some o → S Tryd.prog (.loop b9_4) (buildSt 20 l9_4 x) (stepZ (rdD Tryd.prog Tryd.f9 false) l9_4 (encO 20 l9_4 [0] (fun q => some (E9 q)) o)) :=
  fun o h => loop_S (l := l9_4) (step := fun x => L9_4 N x.1 x.2) (fun x o h => wpc_sound (tbl := []) (μ := []) mixed _ _ _ (by
    have h1 := Vt.sound _ h
    refine Eq.mp ?_ h1
    kernel_rfl)) N x o h
noncomputable def V9 (N : Nat) (a0 : (List Ln)) : Vt Bool (Option D) (fun q => some (E9 q)) :=
  .br (decide ((220 : Int) < (a0.length : Int))) (.leaf false) (.f1 (l := l9_4) (o := W9_4 N (a0, 0)) (WS9_4 N (a0, 0)) (fun x1 => .leaf true))
noncomputable def F9 (N : Nat) (a0 : (List Ln)) : Option Bool := (V9 N a0).eval
def t9 : List (Nat × List Nat × List (Nat × Sh)) := [(4, [0], l9_4)]
theorem P9 (N : Nat) (a0 : (List Ln)) : ∀ r, F9 N a0 = some r → Spec Tryd.prog 9 [.val (.list tLn) a0] (E9 r) := fun r h => Spec_of (fn := Tryd.f9) rfl rfl rfl rfl false (wpc_sound (tbl := t9) (μ := []) mixed _ _ _ (by
  have h1 := Vt.sound _ h
  refine Eq.mp ?_ h1
  kernel_rfl))

/-! ferryslip/tree.sound -/
def E39 : Bool → D := fun x => encV tB x
noncomputable def V39 (N : Nat) (a0 : Ln) : Vt Bool (Option D) (fun q => some (E39 q)) :=
  .br (decide ((0 : Int) ≤ a0.1)) (.br (decide (a0.1 < 16)) (.br (decide ((a0.2.1.length : Int) ≤ 40)) (.br (decide ((0 : Int) ≤ a0.2.2)) (.leaf (decide (a0.2.2 ≤ 3))) (.leaf false)) (.leaf false)) (.leaf false)) (.leaf false)
noncomputable def F39 (N : Nat) (a0 : Ln) : Option Bool := (V39 N a0).eval
def t39 : List (Nat × List Nat × List (Nat × Sh)) := []
theorem P39 (N : Nat) (a0 : Ln) : ∀ r, F39 N a0 = some r → Spec Tryd.prog 39 [.agg [.val tI a0.1, .val tS a0.2.1, .val tI a0.2.2]] (E39 r) := fun r h => Spec_of (fn := Tryd.f39) rfl rfl rfl rfl false (wpc_sound (tbl := t39) (μ := []) mixed _ _ _ (by
  have h1 := Vt.sound _ h
  refine Eq.mp ?_ h1
  kernel_rfl))

/-! ferryslip/tree.Right -/
def E23 : Bool → D := fun x => encV tB x
abbrev l23_6 : List (Nat × Sh) := [(3, .arr 3 tS), (4, .val tI), (10, .val (.list tLn)), (11, .val tI), (12, .val tI)]
noncomputable def b23_6 : Code := loopBody 6 (bodyOf Tryd.f23)
noncomputable def U23_6 (N : Nat) (s3 : (List Bs)) (s4 : Int) (s10 : (List Ln)) (s11 : Int) (s12 : Int) : Vt (Lp (shTy l23_6).I Bool) (O3 (Option D)) (encO 48 l23_6 [0] (fun q => some (E23 q))) :=
  .br (decide (s12 < s11)) (.ck (inR s12 s10.length) (.c1 (P39 N (atI tLn s10 s12)) (fun x1 => .br (!x1) (.leaf (.ret false)) (.br (decide ((IntKind.i64.wrap (s4 + 1)) < ((atI tLn s10 s12).1))) (.leaf (.ret false)) (.br (decide (((atI tLn s10 s12).1) ≤ s4)) (.ck (inR ((atI tLn s10 s12).1) 16) (.ck (s3.length = 16) (.ck (inR ((atI tLn s10 s12).1) s3.length) (.br ((Op.bytesLess ((atI tLn s10 s12).2.1) (atI tS s3 ((atI tLn s10 s12).1))) || (((atI tLn s10 s12).2.1) == (atI tS s3 ((atI tLn s10 s12).1)))) (.leaf (.ret false)) (.ck (inR ((atI tLn s10 s12).1) 16) (.ck (s3.length = 16) (.ck (inR ((atI tLn s10 s12).1) s3.length) (.leaf (.next ((s3.set ((atI tLn s10 s12).1).toNat ((atI tLn s10 s12).2.1)), (atI tLn s10 s12).1, s10, s11, (IntKind.i64.wrap (s12 + 1)))))))))))) (.ck (inR ((atI tLn s10 s12).1) 16) (.ck (s3.length = 16) (.ck (inR ((atI tLn s10 s12).1) s3.length) (.leaf (.next ((s3.set ((atI tLn s10 s12).1).toNat ((atI tLn s10 s12).2.1)), (atI tLn s10 s12).1, s10, s11, (IntKind.i64.wrap (s12 + 1))))))))))))) (.leaf (.brk 0 (s3, s4, s10, s11, s12)))
noncomputable def L23_6 (N : Nat) (s3 : (List Bs)) (s4 : Int) (s10 : (List Ln)) (s11 : Int) (s12 : Int) : Option (Lp ((List Bs) × Int × (List Ln) × Int × Int) Bool) := (U23_6 N s3 s4 s10 s11 s12).eval
noncomputable def W23_6 (N : Nat) (x : ((List Bs) × Int × (List Ln) × Int × Int)) : Option (Lp ((List Bs) × Int × (List Ln) × Int × Int) Bool) := runLoop (fun x => L23_6 N x.1 x.2.1 x.2.2.1 x.2.2.2.1 x.2.2.2.2) N x
theorem WS23_6 (N : Nat) (x : (shTy l23_6).I) : ∀ o, W23_6 N x = some o → S Tryd.prog (.loop b23_6) (buildSt 48 l23_6 x) (stepZ (rdD Tryd.prog Tryd.f23 false) l23_6 (encO 48 l23_6 [0] (fun q => some (E23 q)) o)) :=
  fun o h => loop_S (l := l23_6) (step := fun x => L23_6 N x.1 x.2.1 x.2.2.1 x.2.2.2.1 x.2.2.2.2) (fun x o h => wpc_sound (tbl := []) (μ := []) mixed _ _ _ (by
    have h1 := Vt.sound _ h
    refine Eq.mp ?_ h1
    kernel_rfl)) N x o h
noncomputable def V23 (N : Nat) (a0 : (List Ln)) : Vt Bool (Option D) (fun q => some (E23 q)) :=
  .br (decide ((200 : Int) < (a0.length : Int))) (.leaf false) (.f1 (l := l23_6) (o := W23_6 N (([([] : Bs), ([] : Bs), ([] : Bs), ([] : Bs), ([] : Bs), ([] : Bs), ([] : Bs), ([] : Bs), ([] : Bs), ([] : Bs), ([] : Bs), ([] : Bs), ([] : Bs), ([] : Bs), ([] : Bs), ([] : Bs)] : (List Bs)), (-1), a0, (a0.length : Int), 0)) (WS23_6 N (([([] : Bs), ([] : Bs), ([] : Bs), ([] : Bs), ([] : Bs), ([] : Bs), ([] : Bs), ([] : Bs), ([] : Bs), ([] : Bs), ([] : Bs), ([] : Bs), ([] : Bs), ([] : Bs), ([] : Bs), ([] : Bs)] : (List Bs)), (-1), a0, (a0.length : Int), 0)) (fun x1 => .leaf true))
noncomputable def F23 (N : Nat) (a0 : (List Ln)) : Option Bool := (V23 N a0).eval
def t23 : List (Nat × List Nat × List (Nat × Sh)) := [(6, [0], l23_6)]
theorem P23 (N : Nat) (a0 : (List Ln)) : ∀ r, F23 N a0 = some r → Spec Tryd.prog 23 [.val (.list tLn) a0] (E23 r) := fun r h => Spec_of (fn := Tryd.f23) rfl rfl rfl rfl false (wpc_sound (tbl := t23) (μ := []) mixed _ _ _ (by
  have h1 := Vt.sound _ h
  refine Eq.mp ?_ h1
  kernel_rfl))

/-! ferryslip/tree.there -/
def E41 : Bool → D := fun x => encV tB x
noncomputable def V41 (N : Nat) (a0 : (List Ln)) (a1 : Int) : Vt Bool (Option D) (fun q => some (E41 q)) :=
  .br (decide ((0 : Int) ≤ a1)) (.br (decide (a1 < (a0.length : Int))) (.c1 (P23 N a0) (fun x1 => .leaf x1)) (.leaf false)) (.leaf false)
noncomputable def F41 (N : Nat) (a0 : (List Ln)) (a1 : Int) : Option Bool := (V41 N a0 a1).eval
def t41 : List (Nat × List Nat × List (Nat × Sh)) := []
theorem P41 (N : Nat) (a0 : (List Ln)) (a1 : Int) : ∀ r, F41 N a0 a1 = some r → Spec Tryd.prog 41 [.val (.list tLn) a0, .val tI a1] (E41 r) := fun r h => Spec_of (fn := Tryd.f41) rfl rfl rfl rfl false (wpc_sound (tbl := t41) (μ := []) mixed _ _ _ (by
  have h1 := Vt.sound _ h
  refine Eq.mp ?_ h1
  kernel_rfl))

/-! ferryslip/tree.Under -/
def E42 : Int → D := fun x => encV tI x
abbrev l42_4 : List (Nat × Sh) := [(0, .val (.list tLn)), (1, .val tI), (5, .val tI)]
noncomputable def b42_4 : Code := loopBody 4 (bodyOf Tryd.f42)
noncomputable def U42_4 (N : Nat) (s0 : (List Ln)) (s1 : Int) (s5 : Int) : Vt (Lp (shTy l42_4).I Int) (O3 (Option D)) (encO 29 l42_4 [0] (fun q => some (E42 q))) :=
  .br (decide ((0 : Int) ≤ s5)) (.ck (inR s5 s0.length) (.ck (inR s1 s0.length) (.br (decide (((atI tLn s0 s1).1) ≤ ((atI tLn s0 s5).1))) (.leaf (.next (s0, s1, (IntKind.i64.wrap (s5 - 1))))) (.leaf (.brk 0 (s0, s1, s5)))))) (.leaf (.brk 0 (s0, s1, s5)))
noncomputable def L42_4 (N : Nat) (s0 : (List Ln)) (s1 : Int) (s5 : Int) : Option (Lp ((List Ln) × Int × Int) Int) := (U42_4 N s0 s1 s5).eval
noncomputable def W42_4 (N : Nat) (x : ((List Ln) × Int × Int)) : Option (Lp ((List Ln) × Int × Int) Int) := runLoop (fun x => L42_4 N x.1 x.2.1 x.2.2) N x
theorem WS42_4 (N : Nat) (x : (shTy l42_4).I) : ∀ o, W42_4 N x = some o → S Tryd.prog (.loop b42_4) (buildSt 29 l42_4 x) (stepZ (rdD Tryd.prog Tryd.f42 false) l42_4 (encO 29 l42_4 [0] (fun q => some (E42 q)) o)) :=
  fun o h => loop_S (l := l42_4) (step := fun x => L42_4 N x.1 x.2.1 x.2.2) (fun x o h => wpc_sound (tbl := []) (μ := []) mixed _ _ _ (by
    have h1 := Vt.sound _ h
    refine Eq.mp ?_ h1
    kernel_rfl)) N x o h
noncomputable def V42 (N : Nat) (a0 : (List Ln)) (a1 : Int) : Vt Int (Option D) (fun q => some (E42 q)) :=
  .c1 (P41 N a0 a1) (fun x1 => .br (!x1) (.leaf (-1)) (.f1 (l := l42_4) (o := W42_4 N (a0, a1, a1)) (WS42_4 N (a0, a1, a1)) (fun x2 => .leaf x2.2.2)))
noncomputable def F42 (N : Nat) (a0 : (List Ln)) (a1 : Int) : Option Int := (V42 N a0 a1).eval
def t42 : List (Nat × List Nat × List (Nat × Sh)) := [(4, [0], l42_4)]
theorem P42 (N : Nat) (a0 : (List Ln)) (a1 : Int) : ∀ r, F42 N a0 a1 = some r → Spec Tryd.prog 42 [.val (.list tLn) a0, .val tI a1] (E42 r) := fun r h => Spec_of (fn := Tryd.f42) rfl rfl rfl rfl false (wpc_sound (tbl := t42) (μ := []) mixed _ _ _ (by
  have h1 := Vt.sound _ h
  refine Eq.mp ?_ h1
  kernel_rfl))

/-! ferryslip/tree.Path -/
def E25o : ((List Bs) × Int) → D := fun x => .tup [.own 9 tS x.1, encV tI x.2]
abbrev l25o_5 : List (Nat × Sh) := [(0, .val (.list tLn)), (6, .row false 25 9 tS), (7, .val tI)]
noncomputable def b25o_5 : Code := loopBody 5 (bodyOf Tryd.f25)
noncomputable def U25o_5 (N : Nat) (s0 : (List Ln)) (s6 : (List Bs)) (s7 : Int) : Vt (Lp (shTy l25o_5).I ((List Bs) × Int)) (O3 (Option D)) (encO 29 l25o_5 [0] (fun q => some (E25o q))) :=
  .br (decide ((0 : Int) ≤ s7)) (.ck (inR s7 s0.length) (.ck (room (s6.length + ([(atI tLn s0 s7).2.1] : (List Bs)).length)) (.c1 (P42 N s0 s7) (fun x1 => .leaf (.next (s0, (s6 ++ ([(atI tLn s0 s7).2.1] : (List Bs))), x1)))))) (.leaf (.brk 0 (s0, s6, s7)))
noncomputable def L25o_5 (N : Nat) (s0 : (List Ln)) (s6 : (List Bs)) (s7 : Int) : Option (Lp ((List Ln) × (List Bs) × Int) ((List Bs) × Int)) := (U25o_5 N s0 s6 s7).eval
noncomputable def W25o_5 (N : Nat) (x : ((List Ln) × (List Bs) × Int)) : Option (Lp ((List Ln) × (List Bs) × Int) ((List Bs) × Int)) := runLoop (fun x => L25o_5 N x.1 x.2.1 x.2.2) N x
theorem WS25o_5 (N : Nat) (x : (shTy l25o_5).I) : ∀ o, W25o_5 N x = some o → S Tryd.prog (.loop b25o_5) (buildSt 29 l25o_5 x) (stepZ (rdD Tryd.prog Tryd.f25 true) l25o_5 (encO 29 l25o_5 [0] (fun q => some (E25o q)) o)) :=
  fun o h => loop_S (l := l25o_5) (step := fun x => L25o_5 N x.1 x.2.1 x.2.2) (fun x o h => wpc_sound (tbl := []) (μ := []) mixed _ _ _ (by
    have h1 := Vt.sound _ h
    refine Eq.mp ?_ h1
    kernel_rfl)) N x o h
noncomputable def V25o (N : Nat) (a0 : (List Ln)) (a1 : Int) : Vt ((List Bs) × Int) (Option D) (fun q => some (E25o q)) :=
  .c1 (P41 N a0 a1) (fun x1 => .br (!x1) (.leaf (([] : (List Bs)), 1)) (.f1 (l := l25o_5) (o := W25o_5 N (a0, ([] : (List Bs)), a1)) (WS25o_5 N (a0, ([] : (List Bs)), a1)) (fun x1 => .cr (P43r N x1.2.1) (fun x2 => .leaf (x2, 0)))))
noncomputable def F25o (N : Nat) (a0 : (List Ln)) (a1 : Int) : Option ((List Bs) × Int) := (V25o N a0 a1).eval
def t25o : List (Nat × List Nat × List (Nat × Sh)) := [(5, [0], l25o_5)]
theorem P25o (N : Nat) (a0 : (List Ln)) (a1 : Int) : ∀ r, F25o N a0 a1 = some r → Spec Tryd.prog 25 [.val (.list tLn) a0, .val tI a1] (E25o r) := fun r h => Spec_of (fn := Tryd.f25) rfl rfl rfl rfl true (wpc_sound (tbl := t25o) (μ := [1000043]) mixed _ _ _ (by
  have h1 := Vt.sound _ h
  refine Eq.mp ?_ h1
  kernel_rfl))

/-! ferryslip/tree.Find -/
def E26 : (Int × Bool) → D := fun x => .tup [encV tI x.1, encV tB x.2]
abbrev l26_5 : List (Nat × Sh) := [(1, .val (.list tS)), (6, .val tI), (22, .val (.list tLn)), (23, .val tI), (24, .val tI)]
noncomputable def b26_5 : Code := loopBody 5 (bodyOf Tryd.f26)
noncomputable def U26_5 (N : Nat) (s1 : (List Bs)) (s6 : Int) (s22 : (List Ln)) (s23 : Int) (s24 : Int) : Vt (Lp (shTy l26_5).I (Int × Bool)) (O3 (Option D)) (encO 58 l26_5 [0] (fun q => some (E26 q))) :=
  .br (decide (s24 < s23)) (.ck (inR s24 s22.length) (.br (decide (((atI tLn s22 s24).1) < s6)) (.leaf (.ret (0, false))) (.br (decide (s6 < ((atI tLn s22 s24).1))) (.leaf (.next (s1, s6, s22, s23, (IntKind.i64.wrap (s24 + 1))))) (.ck (inR s6 s1.length) (.br (!(((atI tLn s22 s24).2.1) == (atI tS s1 s6))) (.leaf (.next (s1, s6, s22, s23, (IntKind.i64.wrap (s24 + 1))))) (.br (s6 == (IntKind.i64.wrap ((s1.length : Int) - 1))) (.leaf (.ret (s24, true))) (.leaf (.next (s1, (IntKind.i64.wrap (s6 + 1)), s22, s23, (IntKind.i64.wrap (s24 + 1))))))))))) (.leaf (.brk 0 (s1, s6, s22, s23, s24)))
noncomputable def L26_5 (N : Nat) (s1 : (List Bs)) (s6 : Int) (s22 : (List Ln)) (s23 : Int) (s24 : Int) : Option (Lp ((List Bs) × Int × (List Ln) × Int × Int) (Int × Bool)) := (U26_5 N s1 s6 s22 s23 s24).eval
noncomputable def W26_5 (N : Nat) (x : ((List Bs) × Int × (List Ln) × Int × Int)) : Option (Lp ((List Bs) × Int × (List Ln) × Int × Int) (Int × Bool)) := runLoop (fun x => L26_5 N x.1 x.2.1 x.2.2.1 x.2.2.2.1 x.2.2.2.2) N x
theorem WS26_5 (N : Nat) (x : (shTy l26_5).I) : ∀ o, W26_5 N x = some o → S Tryd.prog (.loop b26_5) (buildSt 58 l26_5 x) (stepZ (rdD Tryd.prog Tryd.f26 false) l26_5 (encO 58 l26_5 [0] (fun q => some (E26 q)) o)) :=
  fun o h => loop_S (l := l26_5) (step := fun x => L26_5 N x.1 x.2.1 x.2.2.1 x.2.2.2.1 x.2.2.2.2) (fun x o h => wpc_sound (tbl := []) (μ := []) mixed _ _ _ (by
    have h1 := Vt.sound _ h
    refine Eq.mp ?_ h1
    kernel_rfl)) N x o h
noncomputable def V26 (N : Nat) (a0 : (List Ln)) (a1 : (List Bs)) : Vt (Int × Bool) (Option D) (fun q => some (E26 q)) :=
  .c1 (P23 N a0) (fun x1 => .br (!x1) (.leaf (0, false)) (.br ((a1.length : Int) == 0) (.leaf (0, false)) (.br (decide ((16 : Int) < (a1.length : Int))) (.leaf (0, false)) (.f1 (l := l26_5) (o := W26_5 N (a1, 0, a0, (a0.length : Int), 0)) (WS26_5 N (a1, 0, a0, (a0.length : Int), 0)) (fun x2 => .leaf (0, false))))))
noncomputable def F26 (N : Nat) (a0 : (List Ln)) (a1 : (List Bs)) : Option (Int × Bool) := (V26 N a0 a1).eval
def t26 : List (Nat × List Nat × List (Nat × Sh)) := [(5, [0], l26_5)]
theorem P26 (N : Nat) (a0 : (List Ln)) (a1 : (List Bs)) : ∀ r, F26 N a0 a1 = some r → Spec Tryd.prog 26 [.val (.list tLn) a0, .val (.list tS) a1] (E26 r) := fun r h => Spec_of (fn := Tryd.f26) rfl rfl rfl rfl false (wpc_sound (tbl := t26) (μ := []) mixed _ _ _ (by
  have h1 := Vt.sound _ h
  refine Eq.mp ?_ h1
  kernel_rfl))

/-! ferryslip/tree.End -/
def E40 : Int → D := fun x => encV tI x
abbrev l40_4 : List (Nat × Sh) := [(0, .val (.list tLn)), (1, .val tI), (5, .val tI)]
noncomputable def b40_4 : Code := loopBody 4 (bodyOf Tryd.f40)
noncomputable def U40_4 (N : Nat) (s0 : (List Ln)) (s1 : Int) (s5 : Int) : Vt (Lp (shTy l40_4).I Int) (O3 (Option D)) (encO 32 l40_4 [0] (fun q => some (E40 q))) :=
  .br (decide (s5 < (s0.length : Int))) (.ck (inR s5 s0.length) (.ck (inR s1 s0.length) (.br (decide (((atI tLn s0 s1).1) < ((atI tLn s0 s5).1))) (.leaf (.next (s0, s1, (IntKind.i64.wrap (s5 + 1))))) (.leaf (.brk 0 (s0, s1, s5)))))) (.leaf (.brk 0 (s0, s1, s5)))
noncomputable def L40_4 (N : Nat) (s0 : (List Ln)) (s1 : Int) (s5 : Int) : Option (Lp ((List Ln) × Int × Int) Int) := (U40_4 N s0 s1 s5).eval
noncomputable def W40_4 (N : Nat) (x : ((List Ln) × Int × Int)) : Option (Lp ((List Ln) × Int × Int) Int) := runLoop (fun x => L40_4 N x.1 x.2.1 x.2.2) N x
theorem WS40_4 (N : Nat) (x : (shTy l40_4).I) : ∀ o, W40_4 N x = some o → S Tryd.prog (.loop b40_4) (buildSt 32 l40_4 x) (stepZ (rdD Tryd.prog Tryd.f40 false) l40_4 (encO 32 l40_4 [0] (fun q => some (E40 q)) o)) :=
  fun o h => loop_S (l := l40_4) (step := fun x => L40_4 N x.1 x.2.1 x.2.2) (fun x o h => wpc_sound (tbl := []) (μ := []) mixed _ _ _ (by
    have h1 := Vt.sound _ h
    refine Eq.mp ?_ h1
    kernel_rfl)) N x o h
noncomputable def V40 (N : Nat) (a0 : (List Ln)) (a1 : Int) : Vt Int (Option D) (fun q => some (E40 q)) :=
  .c1 (P41 N a0 a1) (fun x1 => .br (!x1) (.leaf 0) (.f1 (l := l40_4) (o := W40_4 N (a0, a1, (IntKind.i64.wrap (a1 + 1)))) (WS40_4 N (a0, a1, (IntKind.i64.wrap (a1 + 1)))) (fun x2 => .leaf x2.2.2)))
noncomputable def F40 (N : Nat) (a0 : (List Ln)) (a1 : Int) : Option Int := (V40 N a0 a1).eval
def t40 : List (Nat × List Nat × List (Nat × Sh)) := [(4, [0], l40_4)]
theorem P40 (N : Nat) (a0 : (List Ln)) (a1 : Int) : ∀ r, F40 N a0 a1 = some r → Spec Tryd.prog 40 [.val (.list tLn) a0, .val tI a1] (E40 r) := fun r h => Spec_of (fn := Tryd.f40) rfl rfl rfl rfl false (wpc_sound (tbl := t40) (μ := []) mixed _ _ _ (by
  have h1 := Vt.sound _ h
  refine Eq.mp ?_ h1
  kernel_rfl))

/-! ferryslip/diff.gone -/
def E24o : (List (Int × ((List Bs) × Int))) → D := fun x => .own 41 (.pair tI (.pair (.list tS) tI)) x
abbrev l24o_3 : List (Nat × Sh) := [(0, .val (.list tLn)), (1, .val (.list tLn)), (5, .row false 35 41 (.pair tI (.pair (.list tS) tI))), (6, .val tI)]
noncomputable def b24o_3 : Code := loopBody 3 (bodyOf Tryd.f24)
noncomputable def U24o_3 (N : Nat) (s0 : (List Ln)) (s1 : (List Ln)) (s5 : (List (Int × ((List Bs) × Int)))) (s6 : Int) : Vt (Lp (shTy l24o_3).I (List (Int × ((List Bs) × Int)))) (O3 (Option D)) (encO 41 l24o_3 [0] (fun q => some (E24o q))) :=
  .br (decide (s6 < (s0.length : Int))) (.c2 (P25o N s0 s6) (fun x1 x2 => .c2 (P26 N s1 x1) (fun x3 x4 => .br (!x4) (.ck (room (s5.length + ([(1, x1, 0)] : (List (Int × ((List Bs) × Int)))).length)) (.c1 (P40 N s0 s6) (fun x5 => .leaf (.next (s0, s1, (s5 ++ ([(1, x1, 0)] : (List (Int × ((List Bs) × Int))))), (IntKind.i64.wrap ((IntKind.i64.wrap (x5 - 1)) + 1))))))) (.leaf (.next (s0, s1, s5, (IntKind.i64.wrap (s6 + 1)))))))) (.leaf (.brk 0 (s0, s1, s5, s6)))
noncomputable def L24o_3 (N : Nat) (s0 : (List Ln)) (s1 : (List Ln)) (s5 : (List (Int × ((List Bs) × Int)))) (s6 : Int) : Option (Lp ((List Ln) × (List Ln) × (List (Int × ((List Bs) × Int))) × Int) (List (Int × ((List Bs) × Int)))) := (U24o_3 N s0 s1 s5 s6).eval
noncomputable def W24o_3 (N : Nat) (x : ((List Ln) × (List Ln) × (List (Int × ((List Bs) × Int))) × Int)) : Option (Lp ((List Ln) × (List Ln) × (List (Int × ((List Bs) × Int))) × Int) (List (Int × ((List Bs) × Int)))) := runLoop (fun x => L24o_3 N x.1 x.2.1 x.2.2.1 x.2.2.2) N x
theorem WS24o_3 (N : Nat) (x : (shTy l24o_3).I) : ∀ o, W24o_3 N x = some o → S Tryd.prog (.loop b24o_3) (buildSt 41 l24o_3 x) (stepZ (rdD Tryd.prog Tryd.f24 true) l24o_3 (encO 41 l24o_3 [0] (fun q => some (E24o q)) o)) :=
  fun o h => loop_S (l := l24o_3) (step := fun x => L24o_3 N x.1 x.2.1 x.2.2.1 x.2.2.2) (fun x o h => wpc_sound (tbl := []) (μ := [20]) mixed _ _ _ (by
    have h1 := Vt.sound _ h
    refine Eq.mp ?_ h1
    kernel_rfl)) N x o h
noncomputable def V24o (N : Nat) (a0 : (List Ln)) (a1 : (List Ln)) : Vt (List (Int × ((List Bs) × Int))) (Option D) (fun q => some (E24o q)) :=
  .f1 (l := l24o_3) (o := W24o_3 N (a0, a1, ([] : (List (Int × ((List Bs) × Int)))), 0)) (WS24o_3 N (a0, a1, ([] : (List (Int × ((List Bs) × Int)))), 0)) (fun x5 => .leaf x5.2.2.1)
noncomputable def F24o (N : Nat) (a0 : (List Ln)) (a1 : (List Ln)) : Option (List (Int × ((List Bs) × Int))) := (V24o N a0 a1).eval
def t24o : List (Nat × List Nat × List (Nat × Sh)) := [(3, [0], l24o_3)]
theorem P24o (N : Nat) (a0 : (List Ln)) (a1 : (List Ln)) : ∀ r, F24o N a0 a1 = some r → Spec Tryd.prog 24 [.val (.list tLn) a0, .val (.list tLn) a1] (E24o r) := fun r h => Spec_of (fn := Tryd.f24) rfl rfl rfl rfl true (wpc_sound (tbl := t24o) (μ := [20]) mixed _ _ _ (by
  have h1 := Vt.sound _ h
  refine Eq.mp ?_ h1
  kernel_rfl))

/-! ferryslip/diff.Of -/
def E11o : ((List (Int × ((List Bs) × Int))) × Int) → D := fun x => .tup [.own 41 (.pair tI (.pair (.list tS) tI)) x.1, encV tI x.2]
abbrev l11o_6 : List (Nat × Sh) := [(0, .val (.list tLn)), (1, .val (.list tLn)), (6, .row false 24 41 (.pair tI (.pair (.list tS) tI))), (7, .row false 53 41 (.pair tI (.pair (.list tS) tI))), (25, .val (.list tLn)), (26, .val tI), (27, .val tI)]
noncomputable def b11o_6 : Code := loopBody 6 (bodyOf Tryd.f11)
noncomputable def U11o_6 (N : Nat) (s0 : (List Ln)) (s1 : (List Ln)) (s6 : (List (Int × ((List Bs) × Int)))) (s7 : (List (Int × ((List Bs) × Int)))) (s25 : (List Ln)) (s26 : Int) (s27 : Int) : Vt (Lp (shTy l11o_6).I ((List (Int × ((List Bs) × Int))) × Int)) (O3 (Option D)) (encO 74 l11o_6 [0] (fun q => some (E11o q))) :=
  .br (decide (s27 < s26)) (.ck (inR s27 s25.length) (.c2 (P25o N s1 s27) (fun x1 x2 => .c2 (P26 N s0 x1) (fun x3 x4 => .br (!x4) (.ck (room (s6.length + ([(2, x1, (atI tLn s25 s27).2.2)] : (List (Int × ((List Bs) × Int)))).length)) (.leaf (.next (s0, s1, (s6 ++ ([(2, x1, (atI tLn s25 s27).2.2)] : (List (Int × ((List Bs) × Int))))), s7, s25, s26, (IntKind.i64.wrap (s27 + 1)))))) (.ck (inR x3 s0.length) (.br (((atI tLn s0 x3).2.2) != ((atI tLn s25 s27).2.2)) (.ck (room (s7.length + ([(3, x1, (atI tLn s25 s27).2.2)] : (List (Int × ((List Bs) × Int)))).length)) (.leaf (.next (s0, s1, s6, (s7 ++ ([(3, x1, (atI tLn s25 s27).2.2)] : (List (Int × ((List Bs) × Int))))), s25, s26, (IntKind.i64.wrap (s27 + 1)))))) (.leaf (.next (s0, s1, s6, s7, s25, s26, (IntKind.i64.wrap (s27 + 1))))))))))) (.leaf (.brk 0 (s0, s1, s6, s7, s25, s26, s27)))
noncomputable def L11o_6 (N : Nat) (s0 : (List Ln)) (s1 : (List Ln)) (s6 : (List (Int × ((List Bs) × Int)))) (s7 : (List (Int × ((List Bs) × Int)))) (s25 : (List Ln)) (s26 : Int) (s27 : Int) : Option (Lp ((List Ln) × (List Ln) × (List (Int × ((List Bs) × Int))) × (List (Int × ((List Bs) × Int))) × (List Ln) × Int × Int) ((List (Int × ((List Bs) × Int))) × Int)) := (U11o_6 N s0 s1 s6 s7 s25 s26 s27).eval
noncomputable def W11o_6 (N : Nat) (x : ((List Ln) × (List Ln) × (List (Int × ((List Bs) × Int))) × (List (Int × ((List Bs) × Int))) × (List Ln) × Int × Int)) : Option (Lp ((List Ln) × (List Ln) × (List (Int × ((List Bs) × Int))) × (List (Int × ((List Bs) × Int))) × (List Ln) × Int × Int) ((List (Int × ((List Bs) × Int))) × Int)) := runLoop (fun x => L11o_6 N x.1 x.2.1 x.2.2.1 x.2.2.2.1 x.2.2.2.2.1 x.2.2.2.2.2.1 x.2.2.2.2.2.2) N x
theorem WS11o_6 (N : Nat) (x : (shTy l11o_6).I) : ∀ o, W11o_6 N x = some o → S Tryd.prog (.loop b11o_6) (buildSt 74 l11o_6 x) (stepZ (rdD Tryd.prog Tryd.f11 true) l11o_6 (encO 74 l11o_6 [0] (fun q => some (E11o q)) o)) :=
  fun o h => loop_S (l := l11o_6) (step := fun x => L11o_6 N x.1 x.2.1 x.2.2.1 x.2.2.2.1 x.2.2.2.2.1 x.2.2.2.2.2.1 x.2.2.2.2.2.2) (fun x o h => wpc_sound (tbl := []) (μ := [24, 35]) mixed _ _ _ (by
    have h1 := Vt.sound _ h
    refine Eq.mp ?_ h1
    kernel_rfl)) N x o h
noncomputable def V11o (N : Nat) (a0 : (List Ln)) (a1 : (List Ln)) : Vt ((List (Int × ((List Bs) × Int))) × Int) (Option D) (fun q => some (E11o q)) :=
  .c1 (P23 N a0) (fun x1 => .br (!x1) (.leaf (([] : (List (Int × ((List Bs) × Int)))), 1)) (.c1 (P23 N a1) (fun x2 => .br (!x2) (.leaf (([] : (List (Int × ((List Bs) × Int)))), 1)) (.c1 (P24o N a0 a1) (fun x3 => .f1 (l := l11o_6) (o := W11o_6 N (a0, a1, x3, ([] : (List (Int × ((List Bs) × Int)))), a1, (a1.length : Int), 0)) (WS11o_6 N (a0, a1, x3, ([] : (List (Int × ((List Bs) × Int)))), a1, (a1.length : Int), 0)) (fun x5 => .ck (room (x5.2.2.1.length + x5.2.2.2.1.length)) (.leaf ((x5.2.2.1 ++ x5.2.2.2.1), 0))))))))
noncomputable def F11o (N : Nat) (a0 : (List Ln)) (a1 : (List Ln)) : Option ((List (Int × ((List Bs) × Int))) × Int) := (V11o N a0 a1).eval
def t11o : List (Nat × List Nat × List (Nat × Sh)) := [(6, [0], l11o_6)]
theorem P11o (N : Nat) (a0 : (List Ln)) (a1 : (List Ln)) : ∀ r, F11o N a0 a1 = some r → Spec Tryd.prog 11 [.val (.list tLn) a0, .val (.list tLn) a1] (E11o r) := fun r h => Spec_of (fn := Tryd.f11) rfl rfl rfl rfl true (wpc_sound (tbl := t11o) (μ := [24, 35]) mixed _ _ _ (by
  have h1 := Vt.sound _ h
  refine Eq.mp ?_ h1
  kernel_rfl))

/-! ferryslip/diff.sign -/
def E30 : Bs → D := fun x => encV tS x
noncomputable def V30 (N : Nat) (a0 : Int) : Vt Bs (Option D) (fun q => some (E30 q)) :=
  .br (a0 == 1) (.leaf ([45] : Bs)) (.br (a0 == 2) (.leaf ([43] : Bs)) (.br (a0 == 3) (.leaf ([33] : Bs)) (.leaf ([63] : Bs))))
noncomputable def F30 (N : Nat) (a0 : Int) : Option Bs := (V30 N a0).eval
def t30 : List (Nat × List Nat × List (Nat × Sh)) := []
theorem P30 (N : Nat) (a0 : Int) : ∀ r, F30 N a0 = some r → Spec Tryd.prog 30 [.val tI a0] (E30 r) := fun r h => Spec_of (fn := Tryd.f30) rfl rfl rfl rfl false (wpc_sound (tbl := t30) (μ := []) mixed _ _ _ (by
  have h1 := Vt.sound _ h
  refine Eq.mp ?_ h1
  kernel_rfl))

/-! ferryslip/word.bare -/
def E62 : Bool → D := fun x => encV tB x
noncomputable def V62 (N : Nat) (a0 : Int) : Vt Bool (Option D) (fun q => some (E62 q)) :=
  .br (decide ((97 : Int) ≤ a0)) (.br (decide (a0 ≤ 122)) (.leaf true) (.br (decide ((65 : Int) ≤ a0)) (.br (decide (a0 ≤ 90)) (.leaf true) (.br (decide ((48 : Int) ≤ a0)) (.br (decide (a0 ≤ 57)) (.leaf true) (.c1 (P71 N ([45, 95, 46, 47, 58, 42] : Bs) a0) (fun x1 => .leaf (decide ((0 : Int) ≤ x1))))) (.c1 (P71 N ([45, 95, 46, 47, 58, 42] : Bs) a0) (fun x2 => .leaf (decide ((0 : Int) ≤ x2)))))) (.br (decide ((48 : Int) ≤ a0)) (.br (decide (a0 ≤ 57)) (.leaf true) (.c1 (P71 N ([45, 95, 46, 47, 58, 42] : Bs) a0) (fun x3 => .leaf (decide ((0 : Int) ≤ x3))))) (.c1 (P71 N ([45, 95, 46, 47, 58, 42] : Bs) a0) (fun x4 => .leaf (decide ((0 : Int) ≤ x4))))))) (.br (decide ((65 : Int) ≤ a0)) (.br (decide (a0 ≤ 90)) (.leaf true) (.br (decide ((48 : Int) ≤ a0)) (.br (decide (a0 ≤ 57)) (.leaf true) (.c1 (P71 N ([45, 95, 46, 47, 58, 42] : Bs) a0) (fun x5 => .leaf (decide ((0 : Int) ≤ x5))))) (.c1 (P71 N ([45, 95, 46, 47, 58, 42] : Bs) a0) (fun x6 => .leaf (decide ((0 : Int) ≤ x6)))))) (.br (decide ((48 : Int) ≤ a0)) (.br (decide (a0 ≤ 57)) (.leaf true) (.c1 (P71 N ([45, 95, 46, 47, 58, 42] : Bs) a0) (fun x7 => .leaf (decide ((0 : Int) ≤ x7))))) (.c1 (P71 N ([45, 95, 46, 47, 58, 42] : Bs) a0) (fun x8 => .leaf (decide ((0 : Int) ≤ x8))))))
noncomputable def F62 (N : Nat) (a0 : Int) : Option Bool := (V62 N a0).eval
def t62 : List (Nat × List Nat × List (Nat × Sh)) := []
theorem P62 (N : Nat) (a0 : Int) : ∀ r, F62 N a0 = some r → Spec Tryd.prog 62 [.val (.int .u8) a0] (E62 r) := fun r h => Spec_of (fn := Tryd.f62) rfl rfl rfl rfl false (wpc_sound (tbl := t62) (μ := []) mixed _ _ _ (by
  have h1 := Vt.sound _ h
  refine Eq.mp ?_ h1
  kernel_rfl))

/-! ferryslip/word.run -/
def E57 : Int → D := fun x => encV tI x
abbrev l57_2 : List (Nat × Sh) := [(0, .val tS), (3, .val tI)]
noncomputable def b57_2 : Code := loopBody 2 (bodyOf Tryd.f57)
noncomputable def U57_2 (N : Nat) (s0 : Bs) (s3 : Int) : Vt (Lp (shTy l57_2).I Int) (O3 (Option D)) (encO 17 l57_2 [0] (fun q => some (E57 q))) :=
  .br (decide (s3 < (s0.length : Int))) (.ck (inR s3 s0.length) (.c1 (P62 N (byteAt s0 s3)) (fun x1 => .br x1 (.leaf (.next (s0, (IntKind.i64.wrap (s3 + 1))))) (.leaf (.brk 0 (s0, s3)))))) (.leaf (.brk 0 (s0, s3)))
noncomputable def L57_2 (N : Nat) (s0 : Bs) (s3 : Int) : Option (Lp (Bs × Int) Int) := (U57_2 N s0 s3).eval
noncomputable def W57_2 (N : Nat) (x : (Bs × Int)) : Option (Lp (Bs × Int) Int) := runLoop (fun x => L57_2 N x.1 x.2) N x
theorem WS57_2 (N : Nat) (x : (shTy l57_2).I) : ∀ o, W57_2 N x = some o → S Tryd.prog (.loop b57_2) (buildSt 17 l57_2 x) (stepZ (rdD Tryd.prog Tryd.f57 false) l57_2 (encO 17 l57_2 [0] (fun q => some (E57 q)) o)) :=
  fun o h => loop_S (l := l57_2) (step := fun x => L57_2 N x.1 x.2) (fun x o h => wpc_sound (tbl := []) (μ := []) mixed _ _ _ (by
    have h1 := Vt.sound _ h
    refine Eq.mp ?_ h1
    kernel_rfl)) N x o h
noncomputable def V57 (N : Nat) (a0 : Bs) : Vt Int (Option D) (fun q => some (E57 q)) :=
  .f1 (l := l57_2) (o := W57_2 N (a0, 0)) (WS57_2 N (a0, 0)) (fun x1 => .leaf x1.2)
noncomputable def F57 (N : Nat) (a0 : Bs) : Option Int := (V57 N a0).eval
def t57 : List (Nat × List Nat × List (Nat × Sh)) := [(2, [0], l57_2)]
theorem P57 (N : Nat) (a0 : Bs) : ∀ r, F57 N a0 = some r → Spec Tryd.prog 57 [.val tS a0] (E57 r) := fun r h => Spec_of (fn := Tryd.f57) rfl rfl rfl rfl false (wpc_sound (tbl := t57) (μ := []) mixed _ _ _ (by
  have h1 := Vt.sound _ h
  refine Eq.mp ?_ h1
  kernel_rfl))

/-! ferryslip/word.mark -/
def E58 : Bool → D := fun x => encV tB x
noncomputable def V58 (N : Nat) (a0 : Bs) : Vt Bool (Option D) (fun q => some (E58 q)) :=
  .br (a0 == ([105, 110, 97, 99, 116, 105, 118, 101, 58] : Bs)) (.leaf true) (.br (a0 == ([112, 114, 111, 116, 101, 99, 116, 58] : Bs)) (.leaf true) (.c1 (P63 N a0 ([47, 42] : Bs)) (fun x1 => .leaf x1)))
noncomputable def F58 (N : Nat) (a0 : Bs) : Option Bool := (V58 N a0).eval
def t58 : List (Nat × List Nat × List (Nat × Sh)) := []
theorem P58 (N : Nat) (a0 : Bs) : ∀ r, F58 N a0 = some r → Spec Tryd.prog 58 [.val tS a0] (E58 r) := fun r h => Spec_of (fn := Tryd.f58) rfl rfl rfl rfl false (wpc_sound (tbl := t58) (μ := []) mixed _ _ _ (by
  have h1 := Vt.sound _ h
  refine Eq.mp ?_ h1
  kernel_rfl))

/-! ferryslip/word.Plain -/
def E46 : Bool → D := fun x => encV tB x
noncomputable def V46 (N : Nat) (a0 : Bs) : Vt Bool (Option D) (fun q => some (E46 q)) :=
  .br (!(a0 == ([] : Bs))) (.br (decide ((a0.length : Int) ≤ 40)) (.c1 (P57 N a0) (fun x1 => .br (x1 == (a0.length : Int)) (.c1 (P58 N a0) (fun x2 => .leaf (!x2))) (.leaf false))) (.leaf false)) (.leaf false)
noncomputable def F46 (N : Nat) (a0 : Bs) : Option Bool := (V46 N a0).eval
def t46 : List (Nat × List Nat × List (Nat × Sh)) := []
theorem P46 (N : Nat) (a0 : Bs) : ∀ r, F46 N a0 = some r → Spec Tryd.prog 46 [.val tS a0] (E46 r) := fun r h => Spec_of (fn := Tryd.f46) rfl rfl rfl rfl false (wpc_sound (tbl := t46) (μ := []) mixed _ _ _ (by
  have h1 := Vt.sound _ h
  refine Eq.mp ?_ h1
  kernel_rfl))

/-! ferryslip/word.escape -/
def E48 : Bs → D := fun x => encV tS x
noncomputable def V48 (N : Nat) (a0 : Int) : Vt Bs (Option D) (fun q => some (E48 q)) :=
  .br (a0 == 34) (.leaf (strOf ([92, a0] : (List Int)))) (.br (a0 == 92) (.leaf (strOf ([92, a0] : (List Int)))) (.br (decide ((32 : Int) ≤ a0)) (.br (decide (a0 ≤ 126)) (.leaf (strOf ([a0] : (List Int)))) (.ck (0 ≤ (4 : Int)) (.ck (inR (a0.fdiv (2 ^ (min (4 : Int).toNat (IntKind.u8.bits)))) ([48, 49, 50, 51, 52, 53, 54, 55, 56, 57, 97, 98, 99, 100, 101, 102] : Bs).length) (.ck (inR (IntKind.u8.wrap (((BitVec.ofInt IntKind.u8.bits a0 &&& BitVec.ofInt IntKind.u8.bits 15).toNat : Int))) ([48, 49, 50, 51, 52, 53, 54, 55, 56, 57, 97, 98, 99, 100, 101, 102] : Bs).length) (.ck (room (([92, 120] : Bs).length + (strOf ([(byteAt ([48, 49, 50, 51, 52, 53, 54, 55, 56, 57, 97, 98, 99, 100, 101, 102] : Bs) (a0.fdiv (2 ^ (min (4 : Int).toNat (IntKind.u8.bits))))), (byteAt ([48, 49, 50, 51, 52, 53, 54, 55, 56, 57, 97, 98, 99, 100, 101, 102] : Bs) (IntKind.u8.wrap (((BitVec.ofInt IntKind.u8.bits a0 &&& BitVec.ofInt IntKind.u8.bits 15).toNat : Int))))] : (List Int))).length)) (.leaf (([92, 120] : Bs) ++ (strOf ([(byteAt ([48, 49, 50, 51, 52, 53, 54, 55, 56, 57, 97, 98, 99, 100, 101, 102] : Bs) (a0.fdiv (2 ^ (min (4 : Int).toNat (IntKind.u8.bits))))), (byteAt ([48, 49, 50, 51, 52, 53, 54, 55, 56, 57, 97, 98, 99, 100, 101, 102] : Bs) (IntKind.u8.wrap (((BitVec.ofInt IntKind.u8.bits a0 &&& BitVec.ofInt IntKind.u8.bits 15).toNat : Int))))] : (List Int)))))))))) (.ck (0 ≤ (4 : Int)) (.ck (inR (a0.fdiv (2 ^ (min (4 : Int).toNat (IntKind.u8.bits)))) ([48, 49, 50, 51, 52, 53, 54, 55, 56, 57, 97, 98, 99, 100, 101, 102] : Bs).length) (.ck (inR (IntKind.u8.wrap (((BitVec.ofInt IntKind.u8.bits a0 &&& BitVec.ofInt IntKind.u8.bits 15).toNat : Int))) ([48, 49, 50, 51, 52, 53, 54, 55, 56, 57, 97, 98, 99, 100, 101, 102] : Bs).length) (.ck (room (([92, 120] : Bs).length + (strOf ([(byteAt ([48, 49, 50, 51, 52, 53, 54, 55, 56, 57, 97, 98, 99, 100, 101, 102] : Bs) (a0.fdiv (2 ^ (min (4 : Int).toNat (IntKind.u8.bits))))), (byteAt ([48, 49, 50, 51, 52, 53, 54, 55, 56, 57, 97, 98, 99, 100, 101, 102] : Bs) (IntKind.u8.wrap (((BitVec.ofInt IntKind.u8.bits a0 &&& BitVec.ofInt IntKind.u8.bits 15).toNat : Int))))] : (List Int))).length)) (.leaf (([92, 120] : Bs) ++ (strOf ([(byteAt ([48, 49, 50, 51, 52, 53, 54, 55, 56, 57, 97, 98, 99, 100, 101, 102] : Bs) (a0.fdiv (2 ^ (min (4 : Int).toNat (IntKind.u8.bits))))), (byteAt ([48, 49, 50, 51, 52, 53, 54, 55, 56, 57, 97, 98, 99, 100, 101, 102] : Bs) (IntKind.u8.wrap (((BitVec.ofInt IntKind.u8.bits a0 &&& BitVec.ofInt IntKind.u8.bits 15).toNat : Int))))] : (List Int)))))))))))
noncomputable def F48 (N : Nat) (a0 : Int) : Option Bs := (V48 N a0).eval
def t48 : List (Nat × List Nat × List (Nat × Sh)) := []
theorem P48 (N : Nat) (a0 : Int) : ∀ r, F48 N a0 = some r → Spec Tryd.prog 48 [.val (.int .u8) a0] (E48 r) := fun r h => Spec_of (fn := Tryd.f48) rfl rfl rfl rfl false (wpc_sound (tbl := t48) (μ := []) mixed _ _ _ (by
  have h1 := Vt.sound _ h
  refine Eq.mp ?_ h1
  kernel_rfl))

/-! ferryslip/word.Quote -/
def E31 : (Bs × Int) → D := fun x => .tup [encV tS x.1, encV tI x.2]
abbrev l31_8 : List (Nat × Sh) := [(0, .val tS), (4, .grp false 4 61 [.slf, .buf 5]), (16, .val tI), (17, .val tI)]
noncomputable def b31_8 : Code := loopBody 8 (bodyOf Tryd.f31)
noncomputable def U31_8 (N : Nat) (s0 : Bs) (s4 : (Bool × (List Int))) (s16 : Int) (s17 : Int) : Vt (Lp (shTy l31_8).I (Bs × Int)) (O3 (Option D)) (encO 28 l31_8 [1] (fun q => some (E31 q))) :=
  .br (decide (s17 < s16)) (.ck (inR s17 s0.length) (.c1 (P48 N (byteAt s0 s17)) (fun x1 => .cr (P29b N (true, s4.2) x1) (fun x2 => .leaf (.next (s0, (true, x2.2), s16, (IntKind.i64.wrap (s17 + 1)))))))) (.leaf (.brk 0 (s0, (true, s4.2), s16, s17)))
noncomputable def L31_8 (N : Nat) (s0 : Bs) (s4 : (Bool × (List Int))) (s16 : Int) (s17 : Int) : Option (Lp (Bs × (Bool × (List Int)) × Int × Int) (Bs × Int)) := (U31_8 N s0 s4 s16 s17).eval
noncomputable def W31_8 (N : Nat) (x : (Bs × (Bool × (List Int)) × Int × Int)) : Option (Lp (Bs × (Bool × (List Int)) × Int × Int) (Bs × Int)) := runLoop (fun x => L31_8 N x.1 x.2.1 x.2.2.1 x.2.2.2) N x
theorem WS31_8 (N : Nat) (x : (shTy l31_8).I) : ∀ o, W31_8 N x = some o → S Tryd.prog (.loop b31_8) (buildSt 28 l31_8 x) (stepZ (rdD Tryd.prog Tryd.f31 false) l31_8 (encO 28 l31_8 [1] (fun q => some (E31 q)) o)) :=
  fun o h => loop_S (l := l31_8) (step := fun x => L31_8 N x.1 x.2.1 x.2.2.1 x.2.2.2) (fun x o h => wpc_sound (tbl := []) (μ := [4000029, 4000047]) mixed _ _ _ (by
    have h1 := Vt.sound _ h
    refine Eq.mp ?_ h1
    kernel_rfl)) N x o h
noncomputable def V31 (N : Nat) (a0 : Bs) : Vt (Bs × Int) (Option D) (fun q => some (E31 q)) :=
  .br (decide ((40 : Int) < (a0.length : Int))) (.leaf (([] : Bs), 5)) (.c1 (P46 N a0) (fun x1 => .br x1 (.leaf (a0, 0)) (.cr (P47b N (true, ([] : List Int)) 34) (fun x2 => .f1 (l := l31_8) (o := W31_8 N (a0, (true, x2.2), (a0.length : Int), 0)) (WS31_8 N (a0, (true, x2.2), (a0.length : Int), 0)) (fun x3 => .cr (P33k N (true, x3.2.1.2)) (fun x4 => .ck (room (x4.length + ([34] : Bs).length)) (.leaf ((x4 ++ ([34] : Bs)), 0))))))))
noncomputable def F31 (N : Nat) (a0 : Bs) : Option (Bs × Int) := (V31 N a0).eval
def t31 : List (Nat × List Nat × List (Nat × Sh)) := [(8, [1], l31_8)]
theorem P31 (N : Nat) (a0 : Bs) : ∀ r, F31 N a0 = some r → Spec Tryd.prog 31 [.val tS a0] (E31 r) := fun r h => Spec_of (fn := Tryd.f31) rfl rfl rfl rfl false (wpc_sound (tbl := t31) (μ := [4000029, 4000047, 5000033]) mixed _ _ _ (by
  have h1 := Vt.sound _ h
  refine Eq.mp ?_ h1
  kernel_rfl))

/-! ferryslip/diff.Text -/
def E16 : Bs → D := fun x => encV tS x
abbrev l16_7 : List (Nat × Sh) := [(3, .grp false 3 61 [.slf, .buf 5]), (5, .cel false 5 41 (.pair tI (.pair (.list tS) tI))), (10, .val (.list (.pair tI (.pair (.list tS) tI)))), (11, .val tI), (12, .val tI), (21, .val (.list tS)), (22, .val tI), (23, .val tI)]
noncomputable def b16_7 : Code := loopBody 7 (bodyOf Tryd.f16)
noncomputable def U16_7 (N : Nat) (s3 : (Bool × (List Int))) (s5 : (Int × ((List Bs) × Int))) (s10 : (List (Int × ((List Bs) × Int)))) (s11 : Int) (s12 : Int) (s21 : (List Bs)) (s22 : Int) (s23 : Int) : Vt (Lp (shTy l16_7).I Bs) (O3 (Option D)) (encO 58 l16_7 [2] (fun q => some (E16 q))) :=
  .br (decide (s23 < s22)) (.ck (inR s23 s21.length) (.c2 (P31 N (atI tS s21 s23)) (fun x1 x2 => .ck (room (([32] : Bs).length + x1.length)) (.cr (P29b N (true, s3.2) (([32] : Bs) ++ x1)) (fun x3 => .leaf (.next ((true, x3.2), s5, s10, s11, s12, s21, s22, (IntKind.i64.wrap (s23 + 1))))))))) (.leaf (.brk 0 ((true, s3.2), s5, s10, s11, s12, s21, s22, s23)))
noncomputable def L16_7 (N : Nat) (s3 : (Bool × (List Int))) (s5 : (Int × ((List Bs) × Int))) (s10 : (List (Int × ((List Bs) × Int)))) (s11 : Int) (s12 : Int) (s21 : (List Bs)) (s22 : Int) (s23 : Int) : Option (Lp ((Bool × (List Int)) × (Int × ((List Bs) × Int)) × (List (Int × ((List Bs) × Int))) × Int × Int × (List Bs) × Int × Int) Bs) := (U16_7 N s3 s5 s10 s11 s12 s21 s22 s23).eval
noncomputable def W16_7 (N : Nat) (x : ((Bool × (List Int)) × (Int × ((List Bs) × Int)) × (List (Int × ((List Bs) × Int))) × Int × Int × (List Bs) × Int × Int)) : Option (Lp ((Bool × (List Int)) × (Int × ((List Bs) × Int)) × (List (Int × ((List Bs) × Int))) × Int × Int × (List Bs) × Int × Int) Bs) := runLoop (fun x => L16_7 N x.1 x.2.1 x.2.2.1 x.2.2.2.1 x.2.2.2.2.1 x.2.2.2.2.2.1 x.2.2.2.2.2.2.1 x.2.2.2.2.2.2.2) N x
theorem WS16_7 (N : Nat) (x : (shTy l16_7).I) : ∀ o, W16_7 N x = some o → S Tryd.prog (.loop b16_7) (buildSt 58 l16_7 x) (stepZ (rdD Tryd.prog Tryd.f16 false) l16_7 (encO 58 l16_7 [2] (fun q => some (E16 q)) o)) :=
  fun o h => loop_S (l := l16_7) (step := fun x => L16_7 N x.1 x.2.1 x.2.2.1 x.2.2.2.1 x.2.2.2.2.1 x.2.2.2.2.2.1 x.2.2.2.2.2.2.1 x.2.2.2.2.2.2.2) (fun x o h => wpc_sound (tbl := []) (μ := [4000029]) mixed _ _ _ (by
    have h1 := Vt.sound _ h
    refine Eq.mp ?_ h1
    kernel_rfl)) N x o h
abbrev l16_3 : List (Nat × Sh) := [(3, .grp false 3 61 [.slf, .buf 5]), (10, .val (.list (.pair tI (.pair (.list tS) tI)))), (11, .val tI), (12, .val tI)]
noncomputable def b16_3 : Code := loopBody 3 (bodyOf Tryd.f16)
noncomputable def U16_3 (N : Nat) (s3 : (Bool × (List Int))) (s10 : (List (Int × ((List Bs) × Int)))) (s11 : Int) (s12 : Int) : Vt (Lp (shTy l16_3).I Bs) (O3 (Option D)) (encO 58 l16_3 [0] (fun q => some (E16 q))) :=
  .br (decide (s12 < s11)) (.ck (inR s12 s10.length) (.c1 (P30 N ((atI (.pair tI (.pair (.list tS) tI)) s10 s12).1)) (fun x1 => .cr (P29b N (true, s3.2) x1) (fun x2 => .g1 (l := l16_7) (o := W16_7 N ((true, x2.2), (atI (.pair tI (.pair (.list tS) tI)) s10 s12), s10, s11, s12, (atI (.pair tI (.pair (.list tS) tI)) s10 s12).2.1, (((atI (.pair tI (.pair (.list tS) tI)) s10 s12).2.1).length : Int), 0)) (WS16_7 N ((true, x2.2), (atI (.pair tI (.pair (.list tS) tI)) s10 s12), s10, s11, s12, (atI (.pair tI (.pair (.list tS) tI)) s10 s12).2.1, (((atI (.pair tI (.pair (.list tS) tI)) s10 s12).2.1).length : Int), 0)) (fun x3 => .br (x3.2.1.1 != 1) (.br (x3.2.1.1 != 2) (.c1 (P32 N x3.2.1.2.2) (fun x4 => .ck (room (([32, 40] : Bs).length + x4.length)) (.ck (room ((([32, 40] : Bs) ++ x4).length + ([41] : Bs).length)) (.cr (P29b N (true, x3.1.2) ((([32, 40] : Bs) ++ x4) ++ ([41] : Bs))) (fun x5 => .cr (P29b N (true, x5.2) ([10] : Bs)) (fun x6 => .leaf (.next ((true, x6.2), x3.2.2.1, x3.2.2.2.1, (IntKind.i64.wrap (x3.2.2.2.2.1 + 1)))))))))) (.br (x3.2.1.2.2 != 0) (.c1 (P32 N x3.2.1.2.2) (fun x7 => .ck (room (([32, 40] : Bs).length + x7.length)) (.ck (room ((([32, 40] : Bs) ++ x7).length + ([41] : Bs).length)) (.cr (P29b N (true, x3.1.2) ((([32, 40] : Bs) ++ x7) ++ ([41] : Bs))) (fun x8 => .cr (P29b N (true, x8.2) ([10] : Bs)) (fun x9 => .leaf (.next ((true, x9.2), x3.2.2.1, x3.2.2.2.1, (IntKind.i64.wrap (x3.2.2.2.2.1 + 1)))))))))) (.cr (P29b N (true, x3.1.2) ([10] : Bs)) (fun x10 => .leaf (.next ((true, x10.2), x3.2.2.1, x3.2.2.2.1, (IntKind.i64.wrap (x3.2.2.2.2.1 + 1)))))))) (.cr (P29b N (true, x3.1.2) ([10] : Bs)) (fun x11 => .leaf (.next ((true, x11.2), x3.2.2.1, x3.2.2.2.1, (IntKind.i64.wrap (x3.2.2.2.2.1 + 1))))))))))) (.leaf (.brk 0 ((true, s3.2), s10, s11, s12)))
noncomputable def L16_3 (N : Nat) (s3 : (Bool × (List Int))) (s10 : (List (Int × ((List Bs) × Int)))) (s11 : Int) (s12 : Int) : Option (Lp ((Bool × (List Int)) × (List (Int × ((List Bs) × Int))) × Int × Int) Bs) := (U16_3 N s3 s10 s11 s12).eval
noncomputable def W16_3 (N : Nat) (x : ((Bool × (List Int)) × (List (Int × ((List Bs) × Int))) × Int × Int)) : Option (Lp ((Bool × (List Int)) × (List (Int × ((List Bs) × Int))) × Int × Int) Bs) := runLoop (fun x => L16_3 N x.1 x.2.1 x.2.2.1 x.2.2.2) N x
theorem WS16_3 (N : Nat) (x : (shTy l16_3).I) : ∀ o, W16_3 N x = some o → S Tryd.prog (.loop b16_3) (buildSt 58 l16_3 x) (stepZ (rdD Tryd.prog Tryd.f16 false) l16_3 (encO 58 l16_3 [0] (fun q => some (E16 q)) o)) :=
  fun o h => loop_S (l := l16_3) (step := fun x => L16_3 N x.1 x.2.1 x.2.2.1 x.2.2.2) (fun x o h => wpc_sound (tbl := [(7, [2], l16_7)]) (μ := [4000029]) mixed _ _ _ (by
    have h1 := Vt.sound _ h
    refine Eq.mp ?_ h1
    kernel_rfl)) N x o h
noncomputable def V16 (N : Nat) (a0 : (List (Int × ((List Bs) × Int)))) : Vt Bs (Option D) (fun q => some (E16 q)) :=
  .f1 (l := l16_3) (o := W16_3 N ((true, ([] : List Int)), a0, (a0.length : Int), 0)) (WS16_3 N ((true, ([] : List Int)), a0, (a0.length : Int), 0)) (fun x1 => .cr (P33k N (true, x1.1.2)) (fun x2 => .leaf x2))
noncomputable def F16 (N : Nat) (a0 : (List (Int × ((List Bs) × Int)))) : Option Bs := (V16 N a0).eval
def t16 : List (Nat × List Nat × List (Nat × Sh)) := [(7, [2], l16_7), (3, [0], l16_3)]
theorem P16 (N : Nat) (a0 : (List (Int × ((List Bs) × Int)))) : ∀ r, F16 N a0 = some r → Spec Tryd.prog 16 [.val (.list (.pair tI (.pair (.list tS) tI))) a0] (E16 r) := fun r h => Spec_of (fn := Tryd.f16) rfl rfl rfl rfl false (wpc_sound (tbl := t16) (μ := [4000029, 5000033]) mixed _ _ _ (by
  have h1 := Vt.sound _ h
  refine Eq.mp ?_ h1
  kernel_rfl))

/-! slices.Clone[[]ferryslip/api.Line,ferryslip/api.Line] -/
def E36o : (List Ln) → D := fun x => .own 49 tLn x
noncomputable def V36o (N : Nat) (a0 : (List Ln)) : Vt (List Ln) (Option D) (fun q => some (E36o q)) :=
  .nq (a0 = []) (.leaf ([] : (List Ln))) (.ck (room (([] : (List Ln)).length + a0.length)) (.leaf (([] : (List Ln)) ++ a0)))
noncomputable def F36o (N : Nat) (a0 : (List Ln)) : Option (List Ln) := (V36o N a0).eval
def t36o : List (Nat × List Nat × List (Nat × Sh)) := []
theorem P36o (N : Nat) (a0 : (List Ln)) : ∀ r, F36o N a0 = some r → Spec Tryd.prog 36 [.val (.list tLn) a0] (E36o r) := fun r h => Spec_of (fn := Tryd.f36) rfl rfl rfl rfl true (wpc_sound (tbl := t36o) (μ := []) mixed _ _ _ (by
  have h1 := Vt.sound _ h
  refine Eq.mp ?_ h1
  kernel_rfl))

/-! ferryslip/lines.sound$1 -/
def E79 : Bool → D := fun x => encV tB x
noncomputable def V79 (N : Nat) (a0 : Bs) : Vt Bool (Option D) (fun q => some (E79 q)) :=
  .leaf (decide ((40 : Int) < (a0.length : Int)))
noncomputable def F79 (N : Nat) (a0 : Bs) : Option Bool := (V79 N a0).eval
def t79 : List (Nat × List Nat × List (Nat × Sh)) := []
theorem P79 (N : Nat) (a0 : Bs) : ∀ r, F79 N a0 = some r → Spec Tryd.prog 79 [.val tS a0] (E79 r) := fun r h => Spec_of (fn := Tryd.f79) rfl rfl rfl rfl false (wpc_sound (tbl := t79) (μ := []) mixed _ _ _ (by
  have h1 := Vt.sound _ h
  refine Eq.mp ?_ h1
  kernel_rfl))

/-! slices.IndexFunc[[]string,string] -/
def E86C79 : Int → D := fun x => encV tI x
abbrev l86C79_2 : List (Nat × Sh) := [(0, .val (.list tS)), (1, .fnc 79), (7, .val tI), (8, .val tI)]
noncomputable def b86C79_2 : Code := loopBody 2 (bodyOf Tryd.f86)
noncomputable def U86C79_2 (N : Nat) (s0 : (List Bs)) (s1 : Bool) (s7 : Int) (s8 : Int) : Vt (Lp (shTy l86C79_2).I Int) (O3 (Option D)) (encO 19 l86C79_2 [0] (fun q => some (E86C79 q))) :=
  .br (decide (s8 < s7)) (.ck (inR s8 s0.length) (.c1 (P79 N (atI tS s0 s8)) (fun x1 => .br x1 (.leaf (.ret s8)) (.leaf (.next (s0, true, s7, (IntKind.i64.wrap (s8 + 1)))))))) (.leaf (.brk 0 (s0, true, s7, s8)))
noncomputable def L86C79_2 (N : Nat) (s0 : (List Bs)) (s1 : Bool) (s7 : Int) (s8 : Int) : Option (Lp ((List Bs) × Bool × Int × Int) Int) := (U86C79_2 N s0 s1 s7 s8).eval
noncomputable def W86C79_2 (N : Nat) (x : ((List Bs) × Bool × Int × Int)) : Option (Lp ((List Bs) × Bool × Int × Int) Int) := runLoop (fun x => L86C79_2 N x.1 x.2.1 x.2.2.1 x.2.2.2) N x
theorem WS86C79_2 (N : Nat) (x : (shTy l86C79_2).I) : ∀ o, W86C79_2 N x = some o → S Tryd.prog (.loop b86C79_2) (buildSt 19 l86C79_2 x) (stepZ (rdD Tryd.prog Tryd.f86 false) l86C79_2 (encO 19 l86C79_2 [0] (fun q => some (E86C79 q)) o)) :=
  fun o h => loop_S (l := l86C79_2) (step := fun x => L86C79_2 N x.1 x.2.1 x.2.2.1 x.2.2.2) (fun x o h => wpc_sound (tbl := []) (μ := []) mixed _ _ _ (by
    have h1 := Vt.sound _ h
    refine Eq.mp ?_ h1
    kernel_rfl)) N x o h
noncomputable def V86C79 (N : Nat) (a0 : (List Bs)) : Vt Int (Option D) (fun q => some (E86C79 q)) :=
  .f1 (l := l86C79_2) (o := W86C79_2 N (a0, true, (a0.length : Int), 0)) (WS86C79_2 N (a0, true, (a0.length : Int), 0)) (fun x1 => .leaf (-1))
noncomputable def F86C79 (N : Nat) (a0 : (List Bs)) : Option Int := (V86C79 N a0).eval
def t86C79 : List (Nat × List Nat × List (Nat × Sh)) := [(2, [0], l86C79_2)]
theorem P86C79 (N : Nat) (a0 : (List Bs)) : ∀ r, F86C79 N a0 = some r → Spec Tryd.prog 86 [.val (.list tS) a0, .fn (.func 79)] (E86C79 r) := fun r h => Spec_of (fn := Tryd.f86) rfl rfl rfl rfl false (wpc_sound (tbl := t86C79) (μ := []) mixed _ _ _ (by
  have h1 := Vt.sound _ h
  refine Eq.mp ?_ h1
  kernel_rfl))

/-! slices.ContainsFunc[[]string,string] -/
def E78C79 : Bool → D := fun x => encV tB x
noncomputable def V78C79 (N : Nat) (a0 : (List Bs)) : Vt Bool (Option D) (fun q => some (E78C79 q)) :=
  .c1 (P86C79 N a0) (fun x1 => .leaf (decide ((0 : Int) ≤ x1)))
noncomputable def F78C79 (N : Nat) (a0 : (List Bs)) : Option Bool := (V78C79 N a0).eval
def t78C79 : List (Nat × List Nat × List (Nat × Sh)) := []
theorem P78C79 (N : Nat) (a0 : (List Bs)) : ∀ r, F78C79 N a0 = some r → Spec Tryd.prog 78 [.val (.list tS) a0, .fn (.func 79)] (E78C79 r) := fun r h => Spec_of (fn := Tryd.f78) rfl rfl rfl rfl false (wpc_sound (tbl := t78C79) (μ := []) mixed _ _ _ (by
  have h1 := Vt.sound _ h
  refine Eq.mp ?_ h1
  kernel_rfl))

/-! ferryslip/lines.sound -/
def E68 : Bool → D := fun x => encV tB x
noncomputable def V68 (N : Nat) (a0 : (List Bs)) : Vt Bool (Option D) (fun q => some (E68 q)) :=
  .br (decide ((0 : Int) < (a0.length : Int))) (.c1 (P78C79 N a0) (fun x1 => .leaf (!x1))) (.leaf false)
noncomputable def F68 (N : Nat) (a0 : (List Bs)) : Option Bool := (V68 N a0).eval
def t68 : List (Nat × List Nat × List (Nat × Sh)) := []
theorem P68 (N : Nat) (a0 : (List Bs)) : ∀ r, F68 N a0 = some r → Spec Tryd.prog 68 [.val (.list tS) a0] (E68 r) := fun r h => Spec_of (fn := Tryd.f68) rfl rfl rfl rfl false (wpc_sound (tbl := t68) (μ := []) mixed _ _ _ (by
  have h1 := Vt.sound _ h
  refine Eq.mp ?_ h1
  kernel_rfl))

/-! ferryslip/tree.Kids -/
def E82o : (List Int) → D := fun x => .own 3 tI x
abbrev l82o_8 : List (Nat × Sh) := [(0, .val (.list tLn)), (6, .val tI), (7, .val tI), (8, .row false 54 3 tI), (9, .val tI)]
noncomputable def b82o_8 : Code := loopBody 8 (bodyOf Tryd.f82)
noncomputable def U82o_8 (N : Nat) (s0 : (List Ln)) (s6 : Int) (s7 : Int) (s8 : (List Int)) (s9 : Int) : Vt (Lp (shTy l82o_8).I (List Int)) (O3 (Option D)) (encO 56 l82o_8 [0] (fun q => some (E82o q))) :=
  .br (decide (s9 < s6)) (.ck (inR s9 s0.length) (.br (((atI tLn s0 s9).1) == s7) (.ck (room (s8.length + ([s9] : (List Int)).length)) (.leaf (.next (s0, s6, s7, (s8 ++ ([s9] : (List Int))), (IntKind.i64.wrap (s9 + 1)))))) (.leaf (.next (s0, s6, s7, s8, (IntKind.i64.wrap (s9 + 1))))))) (.leaf (.brk 0 (s0, s6, s7, s8, s9)))
noncomputable def L82o_8 (N : Nat) (s0 : (List Ln)) (s6 : Int) (s7 : Int) (s8 : (List Int)) (s9 : Int) : Option (Lp ((List Ln) × Int × Int × (List Int) × Int) (List Int)) := (U82o_8 N s0 s6 s7 s8 s9).eval
noncomputable def W82o_8 (N : Nat) (x : ((List Ln) × Int × Int × (List Int) × Int)) : Option (Lp ((List Ln) × Int × Int × (List Int) × Int) (List Int)) := runLoop (fun x => L82o_8 N x.1 x.2.1 x.2.2.1 x.2.2.2.1 x.2.2.2.2) N x
theorem WS82o_8 (N : Nat) (x : (shTy l82o_8).I) : ∀ o, W82o_8 N x = some o → S Tryd.prog (.loop b82o_8) (buildSt 56 l82o_8 x) (stepZ (rdD Tryd.prog Tryd.f82 true) l82o_8 (encO 56 l82o_8 [0] (fun q => some (E82o q)) o)) :=
  fun o h => loop_S (l := l82o_8) (step := fun x => L82o_8 N x.1 x.2.1 x.2.2.1 x.2.2.2.1 x.2.2.2.2) (fun x o h => wpc_sound (tbl := []) (μ := []) mixed _ _ _ (by
    have h1 := Vt.sound _ h
    refine Eq.mp ?_ h1
    kernel_rfl)) N x o h
noncomputable def V82o (N : Nat) (a0 : (List Ln)) (a1 : Int) : Vt (List Int) (Option D) (fun q => some (E82o q)) :=
  .c1 (P23 N a0) (fun x1 => .br (!x1) (.leaf ([] : (List Int))) (.br (decide (a1 < (-1))) (.leaf ([] : (List Int))) (.br (decide ((a0.length : Int) ≤ a1)) (.leaf ([] : (List Int))) (.br (decide ((0 : Int) ≤ a1)) (.c1 (P40 N a0 a1) (fun x2 => .ck (inR a1 a0.length) (.f1 (l := l82o_8) (o := W82o_8 N (a0, x2, (IntKind.i64.wrap (((atI tLn a0 a1).1) + 1)), ([] : (List Int)), (IntKind.i64.wrap (a1 + 1)))) (WS82o_8 N (a0, x2, (IntKind.i64.wrap (((atI tLn a0 a1).1) + 1)), ([] : (List Int)), (IntKind.i64.wrap (a1 + 1)))) (fun x1 => .leaf x1.2.2.2.1)))) (.f1 (l := l82o_8) (o := W82o_8 N (a0, (a0.length : Int), 0, ([] : (List Int)), 0)) (WS82o_8 N (a0, (a0.length : Int), 0, ([] : (List Int)), 0)) (fun x2 => .leaf x2.2.2.2.1))))))
noncomputable def F82o (N : Nat) (a0 : (List Ln)) (a1 : Int) : Option (List Int) := (V82o N a0 a1).eval
def t82o : List (Nat × List Nat × List (Nat × Sh)) := [(8, [0], l82o_8)]
theorem P82o (N : Nat) (a0 : (List Ln)) (a1 : Int) : ∀ r, F82o N a0 a1 = some r → Spec Tryd.prog 82 [.val (.list tLn) a0, .val tI a1] (E82o r) := fun r h => Spec_of (fn := Tryd.f82) rfl rfl rfl rfl true (wpc_sound (tbl := t82o) (μ := []) mixed _ _ _ (by
  have h1 := Vt.sound _ h
  refine Eq.mp ?_ h1
  kernel_rfl))

/-! ferryslip/lines.spot -/
def E70 : Int → D := fun x => encV tI x
abbrev l70_7 : List (Nat × Sh) := [(0, .val (.list tLn)), (2, .val tS), (9, .val tI), (26, .row false 26 3 tI), (27, .val tI), (28, .val tI)]
noncomputable def b70_7 : Code := loopBody 7 (bodyOf Tryd.f70)
noncomputable def U70_7 (N : Nat) (s0 : (List Ln)) (s2 : Bs) (s9 : Int) (s26 : (List Int)) (s27 : Int) (s28 : Int) : Vt (Lp (shTy l70_7).I Int) (O3 (Option D)) (encO 42 l70_7 [0] (fun q => some (E70 q))) :=
  .br (decide (s28 < s27)) (.ck (inR s28 s26.length) (.ck (inR s28 s26.length) (.ck (inR (atI tI s26 s28) s0.length) (.br (!((Op.bytesLess ((atI tLn s0 (atI tI s26 s28)).2.1) s2) || (((atI tLn s0 (atI tI s26 s28)).2.1) == s2))) (.leaf (.ret (atI tI s26 s28))) (.leaf (.next (s0, s2, s9, s26, s27, (IntKind.i64.wrap (s28 + 1))))))))) (.leaf (.brk 0 (s0, s2, s9, s26, s27, s28)))
noncomputable def L70_7 (N : Nat) (s0 : (List Ln)) (s2 : Bs) (s9 : Int) (s26 : (List Int)) (s27 : Int) (s28 : Int) : Option (Lp ((List Ln) × Bs × Int × (List Int) × Int × Int) Int) := (U70_7 N s0 s2 s9 s26 s27 s28).eval
noncomputable def W70_7 (N : Nat) (x : ((List Ln) × Bs × Int × (List Int) × Int × Int)) : Option (Lp ((List Ln) × Bs × Int × (List Int) × Int × Int) Int) := runLoop (fun x => L70_7 N x.1 x.2.1 x.2.2.1 x.2.2.2.1 x.2.2.2.2.1 x.2.2.2.2.2) N x
theorem WS70_7 (N : Nat) (x : (shTy l70_7).I) : ∀ o, W70_7 N x = some o → S Tryd.prog (.loop b70_7) (buildSt 42 l70_7 x) (stepZ (rdD Tryd.prog Tryd.f70 false) l70_7 (encO 42 l70_7 [0] (fun q => some (E70 q)) o)) :=
  fun o h => loop_S (l := l70_7) (step := fun x => L70_7 N x.1 x.2.1 x.2.2.1 x.2.2.2.1 x.2.2.2.2.1 x.2.2.2.2.2) (fun x o h => wpc_sound (tbl := []) (μ := [26]) mixed _ _ _ (by
    have h1 := Vt.sound _ h
    refine Eq.mp ?_ h1
    kernel_rfl)) N x o h
noncomputable def V70 (N : Nat) (a0 : (List Ln)) (a1 : (List Bs)) (a2 : Bs) : Vt Int (Option D) (fun q => some (E70 q)) :=
  .c2 (P26 N a0 a1) (fun x1 x2 => .br x2 (.c1 (P40 N a0 x1) (fun x3 => .c1 (P82o N a0 x1) (fun x4 => .f1 (l := l70_7) (o := W70_7 N (a0, a2, x3, x4, (x4.length : Int), 0)) (WS70_7 N (a0, a2, x3, x4, (x4.length : Int), 0)) (fun x5 => .leaf x5.2.2.1)))) (.c1 (P82o N a0 (-1)) (fun x6 => .f1 (l := l70_7) (o := W70_7 N (a0, a2, (a0.length : Int), x6, (x6.length : Int), 0)) (WS70_7 N (a0, a2, (a0.length : Int), x6, (x6.length : Int), 0)) (fun x7 => .leaf x7.2.2.1))))
noncomputable def F70 (N : Nat) (a0 : (List Ln)) (a1 : (List Bs)) (a2 : Bs) : Option Int := (V70 N a0 a1 a2).eval
def t70 : List (Nat × List Nat × List (Nat × Sh)) := [(7, [0], l70_7)]
theorem P70 (N : Nat) (a0 : (List Ln)) (a1 : (List Bs)) (a2 : Bs) : ∀ r, F70 N a0 a1 a2 = some r → Spec Tryd.prog 70 [.val (.list tLn) a0, .val (.list tS) a1, .val tS a2] (E70 r) := fun r h => Spec_of (fn := Tryd.f70) rfl rfl rfl rfl false (wpc_sound (tbl := t70) (μ := [26]) mixed _ _ _ (by
  have h1 := Vt.sound _ h
  refine Eq.mp ?_ h1
  kernel_rfl))

/-! ferryslip/lines.Add -/
def E61f : (Bool × (List Ln) × Int) → D := fun x => .tup [ownIf x.1 49 tLn x.2.1, encV tI x.2.2]
abbrev l61f_7 : List (Nat × Sh) := [(0, .val (.list tLn)), (1, .val (.list tS)), (6, .val (.list tLn)), (27, .val (.list tS)), (28, .val tI), (29, .val tI)]
noncomputable def b61f_7 : Code := loopBody 7 (bodyOf Tryd.f61)
noncomputable def U61f_7 (N : Nat) (s0 : (List Ln)) (s1 : (List Bs)) (s6 : (List Ln)) (s27 : (List Bs)) (s28 : Int) (s29 : Int) : Vt (Lp (shTy l61f_7).I (Bool × (List Ln) × Int)) (O3 (Option D)) (encO 64 l61f_7 [1] (fun q => some (E61f q))) :=
  .br (decide (s29 < s28)) (.ck (inR s29 s27.length) (.ck ((0 : Int) ≤ 0 ∧ (0 : Int) ≤ (IntKind.i64.wrap (s29 + 1)) ∧ (IntKind.i64.wrap (s29 + 1)) ≤ (s1.length : Int)) (.c2 (P26 N s6 (slc s1 0 (IntKind.i64.wrap (s29 + 1)))) (fun x1 x2 => .br x2 (.leaf (.next (s0, s1, s6, s27, s28, (IntKind.i64.wrap (s29 + 1))))) (.br (decide ((200 : Int) ≤ (s6.length : Int))) (.leaf (.ret (false, s0, 5))) (.ck ((0 : Int) ≤ 0 ∧ (0 : Int) ≤ s29 ∧ s29 ≤ (s1.length : Int)) (.nb (.c1 (P36o N s6) (fun x3 => .nb (.c1 (P70 N s6 (slc s1 0 s29) (atI tS s27 s29)) (fun x4 => .cr (P69t N x3 x4 ([(s29, (atI tS s27 s29), 0)] : (List Ln))) (fun x5 => .leaf (.next (s0, s1, x5, s27, s28, (IntKind.i64.wrap (s29 + 1))))))) (.c1 (P70 N s6 (slc s1 0 s29) (atI tS s27 s29)) (fun x6 => .cr (P69t N x3 x6 ([(s29, (atI tS s27 s29), 0)] : (List Ln))) (fun x7 => .leaf (.next (s0, s1, x7, s27, s28, (IntKind.i64.wrap (s29 + 1))))))))) (.c1 (P36o N s6) (fun x8 => .c1 (P70 N s6 (slc s1 0 s29) (atI tS s27 s29)) (fun x9 => .cr (P69t N x8 x9 ([(s29, (atI tS s27 s29), 0)] : (List Ln))) (fun x10 => .leaf (.next (s0, s1, x10, s27, s28, (IntKind.i64.wrap (s29 + 1))))))))))))))) (.leaf (.brk 0 (s0, s1, s6, s27, s28, s29)))
noncomputable def L61f_7 (N : Nat) (s0 : (List Ln)) (s1 : (List Bs)) (s6 : (List Ln)) (s27 : (List Bs)) (s28 : Int) (s29 : Int) : Option (Lp ((List Ln) × (List Bs) × (List Ln) × (List Bs) × Int × Int) (Bool × (List Ln) × Int)) := (U61f_7 N s0 s1 s6 s27 s28 s29).eval
noncomputable def W61f_7 (N : Nat) (x : ((List Ln) × (List Bs) × (List Ln) × (List Bs) × Int × Int)) : Option (Lp ((List Ln) × (List Bs) × (List Ln) × (List Bs) × Int × Int) (Bool × (List Ln) × Int)) := runLoop (fun x => L61f_7 N x.1 x.2.1 x.2.2.1 x.2.2.2.1 x.2.2.2.2.1 x.2.2.2.2.2) N x
theorem WS61f_7 (N : Nat) (x : (shTy l61f_7).I) : ∀ o, W61f_7 N x = some o → S Tryd.prog (.loop b61f_7) (buildSt 64 l61f_7 x) (stepZ (rdD Tryd.prog Tryd.f61 true) l61f_7 (encO 64 l61f_7 [1] (fun q => some (E61f q)) o)) :=
  fun o h => loop_S (l := l61f_7) (step := fun x => L61f_7 N x.1 x.2.1 x.2.2.1 x.2.2.2.1 x.2.2.2.2.1 x.2.2.2.2.2) (fun x o h => wpc_sound (tbl := []) (μ := [49, 60, 2000069]) mixed _ _ _ (by
    have h1 := Vt.sound _ h
    refine Eq.mp ?_ h1
    kernel_rfl)) N x o h
noncomputable def V61f (N : Nat) (a0 : (List Ln)) (a1 : (List Bs)) : Vt (Bool × (List Ln) × Int) (Option D) (fun q => some (E61f q)) :=
  .c1 (P23 N a0) (fun x1 => .br (!x1) (.leaf (false, a0, 1)) (.c1 (P68 N a1) (fun x2 => .br (!x2) (.leaf (false, a0, 1)) (.br (decide ((16 : Int) < (a1.length : Int))) (.leaf (false, a0, 6)) (.f1 (l := l61f_7) (o := W61f_7 N (a0, a1, a0, a1, (a1.length : Int), 0)) (WS61f_7 N (a0, a1, a0, a1, (a1.length : Int), 0)) (fun x3 => .c1 (P36o N x3.2.2.1) (fun x4 => .leaf (true, x4, 0))))))))
noncomputable def F61f (N : Nat) (a0 : (List Ln)) (a1 : (List Bs)) : Option (Bool × (List Ln) × Int) := (V61f N a0 a1).eval
def t61f : List (Nat × List Nat × List (Nat × Sh)) := [(7, [1], l61f_7)]
theorem P61f (N : Nat) (a0 : (List Ln)) (a1 : (List Bs)) : ∀ r, F61f N a0 a1 = some r → Spec Tryd.prog 61 [.val (.list tLn) a0, .val (.list tS) a1] (E61f r) := fun r h => Spec_of (fn := Tryd.f61) rfl rfl rfl rfl true (wpc_sound (tbl := t61f) (μ := [49, 60, 63, 2000069]) mixed _ _ _ (by
  have h1 := Vt.sound _ h
  refine Eq.mp ?_ h1
  kernel_rfl))

/-! ferryslip/diff.add -/
def E52 : ((List Ln) × Int) → D := fun x => .tup [encV (.list tLn) x.1, encV tI x.2]
noncomputable def V52 (N : Nat) (a0 : (List Ln)) (a1 : (Int × ((List Bs) × Int))) : Vt ((List Ln) × Int) (Option D) (fun q => some (E52 q)) :=
  .c3 (P61f N a0 a1.2.1) (fun x3 x1 x2 => .br x3 (.br (x2 == 1) (.leaf (a0, x2)) (.br (x2 == 6) (.leaf (a0, x2)) (.ck ((0 : Int) ≤ 0 ∧ (0 : Int) ≤ (IntKind.i64.wrap ((a1.2.1.length : Int) - 1)) ∧ (IntKind.i64.wrap ((a1.2.1.length : Int) - 1)) ≤ (a1.2.1.length : Int)) (.c2 (P26 N a0 (slc a1.2.1 0 (IntKind.i64.wrap ((a1.2.1.length : Int) - 1)))) (fun x4 x5 => .br (!x5) (.br (decide ((0 : Int) < ((slc a1.2.1 0 (IntKind.i64.wrap ((a1.2.1.length : Int) - 1))).length : Int))) (.leaf (a0, 3)) (.c2 (P26 N a0 a1.2.1) (fun x6 x7 => .br x7 (.leaf (a0, 4)) (.br (x2 != 0) (.leaf (a0, x2)) (.c2 (P26 N x1 a1.2.1) (fun x8 x9 => .ck (inR x8 x1.length) (.ck (inR x8 x1.length) (.leaf ((x1.set x8.toNat ((atI tLn x1 x8).1, (atI tLn x1 x8).2.1, a1.2.2)), 0))))))))) (.c2 (P26 N a0 a1.2.1) (fun x10 x11 => .br x11 (.leaf (a0, 4)) (.br (x2 != 0) (.leaf (a0, x2)) (.c2 (P26 N x1 a1.2.1) (fun x12 x13 => .ck (inR x12 x1.length) (.ck (inR x12 x1.length) (.leaf ((x1.set x12.toNat ((atI tLn x1 x12).1, (atI tLn x1 x12).2.1, a1.2.2)), 0))))))))))))) (.br (x2 == 1) (.leaf (a0, x2)) (.br (x2 == 6) (.leaf (a0, x2)) (.ck ((0 : Int) ≤ 0 ∧ (0 : Int) ≤ (IntKind.i64.wrap ((a1.2.1.length : Int) - 1)) ∧ (IntKind.i64.wrap ((a1.2.1.length : Int) - 1)) ≤ (a1.2.1.length : Int)) (.c2 (P26 N a0 (slc a1.2.1 0 (IntKind.i64.wrap ((a1.2.1.length : Int) - 1)))) (fun x14 x15 => .br (!x15) (.br (decide ((0 : Int) < ((slc a1.2.1 0 (IntKind.i64.wrap ((a1.2.1.length : Int) - 1))).length : Int))) (.leaf (a0, 3)) (.c2 (P26 N a0 a1.2.1) (fun x16 x17 => .br x17 (.leaf (a0, 4)) (.br (x2 != 0) (.leaf (a0, x2)) (.c2 (P26 N x1 a1.2.1) (fun x18 x19 => .ck (inR x18 x1.length) (.fail))))))) (.c2 (P26 N a0 a1.2.1) (fun x20 x21 => .br x21 (.leaf (a0, 4)) (.br (x2 != 0) (.leaf (a0, x2)) (.c2 (P26 N x1 a1.2.1) (fun x22 x23 => .ck (inR x22 x1.length) (.fail))))))))))))
noncomputable def F52 (N : Nat) (a0 : (List Ln)) (a1 : (Int × ((List Bs) × Int))) : Option ((List Ln) × Int) := (V52 N a0 a1).eval
def t52 : List (Nat × List Nat × List (Nat × Sh)) := []
theorem P52 (N : Nat) (a0 : (List Ln)) (a1 : (Int × ((List Bs) × Int))) : ∀ r, F52 N a0 a1 = some r → Spec Tryd.prog 52 [.val (.list tLn) a0, .agg [.val tI a1.1, .val (.list tS) a1.2.1, .val tI a1.2.2]] (E52 r) := fun r h => Spec_of (fn := Tryd.f52) rfl rfl rfl rfl false (wpc_sound (tbl := t52) (μ := [19, 3000019]) mixed _ _ _ (by
  have h1 := Vt.sound _ h
  refine Eq.mp ?_ h1
  kernel_rfl))

/-! ferryslip/diff.one -/
def E37 : ((List Ln) × Int) → D := fun x => .tup [encV (.list tLn) x.1, encV tI x.2]
noncomputable def V37 (N : Nat) (a0 : (List Ln)) (a1 : (Int × ((List Bs) × Int))) : Vt ((List Ln) × Int) (Option D) (fun q => some (E37 q)) :=
  .br (decide (a1.1 < 1)) (.leaf (a0, 1)) (.br (decide ((3 : Int) < a1.1)) (.leaf (a0, 1)) (.br ((a1.2.1.length : Int) == 0) (.leaf (a0, 1)) (.br (decide (a1.2.2 < 0)) (.leaf (a0, 1)) (.br (decide ((3 : Int) < a1.2.2)) (.leaf (a0, 1)) (.br (a1.1 == 2) (.c2 (P52 N a0 a1) (fun x1 x2 => .leaf (x1, x2))) (.c2 (P26 N a0 a1.2.1) (fun x3 x4 => .br (!x4) (.leaf (a0, 3)) (.c1 (P36o N a0) (fun x5 => .br (a1.1 == 1) (.c1 (P40 N a0 x3) (fun x6 => .cr (P53t N x5 x3 x6) (fun x7 => .leaf (x7, 0)))) (.ck (inR x3 x5.length) (.ck (inR x3 x5.length) (.leaf ((x5.set x3.toNat ((atI tLn x5 x3).1, (atI tLn x5 x3).2.1, a1.2.2)), 0)))))))))))))
noncomputable def F37 (N : Nat) (a0 : (List Ln)) (a1 : (Int × ((List Bs) × Int))) : Option ((List Ln) × Int) := (V37 N a0 a1).eval
def t37 : List (Nat × List Nat × List (Nat × Sh)) := []
theorem P37 (N : Nat) (a0 : (List Ln)) (a1 : (Int × ((List Bs) × Int))) : ∀ r, F37 N a0 a1 = some r → Spec Tryd.prog 37 [.val (.list tLn) a0, .agg [.val tI a1.1, .val (.list tS) a1.2.1, .val tI a1.2.2]] (E37 r) := fun r h => Spec_of (fn := Tryd.f37) rfl rfl rfl rfl false (wpc_sound (tbl := t37) (μ := [55, 64, 2000053]) mixed _ _ _ (by
  have h1 := Vt.sound _ h
  refine Eq.mp ?_ h1
  kernel_rfl))

/-! ferryslip/diff.Apply -/
def E18 : ((List Ln) × Int × Int) → D := fun x => .tup [encV (.list tLn) x.1, encV tI x.2.1, encV tI x.2.2]
abbrev l18_5 : List (Nat × Sh) := [(0, .val (.list tLn)), (1, .val (.list (.pair tI (.pair (.list tS) tI)))), (7, .val (.list tLn)), (18, .val (.list (.pair tI (.pair (.list tS) tI)))), (19, .val tI), (20, .val tI)]
noncomputable def b18_5 : Code := loopBody 5 (bodyOf Tryd.f18)
noncomputable def U18_5 (N : Nat) (s0 : (List Ln)) (s1 : (List (Int × ((List Bs) × Int)))) (s7 : (List Ln)) (s18 : (List (Int × ((List Bs) × Int)))) (s19 : Int) (s20 : Int) : Vt (Lp (shTy l18_5).I ((List Ln) × Int × Int)) (O3 (Option D)) (encO 41 l18_5 [0] (fun q => some (E18 q))) :=
  .br (decide (s20 < s19)) (.ck (inR s20 s18.length) (.c2 (P37 N s7 (atI (.pair tI (.pair (.list tS) tI)) s18 s20)) (fun x1 x2 => .br (x2 != 0) (.leaf (.ret (s0, s20, x2))) (.leaf (.next (s0, s1, x1, s18, s19, (IntKind.i64.wrap (s20 + 1)))))))) (.leaf (.brk 0 (s0, s1, s7, s18, s19, s20)))
noncomputable def L18_5 (N : Nat) (s0 : (List Ln)) (s1 : (List (Int × ((List Bs) × Int)))) (s7 : (List Ln)) (s18 : (List (Int × ((List Bs) × Int)))) (s19 : Int) (s20 : Int) : Option (Lp ((List Ln) × (List (Int × ((List Bs) × Int))) × (List Ln) × (List (Int × ((List Bs) × Int))) × Int × Int) ((List Ln) × Int × Int)) := (U18_5 N s0 s1 s7 s18 s19 s20).eval
noncomputable def W18_5 (N : Nat) (x : ((List Ln) × (List (Int × ((List Bs) × Int))) × (List Ln) × (List (Int × ((List Bs) × Int))) × Int × Int)) : Option (Lp ((List Ln) × (List (Int × ((List Bs) × Int))) × (List Ln) × (List (Int × ((List Bs) × Int))) × Int × Int) ((List Ln) × Int × Int)) := runLoop (fun x => L18_5 N x.1 x.2.1 x.2.2.1 x.2.2.2.1 x.2.2.2.2.1 x.2.2.2.2.2) N x
theorem WS18_5 (N : Nat) (x : (shTy l18_5).I) : ∀ o, W18_5 N x = some o → S Tryd.prog (.loop b18_5) (buildSt 41 l18_5 x) (stepZ (rdD Tryd.prog Tryd.f18 false) l18_5 (encO 41 l18_5 [0] (fun q => some (E18 q)) o)) :=
  fun o h => loop_S (l := l18_5) (step := fun x => L18_5 N x.1 x.2.1 x.2.2.1 x.2.2.2.1 x.2.2.2.2.1 x.2.2.2.2.2) (fun x o h => wpc_sound (tbl := []) (μ := [17]) mixed _ _ _ (by
    have h1 := Vt.sound _ h
    refine Eq.mp ?_ h1
    kernel_rfl)) N x o h
noncomputable def V18 (N : Nat) (a0 : (List Ln)) (a1 : (List (Int × ((List Bs) × Int)))) : Vt ((List Ln) × Int × Int) (Option D) (fun q => some (E18 q)) :=
  .c1 (P23 N a0) (fun x1 => .br (!x1) (.leaf (a0, 0, 1)) (.c1 (P36o N a0) (fun x2 => .f1 (l := l18_5) (o := W18_5 N (a0, a1, x2, a1, (a1.length : Int), 0)) (WS18_5 N (a0, a1, x2, a1, (a1.length : Int), 0)) (fun x3 => .leaf (x3.2.2.1, (x3.2.1.length : Int), 0)))))
noncomputable def F18 (N : Nat) (a0 : (List Ln)) (a1 : (List (Int × ((List Bs) × Int)))) : Option ((List Ln) × Int × Int) := (V18 N a0 a1).eval
def t18 : List (Nat × List Nat × List (Nat × Sh)) := [(5, [0], l18_5)]
theorem P18 (N : Nat) (a0 : (List Ln)) (a1 : (List (Int × ((List Bs) × Int)))) : ∀ r, F18 N a0 a1 = some r → Spec Tryd.prog 18 [.val (.list tLn) a0, .val (.list (.pair tI (.pair (.list tS) tI))) a1] (E18 r) := fun r h => Spec_of (fn := Tryd.f18) rfl rfl rfl rfl false (wpc_sound (tbl := t18) (μ := [17]) mixed _ _ _ (by
  have h1 := Vt.sound _ h
  refine Eq.mp ?_ h1
  kernel_rfl))

/-! ferryslip/ferryslipref03.Same -/
def E19 : Bool → D := fun x => encV tB x
abbrev l19_4 : List (Nat × Sh) := [(0, .val (.list tLn)), (1, .val (.list tLn)), (5, .val tI)]
noncomputable def b19_4 : Code := loopBody 4 (bodyOf Tryd.f19)
noncomputable def U19_4 (N : Nat) (s0 : (List Ln)) (s1 : (List Ln)) (s5 : Int) : Vt (Lp (shTy l19_4).I Bool) (O3 (Option D)) (encO 26 l19_4 [0] (fun q => some (E19 q))) :=
  .br (decide (s5 < (s0.length : Int))) (.ck (inR s5 s0.length) (.ck (inR s5 s1.length) (.br (!((((atI tLn s0 s5).1) == ((atI tLn s1 s5).1)) && ((((atI tLn s0 s5).2.1) == ((atI tLn s1 s5).2.1)) && ((((atI tLn s0 s5).2.2) == ((atI tLn s1 s5).2.2)) && true)))) (.leaf (.ret false)) (.leaf (.next (s0, s1, (IntKind.i64.wrap (s5 + 1)))))))) (.leaf (.brk 0 (s0, s1, s5)))
noncomputable def L19_4 (N : Nat) (s0 : (List Ln)) (s1 : (List Ln)) (s5 : Int) : Option (Lp ((List Ln) × (List Ln) × Int) Bool) := (U19_4 N s0 s1 s5).eval
noncomputable def W19_4 (N : Nat) (x : ((List Ln) × (List Ln) × Int)) : Option (Lp ((List Ln) × (List Ln) × Int) Bool) := runLoop (fun x => L19_4 N x.1 x.2.1 x.2.2) N x
theorem WS19_4 (N : Nat) (x : (shTy l19_4).I) : ∀ o, W19_4 N x = some o → S Tryd.prog (.loop b19_4) (buildSt 26 l19_4 x) (stepZ (rdD Tryd.prog Tryd.f19 false) l19_4 (encO 26 l19_4 [0] (fun q => some (E19 q)) o)) :=
  fun o h => loop_S (l := l19_4) (step := fun x => L19_4 N x.1 x.2.1 x.2.2) (fun x o h => wpc_sound (tbl := []) (μ := []) mixed _ _ _ (by
    have h1 := Vt.sound _ h
    refine Eq.mp ?_ h1
    kernel_rfl)) N x o h
noncomputable def V19 (N : Nat) (a0 : (List Ln)) (a1 : (List Ln)) : Vt Bool (Option D) (fun q => some (E19 q)) :=
  .br ((a0.length : Int) != (a1.length : Int)) (.leaf false) (.f1 (l := l19_4) (o := W19_4 N (a0, a1, 0)) (WS19_4 N (a0, a1, 0)) (fun x1 => .leaf true))
noncomputable def F19 (N : Nat) (a0 : (List Ln)) (a1 : (List Ln)) : Option Bool := (V19 N a0 a1).eval
def t19 : List (Nat × List Nat × List (Nat × Sh)) := [(4, [0], l19_4)]
theorem P19 (N : Nat) (a0 : (List Ln)) (a1 : (List Ln)) : ∀ r, F19 N a0 a1 = some r → Spec Tryd.prog 19 [.val (.list tLn) a0, .val (.list tLn) a1] (E19 r) := fun r h => Spec_of (fn := Tryd.f19) rfl rfl rfl rfl false (wpc_sound (tbl := t19) (μ := []) mixed _ _ _ (by
  have h1 := Vt.sound _ h
  refine Eq.mp ?_ h1
  kernel_rfl))

/-! ferryslip/ferrysliplaw08.awake -/
def E10 : Bool → D := fun x => encV tB x
noncomputable def V10 (N : Nat)  : Vt Bool (Option D) (fun q => some (E10 q)) :=
  .c2 (P11o N ([(0, ([97] : Bs), 0), (0, ([98] : Bs), 0)] : (List Ln)) ([(0, ([98] : Bs), 1), (1, ([99] : Bs), 2)] : (List Ln))) (fun x1 x2 => .c3 (P18 N ([(0, ([97] : Bs), 0), (0, ([98] : Bs), 0)] : (List Ln)) x1) (fun x3 x4 x5 => .br (x2 == 0) (.br ((x1.length : Int) == 3) (.br (x4 == 3) (.br (x5 == 0) (.c1 (P19 N x3 ([(0, ([98] : Bs), 1), (1, ([99] : Bs), 2)] : (List Ln))) (fun x6 => .br x6 (.c1 (P16 N x1) (fun x7 => .leaf (x7 == ([45, 32, 97, 10, 43, 32, 98, 32, 99, 32, 40, 50, 41, 10, 33, 32, 98, 32, 40, 49, 41, 10] : Bs)))) (.leaf false))) (.leaf false)) (.leaf false)) (.leaf false)) (.leaf false)))
noncomputable def F10 (N : Nat)  : Option Bool := (V10 N ).eval
def t10 : List (Nat × List Nat × List (Nat × Sh)) := []
theorem P10 (N : Nat)  : ∀ r, F10 N  = some r → Spec Tryd.prog 10 [] (E10 r) := fun r h => Spec_of (fn := Tryd.f10) rfl rfl rfl rfl false (wpc_sound (tbl := t10) (μ := [17]) mixed _ _ _ (by
  have h1 := Vt.sound _ h
  refine Eq.mp ?_ h1
  kernel_rfl))

/-! ferryslip/ferryslipref03.Right -/
def E12 : Bool → D := fun x => encV tB x
abbrev l12_4 : List (Nat × Sh) := [(0, .val (.list tLn)), (3, .val tI)]
noncomputable def b12_4 : Code := loopBody 4 (bodyOf Tryd.f12)
noncomputable def U12_4 (N : Nat) (s0 : (List Ln)) (s3 : Int) : Vt (Lp (shTy l12_4).I Bool) (O3 (Option D)) (encO 118 l12_4 [0] (fun q => some (E12 q))) :=
  .br (decide (s3 < (s0.length : Int))) (.ck (inR s3 s0.length) (.br (decide (((atI tLn s0 s3).1) < 0)) (.leaf (.ret false)) (.br (decide ((15 : Int) < ((atI tLn s0 s3).1))) (.leaf (.ret false)) (.br (decide ((40 : Int) < (((atI tLn s0 s3).2.1).length : Int))) (.leaf (.ret false)) (.br (decide (((atI tLn s0 s3).2.2) < 0)) (.leaf (.ret false)) (.br (decide ((3 : Int) < ((atI tLn s0 s3).2.2))) (.leaf (.ret false)) (.br (s3 == 0) (.br (((atI tLn s0 s3).1) != 0) (.leaf (.ret false)) (.br (decide ((0 : Int) < s3)) (.ck (inR (IntKind.i64.wrap (s3 - 1)) s0.length) (.br (decide ((IntKind.i64.wrap (((atI tLn s0 (IntKind.i64.wrap (s3 - 1))).1) + 1)) < ((atI tLn s0 s3).1))) (.leaf (.ret false)) (.leaf (.next (s0, (IntKind.i64.wrap (s3 + 1))))))) (.leaf (.next (s0, (IntKind.i64.wrap (s3 + 1))))))) (.br (decide ((0 : Int) < s3)) (.ck (inR (IntKind.i64.wrap (s3 - 1)) s0.length) (.br (decide ((IntKind.i64.wrap (((atI tLn s0 (IntKind.i64.wrap (s3 - 1))).1) + 1)) < ((atI tLn s0 s3).1))) (.leaf (.ret false)) (.leaf (.next (s0, (IntKind.i64.wrap (s3 + 1))))))) (.leaf (.next (s0, (IntKind.i64.wrap (s3 + 1))))))))))))) (.leaf (.brk 0 (s0, s3)))
noncomputable def L12_4 (N : Nat) (s0 : (List Ln)) (s3 : Int) : Option (Lp ((List Ln) × Int) Bool) := (U12_4 N s0 s3).eval
noncomputable def W12_4 (N : Nat) (x : ((List Ln) × Int)) : Option (Lp ((List Ln) × Int) Bool) := runLoop (fun x => L12_4 N x.1 x.2) N x
theorem WS12_4 (N : Nat) (x : (shTy l12_4).I) : ∀ o, W12_4 N x = some o → S Tryd.prog (.loop b12_4) (buildSt 118 l12_4 x) (stepZ (rdD Tryd.prog Tryd.f12 false) l12_4 (encO 118 l12_4 [0] (fun q => some (E12 q)) o)) :=
  fun o h => loop_S (l := l12_4) (step := fun x => L12_4 N x.1 x.2) (fun x o h => wpc_sound (tbl := []) (μ := []) mixed _ _ _ (by
    have h1 := Vt.sound _ h
    refine Eq.mp ?_ h1
    kernel_rfl)) N x o h
abbrev l12_15 : List (Nat × Sh) := [(0, .val (.list tLn)), (5, .val tI), (6, .val tI)]
noncomputable def b12_15 : Code := loopBody 15 (bodyOf Tryd.f12)
noncomputable def U12_15 (N : Nat) (s0 : (List Ln)) (s5 : Int) (s6 : Int) : Vt (Lp (shTy l12_15).I Bool) (O3 (Option D)) (encO 118 l12_15 [4] (fun q => some (E12 q))) :=
  .br (decide (s6 < (s0.length : Int))) (.ck (inR s6 s0.length) (.ck (inR s5 s0.length) (.br (decide (((atI tLn s0 s5).1) ≤ ((atI tLn s0 s6).1))) (.ck (inR s6 s0.length) (.ck (inR s5 s0.length) (.br (((atI tLn s0 s6).1) == ((atI tLn s0 s5).1)) (.ck (inR s6 s0.length) (.ck (inR s5 s0.length) (.br ((Op.bytesLess ((atI tLn s0 s6).2.1) ((atI tLn s0 s5).2.1)) || (((atI tLn s0 s6).2.1) == ((atI tLn s0 s5).2.1))) (.leaf (.ret false)) (.leaf (.next (s0, s5, (IntKind.i64.wrap (s6 + 1)))))))) (.leaf (.next (s0, s5, (IntKind.i64.wrap (s6 + 1)))))))) (.leaf (.brk 0 (s0, s5, s6)))))) (.leaf (.brk 0 (s0, s5, s6)))
noncomputable def L12_15 (N : Nat) (s0 : (List Ln)) (s5 : Int) (s6 : Int) : Option (Lp ((List Ln) × Int × Int) Bool) := (U12_15 N s0 s5 s6).eval
noncomputable def W12_15 (N : Nat) (x : ((List Ln) × Int × Int)) : Option (Lp ((List Ln) × Int × Int) Bool) := runLoop (fun x => L12_15 N x.1 x.2.1 x.2.2) N x
theorem WS12_15 (N : Nat) (x : (shTy l12_15).I) : ∀ o, W12_15 N x = some o → S Tryd.prog (.loop b12_15) (buildSt 118 l12_15 x) (stepZ (rdD Tryd.prog Tryd.f12 false) l12_15 (encO 118 l12_15 [4] (fun q => some (E12 q)) o)) :=
  fun o h => loop_S (l := l12_15) (step := fun x => L12_15 N x.1 x.2.1 x.2.2) (fun x o h => wpc_sound (tbl := [(4, [0], l12_4)]) (μ := []) mixed _ _ _ (by
    have h1 := Vt.sound _ h
    refine Eq.mp ?_ h1
    kernel_rfl)) N x o h
abbrev l12_12 : List (Nat × Sh) := [(0, .val (.list tLn)), (5, .val tI)]
noncomputable def b12_12 : Code := loopBody 12 (bodyOf Tryd.f12)
noncomputable def U12_12 (N : Nat) (s0 : (List Ln)) (s5 : Int) : Vt (Lp (shTy l12_12).I Bool) (O3 (Option D)) (encO 118 l12_12 [2] (fun q => some (E12 q))) :=
  .br (decide (s5 < (s0.length : Int))) (.g1 (l := l12_15) (o := W12_15 N (s0, s5, (IntKind.i64.wrap (s5 + 1)))) (WS12_15 N (s0, s5, (IntKind.i64.wrap (s5 + 1)))) (fun x1 => .leaf (.next (x1.1, (IntKind.i64.wrap (x1.2.1 + 1)))))) (.leaf (.brk 0 (s0, s5)))
noncomputable def L12_12 (N : Nat) (s0 : (List Ln)) (s5 : Int) : Option (Lp ((List Ln) × Int) Bool) := (U12_12 N s0 s5).eval
noncomputable def W12_12 (N : Nat) (x : ((List Ln) × Int)) : Option (Lp ((List Ln) × Int) Bool) := runLoop (fun x => L12_12 N x.1 x.2) N x
theorem WS12_12 (N : Nat) (x : (shTy l12_12).I) : ∀ o, W12_12 N x = some o → S Tryd.prog (.loop b12_12) (buildSt 118 l12_12 x) (stepZ (rdD Tryd.prog Tryd.f12 false) l12_12 (encO 118 l12_12 [2] (fun q => some (E12 q)) o)) :=
  fun o h => loop_S (l := l12_12) (step := fun x => L12_12 N x.1 x.2) (fun x o h => wpc_sound (tbl := [(4, [0], l12_4), (15, [4], l12_15)]) (μ := []) mixed _ _ _ (by
    have h1 := Vt.sound _ h
    refine Eq.mp ?_ h1
    kernel_rfl)) N x o h
noncomputable def V12 (N : Nat) (a0 : (List Ln)) : Vt Bool (Option D) (fun q => some (E12 q)) :=
  .br (decide ((200 : Int) < (a0.length : Int))) (.leaf false) (.f1 (l := l12_4) (o := W12_4 N (a0, 0)) (WS12_4 N (a0, 0)) (fun x1 => .f1 (l := l12_12) (o := W12_12 N (x1.1, 0)) (WS12_12 N (x1.1, 0)) (fun x2 => .leaf true)))
noncomputable def F12 (N : Nat) (a0 : (List Ln)) : Option Bool := (V12 N a0).eval
def t12 : List (Nat × List Nat × List (Nat × Sh)) := [(4, [0], l12_4), (15, [4], l12_15), (12, [2], l12_12)]
theorem P12 (N : Nat) (a0 : (List Ln)) : ∀ r, F12 N a0 = some r → Spec Tryd.prog 12 [.val (.list tLn) a0] (E12 r) := fun r h => Spec_of (fn := Tryd.f12) rfl rfl rfl rfl false (wpc_sound (tbl := t12) (μ := []) mixed _ _ _ (by
  have h1 := Vt.sound _ h
  refine Eq.mp ?_ h1
  kernel_rfl))

/-! ferryslip/ferryslipref03.Short -/
def E21 : Bool → D := fun x => encV tB x
abbrev l21_4 : List (Nat × Sh) := [(0, .val (.list tS)), (3, .val tI)]
noncomputable def b21_4 : Code := loopBody 4 (bodyOf Tryd.f21)
noncomputable def U21_4 (N : Nat) (s0 : (List Bs)) (s3 : Int) : Vt (Lp (shTy l21_4).I Bool) (O3 (Option D)) (encO 19 l21_4 [0] (fun q => some (E21 q))) :=
  .br (decide (s3 < (s0.length : Int))) (.ck (inR s3 s0.length) (.br (decide ((100 : Int) < ((atI tS s0 s3).length : Int))) (.leaf (.ret false)) (.leaf (.next (s0, (IntKind.i64.wrap (s3 + 1))))))) (.leaf (.brk 0 (s0, s3)))
noncomputable def L21_4 (N : Nat) (s0 : (List Bs)) (s3 : Int) : Option (Lp ((List Bs) × Int) Bool) := (U21_4 N s0 s3).eval
noncomputable def W21_4 (N : Nat) (x : ((List Bs) × Int)) : Option (Lp ((List Bs) × Int) Bool) := runLoop (fun x => L21_4 N x.1 x.2) N x
theorem WS21_4 (N : Nat) (x : (shTy l21_4).I) : ∀ o, W21_4 N x = some o → S Tryd.prog (.loop b21_4) (buildSt 19 l21_4 x) (stepZ (rdD Tryd.prog Tryd.f21 false) l21_4 (encO 19 l21_4 [0] (fun q => some (E21 q)) o)) :=
  fun o h => loop_S (l := l21_4) (step := fun x => L21_4 N x.1 x.2) (fun x o h => wpc_sound (tbl := []) (μ := []) mixed _ _ _ (by
    have h1 := Vt.sound _ h
    refine Eq.mp ?_ h1
    kernel_rfl)) N x o h
noncomputable def V21 (N : Nat) (a0 : (List Bs)) : Vt Bool (Option D) (fun q => some (E21 q)) :=
  .br (decide ((40 : Int) < (a0.length : Int))) (.leaf false) (.f1 (l := l21_4) (o := W21_4 N (a0, 0)) (WS21_4 N (a0, 0)) (fun x1 => .leaf true))
noncomputable def F21 (N : Nat) (a0 : (List Bs)) : Option Bool := (V21 N a0).eval
def t21 : List (Nat × List Nat × List (Nat × Sh)) := [(4, [0], l21_4)]
theorem P21 (N : Nat) (a0 : (List Bs)) : ∀ r, F21 N a0 = some r → Spec Tryd.prog 21 [.val (.list tS) a0] (E21 r) := fun r h => Spec_of (fn := Tryd.f21) rfl rfl rfl rfl false (wpc_sound (tbl := t21) (μ := []) mixed _ _ _ (by
  have h1 := Vt.sound _ h
  refine Eq.mp ?_ h1
  kernel_rfl))

/-! ferryslip/ferrysliplaw08.refs -/
def E13o : ((List (Int × ((List Bs) × Int))) × Bool) → D := fun x => .tup [.own 55 (.pair tI (.pair (.list tS) tI)) x.1, encV tB x.2]
abbrev l13o_5 : List (Nat × Sh) := [(4, .row false 25 55 (.pair tI (.pair (.list tS) tI))), (11, .val (.list (.pair tI (.pair (.list tS) tI)))), (12, .val tI), (13, .val tI)]
noncomputable def b13o_5 : Code := loopBody 5 (bodyOf Tryd.f13)
noncomputable def U13o_5 (N : Nat) (s4 : (List (Int × ((List Bs) × Int)))) (s11 : (List (Int × ((List Bs) × Int)))) (s12 : Int) (s13 : Int) : Vt (Lp (shTy l13o_5).I ((List (Int × ((List Bs) × Int))) × Bool)) (O3 (Option D)) (encO 28 l13o_5 [0] (fun q => some (E13o q))) :=
  .br (decide (s13 < s12)) (.ck (inR s13 s11.length) (.c1 (P21 N ((atI (.pair tI (.pair (.list tS) tI)) s11 s13).2.1)) (fun x1 => .br (!x1) (.leaf (.ret (s4, false))) (.ck (room (s4.length + ([(atI (.pair tI (.pair (.list tS) tI)) s11 s13)] : (List (Int × ((List Bs) × Int)))).length)) (.leaf (.next ((s4 ++ ([(atI (.pair tI (.pair (.list tS) tI)) s11 s13)] : (List (Int × ((List Bs) × Int))))), s11, s12, (IntKind.i64.wrap (s13 + 1))))))))) (.leaf (.brk 0 (s4, s11, s12, s13)))
noncomputable def L13o_5 (N : Nat) (s4 : (List (Int × ((List Bs) × Int)))) (s11 : (List (Int × ((List Bs) × Int)))) (s12 : Int) (s13 : Int) : Option (Lp ((List (Int × ((List Bs) × Int))) × (List (Int × ((List Bs) × Int))) × Int × Int) ((List (Int × ((List Bs) × Int))) × Bool)) := (U13o_5 N s4 s11 s12 s13).eval
noncomputable def W13o_5 (N : Nat) (x : ((List (Int × ((List Bs) × Int))) × (List (Int × ((List Bs) × Int))) × Int × Int)) : Option (Lp ((List (Int × ((List Bs) × Int))) × (List (Int × ((List Bs) × Int))) × Int × Int) ((List (Int × ((List Bs) × Int))) × Bool)) := runLoop (fun x => L13o_5 N x.1 x.2.1 x.2.2.1 x.2.2.2) N x
theorem WS13o_5 (N : Nat) (x : (shTy l13o_5).I) : ∀ o, W13o_5 N x = some o → S Tryd.prog (.loop b13o_5) (buildSt 28 l13o_5 x) (stepZ (rdD Tryd.prog Tryd.f13 true) l13o_5 (encO 28 l13o_5 [0] (fun q => some (E13o q)) o)) :=
  fun o h => loop_S (l := l13o_5) (step := fun x => L13o_5 N x.1 x.2.1 x.2.2.1 x.2.2.2) (fun x o h => wpc_sound (tbl := []) (μ := []) mixed _ _ _ (by
    have h1 := Vt.sound _ h
    refine Eq.mp ?_ h1
    kernel_rfl)) N x o h
noncomputable def V13o (N : Nat) (a0 : (List (Int × ((List Bs) × Int)))) : Vt ((List (Int × ((List Bs) × Int))) × Bool) (Option D) (fun q => some (E13o q)) :=
  .br (decide ((420 : Int) < (a0.length : Int))) (.leaf (([] : (List (Int × ((List Bs) × Int)))), false)) (.f1 (l := l13o_5) (o := W13o_5 N (([] : (List (Int × ((List Bs) × Int)))), a0, (a0.length : Int), 0)) (WS13o_5 N (([] : (List (Int × ((List Bs) × Int)))), a0, (a0.length : Int), 0)) (fun x2 => .leaf (x2.1, true)))
noncomputable def F13o (N : Nat) (a0 : (List (Int × ((List Bs) × Int)))) : Option ((List (Int × ((List Bs) × Int))) × Bool) := (V13o N a0).eval
def t13o : List (Nat × List Nat × List (Nat × Sh)) := [(5, [0], l13o_5)]
theorem P13o (N : Nat) (a0 : (List (Int × ((List Bs) × Int)))) : ∀ r, F13o N a0 = some r → Spec Tryd.prog 13 [.val (.list (.pair tI (.pair (.list tS) tI))) a0] (E13o r) := fun r h => Spec_of (fn := Tryd.f13) rfl rfl rfl rfl true (wpc_sound (tbl := t13o) (μ := []) mixed _ _ _ (by
  have h1 := Vt.sound _ h
  refine Eq.mp ?_ h1
  kernel_rfl))

/-! ferryslip/ferryslipref03.Under -/
def E44 : Int → D := fun x => encV tI x
abbrev l44_3 : List (Nat × Sh) := [(0, .val (.list tLn)), (1, .val tI), (5, .val tI), (6, .val tI)]
noncomputable def b44_3 : Code := loopBody 3 (bodyOf Tryd.f44)
noncomputable def U44_3 (N : Nat) (s0 : (List Ln)) (s1 : Int) (s5 : Int) (s6 : Int) : Vt (Lp (shTy l44_3).I Int) (O3 (Option D)) (encO 25 l44_3 [0] (fun q => some (E44 q))) :=
  .br (decide (s6 < s1)) (.ck (inR s6 s0.length) (.ck (inR s1 s0.length) (.br (decide (((atI tLn s0 s6).1) < ((atI tLn s0 s1).1))) (.leaf (.next (s0, s1, s6, (IntKind.i64.wrap (s6 + 1))))) (.leaf (.next (s0, s1, s5, (IntKind.i64.wrap (s6 + 1)))))))) (.leaf (.brk 0 (s0, s1, s5, s6)))
noncomputable def L44_3 (N : Nat) (s0 : (List Ln)) (s1 : Int) (s5 : Int) (s6 : Int) : Option (Lp ((List Ln) × Int × Int × Int) Int) := (U44_3 N s0 s1 s5 s6).eval
noncomputable def W44_3 (N : Nat) (x : ((List Ln) × Int × Int × Int)) : Option (Lp ((List Ln) × Int × Int × Int) Int) := runLoop (fun x => L44_3 N x.1 x.2.1 x.2.2.1 x.2.2.2) N x
theorem WS44_3 (N : Nat) (x : (shTy l44_3).I) : ∀ o, W44_3 N x = some o → S Tryd.prog (.loop b44_3) (buildSt 25 l44_3 x) (stepZ (rdD Tryd.prog Tryd.f44 false) l44_3 (encO 25 l44_3 [0] (fun q => some (E44 q)) o)) :=
  fun o h => loop_S (l := l44_3) (step := fun x => L44_3 N x.1 x.2.1 x.2.2.1 x.2.2.2) (fun x o h => wpc_sound (tbl := []) (μ := []) mixed _ _ _ (by
    have h1 := Vt.sound _ h
    refine Eq.mp ?_ h1
    kernel_rfl)) N x o h
noncomputable def V44 (N : Nat) (a0 : (List Ln)) (a1 : Int) : Vt Int (Option D) (fun q => some (E44 q)) :=
  .f1 (l := l44_3) (o := W44_3 N (a0, a1, (-1), 0)) (WS44_3 N (a0, a1, (-1), 0)) (fun x1 => .leaf x1.2.2.1)
noncomputable def F44 (N : Nat) (a0 : (List Ln)) (a1 : Int) : Option Int := (V44 N a0 a1).eval
def t44 : List (Nat × List Nat × List (Nat × Sh)) := [(3, [0], l44_3)]
theorem P44 (N : Nat) (a0 : (List Ln)) (a1 : Int) : ∀ r, F44 N a0 a1 = some r → Spec Tryd.prog 44 [.val (.list tLn) a0, .val tI a1] (E44 r) := fun r h => Spec_of (fn := Tryd.f44) rfl rfl rfl rfl false (wpc_sound (tbl := t44) (μ := []) mixed _ _ _ (by
  have h1 := Vt.sound _ h
  refine Eq.mp ?_ h1
  kernel_rfl))

/-! ferryslip/ferryslipref03.Path -/
def E27 : (List Bs) → D := fun x => encV (.list tS) x
abbrev l27_2 : List (Nat × Sh) := [(0, .val (.list tLn)), (1, .val tI), (5, .val (.list tS))]
noncomputable def b27_2 : Code := loopBody 2 (bodyOf Tryd.f27)
noncomputable def U27_2 (N : Nat) (s0 : (List Ln)) (s1 : Int) (s5 : (List Bs)) : Vt (Lp (shTy l27_2).I (List Bs)) (O3 (Option D)) (encO 24 l27_2 [0] (fun q => some (E27 q))) :=
  .br (decide ((0 : Int) ≤ s1)) (.ck (inR s1 s0.length) (.ck (room ([(atI tLn s0 s1).2.1] : (List Bs)).length) (.ck (room (([(atI tLn s0 s1).2.1] : (List Bs)).length + s5.length)) (.c1 (P44 N s0 s1) (fun x1 => .leaf (.next (s0, x1, (([(atI tLn s0 s1).2.1] : (List Bs)) ++ s5)))))))) (.leaf (.brk 0 (s0, s1, s5)))
noncomputable def L27_2 (N : Nat) (s0 : (List Ln)) (s1 : Int) (s5 : (List Bs)) : Option (Lp ((List Ln) × Int × (List Bs)) (List Bs)) := (U27_2 N s0 s1 s5).eval
noncomputable def W27_2 (N : Nat) (x : ((List Ln) × Int × (List Bs))) : Option (Lp ((List Ln) × Int × (List Bs)) (List Bs)) := runLoop (fun x => L27_2 N x.1 x.2.1 x.2.2) N x
theorem WS27_2 (N : Nat) (x : (shTy l27_2).I) : ∀ o, W27_2 N x = some o → S Tryd.prog (.loop b27_2) (buildSt 24 l27_2 x) (stepZ (rdD Tryd.prog Tryd.f27 false) l27_2 (encO 24 l27_2 [0] (fun q => some (E27 q)) o)) :=
  fun o h => loop_S (l := l27_2) (step := fun x => L27_2 N x.1 x.2.1 x.2.2) (fun x o h => wpc_sound (tbl := []) (μ := []) mixed _ _ _ (by
    have h1 := Vt.sound _ h
    refine Eq.mp ?_ h1
    kernel_rfl)) N x o h
noncomputable def V27 (N : Nat) (a0 : (List Ln)) (a1 : Int) : Vt (List Bs) (Option D) (fun q => some (E27 q)) :=
  .f1 (l := l27_2) (o := W27_2 N (a0, a1, ([] : (List Bs)))) (WS27_2 N (a0, a1, ([] : (List Bs)))) (fun x2 => .leaf x2.2.2)
noncomputable def F27 (N : Nat) (a0 : (List Ln)) (a1 : Int) : Option (List Bs) := (V27 N a0 a1).eval
def t27 : List (Nat × List Nat × List (Nat × Sh)) := [(2, [0], l27_2)]
theorem P27 (N : Nat) (a0 : (List Ln)) (a1 : Int) : ∀ r, F27 N a0 a1 = some r → Spec Tryd.prog 27 [.val (.list tLn) a0, .val tI a1] (E27 r) := fun r h => Spec_of (fn := Tryd.f27) rfl rfl rfl rfl false (wpc_sound (tbl := t27) (μ := []) mixed _ _ _ (by
  have h1 := Vt.sound _ h
  refine Eq.mp ?_ h1
  kernel_rfl))

/-! ferryslip/ferryslipref03.Equal -/
def E20 : Bool → D := fun x => encV tB x
abbrev l20_4 : List (Nat × Sh) := [(0, .val (.list tS)), (1, .val (.list tS)), (5, .val tI)]
noncomputable def b20_4 : Code := loopBody 4 (bodyOf Tryd.f20)
noncomputable def U20_4 (N : Nat) (s0 : (List Bs)) (s1 : (List Bs)) (s5 : Int) : Vt (Lp (shTy l20_4).I Bool) (O3 (Option D)) (encO 26 l20_4 [0] (fun q => some (E20 q))) :=
  .br (decide (s5 < (s0.length : Int))) (.ck (inR s5 s0.length) (.ck (inR s5 s1.length) (.br (!((atI tS s0 s5) == (atI tS s1 s5))) (.leaf (.ret false)) (.leaf (.next (s0, s1, (IntKind.i64.wrap (s5 + 1)))))))) (.leaf (.brk 0 (s0, s1, s5)))
noncomputable def L20_4 (N : Nat) (s0 : (List Bs)) (s1 : (List Bs)) (s5 : Int) : Option (Lp ((List Bs) × (List Bs) × Int) Bool) := (U20_4 N s0 s1 s5).eval
noncomputable def W20_4 (N : Nat) (x : ((List Bs) × (List Bs) × Int)) : Option (Lp ((List Bs) × (List Bs) × Int) Bool) := runLoop (fun x => L20_4 N x.1 x.2.1 x.2.2) N x
theorem WS20_4 (N : Nat) (x : (shTy l20_4).I) : ∀ o, W20_4 N x = some o → S Tryd.prog (.loop b20_4) (buildSt 26 l20_4 x) (stepZ (rdD Tryd.prog Tryd.f20 false) l20_4 (encO 26 l20_4 [0] (fun q => some (E20 q)) o)) :=
  fun o h => loop_S (l := l20_4) (step := fun x => L20_4 N x.1 x.2.1 x.2.2) (fun x o h => wpc_sound (tbl := []) (μ := []) mixed _ _ _ (by
    have h1 := Vt.sound _ h
    refine Eq.mp ?_ h1
    kernel_rfl)) N x o h
noncomputable def V20 (N : Nat) (a0 : (List Bs)) (a1 : (List Bs)) : Vt Bool (Option D) (fun q => some (E20 q)) :=
  .br ((a0.length : Int) != (a1.length : Int)) (.leaf false) (.f1 (l := l20_4) (o := W20_4 N (a0, a1, 0)) (WS20_4 N (a0, a1, 0)) (fun x1 => .leaf true))
noncomputable def F20 (N : Nat) (a0 : (List Bs)) (a1 : (List Bs)) : Option Bool := (V20 N a0 a1).eval
def t20 : List (Nat × List Nat × List (Nat × Sh)) := [(4, [0], l20_4)]
theorem P20 (N : Nat) (a0 : (List Bs)) (a1 : (List Bs)) : ∀ r, F20 N a0 a1 = some r → Spec Tryd.prog 20 [.val (.list tS) a0, .val (.list tS) a1] (E20 r) := fun r h => Spec_of (fn := Tryd.f20) rfl rfl rfl rfl false (wpc_sound (tbl := t20) (μ := []) mixed _ _ _ (by
  have h1 := Vt.sound _ h
  refine Eq.mp ?_ h1
  kernel_rfl))

/-! ferryslip/ferryslipref03.Find -/
def E28 : Int → D := fun x => encV tI x
abbrev l28_2 : List (Nat × Sh) := [(0, .val (.list tLn)), (1, .val (.list tS)), (5, .val tI)]
noncomputable def b28_2 : Code := loopBody 2 (bodyOf Tryd.f28)
noncomputable def U28_2 (N : Nat) (s0 : (List Ln)) (s1 : (List Bs)) (s5 : Int) : Vt (Lp (shTy l28_2).I Int) (O3 (Option D)) (encO 29 l28_2 [0] (fun q => some (E28 q))) :=
  .br (decide (s5 < (s0.length : Int))) (.ck (inR s5 s0.length) (.br (((atI tLn s0 s5).1) == (IntKind.i64.wrap ((s1.length : Int) - 1))) (.c1 (P27 N s0 s5) (fun x1 => .c1 (P20 N x1 s1) (fun x2 => .br x2 (.leaf (.ret s5)) (.leaf (.next (s0, s1, (IntKind.i64.wrap (s5 + 1)))))))) (.leaf (.next (s0, s1, (IntKind.i64.wrap (s5 + 1))))))) (.leaf (.brk 0 (s0, s1, s5)))
noncomputable def L28_2 (N : Nat) (s0 : (List Ln)) (s1 : (List Bs)) (s5 : Int) : Option (Lp ((List Ln) × (List Bs) × Int) Int) := (U28_2 N s0 s1 s5).eval
noncomputable def W28_2 (N : Nat) (x : ((List Ln) × (List Bs) × Int)) : Option (Lp ((List Ln) × (List Bs) × Int) Int) := runLoop (fun x => L28_2 N x.1 x.2.1 x.2.2) N x
theorem WS28_2 (N : Nat) (x : (shTy l28_2).I) : ∀ o, W28_2 N x = some o → S Tryd.prog (.loop b28_2) (buildSt 29 l28_2 x) (stepZ (rdD Tryd.prog Tryd.f28 false) l28_2 (encO 29 l28_2 [0] (fun q => some (E28 q)) o)) :=
  fun o h => loop_S (l := l28_2) (step := fun x => L28_2 N x.1 x.2.1 x.2.2) (fun x o h => wpc_sound (tbl := []) (μ := []) mixed _ _ _ (by
    have h1 := Vt.sound _ h
    refine Eq.mp ?_ h1
    kernel_rfl)) N x o h
noncomputable def V28 (N : Nat) (a0 : (List Ln)) (a1 : (List Bs)) : Vt Int (Option D) (fun q => some (E28 q)) :=
  .f1 (l := l28_2) (o := W28_2 N (a0, a1, 0)) (WS28_2 N (a0, a1, 0)) (fun x1 => .leaf (-1))
noncomputable def F28 (N : Nat) (a0 : (List Ln)) (a1 : (List Bs)) : Option Int := (V28 N a0 a1).eval
def t28 : List (Nat × List Nat × List (Nat × Sh)) := [(2, [0], l28_2)]
theorem P28 (N : Nat) (a0 : (List Ln)) (a1 : (List Bs)) : ∀ r, F28 N a0 a1 = some r → Spec Tryd.prog 28 [.val (.list tLn) a0, .val (.list tS) a1] (E28 r) := fun r h => Spec_of (fn := Tryd.f28) rfl rfl rfl rfl false (wpc_sound (tbl := t28) (μ := []) mixed _ _ _ (by
  have h1 := Vt.sound _ h
  refine Eq.mp ?_ h1
  kernel_rfl))

/-! ferryslip/ferryslipref08.Of -/
def E14o : (List (Int × ((List Bs) × Int))) → D := fun x => .own 55 (.pair tI (.pair (.list tS) tI)) x
abbrev l14o_3 : List (Nat × Sh) := [(0, .val (.list tLn)), (1, .val (.list tLn)), (5, .row false 47 55 (.pair tI (.pair (.list tS) tI))), (6, .val tI)]
noncomputable def b14o_3 : Code := loopBody 3 (bodyOf Tryd.f14)
noncomputable def U14o_3 (N : Nat) (s0 : (List Ln)) (s1 : (List Ln)) (s5 : (List (Int × ((List Bs) × Int)))) (s6 : Int) : Vt (Lp (shTy l14o_3).I (List (Int × ((List Bs) × Int)))) (O3 (Option D)) (encO 109 l14o_3 [0] (fun q => some (E14o q))) :=
  .br (decide (s6 < (s0.length : Int))) (.c1 (P27 N s0 s6) (fun x1 => .ck ((0 : Int) ≤ 0 ∧ (0 : Int) ≤ (IntKind.i64.wrap ((x1.length : Int) - 1)) ∧ (IntKind.i64.wrap ((x1.length : Int) - 1)) ≤ (x1.length : Int)) (.c1 (P28 N s1 x1) (fun x2 => .br (decide (x2 < 0)) (.br (((slc x1 0 (IntKind.i64.wrap ((x1.length : Int) - 1))).length : Int) == 0) (.ck (room (s5.length + ([(1, x1, 0)] : (List (Int × ((List Bs) × Int)))).length)) (.leaf (.next (s0, s1, (s5 ++ ([(1, x1, 0)] : (List (Int × ((List Bs) × Int))))), (IntKind.i64.wrap (s6 + 1)))))) (.c1 (P28 N s1 (slc x1 0 (IntKind.i64.wrap ((x1.length : Int) - 1)))) (fun x3 => .br (decide ((0 : Int) ≤ x3)) (.ck (room (s5.length + ([(1, x1, 0)] : (List (Int × ((List Bs) × Int)))).length)) (.leaf (.next (s0, s1, (s5 ++ ([(1, x1, 0)] : (List (Int × ((List Bs) × Int))))), (IntKind.i64.wrap (s6 + 1)))))) (.leaf (.next (s0, s1, s5, (IntKind.i64.wrap (s6 + 1)))))))) (.leaf (.next (s0, s1, s5, (IntKind.i64.wrap (s6 + 1))))))))) (.leaf (.brk 0 (s0, s1, s5, s6)))
noncomputable def L14o_3 (N : Nat) (s0 : (List Ln)) (s1 : (List Ln)) (s5 : (List (Int × ((List Bs) × Int)))) (s6 : Int) : Option (Lp ((List Ln) × (List Ln) × (List (Int × ((List Bs) × Int))) × Int) (List (Int × ((List Bs) × Int)))) := (U14o_3 N s0 s1 s5 s6).eval
noncomputable def W14o_3 (N : Nat) (x : ((List Ln) × (List Ln) × (List (Int × ((List Bs) × Int))) × Int)) : Option (Lp ((List Ln) × (List Ln) × (List (Int × ((List Bs) × Int))) × Int) (List (Int × ((List Bs) × Int)))) := runLoop (fun x => L14o_3 N x.1 x.2.1 x.2.2.1 x.2.2.2) N x
theorem WS14o_3 (N : Nat) (x : (shTy l14o_3).I) : ∀ o, W14o_3 N x = some o → S Tryd.prog (.loop b14o_3) (buildSt 109 l14o_3 x) (stepZ (rdD Tryd.prog Tryd.f14 true) l14o_3 (encO 109 l14o_3 [0] (fun q => some (E14o q)) o)) :=
  fun o h => loop_S (l := l14o_3) (step := fun x => L14o_3 N x.1 x.2.1 x.2.2.1 x.2.2.2) (fun x o h => wpc_sound (tbl := []) (μ := []) mixed _ _ _ (by
    have h1 := Vt.sound _ h
    refine Eq.mp ?_ h1
    kernel_rfl)) N x o h
abbrev l14o_10 : List (Nat × Sh) := [(0, .val (.list tLn)), (1, .val (.list tLn)), (5, .row false 47 55 (.pair tI (.pair (.list tS) tI))), (9, .val tI)]
noncomputable def b14o_10 : Code := loopBody 10 (bodyOf Tryd.f14)
noncomputable def U14o_10 (N : Nat) (s0 : (List Ln)) (s1 : (List Ln)) (s5 : (List (Int × ((List Bs) × Int)))) (s9 : Int) : Vt (Lp (shTy l14o_10).I (List (Int × ((List Bs) × Int)))) (O3 (Option D)) (encO 109 l14o_10 [2] (fun q => some (E14o q))) :=
  .br (decide (s9 < (s1.length : Int))) (.c1 (P27 N s1 s9) (fun x1 => .c1 (P28 N s0 x1) (fun x2 => .br (decide (x2 < 0)) (.ck (inR s9 s1.length) (.ck (room (s5.length + ([(2, x1, (atI tLn s1 s9).2.2)] : (List (Int × ((List Bs) × Int)))).length)) (.leaf (.next (s0, s1, (s5 ++ ([(2, x1, (atI tLn s1 s9).2.2)] : (List (Int × ((List Bs) × Int))))), (IntKind.i64.wrap (s9 + 1))))))) (.leaf (.next (s0, s1, s5, (IntKind.i64.wrap (s9 + 1)))))))) (.leaf (.brk 0 (s0, s1, s5, s9)))
noncomputable def L14o_10 (N : Nat) (s0 : (List Ln)) (s1 : (List Ln)) (s5 : (List (Int × ((List Bs) × Int)))) (s9 : Int) : Option (Lp ((List Ln) × (List Ln) × (List (Int × ((List Bs) × Int))) × Int) (List (Int × ((List Bs) × Int)))) := (U14o_10 N s0 s1 s5 s9).eval
noncomputable def W14o_10 (N : Nat) (x : ((List Ln) × (List Ln) × (List (Int × ((List Bs) × Int))) × Int)) : Option (Lp ((List Ln) × (List Ln) × (List (Int × ((List Bs) × Int))) × Int) (List (Int × ((List Bs) × Int)))) := runLoop (fun x => L14o_10 N x.1 x.2.1 x.2.2.1 x.2.2.2) N x
theorem WS14o_10 (N : Nat) (x : (shTy l14o_10).I) : ∀ o, W14o_10 N x = some o → S Tryd.prog (.loop b14o_10) (buildSt 109 l14o_10 x) (stepZ (rdD Tryd.prog Tryd.f14 true) l14o_10 (encO 109 l14o_10 [2] (fun q => some (E14o q)) o)) :=
  fun o h => loop_S (l := l14o_10) (step := fun x => L14o_10 N x.1 x.2.1 x.2.2.1 x.2.2.2) (fun x o h => wpc_sound (tbl := [(3, [0], l14o_3)]) (μ := []) mixed _ _ _ (by
    have h1 := Vt.sound _ h
    refine Eq.mp ?_ h1
    kernel_rfl)) N x o h
abbrev l14o_16 : List (Nat × Sh) := [(0, .val (.list tLn)), (1, .val (.list tLn)), (5, .row false 47 55 (.pair tI (.pair (.list tS) tI))), (11, .val tI)]
noncomputable def b14o_16 : Code := loopBody 16 (bodyOf Tryd.f14)
noncomputable def U14o_16 (N : Nat) (s0 : (List Ln)) (s1 : (List Ln)) (s5 : (List (Int × ((List Bs) × Int)))) (s11 : Int) : Vt (Lp (shTy l14o_16).I (List (Int × ((List Bs) × Int)))) (O3 (Option D)) (encO 109 l14o_16 [4] (fun q => some (E14o q))) :=
  .br (decide (s11 < (s1.length : Int))) (.c1 (P27 N s1 s11) (fun x1 => .c1 (P28 N s0 x1) (fun x2 => .br (decide ((0 : Int) ≤ x2)) (.ck (inR x2 s0.length) (.ck (inR s11 s1.length) (.br (((atI tLn s0 x2).2.2) != ((atI tLn s1 s11).2.2)) (.ck (inR s11 s1.length) (.ck (room (s5.length + ([(3, x1, (atI tLn s1 s11).2.2)] : (List (Int × ((List Bs) × Int)))).length)) (.leaf (.next (s0, s1, (s5 ++ ([(3, x1, (atI tLn s1 s11).2.2)] : (List (Int × ((List Bs) × Int))))), (IntKind.i64.wrap (s11 + 1))))))) (.leaf (.next (s0, s1, s5, (IntKind.i64.wrap (s11 + 1)))))))) (.leaf (.next (s0, s1, s5, (IntKind.i64.wrap (s11 + 1)))))))) (.leaf (.brk 0 (s0, s1, s5, s11)))
noncomputable def L14o_16 (N : Nat) (s0 : (List Ln)) (s1 : (List Ln)) (s5 : (List (Int × ((List Bs) × Int)))) (s11 : Int) : Option (Lp ((List Ln) × (List Ln) × (List (Int × ((List Bs) × Int))) × Int) (List (Int × ((List Bs) × Int)))) := (U14o_16 N s0 s1 s5 s11).eval
noncomputable def W14o_16 (N : Nat) (x : ((List Ln) × (List Ln) × (List (Int × ((List Bs) × Int))) × Int)) : Option (Lp ((List Ln) × (List Ln) × (List (Int × ((List Bs) × Int))) × Int) (List (Int × ((List Bs) × Int)))) := runLoop (fun x => L14o_16 N x.1 x.2.1 x.2.2.1 x.2.2.2) N x
theorem WS14o_16 (N : Nat) (x : (shTy l14o_16).I) : ∀ o, W14o_16 N x = some o → S Tryd.prog (.loop b14o_16) (buildSt 109 l14o_16 x) (stepZ (rdD Tryd.prog Tryd.f14 true) l14o_16 (encO 109 l14o_16 [4] (fun q => some (E14o q)) o)) :=
  fun o h => loop_S (l := l14o_16) (step := fun x => L14o_16 N x.1 x.2.1 x.2.2.1 x.2.2.2) (fun x o h => wpc_sound (tbl := [(3, [0], l14o_3), (10, [2], l14o_10)]) (μ := []) mixed _ _ _ (by
    have h1 := Vt.sound _ h
    refine Eq.mp ?_ h1
    kernel_rfl)) N x o h
noncomputable def V14o (N : Nat) (a0 : (List Ln)) (a1 : (List Ln)) : Vt (List (Int × ((List Bs) × Int))) (Option D) (fun q => some (E14o q)) :=
  .f1 (l := l14o_3) (o := W14o_3 N (a0, a1, ([] : (List (Int × ((List Bs) × Int)))), 0)) (WS14o_3 N (a0, a1, ([] : (List (Int × ((List Bs) × Int)))), 0)) (fun x3 => .f1 (l := l14o_10) (o := W14o_10 N (x3.1, x3.2.1, x3.2.2.1, 0)) (WS14o_10 N (x3.1, x3.2.1, x3.2.2.1, 0)) (fun x4 => .f1 (l := l14o_16) (o := W14o_16 N (x4.1, x4.2.1, x4.2.2.1, 0)) (WS14o_16 N (x4.1, x4.2.1, x4.2.2.1, 0)) (fun x5 => .leaf x5.2.2.1)))
noncomputable def F14o (N : Nat) (a0 : (List Ln)) (a1 : (List Ln)) : Option (List (Int × ((List Bs) × Int))) := (V14o N a0 a1).eval
def t14o : List (Nat × List Nat × List (Nat × Sh)) := [(3, [0], l14o_3), (10, [2], l14o_10), (16, [4], l14o_16)]
theorem P14o (N : Nat) (a0 : (List Ln)) (a1 : (List Ln)) : ∀ r, F14o N a0 a1 = some r → Spec Tryd.prog 14 [.val (.list tLn) a0, .val (.list tLn) a1] (E14o r) := fun r h => Spec_of (fn := Tryd.f14) rfl rfl rfl rfl true (wpc_sound (tbl := t14o) (μ := []) mixed _ _ _ (by
  have h1 := Vt.sound _ h
  refine Eq.mp ?_ h1
  kernel_rfl))

/-! ferryslip/ferryslipref08.Same -/
def E15 : Bool → D := fun x => encV tB x
abbrev l15_4 : List (Nat × Sh) := [(0, .val (.list (.pair tI (.pair (.list tS) tI)))), (1, .val (.list (.pair tI (.pair (.list tS) tI)))), (5, .val tI)]
noncomputable def b15_4 : Code := loopBody 4 (bodyOf Tryd.f15)
noncomputable def U15_4 (N : Nat) (s0 : (List (Int × ((List Bs) × Int)))) (s1 : (List (Int × ((List Bs) × Int)))) (s5 : Int) : Vt (Lp (shTy l15_4).I Bool) (O3 (Option D)) (encO 55 l15_4 [0] (fun q => some (E15 q))) :=
  .br (decide (s5 < (s0.length : Int))) (.ck (inR s5 s0.length) (.ck (inR s5 s1.length) (.br (((atI (.pair tI (.pair (.list tS) tI)) s0 s5).1) != ((atI (.pair tI (.pair (.list tS) tI)) s1 s5).1)) (.leaf (.ret false)) (.ck (inR s5 s0.length) (.ck (inR s5 s1.length) (.br (((atI (.pair tI (.pair (.list tS) tI)) s0 s5).2.2) != ((atI (.pair tI (.pair (.list tS) tI)) s1 s5).2.2)) (.leaf (.ret false)) (.ck (inR s5 s0.length) (.ck (inR s5 s1.length) (.c1 (P20 N ((atI (.pair tI (.pair (.list tS) tI)) s0 s5).2.1) ((atI (.pair tI (.pair (.list tS) tI)) s1 s5).2.1)) (fun x1 => .br (!x1) (.leaf (.ret false)) (.leaf (.next (s0, s1, (IntKind.i64.wrap (s5 + 1))))))))))))))) (.leaf (.brk 0 (s0, s1, s5)))
noncomputable def L15_4 (N : Nat) (s0 : (List (Int × ((List Bs) × Int)))) (s1 : (List (Int × ((List Bs) × Int)))) (s5 : Int) : Option (Lp ((List (Int × ((List Bs) × Int))) × (List (Int × ((List Bs) × Int))) × Int) Bool) := (U15_4 N s0 s1 s5).eval
noncomputable def W15_4 (N : Nat) (x : ((List (Int × ((List Bs) × Int))) × (List (Int × ((List Bs) × Int))) × Int)) : Option (Lp ((List (Int × ((List Bs) × Int))) × (List (Int × ((List Bs) × Int))) × Int) Bool) := runLoop (fun x => L15_4 N x.1 x.2.1 x.2.2) N x
theorem WS15_4 (N : Nat) (x : (shTy l15_4).I) : ∀ o, W15_4 N x = some o → S Tryd.prog (.loop b15_4) (buildSt 55 l15_4 x) (stepZ (rdD Tryd.prog Tryd.f15 false) l15_4 (encO 55 l15_4 [0] (fun q => some (E15 q)) o)) :=
  fun o h => loop_S (l := l15_4) (step := fun x => L15_4 N x.1 x.2.1 x.2.2) (fun x o h => wpc_sound (tbl := []) (μ := []) mixed _ _ _ (by
    have h1 := Vt.sound _ h
    refine Eq.mp ?_ h1
    kernel_rfl)) N x o h
noncomputable def V15 (N : Nat) (a0 : (List (Int × ((List Bs) × Int)))) (a1 : (List (Int × ((List Bs) × Int)))) : Vt Bool (Option D) (fun q => some (E15 q)) :=
  .br ((a0.length : Int) != (a1.length : Int)) (.leaf false) (.f1 (l := l15_4) (o := W15_4 N (a0, a1, 0)) (WS15_4 N (a0, a1, 0)) (fun x1 => .leaf true))
noncomputable def F15 (N : Nat) (a0 : (List (Int × ((List Bs) × Int)))) (a1 : (List (Int × ((List Bs) × Int)))) : Option Bool := (V15 N a0 a1).eval
def t15 : List (Nat × List Nat × List (Nat × Sh)) := [(4, [0], l15_4)]
theorem P15 (N : Nat) (a0 : (List (Int × ((List Bs) × Int)))) (a1 : (List (Int × ((List Bs) × Int)))) : ∀ r, F15 N a0 a1 = some r → Spec Tryd.prog 15 [.val (.list (.pair tI (.pair (.list tS) tI))) a0, .val (.list (.pair tI (.pair (.list tS) tI))) a1] (E15 r) := fun r h => Spec_of (fn := Tryd.f15) rfl rfl rfl rfl false (wpc_sound (tbl := t15) (μ := []) mixed _ _ _ (by
  have h1 := Vt.sound _ h
  refine Eq.mp ?_ h1
  kernel_rfl))

/-! ferryslip/ferryslipref01.bare -/
def E60 : Bool → D := fun x => encV tB x
noncomputable def V60 (N : Nat) (a0 : Int) : Vt Bool (Option D) (fun q => some (E60 q)) :=
  .br (decide ((97 : Int) ≤ a0)) (.br (decide (a0 ≤ 122)) (.leaf true) (.br (decide ((65 : Int) ≤ a0)) (.br (decide (a0 ≤ 90)) (.leaf true) (.br (decide ((48 : Int) ≤ a0)) (.br (decide (a0 ≤ 57)) (.leaf true) (.br (a0 == 45) (.leaf true) (.br (a0 == 95) (.leaf true) (.br (a0 == 46) (.leaf true) (.br (a0 == 47) (.leaf true) (.br (a0 == 58) (.leaf true) (.leaf (a0 == 42)))))))) (.br (a0 == 45) (.leaf true) (.br (a0 == 95) (.leaf true) (.br (a0 == 46) (.leaf true) (.br (a0 == 47) (.leaf true) (.br (a0 == 58) (.leaf true) (.leaf (a0 == 42))))))))) (.br (decide ((48 : Int) ≤ a0)) (.br (decide (a0 ≤ 57)) (.leaf true) (.br (a0 == 45) (.leaf true) (.br (a0 == 95) (.leaf true) (.br (a0 == 46) (.leaf true) (.br (a0 == 47) (.leaf true) (.br (a0 == 58) (.leaf true) (.leaf (a0 == 42)))))))) (.br (a0 == 45) (.leaf true) (.br (a0 == 95) (.leaf true) (.br (a0 == 46) (.leaf true) (.br (a0 == 47) (.leaf true) (.br (a0 == 58) (.leaf true) (.leaf (a0 == 42)))))))))) (.br (decide ((65 : Int) ≤ a0)) (.br (decide (a0 ≤ 90)) (.leaf true) (.br (decide ((48 : Int) ≤ a0)) (.br (decide (a0 ≤ 57)) (.leaf true) (.br (a0 == 45) (.leaf true) (.br (a0 == 95) (.leaf true) (.br (a0 == 46) (.leaf true) (.br (a0 == 47) (.leaf true) (.br (a0 == 58) (.leaf true) (.leaf (a0 == 42)))))))) (.br (a0 == 45) (.leaf true) (.br (a0 == 95) (.leaf true) (.br (a0 == 46) (.leaf true) (.br (a0 == 47) (.leaf true) (.br (a0 == 58) (.leaf true) (.leaf (a0 == 42))))))))) (.br (decide ((48 : Int) ≤ a0)) (.br (decide (a0 ≤ 57)) (.leaf true) (.br (a0 == 45) (.leaf true) (.br (a0 == 95) (.leaf true) (.br (a0 == 46) (.leaf true) (.br (a0 == 47) (.leaf true) (.br (a0 == 58) (.leaf true) (.leaf (a0 == 42)))))))) (.br (a0 == 45) (.leaf true) (.br (a0 == 95) (.leaf true) (.br (a0 == 46) (.leaf true) (.br (a0 == 47) (.leaf true) (.br (a0 == 58) (.leaf true) (.leaf (a0 == 42)))))))))
noncomputable def F60 (N : Nat) (a0 : Int) : Option Bool := (V60 N a0).eval
def t60 : List (Nat × List Nat × List (Nat × Sh)) := []
theorem P60 (N : Nat) (a0 : Int) : ∀ r, F60 N a0 = some r → Spec Tryd.prog 60 [.val (.int .u8) a0] (E60 r) := fun r h => Spec_of (fn := Tryd.f60) rfl rfl rfl rfl false (wpc_sound (tbl := t60) (μ := []) mixed _ _ _ (by
  have h1 := Vt.sound _ h
  refine Eq.mp ?_ h1
  kernel_rfl))

/-! ferryslip/ferryslipref01.Bare -/
def E50 : Bool → D := fun x => encV tB x
abbrev l50_4 : List (Nat × Sh) := [(0, .val tS), (3, .val tI)]
noncomputable def b50_4 : Code := loopBody 4 (bodyOf Tryd.f50)
noncomputable def U50_4 (N : Nat) (s0 : Bs) (s3 : Int) : Vt (Lp (shTy l50_4).I Bool) (O3 (Option D)) (encO 40 l50_4 [0] (fun q => some (E50 q))) :=
  .br (decide (s3 < (s0.length : Int))) (.ck (inR s3 s0.length) (.c1 (P60 N (byteAt s0 s3)) (fun x1 => .br (!x1) (.leaf (.ret false)) (.leaf (.next (s0, (IntKind.i64.wrap (s3 + 1)))))))) (.leaf (.brk 0 (s0, s3)))
noncomputable def L50_4 (N : Nat) (s0 : Bs) (s3 : Int) : Option (Lp (Bs × Int) Bool) := (U50_4 N s0 s3).eval
noncomputable def W50_4 (N : Nat) (x : (Bs × Int)) : Option (Lp (Bs × Int) Bool) := runLoop (fun x => L50_4 N x.1 x.2) N x
theorem WS50_4 (N : Nat) (x : (shTy l50_4).I) : ∀ o, W50_4 N x = some o → S Tryd.prog (.loop b50_4) (buildSt 40 l50_4 x) (stepZ (rdD Tryd.prog Tryd.f50 false) l50_4 (encO 40 l50_4 [0] (fun q => some (E50 q)) o)) :=
  fun o h => loop_S (l := l50_4) (step := fun x => L50_4 N x.1 x.2) (fun x o h => wpc_sound (tbl := []) (μ := []) mixed _ _ _ (by
    have h1 := Vt.sound _ h
    refine Eq.mp ?_ h1
    kernel_rfl)) N x o h
noncomputable def V50 (N : Nat) (a0 : Bs) : Vt Bool (Option D) (fun q => some (E50 q)) :=
  .br (a0 == ([] : Bs)) (.leaf false) (.br (a0 == ([105, 110, 97, 99, 116, 105, 118, 101, 58] : Bs)) (.leaf false) (.br (a0 == ([112, 114, 111, 116, 101, 99, 116, 58] : Bs)) (.leaf false) (.br (decide ((1 : Int) < (a0.length : Int))) (.ck (inR 0 a0.length) (.br ((byteAt a0 0) == 47) (.ck (inR 1 a0.length) (.br ((byteAt a0 1) == 42) (.leaf false) (.f1 (l := l50_4) (o := W50_4 N (a0, 0)) (WS50_4 N (a0, 0)) (fun x1 => .leaf true)))) (.f1 (l := l50_4) (o := W50_4 N (a0, 0)) (WS50_4 N (a0, 0)) (fun x2 => .leaf true)))) (.f1 (l := l50_4) (o := W50_4 N (a0, 0)) (WS50_4 N (a0, 0)) (fun x3 => .leaf true)))))
noncomputable def F50 (N : Nat) (a0 : Bs) : Option Bool := (V50 N a0).eval
def t50 : List (Nat × List Nat × List (Nat × Sh)) := [(4, [0], l50_4)]
theorem P50 (N : Nat) (a0 : Bs) : ∀ r, F50 N a0 = some r → Spec Tryd.prog 50 [.val tS a0] (E50 r) := fun r h => Spec_of (fn := Tryd.f50) rfl rfl rfl rfl false (wpc_sound (tbl := t50) (μ := []) mixed _ _ _ (by
  have h1 := Vt.sound _ h
  refine Eq.mp ?_ h1
  kernel_rfl))

/-! ferryslip/ferryslipref01.digit -/
def E51 : Int → D := fun x => encV (.int .u8) x
noncomputable def V51 (N : Nat) (a0 : Int) : Vt Int (Option D) (fun q => some (E51 q)) :=
  .br (decide (a0 < 10)) (.leaf (IntKind.u8.wrap (IntKind.i64.wrap (48 + a0)))) (.leaf (IntKind.u8.wrap (IntKind.i64.wrap ((IntKind.i64.wrap (97 + a0)) - 10))))
noncomputable def F51 (N : Nat) (a0 : Int) : Option Int := (V51 N a0).eval
def t51 : List (Nat × List Nat × List (Nat × Sh)) := []
theorem P51 (N : Nat) (a0 : Int) : ∀ r, F51 N a0 = some r → Spec Tryd.prog 51 [.val tI a0] (E51 r) := fun r h => Spec_of (fn := Tryd.f51) rfl rfl rfl rfl false (wpc_sound (tbl := t51) (μ := []) mixed _ _ _ (by
  have h1 := Vt.sound _ h
  refine Eq.mp ?_ h1
  kernel_rfl))

/-! ferryslip/ferryslipref01.Quote -/
def E34 : Bs → D := fun x => encV tS x
abbrev l34_5 : List (Nat × Sh) := [(0, .val tS), (3, .row false 9 5 (.int .u8)), (4, .val tI)]
noncomputable def b34_5 : Code := loopBody 5 (bodyOf Tryd.f34)
noncomputable def U34_5 (N : Nat) (s0 : Bs) (s3 : (List Int)) (s4 : Int) : Vt (Lp (shTy l34_5).I Bs) (O3 (Option D)) (encO 54 l34_5 [0] (fun q => some (E34 q))) :=
  .br (decide (s4 < (s0.length : Int))) (.ck (inR s4 s0.length) (.br ((byteAt s0 s4) == 34) (.ck (room (s3.length + ([92, (byteAt s0 s4)] : (List Int)).length)) (.leaf (.next (s0, (s3 ++ ([92, (byteAt s0 s4)] : (List Int))), (IntKind.i64.wrap (s4 + 1)))))) (.br ((byteAt s0 s4) == 92) (.ck (room (s3.length + ([92, (byteAt s0 s4)] : (List Int)).length)) (.leaf (.next (s0, (s3 ++ ([92, (byteAt s0 s4)] : (List Int))), (IntKind.i64.wrap (s4 + 1)))))) (.br (decide ((byteAt s0 s4) < 32)) (.ck ((16 : Int) ≠ 0) (.c1 (P51 N (IntKind.i64.wrap ((IntKind.i64.wrap (byteAt s0 s4)).tdiv 16))) (fun x1 => .ck ((16 : Int) ≠ 0) (.c1 (P51 N ((IntKind.i64.wrap (byteAt s0 s4)).tmod 16)) (fun x2 => .ck (room (s3.length + ([92, 120, x1, x2] : (List Int)).length)) (.leaf (.next (s0, (s3 ++ ([92, 120, x1, x2] : (List Int))), (IntKind.i64.wrap (s4 + 1)))))))))) (.br (decide ((126 : Int) < (byteAt s0 s4))) (.ck ((16 : Int) ≠ 0) (.c1 (P51 N (IntKind.i64.wrap ((IntKind.i64.wrap (byteAt s0 s4)).tdiv 16))) (fun x3 => .ck ((16 : Int) ≠ 0) (.c1 (P51 N ((IntKind.i64.wrap (byteAt s0 s4)).tmod 16)) (fun x4 => .ck (room (s3.length + ([92, 120, x3, x4] : (List Int)).length)) (.leaf (.next (s0, (s3 ++ ([92, 120, x3, x4] : (List Int))), (IntKind.i64.wrap (s4 + 1)))))))))) (.ck (room (s3.length + ([(byteAt s0 s4)] : (List Int)).length)) (.leaf (.next (s0, (s3 ++ ([(byteAt s0 s4)] : (List Int))), (IntKind.i64.wrap (s4 + 1))))))))))) (.leaf (.brk 0 (s0, s3, s4)))
noncomputable def L34_5 (N : Nat) (s0 : Bs) (s3 : (List Int)) (s4 : Int) : Option (Lp (Bs × (List Int) × Int) Bs) := (U34_5 N s0 s3 s4).eval
noncomputable def W34_5 (N : Nat) (x : (Bs × (List Int) × Int)) : Option (Lp (Bs × (List Int) × Int) Bs) := runLoop (fun x => L34_5 N x.1 x.2.1 x.2.2) N x
theorem WS34_5 (N : Nat) (x : (shTy l34_5).I) : ∀ o, W34_5 N x = some o → S Tryd.prog (.loop b34_5) (buildSt 54 l34_5 x) (stepZ (rdD Tryd.prog Tryd.f34 false) l34_5 (encO 54 l34_5 [0] (fun q => some (E34 q)) o)) :=
  fun o h => loop_S (l := l34_5) (step := fun x => L34_5 N x.1 x.2.1 x.2.2) (fun x o h => wpc_sound (tbl := []) (μ := []) mixed _ _ _ (by
    have h1 := Vt.sound _ h
    refine Eq.mp ?_ h1
    kernel_rfl)) N x o h
noncomputable def V34 (N : Nat) (a0 : Bs) : Vt Bs (Option D) (fun q => some (E34 q)) :=
  .c1 (P50 N a0) (fun x1 => .br x1 (.leaf a0) (.f1 (l := l34_5) (o := W34_5 N (a0, ([34] : (List Int)), 0)) (WS34_5 N (a0, ([34] : (List Int)), 0)) (fun x2 => .ck (room (x2.2.1.length + ([34] : (List Int)).length)) (.leaf (strOf (x2.2.1 ++ ([34] : (List Int))))))))
noncomputable def F34 (N : Nat) (a0 : Bs) : Option Bs := (V34 N a0).eval
def t34 : List (Nat × List Nat × List (Nat × Sh)) := [(5, [0], l34_5)]
theorem P34 (N : Nat) (a0 : Bs) : ∀ r, F34 N a0 = some r → Spec Tryd.prog 34 [.val tS a0] (E34 r) := fun r h => Spec_of (fn := Tryd.f34) rfl rfl rfl rfl false (wpc_sound (tbl := t34) (μ := []) mixed _ _ _ (by
  have h1 := Vt.sound _ h
  refine Eq.mp ?_ h1
  kernel_rfl))

/-! ferryslip/ferryslipref08.digits -/
def E35 : Bs → D := fun x => encV tS x
noncomputable def V35 (N : Nat) (rc : Int → Option Bs) (hrc : ∀ (a0 : Int) (r : Bs), rc a0 = some r → Spec Tryd.prog 35 [.val tI a0] (E35 r)) (a0 : Int) : Vt Bs (Option D) (fun q => some (E35 q)) :=
  .ck ((10 : Int) ≠ 0) (.br (decide ((9 : Int) < a0)) (.ck ((10 : Int) ≠ 0) (.c1 (hrc (IntKind.i64.wrap (a0.tdiv 10))) (fun x1 => .ck (room (x1.length + (strOf ([(IntKind.u8.wrap (IntKind.i64.wrap (48 + (a0.tmod 10))))] : (List Int))).length)) (.leaf (x1 ++ (strOf ([(IntKind.u8.wrap (IntKind.i64.wrap (48 + (a0.tmod 10))))] : (List Int)))))))) (.leaf (strOf ([(IntKind.u8.wrap (IntKind.i64.wrap (48 + (a0.tmod 10))))] : (List Int)))))
def t35 : List (Nat × List Nat × List (Nat × Sh)) := []
theorem PV35 (N : Nat) (rc : Int → Option Bs) (hrc : ∀ (a0 : Int) (r : Bs), rc a0 = some r → Spec Tryd.prog 35 [.val tI a0] (E35 r)) (a0 : Int) : ∀ r, (V35 N rc hrc a0).eval = some r → Spec Tryd.prog 35 [.val tI a0] (E35 r) := fun r h => Spec_of (fn := Tryd.f35) rfl rfl rfl rfl false (wpc_sound (tbl := t35) (μ := []) mixed _ _ _ (by
  have h1 := Vt.sound _ h
  refine Eq.mp ?_ h1
  kernel_rfl))
noncomputable def G35 (N : Nat) : Nat → { rc : Int → Option Bs // ∀ (a0 : Int) (r : Bs), rc a0 = some r → Spec Tryd.prog 35 [.val tI a0] (E35 r) }
  | 0 => ⟨fun _ => none, fun _ _ h => by cases h⟩
  | n + 1 => ⟨fun a0 => (V35 N (G35 N n).1 (G35 N n).2 a0).eval, fun a0 => PV35 N _ _ a0⟩
noncomputable def F35 (N : Nat) (a0 : Int) : Option Bs := (G35 N N).1 a0
theorem P35 (N : Nat) (a0 : Int) : ∀ r, F35 N a0 = some r → Spec Tryd.prog 35 [.val tI a0] (E35 r) := (G35 N N).2 a0

/-! ferryslip/ferryslipref08.Text -/
def E17 : Bs → D := fun x => encV tS x
abbrev l17_15 : List (Nat × Sh) := [(0, .val (.list (.pair tI (.pair (.list tS) tI)))), (3, .val tS), (4, .val tI), (5, .cel false 5 55 (.pair tI (.pair (.list tS) tI))), (6, .val tI)]
noncomputable def b17_15 : Code := loopBody 15 (bodyOf Tryd.f17)
noncomputable def U17_15 (N : Nat) (s0 : (List (Int × ((List Bs) × Int)))) (s3 : Bs) (s4 : Int) (s5 : (Int × ((List Bs) × Int))) (s6 : Int) : Vt (Lp (shTy l17_15).I Bs) (O3 (Option D)) (encO 85 l17_15 [3] (fun q => some (E17 q))) :=
  .br (decide (s6 < (s5.2.1.length : Int))) (.ck (room (s3.length + ([32] : Bs).length)) (.ck (inR s6 s5.2.1.length) (.br (decide (((atI tS s5.2.1 s6).length : Int) ≤ 40)) (.ck (inR s6 s5.2.1.length) (.c1 (P34 N (atI tS s5.2.1 s6)) (fun x1 => .ck (room ((s3 ++ ([32] : Bs)).length + x1.length)) (.leaf (.next (s0, ((s3 ++ ([32] : Bs)) ++ x1), s4, s5, (IntKind.i64.wrap (s6 + 1)))))))) (.leaf (.next (s0, (s3 ++ ([32] : Bs)), s4, s5, (IntKind.i64.wrap (s6 + 1)))))))) (.leaf (.brk 0 (s0, s3, s4, s5, s6)))
noncomputable def L17_15 (N : Nat) (s0 : (List (Int × ((List Bs) × Int)))) (s3 : Bs) (s4 : Int) (s5 : (Int × ((List Bs) × Int))) (s6 : Int) : Option (Lp ((List (Int × ((List Bs) × Int))) × Bs × Int × (Int × ((List Bs) × Int)) × Int) Bs) := (U17_15 N s0 s3 s4 s5 s6).eval
noncomputable def W17_15 (N : Nat) (x : ((List (Int × ((List Bs) × Int))) × Bs × Int × (Int × ((List Bs) × Int)) × Int)) : Option (Lp ((List (Int × ((List Bs) × Int))) × Bs × Int × (Int × ((List Bs) × Int)) × Int) Bs) := runLoop (fun x => L17_15 N x.1 x.2.1 x.2.2.1 x.2.2.2.1 x.2.2.2.2) N x
theorem WS17_15 (N : Nat) (x : (shTy l17_15).I) : ∀ o, W17_15 N x = some o → S Tryd.prog (.loop b17_15) (buildSt 85 l17_15 x) (stepZ (rdD Tryd.prog Tryd.f17 false) l17_15 (encO 85 l17_15 [3] (fun q => some (E17 q)) o)) :=
  fun o h => loop_S (l := l17_15) (step := fun x => L17_15 N x.1 x.2.1 x.2.2.1 x.2.2.2.1 x.2.2.2.2) (fun x o h => wpc_sound (tbl := []) (μ := []) mixed _ _ _ (by
    have h1 := Vt.sound _ h
    refine Eq.mp ?_ h1
    kernel_rfl)) N x o h
abbrev l17_3 : List (Nat × Sh) := [(0, .val (.list (.pair tI (.pair (.list tS) tI)))), (3, .val tS), (4, .val tI)]
noncomputable def b17_3 : Code := loopBody 3 (bodyOf Tryd.f17)
noncomputable def U17_3 (N : Nat) (s0 : (List (Int × ((List Bs) × Int)))) (s3 : Bs) (s4 : Int) : Vt (Lp (shTy l17_3).I Bs) (O3 (Option D)) (encO 85 l17_3 [0] (fun q => some (E17 q))) :=
  .br (decide (s4 < (s0.length : Int))) (.ck (inR s4 s0.length) (.br (((atI (.pair tI (.pair (.list tS) tI)) s0 s4).1) == 1) (.ck (room (s3.length + ([45] : Bs).length)) (.g1 (l := l17_15) (o := W17_15 N (s0, (s3 ++ ([45] : Bs)), s4, (atI (.pair tI (.pair (.list tS) tI)) s0 s4), 0)) (WS17_15 N (s0, (s3 ++ ([45] : Bs)), s4, (atI (.pair tI (.pair (.list tS) tI)) s0 s4), 0)) (fun x1 => .br (decide (x1.2.2.2.1.1 < 1)) (.ck (room (x1.2.1.length + ([32, 40] : Bs).length)) (.c1 (P35 N x1.2.2.2.1.2.2) (fun x2 => .ck (room ((x1.2.1 ++ ([32, 40] : Bs)).length + x2.length)) (.ck (room (((x1.2.1 ++ ([32, 40] : Bs)) ++ x2).length + ([41] : Bs).length)) (.ck (room ((((x1.2.1 ++ ([32, 40] : Bs)) ++ x2) ++ ([41] : Bs)).length + ([10] : Bs).length)) (.leaf (.next (x1.1, ((((x1.2.1 ++ ([32, 40] : Bs)) ++ x2) ++ ([41] : Bs)) ++ ([10] : Bs)), (IntKind.i64.wrap (x1.2.2.1 + 1)))))))))) (.br (decide ((2 : Int) < x1.2.2.2.1.1)) (.ck (room (x1.2.1.length + ([32, 40] : Bs).length)) (.c1 (P35 N x1.2.2.2.1.2.2) (fun x3 => .ck (room ((x1.2.1 ++ ([32, 40] : Bs)).length + x3.length)) (.ck (room (((x1.2.1 ++ ([32, 40] : Bs)) ++ x3).length + ([41] : Bs).length)) (.ck (room ((((x1.2.1 ++ ([32, 40] : Bs)) ++ x3) ++ ([41] : Bs)).length + ([10] : Bs).length)) (.leaf (.next (x1.1, ((((x1.2.1 ++ ([32, 40] : Bs)) ++ x3) ++ ([41] : Bs)) ++ ([10] : Bs)), (IntKind.i64.wrap (x1.2.2.1 + 1)))))))))) (.br (x1.2.2.2.1.1 == 2) (.br (x1.2.2.2.1.2.2 != 0) (.ck (room (x1.2.1.length + ([32, 40] : Bs).length)) (.c1 (P35 N x1.2.2.2.1.2.2) (fun x4 => .ck (room ((x1.2.1 ++ ([32, 40] : Bs)).length + x4.length)) (.ck (room (((x1.2.1 ++ ([32, 40] : Bs)) ++ x4).length + ([41] : Bs).length)) (.ck (room ((((x1.2.1 ++ ([32, 40] : Bs)) ++ x4) ++ ([41] : Bs)).length + ([10] : Bs).length)) (.leaf (.next (x1.1, ((((x1.2.1 ++ ([32, 40] : Bs)) ++ x4) ++ ([41] : Bs)) ++ ([10] : Bs)), (IntKind.i64.wrap (x1.2.2.1 + 1)))))))))) (.ck (room (x1.2.1.length + ([10] : Bs).length)) (.leaf (.next (x1.1, (x1.2.1 ++ ([10] : Bs)), (IntKind.i64.wrap (x1.2.2.1 + 1))))))) (.ck (room (x1.2.1.length + ([10] : Bs).length)) (.leaf (.next (x1.1, (x1.2.1 ++ ([10] : Bs)), (IntKind.i64.wrap (x1.2.2.1 + 1))))))))))) (.br (((atI (.pair tI (.pair (.list tS) tI)) s0 s4).1) == 2) (.ck (room (s3.length + ([43] : Bs).length)) (.g1 (l := l17_15) (o := W17_15 N (s0, (s3 ++ ([43] : Bs)), s4, (atI (.pair tI (.pair (.list tS) tI)) s0 s4), 0)) (WS17_15 N (s0, (s3 ++ ([43] : Bs)), s4, (atI (.pair tI (.pair (.list tS) tI)) s0 s4), 0)) (fun x5 => .br (decide (x5.2.2.2.1.1 < 1)) (.ck (room (x5.2.1.length + ([32, 40] : Bs).length)) (.c1 (P35 N x5.2.2.2.1.2.2) (fun x6 => .ck (room ((x5.2.1 ++ ([32, 40] : Bs)).length + x6.length)) (.ck (room (((x5.2.1 ++ ([32, 40] : Bs)) ++ x6).length + ([41] : Bs).length)) (.ck (room ((((x5.2.1 ++ ([32, 40] : Bs)) ++ x6) ++ ([41] : Bs)).length + ([10] : Bs).length)) (.leaf (.next (x5.1, ((((x5.2.1 ++ ([32, 40] : Bs)) ++ x6) ++ ([41] : Bs)) ++ ([10] : Bs)), (IntKind.i64.wrap (x5.2.2.1 + 1)))))))))) (.br (decide ((2 : Int) < x5.2.2.2.1.1)) (.ck (room (x5.2.1.length + ([32, 40] : Bs).length)) (.c1 (P35 N x5.2.2.2.1.2.2) (fun x7 => .ck (room ((x5.2.1 ++ ([32, 40] : Bs)).length + x7.length)) (.ck (room (((x5.2.1 ++ ([32, 40] : Bs)) ++ x7).length + ([41] : Bs).length)) (.ck (room ((((x5.2.1 ++ ([32, 40] : Bs)) ++ x7) ++ ([41] : Bs)).length + ([10] : Bs).length)) (.leaf (.next (x5.1, ((((x5.2.1 ++ ([32, 40] : Bs)) ++ x7) ++ ([41] : Bs)) ++ ([10] : Bs)), (IntKind.i64.wrap (x5.2.2.1 + 1)))))))))) (.br (x5.2.2.2.1.1 == 2) (.br (x5.2.2.2.1.2.2 != 0) (.ck (room (x5.2.1.length + ([32, 40] : Bs).length)) (.c1 (P35 N x5.2.2.2.1.2.2) (fun x8 => .ck (room ((x5.2.1 ++ ([32, 40] : Bs)).length + x8.length)) (.ck (room (((x5.2.1 ++ ([32, 40] : Bs)) ++ x8).length + ([41] : Bs).length)) (.ck (room ((((x5.2.1 ++ ([32, 40] : Bs)) ++ x8) ++ ([41] : Bs)).length + ([10] : Bs).length)) (.leaf (.next (x5.1, ((((x5.2.1 ++ ([32, 40] : Bs)) ++ x8) ++ ([41] : Bs)) ++ ([10] : Bs)), (IntKind.i64.wrap (x5.2.2.1 + 1)))))))))) (.ck (room (x5.2.1.length + ([10] : Bs).length)) (.leaf (.next (x5.1, (x5.2.1 ++ ([10] : Bs)), (IntKind.i64.wrap (x5.2.2.1 + 1))))))) (.ck (room (x5.2.1.length + ([10] : Bs).length)) (.leaf (.next (x5.1, (x5.2.1 ++ ([10] : Bs)), (IntKind.i64.wrap (x5.2.2.1 + 1))))))))))) (.br (((atI (.pair tI (.pair (.list tS) tI)) s0 s4).1) == 3) (.ck (room (s3.length + ([33] : Bs).length)) (.g1 (l := l17_15) (o := W17_15 N (s0, (s3 ++ ([33] : Bs)), s4, (atI (.pair tI (.pair (.list tS) tI)) s0 s4), 0)) (WS17_15 N (s0, (s3 ++ ([33] : Bs)), s4, (atI (.pair tI (.pair (.list tS) tI)) s0 s4), 0)) (fun x9 => .br (decide (x9.2.2.2.1.1 < 1)) (.ck (room (x9.2.1.length + ([32, 40] : Bs).length)) (.c1 (P35 N x9.2.2.2.1.2.2) (fun x10 => .ck (room ((x9.2.1 ++ ([32, 40] : Bs)).length + x10.length)) (.ck (room (((x9.2.1 ++ ([32, 40] : Bs)) ++ x10).length + ([41] : Bs).length)) (.ck (room ((((x9.2.1 ++ ([32, 40] : Bs)) ++ x10) ++ ([41] : Bs)).length + ([10] : Bs).length)) (.leaf (.next (x9.1, ((((x9.2.1 ++ ([32, 40] : Bs)) ++ x10) ++ ([41] : Bs)) ++ ([10] : Bs)), (IntKind.i64.wrap (x9.2.2.1 + 1)))))))))) (.br (decide ((2 : Int) < x9.2.2.2.1.1)) (.ck (room (x9.2.1.length + ([32, 40] : Bs).length)) (.c1 (P35 N x9.2.2.2.1.2.2) (fun x11 => .ck (room ((x9.2.1 ++ ([32, 40] : Bs)).length + x11.length)) (.ck (room (((x9.2.1 ++ ([32, 40] : Bs)) ++ x11).length + ([41] : Bs).length)) (.ck (room ((((x9.2.1 ++ ([32, 40] : Bs)) ++ x11) ++ ([41] : Bs)).length + ([10] : Bs).length)) (.leaf (.next (x9.1, ((((x9.2.1 ++ ([32, 40] : Bs)) ++ x11) ++ ([41] : Bs)) ++ ([10] : Bs)), (IntKind.i64.wrap (x9.2.2.1 + 1)))))))))) (.br (x9.2.2.2.1.1 == 2) (.br (x9.2.2.2.1.2.2 != 0) (.ck (room (x9.2.1.length + ([32, 40] : Bs).length)) (.c1 (P35 N x9.2.2.2.1.2.2) (fun x12 => .ck (room ((x9.2.1 ++ ([32, 40] : Bs)).length + x12.length)) (.ck (room (((x9.2.1 ++ ([32, 40] : Bs)) ++ x12).length + ([41] : Bs).length)) (.ck (room ((((x9.2.1 ++ ([32, 40] : Bs)) ++ x12) ++ ([41] : Bs)).length + ([10] : Bs).length)) (.leaf (.next (x9.1, ((((x9.2.1 ++ ([32, 40] : Bs)) ++ x12) ++ ([41] : Bs)) ++ ([10] : Bs)), (IntKind.i64.wrap (x9.2.2.1 + 1)))))))))) (.ck (room (x9.2.1.length + ([10] : Bs).length)) (.leaf (.next (x9.1, (x9.2.1 ++ ([10] : Bs)), (IntKind.i64.wrap (x9.2.2.1 + 1))))))) (.ck (room (x9.2.1.length + ([10] : Bs).length)) (.leaf (.next (x9.1, (x9.2.1 ++ ([10] : Bs)), (IntKind.i64.wrap (x9.2.2.1 + 1))))))))))) (.ck (room (s3.length + ([63] : Bs).length)) (.g1 (l := l17_15) (o := W17_15 N (s0, (s3 ++ ([63] : Bs)), s4, (atI (.pair tI (.pair (.list tS) tI)) s0 s4), 0)) (WS17_15 N (s0, (s3 ++ ([63] : Bs)), s4, (atI (.pair tI (.pair (.list tS) tI)) s0 s4), 0)) (fun x13 => .br (decide (x13.2.2.2.1.1 < 1)) (.ck (room (x13.2.1.length + ([32, 40] : Bs).length)) (.c1 (P35 N x13.2.2.2.1.2.2) (fun x14 => .ck (room ((x13.2.1 ++ ([32, 40] : Bs)).length + x14.length)) (.ck (room (((x13.2.1 ++ ([32, 40] : Bs)) ++ x14).length + ([41] : Bs).length)) (.ck (room ((((x13.2.1 ++ ([32, 40] : Bs)) ++ x14) ++ ([41] : Bs)).length + ([10] : Bs).length)) (.leaf (.next (x13.1, ((((x13.2.1 ++ ([32, 40] : Bs)) ++ x14) ++ ([41] : Bs)) ++ ([10] : Bs)), (IntKind.i64.wrap (x13.2.2.1 + 1)))))))))) (.br (decide ((2 : Int) < x13.2.2.2.1.1)) (.ck (room (x13.2.1.length + ([32, 40] : Bs).length)) (.c1 (P35 N x13.2.2.2.1.2.2) (fun x15 => .ck (room ((x13.2.1 ++ ([32, 40] : Bs)).length + x15.length)) (.ck (room (((x13.2.1 ++ ([32, 40] : Bs)) ++ x15).length + ([41] : Bs).length)) (.ck (room ((((x13.2.1 ++ ([32, 40] : Bs)) ++ x15) ++ ([41] : Bs)).length + ([10] : Bs).length)) (.leaf (.next (x13.1, ((((x13.2.1 ++ ([32, 40] : Bs)) ++ x15) ++ ([41] : Bs)) ++ ([10] : Bs)), (IntKind.i64.wrap (x13.2.2.1 + 1)))))))))) (.br (x13.2.2.2.1.1 == 2) (.br (x13.2.2.2.1.2.2 != 0) (.ck (room (x13.2.1.length + ([32, 40] : Bs).length)) (.c1 (P35 N x13.2.2.2.1.2.2) (fun x16 => .ck (room ((x13.2.1 ++ ([32, 40] : Bs)).length + x16.length)) (.ck (room (((x13.2.1 ++ ([32, 40] : Bs)) ++ x16).length + ([41] : Bs).length)) (.ck (room ((((x13.2.1 ++ ([32, 40] : Bs)) ++ x16) ++ ([41] : Bs)).length + ([10] : Bs).length)) (.leaf (.next (x13.1, ((((x13.2.1 ++ ([32, 40] : Bs)) ++ x16) ++ ([41] : Bs)) ++ ([10] : Bs)), (IntKind.i64.wrap (x13.2.2.1 + 1)))))))))) (.ck (room (x13.2.1.length + ([10] : Bs).length)) (.leaf (.next (x13.1, (x13.2.1 ++ ([10] : Bs)), (IntKind.i64.wrap (x13.2.2.1 + 1))))))) (.ck (room (x13.2.1.length + ([10] : Bs).length)) (.leaf (.next (x13.1, (x13.2.1 ++ ([10] : Bs)), (IntKind.i64.wrap (x13.2.2.1 + 1))))))))))))))) (.leaf (.brk 0 (s0, s3, s4)))
noncomputable def L17_3 (N : Nat) (s0 : (List (Int × ((List Bs) × Int)))) (s3 : Bs) (s4 : Int) : Option (Lp ((List (Int × ((List Bs) × Int))) × Bs × Int) Bs) := (U17_3 N s0 s3 s4).eval
noncomputable def W17_3 (N : Nat) (x : ((List (Int × ((List Bs) × Int))) × Bs × Int)) : Option (Lp ((List (Int × ((List Bs) × Int))) × Bs × Int) Bs) := runLoop (fun x => L17_3 N x.1 x.2.1 x.2.2) N x
theorem WS17_3 (N : Nat) (x : (shTy l17_3).I) : ∀ o, W17_3 N x = some o → S Tryd.prog (.loop b17_3) (buildSt 85 l17_3 x) (stepZ (rdD Tryd.prog Tryd.f17 false) l17_3 (encO 85 l17_3 [0] (fun q => some (E17 q)) o)) :=
  fun o h => loop_S (l := l17_3) (step := fun x => L17_3 N x.1 x.2.1 x.2.2) (fun x o h => wpc_sound (tbl := [(15, [3], l17_15)]) (μ := []) mixed _ _ _ (by
    have h1 := Vt.sound _ h
    refine Eq.mp ?_ h1
    kernel_rfl)) N x o h
noncomputable def V17 (N : Nat) (a0 : (List (Int × ((List Bs) × Int)))) : Vt Bs (Option D) (fun q => some (E17 q)) :=
  .f1 (l := l17_3) (o := W17_3 N (a0, ([] : Bs), 0)) (WS17_3 N (a0, ([] : Bs), 0)) (fun x1 => .leaf x1.2.1)
noncomputable def F17 (N : Nat) (a0 : (List (Int × ((List Bs) × Int)))) : Option Bs := (V17 N a0).eval
def t17 : List (Nat × List Nat × List (Nat × Sh)) := [(15, [3], l17_15), (3, [0], l17_3)]
theorem P17 (N : Nat) (a0 : (List (Int × ((List Bs) × Int)))) : ∀ r, F17 N a0 = some r → Spec Tryd.prog 17 [.val (.list (.pair tI (.pair (.list tS) tI))) a0] (E17 r) := fun r h => Spec_of (fn := Tryd.f17) rfl rfl rfl rfl false (wpc_sound (tbl := t17) (μ := []) mixed _ _ _ (by
  have h1 := Vt.sound _ h
  refine Eq.mp ?_ h1
  kernel_rfl))

/-! ferryslip/ferrysliplaw08.DiffOf -/
def E3 : Bool → D := fun x => encV tB x
noncomputable def V3 (N : Nat) (a0 : (List Ln)) (a1 : (List Ln)) : Vt Bool (Option D) (fun q => some (E3 q)) :=
  .c1 (P9 N a0) (fun x1 => .br (!x1) (.c1 (P10 N) (fun x2 => .leaf x2)) (.c1 (P9 N a1) (fun x3 => .br (!x3) (.c1 (P10 N) (fun x4 => .leaf x4)) (.br (decide ((60 : Int) < (a0.length : Int))) (.c1 (P10 N) (fun x5 => .leaf x5)) (.br (decide ((60 : Int) < (a1.length : Int))) (.c1 (P10 N) (fun x6 => .leaf x6)) (.c2 (P11o N a0 a1) (fun x7 x8 => .c1 (P12 N a0) (fun x9 => .br (!x9) (.br ((x7.length : Int) == 0) (.br (x8 == 1) (.c1 (P10 N) (fun x10 => .leaf x10)) (.leaf false)) (.leaf false)) (.c1 (P12 N a1) (fun x11 => .br (!x11) (.br ((x7.length : Int) == 0) (.br (x8 == 1) (.c1 (P10 N) (fun x12 => .leaf x12)) (.leaf false)) (.leaf false)) (.c2 (P13o N x7) (fun x13 x14 => .c1 (P14o N a0 a1) (fun x15 => .br x14 (.c1 (P15 N x13 x15) (fun x16 => .br x16 (.br (x8 == 0) (.c1 (P16 N x7) (fun x17 => .c1 (P17 N x15) (fun x18 => .br (x17 == x18) (.c1 (P10 N) (fun x19 => .leaf x19)) (.leaf false)))) (.leaf false)) (.leaf false))) (.leaf false))))))))))))))
noncomputable def F3 (N : Nat) (a0 : (List Ln)) (a1 : (List Ln)) : Option Bool := (V3 N a0 a1).eval
def t3 : List (Nat × List Nat × List (Nat × Sh)) := []
theorem P3 (N : Nat) (a0 : (List Ln)) (a1 : (List Ln)) : ∀ r, F3 N a0 a1 = some r → Spec Tryd.prog 3 [.val (.list tLn) a0, .val (.list tLn) a1] (E3 r) := fun r h => Spec_of (fn := Tryd.f3) rfl rfl rfl rfl false (wpc_sound (tbl := t3) (μ := [32, 55, 60]) mixed _ _ _ (by
  have h1 := Vt.sound _ h
  refine Eq.mp ?_ h1
  kernel_rfl))

/-! ferryslip/ferrysliplaw08.DiffMakes -/
def E4 : Bool → D := fun x => encV tB x
noncomputable def V4 (N : Nat) (a0 : (List Ln)) (a1 : (List Ln)) : Vt Bool (Option D) (fun q => some (E4 q)) :=
  .c1 (P9 N a0) (fun x1 => .br (!x1) (.c1 (P10 N) (fun x2 => .leaf x2)) (.c1 (P9 N a1) (fun x3 => .br (!x3) (.c1 (P10 N) (fun x4 => .leaf x4)) (.br (decide ((60 : Int) < (a0.length : Int))) (.c1 (P10 N) (fun x5 => .leaf x5)) (.br (decide ((60 : Int) < (a1.length : Int))) (.c1 (P10 N) (fun x6 => .leaf x6)) (.c2 (P11o N a0 a1) (fun x7 x8 => .br (x8 != 0) (.br ((x7.length : Int) == 0) (.c1 (P10 N) (fun x9 => .leaf x9)) (.leaf false)) (.c3 (P18 N a0 x7) (fun x10 x11 x12 => .br (x12 == 0) (.br (x11 == (x7.length : Int)) (.c1 (P19 N x10 a1) (fun x13 => .br x13 (.c1 (P19 N a0 a1) (fun x14 => .br (((x7.length : Int) == 0) == x14) (.c1 (P10 N) (fun x15 => .leaf x15)) (.leaf false))) (.leaf false))) (.leaf false)) (.leaf false))))))))))
noncomputable def F4 (N : Nat) (a0 : (List Ln)) (a1 : (List Ln)) : Option Bool := (V4 N a0 a1).eval
def t4 : List (Nat × List Nat × List (Nat × Sh)) := []
theorem P4 (N : Nat) (a0 : (List Ln)) (a1 : (List Ln)) : ∀ r, F4 N a0 a1 = some r → Spec Tryd.prog 4 [.val (.list tLn) a0, .val (.list tLn) a1] (E4 r) := fun r h => Spec_of (fn := Tryd.f4) rfl rfl rfl rfl false (wpc_sound (tbl := t4) (μ := [32]) mixed _ _ _ (by
  have h1 := Vt.sound _ h
  refine Eq.mp ?_ h1
  kernel_rfl))

/-! ferryslip/ferrysliplaw08.DiffBack -/
def E5 : Bool → D := fun x => encV tB x
noncomputable def V5 (N : Nat) (a0 : (List Ln)) (a1 : (List Ln)) : Vt Bool (Option D) (fun q => some (E5 q)) :=
  .c1 (P9 N a0) (fun x1 => .br (!x1) (.c1 (P10 N) (fun x2 => .leaf x2)) (.c1 (P9 N a1) (fun x3 => .br (!x3) (.c1 (P10 N) (fun x4 => .leaf x4)) (.br (decide ((60 : Int) < (a0.length : Int))) (.c1 (P10 N) (fun x5 => .leaf x5)) (.br (decide ((60 : Int) < (a1.length : Int))) (.c1 (P10 N) (fun x6 => .leaf x6)) (.c2 (P11o N a0 a1) (fun x7 x8 => .c2 (P11o N a1 a0) (fun x9 x10 => .br (x8 != 0) (.br (x8 == x10) (.c1 (P10 N) (fun x11 => .leaf x11)) (.leaf false)) (.br (x10 != 0) (.br (x8 == x10) (.c1 (P10 N) (fun x12 => .leaf x12)) (.leaf false)) (.ck (room (([] : (List (Int × ((List Bs) × Int)))).length + x7.length)) (.ck (room ((([] : (List (Int × ((List Bs) × Int)))) ++ x7).length + x9.length)) (.c3 (P18 N a0 ((([] : (List (Int × ((List Bs) × Int)))) ++ x7) ++ x9)) (fun x13 x14 x15 => .br (x15 == 0) (.br (x14 == (IntKind.i64.wrap ((x7.length : Int) + (x9.length : Int)))) (.c1 (P19 N x13 a0) (fun x16 => .br x16 (.c1 (P10 N) (fun x17 => .leaf x17)) (.leaf false))) (.leaf false)) (.leaf false))))))))))))))
noncomputable def F5 (N : Nat) (a0 : (List Ln)) (a1 : (List Ln)) : Option Bool := (V5 N a0 a1).eval
def t5 : List (Nat × List Nat × List (Nat × Sh)) := []
theorem P5 (N : Nat) (a0 : (List Ln)) (a1 : (List Ln)) : ∀ r, F5 N a0 a1 = some r → Spec Tryd.prog 5 [.val (.list tLn) a0, .val (.list tLn) a1] (E5 r) := fun r h => Spec_of (fn := Tryd.f5) rfl rfl rfl rfl false (wpc_sound (tbl := t5) (μ := [34, 40]) mixed _ _ _ (by
  have h1 := Vt.sound _ h
  refine Eq.mp ?_ h1
  kernel_rfl))

/-! ferryslip/ferrysliplaw08.DiffText -/
def E6 : Bool → D := fun x => encV tB x
abbrev l6_5 : List (Nat × Sh) := [(0, .val (.list (.pair tI (.pair (.list tS) tI)))), (3, .row false 9 55 (.pair tI (.pair (.list tS) tI))), (20, .val (.list (.pair tI (.pair (.list tS) tI)))), (21, .val tI), (22, .val tI)]
noncomputable def b6_5 : Code := loopBody 5 (bodyOf Tryd.f6)
noncomputable def U6_5 (N : Nat) (s0 : (List (Int × ((List Bs) × Int)))) (s3 : (List (Int × ((List Bs) × Int)))) (s20 : (List (Int × ((List Bs) × Int)))) (s21 : Int) (s22 : Int) : Vt (Lp (shTy l6_5).I Bool) (O3 (Option D)) (encO 44 l6_5 [0] (fun q => some (E6 q))) :=
  .br (decide (s22 < s21)) (.ck (inR s22 s20.length) (.br (decide (((atI (.pair tI (.pair (.list tS) tI)) s20 s22).2.2) < 0)) (.c1 (P10 N) (fun x1 => .leaf (.ret x1))) (.br (decide ((1000000000 : Int) < ((atI (.pair tI (.pair (.list tS) tI)) s20 s22).2.2))) (.c1 (P10 N) (fun x2 => .leaf (.ret x2))) (.leaf (.next (s0, s3, s20, s21, (IntKind.i64.wrap (s22 + 1)))))))) (.leaf (.brk 0 (s0, s3, s20, s21, s22)))
noncomputable def L6_5 (N : Nat) (s0 : (List (Int × ((List Bs) × Int)))) (s3 : (List (Int × ((List Bs) × Int)))) (s20 : (List (Int × ((List Bs) × Int)))) (s21 : Int) (s22 : Int) : Option (Lp ((List (Int × ((List Bs) × Int))) × (List (Int × ((List Bs) × Int))) × (List (Int × ((List Bs) × Int))) × Int × Int) Bool) := (U6_5 N s0 s3 s20 s21 s22).eval
noncomputable def W6_5 (N : Nat) (x : ((List (Int × ((List Bs) × Int))) × (List (Int × ((List Bs) × Int))) × (List (Int × ((List Bs) × Int))) × Int × Int)) : Option (Lp ((List (Int × ((List Bs) × Int))) × (List (Int × ((List Bs) × Int))) × (List (Int × ((List Bs) × Int))) × Int × Int) Bool) := runLoop (fun x => L6_5 N x.1 x.2.1 x.2.2.1 x.2.2.2.1 x.2.2.2.2) N x
theorem WS6_5 (N : Nat) (x : (shTy l6_5).I) : ∀ o, W6_5 N x = some o → S Tryd.prog (.loop b6_5) (buildSt 44 l6_5 x) (stepZ (rdD Tryd.prog Tryd.f6 false) l6_5 (encO 44 l6_5 [0] (fun q => some (E6 q)) o)) :=
  fun o h => loop_S (l := l6_5) (step := fun x => L6_5 N x.1 x.2.1 x.2.2.1 x.2.2.2.1 x.2.2.2.2) (fun x o h => wpc_sound (tbl := []) (μ := [9]) mixed _ _ _ (by
    have h1 := Vt.sound _ h
    refine Eq.mp ?_ h1
    kernel_rfl)) N x o h
noncomputable def V6 (N : Nat) (a0 : (List (Int × ((List Bs) × Int)))) : Vt Bool (Option D) (fun q => some (E6 q)) :=
  .c2 (P13o N a0) (fun x1 x2 => .br (!x2) (.c1 (P10 N) (fun x3 => .leaf x3)) (.br (decide ((60 : Int) < (a0.length : Int))) (.c1 (P10 N) (fun x4 => .leaf x4)) (.f1 (l := l6_5) (o := W6_5 N (a0, x1, a0, (a0.length : Int), 0)) (WS6_5 N (a0, x1, a0, (a0.length : Int), 0)) (fun x5 => .c1 (P16 N x5.1) (fun x6 => .c1 (P17 N x5.2.1) (fun x7 => .br (x6 == x7) (.c1 (P10 N) (fun x8 => .leaf x8)) (.leaf false)))))))
noncomputable def F6 (N : Nat) (a0 : (List (Int × ((List Bs) × Int)))) : Option Bool := (V6 N a0).eval
def t6 : List (Nat × List Nat × List (Nat × Sh)) := [(5, [0], l6_5)]
theorem P6 (N : Nat) (a0 : (List (Int × ((List Bs) × Int)))) : ∀ r, F6 N a0 = some r → Spec Tryd.prog 6 [.val (.list (.pair tI (.pair (.list tS) tI))) a0] (E6 r) := fun r h => Spec_of (fn := Tryd.f6) rfl rfl rfl rfl false (wpc_sound (tbl := t6) (μ := [9]) mixed _ _ _ (by
  have h1 := Vt.sound _ h
  refine Eq.mp ?_ h1
  kernel_rfl))

/-! ferryslip/ferrysliplaw08.DiffOnce -/
def E7 : Bool → D := fun x => encV tB x
abbrev l7_10 : List (Nat × Sh) := [(0, .val (.list tLn)), (1, .val (.list tLn)), (5, .val (.list (.pair tI (.pair (.list tS) tI)))), (7, .val tI), (8, .cel false 8 41 (.pair tI (.pair (.list tS) tI))), (44, .val (.list (.pair tI (.pair (.list tS) tI)))), (45, .val tI), (46, .val tI), (51, .val (.list (.pair tI (.pair (.list tS) tI)))), (52, .val tI), (53, .val tI)]
noncomputable def b7_10 : Code := loopBody 10 (bodyOf Tryd.f7)
noncomputable def U7_10 (N : Nat) (s0 : (List Ln)) (s1 : (List Ln)) (s5 : (List (Int × ((List Bs) × Int)))) (s7 : Int) (s8 : (Int × ((List Bs) × Int))) (s44 : (List (Int × ((List Bs) × Int)))) (s45 : Int) (s46 : Int) (s51 : (List (Int × ((List Bs) × Int)))) (s52 : Int) (s53 : Int) : Vt (Lp (shTy l7_10).I Bool) (O3 (Option D)) (encO 104 l7_10 [2] (fun q => some (E7 q))) :=
  .br (decide (s53 < s52)) (.ck (inR s53 s51.length) (.br (s7 == s53) (.leaf (.next (s0, s1, s5, s7, s8, s44, s45, s46, s51, s52, (IntKind.i64.wrap (s53 + 1))))) (.c1 (P20 N s8.2.1 ((atI (.pair tI (.pair (.list tS) tI)) s51 s53).2.1)) (fun x1 => .br x1 (.leaf (.ret false)) (.br (s8.1 == 1) (.br (decide ((s8.2.1.length : Int) < (((atI (.pair tI (.pair (.list tS) tI)) s51 s53).2.1).length : Int))) (.ck ((0 : Int) ≤ 0 ∧ (0 : Int) ≤ (s8.2.1.length : Int) ∧ (s8.2.1.length : Int) ≤ (((atI (.pair tI (.pair (.list tS) tI)) s51 s53).2.1).length : Int)) (.c1 (P20 N (slc ((atI (.pair tI (.pair (.list tS) tI)) s51 s53).2.1) 0 (s8.2.1.length : Int)) s8.2.1) (fun x2 => .br x2 (.leaf (.ret false)) (.leaf (.next (s0, s1, s5, s7, s8, s44, s45, s46, s51, s52, (IntKind.i64.wrap (s53 + 1)))))))) (.leaf (.next (s0, s1, s5, s7, s8, s44, s45, s46, s51, s52, (IntKind.i64.wrap (s53 + 1)))))) (.leaf (.next (s0, s1, s5, s7, s8, s44, s45, s46, s51, s52, (IntKind.i64.wrap (s53 + 1)))))))))) (.leaf (.brk 0 (s0, s1, s5, s7, s8, s44, s45, s46, s51, s52, s53)))
noncomputable def L7_10 (N : Nat) (s0 : (List Ln)) (s1 : (List Ln)) (s5 : (List (Int × ((List Bs) × Int)))) (s7 : Int) (s8 : (Int × ((List Bs) × Int))) (s44 : (List (Int × ((List Bs) × Int)))) (s45 : Int) (s46 : Int) (s51 : (List (Int × ((List Bs) × Int)))) (s52 : Int) (s53 : Int) : Option (Lp ((List Ln) × (List Ln) × (List (Int × ((List Bs) × Int))) × Int × (Int × ((List Bs) × Int)) × (List (Int × ((List Bs) × Int))) × Int × Int × (List (Int × ((List Bs) × Int))) × Int × Int) Bool) := (U7_10 N s0 s1 s5 s7 s8 s44 s45 s46 s51 s52 s53).eval
noncomputable def W7_10 (N : Nat) (x : ((List Ln) × (List Ln) × (List (Int × ((List Bs) × Int))) × Int × (Int × ((List Bs) × Int)) × (List (Int × ((List Bs) × Int))) × Int × Int × (List (Int × ((List Bs) × Int))) × Int × Int)) : Option (Lp ((List Ln) × (List Ln) × (List (Int × ((List Bs) × Int))) × Int × (Int × ((List Bs) × Int)) × (List (Int × ((List Bs) × Int))) × Int × Int × (List (Int × ((List Bs) × Int))) × Int × Int) Bool) := runLoop (fun x => L7_10 N x.1 x.2.1 x.2.2.1 x.2.2.2.1 x.2.2.2.2.1 x.2.2.2.2.2.1 x.2.2.2.2.2.2.1 x.2.2.2.2.2.2.2.1 x.2.2.2.2.2.2.2.2.1 x.2.2.2.2.2.2.2.2.2.1 x.2.2.2.2.2.2.2.2.2.2) N x
theorem WS7_10 (N : Nat) (x : (shTy l7_10).I) : ∀ o, W7_10 N x = some o → S Tryd.prog (.loop b7_10) (buildSt 104 l7_10 x) (stepZ (rdD Tryd.prog Tryd.f7 false) l7_10 (encO 104 l7_10 [2] (fun q => some (E7 q)) o)) :=
  fun o h => loop_S (l := l7_10) (step := fun x => L7_10 N x.1 x.2.1 x.2.2.1 x.2.2.2.1 x.2.2.2.2.1 x.2.2.2.2.2.1 x.2.2.2.2.2.2.1 x.2.2.2.2.2.2.2.1 x.2.2.2.2.2.2.2.2.1 x.2.2.2.2.2.2.2.2.2.1 x.2.2.2.2.2.2.2.2.2.2) (fun x o h => wpc_sound (tbl := []) (μ := [33]) mixed _ _ _ (by
    have h1 := Vt.sound _ h
    refine Eq.mp ?_ h1
    kernel_rfl)) N x o h
abbrev l7_7 : List (Nat × Sh) := [(0, .val (.list tLn)), (1, .val (.list tLn)), (5, .val (.list (.pair tI (.pair (.list tS) tI)))), (44, .val (.list (.pair tI (.pair (.list tS) tI)))), (45, .val tI), (46, .val tI)]
noncomputable def b7_7 : Code := loopBody 7 (bodyOf Tryd.f7)
noncomputable def U7_7 (N : Nat) (s0 : (List Ln)) (s1 : (List Ln)) (s5 : (List (Int × ((List Bs) × Int)))) (s44 : (List (Int × ((List Bs) × Int)))) (s45 : Int) (s46 : Int) : Vt (Lp (shTy l7_7).I Bool) (O3 (Option D)) (encO 104 l7_7 [0] (fun q => some (E7 q))) :=
  .br (decide (s46 < s45)) (.ck (inR s46 s44.length) (.g1 (l := l7_10) (o := W7_10 N (s0, s1, s5, s46, (atI (.pair tI (.pair (.list tS) tI)) s44 s46), s44, s45, s46, s5, (s5.length : Int), 0)) (WS7_10 N (s0, s1, s5, s46, (atI (.pair tI (.pair (.list tS) tI)) s44 s46), s44, s45, s46, s5, (s5.length : Int), 0)) (fun x1 => .leaf (.next (x1.1, x1.2.1, x1.2.2.1, x1.2.2.2.2.2.1, x1.2.2.2.2.2.2.1, (IntKind.i64.wrap (x1.2.2.2.2.2.2.2.1 + 1))))))) (.leaf (.brk 0 (s0, s1, s5, s44, s45, s46)))
noncomputable def L7_7 (N : Nat) (s0 : (List Ln)) (s1 : (List Ln)) (s5 : (List (Int × ((List Bs) × Int)))) (s44 : (List (Int × ((List Bs) × Int)))) (s45 : Int) (s46 : Int) : Option (Lp ((List Ln) × (List Ln) × (List (Int × ((List Bs) × Int))) × (List (Int × ((List Bs) × Int))) × Int × Int) Bool) := (U7_7 N s0 s1 s5 s44 s45 s46).eval
noncomputable def W7_7 (N : Nat) (x : ((List Ln) × (List Ln) × (List (Int × ((List Bs) × Int))) × (List (Int × ((List Bs) × Int))) × Int × Int)) : Option (Lp ((List Ln) × (List Ln) × (List (Int × ((List Bs) × Int))) × (List (Int × ((List Bs) × Int))) × Int × Int) Bool) := runLoop (fun x => L7_7 N x.1 x.2.1 x.2.2.1 x.2.2.2.1 x.2.2.2.2.1 x.2.2.2.2.2) N x
theorem WS7_7 (N : Nat) (x : (shTy l7_7).I) : ∀ o, W7_7 N x = some o → S Tryd.prog (.loop b7_7) (buildSt 104 l7_7 x) (stepZ (rdD Tryd.prog Tryd.f7 false) l7_7 (encO 104 l7_7 [0] (fun q => some (E7 q)) o)) :=
  fun o h => loop_S (l := l7_7) (step := fun x => L7_7 N x.1 x.2.1 x.2.2.1 x.2.2.2.1 x.2.2.2.2.1 x.2.2.2.2.2) (fun x o h => wpc_sound (tbl := [(10, [2], l7_10)]) (μ := [33]) mixed _ _ _ (by
    have h1 := Vt.sound _ h
    refine Eq.mp ?_ h1
    kernel_rfl)) N x o h
noncomputable def V7 (N : Nat) (a0 : (List Ln)) (a1 : (List Ln)) : Vt Bool (Option D) (fun q => some (E7 q)) :=
  .c1 (P9 N a0) (fun x1 => .br (!x1) (.c1 (P10 N) (fun x2 => .leaf x2)) (.c1 (P9 N a1) (fun x3 => .br (!x3) (.c1 (P10 N) (fun x4 => .leaf x4)) (.br (decide ((60 : Int) < (a0.length : Int))) (.c1 (P10 N) (fun x5 => .leaf x5)) (.br (decide ((60 : Int) < (a1.length : Int))) (.c1 (P10 N) (fun x6 => .leaf x6)) (.c2 (P11o N a0 a1) (fun x7 x8 => .br (x8 != 0) (.br ((x7.length : Int) == 0) (.c1 (P10 N) (fun x9 => .leaf x9)) (.leaf false)) (.f1 (l := l7_7) (o := W7_7 N (a0, a1, x7, x7, (x7.length : Int), 0)) (WS7_7 N (a0, a1, x7, x7, (x7.length : Int), 0)) (fun x10 => .br (decide ((x10.2.2.1.length : Int) ≤ (IntKind.i64.wrap ((x10.1.length : Int) + (x10.2.1.length : Int))))) (.c1 (P10 N) (fun x11 => .leaf x11)) (.leaf false))))))))))
noncomputable def F7 (N : Nat) (a0 : (List Ln)) (a1 : (List Ln)) : Option Bool := (V7 N a0 a1).eval
def t7 : List (Nat × List Nat × List (Nat × Sh)) := [(10, [2], l7_10), (7, [0], l7_7)]
theorem P7 (N : Nat) (a0 : (List Ln)) (a1 : (List Ln)) : ∀ r, F7 N a0 a1 = some r → Spec Tryd.prog 7 [.val (.list tLn) a0, .val (.list tLn) a1] (E7 r) := fun r h => Spec_of (fn := Tryd.f7) rfl rfl rfl rfl false (wpc_sound (tbl := t7) (μ := [33]) mixed _ _ _ (by
  have h1 := Vt.sound _ h
  refine Eq.mp ?_ h1
  kernel_rfl))

/-! ferryslip/ferryslipref03.End -/
def E54 : Int → D := fun x => encV tI x
abbrev l54_2 : List (Nat × Sh) := [(0, .val (.list tLn)), (1, .val tI), (5, .val tI)]
noncomputable def b54_2 : Code := loopBody 2 (bodyOf Tryd.f54)
noncomputable def U54_2 (N : Nat) (s0 : (List Ln)) (s1 : Int) (s5 : Int) : Vt (Lp (shTy l54_2).I Int) (O3 (Option D)) (encO 28 l54_2 [0] (fun q => some (E54 q))) :=
  .br (decide (s5 < (s0.length : Int))) (.ck (inR s5 s0.length) (.ck (inR s1 s0.length) (.br (decide (((atI tLn s0 s5).1) ≤ ((atI tLn s0 s1).1))) (.leaf (.ret s5)) (.leaf (.next (s0, s1, (IntKind.i64.wrap (s5 + 1)))))))) (.leaf (.brk 0 (s0, s1, s5)))
noncomputable def L54_2 (N : Nat) (s0 : (List Ln)) (s1 : Int) (s5 : Int) : Option (Lp ((List Ln) × Int × Int) Int) := (U54_2 N s0 s1 s5).eval
noncomputable def W54_2 (N : Nat) (x : ((List Ln) × Int × Int)) : Option (Lp ((List Ln) × Int × Int) Int) := runLoop (fun x => L54_2 N x.1 x.2.1 x.2.2) N x
theorem WS54_2 (N : Nat) (x : (shTy l54_2).I) : ∀ o, W54_2 N x = some o → S Tryd.prog (.loop b54_2) (buildSt 28 l54_2 x) (stepZ (rdD Tryd.prog Tryd.f54 false) l54_2 (encO 28 l54_2 [0] (fun q => some (E54 q)) o)) :=
  fun o h => loop_S (l := l54_2) (step := fun x => L54_2 N x.1 x.2.1 x.2.2) (fun x o h => wpc_sound (tbl := []) (μ := []) mixed _ _ _ (by
    have h1 := Vt.sound _ h
    refine Eq.mp ?_ h1
    kernel_rfl)) N x o h
noncomputable def V54 (N : Nat) (a0 : (List Ln)) (a1 : Int) : Vt Int (Option D) (fun q => some (E54 q)) :=
  .f1 (l := l54_2) (o := W54_2 N (a0, a1, (IntKind.i64.wrap (a1 + 1)))) (WS54_2 N (a0, a1, (IntKind.i64.wrap (a1 + 1)))) (fun x1 => .leaf (x1.1.length : Int))
noncomputable def F54 (N : Nat) (a0 : (List Ln)) (a1 : Int) : Option Int := (V54 N a0 a1).eval
def t54 : List (Nat × List Nat × List (Nat × Sh)) := [(2, [0], l54_2)]
theorem P54 (N : Nat) (a0 : (List Ln)) (a1 : Int) : ∀ r, F54 N a0 a1 = some r → Spec Tryd.prog 54 [.val (.list tLn) a0, .val tI a1] (E54 r) := fun r h => Spec_of (fn := Tryd.f54) rfl rfl rfl rfl false (wpc_sound (tbl := t54) (μ := []) mixed _ _ _ (by
  have h1 := Vt.sound _ h
  refine Eq.mp ?_ h1
  kernel_rfl))

/-! ferryslip/ferryslipref03.Kids -/
def E55o : (List Int) → D := fun x => .own 3 tI x
abbrev l55o_3 : List (Nat × Sh) := [(0, .val (.list tLn)), (1, .val tI), (5, .row false 21 3 tI), (6, .val tI)]
noncomputable def b55o_3 : Code := loopBody 3 (bodyOf Tryd.f55)
noncomputable def U55o_3 (N : Nat) (s0 : (List Ln)) (s1 : Int) (s5 : (List Int)) (s6 : Int) : Vt (Lp (shTy l55o_3).I (List Int)) (O3 (Option D)) (encO 23 l55o_3 [0] (fun q => some (E55o q))) :=
  .br (decide (s6 < (s0.length : Int))) (.c1 (P44 N s0 s6) (fun x1 => .br (x1 == s1) (.ck (room (s5.length + ([s6] : (List Int)).length)) (.leaf (.next (s0, s1, (s5 ++ ([s6] : (List Int))), (IntKind.i64.wrap (s6 + 1)))))) (.leaf (.next (s0, s1, s5, (IntKind.i64.wrap (s6 + 1))))))) (.leaf (.brk 0 (s0, s1, s5, s6)))
noncomputable def L55o_3 (N : Nat) (s0 : (List Ln)) (s1 : Int) (s5 : (List Int)) (s6 : Int) : Option (Lp ((List Ln) × Int × (List Int) × Int) (List Int)) := (U55o_3 N s0 s1 s5 s6).eval
noncomputable def W55o_3 (N : Nat) (x : ((List Ln) × Int × (List Int) × Int)) : Option (Lp ((List Ln) × Int × (List Int) × Int) (List Int)) := runLoop (fun x => L55o_3 N x.1 x.2.1 x.2.2.1 x.2.2.2) N x
theorem WS55o_3 (N : Nat) (x : (shTy l55o_3).I) : ∀ o, W55o_3 N x = some o → S Tryd.prog (.loop b55o_3) (buildSt 23 l55o_3 x) (stepZ (rdD Tryd.prog Tryd.f55 true) l55o_3 (encO 23 l55o_3 [0] (fun q => some (E55o q)) o)) :=
  fun o h => loop_S (l := l55o_3) (step := fun x => L55o_3 N x.1 x.2.1 x.2.2.1 x.2.2.2) (fun x o h => wpc_sound (tbl := []) (μ := []) mixed _ _ _ (by
    have h1 := Vt.sound _ h
    refine Eq.mp ?_ h1
    kernel_rfl)) N x o h
noncomputable def V55o (N : Nat) (a0 : (List Ln)) (a1 : Int) : Vt (List Int) (Option D) (fun q => some (E55o q)) :=
  .f1 (l := l55o_3) (o := W55o_3 N (a0, a1, ([] : (List Int)), 0)) (WS55o_3 N (a0, a1, ([] : (List Int)), 0)) (fun x2 => .leaf x2.2.2.1)
noncomputable def F55o (N : Nat) (a0 : (List Ln)) (a1 : Int) : Option (List Int) := (V55o N a0 a1).eval
def t55o : List (Nat × List Nat × List (Nat × Sh)) := [(3, [0], l55o_3)]
theorem P55o (N : Nat) (a0 : (List Ln)) (a1 : Int) : ∀ r, F55o N a0 a1 = some r → Spec Tryd.prog 55 [.val (.list tLn) a0, .val tI a1] (E55o r) := fun r h => Spec_of (fn := Tryd.f55) rfl rfl rfl rfl true (wpc_sound (tbl := t55o) (μ := []) mixed _ _ _ (by
  have h1 := Vt.sound _ h
  refine Eq.mp ?_ h1
  kernel_rfl))

/-! ferryslip/ferryslipref05.Put -/
def E38o : (List Ln) → D := fun x => .own 49 tLn x
abbrev l38o_8 : List (Nat × Sh) := [(0, .val (.list tLn)), (1, .val (.list tS)), (2, .val tS), (3, .val tI), (10, .val tI), (11, .row false 27 3 tI), (12, .val tI)]
noncomputable def b38o_8 : Code := loopBody 8 (bodyOf Tryd.f38)
noncomputable def U38o_8 (N : Nat) (s0 : (List Ln)) (s1 : (List Bs)) (s2 : Bs) (s3 : Int) (s10 : Int) (s11 : (List Int)) (s12 : Int) : Vt (Lp (shTy l38o_8).I (List Ln)) (O3 (Option D)) (encO 67 l38o_8 [0] (fun q => some (E38o q))) :=
  .br (decide ((0 : Int) ≤ s12)) (.ck (inR s12 s11.length) (.ck (inR s12 s11.length) (.ck (inR (atI tI s11 s12) s0.length) (.br (!((Op.bytesLess ((atI tLn s0 (atI tI s11 s12)).2.1) s2) || (((atI tLn s0 (atI tI s11 s12)).2.1) == s2))) (.ck (inR s12 s11.length) (.ck (inR s12 s11.length) (.leaf (.next (s0, s1, s2, s3, (atI tI s11 s12), s11, (IntKind.i64.wrap (s12 - 1))))))) (.leaf (.next (s0, s1, s2, s3, s10, s11, (IntKind.i64.wrap (s12 - 1))))))))) (.leaf (.brk 0 (s0, s1, s2, s3, s10, s11, s12)))
noncomputable def L38o_8 (N : Nat) (s0 : (List Ln)) (s1 : (List Bs)) (s2 : Bs) (s3 : Int) (s10 : Int) (s11 : (List Int)) (s12 : Int) : Option (Lp ((List Ln) × (List Bs) × Bs × Int × Int × (List Int) × Int) (List Ln)) := (U38o_8 N s0 s1 s2 s3 s10 s11 s12).eval
noncomputable def W38o_8 (N : Nat) (x : ((List Ln) × (List Bs) × Bs × Int × Int × (List Int) × Int)) : Option (Lp ((List Ln) × (List Bs) × Bs × Int × Int × (List Int) × Int) (List Ln)) := runLoop (fun x => L38o_8 N x.1 x.2.1 x.2.2.1 x.2.2.2.1 x.2.2.2.2.1 x.2.2.2.2.2.1 x.2.2.2.2.2.2) N x
theorem WS38o_8 (N : Nat) (x : (shTy l38o_8).I) : ∀ o, W38o_8 N x = some o → S Tryd.prog (.loop b38o_8) (buildSt 67 l38o_8 x) (stepZ (rdD Tryd.prog Tryd.f38 true) l38o_8 (encO 67 l38o_8 [0] (fun q => some (E38o q)) o)) :=
  fun o h => loop_S (l := l38o_8) (step := fun x => L38o_8 N x.1 x.2.1 x.2.2.1 x.2.2.2.1 x.2.2.2.2.1 x.2.2.2.2.2.1 x.2.2.2.2.2.2) (fun x o h => wpc_sound (tbl := []) (μ := [27]) mixed _ _ _ (by
    have h1 := Vt.sound _ h
    refine Eq.mp ?_ h1
    kernel_rfl)) N x o h
noncomputable def V38o (N : Nat) (a0 : (List Ln)) (a1 : (List Bs)) (a2 : Bs) (a3 : Int) : Vt (List Ln) (Option D) (fun q => some (E38o q)) :=
  .br (decide ((0 : Int) < (a1.length : Int))) (.c1 (P28 N a0 a1) (fun x1 => .c1 (P54 N a0 x1) (fun x2 => .c1 (P55o N a0 x1) (fun x3 => .f1 (l := l38o_8) (o := W38o_8 N (a0, a1, a2, a3, x2, x3, (IntKind.i64.wrap ((x3.length : Int) - 1)))) (WS38o_8 N (a0, a1, a2, a3, x2, x3, (IntKind.i64.wrap ((x3.length : Int) - 1)))) (fun x4 => .ck ((0 : Int) ≤ 0 ∧ (0 : Int) ≤ x4.2.2.2.2.1 ∧ x4.2.2.2.2.1 ≤ (x4.1.length : Int)) (.ck (room (slc x4.1 0 x4.2.2.2.2.1).length) (.ck (room ((slc x4.1 0 x4.2.2.2.2.1).length + ([((x4.2.1.length : Int), x4.2.2.1, x4.2.2.2.1)] : (List Ln)).length)) (.ck ((0 : Int) ≤ x4.2.2.2.2.1 ∧ x4.2.2.2.2.1 ≤ (x4.1.length : Int) ∧ (x4.1.length : Int) ≤ (x4.1.length : Int)) (.ck (room (((slc x4.1 0 x4.2.2.2.2.1) ++ ([((x4.2.1.length : Int), x4.2.2.1, x4.2.2.2.1)] : (List Ln))).length + (slc x4.1 x4.2.2.2.2.1 (x4.1.length : Int)).length)) (.leaf (((slc x4.1 0 x4.2.2.2.2.1) ++ ([((x4.2.1.length : Int), x4.2.2.1, x4.2.2.2.1)] : (List Ln))) ++ (slc x4.1 x4.2.2.2.2.1 (x4.1.length : Int))))))))))))) (.c1 (P55o N a0 (-1)) (fun x5 => .f1 (l := l38o_8) (o := W38o_8 N (a0, a1, a2, a3, (a0.length : Int), x5, (IntKind.i64.wrap ((x5.length : Int) - 1)))) (WS38o_8 N (a0, a1, a2, a3, (a0.length : Int), x5, (IntKind.i64.wrap ((x5.length : Int) - 1)))) (fun x6 => .ck ((0 : Int) ≤ 0 ∧ (0 : Int) ≤ x6.2.2.2.2.1 ∧ x6.2.2.2.2.1 ≤ (x6.1.length : Int)) (.ck (room (slc x6.1 0 x6.2.2.2.2.1).length) (.ck (room ((slc x6.1 0 x6.2.2.2.2.1).length + ([((x6.2.1.length : Int), x6.2.2.1, x6.2.2.2.1)] : (List Ln)).length)) (.ck ((0 : Int) ≤ x6.2.2.2.2.1 ∧ x6.2.2.2.2.1 ≤ (x6.1.length : Int) ∧ (x6.1.length : Int) ≤ (x6.1.length : Int)) (.ck (room (((slc x6.1 0 x6.2.2.2.2.1) ++ ([((x6.2.1.length : Int), x6.2.2.1, x6.2.2.2.1)] : (List Ln))).length + (slc x6.1 x6.2.2.2.2.1 (x6.1.length : Int)).length)) (.leaf (((slc x6.1 0 x6.2.2.2.2.1) ++ ([((x6.2.1.length : Int), x6.2.2.1, x6.2.2.2.1)] : (List Ln))) ++ (slc x6.1 x6.2.2.2.2.1 (x6.1.length : Int)))))))))))
noncomputable def F38o (N : Nat) (a0 : (List Ln)) (a1 : (List Bs)) (a2 : Bs) (a3 : Int) : Option (List Ln) := (V38o N a0 a1 a2 a3).eval
def t38o : List (Nat × List Nat × List (Nat × Sh)) := [(8, [0], l38o_8)]
theorem P38o (N : Nat) (a0 : (List Ln)) (a1 : (List Bs)) (a2 : Bs) (a3 : Int) : ∀ r, F38o N a0 a1 a2 a3 = some r → Spec Tryd.prog 38 [.val (.list tLn) a0, .val (.list tS) a1, .val tS a2, .val tI a3] (E38o r) := fun r h => Spec_of (fn := Tryd.f38) rfl rfl rfl rfl true (wpc_sound (tbl := t38o) (μ := [27]) mixed _ _ _ (by
  have h1 := Vt.sound _ h
  refine Eq.mp ?_ h1
  kernel_rfl))

/-! ferryslip/ferryslipref06.Add -/
def E22 : ((List Ln) × Int) → D := fun x => .tup [encV (.list tLn) x.1, encV tI x.2]
abbrev l22_4 : List (Nat × Sh) := [(0, .val (.list tLn)), (1, .val (.list tS)), (6, .val tI)]
noncomputable def b22_4 : Code := loopBody 4 (bodyOf Tryd.f22)
noncomputable def U22_4 (N : Nat) (s0 : (List Ln)) (s1 : (List Bs)) (s6 : Int) : Vt (Lp (shTy l22_4).I ((List Ln) × Int)) (O3 (Option D)) (encO 64 l22_4 [0] (fun q => some (E22 q))) :=
  .br (decide (s6 < (s1.length : Int))) (.ck (inR s6 s1.length) (.br (decide ((40 : Int) < ((atI tS s1 s6).length : Int))) (.leaf (.ret (s0, 1))) (.leaf (.next (s0, s1, (IntKind.i64.wrap (s6 + 1))))))) (.leaf (.brk 0 (s0, s1, s6)))
noncomputable def L22_4 (N : Nat) (s0 : (List Ln)) (s1 : (List Bs)) (s6 : Int) : Option (Lp ((List Ln) × (List Bs) × Int) ((List Ln) × Int)) := (U22_4 N s0 s1 s6).eval
noncomputable def W22_4 (N : Nat) (x : ((List Ln) × (List Bs) × Int)) : Option (Lp ((List Ln) × (List Bs) × Int) ((List Ln) × Int)) := runLoop (fun x => L22_4 N x.1 x.2.1 x.2.2) N x
theorem WS22_4 (N : Nat) (x : (shTy l22_4).I) : ∀ o, W22_4 N x = some o → S Tryd.prog (.loop b22_4) (buildSt 64 l22_4 x) (stepZ (rdD Tryd.prog Tryd.f22 false) l22_4 (encO 64 l22_4 [0] (fun q => some (E22 q)) o)) :=
  fun o h => loop_S (l := l22_4) (step := fun x => L22_4 N x.1 x.2.1 x.2.2) (fun x o h => wpc_sound (tbl := []) (μ := []) mixed _ _ _ (by
    have h1 := Vt.sound _ h
    refine Eq.mp ?_ h1
    kernel_rfl)) N x o h
abbrev l22_12 : List (Nat × Sh) := [(0, .val (.list tLn)), (1, .val (.list tS)), (7, .val (.list tLn)), (8, .val tI)]
noncomputable def b22_12 : Code := loopBody 12 (bodyOf Tryd.f22)
noncomputable def U22_12 (N : Nat) (s0 : (List Ln)) (s1 : (List Bs)) (s7 : (List Ln)) (s8 : Int) : Vt (Lp (shTy l22_12).I ((List Ln) × Int)) (O3 (Option D)) (encO 64 l22_12 [2] (fun q => some (E22 q))) :=
  .br (decide (s8 ≤ (s1.length : Int))) (.ck ((0 : Int) ≤ 0 ∧ (0 : Int) ≤ s8 ∧ s8 ≤ (s1.length : Int)) (.c1 (P28 N s7 (slc s1 0 s8)) (fun x1 => .br (decide (x1 < 0)) (.ck ((0 : Int) ≤ 0 ∧ (0 : Int) ≤ (IntKind.i64.wrap (s8 - 1)) ∧ (IntKind.i64.wrap (s8 - 1)) ≤ (s1.length : Int)) (.ck (inR (IntKind.i64.wrap (s8 - 1)) s1.length) (.c1 (P38o N s7 (slc s1 0 (IntKind.i64.wrap (s8 - 1))) (atI tS s1 (IntKind.i64.wrap (s8 - 1))) 0) (fun x2 => .leaf (.next (s0, s1, x2, (IntKind.i64.wrap (s8 + 1)))))))) (.leaf (.next (s0, s1, s7, (IntKind.i64.wrap (s8 + 1)))))))) (.leaf (.brk 0 (s0, s1, s7, s8)))
noncomputable def L22_12 (N : Nat) (s0 : (List Ln)) (s1 : (List Bs)) (s7 : (List Ln)) (s8 : Int) : Option (Lp ((List Ln) × (List Bs) × (List Ln) × Int) ((List Ln) × Int)) := (U22_12 N s0 s1 s7 s8).eval
noncomputable def W22_12 (N : Nat) (x : ((List Ln) × (List Bs) × (List Ln) × Int)) : Option (Lp ((List Ln) × (List Bs) × (List Ln) × Int) ((List Ln) × Int)) := runLoop (fun x => L22_12 N x.1 x.2.1 x.2.2.1 x.2.2.2) N x
theorem WS22_12 (N : Nat) (x : (shTy l22_12).I) : ∀ o, W22_12 N x = some o → S Tryd.prog (.loop b22_12) (buildSt 64 l22_12 x) (stepZ (rdD Tryd.prog Tryd.f22 false) l22_12 (encO 64 l22_12 [2] (fun q => some (E22 q)) o)) :=
  fun o h => loop_S (l := l22_12) (step := fun x => L22_12 N x.1 x.2.1 x.2.2.1 x.2.2.2) (fun x o h => wpc_sound (tbl := [(4, [0], l22_4)]) (μ := [58]) mixed _ _ _ (by
    have h1 := Vt.sound _ h
    refine Eq.mp ?_ h1
    kernel_rfl)) N x o h
noncomputable def V22 (N : Nat) (a0 : (List Ln)) (a1 : (List Bs)) : Vt ((List Ln) × Int) (Option D) (fun q => some (E22 q)) :=
  .c1 (P12 N a0) (fun x1 => .br (!x1) (.leaf (a0, 1)) (.br ((a1.length : Int) == 0) (.leaf (a0, 1)) (.f1 (l := l22_4) (o := W22_4 N (a0, a1, 0)) (WS22_4 N (a0, a1, 0)) (fun x2 => .br (decide ((16 : Int) < (x2.2.1.length : Int))) (.leaf (x2.1, 6)) (.f1 (l := l22_12) (o := W22_12 N (x2.1, x2.2.1, x2.1, 1)) (WS22_12 N (x2.1, x2.2.1, x2.1, 1)) (fun x3 => .br (decide ((200 : Int) < (x3.2.2.1.length : Int))) (.leaf (x3.1, 5)) (.leaf (x3.2.2.1, 0))))))))
noncomputable def F22 (N : Nat) (a0 : (List Ln)) (a1 : (List Bs)) : Option ((List Ln) × Int) := (V22 N a0 a1).eval
def t22 : List (Nat × List Nat × List (Nat × Sh)) := [(4, [0], l22_4), (12, [2], l22_12)]
theorem P22 (N : Nat) (a0 : (List Ln)) (a1 : (List Bs)) : ∀ r, F22 N a0 a1 = some r → Spec Tryd.prog 22 [.val (.list tLn) a0, .val (.list tS) a1] (E22 r) := fun r h => Spec_of (fn := Tryd.f22) rfl rfl rfl rfl false (wpc_sound (tbl := t22) (μ := [58]) mixed _ _ _ (by
  have h1 := Vt.sound _ h
  refine Eq.mp ?_ h1
  kernel_rfl))

/-! ferryslip/ferrysliplaw08.DiffStep -/
def E8 : Bool → D := fun x => encV tB x
abbrev l8_8 : List (Nat × Sh) := [(0, .val (.list tLn)), (1, .val (.list tS)), (5, .val (.list tLn)), (7, .val (.list (.pair tI (.pair (.list tS) tI)))), (8, .val tI), (45, .val (.list (.pair tI (.pair (.list tS) tI)))), (46, .val tI), (47, .val tI)]
noncomputable def b8_8 : Code := loopBody 8 (bodyOf Tryd.f8)
noncomputable def U8_8 (N : Nat) (s0 : (List Ln)) (s1 : (List Bs)) (s5 : (List Ln)) (s7 : (List (Int × ((List Bs) × Int)))) (s8 : Int) (s45 : (List (Int × ((List Bs) × Int)))) (s46 : Int) (s47 : Int) : Vt (Lp (shTy l8_8).I Bool) (O3 (Option D)) (encO 92 l8_8 [0] (fun q => some (E8 q))) :=
  .br (decide (s47 < s46)) (.ck (inR s47 s45.length) (.br (((atI (.pair tI (.pair (.list tS) tI)) s45 s47).1) != 2) (.leaf (.ret false)) (.br (((atI (.pair tI (.pair (.list tS) tI)) s45 s47).2.2) != 0) (.leaf (.ret false)) (.ck ((0 : Int) ≤ 0 ∧ (0 : Int) ≤ (IntKind.i64.wrap ((IntKind.i64.wrap ((IntKind.i64.wrap ((s1.length : Int) - (s7.length : Int))) + 1)) + s47)) ∧ (IntKind.i64.wrap ((IntKind.i64.wrap ((IntKind.i64.wrap ((s1.length : Int) - (s7.length : Int))) + 1)) + s47)) ≤ (s1.length : Int)) (.c1 (P20 N ((atI (.pair tI (.pair (.list tS) tI)) s45 s47).2.1) (slc s1 0 (IntKind.i64.wrap ((IntKind.i64.wrap ((IntKind.i64.wrap ((s1.length : Int) - (s7.length : Int))) + 1)) + s47)))) (fun x1 => .br (!x1) (.leaf (.ret false)) (.leaf (.next (s0, s1, s5, s7, s8, s45, s46, (IntKind.i64.wrap (s47 + 1))))))))))) (.leaf (.brk 0 (s0, s1, s5, s7, s8, s45, s46, s47)))
noncomputable def L8_8 (N : Nat) (s0 : (List Ln)) (s1 : (List Bs)) (s5 : (List Ln)) (s7 : (List (Int × ((List Bs) × Int)))) (s8 : Int) (s45 : (List (Int × ((List Bs) × Int)))) (s46 : Int) (s47 : Int) : Option (Lp ((List Ln) × (List Bs) × (List Ln) × (List (Int × ((List Bs) × Int))) × Int × (List (Int × ((List Bs) × Int))) × Int × Int) Bool) := (U8_8 N s0 s1 s5 s7 s8 s45 s46 s47).eval
noncomputable def W8_8 (N : Nat) (x : ((List Ln) × (List Bs) × (List Ln) × (List (Int × ((List Bs) × Int))) × Int × (List (Int × ((List Bs) × Int))) × Int × Int)) : Option (Lp ((List Ln) × (List Bs) × (List Ln) × (List (Int × ((List Bs) × Int))) × Int × (List (Int × ((List Bs) × Int))) × Int × Int) Bool) := runLoop (fun x => L8_8 N x.1 x.2.1 x.2.2.1 x.2.2.2.1 x.2.2.2.2.1 x.2.2.2.2.2.1 x.2.2.2.2.2.2.1 x.2.2.2.2.2.2.2) N x
theorem WS8_8 (N : Nat) (x : (shTy l8_8).I) : ∀ o, W8_8 N x = some o → S Tryd.prog (.loop b8_8) (buildSt 92 l8_8 x) (stepZ (rdD Tryd.prog Tryd.f8 false) l8_8 (encO 92 l8_8 [0] (fun q => some (E8 q)) o)) :=
  fun o h => loop_S (l := l8_8) (step := fun x => L8_8 N x.1 x.2.1 x.2.2.1 x.2.2.2.1 x.2.2.2.2.1 x.2.2.2.2.2.1 x.2.2.2.2.2.2.1 x.2.2.2.2.2.2.2) (fun x o h => wpc_sound (tbl := []) (μ := [34]) mixed _ _ _ (by
    have h1 := Vt.sound _ h
    refine Eq.mp ?_ h1
    kernel_rfl)) N x o h
noncomputable def V8 (N : Nat) (a0 : (List Ln)) (a1 : (List Bs)) : Vt Bool (Option D) (fun q => some (E8 q)) :=
  .c1 (P9 N a0) (fun x1 => .br (!x1) (.c1 (P10 N) (fun x2 => .leaf x2)) (.br (decide ((60 : Int) < (a0.length : Int))) (.c1 (P10 N) (fun x3 => .leaf x3)) (.c1 (P21 N a1) (fun x4 => .br (!x4) (.c1 (P10 N) (fun x5 => .leaf x5)) (.c2 (P22 N a0 a1) (fun x6 x7 => .c2 (P11o N a0 x6) (fun x8 x9 => .br (x7 != 0) (.br ((x8.length : Int) == 0) (.c1 (P10 N) (fun x10 => .leaf x10)) (.leaf false)) (.f1 (l := l8_8) (o := W8_8 N (a0, a1, x6, x8, x9, x8, (x8.length : Int), 0)) (WS8_8 N (a0, a1, x6, x8, x9, x8, (x8.length : Int), 0)) (fun x11 => .br (x11.2.2.2.2.1 == 0) (.br ((x11.2.2.2.1.length : Int) == (IntKind.i64.wrap ((x11.2.2.1.length : Int) - (x11.1.length : Int)))) (.c1 (P10 N) (fun x12 => .leaf x12)) (.leaf false)) (.leaf false))))))))))
noncomputable def F8 (N : Nat) (a0 : (List Ln)) (a1 : (List Bs)) : Option Bool := (V8 N a0 a1).eval
def t8 : List (Nat × List Nat × List (Nat × Sh)) := [(8, [0], l8_8)]
theorem P8 (N : Nat) (a0 : (List Ln)) (a1 : (List Bs)) : ∀ r, F8 N a0 a1 = some r → Spec Tryd.prog 8 [.val (.list tLn) a0, .val (.list tS) a1] (E8 r) := fun r h => Spec_of (fn := Tryd.f8) rfl rfl rfl rfl false (wpc_sound (tbl := t8) (μ := [34]) mixed _ _ _ (by
  have h1 := Vt.sound _ h
  refine Eq.mp ?_ h1
  kernel_rfl))

end Go.Proofs.YtncgafojgdemdaaDoor.Vc
