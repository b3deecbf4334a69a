/-
  WHAT THE FUNCTIONS DO WITH DATA, printed by a program from the translation. No condition.
-/
import Derived.Test.YtkbciolghkcjoaaIn
import Derived.Test.YtkbciolghkcjoaaRv
import Derived.Test.YtkbciolghkcjoaaBc
import Derived.Test.YtkbciolghkcjoaaBj
set_option linter.unusedVariables false
set_option linter.unusedSimpArgs false
set_option maxRecDepth 100000
namespace Go.Proofs.Ytkbciolghkcjoaa.Vc
open Go.RowKit

/-! ferryslip/ferryslipref03.Small -/
def E10 : Bool → D := fun x => encV tB x
abbrev l10_4 : List (Nat × Sh) := [(0, .val (.list tLn)), (3, .val tI)]
noncomputable def b10_4 : Code := loopBody 4 (bodyOf Try.f10)
noncomputable def U10_4 (N : Nat) (s0 : (List Ln)) (s3 : Int) : Vt (Lp (shTy l10_4).I Bool) (O3 (Option D)) (encO 20 l10_4 [0] (fun q => some (E10 q))) :=
  .br (decide (s3 < (s0.length : Int))) (.ck (inR s3 s0.length) (.br (decide ((100 : Int) < (((atI tLn s0 s3).2.1).length : Int))) (.leaf (.ret false)) (.leaf (.next (s0, (IntKind.i64.wrap (s3 + 1))))))) (.leaf (.brk 0 (s0, s3)))
noncomputable def L10_4 (N : Nat) (s0 : (List Ln)) (s3 : Int) : Option (Lp ((List Ln) × Int) Bool) := (U10_4 N s0 s3).eval
noncomputable def W10_4 (N : Nat) (x : ((List Ln) × Int)) : Option (Lp ((List Ln) × Int) Bool) := runLoop (fun x => L10_4 N x.1 x.2) N x
theorem WS10_4 (N : Nat) (x : (shTy l10_4).I) : ∀ o, W10_4 N x = some o → S Try.prog (.loop b10_4) (buildSt 20 l10_4 x) (stepZ (rdD Try.prog Try.f10 false) l10_4 (encO 20 l10_4 [0] (fun q => some (E10 q)) o)) :=
  fun o h => loop_S (l := l10_4) (step := fun x => L10_4 N x.1 x.2) (fun x o h => wpc_sound (tbl := []) (μ := []) mixed _ _ _ (by
    have h1 := Vt.sound _ h
    refine Eq.mp ?_ h1
    kernel_rfl)) N x o h
noncomputable def V10 (N : Nat) (a0 : (List Ln)) : Vt Bool (Option D) (fun q => some (E10 q)) :=
  .br (decide ((220 : Int) < (a0.length : Int))) (.leaf false) (.f1 (l := l10_4) (o := W10_4 N (a0, 0)) (WS10_4 N (a0, 0)) (fun x1 => .leaf true))
noncomputable def F10 (N : Nat) (a0 : (List Ln)) : Option Bool := (V10 N a0).eval
def t10 : List (Nat × List Nat × List (Nat × Sh)) := [(4, [0], l10_4)]
theorem P10 (N : Nat) (a0 : (List Ln)) : ∀ r, F10 N a0 = some r → Spec Try.prog 10 [.val (.list tLn) a0] (E10 r) := fun r h => Spec_of (fn := Try.f10) rfl rfl rfl rfl false (wpc_sound (tbl := t10) (μ := []) mixed _ _ _ (by
  have h1 := Vt.sound _ h
  refine Eq.mp ?_ h1
  kernel_rfl))

/-! ferryslip/ferryslipref03.Short -/
def E11 : Bool → D := fun x => encV tB x
abbrev l11_4 : List (Nat × Sh) := [(0, .val (.list tS)), (3, .val tI)]
noncomputable def b11_4 : Code := loopBody 4 (bodyOf Try.f11)
noncomputable def U11_4 (N : Nat) (s0 : (List Bs)) (s3 : Int) : Vt (Lp (shTy l11_4).I Bool) (O3 (Option D)) (encO 19 l11_4 [0] (fun q => some (E11 q))) :=
  .br (decide (s3 < (s0.length : Int))) (.ck (inR s3 s0.length) (.br (decide ((100 : Int) < ((atI tS s0 s3).length : Int))) (.leaf (.ret false)) (.leaf (.next (s0, (IntKind.i64.wrap (s3 + 1))))))) (.leaf (.brk 0 (s0, s3)))
noncomputable def L11_4 (N : Nat) (s0 : (List Bs)) (s3 : Int) : Option (Lp ((List Bs) × Int) Bool) := (U11_4 N s0 s3).eval
noncomputable def W11_4 (N : Nat) (x : ((List Bs) × Int)) : Option (Lp ((List Bs) × Int) Bool) := runLoop (fun x => L11_4 N x.1 x.2) N x
theorem WS11_4 (N : Nat) (x : (shTy l11_4).I) : ∀ o, W11_4 N x = some o → S Try.prog (.loop b11_4) (buildSt 19 l11_4 x) (stepZ (rdD Try.prog Try.f11 false) l11_4 (encO 19 l11_4 [0] (fun q => some (E11 q)) o)) :=
  fun o h => loop_S (l := l11_4) (step := fun x => L11_4 N x.1 x.2) (fun x o h => wpc_sound (tbl := []) (μ := []) mixed _ _ _ (by
    have h1 := Vt.sound _ h
    refine Eq.mp ?_ h1
    kernel_rfl)) N x o h
noncomputable def V11 (N : Nat) (a0 : (List Bs)) : Vt Bool (Option D) (fun q => some (E11 q)) :=
  .br (decide ((40 : Int) < (a0.length : Int))) (.leaf false) (.f1 (l := l11_4) (o := W11_4 N (a0, 0)) (WS11_4 N (a0, 0)) (fun x1 => .leaf true))
noncomputable def F11 (N : Nat) (a0 : (List Bs)) : Option Bool := (V11 N a0).eval
def t11 : List (Nat × List Nat × List (Nat × Sh)) := [(4, [0], l11_4)]
theorem P11 (N : Nat) (a0 : (List Bs)) : ∀ r, F11 N a0 = some r → Spec Try.prog 11 [.val (.list tS) a0] (E11 r) := fun r h => Spec_of (fn := Try.f11) rfl rfl rfl rfl false (wpc_sound (tbl := t11) (μ := []) mixed _ _ _ (by
  have h1 := Vt.sound _ h
  refine Eq.mp ?_ h1
  kernel_rfl))

/-! ferryslip/tree.sound -/
def E39 : Bool → D := fun x => encV tB x
noncomputable def V39 (N : Nat) (a0 : Ln) : Vt Bool (Option D) (fun q => some (E39 q)) :=
  .br (decide ((0 : Int) ≤ a0.1)) (.br (decide (a0.1 < 16)) (.br (decide ((a0.2.1.length : Int) ≤ 40)) (.br (decide ((0 : Int) ≤ a0.2.2)) (.leaf (decide (a0.2.2 ≤ 3))) (.leaf false)) (.leaf false)) (.leaf false)) (.leaf false)
noncomputable def F39 (N : Nat) (a0 : Ln) : Option Bool := (V39 N a0).eval
def t39 : List (Nat × List Nat × List (Nat × Sh)) := []
theorem P39 (N : Nat) (a0 : Ln) : ∀ r, F39 N a0 = some r → Spec Try.prog 39 [.agg [.val tI a0.1, .val tS a0.2.1, .val tI a0.2.2]] (E39 r) := fun r h => Spec_of (fn := Try.f39) rfl rfl rfl rfl false (wpc_sound (tbl := t39) (μ := []) mixed _ _ _ (by
  have h1 := Vt.sound _ h
  refine Eq.mp ?_ h1
  kernel_rfl))

/-! ferryslip/tree.Right -/
def E21 : Bool → D := fun x => encV tB x
abbrev l21_6 : List (Nat × Sh) := [(3, .arr 3 tS), (4, .val tI), (10, .val (.list tLn)), (11, .val tI), (12, .val tI)]
noncomputable def b21_6 : Code := loopBody 6 (bodyOf Try.f21)
noncomputable def U21_6 (N : Nat) (s3 : (List Bs)) (s4 : Int) (s10 : (List Ln)) (s11 : Int) (s12 : Int) : Vt (Lp (shTy l21_6).I Bool) (O3 (Option D)) (encO 48 l21_6 [0] (fun q => some (E21 q))) :=
  .br (decide (s12 < s11)) (.ck (inR s12 s10.length) (.c1 (P39 N (atI tLn s10 s12)) (fun x1 => .br (!x1) (.leaf (.ret false)) (.br (decide ((IntKind.i64.wrap (s4 + 1)) < ((atI tLn s10 s12).1))) (.leaf (.ret false)) (.br (decide (((atI tLn s10 s12).1) ≤ s4)) (.ck (inR ((atI tLn s10 s12).1) 16) (.ck (s3.length = 16) (.ck (inR ((atI tLn s10 s12).1) s3.length) (.br ((Op.bytesLess ((atI tLn s10 s12).2.1) (atI tS s3 ((atI tLn s10 s12).1))) || (((atI tLn s10 s12).2.1) == (atI tS s3 ((atI tLn s10 s12).1)))) (.leaf (.ret false)) (.ck (inR ((atI tLn s10 s12).1) 16) (.ck (s3.length = 16) (.ck (inR ((atI tLn s10 s12).1) s3.length) (.leaf (.next ((s3.set ((atI tLn s10 s12).1).toNat ((atI tLn s10 s12).2.1)), (atI tLn s10 s12).1, s10, s11, (IntKind.i64.wrap (s12 + 1)))))))))))) (.ck (inR ((atI tLn s10 s12).1) 16) (.ck (s3.length = 16) (.ck (inR ((atI tLn s10 s12).1) s3.length) (.leaf (.next ((s3.set ((atI tLn s10 s12).1).toNat ((atI tLn s10 s12).2.1)), (atI tLn s10 s12).1, s10, s11, (IntKind.i64.wrap (s12 + 1))))))))))))) (.leaf (.brk 0 (s3, s4, s10, s11, s12)))
noncomputable def L21_6 (N : Nat) (s3 : (List Bs)) (s4 : Int) (s10 : (List Ln)) (s11 : Int) (s12 : Int) : Option (Lp ((List Bs) × Int × (List Ln) × Int × Int) Bool) := (U21_6 N s3 s4 s10 s11 s12).eval
noncomputable def W21_6 (N : Nat) (x : ((List Bs) × Int × (List Ln) × Int × Int)) : Option (Lp ((List Bs) × Int × (List Ln) × Int × Int) Bool) := runLoop (fun x => L21_6 N x.1 x.2.1 x.2.2.1 x.2.2.2.1 x.2.2.2.2) N x
theorem WS21_6 (N : Nat) (x : (shTy l21_6).I) : ∀ o, W21_6 N x = some o → S Try.prog (.loop b21_6) (buildSt 48 l21_6 x) (stepZ (rdD Try.prog Try.f21 false) l21_6 (encO 48 l21_6 [0] (fun q => some (E21 q)) o)) :=
  fun o h => loop_S (l := l21_6) (step := fun x => L21_6 N x.1 x.2.1 x.2.2.1 x.2.2.2.1 x.2.2.2.2) (fun x o h => wpc_sound (tbl := []) (μ := []) mixed _ _ _ (by
    have h1 := Vt.sound _ h
    refine Eq.mp ?_ h1
    kernel_rfl)) N x o h
noncomputable def V21 (N : Nat) (a0 : (List Ln)) : Vt Bool (Option D) (fun q => some (E21 q)) :=
  .br (decide ((200 : Int) < (a0.length : Int))) (.leaf false) (.f1 (l := l21_6) (o := W21_6 N (([([] : Bs), ([] : Bs), ([] : Bs), ([] : Bs), ([] : Bs), ([] : Bs), ([] : Bs), ([] : Bs), ([] : Bs), ([] : Bs), ([] : Bs), ([] : Bs), ([] : Bs), ([] : Bs), ([] : Bs), ([] : Bs)] : (List Bs)), (-1), a0, (a0.length : Int), 0)) (WS21_6 N (([([] : Bs), ([] : Bs), ([] : Bs), ([] : Bs), ([] : Bs), ([] : Bs), ([] : Bs), ([] : Bs), ([] : Bs), ([] : Bs), ([] : Bs), ([] : Bs), ([] : Bs), ([] : Bs), ([] : Bs), ([] : Bs)] : (List Bs)), (-1), a0, (a0.length : Int), 0)) (fun x1 => .leaf true))
noncomputable def F21 (N : Nat) (a0 : (List Ln)) : Option Bool := (V21 N a0).eval
def t21 : List (Nat × List Nat × List (Nat × Sh)) := [(6, [0], l21_6)]
theorem P21 (N : Nat) (a0 : (List Ln)) : ∀ r, F21 N a0 = some r → Spec Try.prog 21 [.val (.list tLn) a0] (E21 r) := fun r h => Spec_of (fn := Try.f21) rfl rfl rfl rfl false (wpc_sound (tbl := t21) (μ := []) mixed _ _ _ (by
  have h1 := Vt.sound _ h
  refine Eq.mp ?_ h1
  kernel_rfl))

/-! ferryslip/tree.Leaves -/
def E23o : (List Int) → D := fun x => .own 3 tI x
abbrev l23o_5 : List (Nat × Sh) := [(0, .val (.list tLn)), (3, .row false 35 3 tI), (9, .val tI), (10, .val tI)]
noncomputable def b23o_5 : Code := loopBody 5 (bodyOf Try.f23)
noncomputable def U23o_5 (N : Nat) (s0 : (List Ln)) (s3 : (List Int)) (s9 : Int) (s10 : Int) : Vt (Lp (shTy l23o_5).I (List Int)) (O3 (Option D)) (encO 38 l23o_5 [0] (fun q => some (E23o q))) :=
  .br (decide (s10 < s9)) (.br ((IntKind.i64.wrap (s10 + 1)) == (s0.length : Int)) (.ck (room (s3.length + ([s10] : (List Int)).length)) (.leaf (.next (s0, (s3 ++ ([s10] : (List Int))), s9, (IntKind.i64.wrap (s10 + 1)))))) (.ck (inR (IntKind.i64.wrap (s10 + 1)) s0.length) (.ck (inR s10 s0.length) (.br (decide (((atI tLn s0 (IntKind.i64.wrap (s10 + 1))).1) ≤ ((atI tLn s0 s10).1))) (.ck (room (s3.length + ([s10] : (List Int)).length)) (.leaf (.next (s0, (s3 ++ ([s10] : (List Int))), s9, (IntKind.i64.wrap (s10 + 1)))))) (.leaf (.next (s0, s3, s9, (IntKind.i64.wrap (s10 + 1))))))))) (.leaf (.brk 0 (s0, s3, s9, s10)))
noncomputable def L23o_5 (N : Nat) (s0 : (List Ln)) (s3 : (List Int)) (s9 : Int) (s10 : Int) : Option (Lp ((List Ln) × (List Int) × Int × Int) (List Int)) := (U23o_5 N s0 s3 s9 s10).eval
noncomputable def W23o_5 (N : Nat) (x : ((List Ln) × (List Int) × Int × Int)) : Option (Lp ((List Ln) × (List Int) × Int × Int) (List Int)) := runLoop (fun x => L23o_5 N x.1 x.2.1 x.2.2.1 x.2.2.2) N x
theorem WS23o_5 (N : Nat) (x : (shTy l23o_5).I) : ∀ o, W23o_5 N x = some o → S Try.prog (.loop b23o_5) (buildSt 38 l23o_5 x) (stepZ (rdD Try.prog Try.f23 true) l23o_5 (encO 38 l23o_5 [0] (fun q => some (E23o q)) o)) :=
  fun o h => loop_S (l := l23o_5) (step := fun x => L23o_5 N x.1 x.2.1 x.2.2.1 x.2.2.2) (fun x o h => wpc_sound (tbl := []) (μ := []) mixed _ _ _ (by
    have h1 := Vt.sound _ h
    refine Eq.mp ?_ h1
    kernel_rfl)) N x o h
noncomputable def V23o (N : Nat) (a0 : (List Ln)) : Vt (List Int) (Option D) (fun q => some (E23o q)) :=
  .c1 (P21 N a0) (fun x1 => .br (!x1) (.leaf ([] : (List Int))) (.f1 (l := l23o_5) (o := W23o_5 N (a0, ([] : (List Int)), (a0.length : Int), 0)) (WS23o_5 N (a0, ([] : (List Int)), (a0.length : Int), 0)) (fun x1 => .leaf x1.2.1)))
noncomputable def F23o (N : Nat) (a0 : (List Ln)) : Option (List Int) := (V23o N a0).eval
def t23o : List (Nat × List Nat × List (Nat × Sh)) := [(5, [0], l23o_5)]
theorem P23o (N : Nat) (a0 : (List Ln)) : ∀ r, F23o N a0 = some r → Spec Try.prog 23 [.val (.list tLn) a0] (E23o r) := fun r h => Spec_of (fn := Try.f23) rfl rfl rfl rfl true (wpc_sound (tbl := t23o) (μ := []) mixed _ _ _ (by
  have h1 := Vt.sound _ h
  refine Eq.mp ?_ h1
  kernel_rfl))

/-! ferryslip/tree.there -/
def E40 : Bool → D := fun x => encV tB x
noncomputable def V40 (N : Nat) (a0 : (List Ln)) (a1 : Int) : Vt Bool (Option D) (fun q => some (E40 q)) :=
  .br (decide ((0 : Int) ≤ a1)) (.br (decide (a1 < (a0.length : Int))) (.c1 (P21 N a0) (fun x1 => .leaf x1)) (.leaf false)) (.leaf false)
noncomputable def F40 (N : Nat) (a0 : (List Ln)) (a1 : Int) : Option Bool := (V40 N a0 a1).eval
def t40 : List (Nat × List Nat × List (Nat × Sh)) := []
theorem P40 (N : Nat) (a0 : (List Ln)) (a1 : Int) : ∀ r, F40 N a0 a1 = some r → Spec Try.prog 40 [.val (.list tLn) a0, .val tI a1] (E40 r) := fun r h => Spec_of (fn := Try.f40) rfl rfl rfl rfl false (wpc_sound (tbl := t40) (μ := []) mixed _ _ _ (by
  have h1 := Vt.sound _ h
  refine Eq.mp ?_ h1
  kernel_rfl))

/-! ferryslip/tree.Under -/
def E41 : Int → D := fun x => encV tI x
abbrev l41_4 : List (Nat × Sh) := [(0, .val (.list tLn)), (1, .val tI), (5, .val tI)]
noncomputable def b41_4 : Code := loopBody 4 (bodyOf Try.f41)
noncomputable def U41_4 (N : Nat) (s0 : (List Ln)) (s1 : Int) (s5 : Int) : Vt (Lp (shTy l41_4).I Int) (O3 (Option D)) (encO 29 l41_4 [0] (fun q => some (E41 q))) :=
  .br (decide ((0 : Int) ≤ s5)) (.ck (inR s5 s0.length) (.ck (inR s1 s0.length) (.br (decide (((atI tLn s0 s1).1) ≤ ((atI tLn s0 s5).1))) (.leaf (.next (s0, s1, (IntKind.i64.wrap (s5 - 1))))) (.leaf (.brk 0 (s0, s1, s5)))))) (.leaf (.brk 0 (s0, s1, s5)))
noncomputable def L41_4 (N : Nat) (s0 : (List Ln)) (s1 : Int) (s5 : Int) : Option (Lp ((List Ln) × Int × Int) Int) := (U41_4 N s0 s1 s5).eval
noncomputable def W41_4 (N : Nat) (x : ((List Ln) × Int × Int)) : Option (Lp ((List Ln) × Int × Int) Int) := runLoop (fun x => L41_4 N x.1 x.2.1 x.2.2) N x
theorem WS41_4 (N : Nat) (x : (shTy l41_4).I) : ∀ o, W41_4 N x = some o → S Try.prog (.loop b41_4) (buildSt 29 l41_4 x) (stepZ (rdD Try.prog Try.f41 false) l41_4 (encO 29 l41_4 [0] (fun q => some (E41 q)) o)) :=
  fun o h => loop_S (l := l41_4) (step := fun x => L41_4 N x.1 x.2.1 x.2.2) (fun x o h => wpc_sound (tbl := []) (μ := []) mixed _ _ _ (by
    have h1 := Vt.sound _ h
    refine Eq.mp ?_ h1
    kernel_rfl)) N x o h
noncomputable def V41 (N : Nat) (a0 : (List Ln)) (a1 : Int) : Vt Int (Option D) (fun q => some (E41 q)) :=
  .c1 (P40 N a0 a1) (fun x1 => .br (!x1) (.leaf (-1)) (.f1 (l := l41_4) (o := W41_4 N (a0, a1, a1)) (WS41_4 N (a0, a1, a1)) (fun x2 => .leaf x2.2.2)))
noncomputable def F41 (N : Nat) (a0 : (List Ln)) (a1 : Int) : Option Int := (V41 N a0 a1).eval
def t41 : List (Nat × List Nat × List (Nat × Sh)) := [(4, [0], l41_4)]
theorem P41 (N : Nat) (a0 : (List Ln)) (a1 : Int) : ∀ r, F41 N a0 a1 = some r → Spec Try.prog 41 [.val (.list tLn) a0, .val tI a1] (E41 r) := fun r h => Spec_of (fn := Try.f41) rfl rfl rfl rfl false (wpc_sound (tbl := t41) (μ := []) mixed _ _ _ (by
  have h1 := Vt.sound _ h
  refine Eq.mp ?_ h1
  kernel_rfl))

/-! ferryslip/tree.Path -/
def E22o : ((List Bs) × Int) → D := fun x => .tup [.own 9 tS x.1, encV tI x.2]
abbrev l22o_5 : List (Nat × Sh) := [(0, .val (.list tLn)), (6, .row false 25 9 tS), (7, .val tI)]
noncomputable def b22o_5 : Code := loopBody 5 (bodyOf Try.f22)
noncomputable def U22o_5 (N : Nat) (s0 : (List Ln)) (s6 : (List Bs)) (s7 : Int) : Vt (Lp (shTy l22o_5).I ((List Bs) × Int)) (O3 (Option D)) (encO 29 l22o_5 [0] (fun q => some (E22o q))) :=
  .br (decide ((0 : Int) ≤ s7)) (.ck (inR s7 s0.length) (.ck (room (s6.length + ([(atI tLn s0 s7).2.1] : (List Bs)).length)) (.c1 (P41 N s0 s7) (fun x1 => .leaf (.next (s0, (s6 ++ ([(atI tLn s0 s7).2.1] : (List Bs))), x1)))))) (.leaf (.brk 0 (s0, s6, s7)))
noncomputable def L22o_5 (N : Nat) (s0 : (List Ln)) (s6 : (List Bs)) (s7 : Int) : Option (Lp ((List Ln) × (List Bs) × Int) ((List Bs) × Int)) := (U22o_5 N s0 s6 s7).eval
noncomputable def W22o_5 (N : Nat) (x : ((List Ln) × (List Bs) × Int)) : Option (Lp ((List Ln) × (List Bs) × Int) ((List Bs) × Int)) := runLoop (fun x => L22o_5 N x.1 x.2.1 x.2.2) N x
theorem WS22o_5 (N : Nat) (x : (shTy l22o_5).I) : ∀ o, W22o_5 N x = some o → S Try.prog (.loop b22o_5) (buildSt 29 l22o_5 x) (stepZ (rdD Try.prog Try.f22 true) l22o_5 (encO 29 l22o_5 [0] (fun q => some (E22o q)) o)) :=
  fun o h => loop_S (l := l22o_5) (step := fun x => L22o_5 N x.1 x.2.1 x.2.2) (fun x o h => wpc_sound (tbl := []) (μ := []) mixed _ _ _ (by
    have h1 := Vt.sound _ h
    refine Eq.mp ?_ h1
    kernel_rfl)) N x o h
noncomputable def V22o (N : Nat) (a0 : (List Ln)) (a1 : Int) : Vt ((List Bs) × Int) (Option D) (fun q => some (E22o q)) :=
  .c1 (P40 N a0 a1) (fun x1 => .br (!x1) (.leaf (([] : (List Bs)), 1)) (.f1 (l := l22o_5) (o := W22o_5 N (a0, ([] : (List Bs)), a1)) (WS22o_5 N (a0, ([] : (List Bs)), a1)) (fun x1 => .cr (P42r N x1.2.1) (fun x2 => .leaf (x2, 0)))))
noncomputable def F22o (N : Nat) (a0 : (List Ln)) (a1 : Int) : Option ((List Bs) × Int) := (V22o N a0 a1).eval
def t22o : List (Nat × List Nat × List (Nat × Sh)) := [(5, [0], l22o_5)]
theorem P22o (N : Nat) (a0 : (List Ln)) (a1 : Int) : ∀ r, F22o N a0 a1 = some r → Spec Try.prog 22 [.val (.list tLn) a0, .val tI a1] (E22o r) := fun r h => Spec_of (fn := Try.f22) rfl rfl rfl rfl true (wpc_sound (tbl := t22o) (μ := [1000042]) mixed _ _ _ (by
  have h1 := Vt.sound _ h
  refine Eq.mp ?_ h1
  kernel_rfl))

/-! ferryslip/word.bare -/
def E82 : Bool → D := fun x => encV tB x
noncomputable def V82 (N : Nat) (a0 : Int) : Vt Bool (Option D) (fun q => some (E82 q)) :=
  .br (decide ((97 : Int) ≤ a0)) (.br (decide (a0 ≤ 122)) (.leaf true) (.br (decide ((65 : Int) ≤ a0)) (.br (decide (a0 ≤ 90)) (.leaf true) (.br (decide ((48 : Int) ≤ a0)) (.br (decide (a0 ≤ 57)) (.leaf true) (.c1 (P79 N ([45, 95, 46, 47, 58, 42] : Bs) a0) (fun x1 => .leaf (decide ((0 : Int) ≤ x1))))) (.c1 (P79 N ([45, 95, 46, 47, 58, 42] : Bs) a0) (fun x2 => .leaf (decide ((0 : Int) ≤ x2)))))) (.br (decide ((48 : Int) ≤ a0)) (.br (decide (a0 ≤ 57)) (.leaf true) (.c1 (P79 N ([45, 95, 46, 47, 58, 42] : Bs) a0) (fun x3 => .leaf (decide ((0 : Int) ≤ x3))))) (.c1 (P79 N ([45, 95, 46, 47, 58, 42] : Bs) a0) (fun x4 => .leaf (decide ((0 : Int) ≤ x4))))))) (.br (decide ((65 : Int) ≤ a0)) (.br (decide (a0 ≤ 90)) (.leaf true) (.br (decide ((48 : Int) ≤ a0)) (.br (decide (a0 ≤ 57)) (.leaf true) (.c1 (P79 N ([45, 95, 46, 47, 58, 42] : Bs) a0) (fun x5 => .leaf (decide ((0 : Int) ≤ x5))))) (.c1 (P79 N ([45, 95, 46, 47, 58, 42] : Bs) a0) (fun x6 => .leaf (decide ((0 : Int) ≤ x6)))))) (.br (decide ((48 : Int) ≤ a0)) (.br (decide (a0 ≤ 57)) (.leaf true) (.c1 (P79 N ([45, 95, 46, 47, 58, 42] : Bs) a0) (fun x7 => .leaf (decide ((0 : Int) ≤ x7))))) (.c1 (P79 N ([45, 95, 46, 47, 58, 42] : Bs) a0) (fun x8 => .leaf (decide ((0 : Int) ≤ x8))))))
noncomputable def F82 (N : Nat) (a0 : Int) : Option Bool := (V82 N a0).eval
def t82 : List (Nat × List Nat × List (Nat × Sh)) := []
theorem P82 (N : Nat) (a0 : Int) : ∀ r, F82 N a0 = some r → Spec Try.prog 82 [.val (.int .u8) a0] (E82 r) := fun r h => Spec_of (fn := Try.f82) rfl rfl rfl rfl false (wpc_sound (tbl := t82) (μ := []) mixed _ _ _ (by
  have h1 := Vt.sound _ h
  refine Eq.mp ?_ h1
  kernel_rfl))

/-! ferryslip/word.run -/
def E74 : Int → D := fun x => encV tI x
abbrev l74_2 : List (Nat × Sh) := [(0, .val tS), (3, .val tI)]
noncomputable def b74_2 : Code := loopBody 2 (bodyOf Try.f74)
noncomputable def U74_2 (N : Nat) (s0 : Bs) (s3 : Int) : Vt (Lp (shTy l74_2).I Int) (O3 (Option D)) (encO 17 l74_2 [0] (fun q => some (E74 q))) :=
  .br (decide (s3 < (s0.length : Int))) (.ck (inR s3 s0.length) (.c1 (P82 N (byteAt s0 s3)) (fun x1 => .br x1 (.leaf (.next (s0, (IntKind.i64.wrap (s3 + 1))))) (.leaf (.brk 0 (s0, s3)))))) (.leaf (.brk 0 (s0, s3)))
noncomputable def L74_2 (N : Nat) (s0 : Bs) (s3 : Int) : Option (Lp (Bs × Int) Int) := (U74_2 N s0 s3).eval
noncomputable def W74_2 (N : Nat) (x : (Bs × Int)) : Option (Lp (Bs × Int) Int) := runLoop (fun x => L74_2 N x.1 x.2) N x
theorem WS74_2 (N : Nat) (x : (shTy l74_2).I) : ∀ o, W74_2 N x = some o → S Try.prog (.loop b74_2) (buildSt 17 l74_2 x) (stepZ (rdD Try.prog Try.f74 false) l74_2 (encO 17 l74_2 [0] (fun q => some (E74 q)) o)) :=
  fun o h => loop_S (l := l74_2) (step := fun x => L74_2 N x.1 x.2) (fun x o h => wpc_sound (tbl := []) (μ := []) mixed _ _ _ (by
    have h1 := Vt.sound _ h
    refine Eq.mp ?_ h1
    kernel_rfl)) N x o h
noncomputable def V74 (N : Nat) (a0 : Bs) : Vt Int (Option D) (fun q => some (E74 q)) :=
  .f1 (l := l74_2) (o := W74_2 N (a0, 0)) (WS74_2 N (a0, 0)) (fun x1 => .leaf x1.2)
noncomputable def F74 (N : Nat) (a0 : Bs) : Option Int := (V74 N a0).eval
def t74 : List (Nat × List Nat × List (Nat × Sh)) := [(2, [0], l74_2)]
theorem P74 (N : Nat) (a0 : Bs) : ∀ r, F74 N a0 = some r → Spec Try.prog 74 [.val tS a0] (E74 r) := fun r h => Spec_of (fn := Try.f74) rfl rfl rfl rfl false (wpc_sound (tbl := t74) (μ := []) mixed _ _ _ (by
  have h1 := Vt.sound _ h
  refine Eq.mp ?_ h1
  kernel_rfl))

/-! ferryslip/word.mark -/
def E75 : Bool → D := fun x => encV tB x
noncomputable def V75 (N : Nat) (a0 : Bs) : Vt Bool (Option D) (fun q => some (E75 q)) :=
  .br (a0 == ([105, 110, 97, 99, 116, 105, 118, 101, 58] : Bs)) (.leaf true) (.br (a0 == ([112, 114, 111, 116, 101, 99, 116, 58] : Bs)) (.leaf true) (.c1 (P78 N a0 ([47, 42] : Bs)) (fun x1 => .leaf x1)))
noncomputable def F75 (N : Nat) (a0 : Bs) : Option Bool := (V75 N a0).eval
def t75 : List (Nat × List Nat × List (Nat × Sh)) := []
theorem P75 (N : Nat) (a0 : Bs) : ∀ r, F75 N a0 = some r → Spec Try.prog 75 [.val tS a0] (E75 r) := fun r h => Spec_of (fn := Try.f75) rfl rfl rfl rfl false (wpc_sound (tbl := t75) (μ := []) mixed _ _ _ (by
  have h1 := Vt.sound _ h
  refine Eq.mp ?_ h1
  kernel_rfl))

/-! ferryslip/word.Plain -/
def E62 : Bool → D := fun x => encV tB x
noncomputable def V62 (N : Nat) (a0 : Bs) : Vt Bool (Option D) (fun q => some (E62 q)) :=
  .br (!(a0 == ([] : Bs))) (.br (decide ((a0.length : Int) ≤ 40)) (.c1 (P74 N a0) (fun x1 => .br (x1 == (a0.length : Int)) (.c1 (P75 N a0) (fun x2 => .leaf (!x2))) (.leaf false))) (.leaf false)) (.leaf false)
noncomputable def F62 (N : Nat) (a0 : Bs) : Option Bool := (V62 N a0).eval
def t62 : List (Nat × List Nat × List (Nat × Sh)) := []
theorem P62 (N : Nat) (a0 : Bs) : ∀ r, F62 N a0 = some r → Spec Try.prog 62 [.val tS a0] (E62 r) := fun r h => Spec_of (fn := Try.f62) rfl rfl rfl rfl false (wpc_sound (tbl := t62) (μ := []) mixed _ _ _ (by
  have h1 := Vt.sound _ h
  refine Eq.mp ?_ h1
  kernel_rfl))

/-! ferryslip/word.escape -/
def E64 : Bs → D := fun x => encV tS x
noncomputable def V64 (N : Nat) (a0 : Int) : Vt Bs (Option D) (fun q => some (E64 q)) :=
  .br (a0 == 34) (.leaf (strOf ([92, a0] : (List Int)))) (.br (a0 == 92) (.leaf (strOf ([92, a0] : (List Int)))) (.br (decide ((32 : Int) ≤ a0)) (.br (decide (a0 ≤ 126)) (.leaf (strOf ([a0] : (List Int)))) (.ck (0 ≤ (4 : Int)) (.ck (inR (a0.fdiv (2 ^ (min (4 : Int).toNat (IntKind.u8.bits)))) ([48, 49, 50, 51, 52, 53, 54, 55, 56, 57, 97, 98, 99, 100, 101, 102] : Bs).length) (.ck (inR (IntKind.u8.wrap (((BitVec.ofInt IntKind.u8.bits a0 &&& BitVec.ofInt IntKind.u8.bits 15).toNat : Int))) ([48, 49, 50, 51, 52, 53, 54, 55, 56, 57, 97, 98, 99, 100, 101, 102] : Bs).length) (.ck (room (([92, 120] : Bs).length + (strOf ([(byteAt ([48, 49, 50, 51, 52, 53, 54, 55, 56, 57, 97, 98, 99, 100, 101, 102] : Bs) (a0.fdiv (2 ^ (min (4 : Int).toNat (IntKind.u8.bits))))), (byteAt ([48, 49, 50, 51, 52, 53, 54, 55, 56, 57, 97, 98, 99, 100, 101, 102] : Bs) (IntKind.u8.wrap (((BitVec.ofInt IntKind.u8.bits a0 &&& BitVec.ofInt IntKind.u8.bits 15).toNat : Int))))] : (List Int))).length)) (.leaf (([92, 120] : Bs) ++ (strOf ([(byteAt ([48, 49, 50, 51, 52, 53, 54, 55, 56, 57, 97, 98, 99, 100, 101, 102] : Bs) (a0.fdiv (2 ^ (min (4 : Int).toNat (IntKind.u8.bits))))), (byteAt ([48, 49, 50, 51, 52, 53, 54, 55, 56, 57, 97, 98, 99, 100, 101, 102] : Bs) (IntKind.u8.wrap (((BitVec.ofInt IntKind.u8.bits a0 &&& BitVec.ofInt IntKind.u8.bits 15).toNat : Int))))] : (List Int)))))))))) (.ck (0 ≤ (4 : Int)) (.ck (inR (a0.fdiv (2 ^ (min (4 : Int).toNat (IntKind.u8.bits)))) ([48, 49, 50, 51, 52, 53, 54, 55, 56, 57, 97, 98, 99, 100, 101, 102] : Bs).length) (.ck (inR (IntKind.u8.wrap (((BitVec.ofInt IntKind.u8.bits a0 &&& BitVec.ofInt IntKind.u8.bits 15).toNat : Int))) ([48, 49, 50, 51, 52, 53, 54, 55, 56, 57, 97, 98, 99, 100, 101, 102] : Bs).length) (.ck (room (([92, 120] : Bs).length + (strOf ([(byteAt ([48, 49, 50, 51, 52, 53, 54, 55, 56, 57, 97, 98, 99, 100, 101, 102] : Bs) (a0.fdiv (2 ^ (min (4 : Int).toNat (IntKind.u8.bits))))), (byteAt ([48, 49, 50, 51, 52, 53, 54, 55, 56, 57, 97, 98, 99, 100, 101, 102] : Bs) (IntKind.u8.wrap (((BitVec.ofInt IntKind.u8.bits a0 &&& BitVec.ofInt IntKind.u8.bits 15).toNat : Int))))] : (List Int))).length)) (.leaf (([92, 120] : Bs) ++ (strOf ([(byteAt ([48, 49, 50, 51, 52, 53, 54, 55, 56, 57, 97, 98, 99, 100, 101, 102] : Bs) (a0.fdiv (2 ^ (min (4 : Int).toNat (IntKind.u8.bits))))), (byteAt ([48, 49, 50, 51, 52, 53, 54, 55, 56, 57, 97, 98, 99, 100, 101, 102] : Bs) (IntKind.u8.wrap (((BitVec.ofInt IntKind.u8.bits a0 &&& BitVec.ofInt IntKind.u8.bits 15).toNat : Int))))] : (List Int)))))))))))
noncomputable def F64 (N : Nat) (a0 : Int) : Option Bs := (V64 N a0).eval
def t64 : List (Nat × List Nat × List (Nat × Sh)) := []
theorem P64 (N : Nat) (a0 : Int) : ∀ r, F64 N a0 = some r → Spec Try.prog 64 [.val (.int .u8) a0] (E64 r) := fun r h => Spec_of (fn := Try.f64) rfl rfl rfl rfl false (wpc_sound (tbl := t64) (μ := []) mixed _ _ _ (by
  have h1 := Vt.sound _ h
  refine Eq.mp ?_ h1
  kernel_rfl))

/-! ferryslip/word.Quote -/
def E52 : (Bs × Int) → D := fun x => .tup [encV tS x.1, encV tI x.2]
abbrev l52_8 : List (Nat × Sh) := [(0, .val tS), (4, .grp false 4 59 [.slf, .buf 5]), (16, .val tI), (17, .val tI)]
noncomputable def b52_8 : Code := loopBody 8 (bodyOf Try.f52)
noncomputable def U52_8 (N : Nat) (s0 : Bs) (s4 : (Bool × (List Int))) (s16 : Int) (s17 : Int) : Vt (Lp (shTy l52_8).I (Bs × Int)) (O3 (Option D)) (encO 28 l52_8 [1] (fun q => some (E52 q))) :=
  .br (decide (s17 < s16)) (.ck (inR s17 s0.length) (.c1 (P64 N (byteAt s0 s17)) (fun x1 => .cr (P30b N (true, s4.2) x1) (fun x2 => .leaf (.next (s0, (true, x2.2), s16, (IntKind.i64.wrap (s17 + 1)))))))) (.leaf (.brk 0 (s0, (true, s4.2), s16, s17)))
noncomputable def L52_8 (N : Nat) (s0 : Bs) (s4 : (Bool × (List Int))) (s16 : Int) (s17 : Int) : Option (Lp (Bs × (Bool × (List Int)) × Int × Int) (Bs × Int)) := (U52_8 N s0 s4 s16 s17).eval
noncomputable def W52_8 (N : Nat) (x : (Bs × (Bool × (List Int)) × Int × Int)) : Option (Lp (Bs × (Bool × (List Int)) × Int × Int) (Bs × Int)) := runLoop (fun x => L52_8 N x.1 x.2.1 x.2.2.1 x.2.2.2) N x
theorem WS52_8 (N : Nat) (x : (shTy l52_8).I) : ∀ o, W52_8 N x = some o → S Try.prog (.loop b52_8) (buildSt 28 l52_8 x) (stepZ (rdD Try.prog Try.f52 false) l52_8 (encO 28 l52_8 [1] (fun q => some (E52 q)) o)) :=
  fun o h => loop_S (l := l52_8) (step := fun x => L52_8 N x.1 x.2.1 x.2.2.1 x.2.2.2) (fun x o h => wpc_sound (tbl := []) (μ := [4000030, 4000063]) mixed _ _ _ (by
    have h1 := Vt.sound _ h
    refine Eq.mp ?_ h1
    kernel_rfl)) N x o h
noncomputable def V52 (N : Nat) (a0 : Bs) : Vt (Bs × Int) (Option D) (fun q => some (E52 q)) :=
  .br (decide ((40 : Int) < (a0.length : Int))) (.leaf (([] : Bs), 5)) (.c1 (P62 N a0) (fun x1 => .br x1 (.leaf (a0, 0)) (.cr (P63b N (true, ([] : List Int)) 34) (fun x2 => .f1 (l := l52_8) (o := W52_8 N (a0, (true, x2.2), (a0.length : Int), 0)) (WS52_8 N (a0, (true, x2.2), (a0.length : Int), 0)) (fun x3 => .cr (P32k N (true, x3.2.1.2)) (fun x4 => .ck (room (x4.length + ([34] : Bs).length)) (.leaf ((x4 ++ ([34] : Bs)), 0))))))))
noncomputable def F52 (N : Nat) (a0 : Bs) : Option (Bs × Int) := (V52 N a0).eval
def t52 : List (Nat × List Nat × List (Nat × Sh)) := [(8, [1], l52_8)]
theorem P52 (N : Nat) (a0 : Bs) : ∀ r, F52 N a0 = some r → Spec Try.prog 52 [.val tS a0] (E52 r) := fun r h => Spec_of (fn := Try.f52) rfl rfl rfl rfl false (wpc_sound (tbl := t52) (μ := [4000030, 4000063, 5000032]) mixed _ _ _ (by
  have h1 := Vt.sound _ h
  refine Eq.mp ?_ h1
  kernel_rfl))

/-! ferryslip/lines.command -/
def E31 : Bs → D := fun x => encV tS x
abbrev l31_3 : List (Nat × Sh) := [(0, .val tS), (7, .row false 14 9 tS), (17, .als 14), (18, .val tI), (19, .val tI)]
noncomputable def b31_3 : Code := loopBody 3 (bodyOf Try.f31)
noncomputable def U31_3 (N : Nat) (s0 : Bs) (s7 : (List Bs)) (s17 : Bool) (s18 : Int) (s19 : Int) : Vt (Lp (shTy l31_3).I Bs) (O3 (Option D)) (encO 39 l31_3 [0] (fun q => some (E31 q))) :=
  .br (decide (s19 < s18)) (.ck (inR s19 s7.length) (.ck (inR s19 s7.length) (.c2 (P52 N (atI tS s7 s19)) (fun x1 x2 => .ck (inR s19 s7.length) (.ck (inR s19 s7.length) (.leaf (.next (s0, (s7.set s19.toNat x1), false, s18, (IntKind.i64.wrap (s19 + 1)))))))))) (.leaf (.brk 0 (s0, s7, false, s18, s19)))
noncomputable def L31_3 (N : Nat) (s0 : Bs) (s7 : (List Bs)) (s17 : Bool) (s18 : Int) (s19 : Int) : Option (Lp (Bs × (List Bs) × Bool × Int × Int) Bs) := (U31_3 N s0 s7 s17 s18 s19).eval
noncomputable def W31_3 (N : Nat) (x : (Bs × (List Bs) × Bool × Int × Int)) : Option (Lp (Bs × (List Bs) × Bool × Int × Int) Bs) := runLoop (fun x => L31_3 N x.1 x.2.1 x.2.2.1 x.2.2.2.1 x.2.2.2.2) N x
theorem WS31_3 (N : Nat) (x : (shTy l31_3).I) : ∀ o, W31_3 N x = some o → S Try.prog (.loop b31_3) (buildSt 39 l31_3 x) (stepZ (rdD Try.prog Try.f31 false) l31_3 (encO 39 l31_3 [0] (fun q => some (E31 q)) o)) :=
  fun o h => loop_S (l := l31_3) (step := fun x => L31_3 N x.1 x.2.1 x.2.2.1 x.2.2.2.1 x.2.2.2.2) (fun x o h => wpc_sound (tbl := []) (μ := [14]) mixed _ _ _ (by
    have h1 := Vt.sound _ h
    refine Eq.mp ?_ h1
    kernel_rfl)) N x o h
noncomputable def V31 (N : Nat) (a0 : Bs) (a1 : (List Ln)) (a2 : Int) : Vt Bs (Option D) (fun q => some (E31 q)) :=
  .c2 (P22o N a1 a2) (fun x1 x2 => .f1 (l := l31_3) (o := W31_3 N (a0, x1, false, (x1.length : Int), 0)) (WS31_3 N (a0, x1, false, (x1.length : Int), 0)) (fun x3 => .ck (room (x3.1.length + ([32] : Bs).length)) (.c1 (P53 N x3.2.1 ([32] : Bs)) (fun x4 => .ck (room ((x3.1 ++ ([32] : Bs)).length + x4.length)) (.ck (room (((x3.1 ++ ([32] : Bs)) ++ x4).length + ([59, 10] : Bs).length)) (.leaf (((x3.1 ++ ([32] : Bs)) ++ x4) ++ ([59, 10] : Bs))))))))
noncomputable def F31 (N : Nat) (a0 : Bs) (a1 : (List Ln)) (a2 : Int) : Option Bs := (V31 N a0 a1 a2).eval
def t31 : List (Nat × List Nat × List (Nat × Sh)) := [(3, [0], l31_3)]
theorem P31 (N : Nat) (a0 : Bs) (a1 : (List Ln)) (a2 : Int) : ∀ r, F31 N a0 a1 a2 = some r → Spec Try.prog 31 [.val tS a0, .val (.list tLn) a1, .val tI a2] (E31 r) := fun r h => Spec_of (fn := Try.f31) rfl rfl rfl rfl false (wpc_sound (tbl := t31) (μ := [14]) mixed _ _ _ (by
  have h1 := Vt.sound _ h
  refine Eq.mp ?_ h1
  kernel_rfl))

/-! ferryslip/lines.Text -/
def E16 : (Bs × Int) → D := fun x => .tup [encV tS x.1, encV tI x.2]
abbrev l16_5 : List (Nat × Sh) := [(0, .val (.list tLn)), (4, .grp false 4 59 [.slf, .buf 5]), (13, .row false 13 3 tI), (14, .val tI), (15, .val tI)]
noncomputable def b16_5 : Code := loopBody 5 (bodyOf Try.f16)
noncomputable def U16_5 (N : Nat) (s0 : (List Ln)) (s4 : (Bool × (List Int))) (s13 : (List Int)) (s14 : Int) (s15 : Int) : Vt (Lp (shTy l16_5).I (Bs × Int)) (O3 (Option D)) (encO 49 l16_5 [0] (fun q => some (E16 q))) :=
  .br (decide (s15 < s14)) (.ck (inR s15 s13.length) (.ck (inR s15 s13.length) (.c1 (P31 N ([115, 101, 116] : Bs) s0 (atI tI s13 s15)) (fun x1 => .cr (P30b N (true, s4.2) x1) (fun x2 => .leaf (.next (s0, (true, x2.2), s13, s14, (IntKind.i64.wrap (s15 + 1))))))))) (.leaf (.brk 0 (s0, (true, s4.2), s13, s14, s15)))
noncomputable def L16_5 (N : Nat) (s0 : (List Ln)) (s4 : (Bool × (List Int))) (s13 : (List Int)) (s14 : Int) (s15 : Int) : Option (Lp ((List Ln) × (Bool × (List Int)) × (List Int) × Int × Int) (Bs × Int)) := (U16_5 N s0 s4 s13 s14 s15).eval
noncomputable def W16_5 (N : Nat) (x : ((List Ln) × (Bool × (List Int)) × (List Int) × Int × Int)) : Option (Lp ((List Ln) × (Bool × (List Int)) × (List Int) × Int × Int) (Bs × Int)) := runLoop (fun x => L16_5 N x.1 x.2.1 x.2.2.1 x.2.2.2.1 x.2.2.2.2) N x
theorem WS16_5 (N : Nat) (x : (shTy l16_5).I) : ∀ o, W16_5 N x = some o → S Try.prog (.loop b16_5) (buildSt 49 l16_5 x) (stepZ (rdD Try.prog Try.f16 false) l16_5 (encO 49 l16_5 [0] (fun q => some (E16 q)) o)) :=
  fun o h => loop_S (l := l16_5) (step := fun x => L16_5 N x.1 x.2.1 x.2.2.1 x.2.2.2.1 x.2.2.2.2) (fun x o h => wpc_sound (tbl := []) (μ := [13, 4000030]) mixed _ _ _ (by
    have h1 := Vt.sound _ h
    refine Eq.mp ?_ h1
    kernel_rfl)) N x o h
abbrev l16_10 : List (Nat × Sh) := [(0, .val (.list tLn)), (4, .grp false 4 59 [.slf, .buf 5]), (24, .val (.list tLn)), (25, .val tI), (26, .val tI)]
noncomputable def b16_10 : Code := loopBody 10 (bodyOf Try.f16)
noncomputable def U16_10 (N : Nat) (s0 : (List Ln)) (s4 : (Bool × (List Int))) (s24 : (List Ln)) (s25 : Int) (s26 : Int) : Vt (Lp (shTy l16_10).I (Bs × Int)) (O3 (Option D)) (encO 49 l16_10 [2] (fun q => some (E16 q))) :=
  .br (decide (s26 < s25)) (.ck (inR s26 s24.length) (.br ((IntKind.i64.wrap (((BitVec.ofInt IntKind.i64.bits ((atI tLn s24 s26).2.2) &&& BitVec.ofInt IntKind.i64.bits 1).toNat : Int))) != 0) (.c1 (P31 N ([100, 101, 97, 99, 116, 105, 118, 97, 116, 101] : Bs) s0 s26) (fun x1 => .cr (P30b N (true, s4.2) x1) (fun x2 => .br ((IntKind.i64.wrap (((BitVec.ofInt IntKind.i64.bits ((atI tLn s24 s26).2.2) &&& BitVec.ofInt IntKind.i64.bits 2).toNat : Int))) != 0) (.c1 (P31 N ([112, 114, 111, 116, 101, 99, 116] : Bs) s0 s26) (fun x3 => .cr (P30b N (true, x2.2) x3) (fun x4 => .leaf (.next (s0, (true, x4.2), s24, s25, (IntKind.i64.wrap (s26 + 1))))))) (.leaf (.next (s0, (true, x2.2), s24, s25, (IntKind.i64.wrap (s26 + 1)))))))) (.br ((IntKind.i64.wrap (((BitVec.ofInt IntKind.i64.bits ((atI tLn s24 s26).2.2) &&& BitVec.ofInt IntKind.i64.bits 2).toNat : Int))) != 0) (.c1 (P31 N ([112, 114, 111, 116, 101, 99, 116] : Bs) s0 s26) (fun x5 => .cr (P30b N (true, s4.2) x5) (fun x6 => .leaf (.next (s0, (true, x6.2), s24, s25, (IntKind.i64.wrap (s26 + 1))))))) (.leaf (.next (s0, (true, s4.2), s24, s25, (IntKind.i64.wrap (s26 + 1)))))))) (.leaf (.brk 0 (s0, (true, s4.2), s24, s25, s26)))
noncomputable def L16_10 (N : Nat) (s0 : (List Ln)) (s4 : (Bool × (List Int))) (s24 : (List Ln)) (s25 : Int) (s26 : Int) : Option (Lp ((List Ln) × (Bool × (List Int)) × (List Ln) × Int × Int) (Bs × Int)) := (U16_10 N s0 s4 s24 s25 s26).eval
noncomputable def W16_10 (N : Nat) (x : ((List Ln) × (Bool × (List Int)) × (List Ln) × Int × Int)) : Option (Lp ((List Ln) × (Bool × (List Int)) × (List Ln) × Int × Int) (Bs × Int)) := runLoop (fun x => L16_10 N x.1 x.2.1 x.2.2.1 x.2.2.2.1 x.2.2.2.2) N x
theorem WS16_10 (N : Nat) (x : (shTy l16_10).I) : ∀ o, W16_10 N x = some o → S Try.prog (.loop b16_10) (buildSt 49 l16_10 x) (stepZ (rdD Try.prog Try.f16 false) l16_10 (encO 49 l16_10 [2] (fun q => some (E16 q)) o)) :=
  fun o h => loop_S (l := l16_10) (step := fun x => L16_10 N x.1 x.2.1 x.2.2.1 x.2.2.2.1 x.2.2.2.2) (fun x o h => wpc_sound (tbl := [(5, [0], l16_5)]) (μ := [13, 4000030]) mixed _ _ _ (by
    have h1 := Vt.sound _ h
    refine Eq.mp ?_ h1
    kernel_rfl)) N x o h
noncomputable def V16 (N : Nat) (a0 : (List Ln)) : Vt (Bs × Int) (Option D) (fun q => some (E16 q)) :=
  .c1 (P21 N a0) (fun x1 => .br (!x1) (.leaf (([] : Bs), 1)) (.c1 (P23o N a0) (fun x2 => .f1 (l := l16_5) (o := W16_5 N (a0, (true, ([] : List Int)), x2, (x2.length : Int), 0)) (WS16_5 N (a0, (true, ([] : List Int)), x2, (x2.length : Int), 0)) (fun x3 => .f1 (l := l16_10) (o := W16_10 N (x3.1, (true, x3.2.1.2), x3.1, (x3.1.length : Int), 0)) (WS16_10 N (x3.1, (true, x3.2.1.2), x3.1, (x3.1.length : Int), 0)) (fun x4 => .cr (P32k N (true, x4.2.1.2)) (fun x5 => .leaf (x5, 0)))))))
noncomputable def F16 (N : Nat) (a0 : (List Ln)) : Option (Bs × Int) := (V16 N a0).eval
def t16 : List (Nat × List Nat × List (Nat × Sh)) := [(5, [0], l16_5), (10, [2], l16_10)]
theorem P16 (N : Nat) (a0 : (List Ln)) : ∀ r, F16 N a0 = some r → Spec Try.prog 16 [.val (.list tLn) a0] (E16 r) := fun r h => Spec_of (fn := Try.f16) rfl rfl rfl rfl false (wpc_sound (tbl := t16) (μ := [13, 4000030, 5000032]) mixed _ _ _ (by
  have h1 := Vt.sound _ h
  refine Eq.mp ?_ h1
  kernel_rfl))

/-! ferryslip/lex.comment -/
def E68 : Int → D := fun x => encV tI x
noncomputable def V68 (N : Nat) (a0 : Bs) (a1 : Int) : Vt Int (Option D) (fun q => some (E68 q)) :=
  .ck ((0 : Int) ≤ a1 ∧ a1 ≤ (a0.length : Int) ∧ (a0.length : Int) ≤ (a0.length : Int)) (.c1 (P78 N (slc a0 a1 (a0.length : Int)) ([35] : Bs)) (fun x1 => .br x1 (.c1 (P79 N (slc a0 a1 (a0.length : Int)) 10) (fun x2 => .br (decide (x2 < 0)) (.leaf (a0.length : Int)) (.leaf (IntKind.i64.wrap (a1 + x2))))) (.c1 (P78 N (slc a0 a1 (a0.length : Int)) ([47, 42] : Bs)) (fun x3 => .br x3 (.ck ((0 : Int) ≤ 2 ∧ (2 : Int) ≤ ((slc a0 a1 (a0.length : Int)).length : Int) ∧ ((slc a0 a1 (a0.length : Int)).length : Int) ≤ ((slc a0 a1 (a0.length : Int)).length : Int)) (.c1 (P80 N (slc (slc a0 a1 (a0.length : Int)) 2 ((slc a0 a1 (a0.length : Int)).length : Int)) ([42, 47] : Bs)) (fun x4 => .br (decide (x4 < 0)) (.leaf (-1)) (.leaf (IntKind.i64.wrap ((IntKind.i64.wrap (a1 + x4)) + 4)))))) (.leaf a1)))))
noncomputable def F68 (N : Nat) (a0 : Bs) (a1 : Int) : Option Int := (V68 N a0 a1).eval
def t68 : List (Nat × List Nat × List (Nat × Sh)) := []
theorem P68 (N : Nat) (a0 : Bs) (a1 : Int) : ∀ r, F68 N a0 a1 = some r → Spec Try.prog 68 [.val tS a0, .val tI a1] (E68 r) := fun r h => Spec_of (fn := Try.f68) rfl rfl rfl rfl false (wpc_sound (tbl := t68) (μ := []) mixed _ _ _ (by
  have h1 := Vt.sound _ h
  refine Eq.mp ?_ h1
  kernel_rfl))

/-! ferryslip/lex.blanks -/
def E56 : (Int × Bool) → D := fun x => .tup [encV tI x.1, encV tB x.2]
abbrev l56_1 : List (Nat × Sh) := [(0, .val tS), (1, .val tI)]
noncomputable def b56_1 : Code := loopBody 1 (bodyOf Try.f56)
noncomputable def U56_1 (N : Nat) (s0 : Bs) (s1 : Int) : Vt (Lp (shTy l56_1).I (Int × Bool)) (O3 (Option D)) (encO 34 l56_1 [0] (fun q => some (E56 q))) :=
  .br (decide (s1 < (s0.length : Int))) (.ck (inR s1 s0.length) (.br ((byteAt s0 s1) == 32) (.leaf (.next (s0, (IntKind.i64.wrap (s1 + 1))))) (.br ((byteAt s0 s1) == 9) (.leaf (.next (s0, (IntKind.i64.wrap (s1 + 1))))) (.br ((byteAt s0 s1) == 10) (.leaf (.next (s0, (IntKind.i64.wrap (s1 + 1))))) (.br ((byteAt s0 s1) == 13) (.leaf (.next (s0, (IntKind.i64.wrap (s1 + 1))))) (.c1 (P68 N s0 s1) (fun x1 => .br (decide (x1 < 0)) (.leaf (.ret (s1, false))) (.br (x1 == s1) (.leaf (.brk 0 (s0, s1))) (.leaf (.next (s0, x1))))))))))) (.leaf (.brk 0 (s0, s1)))
noncomputable def L56_1 (N : Nat) (s0 : Bs) (s1 : Int) : Option (Lp (Bs × Int) (Int × Bool)) := (U56_1 N s0 s1).eval
noncomputable def W56_1 (N : Nat) (x : (Bs × Int)) : Option (Lp (Bs × Int) (Int × Bool)) := runLoop (fun x => L56_1 N x.1 x.2) N x
theorem WS56_1 (N : Nat) (x : (shTy l56_1).I) : ∀ o, W56_1 N x = some o → S Try.prog (.loop b56_1) (buildSt 34 l56_1 x) (stepZ (rdD Try.prog Try.f56 false) l56_1 (encO 34 l56_1 [0] (fun q => some (E56 q)) o)) :=
  fun o h => loop_S (l := l56_1) (step := fun x => L56_1 N x.1 x.2) (fun x o h => wpc_sound (tbl := []) (μ := []) mixed _ _ _ (by
    have h1 := Vt.sound _ h
    refine Eq.mp ?_ h1
    kernel_rfl)) N x o h
noncomputable def V56 (N : Nat) (a0 : Bs) (a1 : Int) : Vt (Int × Bool) (Option D) (fun q => some (E56 q)) :=
  .f1 (l := l56_1) (o := W56_1 N (a0, a1)) (WS56_1 N (a0, a1)) (fun x1 => .leaf (x1.2, true))
noncomputable def F56 (N : Nat) (a0 : Bs) (a1 : Int) : Option (Int × Bool) := (V56 N a0 a1).eval
def t56 : List (Nat × List Nat × List (Nat × Sh)) := [(1, [0], l56_1)]
theorem P56 (N : Nat) (a0 : Bs) (a1 : Int) : ∀ r, F56 N a0 a1 = some r → Spec Try.prog 56 [.val tS a0, .val tI a1] (E56 r) := fun r h => Spec_of (fn := Try.f56) rfl rfl rfl rfl false (wpc_sound (tbl := t56) (μ := []) mixed _ _ _ (by
  have h1 := Vt.sound _ h
  refine Eq.mp ?_ h1
  kernel_rfl))

/-! ferryslip/lex.signs -/
def E69 : Int → D := fun x => encV tI x
noncomputable def V69 (N : Nat) (a0 : Int) : Vt Int (Option D) (fun q => some (E69 q)) :=
  .br (a0 == 123) (.leaf 2) (.br (a0 == 125) (.leaf 3) (.br (a0 == 59) (.leaf 4) (.leaf 0)))
noncomputable def F69 (N : Nat) (a0 : Int) : Option Int := (V69 N a0).eval
def t69 : List (Nat × List Nat × List (Nat × Sh)) := []
theorem P69 (N : Nat) (a0 : Int) : ∀ r, F69 N a0 = some r → Spec Try.prog 69 [.val (.int .u8) a0] (E69 r) := fun r h => Spec_of (fn := Try.f69) rfl rfl rfl rfl false (wpc_sound (tbl := t69) (μ := []) mixed _ _ _ (by
  have h1 := Vt.sound _ h
  refine Eq.mp ?_ h1
  kernel_rfl))

/-! ferryslip/word.Scan -/
def E70 : (Int × Bool) → D := fun x => .tup [encV tI x.1, encV tB x.2]
abbrev l70_9 : List (Nat × Sh) := [(0, .val tS), (7, .val tI)]
noncomputable def b70_9 : Code := loopBody 9 (bodyOf Try.f70)
noncomputable def U70_9 (N : Nat) (s0 : Bs) (s7 : Int) : Vt (Lp (shTy l70_9).I (Int × Bool)) (O3 (Option D)) (encO 48 l70_9 [0] (fun q => some (E70 q))) :=
  .br (decide (s7 < (s0.length : Int))) (.ck (inR s7 s0.length) (.br ((byteAt s0 s7) == 92) (.leaf (.next (s0, (IntKind.i64.wrap ((IntKind.i64.wrap (s7 + 1)) + 1))))) (.br ((byteAt s0 s7) == 34) (.leaf (.ret ((IntKind.i64.wrap (s7 + 1)), true))) (.leaf (.next (s0, (IntKind.i64.wrap (s7 + 1)))))))) (.leaf (.brk 0 (s0, s7)))
noncomputable def L70_9 (N : Nat) (s0 : Bs) (s7 : Int) : Option (Lp (Bs × Int) (Int × Bool)) := (U70_9 N s0 s7).eval
noncomputable def W70_9 (N : Nat) (x : (Bs × Int)) : Option (Lp (Bs × Int) (Int × Bool)) := runLoop (fun x => L70_9 N x.1 x.2) N x
theorem WS70_9 (N : Nat) (x : (shTy l70_9).I) : ∀ o, W70_9 N x = some o → S Try.prog (.loop b70_9) (buildSt 48 l70_9 x) (stepZ (rdD Try.prog Try.f70 false) l70_9 (encO 48 l70_9 [0] (fun q => some (E70 q)) o)) :=
  fun o h => loop_S (l := l70_9) (step := fun x => L70_9 N x.1 x.2) (fun x o h => wpc_sound (tbl := []) (μ := []) mixed _ _ _ (by
    have h1 := Vt.sound _ h
    refine Eq.mp ?_ h1
    kernel_rfl)) N x o h
noncomputable def V70 (N : Nat) (a0 : Bs) (a1 : Int) : Vt (Int × Bool) (Option D) (fun q => some (E70 q)) :=
  .br (decide (a1 < 0)) (.leaf (0, false)) (.br (decide ((a0.length : Int) ≤ a1)) (.leaf (0, false)) (.ck (inR a1 a0.length) (.br ((byteAt a0 a1) != 34) (.ck ((0 : Int) ≤ a1 ∧ a1 ≤ (a0.length : Int) ∧ (a0.length : Int) ≤ (a0.length : Int)) (.c1 (P74 N (slc a0 a1 (a0.length : Int))) (fun x1 => .br (x1 == 0) (.leaf (0, false)) (.leaf ((IntKind.i64.wrap (a1 + x1)), true))))) (.f1 (l := l70_9) (o := W70_9 N (a0, (IntKind.i64.wrap (a1 + 1)))) (WS70_9 N (a0, (IntKind.i64.wrap (a1 + 1)))) (fun x2 => .leaf (0, false))))))
noncomputable def F70 (N : Nat) (a0 : Bs) (a1 : Int) : Option (Int × Bool) := (V70 N a0 a1).eval
def t70 : List (Nat × List Nat × List (Nat × Sh)) := [(9, [0], l70_9)]
theorem P70 (N : Nat) (a0 : Bs) (a1 : Int) : ∀ r, F70 N a0 a1 = some r → Spec Try.prog 70 [.val tS a0, .val tI a1] (E70 r) := fun r h => Spec_of (fn := Try.f70) rfl rfl rfl rfl false (wpc_sound (tbl := t70) (μ := []) mixed _ _ _ (by
  have h1 := Vt.sound _ h
  refine Eq.mp ?_ h1
  kernel_rfl))

/-! ferryslip/lex.bit -/
def E71 : Int → D := fun x => encV tI x
noncomputable def V71 (N : Nat) (a0 : Bs) : Vt Int (Option D) (fun q => some (E71 q)) :=
  .br (a0 == ([105, 110, 97, 99, 116, 105, 118, 101, 58] : Bs)) (.leaf 1) (.br (a0 == ([112, 114, 111, 116, 101, 99, 116, 58] : Bs)) (.leaf 2) (.leaf 0))
noncomputable def F71 (N : Nat) (a0 : Bs) : Option Int := (V71 N a0).eval
def t71 : List (Nat × List Nat × List (Nat × Sh)) := []
theorem P71 (N : Nat) (a0 : Bs) : ∀ r, F71 N a0 = some r → Spec Try.prog 71 [.val tS a0] (E71 r) := fun r h => Spec_of (fn := Try.f71) rfl rfl rfl rfl false (wpc_sound (tbl := t71) (μ := []) mixed _ _ _ (by
  have h1 := Vt.sound _ h
  refine Eq.mp ?_ h1
  kernel_rfl))

/-! ferryslip/word.piece -/
def E87 : (Int × Int) → D := fun x => .tup [encV (.int .u8) x.1, encV tI x.2]
noncomputable def V87 (N : Nat) (a0 : Bs) : Vt (Int × Int) (Option D) (fun q => some (E87 q)) :=
  .ck (inR 0 a0.length) (.br ((byteAt a0 0) == 34) (.leaf (0, 0)) (.ck (inR 0 a0.length) (.br (decide ((byteAt a0 0) < 32)) (.leaf (0, 0)) (.ck (inR 0 a0.length) (.br (decide ((126 : Int) < (byteAt a0 0))) (.leaf (0, 0)) (.ck (inR 0 a0.length) (.br ((byteAt a0 0) != 92) (.ck (inR 0 a0.length) (.leaf ((byteAt a0 0), 1))) (.br (decide ((a0.length : Int) < 2)) (.leaf (0, 0)) (.ck (inR 1 a0.length) (.br ((byteAt a0 1) == 34) (.ck (inR 1 a0.length) (.leaf ((byteAt a0 1), 2))) (.ck (inR 1 a0.length) (.br ((byteAt a0 1) == 92) (.ck (inR 1 a0.length) (.leaf ((byteAt a0 1), 2))) (.ck (inR 1 a0.length) (.br ((byteAt a0 1) != 120) (.leaf (0, 0)) (.br (decide ((a0.length : Int) < 4)) (.leaf (0, 0)) (.ck (inR 2 a0.length) (.c1 (P79 N ([48, 49, 50, 51, 52, 53, 54, 55, 56, 57, 97, 98, 99, 100, 101, 102] : Bs) (byteAt a0 2)) (fun x1 => .ck (inR 3 a0.length) (.c1 (P79 N ([48, 49, 50, 51, 52, 53, 54, 55, 56, 57, 97, 98, 99, 100, 101, 102] : Bs) (byteAt a0 3)) (fun x2 => .br (decide (x1 < 0)) (.leaf (0, 0)) (.br (decide (x2 < 0)) (.leaf (0, 0)) (.ck (0 ≤ (4 : Int)) (.leaf ((IntKind.u8.wrap (IntKind.i64.wrap (((BitVec.ofInt IntKind.i64.bits (IntKind.i64.wrap (x1 * 2 ^ (min (4 : Int).toNat (IntKind.i64.bits)))) ||| BitVec.ofInt IntKind.i64.bits x2).toNat : Int)))), 4))))))))))))))))))))))))
noncomputable def F87 (N : Nat) (a0 : Bs) : Option (Int × Int) := (V87 N a0).eval
def t87 : List (Nat × List Nat × List (Nat × Sh)) := []
theorem P87 (N : Nat) (a0 : Bs) : ∀ r, F87 N a0 = some r → Spec Try.prog 87 [.val tS a0] (E87 r) := fun r h => Spec_of (fn := Try.f87) rfl rfl rfl rfl false (wpc_sound (tbl := t87) (μ := []) mixed _ _ _ (by
  have h1 := Vt.sound _ h
  refine Eq.mp ?_ h1
  kernel_rfl))

/-! ferryslip/word.inner -/
def E81 : (Bs × Bool) → D := fun x => .tup [encV tS x.1, encV tB x.2]
abbrev l81_2 : List (Nat × Sh) := [(0, .val tS), (4, .grp false 4 59 [.slf, .buf 5])]
noncomputable def b81_2 : Code := loopBody 2 (bodyOf Try.f81)
noncomputable def U81_2 (N : Nat) (s0 : Bs) (s4 : (Bool × (List Int))) : Vt (Lp (shTy l81_2).I (Bs × Bool)) (O3 (Option D)) (encO 22 l81_2 [0] (fun q => some (E81 q))) :=
  .br (!(s0 == ([] : Bs))) (.c2 (P87 N s0) (fun x1 x2 => .br (x2 == 0) (.leaf (.ret (([] : Bs), false))) (.cr (P63b N (true, s4.2) x1) (fun x3 => .ck ((0 : Int) ≤ x2 ∧ x2 ≤ (s0.length : Int) ∧ (s0.length : Int) ≤ (s0.length : Int)) (.leaf (.next ((slc s0 x2 (s0.length : Int)), (true, x3.2)))))))) (.leaf (.brk 0 (s0, (true, s4.2))))
noncomputable def L81_2 (N : Nat) (s0 : Bs) (s4 : (Bool × (List Int))) : Option (Lp (Bs × (Bool × (List Int))) (Bs × Bool)) := (U81_2 N s0 s4).eval
noncomputable def W81_2 (N : Nat) (x : (Bs × (Bool × (List Int)))) : Option (Lp (Bs × (Bool × (List Int))) (Bs × Bool)) := runLoop (fun x => L81_2 N x.1 x.2) N x
theorem WS81_2 (N : Nat) (x : (shTy l81_2).I) : ∀ o, W81_2 N x = some o → S Try.prog (.loop b81_2) (buildSt 22 l81_2 x) (stepZ (rdD Try.prog Try.f81 false) l81_2 (encO 22 l81_2 [0] (fun q => some (E81 q)) o)) :=
  fun o h => loop_S (l := l81_2) (step := fun x => L81_2 N x.1 x.2) (fun x o h => wpc_sound (tbl := []) (μ := [4000063]) mixed _ _ _ (by
    have h1 := Vt.sound _ h
    refine Eq.mp ?_ h1
    kernel_rfl)) N x o h
noncomputable def V81 (N : Nat) (a0 : Bs) : Vt (Bs × Bool) (Option D) (fun q => some (E81 q)) :=
  .f1 (l := l81_2) (o := W81_2 N (a0, (true, ([] : List Int)))) (WS81_2 N (a0, (true, ([] : List Int)))) (fun x1 => .cr (P32k N (true, x1.2.2)) (fun x2 => .leaf (x2, true)))
noncomputable def F81 (N : Nat) (a0 : Bs) : Option (Bs × Bool) := (V81 N a0).eval
def t81 : List (Nat × List Nat × List (Nat × Sh)) := [(2, [0], l81_2)]
theorem P81 (N : Nat) (a0 : Bs) : ∀ r, F81 N a0 = some r → Spec Try.prog 81 [.val tS a0] (E81 r) := fun r h => Spec_of (fn := Try.f81) rfl rfl rfl rfl false (wpc_sound (tbl := t81) (μ := [4000063, 5000032]) mixed _ _ _ (by
  have h1 := Vt.sound _ h
  refine Eq.mp ?_ h1
  kernel_rfl))

/-! ferryslip/word.Unquote -/
def E72 : (Bs × Int) → D := fun x => .tup [encV tS x.1, encV tI x.2]
noncomputable def V72 (N : Nat) (a0 : Bs) : Vt (Bs × Int) (Option D) (fun q => some (E72 q)) :=
  .br (!(a0 == ([] : Bs))) (.c1 (P74 N a0) (fun x1 => .br (x1 == (a0.length : Int)) (.c1 (P75 N a0) (fun x2 => .br (decide ((1 : Int) < (a0.length : Int))) (.ck (inR 0 a0.length) (.br ((byteAt a0 0) == 34) (.ck (inR (IntKind.i64.wrap ((a0.length : Int) - 1)) a0.length) (.br ((byteAt a0 (IntKind.i64.wrap ((a0.length : Int) - 1))) == 34) (.ck ((0 : Int) ≤ 1 ∧ (1 : Int) ≤ (IntKind.i64.wrap ((a0.length : Int) - 1)) ∧ (IntKind.i64.wrap ((a0.length : Int) - 1)) ≤ (a0.length : Int)) (.c2 (P81 N (slc a0 1 (IntKind.i64.wrap ((a0.length : Int) - 1)))) (fun x3 x4 => .br (!x4) (.leaf (([] : Bs), 2)) (.br (decide ((40 : Int) < (x3.length : Int))) (.leaf (([] : Bs), 5)) (.leaf (x3, 0)))))) (.br (!(!x2)) (.leaf (([] : Bs), 2)) (.br (decide ((40 : Int) < (a0.length : Int))) (.leaf (([] : Bs), 5)) (.leaf (a0, 0)))))) (.br (!(!x2)) (.leaf (([] : Bs), 2)) (.br (decide ((40 : Int) < (a0.length : Int))) (.leaf (([] : Bs), 5)) (.leaf (a0, 0)))))) (.br (!(!x2)) (.leaf (([] : Bs), 2)) (.br (decide ((40 : Int) < (a0.length : Int))) (.leaf (([] : Bs), 5)) (.leaf (a0, 0)))))) (.br (decide ((1 : Int) < (a0.length : Int))) (.ck (inR 0 a0.length) (.br ((byteAt a0 0) == 34) (.ck (inR (IntKind.i64.wrap ((a0.length : Int) - 1)) a0.length) (.br ((byteAt a0 (IntKind.i64.wrap ((a0.length : Int) - 1))) == 34) (.ck ((0 : Int) ≤ 1 ∧ (1 : Int) ≤ (IntKind.i64.wrap ((a0.length : Int) - 1)) ∧ (IntKind.i64.wrap ((a0.length : Int) - 1)) ≤ (a0.length : Int)) (.c2 (P81 N (slc a0 1 (IntKind.i64.wrap ((a0.length : Int) - 1)))) (fun x5 x6 => .br (!x6) (.leaf (([] : Bs), 2)) (.br (decide ((40 : Int) < (x5.length : Int))) (.leaf (([] : Bs), 5)) (.leaf (x5, 0)))))) (.leaf (([] : Bs), 2)))) (.leaf (([] : Bs), 2)))) (.leaf (([] : Bs), 2))))) (.br (decide ((1 : Int) < (a0.length : Int))) (.ck (inR 0 a0.length) (.br ((byteAt a0 0) == 34) (.ck (inR (IntKind.i64.wrap ((a0.length : Int) - 1)) a0.length) (.br ((byteAt a0 (IntKind.i64.wrap ((a0.length : Int) - 1))) == 34) (.ck ((0 : Int) ≤ 1 ∧ (1 : Int) ≤ (IntKind.i64.wrap ((a0.length : Int) - 1)) ∧ (IntKind.i64.wrap ((a0.length : Int) - 1)) ≤ (a0.length : Int)) (.c2 (P81 N (slc a0 1 (IntKind.i64.wrap ((a0.length : Int) - 1)))) (fun x7 x8 => .br (!x8) (.leaf (([] : Bs), 2)) (.br (decide ((40 : Int) < (x7.length : Int))) (.leaf (([] : Bs), 5)) (.leaf (x7, 0)))))) (.leaf (([] : Bs), 2)))) (.leaf (([] : Bs), 2)))) (.leaf (([] : Bs), 2)))
noncomputable def F72 (N : Nat) (a0 : Bs) : Option (Bs × Int) := (V72 N a0).eval
def t72 : List (Nat × List Nat × List (Nat × Sh)) := []
theorem P72 (N : Nat) (a0 : Bs) : ∀ r, F72 N a0 = some r → Spec Try.prog 72 [.val tS a0] (E72 r) := fun r h => Spec_of (fn := Try.f72) rfl rfl rfl rfl false (wpc_sound (tbl := t72) (μ := []) mixed _ _ _ (by
  have h1 := Vt.sound _ h
  refine Eq.mp ?_ h1
  kernel_rfl))

/-! ferryslip/lex.token -/
def E57 : ((Int × Ln) × Int × Int) → D := fun x => .tup [encV (.pair tI tLn) x.1, encV tI x.2.1, encV tI x.2.2]
noncomputable def V57 (N : Nat) (a0 : Bs) (a1 : Int) : Vt ((Int × Ln) × Int × Int) (Option D) (fun q => some (E57 q)) :=
  .ck (inR a1 a0.length) (.c1 (P69 N (byteAt a0 a1)) (fun x1 => .br (decide ((0 : Int) < x1)) (.leaf ((x1, a1, ([] : Bs), 0), (IntKind.i64.wrap (a1 + 1)), 0)) (.c2 (P70 N a0 a1) (fun x2 x3 => .br (!x3) (.leaf ((0, 0, ([] : Bs), 0), 0, 2)) (.ck ((0 : Int) ≤ a1 ∧ a1 ≤ x2 ∧ x2 ≤ (a0.length : Int)) (.c1 (P71 N (slc a0 a1 x2)) (fun x4 => .br (decide ((0 : Int) < x4)) (.leaf ((5, a1, ([] : Bs), x4), x2, 0)) (.ck ((0 : Int) ≤ a1 ∧ a1 ≤ x2 ∧ x2 ≤ (a0.length : Int)) (.c2 (P72 N (slc a0 a1 x2)) (fun x5 x6 => .leaf ((1, a1, x5, 0), x2, x6)))))))))))
noncomputable def F57 (N : Nat) (a0 : Bs) (a1 : Int) : Option ((Int × Ln) × Int × Int) := (V57 N a0 a1).eval
def t57 : List (Nat × List Nat × List (Nat × Sh)) := []
theorem P57 (N : Nat) (a0 : Bs) (a1 : Int) : ∀ r, F57 N a0 a1 = some r → Spec Try.prog 57 [.val tS a0, .val tI a1] (E57 r) := fun r h => Spec_of (fn := Try.f57) rfl rfl rfl rfl false (wpc_sound (tbl := t57) (μ := []) mixed _ _ _ (by
  have h1 := Vt.sound _ h
  refine Eq.mp ?_ h1
  kernel_rfl))

/-! ferryslip/lex.All -/
def E36 : ((List (Int × Ln)) × Int × Int) → D := fun x => .tup [encV (.list (.pair tI tLn)) x.1, encV tI x.2.1, encV tI x.2.2]
abbrev l36_3 : List (Nat × Sh) := [(0, .val tS), (5, .row false 42 76 (.pair tI tLn)), (6, .val tI)]
noncomputable def b36_3 : Code := loopBody 3 (bodyOf Try.f36)
noncomputable def U36_3 (N : Nat) (s0 : Bs) (s5 : (List (Int × Ln))) (s6 : Int) : Vt (Lp (shTy l36_3).I ((List (Int × Ln)) × Int × Int)) (O3 (Option D)) (encO 44 l36_3 [] (fun q => some (E36 q))) :=
  .c2 (P56 N s0 s6) (fun x1 x2 => .br (!x2) (.leaf (.ret (([] : (List (Int × Ln))), x1, 2))) (.br (x1 == (s0.length : Int)) (.leaf (.ret (s5, 0, 0))) (.c3 (P57 N s0 x1) (fun x3 x4 x5 => .br (x5 != 0) (.leaf (.ret (([] : (List (Int × Ln))), x1, x5))) (.ck (room (s5.length + ([x3] : (List (Int × Ln))).length)) (.leaf (.next (s0, (s5 ++ ([x3] : (List (Int × Ln)))), x4))))))))
noncomputable def L36_3 (N : Nat) (s0 : Bs) (s5 : (List (Int × Ln))) (s6 : Int) : Option (Lp (Bs × (List (Int × Ln)) × Int) ((List (Int × Ln)) × Int × Int)) := (U36_3 N s0 s5 s6).eval
noncomputable def W36_3 (N : Nat) (x : (Bs × (List (Int × Ln)) × Int)) : Option (Lp (Bs × (List (Int × Ln)) × Int) ((List (Int × Ln)) × Int × Int)) := runLoop (fun x => L36_3 N x.1 x.2.1 x.2.2) N x
theorem WS36_3 (N : Nat) (x : (shTy l36_3).I) : ∀ o, W36_3 N x = some o → S Try.prog (.loop b36_3) (buildSt 44 l36_3 x) (stepZ (rdD Try.prog Try.f36 false) l36_3 (encO 44 l36_3 [] (fun q => some (E36 q)) o)) :=
  fun o h => loop_S (l := l36_3) (step := fun x => L36_3 N x.1 x.2.1 x.2.2) (fun x o h => wpc_sound (tbl := []) (μ := []) mixed _ _ _ (by
    have h1 := Vt.sound _ h
    refine Eq.mp ?_ h1
    kernel_rfl)) N x o h
noncomputable def V36 (N : Nat) (a0 : Bs) : Vt ((List (Int × Ln)) × Int × Int) (Option D) (fun q => some (E36 q)) :=
  .f0 (l := l36_3) (o := W36_3 N (a0, ([] : (List (Int × Ln))), 0)) (WS36_3 N (a0, ([] : (List (Int × Ln))), 0))
noncomputable def F36 (N : Nat) (a0 : Bs) : Option ((List (Int × Ln)) × Int × Int) := (V36 N a0).eval
def t36 : List (Nat × List Nat × List (Nat × Sh)) := [(3, [], l36_3)]
theorem P36 (N : Nat) (a0 : Bs) : ∀ r, F36 N a0 = some r → Spec Try.prog 36 [.val tS a0] (E36 r) := fun r h => Spec_of (fn := Try.f36) rfl rfl rfl rfl false (wpc_sound (tbl := t36) (μ := []) mixed _ _ _ (by
  have h1 := Vt.sound _ h
  refine Eq.mp ?_ h1
  kernel_rfl))

/-! ferryslip/lines.bits -/
def E58 : Int → D := fun x => encV tI x
noncomputable def V58 (N : Nat) (a0 : Bs) : Vt Int (Option D) (fun q => some (E58 q)) :=
  .br (a0 == ([115, 101, 116] : Bs)) (.leaf 0) (.br (a0 == ([100, 101, 97, 99, 116, 105, 118, 97, 116, 101] : Bs)) (.leaf 1) (.br (a0 == ([112, 114, 111, 116, 101, 99, 116] : Bs)) (.leaf 2) (.leaf (-1))))
noncomputable def F58 (N : Nat) (a0 : Bs) : Option Int := (V58 N a0).eval
def t58 : List (Nat × List Nat × List (Nat × Sh)) := []
theorem P58 (N : Nat) (a0 : Bs) : ∀ r, F58 N a0 = some r → Spec Try.prog 58 [.val tS a0] (E58 r) := fun r h => Spec_of (fn := Try.f58) rfl rfl rfl rfl false (wpc_sound (tbl := t58) (μ := []) mixed _ _ _ (by
  have h1 := Vt.sound _ h
  refine Eq.mp ?_ h1
  kernel_rfl))

/-! ferryslip/lines.cut -/
def E37 : ((List Bs) × Int × Int × Int) → D := fun x => .tup [encV (.list tS) x.1, encV tI x.2.1, encV tI x.2.2.1, encV tI x.2.2.2]
abbrev l37_3 : List (Nat × Sh) := [(1, .val tI), (8, .row false 57 9 tS), (11, .val (.list (.pair tI tLn))), (12, .val tI), (13, .val tI)]
noncomputable def b37_3 : Code := loopBody 3 (bodyOf Try.f37)
noncomputable def U37_3 (N : Nat) (s1 : Int) (s8 : (List Bs)) (s11 : (List (Int × Ln))) (s12 : Int) (s13 : Int) : Vt (Lp (shTy l37_3).I ((List Bs) × Int × Int × Int)) (O3 (Option D)) (encO 60 l37_3 [0] (fun q => some (E37 q))) :=
  .br (decide (s13 < s12)) (.ck (inR s13 s11.length) (.br (((atI (.pair tI tLn) s11 s13).1) == 4) (.br (decide ((1 : Int) < s13)) (.leaf (.ret (s8, (IntKind.i64.wrap (s13 + 1)), 0, 0))) (.br (((atI (.pair tI tLn) s11 s13).1) != 1) (.leaf (.ret (([] : (List Bs)), 0, (atI (.pair tI tLn) s11 s13).2.1, 2))) (.br (s13 == 0) (.c1 (P58 N ((atI (.pair tI tLn) s11 s13).2.2.1)) (fun x1 => .br (decide (x1 < 0)) (.leaf (.ret (([] : (List Bs)), 0, (atI (.pair tI tLn) s11 s13).2.1, 2))) (.br (decide ((16 : Int) < s13)) (.leaf (.ret (([] : (List Bs)), 0, (atI (.pair tI tLn) s11 s13).2.1, 6))) (.br (decide ((0 : Int) < s13)) (.ck (room (s8.length + ([(atI (.pair tI tLn) s11 s13).2.2.1] : (List Bs)).length)) (.leaf (.next (s1, (s8 ++ ([(atI (.pair tI tLn) s11 s13).2.2.1] : (List Bs))), s11, s12, (IntKind.i64.wrap (s13 + 1)))))) (.leaf (.next (s1, s8, s11, s12, (IntKind.i64.wrap (s13 + 1))))))))) (.br (decide ((16 : Int) < s13)) (.leaf (.ret (([] : (List Bs)), 0, (atI (.pair tI tLn) s11 s13).2.1, 6))) (.br (decide ((0 : Int) < s13)) (.ck (room (s8.length + ([(atI (.pair tI tLn) s11 s13).2.2.1] : (List Bs)).length)) (.leaf (.next (s1, (s8 ++ ([(atI (.pair tI tLn) s11 s13).2.2.1] : (List Bs))), s11, s12, (IntKind.i64.wrap (s13 + 1)))))) (.leaf (.next (s1, s8, s11, s12, (IntKind.i64.wrap (s13 + 1)))))))))) (.br (((atI (.pair tI tLn) s11 s13).1) != 1) (.leaf (.ret (([] : (List Bs)), 0, (atI (.pair tI tLn) s11 s13).2.1, 2))) (.br (s13 == 0) (.c1 (P58 N ((atI (.pair tI tLn) s11 s13).2.2.1)) (fun x2 => .br (decide (x2 < 0)) (.leaf (.ret (([] : (List Bs)), 0, (atI (.pair tI tLn) s11 s13).2.1, 2))) (.br (decide ((16 : Int) < s13)) (.leaf (.ret (([] : (List Bs)), 0, (atI (.pair tI tLn) s11 s13).2.1, 6))) (.br (decide ((0 : Int) < s13)) (.ck (room (s8.length + ([(atI (.pair tI tLn) s11 s13).2.2.1] : (List Bs)).length)) (.leaf (.next (s1, (s8 ++ ([(atI (.pair tI tLn) s11 s13).2.2.1] : (List Bs))), s11, s12, (IntKind.i64.wrap (s13 + 1)))))) (.leaf (.next (s1, s8, s11, s12, (IntKind.i64.wrap (s13 + 1))))))))) (.br (decide ((16 : Int) < s13)) (.leaf (.ret (([] : (List Bs)), 0, (atI (.pair tI tLn) s11 s13).2.1, 6))) (.br (decide ((0 : Int) < s13)) (.ck (room (s8.length + ([(atI (.pair tI tLn) s11 s13).2.2.1] : (List Bs)).length)) (.leaf (.next (s1, (s8 ++ ([(atI (.pair tI tLn) s11 s13).2.2.1] : (List Bs))), s11, s12, (IntKind.i64.wrap (s13 + 1)))))) (.leaf (.next (s1, s8, s11, s12, (IntKind.i64.wrap (s13 + 1))))))))))) (.leaf (.brk 0 (s1, s8, s11, s12, s13)))
noncomputable def L37_3 (N : Nat) (s1 : Int) (s8 : (List Bs)) (s11 : (List (Int × Ln))) (s12 : Int) (s13 : Int) : Option (Lp (Int × (List Bs) × (List (Int × Ln)) × Int × Int) ((List Bs) × Int × Int × Int)) := (U37_3 N s1 s8 s11 s12 s13).eval
noncomputable def W37_3 (N : Nat) (x : (Int × (List Bs) × (List (Int × Ln)) × Int × Int)) : Option (Lp (Int × (List Bs) × (List (Int × Ln)) × Int × Int) ((List Bs) × Int × Int × Int)) := runLoop (fun x => L37_3 N x.1 x.2.1 x.2.2.1 x.2.2.2.1 x.2.2.2.2) N x
theorem WS37_3 (N : Nat) (x : (shTy l37_3).I) : ∀ o, W37_3 N x = some o → S Try.prog (.loop b37_3) (buildSt 60 l37_3 x) (stepZ (rdD Try.prog Try.f37 false) l37_3 (encO 60 l37_3 [0] (fun q => some (E37 q)) o)) :=
  fun o h => loop_S (l := l37_3) (step := fun x => L37_3 N x.1 x.2.1 x.2.2.1 x.2.2.2.1 x.2.2.2.2) (fun x o h => wpc_sound (tbl := []) (μ := []) mixed _ _ _ (by
    have h1 := Vt.sound _ h
    refine Eq.mp ?_ h1
    kernel_rfl)) N x o h
noncomputable def V37 (N : Nat) (a0 : (List (Int × Ln))) (a1 : Int) : Vt ((List Bs) × Int × Int × Int) (Option D) (fun q => some (E37 q)) :=
  .f1 (l := l37_3) (o := W37_3 N (a1, ([] : (List Bs)), a0, (a0.length : Int), 0)) (WS37_3 N (a1, ([] : (List Bs)), a0, (a0.length : Int), 0)) (fun x2 => .leaf (([] : (List Bs)), 0, x2.1, 2))
noncomputable def F37 (N : Nat) (a0 : (List (Int × Ln))) (a1 : Int) : Option ((List Bs) × Int × Int × Int) := (V37 N a0 a1).eval
def t37 : List (Nat × List Nat × List (Nat × Sh)) := [(3, [0], l37_3)]
theorem P37 (N : Nat) (a0 : (List (Int × Ln))) (a1 : Int) : ∀ r, F37 N a0 a1 = some r → Spec Try.prog 37 [.val (.list (.pair tI tLn)) a0, .val tI a1] (E37 r) := fun r h => Spec_of (fn := Try.f37) rfl rfl rfl rfl false (wpc_sound (tbl := t37) (μ := []) mixed _ _ _ (by
  have h1 := Vt.sound _ h
  refine Eq.mp ?_ h1
  kernel_rfl))

/-! ferryslip/tree.Find -/
def E20 : (Int × Bool) → D := fun x => .tup [encV tI x.1, encV tB x.2]
abbrev l20_5 : List (Nat × Sh) := [(1, .val (.list tS)), (6, .val tI), (22, .val (.list tLn)), (23, .val tI), (24, .val tI)]
noncomputable def b20_5 : Code := loopBody 5 (bodyOf Try.f20)
noncomputable def U20_5 (N : Nat) (s1 : (List Bs)) (s6 : Int) (s22 : (List Ln)) (s23 : Int) (s24 : Int) : Vt (Lp (shTy l20_5).I (Int × Bool)) (O3 (Option D)) (encO 58 l20_5 [0] (fun q => some (E20 q))) :=
  .br (decide (s24 < s23)) (.ck (inR s24 s22.length) (.br (decide (((atI tLn s22 s24).1) < s6)) (.leaf (.ret (0, false))) (.br (decide (s6 < ((atI tLn s22 s24).1))) (.leaf (.next (s1, s6, s22, s23, (IntKind.i64.wrap (s24 + 1))))) (.ck (inR s6 s1.length) (.br (!(((atI tLn s22 s24).2.1) == (atI tS s1 s6))) (.leaf (.next (s1, s6, s22, s23, (IntKind.i64.wrap (s24 + 1))))) (.br (s6 == (IntKind.i64.wrap ((s1.length : Int) - 1))) (.leaf (.ret (s24, true))) (.leaf (.next (s1, (IntKind.i64.wrap (s6 + 1)), s22, s23, (IntKind.i64.wrap (s24 + 1))))))))))) (.leaf (.brk 0 (s1, s6, s22, s23, s24)))
noncomputable def L20_5 (N : Nat) (s1 : (List Bs)) (s6 : Int) (s22 : (List Ln)) (s23 : Int) (s24 : Int) : Option (Lp ((List Bs) × Int × (List Ln) × Int × Int) (Int × Bool)) := (U20_5 N s1 s6 s22 s23 s24).eval
noncomputable def W20_5 (N : Nat) (x : ((List Bs) × Int × (List Ln) × Int × Int)) : Option (Lp ((List Bs) × Int × (List Ln) × Int × Int) (Int × Bool)) := runLoop (fun x => L20_5 N x.1 x.2.1 x.2.2.1 x.2.2.2.1 x.2.2.2.2) N x
theorem WS20_5 (N : Nat) (x : (shTy l20_5).I) : ∀ o, W20_5 N x = some o → S Try.prog (.loop b20_5) (buildSt 58 l20_5 x) (stepZ (rdD Try.prog Try.f20 false) l20_5 (encO 58 l20_5 [0] (fun q => some (E20 q)) o)) :=
  fun o h => loop_S (l := l20_5) (step := fun x => L20_5 N x.1 x.2.1 x.2.2.1 x.2.2.2.1 x.2.2.2.2) (fun x o h => wpc_sound (tbl := []) (μ := []) mixed _ _ _ (by
    have h1 := Vt.sound _ h
    refine Eq.mp ?_ h1
    kernel_rfl)) N x o h
noncomputable def V20 (N : Nat) (a0 : (List Ln)) (a1 : (List Bs)) : Vt (Int × Bool) (Option D) (fun q => some (E20 q)) :=
  .c1 (P21 N a0) (fun x1 => .br (!x1) (.leaf (0, false)) (.br ((a1.length : Int) == 0) (.leaf (0, false)) (.br (decide ((16 : Int) < (a1.length : Int))) (.leaf (0, false)) (.f1 (l := l20_5) (o := W20_5 N (a1, 0, a0, (a0.length : Int), 0)) (WS20_5 N (a1, 0, a0, (a0.length : Int), 0)) (fun x2 => .leaf (0, false))))))
noncomputable def F20 (N : Nat) (a0 : (List Ln)) (a1 : (List Bs)) : Option (Int × Bool) := (V20 N a0 a1).eval
def t20 : List (Nat × List Nat × List (Nat × Sh)) := [(5, [0], l20_5)]
theorem P20 (N : Nat) (a0 : (List Ln)) (a1 : (List Bs)) : ∀ r, F20 N a0 a1 = some r → Spec Try.prog 20 [.val (.list tLn) a0, .val (.list tS) a1] (E20 r) := fun r h => Spec_of (fn := Try.f20) rfl rfl rfl rfl false (wpc_sound (tbl := t20) (μ := []) mixed _ _ _ (by
  have h1 := Vt.sound _ h
  refine Eq.mp ?_ h1
  kernel_rfl))

/-! ferryslip/lines.sound$1 -/
def E44 : Bool → D := fun x => encV tB x
noncomputable def V44 (N : Nat) (a0 : Bs) : Vt Bool (Option D) (fun q => some (E44 q)) :=
  .leaf (decide ((40 : Int) < (a0.length : Int)))
noncomputable def F44 (N : Nat) (a0 : Bs) : Option Bool := (V44 N a0).eval
def t44 : List (Nat × List Nat × List (Nat × Sh)) := []
theorem P44 (N : Nat) (a0 : Bs) : ∀ r, F44 N a0 = some r → Spec Try.prog 44 [.val tS a0] (E44 r) := fun r h => Spec_of (fn := Try.f44) rfl rfl rfl rfl false (wpc_sound (tbl := t44) (μ := []) mixed _ _ _ (by
  have h1 := Vt.sound _ h
  refine Eq.mp ?_ h1
  kernel_rfl))

/-! slices.IndexFunc[[]string,string] -/
def E59C44 : Int → D := fun x => encV tI x
abbrev l59C44_2 : List (Nat × Sh) := [(0, .val (.list tS)), (1, .fnc 44), (7, .val tI), (8, .val tI)]
noncomputable def b59C44_2 : Code := loopBody 2 (bodyOf Try.f59)
noncomputable def U59C44_2 (N : Nat) (s0 : (List Bs)) (s1 : Bool) (s7 : Int) (s8 : Int) : Vt (Lp (shTy l59C44_2).I Int) (O3 (Option D)) (encO 19 l59C44_2 [0] (fun q => some (E59C44 q))) :=
  .br (decide (s8 < s7)) (.ck (inR s8 s0.length) (.c1 (P44 N (atI tS s0 s8)) (fun x1 => .br x1 (.leaf (.ret s8)) (.leaf (.next (s0, true, s7, (IntKind.i64.wrap (s8 + 1)))))))) (.leaf (.brk 0 (s0, true, s7, s8)))
noncomputable def L59C44_2 (N : Nat) (s0 : (List Bs)) (s1 : Bool) (s7 : Int) (s8 : Int) : Option (Lp ((List Bs) × Bool × Int × Int) Int) := (U59C44_2 N s0 s1 s7 s8).eval
noncomputable def W59C44_2 (N : Nat) (x : ((List Bs) × Bool × Int × Int)) : Option (Lp ((List Bs) × Bool × Int × Int) Int) := runLoop (fun x => L59C44_2 N x.1 x.2.1 x.2.2.1 x.2.2.2) N x
theorem WS59C44_2 (N : Nat) (x : (shTy l59C44_2).I) : ∀ o, W59C44_2 N x = some o → S Try.prog (.loop b59C44_2) (buildSt 19 l59C44_2 x) (stepZ (rdD Try.prog Try.f59 false) l59C44_2 (encO 19 l59C44_2 [0] (fun q => some (E59C44 q)) o)) :=
  fun o h => loop_S (l := l59C44_2) (step := fun x => L59C44_2 N x.1 x.2.1 x.2.2.1 x.2.2.2) (fun x o h => wpc_sound (tbl := []) (μ := []) mixed _ _ _ (by
    have h1 := Vt.sound _ h
    refine Eq.mp ?_ h1
    kernel_rfl)) N x o h
noncomputable def V59C44 (N : Nat) (a0 : (List Bs)) : Vt Int (Option D) (fun q => some (E59C44 q)) :=
  .f1 (l := l59C44_2) (o := W59C44_2 N (a0, true, (a0.length : Int), 0)) (WS59C44_2 N (a0, true, (a0.length : Int), 0)) (fun x1 => .leaf (-1))
noncomputable def F59C44 (N : Nat) (a0 : (List Bs)) : Option Int := (V59C44 N a0).eval
def t59C44 : List (Nat × List Nat × List (Nat × Sh)) := [(2, [0], l59C44_2)]
theorem P59C44 (N : Nat) (a0 : (List Bs)) : ∀ r, F59C44 N a0 = some r → Spec Try.prog 59 [.val (.list tS) a0, .fn (.func 44)] (E59C44 r) := fun r h => Spec_of (fn := Try.f59) rfl rfl rfl rfl false (wpc_sound (tbl := t59C44) (μ := []) mixed _ _ _ (by
  have h1 := Vt.sound _ h
  refine Eq.mp ?_ h1
  kernel_rfl))

/-! slices.ContainsFunc[[]string,string] -/
def E43C44 : Bool → D := fun x => encV tB x
noncomputable def V43C44 (N : Nat) (a0 : (List Bs)) : Vt Bool (Option D) (fun q => some (E43C44 q)) :=
  .c1 (P59C44 N a0) (fun x1 => .leaf (decide ((0 : Int) ≤ x1)))
noncomputable def F43C44 (N : Nat) (a0 : (List Bs)) : Option Bool := (V43C44 N a0).eval
def t43C44 : List (Nat × List Nat × List (Nat × Sh)) := []
theorem P43C44 (N : Nat) (a0 : (List Bs)) : ∀ r, F43C44 N a0 = some r → Spec Try.prog 43 [.val (.list tS) a0, .fn (.func 44)] (E43C44 r) := fun r h => Spec_of (fn := Try.f43) rfl rfl rfl rfl false (wpc_sound (tbl := t43C44) (μ := []) mixed _ _ _ (by
  have h1 := Vt.sound _ h
  refine Eq.mp ?_ h1
  kernel_rfl))

/-! ferryslip/lines.sound -/
def E24 : Bool → D := fun x => encV tB x
noncomputable def V24 (N : Nat) (a0 : (List Bs)) : Vt Bool (Option D) (fun q => some (E24 q)) :=
  .br (decide ((0 : Int) < (a0.length : Int))) (.c1 (P43C44 N a0) (fun x1 => .leaf (!x1))) (.leaf false)
noncomputable def F24 (N : Nat) (a0 : (List Bs)) : Option Bool := (V24 N a0).eval
def t24 : List (Nat × List Nat × List (Nat × Sh)) := []
theorem P24 (N : Nat) (a0 : (List Bs)) : ∀ r, F24 N a0 = some r → Spec Try.prog 24 [.val (.list tS) a0] (E24 r) := fun r h => Spec_of (fn := Try.f24) rfl rfl rfl rfl false (wpc_sound (tbl := t24) (μ := []) mixed _ _ _ (by
  have h1 := Vt.sound _ h
  refine Eq.mp ?_ h1
  kernel_rfl))

/-! slices.Clone[[]ferryslip/api.Line,ferryslip/api.Line] -/
def E26o : (List Ln) → D := fun x => .own 43 tLn x
noncomputable def V26o (N : Nat) (a0 : (List Ln)) : Vt (List Ln) (Option D) (fun q => some (E26o q)) :=
  .nq (a0 = []) (.leaf ([] : (List Ln))) (.ck (room (([] : (List Ln)).length + a0.length)) (.leaf (([] : (List Ln)) ++ a0)))
noncomputable def F26o (N : Nat) (a0 : (List Ln)) : Option (List Ln) := (V26o N a0).eval
def t26o : List (Nat × List Nat × List (Nat × Sh)) := []
theorem P26o (N : Nat) (a0 : (List Ln)) : ∀ r, F26o N a0 = some r → Spec Try.prog 26 [.val (.list tLn) a0] (E26o r) := fun r h => Spec_of (fn := Try.f26) rfl rfl rfl rfl true (wpc_sound (tbl := t26o) (μ := []) mixed _ _ _ (by
  have h1 := Vt.sound _ h
  refine Eq.mp ?_ h1
  kernel_rfl))

/-! ferryslip/tree.End -/
def E47 : Int → D := fun x => encV tI x
abbrev l47_4 : List (Nat × Sh) := [(0, .val (.list tLn)), (1, .val tI), (5, .val tI)]
noncomputable def b47_4 : Code := loopBody 4 (bodyOf Try.f47)
noncomputable def U47_4 (N : Nat) (s0 : (List Ln)) (s1 : Int) (s5 : Int) : Vt (Lp (shTy l47_4).I Int) (O3 (Option D)) (encO 32 l47_4 [0] (fun q => some (E47 q))) :=
  .br (decide (s5 < (s0.length : Int))) (.ck (inR s5 s0.length) (.ck (inR s1 s0.length) (.br (decide (((atI tLn s0 s1).1) < ((atI tLn s0 s5).1))) (.leaf (.next (s0, s1, (IntKind.i64.wrap (s5 + 1))))) (.leaf (.brk 0 (s0, s1, s5)))))) (.leaf (.brk 0 (s0, s1, s5)))
noncomputable def L47_4 (N : Nat) (s0 : (List Ln)) (s1 : Int) (s5 : Int) : Option (Lp ((List Ln) × Int × Int) Int) := (U47_4 N s0 s1 s5).eval
noncomputable def W47_4 (N : Nat) (x : ((List Ln) × Int × Int)) : Option (Lp ((List Ln) × Int × Int) Int) := runLoop (fun x => L47_4 N x.1 x.2.1 x.2.2) N x
theorem WS47_4 (N : Nat) (x : (shTy l47_4).I) : ∀ o, W47_4 N x = some o → S Try.prog (.loop b47_4) (buildSt 32 l47_4 x) (stepZ (rdD Try.prog Try.f47 false) l47_4 (encO 32 l47_4 [0] (fun q => some (E47 q)) o)) :=
  fun o h => loop_S (l := l47_4) (step := fun x => L47_4 N x.1 x.2.1 x.2.2) (fun x o h => wpc_sound (tbl := []) (μ := []) mixed _ _ _ (by
    have h1 := Vt.sound _ h
    refine Eq.mp ?_ h1
    kernel_rfl)) N x o h
noncomputable def V47 (N : Nat) (a0 : (List Ln)) (a1 : Int) : Vt Int (Option D) (fun q => some (E47 q)) :=
  .c1 (P40 N a0 a1) (fun x1 => .br (!x1) (.leaf 0) (.f1 (l := l47_4) (o := W47_4 N (a0, a1, (IntKind.i64.wrap (a1 + 1)))) (WS47_4 N (a0, a1, (IntKind.i64.wrap (a1 + 1)))) (fun x2 => .leaf x2.2.2)))
noncomputable def F47 (N : Nat) (a0 : (List Ln)) (a1 : Int) : Option Int := (V47 N a0 a1).eval
def t47 : List (Nat × List Nat × List (Nat × Sh)) := [(4, [0], l47_4)]
theorem P47 (N : Nat) (a0 : (List Ln)) (a1 : Int) : ∀ r, F47 N a0 a1 = some r → Spec Try.prog 47 [.val (.list tLn) a0, .val tI a1] (E47 r) := fun r h => Spec_of (fn := Try.f47) rfl rfl rfl rfl false (wpc_sound (tbl := t47) (μ := []) mixed _ _ _ (by
  have h1 := Vt.sound _ h
  refine Eq.mp ?_ h1
  kernel_rfl))

/-! ferryslip/tree.Kids -/
def E48o : (List Int) → D := fun x => .own 3 tI x
abbrev l48o_8 : List (Nat × Sh) := [(0, .val (.list tLn)), (6, .val tI), (7, .val tI), (8, .row false 54 3 tI), (9, .val tI)]
noncomputable def b48o_8 : Code := loopBody 8 (bodyOf Try.f48)
noncomputable def U48o_8 (N : Nat) (s0 : (List Ln)) (s6 : Int) (s7 : Int) (s8 : (List Int)) (s9 : Int) : Vt (Lp (shTy l48o_8).I (List Int)) (O3 (Option D)) (encO 56 l48o_8 [0] (fun q => some (E48o q))) :=
  .br (decide (s9 < s6)) (.ck (inR s9 s0.length) (.br (((atI tLn s0 s9).1) == s7) (.ck (room (s8.length + ([s9] : (List Int)).length)) (.leaf (.next (s0, s6, s7, (s8 ++ ([s9] : (List Int))), (IntKind.i64.wrap (s9 + 1)))))) (.leaf (.next (s0, s6, s7, s8, (IntKind.i64.wrap (s9 + 1))))))) (.leaf (.brk 0 (s0, s6, s7, s8, s9)))
noncomputable def L48o_8 (N : Nat) (s0 : (List Ln)) (s6 : Int) (s7 : Int) (s8 : (List Int)) (s9 : Int) : Option (Lp ((List Ln) × Int × Int × (List Int) × Int) (List Int)) := (U48o_8 N s0 s6 s7 s8 s9).eval
noncomputable def W48o_8 (N : Nat) (x : ((List Ln) × Int × Int × (List Int) × Int)) : Option (Lp ((List Ln) × Int × Int × (List Int) × Int) (List Int)) := runLoop (fun x => L48o_8 N x.1 x.2.1 x.2.2.1 x.2.2.2.1 x.2.2.2.2) N x
theorem WS48o_8 (N : Nat) (x : (shTy l48o_8).I) : ∀ o, W48o_8 N x = some o → S Try.prog (.loop b48o_8) (buildSt 56 l48o_8 x) (stepZ (rdD Try.prog Try.f48 true) l48o_8 (encO 56 l48o_8 [0] (fun q => some (E48o q)) o)) :=
  fun o h => loop_S (l := l48o_8) (step := fun x => L48o_8 N x.1 x.2.1 x.2.2.1 x.2.2.2.1 x.2.2.2.2) (fun x o h => wpc_sound (tbl := []) (μ := []) mixed _ _ _ (by
    have h1 := Vt.sound _ h
    refine Eq.mp ?_ h1
    kernel_rfl)) N x o h
noncomputable def V48o (N : Nat) (a0 : (List Ln)) (a1 : Int) : Vt (List Int) (Option D) (fun q => some (E48o q)) :=
  .c1 (P21 N a0) (fun x1 => .br (!x1) (.leaf ([] : (List Int))) (.br (decide (a1 < (-1))) (.leaf ([] : (List Int))) (.br (decide ((a0.length : Int) ≤ a1)) (.leaf ([] : (List Int))) (.br (decide ((0 : Int) ≤ a1)) (.c1 (P47 N a0 a1) (fun x2 => .ck (inR a1 a0.length) (.f1 (l := l48o_8) (o := W48o_8 N (a0, x2, (IntKind.i64.wrap (((atI tLn a0 a1).1) + 1)), ([] : (List Int)), (IntKind.i64.wrap (a1 + 1)))) (WS48o_8 N (a0, x2, (IntKind.i64.wrap (((atI tLn a0 a1).1) + 1)), ([] : (List Int)), (IntKind.i64.wrap (a1 + 1)))) (fun x1 => .leaf x1.2.2.2.1)))) (.f1 (l := l48o_8) (o := W48o_8 N (a0, (a0.length : Int), 0, ([] : (List Int)), 0)) (WS48o_8 N (a0, (a0.length : Int), 0, ([] : (List Int)), 0)) (fun x2 => .leaf x2.2.2.2.1))))))
noncomputable def F48o (N : Nat) (a0 : (List Ln)) (a1 : Int) : Option (List Int) := (V48o N a0 a1).eval
def t48o : List (Nat × List Nat × List (Nat × Sh)) := [(8, [0], l48o_8)]
theorem P48o (N : Nat) (a0 : (List Ln)) (a1 : Int) : ∀ r, F48o N a0 a1 = some r → Spec Try.prog 48 [.val (.list tLn) a0, .val tI a1] (E48o r) := fun r h => Spec_of (fn := Try.f48) rfl rfl rfl rfl true (wpc_sound (tbl := t48o) (μ := []) mixed _ _ _ (by
  have h1 := Vt.sound _ h
  refine Eq.mp ?_ h1
  kernel_rfl))

/-! ferryslip/lines.spot -/
def E27 : Int → D := fun x => encV tI x
abbrev l27_7 : List (Nat × Sh) := [(0, .val (.list tLn)), (2, .val tS), (9, .val tI), (26, .row false 26 3 tI), (27, .val tI), (28, .val tI)]
noncomputable def b27_7 : Code := loopBody 7 (bodyOf Try.f27)
noncomputable def U27_7 (N : Nat) (s0 : (List Ln)) (s2 : Bs) (s9 : Int) (s26 : (List Int)) (s27 : Int) (s28 : Int) : Vt (Lp (shTy l27_7).I Int) (O3 (Option D)) (encO 42 l27_7 [0] (fun q => some (E27 q))) :=
  .br (decide (s28 < s27)) (.ck (inR s28 s26.length) (.ck (inR s28 s26.length) (.ck (inR (atI tI s26 s28) s0.length) (.br (!((Op.bytesLess ((atI tLn s0 (atI tI s26 s28)).2.1) s2) || (((atI tLn s0 (atI tI s26 s28)).2.1) == s2))) (.leaf (.ret (atI tI s26 s28))) (.leaf (.next (s0, s2, s9, s26, s27, (IntKind.i64.wrap (s28 + 1))))))))) (.leaf (.brk 0 (s0, s2, s9, s26, s27, s28)))
noncomputable def L27_7 (N : Nat) (s0 : (List Ln)) (s2 : Bs) (s9 : Int) (s26 : (List Int)) (s27 : Int) (s28 : Int) : Option (Lp ((List Ln) × Bs × Int × (List Int) × Int × Int) Int) := (U27_7 N s0 s2 s9 s26 s27 s28).eval
noncomputable def W27_7 (N : Nat) (x : ((List Ln) × Bs × Int × (List Int) × Int × Int)) : Option (Lp ((List Ln) × Bs × Int × (List Int) × Int × Int) Int) := runLoop (fun x => L27_7 N x.1 x.2.1 x.2.2.1 x.2.2.2.1 x.2.2.2.2.1 x.2.2.2.2.2) N x
theorem WS27_7 (N : Nat) (x : (shTy l27_7).I) : ∀ o, W27_7 N x = some o → S Try.prog (.loop b27_7) (buildSt 42 l27_7 x) (stepZ (rdD Try.prog Try.f27 false) l27_7 (encO 42 l27_7 [0] (fun q => some (E27 q)) o)) :=
  fun o h => loop_S (l := l27_7) (step := fun x => L27_7 N x.1 x.2.1 x.2.2.1 x.2.2.2.1 x.2.2.2.2.1 x.2.2.2.2.2) (fun x o h => wpc_sound (tbl := []) (μ := [26]) mixed _ _ _ (by
    have h1 := Vt.sound _ h
    refine Eq.mp ?_ h1
    kernel_rfl)) N x o h
noncomputable def V27 (N : Nat) (a0 : (List Ln)) (a1 : (List Bs)) (a2 : Bs) : Vt Int (Option D) (fun q => some (E27 q)) :=
  .c2 (P20 N a0 a1) (fun x1 x2 => .br x2 (.c1 (P47 N a0 x1) (fun x3 => .c1 (P48o N a0 x1) (fun x4 => .f1 (l := l27_7) (o := W27_7 N (a0, a2, x3, x4, (x4.length : Int), 0)) (WS27_7 N (a0, a2, x3, x4, (x4.length : Int), 0)) (fun x5 => .leaf x5.2.2.1)))) (.c1 (P48o N a0 (-1)) (fun x6 => .f1 (l := l27_7) (o := W27_7 N (a0, a2, (a0.length : Int), x6, (x6.length : Int), 0)) (WS27_7 N (a0, a2, (a0.length : Int), x6, (x6.length : Int), 0)) (fun x7 => .leaf x7.2.2.1))))
noncomputable def F27 (N : Nat) (a0 : (List Ln)) (a1 : (List Bs)) (a2 : Bs) : Option Int := (V27 N a0 a1 a2).eval
def t27 : List (Nat × List Nat × List (Nat × Sh)) := [(7, [0], l27_7)]
theorem P27 (N : Nat) (a0 : (List Ln)) (a1 : (List Bs)) (a2 : Bs) : ∀ r, F27 N a0 a1 a2 = some r → Spec Try.prog 27 [.val (.list tLn) a0, .val (.list tS) a1, .val tS a2] (E27 r) := fun r h => Spec_of (fn := Try.f27) rfl rfl rfl rfl false (wpc_sound (tbl := t27) (μ := [26]) mixed _ _ _ (by
  have h1 := Vt.sound _ h
  refine Eq.mp ?_ h1
  kernel_rfl))

/-! ferryslip/lines.Add -/
def E13f : (Bool × (List Ln) × Int) → D := fun x => .tup [ownIf x.1 43 tLn x.2.1, encV tI x.2.2]
abbrev l13f_7 : List (Nat × Sh) := [(0, .val (.list tLn)), (1, .val (.list tS)), (6, .val (.list tLn)), (27, .val (.list tS)), (28, .val tI), (29, .val tI)]
noncomputable def b13f_7 : Code := loopBody 7 (bodyOf Try.f13)
noncomputable def U13f_7 (N : Nat) (s0 : (List Ln)) (s1 : (List Bs)) (s6 : (List Ln)) (s27 : (List Bs)) (s28 : Int) (s29 : Int) : Vt (Lp (shTy l13f_7).I (Bool × (List Ln) × Int)) (O3 (Option D)) (encO 64 l13f_7 [1] (fun q => some (E13f q))) :=
  .br (decide (s29 < s28)) (.ck (inR s29 s27.length) (.ck ((0 : Int) ≤ 0 ∧ (0 : Int) ≤ (IntKind.i64.wrap (s29 + 1)) ∧ (IntKind.i64.wrap (s29 + 1)) ≤ (s1.length : Int)) (.c2 (P20 N s6 (slc s1 0 (IntKind.i64.wrap (s29 + 1)))) (fun x1 x2 => .br x2 (.leaf (.next (s0, s1, s6, s27, s28, (IntKind.i64.wrap (s29 + 1))))) (.br (decide ((200 : Int) ≤ (s6.length : Int))) (.leaf (.ret (false, s0, 5))) (.ck ((0 : Int) ≤ 0 ∧ (0 : Int) ≤ s29 ∧ s29 ≤ (s1.length : Int)) (.nb (.c1 (P26o N s6) (fun x3 => .nb (.c1 (P27 N s6 (slc s1 0 s29) (atI tS s27 s29)) (fun x4 => .cr (P25t N x3 x4 ([(s29, (atI tS s27 s29), 0)] : (List Ln))) (fun x5 => .leaf (.next (s0, s1, x5, s27, s28, (IntKind.i64.wrap (s29 + 1))))))) (.c1 (P27 N s6 (slc s1 0 s29) (atI tS s27 s29)) (fun x6 => .cr (P25t N x3 x6 ([(s29, (atI tS s27 s29), 0)] : (List Ln))) (fun x7 => .leaf (.next (s0, s1, x7, s27, s28, (IntKind.i64.wrap (s29 + 1))))))))) (.c1 (P26o N s6) (fun x8 => .c1 (P27 N s6 (slc s1 0 s29) (atI tS s27 s29)) (fun x9 => .cr (P25t N x8 x9 ([(s29, (atI tS s27 s29), 0)] : (List Ln))) (fun x10 => .leaf (.next (s0, s1, x10, s27, s28, (IntKind.i64.wrap (s29 + 1))))))))))))))) (.leaf (.brk 0 (s0, s1, s6, s27, s28, s29)))
noncomputable def L13f_7 (N : Nat) (s0 : (List Ln)) (s1 : (List Bs)) (s6 : (List Ln)) (s27 : (List Bs)) (s28 : Int) (s29 : Int) : Option (Lp ((List Ln) × (List Bs) × (List Ln) × (List Bs) × Int × Int) (Bool × (List Ln) × Int)) := (U13f_7 N s0 s1 s6 s27 s28 s29).eval
noncomputable def W13f_7 (N : Nat) (x : ((List Ln) × (List Bs) × (List Ln) × (List Bs) × Int × Int)) : Option (Lp ((List Ln) × (List Bs) × (List Ln) × (List Bs) × Int × Int) (Bool × (List Ln) × Int)) := runLoop (fun x => L13f_7 N x.1 x.2.1 x.2.2.1 x.2.2.2.1 x.2.2.2.2.1 x.2.2.2.2.2) N x
theorem WS13f_7 (N : Nat) (x : (shTy l13f_7).I) : ∀ o, W13f_7 N x = some o → S Try.prog (.loop b13f_7) (buildSt 64 l13f_7 x) (stepZ (rdD Try.prog Try.f13 true) l13f_7 (encO 64 l13f_7 [1] (fun q => some (E13f q)) o)) :=
  fun o h => loop_S (l := l13f_7) (step := fun x => L13f_7 N x.1 x.2.1 x.2.2.1 x.2.2.2.1 x.2.2.2.2.1 x.2.2.2.2.2) (fun x o h => wpc_sound (tbl := []) (μ := [49, 60, 2000025]) mixed _ _ _ (by
    have h1 := Vt.sound _ h
    refine Eq.mp ?_ h1
    kernel_rfl)) N x o h
noncomputable def V13f (N : Nat) (a0 : (List Ln)) (a1 : (List Bs)) : Vt (Bool × (List Ln) × Int) (Option D) (fun q => some (E13f q)) :=
  .c1 (P21 N a0) (fun x1 => .br (!x1) (.leaf (false, a0, 1)) (.c1 (P24 N a1) (fun x2 => .br (!x2) (.leaf (false, a0, 1)) (.br (decide ((16 : Int) < (a1.length : Int))) (.leaf (false, a0, 6)) (.f1 (l := l13f_7) (o := W13f_7 N (a0, a1, a0, a1, (a1.length : Int), 0)) (WS13f_7 N (a0, a1, a0, a1, (a1.length : Int), 0)) (fun x3 => .c1 (P26o N x3.2.2.1) (fun x4 => .leaf (true, x4, 0))))))))
noncomputable def F13f (N : Nat) (a0 : (List Ln)) (a1 : (List Bs)) : Option (Bool × (List Ln) × Int) := (V13f N a0 a1).eval
def t13f : List (Nat × List Nat × List (Nat × Sh)) := [(7, [1], l13f_7)]
theorem P13f (N : Nat) (a0 : (List Ln)) (a1 : (List Bs)) : ∀ r, F13f N a0 a1 = some r → Spec Try.prog 13 [.val (.list tLn) a0, .val (.list tS) a1] (E13f r) := fun r h => Spec_of (fn := Try.f13) rfl rfl rfl rfl true (wpc_sound (tbl := t13f) (μ := [49, 60, 63, 2000025]) mixed _ _ _ (by
  have h1 := Vt.sound _ h
  refine Eq.mp ?_ h1
  kernel_rfl))

/-! ferryslip/lines.act -/
def E38 : ((List Ln) × Int) → D := fun x => .tup [encV (.list tLn) x.1, encV tI x.2]
noncomputable def V38 (N : Nat) (a0 : (List Ln)) (a1 : Bs) (a2 : (List Bs)) : Vt ((List Ln) × Int) (Option D) (fun q => some (E38 q)) :=
  .c1 (P58 N a1) (fun x1 => .br (x1 == 0) (.c3 (P13f N a0 a2) (fun x4 x2 x3 => .br x4 (.leaf (x2, x3)) (.leaf (x2, x3)))) (.c2 (P20 N a0 a2) (fun x5 x6 => .br (!x6) (.leaf (a0, 3)) (.c1 (P26o N a0) (fun x7 => .ck (inR x5 x7.length) (.ck (inR x5 x7.length) (.ck (inR x5 x7.length) (.ck (inR x5 x7.length) (.leaf ((x7.set x5.toNat ((atI tLn x7 x5).1, (atI tLn x7 x5).2.1, (IntKind.i64.wrap (((BitVec.ofInt IntKind.i64.bits ((atI tLn x7 x5).2.2) ||| BitVec.ofInt IntKind.i64.bits x1).toNat : Int))))), 0))))))))))
noncomputable def F38 (N : Nat) (a0 : (List Ln)) (a1 : Bs) (a2 : (List Bs)) : Option ((List Ln) × Int) := (V38 N a0 a1 a2).eval
def t38 : List (Nat × List Nat × List (Nat × Sh)) := []
theorem P38 (N : Nat) (a0 : (List Ln)) (a1 : Bs) (a2 : (List Bs)) : ∀ r, F38 N a0 a1 a2 = some r → Spec Try.prog 38 [.val (.list tLn) a0, .val tS a1, .val (.list tS) a2] (E38 r) := fun r h => Spec_of (fn := Try.f38) rfl rfl rfl rfl false (wpc_sound (tbl := t38) (μ := [18, 31, 3000018]) mixed _ _ _ (by
  have h1 := Vt.sound _ h
  refine Eq.mp ?_ h1
  kernel_rfl))

/-! ferryslip/lines.Read -/
def E19 : ((List Ln) × Int × Int) → D := fun x => .tup [encV (.list tLn) x.1, encV tI x.2.1, encV tI x.2.2]
abbrev l19_5 : List (Nat × Sh) := [(0, .val tS), (5, .val (.list (.pair tI tLn))), (8, .val (.list tLn))]
noncomputable def b19_5 : Code := loopBody 5 (bodyOf Try.f19)
noncomputable def U19_5 (N : Nat) (s0 : Bs) (s5 : (List (Int × Ln))) (s8 : (List Ln)) : Vt (Lp (shTy l19_5).I ((List Ln) × Int × Int)) (O3 (Option D)) (encO 60 l19_5 [0] (fun q => some (E19 q))) :=
  .br (decide ((0 : Int) < (s5.length : Int))) (.c4 (P37 N s5 (s0.length : Int)) (fun x1 x2 x3 x4 => .br (x4 != 0) (.leaf (.ret (([] : (List Ln)), x3, x4))) (.ck (inR 0 s5.length) (.c2 (P38 N s8 ((atI (.pair tI tLn) s5 0).2.2.1) x1) (fun x5 x6 => .br (x6 != 0) (.ck (inR 0 s5.length) (.leaf (.ret (([] : (List Ln)), (atI (.pair tI tLn) s5 0).2.1, x6)))) (.ck ((0 : Int) ≤ x2 ∧ x2 ≤ (s5.length : Int) ∧ (s5.length : Int) ≤ (s5.length : Int)) (.leaf (.next (s0, (slc s5 x2 (s5.length : Int)), x5))))))))) (.leaf (.brk 0 (s0, s5, s8)))
noncomputable def L19_5 (N : Nat) (s0 : Bs) (s5 : (List (Int × Ln))) (s8 : (List Ln)) : Option (Lp (Bs × (List (Int × Ln)) × (List Ln)) ((List Ln) × Int × Int)) := (U19_5 N s0 s5 s8).eval
noncomputable def W19_5 (N : Nat) (x : (Bs × (List (Int × Ln)) × (List Ln))) : Option (Lp (Bs × (List (Int × Ln)) × (List Ln)) ((List Ln) × Int × Int)) := runLoop (fun x => L19_5 N x.1 x.2.1 x.2.2) N x
theorem WS19_5 (N : Nat) (x : (shTy l19_5).I) : ∀ o, W19_5 N x = some o → S Try.prog (.loop b19_5) (buildSt 60 l19_5 x) (stepZ (rdD Try.prog Try.f19 false) l19_5 (encO 60 l19_5 [0] (fun q => some (E19 q)) o)) :=
  fun o h => loop_S (l := l19_5) (step := fun x => L19_5 N x.1 x.2.1 x.2.2) (fun x o h => wpc_sound (tbl := []) (μ := []) mixed _ _ _ (by
    have h1 := Vt.sound _ h
    refine Eq.mp ?_ h1
    kernel_rfl)) N x o h
noncomputable def V19 (N : Nat) (a0 : Bs) : Vt ((List Ln) × Int × Int) (Option D) (fun q => some (E19 q)) :=
  .c3 (P36 N a0) (fun x1 x2 x3 => .br (x3 != 0) (.leaf (([] : (List Ln)), x2, x3)) (.f1 (l := l19_5) (o := W19_5 N (a0, x1, ([] : (List Ln)))) (WS19_5 N (a0, x1, ([] : (List Ln)))) (fun x4 => .leaf (x4.2.2, 0, 0))))
noncomputable def F19 (N : Nat) (a0 : Bs) : Option ((List Ln) × Int × Int) := (V19 N a0).eval
def t19 : List (Nat × List Nat × List (Nat × Sh)) := [(5, [0], l19_5)]
theorem P19 (N : Nat) (a0 : Bs) : ∀ r, F19 N a0 = some r → Spec Try.prog 19 [.val tS a0] (E19 r) := fun r h => Spec_of (fn := Try.f19) rfl rfl rfl rfl false (wpc_sound (tbl := t19) (μ := []) mixed _ _ _ (by
  have h1 := Vt.sound _ h
  refine Eq.mp ?_ h1
  kernel_rfl))

/-! ferryslip/ferrysliplaw06.awake -/
def E12 : Bool → D := fun x => encV tB x
noncomputable def V12 (N : Nat)  : Vt Bool (Option D) (fun q => some (E12 q)) :=
  .c3 (P19 N ([115, 101, 116, 32, 97, 32, 99, 59, 32, 115, 101, 116, 32, 97, 32, 98, 59, 32, 112, 114, 111, 116, 101, 99, 116, 32, 97, 32, 98, 59] : Bs)) (fun x1 x2 x3 => .c2 (P16 N x1) (fun x4 x5 => .c3 (P19 N ([115, 101, 116, 32, 97, 59, 32, 100, 101, 97, 99, 116, 105, 118, 97, 116, 101, 32, 98, 59] : Bs)) (fun x6 x7 x8 => .br (x3 == 0) (.br ((x1.length : Int) == 3) (.ck (inR 1 x1.length) (.br ((((atI tLn x1 1).1) == 1) && ((((atI tLn x1 1).2.1) == ([98] : Bs)) && ((((atI tLn x1 1).2.2) == 2) && true))) (.br (x4 == ([115, 101, 116, 32, 97, 32, 98, 59, 10, 115, 101, 116, 32, 97, 32, 99, 59, 10, 112, 114, 111, 116, 101, 99, 116, 32, 97, 32, 98, 59, 10] : Bs)) (.br (x5 == 0) (.br (x7 == 7) (.leaf (x8 == 3)) (.leaf false)) (.leaf false)) (.leaf false)) (.leaf false))) (.leaf false)) (.leaf false))))
noncomputable def F12 (N : Nat)  : Option Bool := (V12 N ).eval
def t12 : List (Nat × List Nat × List (Nat × Sh)) := []
theorem P12 (N : Nat)  : ∀ r, F12 N  = some r → Spec Try.prog 12 [] (E12 r) := fun r h => Spec_of (fn := Try.f12) rfl rfl rfl rfl false (wpc_sound (tbl := t12) (μ := []) mixed _ _ _ (by
  have h1 := Vt.sound _ h
  refine Eq.mp ?_ h1
  kernel_rfl))

/-! ferryslip/ferryslipref03.Right -/
def E17 : Bool → D := fun x => encV tB x
abbrev l17_4 : List (Nat × Sh) := [(0, .val (.list tLn)), (3, .val tI)]
noncomputable def b17_4 : Code := loopBody 4 (bodyOf Try.f17)
noncomputable def U17_4 (N : Nat) (s0 : (List Ln)) (s3 : Int) : Vt (Lp (shTy l17_4).I Bool) (O3 (Option D)) (encO 118 l17_4 [0] (fun q => some (E17 q))) :=
  .br (decide (s3 < (s0.length : Int))) (.ck (inR s3 s0.length) (.br (decide (((atI tLn s0 s3).1) < 0)) (.leaf (.ret false)) (.br (decide ((15 : Int) < ((atI tLn s0 s3).1))) (.leaf (.ret false)) (.br (decide ((40 : Int) < (((atI tLn s0 s3).2.1).length : Int))) (.leaf (.ret false)) (.br (decide (((atI tLn s0 s3).2.2) < 0)) (.leaf (.ret false)) (.br (decide ((3 : Int) < ((atI tLn s0 s3).2.2))) (.leaf (.ret false)) (.br (s3 == 0) (.br (((atI tLn s0 s3).1) != 0) (.leaf (.ret false)) (.br (decide ((0 : Int) < s3)) (.ck (inR (IntKind.i64.wrap (s3 - 1)) s0.length) (.br (decide ((IntKind.i64.wrap (((atI tLn s0 (IntKind.i64.wrap (s3 - 1))).1) + 1)) < ((atI tLn s0 s3).1))) (.leaf (.ret false)) (.leaf (.next (s0, (IntKind.i64.wrap (s3 + 1))))))) (.leaf (.next (s0, (IntKind.i64.wrap (s3 + 1))))))) (.br (decide ((0 : Int) < s3)) (.ck (inR (IntKind.i64.wrap (s3 - 1)) s0.length) (.br (decide ((IntKind.i64.wrap (((atI tLn s0 (IntKind.i64.wrap (s3 - 1))).1) + 1)) < ((atI tLn s0 s3).1))) (.leaf (.ret false)) (.leaf (.next (s0, (IntKind.i64.wrap (s3 + 1))))))) (.leaf (.next (s0, (IntKind.i64.wrap (s3 + 1))))))))))))) (.leaf (.brk 0 (s0, s3)))
noncomputable def L17_4 (N : Nat) (s0 : (List Ln)) (s3 : Int) : Option (Lp ((List Ln) × Int) Bool) := (U17_4 N s0 s3).eval
noncomputable def W17_4 (N : Nat) (x : ((List Ln) × Int)) : Option (Lp ((List Ln) × Int) Bool) := runLoop (fun x => L17_4 N x.1 x.2) N x
theorem WS17_4 (N : Nat) (x : (shTy l17_4).I) : ∀ o, W17_4 N x = some o → S Try.prog (.loop b17_4) (buildSt 118 l17_4 x) (stepZ (rdD Try.prog Try.f17 false) l17_4 (encO 118 l17_4 [0] (fun q => some (E17 q)) o)) :=
  fun o h => loop_S (l := l17_4) (step := fun x => L17_4 N x.1 x.2) (fun x o h => wpc_sound (tbl := []) (μ := []) mixed _ _ _ (by
    have h1 := Vt.sound _ h
    refine Eq.mp ?_ h1
    kernel_rfl)) N x o h
abbrev l17_15 : List (Nat × Sh) := [(0, .val (.list tLn)), (5, .val tI), (6, .val tI)]
noncomputable def b17_15 : Code := loopBody 15 (bodyOf Try.f17)
noncomputable def U17_15 (N : Nat) (s0 : (List Ln)) (s5 : Int) (s6 : Int) : Vt (Lp (shTy l17_15).I Bool) (O3 (Option D)) (encO 118 l17_15 [4] (fun q => some (E17 q))) :=
  .br (decide (s6 < (s0.length : Int))) (.ck (inR s6 s0.length) (.ck (inR s5 s0.length) (.br (decide (((atI tLn s0 s5).1) ≤ ((atI tLn s0 s6).1))) (.ck (inR s6 s0.length) (.ck (inR s5 s0.length) (.br (((atI tLn s0 s6).1) == ((atI tLn s0 s5).1)) (.ck (inR s6 s0.length) (.ck (inR s5 s0.length) (.br ((Op.bytesLess ((atI tLn s0 s6).2.1) ((atI tLn s0 s5).2.1)) || (((atI tLn s0 s6).2.1) == ((atI tLn s0 s5).2.1))) (.leaf (.ret false)) (.leaf (.next (s0, s5, (IntKind.i64.wrap (s6 + 1)))))))) (.leaf (.next (s0, s5, (IntKind.i64.wrap (s6 + 1)))))))) (.leaf (.brk 0 (s0, s5, s6)))))) (.leaf (.brk 0 (s0, s5, s6)))
noncomputable def L17_15 (N : Nat) (s0 : (List Ln)) (s5 : Int) (s6 : Int) : Option (Lp ((List Ln) × Int × Int) Bool) := (U17_15 N s0 s5 s6).eval
noncomputable def W17_15 (N : Nat) (x : ((List Ln) × Int × Int)) : Option (Lp ((List Ln) × Int × Int) Bool) := runLoop (fun x => L17_15 N x.1 x.2.1 x.2.2) N x
theorem WS17_15 (N : Nat) (x : (shTy l17_15).I) : ∀ o, W17_15 N x = some o → S Try.prog (.loop b17_15) (buildSt 118 l17_15 x) (stepZ (rdD Try.prog Try.f17 false) l17_15 (encO 118 l17_15 [4] (fun q => some (E17 q)) o)) :=
  fun o h => loop_S (l := l17_15) (step := fun x => L17_15 N x.1 x.2.1 x.2.2) (fun x o h => wpc_sound (tbl := [(4, [0], l17_4)]) (μ := []) mixed _ _ _ (by
    have h1 := Vt.sound _ h
    refine Eq.mp ?_ h1
    kernel_rfl)) N x o h
abbrev l17_12 : List (Nat × Sh) := [(0, .val (.list tLn)), (5, .val tI)]
noncomputable def b17_12 : Code := loopBody 12 (bodyOf Try.f17)
noncomputable def U17_12 (N : Nat) (s0 : (List Ln)) (s5 : Int) : Vt (Lp (shTy l17_12).I Bool) (O3 (Option D)) (encO 118 l17_12 [2] (fun q => some (E17 q))) :=
  .br (decide (s5 < (s0.length : Int))) (.g1 (l := l17_15) (o := W17_15 N (s0, s5, (IntKind.i64.wrap (s5 + 1)))) (WS17_15 N (s0, s5, (IntKind.i64.wrap (s5 + 1)))) (fun x1 => .leaf (.next (x1.1, (IntKind.i64.wrap (x1.2.1 + 1)))))) (.leaf (.brk 0 (s0, s5)))
noncomputable def L17_12 (N : Nat) (s0 : (List Ln)) (s5 : Int) : Option (Lp ((List Ln) × Int) Bool) := (U17_12 N s0 s5).eval
noncomputable def W17_12 (N : Nat) (x : ((List Ln) × Int)) : Option (Lp ((List Ln) × Int) Bool) := runLoop (fun x => L17_12 N x.1 x.2) N x
theorem WS17_12 (N : Nat) (x : (shTy l17_12).I) : ∀ o, W17_12 N x = some o → S Try.prog (.loop b17_12) (buildSt 118 l17_12 x) (stepZ (rdD Try.prog Try.f17 false) l17_12 (encO 118 l17_12 [2] (fun q => some (E17 q)) o)) :=
  fun o h => loop_S (l := l17_12) (step := fun x => L17_12 N x.1 x.2) (fun x o h => wpc_sound (tbl := [(4, [0], l17_4), (15, [4], l17_15)]) (μ := []) mixed _ _ _ (by
    have h1 := Vt.sound _ h
    refine Eq.mp ?_ h1
    kernel_rfl)) N x o h
noncomputable def V17 (N : Nat) (a0 : (List Ln)) : Vt Bool (Option D) (fun q => some (E17 q)) :=
  .br (decide ((200 : Int) < (a0.length : Int))) (.leaf false) (.f1 (l := l17_4) (o := W17_4 N (a0, 0)) (WS17_4 N (a0, 0)) (fun x1 => .f1 (l := l17_12) (o := W17_12 N (x1.1, 0)) (WS17_12 N (x1.1, 0)) (fun x2 => .leaf true)))
noncomputable def F17 (N : Nat) (a0 : (List Ln)) : Option Bool := (V17 N a0).eval
def t17 : List (Nat × List Nat × List (Nat × Sh)) := [(4, [0], l17_4), (15, [4], l17_15), (12, [2], l17_12)]
theorem P17 (N : Nat) (a0 : (List Ln)) : ∀ r, F17 N a0 = some r → Spec Try.prog 17 [.val (.list tLn) a0] (E17 r) := fun r h => Spec_of (fn := Try.f17) rfl rfl rfl rfl false (wpc_sound (tbl := t17) (μ := []) mixed _ _ _ (by
  have h1 := Vt.sound _ h
  refine Eq.mp ?_ h1
  kernel_rfl))

/-! ferryslip/ferryslipref03.Under -/
def E55 : Int → D := fun x => encV tI x
abbrev l55_3 : List (Nat × Sh) := [(0, .val (.list tLn)), (1, .val tI), (5, .val tI), (6, .val tI)]
noncomputable def b55_3 : Code := loopBody 3 (bodyOf Try.f55)
noncomputable def U55_3 (N : Nat) (s0 : (List Ln)) (s1 : Int) (s5 : Int) (s6 : Int) : Vt (Lp (shTy l55_3).I Int) (O3 (Option D)) (encO 25 l55_3 [0] (fun q => some (E55 q))) :=
  .br (decide (s6 < s1)) (.ck (inR s6 s0.length) (.ck (inR s1 s0.length) (.br (decide (((atI tLn s0 s6).1) < ((atI tLn s0 s1).1))) (.leaf (.next (s0, s1, s6, (IntKind.i64.wrap (s6 + 1))))) (.leaf (.next (s0, s1, s5, (IntKind.i64.wrap (s6 + 1)))))))) (.leaf (.brk 0 (s0, s1, s5, s6)))
noncomputable def L55_3 (N : Nat) (s0 : (List Ln)) (s1 : Int) (s5 : Int) (s6 : Int) : Option (Lp ((List Ln) × Int × Int × Int) Int) := (U55_3 N s0 s1 s5 s6).eval
noncomputable def W55_3 (N : Nat) (x : ((List Ln) × Int × Int × Int)) : Option (Lp ((List Ln) × Int × Int × Int) Int) := runLoop (fun x => L55_3 N x.1 x.2.1 x.2.2.1 x.2.2.2) N x
theorem WS55_3 (N : Nat) (x : (shTy l55_3).I) : ∀ o, W55_3 N x = some o → S Try.prog (.loop b55_3) (buildSt 25 l55_3 x) (stepZ (rdD Try.prog Try.f55 false) l55_3 (encO 25 l55_3 [0] (fun q => some (E55 q)) o)) :=
  fun o h => loop_S (l := l55_3) (step := fun x => L55_3 N x.1 x.2.1 x.2.2.1 x.2.2.2) (fun x o h => wpc_sound (tbl := []) (μ := []) mixed _ _ _ (by
    have h1 := Vt.sound _ h
    refine Eq.mp ?_ h1
    kernel_rfl)) N x o h
noncomputable def V55 (N : Nat) (a0 : (List Ln)) (a1 : Int) : Vt Int (Option D) (fun q => some (E55 q)) :=
  .f1 (l := l55_3) (o := W55_3 N (a0, a1, (-1), 0)) (WS55_3 N (a0, a1, (-1), 0)) (fun x1 => .leaf x1.2.2.1)
noncomputable def F55 (N : Nat) (a0 : (List Ln)) (a1 : Int) : Option Int := (V55 N a0 a1).eval
def t55 : List (Nat × List Nat × List (Nat × Sh)) := [(3, [0], l55_3)]
theorem P55 (N : Nat) (a0 : (List Ln)) (a1 : Int) : ∀ r, F55 N a0 a1 = some r → Spec Try.prog 55 [.val (.list tLn) a0, .val tI a1] (E55 r) := fun r h => Spec_of (fn := Try.f55) rfl rfl rfl rfl false (wpc_sound (tbl := t55) (μ := []) mixed _ _ _ (by
  have h1 := Vt.sound _ h
  refine Eq.mp ?_ h1
  kernel_rfl))

/-! ferryslip/ferryslipref03.Path -/
def E35 : (List Bs) → D := fun x => encV (.list tS) x
abbrev l35_2 : List (Nat × Sh) := [(0, .val (.list tLn)), (1, .val tI), (5, .val (.list tS))]
noncomputable def b35_2 : Code := loopBody 2 (bodyOf Try.f35)
noncomputable def U35_2 (N : Nat) (s0 : (List Ln)) (s1 : Int) (s5 : (List Bs)) : Vt (Lp (shTy l35_2).I (List Bs)) (O3 (Option D)) (encO 24 l35_2 [0] (fun q => some (E35 q))) :=
  .br (decide ((0 : Int) ≤ s1)) (.ck (inR s1 s0.length) (.ck (room ([(atI tLn s0 s1).2.1] : (List Bs)).length) (.ck (room (([(atI tLn s0 s1).2.1] : (List Bs)).length + s5.length)) (.c1 (P55 N s0 s1) (fun x1 => .leaf (.next (s0, x1, (([(atI tLn s0 s1).2.1] : (List Bs)) ++ s5)))))))) (.leaf (.brk 0 (s0, s1, s5)))
noncomputable def L35_2 (N : Nat) (s0 : (List Ln)) (s1 : Int) (s5 : (List Bs)) : Option (Lp ((List Ln) × Int × (List Bs)) (List Bs)) := (U35_2 N s0 s1 s5).eval
noncomputable def W35_2 (N : Nat) (x : ((List Ln) × Int × (List Bs))) : Option (Lp ((List Ln) × Int × (List Bs)) (List Bs)) := runLoop (fun x => L35_2 N x.1 x.2.1 x.2.2) N x
theorem WS35_2 (N : Nat) (x : (shTy l35_2).I) : ∀ o, W35_2 N x = some o → S Try.prog (.loop b35_2) (buildSt 24 l35_2 x) (stepZ (rdD Try.prog Try.f35 false) l35_2 (encO 24 l35_2 [0] (fun q => some (E35 q)) o)) :=
  fun o h => loop_S (l := l35_2) (step := fun x => L35_2 N x.1 x.2.1 x.2.2) (fun x o h => wpc_sound (tbl := []) (μ := []) mixed _ _ _ (by
    have h1 := Vt.sound _ h
    refine Eq.mp ?_ h1
    kernel_rfl)) N x o h
noncomputable def V35 (N : Nat) (a0 : (List Ln)) (a1 : Int) : Vt (List Bs) (Option D) (fun q => some (E35 q)) :=
  .f1 (l := l35_2) (o := W35_2 N (a0, a1, ([] : (List Bs)))) (WS35_2 N (a0, a1, ([] : (List Bs)))) (fun x2 => .leaf x2.2.2)
noncomputable def F35 (N : Nat) (a0 : (List Ln)) (a1 : Int) : Option (List Bs) := (V35 N a0 a1).eval
def t35 : List (Nat × List Nat × List (Nat × Sh)) := [(2, [0], l35_2)]
theorem P35 (N : Nat) (a0 : (List Ln)) (a1 : Int) : ∀ r, F35 N a0 a1 = some r → Spec Try.prog 35 [.val (.list tLn) a0, .val tI a1] (E35 r) := fun r h => Spec_of (fn := Try.f35) rfl rfl rfl rfl false (wpc_sound (tbl := t35) (μ := []) mixed _ _ _ (by
  have h1 := Vt.sound _ h
  refine Eq.mp ?_ h1
  kernel_rfl))

/-! ferryslip/ferryslipref03.Equal -/
def E49 : Bool → D := fun x => encV tB x
abbrev l49_4 : List (Nat × Sh) := [(0, .val (.list tS)), (1, .val (.list tS)), (5, .val tI)]
noncomputable def b49_4 : Code := loopBody 4 (bodyOf Try.f49)
noncomputable def U49_4 (N : Nat) (s0 : (List Bs)) (s1 : (List Bs)) (s5 : Int) : Vt (Lp (shTy l49_4).I Bool) (O3 (Option D)) (encO 26 l49_4 [0] (fun q => some (E49 q))) :=
  .br (decide (s5 < (s0.length : Int))) (.ck (inR s5 s0.length) (.ck (inR s5 s1.length) (.br (!((atI tS s0 s5) == (atI tS s1 s5))) (.leaf (.ret false)) (.leaf (.next (s0, s1, (IntKind.i64.wrap (s5 + 1)))))))) (.leaf (.brk 0 (s0, s1, s5)))
noncomputable def L49_4 (N : Nat) (s0 : (List Bs)) (s1 : (List Bs)) (s5 : Int) : Option (Lp ((List Bs) × (List Bs) × Int) Bool) := (U49_4 N s0 s1 s5).eval
noncomputable def W49_4 (N : Nat) (x : ((List Bs) × (List Bs) × Int)) : Option (Lp ((List Bs) × (List Bs) × Int) Bool) := runLoop (fun x => L49_4 N x.1 x.2.1 x.2.2) N x
theorem WS49_4 (N : Nat) (x : (shTy l49_4).I) : ∀ o, W49_4 N x = some o → S Try.prog (.loop b49_4) (buildSt 26 l49_4 x) (stepZ (rdD Try.prog Try.f49 false) l49_4 (encO 26 l49_4 [0] (fun q => some (E49 q)) o)) :=
  fun o h => loop_S (l := l49_4) (step := fun x => L49_4 N x.1 x.2.1 x.2.2) (fun x o h => wpc_sound (tbl := []) (μ := []) mixed _ _ _ (by
    have h1 := Vt.sound _ h
    refine Eq.mp ?_ h1
    kernel_rfl)) N x o h
noncomputable def V49 (N : Nat) (a0 : (List Bs)) (a1 : (List Bs)) : Vt Bool (Option D) (fun q => some (E49 q)) :=
  .br ((a0.length : Int) != (a1.length : Int)) (.leaf false) (.f1 (l := l49_4) (o := W49_4 N (a0, a1, 0)) (WS49_4 N (a0, a1, 0)) (fun x1 => .leaf true))
noncomputable def F49 (N : Nat) (a0 : (List Bs)) (a1 : (List Bs)) : Option Bool := (V49 N a0 a1).eval
def t49 : List (Nat × List Nat × List (Nat × Sh)) := [(4, [0], l49_4)]
theorem P49 (N : Nat) (a0 : (List Bs)) (a1 : (List Bs)) : ∀ r, F49 N a0 a1 = some r → Spec Try.prog 49 [.val (.list tS) a0, .val (.list tS) a1] (E49 r) := fun r h => Spec_of (fn := Try.f49) rfl rfl rfl rfl false (wpc_sound (tbl := t49) (μ := []) mixed _ _ _ (by
  have h1 := Vt.sound _ h
  refine Eq.mp ?_ h1
  kernel_rfl))

/-! ferryslip/ferryslipref03.Find -/
def E28 : Int → D := fun x => encV tI x
abbrev l28_2 : List (Nat × Sh) := [(0, .val (.list tLn)), (1, .val (.list tS)), (5, .val tI)]
noncomputable def b28_2 : Code := loopBody 2 (bodyOf Try.f28)
noncomputable def U28_2 (N : Nat) (s0 : (List Ln)) (s1 : (List Bs)) (s5 : Int) : Vt (Lp (shTy l28_2).I Int) (O3 (Option D)) (encO 29 l28_2 [0] (fun q => some (E28 q))) :=
  .br (decide (s5 < (s0.length : Int))) (.ck (inR s5 s0.length) (.br (((atI tLn s0 s5).1) == (IntKind.i64.wrap ((s1.length : Int) - 1))) (.c1 (P35 N s0 s5) (fun x1 => .c1 (P49 N x1 s1) (fun x2 => .br x2 (.leaf (.ret s5)) (.leaf (.next (s0, s1, (IntKind.i64.wrap (s5 + 1)))))))) (.leaf (.next (s0, s1, (IntKind.i64.wrap (s5 + 1))))))) (.leaf (.brk 0 (s0, s1, s5)))
noncomputable def L28_2 (N : Nat) (s0 : (List Ln)) (s1 : (List Bs)) (s5 : Int) : Option (Lp ((List Ln) × (List Bs) × Int) Int) := (U28_2 N s0 s1 s5).eval
noncomputable def W28_2 (N : Nat) (x : ((List Ln) × (List Bs) × Int)) : Option (Lp ((List Ln) × (List Bs) × Int) Int) := runLoop (fun x => L28_2 N x.1 x.2.1 x.2.2) N x
theorem WS28_2 (N : Nat) (x : (shTy l28_2).I) : ∀ o, W28_2 N x = some o → S Try.prog (.loop b28_2) (buildSt 29 l28_2 x) (stepZ (rdD Try.prog Try.f28 false) l28_2 (encO 29 l28_2 [0] (fun q => some (E28 q)) o)) :=
  fun o h => loop_S (l := l28_2) (step := fun x => L28_2 N x.1 x.2.1 x.2.2) (fun x o h => wpc_sound (tbl := []) (μ := []) mixed _ _ _ (by
    have h1 := Vt.sound _ h
    refine Eq.mp ?_ h1
    kernel_rfl)) N x o h
noncomputable def V28 (N : Nat) (a0 : (List Ln)) (a1 : (List Bs)) : Vt Int (Option D) (fun q => some (E28 q)) :=
  .f1 (l := l28_2) (o := W28_2 N (a0, a1, 0)) (WS28_2 N (a0, a1, 0)) (fun x1 => .leaf (-1))
noncomputable def F28 (N : Nat) (a0 : (List Ln)) (a1 : (List Bs)) : Option Int := (V28 N a0 a1).eval
def t28 : List (Nat × List Nat × List (Nat × Sh)) := [(2, [0], l28_2)]
theorem P28 (N : Nat) (a0 : (List Ln)) (a1 : (List Bs)) : ∀ r, F28 N a0 a1 = some r → Spec Try.prog 28 [.val (.list tLn) a0, .val (.list tS) a1] (E28 r) := fun r h => Spec_of (fn := Try.f28) rfl rfl rfl rfl false (wpc_sound (tbl := t28) (μ := []) mixed _ _ _ (by
  have h1 := Vt.sound _ h
  refine Eq.mp ?_ h1
  kernel_rfl))

/-! ferryslip/ferryslipref03.End -/
def E33 : Int → D := fun x => encV tI x
abbrev l33_2 : List (Nat × Sh) := [(0, .val (.list tLn)), (1, .val tI), (5, .val tI)]
noncomputable def b33_2 : Code := loopBody 2 (bodyOf Try.f33)
noncomputable def U33_2 (N : Nat) (s0 : (List Ln)) (s1 : Int) (s5 : Int) : Vt (Lp (shTy l33_2).I Int) (O3 (Option D)) (encO 28 l33_2 [0] (fun q => some (E33 q))) :=
  .br (decide (s5 < (s0.length : Int))) (.ck (inR s5 s0.length) (.ck (inR s1 s0.length) (.br (decide (((atI tLn s0 s5).1) ≤ ((atI tLn s0 s1).1))) (.leaf (.ret s5)) (.leaf (.next (s0, s1, (IntKind.i64.wrap (s5 + 1)))))))) (.leaf (.brk 0 (s0, s1, s5)))
noncomputable def L33_2 (N : Nat) (s0 : (List Ln)) (s1 : Int) (s5 : Int) : Option (Lp ((List Ln) × Int × Int) Int) := (U33_2 N s0 s1 s5).eval
noncomputable def W33_2 (N : Nat) (x : ((List Ln) × Int × Int)) : Option (Lp ((List Ln) × Int × Int) Int) := runLoop (fun x => L33_2 N x.1 x.2.1 x.2.2) N x
theorem WS33_2 (N : Nat) (x : (shTy l33_2).I) : ∀ o, W33_2 N x = some o → S Try.prog (.loop b33_2) (buildSt 28 l33_2 x) (stepZ (rdD Try.prog Try.f33 false) l33_2 (encO 28 l33_2 [0] (fun q => some (E33 q)) o)) :=
  fun o h => loop_S (l := l33_2) (step := fun x => L33_2 N x.1 x.2.1 x.2.2) (fun x o h => wpc_sound (tbl := []) (μ := []) mixed _ _ _ (by
    have h1 := Vt.sound _ h
    refine Eq.mp ?_ h1
    kernel_rfl)) N x o h
noncomputable def V33 (N : Nat) (a0 : (List Ln)) (a1 : Int) : Vt Int (Option D) (fun q => some (E33 q)) :=
  .f1 (l := l33_2) (o := W33_2 N (a0, a1, (IntKind.i64.wrap (a1 + 1)))) (WS33_2 N (a0, a1, (IntKind.i64.wrap (a1 + 1)))) (fun x1 => .leaf (x1.1.length : Int))
noncomputable def F33 (N : Nat) (a0 : (List Ln)) (a1 : Int) : Option Int := (V33 N a0 a1).eval
def t33 : List (Nat × List Nat × List (Nat × Sh)) := [(2, [0], l33_2)]
theorem P33 (N : Nat) (a0 : (List Ln)) (a1 : Int) : ∀ r, F33 N a0 a1 = some r → Spec Try.prog 33 [.val (.list tLn) a0, .val tI a1] (E33 r) := fun r h => Spec_of (fn := Try.f33) rfl rfl rfl rfl false (wpc_sound (tbl := t33) (μ := []) mixed _ _ _ (by
  have h1 := Vt.sound _ h
  refine Eq.mp ?_ h1
  kernel_rfl))

/-! ferryslip/ferryslipref03.Kids -/
def E50o : (List Int) → D := fun x => .own 3 tI x
abbrev l50o_3 : List (Nat × Sh) := [(0, .val (.list tLn)), (1, .val tI), (5, .row false 21 3 tI), (6, .val tI)]
noncomputable def b50o_3 : Code := loopBody 3 (bodyOf Try.f50)
noncomputable def U50o_3 (N : Nat) (s0 : (List Ln)) (s1 : Int) (s5 : (List Int)) (s6 : Int) : Vt (Lp (shTy l50o_3).I (List Int)) (O3 (Option D)) (encO 23 l50o_3 [0] (fun q => some (E50o q))) :=
  .br (decide (s6 < (s0.length : Int))) (.c1 (P55 N s0 s6) (fun x1 => .br (x1 == s1) (.ck (room (s5.length + ([s6] : (List Int)).length)) (.leaf (.next (s0, s1, (s5 ++ ([s6] : (List Int))), (IntKind.i64.wrap (s6 + 1)))))) (.leaf (.next (s0, s1, s5, (IntKind.i64.wrap (s6 + 1))))))) (.leaf (.brk 0 (s0, s1, s5, s6)))
noncomputable def L50o_3 (N : Nat) (s0 : (List Ln)) (s1 : Int) (s5 : (List Int)) (s6 : Int) : Option (Lp ((List Ln) × Int × (List Int) × Int) (List Int)) := (U50o_3 N s0 s1 s5 s6).eval
noncomputable def W50o_3 (N : Nat) (x : ((List Ln) × Int × (List Int) × Int)) : Option (Lp ((List Ln) × Int × (List Int) × Int) (List Int)) := runLoop (fun x => L50o_3 N x.1 x.2.1 x.2.2.1 x.2.2.2) N x
theorem WS50o_3 (N : Nat) (x : (shTy l50o_3).I) : ∀ o, W50o_3 N x = some o → S Try.prog (.loop b50o_3) (buildSt 23 l50o_3 x) (stepZ (rdD Try.prog Try.f50 true) l50o_3 (encO 23 l50o_3 [0] (fun q => some (E50o q)) o)) :=
  fun o h => loop_S (l := l50o_3) (step := fun x => L50o_3 N x.1 x.2.1 x.2.2.1 x.2.2.2) (fun x o h => wpc_sound (tbl := []) (μ := []) mixed _ _ _ (by
    have h1 := Vt.sound _ h
    refine Eq.mp ?_ h1
    kernel_rfl)) N x o h
noncomputable def V50o (N : Nat) (a0 : (List Ln)) (a1 : Int) : Vt (List Int) (Option D) (fun q => some (E50o q)) :=
  .f1 (l := l50o_3) (o := W50o_3 N (a0, a1, ([] : (List Int)), 0)) (WS50o_3 N (a0, a1, ([] : (List Int)), 0)) (fun x2 => .leaf x2.2.2.1)
noncomputable def F50o (N : Nat) (a0 : (List Ln)) (a1 : Int) : Option (List Int) := (V50o N a0 a1).eval
def t50o : List (Nat × List Nat × List (Nat × Sh)) := [(3, [0], l50o_3)]
theorem P50o (N : Nat) (a0 : (List Ln)) (a1 : Int) : ∀ r, F50o N a0 a1 = some r → Spec Try.prog 50 [.val (.list tLn) a0, .val tI a1] (E50o r) := fun r h => Spec_of (fn := Try.f50) rfl rfl rfl rfl true (wpc_sound (tbl := t50o) (μ := []) mixed _ _ _ (by
  have h1 := Vt.sound _ h
  refine Eq.mp ?_ h1
  kernel_rfl))

/-! ferryslip/ferryslipref05.Put -/
def E29o : (List Ln) → D := fun x => .own 43 tLn x
abbrev l29o_8 : List (Nat × Sh) := [(0, .val (.list tLn)), (1, .val (.list tS)), (2, .val tS), (3, .val tI), (10, .val tI), (11, .row false 27 3 tI), (12, .val tI)]
noncomputable def b29o_8 : Code := loopBody 8 (bodyOf Try.f29)
noncomputable def U29o_8 (N : Nat) (s0 : (List Ln)) (s1 : (List Bs)) (s2 : Bs) (s3 : Int) (s10 : Int) (s11 : (List Int)) (s12 : Int) : Vt (Lp (shTy l29o_8).I (List Ln)) (O3 (Option D)) (encO 67 l29o_8 [0] (fun q => some (E29o q))) :=
  .br (decide ((0 : Int) ≤ s12)) (.ck (inR s12 s11.length) (.ck (inR s12 s11.length) (.ck (inR (atI tI s11 s12) s0.length) (.br (!((Op.bytesLess ((atI tLn s0 (atI tI s11 s12)).2.1) s2) || (((atI tLn s0 (atI tI s11 s12)).2.1) == s2))) (.ck (inR s12 s11.length) (.ck (inR s12 s11.length) (.leaf (.next (s0, s1, s2, s3, (atI tI s11 s12), s11, (IntKind.i64.wrap (s12 - 1))))))) (.leaf (.next (s0, s1, s2, s3, s10, s11, (IntKind.i64.wrap (s12 - 1))))))))) (.leaf (.brk 0 (s0, s1, s2, s3, s10, s11, s12)))
noncomputable def L29o_8 (N : Nat) (s0 : (List Ln)) (s1 : (List Bs)) (s2 : Bs) (s3 : Int) (s10 : Int) (s11 : (List Int)) (s12 : Int) : Option (Lp ((List Ln) × (List Bs) × Bs × Int × Int × (List Int) × Int) (List Ln)) := (U29o_8 N s0 s1 s2 s3 s10 s11 s12).eval
noncomputable def W29o_8 (N : Nat) (x : ((List Ln) × (List Bs) × Bs × Int × Int × (List Int) × Int)) : Option (Lp ((List Ln) × (List Bs) × Bs × Int × Int × (List Int) × Int) (List Ln)) := runLoop (fun x => L29o_8 N x.1 x.2.1 x.2.2.1 x.2.2.2.1 x.2.2.2.2.1 x.2.2.2.2.2.1 x.2.2.2.2.2.2) N x
theorem WS29o_8 (N : Nat) (x : (shTy l29o_8).I) : ∀ o, W29o_8 N x = some o → S Try.prog (.loop b29o_8) (buildSt 67 l29o_8 x) (stepZ (rdD Try.prog Try.f29 true) l29o_8 (encO 67 l29o_8 [0] (fun q => some (E29o q)) o)) :=
  fun o h => loop_S (l := l29o_8) (step := fun x => L29o_8 N x.1 x.2.1 x.2.2.1 x.2.2.2.1 x.2.2.2.2.1 x.2.2.2.2.2.1 x.2.2.2.2.2.2) (fun x o h => wpc_sound (tbl := []) (μ := [27]) mixed _ _ _ (by
    have h1 := Vt.sound _ h
    refine Eq.mp ?_ h1
    kernel_rfl)) N x o h
noncomputable def V29o (N : Nat) (a0 : (List Ln)) (a1 : (List Bs)) (a2 : Bs) (a3 : Int) : Vt (List Ln) (Option D) (fun q => some (E29o q)) :=
  .br (decide ((0 : Int) < (a1.length : Int))) (.c1 (P28 N a0 a1) (fun x1 => .c1 (P33 N a0 x1) (fun x2 => .c1 (P50o N a0 x1) (fun x3 => .f1 (l := l29o_8) (o := W29o_8 N (a0, a1, a2, a3, x2, x3, (IntKind.i64.wrap ((x3.length : Int) - 1)))) (WS29o_8 N (a0, a1, a2, a3, x2, x3, (IntKind.i64.wrap ((x3.length : Int) - 1)))) (fun x4 => .ck ((0 : Int) ≤ 0 ∧ (0 : Int) ≤ x4.2.2.2.2.1 ∧ x4.2.2.2.2.1 ≤ (x4.1.length : Int)) (.ck (room (slc x4.1 0 x4.2.2.2.2.1).length) (.ck (room ((slc x4.1 0 x4.2.2.2.2.1).length + ([((x4.2.1.length : Int), x4.2.2.1, x4.2.2.2.1)] : (List Ln)).length)) (.ck ((0 : Int) ≤ x4.2.2.2.2.1 ∧ x4.2.2.2.2.1 ≤ (x4.1.length : Int) ∧ (x4.1.length : Int) ≤ (x4.1.length : Int)) (.ck (room (((slc x4.1 0 x4.2.2.2.2.1) ++ ([((x4.2.1.length : Int), x4.2.2.1, x4.2.2.2.1)] : (List Ln))).length + (slc x4.1 x4.2.2.2.2.1 (x4.1.length : Int)).length)) (.leaf (((slc x4.1 0 x4.2.2.2.2.1) ++ ([((x4.2.1.length : Int), x4.2.2.1, x4.2.2.2.1)] : (List Ln))) ++ (slc x4.1 x4.2.2.2.2.1 (x4.1.length : Int))))))))))))) (.c1 (P50o N a0 (-1)) (fun x5 => .f1 (l := l29o_8) (o := W29o_8 N (a0, a1, a2, a3, (a0.length : Int), x5, (IntKind.i64.wrap ((x5.length : Int) - 1)))) (WS29o_8 N (a0, a1, a2, a3, (a0.length : Int), x5, (IntKind.i64.wrap ((x5.length : Int) - 1)))) (fun x6 => .ck ((0 : Int) ≤ 0 ∧ (0 : Int) ≤ x6.2.2.2.2.1 ∧ x6.2.2.2.2.1 ≤ (x6.1.length : Int)) (.ck (room (slc x6.1 0 x6.2.2.2.2.1).length) (.ck (room ((slc x6.1 0 x6.2.2.2.2.1).length + ([((x6.2.1.length : Int), x6.2.2.1, x6.2.2.2.1)] : (List Ln)).length)) (.ck ((0 : Int) ≤ x6.2.2.2.2.1 ∧ x6.2.2.2.2.1 ≤ (x6.1.length : Int) ∧ (x6.1.length : Int) ≤ (x6.1.length : Int)) (.ck (room (((slc x6.1 0 x6.2.2.2.2.1) ++ ([((x6.2.1.length : Int), x6.2.2.1, x6.2.2.2.1)] : (List Ln))).length + (slc x6.1 x6.2.2.2.2.1 (x6.1.length : Int)).length)) (.leaf (((slc x6.1 0 x6.2.2.2.2.1) ++ ([((x6.2.1.length : Int), x6.2.2.1, x6.2.2.2.1)] : (List Ln))) ++ (slc x6.1 x6.2.2.2.2.1 (x6.1.length : Int)))))))))))
noncomputable def F29o (N : Nat) (a0 : (List Ln)) (a1 : (List Bs)) (a2 : Bs) (a3 : Int) : Option (List Ln) := (V29o N a0 a1 a2 a3).eval
def t29o : List (Nat × List Nat × List (Nat × Sh)) := [(8, [0], l29o_8)]
theorem P29o (N : Nat) (a0 : (List Ln)) (a1 : (List Bs)) (a2 : Bs) (a3 : Int) : ∀ r, F29o N a0 a1 a2 a3 = some r → Spec Try.prog 29 [.val (.list tLn) a0, .val (.list tS) a1, .val tS a2, .val tI a3] (E29o r) := fun r h => Spec_of (fn := Try.f29) rfl rfl rfl rfl true (wpc_sound (tbl := t29o) (μ := [27]) mixed _ _ _ (by
  have h1 := Vt.sound _ h
  refine Eq.mp ?_ h1
  kernel_rfl))

/-! ferryslip/ferryslipref06.Add -/
def E14 : ((List Ln) × Int) → D := fun x => .tup [encV (.list tLn) x.1, encV tI x.2]
abbrev l14_4 : List (Nat × Sh) := [(0, .val (.list tLn)), (1, .val (.list tS)), (6, .val tI)]
noncomputable def b14_4 : Code := loopBody 4 (bodyOf Try.f14)
noncomputable def U14_4 (N : Nat) (s0 : (List Ln)) (s1 : (List Bs)) (s6 : Int) : Vt (Lp (shTy l14_4).I ((List Ln) × Int)) (O3 (Option D)) (encO 64 l14_4 [0] (fun q => some (E14 q))) :=
  .br (decide (s6 < (s1.length : Int))) (.ck (inR s6 s1.length) (.br (decide ((40 : Int) < ((atI tS s1 s6).length : Int))) (.leaf (.ret (s0, 1))) (.leaf (.next (s0, s1, (IntKind.i64.wrap (s6 + 1))))))) (.leaf (.brk 0 (s0, s1, s6)))
noncomputable def L14_4 (N : Nat) (s0 : (List Ln)) (s1 : (List Bs)) (s6 : Int) : Option (Lp ((List Ln) × (List Bs) × Int) ((List Ln) × Int)) := (U14_4 N s0 s1 s6).eval
noncomputable def W14_4 (N : Nat) (x : ((List Ln) × (List Bs) × Int)) : Option (Lp ((List Ln) × (List Bs) × Int) ((List Ln) × Int)) := runLoop (fun x => L14_4 N x.1 x.2.1 x.2.2) N x
theorem WS14_4 (N : Nat) (x : (shTy l14_4).I) : ∀ o, W14_4 N x = some o → S Try.prog (.loop b14_4) (buildSt 64 l14_4 x) (stepZ (rdD Try.prog Try.f14 false) l14_4 (encO 64 l14_4 [0] (fun q => some (E14 q)) o)) :=
  fun o h => loop_S (l := l14_4) (step := fun x => L14_4 N x.1 x.2.1 x.2.2) (fun x o h => wpc_sound (tbl := []) (μ := []) mixed _ _ _ (by
    have h1 := Vt.sound _ h
    refine Eq.mp ?_ h1
    kernel_rfl)) N x o h
abbrev l14_12 : List (Nat × Sh) := [(0, .val (.list tLn)), (1, .val (.list tS)), (7, .val (.list tLn)), (8, .val tI)]
noncomputable def b14_12 : Code := loopBody 12 (bodyOf Try.f14)
noncomputable def U14_12 (N : Nat) (s0 : (List Ln)) (s1 : (List Bs)) (s7 : (List Ln)) (s8 : Int) : Vt (Lp (shTy l14_12).I ((List Ln) × Int)) (O3 (Option D)) (encO 64 l14_12 [2] (fun q => some (E14 q))) :=
  .br (decide (s8 ≤ (s1.length : Int))) (.ck ((0 : Int) ≤ 0 ∧ (0 : Int) ≤ s8 ∧ s8 ≤ (s1.length : Int)) (.c1 (P28 N s7 (slc s1 0 s8)) (fun x1 => .br (decide (x1 < 0)) (.ck ((0 : Int) ≤ 0 ∧ (0 : Int) ≤ (IntKind.i64.wrap (s8 - 1)) ∧ (IntKind.i64.wrap (s8 - 1)) ≤ (s1.length : Int)) (.ck (inR (IntKind.i64.wrap (s8 - 1)) s1.length) (.c1 (P29o N s7 (slc s1 0 (IntKind.i64.wrap (s8 - 1))) (atI tS s1 (IntKind.i64.wrap (s8 - 1))) 0) (fun x2 => .leaf (.next (s0, s1, x2, (IntKind.i64.wrap (s8 + 1)))))))) (.leaf (.next (s0, s1, s7, (IntKind.i64.wrap (s8 + 1)))))))) (.leaf (.brk 0 (s0, s1, s7, s8)))
noncomputable def L14_12 (N : Nat) (s0 : (List Ln)) (s1 : (List Bs)) (s7 : (List Ln)) (s8 : Int) : Option (Lp ((List Ln) × (List Bs) × (List Ln) × Int) ((List Ln) × Int)) := (U14_12 N s0 s1 s7 s8).eval
noncomputable def W14_12 (N : Nat) (x : ((List Ln) × (List Bs) × (List Ln) × Int)) : Option (Lp ((List Ln) × (List Bs) × (List Ln) × Int) ((List Ln) × Int)) := runLoop (fun x => L14_12 N x.1 x.2.1 x.2.2.1 x.2.2.2) N x
theorem WS14_12 (N : Nat) (x : (shTy l14_12).I) : ∀ o, W14_12 N x = some o → S Try.prog (.loop b14_12) (buildSt 64 l14_12 x) (stepZ (rdD Try.prog Try.f14 false) l14_12 (encO 64 l14_12 [2] (fun q => some (E14 q)) o)) :=
  fun o h => loop_S (l := l14_12) (step := fun x => L14_12 N x.1 x.2.1 x.2.2.1 x.2.2.2) (fun x o h => wpc_sound (tbl := [(4, [0], l14_4)]) (μ := [58]) mixed _ _ _ (by
    have h1 := Vt.sound _ h
    refine Eq.mp ?_ h1
    kernel_rfl)) N x o h
noncomputable def V14 (N : Nat) (a0 : (List Ln)) (a1 : (List Bs)) : Vt ((List Ln) × Int) (Option D) (fun q => some (E14 q)) :=
  .c1 (P17 N a0) (fun x1 => .br (!x1) (.leaf (a0, 1)) (.br ((a1.length : Int) == 0) (.leaf (a0, 1)) (.f1 (l := l14_4) (o := W14_4 N (a0, a1, 0)) (WS14_4 N (a0, a1, 0)) (fun x2 => .br (decide ((16 : Int) < (x2.2.1.length : Int))) (.leaf (x2.1, 6)) (.f1 (l := l14_12) (o := W14_12 N (x2.1, x2.2.1, x2.1, 1)) (WS14_12 N (x2.1, x2.2.1, x2.1, 1)) (fun x3 => .br (decide ((200 : Int) < (x3.2.2.1.length : Int))) (.leaf (x3.1, 5)) (.leaf (x3.2.2.1, 0))))))))
noncomputable def F14 (N : Nat) (a0 : (List Ln)) (a1 : (List Bs)) : Option ((List Ln) × Int) := (V14 N a0 a1).eval
def t14 : List (Nat × List Nat × List (Nat × Sh)) := [(4, [0], l14_4), (12, [2], l14_12)]
theorem P14 (N : Nat) (a0 : (List Ln)) (a1 : (List Bs)) : ∀ r, F14 N a0 a1 = some r → Spec Try.prog 14 [.val (.list tLn) a0, .val (.list tS) a1] (E14 r) := fun r h => Spec_of (fn := Try.f14) rfl rfl rfl rfl false (wpc_sound (tbl := t14) (μ := [58]) mixed _ _ _ (by
  have h1 := Vt.sound _ h
  refine Eq.mp ?_ h1
  kernel_rfl))

/-! ferryslip/ferryslipref03.Same -/
def E15 : Bool → D := fun x => encV tB x
abbrev l15_4 : List (Nat × Sh) := [(0, .val (.list tLn)), (1, .val (.list tLn)), (5, .val tI)]
noncomputable def b15_4 : Code := loopBody 4 (bodyOf Try.f15)
noncomputable def U15_4 (N : Nat) (s0 : (List Ln)) (s1 : (List Ln)) (s5 : Int) : Vt (Lp (shTy l15_4).I Bool) (O3 (Option D)) (encO 26 l15_4 [0] (fun q => some (E15 q))) :=
  .br (decide (s5 < (s0.length : Int))) (.ck (inR s5 s0.length) (.ck (inR s5 s1.length) (.br (!((((atI tLn s0 s5).1) == ((atI tLn s1 s5).1)) && ((((atI tLn s0 s5).2.1) == ((atI tLn s1 s5).2.1)) && ((((atI tLn s0 s5).2.2) == ((atI tLn s1 s5).2.2)) && true)))) (.leaf (.ret false)) (.leaf (.next (s0, s1, (IntKind.i64.wrap (s5 + 1)))))))) (.leaf (.brk 0 (s0, s1, s5)))
noncomputable def L15_4 (N : Nat) (s0 : (List Ln)) (s1 : (List Ln)) (s5 : Int) : Option (Lp ((List Ln) × (List Ln) × Int) Bool) := (U15_4 N s0 s1 s5).eval
noncomputable def W15_4 (N : Nat) (x : ((List Ln) × (List Ln) × Int)) : Option (Lp ((List Ln) × (List Ln) × Int) Bool) := runLoop (fun x => L15_4 N x.1 x.2.1 x.2.2) N x
theorem WS15_4 (N : Nat) (x : (shTy l15_4).I) : ∀ o, W15_4 N x = some o → S Try.prog (.loop b15_4) (buildSt 26 l15_4 x) (stepZ (rdD Try.prog Try.f15 false) l15_4 (encO 26 l15_4 [0] (fun q => some (E15 q)) o)) :=
  fun o h => loop_S (l := l15_4) (step := fun x => L15_4 N x.1 x.2.1 x.2.2) (fun x o h => wpc_sound (tbl := []) (μ := []) mixed _ _ _ (by
    have h1 := Vt.sound _ h
    refine Eq.mp ?_ h1
    kernel_rfl)) N x o h
noncomputable def V15 (N : Nat) (a0 : (List Ln)) (a1 : (List Ln)) : Vt Bool (Option D) (fun q => some (E15 q)) :=
  .br ((a0.length : Int) != (a1.length : Int)) (.leaf false) (.f1 (l := l15_4) (o := W15_4 N (a0, a1, 0)) (WS15_4 N (a0, a1, 0)) (fun x1 => .leaf true))
noncomputable def F15 (N : Nat) (a0 : (List Ln)) (a1 : (List Ln)) : Option Bool := (V15 N a0 a1).eval
def t15 : List (Nat × List Nat × List (Nat × Sh)) := [(4, [0], l15_4)]
theorem P15 (N : Nat) (a0 : (List Ln)) (a1 : (List Ln)) : ∀ r, F15 N a0 a1 = some r → Spec Try.prog 15 [.val (.list tLn) a0, .val (.list tLn) a1] (E15 r) := fun r h => Spec_of (fn := Try.f15) rfl rfl rfl rfl false (wpc_sound (tbl := t15) (μ := []) mixed _ _ _ (by
  have h1 := Vt.sound _ h
  refine Eq.mp ?_ h1
  kernel_rfl))

/-! ferryslip/ferrysliplaw06.LinesAdd -/
def E3 : Bool → D := fun x => encV tB x
noncomputable def V3 (N : Nat) (a0 : (List Ln)) (a1 : (List Bs)) : Vt Bool (Option D) (fun q => some (E3 q)) :=
  .c1 (P10 N a0) (fun x1 => .br (!x1) (.c1 (P12 N) (fun x2 => .leaf x2)) (.c1 (P11 N a1) (fun x3 => .br (!x3) (.c1 (P12 N) (fun x4 => .leaf x4)) (.c3 (P13f N a0 a1) (fun x7 x5 x6 => .br x7 (.c2 (P14 N a0 a1) (fun x8 x9 => .c1 (P15 N x5 x8) (fun x10 => .br x10 (.br (x6 == x9) (.c1 (P12 N) (fun x11 => .leaf x11)) (.leaf false)) (.leaf false)))) (.c2 (P14 N a0 a1) (fun x12 x13 => .c1 (P15 N x5 x12) (fun x14 => .br x14 (.br (x6 == x13) (.c1 (P12 N) (fun x15 => .leaf x15)) (.leaf false)) (.leaf false)))))))))
noncomputable def F3 (N : Nat) (a0 : (List Ln)) (a1 : (List Bs)) : Option Bool := (V3 N a0 a1).eval
def t3 : List (Nat × List Nat × List (Nat × Sh)) := []
theorem P3 (N : Nat) (a0 : (List Ln)) (a1 : (List Bs)) : ∀ r, F3 N a0 a1 = some r → Spec Try.prog 3 [.val (.list tLn) a0, .val (.list tS) a1] (E3 r) := fun r h => Spec_of (fn := Try.f3) rfl rfl rfl rfl false (wpc_sound (tbl := t3) (μ := [21, 3000021]) mixed _ _ _ (by
  have h1 := Vt.sound _ h
  refine Eq.mp ?_ h1
  kernel_rfl))

/-! ferryslip/ferryslipref01.bare -/
def E77 : Bool → D := fun x => encV tB x
noncomputable def V77 (N : Nat) (a0 : Int) : Vt Bool (Option D) (fun q => some (E77 q)) :=
  .br (decide ((97 : Int) ≤ a0)) (.br (decide (a0 ≤ 122)) (.leaf true) (.br (decide ((65 : Int) ≤ a0)) (.br (decide (a0 ≤ 90)) (.leaf true) (.br (decide ((48 : Int) ≤ a0)) (.br (decide (a0 ≤ 57)) (.leaf true) (.br (a0 == 45) (.leaf true) (.br (a0 == 95) (.leaf true) (.br (a0 == 46) (.leaf true) (.br (a0 == 47) (.leaf true) (.br (a0 == 58) (.leaf true) (.leaf (a0 == 42)))))))) (.br (a0 == 45) (.leaf true) (.br (a0 == 95) (.leaf true) (.br (a0 == 46) (.leaf true) (.br (a0 == 47) (.leaf true) (.br (a0 == 58) (.leaf true) (.leaf (a0 == 42))))))))) (.br (decide ((48 : Int) ≤ a0)) (.br (decide (a0 ≤ 57)) (.leaf true) (.br (a0 == 45) (.leaf true) (.br (a0 == 95) (.leaf true) (.br (a0 == 46) (.leaf true) (.br (a0 == 47) (.leaf true) (.br (a0 == 58) (.leaf true) (.leaf (a0 == 42)))))))) (.br (a0 == 45) (.leaf true) (.br (a0 == 95) (.leaf true) (.br (a0 == 46) (.leaf true) (.br (a0 == 47) (.leaf true) (.br (a0 == 58) (.leaf true) (.leaf (a0 == 42)))))))))) (.br (decide ((65 : Int) ≤ a0)) (.br (decide (a0 ≤ 90)) (.leaf true) (.br (decide ((48 : Int) ≤ a0)) (.br (decide (a0 ≤ 57)) (.leaf true) (.br (a0 == 45) (.leaf true) (.br (a0 == 95) (.leaf true) (.br (a0 == 46) (.leaf true) (.br (a0 == 47) (.leaf true) (.br (a0 == 58) (.leaf true) (.leaf (a0 == 42)))))))) (.br (a0 == 45) (.leaf true) (.br (a0 == 95) (.leaf true) (.br (a0 == 46) (.leaf true) (.br (a0 == 47) (.leaf true) (.br (a0 == 58) (.leaf true) (.leaf (a0 == 42))))))))) (.br (decide ((48 : Int) ≤ a0)) (.br (decide (a0 ≤ 57)) (.leaf true) (.br (a0 == 45) (.leaf true) (.br (a0 == 95) (.leaf true) (.br (a0 == 46) (.leaf true) (.br (a0 == 47) (.leaf true) (.br (a0 == 58) (.leaf true) (.leaf (a0 == 42)))))))) (.br (a0 == 45) (.leaf true) (.br (a0 == 95) (.leaf true) (.br (a0 == 46) (.leaf true) (.br (a0 == 47) (.leaf true) (.br (a0 == 58) (.leaf true) (.leaf (a0 == 42)))))))))
noncomputable def F77 (N : Nat) (a0 : Int) : Option Bool := (V77 N a0).eval
def t77 : List (Nat × List Nat × List (Nat × Sh)) := []
theorem P77 (N : Nat) (a0 : Int) : ∀ r, F77 N a0 = some r → Spec Try.prog 77 [.val (.int .u8) a0] (E77 r) := fun r h => Spec_of (fn := Try.f77) rfl rfl rfl rfl false (wpc_sound (tbl := t77) (μ := []) mixed _ _ _ (by
  have h1 := Vt.sound _ h
  refine Eq.mp ?_ h1
  kernel_rfl))

/-! ferryslip/ferryslipref01.Bare -/
def E66 : Bool → D := fun x => encV tB x
abbrev l66_4 : List (Nat × Sh) := [(0, .val tS), (3, .val tI)]
noncomputable def b66_4 : Code := loopBody 4 (bodyOf Try.f66)
noncomputable def U66_4 (N : Nat) (s0 : Bs) (s3 : Int) : Vt (Lp (shTy l66_4).I Bool) (O3 (Option D)) (encO 40 l66_4 [0] (fun q => some (E66 q))) :=
  .br (decide (s3 < (s0.length : Int))) (.ck (inR s3 s0.length) (.c1 (P77 N (byteAt s0 s3)) (fun x1 => .br (!x1) (.leaf (.ret false)) (.leaf (.next (s0, (IntKind.i64.wrap (s3 + 1)))))))) (.leaf (.brk 0 (s0, s3)))
noncomputable def L66_4 (N : Nat) (s0 : Bs) (s3 : Int) : Option (Lp (Bs × Int) Bool) := (U66_4 N s0 s3).eval
noncomputable def W66_4 (N : Nat) (x : (Bs × Int)) : Option (Lp (Bs × Int) Bool) := runLoop (fun x => L66_4 N x.1 x.2) N x
theorem WS66_4 (N : Nat) (x : (shTy l66_4).I) : ∀ o, W66_4 N x = some o → S Try.prog (.loop b66_4) (buildSt 40 l66_4 x) (stepZ (rdD Try.prog Try.f66 false) l66_4 (encO 40 l66_4 [0] (fun q => some (E66 q)) o)) :=
  fun o h => loop_S (l := l66_4) (step := fun x => L66_4 N x.1 x.2) (fun x o h => wpc_sound (tbl := []) (μ := []) mixed _ _ _ (by
    have h1 := Vt.sound _ h
    refine Eq.mp ?_ h1
    kernel_rfl)) N x o h
noncomputable def V66 (N : Nat) (a0 : Bs) : Vt Bool (Option D) (fun q => some (E66 q)) :=
  .br (a0 == ([] : Bs)) (.leaf false) (.br (a0 == ([105, 110, 97, 99, 116, 105, 118, 101, 58] : Bs)) (.leaf false) (.br (a0 == ([112, 114, 111, 116, 101, 99, 116, 58] : Bs)) (.leaf false) (.br (decide ((1 : Int) < (a0.length : Int))) (.ck (inR 0 a0.length) (.br ((byteAt a0 0) == 47) (.ck (inR 1 a0.length) (.br ((byteAt a0 1) == 42) (.leaf false) (.f1 (l := l66_4) (o := W66_4 N (a0, 0)) (WS66_4 N (a0, 0)) (fun x1 => .leaf true)))) (.f1 (l := l66_4) (o := W66_4 N (a0, 0)) (WS66_4 N (a0, 0)) (fun x2 => .leaf true)))) (.f1 (l := l66_4) (o := W66_4 N (a0, 0)) (WS66_4 N (a0, 0)) (fun x3 => .leaf true)))))
noncomputable def F66 (N : Nat) (a0 : Bs) : Option Bool := (V66 N a0).eval
def t66 : List (Nat × List Nat × List (Nat × Sh)) := [(4, [0], l66_4)]
theorem P66 (N : Nat) (a0 : Bs) : ∀ r, F66 N a0 = some r → Spec Try.prog 66 [.val tS a0] (E66 r) := fun r h => Spec_of (fn := Try.f66) rfl rfl rfl rfl false (wpc_sound (tbl := t66) (μ := []) mixed _ _ _ (by
  have h1 := Vt.sound _ h
  refine Eq.mp ?_ h1
  kernel_rfl))

/-! ferryslip/ferryslipref01.digit -/
def E67 : Int → D := fun x => encV (.int .u8) x
noncomputable def V67 (N : Nat) (a0 : Int) : Vt Int (Option D) (fun q => some (E67 q)) :=
  .br (decide (a0 < 10)) (.leaf (IntKind.u8.wrap (IntKind.i64.wrap (48 + a0)))) (.leaf (IntKind.u8.wrap (IntKind.i64.wrap ((IntKind.i64.wrap (97 + a0)) - 10))))
noncomputable def F67 (N : Nat) (a0 : Int) : Option Int := (V67 N a0).eval
def t67 : List (Nat × List Nat × List (Nat × Sh)) := []
theorem P67 (N : Nat) (a0 : Int) : ∀ r, F67 N a0 = some r → Spec Try.prog 67 [.val tI a0] (E67 r) := fun r h => Spec_of (fn := Try.f67) rfl rfl rfl rfl false (wpc_sound (tbl := t67) (μ := []) mixed _ _ _ (by
  have h1 := Vt.sound _ h
  refine Eq.mp ?_ h1
  kernel_rfl))

/-! ferryslip/ferryslipref01.Quote -/
def E54 : Bs → D := fun x => encV tS x
abbrev l54_5 : List (Nat × Sh) := [(0, .val tS), (3, .row false 9 5 (.int .u8)), (4, .val tI)]
noncomputable def b54_5 : Code := loopBody 5 (bodyOf Try.f54)
noncomputable def U54_5 (N : Nat) (s0 : Bs) (s3 : (List Int)) (s4 : Int) : Vt (Lp (shTy l54_5).I Bs) (O3 (Option D)) (encO 54 l54_5 [0] (fun q => some (E54 q))) :=
  .br (decide (s4 < (s0.length : Int))) (.ck (inR s4 s0.length) (.br ((byteAt s0 s4) == 34) (.ck (room (s3.length + ([92, (byteAt s0 s4)] : (List Int)).length)) (.leaf (.next (s0, (s3 ++ ([92, (byteAt s0 s4)] : (List Int))), (IntKind.i64.wrap (s4 + 1)))))) (.br ((byteAt s0 s4) == 92) (.ck (room (s3.length + ([92, (byteAt s0 s4)] : (List Int)).length)) (.leaf (.next (s0, (s3 ++ ([92, (byteAt s0 s4)] : (List Int))), (IntKind.i64.wrap (s4 + 1)))))) (.br (decide ((byteAt s0 s4) < 32)) (.ck ((16 : Int) ≠ 0) (.c1 (P67 N (IntKind.i64.wrap ((IntKind.i64.wrap (byteAt s0 s4)).tdiv 16))) (fun x1 => .ck ((16 : Int) ≠ 0) (.c1 (P67 N ((IntKind.i64.wrap (byteAt s0 s4)).tmod 16)) (fun x2 => .ck (room (s3.length + ([92, 120, x1, x2] : (List Int)).length)) (.leaf (.next (s0, (s3 ++ ([92, 120, x1, x2] : (List Int))), (IntKind.i64.wrap (s4 + 1)))))))))) (.br (decide ((126 : Int) < (byteAt s0 s4))) (.ck ((16 : Int) ≠ 0) (.c1 (P67 N (IntKind.i64.wrap ((IntKind.i64.wrap (byteAt s0 s4)).tdiv 16))) (fun x3 => .ck ((16 : Int) ≠ 0) (.c1 (P67 N ((IntKind.i64.wrap (byteAt s0 s4)).tmod 16)) (fun x4 => .ck (room (s3.length + ([92, 120, x3, x4] : (List Int)).length)) (.leaf (.next (s0, (s3 ++ ([92, 120, x3, x4] : (List Int))), (IntKind.i64.wrap (s4 + 1)))))))))) (.ck (room (s3.length + ([(byteAt s0 s4)] : (List Int)).length)) (.leaf (.next (s0, (s3 ++ ([(byteAt s0 s4)] : (List Int))), (IntKind.i64.wrap (s4 + 1))))))))))) (.leaf (.brk 0 (s0, s3, s4)))
noncomputable def L54_5 (N : Nat) (s0 : Bs) (s3 : (List Int)) (s4 : Int) : Option (Lp (Bs × (List Int) × Int) Bs) := (U54_5 N s0 s3 s4).eval
noncomputable def W54_5 (N : Nat) (x : (Bs × (List Int) × Int)) : Option (Lp (Bs × (List Int) × Int) Bs) := runLoop (fun x => L54_5 N x.1 x.2.1 x.2.2) N x
theorem WS54_5 (N : Nat) (x : (shTy l54_5).I) : ∀ o, W54_5 N x = some o → S Try.prog (.loop b54_5) (buildSt 54 l54_5 x) (stepZ (rdD Try.prog Try.f54 false) l54_5 (encO 54 l54_5 [0] (fun q => some (E54 q)) o)) :=
  fun o h => loop_S (l := l54_5) (step := fun x => L54_5 N x.1 x.2.1 x.2.2) (fun x o h => wpc_sound (tbl := []) (μ := []) mixed _ _ _ (by
    have h1 := Vt.sound _ h
    refine Eq.mp ?_ h1
    kernel_rfl)) N x o h
noncomputable def V54 (N : Nat) (a0 : Bs) : Vt Bs (Option D) (fun q => some (E54 q)) :=
  .c1 (P66 N a0) (fun x1 => .br x1 (.leaf a0) (.f1 (l := l54_5) (o := W54_5 N (a0, ([34] : (List Int)), 0)) (WS54_5 N (a0, ([34] : (List Int)), 0)) (fun x2 => .ck (room (x2.2.1.length + ([34] : (List Int)).length)) (.leaf (strOf (x2.2.1 ++ ([34] : (List Int))))))))
noncomputable def F54 (N : Nat) (a0 : Bs) : Option Bs := (V54 N a0).eval
def t54 : List (Nat × List Nat × List (Nat × Sh)) := [(5, [0], l54_5)]
theorem P54 (N : Nat) (a0 : Bs) : ∀ r, F54 N a0 = some r → Spec Try.prog 54 [.val tS a0] (E54 r) := fun r h => Spec_of (fn := Try.f54) rfl rfl rfl rfl false (wpc_sound (tbl := t54) (μ := []) mixed _ _ _ (by
  have h1 := Vt.sound _ h
  refine Eq.mp ?_ h1
  kernel_rfl))

/-! ferryslip/ferryslipref06.one -/
def E34 : Bs → D := fun x => encV tS x
abbrev l34_3 : List (Nat × Sh) := [(1, .val (.list tS)), (5, .val tS), (6, .val tI)]
noncomputable def b34_3 : Code := loopBody 3 (bodyOf Try.f34)
noncomputable def U34_3 (N : Nat) (s1 : (List Bs)) (s5 : Bs) (s6 : Int) : Vt (Lp (shTy l34_3).I Bs) (O3 (Option D)) (encO 24 l34_3 [0] (fun q => some (E34 q))) :=
  .br (decide (s6 < (s1.length : Int))) (.ck (room (s5.length + ([32] : Bs).length)) (.ck (inR s6 s1.length) (.c1 (P54 N (atI tS s1 s6)) (fun x1 => .ck (room ((s5 ++ ([32] : Bs)).length + x1.length)) (.leaf (.next (s1, ((s5 ++ ([32] : Bs)) ++ x1), (IntKind.i64.wrap (s6 + 1))))))))) (.leaf (.brk 0 (s1, s5, s6)))
noncomputable def L34_3 (N : Nat) (s1 : (List Bs)) (s5 : Bs) (s6 : Int) : Option (Lp ((List Bs) × Bs × Int) Bs) := (U34_3 N s1 s5 s6).eval
noncomputable def W34_3 (N : Nat) (x : ((List Bs) × Bs × Int)) : Option (Lp ((List Bs) × Bs × Int) Bs) := runLoop (fun x => L34_3 N x.1 x.2.1 x.2.2) N x
theorem WS34_3 (N : Nat) (x : (shTy l34_3).I) : ∀ o, W34_3 N x = some o → S Try.prog (.loop b34_3) (buildSt 24 l34_3 x) (stepZ (rdD Try.prog Try.f34 false) l34_3 (encO 24 l34_3 [0] (fun q => some (E34 q)) o)) :=
  fun o h => loop_S (l := l34_3) (step := fun x => L34_3 N x.1 x.2.1 x.2.2) (fun x o h => wpc_sound (tbl := []) (μ := []) mixed _ _ _ (by
    have h1 := Vt.sound _ h
    refine Eq.mp ?_ h1
    kernel_rfl)) N x o h
noncomputable def V34 (N : Nat) (a0 : Bs) (a1 : (List Bs)) : Vt Bs (Option D) (fun q => some (E34 q)) :=
  .f1 (l := l34_3) (o := W34_3 N (a1, a0, 0)) (WS34_3 N (a1, a0, 0)) (fun x1 => .ck (room (x1.2.1.length + ([59, 10] : Bs).length)) (.leaf (x1.2.1 ++ ([59, 10] : Bs))))
noncomputable def F34 (N : Nat) (a0 : Bs) (a1 : (List Bs)) : Option Bs := (V34 N a0 a1).eval
def t34 : List (Nat × List Nat × List (Nat × Sh)) := [(3, [0], l34_3)]
theorem P34 (N : Nat) (a0 : Bs) (a1 : (List Bs)) : ∀ r, F34 N a0 a1 = some r → Spec Try.prog 34 [.val tS a0, .val (.list tS) a1] (E34 r) := fun r h => Spec_of (fn := Try.f34) rfl rfl rfl rfl false (wpc_sound (tbl := t34) (μ := []) mixed _ _ _ (by
  have h1 := Vt.sound _ h
  refine Eq.mp ?_ h1
  kernel_rfl))

/-! ferryslip/ferryslipref06.Text -/
def E18 : Bs → D := fun x => encV tS x
abbrev l18_3 : List (Nat × Sh) := [(0, .val (.list tLn)), (3, .val tS), (4, .val tI)]
noncomputable def b18_3 : Code := loopBody 3 (bodyOf Try.f18)
noncomputable def U18_3 (N : Nat) (s0 : (List Ln)) (s3 : Bs) (s4 : Int) : Vt (Lp (shTy l18_3).I Bs) (O3 (Option D)) (encO 56 l18_3 [0] (fun q => some (E18 q))) :=
  .br (decide (s4 < (s0.length : Int))) (.c1 (P33 N s0 s4) (fun x1 => .br (x1 == (IntKind.i64.wrap (s4 + 1))) (.c1 (P35 N s0 s4) (fun x2 => .c1 (P34 N ([115, 101, 116] : Bs) x2) (fun x3 => .ck (room (s3.length + x3.length)) (.leaf (.next (s0, (s3 ++ x3), (IntKind.i64.wrap (s4 + 1)))))))) (.leaf (.next (s0, s3, (IntKind.i64.wrap (s4 + 1))))))) (.leaf (.brk 0 (s0, s3, s4)))
noncomputable def L18_3 (N : Nat) (s0 : (List Ln)) (s3 : Bs) (s4 : Int) : Option (Lp ((List Ln) × Bs × Int) Bs) := (U18_3 N s0 s3 s4).eval
noncomputable def W18_3 (N : Nat) (x : ((List Ln) × Bs × Int)) : Option (Lp ((List Ln) × Bs × Int) Bs) := runLoop (fun x => L18_3 N x.1 x.2.1 x.2.2) N x
theorem WS18_3 (N : Nat) (x : (shTy l18_3).I) : ∀ o, W18_3 N x = some o → S Try.prog (.loop b18_3) (buildSt 56 l18_3 x) (stepZ (rdD Try.prog Try.f18 false) l18_3 (encO 56 l18_3 [0] (fun q => some (E18 q)) o)) :=
  fun o h => loop_S (l := l18_3) (step := fun x => L18_3 N x.1 x.2.1 x.2.2) (fun x o h => wpc_sound (tbl := []) (μ := []) mixed _ _ _ (by
    have h1 := Vt.sound _ h
    refine Eq.mp ?_ h1
    kernel_rfl)) N x o h
abbrev l18_8 : List (Nat × Sh) := [(0, .val (.list tLn)), (3, .val tS), (5, .val tI)]
noncomputable def b18_8 : Code := loopBody 8 (bodyOf Try.f18)
noncomputable def U18_8 (N : Nat) (s0 : (List Ln)) (s3 : Bs) (s5 : Int) : Vt (Lp (shTy l18_8).I Bs) (O3 (Option D)) (encO 56 l18_8 [2] (fun q => some (E18 q))) :=
  .br (decide (s5 < (s0.length : Int))) (.ck (inR s5 s0.length) (.ck ((2 : Int) ≠ 0) (.br ((((atI tLn s0 s5).2.2).tmod 2) == 1) (.c1 (P35 N s0 s5) (fun x1 => .c1 (P34 N ([100, 101, 97, 99, 116, 105, 118, 97, 116, 101] : Bs) x1) (fun x2 => .ck (room (s3.length + x2.length)) (.ck (inR s5 s0.length) (.br (decide ((1 : Int) < ((atI tLn s0 s5).2.2))) (.c1 (P35 N s0 s5) (fun x3 => .c1 (P34 N ([112, 114, 111, 116, 101, 99, 116] : Bs) x3) (fun x4 => .ck (room ((s3 ++ x2).length + x4.length)) (.leaf (.next (s0, ((s3 ++ x2) ++ x4), (IntKind.i64.wrap (s5 + 1)))))))) (.leaf (.next (s0, (s3 ++ x2), (IntKind.i64.wrap (s5 + 1)))))))))) (.ck (inR s5 s0.length) (.br (decide ((1 : Int) < ((atI tLn s0 s5).2.2))) (.c1 (P35 N s0 s5) (fun x5 => .c1 (P34 N ([112, 114, 111, 116, 101, 99, 116] : Bs) x5) (fun x6 => .ck (room (s3.length + x6.length)) (.leaf (.next (s0, (s3 ++ x6), (IntKind.i64.wrap (s5 + 1)))))))) (.leaf (.next (s0, s3, (IntKind.i64.wrap (s5 + 1)))))))))) (.leaf (.brk 0 (s0, s3, s5)))
noncomputable def L18_8 (N : Nat) (s0 : (List Ln)) (s3 : Bs) (s5 : Int) : Option (Lp ((List Ln) × Bs × Int) Bs) := (U18_8 N s0 s3 s5).eval
noncomputable def W18_8 (N : Nat) (x : ((List Ln) × Bs × Int)) : Option (Lp ((List Ln) × Bs × Int) Bs) := runLoop (fun x => L18_8 N x.1 x.2.1 x.2.2) N x
theorem WS18_8 (N : Nat) (x : (shTy l18_8).I) : ∀ o, W18_8 N x = some o → S Try.prog (.loop b18_8) (buildSt 56 l18_8 x) (stepZ (rdD Try.prog Try.f18 false) l18_8 (encO 56 l18_8 [2] (fun q => some (E18 q)) o)) :=
  fun o h => loop_S (l := l18_8) (step := fun x => L18_8 N x.1 x.2.1 x.2.2) (fun x o h => wpc_sound (tbl := [(3, [0], l18_3)]) (μ := []) mixed _ _ _ (by
    have h1 := Vt.sound _ h
    refine Eq.mp ?_ h1
    kernel_rfl)) N x o h
noncomputable def V18 (N : Nat) (a0 : (List Ln)) : Vt Bs (Option D) (fun q => some (E18 q)) :=
  .f1 (l := l18_3) (o := W18_3 N (a0, ([] : Bs), 0)) (WS18_3 N (a0, ([] : Bs), 0)) (fun x1 => .f1 (l := l18_8) (o := W18_8 N (x1.1, x1.2.1, 0)) (WS18_8 N (x1.1, x1.2.1, 0)) (fun x2 => .leaf x2.2.1))
noncomputable def F18 (N : Nat) (a0 : (List Ln)) : Option Bs := (V18 N a0).eval
def t18 : List (Nat × List Nat × List (Nat × Sh)) := [(3, [0], l18_3), (8, [2], l18_8)]
theorem P18 (N : Nat) (a0 : (List Ln)) : ∀ r, F18 N a0 = some r → Spec Try.prog 18 [.val (.list tLn) a0] (E18 r) := fun r h => Spec_of (fn := Try.f18) rfl rfl rfl rfl false (wpc_sound (tbl := t18) (μ := []) mixed _ _ _ (by
  have h1 := Vt.sound _ h
  refine Eq.mp ?_ h1
  kernel_rfl))

/-! ferryslip/ferrysliplaw06.LinesText -/
def E4 : Bool → D := fun x => encV tB x
noncomputable def V4 (N : Nat) (a0 : (List Ln)) : Vt Bool (Option D) (fun q => some (E4 q)) :=
  .c1 (P10 N a0) (fun x1 => .br (!x1) (.c1 (P12 N) (fun x2 => .leaf x2)) (.c2 (P16 N a0) (fun x3 x4 => .c1 (P17 N a0) (fun x5 => .br (!x5) (.br (x3 == ([] : Bs)) (.br (x4 == 1) (.c1 (P12 N) (fun x6 => .leaf x6)) (.leaf false)) (.leaf false)) (.c1 (P18 N a0) (fun x7 => .br (x3 == x7) (.br (x4 == 0) (.c1 (P12 N) (fun x8 => .leaf x8)) (.leaf false)) (.leaf false)))))))
noncomputable def F4 (N : Nat) (a0 : (List Ln)) : Option Bool := (V4 N a0).eval
def t4 : List (Nat × List Nat × List (Nat × Sh)) := []
theorem P4 (N : Nat) (a0 : (List Ln)) : ∀ r, F4 N a0 = some r → Spec Try.prog 4 [.val (.list tLn) a0] (E4 r) := fun r h => Spec_of (fn := Try.f4) rfl rfl rfl rfl false (wpc_sound (tbl := t4) (μ := []) mixed _ _ _ (by
  have h1 := Vt.sound _ h
  refine Eq.mp ?_ h1
  kernel_rfl))

/-! ferryslip/ferrysliplaw06.LinesBack -/
def E5 : Bool → D := fun x => encV tB x
noncomputable def V5 (N : Nat) (a0 : (List Ln)) : Vt Bool (Option D) (fun q => some (E5 q)) :=
  .c1 (P10 N a0) (fun x1 => .br (!x1) (.c1 (P12 N) (fun x2 => .leaf x2)) (.br (decide ((60 : Int) < (a0.length : Int))) (.c1 (P12 N) (fun x3 => .leaf x3)) (.c2 (P16 N a0) (fun x4 x5 => .br (x5 != 0) (.br (x4 == ([] : Bs)) (.c1 (P12 N) (fun x6 => .leaf x6)) (.leaf false)) (.c3 (P19 N x4) (fun x7 x8 x9 => .br (x9 == 0) (.c1 (P15 N a0 x7) (fun x10 => .br x10 (.c1 (P12 N) (fun x11 => .leaf x11)) (.leaf false))) (.leaf false)))))))
noncomputable def F5 (N : Nat) (a0 : (List Ln)) : Option Bool := (V5 N a0).eval
def t5 : List (Nat × List Nat × List (Nat × Sh)) := []
theorem P5 (N : Nat) (a0 : (List Ln)) : ∀ r, F5 N a0 = some r → Spec Try.prog 5 [.val (.list tLn) a0] (E5 r) := fun r h => Spec_of (fn := Try.f5) rfl rfl rfl rfl false (wpc_sound (tbl := t5) (μ := []) mixed _ _ _ (by
  have h1 := Vt.sound _ h
  refine Eq.mp ?_ h1
  kernel_rfl))

/-! ferryslip/ferrysliplaw06.LinesTwice -/
def E6 : Bool → D := fun x => encV tB x
noncomputable def V6 (N : Nat) (a0 : Bs) : Vt Bool (Option D) (fun q => some (E6 q)) :=
  .br (decide ((300 : Int) < (a0.length : Int))) (.c1 (P12 N) (fun x1 => .leaf x1)) (.c3 (P19 N a0) (fun x2 x3 x4 => .br (x4 != 0) (.br ((x2.length : Int) == 0) (.c1 (P12 N) (fun x5 => .leaf x5)) (.leaf false)) (.ck (room (a0.length + ([10] : Bs).length)) (.ck (room ((a0 ++ ([10] : Bs)).length + a0.length)) (.c3 (P19 N ((a0 ++ ([10] : Bs)) ++ a0)) (fun x6 x7 x8 => .br (x8 == 0) (.c1 (P15 N x2 x6) (fun x9 => .br x9 (.c1 (P12 N) (fun x10 => .leaf x10)) (.leaf false))) (.leaf false)))))))
noncomputable def F6 (N : Nat) (a0 : Bs) : Option Bool := (V6 N a0).eval
def t6 : List (Nat × List Nat × List (Nat × Sh)) := []
theorem P6 (N : Nat) (a0 : Bs) : ∀ r, F6 N a0 = some r → Spec Try.prog 6 [.val tS a0] (E6 r) := fun r h => Spec_of (fn := Try.f6) rfl rfl rfl rfl false (wpc_sound (tbl := t6) (μ := []) mixed _ _ _ (by
  have h1 := Vt.sound _ h
  refine Eq.mp ?_ h1
  kernel_rfl))

/-! ferryslip/ferrysliplaw06.LinesGrows -/
def E7 : Bool → D := fun x => encV tB x
abbrev l7_11 : List (Nat × Sh) := [(0, .val (.list tLn)), (5, .val (.list tLn)), (91, .val (.list tLn)), (92, .val tI), (93, .val tI)]
noncomputable def b7_11 : Code := loopBody 11 (bodyOf Try.f7)
noncomputable def U7_11 (N : Nat) (s0 : (List Ln)) (s5 : (List Ln)) (s91 : (List Ln)) (s92 : Int) (s93 : Int) : Vt (Lp (shTy l7_11).I Bool) (O3 (Option D)) (encO 126 l7_11 [0] (fun q => some (E7 q))) :=
  .br (decide (s93 < s92)) (.ck (inR s93 s91.length) (.c2 (P22o N s0 s93) (fun x1 x2 => .c2 (P20 N s5 x1) (fun x3 x4 => .br (x2 != 0) (.leaf (.ret false)) (.br (!x4) (.leaf (.ret false)) (.ck (inR x3 s5.length) (.br (!((((atI tLn s5 x3).1) == ((atI tLn s91 s93).1)) && ((((atI tLn s5 x3).2.1) == ((atI tLn s91 s93).2.1)) && ((((atI tLn s5 x3).2.2) == ((atI tLn s91 s93).2.2)) && true)))) (.leaf (.ret false)) (.leaf (.next (s0, s5, s91, s92, (IntKind.i64.wrap (s93 + 1)))))))))))) (.leaf (.brk 0 (s0, s5, s91, s92, s93)))
noncomputable def L7_11 (N : Nat) (s0 : (List Ln)) (s5 : (List Ln)) (s91 : (List Ln)) (s92 : Int) (s93 : Int) : Option (Lp ((List Ln) × (List Ln) × (List Ln) × Int × Int) Bool) := (U7_11 N s0 s5 s91 s92 s93).eval
noncomputable def W7_11 (N : Nat) (x : ((List Ln) × (List Ln) × (List Ln) × Int × Int)) : Option (Lp ((List Ln) × (List Ln) × (List Ln) × Int × Int) Bool) := runLoop (fun x => L7_11 N x.1 x.2.1 x.2.2.1 x.2.2.2.1 x.2.2.2.2) N x
theorem WS7_11 (N : Nat) (x : (shTy l7_11).I) : ∀ o, W7_11 N x = some o → S Try.prog (.loop b7_11) (buildSt 126 l7_11 x) (stepZ (rdD Try.prog Try.f7 false) l7_11 (encO 126 l7_11 [0] (fun q => some (E7 q)) o)) :=
  fun o h => loop_S (l := l7_11) (step := fun x => L7_11 N x.1 x.2.1 x.2.2.1 x.2.2.2.1 x.2.2.2.2) (fun x o h => wpc_sound (tbl := []) (μ := [34, 48, 101, 3000034, 3000048]) mixed _ _ _ (by
    have h1 := Vt.sound _ h
    refine Eq.mp ?_ h1
    kernel_rfl)) N x o h
noncomputable def V7 (N : Nat) (a0 : (List Ln)) (a1 : (List Bs)) : Vt Bool (Option D) (fun q => some (E7 q)) :=
  .c1 (P10 N a0) (fun x1 => .br (!x1) (.c1 (P12 N) (fun x2 => .leaf x2)) (.br (decide ((60 : Int) < (a0.length : Int))) (.c1 (P12 N) (fun x3 => .leaf x3)) (.c1 (P11 N a1) (fun x4 => .br (!x4) (.c1 (P12 N) (fun x5 => .leaf x5)) (.c3 (P13f N a0 a1) (fun x8 x6 x7 => .br x8 (.br (x7 != 0) (.c1 (P15 N a0 x6) (fun x9 => .br x9 (.c1 (P12 N) (fun x10 => .leaf x10)) (.leaf false))) (.c3 (P13f N x6 a1) (fun x13 x11 x12 => .br x13 (.c2 (P20 N x6 a1) (fun x14 x15 => .br (!x15) (.leaf false) (.br (x12 != 0) (.leaf false) (.c1 (P15 N x6 x11) (fun x16 => .br (!x16) (.leaf false) (.c1 (P21 N x6) (fun x17 => .br (!x17) (.leaf false) (.br (decide ((x6.length : Int) < (a0.length : Int))) (.leaf false) (.br (decide ((IntKind.i64.wrap ((a0.length : Int) + (a1.length : Int))) < (x6.length : Int))) (.leaf false) (.f1 (l := l7_11) (o := W7_11 N (a0, x6, a0, (a0.length : Int), 0)) (WS7_11 N (a0, x6, a0, (a0.length : Int), 0)) (fun x18 => .c1 (P12 N) (fun x19 => .leaf x19)))))))))))) (.c2 (P20 N x6 a1) (fun x20 x21 => .br (!x21) (.leaf false) (.br (x12 != 0) (.leaf false) (.c1 (P15 N x6 x11) (fun x22 => .br (!x22) (.leaf false) (.c1 (P21 N x6) (fun x23 => .br (!x23) (.leaf false) (.br (decide ((x6.length : Int) < (a0.length : Int))) (.leaf false) (.br (decide ((IntKind.i64.wrap ((a0.length : Int) + (a1.length : Int))) < (x6.length : Int))) (.leaf false) (.f1 (l := l7_11) (o := W7_11 N (a0, x6, a0, (a0.length : Int), 0)) (WS7_11 N (a0, x6, a0, (a0.length : Int), 0)) (fun x24 => .c1 (P12 N) (fun x25 => .leaf x25))))))))))))))) (.br (x7 != 0) (.c1 (P15 N a0 x6) (fun x26 => .br x26 (.c1 (P12 N) (fun x27 => .leaf x27)) (.leaf false))) (.c3 (P13f N x6 a1) (fun x30 x28 x29 => .br x30 (.c2 (P20 N x6 a1) (fun x31 x32 => .br (!x32) (.leaf false) (.br (x29 != 0) (.leaf false) (.c1 (P15 N x6 x28) (fun x33 => .br (!x33) (.leaf false) (.c1 (P21 N x6) (fun x34 => .br (!x34) (.leaf false) (.br (decide ((x6.length : Int) < (a0.length : Int))) (.leaf false) (.br (decide ((IntKind.i64.wrap ((a0.length : Int) + (a1.length : Int))) < (x6.length : Int))) (.leaf false) (.f1 (l := l7_11) (o := W7_11 N (a0, x6, a0, (a0.length : Int), 0)) (WS7_11 N (a0, x6, a0, (a0.length : Int), 0)) (fun x35 => .c1 (P12 N) (fun x36 => .leaf x36)))))))))))) (.c2 (P20 N x6 a1) (fun x37 x38 => .br (!x38) (.leaf false) (.br (x29 != 0) (.leaf false) (.c1 (P15 N x6 x28) (fun x39 => .br (!x39) (.leaf false) (.c1 (P21 N x6) (fun x40 => .br (!x40) (.leaf false) (.br (decide ((x6.length : Int) < (a0.length : Int))) (.leaf false) (.br (decide ((IntKind.i64.wrap ((a0.length : Int) + (a1.length : Int))) < (x6.length : Int))) (.leaf false) (.f1 (l := l7_11) (o := W7_11 N (a0, x6, a0, (a0.length : Int), 0)) (WS7_11 N (a0, x6, a0, (a0.length : Int), 0)) (fun x41 => .c1 (P12 N) (fun x42 => .leaf x42)))))))))))))))))))))
noncomputable def F7 (N : Nat) (a0 : (List Ln)) (a1 : (List Bs)) : Option Bool := (V7 N a0 a1).eval
def t7 : List (Nat × List Nat × List (Nat × Sh)) := [(11, [0], l7_11)]
theorem P7 (N : Nat) (a0 : (List Ln)) (a1 : (List Bs)) : ∀ r, F7 N a0 a1 = some r → Spec Try.prog 7 [.val (.list tLn) a0, .val (.list tS) a1] (E7 r) := fun r h => Spec_of (fn := Try.f7) rfl rfl rfl rfl false (wpc_sound (tbl := t7) (μ := [34, 48, 101, 3000034, 3000048]) mixed _ _ _ (by
  have h1 := Vt.sound _ h
  refine Eq.mp ?_ h1
  kernel_rfl))

/-! ferryslip/ferrysliplaw06.LinesOrder -/
def E8 : Bool → D := fun x => encV tB x
abbrev l8_9 : List (Nat × Sh) := [(0, .val (.list (.list tS))), (1, .val (.int .u8)), (25, .val (.list (.list tS))), (26, .val tI), (27, .val tI), (45, .val (.list tS)), (46, .val tI), (47, .val tI)]
noncomputable def b8_9 : Code := loopBody 9 (bodyOf Try.f8)
noncomputable def U8_9 (N : Nat) (s0 : (List (List Bs))) (s1 : Int) (s25 : (List (List Bs))) (s26 : Int) (s27 : Int) (s45 : (List Bs)) (s46 : Int) (s47 : Int) : Vt (Lp (shTy l8_9).I Bool) (O3 (Option D)) (encO 121 l8_9 [2] (fun q => some (E8 q))) :=
  .br (decide (s47 < s46)) (.ck (inR s47 s45.length) (.br (decide ((40 : Int) < ((atI tS s45 s47).length : Int))) (.c1 (P12 N) (fun x1 => .leaf (.ret x1))) (.leaf (.next (s0, s1, s25, s26, s27, s45, s46, (IntKind.i64.wrap (s47 + 1))))))) (.leaf (.brk 0 (s0, s1, s25, s26, s27, s45, s46, s47)))
noncomputable def L8_9 (N : Nat) (s0 : (List (List Bs))) (s1 : Int) (s25 : (List (List Bs))) (s26 : Int) (s27 : Int) (s45 : (List Bs)) (s46 : Int) (s47 : Int) : Option (Lp ((List (List Bs)) × Int × (List (List Bs)) × Int × Int × (List Bs) × Int × Int) Bool) := (U8_9 N s0 s1 s25 s26 s27 s45 s46 s47).eval
noncomputable def W8_9 (N : Nat) (x : ((List (List Bs)) × Int × (List (List Bs)) × Int × Int × (List Bs) × Int × Int)) : Option (Lp ((List (List Bs)) × Int × (List (List Bs)) × Int × Int × (List Bs) × Int × Int) Bool) := runLoop (fun x => L8_9 N x.1 x.2.1 x.2.2.1 x.2.2.2.1 x.2.2.2.2.1 x.2.2.2.2.2.1 x.2.2.2.2.2.2.1 x.2.2.2.2.2.2.2) N x
theorem WS8_9 (N : Nat) (x : (shTy l8_9).I) : ∀ o, W8_9 N x = some o → S Try.prog (.loop b8_9) (buildSt 121 l8_9 x) (stepZ (rdD Try.prog Try.f8 false) l8_9 (encO 121 l8_9 [2] (fun q => some (E8 q)) o)) :=
  fun o h => loop_S (l := l8_9) (step := fun x => L8_9 N x.1 x.2.1 x.2.2.1 x.2.2.2.1 x.2.2.2.2.1 x.2.2.2.2.2.1 x.2.2.2.2.2.2.1 x.2.2.2.2.2.2.2) (fun x o h => wpc_sound (tbl := []) (μ := []) mixed _ _ _ (by
    have h1 := Vt.sound _ h
    refine Eq.mp ?_ h1
    kernel_rfl)) N x o h
abbrev l8_4 : List (Nat × Sh) := [(0, .val (.list (.list tS))), (1, .val (.int .u8)), (25, .val (.list (.list tS))), (26, .val tI), (27, .val tI)]
noncomputable def b8_4 : Code := loopBody 4 (bodyOf Try.f8)
noncomputable def U8_4 (N : Nat) (s0 : (List (List Bs))) (s1 : Int) (s25 : (List (List Bs))) (s26 : Int) (s27 : Int) : Vt (Lp (shTy l8_4).I Bool) (O3 (Option D)) (encO 121 l8_4 [0] (fun q => some (E8 q))) :=
  .br (decide (s27 < s26)) (.ck (inR s27 s25.length) (.br (((atI (.list tS) s25 s27).length : Int) == 0) (.c1 (P12 N) (fun x1 => .leaf (.ret x1))) (.br (decide ((16 : Int) < ((atI (.list tS) s25 s27).length : Int))) (.c1 (P12 N) (fun x2 => .leaf (.ret x2))) (.c1 (P11 N (atI (.list tS) s25 s27)) (fun x3 => .br (!x3) (.c1 (P12 N) (fun x4 => .leaf (.ret x4))) (.g1 (l := l8_9) (o := W8_9 N (s0, s1, s25, s26, s27, (atI (.list tS) s25 s27), ((atI (.list tS) s25 s27).length : Int), 0)) (WS8_9 N (s0, s1, s25, s26, s27, (atI (.list tS) s25 s27), ((atI (.list tS) s25 s27).length : Int), 0)) (fun x5 => .leaf (.next (x5.1, x5.2.1, x5.2.2.1, x5.2.2.2.1, (IntKind.i64.wrap (x5.2.2.2.2.1 + 1))))))))))) (.leaf (.brk 0 (s0, s1, s25, s26, s27)))
noncomputable def L8_4 (N : Nat) (s0 : (List (List Bs))) (s1 : Int) (s25 : (List (List Bs))) (s26 : Int) (s27 : Int) : Option (Lp ((List (List Bs)) × Int × (List (List Bs)) × Int × Int) Bool) := (U8_4 N s0 s1 s25 s26 s27).eval
noncomputable def W8_4 (N : Nat) (x : ((List (List Bs)) × Int × (List (List Bs)) × Int × Int)) : Option (Lp ((List (List Bs)) × Int × (List (List Bs)) × Int × Int) Bool) := runLoop (fun x => L8_4 N x.1 x.2.1 x.2.2.1 x.2.2.2.1 x.2.2.2.2) N x
theorem WS8_4 (N : Nat) (x : (shTy l8_4).I) : ∀ o, W8_4 N x = some o → S Try.prog (.loop b8_4) (buildSt 121 l8_4 x) (stepZ (rdD Try.prog Try.f8 false) l8_4 (encO 121 l8_4 [0] (fun q => some (E8 q)) o)) :=
  fun o h => loop_S (l := l8_4) (step := fun x => L8_4 N x.1 x.2.1 x.2.2.1 x.2.2.2.1 x.2.2.2.2) (fun x o h => wpc_sound (tbl := [(9, [2], l8_9)]) (μ := []) mixed _ _ _ (by
    have h1 := Vt.sound _ h
    refine Eq.mp ?_ h1
    kernel_rfl)) N x o h
abbrev l8_17 : List (Nat × Sh) := [(0, .val (.list (.list tS))), (1, .val (.int .u8)), (9, .val (.list tLn)), (10, .val (.list tLn)), (58, .val tI), (59, .val tI)]
noncomputable def b8_17 : Code := loopBody 17 (bodyOf Try.f8)
noncomputable def U8_17 (N : Nat) (s0 : (List (List Bs))) (s1 : Int) (s9 : (List Ln)) (s10 : (List Ln)) (s58 : Int) (s59 : Int) : Vt (Lp (shTy l8_17).I Bool) (O3 (Option D)) (encO 121 l8_17 [4] (fun q => some (E8 q))) :=
  .br (decide (s59 < s58)) (.ck (inR s59 s0.length) (.c3 (P13f N s9 (atI (.list tS) s0 s59)) (fun x3 x1 x2 => .br x3 (.ck ((s0.length : Int) ≠ 0) (.ck (inR ((IntKind.i64.wrap ((IntKind.i64.wrap ((s0.length : Int) - s59)) + (IntKind.i64.wrap s1))).tmod (s0.length : Int)) s0.length) (.c3 (P13f N s10 (atI (.list tS) s0 ((IntKind.i64.wrap ((IntKind.i64.wrap ((s0.length : Int) - s59)) + (IntKind.i64.wrap s1))).tmod (s0.length : Int)))) (fun x6 x4 x5 => .br x6 (.br (x2 != 0) (.br (x2 == 0) (.br (x5 == 0) (.c1 (P12 N) (fun x7 => .leaf (.ret x7))) (.br (x5 == 5) (.c1 (P12 N) (fun x8 => .leaf (.ret x8))) (.leaf (.ret false)))) (.br (x2 == 5) (.br (x5 == 0) (.c1 (P12 N) (fun x9 => .leaf (.ret x9))) (.br (x5 == 5) (.c1 (P12 N) (fun x10 => .leaf (.ret x10))) (.leaf (.ret false)))) (.leaf (.ret false)))) (.br (x5 != 0) (.br (x2 == 0) (.br (x5 == 0) (.c1 (P12 N) (fun x11 => .leaf (.ret x11))) (.br (x5 == 5) (.c1 (P12 N) (fun x12 => .leaf (.ret x12))) (.leaf (.ret false)))) (.br (x2 == 5) (.br (x5 == 0) (.c1 (P12 N) (fun x13 => .leaf (.ret x13))) (.br (x5 == 5) (.c1 (P12 N) (fun x14 => .leaf (.ret x14))) (.leaf (.ret false)))) (.leaf (.ret false)))) (.leaf (.next (s0, s1, x1, x4, s58, (IntKind.i64.wrap (s59 + 1))))))) (.br (x2 != 0) (.br (x2 == 0) (.br (x5 == 0) (.c1 (P12 N) (fun x15 => .leaf (.ret x15))) (.br (x5 == 5) (.c1 (P12 N) (fun x16 => .leaf (.ret x16))) (.leaf (.ret false)))) (.br (x2 == 5) (.br (x5 == 0) (.c1 (P12 N) (fun x17 => .leaf (.ret x17))) (.br (x5 == 5) (.c1 (P12 N) (fun x18 => .leaf (.ret x18))) (.leaf (.ret false)))) (.leaf (.ret false)))) (.br (x5 != 0) (.br (x2 == 0) (.br (x5 == 0) (.c1 (P12 N) (fun x19 => .leaf (.ret x19))) (.br (x5 == 5) (.c1 (P12 N) (fun x20 => .leaf (.ret x20))) (.leaf (.ret false)))) (.br (x2 == 5) (.br (x5 == 0) (.c1 (P12 N) (fun x21 => .leaf (.ret x21))) (.br (x5 == 5) (.c1 (P12 N) (fun x22 => .leaf (.ret x22))) (.leaf (.ret false)))) (.leaf (.ret false)))) (.leaf (.next (s0, s1, x1, x4, s58, (IntKind.i64.wrap (s59 + 1))))))))))) (.ck ((s0.length : Int) ≠ 0) (.ck (inR ((IntKind.i64.wrap ((IntKind.i64.wrap ((s0.length : Int) - s59)) + (IntKind.i64.wrap s1))).tmod (s0.length : Int)) s0.length) (.c3 (P13f N s10 (atI (.list tS) s0 ((IntKind.i64.wrap ((IntKind.i64.wrap ((s0.length : Int) - s59)) + (IntKind.i64.wrap s1))).tmod (s0.length : Int)))) (fun x25 x23 x24 => .br x25 (.br (x2 != 0) (.br (x2 == 0) (.br (x24 == 0) (.c1 (P12 N) (fun x26 => .leaf (.ret x26))) (.br (x24 == 5) (.c1 (P12 N) (fun x27 => .leaf (.ret x27))) (.leaf (.ret false)))) (.br (x2 == 5) (.br (x24 == 0) (.c1 (P12 N) (fun x28 => .leaf (.ret x28))) (.br (x24 == 5) (.c1 (P12 N) (fun x29 => .leaf (.ret x29))) (.leaf (.ret false)))) (.leaf (.ret false)))) (.br (x24 != 0) (.br (x2 == 0) (.br (x24 == 0) (.c1 (P12 N) (fun x30 => .leaf (.ret x30))) (.br (x24 == 5) (.c1 (P12 N) (fun x31 => .leaf (.ret x31))) (.leaf (.ret false)))) (.br (x2 == 5) (.br (x24 == 0) (.c1 (P12 N) (fun x32 => .leaf (.ret x32))) (.br (x24 == 5) (.c1 (P12 N) (fun x33 => .leaf (.ret x33))) (.leaf (.ret false)))) (.leaf (.ret false)))) (.leaf (.next (s0, s1, x1, x23, s58, (IntKind.i64.wrap (s59 + 1))))))) (.br (x2 != 0) (.br (x2 == 0) (.br (x24 == 0) (.c1 (P12 N) (fun x34 => .leaf (.ret x34))) (.br (x24 == 5) (.c1 (P12 N) (fun x35 => .leaf (.ret x35))) (.leaf (.ret false)))) (.br (x2 == 5) (.br (x24 == 0) (.c1 (P12 N) (fun x36 => .leaf (.ret x36))) (.br (x24 == 5) (.c1 (P12 N) (fun x37 => .leaf (.ret x37))) (.leaf (.ret false)))) (.leaf (.ret false)))) (.br (x24 != 0) (.br (x2 == 0) (.br (x24 == 0) (.c1 (P12 N) (fun x38 => .leaf (.ret x38))) (.br (x24 == 5) (.c1 (P12 N) (fun x39 => .leaf (.ret x39))) (.leaf (.ret false)))) (.br (x2 == 5) (.br (x24 == 0) (.c1 (P12 N) (fun x40 => .leaf (.ret x40))) (.br (x24 == 5) (.c1 (P12 N) (fun x41 => .leaf (.ret x41))) (.leaf (.ret false)))) (.leaf (.ret false)))) (.leaf (.next (s0, s1, x1, x23, s58, (IntKind.i64.wrap (s59 + 1)))))))))))))) (.leaf (.brk 0 (s0, s1, s9, s10, s58, s59)))
noncomputable def L8_17 (N : Nat) (s0 : (List (List Bs))) (s1 : Int) (s9 : (List Ln)) (s10 : (List Ln)) (s58 : Int) (s59 : Int) : Option (Lp ((List (List Bs)) × Int × (List Ln) × (List Ln) × Int × Int) Bool) := (U8_17 N s0 s1 s9 s10 s58 s59).eval
noncomputable def W8_17 (N : Nat) (x : ((List (List Bs)) × Int × (List Ln) × (List Ln) × Int × Int)) : Option (Lp ((List (List Bs)) × Int × (List Ln) × (List Ln) × Int × Int) Bool) := runLoop (fun x => L8_17 N x.1 x.2.1 x.2.2.1 x.2.2.2.1 x.2.2.2.2.1 x.2.2.2.2.2) N x
theorem WS8_17 (N : Nat) (x : (shTy l8_17).I) : ∀ o, W8_17 N x = some o → S Try.prog (.loop b8_17) (buildSt 121 l8_17 x) (stepZ (rdD Try.prog Try.f8 false) l8_17 (encO 121 l8_17 [4] (fun q => some (E8 q)) o)) :=
  fun o h => loop_S (l := l8_17) (step := fun x => L8_17 N x.1 x.2.1 x.2.2.1 x.2.2.2.1 x.2.2.2.2.1 x.2.2.2.2.2) (fun x o h => wpc_sound (tbl := [(9, [2], l8_9), (4, [0], l8_4)]) (μ := [68, 86, 3000068, 3000086]) mixed _ _ _ (by
    have h1 := Vt.sound _ h
    refine Eq.mp ?_ h1
    kernel_rfl)) N x o h
noncomputable def V8 (N : Nat) (a0 : (List (List Bs))) (a1 : Int) : Vt Bool (Option D) (fun q => some (E8 q)) :=
  .br (decide ((20 : Int) < (a0.length : Int))) (.c1 (P12 N) (fun x1 => .leaf x1)) (.br ((a0.length : Int) == 0) (.c1 (P12 N) (fun x2 => .leaf x2)) (.f1 (l := l8_4) (o := W8_4 N (a0, a1, a0, (a0.length : Int), 0)) (WS8_4 N (a0, a1, a0, (a0.length : Int), 0)) (fun x3 => .f1 (l := l8_17) (o := W8_17 N (x3.1, x3.2.1, ([] : (List Ln)), ([] : (List Ln)), (x3.1.length : Int), 0)) (WS8_17 N (x3.1, x3.2.1, ([] : (List Ln)), ([] : (List Ln)), (x3.1.length : Int), 0)) (fun x4 => .c1 (P15 N x4.2.2.1 x4.2.2.2.1) (fun x5 => .br x5 (.c1 (P12 N) (fun x6 => .leaf x6)) (.leaf false))))))
noncomputable def F8 (N : Nat) (a0 : (List (List Bs))) (a1 : Int) : Option Bool := (V8 N a0 a1).eval
def t8 : List (Nat × List Nat × List (Nat × Sh)) := [(9, [2], l8_9), (4, [0], l8_4), (17, [4], l8_17)]
theorem P8 (N : Nat) (a0 : (List (List Bs))) (a1 : Int) : ∀ r, F8 N a0 a1 = some r → Spec Try.prog 8 [.val (.list (.list tS)) a0, .val (.int .u8) a1] (E8 r) := fun r h => Spec_of (fn := Try.f8) rfl rfl rfl rfl false (wpc_sound (tbl := t8) (μ := [68, 86, 3000068, 3000086]) mixed _ _ _ (by
  have h1 := Vt.sound _ h
  refine Eq.mp ?_ h1
  kernel_rfl))

/-! ferryslip/ferrysliplaw06.LinesRows -/
def E9 : Bool → D := fun x => encV tB x
abbrev l9_8 : List (Nat × Sh) := [(0, .val (.list tLn)), (3, .val tS), (5, .val tI), (6, .val tI), (35, .val tI), (36, .val tI)]
noncomputable def b9_8 : Code := loopBody 8 (bodyOf Try.f9)
noncomputable def U9_8 (N : Nat) (s0 : (List Ln)) (s3 : Bs) (s5 : Int) (s6 : Int) (s35 : Int) (s36 : Int) : Vt (Lp (shTy l9_8).I Bool) (O3 (Option D)) (encO 68 l9_8 [0] (fun q => some (E9 q))) :=
  .br (decide (s36 < s35)) (.ck (inR s36 s3.length) (.br ((byteAt s3 s36) == 10) (.leaf (.next (s0, s3, (IntKind.i64.wrap (s5 + 1)), s6, s35, (IntKind.i64.wrap (s36 + 1))))) (.leaf (.next (s0, s3, s5, s6, s35, (IntKind.i64.wrap (s36 + 1))))))) (.leaf (.brk 0 (s0, s3, s5, s6, s35, s36)))
noncomputable def L9_8 (N : Nat) (s0 : (List Ln)) (s3 : Bs) (s5 : Int) (s6 : Int) (s35 : Int) (s36 : Int) : Option (Lp ((List Ln) × Bs × Int × Int × Int × Int) Bool) := (U9_8 N s0 s3 s5 s6 s35 s36).eval
noncomputable def W9_8 (N : Nat) (x : ((List Ln) × Bs × Int × Int × Int × Int)) : Option (Lp ((List Ln) × Bs × Int × Int × Int × Int) Bool) := runLoop (fun x => L9_8 N x.1 x.2.1 x.2.2.1 x.2.2.2.1 x.2.2.2.2.1 x.2.2.2.2.2) N x
theorem WS9_8 (N : Nat) (x : (shTy l9_8).I) : ∀ o, W9_8 N x = some o → S Try.prog (.loop b9_8) (buildSt 68 l9_8 x) (stepZ (rdD Try.prog Try.f9 false) l9_8 (encO 68 l9_8 [0] (fun q => some (E9 q)) o)) :=
  fun o h => loop_S (l := l9_8) (step := fun x => L9_8 N x.1 x.2.1 x.2.2.1 x.2.2.2.1 x.2.2.2.2.1 x.2.2.2.2.2) (fun x o h => wpc_sound (tbl := []) (μ := [32]) mixed _ _ _ (by
    have h1 := Vt.sound _ h
    refine Eq.mp ?_ h1
    kernel_rfl)) N x o h
abbrev l9_14 : List (Nat × Sh) := [(5, .val tI), (6, .val tI), (46, .val (.list tLn)), (47, .val tI), (48, .val tI)]
noncomputable def b9_14 : Code := loopBody 14 (bodyOf Try.f9)
noncomputable def U9_14 (N : Nat) (s5 : Int) (s6 : Int) (s46 : (List Ln)) (s47 : Int) (s48 : Int) : Vt (Lp (shTy l9_14).I Bool) (O3 (Option D)) (encO 68 l9_14 [2] (fun q => some (E9 q))) :=
  .br (decide (s48 < s47)) (.ck (inR s48 s46.length) (.ck (0 ≤ (1 : Int)) (.leaf (.next (s5, (IntKind.i64.wrap (s6 + (IntKind.i64.wrap ((IntKind.i64.wrap (((BitVec.ofInt IntKind.i64.bits ((atI tLn s46 s48).2.2) &&& BitVec.ofInt IntKind.i64.bits 1).toNat : Int))) + (((atI tLn s46 s48).2.2).fdiv (2 ^ (min (1 : Int).toNat (IntKind.i64.bits)))))))), s46, s47, (IntKind.i64.wrap (s48 + 1))))))) (.leaf (.brk 0 (s5, s6, s46, s47, s48)))
noncomputable def L9_14 (N : Nat) (s5 : Int) (s6 : Int) (s46 : (List Ln)) (s47 : Int) (s48 : Int) : Option (Lp (Int × Int × (List Ln) × Int × Int) Bool) := (U9_14 N s5 s6 s46 s47 s48).eval
noncomputable def W9_14 (N : Nat) (x : (Int × Int × (List Ln) × Int × Int)) : Option (Lp (Int × Int × (List Ln) × Int × Int) Bool) := runLoop (fun x => L9_14 N x.1 x.2.1 x.2.2.1 x.2.2.2.1 x.2.2.2.2) N x
theorem WS9_14 (N : Nat) (x : (shTy l9_14).I) : ∀ o, W9_14 N x = some o → S Try.prog (.loop b9_14) (buildSt 68 l9_14 x) (stepZ (rdD Try.prog Try.f9 false) l9_14 (encO 68 l9_14 [2] (fun q => some (E9 q)) o)) :=
  fun o h => loop_S (l := l9_14) (step := fun x => L9_14 N x.1 x.2.1 x.2.2.1 x.2.2.2.1 x.2.2.2.2) (fun x o h => wpc_sound (tbl := [(8, [0], l9_8)]) (μ := [32]) mixed _ _ _ (by
    have h1 := Vt.sound _ h
    refine Eq.mp ?_ h1
    kernel_rfl)) N x o h
noncomputable def V9 (N : Nat) (a0 : (List Ln)) : Vt Bool (Option D) (fun q => some (E9 q)) :=
  .c1 (P10 N a0) (fun x1 => .br (!x1) (.c1 (P12 N) (fun x2 => .leaf x2)) (.br (decide ((60 : Int) < (a0.length : Int))) (.c1 (P12 N) (fun x3 => .leaf x3)) (.c2 (P16 N a0) (fun x4 x5 => .br (x5 != 0) (.br (x4 == ([] : Bs)) (.c1 (P12 N) (fun x6 => .leaf x6)) (.leaf false)) (.c1 (P23o N a0) (fun x7 => .f1 (l := l9_8) (o := W9_8 N (a0, x4, 0, (x7.length : Int), (x4.length : Int), 0)) (WS9_8 N (a0, x4, 0, (x7.length : Int), (x4.length : Int), 0)) (fun x8 => .f1 (l := l9_14) (o := W9_14 N (x8.2.2.1, x8.2.2.2.1, x8.1, (x8.1.length : Int), 0)) (WS9_14 N (x8.2.2.1, x8.2.2.2.1, x8.1, (x8.1.length : Int), 0)) (fun x9 => .br (x9.1 == x9.2.1) (.c1 (P12 N) (fun x10 => .leaf x10)) (.leaf false)))))))))
noncomputable def F9 (N : Nat) (a0 : (List Ln)) : Option Bool := (V9 N a0).eval
def t9 : List (Nat × List Nat × List (Nat × Sh)) := [(8, [0], l9_8), (14, [2], l9_14)]
theorem P9 (N : Nat) (a0 : (List Ln)) : ∀ r, F9 N a0 = some r → Spec Try.prog 9 [.val (.list tLn) a0] (E9 r) := fun r h => Spec_of (fn := Try.f9) rfl rfl rfl rfl false (wpc_sound (tbl := t9) (μ := [32]) mixed _ _ _ (by
  have h1 := Vt.sound _ h
  refine Eq.mp ?_ h1
  kernel_rfl))

end Go.Proofs.Ytkbciolghkcjoaa.Vc
