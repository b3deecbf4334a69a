/-
  WHAT THE FUNCTIONS DO WITH DATA, printed by a program from the translation. No condition.
-/
import Derived.Test.YtannkhelkpmcfaaIn
import Derived.Test.YtannkhelkpmcfaaRv
set_option linter.unusedVariables false
set_option linter.unusedSimpArgs false
namespace Go.Proofs.Ytannkhelkpmcfaa.Vc
open Go.RowKit

/-! ferryslip/ferryslipref03.Small -/
def E32 : Bool → D := fun x => encV tB x
abbrev l32_4 : List (Nat × Sh) := [(0, .val (.list tLn)), (3, .val tI)]
noncomputable def b32_4 : Code := loopBody 4 (bodyOf Try.f32)
noncomputable def U32_4 (N : Nat) (s0 : (List Ln)) (s3 : Int) : Vt (Lp (shTy l32_4).I Bool) (O3 (Option D)) (encO 20 l32_4 [0] (fun q => some (E32 q))) :=
  .br (decide (s3 < (s0.length : Int))) (.ck (inR s3 s0.length) (.br (decide ((100 : Int) < (((atI tLn s0 s3).2.1).length : Int))) (.leaf (.ret false)) (.leaf (.next (s0, (IntKind.i64.wrap (s3 + 1))))))) (.leaf (.brk 0 (s0, s3)))
noncomputable def L32_4 (N : Nat) (s0 : (List Ln)) (s3 : Int) : Option (Lp ((List Ln) × Int) Bool) := (U32_4 N s0 s3).eval
noncomputable def W32_4 (N : Nat) (x : ((List Ln) × Int)) : Option (Lp ((List Ln) × Int) Bool) := runLoop (fun x => L32_4 N x.1 x.2) N x
theorem WS32_4 (N : Nat) (x : (shTy l32_4).I) : ∀ o, W32_4 N x = some o → S Try.prog (.loop b32_4) (buildSt 20 l32_4 x) (stepZ (rdD Try.prog Try.f32 false) l32_4 (encO 20 l32_4 [0] (fun q => some (E32 q)) o)) :=
  fun o h => loop_S (l := l32_4) (step := fun x => L32_4 N x.1 x.2) (fun x o h => wpc_sound (tbl := []) (μ := []) mixed _ _ _ (by
    have h1 := Vt.sound _ h
    refine Eq.mp ?_ h1
    kernel_rfl)) N x o h
noncomputable def V32 (N : Nat) (a0 : (List Ln)) : Vt Bool (Option D) (fun q => some (E32 q)) :=
  .br (decide ((220 : Int) < (a0.length : Int))) (.leaf false) (.f1 (l := l32_4) (o := W32_4 N (a0, 0)) (WS32_4 N (a0, 0)) (fun x1 => .leaf true))
noncomputable def F32 (N : Nat) (a0 : (List Ln)) : Option Bool := (V32 N a0).eval
def t32 : List (Nat × List Nat × List (Nat × Sh)) := [(4, [0], l32_4)]
theorem P32 (N : Nat) (a0 : (List Ln)) : ∀ r, F32 N a0 = some r → Spec Try.prog 32 [.val (.list tLn) a0] (E32 r) := fun r h => Spec_of (fn := Try.f32) rfl rfl rfl rfl false (wpc_sound (tbl := t32) (μ := []) mixed _ _ _ (by
  have h1 := Vt.sound _ h
  refine Eq.mp ?_ h1
  kernel_rfl))

/-! ferryslip/ferrysliplaw12.few -/
def E10 : Bool → D := fun x => encV tB x
noncomputable def V10 (N : Nat) (a0 : (List Ln)) : Vt Bool (Option D) (fun q => some (E10 q)) :=
  .c1 (P32 N a0) (fun x1 => .br x1 (.leaf (decide ((a0.length : Int) ≤ 60))) (.leaf false))
noncomputable def F10 (N : Nat) (a0 : (List Ln)) : Option Bool := (V10 N a0).eval
def t10 : List (Nat × List Nat × List (Nat × Sh)) := []
theorem P10 (N : Nat) (a0 : (List Ln)) : ∀ r, F10 N a0 = some r → Spec Try.prog 10 [.val (.list tLn) a0] (E10 r) := fun r h => Spec_of (fn := Try.f10) rfl rfl rfl rfl false (wpc_sound (tbl := t10) (μ := []) mixed _ _ _ (by
  have h1 := Vt.sound _ h
  refine Eq.mp ?_ h1
  kernel_rfl))

/-! ferryslip/tree.sound -/
def E46 : Bool → D := fun x => encV tB x
noncomputable def V46 (N : Nat) (a0 : Ln) : Vt Bool (Option D) (fun q => some (E46 q)) :=
  .br (decide ((0 : Int) ≤ a0.1)) (.br (decide (a0.1 < 16)) (.br (decide ((a0.2.1.length : Int) ≤ 40)) (.br (decide ((0 : Int) ≤ a0.2.2)) (.leaf (decide (a0.2.2 ≤ 3))) (.leaf false)) (.leaf false)) (.leaf false)) (.leaf false)
noncomputable def F46 (N : Nat) (a0 : Ln) : Option Bool := (V46 N a0).eval
def t46 : List (Nat × List Nat × List (Nat × Sh)) := []
theorem P46 (N : Nat) (a0 : Ln) : ∀ r, F46 N a0 = some r → Spec Try.prog 46 [.agg [.val tI a0.1, .val tS a0.2.1, .val tI a0.2.2]] (E46 r) := fun r h => Spec_of (fn := Try.f46) rfl rfl rfl rfl false (wpc_sound (tbl := t46) (μ := []) mixed _ _ _ (by
  have h1 := Vt.sound _ h
  refine Eq.mp ?_ h1
  kernel_rfl))

/-! ferryslip/tree.Right -/
def E24 : Bool → D := fun x => encV tB x
abbrev l24_6 : List (Nat × Sh) := [(3, .arr 3 tS), (4, .val tI), (10, .val (.list tLn)), (11, .val tI), (12, .val tI)]
noncomputable def b24_6 : Code := loopBody 6 (bodyOf Try.f24)
noncomputable def U24_6 (N : Nat) (s3 : (List Bs)) (s4 : Int) (s10 : (List Ln)) (s11 : Int) (s12 : Int) : Vt (Lp (shTy l24_6).I Bool) (O3 (Option D)) (encO 48 l24_6 [0] (fun q => some (E24 q))) :=
  .br (decide (s12 < s11)) (.ck (inR s12 s10.length) (.c1 (P46 N (atI tLn s10 s12)) (fun x1 => .br (!x1) (.leaf (.ret false)) (.br (decide ((IntKind.i64.wrap (s4 + 1)) < ((atI tLn s10 s12).1))) (.leaf (.ret false)) (.br (decide (((atI tLn s10 s12).1) ≤ s4)) (.ck (inR ((atI tLn s10 s12).1) 16) (.ck (s3.length = 16) (.ck (inR ((atI tLn s10 s12).1) s3.length) (.br ((Op.bytesLess ((atI tLn s10 s12).2.1) (atI tS s3 ((atI tLn s10 s12).1))) || (((atI tLn s10 s12).2.1) == (atI tS s3 ((atI tLn s10 s12).1)))) (.leaf (.ret false)) (.ck (inR ((atI tLn s10 s12).1) 16) (.ck (s3.length = 16) (.ck (inR ((atI tLn s10 s12).1) s3.length) (.leaf (.next ((s3.set ((atI tLn s10 s12).1).toNat ((atI tLn s10 s12).2.1)), (atI tLn s10 s12).1, s10, s11, (IntKind.i64.wrap (s12 + 1)))))))))))) (.ck (inR ((atI tLn s10 s12).1) 16) (.ck (s3.length = 16) (.ck (inR ((atI tLn s10 s12).1) s3.length) (.leaf (.next ((s3.set ((atI tLn s10 s12).1).toNat ((atI tLn s10 s12).2.1)), (atI tLn s10 s12).1, s10, s11, (IntKind.i64.wrap (s12 + 1))))))))))))) (.leaf (.brk 0 (s3, s4, s10, s11, s12)))
noncomputable def L24_6 (N : Nat) (s3 : (List Bs)) (s4 : Int) (s10 : (List Ln)) (s11 : Int) (s12 : Int) : Option (Lp ((List Bs) × Int × (List Ln) × Int × Int) Bool) := (U24_6 N s3 s4 s10 s11 s12).eval
noncomputable def W24_6 (N : Nat) (x : ((List Bs) × Int × (List Ln) × Int × Int)) : Option (Lp ((List Bs) × Int × (List Ln) × Int × Int) Bool) := runLoop (fun x => L24_6 N x.1 x.2.1 x.2.2.1 x.2.2.2.1 x.2.2.2.2) N x
theorem WS24_6 (N : Nat) (x : (shTy l24_6).I) : ∀ o, W24_6 N x = some o → S Try.prog (.loop b24_6) (buildSt 48 l24_6 x) (stepZ (rdD Try.prog Try.f24 false) l24_6 (encO 48 l24_6 [0] (fun q => some (E24 q)) o)) :=
  fun o h => loop_S (l := l24_6) (step := fun x => L24_6 N x.1 x.2.1 x.2.2.1 x.2.2.2.1 x.2.2.2.2) (fun x o h => wpc_sound (tbl := []) (μ := []) mixed _ _ _ (by
    have h1 := Vt.sound _ h
    refine Eq.mp ?_ h1
    kernel_rfl)) N x o h
noncomputable def V24 (N : Nat) (a0 : (List Ln)) : Vt Bool (Option D) (fun q => some (E24 q)) :=
  .br (decide ((200 : Int) < (a0.length : Int))) (.leaf false) (.f1 (l := l24_6) (o := W24_6 N (([([] : Bs), ([] : Bs), ([] : Bs), ([] : Bs), ([] : Bs), ([] : Bs), ([] : Bs), ([] : Bs), ([] : Bs), ([] : Bs), ([] : Bs), ([] : Bs), ([] : Bs), ([] : Bs), ([] : Bs), ([] : Bs)] : (List Bs)), (-1), a0, (a0.length : Int), 0)) (WS24_6 N (([([] : Bs), ([] : Bs), ([] : Bs), ([] : Bs), ([] : Bs), ([] : Bs), ([] : Bs), ([] : Bs), ([] : Bs), ([] : Bs), ([] : Bs), ([] : Bs), ([] : Bs), ([] : Bs), ([] : Bs), ([] : Bs)] : (List Bs)), (-1), a0, (a0.length : Int), 0)) (fun x1 => .leaf true))
noncomputable def F24 (N : Nat) (a0 : (List Ln)) : Option Bool := (V24 N a0).eval
def t24 : List (Nat × List Nat × List (Nat × Sh)) := [(6, [0], l24_6)]
theorem P24 (N : Nat) (a0 : (List Ln)) : ∀ r, F24 N a0 = some r → Spec Try.prog 24 [.val (.list tLn) a0] (E24 r) := fun r h => Spec_of (fn := Try.f24) rfl rfl rfl rfl false (wpc_sound (tbl := t24) (μ := []) mixed _ _ _ (by
  have h1 := Vt.sound _ h
  refine Eq.mp ?_ h1
  kernel_rfl))

/-! ferryslip/tree.there -/
def E47 : Bool → D := fun x => encV tB x
noncomputable def V47 (N : Nat) (a0 : (List Ln)) (a1 : Int) : Vt Bool (Option D) (fun q => some (E47 q)) :=
  .br (decide ((0 : Int) ≤ a1)) (.br (decide (a1 < (a0.length : Int))) (.c1 (P24 N a0) (fun x1 => .leaf x1)) (.leaf false)) (.leaf false)
noncomputable def F47 (N : Nat) (a0 : (List Ln)) (a1 : Int) : Option Bool := (V47 N a0 a1).eval
def t47 : List (Nat × List Nat × List (Nat × Sh)) := []
theorem P47 (N : Nat) (a0 : (List Ln)) (a1 : Int) : ∀ r, F47 N a0 a1 = some r → Spec Try.prog 47 [.val (.list tLn) a0, .val tI a1] (E47 r) := fun r h => Spec_of (fn := Try.f47) rfl rfl rfl rfl false (wpc_sound (tbl := t47) (μ := []) mixed _ _ _ (by
  have h1 := Vt.sound _ h
  refine Eq.mp ?_ h1
  kernel_rfl))

/-! ferryslip/tree.End -/
def E33 : Int → D := fun x => encV tI x
abbrev l33_4 : List (Nat × Sh) := [(0, .val (.list tLn)), (1, .val tI), (5, .val tI)]
noncomputable def b33_4 : Code := loopBody 4 (bodyOf Try.f33)
noncomputable def U33_4 (N : Nat) (s0 : (List Ln)) (s1 : Int) (s5 : Int) : Vt (Lp (shTy l33_4).I Int) (O3 (Option D)) (encO 32 l33_4 [0] (fun q => some (E33 q))) :=
  .br (decide (s5 < (s0.length : Int))) (.ck (inR s5 s0.length) (.ck (inR s1 s0.length) (.br (decide (((atI tLn s0 s1).1) < ((atI tLn s0 s5).1))) (.leaf (.next (s0, s1, (IntKind.i64.wrap (s5 + 1))))) (.leaf (.brk 0 (s0, s1, s5)))))) (.leaf (.brk 0 (s0, s1, s5)))
noncomputable def L33_4 (N : Nat) (s0 : (List Ln)) (s1 : Int) (s5 : Int) : Option (Lp ((List Ln) × Int × Int) Int) := (U33_4 N s0 s1 s5).eval
noncomputable def W33_4 (N : Nat) (x : ((List Ln) × Int × Int)) : Option (Lp ((List Ln) × Int × Int) Int) := runLoop (fun x => L33_4 N x.1 x.2.1 x.2.2) N x
theorem WS33_4 (N : Nat) (x : (shTy l33_4).I) : ∀ o, W33_4 N x = some o → S Try.prog (.loop b33_4) (buildSt 32 l33_4 x) (stepZ (rdD Try.prog Try.f33 false) l33_4 (encO 32 l33_4 [0] (fun q => some (E33 q)) o)) :=
  fun o h => loop_S (l := l33_4) (step := fun x => L33_4 N x.1 x.2.1 x.2.2) (fun x o h => wpc_sound (tbl := []) (μ := []) mixed _ _ _ (by
    have h1 := Vt.sound _ h
    refine Eq.mp ?_ h1
    kernel_rfl)) N x o h
noncomputable def V33 (N : Nat) (a0 : (List Ln)) (a1 : Int) : Vt Int (Option D) (fun q => some (E33 q)) :=
  .c1 (P47 N a0 a1) (fun x1 => .br (!x1) (.leaf 0) (.f1 (l := l33_4) (o := W33_4 N (a0, a1, (IntKind.i64.wrap (a1 + 1)))) (WS33_4 N (a0, a1, (IntKind.i64.wrap (a1 + 1)))) (fun x2 => .leaf x2.2.2)))
noncomputable def F33 (N : Nat) (a0 : (List Ln)) (a1 : Int) : Option Int := (V33 N a0 a1).eval
def t33 : List (Nat × List Nat × List (Nat × Sh)) := [(4, [0], l33_4)]
theorem P33 (N : Nat) (a0 : (List Ln)) (a1 : Int) : ∀ r, F33 N a0 a1 = some r → Spec Try.prog 33 [.val (.list tLn) a0, .val tI a1] (E33 r) := fun r h => Spec_of (fn := Try.f33) rfl rfl rfl rfl false (wpc_sound (tbl := t33) (μ := []) mixed _ _ _ (by
  have h1 := Vt.sound _ h
  refine Eq.mp ?_ h1
  kernel_rfl))

/-! ferryslip/groups.Active -/
def E12o : ((List Ln) × Int) → D := fun x => .tup [.own 40 tLn x.1, encV tI x.2]
abbrev l12o_5 : List (Nat × Sh) := [(0, .val (.list tLn)), (4, .row false 39 40 tLn), (5, .val tI)]
noncomputable def b12o_5 : Code := loopBody 5 (bodyOf Try.f12)
noncomputable def U12o_5 (N : Nat) (s0 : (List Ln)) (s4 : (List Ln)) (s5 : Int) : Vt (Lp (shTy l12o_5).I ((List Ln) × Int)) (O3 (Option D)) (encO 41 l12o_5 [0] (fun q => some (E12o q))) :=
  .br (decide (s5 < (s0.length : Int))) (.ck (inR s5 s0.length) (.br ((IntKind.i64.wrap (((BitVec.ofInt IntKind.i64.bits ((atI tLn s0 s5).2.2) &&& BitVec.ofInt IntKind.i64.bits 1).toNat : Int))) != 0) (.c1 (P33 N s0 s5) (fun x1 => .leaf (.next (s0, s4, (IntKind.i64.wrap ((IntKind.i64.wrap (x1 - 1)) + 1)))))) (.ck (inR s5 s0.length) (.ck (inR s5 s0.length) (.ck (room (s4.length + ([((atI tLn s0 s5).1, (atI tLn s0 s5).2.1, 0)] : (List Ln)).length)) (.leaf (.next (s0, (s4 ++ ([((atI tLn s0 s5).1, (atI tLn s0 s5).2.1, 0)] : (List Ln))), (IntKind.i64.wrap (s5 + 1)))))))))) (.leaf (.brk 0 (s0, s4, s5)))
noncomputable def L12o_5 (N : Nat) (s0 : (List Ln)) (s4 : (List Ln)) (s5 : Int) : Option (Lp ((List Ln) × (List Ln) × Int) ((List Ln) × Int)) := (U12o_5 N s0 s4 s5).eval
noncomputable def W12o_5 (N : Nat) (x : ((List Ln) × (List Ln) × Int)) : Option (Lp ((List Ln) × (List Ln) × Int) ((List Ln) × Int)) := runLoop (fun x => L12o_5 N x.1 x.2.1 x.2.2) N x
theorem WS12o_5 (N : Nat) (x : (shTy l12o_5).I) : ∀ o, W12o_5 N x = some o → S Try.prog (.loop b12o_5) (buildSt 41 l12o_5 x) (stepZ (rdD Try.prog Try.f12 true) l12o_5 (encO 41 l12o_5 [0] (fun q => some (E12o q)) o)) :=
  fun o h => loop_S (l := l12o_5) (step := fun x => L12o_5 N x.1 x.2.1 x.2.2) (fun x o h => wpc_sound (tbl := []) (μ := []) mixed _ _ _ (by
    have h1 := Vt.sound _ h
    refine Eq.mp ?_ h1
    kernel_rfl)) N x o h
noncomputable def V12o (N : Nat) (a0 : (List Ln)) : Vt ((List Ln) × Int) (Option D) (fun q => some (E12o q)) :=
  .c1 (P24 N a0) (fun x1 => .br (!x1) (.leaf (([] : (List Ln)), 1)) (.f1 (l := l12o_5) (o := W12o_5 N (a0, ([] : (List Ln)), 0)) (WS12o_5 N (a0, ([] : (List Ln)), 0)) (fun x2 => .leaf (x2.2.1, 0))))
noncomputable def F12o (N : Nat) (a0 : (List Ln)) : Option ((List Ln) × Int) := (V12o N a0).eval
def t12o : List (Nat × List Nat × List (Nat × Sh)) := [(5, [0], l12o_5)]
theorem P12o (N : Nat) (a0 : (List Ln)) : ∀ r, F12o N a0 = some r → Spec Try.prog 12 [.val (.list tLn) a0] (E12o r) := fun r h => Spec_of (fn := Try.f12) rfl rfl rfl rfl true (wpc_sound (tbl := t12o) (μ := []) mixed _ _ _ (by
  have h1 := Vt.sound _ h
  refine Eq.mp ?_ h1
  kernel_rfl))

/-! ferryslip/tree.Kids -/
def E34o : (List Int) → D := fun x => .own 3 tI x
abbrev l34o_8 : List (Nat × Sh) := [(0, .val (.list tLn)), (6, .val tI), (7, .val tI), (8, .row false 54 3 tI), (9, .val tI)]
noncomputable def b34o_8 : Code := loopBody 8 (bodyOf Try.f34)
noncomputable def U34o_8 (N : Nat) (s0 : (List Ln)) (s6 : Int) (s7 : Int) (s8 : (List Int)) (s9 : Int) : Vt (Lp (shTy l34o_8).I (List Int)) (O3 (Option D)) (encO 56 l34o_8 [0] (fun q => some (E34o q))) :=
  .br (decide (s9 < s6)) (.ck (inR s9 s0.length) (.br (((atI tLn s0 s9).1) == s7) (.ck (room (s8.length + ([s9] : (List Int)).length)) (.leaf (.next (s0, s6, s7, (s8 ++ ([s9] : (List Int))), (IntKind.i64.wrap (s9 + 1)))))) (.leaf (.next (s0, s6, s7, s8, (IntKind.i64.wrap (s9 + 1))))))) (.leaf (.brk 0 (s0, s6, s7, s8, s9)))
noncomputable def L34o_8 (N : Nat) (s0 : (List Ln)) (s6 : Int) (s7 : Int) (s8 : (List Int)) (s9 : Int) : Option (Lp ((List Ln) × Int × Int × (List Int) × Int) (List Int)) := (U34o_8 N s0 s6 s7 s8 s9).eval
noncomputable def W34o_8 (N : Nat) (x : ((List Ln) × Int × Int × (List Int) × Int)) : Option (Lp ((List Ln) × Int × Int × (List Int) × Int) (List Int)) := runLoop (fun x => L34o_8 N x.1 x.2.1 x.2.2.1 x.2.2.2.1 x.2.2.2.2) N x
theorem WS34o_8 (N : Nat) (x : (shTy l34o_8).I) : ∀ o, W34o_8 N x = some o → S Try.prog (.loop b34o_8) (buildSt 56 l34o_8 x) (stepZ (rdD Try.prog Try.f34 true) l34o_8 (encO 56 l34o_8 [0] (fun q => some (E34o q)) o)) :=
  fun o h => loop_S (l := l34o_8) (step := fun x => L34o_8 N x.1 x.2.1 x.2.2.1 x.2.2.2.1 x.2.2.2.2) (fun x o h => wpc_sound (tbl := []) (μ := []) mixed _ _ _ (by
    have h1 := Vt.sound _ h
    refine Eq.mp ?_ h1
    kernel_rfl)) N x o h
noncomputable def V34o (N : Nat) (a0 : (List Ln)) (a1 : Int) : Vt (List Int) (Option D) (fun q => some (E34o q)) :=
  .c1 (P24 N a0) (fun x1 => .br (!x1) (.leaf ([] : (List Int))) (.br (decide (a1 < (-1))) (.leaf ([] : (List Int))) (.br (decide ((a0.length : Int) ≤ a1)) (.leaf ([] : (List Int))) (.br (decide ((0 : Int) ≤ a1)) (.c1 (P33 N a0 a1) (fun x2 => .ck (inR a1 a0.length) (.f1 (l := l34o_8) (o := W34o_8 N (a0, x2, (IntKind.i64.wrap (((atI tLn a0 a1).1) + 1)), ([] : (List Int)), (IntKind.i64.wrap (a1 + 1)))) (WS34o_8 N (a0, x2, (IntKind.i64.wrap (((atI tLn a0 a1).1) + 1)), ([] : (List Int)), (IntKind.i64.wrap (a1 + 1)))) (fun x1 => .leaf x1.2.2.2.1)))) (.f1 (l := l34o_8) (o := W34o_8 N (a0, (a0.length : Int), 0, ([] : (List Int)), 0)) (WS34o_8 N (a0, (a0.length : Int), 0, ([] : (List Int)), 0)) (fun x2 => .leaf x2.2.2.2.1))))))
noncomputable def F34o (N : Nat) (a0 : (List Ln)) (a1 : Int) : Option (List Int) := (V34o N a0 a1).eval
def t34o : List (Nat × List Nat × List (Nat × Sh)) := [(8, [0], l34o_8)]
theorem P34o (N : Nat) (a0 : (List Ln)) (a1 : Int) : ∀ r, F34o N a0 a1 = some r → Spec Try.prog 34 [.val (.list tLn) a0, .val tI a1] (E34o r) := fun r h => Spec_of (fn := Try.f34) rfl rfl rfl rfl true (wpc_sound (tbl := t34o) (μ := []) mixed _ _ _ (by
  have h1 := Vt.sound _ h
  refine Eq.mp ?_ h1
  kernel_rfl))

/-! ferryslip/groups.own -/
def E35 : Bool → D := fun x => encV tB x
noncomputable def V35 (N : Nat) (a0 : Bs) : Vt Bool (Option D) (fun q => some (E35 q)) :=
  .br (a0 == ([103, 114, 111, 117, 112, 115] : Bs)) (.leaf true) (.leaf (a0 == ([97, 112, 112, 108, 121] : Bs)))
noncomputable def F35 (N : Nat) (a0 : Bs) : Option Bool := (V35 N a0).eval
def t35 : List (Nat × List Nat × List (Nat × Sh)) := []
theorem P35 (N : Nat) (a0 : Bs) : ∀ r, F35 N a0 = some r → Spec Try.prog 35 [.val tS a0] (E35 r) := fun r h => Spec_of (fn := Try.f35) rfl rfl rfl rfl false (wpc_sound (tbl := t35) (μ := []) mixed _ _ _ (by
  have h1 := Vt.sound _ h
  refine Eq.mp ?_ h1
  kernel_rfl))

/-! slices.Clone[[]ferryslip/api.Line,ferryslip/api.Line] -/
def E51o : (List Ln) → D := fun x => .own 40 tLn x
noncomputable def V51o (N : Nat) (a0 : (List Ln)) : Vt (List Ln) (Option D) (fun q => some (E51o q)) :=
  .nq (a0 = []) (.leaf ([] : (List Ln))) (.ck (room (([] : (List Ln)).length + a0.length)) (.leaf (([] : (List Ln)) ++ a0)))
noncomputable def F51o (N : Nat) (a0 : (List Ln)) : Option (List Ln) := (V51o N a0).eval
def t51o : List (Nat × List Nat × List (Nat × Sh)) := []
theorem P51o (N : Nat) (a0 : (List Ln)) : ∀ r, F51o N a0 = some r → Spec Try.prog 51 [.val (.list tLn) a0] (E51o r) := fun r h => Spec_of (fn := Try.f51) rfl rfl rfl rfl true (wpc_sound (tbl := t51o) (μ := []) mixed _ _ _ (by
  have h1 := Vt.sound _ h
  refine Eq.mp ?_ h1
  kernel_rfl))

/-! ferryslip/tree.Sub -/
def E36o : (List Ln) → D := fun x => .own 40 tLn x
abbrev l36o_5 : List (Nat × Sh) := [(0, .val (.list tLn)), (1, .val tI), (5, .row false 17 40 tLn), (19, .val tI), (20, .val tI)]
noncomputable def b36o_5 : Code := loopBody 5 (bodyOf Try.f36)
noncomputable def U36o_5 (N : Nat) (s0 : (List Ln)) (s1 : Int) (s5 : (List Ln)) (s19 : Int) (s20 : Int) : Vt (Lp (shTy l36o_5).I (List Ln)) (O3 (Option D)) (encO 38 l36o_5 [0] (fun q => some (E36o q))) :=
  .br (decide (s20 < s19)) (.ck (inR s20 s5.length) (.ck (inR s20 s5.length) (.ck (inR s1 s0.length) (.ck (inR s20 s5.length) (.ck (inR s20 s5.length) (.leaf (.next (s0, s1, (s5.set s20.toNat ((IntKind.i64.wrap (((atI tLn s5 s20).1) - ((atI tLn s0 s1).1))), (atI tLn s5 s20).2)), s19, (IntKind.i64.wrap (s20 + 1)))))))))) (.leaf (.brk 0 (s0, s1, s5, s19, s20)))
noncomputable def L36o_5 (N : Nat) (s0 : (List Ln)) (s1 : Int) (s5 : (List Ln)) (s19 : Int) (s20 : Int) : Option (Lp ((List Ln) × Int × (List Ln) × Int × Int) (List Ln)) := (U36o_5 N s0 s1 s5 s19 s20).eval
noncomputable def W36o_5 (N : Nat) (x : ((List Ln) × Int × (List Ln) × Int × Int)) : Option (Lp ((List Ln) × Int × (List Ln) × Int × Int) (List Ln)) := runLoop (fun x => L36o_5 N x.1 x.2.1 x.2.2.1 x.2.2.2.1 x.2.2.2.2) N x
theorem WS36o_5 (N : Nat) (x : (shTy l36o_5).I) : ∀ o, W36o_5 N x = some o → S Try.prog (.loop b36o_5) (buildSt 38 l36o_5 x) (stepZ (rdD Try.prog Try.f36 true) l36o_5 (encO 38 l36o_5 [0] (fun q => some (E36o q)) o)) :=
  fun o h => loop_S (l := l36o_5) (step := fun x => L36o_5 N x.1 x.2.1 x.2.2.1 x.2.2.2.1 x.2.2.2.2) (fun x o h => wpc_sound (tbl := []) (μ := [17]) mixed _ _ _ (by
    have h1 := Vt.sound _ h
    refine Eq.mp ?_ h1
    kernel_rfl)) N x o h
noncomputable def V36o (N : Nat) (a0 : (List Ln)) (a1 : Int) : Vt (List Ln) (Option D) (fun q => some (E36o q)) :=
  .c1 (P47 N a0 a1) (fun x1 => .br (!x1) (.leaf ([] : (List Ln))) (.c1 (P33 N a0 a1) (fun x2 => .ck ((0 : Int) ≤ a1 ∧ a1 ≤ x2 ∧ x2 ≤ (a0.length : Int)) (.c1 (P51o N (slc a0 a1 x2)) (fun x3 => .f1 (l := l36o_5) (o := W36o_5 N (a0, a1, x3, (x3.length : Int), 0)) (WS36o_5 N (a0, a1, x3, (x3.length : Int), 0)) (fun x4 => .leaf x4.2.2.1))))))
noncomputable def F36o (N : Nat) (a0 : (List Ln)) (a1 : Int) : Option (List Ln) := (V36o N a0 a1).eval
def t36o : List (Nat × List Nat × List (Nat × Sh)) := [(5, [0], l36o_5)]
theorem P36o (N : Nat) (a0 : (List Ln)) (a1 : Int) : ∀ r, F36o N a0 a1 = some r → Spec Try.prog 36 [.val (.list tLn) a0, .val tI a1] (E36o r) := fun r h => Spec_of (fn := Try.f36) rfl rfl rfl rfl true (wpc_sound (tbl := t36o) (μ := [17]) mixed _ _ _ (by
  have h1 := Vt.sound _ h
  refine Eq.mp ?_ h1
  kernel_rfl))

/-! ferryslip/groups.Explicit -/
def E13o : ((List Ln) × Int) → D := fun x => .tup [.own 40 tLn x.1, encV tI x.2]
abbrev l13o_6 : List (Nat × Sh) := [(4, .val (.list tLn)), (6, .row false 35 40 tLn), (18, .row false 18 3 tI), (19, .val tI), (20, .val tI)]
noncomputable def b13o_6 : Code := loopBody 6 (bodyOf Try.f13)
noncomputable def U13o_6 (N : Nat) (s4 : (List Ln)) (s6 : (List Ln)) (s18 : (List Int)) (s19 : Int) (s20 : Int) : Vt (Lp (shTy l13o_6).I ((List Ln) × Int)) (O3 (Option D)) (encO 38 l13o_6 [0] (fun q => some (E13o q))) :=
  .br (decide (s20 < s19)) (.ck (inR s20 s18.length) (.ck (inR s20 s18.length) (.ck (inR (atI tI s18 s20) s4.length) (.c1 (P35 N ((atI tLn s4 (atI tI s18 s20)).2.1)) (fun x1 => .br (!x1) (.c1 (P36o N s4 (atI tI s18 s20)) (fun x2 => .ck (room (s6.length + x2.length)) (.leaf (.next (s4, (s6 ++ x2), s18, s19, (IntKind.i64.wrap (s20 + 1))))))) (.leaf (.next (s4, s6, s18, s19, (IntKind.i64.wrap (s20 + 1)))))))))) (.leaf (.brk 0 (s4, s6, s18, s19, s20)))
noncomputable def L13o_6 (N : Nat) (s4 : (List Ln)) (s6 : (List Ln)) (s18 : (List Int)) (s19 : Int) (s20 : Int) : Option (Lp ((List Ln) × (List Ln) × (List Int) × Int × Int) ((List Ln) × Int)) := (U13o_6 N s4 s6 s18 s19 s20).eval
noncomputable def W13o_6 (N : Nat) (x : ((List Ln) × (List Ln) × (List Int) × Int × Int)) : Option (Lp ((List Ln) × (List Ln) × (List Int) × Int × Int) ((List Ln) × Int)) := runLoop (fun x => L13o_6 N x.1 x.2.1 x.2.2.1 x.2.2.2.1 x.2.2.2.2) N x
theorem WS13o_6 (N : Nat) (x : (shTy l13o_6).I) : ∀ o, W13o_6 N x = some o → S Try.prog (.loop b13o_6) (buildSt 38 l13o_6 x) (stepZ (rdD Try.prog Try.f13 true) l13o_6 (encO 38 l13o_6 [0] (fun q => some (E13o q)) o)) :=
  fun o h => loop_S (l := l13o_6) (step := fun x => L13o_6 N x.1 x.2.1 x.2.2.1 x.2.2.2.1 x.2.2.2.2) (fun x o h => wpc_sound (tbl := []) (μ := [11, 18, 34]) mixed _ _ _ (by
    have h1 := Vt.sound _ h
    refine Eq.mp ?_ h1
    kernel_rfl)) N x o h
noncomputable def V13o (N : Nat) (a0 : (List Ln)) : Vt ((List Ln) × Int) (Option D) (fun q => some (E13o q)) :=
  .c2 (P12o N a0) (fun x1 x2 => .br (x2 != 0) (.leaf (([] : (List Ln)), x2)) (.c1 (P34o N x1 (-1)) (fun x3 => .f1 (l := l13o_6) (o := W13o_6 N (x1, ([] : (List Ln)), x3, (x3.length : Int), 0)) (WS13o_6 N (x1, ([] : (List Ln)), x3, (x3.length : Int), 0)) (fun x4 => .leaf (x4.2.1, 0)))))
noncomputable def F13o (N : Nat) (a0 : (List Ln)) : Option ((List Ln) × Int) := (V13o N a0).eval
def t13o : List (Nat × List Nat × List (Nat × Sh)) := [(6, [0], l13o_6)]
theorem P13o (N : Nat) (a0 : (List Ln)) : ∀ r, F13o N a0 = some r → Spec Try.prog 13 [.val (.list tLn) a0] (E13o r) := fun r h => Spec_of (fn := Try.f13) rfl rfl rfl rfl true (wpc_sound (tbl := t13o) (μ := [11, 18, 34]) mixed _ _ _ (by
  have h1 := Vt.sound _ h
  refine Eq.mp ?_ h1
  kernel_rfl))

/-! ferryslip/tree.Under -/
def E48 : Int → D := fun x => encV tI x
abbrev l48_4 : List (Nat × Sh) := [(0, .val (.list tLn)), (1, .val tI), (5, .val tI)]
noncomputable def b48_4 : Code := loopBody 4 (bodyOf Try.f48)
noncomputable def U48_4 (N : Nat) (s0 : (List Ln)) (s1 : Int) (s5 : Int) : Vt (Lp (shTy l48_4).I Int) (O3 (Option D)) (encO 29 l48_4 [0] (fun q => some (E48 q))) :=
  .br (decide ((0 : Int) ≤ s5)) (.ck (inR s5 s0.length) (.ck (inR s1 s0.length) (.br (decide (((atI tLn s0 s1).1) ≤ ((atI tLn s0 s5).1))) (.leaf (.next (s0, s1, (IntKind.i64.wrap (s5 - 1))))) (.leaf (.brk 0 (s0, s1, s5)))))) (.leaf (.brk 0 (s0, s1, s5)))
noncomputable def L48_4 (N : Nat) (s0 : (List Ln)) (s1 : Int) (s5 : Int) : Option (Lp ((List Ln) × Int × Int) Int) := (U48_4 N s0 s1 s5).eval
noncomputable def W48_4 (N : Nat) (x : ((List Ln) × Int × Int)) : Option (Lp ((List Ln) × Int × Int) Int) := runLoop (fun x => L48_4 N x.1 x.2.1 x.2.2) N x
theorem WS48_4 (N : Nat) (x : (shTy l48_4).I) : ∀ o, W48_4 N x = some o → S Try.prog (.loop b48_4) (buildSt 29 l48_4 x) (stepZ (rdD Try.prog Try.f48 false) l48_4 (encO 29 l48_4 [0] (fun q => some (E48 q)) o)) :=
  fun o h => loop_S (l := l48_4) (step := fun x => L48_4 N x.1 x.2.1 x.2.2) (fun x o h => wpc_sound (tbl := []) (μ := []) mixed _ _ _ (by
    have h1 := Vt.sound _ h
    refine Eq.mp ?_ h1
    kernel_rfl)) N x o h
noncomputable def V48 (N : Nat) (a0 : (List Ln)) (a1 : Int) : Vt Int (Option D) (fun q => some (E48 q)) :=
  .c1 (P47 N a0 a1) (fun x1 => .br (!x1) (.leaf (-1)) (.f1 (l := l48_4) (o := W48_4 N (a0, a1, a1)) (WS48_4 N (a0, a1, a1)) (fun x2 => .leaf x2.2.2)))
noncomputable def F48 (N : Nat) (a0 : (List Ln)) (a1 : Int) : Option Int := (V48 N a0 a1).eval
def t48 : List (Nat × List Nat × List (Nat × Sh)) := [(4, [0], l48_4)]
theorem P48 (N : Nat) (a0 : (List Ln)) (a1 : Int) : ∀ r, F48 N a0 a1 = some r → Spec Try.prog 48 [.val (.list tLn) a0, .val tI a1] (E48 r) := fun r h => Spec_of (fn := Try.f48) rfl rfl rfl rfl false (wpc_sound (tbl := t48) (μ := []) mixed _ _ _ (by
  have h1 := Vt.sound _ h
  refine Eq.mp ?_ h1
  kernel_rfl))

/-! ferryslip/tree.Path -/
def E25o : ((List Bs) × Int) → D := fun x => .tup [.own 9 tS x.1, encV tI x.2]
abbrev l25o_5 : List (Nat × Sh) := [(0, .val (.list tLn)), (6, .row false 25 9 tS), (7, .val tI)]
noncomputable def b25o_5 : Code := loopBody 5 (bodyOf Try.f25)
noncomputable def U25o_5 (N : Nat) (s0 : (List Ln)) (s6 : (List Bs)) (s7 : Int) : Vt (Lp (shTy l25o_5).I ((List Bs) × Int)) (O3 (Option D)) (encO 29 l25o_5 [0] (fun q => some (E25o q))) :=
  .br (decide ((0 : Int) ≤ s7)) (.ck (inR s7 s0.length) (.ck (room (s6.length + ([(atI tLn s0 s7).2.1] : (List Bs)).length)) (.c1 (P48 N s0 s7) (fun x1 => .leaf (.next (s0, (s6 ++ ([(atI tLn s0 s7).2.1] : (List Bs))), x1)))))) (.leaf (.brk 0 (s0, s6, s7)))
noncomputable def L25o_5 (N : Nat) (s0 : (List Ln)) (s6 : (List Bs)) (s7 : Int) : Option (Lp ((List Ln) × (List Bs) × Int) ((List Bs) × Int)) := (U25o_5 N s0 s6 s7).eval
noncomputable def W25o_5 (N : Nat) (x : ((List Ln) × (List Bs) × Int)) : Option (Lp ((List Ln) × (List Bs) × Int) ((List Bs) × Int)) := runLoop (fun x => L25o_5 N x.1 x.2.1 x.2.2) N x
theorem WS25o_5 (N : Nat) (x : (shTy l25o_5).I) : ∀ o, W25o_5 N x = some o → S Try.prog (.loop b25o_5) (buildSt 29 l25o_5 x) (stepZ (rdD Try.prog Try.f25 true) l25o_5 (encO 29 l25o_5 [0] (fun q => some (E25o q)) o)) :=
  fun o h => loop_S (l := l25o_5) (step := fun x => L25o_5 N x.1 x.2.1 x.2.2) (fun x o h => wpc_sound (tbl := []) (μ := []) mixed _ _ _ (by
    have h1 := Vt.sound _ h
    refine Eq.mp ?_ h1
    kernel_rfl)) N x o h
noncomputable def V25o (N : Nat) (a0 : (List Ln)) (a1 : Int) : Vt ((List Bs) × Int) (Option D) (fun q => some (E25o q)) :=
  .c1 (P47 N a0 a1) (fun x1 => .br (!x1) (.leaf (([] : (List Bs)), 1)) (.f1 (l := l25o_5) (o := W25o_5 N (a0, ([] : (List Bs)), a1)) (WS25o_5 N (a0, ([] : (List Bs)), a1)) (fun x1 => .cr (P49r N x1.2.1) (fun x2 => .leaf (x2, 0)))))
noncomputable def F25o (N : Nat) (a0 : (List Ln)) (a1 : Int) : Option ((List Bs) × Int) := (V25o N a0 a1).eval
def t25o : List (Nat × List Nat × List (Nat × Sh)) := [(5, [0], l25o_5)]
theorem P25o (N : Nat) (a0 : (List Ln)) (a1 : Int) : ∀ r, F25o N a0 a1 = some r → Spec Try.prog 25 [.val (.list tLn) a0, .val tI a1] (E25o r) := fun r h => Spec_of (fn := Try.f25) rfl rfl rfl rfl true (wpc_sound (tbl := t25o) (μ := [1000049]) mixed _ _ _ (by
  have h1 := Vt.sound _ h
  refine Eq.mp ?_ h1
  kernel_rfl))

/-! ferryslip/tree.Find -/
def E26 : (Int × Bool) → D := fun x => .tup [encV tI x.1, encV tB x.2]
abbrev l26_5 : List (Nat × Sh) := [(1, .val (.list tS)), (6, .val tI), (22, .val (.list tLn)), (23, .val tI), (24, .val tI)]
noncomputable def b26_5 : Code := loopBody 5 (bodyOf Try.f26)
noncomputable def U26_5 (N : Nat) (s1 : (List Bs)) (s6 : Int) (s22 : (List Ln)) (s23 : Int) (s24 : Int) : Vt (Lp (shTy l26_5).I (Int × Bool)) (O3 (Option D)) (encO 58 l26_5 [0] (fun q => some (E26 q))) :=
  .br (decide (s24 < s23)) (.ck (inR s24 s22.length) (.br (decide (((atI tLn s22 s24).1) < s6)) (.leaf (.ret (0, false))) (.br (decide (s6 < ((atI tLn s22 s24).1))) (.leaf (.next (s1, s6, s22, s23, (IntKind.i64.wrap (s24 + 1))))) (.ck (inR s6 s1.length) (.br (!(((atI tLn s22 s24).2.1) == (atI tS s1 s6))) (.leaf (.next (s1, s6, s22, s23, (IntKind.i64.wrap (s24 + 1))))) (.br (s6 == (IntKind.i64.wrap ((s1.length : Int) - 1))) (.leaf (.ret (s24, true))) (.leaf (.next (s1, (IntKind.i64.wrap (s6 + 1)), s22, s23, (IntKind.i64.wrap (s24 + 1))))))))))) (.leaf (.brk 0 (s1, s6, s22, s23, s24)))
noncomputable def L26_5 (N : Nat) (s1 : (List Bs)) (s6 : Int) (s22 : (List Ln)) (s23 : Int) (s24 : Int) : Option (Lp ((List Bs) × Int × (List Ln) × Int × Int) (Int × Bool)) := (U26_5 N s1 s6 s22 s23 s24).eval
noncomputable def W26_5 (N : Nat) (x : ((List Bs) × Int × (List Ln) × Int × Int)) : Option (Lp ((List Bs) × Int × (List Ln) × Int × Int) (Int × Bool)) := runLoop (fun x => L26_5 N x.1 x.2.1 x.2.2.1 x.2.2.2.1 x.2.2.2.2) N x
theorem WS26_5 (N : Nat) (x : (shTy l26_5).I) : ∀ o, W26_5 N x = some o → S Try.prog (.loop b26_5) (buildSt 58 l26_5 x) (stepZ (rdD Try.prog Try.f26 false) l26_5 (encO 58 l26_5 [0] (fun q => some (E26 q)) o)) :=
  fun o h => loop_S (l := l26_5) (step := fun x => L26_5 N x.1 x.2.1 x.2.2.1 x.2.2.2.1 x.2.2.2.2) (fun x o h => wpc_sound (tbl := []) (μ := []) mixed _ _ _ (by
    have h1 := Vt.sound _ h
    refine Eq.mp ?_ h1
    kernel_rfl)) N x o h
noncomputable def V26 (N : Nat) (a0 : (List Ln)) (a1 : (List Bs)) : Vt (Int × Bool) (Option D) (fun q => some (E26 q)) :=
  .c1 (P24 N a0) (fun x1 => .br (!x1) (.leaf (0, false)) (.br ((a1.length : Int) == 0) (.leaf (0, false)) (.br (decide ((16 : Int) < (a1.length : Int))) (.leaf (0, false)) (.f1 (l := l26_5) (o := W26_5 N (a1, 0, a0, (a0.length : Int), 0)) (WS26_5 N (a1, 0, a0, (a0.length : Int), 0)) (fun x2 => .leaf (0, false))))))
noncomputable def F26 (N : Nat) (a0 : (List Ln)) (a1 : (List Bs)) : Option (Int × Bool) := (V26 N a0 a1).eval
def t26 : List (Nat × List Nat × List (Nat × Sh)) := [(5, [0], l26_5)]
theorem P26 (N : Nat) (a0 : (List Ln)) (a1 : (List Bs)) : ∀ r, F26 N a0 a1 = some r → Spec Try.prog 26 [.val (.list tLn) a0, .val (.list tS) a1] (E26 r) := fun r h => Spec_of (fn := Try.f26) rfl rfl rfl rfl false (wpc_sound (tbl := t26) (μ := []) mixed _ _ _ (by
  have h1 := Vt.sound _ h
  refine Eq.mp ?_ h1
  kernel_rfl))

/-! ferryslip/tree.Leaves -/
def E41o : (List Int) → D := fun x => .own 3 tI x
abbrev l41o_5 : List (Nat × Sh) := [(0, .val (.list tLn)), (3, .row false 35 3 tI), (9, .val tI), (10, .val tI)]
noncomputable def b41o_5 : Code := loopBody 5 (bodyOf Try.f41)
noncomputable def U41o_5 (N : Nat) (s0 : (List Ln)) (s3 : (List Int)) (s9 : Int) (s10 : Int) : Vt (Lp (shTy l41o_5).I (List Int)) (O3 (Option D)) (encO 38 l41o_5 [0] (fun q => some (E41o q))) :=
  .br (decide (s10 < s9)) (.br ((IntKind.i64.wrap (s10 + 1)) == (s0.length : Int)) (.ck (room (s3.length + ([s10] : (List Int)).length)) (.leaf (.next (s0, (s3 ++ ([s10] : (List Int))), s9, (IntKind.i64.wrap (s10 + 1)))))) (.ck (inR (IntKind.i64.wrap (s10 + 1)) s0.length) (.ck (inR s10 s0.length) (.br (decide (((atI tLn s0 (IntKind.i64.wrap (s10 + 1))).1) ≤ ((atI tLn s0 s10).1))) (.ck (room (s3.length + ([s10] : (List Int)).length)) (.leaf (.next (s0, (s3 ++ ([s10] : (List Int))), s9, (IntKind.i64.wrap (s10 + 1)))))) (.leaf (.next (s0, s3, s9, (IntKind.i64.wrap (s10 + 1))))))))) (.leaf (.brk 0 (s0, s3, s9, s10)))
noncomputable def L41o_5 (N : Nat) (s0 : (List Ln)) (s3 : (List Int)) (s9 : Int) (s10 : Int) : Option (Lp ((List Ln) × (List Int) × Int × Int) (List Int)) := (U41o_5 N s0 s3 s9 s10).eval
noncomputable def W41o_5 (N : Nat) (x : ((List Ln) × (List Int) × Int × Int)) : Option (Lp ((List Ln) × (List Int) × Int × Int) (List Int)) := runLoop (fun x => L41o_5 N x.1 x.2.1 x.2.2.1 x.2.2.2) N x
theorem WS41o_5 (N : Nat) (x : (shTy l41o_5).I) : ∀ o, W41o_5 N x = some o → S Try.prog (.loop b41o_5) (buildSt 38 l41o_5 x) (stepZ (rdD Try.prog Try.f41 true) l41o_5 (encO 38 l41o_5 [0] (fun q => some (E41o q)) o)) :=
  fun o h => loop_S (l := l41o_5) (step := fun x => L41o_5 N x.1 x.2.1 x.2.2.1 x.2.2.2) (fun x o h => wpc_sound (tbl := []) (μ := []) mixed _ _ _ (by
    have h1 := Vt.sound _ h
    refine Eq.mp ?_ h1
    kernel_rfl)) N x o h
noncomputable def V41o (N : Nat) (a0 : (List Ln)) : Vt (List Int) (Option D) (fun q => some (E41o q)) :=
  .c1 (P24 N a0) (fun x1 => .br (!x1) (.leaf ([] : (List Int))) (.f1 (l := l41o_5) (o := W41o_5 N (a0, ([] : (List Int)), (a0.length : Int), 0)) (WS41o_5 N (a0, ([] : (List Int)), (a0.length : Int), 0)) (fun x1 => .leaf x1.2.1)))
noncomputable def F41o (N : Nat) (a0 : (List Ln)) : Option (List Int) := (V41o N a0).eval
def t41o : List (Nat × List Nat × List (Nat × Sh)) := [(5, [0], l41o_5)]
theorem P41o (N : Nat) (a0 : (List Ln)) : ∀ r, F41o N a0 = some r → Spec Try.prog 41 [.val (.list tLn) a0] (E41o r) := fun r h => Spec_of (fn := Try.f41) rfl rfl rfl rfl true (wpc_sound (tbl := t41o) (μ := []) mixed _ _ _ (by
  have h1 := Vt.sound _ h
  refine Eq.mp ?_ h1
  kernel_rfl))

/-! ferryslip/groups.words -/
def E38o : (List Bs) → D := fun x => .own 9 tS x
abbrev l38o_8 : List (Nat × Sh) := [(0, .val (.list tLn)), (7, .row false 40 9 tS), (27, .row false 27 3 tI), (28, .val tI), (29, .val tI)]
noncomputable def b38o_8 : Code := loopBody 8 (bodyOf Try.f38)
noncomputable def U38o_8 (N : Nat) (s0 : (List Ln)) (s7 : (List Bs)) (s27 : (List Int)) (s28 : Int) (s29 : Int) : Vt (Lp (shTy l38o_8).I (List Bs)) (O3 (Option D)) (encO 43 l38o_8 [0] (fun q => some (E38o q))) :=
  .br (decide (s29 < s28)) (.ck (inR s29 s27.length) (.ck (inR s29 s27.length) (.ck (inR (atI tI s27 s29) s0.length) (.ck (room (s7.length + ([(atI tLn s0 (atI tI s27 s29)).2.1] : (List Bs)).length)) (.leaf (.next (s0, (s7 ++ ([(atI tLn s0 (atI tI s27 s29)).2.1] : (List Bs))), s27, s28, (IntKind.i64.wrap (s29 + 1))))))))) (.leaf (.brk 0 (s0, s7, s27, s28, s29)))
noncomputable def L38o_8 (N : Nat) (s0 : (List Ln)) (s7 : (List Bs)) (s27 : (List Int)) (s28 : Int) (s29 : Int) : Option (Lp ((List Ln) × (List Bs) × (List Int) × Int × Int) (List Bs)) := (U38o_8 N s0 s7 s27 s28 s29).eval
noncomputable def W38o_8 (N : Nat) (x : ((List Ln) × (List Bs) × (List Int) × Int × Int)) : Option (Lp ((List Ln) × (List Bs) × (List Int) × Int × Int) (List Bs)) := runLoop (fun x => L38o_8 N x.1 x.2.1 x.2.2.1 x.2.2.2.1 x.2.2.2.2) N x
theorem WS38o_8 (N : Nat) (x : (shTy l38o_8).I) : ∀ o, W38o_8 N x = some o → S Try.prog (.loop b38o_8) (buildSt 43 l38o_8 x) (stepZ (rdD Try.prog Try.f38 true) l38o_8 (encO 43 l38o_8 [0] (fun q => some (E38o q)) o)) :=
  fun o h => loop_S (l := l38o_8) (step := fun x => L38o_8 N x.1 x.2.1 x.2.2.1 x.2.2.2.1 x.2.2.2.2) (fun x o h => wpc_sound (tbl := []) (μ := [27]) mixed _ _ _ (by
    have h1 := Vt.sound _ h
    refine Eq.mp ?_ h1
    kernel_rfl)) N x o h
noncomputable def V38o (N : Nat) (a0 : (List Ln)) (a1 : (List Bs)) : Vt (List Bs) (Option D) (fun q => some (E38o q)) :=
  .c2 (P26 N a0 a1) (fun x1 x2 => .br (!x2) (.br (!x2) (.br (decide ((0 : Int) < (a1.length : Int))) (.leaf ([] : (List Bs))) (.c1 (P34o N a0 (-1)) (fun x3 => .f1 (l := l38o_8) (o := W38o_8 N (a0, ([] : (List Bs)), x3, (x3.length : Int), 0)) (WS38o_8 N (a0, ([] : (List Bs)), x3, (x3.length : Int), 0)) (fun x1 => .leaf x1.2.1)))) (.c1 (P34o N a0 (-1)) (fun x2 => .f1 (l := l38o_8) (o := W38o_8 N (a0, ([] : (List Bs)), x2, (x2.length : Int), 0)) (WS38o_8 N (a0, ([] : (List Bs)), x2, (x2.length : Int), 0)) (fun x3 => .leaf x3.2.1)))) (.br (!x2) (.br (decide ((0 : Int) < (a1.length : Int))) (.leaf ([] : (List Bs))) (.c1 (P34o N a0 x1) (fun x4 => .f1 (l := l38o_8) (o := W38o_8 N (a0, ([] : (List Bs)), x4, (x4.length : Int), 0)) (WS38o_8 N (a0, ([] : (List Bs)), x4, (x4.length : Int), 0)) (fun x5 => .leaf x5.2.1)))) (.c1 (P34o N a0 x1) (fun x6 => .f1 (l := l38o_8) (o := W38o_8 N (a0, ([] : (List Bs)), x6, (x6.length : Int), 0)) (WS38o_8 N (a0, ([] : (List Bs)), x6, (x6.length : Int), 0)) (fun x7 => .leaf x7.2.1)))))
noncomputable def F38o (N : Nat) (a0 : (List Ln)) (a1 : (List Bs)) : Option (List Bs) := (V38o N a0 a1).eval
def t38o : List (Nat × List Nat × List (Nat × Sh)) := [(8, [0], l38o_8)]
theorem P38o (N : Nat) (a0 : (List Ln)) (a1 : (List Bs)) : ∀ r, F38o N a0 a1 = some r → Spec Try.prog 38 [.val (.list tLn) a0, .val (.list tS) a1] (E38o r) := fun r h => Spec_of (fn := Try.f38) rfl rfl rfl rfl true (wpc_sound (tbl := t38o) (μ := [27]) mixed _ _ _ (by
  have h1 := Vt.sound _ h
  refine Eq.mp ?_ h1
  kernel_rfl))

/-! slices.Index[[]string,string] -/
def E55 : Int → D := fun x => encV tI x
abbrev l55_2 : List (Nat × Sh) := [(0, .val (.list tS)), (1, .val tS), (7, .val tI), (8, .val tI)]
noncomputable def b55_2 : Code := loopBody 2 (bodyOf Try.f55)
noncomputable def U55_2 (N : Nat) (s0 : (List Bs)) (s1 : Bs) (s7 : Int) (s8 : Int) : Vt (Lp (shTy l55_2).I Int) (O3 (Option D)) (encO 19 l55_2 [0] (fun q => some (E55 q))) :=
  .br (decide (s8 < s7)) (.ck (inR s8 s0.length) (.br (s1 == (atI tS s0 s8)) (.leaf (.ret s8)) (.leaf (.next (s0, s1, s7, (IntKind.i64.wrap (s8 + 1))))))) (.leaf (.brk 0 (s0, s1, s7, s8)))
noncomputable def L55_2 (N : Nat) (s0 : (List Bs)) (s1 : Bs) (s7 : Int) (s8 : Int) : Option (Lp ((List Bs) × Bs × Int × Int) Int) := (U55_2 N s0 s1 s7 s8).eval
noncomputable def W55_2 (N : Nat) (x : ((List Bs) × Bs × Int × Int)) : Option (Lp ((List Bs) × Bs × Int × Int) Int) := runLoop (fun x => L55_2 N x.1 x.2.1 x.2.2.1 x.2.2.2) N x
theorem WS55_2 (N : Nat) (x : (shTy l55_2).I) : ∀ o, W55_2 N x = some o → S Try.prog (.loop b55_2) (buildSt 19 l55_2 x) (stepZ (rdD Try.prog Try.f55 false) l55_2 (encO 19 l55_2 [0] (fun q => some (E55 q)) o)) :=
  fun o h => loop_S (l := l55_2) (step := fun x => L55_2 N x.1 x.2.1 x.2.2.1 x.2.2.2) (fun x o h => wpc_sound (tbl := []) (μ := []) mixed _ _ _ (by
    have h1 := Vt.sound _ h
    refine Eq.mp ?_ h1
    kernel_rfl)) N x o h
noncomputable def V55 (N : Nat) (a0 : (List Bs)) (a1 : Bs) : Vt Int (Option D) (fun q => some (E55 q)) :=
  .f1 (l := l55_2) (o := W55_2 N (a0, a1, (a0.length : Int), 0)) (WS55_2 N (a0, a1, (a0.length : Int), 0)) (fun x1 => .leaf (-1))
noncomputable def F55 (N : Nat) (a0 : (List Bs)) (a1 : Bs) : Option Int := (V55 N a0 a1).eval
def t55 : List (Nat × List Nat × List (Nat × Sh)) := [(2, [0], l55_2)]
theorem P55 (N : Nat) (a0 : (List Bs)) (a1 : Bs) : ∀ r, F55 N a0 a1 = some r → Spec Try.prog 55 [.val (.list tS) a0, .val tS a1] (E55 r) := fun r h => Spec_of (fn := Try.f55) rfl rfl rfl rfl false (wpc_sound (tbl := t55) (μ := []) mixed _ _ _ (by
  have h1 := Vt.sound _ h
  refine Eq.mp ?_ h1
  kernel_rfl))

/-! slices.Clone[[]string,string] -/
def E56o : (List Bs) → D := fun x => .own 9 tS x
noncomputable def V56o (N : Nat) (a0 : (List Bs)) : Vt (List Bs) (Option D) (fun q => some (E56o q)) :=
  .nq (a0 = []) (.leaf ([] : (List Bs))) (.ck (room (([] : (List Bs)).length + a0.length)) (.leaf (([] : (List Bs)) ++ a0)))
noncomputable def F56o (N : Nat) (a0 : (List Bs)) : Option (List Bs) := (V56o N a0).eval
def t56o : List (Nat × List Nat × List (Nat × Sh)) := []
theorem P56o (N : Nat) (a0 : (List Bs)) : ∀ r, F56o N a0 = some r → Spec Try.prog 56 [.val (.list tS) a0] (E56o r) := fun r h => Spec_of (fn := Try.f56) rfl rfl rfl rfl true (wpc_sound (tbl := t56o) (μ := []) mixed _ _ _ (by
  have h1 := Vt.sound _ h
  refine Eq.mp ?_ h1
  kernel_rfl))

/-! ferryslip/groups.filled -/
def E42o : (List (List Bs)) → D := fun x => .own 41 (.list tS) x
abbrev l42o_7 : List (Nat × Sh) := [(0, .val (.list tLn)), (1, .val (.list tS)), (7, .val tI), (8, .row false 45 41 (.list tS)), (27, .row false 27 9 tS), (28, .val tI), (29, .val tI)]
noncomputable def b42o_7 : Code := loopBody 7 (bodyOf Try.f42)
noncomputable def U42o_7 (N : Nat) (rc : (List Ln) → (List Bs) → Int → Option (List (List Bs))) (hrc : ∀ (a0 : (List Ln)) (a1 : (List Bs)) (a2 : Int) (r : (List (List Bs))), rc a0 a1 a2 = some r → Spec Try.prog 42 [.val (.list tLn) a0, .val (.list tS) a1, .val tI a2] (E42o r)) (s0 : (List Ln)) (s1 : (List Bs)) (s7 : Int) (s8 : (List (List Bs))) (s27 : (List Bs)) (s28 : Int) (s29 : Int) : Vt (Lp (shTy l42o_7).I (List (List Bs))) (O3 (Option D)) (encO 48 l42o_7 [0] (fun q => some (E42o q))) :=
  .br (decide (s29 < s28)) (.ck (inR s29 s27.length) (.ck (inR s29 s27.length) (.c1 (P56o N s1) (fun x1 => .ck (inR s7 x1.length) (.ck (inR s7 x1.length) (.c1 (hrc s0 (x1.set s7.toNat (atI tS s27 s29)) (IntKind.i64.wrap (s7 + 1))) (fun x2 => .ck (room (s8.length + x2.length)) (.leaf (.next (s0, s1, s7, (s8 ++ x2), s27, s28, (IntKind.i64.wrap (s29 + 1)))))))))))) (.leaf (.brk 0 (s0, s1, s7, s8, s27, s28, s29)))
noncomputable def L42o_7 (N : Nat) (rc : (List Ln) → (List Bs) → Int → Option (List (List Bs))) (hrc : ∀ (a0 : (List Ln)) (a1 : (List Bs)) (a2 : Int) (r : (List (List Bs))), rc a0 a1 a2 = some r → Spec Try.prog 42 [.val (.list tLn) a0, .val (.list tS) a1, .val tI a2] (E42o r)) (s0 : (List Ln)) (s1 : (List Bs)) (s7 : Int) (s8 : (List (List Bs))) (s27 : (List Bs)) (s28 : Int) (s29 : Int) : Option (Lp ((List Ln) × (List Bs) × Int × (List (List Bs)) × (List Bs) × Int × Int) (List (List Bs))) := (U42o_7 N rc hrc s0 s1 s7 s8 s27 s28 s29).eval
noncomputable def W42o_7 (N : Nat) (rc : (List Ln) → (List Bs) → Int → Option (List (List Bs))) (hrc : ∀ (a0 : (List Ln)) (a1 : (List Bs)) (a2 : Int) (r : (List (List Bs))), rc a0 a1 a2 = some r → Spec Try.prog 42 [.val (.list tLn) a0, .val (.list tS) a1, .val tI a2] (E42o r)) (x : ((List Ln) × (List Bs) × Int × (List (List Bs)) × (List Bs) × Int × Int)) : Option (Lp ((List Ln) × (List Bs) × Int × (List (List Bs)) × (List Bs) × Int × Int) (List (List Bs))) := runLoop (fun x => L42o_7 N rc hrc x.1 x.2.1 x.2.2.1 x.2.2.2.1 x.2.2.2.2.1 x.2.2.2.2.2.1 x.2.2.2.2.2.2) N x
theorem WS42o_7 (N : Nat) (rc : (List Ln) → (List Bs) → Int → Option (List (List Bs))) (hrc : ∀ (a0 : (List Ln)) (a1 : (List Bs)) (a2 : Int) (r : (List (List Bs))), rc a0 a1 a2 = some r → Spec Try.prog 42 [.val (.list tLn) a0, .val (.list tS) a1, .val tI a2] (E42o r)) (x : (shTy l42o_7).I) : ∀ o, W42o_7 N rc hrc x = some o → S Try.prog (.loop b42o_7) (buildSt 48 l42o_7 x) (stepZ (rdD Try.prog Try.f42 true) l42o_7 (encO 48 l42o_7 [0] (fun q => some (E42o q)) o)) :=
  fun o h => loop_S (l := l42o_7) (step := fun x => L42o_7 N rc hrc x.1 x.2.1 x.2.2.1 x.2.2.2.1 x.2.2.2.2.1 x.2.2.2.2.2.1 x.2.2.2.2.2.2) (fun x o h => wpc_sound (tbl := []) (μ := [27, 34, 44]) mixed _ _ _ (by
    have h1 := Vt.sound _ h
    refine Eq.mp ?_ h1
    kernel_rfl)) N x o h
noncomputable def V42o (N : Nat) (rc : (List Ln) → (List Bs) → Int → Option (List (List Bs))) (hrc : ∀ (a0 : (List Ln)) (a1 : (List Bs)) (a2 : Int) (r : (List (List Bs))), rc a0 a1 a2 = some r → Spec Try.prog 42 [.val (.list tLn) a0, .val (.list tS) a1, .val tI a2] (E42o r)) (a0 : (List Ln)) (a1 : (List Bs)) (a2 : Int) : Vt (List (List Bs)) (Option D) (fun q => some (E42o q)) :=
  .ck ((0 : Int) ≤ a2 ∧ a2 ≤ (a1.length : Int) ∧ (a1.length : Int) ≤ (a1.length : Int)) (.c1 (P55 N (slc a1 a2 (a1.length : Int)) ([42] : Bs)) (fun x1 => .br (decide (x1 < 0)) (.leaf ([a1] : (List (List Bs)))) (.ck ((0 : Int) ≤ 0 ∧ (0 : Int) ≤ (IntKind.i64.wrap (x1 + a2)) ∧ (IntKind.i64.wrap (x1 + a2)) ≤ (a1.length : Int)) (.c1 (P38o N a0 (slc a1 0 (IntKind.i64.wrap (x1 + a2)))) (fun x2 => .f1 (l := l42o_7) (o := W42o_7 N rc hrc (a0, a1, (IntKind.i64.wrap (x1 + a2)), ([] : (List (List Bs))), x2, (x2.length : Int), 0)) (WS42o_7 N rc hrc (a0, a1, (IntKind.i64.wrap (x1 + a2)), ([] : (List (List Bs))), x2, (x2.length : Int), 0)) (fun x3 => .leaf x3.2.2.2.1))))))
def t42o : List (Nat × List Nat × List (Nat × Sh)) := [(7, [0], l42o_7)]
theorem PV42o (N : Nat) (rc : (List Ln) → (List Bs) → Int → Option (List (List Bs))) (hrc : ∀ (a0 : (List Ln)) (a1 : (List Bs)) (a2 : Int) (r : (List (List Bs))), rc a0 a1 a2 = some r → Spec Try.prog 42 [.val (.list tLn) a0, .val (.list tS) a1, .val tI a2] (E42o r)) (a0 : (List Ln)) (a1 : (List Bs)) (a2 : Int) : ∀ r, (V42o N rc hrc a0 a1 a2).eval = some r → Spec Try.prog 42 [.val (.list tLn) a0, .val (.list tS) a1, .val tI a2] (E42o r) := fun r h => Spec_of (fn := Try.f42) rfl rfl rfl rfl true (wpc_sound (tbl := t42o) (μ := [27, 34, 44]) mixed _ _ _ (by
  have h1 := Vt.sound _ h
  refine Eq.mp ?_ h1
  kernel_rfl))
noncomputable def G42o (N : Nat) : Nat → { rc : (List Ln) → (List Bs) → Int → Option (List (List Bs)) // ∀ (a0 : (List Ln)) (a1 : (List Bs)) (a2 : Int) (r : (List (List Bs))), rc a0 a1 a2 = some r → Spec Try.prog 42 [.val (.list tLn) a0, .val (.list tS) a1, .val tI a2] (E42o r) }
  | 0 => ⟨fun _ _ _ => none, fun _ _ _ _ h => by cases h⟩
  | n + 1 => ⟨fun a0 a1 a2 => (V42o N (G42o N n).1 (G42o N n).2 a0 a1 a2).eval, fun a0 a1 a2 => PV42o N _ _ a0 a1 a2⟩
noncomputable def F42o (N : Nat) (a0 : (List Ln)) (a1 : (List Bs)) (a2 : Int) : Option (List (List Bs)) := (G42o N N).1 a0 a1 a2
theorem P42o (N : Nat) (a0 : (List Ln)) (a1 : (List Bs)) (a2 : Int) : ∀ r, F42o N a0 a1 a2 = some r → Spec Try.prog 42 [.val (.list tLn) a0, .val (.list tS) a1, .val tI a2] (E42o r) := (G42o N N).2 a0 a1 a2

/-! ferryslip/groups.Paths -/
def E19o : ((List (List Bs)) × Int) → D := fun x => .tup [.own 41 (.list tS) x.1, encV tI x.2]
abbrev l19o_11 : List (Nat × Sh) := [(10, .val (.list tLn)), (12, .val (.list tLn)), (13, .row false 64 41 (.list tS)), (44, .row false 44 3 tI), (45, .val tI), (46, .val tI)]
noncomputable def b19o_11 : Code := loopBody 11 (bodyOf Try.f19)
noncomputable def U19o_11 (N : Nat) (s10 : (List Ln)) (s12 : (List Ln)) (s13 : (List (List Bs))) (s44 : (List Int)) (s45 : Int) (s46 : Int) : Vt (Lp (shTy l19o_11).I ((List (List Bs)) × Int)) (O3 (Option D)) (encO 67 l19o_11 [0] (fun q => some (E19o q))) :=
  .br (decide (s46 < s45)) (.ck (inR s46 s44.length) (.ck (inR s46 s44.length) (.c2 (P25o N s12 (atI tI s44 s46)) (fun x1 x2 => .br (decide ((1 : Int) < (x1.length : Int))) (.ck ((0 : Int) ≤ 1 ∧ (1 : Int) ≤ (x1.length : Int) ∧ (x1.length : Int) ≤ (x1.length : Int)) (.c1 (P42o N s10 (slc x1 1 (x1.length : Int)) 0) (fun x3 => .ck (room (s13.length + x3.length)) (.leaf (.next (s10, s12, (s13 ++ x3), s44, s45, (IntKind.i64.wrap (s46 + 1)))))))) (.leaf (.next (s10, s12, s13, s44, s45, (IntKind.i64.wrap (s46 + 1))))))))) (.leaf (.brk 0 (s10, s12, s13, s44, s45, s46)))
noncomputable def L19o_11 (N : Nat) (s10 : (List Ln)) (s12 : (List Ln)) (s13 : (List (List Bs))) (s44 : (List Int)) (s45 : Int) (s46 : Int) : Option (Lp ((List Ln) × (List Ln) × (List (List Bs)) × (List Int) × Int × Int) ((List (List Bs)) × Int)) := (U19o_11 N s10 s12 s13 s44 s45 s46).eval
noncomputable def W19o_11 (N : Nat) (x : ((List Ln) × (List Ln) × (List (List Bs)) × (List Int) × Int × Int)) : Option (Lp ((List Ln) × (List Ln) × (List (List Bs)) × (List Int) × Int × Int) ((List (List Bs)) × Int)) := runLoop (fun x => L19o_11 N x.1 x.2.1 x.2.2.1 x.2.2.2.1 x.2.2.2.2.1 x.2.2.2.2.2) N x
theorem WS19o_11 (N : Nat) (x : (shTy l19o_11).I) : ∀ o, W19o_11 N x = some o → S Try.prog (.loop b19o_11) (buildSt 67 l19o_11 x) (stepZ (rdD Try.prog Try.f19 true) l19o_11 (encO 67 l19o_11 [0] (fun q => some (E19o q)) o)) :=
  fun o h => loop_S (l := l19o_11) (step := fun x => L19o_11 N x.1 x.2.1 x.2.2.1 x.2.2.2.1 x.2.2.2.2.1 x.2.2.2.2.2) (fun x o h => wpc_sound (tbl := []) (μ := [20, 37, 42, 44, 53, 63]) mixed _ _ _ (by
    have h1 := Vt.sound _ h
    refine Eq.mp ?_ h1
    kernel_rfl)) N x o h
noncomputable def V19o (N : Nat) (a0 : (List Ln)) (a1 : Bs) : Vt ((List (List Bs)) × Int) (Option D) (fun q => some (E19o q)) :=
  .c2 (P12o N a0) (fun x1 x2 => .br (x2 != 0) (.leaf (([] : (List (List Bs))), x2)) (.c2 (P26 N x1 ([([103, 114, 111, 117, 112, 115] : Bs), a1] : (List Bs))) (fun x3 x4 => .br (!x4) (.leaf (([] : (List (List Bs))), 3)) (.c2 (P13o N a0) (fun x5 x6 => .c1 (P36o N x1 x3) (fun x7 => .c1 (P41o N x7) (fun x8 => .f1 (l := l19o_11) (o := W19o_11 N (x5, x7, ([] : (List (List Bs))), x8, (x8.length : Int), 0)) (WS19o_11 N (x5, x7, ([] : (List (List Bs))), x8, (x8.length : Int), 0)) (fun x4 => .leaf (x4.2.2.1, 0)))))))))
noncomputable def F19o (N : Nat) (a0 : (List Ln)) (a1 : Bs) : Option ((List (List Bs)) × Int) := (V19o N a0 a1).eval
def t19o : List (Nat × List Nat × List (Nat × Sh)) := [(11, [0], l19o_11)]
theorem P19o (N : Nat) (a0 : (List Ln)) (a1 : Bs) : ∀ r, F19o N a0 a1 = some r → Spec Try.prog 19 [.val (.list tLn) a0, .val tS a1] (E19o r) := fun r h => Spec_of (fn := Try.f19) rfl rfl rfl rfl true (wpc_sound (tbl := t19o) (μ := [20, 37, 42, 44, 53, 63]) mixed _ _ _ (by
  have h1 := Vt.sound _ h
  refine Eq.mp ?_ h1
  kernel_rfl))

/-! ferryslip/groups.inherited -/
def E39 : Bool → D := fun x => encV tB x
noncomputable def V39 (N : Nat) (a0 : (List Ln)) (a1 : (List Bs)) : Vt Bool (Option D) (fun q => some (E39 q)) :=
  .ck (inR 0 a1.length) (.c1 (P35 N (atI tS a1 0)) (fun x1 => .br x1 (.leaf false) (.br ((a1.length : Int) == 1) (.leaf true) (.ck ((0 : Int) ≤ 0 ∧ (0 : Int) ≤ (IntKind.i64.wrap ((a1.length : Int) - 1)) ∧ (IntKind.i64.wrap ((a1.length : Int) - 1)) ≤ (a1.length : Int)) (.c1 (P38o N a0 (slc a1 0 (IntKind.i64.wrap ((a1.length : Int) - 1)))) (fun x2 => .leaf ((x2.length : Int) == 0)))))))
noncomputable def F39 (N : Nat) (a0 : (List Ln)) (a1 : (List Bs)) : Option Bool := (V39 N a0 a1).eval
def t39 : List (Nat × List Nat × List (Nat × Sh)) := []
theorem P39 (N : Nat) (a0 : (List Ln)) (a1 : (List Bs)) : ∀ r, F39 N a0 a1 = some r → Spec Try.prog 39 [.val (.list tLn) a0, .val (.list tS) a1] (E39 r) := fun r h => Spec_of (fn := Try.f39) rfl rfl rfl rfl false (wpc_sound (tbl := t39) (μ := [19]) mixed _ _ _ (by
  have h1 := Vt.sound _ h
  refine Eq.mp ?_ h1
  kernel_rfl))

/-! ferryslip/lines.sound$1 -/
def E60 : Bool → D := fun x => encV tB x
noncomputable def V60 (N : Nat) (a0 : Bs) : Vt Bool (Option D) (fun q => some (E60 q)) :=
  .leaf (decide ((40 : Int) < (a0.length : Int)))
noncomputable def F60 (N : Nat) (a0 : Bs) : Option Bool := (V60 N a0).eval
def t60 : List (Nat × List Nat × List (Nat × Sh)) := []
theorem P60 (N : Nat) (a0 : Bs) : ∀ r, F60 N a0 = some r → Spec Try.prog 60 [.val tS a0] (E60 r) := fun r h => Spec_of (fn := Try.f60) rfl rfl rfl rfl false (wpc_sound (tbl := t60) (μ := []) mixed _ _ _ (by
  have h1 := Vt.sound _ h
  refine Eq.mp ?_ h1
  kernel_rfl))

/-! slices.IndexFunc[[]string,string] -/
def E63C60 : Int → D := fun x => encV tI x
abbrev l63C60_2 : List (Nat × Sh) := [(0, .val (.list tS)), (1, .fnc 60), (7, .val tI), (8, .val tI)]
noncomputable def b63C60_2 : Code := loopBody 2 (bodyOf Try.f63)
noncomputable def U63C60_2 (N : Nat) (s0 : (List Bs)) (s1 : Bool) (s7 : Int) (s8 : Int) : Vt (Lp (shTy l63C60_2).I Int) (O3 (Option D)) (encO 19 l63C60_2 [0] (fun q => some (E63C60 q))) :=
  .br (decide (s8 < s7)) (.ck (inR s8 s0.length) (.c1 (P60 N (atI tS s0 s8)) (fun x1 => .br x1 (.leaf (.ret s8)) (.leaf (.next (s0, true, s7, (IntKind.i64.wrap (s8 + 1)))))))) (.leaf (.brk 0 (s0, true, s7, s8)))
noncomputable def L63C60_2 (N : Nat) (s0 : (List Bs)) (s1 : Bool) (s7 : Int) (s8 : Int) : Option (Lp ((List Bs) × Bool × Int × Int) Int) := (U63C60_2 N s0 s1 s7 s8).eval
noncomputable def W63C60_2 (N : Nat) (x : ((List Bs) × Bool × Int × Int)) : Option (Lp ((List Bs) × Bool × Int × Int) Int) := runLoop (fun x => L63C60_2 N x.1 x.2.1 x.2.2.1 x.2.2.2) N x
theorem WS63C60_2 (N : Nat) (x : (shTy l63C60_2).I) : ∀ o, W63C60_2 N x = some o → S Try.prog (.loop b63C60_2) (buildSt 19 l63C60_2 x) (stepZ (rdD Try.prog Try.f63 false) l63C60_2 (encO 19 l63C60_2 [0] (fun q => some (E63C60 q)) o)) :=
  fun o h => loop_S (l := l63C60_2) (step := fun x => L63C60_2 N x.1 x.2.1 x.2.2.1 x.2.2.2) (fun x o h => wpc_sound (tbl := []) (μ := []) mixed _ _ _ (by
    have h1 := Vt.sound _ h
    refine Eq.mp ?_ h1
    kernel_rfl)) N x o h
noncomputable def V63C60 (N : Nat) (a0 : (List Bs)) : Vt Int (Option D) (fun q => some (E63C60 q)) :=
  .f1 (l := l63C60_2) (o := W63C60_2 N (a0, true, (a0.length : Int), 0)) (WS63C60_2 N (a0, true, (a0.length : Int), 0)) (fun x1 => .leaf (-1))
noncomputable def F63C60 (N : Nat) (a0 : (List Bs)) : Option Int := (V63C60 N a0).eval
def t63C60 : List (Nat × List Nat × List (Nat × Sh)) := [(2, [0], l63C60_2)]
theorem P63C60 (N : Nat) (a0 : (List Bs)) : ∀ r, F63C60 N a0 = some r → Spec Try.prog 63 [.val (.list tS) a0, .fn (.func 60)] (E63C60 r) := fun r h => Spec_of (fn := Try.f63) rfl rfl rfl rfl false (wpc_sound (tbl := t63C60) (μ := []) mixed _ _ _ (by
  have h1 := Vt.sound _ h
  refine Eq.mp ?_ h1
  kernel_rfl))

/-! slices.ContainsFunc[[]string,string] -/
def E59C60 : Bool → D := fun x => encV tB x
noncomputable def V59C60 (N : Nat) (a0 : (List Bs)) : Vt Bool (Option D) (fun q => some (E59C60 q)) :=
  .c1 (P63C60 N a0) (fun x1 => .leaf (decide ((0 : Int) ≤ x1)))
noncomputable def F59C60 (N : Nat) (a0 : (List Bs)) : Option Bool := (V59C60 N a0).eval
def t59C60 : List (Nat × List Nat × List (Nat × Sh)) := []
theorem P59C60 (N : Nat) (a0 : (List Bs)) : ∀ r, F59C60 N a0 = some r → Spec Try.prog 59 [.val (.list tS) a0, .fn (.func 60)] (E59C60 r) := fun r h => Spec_of (fn := Try.f59) rfl rfl rfl rfl false (wpc_sound (tbl := t59C60) (μ := []) mixed _ _ _ (by
  have h1 := Vt.sound _ h
  refine Eq.mp ?_ h1
  kernel_rfl))

/-! ferryslip/lines.sound -/
def E52 : Bool → D := fun x => encV tB x
noncomputable def V52 (N : Nat) (a0 : (List Bs)) : Vt Bool (Option D) (fun q => some (E52 q)) :=
  .br (decide ((0 : Int) < (a0.length : Int))) (.c1 (P59C60 N a0) (fun x1 => .leaf (!x1))) (.leaf false)
noncomputable def F52 (N : Nat) (a0 : (List Bs)) : Option Bool := (V52 N a0).eval
def t52 : List (Nat × List Nat × List (Nat × Sh)) := []
theorem P52 (N : Nat) (a0 : (List Bs)) : ∀ r, F52 N a0 = some r → Spec Try.prog 52 [.val (.list tS) a0] (E52 r) := fun r h => Spec_of (fn := Try.f52) rfl rfl rfl rfl false (wpc_sound (tbl := t52) (μ := []) mixed _ _ _ (by
  have h1 := Vt.sound _ h
  refine Eq.mp ?_ h1
  kernel_rfl))

/-! ferryslip/lines.spot -/
def E54 : Int → D := fun x => encV tI x
abbrev l54_7 : List (Nat × Sh) := [(0, .val (.list tLn)), (2, .val tS), (9, .val tI), (26, .row false 26 3 tI), (27, .val tI), (28, .val tI)]
noncomputable def b54_7 : Code := loopBody 7 (bodyOf Try.f54)
noncomputable def U54_7 (N : Nat) (s0 : (List Ln)) (s2 : Bs) (s9 : Int) (s26 : (List Int)) (s27 : Int) (s28 : Int) : Vt (Lp (shTy l54_7).I Int) (O3 (Option D)) (encO 42 l54_7 [0] (fun q => some (E54 q))) :=
  .br (decide (s28 < s27)) (.ck (inR s28 s26.length) (.ck (inR s28 s26.length) (.ck (inR (atI tI s26 s28) s0.length) (.br (!((Op.bytesLess ((atI tLn s0 (atI tI s26 s28)).2.1) s2) || (((atI tLn s0 (atI tI s26 s28)).2.1) == s2))) (.leaf (.ret (atI tI s26 s28))) (.leaf (.next (s0, s2, s9, s26, s27, (IntKind.i64.wrap (s28 + 1))))))))) (.leaf (.brk 0 (s0, s2, s9, s26, s27, s28)))
noncomputable def L54_7 (N : Nat) (s0 : (List Ln)) (s2 : Bs) (s9 : Int) (s26 : (List Int)) (s27 : Int) (s28 : Int) : Option (Lp ((List Ln) × Bs × Int × (List Int) × Int × Int) Int) := (U54_7 N s0 s2 s9 s26 s27 s28).eval
noncomputable def W54_7 (N : Nat) (x : ((List Ln) × Bs × Int × (List Int) × Int × Int)) : Option (Lp ((List Ln) × Bs × Int × (List Int) × Int × Int) Int) := runLoop (fun x => L54_7 N x.1 x.2.1 x.2.2.1 x.2.2.2.1 x.2.2.2.2.1 x.2.2.2.2.2) N x
theorem WS54_7 (N : Nat) (x : (shTy l54_7).I) : ∀ o, W54_7 N x = some o → S Try.prog (.loop b54_7) (buildSt 42 l54_7 x) (stepZ (rdD Try.prog Try.f54 false) l54_7 (encO 42 l54_7 [0] (fun q => some (E54 q)) o)) :=
  fun o h => loop_S (l := l54_7) (step := fun x => L54_7 N x.1 x.2.1 x.2.2.1 x.2.2.2.1 x.2.2.2.2.1 x.2.2.2.2.2) (fun x o h => wpc_sound (tbl := []) (μ := [26]) mixed _ _ _ (by
    have h1 := Vt.sound _ h
    refine Eq.mp ?_ h1
    kernel_rfl)) N x o h
noncomputable def V54 (N : Nat) (a0 : (List Ln)) (a1 : (List Bs)) (a2 : Bs) : Vt Int (Option D) (fun q => some (E54 q)) :=
  .c2 (P26 N a0 a1) (fun x1 x2 => .br x2 (.c1 (P33 N a0 x1) (fun x3 => .c1 (P34o N a0 x1) (fun x4 => .f1 (l := l54_7) (o := W54_7 N (a0, a2, x3, x4, (x4.length : Int), 0)) (WS54_7 N (a0, a2, x3, x4, (x4.length : Int), 0)) (fun x5 => .leaf x5.2.2.1)))) (.c1 (P34o N a0 (-1)) (fun x6 => .f1 (l := l54_7) (o := W54_7 N (a0, a2, (a0.length : Int), x6, (x6.length : Int), 0)) (WS54_7 N (a0, a2, (a0.length : Int), x6, (x6.length : Int), 0)) (fun x7 => .leaf x7.2.2.1))))
noncomputable def F54 (N : Nat) (a0 : (List Ln)) (a1 : (List Bs)) (a2 : Bs) : Option Int := (V54 N a0 a1 a2).eval
def t54 : List (Nat × List Nat × List (Nat × Sh)) := [(7, [0], l54_7)]
theorem P54 (N : Nat) (a0 : (List Ln)) (a1 : (List Bs)) (a2 : Bs) : ∀ r, F54 N a0 a1 a2 = some r → Spec Try.prog 54 [.val (.list tLn) a0, .val (.list tS) a1, .val tS a2] (E54 r) := fun r h => Spec_of (fn := Try.f54) rfl rfl rfl rfl false (wpc_sound (tbl := t54) (μ := [26]) mixed _ _ _ (by
  have h1 := Vt.sound _ h
  refine Eq.mp ?_ h1
  kernel_rfl))

/-! ferryslip/lines.Add -/
def E40f : (Bool × (List Ln) × Int) → D := fun x => .tup [ownIf x.1 40 tLn x.2.1, encV tI x.2.2]
abbrev l40f_7 : List (Nat × Sh) := [(0, .val (.list tLn)), (1, .val (.list tS)), (6, .val (.list tLn)), (27, .val (.list tS)), (28, .val tI), (29, .val tI)]
noncomputable def b40f_7 : Code := loopBody 7 (bodyOf Try.f40)
noncomputable def U40f_7 (N : Nat) (s0 : (List Ln)) (s1 : (List Bs)) (s6 : (List Ln)) (s27 : (List Bs)) (s28 : Int) (s29 : Int) : Vt (Lp (shTy l40f_7).I (Bool × (List Ln) × Int)) (O3 (Option D)) (encO 64 l40f_7 [1] (fun q => some (E40f q))) :=
  .br (decide (s29 < s28)) (.ck (inR s29 s27.length) (.ck ((0 : Int) ≤ 0 ∧ (0 : Int) ≤ (IntKind.i64.wrap (s29 + 1)) ∧ (IntKind.i64.wrap (s29 + 1)) ≤ (s1.length : Int)) (.c2 (P26 N s6 (slc s1 0 (IntKind.i64.wrap (s29 + 1)))) (fun x1 x2 => .br x2 (.leaf (.next (s0, s1, s6, s27, s28, (IntKind.i64.wrap (s29 + 1))))) (.br (decide ((200 : Int) ≤ (s6.length : Int))) (.leaf (.ret (false, s0, 5))) (.ck ((0 : Int) ≤ 0 ∧ (0 : Int) ≤ s29 ∧ s29 ≤ (s1.length : Int)) (.nb (.c1 (P51o N s6) (fun x3 => .nb (.c1 (P54 N s6 (slc s1 0 s29) (atI tS s27 s29)) (fun x4 => .cr (P53t N x3 x4 ([(s29, (atI tS s27 s29), 0)] : (List Ln))) (fun x5 => .leaf (.next (s0, s1, x5, s27, s28, (IntKind.i64.wrap (s29 + 1))))))) (.c1 (P54 N s6 (slc s1 0 s29) (atI tS s27 s29)) (fun x6 => .cr (P53t N x3 x6 ([(s29, (atI tS s27 s29), 0)] : (List Ln))) (fun x7 => .leaf (.next (s0, s1, x7, s27, s28, (IntKind.i64.wrap (s29 + 1))))))))) (.c1 (P51o N s6) (fun x8 => .c1 (P54 N s6 (slc s1 0 s29) (atI tS s27 s29)) (fun x9 => .cr (P53t N x8 x9 ([(s29, (atI tS s27 s29), 0)] : (List Ln))) (fun x10 => .leaf (.next (s0, s1, x10, s27, s28, (IntKind.i64.wrap (s29 + 1))))))))))))))) (.leaf (.brk 0 (s0, s1, s6, s27, s28, s29)))
noncomputable def L40f_7 (N : Nat) (s0 : (List Ln)) (s1 : (List Bs)) (s6 : (List Ln)) (s27 : (List Bs)) (s28 : Int) (s29 : Int) : Option (Lp ((List Ln) × (List Bs) × (List Ln) × (List Bs) × Int × Int) (Bool × (List Ln) × Int)) := (U40f_7 N s0 s1 s6 s27 s28 s29).eval
noncomputable def W40f_7 (N : Nat) (x : ((List Ln) × (List Bs) × (List Ln) × (List Bs) × Int × Int)) : Option (Lp ((List Ln) × (List Bs) × (List Ln) × (List Bs) × Int × Int) (Bool × (List Ln) × Int)) := runLoop (fun x => L40f_7 N x.1 x.2.1 x.2.2.1 x.2.2.2.1 x.2.2.2.2.1 x.2.2.2.2.2) N x
theorem WS40f_7 (N : Nat) (x : (shTy l40f_7).I) : ∀ o, W40f_7 N x = some o → S Try.prog (.loop b40f_7) (buildSt 64 l40f_7 x) (stepZ (rdD Try.prog Try.f40 true) l40f_7 (encO 64 l40f_7 [1] (fun q => some (E40f q)) o)) :=
  fun o h => loop_S (l := l40f_7) (step := fun x => L40f_7 N x.1 x.2.1 x.2.2.1 x.2.2.2.1 x.2.2.2.2.1 x.2.2.2.2.2) (fun x o h => wpc_sound (tbl := []) (μ := [49, 60, 2000053]) mixed _ _ _ (by
    have h1 := Vt.sound _ h
    refine Eq.mp ?_ h1
    kernel_rfl)) N x o h
noncomputable def V40f (N : Nat) (a0 : (List Ln)) (a1 : (List Bs)) : Vt (Bool × (List Ln) × Int) (Option D) (fun q => some (E40f q)) :=
  .c1 (P24 N a0) (fun x1 => .br (!x1) (.leaf (false, a0, 1)) (.c1 (P52 N a1) (fun x2 => .br (!x2) (.leaf (false, a0, 1)) (.br (decide ((16 : Int) < (a1.length : Int))) (.leaf (false, a0, 6)) (.f1 (l := l40f_7) (o := W40f_7 N (a0, a1, a0, a1, (a1.length : Int), 0)) (WS40f_7 N (a0, a1, a0, a1, (a1.length : Int), 0)) (fun x3 => .c1 (P51o N x3.2.2.1) (fun x4 => .leaf (true, x4, 0))))))))
noncomputable def F40f (N : Nat) (a0 : (List Ln)) (a1 : (List Bs)) : Option (Bool × (List Ln) × Int) := (V40f N a0 a1).eval
def t40f : List (Nat × List Nat × List (Nat × Sh)) := [(7, [1], l40f_7)]
theorem P40f (N : Nat) (a0 : (List Ln)) (a1 : (List Bs)) : ∀ r, F40f N a0 a1 = some r → Spec Try.prog 40 [.val (.list tLn) a0, .val (.list tS) a1] (E40f r) := fun r h => Spec_of (fn := Try.f40) rfl rfl rfl rfl true (wpc_sound (tbl := t40f) (μ := [49, 60, 63, 2000053]) mixed _ _ _ (by
  have h1 := Vt.sound _ h
  refine Eq.mp ?_ h1
  kernel_rfl))

/-! ferryslip/groups.Expand -/
def E18 : ((List Ln) × Int) → D := fun x => .tup [encV (.list tLn) x.1, encV tI x.2]
abbrev l18_7 : List (Nat × Sh) := [(0, .val (.list tLn)), (4, .row false 18 40 tLn), (8, .row false 48 41 (.list tS)), (31, .row false 31 9 tS), (32, .val tI), (33, .val tI)]
noncomputable def b18_7 : Code := loopBody 7 (bodyOf Try.f18)
noncomputable def U18_7 (N : Nat) (s0 : (List Ln)) (s4 : (List Ln)) (s8 : (List (List Bs))) (s31 : (List Bs)) (s32 : Int) (s33 : Int) : Vt (Lp (shTy l18_7).I ((List Ln) × Int)) (O3 (Option D)) (encO 72 l18_7 [0] (fun q => some (E18 q))) :=
  .br (decide (s33 < s32)) (.ck (inR s33 s31.length) (.ck (inR s33 s31.length) (.c2 (P19o N s0 (atI tS s31 s33)) (fun x1 x2 => .br (x2 != 0) (.leaf (.ret (([] : (List Ln)), x2))) (.ck (room (s8.length + x1.length)) (.leaf (.next (s0, s4, (s8 ++ x1), s31, s32, (IntKind.i64.wrap (s33 + 1)))))))))) (.leaf (.brk 0 (s0, s4, s8, s31, s32, s33)))
noncomputable def L18_7 (N : Nat) (s0 : (List Ln)) (s4 : (List Ln)) (s8 : (List (List Bs))) (s31 : (List Bs)) (s32 : Int) (s33 : Int) : Option (Lp ((List Ln) × (List Ln) × (List (List Bs)) × (List Bs) × Int × Int) ((List Ln) × Int)) := (U18_7 N s0 s4 s8 s31 s32 s33).eval
noncomputable def W18_7 (N : Nat) (x : ((List Ln) × (List Ln) × (List (List Bs)) × (List Bs) × Int × Int)) : Option (Lp ((List Ln) × (List Ln) × (List (List Bs)) × (List Bs) × Int × Int) ((List Ln) × Int)) := runLoop (fun x => L18_7 N x.1 x.2.1 x.2.2.1 x.2.2.2.1 x.2.2.2.2.1 x.2.2.2.2.2) N x
theorem WS18_7 (N : Nat) (x : (shTy l18_7).I) : ∀ o, W18_7 N x = some o → S Try.prog (.loop b18_7) (buildSt 72 l18_7 x) (stepZ (rdD Try.prog Try.f18 false) l18_7 (encO 72 l18_7 [0] (fun q => some (E18 q)) o)) :=
  fun o h => loop_S (l := l18_7) (step := fun x => L18_7 N x.1 x.2.1 x.2.2.1 x.2.2.2.1 x.2.2.2.2.1 x.2.2.2.2.2) (fun x o h => wpc_sound (tbl := []) (μ := [18, 26, 31, 40]) mixed _ _ _ (by
    have h1 := Vt.sound _ h
    refine Eq.mp ?_ h1
    kernel_rfl)) N x o h
abbrev l18_16 : List (Nat × Sh) := [(4, .val (.list tLn)), (13, .val (.list tLn)), (51, .row false 48 41 (.list tS)), (52, .val tI), (53, .val tI)]
noncomputable def b18_16 : Code := loopBody 16 (bodyOf Try.f18)
noncomputable def U18_16 (N : Nat) (s4 : (List Ln)) (s13 : (List Ln)) (s51 : (List (List Bs))) (s52 : Int) (s53 : Int) : Vt (Lp (shTy l18_16).I ((List Ln) × Int)) (O3 (Option D)) (encO 72 l18_16 [2] (fun q => some (E18 q))) :=
  .br (decide (s53 < s52)) (.ck (inR s53 s51.length) (.ck (inR s53 s51.length) (.c1 (P39 N s4 (atI (.list tS) s51 s53)) (fun x1 => .br (!x1) (.leaf (.next (s4, s13, s51, s52, (IntKind.i64.wrap (s53 + 1))))) (.c3 (P40f N s13 (atI (.list tS) s51 s53)) (fun x4 x2 x3 => .br x4 (.br (x3 != 0) (.leaf (.ret (([] : (List Ln)), x3))) (.leaf (.next (s4, x2, s51, s52, (IntKind.i64.wrap (s53 + 1)))))) (.br (x3 != 0) (.leaf (.ret (([] : (List Ln)), x3))) (.leaf (.next (s4, x2, s51, s52, (IntKind.i64.wrap (s53 + 1)))))))))))) (.leaf (.brk 0 (s4, s13, s51, s52, s53)))
noncomputable def L18_16 (N : Nat) (s4 : (List Ln)) (s13 : (List Ln)) (s51 : (List (List Bs))) (s52 : Int) (s53 : Int) : Option (Lp ((List Ln) × (List Ln) × (List (List Bs)) × Int × Int) ((List Ln) × Int)) := (U18_16 N s4 s13 s51 s52 s53).eval
noncomputable def W18_16 (N : Nat) (x : ((List Ln) × (List Ln) × (List (List Bs)) × Int × Int)) : Option (Lp ((List Ln) × (List Ln) × (List (List Bs)) × Int × Int) ((List Ln) × Int)) := runLoop (fun x => L18_16 N x.1 x.2.1 x.2.2.1 x.2.2.2.1 x.2.2.2.2) N x
theorem WS18_16 (N : Nat) (x : (shTy l18_16).I) : ∀ o, W18_16 N x = some o → S Try.prog (.loop b18_16) (buildSt 72 l18_16 x) (stepZ (rdD Try.prog Try.f18 false) l18_16 (encO 72 l18_16 [2] (fun q => some (E18 q)) o)) :=
  fun o h => loop_S (l := l18_16) (step := fun x => L18_16 N x.1 x.2.1 x.2.2.1 x.2.2.2.1 x.2.2.2.2) (fun x o h => wpc_sound (tbl := [(7, [0], l18_7)]) (μ := [18, 26, 31, 40, 64, 3000064]) mixed _ _ _ (by
    have h1 := Vt.sound _ h
    refine Eq.mp ?_ h1
    kernel_rfl)) N x o h
noncomputable def V18 (N : Nat) (a0 : (List Ln)) : Vt ((List Ln) × Int) (Option D) (fun q => some (E18 q)) :=
  .c2 (P13o N a0) (fun x1 x2 => .br (x2 != 0) (.leaf (([] : (List Ln)), x2)) (.c2 (P12o N a0) (fun x3 x4 => .c1 (P38o N x3 ([([97, 112, 112, 108, 121] : Bs)] : (List Bs))) (fun x5 => .f1 (l := l18_7) (o := W18_7 N (a0, x1, ([] : (List (List Bs))), x5, (x5.length : Int), 0)) (WS18_7 N (a0, x1, ([] : (List (List Bs))), x5, (x5.length : Int), 0)) (fun x6 => .f1 (l := l18_16) (o := W18_16 N (x6.2.1, x6.2.1, x6.2.2.1, (x6.2.2.1.length : Int), 0)) (WS18_16 N (x6.2.1, x6.2.1, x6.2.2.1, (x6.2.2.1.length : Int), 0)) (fun x7 => .leaf (x7.2.1, 0)))))))
noncomputable def F18 (N : Nat) (a0 : (List Ln)) : Option ((List Ln) × Int) := (V18 N a0).eval
def t18 : List (Nat × List Nat × List (Nat × Sh)) := [(7, [0], l18_7), (16, [2], l18_16)]
theorem P18 (N : Nat) (a0 : (List Ln)) : ∀ r, F18 N a0 = some r → Spec Try.prog 18 [.val (.list tLn) a0] (E18 r) := fun r h => Spec_of (fn := Try.f18) rfl rfl rfl rfl false (wpc_sound (tbl := t18) (μ := [18, 26, 31, 40, 64, 3000064]) mixed _ _ _ (by
  have h1 := Vt.sound _ h
  refine Eq.mp ?_ h1
  kernel_rfl))

/-! ferryslip/ferrysliplaw12.awake -/
def E11 : Bool → D := fun x => encV tB x
noncomputable def V11 (N : Nat)  : Vt Bool (Option D) (fun q => some (E11 q)) :=
  .c2 (P18 N ([(0, ([97, 112, 112, 108, 121] : Bs), 0), (1, ([103] : Bs), 0), (0, ([103, 114, 111, 117, 112, 115] : Bs), 0), (1, ([103] : Bs), 0), (2, ([104] : Bs), 0), (3, ([42] : Bs), 0), (4, ([109] : Bs), 0), (5, ([57] : Bs), 0), (0, ([104] : Bs), 0), (1, ([97] : Bs), 0), (1, ([98] : Bs), 0), (2, ([109] : Bs), 0), (3, ([49] : Bs), 0)] : (List Ln))) (fun x1 x2 => .c2 (P19o N ([(0, ([97, 112, 112, 108, 121] : Bs), 0), (1, ([103] : Bs), 0), (0, ([103, 114, 111, 117, 112, 115] : Bs), 0), (1, ([103] : Bs), 0), (2, ([104] : Bs), 0), (3, ([42] : Bs), 0), (4, ([109] : Bs), 0), (5, ([57] : Bs), 0), (0, ([104] : Bs), 0), (1, ([97] : Bs), 0), (1, ([98] : Bs), 0), (2, ([109] : Bs), 0), (3, ([49] : Bs), 0)] : (List Ln)) ([103] : Bs)) (fun x3 x4 => .c2 (P26 N x1 ([([104] : Bs), ([97] : Bs), ([109] : Bs), ([57] : Bs)] : (List Bs))) (fun x5 x6 => .c2 (P26 N x1 ([([104] : Bs), ([98] : Bs), ([109] : Bs), ([57] : Bs)] : (List Bs))) (fun x7 x8 => .c2 (P19o N ([(0, ([97, 112, 112, 108, 121] : Bs), 0), (1, ([103] : Bs), 0), (0, ([103, 114, 111, 117, 112, 115] : Bs), 0), (1, ([103] : Bs), 0), (2, ([104] : Bs), 0), (3, ([42] : Bs), 0), (4, ([109] : Bs), 0), (5, ([57] : Bs), 0), (0, ([104] : Bs), 0), (1, ([97] : Bs), 0), (1, ([98] : Bs), 0), (2, ([109] : Bs), 0), (3, ([49] : Bs), 0)] : (List Ln)) ([113] : Bs)) (fun x9 x10 => .br (x2 == 0) (.br ((x1.length : Int) == 7) (.br (x5 == 3) (.br x6 (.br (!x8) (.br ((x3.length : Int) == 2) (.br (x4 == 0) (.leaf (x10 == 3)) (.leaf false)) (.leaf false)) (.leaf false)) (.leaf false)) (.leaf false)) (.leaf false)) (.leaf false))))))
noncomputable def F11 (N : Nat)  : Option Bool := (V11 N ).eval
def t11 : List (Nat × List Nat × List (Nat × Sh)) := []
theorem P11 (N : Nat)  : ∀ r, F11 N  = some r → Spec Try.prog 11 [] (E11 r) := fun r h => Spec_of (fn := Try.f11) rfl rfl rfl rfl false (wpc_sound (tbl := t11) (μ := [33, 50]) mixed _ _ _ (by
  have h1 := Vt.sound _ h
  refine Eq.mp ?_ h1
  kernel_rfl))

/-! ferryslip/ferryslipref03.Right -/
def E14 : Bool → D := fun x => encV tB x
abbrev l14_4 : List (Nat × Sh) := [(0, .val (.list tLn)), (3, .val tI)]
noncomputable def b14_4 : Code := loopBody 4 (bodyOf Try.f14)
noncomputable def U14_4 (N : Nat) (s0 : (List Ln)) (s3 : Int) : Vt (Lp (shTy l14_4).I Bool) (O3 (Option D)) (encO 118 l14_4 [0] (fun q => some (E14 q))) :=
  .br (decide (s3 < (s0.length : Int))) (.ck (inR s3 s0.length) (.br (decide (((atI tLn s0 s3).1) < 0)) (.leaf (.ret false)) (.br (decide ((15 : Int) < ((atI tLn s0 s3).1))) (.leaf (.ret false)) (.br (decide ((40 : Int) < (((atI tLn s0 s3).2.1).length : Int))) (.leaf (.ret false)) (.br (decide (((atI tLn s0 s3).2.2) < 0)) (.leaf (.ret false)) (.br (decide ((3 : Int) < ((atI tLn s0 s3).2.2))) (.leaf (.ret false)) (.br (s3 == 0) (.br (((atI tLn s0 s3).1) != 0) (.leaf (.ret false)) (.br (decide ((0 : Int) < s3)) (.ck (inR (IntKind.i64.wrap (s3 - 1)) s0.length) (.br (decide ((IntKind.i64.wrap (((atI tLn s0 (IntKind.i64.wrap (s3 - 1))).1) + 1)) < ((atI tLn s0 s3).1))) (.leaf (.ret false)) (.leaf (.next (s0, (IntKind.i64.wrap (s3 + 1))))))) (.leaf (.next (s0, (IntKind.i64.wrap (s3 + 1))))))) (.br (decide ((0 : Int) < s3)) (.ck (inR (IntKind.i64.wrap (s3 - 1)) s0.length) (.br (decide ((IntKind.i64.wrap (((atI tLn s0 (IntKind.i64.wrap (s3 - 1))).1) + 1)) < ((atI tLn s0 s3).1))) (.leaf (.ret false)) (.leaf (.next (s0, (IntKind.i64.wrap (s3 + 1))))))) (.leaf (.next (s0, (IntKind.i64.wrap (s3 + 1))))))))))))) (.leaf (.brk 0 (s0, s3)))
noncomputable def L14_4 (N : Nat) (s0 : (List Ln)) (s3 : Int) : Option (Lp ((List Ln) × Int) Bool) := (U14_4 N s0 s3).eval
noncomputable def W14_4 (N : Nat) (x : ((List Ln) × Int)) : Option (Lp ((List Ln) × Int) Bool) := runLoop (fun x => L14_4 N x.1 x.2) N x
theorem WS14_4 (N : Nat) (x : (shTy l14_4).I) : ∀ o, W14_4 N x = some o → S Try.prog (.loop b14_4) (buildSt 118 l14_4 x) (stepZ (rdD Try.prog Try.f14 false) l14_4 (encO 118 l14_4 [0] (fun q => some (E14 q)) o)) :=
  fun o h => loop_S (l := l14_4) (step := fun x => L14_4 N x.1 x.2) (fun x o h => wpc_sound (tbl := []) (μ := []) mixed _ _ _ (by
    have h1 := Vt.sound _ h
    refine Eq.mp ?_ h1
    kernel_rfl)) N x o h
abbrev l14_15 : List (Nat × Sh) := [(0, .val (.list tLn)), (5, .val tI), (6, .val tI)]
noncomputable def b14_15 : Code := loopBody 15 (bodyOf Try.f14)
noncomputable def U14_15 (N : Nat) (s0 : (List Ln)) (s5 : Int) (s6 : Int) : Vt (Lp (shTy l14_15).I Bool) (O3 (Option D)) (encO 118 l14_15 [4] (fun q => some (E14 q))) :=
  .br (decide (s6 < (s0.length : Int))) (.ck (inR s6 s0.length) (.ck (inR s5 s0.length) (.br (decide (((atI tLn s0 s5).1) ≤ ((atI tLn s0 s6).1))) (.ck (inR s6 s0.length) (.ck (inR s5 s0.length) (.br (((atI tLn s0 s6).1) == ((atI tLn s0 s5).1)) (.ck (inR s6 s0.length) (.ck (inR s5 s0.length) (.br ((Op.bytesLess ((atI tLn s0 s6).2.1) ((atI tLn s0 s5).2.1)) || (((atI tLn s0 s6).2.1) == ((atI tLn s0 s5).2.1))) (.leaf (.ret false)) (.leaf (.next (s0, s5, (IntKind.i64.wrap (s6 + 1)))))))) (.leaf (.next (s0, s5, (IntKind.i64.wrap (s6 + 1)))))))) (.leaf (.brk 0 (s0, s5, s6)))))) (.leaf (.brk 0 (s0, s5, s6)))
noncomputable def L14_15 (N : Nat) (s0 : (List Ln)) (s5 : Int) (s6 : Int) : Option (Lp ((List Ln) × Int × Int) Bool) := (U14_15 N s0 s5 s6).eval
noncomputable def W14_15 (N : Nat) (x : ((List Ln) × Int × Int)) : Option (Lp ((List Ln) × Int × Int) Bool) := runLoop (fun x => L14_15 N x.1 x.2.1 x.2.2) N x
theorem WS14_15 (N : Nat) (x : (shTy l14_15).I) : ∀ o, W14_15 N x = some o → S Try.prog (.loop b14_15) (buildSt 118 l14_15 x) (stepZ (rdD Try.prog Try.f14 false) l14_15 (encO 118 l14_15 [4] (fun q => some (E14 q)) o)) :=
  fun o h => loop_S (l := l14_15) (step := fun x => L14_15 N x.1 x.2.1 x.2.2) (fun x o h => wpc_sound (tbl := [(4, [0], l14_4)]) (μ := []) mixed _ _ _ (by
    have h1 := Vt.sound _ h
    refine Eq.mp ?_ h1
    kernel_rfl)) N x o h
abbrev l14_12 : List (Nat × Sh) := [(0, .val (.list tLn)), (5, .val tI)]
noncomputable def b14_12 : Code := loopBody 12 (bodyOf Try.f14)
noncomputable def U14_12 (N : Nat) (s0 : (List Ln)) (s5 : Int) : Vt (Lp (shTy l14_12).I Bool) (O3 (Option D)) (encO 118 l14_12 [2] (fun q => some (E14 q))) :=
  .br (decide (s5 < (s0.length : Int))) (.g1 (l := l14_15) (o := W14_15 N (s0, s5, (IntKind.i64.wrap (s5 + 1)))) (WS14_15 N (s0, s5, (IntKind.i64.wrap (s5 + 1)))) (fun x1 => .leaf (.next (x1.1, (IntKind.i64.wrap (x1.2.1 + 1)))))) (.leaf (.brk 0 (s0, s5)))
noncomputable def L14_12 (N : Nat) (s0 : (List Ln)) (s5 : Int) : Option (Lp ((List Ln) × Int) Bool) := (U14_12 N s0 s5).eval
noncomputable def W14_12 (N : Nat) (x : ((List Ln) × Int)) : Option (Lp ((List Ln) × Int) Bool) := runLoop (fun x => L14_12 N x.1 x.2) N x
theorem WS14_12 (N : Nat) (x : (shTy l14_12).I) : ∀ o, W14_12 N x = some o → S Try.prog (.loop b14_12) (buildSt 118 l14_12 x) (stepZ (rdD Try.prog Try.f14 false) l14_12 (encO 118 l14_12 [2] (fun q => some (E14 q)) o)) :=
  fun o h => loop_S (l := l14_12) (step := fun x => L14_12 N x.1 x.2) (fun x o h => wpc_sound (tbl := [(4, [0], l14_4), (15, [4], l14_15)]) (μ := []) mixed _ _ _ (by
    have h1 := Vt.sound _ h
    refine Eq.mp ?_ h1
    kernel_rfl)) N x o h
noncomputable def V14 (N : Nat) (a0 : (List Ln)) : Vt Bool (Option D) (fun q => some (E14 q)) :=
  .br (decide ((200 : Int) < (a0.length : Int))) (.leaf false) (.f1 (l := l14_4) (o := W14_4 N (a0, 0)) (WS14_4 N (a0, 0)) (fun x1 => .f1 (l := l14_12) (o := W14_12 N (x1.1, 0)) (WS14_12 N (x1.1, 0)) (fun x2 => .leaf true)))
noncomputable def F14 (N : Nat) (a0 : (List Ln)) : Option Bool := (V14 N a0).eval
def t14 : List (Nat × List Nat × List (Nat × Sh)) := [(4, [0], l14_4), (15, [4], l14_15), (12, [2], l14_12)]
theorem P14 (N : Nat) (a0 : (List Ln)) : ∀ r, F14 N a0 = some r → Spec Try.prog 14 [.val (.list tLn) a0] (E14 r) := fun r h => Spec_of (fn := Try.f14) rfl rfl rfl rfl false (wpc_sound (tbl := t14) (μ := []) mixed _ _ _ (by
  have h1 := Vt.sound _ h
  refine Eq.mp ?_ h1
  kernel_rfl))

/-! ferryslip/ferryslipref03.Same -/
def E15 : Bool → D := fun x => encV tB x
abbrev l15_4 : List (Nat × Sh) := [(0, .val (.list tLn)), (1, .val (.list tLn)), (5, .val tI)]
noncomputable def b15_4 : Code := loopBody 4 (bodyOf Try.f15)
noncomputable def U15_4 (N : Nat) (s0 : (List Ln)) (s1 : (List Ln)) (s5 : Int) : Vt (Lp (shTy l15_4).I Bool) (O3 (Option D)) (encO 26 l15_4 [0] (fun q => some (E15 q))) :=
  .br (decide (s5 < (s0.length : Int))) (.ck (inR s5 s0.length) (.ck (inR s5 s1.length) (.br (!((((atI tLn s0 s5).1) == ((atI tLn s1 s5).1)) && ((((atI tLn s0 s5).2.1) == ((atI tLn s1 s5).2.1)) && ((((atI tLn s0 s5).2.2) == ((atI tLn s1 s5).2.2)) && true)))) (.leaf (.ret false)) (.leaf (.next (s0, s1, (IntKind.i64.wrap (s5 + 1)))))))) (.leaf (.brk 0 (s0, s1, s5)))
noncomputable def L15_4 (N : Nat) (s0 : (List Ln)) (s1 : (List Ln)) (s5 : Int) : Option (Lp ((List Ln) × (List Ln) × Int) Bool) := (U15_4 N s0 s1 s5).eval
noncomputable def W15_4 (N : Nat) (x : ((List Ln) × (List Ln) × Int)) : Option (Lp ((List Ln) × (List Ln) × Int) Bool) := runLoop (fun x => L15_4 N x.1 x.2.1 x.2.2) N x
theorem WS15_4 (N : Nat) (x : (shTy l15_4).I) : ∀ o, W15_4 N x = some o → S Try.prog (.loop b15_4) (buildSt 26 l15_4 x) (stepZ (rdD Try.prog Try.f15 false) l15_4 (encO 26 l15_4 [0] (fun q => some (E15 q)) o)) :=
  fun o h => loop_S (l := l15_4) (step := fun x => L15_4 N x.1 x.2.1 x.2.2) (fun x o h => wpc_sound (tbl := []) (μ := []) mixed _ _ _ (by
    have h1 := Vt.sound _ h
    refine Eq.mp ?_ h1
    kernel_rfl)) N x o h
noncomputable def V15 (N : Nat) (a0 : (List Ln)) (a1 : (List Ln)) : Vt Bool (Option D) (fun q => some (E15 q)) :=
  .br ((a0.length : Int) != (a1.length : Int)) (.leaf false) (.f1 (l := l15_4) (o := W15_4 N (a0, a1, 0)) (WS15_4 N (a0, a1, 0)) (fun x1 => .leaf true))
noncomputable def F15 (N : Nat) (a0 : (List Ln)) (a1 : (List Ln)) : Option Bool := (V15 N a0 a1).eval
def t15 : List (Nat × List Nat × List (Nat × Sh)) := [(4, [0], l15_4)]
theorem P15 (N : Nat) (a0 : (List Ln)) (a1 : (List Ln)) : ∀ r, F15 N a0 a1 = some r → Spec Try.prog 15 [.val (.list tLn) a0, .val (.list tLn) a1] (E15 r) := fun r h => Spec_of (fn := Try.f15) rfl rfl rfl rfl false (wpc_sound (tbl := t15) (μ := []) mixed _ _ _ (by
  have h1 := Vt.sound _ h
  refine Eq.mp ?_ h1
  kernel_rfl))

/-! ferryslip/ferryslipref03.Under -/
def E37 : Int → D := fun x => encV tI x
abbrev l37_3 : List (Nat × Sh) := [(0, .val (.list tLn)), (1, .val tI), (5, .val tI), (6, .val tI)]
noncomputable def b37_3 : Code := loopBody 3 (bodyOf Try.f37)
noncomputable def U37_3 (N : Nat) (s0 : (List Ln)) (s1 : Int) (s5 : Int) (s6 : Int) : Vt (Lp (shTy l37_3).I Int) (O3 (Option D)) (encO 25 l37_3 [0] (fun q => some (E37 q))) :=
  .br (decide (s6 < s1)) (.ck (inR s6 s0.length) (.ck (inR s1 s0.length) (.br (decide (((atI tLn s0 s6).1) < ((atI tLn s0 s1).1))) (.leaf (.next (s0, s1, s6, (IntKind.i64.wrap (s6 + 1))))) (.leaf (.next (s0, s1, s5, (IntKind.i64.wrap (s6 + 1)))))))) (.leaf (.brk 0 (s0, s1, s5, s6)))
noncomputable def L37_3 (N : Nat) (s0 : (List Ln)) (s1 : Int) (s5 : Int) (s6 : Int) : Option (Lp ((List Ln) × Int × Int × Int) Int) := (U37_3 N s0 s1 s5 s6).eval
noncomputable def W37_3 (N : Nat) (x : ((List Ln) × Int × Int × Int)) : Option (Lp ((List Ln) × Int × Int × Int) Int) := runLoop (fun x => L37_3 N x.1 x.2.1 x.2.2.1 x.2.2.2) N x
theorem WS37_3 (N : Nat) (x : (shTy l37_3).I) : ∀ o, W37_3 N x = some o → S Try.prog (.loop b37_3) (buildSt 25 l37_3 x) (stepZ (rdD Try.prog Try.f37 false) l37_3 (encO 25 l37_3 [0] (fun q => some (E37 q)) o)) :=
  fun o h => loop_S (l := l37_3) (step := fun x => L37_3 N x.1 x.2.1 x.2.2.1 x.2.2.2) (fun x o h => wpc_sound (tbl := []) (μ := []) mixed _ _ _ (by
    have h1 := Vt.sound _ h
    refine Eq.mp ?_ h1
    kernel_rfl)) N x o h
noncomputable def V37 (N : Nat) (a0 : (List Ln)) (a1 : Int) : Vt Int (Option D) (fun q => some (E37 q)) :=
  .f1 (l := l37_3) (o := W37_3 N (a0, a1, (-1), 0)) (WS37_3 N (a0, a1, (-1), 0)) (fun x1 => .leaf x1.2.2.1)
noncomputable def F37 (N : Nat) (a0 : (List Ln)) (a1 : Int) : Option Int := (V37 N a0 a1).eval
def t37 : List (Nat × List Nat × List (Nat × Sh)) := [(3, [0], l37_3)]
theorem P37 (N : Nat) (a0 : (List Ln)) (a1 : Int) : ∀ r, F37 N a0 a1 = some r → Spec Try.prog 37 [.val (.list tLn) a0, .val tI a1] (E37 r) := fun r h => Spec_of (fn := Try.f37) rfl rfl rfl rfl false (wpc_sound (tbl := t37) (μ := []) mixed _ _ _ (by
  have h1 := Vt.sound _ h
  refine Eq.mp ?_ h1
  kernel_rfl))

/-! ferryslip/ferryslipref12.Active -/
def E16o : (List Ln) → D := fun x => .own 40 tLn x
abbrev l16o_7 : List (Nat × Sh) := [(0, .val (.list tLn)), (3, .row false 44 40 tLn), (4, .val tI), (5, .val tB), (6, .val tI)]
noncomputable def b16o_7 : Code := loopBody 7 (bodyOf Try.f16)
noncomputable def U16o_7 (N : Nat) (s0 : (List Ln)) (s3 : (List Ln)) (s4 : Int) (s5 : Bool) (s6 : Int) : Vt (Lp (shTy l16o_7).I (List Ln)) (O3 (Option D)) (encO 46 l16o_7 [2] (fun q => some (E16o q))) :=
  .br (decide ((0 : Int) ≤ s6)) (.br s5 (.c1 (P37 N s0 s6) (fun x1 => .leaf (.next (s0, s3, s4, true, x1)))) (.ck (inR s6 s0.length) (.ck ((2 : Int) ≠ 0) (.c1 (P37 N s0 s6) (fun x2 => .leaf (.next (s0, s3, s4, ((((atI tLn s0 s6).2.2).tmod 2) == 1), x2))))))) (.leaf (.brk 0 (s0, s3, s4, s5, s6)))
noncomputable def L16o_7 (N : Nat) (s0 : (List Ln)) (s3 : (List Ln)) (s4 : Int) (s5 : Bool) (s6 : Int) : Option (Lp ((List Ln) × (List Ln) × Int × Bool × Int) (List Ln)) := (U16o_7 N s0 s3 s4 s5 s6).eval
noncomputable def W16o_7 (N : Nat) (x : ((List Ln) × (List Ln) × Int × Bool × Int)) : Option (Lp ((List Ln) × (List Ln) × Int × Bool × Int) (List Ln)) := runLoop (fun x => L16o_7 N x.1 x.2.1 x.2.2.1 x.2.2.2.1 x.2.2.2.2) N x
theorem WS16o_7 (N : Nat) (x : (shTy l16o_7).I) : ∀ o, W16o_7 N x = some o → S Try.prog (.loop b16o_7) (buildSt 46 l16o_7 x) (stepZ (rdD Try.prog Try.f16 true) l16o_7 (encO 46 l16o_7 [2] (fun q => some (E16o q)) o)) :=
  fun o h => loop_S (l := l16o_7) (step := fun x => L16o_7 N x.1 x.2.1 x.2.2.1 x.2.2.2.1 x.2.2.2.2) (fun x o h => wpc_sound (tbl := []) (μ := []) mixed _ _ _ (by
    have h1 := Vt.sound _ h
    refine Eq.mp ?_ h1
    kernel_rfl)) N x o h
abbrev l16o_3 : List (Nat × Sh) := [(0, .val (.list tLn)), (3, .row false 44 40 tLn), (4, .val tI)]
noncomputable def b16o_3 : Code := loopBody 3 (bodyOf Try.f16)
noncomputable def U16o_3 (N : Nat) (s0 : (List Ln)) (s3 : (List Ln)) (s4 : Int) : Vt (Lp (shTy l16o_3).I (List Ln)) (O3 (Option D)) (encO 46 l16o_3 [0] (fun q => some (E16o q))) :=
  .br (decide (s4 < (s0.length : Int))) (.g1 (l := l16o_7) (o := W16o_7 N (s0, s3, s4, false, s4)) (WS16o_7 N (s0, s3, s4, false, s4)) (fun x1 => .br (!x1.2.2.2.1) (.ck (inR x1.2.2.1 x1.1.length) (.ck (inR x1.2.2.1 x1.1.length) (.ck (room (x1.2.1.length + ([((atI tLn x1.1 x1.2.2.1).1, (atI tLn x1.1 x1.2.2.1).2.1, 0)] : (List Ln)).length)) (.leaf (.next (x1.1, (x1.2.1 ++ ([((atI tLn x1.1 x1.2.2.1).1, (atI tLn x1.1 x1.2.2.1).2.1, 0)] : (List Ln))), (IntKind.i64.wrap (x1.2.2.1 + 1)))))))) (.leaf (.next (x1.1, x1.2.1, (IntKind.i64.wrap (x1.2.2.1 + 1))))))) (.leaf (.brk 0 (s0, s3, s4)))
noncomputable def L16o_3 (N : Nat) (s0 : (List Ln)) (s3 : (List Ln)) (s4 : Int) : Option (Lp ((List Ln) × (List Ln) × Int) (List Ln)) := (U16o_3 N s0 s3 s4).eval
noncomputable def W16o_3 (N : Nat) (x : ((List Ln) × (List Ln) × Int)) : Option (Lp ((List Ln) × (List Ln) × Int) (List Ln)) := runLoop (fun x => L16o_3 N x.1 x.2.1 x.2.2) N x
theorem WS16o_3 (N : Nat) (x : (shTy l16o_3).I) : ∀ o, W16o_3 N x = some o → S Try.prog (.loop b16o_3) (buildSt 46 l16o_3 x) (stepZ (rdD Try.prog Try.f16 true) l16o_3 (encO 46 l16o_3 [0] (fun q => some (E16o q)) o)) :=
  fun o h => loop_S (l := l16o_3) (step := fun x => L16o_3 N x.1 x.2.1 x.2.2) (fun x o h => wpc_sound (tbl := [(7, [2], l16o_7)]) (μ := []) mixed _ _ _ (by
    have h1 := Vt.sound _ h
    refine Eq.mp ?_ h1
    kernel_rfl)) N x o h
noncomputable def V16o (N : Nat) (a0 : (List Ln)) : Vt (List Ln) (Option D) (fun q => some (E16o q)) :=
  .f1 (l := l16o_3) (o := W16o_3 N (a0, ([] : (List Ln)), 0)) (WS16o_3 N (a0, ([] : (List Ln)), 0)) (fun x2 => .leaf x2.2.1)
noncomputable def F16o (N : Nat) (a0 : (List Ln)) : Option (List Ln) := (V16o N a0).eval
def t16o : List (Nat × List Nat × List (Nat × Sh)) := [(7, [2], l16o_7), (3, [0], l16o_3)]
theorem P16o (N : Nat) (a0 : (List Ln)) : ∀ r, F16o N a0 = some r → Spec Try.prog 16 [.val (.list tLn) a0] (E16o r) := fun r h => Spec_of (fn := Try.f16) rfl rfl rfl rfl true (wpc_sound (tbl := t16o) (μ := []) mixed _ _ _ (by
  have h1 := Vt.sound _ h
  refine Eq.mp ?_ h1
  kernel_rfl))

/-! ferryslip/ferryslipref03.Path -/
def E29 : (List Bs) → D := fun x => encV (.list tS) x
abbrev l29_2 : List (Nat × Sh) := [(0, .val (.list tLn)), (1, .val tI), (5, .val (.list tS))]
noncomputable def b29_2 : Code := loopBody 2 (bodyOf Try.f29)
noncomputable def U29_2 (N : Nat) (s0 : (List Ln)) (s1 : Int) (s5 : (List Bs)) : Vt (Lp (shTy l29_2).I (List Bs)) (O3 (Option D)) (encO 24 l29_2 [0] (fun q => some (E29 q))) :=
  .br (decide ((0 : Int) ≤ s1)) (.ck (inR s1 s0.length) (.ck (room ([(atI tLn s0 s1).2.1] : (List Bs)).length) (.ck (room (([(atI tLn s0 s1).2.1] : (List Bs)).length + s5.length)) (.c1 (P37 N s0 s1) (fun x1 => .leaf (.next (s0, x1, (([(atI tLn s0 s1).2.1] : (List Bs)) ++ s5)))))))) (.leaf (.brk 0 (s0, s1, s5)))
noncomputable def L29_2 (N : Nat) (s0 : (List Ln)) (s1 : Int) (s5 : (List Bs)) : Option (Lp ((List Ln) × Int × (List Bs)) (List Bs)) := (U29_2 N s0 s1 s5).eval
noncomputable def W29_2 (N : Nat) (x : ((List Ln) × Int × (List Bs))) : Option (Lp ((List Ln) × Int × (List Bs)) (List Bs)) := runLoop (fun x => L29_2 N x.1 x.2.1 x.2.2) N x
theorem WS29_2 (N : Nat) (x : (shTy l29_2).I) : ∀ o, W29_2 N x = some o → S Try.prog (.loop b29_2) (buildSt 24 l29_2 x) (stepZ (rdD Try.prog Try.f29 false) l29_2 (encO 24 l29_2 [0] (fun q => some (E29 q)) o)) :=
  fun o h => loop_S (l := l29_2) (step := fun x => L29_2 N x.1 x.2.1 x.2.2) (fun x o h => wpc_sound (tbl := []) (μ := []) mixed _ _ _ (by
    have h1 := Vt.sound _ h
    refine Eq.mp ?_ h1
    kernel_rfl)) N x o h
noncomputable def V29 (N : Nat) (a0 : (List Ln)) (a1 : Int) : Vt (List Bs) (Option D) (fun q => some (E29 q)) :=
  .f1 (l := l29_2) (o := W29_2 N (a0, a1, ([] : (List Bs)))) (WS29_2 N (a0, a1, ([] : (List Bs)))) (fun x2 => .leaf x2.2.2)
noncomputable def F29 (N : Nat) (a0 : (List Ln)) (a1 : Int) : Option (List Bs) := (V29 N a0 a1).eval
def t29 : List (Nat × List Nat × List (Nat × Sh)) := [(2, [0], l29_2)]
theorem P29 (N : Nat) (a0 : (List Ln)) (a1 : Int) : ∀ r, F29 N a0 a1 = some r → Spec Try.prog 29 [.val (.list tLn) a0, .val tI a1] (E29 r) := fun r h => Spec_of (fn := Try.f29) rfl rfl rfl rfl false (wpc_sound (tbl := t29) (μ := []) mixed _ _ _ (by
  have h1 := Vt.sound _ h
  refine Eq.mp ?_ h1
  kernel_rfl))

/-! ferryslip/ferryslipref12.Explicit -/
def E17o : (List Ln) → D := fun x => .own 40 tLn x
abbrev l17o_4 : List (Nat × Sh) := [(3, .val (.list tLn)), (4, .row false 32 40 tLn), (5, .val tI)]
noncomputable def b17o_4 : Code := loopBody 4 (bodyOf Try.f17)
noncomputable def U17o_4 (N : Nat) (s3 : (List Ln)) (s4 : (List Ln)) (s5 : Int) : Vt (Lp (shTy l17o_4).I (List Ln)) (O3 (Option D)) (encO 34 l17o_4 [0] (fun q => some (E17o q))) :=
  .br (decide (s5 < (s3.length : Int))) (.c1 (P29 N s3 s5) (fun x1 => .ck (inR 0 x1.length) (.br (!((atI tS x1 0) == ([103, 114, 111, 117, 112, 115] : Bs))) (.br (!((atI tS x1 0) == ([97, 112, 112, 108, 121] : Bs))) (.ck (inR s5 s3.length) (.ck (room (s4.length + ([(atI tLn s3 s5)] : (List Ln)).length)) (.leaf (.next (s3, (s4 ++ ([(atI tLn s3 s5)] : (List Ln))), (IntKind.i64.wrap (s5 + 1))))))) (.leaf (.next (s3, s4, (IntKind.i64.wrap (s5 + 1)))))) (.leaf (.next (s3, s4, (IntKind.i64.wrap (s5 + 1)))))))) (.leaf (.brk 0 (s3, s4, s5)))
noncomputable def L17o_4 (N : Nat) (s3 : (List Ln)) (s4 : (List Ln)) (s5 : Int) : Option (Lp ((List Ln) × (List Ln) × Int) (List Ln)) := (U17o_4 N s3 s4 s5).eval
noncomputable def W17o_4 (N : Nat) (x : ((List Ln) × (List Ln) × Int)) : Option (Lp ((List Ln) × (List Ln) × Int) (List Ln)) := runLoop (fun x => L17o_4 N x.1 x.2.1 x.2.2) N x
theorem WS17o_4 (N : Nat) (x : (shTy l17o_4).I) : ∀ o, W17o_4 N x = some o → S Try.prog (.loop b17o_4) (buildSt 34 l17o_4 x) (stepZ (rdD Try.prog Try.f17 true) l17o_4 (encO 34 l17o_4 [0] (fun q => some (E17o q)) o)) :=
  fun o h => loop_S (l := l17o_4) (step := fun x => L17o_4 N x.1 x.2.1 x.2.2) (fun x o h => wpc_sound (tbl := []) (μ := [8]) mixed _ _ _ (by
    have h1 := Vt.sound _ h
    refine Eq.mp ?_ h1
    kernel_rfl)) N x o h
noncomputable def V17o (N : Nat) (a0 : (List Ln)) : Vt (List Ln) (Option D) (fun q => some (E17o q)) :=
  .c1 (P16o N a0) (fun x1 => .f1 (l := l17o_4) (o := W17o_4 N (x1, ([] : (List Ln)), 0)) (WS17o_4 N (x1, ([] : (List Ln)), 0)) (fun x2 => .leaf x2.2.1))
noncomputable def F17o (N : Nat) (a0 : (List Ln)) : Option (List Ln) := (V17o N a0).eval
def t17o : List (Nat × List Nat × List (Nat × Sh)) := [(4, [0], l17o_4)]
theorem P17o (N : Nat) (a0 : (List Ln)) : ∀ r, F17o N a0 = some r → Spec Try.prog 17 [.val (.list tLn) a0] (E17o r) := fun r h => Spec_of (fn := Try.f17) rfl rfl rfl rfl true (wpc_sound (tbl := t17o) (μ := [8]) mixed _ _ _ (by
  have h1 := Vt.sound _ h
  refine Eq.mp ?_ h1
  kernel_rfl))

/-! ferryslip/ferrysliplaw12.GroupsActive -/
def E3 : Bool → D := fun x => encV tB x
noncomputable def V3 (N : Nat) (a0 : (List Ln)) : Vt Bool (Option D) (fun q => some (E3 q)) :=
  .c1 (P10 N a0) (fun x1 => .br (!x1) (.c1 (P11 N) (fun x2 => .leaf x2)) (.c2 (P12o N a0) (fun x3 x4 => .c2 (P13o N a0) (fun x5 x6 => .c1 (P14 N a0) (fun x7 => .br (!x7) (.br ((x3.length : Int) == 0) (.br (x4 == 1) (.br ((x5.length : Int) == 0) (.br (x6 == 1) (.c1 (P11 N) (fun x8 => .leaf x8)) (.leaf false)) (.leaf false)) (.leaf false)) (.leaf false)) (.br (x4 == 0) (.br (x6 == 0) (.c1 (P16o N a0) (fun x9 => .c1 (P15 N x3 x9) (fun x10 => .br x10 (.c1 (P17o N a0) (fun x11 => .c1 (P15 N x5 x11) (fun x12 => .br x12 (.c1 (P11 N) (fun x13 => .leaf x13)) (.leaf false)))) (.leaf false)))) (.leaf false)) (.leaf false)))))))
noncomputable def F3 (N : Nat) (a0 : (List Ln)) : Option Bool := (V3 N a0).eval
def t3 : List (Nat × List Nat × List (Nat × Sh)) := []
theorem P3 (N : Nat) (a0 : (List Ln)) : ∀ r, F3 N a0 = some r → Spec Try.prog 3 [.val (.list tLn) a0] (E3 r) := fun r h => Spec_of (fn := Try.f3) rfl rfl rfl rfl false (wpc_sound (tbl := t3) (μ := [13, 18, 52, 58]) mixed _ _ _ (by
  have h1 := Vt.sound _ h
  refine Eq.mp ?_ h1
  kernel_rfl))

/-! ferryslip/ferrysliplaw12.brief -/
def E20 : Bool → D := fun x => encV tB x
abbrev l20_6 : List (Nat × Sh) := [(0, .val (.list tLn)), (4, .val tI), (5, .val tI), (7, .val tI), (8, .val tI)]
noncomputable def b20_6 : Code := loopBody 6 (bodyOf Try.f20)
noncomputable def U20_6 (N : Nat) (s0 : (List Ln)) (s4 : Int) (s5 : Int) (s7 : Int) (s8 : Int) : Vt (Lp (shTy l20_6).I Bool) (O3 (Option D)) (encO 28 l20_6 [2] (fun q => some (E20 q))) :=
  .br (decide ((0 : Int) ≤ s5)) (.ck (inR s5 s0.length) (.br (((atI tLn s0 s5).2.1) == ([42] : Bs)) (.c1 (P37 N s0 s5) (fun x1 => .leaf (.next (s0, (IntKind.i64.wrap (s4 + 1)), x1, s7, s8)))) (.c1 (P37 N s0 s5) (fun x2 => .leaf (.next (s0, s4, x2, s7, s8)))))) (.leaf (.brk 0 (s0, s4, s5, s7, s8)))
noncomputable def L20_6 (N : Nat) (s0 : (List Ln)) (s4 : Int) (s5 : Int) (s7 : Int) (s8 : Int) : Option (Lp ((List Ln) × Int × Int × Int × Int) Bool) := (U20_6 N s0 s4 s5 s7 s8).eval
noncomputable def W20_6 (N : Nat) (x : ((List Ln) × Int × Int × Int × Int)) : Option (Lp ((List Ln) × Int × Int × Int × Int) Bool) := runLoop (fun x => L20_6 N x.1 x.2.1 x.2.2.1 x.2.2.2.1 x.2.2.2.2) N x
theorem WS20_6 (N : Nat) (x : (shTy l20_6).I) : ∀ o, W20_6 N x = some o → S Try.prog (.loop b20_6) (buildSt 28 l20_6 x) (stepZ (rdD Try.prog Try.f20 false) l20_6 (encO 28 l20_6 [2] (fun q => some (E20 q)) o)) :=
  fun o h => loop_S (l := l20_6) (step := fun x => L20_6 N x.1 x.2.1 x.2.2.1 x.2.2.2.1 x.2.2.2.2) (fun x o h => wpc_sound (tbl := []) (μ := []) mixed _ _ _ (by
    have h1 := Vt.sound _ h
    refine Eq.mp ?_ h1
    kernel_rfl)) N x o h
abbrev l20_2 : List (Nat × Sh) := [(0, .val (.list tLn)), (7, .val tI), (8, .val tI)]
noncomputable def b20_2 : Code := loopBody 2 (bodyOf Try.f20)
noncomputable def U20_2 (N : Nat) (s0 : (List Ln)) (s7 : Int) (s8 : Int) : Vt (Lp (shTy l20_2).I Bool) (O3 (Option D)) (encO 28 l20_2 [0] (fun q => some (E20 q))) :=
  .br (decide (s8 < s7)) (.g1 (l := l20_6) (o := W20_6 N (s0, 0, s8, s7, s8)) (WS20_6 N (s0, 0, s8, s7, s8)) (fun x1 => .br (decide ((2 : Int) < x1.2.1)) (.leaf (.ret false)) (.leaf (.next (x1.1, x1.2.2.2.1, (IntKind.i64.wrap (x1.2.2.2.2 + 1))))))) (.leaf (.brk 0 (s0, s7, s8)))
noncomputable def L20_2 (N : Nat) (s0 : (List Ln)) (s7 : Int) (s8 : Int) : Option (Lp ((List Ln) × Int × Int) Bool) := (U20_2 N s0 s7 s8).eval
noncomputable def W20_2 (N : Nat) (x : ((List Ln) × Int × Int)) : Option (Lp ((List Ln) × Int × Int) Bool) := runLoop (fun x => L20_2 N x.1 x.2.1 x.2.2) N x
theorem WS20_2 (N : Nat) (x : (shTy l20_2).I) : ∀ o, W20_2 N x = some o → S Try.prog (.loop b20_2) (buildSt 28 l20_2 x) (stepZ (rdD Try.prog Try.f20 false) l20_2 (encO 28 l20_2 [0] (fun q => some (E20 q)) o)) :=
  fun o h => loop_S (l := l20_2) (step := fun x => L20_2 N x.1 x.2.1 x.2.2) (fun x o h => wpc_sound (tbl := [(6, [2], l20_6)]) (μ := []) mixed _ _ _ (by
    have h1 := Vt.sound _ h
    refine Eq.mp ?_ h1
    kernel_rfl)) N x o h
noncomputable def V20 (N : Nat) (a0 : (List Ln)) : Vt Bool (Option D) (fun q => some (E20 q)) :=
  .f1 (l := l20_2) (o := W20_2 N (a0, (a0.length : Int), 0)) (WS20_2 N (a0, (a0.length : Int), 0)) (fun x1 => .leaf true)
noncomputable def F20 (N : Nat) (a0 : (List Ln)) : Option Bool := (V20 N a0).eval
def t20 : List (Nat × List Nat × List (Nat × Sh)) := [(6, [2], l20_6), (2, [0], l20_2)]
theorem P20 (N : Nat) (a0 : (List Ln)) : ∀ r, F20 N a0 = some r → Spec Try.prog 20 [.val (.list tLn) a0] (E20 r) := fun r h => Spec_of (fn := Try.f20) rfl rfl rfl rfl false (wpc_sound (tbl := t20) (μ := []) mixed _ _ _ (by
  have h1 := Vt.sound _ h
  refine Eq.mp ?_ h1
  kernel_rfl))

/-! ferryslip/ferryslipref03.Equal -/
def E28 : Bool → D := fun x => encV tB x
abbrev l28_4 : List (Nat × Sh) := [(0, .val (.list tS)), (1, .val (.list tS)), (5, .val tI)]
noncomputable def b28_4 : Code := loopBody 4 (bodyOf Try.f28)
noncomputable def U28_4 (N : Nat) (s0 : (List Bs)) (s1 : (List Bs)) (s5 : Int) : Vt (Lp (shTy l28_4).I Bool) (O3 (Option D)) (encO 26 l28_4 [0] (fun q => some (E28 q))) :=
  .br (decide (s5 < (s0.length : Int))) (.ck (inR s5 s0.length) (.ck (inR s5 s1.length) (.br (!((atI tS s0 s5) == (atI tS s1 s5))) (.leaf (.ret false)) (.leaf (.next (s0, s1, (IntKind.i64.wrap (s5 + 1)))))))) (.leaf (.brk 0 (s0, s1, s5)))
noncomputable def L28_4 (N : Nat) (s0 : (List Bs)) (s1 : (List Bs)) (s5 : Int) : Option (Lp ((List Bs) × (List Bs) × Int) Bool) := (U28_4 N s0 s1 s5).eval
noncomputable def W28_4 (N : Nat) (x : ((List Bs) × (List Bs) × Int)) : Option (Lp ((List Bs) × (List Bs) × Int) Bool) := runLoop (fun x => L28_4 N x.1 x.2.1 x.2.2) N x
theorem WS28_4 (N : Nat) (x : (shTy l28_4).I) : ∀ o, W28_4 N x = some o → S Try.prog (.loop b28_4) (buildSt 26 l28_4 x) (stepZ (rdD Try.prog Try.f28 false) l28_4 (encO 26 l28_4 [0] (fun q => some (E28 q)) o)) :=
  fun o h => loop_S (l := l28_4) (step := fun x => L28_4 N x.1 x.2.1 x.2.2) (fun x o h => wpc_sound (tbl := []) (μ := []) mixed _ _ _ (by
    have h1 := Vt.sound _ h
    refine Eq.mp ?_ h1
    kernel_rfl)) N x o h
noncomputable def V28 (N : Nat) (a0 : (List Bs)) (a1 : (List Bs)) : Vt Bool (Option D) (fun q => some (E28 q)) :=
  .br ((a0.length : Int) != (a1.length : Int)) (.leaf false) (.f1 (l := l28_4) (o := W28_4 N (a0, a1, 0)) (WS28_4 N (a0, a1, 0)) (fun x1 => .leaf true))
noncomputable def F28 (N : Nat) (a0 : (List Bs)) (a1 : (List Bs)) : Option Bool := (V28 N a0 a1).eval
def t28 : List (Nat × List Nat × List (Nat × Sh)) := [(4, [0], l28_4)]
theorem P28 (N : Nat) (a0 : (List Bs)) (a1 : (List Bs)) : ∀ r, F28 N a0 a1 = some r → Spec Try.prog 28 [.val (.list tS) a0, .val (.list tS) a1] (E28 r) := fun r h => Spec_of (fn := Try.f28) rfl rfl rfl rfl false (wpc_sound (tbl := t28) (μ := []) mixed _ _ _ (by
  have h1 := Vt.sound _ h
  refine Eq.mp ?_ h1
  kernel_rfl))

/-! ferryslip/ferryslipref03.Find -/
def E30 : Int → D := fun x => encV tI x
abbrev l30_2 : List (Nat × Sh) := [(0, .val (.list tLn)), (1, .val (.list tS)), (5, .val tI)]
noncomputable def b30_2 : Code := loopBody 2 (bodyOf Try.f30)
noncomputable def U30_2 (N : Nat) (s0 : (List Ln)) (s1 : (List Bs)) (s5 : Int) : Vt (Lp (shTy l30_2).I Int) (O3 (Option D)) (encO 29 l30_2 [0] (fun q => some (E30 q))) :=
  .br (decide (s5 < (s0.length : Int))) (.ck (inR s5 s0.length) (.br (((atI tLn s0 s5).1) == (IntKind.i64.wrap ((s1.length : Int) - 1))) (.c1 (P29 N s0 s5) (fun x1 => .c1 (P28 N x1 s1) (fun x2 => .br x2 (.leaf (.ret s5)) (.leaf (.next (s0, s1, (IntKind.i64.wrap (s5 + 1)))))))) (.leaf (.next (s0, s1, (IntKind.i64.wrap (s5 + 1))))))) (.leaf (.brk 0 (s0, s1, s5)))
noncomputable def L30_2 (N : Nat) (s0 : (List Ln)) (s1 : (List Bs)) (s5 : Int) : Option (Lp ((List Ln) × (List Bs) × Int) Int) := (U30_2 N s0 s1 s5).eval
noncomputable def W30_2 (N : Nat) (x : ((List Ln) × (List Bs) × Int)) : Option (Lp ((List Ln) × (List Bs) × Int) Int) := runLoop (fun x => L30_2 N x.1 x.2.1 x.2.2) N x
theorem WS30_2 (N : Nat) (x : (shTy l30_2).I) : ∀ o, W30_2 N x = some o → S Try.prog (.loop b30_2) (buildSt 29 l30_2 x) (stepZ (rdD Try.prog Try.f30 false) l30_2 (encO 29 l30_2 [0] (fun q => some (E30 q)) o)) :=
  fun o h => loop_S (l := l30_2) (step := fun x => L30_2 N x.1 x.2.1 x.2.2) (fun x o h => wpc_sound (tbl := []) (μ := []) mixed _ _ _ (by
    have h1 := Vt.sound _ h
    refine Eq.mp ?_ h1
    kernel_rfl)) N x o h
noncomputable def V30 (N : Nat) (a0 : (List Ln)) (a1 : (List Bs)) : Vt Int (Option D) (fun q => some (E30 q)) :=
  .f1 (l := l30_2) (o := W30_2 N (a0, a1, 0)) (WS30_2 N (a0, a1, 0)) (fun x1 => .leaf (-1))
noncomputable def F30 (N : Nat) (a0 : (List Ln)) (a1 : (List Bs)) : Option Int := (V30 N a0 a1).eval
def t30 : List (Nat × List Nat × List (Nat × Sh)) := [(2, [0], l30_2)]
theorem P30 (N : Nat) (a0 : (List Ln)) (a1 : (List Bs)) : ∀ r, F30 N a0 a1 = some r → Spec Try.prog 30 [.val (.list tLn) a0, .val (.list tS) a1] (E30 r) := fun r h => Spec_of (fn := Try.f30) rfl rfl rfl rfl false (wpc_sound (tbl := t30) (μ := []) mixed _ _ _ (by
  have h1 := Vt.sound _ h
  refine Eq.mp ?_ h1
  kernel_rfl))

/-! ferryslip/ferryslipref03.End -/
def E44 : Int → D := fun x => encV tI x
abbrev l44_2 : List (Nat × Sh) := [(0, .val (.list tLn)), (1, .val tI), (5, .val tI)]
noncomputable def b44_2 : Code := loopBody 2 (bodyOf Try.f44)
noncomputable def U44_2 (N : Nat) (s0 : (List Ln)) (s1 : Int) (s5 : Int) : Vt (Lp (shTy l44_2).I Int) (O3 (Option D)) (encO 28 l44_2 [0] (fun q => some (E44 q))) :=
  .br (decide (s5 < (s0.length : Int))) (.ck (inR s5 s0.length) (.ck (inR s1 s0.length) (.br (decide (((atI tLn s0 s5).1) ≤ ((atI tLn s0 s1).1))) (.leaf (.ret s5)) (.leaf (.next (s0, s1, (IntKind.i64.wrap (s5 + 1)))))))) (.leaf (.brk 0 (s0, s1, s5)))
noncomputable def L44_2 (N : Nat) (s0 : (List Ln)) (s1 : Int) (s5 : Int) : Option (Lp ((List Ln) × Int × Int) Int) := (U44_2 N s0 s1 s5).eval
noncomputable def W44_2 (N : Nat) (x : ((List Ln) × Int × Int)) : Option (Lp ((List Ln) × Int × Int) Int) := runLoop (fun x => L44_2 N x.1 x.2.1 x.2.2) N x
theorem WS44_2 (N : Nat) (x : (shTy l44_2).I) : ∀ o, W44_2 N x = some o → S Try.prog (.loop b44_2) (buildSt 28 l44_2 x) (stepZ (rdD Try.prog Try.f44 false) l44_2 (encO 28 l44_2 [0] (fun q => some (E44 q)) o)) :=
  fun o h => loop_S (l := l44_2) (step := fun x => L44_2 N x.1 x.2.1 x.2.2) (fun x o h => wpc_sound (tbl := []) (μ := []) mixed _ _ _ (by
    have h1 := Vt.sound _ h
    refine Eq.mp ?_ h1
    kernel_rfl)) N x o h
noncomputable def V44 (N : Nat) (a0 : (List Ln)) (a1 : Int) : Vt Int (Option D) (fun q => some (E44 q)) :=
  .f1 (l := l44_2) (o := W44_2 N (a0, a1, (IntKind.i64.wrap (a1 + 1)))) (WS44_2 N (a0, a1, (IntKind.i64.wrap (a1 + 1)))) (fun x1 => .leaf (x1.1.length : Int))
noncomputable def F44 (N : Nat) (a0 : (List Ln)) (a1 : Int) : Option Int := (V44 N a0 a1).eval
def t44 : List (Nat × List Nat × List (Nat × Sh)) := [(2, [0], l44_2)]
theorem P44 (N : Nat) (a0 : (List Ln)) (a1 : Int) : ∀ r, F44 N a0 a1 = some r → Spec Try.prog 44 [.val (.list tLn) a0, .val tI a1] (E44 r) := fun r h => Spec_of (fn := Try.f44) rfl rfl rfl rfl false (wpc_sound (tbl := t44) (μ := []) mixed _ _ _ (by
  have h1 := Vt.sound _ h
  refine Eq.mp ?_ h1
  kernel_rfl))

/-! ferryslip/ferryslipref03.Kids -/
def E50o : (List Int) → D := fun x => .own 3 tI x
abbrev l50o_3 : List (Nat × Sh) := [(0, .val (.list tLn)), (1, .val tI), (5, .row false 21 3 tI), (6, .val tI)]
noncomputable def b50o_3 : Code := loopBody 3 (bodyOf Try.f50)
noncomputable def U50o_3 (N : Nat) (s0 : (List Ln)) (s1 : Int) (s5 : (List Int)) (s6 : Int) : Vt (Lp (shTy l50o_3).I (List Int)) (O3 (Option D)) (encO 23 l50o_3 [0] (fun q => some (E50o q))) :=
  .br (decide (s6 < (s0.length : Int))) (.c1 (P37 N s0 s6) (fun x1 => .br (x1 == s1) (.ck (room (s5.length + ([s6] : (List Int)).length)) (.leaf (.next (s0, s1, (s5 ++ ([s6] : (List Int))), (IntKind.i64.wrap (s6 + 1)))))) (.leaf (.next (s0, s1, s5, (IntKind.i64.wrap (s6 + 1))))))) (.leaf (.brk 0 (s0, s1, s5, s6)))
noncomputable def L50o_3 (N : Nat) (s0 : (List Ln)) (s1 : Int) (s5 : (List Int)) (s6 : Int) : Option (Lp ((List Ln) × Int × (List Int) × Int) (List Int)) := (U50o_3 N s0 s1 s5 s6).eval
noncomputable def W50o_3 (N : Nat) (x : ((List Ln) × Int × (List Int) × Int)) : Option (Lp ((List Ln) × Int × (List Int) × Int) (List Int)) := runLoop (fun x => L50o_3 N x.1 x.2.1 x.2.2.1 x.2.2.2) N x
theorem WS50o_3 (N : Nat) (x : (shTy l50o_3).I) : ∀ o, W50o_3 N x = some o → S Try.prog (.loop b50o_3) (buildSt 23 l50o_3 x) (stepZ (rdD Try.prog Try.f50 true) l50o_3 (encO 23 l50o_3 [0] (fun q => some (E50o q)) o)) :=
  fun o h => loop_S (l := l50o_3) (step := fun x => L50o_3 N x.1 x.2.1 x.2.2.1 x.2.2.2) (fun x o h => wpc_sound (tbl := []) (μ := []) mixed _ _ _ (by
    have h1 := Vt.sound _ h
    refine Eq.mp ?_ h1
    kernel_rfl)) N x o h
noncomputable def V50o (N : Nat) (a0 : (List Ln)) (a1 : Int) : Vt (List Int) (Option D) (fun q => some (E50o q)) :=
  .f1 (l := l50o_3) (o := W50o_3 N (a0, a1, ([] : (List Int)), 0)) (WS50o_3 N (a0, a1, ([] : (List Int)), 0)) (fun x2 => .leaf x2.2.2.1)
noncomputable def F50o (N : Nat) (a0 : (List Ln)) (a1 : Int) : Option (List Int) := (V50o N a0 a1).eval
def t50o : List (Nat × List Nat × List (Nat × Sh)) := [(3, [0], l50o_3)]
theorem P50o (N : Nat) (a0 : (List Ln)) (a1 : Int) : ∀ r, F50o N a0 a1 = some r → Spec Try.prog 50 [.val (.list tLn) a0, .val tI a1] (E50o r) := fun r h => Spec_of (fn := Try.f50) rfl rfl rfl rfl true (wpc_sound (tbl := t50o) (μ := []) mixed _ _ _ (by
  have h1 := Vt.sound _ h
  refine Eq.mp ?_ h1
  kernel_rfl))

/-! ferryslip/ferryslipref12.Under -/
def E27o : (List Bs) → D := fun x => .own 9 tS x
abbrev l27o_9 : List (Nat × Sh) := [(0, .val (.list tLn)), (6, .row false 36 9 tS), (7, .row false 19 3 tI), (8, .val tI)]
noncomputable def b27o_9 : Code := loopBody 9 (bodyOf Try.f27)
noncomputable def U27o_9 (N : Nat) (s0 : (List Ln)) (s6 : (List Bs)) (s7 : (List Int)) (s8 : Int) : Vt (Lp (shTy l27o_9).I (List Bs)) (O3 (Option D)) (encO 38 l27o_9 [0] (fun q => some (E27o q))) :=
  .br (decide (s8 < (s7.length : Int))) (.ck (inR s8 s7.length) (.ck (inR s8 s7.length) (.ck (inR (atI tI s7 s8) s0.length) (.ck (room (s6.length + ([(atI tLn s0 (atI tI s7 s8)).2.1] : (List Bs)).length)) (.leaf (.next (s0, (s6 ++ ([(atI tLn s0 (atI tI s7 s8)).2.1] : (List Bs))), s7, (IntKind.i64.wrap (s8 + 1))))))))) (.leaf (.brk 0 (s0, s6, s7, s8)))
noncomputable def L27o_9 (N : Nat) (s0 : (List Ln)) (s6 : (List Bs)) (s7 : (List Int)) (s8 : Int) : Option (Lp ((List Ln) × (List Bs) × (List Int) × Int) (List Bs)) := (U27o_9 N s0 s6 s7 s8).eval
noncomputable def W27o_9 (N : Nat) (x : ((List Ln) × (List Bs) × (List Int) × Int)) : Option (Lp ((List Ln) × (List Bs) × (List Int) × Int) (List Bs)) := runLoop (fun x => L27o_9 N x.1 x.2.1 x.2.2.1 x.2.2.2) N x
theorem WS27o_9 (N : Nat) (x : (shTy l27o_9).I) : ∀ o, W27o_9 N x = some o → S Try.prog (.loop b27o_9) (buildSt 38 l27o_9 x) (stepZ (rdD Try.prog Try.f27 true) l27o_9 (encO 38 l27o_9 [0] (fun q => some (E27o q)) o)) :=
  fun o h => loop_S (l := l27o_9) (step := fun x => L27o_9 N x.1 x.2.1 x.2.2.1 x.2.2.2) (fun x o h => wpc_sound (tbl := []) (μ := [19]) mixed _ _ _ (by
    have h1 := Vt.sound _ h
    refine Eq.mp ?_ h1
    kernel_rfl)) N x o h
noncomputable def V27o (N : Nat) (a0 : (List Ln)) (a1 : (List Bs)) : Vt (List Bs) (Option D) (fun q => some (E27o q)) :=
  .br (decide ((0 : Int) < (a1.length : Int))) (.c1 (P30 N a0 a1) (fun x1 => .br (decide (x1 < 0)) (.leaf ([] : (List Bs))) (.c1 (P50o N a0 x1) (fun x2 => .f1 (l := l27o_9) (o := W27o_9 N (a0, ([] : (List Bs)), x2, 0)) (WS27o_9 N (a0, ([] : (List Bs)), x2, 0)) (fun x1 => .leaf x1.2.1))))) (.c1 (P50o N a0 (-1)) (fun x2 => .f1 (l := l27o_9) (o := W27o_9 N (a0, ([] : (List Bs)), x2, 0)) (WS27o_9 N (a0, ([] : (List Bs)), x2, 0)) (fun x3 => .leaf x3.2.1)))
noncomputable def F27o (N : Nat) (a0 : (List Ln)) (a1 : (List Bs)) : Option (List Bs) := (V27o N a0 a1).eval
def t27o : List (Nat × List Nat × List (Nat × Sh)) := [(9, [0], l27o_9)]
theorem P27o (N : Nat) (a0 : (List Ln)) (a1 : (List Bs)) : ∀ r, F27o N a0 a1 = some r → Spec Try.prog 27 [.val (.list tLn) a0, .val (.list tS) a1] (E27o r) := fun r h => Spec_of (fn := Try.f27) rfl rfl rfl rfl true (wpc_sound (tbl := t27o) (μ := [19]) mixed _ _ _ (by
  have h1 := Vt.sound _ h
  refine Eq.mp ?_ h1
  kernel_rfl))

/-! ferryslip/ferryslipref12.star -/
def E57 : Int → D := fun x => encV tI x
abbrev l57_2 : List (Nat × Sh) := [(0, .val (.list tS)), (5, .val tI)]
noncomputable def b57_2 : Code := loopBody 2 (bodyOf Try.f57)
noncomputable def U57_2 (N : Nat) (s0 : (List Bs)) (s5 : Int) : Vt (Lp (shTy l57_2).I Int) (O3 (Option D)) (encO 19 l57_2 [0] (fun q => some (E57 q))) :=
  .br (decide (s5 < (s0.length : Int))) (.ck (inR s5 s0.length) (.br ((atI tS s0 s5) == ([42] : Bs)) (.leaf (.ret s5)) (.leaf (.next (s0, (IntKind.i64.wrap (s5 + 1))))))) (.leaf (.brk 0 (s0, s5)))
noncomputable def L57_2 (N : Nat) (s0 : (List Bs)) (s5 : Int) : Option (Lp ((List Bs) × Int) Int) := (U57_2 N s0 s5).eval
noncomputable def W57_2 (N : Nat) (x : ((List Bs) × Int)) : Option (Lp ((List Bs) × Int) Int) := runLoop (fun x => L57_2 N x.1 x.2) N x
theorem WS57_2 (N : Nat) (x : (shTy l57_2).I) : ∀ o, W57_2 N x = some o → S Try.prog (.loop b57_2) (buildSt 19 l57_2 x) (stepZ (rdD Try.prog Try.f57 false) l57_2 (encO 19 l57_2 [0] (fun q => some (E57 q)) o)) :=
  fun o h => loop_S (l := l57_2) (step := fun x => L57_2 N x.1 x.2) (fun x o h => wpc_sound (tbl := []) (μ := []) mixed _ _ _ (by
    have h1 := Vt.sound _ h
    refine Eq.mp ?_ h1
    kernel_rfl)) N x o h
noncomputable def V57 (N : Nat) (a0 : (List Bs)) (a1 : Int) : Vt Int (Option D) (fun q => some (E57 q)) :=
  .f1 (l := l57_2) (o := W57_2 N (a0, a1)) (WS57_2 N (a0, a1)) (fun x1 => .leaf (-1))
noncomputable def F57 (N : Nat) (a0 : (List Bs)) (a1 : Int) : Option Int := (V57 N a0 a1).eval
def t57 : List (Nat × List Nat × List (Nat × Sh)) := [(2, [0], l57_2)]
theorem P57 (N : Nat) (a0 : (List Bs)) (a1 : Int) : ∀ r, F57 N a0 a1 = some r → Spec Try.prog 57 [.val (.list tS) a0, .val tI a1] (E57 r) := fun r h => Spec_of (fn := Try.f57) rfl rfl rfl rfl false (wpc_sound (tbl := t57) (μ := []) mixed _ _ _ (by
  have h1 := Vt.sound _ h
  refine Eq.mp ?_ h1
  kernel_rfl))

/-! ferryslip/ferryslipref05.With -/
def E58o : (List Bs) → D := fun x => .own 9 tS x
noncomputable def V58o (N : Nat) (a0 : (List Bs)) (a1 : Bs) : Vt (List Bs) (Option D) (fun q => some (E58o q)) :=
  .ck (room a0.length) (.ck (room (a0.length + ([a1] : (List Bs)).length)) (.leaf (a0 ++ ([a1] : (List Bs)))))
noncomputable def F58o (N : Nat) (a0 : (List Bs)) (a1 : Bs) : Option (List Bs) := (V58o N a0 a1).eval
def t58o : List (Nat × List Nat × List (Nat × Sh)) := []
theorem P58o (N : Nat) (a0 : (List Bs)) (a1 : Bs) : ∀ r, F58o N a0 a1 = some r → Spec Try.prog 58 [.val (.list tS) a0, .val tS a1] (E58o r) := fun r h => Spec_of (fn := Try.f58) rfl rfl rfl rfl true (wpc_sound (tbl := t58o) (μ := []) mixed _ _ _ (by
  have h1 := Vt.sound _ h
  refine Eq.mp ?_ h1
  kernel_rfl))

/-! ferryslip/ferryslipref12.Fill -/
def E45o : (List (List Bs)) → D := fun x => .own 41 (.list tS) x
abbrev l45o_7 : List (Nat × Sh) := [(0, .val (.list tLn)), (1, .val (.list tS)), (7, .val tI), (8, .row false 50 41 (.list tS)), (9, .row false 23 9 tS), (10, .val tI)]
noncomputable def b45o_7 : Code := loopBody 7 (bodyOf Try.f45)
noncomputable def U45o_7 (N : Nat) (rc : (List Ln) → (List Bs) → Int → Option (List (List Bs))) (hrc : ∀ (a0 : (List Ln)) (a1 : (List Bs)) (a2 : Int) (r : (List (List Bs))), rc a0 a1 a2 = some r → Spec Try.prog 45 [.val (.list tLn) a0, .val (.list tS) a1, .val tI a2] (E45o r)) (s0 : (List Ln)) (s1 : (List Bs)) (s7 : Int) (s8 : (List (List Bs))) (s9 : (List Bs)) (s10 : Int) : Vt (Lp (shTy l45o_7).I (List (List Bs))) (O3 (Option D)) (encO 52 l45o_7 [0] (fun q => some (E45o q))) :=
  .br (decide (s10 < (s9.length : Int))) (.ck ((0 : Int) ≤ 0 ∧ (0 : Int) ≤ s7 ∧ s7 ≤ (s1.length : Int)) (.ck (inR s10 s9.length) (.ck (inR s10 s9.length) (.c1 (P58o N (slc s1 0 s7) (atI tS s9 s10)) (fun x1 => .ck ((0 : Int) ≤ (IntKind.i64.wrap (s7 + 1)) ∧ (IntKind.i64.wrap (s7 + 1)) ≤ (s1.length : Int) ∧ (s1.length : Int) ≤ (s1.length : Int)) (.ck (room (x1.length + (slc s1 (IntKind.i64.wrap (s7 + 1)) (s1.length : Int)).length)) (.c1 (hrc s0 (x1 ++ (slc s1 (IntKind.i64.wrap (s7 + 1)) (s1.length : Int))) (IntKind.i64.wrap (s7 + 1))) (fun x2 => .ck (room (s8.length + x2.length)) (.leaf (.next (s0, s1, s7, (s8 ++ x2), s9, (IntKind.i64.wrap (s10 + 1))))))))))))) (.leaf (.brk 0 (s0, s1, s7, s8, s9, s10)))
noncomputable def L45o_7 (N : Nat) (rc : (List Ln) → (List Bs) → Int → Option (List (List Bs))) (hrc : ∀ (a0 : (List Ln)) (a1 : (List Bs)) (a2 : Int) (r : (List (List Bs))), rc a0 a1 a2 = some r → Spec Try.prog 45 [.val (.list tLn) a0, .val (.list tS) a1, .val tI a2] (E45o r)) (s0 : (List Ln)) (s1 : (List Bs)) (s7 : Int) (s8 : (List (List Bs))) (s9 : (List Bs)) (s10 : Int) : Option (Lp ((List Ln) × (List Bs) × Int × (List (List Bs)) × (List Bs) × Int) (List (List Bs))) := (U45o_7 N rc hrc s0 s1 s7 s8 s9 s10).eval
noncomputable def W45o_7 (N : Nat) (rc : (List Ln) → (List Bs) → Int → Option (List (List Bs))) (hrc : ∀ (a0 : (List Ln)) (a1 : (List Bs)) (a2 : Int) (r : (List (List Bs))), rc a0 a1 a2 = some r → Spec Try.prog 45 [.val (.list tLn) a0, .val (.list tS) a1, .val tI a2] (E45o r)) (x : ((List Ln) × (List Bs) × Int × (List (List Bs)) × (List Bs) × Int)) : Option (Lp ((List Ln) × (List Bs) × Int × (List (List Bs)) × (List Bs) × Int) (List (List Bs))) := runLoop (fun x => L45o_7 N rc hrc x.1 x.2.1 x.2.2.1 x.2.2.2.1 x.2.2.2.2.1 x.2.2.2.2.2) N x
theorem WS45o_7 (N : Nat) (rc : (List Ln) → (List Bs) → Int → Option (List (List Bs))) (hrc : ∀ (a0 : (List Ln)) (a1 : (List Bs)) (a2 : Int) (r : (List (List Bs))), rc a0 a1 a2 = some r → Spec Try.prog 45 [.val (.list tLn) a0, .val (.list tS) a1, .val tI a2] (E45o r)) (x : (shTy l45o_7).I) : ∀ o, W45o_7 N rc hrc x = some o → S Try.prog (.loop b45o_7) (buildSt 52 l45o_7 x) (stepZ (rdD Try.prog Try.f45 true) l45o_7 (encO 52 l45o_7 [0] (fun q => some (E45o q)) o)) :=
  fun o h => loop_S (l := l45o_7) (step := fun x => L45o_7 N rc hrc x.1 x.2.1 x.2.2.1 x.2.2.2.1 x.2.2.2.2.1 x.2.2.2.2.2) (fun x o h => wpc_sound (tbl := []) (μ := [23, 37, 49]) mixed _ _ _ (by
    have h1 := Vt.sound _ h
    refine Eq.mp ?_ h1
    kernel_rfl)) N x o h
noncomputable def V45o (N : Nat) (rc : (List Ln) → (List Bs) → Int → Option (List (List Bs))) (hrc : ∀ (a0 : (List Ln)) (a1 : (List Bs)) (a2 : Int) (r : (List (List Bs))), rc a0 a1 a2 = some r → Spec Try.prog 45 [.val (.list tLn) a0, .val (.list tS) a1, .val tI a2] (E45o r)) (a0 : (List Ln)) (a1 : (List Bs)) (a2 : Int) : Vt (List (List Bs)) (Option D) (fun q => some (E45o q)) :=
  .c1 (P57 N a1 a2) (fun x1 => .br (decide (x1 < 0)) (.leaf ([a1] : (List (List Bs)))) (.ck ((0 : Int) ≤ 0 ∧ (0 : Int) ≤ x1 ∧ x1 ≤ (a1.length : Int)) (.c1 (P27o N a0 (slc a1 0 x1)) (fun x2 => .f1 (l := l45o_7) (o := W45o_7 N rc hrc (a0, a1, x1, ([] : (List (List Bs))), x2, 0)) (WS45o_7 N rc hrc (a0, a1, x1, ([] : (List (List Bs))), x2, 0)) (fun x3 => .leaf x3.2.2.2.1)))))
def t45o : List (Nat × List Nat × List (Nat × Sh)) := [(7, [0], l45o_7)]
theorem PV45o (N : Nat) (rc : (List Ln) → (List Bs) → Int → Option (List (List Bs))) (hrc : ∀ (a0 : (List Ln)) (a1 : (List Bs)) (a2 : Int) (r : (List (List Bs))), rc a0 a1 a2 = some r → Spec Try.prog 45 [.val (.list tLn) a0, .val (.list tS) a1, .val tI a2] (E45o r)) (a0 : (List Ln)) (a1 : (List Bs)) (a2 : Int) : ∀ r, (V45o N rc hrc a0 a1 a2).eval = some r → Spec Try.prog 45 [.val (.list tLn) a0, .val (.list tS) a1, .val tI a2] (E45o r) := fun r h => Spec_of (fn := Try.f45) rfl rfl rfl rfl true (wpc_sound (tbl := t45o) (μ := [23, 37, 49]) mixed _ _ _ (by
  have h1 := Vt.sound _ h
  refine Eq.mp ?_ h1
  kernel_rfl))
noncomputable def G45o (N : Nat) : Nat → { rc : (List Ln) → (List Bs) → Int → Option (List (List Bs)) // ∀ (a0 : (List Ln)) (a1 : (List Bs)) (a2 : Int) (r : (List (List Bs))), rc a0 a1 a2 = some r → Spec Try.prog 45 [.val (.list tLn) a0, .val (.list tS) a1, .val tI a2] (E45o r) }
  | 0 => ⟨fun _ _ _ => none, fun _ _ _ _ h => by cases h⟩
  | n + 1 => ⟨fun a0 a1 a2 => (V45o N (G45o N n).1 (G45o N n).2 a0 a1 a2).eval, fun a0 a1 a2 => PV45o N _ _ a0 a1 a2⟩
noncomputable def F45o (N : Nat) (a0 : (List Ln)) (a1 : (List Bs)) (a2 : Int) : Option (List (List Bs)) := (G45o N N).1 a0 a1 a2
theorem P45o (N : Nat) (a0 : (List Ln)) (a1 : (List Bs)) (a2 : Int) : ∀ r, F45o N a0 a1 a2 = some r → Spec Try.prog 45 [.val (.list tLn) a0, .val (.list tS) a1, .val tI a2] (E45o r) := (G45o N N).2 a0 a1 a2

/-! ferryslip/ferryslipref12.Paths -/
def E22o : ((List (List Bs)) × Int) → D := fun x => .tup [.own 41 (.list tS) x.1, encV tI x.2]
abbrev l22o_7 : List (Nat × Sh) := [(1, .val tS), (6, .val (.list tLn)), (7, .val (.list tLn)), (8, .row false 58 41 (.list tS)), (9, .val tI)]
noncomputable def b22o_7 : Code := loopBody 7 (bodyOf Try.f22)
noncomputable def U22o_7 (N : Nat) (s1 : Bs) (s6 : (List Ln)) (s7 : (List Ln)) (s8 : (List (List Bs))) (s9 : Int) : Vt (Lp (shTy l22o_7).I ((List (List Bs)) × Int)) (O3 (Option D)) (encO 60 l22o_7 [0] (fun q => some (E22o q))) :=
  .br (decide (s9 < (s6.length : Int))) (.c1 (P29 N s6 s9) (fun x1 => .br (decide ((2 : Int) < (x1.length : Int))) (.ck (inR 0 x1.length) (.br ((atI tS x1 0) == ([103, 114, 111, 117, 112, 115] : Bs)) (.ck (inR 1 x1.length) (.br ((atI tS x1 1) == s1) (.c1 (P44 N s6 s9) (fun x2 => .br (x2 == (IntKind.i64.wrap (s9 + 1))) (.ck ((0 : Int) ≤ 2 ∧ (2 : Int) ≤ (x1.length : Int) ∧ (x1.length : Int) ≤ (x1.length : Int)) (.c1 (P45o N s7 (slc x1 2 (x1.length : Int)) 0) (fun x3 => .ck (room (s8.length + x3.length)) (.leaf (.next (s1, s6, s7, (s8 ++ x3), (IntKind.i64.wrap (s9 + 1)))))))) (.leaf (.next (s1, s6, s7, s8, (IntKind.i64.wrap (s9 + 1))))))) (.leaf (.next (s1, s6, s7, s8, (IntKind.i64.wrap (s9 + 1))))))) (.leaf (.next (s1, s6, s7, s8, (IntKind.i64.wrap (s9 + 1))))))) (.leaf (.next (s1, s6, s7, s8, (IntKind.i64.wrap (s9 + 1))))))) (.leaf (.brk 0 (s1, s6, s7, s8, s9)))
noncomputable def L22o_7 (N : Nat) (s1 : Bs) (s6 : (List Ln)) (s7 : (List Ln)) (s8 : (List (List Bs))) (s9 : Int) : Option (Lp (Bs × (List Ln) × (List Ln) × (List (List Bs)) × Int) ((List (List Bs)) × Int)) := (U22o_7 N s1 s6 s7 s8 s9).eval
noncomputable def W22o_7 (N : Nat) (x : (Bs × (List Ln) × (List Ln) × (List (List Bs)) × Int)) : Option (Lp (Bs × (List Ln) × (List Ln) × (List (List Bs)) × Int) ((List (List Bs)) × Int)) := runLoop (fun x => L22o_7 N x.1 x.2.1 x.2.2.1 x.2.2.2.1 x.2.2.2.2) N x
theorem WS22o_7 (N : Nat) (x : (shTy l22o_7).I) : ∀ o, W22o_7 N x = some o → S Try.prog (.loop b22o_7) (buildSt 60 l22o_7 x) (stepZ (rdD Try.prog Try.f22 true) l22o_7 (encO 60 l22o_7 [0] (fun q => some (E22o q)) o)) :=
  fun o h => loop_S (l := l22o_7) (step := fun x => L22o_7 N x.1 x.2.1 x.2.2.1 x.2.2.2.1 x.2.2.2.2) (fun x o h => wpc_sound (tbl := []) (μ := [12, 19, 57]) mixed _ _ _ (by
    have h1 := Vt.sound _ h
    refine Eq.mp ?_ h1
    kernel_rfl)) N x o h
noncomputable def V22o (N : Nat) (a0 : (List Ln)) (a1 : Bs) : Vt ((List (List Bs)) × Int) (Option D) (fun q => some (E22o q)) :=
  .c1 (P16o N a0) (fun x1 => .c1 (P30 N x1 ([([103, 114, 111, 117, 112, 115] : Bs), a1] : (List Bs))) (fun x2 => .br (decide (x2 < 0)) (.leaf (([] : (List (List Bs))), 3)) (.c1 (P17o N a0) (fun x3 => .f1 (l := l22o_7) (o := W22o_7 N (a1, x1, x3, ([] : (List (List Bs))), 0)) (WS22o_7 N (a1, x1, x3, ([] : (List (List Bs))), 0)) (fun x4 => .leaf (x4.2.2.2.1, 0))))))
noncomputable def F22o (N : Nat) (a0 : (List Ln)) (a1 : Bs) : Option ((List (List Bs)) × Int) := (V22o N a0 a1).eval
def t22o : List (Nat × List Nat × List (Nat × Sh)) := [(7, [0], l22o_7)]
theorem P22o (N : Nat) (a0 : (List Ln)) (a1 : Bs) : ∀ r, F22o N a0 a1 = some r → Spec Try.prog 22 [.val (.list tLn) a0, .val tS a1] (E22o r) := fun r h => Spec_of (fn := Try.f22) rfl rfl rfl rfl true (wpc_sound (tbl := t22o) (μ := [12, 19, 57]) mixed _ _ _ (by
  have h1 := Vt.sound _ h
  refine Eq.mp ?_ h1
  kernel_rfl))

/-! ferryslip/ferryslipref05.Put -/
def E31o : (List Ln) → D := fun x => .own 40 tLn x
abbrev l31o_8 : List (Nat × Sh) := [(0, .val (.list tLn)), (1, .val (.list tS)), (2, .val tS), (3, .val tI), (10, .val tI), (11, .row false 27 3 tI), (12, .val tI)]
noncomputable def b31o_8 : Code := loopBody 8 (bodyOf Try.f31)
noncomputable def U31o_8 (N : Nat) (s0 : (List Ln)) (s1 : (List Bs)) (s2 : Bs) (s3 : Int) (s10 : Int) (s11 : (List Int)) (s12 : Int) : Vt (Lp (shTy l31o_8).I (List Ln)) (O3 (Option D)) (encO 67 l31o_8 [0] (fun q => some (E31o q))) :=
  .br (decide ((0 : Int) ≤ s12)) (.ck (inR s12 s11.length) (.ck (inR s12 s11.length) (.ck (inR (atI tI s11 s12) s0.length) (.br (!((Op.bytesLess ((atI tLn s0 (atI tI s11 s12)).2.1) s2) || (((atI tLn s0 (atI tI s11 s12)).2.1) == s2))) (.ck (inR s12 s11.length) (.ck (inR s12 s11.length) (.leaf (.next (s0, s1, s2, s3, (atI tI s11 s12), s11, (IntKind.i64.wrap (s12 - 1))))))) (.leaf (.next (s0, s1, s2, s3, s10, s11, (IntKind.i64.wrap (s12 - 1))))))))) (.leaf (.brk 0 (s0, s1, s2, s3, s10, s11, s12)))
noncomputable def L31o_8 (N : Nat) (s0 : (List Ln)) (s1 : (List Bs)) (s2 : Bs) (s3 : Int) (s10 : Int) (s11 : (List Int)) (s12 : Int) : Option (Lp ((List Ln) × (List Bs) × Bs × Int × Int × (List Int) × Int) (List Ln)) := (U31o_8 N s0 s1 s2 s3 s10 s11 s12).eval
noncomputable def W31o_8 (N : Nat) (x : ((List Ln) × (List Bs) × Bs × Int × Int × (List Int) × Int)) : Option (Lp ((List Ln) × (List Bs) × Bs × Int × Int × (List Int) × Int) (List Ln)) := runLoop (fun x => L31o_8 N x.1 x.2.1 x.2.2.1 x.2.2.2.1 x.2.2.2.2.1 x.2.2.2.2.2.1 x.2.2.2.2.2.2) N x
theorem WS31o_8 (N : Nat) (x : (shTy l31o_8).I) : ∀ o, W31o_8 N x = some o → S Try.prog (.loop b31o_8) (buildSt 67 l31o_8 x) (stepZ (rdD Try.prog Try.f31 true) l31o_8 (encO 67 l31o_8 [0] (fun q => some (E31o q)) o)) :=
  fun o h => loop_S (l := l31o_8) (step := fun x => L31o_8 N x.1 x.2.1 x.2.2.1 x.2.2.2.1 x.2.2.2.2.1 x.2.2.2.2.2.1 x.2.2.2.2.2.2) (fun x o h => wpc_sound (tbl := []) (μ := [27]) mixed _ _ _ (by
    have h1 := Vt.sound _ h
    refine Eq.mp ?_ h1
    kernel_rfl)) N x o h
noncomputable def V31o (N : Nat) (a0 : (List Ln)) (a1 : (List Bs)) (a2 : Bs) (a3 : Int) : Vt (List Ln) (Option D) (fun q => some (E31o q)) :=
  .br (decide ((0 : Int) < (a1.length : Int))) (.c1 (P30 N a0 a1) (fun x1 => .c1 (P44 N a0 x1) (fun x2 => .c1 (P50o N a0 x1) (fun x3 => .f1 (l := l31o_8) (o := W31o_8 N (a0, a1, a2, a3, x2, x3, (IntKind.i64.wrap ((x3.length : Int) - 1)))) (WS31o_8 N (a0, a1, a2, a3, x2, x3, (IntKind.i64.wrap ((x3.length : Int) - 1)))) (fun x4 => .ck ((0 : Int) ≤ 0 ∧ (0 : Int) ≤ x4.2.2.2.2.1 ∧ x4.2.2.2.2.1 ≤ (x4.1.length : Int)) (.ck (room (slc x4.1 0 x4.2.2.2.2.1).length) (.ck (room ((slc x4.1 0 x4.2.2.2.2.1).length + ([((x4.2.1.length : Int), x4.2.2.1, x4.2.2.2.1)] : (List Ln)).length)) (.ck ((0 : Int) ≤ x4.2.2.2.2.1 ∧ x4.2.2.2.2.1 ≤ (x4.1.length : Int) ∧ (x4.1.length : Int) ≤ (x4.1.length : Int)) (.ck (room (((slc x4.1 0 x4.2.2.2.2.1) ++ ([((x4.2.1.length : Int), x4.2.2.1, x4.2.2.2.1)] : (List Ln))).length + (slc x4.1 x4.2.2.2.2.1 (x4.1.length : Int)).length)) (.leaf (((slc x4.1 0 x4.2.2.2.2.1) ++ ([((x4.2.1.length : Int), x4.2.2.1, x4.2.2.2.1)] : (List Ln))) ++ (slc x4.1 x4.2.2.2.2.1 (x4.1.length : Int))))))))))))) (.c1 (P50o N a0 (-1)) (fun x5 => .f1 (l := l31o_8) (o := W31o_8 N (a0, a1, a2, a3, (a0.length : Int), x5, (IntKind.i64.wrap ((x5.length : Int) - 1)))) (WS31o_8 N (a0, a1, a2, a3, (a0.length : Int), x5, (IntKind.i64.wrap ((x5.length : Int) - 1)))) (fun x6 => .ck ((0 : Int) ≤ 0 ∧ (0 : Int) ≤ x6.2.2.2.2.1 ∧ x6.2.2.2.2.1 ≤ (x6.1.length : Int)) (.ck (room (slc x6.1 0 x6.2.2.2.2.1).length) (.ck (room ((slc x6.1 0 x6.2.2.2.2.1).length + ([((x6.2.1.length : Int), x6.2.2.1, x6.2.2.2.1)] : (List Ln)).length)) (.ck ((0 : Int) ≤ x6.2.2.2.2.1 ∧ x6.2.2.2.2.1 ≤ (x6.1.length : Int) ∧ (x6.1.length : Int) ≤ (x6.1.length : Int)) (.ck (room (((slc x6.1 0 x6.2.2.2.2.1) ++ ([((x6.2.1.length : Int), x6.2.2.1, x6.2.2.2.1)] : (List Ln))).length + (slc x6.1 x6.2.2.2.2.1 (x6.1.length : Int)).length)) (.leaf (((slc x6.1 0 x6.2.2.2.2.1) ++ ([((x6.2.1.length : Int), x6.2.2.1, x6.2.2.2.1)] : (List Ln))) ++ (slc x6.1 x6.2.2.2.2.1 (x6.1.length : Int)))))))))))
noncomputable def F31o (N : Nat) (a0 : (List Ln)) (a1 : (List Bs)) (a2 : Bs) (a3 : Int) : Option (List Ln) := (V31o N a0 a1 a2 a3).eval
def t31o : List (Nat × List Nat × List (Nat × Sh)) := [(8, [0], l31o_8)]
theorem P31o (N : Nat) (a0 : (List Ln)) (a1 : (List Bs)) (a2 : Bs) (a3 : Int) : ∀ r, F31o N a0 a1 a2 a3 = some r → Spec Try.prog 31 [.val (.list tLn) a0, .val (.list tS) a1, .val tS a2, .val tI a3] (E31o r) := fun r h => Spec_of (fn := Try.f31) rfl rfl rfl rfl true (wpc_sound (tbl := t31o) (μ := [27]) mixed _ _ _ (by
  have h1 := Vt.sound _ h
  refine Eq.mp ?_ h1
  kernel_rfl))

/-! ferryslip/ferryslipref06.Add -/
def E43 : ((List Ln) × Int) → D := fun x => .tup [encV (.list tLn) x.1, encV tI x.2]
abbrev l43_4 : List (Nat × Sh) := [(0, .val (.list tLn)), (1, .val (.list tS)), (6, .val tI)]
noncomputable def b43_4 : Code := loopBody 4 (bodyOf Try.f43)
noncomputable def U43_4 (N : Nat) (s0 : (List Ln)) (s1 : (List Bs)) (s6 : Int) : Vt (Lp (shTy l43_4).I ((List Ln) × Int)) (O3 (Option D)) (encO 64 l43_4 [0] (fun q => some (E43 q))) :=
  .br (decide (s6 < (s1.length : Int))) (.ck (inR s6 s1.length) (.br (decide ((40 : Int) < ((atI tS s1 s6).length : Int))) (.leaf (.ret (s0, 1))) (.leaf (.next (s0, s1, (IntKind.i64.wrap (s6 + 1))))))) (.leaf (.brk 0 (s0, s1, s6)))
noncomputable def L43_4 (N : Nat) (s0 : (List Ln)) (s1 : (List Bs)) (s6 : Int) : Option (Lp ((List Ln) × (List Bs) × Int) ((List Ln) × Int)) := (U43_4 N s0 s1 s6).eval
noncomputable def W43_4 (N : Nat) (x : ((List Ln) × (List Bs) × Int)) : Option (Lp ((List Ln) × (List Bs) × Int) ((List Ln) × Int)) := runLoop (fun x => L43_4 N x.1 x.2.1 x.2.2) N x
theorem WS43_4 (N : Nat) (x : (shTy l43_4).I) : ∀ o, W43_4 N x = some o → S Try.prog (.loop b43_4) (buildSt 64 l43_4 x) (stepZ (rdD Try.prog Try.f43 false) l43_4 (encO 64 l43_4 [0] (fun q => some (E43 q)) o)) :=
  fun o h => loop_S (l := l43_4) (step := fun x => L43_4 N x.1 x.2.1 x.2.2) (fun x o h => wpc_sound (tbl := []) (μ := []) mixed _ _ _ (by
    have h1 := Vt.sound _ h
    refine Eq.mp ?_ h1
    kernel_rfl)) N x o h
abbrev l43_12 : List (Nat × Sh) := [(0, .val (.list tLn)), (1, .val (.list tS)), (7, .val (.list tLn)), (8, .val tI)]
noncomputable def b43_12 : Code := loopBody 12 (bodyOf Try.f43)
noncomputable def U43_12 (N : Nat) (s0 : (List Ln)) (s1 : (List Bs)) (s7 : (List Ln)) (s8 : Int) : Vt (Lp (shTy l43_12).I ((List Ln) × Int)) (O3 (Option D)) (encO 64 l43_12 [2] (fun q => some (E43 q))) :=
  .br (decide (s8 ≤ (s1.length : Int))) (.ck ((0 : Int) ≤ 0 ∧ (0 : Int) ≤ s8 ∧ s8 ≤ (s1.length : Int)) (.c1 (P30 N s7 (slc s1 0 s8)) (fun x1 => .br (decide (x1 < 0)) (.ck ((0 : Int) ≤ 0 ∧ (0 : Int) ≤ (IntKind.i64.wrap (s8 - 1)) ∧ (IntKind.i64.wrap (s8 - 1)) ≤ (s1.length : Int)) (.ck (inR (IntKind.i64.wrap (s8 - 1)) s1.length) (.c1 (P31o N s7 (slc s1 0 (IntKind.i64.wrap (s8 - 1))) (atI tS s1 (IntKind.i64.wrap (s8 - 1))) 0) (fun x2 => .leaf (.next (s0, s1, x2, (IntKind.i64.wrap (s8 + 1)))))))) (.leaf (.next (s0, s1, s7, (IntKind.i64.wrap (s8 + 1)))))))) (.leaf (.brk 0 (s0, s1, s7, s8)))
noncomputable def L43_12 (N : Nat) (s0 : (List Ln)) (s1 : (List Bs)) (s7 : (List Ln)) (s8 : Int) : Option (Lp ((List Ln) × (List Bs) × (List Ln) × Int) ((List Ln) × Int)) := (U43_12 N s0 s1 s7 s8).eval
noncomputable def W43_12 (N : Nat) (x : ((List Ln) × (List Bs) × (List Ln) × Int)) : Option (Lp ((List Ln) × (List Bs) × (List Ln) × Int) ((List Ln) × Int)) := runLoop (fun x => L43_12 N x.1 x.2.1 x.2.2.1 x.2.2.2) N x
theorem WS43_12 (N : Nat) (x : (shTy l43_12).I) : ∀ o, W43_12 N x = some o → S Try.prog (.loop b43_12) (buildSt 64 l43_12 x) (stepZ (rdD Try.prog Try.f43 false) l43_12 (encO 64 l43_12 [2] (fun q => some (E43 q)) o)) :=
  fun o h => loop_S (l := l43_12) (step := fun x => L43_12 N x.1 x.2.1 x.2.2.1 x.2.2.2) (fun x o h => wpc_sound (tbl := [(4, [0], l43_4)]) (μ := [58]) mixed _ _ _ (by
    have h1 := Vt.sound _ h
    refine Eq.mp ?_ h1
    kernel_rfl)) N x o h
noncomputable def V43 (N : Nat) (a0 : (List Ln)) (a1 : (List Bs)) : Vt ((List Ln) × Int) (Option D) (fun q => some (E43 q)) :=
  .c1 (P14 N a0) (fun x1 => .br (!x1) (.leaf (a0, 1)) (.br ((a1.length : Int) == 0) (.leaf (a0, 1)) (.f1 (l := l43_4) (o := W43_4 N (a0, a1, 0)) (WS43_4 N (a0, a1, 0)) (fun x2 => .br (decide ((16 : Int) < (x2.2.1.length : Int))) (.leaf (x2.1, 6)) (.f1 (l := l43_12) (o := W43_12 N (x2.1, x2.2.1, x2.1, 1)) (WS43_12 N (x2.1, x2.2.1, x2.1, 1)) (fun x3 => .br (decide ((200 : Int) < (x3.2.2.1.length : Int))) (.leaf (x3.1, 5)) (.leaf (x3.2.2.1, 0))))))))
noncomputable def F43 (N : Nat) (a0 : (List Ln)) (a1 : (List Bs)) : Option ((List Ln) × Int) := (V43 N a0 a1).eval
def t43 : List (Nat × List Nat × List (Nat × Sh)) := [(4, [0], l43_4), (12, [2], l43_12)]
theorem P43 (N : Nat) (a0 : (List Ln)) (a1 : (List Bs)) : ∀ r, F43 N a0 a1 = some r → Spec Try.prog 43 [.val (.list tLn) a0, .val (.list tS) a1] (E43 r) := fun r h => Spec_of (fn := Try.f43) rfl rfl rfl rfl false (wpc_sound (tbl := t43) (μ := [58]) mixed _ _ _ (by
  have h1 := Vt.sound _ h
  refine Eq.mp ?_ h1
  kernel_rfl))

/-! ferryslip/ferryslipref12.Expand -/
def E21 : ((List Ln) × Int) → D := fun x => .tup [encV (.list tLn) x.1, encV tI x.2]
abbrev l21_4 : List (Nat × Sh) := [(0, .val (.list tLn)), (4, .row false 18 40 tLn), (5, .row false 22 9 tS), (6, .val tI)]
noncomputable def b21_4 : Code := loopBody 4 (bodyOf Try.f21)
noncomputable def U21_4 (N : Nat) (s0 : (List Ln)) (s4 : (List Ln)) (s5 : (List Bs)) (s6 : Int) : Vt (Lp (shTy l21_4).I ((List Ln) × Int)) (O3 (Option D)) (encO 104 l21_4 [0] (fun q => some (E21 q))) :=
  .br (decide (s6 < (s5.length : Int))) (.ck (inR s6 s5.length) (.ck (inR s6 s5.length) (.c2 (P22o N s0 (atI tS s5 s6)) (fun x1 x2 => .br (x2 != 0) (.leaf (.ret (([] : (List Ln)), x2))) (.leaf (.next (s0, s4, s5, (IntKind.i64.wrap (s6 + 1))))))))) (.leaf (.brk 0 (s0, s4, s5, s6)))
noncomputable def L21_4 (N : Nat) (s0 : (List Ln)) (s4 : (List Ln)) (s5 : (List Bs)) (s6 : Int) : Option (Lp ((List Ln) × (List Ln) × (List Bs) × Int) ((List Ln) × Int)) := (U21_4 N s0 s4 s5 s6).eval
noncomputable def W21_4 (N : Nat) (x : ((List Ln) × (List Ln) × (List Bs) × Int)) : Option (Lp ((List Ln) × (List Ln) × (List Bs) × Int) ((List Ln) × Int)) := runLoop (fun x => L21_4 N x.1 x.2.1 x.2.2.1 x.2.2.2) N x
theorem WS21_4 (N : Nat) (x : (shTy l21_4).I) : ∀ o, W21_4 N x = some o → S Try.prog (.loop b21_4) (buildSt 104 l21_4 x) (stepZ (rdD Try.prog Try.f21 false) l21_4 (encO 104 l21_4 [0] (fun q => some (E21 q)) o)) :=
  fun o h => loop_S (l := l21_4) (step := fun x => L21_4 N x.1 x.2.1 x.2.2.1 x.2.2.2) (fun x o h => wpc_sound (tbl := []) (μ := [18, 20, 22, 35]) mixed _ _ _ (by
    have h1 := Vt.sound _ h
    refine Eq.mp ?_ h1
    kernel_rfl)) N x o h
abbrev l21_15 : List (Nat × Sh) := [(0, .val (.list tLn)), (4, .val (.list tLn)), (5, .row false 22 9 tS), (9, .val (.list tLn)), (10, .val tI), (11, .row false 54 41 (.list tS)), (13, .val tI)]
noncomputable def b21_15 : Code := loopBody 15 (bodyOf Try.f21)
noncomputable def U21_15 (N : Nat) (s0 : (List Ln)) (s4 : (List Ln)) (s5 : (List Bs)) (s9 : (List Ln)) (s10 : Int) (s11 : (List (List Bs))) (s13 : Int) : Vt (Lp (shTy l21_15).I ((List Ln) × Int)) (O3 (Option D)) (encO 104 l21_15 [4] (fun q => some (E21 q))) :=
  .br (decide (s13 < (s11.length : Int))) (.ck (inR s13 s11.length) (.ck (inR s13 s11.length) (.ck (inR 0 (atI (.list tS) s11 s13).length) (.br ((atI tS (atI (.list tS) s11 s13) 0) == ([103, 114, 111, 117, 112, 115] : Bs)) (.leaf (.next (s0, s4, s5, s9, s10, s11, (IntKind.i64.wrap (s13 + 1))))) (.ck (inR 0 (atI (.list tS) s11 s13).length) (.br ((atI tS (atI (.list tS) s11 s13) 0) == ([97, 112, 112, 108, 121] : Bs)) (.leaf (.next (s0, s4, s5, s9, s10, s11, (IntKind.i64.wrap (s13 + 1))))) (.br (decide ((1 : Int) < ((atI (.list tS) s11 s13).length : Int))) (.ck ((0 : Int) ≤ 0 ∧ (0 : Int) ≤ (IntKind.i64.wrap (((atI (.list tS) s11 s13).length : Int) - 1)) ∧ (IntKind.i64.wrap (((atI (.list tS) s11 s13).length : Int) - 1)) ≤ ((atI (.list tS) s11 s13).length : Int)) (.c1 (P27o N s4 (slc (atI (.list tS) s11 s13) 0 (IntKind.i64.wrap (((atI (.list tS) s11 s13).length : Int) - 1)))) (fun x1 => .br (decide ((0 : Int) < (x1.length : Int))) (.leaf (.next (s0, s4, s5, s9, s10, s11, (IntKind.i64.wrap (s13 + 1))))) (.c2 (P43 N s9 (atI (.list tS) s11 s13)) (fun x2 x3 => .br (x3 != 0) (.leaf (.ret (([] : (List Ln)), x3))) (.leaf (.next (s0, s4, s5, x2, s10, s11, (IntKind.i64.wrap (s13 + 1)))))))))) (.c2 (P43 N s9 (atI (.list tS) s11 s13)) (fun x4 x5 => .br (x5 != 0) (.leaf (.ret (([] : (List Ln)), x5))) (.leaf (.next (s0, s4, s5, x4, s10, s11, (IntKind.i64.wrap (s13 + 1)))))))))))))) (.leaf (.brk 0 (s0, s4, s5, s9, s10, s11, s13)))
noncomputable def L21_15 (N : Nat) (s0 : (List Ln)) (s4 : (List Ln)) (s5 : (List Bs)) (s9 : (List Ln)) (s10 : Int) (s11 : (List (List Bs))) (s13 : Int) : Option (Lp ((List Ln) × (List Ln) × (List Bs) × (List Ln) × Int × (List (List Bs)) × Int) ((List Ln) × Int)) := (U21_15 N s0 s4 s5 s9 s10 s11 s13).eval
noncomputable def W21_15 (N : Nat) (x : ((List Ln) × (List Ln) × (List Bs) × (List Ln) × Int × (List (List Bs)) × Int)) : Option (Lp ((List Ln) × (List Ln) × (List Bs) × (List Ln) × Int × (List (List Bs)) × Int) ((List Ln) × Int)) := runLoop (fun x => L21_15 N x.1 x.2.1 x.2.2.1 x.2.2.2.1 x.2.2.2.2.1 x.2.2.2.2.2.1 x.2.2.2.2.2.2) N x
theorem WS21_15 (N : Nat) (x : (shTy l21_15).I) : ∀ o, W21_15 N x = some o → S Try.prog (.loop b21_15) (buildSt 104 l21_15 x) (stepZ (rdD Try.prog Try.f21 false) l21_15 (encO 104 l21_15 [4] (fun q => some (E21 q)) o)) :=
  fun o h => loop_S (l := l21_15) (step := fun x => L21_15 N x.1 x.2.1 x.2.2.1 x.2.2.2.1 x.2.2.2.2.1 x.2.2.2.2.2.1 x.2.2.2.2.2.2) (fun x o h => wpc_sound (tbl := [(4, [0], l21_4)]) (μ := [18, 20, 22, 35, 54, 88]) mixed _ _ _ (by
    have h1 := Vt.sound _ h
    refine Eq.mp ?_ h1
    kernel_rfl)) N x o h
abbrev l21_11 : List (Nat × Sh) := [(0, .val (.list tLn)), (4, .val (.list tLn)), (5, .row false 22 9 tS), (9, .val (.list tLn)), (10, .val tI)]
noncomputable def b21_11 : Code := loopBody 11 (bodyOf Try.f21)
noncomputable def U21_11 (N : Nat) (s0 : (List Ln)) (s4 : (List Ln)) (s5 : (List Bs)) (s9 : (List Ln)) (s10 : Int) : Vt (Lp (shTy l21_11).I ((List Ln) × Int)) (O3 (Option D)) (encO 104 l21_11 [2] (fun q => some (E21 q))) :=
  .br (decide (s10 < (s5.length : Int))) (.ck (inR s10 s5.length) (.ck (inR s10 s5.length) (.c2 (P22o N s0 (atI tS s5 s10)) (fun x1 x2 => .g1 (l := l21_15) (o := W21_15 N (s0, s4, s5, s9, s10, x1, 0)) (WS21_15 N (s0, s4, s5, s9, s10, x1, 0)) (fun x3 => .leaf (.next (x3.1, x3.2.1, x3.2.2.1, x3.2.2.2.1, (IntKind.i64.wrap (x3.2.2.2.2.1 + 1))))))))) (.leaf (.brk 0 (s0, s4, s5, s9, s10)))
noncomputable def L21_11 (N : Nat) (s0 : (List Ln)) (s4 : (List Ln)) (s5 : (List Bs)) (s9 : (List Ln)) (s10 : Int) : Option (Lp ((List Ln) × (List Ln) × (List Bs) × (List Ln) × Int) ((List Ln) × Int)) := (U21_11 N s0 s4 s5 s9 s10).eval
noncomputable def W21_11 (N : Nat) (x : ((List Ln) × (List Ln) × (List Bs) × (List Ln) × Int)) : Option (Lp ((List Ln) × (List Ln) × (List Bs) × (List Ln) × Int) ((List Ln) × Int)) := runLoop (fun x => L21_11 N x.1 x.2.1 x.2.2.1 x.2.2.2.1 x.2.2.2.2) N x
theorem WS21_11 (N : Nat) (x : (shTy l21_11).I) : ∀ o, W21_11 N x = some o → S Try.prog (.loop b21_11) (buildSt 104 l21_11 x) (stepZ (rdD Try.prog Try.f21 false) l21_11 (encO 104 l21_11 [2] (fun q => some (E21 q)) o)) :=
  fun o h => loop_S (l := l21_11) (step := fun x => L21_11 N x.1 x.2.1 x.2.2.1 x.2.2.2.1 x.2.2.2.2) (fun x o h => wpc_sound (tbl := [(4, [0], l21_4), (15, [4], l21_15)]) (μ := [18, 20, 22, 35, 54, 88]) mixed _ _ _ (by
    have h1 := Vt.sound _ h
    refine Eq.mp ?_ h1
    kernel_rfl)) N x o h
noncomputable def V21 (N : Nat) (a0 : (List Ln)) : Vt ((List Ln) × Int) (Option D) (fun q => some (E21 q)) :=
  .c1 (P17o N a0) (fun x1 => .c1 (P16o N a0) (fun x2 => .c1 (P27o N x2 ([([97, 112, 112, 108, 121] : Bs)] : (List Bs))) (fun x3 => .f1 (l := l21_4) (o := W21_4 N (a0, x1, x3, 0)) (WS21_4 N (a0, x1, x3, 0)) (fun x4 => .f1 (l := l21_11) (o := W21_11 N (x4.1, x4.2.1, x4.2.2.1, x4.2.1, 0)) (WS21_11 N (x4.1, x4.2.1, x4.2.2.1, x4.2.1, 0)) (fun x5 => .leaf (x5.2.2.2.1, 0))))))
noncomputable def F21 (N : Nat) (a0 : (List Ln)) : Option ((List Ln) × Int) := (V21 N a0).eval
def t21 : List (Nat × List Nat × List (Nat × Sh)) := [(4, [0], l21_4), (15, [4], l21_15), (11, [2], l21_11)]
theorem P21 (N : Nat) (a0 : (List Ln)) : ∀ r, F21 N a0 = some r → Spec Try.prog 21 [.val (.list tLn) a0] (E21 r) := fun r h => Spec_of (fn := Try.f21) rfl rfl rfl rfl false (wpc_sound (tbl := t21) (μ := [18, 20, 22, 35, 54, 88]) mixed _ _ _ (by
  have h1 := Vt.sound _ h
  refine Eq.mp ?_ h1
  kernel_rfl))

/-! ferryslip/ferrysliplaw12.same -/
def E23 : Bool → D := fun x => encV tB x
abbrev l23_4 : List (Nat × Sh) := [(0, .val (.list (.list tS))), (1, .val (.list (.list tS))), (12, .val tI), (13, .val tI)]
noncomputable def b23_4 : Code := loopBody 4 (bodyOf Try.f23)
noncomputable def U23_4 (N : Nat) (s0 : (List (List Bs))) (s1 : (List (List Bs))) (s12 : Int) (s13 : Int) : Vt (Lp (shTy l23_4).I Bool) (O3 (Option D)) (encO 27 l23_4 [0] (fun q => some (E23 q))) :=
  .br (decide (s13 < s12)) (.ck (inR s13 s0.length) (.ck (inR s13 s1.length) (.c1 (P28 N (atI (.list tS) s0 s13) (atI (.list tS) s1 s13)) (fun x1 => .br (!x1) (.leaf (.ret false)) (.leaf (.next (s0, s1, s12, (IntKind.i64.wrap (s13 + 1))))))))) (.leaf (.brk 0 (s0, s1, s12, s13)))
noncomputable def L23_4 (N : Nat) (s0 : (List (List Bs))) (s1 : (List (List Bs))) (s12 : Int) (s13 : Int) : Option (Lp ((List (List Bs)) × (List (List Bs)) × Int × Int) Bool) := (U23_4 N s0 s1 s12 s13).eval
noncomputable def W23_4 (N : Nat) (x : ((List (List Bs)) × (List (List Bs)) × Int × Int)) : Option (Lp ((List (List Bs)) × (List (List Bs)) × Int × Int) Bool) := runLoop (fun x => L23_4 N x.1 x.2.1 x.2.2.1 x.2.2.2) N x
theorem WS23_4 (N : Nat) (x : (shTy l23_4).I) : ∀ o, W23_4 N x = some o → S Try.prog (.loop b23_4) (buildSt 27 l23_4 x) (stepZ (rdD Try.prog Try.f23 false) l23_4 (encO 27 l23_4 [0] (fun q => some (E23 q)) o)) :=
  fun o h => loop_S (l := l23_4) (step := fun x => L23_4 N x.1 x.2.1 x.2.2.1 x.2.2.2) (fun x o h => wpc_sound (tbl := []) (μ := []) mixed _ _ _ (by
    have h1 := Vt.sound _ h
    refine Eq.mp ?_ h1
    kernel_rfl)) N x o h
noncomputable def V23 (N : Nat) (a0 : (List (List Bs))) (a1 : (List (List Bs))) : Vt Bool (Option D) (fun q => some (E23 q)) :=
  .br ((a0.length : Int) != (a1.length : Int)) (.leaf false) (.f1 (l := l23_4) (o := W23_4 N (a0, a1, (a0.length : Int), 0)) (WS23_4 N (a0, a1, (a0.length : Int), 0)) (fun x1 => .leaf true))
noncomputable def F23 (N : Nat) (a0 : (List (List Bs))) (a1 : (List (List Bs))) : Option Bool := (V23 N a0 a1).eval
def t23 : List (Nat × List Nat × List (Nat × Sh)) := [(4, [0], l23_4)]
theorem P23 (N : Nat) (a0 : (List (List Bs))) (a1 : (List (List Bs))) : ∀ r, F23 N a0 a1 = some r → Spec Try.prog 23 [.val (.list (.list tS)) a0, .val (.list (.list tS)) a1] (E23 r) := fun r h => Spec_of (fn := Try.f23) rfl rfl rfl rfl false (wpc_sound (tbl := t23) (μ := []) mixed _ _ _ (by
  have h1 := Vt.sound _ h
  refine Eq.mp ?_ h1
  kernel_rfl))

/-! ferryslip/ferrysliplaw12.GroupsExpand -/
def E4 : Bool → D := fun x => encV tB x
noncomputable def V4 (N : Nat) (a0 : (List Ln)) (a1 : Bs) : Vt Bool (Option D) (fun q => some (E4 q)) :=
  .c1 (P10 N a0) (fun x1 => .br (!x1) (.c1 (P11 N) (fun x2 => .leaf x2)) (.br (decide ((100 : Int) < (a1.length : Int))) (.c1 (P11 N) (fun x3 => .leaf x3)) (.c2 (P18 N a0) (fun x4 x5 => .c2 (P19o N a0 a1) (fun x6 x7 => .c1 (P14 N a0) (fun x8 => .br (!x8) (.br ((x4.length : Int) == 0) (.br (x5 == 1) (.br ((x6.length : Int) == 0) (.br (x7 == 1) (.c1 (P11 N) (fun x9 => .leaf x9)) (.leaf false)) (.leaf false)) (.leaf false)) (.leaf false)) (.c1 (P20 N a0) (fun x10 => .br (!x10) (.c1 (P11 N) (fun x11 => .leaf x11)) (.c2 (P21 N a0) (fun x12 x13 => .c2 (P22o N a0 a1) (fun x14 x15 => .c1 (P15 N x4 x12) (fun x16 => .br x16 (.br (x5 == x13) (.c1 (P23 N x6 x14) (fun x17 => .br x17 (.br (x7 == x15) (.c1 (P11 N) (fun x18 => .leaf x18)) (.leaf false)) (.leaf false))) (.leaf false)) (.leaf false)))))))))))))
noncomputable def F4 (N : Nat) (a0 : (List Ln)) (a1 : Bs) : Option Bool := (V4 N a0 a1).eval
def t4 : List (Nat × List Nat × List (Nat × Sh)) := []
theorem P4 (N : Nat) (a0 : (List Ln)) (a1 : Bs) : ∀ r, F4 N a0 a1 = some r → Spec Try.prog 4 [.val (.list tLn) a0, .val tS a1] (E4 r) := fun r h => Spec_of (fn := Try.f4) rfl rfl rfl rfl false (wpc_sound (tbl := t4) (μ := [30, 67]) mixed _ _ _ (by
  have h1 := Vt.sound _ h
  refine Eq.mp ?_ h1
  kernel_rfl))

/-! ferryslip/ferrysliplaw12.GroupsStay -/
def E5 : Bool → D := fun x => encV tB x
abbrev l5_10 : List (Nat × Sh) := [(0, .val (.list tLn)), (3, .val (.list tLn)), (5, .val (.list tLn)), (75, .val (.list tLn)), (76, .val tI), (77, .val tI)]
noncomputable def b5_10 : Code := loopBody 10 (bodyOf Try.f5)
noncomputable def U5_10 (N : Nat) (s0 : (List Ln)) (s3 : (List Ln)) (s5 : (List Ln)) (s75 : (List Ln)) (s76 : Int) (s77 : Int) : Vt (Lp (shTy l5_10).I Bool) (O3 (Option D)) (encO 176 l5_10 [0] (fun q => some (E5 q))) :=
  .br (decide (s77 < s76)) (.ck (inR s77 s75.length) (.c2 (P25o N s5 s77) (fun x1 x2 => .c2 (P26 N s3 x1) (fun x3 x4 => .br (!x4) (.leaf (.ret false)) (.ck (inR x3 s3.length) (.br (!((((atI tLn s3 x3).1) == ((atI tLn s75 s77).1)) && ((((atI tLn s3 x3).2.1) == ((atI tLn s75 s77).2.1)) && ((((atI tLn s3 x3).2.2) == ((atI tLn s75 s77).2.2)) && true)))) (.leaf (.ret false)) (.leaf (.next (s0, s3, s5, s75, s76, (IntKind.i64.wrap (s77 + 1))))))))))) (.leaf (.brk 0 (s0, s3, s5, s75, s76, s77)))
noncomputable def L5_10 (N : Nat) (s0 : (List Ln)) (s3 : (List Ln)) (s5 : (List Ln)) (s75 : (List Ln)) (s76 : Int) (s77 : Int) : Option (Lp ((List Ln) × (List Ln) × (List Ln) × (List Ln) × Int × Int) Bool) := (U5_10 N s0 s3 s5 s75 s76 s77).eval
noncomputable def W5_10 (N : Nat) (x : ((List Ln) × (List Ln) × (List Ln) × (List Ln) × Int × Int)) : Option (Lp ((List Ln) × (List Ln) × (List Ln) × (List Ln) × Int × Int) Bool) := runLoop (fun x => L5_10 N x.1 x.2.1 x.2.2.1 x.2.2.2.1 x.2.2.2.2.1 x.2.2.2.2.2) N x
theorem WS5_10 (N : Nat) (x : (shTy l5_10).I) : ∀ o, W5_10 N x = some o → S Try.prog (.loop b5_10) (buildSt 176 l5_10 x) (stepZ (rdD Try.prog Try.f5 false) l5_10 (encO 176 l5_10 [0] (fun q => some (E5 q)) o)) :=
  fun o h => loop_S (l := l5_10) (step := fun x => L5_10 N x.1 x.2.1 x.2.2.1 x.2.2.2.1 x.2.2.2.2.1 x.2.2.2.2.2) (fun x o h => wpc_sound (tbl := []) (μ := [46, 85]) mixed _ _ _ (by
    have h1 := Vt.sound _ h
    refine Eq.mp ?_ h1
    kernel_rfl)) N x o h
abbrev l5_19 : List (Nat × Sh) := [(0, .val (.list tLn)), (3, .val (.list tLn)), (5, .val (.list tLn)), (13, .row false 122 41 (.list tS)), (108, .row false 108 9 tS), (109, .val tI), (110, .val tI)]
noncomputable def b5_19 : Code := loopBody 19 (bodyOf Try.f5)
noncomputable def U5_19 (N : Nat) (s0 : (List Ln)) (s3 : (List Ln)) (s5 : (List Ln)) (s13 : (List (List Bs))) (s108 : (List Bs)) (s109 : Int) (s110 : Int) : Vt (Lp (shTy l5_19).I Bool) (O3 (Option D)) (encO 176 l5_19 [2] (fun q => some (E5 q))) :=
  .br (decide (s110 < s109)) (.ck (inR s110 s108.length) (.ck (inR s110 s108.length) (.c2 (P19o N s0 (atI tS s108 s110)) (fun x1 x2 => .ck (room (s13.length + x1.length)) (.leaf (.next (s0, s3, s5, (s13 ++ x1), s108, s109, (IntKind.i64.wrap (s110 + 1))))))))) (.leaf (.brk 0 (s0, s3, s5, s13, s108, s109, s110)))
noncomputable def L5_19 (N : Nat) (s0 : (List Ln)) (s3 : (List Ln)) (s5 : (List Ln)) (s13 : (List (List Bs))) (s108 : (List Bs)) (s109 : Int) (s110 : Int) : Option (Lp ((List Ln) × (List Ln) × (List Ln) × (List (List Bs)) × (List Bs) × Int × Int) Bool) := (U5_19 N s0 s3 s5 s13 s108 s109 s110).eval
noncomputable def W5_19 (N : Nat) (x : ((List Ln) × (List Ln) × (List Ln) × (List (List Bs)) × (List Bs) × Int × Int)) : Option (Lp ((List Ln) × (List Ln) × (List Ln) × (List (List Bs)) × (List Bs) × Int × Int) Bool) := runLoop (fun x => L5_19 N x.1 x.2.1 x.2.2.1 x.2.2.2.1 x.2.2.2.2.1 x.2.2.2.2.2.1 x.2.2.2.2.2.2) N x
theorem WS5_19 (N : Nat) (x : (shTy l5_19).I) : ∀ o, W5_19 N x = some o → S Try.prog (.loop b5_19) (buildSt 176 l5_19 x) (stepZ (rdD Try.prog Try.f5 false) l5_19 (encO 176 l5_19 [2] (fun q => some (E5 q)) o)) :=
  fun o h => loop_S (l := l5_19) (step := fun x => L5_19 N x.1 x.2.1 x.2.2.1 x.2.2.2.1 x.2.2.2.2.1 x.2.2.2.2.2.1 x.2.2.2.2.2.2) (fun x o h => wpc_sound (tbl := [(10, [0], l5_10)]) (μ := [46, 85, 106, 108, 117]) mixed _ _ _ (by
    have h1 := Vt.sound _ h
    refine Eq.mp ?_ h1
    kernel_rfl)) N x o h
abbrev l5_30 : List (Nat × Sh) := [(3, .val (.list tLn)), (5, .val (.list tLn)), (13, .val (.list (.list tS))), (18, .val tI), (19, .row false 132 9 tS), (22, .val tB), (125, .val tI), (126, .val tI), (141, .val (.list (.list tS))), (142, .val tI), (143, .val tI)]
noncomputable def b5_30 : Code := loopBody 30 (bodyOf Try.f5)
noncomputable def U5_30 (N : Nat) (s3 : (List Ln)) (s5 : (List Ln)) (s13 : (List (List Bs))) (s18 : Int) (s19 : (List Bs)) (s22 : Bool) (s125 : Int) (s126 : Int) (s141 : (List (List Bs))) (s142 : Int) (s143 : Int) : Vt (Lp (shTy l5_30).I Bool) (O3 (Option D)) (encO 176 l5_30 [6] (fun q => some (E5 q))) :=
  .br (decide (s143 < s142)) (.ck (inR s143 s141.length) (.br s22 (.leaf (.next (s3, s5, s13, s18, s19, true, s125, s126, s141, s142, (IntKind.i64.wrap (s143 + 1))))) (.br (decide ((s19.length : Int) ≤ ((atI (.list tS) s141 s143).length : Int))) (.ck ((0 : Int) ≤ 0 ∧ (0 : Int) ≤ (s19.length : Int) ∧ (s19.length : Int) ≤ ((atI (.list tS) s141 s143).length : Int)) (.c1 (P28 N (slc (atI (.list tS) s141 s143) 0 (s19.length : Int)) s19) (fun x1 => .leaf (.next (s3, s5, s13, s18, s19, x1, s125, s126, s141, s142, (IntKind.i64.wrap (s143 + 1))))))) (.leaf (.next (s3, s5, s13, s18, s19, false, s125, s126, s141, s142, (IntKind.i64.wrap (s143 + 1)))))))) (.leaf (.brk 0 (s3, s5, s13, s18, s19, s22, s125, s126, s141, s142, s143)))
noncomputable def L5_30 (N : Nat) (s3 : (List Ln)) (s5 : (List Ln)) (s13 : (List (List Bs))) (s18 : Int) (s19 : (List Bs)) (s22 : Bool) (s125 : Int) (s126 : Int) (s141 : (List (List Bs))) (s142 : Int) (s143 : Int) : Option (Lp ((List Ln) × (List Ln) × (List (List Bs)) × Int × (List Bs) × Bool × Int × Int × (List (List Bs)) × Int × Int) Bool) := (U5_30 N s3 s5 s13 s18 s19 s22 s125 s126 s141 s142 s143).eval
noncomputable def W5_30 (N : Nat) (x : ((List Ln) × (List Ln) × (List (List Bs)) × Int × (List Bs) × Bool × Int × Int × (List (List Bs)) × Int × Int)) : Option (Lp ((List Ln) × (List Ln) × (List (List Bs)) × Int × (List Bs) × Bool × Int × Int × (List (List Bs)) × Int × Int) Bool) := runLoop (fun x => L5_30 N x.1 x.2.1 x.2.2.1 x.2.2.2.1 x.2.2.2.2.1 x.2.2.2.2.2.1 x.2.2.2.2.2.2.1 x.2.2.2.2.2.2.2.1 x.2.2.2.2.2.2.2.2.1 x.2.2.2.2.2.2.2.2.2.1 x.2.2.2.2.2.2.2.2.2.2) N x
theorem WS5_30 (N : Nat) (x : (shTy l5_30).I) : ∀ o, W5_30 N x = some o → S Try.prog (.loop b5_30) (buildSt 176 l5_30 x) (stepZ (rdD Try.prog Try.f5 false) l5_30 (encO 176 l5_30 [6] (fun q => some (E5 q)) o)) :=
  fun o h => loop_S (l := l5_30) (step := fun x => L5_30 N x.1 x.2.1 x.2.2.1 x.2.2.2.1 x.2.2.2.2.1 x.2.2.2.2.2.1 x.2.2.2.2.2.2.1 x.2.2.2.2.2.2.2.1 x.2.2.2.2.2.2.2.2.1 x.2.2.2.2.2.2.2.2.2.1 x.2.2.2.2.2.2.2.2.2.2) (fun x o h => wpc_sound (tbl := [(10, [0], l5_10), (19, [2], l5_19)]) (μ := [46, 85, 106, 108, 117, 132]) mixed _ _ _ (by
    have h1 := Vt.sound _ h
    refine Eq.mp ?_ h1
    kernel_rfl)) N x o h
abbrev l5_25 : List (Nat × Sh) := [(3, .val (.list tLn)), (5, .val (.list tLn)), (13, .val (.list (.list tS))), (125, .val tI), (126, .val tI)]
noncomputable def b5_25 : Code := loopBody 25 (bodyOf Try.f5)
noncomputable def U5_25 (N : Nat) (s3 : (List Ln)) (s5 : (List Ln)) (s13 : (List (List Bs))) (s125 : Int) (s126 : Int) : Vt (Lp (shTy l5_25).I Bool) (O3 (Option D)) (encO 176 l5_25 [4] (fun q => some (E5 q))) :=
  .br (decide (s126 < s125)) (.c2 (P25o N s3 s126) (fun x1 x2 => .c2 (P26 N s5 x1) (fun x3 x4 => .g1 (l := l5_30) (o := W5_30 N (s3, s5, s13, s126, x1, x4, s125, s126, s13, (s13.length : Int), 0)) (WS5_30 N (s3, s5, s13, s126, x1, x4, s125, s126, s13, (s13.length : Int), 0)) (fun x5 => .br (!x5.2.2.2.2.2.1) (.leaf (.ret false)) (.ck (inR x5.2.2.2.1 x5.1.length) (.br (((atI tLn x5.1 x5.2.2.2.1).2.2) != 0) (.leaf (.ret false)) (.leaf (.next (x5.1, x5.2.1, x5.2.2.1, x5.2.2.2.2.2.2.1, (IntKind.i64.wrap (x5.2.2.2.2.2.2.2.1 + 1))))))))))) (.leaf (.brk 0 (s3, s5, s13, s125, s126)))
noncomputable def L5_25 (N : Nat) (s3 : (List Ln)) (s5 : (List Ln)) (s13 : (List (List Bs))) (s125 : Int) (s126 : Int) : Option (Lp ((List Ln) × (List Ln) × (List (List Bs)) × Int × Int) Bool) := (U5_25 N s3 s5 s13 s125 s126).eval
noncomputable def W5_25 (N : Nat) (x : ((List Ln) × (List Ln) × (List (List Bs)) × Int × Int)) : Option (Lp ((List Ln) × (List Ln) × (List (List Bs)) × Int × Int) Bool) := runLoop (fun x => L5_25 N x.1 x.2.1 x.2.2.1 x.2.2.2.1 x.2.2.2.2) N x
theorem WS5_25 (N : Nat) (x : (shTy l5_25).I) : ∀ o, W5_25 N x = some o → S Try.prog (.loop b5_25) (buildSt 176 l5_25 x) (stepZ (rdD Try.prog Try.f5 false) l5_25 (encO 176 l5_25 [4] (fun q => some (E5 q)) o)) :=
  fun o h => loop_S (l := l5_25) (step := fun x => L5_25 N x.1 x.2.1 x.2.2.1 x.2.2.2.1 x.2.2.2.2) (fun x o h => wpc_sound (tbl := [(10, [0], l5_10), (19, [2], l5_19), (30, [6], l5_30)]) (μ := [46, 85, 106, 108, 117, 132]) mixed _ _ _ (by
    have h1 := Vt.sound _ h
    refine Eq.mp ?_ h1
    kernel_rfl)) N x o h
noncomputable def V5 (N : Nat) (a0 : (List Ln)) : Vt Bool (Option D) (fun q => some (E5 q)) :=
  .c1 (P10 N a0) (fun x1 => .br (!x1) (.c1 (P11 N) (fun x2 => .leaf x2)) (.c1 (P14 N a0) (fun x3 => .br (!x3) (.c1 (P11 N) (fun x4 => .leaf x4)) (.c1 (P20 N a0) (fun x5 => .br (!x5) (.c1 (P11 N) (fun x6 => .leaf x6)) (.c2 (P18 N a0) (fun x7 x8 => .c2 (P13o N a0) (fun x9 x10 => .br (x8 != 0) (.br (x10 == 0) (.br ((x7.length : Int) == 0) (.c1 (P11 N) (fun x11 => .leaf x11)) (.leaf false)) (.leaf false)) (.br (x10 != 0) (.br (x10 == 0) (.br ((x7.length : Int) == 0) (.c1 (P11 N) (fun x12 => .leaf x12)) (.leaf false)) (.leaf false)) (.c1 (P24 N x7) (fun x13 => .br (!x13) (.leaf false) (.br (decide ((x7.length : Int) < (x9.length : Int))) (.leaf false) (.f1 (l := l5_10) (o := W5_10 N (a0, x7, x9, x9, (x9.length : Int), 0)) (WS5_10 N (a0, x7, x9, x9, (x9.length : Int), 0)) (fun x14 => .c1 (P16o N x14.1) (fun x15 => .c1 (P27o N x15 ([([97, 112, 112, 108, 121] : Bs)] : (List Bs))) (fun x16 => .f1 (l := l5_19) (o := W5_19 N (x14.1, x14.2.1, x14.2.2.1, ([] : (List (List Bs))), x16, (x16.length : Int), 0)) (WS5_19 N (x14.1, x14.2.1, x14.2.2.1, ([] : (List (List Bs))), x16, (x16.length : Int), 0)) (fun x17 => .f1 (l := l5_25) (o := W5_25 N (x17.2.1, x17.2.2.1, x17.2.2.2.1, (x17.2.1.length : Int), 0)) (WS5_25 N (x17.2.1, x17.2.2.1, x17.2.2.2.1, (x17.2.1.length : Int), 0)) (fun x6 => .c1 (P11 N) (fun x7 => .leaf x7)))))))))))))))))))
noncomputable def F5 (N : Nat) (a0 : (List Ln)) : Option Bool := (V5 N a0).eval
def t5 : List (Nat × List Nat × List (Nat × Sh)) := [(10, [0], l5_10), (19, [2], l5_19), (30, [6], l5_30), (25, [4], l5_25)]
theorem P5 (N : Nat) (a0 : (List Ln)) : ∀ r, F5 N a0 = some r → Spec Try.prog 5 [.val (.list tLn) a0] (E5 r) := fun r h => Spec_of (fn := Try.f5) rfl rfl rfl rfl false (wpc_sound (tbl := t5) (μ := [46, 85, 106, 108, 117, 132]) mixed _ _ _ (by
  have h1 := Vt.sound _ h
  refine Eq.mp ?_ h1
  kernel_rfl))

/-! ferryslip/ferrysliplaw12.GroupsAgain -/
def E6 : Bool → D := fun x => encV tB x
abbrev l6_9 : List (Nat × Sh) := [(0, .val (.list tLn)), (3, .val (.list tLn)), (5, .val (.list tLn)), (6, .val tI), (7, .val tB), (43, .val (.list tLn)), (44, .val tI), (45, .val tI)]
noncomputable def b6_9 : Code := loopBody 9 (bodyOf Try.f6)
noncomputable def U6_9 (N : Nat) (s0 : (List Ln)) (s3 : (List Ln)) (s5 : (List Ln)) (s6 : Int) (s7 : Bool) (s43 : (List Ln)) (s44 : Int) (s45 : Int) : Vt (Lp (shTy l6_9).I Bool) (O3 (Option D)) (encO 89 l6_9 [0] (fun q => some (E6 q))) :=
  .br (decide (s45 < s44)) (.ck (inR s45 s43.length) (.c1 (P29 N s0 s45) (fun x1 => .ck (inR 0 x1.length) (.br s7 (.br (((atI tLn s43 s45).2.2) == 0) (.br (!((atI tS x1 0) == ([103, 114, 111, 117, 112, 115] : Bs))) (.leaf (.next (s0, s3, s5, s6, (!((atI tS x1 0) == ([97, 112, 112, 108, 121] : Bs))), s43, s44, (IntKind.i64.wrap (s45 + 1))))) (.leaf (.next (s0, s3, s5, s6, false, s43, s44, (IntKind.i64.wrap (s45 + 1)))))) (.leaf (.next (s0, s3, s5, s6, false, s43, s44, (IntKind.i64.wrap (s45 + 1)))))) (.leaf (.next (s0, s3, s5, s6, false, s43, s44, (IntKind.i64.wrap (s45 + 1))))))))) (.leaf (.brk 0 (s0, s3, s5, s6, s7, s43, s44, s45)))
noncomputable def L6_9 (N : Nat) (s0 : (List Ln)) (s3 : (List Ln)) (s5 : (List Ln)) (s6 : Int) (s7 : Bool) (s43 : (List Ln)) (s44 : Int) (s45 : Int) : Option (Lp ((List Ln) × (List Ln) × (List Ln) × Int × Bool × (List Ln) × Int × Int) Bool) := (U6_9 N s0 s3 s5 s6 s7 s43 s44 s45).eval
noncomputable def W6_9 (N : Nat) (x : ((List Ln) × (List Ln) × (List Ln) × Int × Bool × (List Ln) × Int × Int)) : Option (Lp ((List Ln) × (List Ln) × (List Ln) × Int × Bool × (List Ln) × Int × Int) Bool) := runLoop (fun x => L6_9 N x.1 x.2.1 x.2.2.1 x.2.2.2.1 x.2.2.2.2.1 x.2.2.2.2.2.1 x.2.2.2.2.2.2.1 x.2.2.2.2.2.2.2) N x
theorem WS6_9 (N : Nat) (x : (shTy l6_9).I) : ∀ o, W6_9 N x = some o → S Try.prog (.loop b6_9) (buildSt 89 l6_9 x) (stepZ (rdD Try.prog Try.f6 false) l6_9 (encO 89 l6_9 [0] (fun q => some (E6 q)) o)) :=
  fun o h => loop_S (l := l6_9) (step := fun x => L6_9 N x.1 x.2.1 x.2.2.1 x.2.2.2.1 x.2.2.2.2.1 x.2.2.2.2.2.1 x.2.2.2.2.2.2.1 x.2.2.2.2.2.2.2) (fun x o h => wpc_sound (tbl := []) (μ := []) mixed _ _ _ (by
    have h1 := Vt.sound _ h
    refine Eq.mp ?_ h1
    kernel_rfl)) N x o h
noncomputable def V6 (N : Nat) (a0 : (List Ln)) : Vt Bool (Option D) (fun q => some (E6 q)) :=
  .c1 (P10 N a0) (fun x1 => .br (!x1) (.c1 (P11 N) (fun x2 => .leaf x2)) (.c1 (P14 N a0) (fun x3 => .br (!x3) (.c1 (P11 N) (fun x4 => .leaf x4)) (.c1 (P20 N a0) (fun x5 => .br (!x5) (.c1 (P11 N) (fun x6 => .leaf x6)) (.c2 (P18 N a0) (fun x7 x8 => .br (x8 != 0) (.br ((x7.length : Int) == 0) (.c1 (P11 N) (fun x9 => .leaf x9)) (.leaf false)) (.c2 (P18 N x7) (fun x10 x11 => .f1 (l := l6_9) (o := W6_9 N (a0, x7, x10, x11, true, a0, (a0.length : Int), 0)) (WS6_9 N (a0, x7, x10, x11, true, a0, (a0.length : Int), 0)) (fun x12 => .br (x12.2.2.2.1 == 0) (.c1 (P15 N x12.2.1 x12.2.2.1) (fun x13 => .br x13 (.br (!x12.2.2.2.2.1) (.c1 (P11 N) (fun x14 => .leaf x14)) (.c1 (P15 N x12.2.1 x12.1) (fun x15 => .br x15 (.c1 (P11 N) (fun x16 => .leaf x16)) (.leaf false)))) (.leaf false))) (.leaf false)))))))))))
noncomputable def F6 (N : Nat) (a0 : (List Ln)) : Option Bool := (V6 N a0).eval
def t6 : List (Nat × List Nat × List (Nat × Sh)) := [(9, [0], l6_9)]
theorem P6 (N : Nat) (a0 : (List Ln)) : ∀ r, F6 N a0 = some r → Spec Try.prog 6 [.val (.list tLn) a0] (E6 r) := fun r h => Spec_of (fn := Try.f6) rfl rfl rfl rfl false (wpc_sound (tbl := t6) (μ := []) mixed _ _ _ (by
  have h1 := Vt.sound _ h
  refine Eq.mp ?_ h1
  kernel_rfl))

/-! ferryslip/ferrysliplaw12.GroupsOff -/
def E7 : Bool → D := fun x => encV tB x
noncomputable def V7 (N : Nat) (a0 : (List Ln)) : Vt Bool (Option D) (fun q => some (E7 q)) :=
  .c1 (P10 N a0) (fun x1 => .br (!x1) (.c1 (P11 N) (fun x2 => .leaf x2)) (.c1 (P14 N a0) (fun x3 => .br (!x3) (.c1 (P11 N) (fun x4 => .leaf x4)) (.c1 (P20 N a0) (fun x5 => .br (!x5) (.c1 (P11 N) (fun x6 => .leaf x6)) (.c2 (P12o N a0) (fun x7 x8 => .c2 (P18 N a0) (fun x9 x10 => .c2 (P18 N x7) (fun x11 x12 => .br (x8 == 0) (.c1 (P24 N x7) (fun x13 => .br x13 (.br (x10 == x12) (.c1 (P15 N x9 x11) (fun x14 => .br x14 (.c1 (P11 N) (fun x15 => .leaf x15)) (.leaf false))) (.leaf false)) (.leaf false))) (.leaf false))))))))))
noncomputable def F7 (N : Nat) (a0 : (List Ln)) : Option Bool := (V7 N a0).eval
def t7 : List (Nat × List Nat × List (Nat × Sh)) := []
theorem P7 (N : Nat) (a0 : (List Ln)) : ∀ r, F7 N a0 = some r → Spec Try.prog 7 [.val (.list tLn) a0] (E7 r) := fun r h => Spec_of (fn := Try.f7) rfl rfl rfl rfl false (wpc_sound (tbl := t7) (μ := [25]) mixed _ _ _ (by
  have h1 := Vt.sound _ h
  refine Eq.mp ?_ h1
  kernel_rfl))

/-! ferryslip/ferrysliplaw12.GroupsOther -/
def E8 : Bool → D := fun x => encV tB x
abbrev l8_10 : List (Nat × Sh) := [(0, .val (.list tLn)), (1, .val (.list tLn)), (5, .val (.list tLn)), (68, .val (.list tLn)), (69, .val tI), (70, .val tI)]
noncomputable def b8_10 : Code := loopBody 10 (bodyOf Try.f8)
noncomputable def U8_10 (N : Nat) (s0 : (List Ln)) (s1 : (List Ln)) (s5 : (List Ln)) (s68 : (List Ln)) (s69 : Int) (s70 : Int) : Vt (Lp (shTy l8_10).I Bool) (O3 (Option D)) (encO 117 l8_10 [0] (fun q => some (E8 q))) :=
  .br (decide (s70 < s69)) (.ck (inR s70 s68.length) (.c1 (P29 N s1 s70) (fun x1 => .ck (room (([([103, 114, 111, 117, 112, 115] : Bs), ([122, 122] : Bs)] : (List Bs)).length + x1.length)) (.br (decide ((16 : Int) < ((([([103, 114, 111, 117, 112, 115] : Bs), ([122, 122] : Bs)] : (List Bs)) ++ x1).length : Int))) (.c1 (P11 N) (fun x2 => .leaf (.ret x2))) (.ck ((0 : Int) ≤ 0 ∧ (0 : Int) ≤ (IntKind.i64.wrap (((([([103, 114, 111, 117, 112, 115] : Bs), ([122, 122] : Bs)] : (List Bs)) ++ x1).length : Int) - 1)) ∧ (IntKind.i64.wrap (((([([103, 114, 111, 117, 112, 115] : Bs), ([122, 122] : Bs)] : (List Bs)) ++ x1).length : Int) - 1)) ≤ ((([([103, 114, 111, 117, 112, 115] : Bs), ([122, 122] : Bs)] : (List Bs)) ++ x1).length : Int)) (.c1 (P31o N s5 (slc (([([103, 114, 111, 117, 112, 115] : Bs), ([122, 122] : Bs)] : (List Bs)) ++ x1) 0 (IntKind.i64.wrap (((([([103, 114, 111, 117, 112, 115] : Bs), ([122, 122] : Bs)] : (List Bs)) ++ x1).length : Int) - 1))) ((atI tLn s68 s70).2.1) ((atI tLn s68 s70).2.2)) (fun x3 => .leaf (.next (s0, s1, x3, s68, s69, (IntKind.i64.wrap (s70 + 1))))))))))) (.leaf (.brk 0 (s0, s1, s5, s68, s69, s70)))
noncomputable def L8_10 (N : Nat) (s0 : (List Ln)) (s1 : (List Ln)) (s5 : (List Ln)) (s68 : (List Ln)) (s69 : Int) (s70 : Int) : Option (Lp ((List Ln) × (List Ln) × (List Ln) × (List Ln) × Int × Int) Bool) := (U8_10 N s0 s1 s5 s68 s69 s70).eval
noncomputable def W8_10 (N : Nat) (x : ((List Ln) × (List Ln) × (List Ln) × (List Ln) × Int × Int)) : Option (Lp ((List Ln) × (List Ln) × (List Ln) × (List Ln) × Int × Int) Bool) := runLoop (fun x => L8_10 N x.1 x.2.1 x.2.2.1 x.2.2.2.1 x.2.2.2.2.1 x.2.2.2.2.2) N x
theorem WS8_10 (N : Nat) (x : (shTy l8_10).I) : ∀ o, W8_10 N x = some o → S Try.prog (.loop b8_10) (buildSt 117 l8_10 x) (stepZ (rdD Try.prog Try.f8 false) l8_10 (encO 117 l8_10 [0] (fun q => some (E8 q)) o)) :=
  fun o h => loop_S (l := l8_10) (step := fun x => L8_10 N x.1 x.2.1 x.2.2.1 x.2.2.2.1 x.2.2.2.2.1 x.2.2.2.2.2) (fun x o h => wpc_sound (tbl := []) (μ := [64, 67, 94]) mixed _ _ _ (by
    have h1 := Vt.sound _ h
    refine Eq.mp ?_ h1
    kernel_rfl)) N x o h
noncomputable def V8 (N : Nat) (a0 : (List Ln)) (a1 : (List Ln)) : Vt Bool (Option D) (fun q => some (E8 q)) :=
  .c1 (P10 N a0) (fun x1 => .br (!x1) (.c1 (P11 N) (fun x2 => .leaf x2)) (.c1 (P10 N a1) (fun x3 => .br (!x3) (.c1 (P11 N) (fun x4 => .leaf x4)) (.br (decide ((40 : Int) < (a0.length : Int))) (.c1 (P11 N) (fun x5 => .leaf x5)) (.br (decide ((40 : Int) < (a1.length : Int))) (.c1 (P11 N) (fun x6 => .leaf x6)) (.c1 (P14 N a0) (fun x7 => .br (!x7) (.c1 (P11 N) (fun x8 => .leaf x8)) (.c1 (P14 N a1) (fun x9 => .br (!x9) (.c1 (P11 N) (fun x10 => .leaf x10)) (.c1 (P20 N a0) (fun x11 => .br (!x11) (.c1 (P11 N) (fun x12 => .leaf x12)) (.c1 (P30 N a0 ([([97, 112, 112, 108, 121] : Bs), ([122, 122] : Bs)] : (List Bs))) (fun x13 => .br (decide ((0 : Int) ≤ x13)) (.c1 (P11 N) (fun x14 => .leaf x14)) (.c1 (P30 N a0 ([([103, 114, 111, 117, 112, 115] : Bs), ([122, 122] : Bs)] : (List Bs))) (fun x15 => .br (decide ((0 : Int) ≤ x15)) (.c1 (P11 N) (fun x16 => .leaf x16)) (.c1 (P30 N a0 ([([103, 114, 111, 117, 112, 115] : Bs)] : (List Bs))) (fun x17 => .br (decide (x17 < 0)) (.c1 (fun x h => Spec.weak (ds := [.val (.list tLn) a0, .nils, .val tS ([103, 114, 111, 117, 112, 115] : Bs), .val tI 0]) (P31o N a0 ([] : (List Bs)) ([103, 114, 111, 117, 112, 115] : Bs) 0 x h) ⟨rfl, rfl, rfl, rfl, trivial⟩) (fun x18 => .c1 (P31o N x18 ([([103, 114, 111, 117, 112, 115] : Bs)] : (List Bs)) ([122, 122] : Bs) 0) (fun x19 => .f1 (l := l8_10) (o := W8_10 N (a0, a1, x19, a1, (a1.length : Int), 0)) (WS8_10 N (a0, a1, x19, a1, (a1.length : Int), 0)) (fun x4 => .c2 (P18 N x4.1) (fun x5 x6 => .c2 (P18 N x4.2.2.1) (fun x7 x8 => .br (x6 == x8) (.c1 (P15 N x5 x7) (fun x9 => .br x9 (.c1 (P11 N) (fun x10 => .leaf x10)) (.leaf false))) (.leaf false))))))) (.c1 (P31o N a0 ([([103, 114, 111, 117, 112, 115] : Bs)] : (List Bs)) ([122, 122] : Bs) 0) (fun x11 => .f1 (l := l8_10) (o := W8_10 N (a0, a1, x11, a1, (a1.length : Int), 0)) (WS8_10 N (a0, a1, x11, a1, (a1.length : Int), 0)) (fun x12 => .c2 (P18 N x12.1) (fun x13 x14 => .c2 (P18 N x12.2.2.1) (fun x15 x16 => .br (x14 == x16) (.c1 (P15 N x13 x15) (fun x17 => .br x17 (.c1 (P11 N) (fun x18 => .leaf x18)) (.leaf false))) (.leaf false)))))))))))))))))))))))
noncomputable def F8 (N : Nat) (a0 : (List Ln)) (a1 : (List Ln)) : Option Bool := (V8 N a0 a1).eval
def t8 : List (Nat × List Nat × List (Nat × Sh)) := [(10, [0], l8_10)]
theorem P8 (N : Nat) (a0 : (List Ln)) (a1 : (List Ln)) : ∀ r, F8 N a0 a1 = some r → Spec Try.prog 8 [.val (.list tLn) a0, .val (.list tLn) a1] (E8 r) := fun r h => Spec_of (fn := Try.f8) rfl rfl rfl rfl false (wpc_sound (tbl := t8) (μ := [64, 67, 94]) mixed _ _ _ (by
  have h1 := Vt.sound _ h
  refine Eq.mp ?_ h1
  kernel_rfl))

/-! ferryslip/ferrysliplaw12.GroupsPaths -/
def E9 : Bool → D := fun x => encV tB x
abbrev l9_10 : List (Nat × Sh) := [(1, .val tS), (7, .val (.list tLn)), (9, .val (.list tLn)), (10, .val tI), (11, .row false 67 9 tS), (68, .row false 39 41 (.list tS)), (69, .val tI), (70, .val tI)]
noncomputable def b9_10 : Code := loopBody 10 (bodyOf Try.f9)
noncomputable def U9_10 (N : Nat) (s1 : Bs) (s7 : (List Ln)) (s9 : (List Ln)) (s10 : Int) (s11 : (List Bs)) (s68 : (List (List Bs))) (s69 : Int) (s70 : Int) : Vt (Lp (shTy l9_10).I Bool) (O3 (Option D)) (encO 130 l9_10 [0] (fun q => some (E9 q))) :=
  .br (decide (s70 < s69)) (.ck (inR s70 s68.length) (.ck (inR s70 s68.length) (.br (((atI (.list tS) s68 s70).length : Int) == 0) (.leaf (.ret false)) (.ck (inR 0 (atI (.list tS) s68 s70).length) (.br ((atI tS (atI (.list tS) s68 s70) 0) == ([103, 114, 111, 117, 112, 115] : Bs)) (.br (s10 != 0) (.leaf (.next (s1, s7, s9, s10, s11, s68, s69, (IntKind.i64.wrap (s70 + 1))))) (.br ((s11.length : Int) != 1) (.leaf (.next (s1, s7, s9, s10, s11, s68, s69, (IntKind.i64.wrap (s70 + 1))))) (.ck (inR 0 s11.length) (.ck (inR 0 s11.length) (.br (!((atI tS s11 0) == s1)) (.leaf (.next (s1, s7, s9, s10, s11, s68, s69, (IntKind.i64.wrap (s70 + 1))))) (.leaf (.next (s1, s7, s9, s10, s11, s68, s69, (IntKind.i64.wrap (s70 + 1)))))))))) (.ck (inR 0 (atI (.list tS) s68 s70).length) (.br (s10 != 0) (.leaf (.next (s1, s7, s9, s10, s11, s68, s69, (IntKind.i64.wrap (s70 + 1))))) (.br ((s11.length : Int) != 1) (.leaf (.next (s1, s7, s9, s10, s11, s68, s69, (IntKind.i64.wrap (s70 + 1))))) (.ck (inR 0 s11.length) (.ck (inR 0 s11.length) (.br (!((atI tS s11 0) == s1)) (.leaf (.next (s1, s7, s9, s10, s11, s68, s69, (IntKind.i64.wrap (s70 + 1))))) (.br ((atI tS (atI (.list tS) s68 s70) 0) == ([97, 112, 112, 108, 121] : Bs)) (.leaf (.next (s1, s7, s9, s10, s11, s68, s69, (IntKind.i64.wrap (s70 + 1))))) (.br (decide ((1 : Int) < ((atI (.list tS) s68 s70).length : Int))) (.ck ((0 : Int) ≤ 0 ∧ (0 : Int) ≤ (IntKind.i64.wrap (((atI (.list tS) s68 s70).length : Int) - 1)) ∧ (IntKind.i64.wrap (((atI (.list tS) s68 s70).length : Int) - 1)) ≤ ((atI (.list tS) s68 s70).length : Int)) (.c1 (P27o N s7 (slc (atI (.list tS) s68 s70) 0 (IntKind.i64.wrap (((atI (.list tS) s68 s70).length : Int) - 1)))) (fun x1 => .br (decide ((0 : Int) < (x1.length : Int))) (.leaf (.next (s1, s7, s9, s10, s11, s68, s69, (IntKind.i64.wrap (s70 + 1))))) (.c2 (P26 N s9 (atI (.list tS) s68 s70)) (fun x2 x3 => .br (!x3) (.leaf (.ret false)) (.leaf (.next (s1, s7, s9, s10, s11, s68, s69, (IntKind.i64.wrap (s70 + 1)))))))))) (.c2 (P26 N s9 (atI (.list tS) s68 s70)) (fun x4 x5 => .br (!x5) (.leaf (.ret false)) (.leaf (.next (s1, s7, s9, s10, s11, s68, s69, (IntKind.i64.wrap (s70 + 1)))))))))))))))))))) (.leaf (.brk 0 (s1, s7, s9, s10, s11, s68, s69, s70)))
noncomputable def L9_10 (N : Nat) (s1 : Bs) (s7 : (List Ln)) (s9 : (List Ln)) (s10 : Int) (s11 : (List Bs)) (s68 : (List (List Bs))) (s69 : Int) (s70 : Int) : Option (Lp (Bs × (List Ln) × (List Ln) × Int × (List Bs) × (List (List Bs)) × Int × Int) Bool) := (U9_10 N s1 s7 s9 s10 s11 s68 s69 s70).eval
noncomputable def W9_10 (N : Nat) (x : (Bs × (List Ln) × (List Ln) × Int × (List Bs) × (List (List Bs)) × Int × Int)) : Option (Lp (Bs × (List Ln) × (List Ln) × Int × (List Bs) × (List (List Bs)) × Int × Int) Bool) := runLoop (fun x => L9_10 N x.1 x.2.1 x.2.2.1 x.2.2.2.1 x.2.2.2.2.1 x.2.2.2.2.2.1 x.2.2.2.2.2.2.1 x.2.2.2.2.2.2.2) N x
theorem WS9_10 (N : Nat) (x : (shTy l9_10).I) : ∀ o, W9_10 N x = some o → S Try.prog (.loop b9_10) (buildSt 130 l9_10 x) (stepZ (rdD Try.prog Try.f9 false) l9_10 (encO 130 l9_10 [0] (fun q => some (E9 q)) o)) :=
  fun o h => loop_S (l := l9_10) (step := fun x => L9_10 N x.1 x.2.1 x.2.2.1 x.2.2.2.1 x.2.2.2.2.1 x.2.2.2.2.2.1 x.2.2.2.2.2.2.1 x.2.2.2.2.2.2.2) (fun x o h => wpc_sound (tbl := []) (μ := [39, 44, 65, 67, 115]) mixed _ _ _ (by
    have h1 := Vt.sound _ h
    refine Eq.mp ?_ h1
    kernel_rfl)) N x o h
noncomputable def V9 (N : Nat) (a0 : (List Ln)) (a1 : Bs) : Vt Bool (Option D) (fun q => some (E9 q)) :=
  .c1 (P10 N a0) (fun x1 => .br (!x1) (.c1 (P11 N) (fun x2 => .leaf x2)) (.c1 (P14 N a0) (fun x3 => .br (!x3) (.c1 (P11 N) (fun x4 => .leaf x4)) (.c1 (P20 N a0) (fun x5 => .br (!x5) (.c1 (P11 N) (fun x6 => .leaf x6)) (.br (decide ((100 : Int) < (a1.length : Int))) (.c1 (P11 N) (fun x7 => .leaf x7)) (.c2 (P19o N a0 a1) (fun x8 x9 => .c2 (P13o N a0) (fun x10 x11 => .br (x9 != 0) (.br (x11 == 0) (.br ((x8.length : Int) == 0) (.c1 (P11 N) (fun x12 => .leaf x12)) (.leaf false)) (.leaf false)) (.c2 (P18 N a0) (fun x13 x14 => .c1 (P16o N a0) (fun x15 => .c1 (P27o N x15 ([([97, 112, 112, 108, 121] : Bs)] : (List Bs))) (fun x16 => .f1 (l := l9_10) (o := W9_10 N (a1, x10, x13, x14, x16, x8, (x8.length : Int), 0)) (WS9_10 N (a1, x10, x13, x14, x16, x8, (x8.length : Int), 0)) (fun x2 => .c1 (P11 N) (fun x3 => .leaf x3)))))))))))))))
noncomputable def F9 (N : Nat) (a0 : (List Ln)) (a1 : Bs) : Option Bool := (V9 N a0 a1).eval
def t9 : List (Nat × List Nat × List (Nat × Sh)) := [(10, [0], l9_10)]
theorem P9 (N : Nat) (a0 : (List Ln)) (a1 : Bs) : ∀ r, F9 N a0 a1 = some r → Spec Try.prog 9 [.val (.list tLn) a0, .val tS a1] (E9 r) := fun r h => Spec_of (fn := Try.f9) rfl rfl rfl rfl false (wpc_sound (tbl := t9) (μ := [39, 44, 65, 67, 115]) mixed _ _ _ (by
  have h1 := Vt.sound _ h
  refine Eq.mp ?_ h1
  kernel_rfl))

end Go.Proofs.Ytannkhelkpmcfaa.Vc
