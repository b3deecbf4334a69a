/-
  WHAT THE FUNCTIONS DO WITH DATA, printed by a program from the translation. No condition.
-/
import Derived.Test.YtnkinnhgahpcoaaVx
import Derived.Test.YtnkinnhgahpcoaaVp
import Derived.Test.YtnkinnhgahpcoaaAf
set_option linter.unusedVariables false
set_option linter.unusedSimpArgs false
set_option maxRecDepth 100000
namespace Go.Proofs.Ytnkinnhgahpcoaa.Vc
open Go.RowKit

/-! slices.BinarySearchFunc[[]ferryslip/host.Entry,ferryslip/host.Entry,ferryslip/host.Entry] -/
def E34C35 : (Int × Bool) → D := fun x => .tup [encV tI x.1, encV tB x.2]
abbrev l34C35_3 : List (Nat × Sh) := [(0, .val (.list (.pair tS (.pair tI (.pair tS tS))))), (2, .fnc 35), (4, .cel false 4 44 (.pair tS (.pair tI (.pair tS tS)))), (8, .val tI), (9, .val tI), (10, .val tI)]
noncomputable def b34C35_3 : Code := loopBody 3 (bodyOf Try.f34)
noncomputable def U34C35_3 (N : Nat) (s0 : (List (Bs × (Int × (Bs × Bs))))) (s2 : Bool) (s4 : (Bs × (Int × (Bs × Bs)))) (s8 : Int) (s9 : Int) (s10 : Int) : Vt (Lp (shTy l34C35_3).I (Int × Bool)) (O3 (Option D)) (encO 49 l34C35_3 [0] (fun q => some (E34C35 q))) :=
  .br (decide (s9 < s10)) (.ck (0 ≤ (1 : Int)) (.ck (inR (IntKind.i64.wrap ((IntKind.u64.wrap (IntKind.i64.wrap (s9 + s10))).fdiv (2 ^ (min (1 : Int).toNat (IntKind.u64.bits))))) s0.length) (.c1 (P35 N (atI (.pair tS (.pair tI (.pair tS tS))) s0 (IntKind.i64.wrap ((IntKind.u64.wrap (IntKind.i64.wrap (s9 + s10))).fdiv (2 ^ (min (1 : Int).toNat (IntKind.u64.bits)))))) s4) (fun x1 => .br (decide (x1 < 0)) (.leaf (.next (s0, true, s4, s8, (IntKind.i64.wrap ((IntKind.i64.wrap ((IntKind.u64.wrap (IntKind.i64.wrap (s9 + s10))).fdiv (2 ^ (min (1 : Int).toNat (IntKind.u64.bits))))) + 1)), s10))) (.leaf (.next (s0, true, s4, s8, s9, (IntKind.i64.wrap ((IntKind.u64.wrap (IntKind.i64.wrap (s9 + s10))).fdiv (2 ^ (min (1 : Int).toNat (IntKind.u64.bits)))))))))))) (.leaf (.brk 0 (s0, true, s4, s8, s9, s10)))
noncomputable def L34C35_3 (N : Nat) (s0 : (List (Bs × (Int × (Bs × Bs))))) (s2 : Bool) (s4 : (Bs × (Int × (Bs × Bs)))) (s8 : Int) (s9 : Int) (s10 : Int) : Option (Lp ((List (Bs × (Int × (Bs × Bs)))) × Bool × (Bs × (Int × (Bs × Bs))) × Int × Int × Int) (Int × Bool)) := (U34C35_3 N s0 s2 s4 s8 s9 s10).eval
noncomputable def W34C35_3 (N : Nat) (x : ((List (Bs × (Int × (Bs × Bs)))) × Bool × (Bs × (Int × (Bs × Bs))) × Int × Int × Int)) : Option (Lp ((List (Bs × (Int × (Bs × Bs)))) × Bool × (Bs × (Int × (Bs × Bs))) × Int × Int × Int) (Int × Bool)) := runLoop (fun x => L34C35_3 N x.1 x.2.1 x.2.2.1 x.2.2.2.1 x.2.2.2.2.1 x.2.2.2.2.2) N x
theorem WS34C35_3 (N : Nat) (x : (shTy l34C35_3).I) : ∀ o, W34C35_3 N x = some o → S Try.prog (.loop b34C35_3) (buildSt 49 l34C35_3 x) (stepZ (rdD Try.prog Try.f34 false) l34C35_3 (encO 49 l34C35_3 [0] (fun q => some (E34C35 q)) o)) :=
  fun o h => loop_S (l := l34C35_3) (step := fun x => L34C35_3 N x.1 x.2.1 x.2.2.1 x.2.2.2.1 x.2.2.2.2.1 x.2.2.2.2.2) (fun x o h => wpc_sound (tbl := []) (μ := []) mixed _ _ _ (by
    have h1 := Vt.sound _ h
    refine Eq.mp ?_ h1
    kernel_rfl)) N x o h
noncomputable def V34C35 (N : Nat) (a0 : (List (Bs × (Int × (Bs × Bs))))) (a1 : (Bs × (Int × (Bs × Bs)))) : Vt (Int × Bool) (Option D) (fun q => some (E34C35 q)) :=
  .f1 (l := l34C35_3) (o := W34C35_3 N (a0, true, a1, (a0.length : Int), 0, (a0.length : Int))) (WS34C35_3 N (a0, true, a1, (a0.length : Int), 0, (a0.length : Int))) (fun x1 => .br (decide (x1.2.2.2.2.1 < x1.2.2.2.1)) (.ck (inR x1.2.2.2.2.1 x1.1.length) (.c1 (P35 N (atI (.pair tS (.pair tI (.pair tS tS))) x1.1 x1.2.2.2.2.1) x1.2.2.1) (fun x2 => .leaf (x1.2.2.2.2.1, (x2 == 0))))) (.leaf (x1.2.2.2.2.1, false)))
noncomputable def F34C35 (N : Nat) (a0 : (List (Bs × (Int × (Bs × Bs))))) (a1 : (Bs × (Int × (Bs × Bs)))) : Option (Int × Bool) := (V34C35 N a0 a1).eval
def t34C35 : List (Nat × List Nat × List (Nat × Sh)) := [(3, [0], l34C35_3)]
theorem P34C35 (N : Nat) (a0 : (List (Bs × (Int × (Bs × Bs))))) (a1 : (Bs × (Int × (Bs × Bs)))) : ∀ r, F34C35 N a0 a1 = some r → Spec Try.prog 34 [.val (.list (.pair tS (.pair tI (.pair tS tS)))) a0, .agg [.val tS a1.1, .val tI a1.2.1, .val tS a1.2.2.1, .val tS a1.2.2.2], .fn (.func 35)] (E34C35 r) := fun r h => Spec_of (fn := Try.f34) rfl rfl rfl rfl false (wpc_sound (tbl := t34C35) (μ := []) mixed _ _ _ (by
  have h1 := Vt.sound _ h
  refine Eq.mp ?_ h1
  kernel_rfl))

/-! ferryslip/patch.less$1 -/
def E33 : Bool → D := fun x => encV tB x
noncomputable def V33 (N : Nat) (a0 : (Bs × (Int × (Bs × Bs)))) (c0 : (List (Bs × (Int × (Bs × Bs))))) : Vt Bool (Option D) (fun q => some (E33 q)) :=
  .c2 (P34C35 N c0 a0) (fun x1 x2 => .leaf x2)
noncomputable def F33 (N : Nat) (a0 : (Bs × (Int × (Bs × Bs)))) (c0 : (List (Bs × (Int × (Bs × Bs))))) : Option Bool := (V33 N a0 c0).eval
def t33 : List (Nat × List Nat × List (Nat × Sh)) := []
theorem P33 (N : Nat) (a0 : (Bs × (Int × (Bs × Bs)))) (c0 : (List (Bs × (Int × (Bs × Bs))))) : ∀ r, F33 N a0 c0 = some r → Spec Try.prog 33 [.agg [.val tS a0.1, .val tI a0.2.1, .val tS a0.2.2.1, .val tS a0.2.2.2], .ept [.val (.list (.pair tS (.pair tI (.pair tS tS)))) c0]] (E33 r) := fun r h => Spec_of (fn := Try.f33) rfl rfl rfl rfl false (wpc_sound (tbl := t33) (μ := []) mixed _ _ _ (by
  have h1 := Vt.sound _ h
  refine Eq.mp ?_ h1
  kernel_rfl))

/-! ferryslip/patch.of$1 -/
def E37 : Bool → D := fun x => encV tB x
noncomputable def V37 (N : Nat) (a0 : (Bs × (Int × (Bs × Bs)))) (c0 : Bs) : Vt Bool (Option D) (fun q => some (E37 q)) :=
  .leaf (!(a0.1 == c0))
noncomputable def F37 (N : Nat) (a0 : (Bs × (Int × (Bs × Bs)))) (c0 : Bs) : Option Bool := (V37 N a0 c0).eval
def t37 : List (Nat × List Nat × List (Nat × Sh)) := []
theorem P37 (N : Nat) (a0 : (Bs × (Int × (Bs × Bs)))) (c0 : Bs) : ∀ r, F37 N a0 c0 = some r → Spec Try.prog 37 [.agg [.val tS a0.1, .val tI a0.2.1, .val tS a0.2.2.1, .val tS a0.2.2.2], .ept [.val tS c0]] (E37 r) := fun r h => Spec_of (fn := Try.f37) rfl rfl rfl rfl false (wpc_sound (tbl := t37) (μ := []) mixed _ _ _ (by
  have h1 := Vt.sound _ h
  refine Eq.mp ?_ h1
  kernel_rfl))

end Go.Proofs.Ytnkinnhgahpcoaa.Vc
