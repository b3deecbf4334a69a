/-
  EACH STATEMENT OF THIS SEAT, OUT OF THE LAW TOLD OF DATA: if the law's call answers true for all data, the given row holds. No condition.
-/
import Derived.Test.YtinbdleemjpkpaaVy
import Derived.Test.YtinbdleemjpkpaaRows
set_option linter.unusedVariables false
set_option linter.unusedSimpArgs false
namespace Go.Proofs.Ytinbdleemjpkpaa
open Go.ChangeShapes Go.WideShapes Go.ChangeAt Go.RowKit

theorem Try.own : ownKnob Try.prog.godebug = none := by kernel_rfl
theorem Try.laidOut : laidOutB Try.prog = true := by kernel_rfl

abbrev TreeExact_us : List Vc.Ty := [(.list Vc.tLn), Vc.tI]
set_option maxRecDepth 100000 in
theorem TreeExact_lifted (law : ∀ x : Vc.Args TreeExact_us, Vc.wfArgs TreeExact_us x → Vc.Spec Try.prog 3 (Vc.argDs TreeExact_us x) (.val .bool true)) (os : Os) (started : os.Started) (H : Type) (enc : TypeId × Value → H) :
    ReturnsInHanded {} Try.checked os 3 .any (Rows.treeExactSpec.pre6 enc Try.prog Try.f3 Rows.treeExactRow.domain false) (Rows.treeExactSpec.post enc Try.prog Try.f3 false true false false) := by
  refine returnsInHanded_of_change (C := Try.checked) Try.own started (by kernel_rfl) Try.func3
    (ChangeSpec.witness6 (enc := enc) (C := Try.checked) false ⟨#[], #[.slice none 0 0, .int .i64 0], []⟩ 8 (by kernel_rfl) (by kernel_rfl) (by kernel_rfl) (by kernel_rfl)) ?_
  intro W base args ds gs before hval hW _ _
  exact Vc.law_post Try.laidOut (ts := [22, 3]) (us := TreeExact_us) rfl (by kernel_rfl) (by kernel_rfl) rfl Try.underlying4 rfl (fun ds h => match ds, h with | [_, _], _ => rfl) law W base args ds gs before hval hW
theorem TreeExact_of (law : ∀ x : Vc.Args TreeExact_us, Vc.wfArgs TreeExact_us x → Vc.Spec Try.prog 3 (Vc.argDs TreeExact_us x) (.val .bool true)) : Rows.TreeExactSaid :=
  OpenClaim.holds_of_wide 3 Try.f3 rfl rfl rfl rfl rfl rfl rfl ⟨rfl, rfl, rfl, rfl, rfl⟩ rfl rfl rfl rfl rfl (by kernel_rfl) Try.func3 (by kernel_rfl)
    (of_decide_eq_true (by kernel_rfl)) (by unfold Func.isWrapper; rw [if_neg (of_decide_eq_false (by kernel_rfl))]; exact ⟨rfl, rfl⟩)
    (fun os started H enc _ => TreeExact_lifted law os started H enc)

abbrev TreeFinds_us : List Vc.Ty := [(.list Vc.tLn), (.list Vc.tS)]
set_option maxRecDepth 100000 in
theorem TreeFinds_lifted (law : ∀ x : Vc.Args TreeFinds_us, Vc.wfArgs TreeFinds_us x → Vc.Spec Try.prog 4 (Vc.argDs TreeFinds_us x) (.val .bool true)) (os : Os) (started : os.Started) (H : Type) (enc : TypeId × Value → H) :
    ReturnsInHanded {} Try.checked os 4 .any (Rows.treeFindsSpec.pre6 enc Try.prog Try.f4 Rows.treeFindsRow.domain false) (Rows.treeFindsSpec.post enc Try.prog Try.f4 false true false false) := by
  refine returnsInHanded_of_change (C := Try.checked) Try.own started (by kernel_rfl) Try.func4
    (ChangeSpec.witness6 (enc := enc) (C := Try.checked) false ⟨#[], #[.slice none 0 0, .slice none 0 0], []⟩ 8 (by kernel_rfl) (by kernel_rfl) (by kernel_rfl) (by kernel_rfl)) ?_
  intro W base args ds gs before hval hW _ _
  exact Vc.law_post Try.laidOut (ts := [22, 25]) (us := TreeFinds_us) rfl (by kernel_rfl) (by kernel_rfl) rfl Try.underlying4 rfl (fun ds h => match ds, h with | [_, _], _ => rfl) law W base args ds gs before hval hW
theorem TreeFinds_of (law : ∀ x : Vc.Args TreeFinds_us, Vc.wfArgs TreeFinds_us x → Vc.Spec Try.prog 4 (Vc.argDs TreeFinds_us x) (.val .bool true)) : Rows.TreeFindsSaid :=
  OpenClaim.holds_of_wide 4 Try.f4 rfl rfl rfl rfl rfl rfl rfl ⟨rfl, rfl, rfl, rfl, rfl⟩ rfl rfl rfl rfl rfl (by kernel_rfl) Try.func4 (by kernel_rfl)
    (of_decide_eq_true (by kernel_rfl)) (by unfold Func.isWrapper; rw [if_neg (of_decide_eq_false (by kernel_rfl))]; exact ⟨rfl, rfl⟩)
    (fun os started H enc _ => TreeFinds_lifted law os started H enc)

abbrev TreePaths_us : List Vc.Ty := [(.list Vc.tLn)]
set_option maxRecDepth 100000 in
theorem TreePaths_lifted (law : ∀ x : Vc.Args TreePaths_us, Vc.wfArgs TreePaths_us x → Vc.Spec Try.prog 5 (Vc.argDs TreePaths_us x) (.val .bool true)) (os : Os) (started : os.Started) (H : Type) (enc : TypeId × Value → H) :
    ReturnsInHanded {} Try.checked os 5 .any (Rows.treePathsSpec.pre6 enc Try.prog Try.f5 Rows.treePathsRow.domain false) (Rows.treePathsSpec.post enc Try.prog Try.f5 false true false false) := by
  refine returnsInHanded_of_change (C := Try.checked) Try.own started (by kernel_rfl) Try.func5
    (ChangeSpec.witness6 (enc := enc) (C := Try.checked) false ⟨#[], #[.slice none 0 0], []⟩ 8 (by kernel_rfl) (by kernel_rfl) (by kernel_rfl) (by kernel_rfl)) ?_
  intro W base args ds gs before hval hW _ _
  exact Vc.law_post Try.laidOut (ts := [22]) (us := TreePaths_us) rfl (by kernel_rfl) (by kernel_rfl) rfl Try.underlying4 rfl (fun ds h => match ds, h with | [_], _ => rfl) law W base args ds gs before hval hW
theorem TreePaths_of (law : ∀ x : Vc.Args TreePaths_us, Vc.wfArgs TreePaths_us x → Vc.Spec Try.prog 5 (Vc.argDs TreePaths_us x) (.val .bool true)) : Rows.TreePathsSaid :=
  OpenClaim.holds_of_wide 5 Try.f5 rfl rfl rfl rfl rfl rfl rfl ⟨rfl, rfl, rfl, rfl, rfl⟩ rfl rfl rfl rfl rfl (by kernel_rfl) Try.func5 (by kernel_rfl)
    (of_decide_eq_true (by kernel_rfl)) (by unfold Func.isWrapper; rw [if_neg (of_decide_eq_false (by kernel_rfl))]; exact ⟨rfl, rfl⟩)
    (fun os started H enc _ => TreePaths_lifted law os started H enc)

abbrev TreeParts_us : List Vc.Ty := [(.list Vc.tLn), Vc.tI]
set_option maxRecDepth 100000 in
theorem TreeParts_lifted (law : ∀ x : Vc.Args TreeParts_us, Vc.wfArgs TreeParts_us x → Vc.Spec Try.prog 6 (Vc.argDs TreeParts_us x) (.val .bool true)) (os : Os) (started : os.Started) (H : Type) (enc : TypeId × Value → H) :
    ReturnsInHanded {} Try.checked os 6 .any (Rows.treePartsSpec.pre6 enc Try.prog Try.f6 Rows.treePartsRow.domain false) (Rows.treePartsSpec.post enc Try.prog Try.f6 false true false false) := by
  refine returnsInHanded_of_change (C := Try.checked) Try.own started (by kernel_rfl) Try.func6
    (ChangeSpec.witness6 (enc := enc) (C := Try.checked) false ⟨#[], #[.slice none 0 0, .int .i64 0], []⟩ 8 (by kernel_rfl) (by kernel_rfl) (by kernel_rfl) (by kernel_rfl)) ?_
  intro W base args ds gs before hval hW _ _
  exact Vc.law_post Try.laidOut (ts := [22, 3]) (us := TreeParts_us) rfl (by kernel_rfl) (by kernel_rfl) rfl Try.underlying4 rfl (fun ds h => match ds, h with | [_, _], _ => rfl) law W base args ds gs before hval hW
theorem TreeParts_of (law : ∀ x : Vc.Args TreeParts_us, Vc.wfArgs TreeParts_us x → Vc.Spec Try.prog 6 (Vc.argDs TreeParts_us x) (.val .bool true)) : Rows.TreePartsSaid :=
  OpenClaim.holds_of_wide 6 Try.f6 rfl rfl rfl rfl rfl rfl rfl ⟨rfl, rfl, rfl, rfl, rfl⟩ rfl rfl rfl rfl rfl (by kernel_rfl) Try.func6 (by kernel_rfl)
    (of_decide_eq_true (by kernel_rfl)) (by unfold Func.isWrapper; rw [if_neg (of_decide_eq_false (by kernel_rfl))]; exact ⟨rfl, rfl⟩)
    (fun os started H enc _ => TreeParts_lifted law os started H enc)

abbrev TreeKids_us : List Vc.Ty := [(.list Vc.tLn)]
set_option maxRecDepth 100000 in
theorem TreeKids_lifted (law : ∀ x : Vc.Args TreeKids_us, Vc.wfArgs TreeKids_us x → Vc.Spec Try.prog 7 (Vc.argDs TreeKids_us x) (.val .bool true)) (os : Os) (started : os.Started) (H : Type) (enc : TypeId × Value → H) :
    ReturnsInHanded {} Try.checked os 7 .any (Rows.treeKidsSpec.pre6 enc Try.prog Try.f7 Rows.treeKidsRow.domain false) (Rows.treeKidsSpec.post enc Try.prog Try.f7 false true false false) := by
  refine returnsInHanded_of_change (C := Try.checked) Try.own started (by kernel_rfl) Try.func7
    (ChangeSpec.witness6 (enc := enc) (C := Try.checked) false ⟨#[], #[.slice none 0 0], []⟩ 8 (by kernel_rfl) (by kernel_rfl) (by kernel_rfl) (by kernel_rfl)) ?_
  intro W base args ds gs before hval hW _ _
  exact Vc.law_post Try.laidOut (ts := [22]) (us := TreeKids_us) rfl (by kernel_rfl) (by kernel_rfl) rfl Try.underlying4 rfl (fun ds h => match ds, h with | [_], _ => rfl) law W base args ds gs before hval hW
theorem TreeKids_of (law : ∀ x : Vc.Args TreeKids_us, Vc.wfArgs TreeKids_us x → Vc.Spec Try.prog 7 (Vc.argDs TreeKids_us x) (.val .bool true)) : Rows.TreeKidsSaid :=
  OpenClaim.holds_of_wide 7 Try.f7 rfl rfl rfl rfl rfl rfl rfl ⟨rfl, rfl, rfl, rfl, rfl⟩ rfl rfl rfl rfl rfl (by kernel_rfl) Try.func7 (by kernel_rfl)
    (of_decide_eq_true (by kernel_rfl)) (by unfold Func.isWrapper; rw [if_neg (of_decide_eq_false (by kernel_rfl))]; exact ⟨rfl, rfl⟩)
    (fun os started H enc _ => TreeKids_lifted law os started H enc)

abbrev TreeCuts_us : List Vc.Ty := [(.list Vc.tLn), (.int .u8)]
set_option maxRecDepth 100000 in
theorem TreeCuts_lifted (law : ∀ x : Vc.Args TreeCuts_us, Vc.wfArgs TreeCuts_us x → Vc.Spec Try.prog 8 (Vc.argDs TreeCuts_us x) (.val .bool true)) (os : Os) (started : os.Started) (H : Type) (enc : TypeId × Value → H) :
    ReturnsInHanded {} Try.checked os 8 .any (Rows.treeCutsSpec.pre6 enc Try.prog Try.f8 Rows.treeCutsRow.domain false) (Rows.treeCutsSpec.post enc Try.prog Try.f8 false true false false) := by
  refine returnsInHanded_of_change (C := Try.checked) Try.own started (by kernel_rfl) Try.func8
    (ChangeSpec.witness6 (enc := enc) (C := Try.checked) false ⟨#[], #[.slice none 0 0, .int .u8 0], []⟩ 8 (by kernel_rfl) (by kernel_rfl) (by kernel_rfl) (by kernel_rfl)) ?_
  intro W base args ds gs before hval hW _ _
  exact Vc.law_post Try.laidOut (ts := [22, 5]) (us := TreeCuts_us) rfl (by kernel_rfl) (by kernel_rfl) rfl Try.underlying4 rfl (fun ds h => match ds, h with | [_, _], _ => rfl) law W base args ds gs before hval hW
theorem TreeCuts_of (law : ∀ x : Vc.Args TreeCuts_us, Vc.wfArgs TreeCuts_us x → Vc.Spec Try.prog 8 (Vc.argDs TreeCuts_us x) (.val .bool true)) : Rows.TreeCutsSaid :=
  OpenClaim.holds_of_wide 8 Try.f8 rfl rfl rfl rfl rfl rfl rfl ⟨rfl, rfl, rfl, rfl, rfl⟩ rfl rfl rfl rfl rfl (by kernel_rfl) Try.func8 (by kernel_rfl)
    (of_decide_eq_true (by kernel_rfl)) (by unfold Func.isWrapper; rw [if_neg (of_decide_eq_false (by kernel_rfl))]; exact ⟨rfl, rfl⟩)
    (fun os started H enc _ => TreeCuts_lifted law os started H enc)

end Go.Proofs.Ytinbdleemjpkpaa
