/-
  THE GIVEN STATEMENT, OUT OF THE LAW TOLD OF DATA. No condition.
-/
import Derived.Test.YtkbciolghkcjoaaC0
set_option linter.unusedVariables false
set_option linter.unusedSimpArgs false
namespace Go.Proofs.Ytkbciolghkcjoaa
open Go.ChangeShapes Go.WideShapes Go.ChangeAt Go.RowKit

abbrev LinesGrows_us : List Vc.Ty := [(.list Vc.tLn), (.list Vc.tS)]
set_option maxRecDepth 100000 in
theorem LinesGrows_lifted (law : ∀ x : Vc.Args LinesGrows_us, Vc.wfArgs LinesGrows_us x → Vc.Spec Try.prog 7 (Vc.argDs LinesGrows_us x) (.val .bool true)) (os : Os) (started : os.Started) (H : Type) (enc : TypeId × Value → H) :
    ReturnsInHanded {} Try.checked os 7 .any (Rows.linesGrowsSpec.pre6 enc Try.prog Try.f7 Rows.linesGrowsRow.domain false) (Rows.linesGrowsSpec.post enc Try.prog Try.f7 false true false false) := by
  refine Vc.handed_of (C := Try.checked) Try.own started (by kernel_rfl) Try.func7
    (ChangeSpec.witness6 (enc := enc) (C := Try.checked) false ⟨#[], #[.slice none 0 0, .slice none 0 0], []⟩ 8 (by kernel_rfl) (by kernel_rfl) (by kernel_rfl) (by kernel_rfl)) ?_
  intro W hshape base args ds gs before hval hW
  exact Vc.law_post Try.laidOut (ts := [22, 23]) (us := LinesGrows_us) rfl (by kernel_rfl) (by kernel_rfl) rfl Try.underlying4 rfl (fun ds h => match ds, h with | [_, _], _ => rfl) law W (Try.glb hshape) base args ds gs before hval hW
theorem LinesGrows_of (law : ∀ x : Vc.Args LinesGrows_us, Vc.wfArgs LinesGrows_us x → Vc.Spec Try.prog 7 (Vc.argDs LinesGrows_us x) (.val .bool true)) : Rows.LinesGrowsSaid :=
  OpenClaim.holds_of_wide 7 Try.f7 rfl rfl rfl rfl rfl rfl rfl ⟨rfl, rfl, rfl, rfl, rfl⟩ rfl rfl rfl rfl rfl (by kernel_rfl) Try.func7 (by kernel_rfl)
    (of_decide_eq_true (by kernel_rfl)) (by unfold Func.isWrapper; rw [if_neg (of_decide_eq_false (by kernel_rfl))]; exact ⟨rfl, rfl⟩)
    (fun os started H enc _ => LinesGrows_lifted law os started H enc)

end Go.Proofs.Ytkbciolghkcjoaa
