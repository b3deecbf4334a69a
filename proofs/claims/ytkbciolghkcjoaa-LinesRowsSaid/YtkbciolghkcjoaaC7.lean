/-
  THE GIVEN STATEMENT, OUT OF THE LAW TOLD OF DATA. No condition.
-/
import Derived.Test.YtkbciolghkcjoaaC0
set_option linter.unusedVariables false
set_option linter.unusedSimpArgs false
namespace Go.Proofs.Ytkbciolghkcjoaa
open Go.ChangeShapes Go.WideShapes Go.ChangeAt Go.RowKit

abbrev LinesRows_us : List Vc.Ty := [(.list Vc.tLn)]
set_option maxRecDepth 100000 in
theorem LinesRows_lifted (law : ∀ x : Vc.Args LinesRows_us, Vc.wfArgs LinesRows_us x → Vc.Spec Try.prog 9 (Vc.argDs LinesRows_us x) (.val .bool true)) (os : Os) (started : os.Started) (H : Type) (enc : TypeId × Value → H) :
    ReturnsInHanded {} Try.checked os 9 .any (Rows.linesRowsSpec.pre6 enc Try.prog Try.f9 Rows.linesRowsRow.domain false) (Rows.linesRowsSpec.post enc Try.prog Try.f9 false true false false) := by
  refine Vc.handed_of (C := Try.checked) Try.own started (by kernel_rfl) Try.func9
    (ChangeSpec.witness6 (enc := enc) (C := Try.checked) false ⟨#[], #[.slice none 0 0], []⟩ 8 (by kernel_rfl) (by kernel_rfl) (by kernel_rfl) (by kernel_rfl)) ?_
  intro W hshape base args ds gs before hval hW
  exact Vc.law_post Try.laidOut (ts := [22]) (us := LinesRows_us) rfl (by kernel_rfl) (by kernel_rfl) rfl Try.underlying4 rfl (fun ds h => match ds, h with | [_], _ => rfl) law W (Try.glb hshape) base args ds gs before hval hW
theorem LinesRows_of (law : ∀ x : Vc.Args LinesRows_us, Vc.wfArgs LinesRows_us x → Vc.Spec Try.prog 9 (Vc.argDs LinesRows_us x) (.val .bool true)) : Rows.LinesRowsSaid :=
  OpenClaim.holds_of_wide 9 Try.f9 rfl rfl rfl rfl rfl rfl rfl ⟨rfl, rfl, rfl, rfl, rfl⟩ rfl rfl rfl rfl rfl (by kernel_rfl) Try.func9 (by kernel_rfl)
    (of_decide_eq_true (by kernel_rfl)) (by unfold Func.isWrapper; rw [if_neg (of_decide_eq_false (by kernel_rfl))]; exact ⟨rfl, rfl⟩)
    (fun os started H enc _ => LinesRows_lifted law os started H enc)

end Go.Proofs.Ytkbciolghkcjoaa
