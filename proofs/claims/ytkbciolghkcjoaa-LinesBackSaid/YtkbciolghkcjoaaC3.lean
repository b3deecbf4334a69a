/-
  THE GIVEN STATEMENT, OUT OF THE LAW TOLD OF DATA. No condition.
-/
import Derived.Test.YtkbciolghkcjoaaC0
set_option linter.unusedVariables false
set_option linter.unusedSimpArgs false
namespace Go.Proofs.Ytkbciolghkcjoaa
open Go.ChangeShapes Go.WideShapes Go.ChangeAt Go.RowKit

abbrev LinesBack_us : List Vc.Ty := [(.list Vc.tLn)]
set_option maxRecDepth 100000 in
theorem LinesBack_lifted (law : ∀ x : Vc.Args LinesBack_us, Vc.wfArgs LinesBack_us x → Vc.Spec Try.prog 5 (Vc.argDs LinesBack_us x) (.val .bool true)) (os : Os) (started : os.Started) (H : Type) (enc : TypeId × Value → H) :
    ReturnsInHanded {} Try.checked os 5 .any (Rows.linesBackSpec.pre6 enc Try.prog Try.f5 Rows.linesBackRow.domain false) (Rows.linesBackSpec.post enc Try.prog Try.f5 false true false false) := by
  refine Vc.handed_of (C := Try.checked) Try.own started (by kernel_rfl) Try.func5
    (ChangeSpec.witness6 (enc := enc) (C := Try.checked) false ⟨#[], #[.slice none 0 0], []⟩ 8 (by kernel_rfl) (by kernel_rfl) (by kernel_rfl) (by kernel_rfl)) ?_
  intro W hshape base args ds gs before hval hW
  exact Vc.law_post Try.laidOut (ts := [22]) (us := LinesBack_us) rfl (by kernel_rfl) (by kernel_rfl) rfl Try.underlying4 rfl (fun ds h => match ds, h with | [_], _ => rfl) law W (Try.glb hshape) base args ds gs before hval hW
theorem LinesBack_of (law : ∀ x : Vc.Args LinesBack_us, Vc.wfArgs LinesBack_us x → Vc.Spec Try.prog 5 (Vc.argDs LinesBack_us x) (.val .bool true)) : Rows.LinesBackSaid :=
  OpenClaim.holds_of_wide 5 Try.f5 rfl rfl rfl rfl rfl rfl rfl ⟨rfl, rfl, rfl, rfl, rfl⟩ rfl rfl rfl rfl rfl (by kernel_rfl) Try.func5 (by kernel_rfl)
    (of_decide_eq_true (by kernel_rfl)) (by unfold Func.isWrapper; rw [if_neg (of_decide_eq_false (by kernel_rfl))]; exact ⟨rfl, rfl⟩)
    (fun os started H enc _ => LinesBack_lifted law os started H enc)

end Go.Proofs.Ytkbciolghkcjoaa
