/-
  THE GIVEN STATEMENT, OUT OF THE LAW TOLD OF DATA. No condition.
-/
import Derived.Test.YtcjlpdnhbgbooaaC0
set_option linter.unusedVariables false
set_option linter.unusedSimpArgs false
namespace Go.Proofs.Ytcjlpdnhbgbooaa
open Go.ChangeShapes Go.WideShapes Go.ChangeAt Go.RowKit

abbrev EditGone_us : List Vc.Ty := [(.list Vc.tLn), (.list Vc.tS)]
set_option maxRecDepth 100000 in
theorem EditGone_lifted (law : ∀ x : Vc.Args EditGone_us, Vc.wfArgs EditGone_us x → Vc.Spec Try.prog 7 (Vc.argDs EditGone_us x) (.val .bool true)) (os : Os) (started : os.Started) (H : Type) (enc : TypeId × Value → H) :
    ReturnsInHanded {} Try.checked os 7 .any (Rows.editGoneSpec.pre6 enc Try.prog Try.f7 Rows.editGoneRow.domain false) (Rows.editGoneSpec.post enc Try.prog Try.f7 false true false false) := by
  refine Vc.handed_of (C := Try.checked) Try.own started (by kernel_rfl) Try.func7
    (ChangeSpec.witness6 (enc := enc) (C := Try.checked) false ⟨#[], #[.slice none 0 0, .slice none 0 0], []⟩ 8 (by kernel_rfl) (by kernel_rfl) (by kernel_rfl) (by kernel_rfl)) ?_
  intro W hshape base args ds gs before hval hW
  exact Vc.law_post Try.laidOut (ts := [22, 23]) (us := EditGone_us) rfl (by kernel_rfl) (by kernel_rfl) rfl Try.underlying4 rfl (fun ds h => match ds, h with | [_, _], _ => rfl) law W (Try.glb hshape) base args ds gs before hval hW
theorem EditGone_of (law : ∀ x : Vc.Args EditGone_us, Vc.wfArgs EditGone_us x → Vc.Spec Try.prog 7 (Vc.argDs EditGone_us x) (.val .bool true)) : Rows.EditGoneSaid :=
  OpenClaim.holds_of_wide 7 Try.f7 rfl rfl rfl rfl rfl rfl rfl ⟨rfl, rfl, rfl, rfl, rfl⟩ rfl rfl rfl rfl rfl (by kernel_rfl) Try.func7 (by kernel_rfl)
    (of_decide_eq_true (by kernel_rfl)) (by unfold Func.isWrapper; rw [if_neg (of_decide_eq_false (by kernel_rfl))]; exact ⟨rfl, rfl⟩)
    (fun os started H enc _ => EditGone_lifted law os started H enc)

end Go.Proofs.Ytcjlpdnhbgbooaa
