/-
  THE GIVEN STATEMENT, OUT OF THE LAW TOLD OF DATA. No condition.
-/
import Derived.Test.YtojcdimaeiibdaaC0
set_option linter.unusedVariables false
set_option linter.unusedSimpArgs false
namespace Go.Proofs.Ytojcdimaeiibdaa
open Go.ChangeShapes Go.WideShapes Go.ChangeAt Go.RowKit

abbrev LexComment_us : List Vc.Ty := [Vc.tS, Vc.tS, Vc.tS]
set_option maxRecDepth 100000 in
theorem LexComment_lifted (law : ∀ x : Vc.Args LexComment_us, Vc.wfArgs LexComment_us x → Vc.Spec Try.prog 7 (Vc.argDs LexComment_us x) (.val .bool true)) (os : Os) (started : os.Started) (H : Type) (enc : TypeId × Value → H) :
    ReturnsInHanded {} Try.checked os 7 .any (Rows.lexCommentSpec.pre6 enc Try.prog Try.f7 Rows.lexCommentRow.domain false) (Rows.lexCommentSpec.post enc Try.prog Try.f7 false true false false) := by
  refine Vc.handed_of (C := Try.checked) Try.own started (by kernel_rfl) Try.func7
    (ChangeSpec.witness6 (enc := enc) (C := Try.checked) false ⟨#[], #[.string ⟨#[]⟩, .string ⟨#[]⟩, .string ⟨#[]⟩], []⟩ 8 (by kernel_rfl) (by kernel_rfl) (by kernel_rfl) (by kernel_rfl)) ?_
  intro W hshape base args ds gs before hval hW
  exact Vc.law_post Try.laidOut (ts := [9, 9, 9]) (us := LexComment_us) rfl (by kernel_rfl) (by kernel_rfl) rfl Try.underlying4 rfl (fun ds h => match ds, h with | [_, _, _], _ => rfl) law W (Try.glb hshape) base args ds gs before hval hW
theorem LexComment_of (law : ∀ x : Vc.Args LexComment_us, Vc.wfArgs LexComment_us x → Vc.Spec Try.prog 7 (Vc.argDs LexComment_us x) (.val .bool true)) : Rows.LexCommentSaid :=
  OpenClaim.holds_of_wide 7 Try.f7 rfl rfl rfl rfl rfl rfl rfl ⟨rfl, rfl, rfl, rfl, rfl⟩ rfl rfl rfl rfl rfl (by kernel_rfl) Try.func7 (by kernel_rfl)
    (of_decide_eq_true (by kernel_rfl)) (by unfold Func.isWrapper; rw [if_neg (of_decide_eq_false (by kernel_rfl))]; exact ⟨rfl, rfl⟩)
    (fun os started H enc _ => LexComment_lifted law os started H enc)

end Go.Proofs.Ytojcdimaeiibdaa
