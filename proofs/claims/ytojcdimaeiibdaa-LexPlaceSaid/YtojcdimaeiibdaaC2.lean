/-
  THE GIVEN STATEMENT, OUT OF THE LAW TOLD OF DATA. No condition.
-/
import Derived.Test.YtojcdimaeiibdaaC0
set_option linter.unusedVariables false
set_option linter.unusedSimpArgs false
namespace Go.Proofs.Ytojcdimaeiibdaa
open Go.ChangeShapes Go.WideShapes Go.ChangeAt Go.RowKit

abbrev LexPlace_us : List Vc.Ty := [Vc.tS, Vc.tI]
set_option maxRecDepth 100000 in
theorem LexPlace_lifted (law : ∀ x : Vc.Args LexPlace_us, Vc.wfArgs LexPlace_us x → Vc.Spec Try.prog 4 (Vc.argDs LexPlace_us x) (.val .bool true)) (os : Os) (started : os.Started) (H : Type) (enc : TypeId × Value → H) :
    ReturnsInHanded {} Try.checked os 4 .any (Rows.lexPlaceSpec.pre6 enc Try.prog Try.f4 Rows.lexPlaceRow.domain false) (Rows.lexPlaceSpec.post enc Try.prog Try.f4 false true false false) := by
  refine Vc.handed_of (C := Try.checked) Try.own started (by kernel_rfl) Try.func4
    (ChangeSpec.witness6 (enc := enc) (C := Try.checked) false ⟨#[], #[.string ⟨#[]⟩, .int .i64 0], []⟩ 8 (by kernel_rfl) (by kernel_rfl) (by kernel_rfl) (by kernel_rfl)) ?_
  intro W hshape base args ds gs before hval hW
  exact Vc.law_post Try.laidOut (ts := [9, 3]) (us := LexPlace_us) rfl (by kernel_rfl) (by kernel_rfl) rfl Try.underlying4 rfl (fun ds h => match ds, h with | [_, _], _ => rfl) law W (Try.glb hshape) base args ds gs before hval hW
theorem LexPlace_of (law : ∀ x : Vc.Args LexPlace_us, Vc.wfArgs LexPlace_us x → Vc.Spec Try.prog 4 (Vc.argDs LexPlace_us x) (.val .bool true)) : Rows.LexPlaceSaid :=
  OpenClaim.holds_of_wide 4 Try.f4 rfl rfl rfl rfl rfl rfl rfl ⟨rfl, rfl, rfl, rfl, rfl⟩ rfl rfl rfl rfl rfl (by kernel_rfl) Try.func4 (by kernel_rfl)
    (of_decide_eq_true (by kernel_rfl)) (by unfold Func.isWrapper; rw [if_neg (of_decide_eq_false (by kernel_rfl))]; exact ⟨rfl, rfl⟩)
    (fun os started H enc _ => LexPlace_lifted law os started H enc)

end Go.Proofs.Ytojcdimaeiibdaa
