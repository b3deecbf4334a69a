/-
  THE GIVEN STATEMENT, OUT OF THE LAW TOLD OF DATA. No condition.
-/
import Derived.Test.YtmohgkoomnihfaaC0
set_option linter.unusedVariables false
set_option linter.unusedSimpArgs false
namespace Go.Proofs.Ytmohgkoomnihfaa
open Go.ChangeShapes Go.WideShapes Go.ChangeAt Go.RowKit

abbrev ParseBack_us : List Vc.Ty := [(.list Vc.tLn)]
set_option maxRecDepth 100000 in
theorem ParseBack_lifted (law : ∀ x : Vc.Args ParseBack_us, Vc.wfArgs ParseBack_us x → Vc.Spec Try.prog 8 (Vc.argDs ParseBack_us x) (.val .bool true)) (os : Os) (started : os.Started) (H : Type) (enc : TypeId × Value → H) :
    ReturnsInHanded {} Try.checked os 8 .any (Rows.parseBackSpec.pre6 enc Try.prog Try.f8 Rows.parseBackRow.domain false) (Rows.parseBackSpec.post enc Try.prog Try.f8 false true false false) := by
  refine Vc.handed_of (C := Try.checked) Try.own started (by kernel_rfl) Try.func8
    (ChangeSpec.witness6 (enc := enc) (C := Try.checked) false ⟨#[], #[.slice none 0 0], []⟩ 8 (by kernel_rfl) (by kernel_rfl) (by kernel_rfl) (by kernel_rfl)) ?_
  intro W hshape base args ds gs before hval hW
  exact Vc.law_post Try.laidOut (ts := [23]) (us := ParseBack_us) rfl (by kernel_rfl) (by kernel_rfl) rfl Try.underlying4 rfl (fun ds h => match ds, h with | [_], _ => rfl) law W (Try.glb hshape) base args ds gs before hval hW
theorem ParseBack_of (law : ∀ x : Vc.Args ParseBack_us, Vc.wfArgs ParseBack_us x → Vc.Spec Try.prog 8 (Vc.argDs ParseBack_us x) (.val .bool true)) : Rows.ParseBackSaid :=
  OpenClaim.holds_of_wide 8 Try.f8 rfl rfl rfl rfl rfl rfl rfl ⟨rfl, rfl, rfl, rfl, rfl⟩ rfl rfl rfl rfl rfl (by kernel_rfl) Try.func8 (by kernel_rfl)
    (of_decide_eq_true (by kernel_rfl)) (by unfold Func.isWrapper; rw [if_neg (of_decide_eq_false (by kernel_rfl))]; exact ⟨rfl, rfl⟩)
    (fun os started H enc _ => ParseBack_lifted law os started H enc)

end Go.Proofs.Ytmohgkoomnihfaa
