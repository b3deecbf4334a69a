/-
  THE GIVEN STATEMENT, OUT OF THE LAW TOLD OF DATA. No condition.
-/
import Derived.Test.YtnkinnhgahpcoaaC0
set_option linter.unusedVariables false
set_option linter.unusedSimpArgs false
namespace Go.Proofs.Ytnkinnhgahpcoaa
open Go.ChangeShapes Go.WideShapes Go.ChangeAt Go.RowKit

abbrev PatchParts_us : List Vc.Ty := [(.pair (.list (.pair Vc.tS (.pair Vc.tI (.pair Vc.tS Vc.tS)))) (.list (.pair Vc.tS (.pair Vc.tI (.pair Vc.tS Vc.tS)))))]
set_option maxRecDepth 100000 in
theorem PatchParts_lifted (law : ∀ x : Vc.Args PatchParts_us, Vc.wfArgs PatchParts_us x → Vc.Spec Try.prog 9 (Vc.argDs PatchParts_us x) (.val .bool true)) (os : Os) (started : os.Started) (H : Type) (enc : TypeId × Value → H) :
    ReturnsInHanded {} Try.checked os 9 .any (Rows.patchPartsSpec.pre6 enc Try.prog Try.f9 Rows.patchPartsRow.domain false) (Rows.patchPartsSpec.post enc Try.prog Try.f9 false true false false) := by
  refine Vc.handed_of (C := Try.checked) Try.own started (by kernel_rfl) Try.func9
    (ChangeSpec.witness6 (enc := enc) (C := Try.checked) false ⟨#[], #[.agg #[.slice none 0 0, .slice none 0 0]], []⟩ 8 (by kernel_rfl) (by kernel_rfl) (by kernel_rfl) (by kernel_rfl)) ?_
  intro W hshape base args ds gs before hval hW
  exact Vc.law_post Try.laidOut (ts := [24]) (us := PatchParts_us) rfl (by kernel_rfl) (by kernel_rfl) rfl Try.underlying4 rfl (fun ds h => match ds, h with | [_], _ => rfl) law W (Try.glb hshape) base args ds gs before hval hW
theorem PatchParts_of (law : ∀ x : Vc.Args PatchParts_us, Vc.wfArgs PatchParts_us x → Vc.Spec Try.prog 9 (Vc.argDs PatchParts_us x) (.val .bool true)) : Rows.PatchPartsSaid :=
  OpenClaim.holds_of_wide 9 Try.f9 rfl rfl rfl rfl rfl rfl rfl ⟨rfl, rfl, rfl, rfl, rfl⟩ rfl rfl rfl rfl rfl (by kernel_rfl) Try.func9 (by kernel_rfl)
    (of_decide_eq_true (by kernel_rfl)) (by unfold Func.isWrapper; rw [if_neg (of_decide_eq_false (by kernel_rfl))]; exact ⟨rfl, rfl⟩)
    (fun os started H enc _ => PatchParts_lifted law os started H enc)

end Go.Proofs.Ytnkinnhgahpcoaa
