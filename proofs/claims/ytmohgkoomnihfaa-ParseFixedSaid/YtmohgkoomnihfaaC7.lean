/-
  THE GIVEN STATEMENT, OUT OF THE LAW TOLD OF DATA. No condition.
-/
import Derived.Test.YtmohgkoomnihfaaC0
set_option linter.unusedVariables false
set_option linter.unusedSimpArgs false
namespace Go.Proofs.Ytmohgkoomnihfaa
open Go.ChangeShapes Go.WideShapes Go.ChangeAt Go.RowKit

abbrev ParseFixed_us : List Vc.Ty := [Vc.tS]
set_option maxRecDepth 100000 in
theorem ParseFixed_lifted (law : ∀ x : Vc.Args ParseFixed_us, Vc.wfArgs ParseFixed_us x → Vc.Spec Try.prog 9 (Vc.argDs ParseFixed_us x) (.val .bool true)) (os : Os) (started : os.Started) (H : Type) (enc : TypeId × Value → H) :
    ReturnsInHanded {} Try.checked os 9 .any (Rows.parseFixedSpec.pre6 enc Try.prog Try.f9 Rows.parseFixedRow.domain false) (Rows.parseFixedSpec.post enc Try.prog Try.f9 false true false false) := by
  refine Vc.handed_of (C := Try.checked) Try.own started (by kernel_rfl) Try.func9
    (ChangeSpec.witness6 (enc := enc) (C := Try.checked) false ⟨#[], #[.string ⟨#[]⟩], []⟩ 8 (by kernel_rfl) (by kernel_rfl) (by kernel_rfl) (by kernel_rfl)) ?_
  intro W hshape base args ds gs before hval hW
  exact Vc.law_post Try.laidOut (ts := [9]) (us := ParseFixed_us) rfl (by kernel_rfl) (by kernel_rfl) rfl Try.underlying4 rfl (fun ds h => match ds, h with | [_], _ => rfl) law W (Try.glb hshape) base args ds gs before hval hW
theorem ParseFixed_of (law : ∀ x : Vc.Args ParseFixed_us, Vc.wfArgs ParseFixed_us x → Vc.Spec Try.prog 9 (Vc.argDs ParseFixed_us x) (.val .bool true)) : Rows.ParseFixedSaid :=
  OpenClaim.holds_of_wide 9 Try.f9 rfl rfl rfl rfl rfl rfl rfl ⟨rfl, rfl, rfl, rfl, rfl⟩ rfl rfl rfl rfl rfl (by kernel_rfl) Try.func9 (by kernel_rfl)
    (of_decide_eq_true (by kernel_rfl)) (by unfold Func.isWrapper; rw [if_neg (of_decide_eq_false (by kernel_rfl))]; exact ⟨rfl, rfl⟩)
    (fun os started H enc _ => ParseFixed_lifted law os started H enc)

end Go.Proofs.Ytmohgkoomnihfaa
