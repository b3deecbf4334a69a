/-
  THE GIVEN STATEMENT, OUT OF THE LAW TOLD OF DATA. No condition.
-/
import Derived.Test.YtmohgkoomnihfaaC0
set_option linter.unusedVariables false
set_option linter.unusedSimpArgs false
namespace Go.Proofs.Ytmohgkoomnihfaa
open Go.ChangeShapes Go.WideShapes Go.ChangeAt Go.RowKit

abbrev ParseDeep_us : List Vc.Ty := [(.int .u8), Vc.tB]
set_option maxRecDepth 100000 in
theorem ParseDeep_lifted (law : ∀ x : Vc.Args ParseDeep_us, Vc.wfArgs ParseDeep_us x → Vc.Spec Try.prog 5 (Vc.argDs ParseDeep_us x) (.val .bool true)) (os : Os) (started : os.Started) (H : Type) (enc : TypeId × Value → H) :
    ReturnsInHanded {} Try.checked os 5 .any (Rows.parseDeepSpec.pre6 enc Try.prog Try.f5 Rows.parseDeepRow.domain false) (Rows.parseDeepSpec.post enc Try.prog Try.f5 false true false false) := by
  refine Vc.handed_of (C := Try.checked) Try.own started (by kernel_rfl) Try.func5
    (ChangeSpec.witness6 (enc := enc) (C := Try.checked) false ⟨#[], #[.int .u8 0, .bool false], []⟩ 8 (by kernel_rfl) (by kernel_rfl) (by kernel_rfl) (by kernel_rfl)) ?_
  intro W hshape base args ds gs before hval hW
  exact Vc.law_post Try.laidOut (ts := [5, 4]) (us := ParseDeep_us) rfl (by kernel_rfl) (by kernel_rfl) rfl Try.underlying4 rfl (fun ds h => match ds, h with | [_, _], _ => rfl) law W (Try.glb hshape) base args ds gs before hval hW
theorem ParseDeep_of (law : ∀ x : Vc.Args ParseDeep_us, Vc.wfArgs ParseDeep_us x → Vc.Spec Try.prog 5 (Vc.argDs ParseDeep_us x) (.val .bool true)) : Rows.ParseDeepSaid :=
  OpenClaim.holds_of_wide 5 Try.f5 rfl rfl rfl rfl rfl rfl rfl ⟨rfl, rfl, rfl, rfl, rfl⟩ rfl rfl rfl rfl rfl (by kernel_rfl) Try.func5 (by kernel_rfl)
    (of_decide_eq_true (by kernel_rfl)) (by unfold Func.isWrapper; rw [if_neg (of_decide_eq_false (by kernel_rfl))]; exact ⟨rfl, rfl⟩)
    (fun os started H enc _ => ParseDeep_lifted law os started H enc)

end Go.Proofs.Ytmohgkoomnihfaa
