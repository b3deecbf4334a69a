/-
  THE GIVEN STATEMENT, OUT OF THE LAW TOLD OF DATA. No condition.
-/
import Derived.Test.YtnkinnhgahpcoaaC0
set_option linter.unusedVariables false
set_option linter.unusedSimpArgs false
namespace Go.Proofs.Ytnkinnhgahpcoaa
open Go.ChangeShapes Go.WideShapes Go.ChangeAt Go.RowKit

abbrev PatchHosts_us : List Vc.Ty := [(.list (.pair Vc.tS (.pair Vc.tI (.pair Vc.tS Vc.tS)))), (.list (.pair Vc.tS (.pair Vc.tI (.pair Vc.tS Vc.tS)))), (.int .u8)]
set_option maxRecDepth 100000 in
theorem PatchHosts_lifted (law : ∀ x : Vc.Args PatchHosts_us, Vc.wfArgs PatchHosts_us x → Vc.Spec Try.prog 6 (Vc.argDs PatchHosts_us x) (.val .bool true)) (os : Os) (started : os.Started) (H : Type) (enc : TypeId × Value → H) :
    ReturnsInHanded {} Try.checked os 6 .any (Rows.patchHostsSpec.pre6 enc Try.prog Try.f6 Rows.patchHostsRow.domain false) (Rows.patchHostsSpec.post enc Try.prog Try.f6 false true false false) := by
  refine Vc.handed_of (C := Try.checked) Try.own started (by kernel_rfl) Try.func6
    (ChangeSpec.witness6 (enc := enc) (C := Try.checked) false ⟨#[], #[.slice none 0 0, .slice none 0 0, .int .u8 0], []⟩ 8 (by kernel_rfl) (by kernel_rfl) (by kernel_rfl) (by kernel_rfl)) ?_
  intro W hshape base args ds gs before hval hW
  exact Vc.law_post Try.laidOut (ts := [22, 22, 5]) (us := PatchHosts_us) rfl (by kernel_rfl) (by kernel_rfl) rfl Try.underlying4 rfl (fun ds h => match ds, h with | [_, _, _], _ => rfl) law W (Try.glb hshape) base args ds gs before hval hW
theorem PatchHosts_of (law : ∀ x : Vc.Args PatchHosts_us, Vc.wfArgs PatchHosts_us x → Vc.Spec Try.prog 6 (Vc.argDs PatchHosts_us x) (.val .bool true)) : Rows.PatchHostsSaid :=
  OpenClaim.holds_of_wide 6 Try.f6 rfl rfl rfl rfl rfl rfl rfl ⟨rfl, rfl, rfl, rfl, rfl⟩ rfl rfl rfl rfl rfl (by kernel_rfl) Try.func6 (by kernel_rfl)
    (of_decide_eq_true (by kernel_rfl)) (by unfold Func.isWrapper; rw [if_neg (of_decide_eq_false (by kernel_rfl))]; exact ⟨rfl, rfl⟩)
    (fun os started H enc _ => PatchHosts_lifted law os started H enc)

end Go.Proofs.Ytnkinnhgahpcoaa
