/-
  THE GIVEN STATEMENT, OUT OF THE LAW TOLD OF DATA. No condition.
-/
import Derived.Test.YtncgafojgdemdaaDoorC0
set_option linter.unusedVariables false
set_option linter.unusedSimpArgs false
namespace Go.Proofs.YtncgafojgdemdaaDoor
open Go.ChangeShapes Go.WideShapes Go.ChangeAt Go.RowKit

abbrev DiffStep_us : List Vc.Ty := [(.list Vc.tLn), (.list Vc.tS)]
set_option maxRecDepth 100000 in
theorem DiffStep_lifted (law : ∀ x : Vc.Args DiffStep_us, Vc.wfArgs DiffStep_us x → Vc.Spec Tryd.prog 8 (Vc.argDs DiffStep_us x) (.val .bool true)) (os : Os) (started : os.Started) (H : Type) (enc : TypeId × Value → H) :
    ReturnsInHanded {} Tryd.checked os 8 .any (fun w args => (Rows.diffStepSpec.pre enc Tryd.prog Tryd.f8 Rows.diffStepRow.domain false w args ∧ laidMetH Tryd.prog laidAll w) ∧ sizedMet enc Tryd.prog Tryd.f8 (OpenSpec.ofChange Rows.diffStepSpec) false w args) (Rows.diffStepSpec.post enc Tryd.prog Tryd.f8 false true false false) := by
  refine Vc.handed_of_laid (C := Tryd.checked) Tryd.own started (by kernel_rfl) Tryd.func8
    (ChangeSpec.witness_shaped (enc := enc) (C := Tryd.checked) (os := os) (X := fun w _ => laidMetH Tryd.prog laidAll w) false (World.doorLaid Tryd.prog 400 os) #[.slice none 0 0, .slice none 0 0] 8 rfl (World.shaped_of_RefB (by kernel_rfl) (by kernel_rfl)) (by kernel_rfl) (by kernel_rfl) (by kernel_rfl) (door_met os _)) ?_
  intro W hshape hlaid base args ds gs before hval hW
  exact Vc.law_post Tryd.laidOut (ts := [22, 39]) (us := DiffStep_us) rfl (by kernel_rfl) (by kernel_rfl) rfl Tryd.underlying4 rfl (fun ds h => match ds, h with | [_, _], _ => rfl) law W (Tryd.glb hshape hlaid) base args ds gs before hval hW
theorem DiffStep_of (law : ∀ x : Vc.Args DiffStep_us, Vc.wfArgs DiffStep_us x → Vc.Spec Tryd.prog 8 (Vc.argDs DiffStep_us x) (.val .bool true)) : Rows.DiffStepSaid :=
  OpenClaim.holds_of_wide 8 Tryd.f8 rfl rfl rfl rfl rfl rfl rfl ⟨rfl, rfl, rfl, rfl, rfl⟩ rfl rfl rfl rfl rfl (by kernel_rfl) Tryd.func8 (by kernel_rfl)
    (of_decide_eq_true (by kernel_rfl)) (by unfold Func.isWrapper; rw [if_neg (of_decide_eq_false (by kernel_rfl))]; exact ⟨rfl, rfl⟩)
    (fun os started H enc _ => DiffStep_lifted law os started H enc)
theorem DiffStep_card (law : ∀ x : Vc.Args DiffStep_us, Vc.wfArgs DiffStep_us x → Vc.Spec Tryd.prog 8 (Vc.argDs DiffStep_us x) (.val .bool true)) : Rows.DiffStepCardSaid :=
  Claim7.holds_tied_plain_at .later [] [.data, .data, .data] true (true, "da85e0b8c9a7cbebda89bcc96ab79acd3123cef58ccea0cca79320a18442a515") false
    (DiffStep_of law) (fun _ h => by cases h) (by kernel_rfl) (fun _ h => by cases h) diffStep_row_tie rfl ⟨rfl, rfl⟩ (by kernel_rfl) rfl
    (fun f fn hf hfn => by
      obtain rfl : f = 8 := Option.some.inj ((show Tryd.prog.funcNamed "ferryslip/ferrysliplaw08.DiffStep" = some 8 by kernel_rfl).symm.trans hf) |>.symm
      obtain rfl : fn = Tryd.f8 := (Option.some.inj (Tryd.func8.symm.trans hfn)).symm
      exact ⟨by kernel_rfl, fun j t ht => by
        have hall : (Tryd.f8.params.toList.all fun u => !Tryd.prog.wantsStandIn u) = true := by kernel_rfl
        have := List.all_eq_true.1 hall t (Array.mem_toList_iff.2 (Array.mem_of_getElem? ht))
        exact (show Tryd.prog.wantsStandIn t = false by simpa using this)⟩)
    (by kernel_rfl)

end Go.Proofs.YtncgafojgdemdaaDoor
