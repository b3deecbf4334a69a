/-
  No cell of these rows narrows 'for every input' (looked for: loops, veiled, ifaces, maps, wideKeys, modest, calm, conditions, laid).
  DERIVED. THE GIVEN ROWS OF THIS SEAT. 6 by the template 'for every input the law returns true; each argument reads behind the call as it read before'; 0 by the template 'total and deterministic' (their statements: YtinbdleemjpkpaaTotals.lean).
  GIVEN WITH THE SEED: the statements are not yours to turn. If you find one false, say at which input.
  Laid BY PROGRAM, IN A SANDBOX (cutbox-rows.mjs): the forced cells as the released guide's own fill.sh prints them over the translation a7a855f5470512aa… (all of the seat's roots in one cut). By AI agents, Wed Nov 11 2026. No macro, syntax, notation, axiom, sorry.
-/
import Derived.Test.YtinbdleemjpkpaaChecked
import GoSem.Claim
import GoSem.ClaimJoined
import GoSem.ClaimMapViews
import Derived.JoinedTies
import Derived.KernelRfl
namespace Go.Proofs.Ytinbdleemjpkpaa
/- THE CELL 'sum', in the pinned program and in every row, IS THE sha256 OF THE DUMP (.gsa) THAT YtinbdleemjpkpaaProg.lean LOADS. Nothing in Lean hashes anything: it is a label: what it is worth is what the hold of that sum in a sandbox is worth. -/
noncomputable def Try.pinned : Pinned := { name := "ytinbdleemjpkpaa", sum := "a7a855f5470512aa4179e039e8467bfd8c1eaa80d7cbb6c4e83e8c741be8ebf1", checked := Try.checked }
namespace Rows
def none {H : Type} : Left H := { results := [], args := [] }

/-- 'ferrysliplaw03.TreeExact': WHATEVER THE INPUT: true; the input reads as it did. -/
def treeExactSpec : ChangeSpec := { name := "treeExact", fn := fun _ => fun
  | [d1, d2] => { results := [.lit (.bool true)], args := [d1, d2] }
  | _ => none }
def treeExactRow : OpenClaim := { program := "ytinbdleemjpkpaa", sum := "a7a855f5470512aa4179e039e8467bfd8c1eaa80d7cbb6c4e83e8c741be8ebf1", func := "ferryslip/ferrysliplaw03.TreeExact", spec := "treeExact", apart := false }
def TreeExactSaid : Prop := treeExactRow.holds Try.pinned (OpenSpec.ofChange treeExactSpec)

/-- ITS FALSE NEIGHBOUR: 'it returns false'. Refute it at one input. -/
def treeExactWrong : ChangeSpec := { name := "treeExact", fn := fun _ => fun
  | [d1, d2] => { results := [.lit (.bool false)], args := [d1, d2] }
  | _ => none }
def TreeExactWrongFalsely : Prop := treeExactRow.holds Try.pinned (OpenSpec.ofChange treeExactWrong)

/-- 'ferrysliplaw03.TreeFinds': WHATEVER THE INPUT: true; the input reads as it did. -/
def treeFindsSpec : ChangeSpec := { name := "treeFinds", fn := fun _ => fun
  | [d1, d2] => { results := [.lit (.bool true)], args := [d1, d2] }
  | _ => none }
def treeFindsRow : OpenClaim := { program := "ytinbdleemjpkpaa", sum := "a7a855f5470512aa4179e039e8467bfd8c1eaa80d7cbb6c4e83e8c741be8ebf1", func := "ferryslip/ferrysliplaw03.TreeFinds", spec := "treeFinds", apart := false }
def TreeFindsSaid : Prop := treeFindsRow.holds Try.pinned (OpenSpec.ofChange treeFindsSpec)

/-- ITS FALSE NEIGHBOUR: 'it returns false'. Refute it at one input. -/
def treeFindsWrong : ChangeSpec := { name := "treeFinds", fn := fun _ => fun
  | [d1, d2] => { results := [.lit (.bool false)], args := [d1, d2] }
  | _ => none }
def TreeFindsWrongFalsely : Prop := treeFindsRow.holds Try.pinned (OpenSpec.ofChange treeFindsWrong)

/-- 'ferrysliplaw03.TreePaths': WHATEVER THE INPUT: true; the input reads as it did. -/
def treePathsSpec : ChangeSpec := { name := "treePaths", fn := fun _ => fun
  | [d] => { results := [.lit (.bool true)], args := [d] }
  | _ => none }
def treePathsRow : OpenClaim := { program := "ytinbdleemjpkpaa", sum := "a7a855f5470512aa4179e039e8467bfd8c1eaa80d7cbb6c4e83e8c741be8ebf1", func := "ferryslip/ferrysliplaw03.TreePaths", spec := "treePaths", apart := false }
def TreePathsSaid : Prop := treePathsRow.holds Try.pinned (OpenSpec.ofChange treePathsSpec)

/-- ITS FALSE NEIGHBOUR: 'it returns false'. Refute it at one input. -/
def treePathsWrong : ChangeSpec := { name := "treePaths", fn := fun _ => fun
  | [d] => { results := [.lit (.bool false)], args := [d] }
  | _ => none }
def TreePathsWrongFalsely : Prop := treePathsRow.holds Try.pinned (OpenSpec.ofChange treePathsWrong)

/-- 'ferrysliplaw03.TreeParts': WHATEVER THE INPUT: true; the input reads as it did. -/
def treePartsSpec : ChangeSpec := { name := "treeParts", fn := fun _ => fun
  | [d1, d2] => { results := [.lit (.bool true)], args := [d1, d2] }
  | _ => none }
def treePartsRow : OpenClaim := { program := "ytinbdleemjpkpaa", sum := "a7a855f5470512aa4179e039e8467bfd8c1eaa80d7cbb6c4e83e8c741be8ebf1", func := "ferryslip/ferrysliplaw03.TreeParts", spec := "treeParts", apart := false }
def TreePartsSaid : Prop := treePartsRow.holds Try.pinned (OpenSpec.ofChange treePartsSpec)

/-- ITS FALSE NEIGHBOUR: 'it returns false'. Refute it at one input. -/
def treePartsWrong : ChangeSpec := { name := "treeParts", fn := fun _ => fun
  | [d1, d2] => { results := [.lit (.bool false)], args := [d1, d2] }
  | _ => none }
def TreePartsWrongFalsely : Prop := treePartsRow.holds Try.pinned (OpenSpec.ofChange treePartsWrong)

/-- 'ferrysliplaw03.TreeKids': WHATEVER THE INPUT: true; the input reads as it did. -/
def treeKidsSpec : ChangeSpec := { name := "treeKids", fn := fun _ => fun
  | [d] => { results := [.lit (.bool true)], args := [d] }
  | _ => none }
def treeKidsRow : OpenClaim := { program := "ytinbdleemjpkpaa", sum := "a7a855f5470512aa4179e039e8467bfd8c1eaa80d7cbb6c4e83e8c741be8ebf1", func := "ferryslip/ferrysliplaw03.TreeKids", spec := "treeKids", apart := false }
def TreeKidsSaid : Prop := treeKidsRow.holds Try.pinned (OpenSpec.ofChange treeKidsSpec)

/-- ITS FALSE NEIGHBOUR: 'it returns false'. Refute it at one input. -/
def treeKidsWrong : ChangeSpec := { name := "treeKids", fn := fun _ => fun
  | [d] => { results := [.lit (.bool false)], args := [d] }
  | _ => none }
def TreeKidsWrongFalsely : Prop := treeKidsRow.holds Try.pinned (OpenSpec.ofChange treeKidsWrong)

/-- 'ferrysliplaw03.TreeCuts': WHATEVER THE INPUT: true; the input reads as it did. -/
def treeCutsSpec : ChangeSpec := { name := "treeCuts", fn := fun _ => fun
  | [d1, d2] => { results := [.lit (.bool true)], args := [d1, d2] }
  | _ => none }
def treeCutsRow : OpenClaim := { program := "ytinbdleemjpkpaa", sum := "a7a855f5470512aa4179e039e8467bfd8c1eaa80d7cbb6c4e83e8c741be8ebf1", func := "ferryslip/ferrysliplaw03.TreeCuts", spec := "treeCuts", apart := false }
def TreeCutsSaid : Prop := treeCutsRow.holds Try.pinned (OpenSpec.ofChange treeCutsSpec)

/-- ITS FALSE NEIGHBOUR: 'it returns false'. Refute it at one input. -/
def treeCutsWrong : ChangeSpec := { name := "treeCuts", fn := fun _ => fun
  | [d1, d2] => { results := [.lit (.bool false)], args := [d1, d2] }
  | _ => none }
def TreeCutsWrongFalsely : Prop := treeCutsRow.holds Try.pinned (OpenSpec.ofChange treeCutsWrong)

/- THE SECOND FORM. 'bulk': how many values and letters a reading holds, each counted each time it is reached (what is shared counts as often as it is met; a slice's spare places count too). A statement '..UptoSaid' is the law's where the arguments, and the package variables that the reading takes, are together of bulk at most 1048576: NARROWER than '..Said'. Prove '..Said' where nothing that the law and all that it calls make is longer than what came in: it says more and counts as full. Else prove '..UptoSaid'. A law counts once. -/
mutual
def uptoBulk {H : Type} : DataW H → Nat
  | .lit (.string bytes) => bytes.length + 1
  | .lit _ => 1
  | .nil => 1
  | .ptr d => uptoBulk d + 1
  | .slice elems spare => uptoBulkAll elems + uptoBulkAll spare + 1
  | .agg parts => uptoBulkAll parts + 1
  | .iface _ d => uptoBulk d + 1
  | .map entries => uptoBulkEntries entries + 1
  | .held _ => 1
def uptoBulkAll {H : Type} : List (DataW H) → Nat
  | [] => 0
  | d :: r => uptoBulk d + uptoBulkAll r
def uptoBulkEntries {H : Type} : List (Lit × DataW H) → Nat
  | [] => 0
  | x :: r => uptoBulkEntry x + uptoBulkEntries r
def uptoBulkEntry {H : Type} : Lit × DataW H → Nat
  | (.string bytes, d) => bytes.length + uptoBulk d + 1
  | (_, d) => uptoBulk d + 1
 end
def uptoSmall : (H : Type) → List (DataW H) → Bool := fun _ ds => decide (uptoBulkAll ds ≤ 1048576)
def OpenSpec.upto (s : _root_.Go.ChangeSpec) : _root_.Go.OpenSpec := { _root_.Go.OpenSpec.ofChange s with cond := some uptoSmall }

/-- 'ferrysliplaw03.TreeExact', WHERE WHAT IT READS IS OF BULK AT MOST 1048576: true; the input reads as it did. -/
def treeExactUptoRow : OpenClaim := { program := "ytinbdleemjpkpaa", sum := "a7a855f5470512aa4179e039e8467bfd8c1eaa80d7cbb6c4e83e8c741be8ebf1", func := "ferryslip/ferrysliplaw03.TreeExact", spec := "treeExact", apart := false, narrowed := true }
def TreeExactUptoSaid : Prop := treeExactUptoRow.holds Try.pinned (OpenSpec.upto treeExactSpec)

/-- 'ferrysliplaw03.TreeFinds', WHERE WHAT IT READS IS OF BULK AT MOST 1048576: true; the input reads as it did. -/
def treeFindsUptoRow : OpenClaim := { program := "ytinbdleemjpkpaa", sum := "a7a855f5470512aa4179e039e8467bfd8c1eaa80d7cbb6c4e83e8c741be8ebf1", func := "ferryslip/ferrysliplaw03.TreeFinds", spec := "treeFinds", apart := false, narrowed := true }
def TreeFindsUptoSaid : Prop := treeFindsUptoRow.holds Try.pinned (OpenSpec.upto treeFindsSpec)

/-- 'ferrysliplaw03.TreePaths', WHERE WHAT IT READS IS OF BULK AT MOST 1048576: true; the input reads as it did. -/
def treePathsUptoRow : OpenClaim := { program := "ytinbdleemjpkpaa", sum := "a7a855f5470512aa4179e039e8467bfd8c1eaa80d7cbb6c4e83e8c741be8ebf1", func := "ferryslip/ferrysliplaw03.TreePaths", spec := "treePaths", apart := false, narrowed := true }
def TreePathsUptoSaid : Prop := treePathsUptoRow.holds Try.pinned (OpenSpec.upto treePathsSpec)

/-- 'ferrysliplaw03.TreeParts', WHERE WHAT IT READS IS OF BULK AT MOST 1048576: true; the input reads as it did. -/
def treePartsUptoRow : OpenClaim := { program := "ytinbdleemjpkpaa", sum := "a7a855f5470512aa4179e039e8467bfd8c1eaa80d7cbb6c4e83e8c741be8ebf1", func := "ferryslip/ferrysliplaw03.TreeParts", spec := "treeParts", apart := false, narrowed := true }
def TreePartsUptoSaid : Prop := treePartsUptoRow.holds Try.pinned (OpenSpec.upto treePartsSpec)

/-- 'ferrysliplaw03.TreeKids', WHERE WHAT IT READS IS OF BULK AT MOST 1048576: true; the input reads as it did. -/
def treeKidsUptoRow : OpenClaim := { program := "ytinbdleemjpkpaa", sum := "a7a855f5470512aa4179e039e8467bfd8c1eaa80d7cbb6c4e83e8c741be8ebf1", func := "ferryslip/ferrysliplaw03.TreeKids", spec := "treeKids", apart := false, narrowed := true }
def TreeKidsUptoSaid : Prop := treeKidsUptoRow.holds Try.pinned (OpenSpec.upto treeKidsSpec)

/-- 'ferrysliplaw03.TreeCuts', WHERE WHAT IT READS IS OF BULK AT MOST 1048576: true; the input reads as it did. -/
def treeCutsUptoRow : OpenClaim := { program := "ytinbdleemjpkpaa", sum := "a7a855f5470512aa4179e039e8467bfd8c1eaa80d7cbb6c4e83e8c741be8ebf1", func := "ferryslip/ferrysliplaw03.TreeCuts", spec := "treeCuts", apart := false, narrowed := true }
def TreeCutsUptoSaid : Prop := treeCutsUptoRow.holds Try.pinned (OpenSpec.upto treeCutsSpec)

end Rows
end Go.Proofs.Ytinbdleemjpkpaa
