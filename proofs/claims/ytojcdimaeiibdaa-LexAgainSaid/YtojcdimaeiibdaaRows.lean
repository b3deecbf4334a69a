/-
  No cell of these rows narrows 'for every input' (looked for: loops, veiled, ifaces, maps, wideKeys, modest, calm, conditions, laid).
  DERIVED. THE GIVEN ROWS OF THIS SEAT. 7 by the template 'for every input the law returns true; each argument reads behind the call as it read before'; 0 by the template 'total and deterministic' (their statements: YtojcdimaeiibdaaTotals.lean).
  GIVEN WITH THE SEED: the statements are not yours to turn. If you find one false, say at which input.
  Laid BY PROGRAM, IN A SANDBOX (cutbox-rows.mjs): the forced cells as the released guide's own fill.sh prints them over the translation 1f08f69bdd2e544c… (all of the seat's roots in one cut). By AI agents, Wed Nov 11 2026. No macro, syntax, notation, axiom, sorry.
-/
import Derived.Test.YtojcdimaeiibdaaChecked
import GoSem.Claim
import GoSem.ClaimJoined
import GoSem.ClaimMapViews
import Derived.JoinedTies
import Derived.KernelRfl
namespace Go.Proofs.Ytojcdimaeiibdaa
/- THE CELL 'sum', in the pinned program and in every row, IS THE sha256 OF THE DUMP (.gsa) THAT YtojcdimaeiibdaaProg.lean LOADS. Nothing in Lean hashes anything: it is a label: what it is worth is what the hold of that sum in a sandbox is worth. -/
noncomputable def Try.pinned : Pinned := { name := "ytojcdimaeiibdaa", sum := "1f08f69bdd2e544ce73d7204330014dced6177776bd34a03f9a78d6059ab61e7", checked := Try.checked }
namespace Rows
def none {H : Type} : Left H := { results := [], args := [] }

/-- 'ferrysliplaw02.LexExact': WHATEVER THE INPUT: true; the input reads as it did. -/
def lexExactSpec : ChangeSpec := { name := "lexExact", fn := fun _ => fun
  | [d] => { results := [.lit (.bool true)], args := [d] }
  | _ => none }
def lexExactRow : OpenClaim := { program := "ytojcdimaeiibdaa", sum := "1f08f69bdd2e544ce73d7204330014dced6177776bd34a03f9a78d6059ab61e7", func := "ferryslip/ferrysliplaw02.LexExact", spec := "lexExact", inPlace := ["internal/bytealg.IndexByteString", "internal/bytealg.IndexString", "internal/abi.NoEscape", "internal/bytealg.CountString"], named := ["internal/bytealg.MaxLen"], apart := false }
def LexExactSaid : Prop := lexExactRow.holds Try.pinned (OpenSpec.ofChange lexExactSpec)

/-- ITS FALSE NEIGHBOUR: 'it returns false'. Refute it at one input. -/
def lexExactWrong : ChangeSpec := { name := "lexExact", fn := fun _ => fun
  | [d] => { results := [.lit (.bool false)], args := [d] }
  | _ => none }
def LexExactWrongFalsely : Prop := lexExactRow.holds Try.pinned (OpenSpec.ofChange lexExactWrong)

/-- 'ferrysliplaw02.LexPlace': WHATEVER THE INPUT: true; the input reads as it did. -/
def lexPlaceSpec : ChangeSpec := { name := "lexPlace", fn := fun _ => fun
  | [d1, d2] => { results := [.lit (.bool true)], args := [d1, d2] }
  | _ => none }
def lexPlaceRow : OpenClaim := { program := "ytojcdimaeiibdaa", sum := "1f08f69bdd2e544ce73d7204330014dced6177776bd34a03f9a78d6059ab61e7", func := "ferryslip/ferrysliplaw02.LexPlace", spec := "lexPlace", inPlace := ["internal/bytealg.IndexByteString", "internal/bytealg.IndexString", "internal/abi.NoEscape", "internal/bytealg.CountString"], named := ["internal/bytealg.MaxLen"], apart := false }
def LexPlaceSaid : Prop := lexPlaceRow.holds Try.pinned (OpenSpec.ofChange lexPlaceSpec)

/-- ITS FALSE NEIGHBOUR: 'it returns false'. Refute it at one input. -/
def lexPlaceWrong : ChangeSpec := { name := "lexPlace", fn := fun _ => fun
  | [d1, d2] => { results := [.lit (.bool false)], args := [d1, d2] }
  | _ => none }
def LexPlaceWrongFalsely : Prop := lexPlaceRow.holds Try.pinned (OpenSpec.ofChange lexPlaceWrong)

/-- 'ferrysliplaw02.LexAgain': WHATEVER THE INPUT: true; the input reads as it did. -/
def lexAgainSpec : ChangeSpec := { name := "lexAgain", fn := fun _ => fun
  | [d] => { results := [.lit (.bool true)], args := [d] }
  | _ => none }
def lexAgainRow : OpenClaim := { program := "ytojcdimaeiibdaa", sum := "1f08f69bdd2e544ce73d7204330014dced6177776bd34a03f9a78d6059ab61e7", func := "ferryslip/ferrysliplaw02.LexAgain", spec := "lexAgain", inPlace := ["internal/bytealg.IndexByteString", "internal/bytealg.IndexString", "internal/abi.NoEscape", "internal/bytealg.CountString"], named := ["internal/bytealg.MaxLen"], apart := false }
def LexAgainSaid : Prop := lexAgainRow.holds Try.pinned (OpenSpec.ofChange lexAgainSpec)

/-- ITS FALSE NEIGHBOUR: 'it returns false'. Refute it at one input. -/
def lexAgainWrong : ChangeSpec := { name := "lexAgain", fn := fun _ => fun
  | [d] => { results := [.lit (.bool false)], args := [d] }
  | _ => none }
def LexAgainWrongFalsely : Prop := lexAgainRow.holds Try.pinned (OpenSpec.ofChange lexAgainWrong)

/-- 'ferrysliplaw02.LexJoins': WHATEVER THE INPUT: true; the input reads as it did. -/
def lexJoinsSpec : ChangeSpec := { name := "lexJoins", fn := fun _ => fun
  | [d1, d2] => { results := [.lit (.bool true)], args := [d1, d2] }
  | _ => none }
def lexJoinsRow : OpenClaim := { program := "ytojcdimaeiibdaa", sum := "1f08f69bdd2e544ce73d7204330014dced6177776bd34a03f9a78d6059ab61e7", func := "ferryslip/ferrysliplaw02.LexJoins", spec := "lexJoins", inPlace := ["internal/bytealg.IndexByteString", "internal/bytealg.IndexString", "internal/abi.NoEscape", "internal/bytealg.CountString"], named := ["internal/bytealg.MaxLen"], apart := false }
def LexJoinsSaid : Prop := lexJoinsRow.holds Try.pinned (OpenSpec.ofChange lexJoinsSpec)

/-- ITS FALSE NEIGHBOUR: 'it returns false'. Refute it at one input. -/
def lexJoinsWrong : ChangeSpec := { name := "lexJoins", fn := fun _ => fun
  | [d1, d2] => { results := [.lit (.bool false)], args := [d1, d2] }
  | _ => none }
def LexJoinsWrongFalsely : Prop := lexJoinsRow.holds Try.pinned (OpenSpec.ofChange lexJoinsWrong)

/-- 'ferrysliplaw02.LexComment': WHATEVER THE INPUT: true; the input reads as it did. -/
def lexCommentSpec : ChangeSpec := { name := "lexComment", fn := fun _ => fun
  | [d1, d2, d3] => { results := [.lit (.bool true)], args := [d1, d2, d3] }
  | _ => none }
def lexCommentRow : OpenClaim := { program := "ytojcdimaeiibdaa", sum := "1f08f69bdd2e544ce73d7204330014dced6177776bd34a03f9a78d6059ab61e7", func := "ferryslip/ferrysliplaw02.LexComment", spec := "lexComment", inPlace := ["internal/bytealg.IndexByteString", "internal/bytealg.IndexString", "internal/abi.NoEscape", "internal/bytealg.CountString"], named := ["internal/bytealg.MaxLen"], apart := false }
def LexCommentSaid : Prop := lexCommentRow.holds Try.pinned (OpenSpec.ofChange lexCommentSpec)

/-- ITS FALSE NEIGHBOUR: 'it returns false'. Refute it at one input. -/
def lexCommentWrong : ChangeSpec := { name := "lexComment", fn := fun _ => fun
  | [d1, d2, d3] => { results := [.lit (.bool false)], args := [d1, d2, d3] }
  | _ => none }
def LexCommentWrongFalsely : Prop := lexCommentRow.holds Try.pinned (OpenSpec.ofChange lexCommentWrong)

/-- 'ferrysliplaw02.LexNames': WHATEVER THE INPUT: true; the input reads as it did. -/
def lexNamesSpec : ChangeSpec := { name := "lexNames", fn := fun _ => fun
  | [d1, d2] => { results := [.lit (.bool true)], args := [d1, d2] }
  | _ => none }
def lexNamesRow : OpenClaim := { program := "ytojcdimaeiibdaa", sum := "1f08f69bdd2e544ce73d7204330014dced6177776bd34a03f9a78d6059ab61e7", func := "ferryslip/ferrysliplaw02.LexNames", spec := "lexNames", inPlace := ["internal/bytealg.IndexByteString", "internal/bytealg.IndexString", "internal/abi.NoEscape", "internal/bytealg.CountString"], named := ["internal/bytealg.MaxLen"], apart := false }
def LexNamesSaid : Prop := lexNamesRow.holds Try.pinned (OpenSpec.ofChange lexNamesSpec)

/-- ITS FALSE NEIGHBOUR: 'it returns false'. Refute it at one input. -/
def lexNamesWrong : ChangeSpec := { name := "lexNames", fn := fun _ => fun
  | [d1, d2] => { results := [.lit (.bool false)], args := [d1, d2] }
  | _ => none }
def LexNamesWrongFalsely : Prop := lexNamesRow.holds Try.pinned (OpenSpec.ofChange lexNamesWrong)

/-- 'ferrysliplaw02.LexRises': WHATEVER THE INPUT: true; the input reads as it did. -/
def lexRisesSpec : ChangeSpec := { name := "lexRises", fn := fun _ => fun
  | [d] => { results := [.lit (.bool true)], args := [d] }
  | _ => none }
def lexRisesRow : OpenClaim := { program := "ytojcdimaeiibdaa", sum := "1f08f69bdd2e544ce73d7204330014dced6177776bd34a03f9a78d6059ab61e7", func := "ferryslip/ferrysliplaw02.LexRises", spec := "lexRises", inPlace := ["internal/bytealg.IndexByteString", "internal/bytealg.IndexString", "internal/abi.NoEscape", "internal/bytealg.CountString"], named := ["internal/bytealg.MaxLen"], apart := false }
def LexRisesSaid : Prop := lexRisesRow.holds Try.pinned (OpenSpec.ofChange lexRisesSpec)

/-- ITS FALSE NEIGHBOUR: 'it returns false'. Refute it at one input. -/
def lexRisesWrong : ChangeSpec := { name := "lexRises", fn := fun _ => fun
  | [d] => { results := [.lit (.bool false)], args := [d] }
  | _ => none }
def LexRisesWrongFalsely : Prop := lexRisesRow.holds Try.pinned (OpenSpec.ofChange lexRisesWrong)

/- THE SECOND FORM. 'bulk': how many values and letters a reading holds, each counted each time it is reached (what is shared counts as often as it is met; a slice's spare places count too). A statement '..UptoSaid' is the law's where the arguments, and the package variables that the reading takes, are together of bulk at most 1048576: NARROWER than '..Said'. Prove '..Said' where nothing that the law and all that it calls make is longer than what came in: it says more and counts as full. Else prove '..UptoSaid'. A law counts once. -/
mutual
def uptoBulk {H : Type} : DataW H → Nat
  | .lit (.string bytes) => bytes.length + 1
  | .lit _ => 1
  | .nil => 1
  | .ptr d => uptoBulk d + 1
  | .slice elems spare => uptoBulkAll elems + uptoBulkAll spare + 1
  | .agg parts => uptoBulkAll parts + 1
  | .iface _ d => uptoBulk d + 1
  | .map entries => uptoBulkEntries entries + 1
  | .held _ => 1
def uptoBulkAll {H : Type} : List (DataW H) → Nat
  | [] => 0
  | d :: r => uptoBulk d + uptoBulkAll r
def uptoBulkEntries {H : Type} : List (Lit × DataW H) → Nat
  | [] => 0
  | x :: r => uptoBulkEntry x + uptoBulkEntries r
def uptoBulkEntry {H : Type} : Lit × DataW H → Nat
  | (.string bytes, d) => bytes.length + uptoBulk d + 1
  | (_, d) => uptoBulk d + 1
 end
def uptoSmall : (H : Type) → List (DataW H) → Bool := fun _ ds => decide (uptoBulkAll ds ≤ 1048576)
def OpenSpec.upto (s : _root_.Go.ChangeSpec) : _root_.Go.OpenSpec := { _root_.Go.OpenSpec.ofChange s with cond := some uptoSmall }

/-- 'ferrysliplaw02.LexExact', WHERE WHAT IT READS IS OF BULK AT MOST 1048576: true; the input reads as it did. -/
def lexExactUptoRow : OpenClaim := { program := "ytojcdimaeiibdaa", sum := "1f08f69bdd2e544ce73d7204330014dced6177776bd34a03f9a78d6059ab61e7", func := "ferryslip/ferrysliplaw02.LexExact", spec := "lexExact", inPlace := ["internal/bytealg.IndexByteString", "internal/bytealg.IndexString", "internal/abi.NoEscape", "internal/bytealg.CountString"], named := ["internal/bytealg.MaxLen"], apart := false, narrowed := true }
def LexExactUptoSaid : Prop := lexExactUptoRow.holds Try.pinned (OpenSpec.upto lexExactSpec)

/-- 'ferrysliplaw02.LexPlace', WHERE WHAT IT READS IS OF BULK AT MOST 1048576: true; the input reads as it did. -/
def lexPlaceUptoRow : OpenClaim := { program := "ytojcdimaeiibdaa", sum := "1f08f69bdd2e544ce73d7204330014dced6177776bd34a03f9a78d6059ab61e7", func := "ferryslip/ferrysliplaw02.LexPlace", spec := "lexPlace", inPlace := ["internal/bytealg.IndexByteString", "internal/bytealg.IndexString", "internal/abi.NoEscape", "internal/bytealg.CountString"], named := ["internal/bytealg.MaxLen"], apart := false, narrowed := true }
def LexPlaceUptoSaid : Prop := lexPlaceUptoRow.holds Try.pinned (OpenSpec.upto lexPlaceSpec)

/-- 'ferrysliplaw02.LexAgain', WHERE WHAT IT READS IS OF BULK AT MOST 1048576: true; the input reads as it did. -/
def lexAgainUptoRow : OpenClaim := { program := "ytojcdimaeiibdaa", sum := "1f08f69bdd2e544ce73d7204330014dced6177776bd34a03f9a78d6059ab61e7", func := "ferryslip/ferrysliplaw02.LexAgain", spec := "lexAgain", inPlace := ["internal/bytealg.IndexByteString", "internal/bytealg.IndexString", "internal/abi.NoEscape", "internal/bytealg.CountString"], named := ["internal/bytealg.MaxLen"], apart := false, narrowed := true }
def LexAgainUptoSaid : Prop := lexAgainUptoRow.holds Try.pinned (OpenSpec.upto lexAgainSpec)

/-- 'ferrysliplaw02.LexJoins', WHERE WHAT IT READS IS OF BULK AT MOST 1048576: true; the input reads as it did. -/
def lexJoinsUptoRow : OpenClaim := { program := "ytojcdimaeiibdaa", sum := "1f08f69bdd2e544ce73d7204330014dced6177776bd34a03f9a78d6059ab61e7", func := "ferryslip/ferrysliplaw02.LexJoins", spec := "lexJoins", inPlace := ["internal/bytealg.IndexByteString", "internal/bytealg.IndexString", "internal/abi.NoEscape", "internal/bytealg.CountString"], named := ["internal/bytealg.MaxLen"], apart := false, narrowed := true }
def LexJoinsUptoSaid : Prop := lexJoinsUptoRow.holds Try.pinned (OpenSpec.upto lexJoinsSpec)

/-- 'ferrysliplaw02.LexComment', WHERE WHAT IT READS IS OF BULK AT MOST 1048576: true; the input reads as it did. -/
def lexCommentUptoRow : OpenClaim := { program := "ytojcdimaeiibdaa", sum := "1f08f69bdd2e544ce73d7204330014dced6177776bd34a03f9a78d6059ab61e7", func := "ferryslip/ferrysliplaw02.LexComment", spec := "lexComment", inPlace := ["internal/bytealg.IndexByteString", "internal/bytealg.IndexString", "internal/abi.NoEscape", "internal/bytealg.CountString"], named := ["internal/bytealg.MaxLen"], apart := false, narrowed := true }
def LexCommentUptoSaid : Prop := lexCommentUptoRow.holds Try.pinned (OpenSpec.upto lexCommentSpec)

/-- 'ferrysliplaw02.LexNames', WHERE WHAT IT READS IS OF BULK AT MOST 1048576: true; the input reads as it did. -/
def lexNamesUptoRow : OpenClaim := { program := "ytojcdimaeiibdaa", sum := "1f08f69bdd2e544ce73d7204330014dced6177776bd34a03f9a78d6059ab61e7", func := "ferryslip/ferrysliplaw02.LexNames", spec := "lexNames", inPlace := ["internal/bytealg.IndexByteString", "internal/bytealg.IndexString", "internal/abi.NoEscape", "internal/bytealg.CountString"], named := ["internal/bytealg.MaxLen"], apart := false, narrowed := true }
def LexNamesUptoSaid : Prop := lexNamesUptoRow.holds Try.pinned (OpenSpec.upto lexNamesSpec)

/-- 'ferrysliplaw02.LexRises', WHERE WHAT IT READS IS OF BULK AT MOST 1048576: true; the input reads as it did. -/
def lexRisesUptoRow : OpenClaim := { program := "ytojcdimaeiibdaa", sum := "1f08f69bdd2e544ce73d7204330014dced6177776bd34a03f9a78d6059ab61e7", func := "ferryslip/ferrysliplaw02.LexRises", spec := "lexRises", inPlace := ["internal/bytealg.IndexByteString", "internal/bytealg.IndexString", "internal/abi.NoEscape", "internal/bytealg.CountString"], named := ["internal/bytealg.MaxLen"], apart := false, narrowed := true }
def LexRisesUptoSaid : Prop := lexRisesUptoRow.holds Try.pinned (OpenSpec.upto lexRisesSpec)

end Rows
end Go.Proofs.Ytojcdimaeiibdaa
