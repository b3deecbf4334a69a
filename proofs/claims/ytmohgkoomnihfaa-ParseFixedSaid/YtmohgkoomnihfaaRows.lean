/-
  No cell of these rows narrows 'for every input' (looked for: loops, veiled, ifaces, maps, wideKeys, modest, calm, conditions, laid).
  DERIVED. THE GIVEN ROWS OF THIS SEAT. 7 by the template 'for every input the law returns true; each argument reads behind the call as it read before'; 0 by the template 'total and deterministic' (their statements: YtmohgkoomnihfaaTotals.lean).
  GIVEN WITH THE SEED: the statements are not yours to turn. If you find one false, say at which input.
  Laid BY PROGRAM, IN A SANDBOX (cutbox-rows.mjs): the forced cells as the released guide's own fill.sh prints them over the translation c6f81f59d931fb50… (all of the seat's roots in one cut). By AI agents, Wed Nov 11 2026. No macro, syntax, notation, axiom, sorry.
-/
import Derived.Test.YtmohgkoomnihfaaChecked
import GoSem.Claim
import GoSem.ClaimJoined
import GoSem.ClaimMapViews
import Derived.JoinedTies
import Derived.KernelRfl
namespace Go.Proofs.Ytmohgkoomnihfaa
/- THE CELL 'sum', in the pinned program and in every row, IS THE sha256 OF THE DUMP (.gsa) THAT YtmohgkoomnihfaaProg.lean LOADS. Nothing in Lean hashes anything: it is a label: what it is worth is what the hold of that sum in a sandbox is worth. -/
noncomputable def Try.pinned : Pinned := { name := "ytmohgkoomnihfaa", sum := "c6f81f59d931fb5009b07978413dfbf0f98a92fc876f68ceb6c42b6086887a7a", checked := Try.checked }
namespace Rows
def none {H : Type} : Left H := { results := [], args := [] }

/-- 'ferrysliplaw05.ParseExact': WHATEVER THE INPUT: true; the input reads as it did. -/
def parseExactSpec : ChangeSpec := { name := "parseExact", fn := fun _ => fun
  | [d] => { results := [.lit (.bool true)], args := [d] }
  | _ => none }
def parseExactRow : OpenClaim := { program := "ytmohgkoomnihfaa", sum := "c6f81f59d931fb5009b07978413dfbf0f98a92fc876f68ceb6c42b6086887a7a", func := "ferryslip/ferrysliplaw05.ParseExact", spec := "parseExact", inPlace := ["internal/bytealg.IndexByteString", "internal/bytealg.IndexString", "internal/abi.NoEscape", "internal/bytealg.abigen_runtime_cmpstring"], unfollowed := true, recurses := true, named := ["internal/bytealg.MaxLen"], apart := false }
def ParseExactSaid : Prop := parseExactRow.holds Try.pinned (OpenSpec.ofChange parseExactSpec)

/-- ITS FALSE NEIGHBOUR: 'it returns false'. Refute it at one input. -/
def parseExactWrong : ChangeSpec := { name := "parseExact", fn := fun _ => fun
  | [d] => { results := [.lit (.bool false)], args := [d] }
  | _ => none }
def ParseExactWrongFalsely : Prop := parseExactRow.holds Try.pinned (OpenSpec.ofChange parseExactWrong)

/-- 'ferrysliplaw05.ParseTurned': WHATEVER THE INPUT: true; the input reads as it did. -/
def parseTurnedSpec : ChangeSpec := { name := "parseTurned", fn := fun _ => fun
  | [d1, d2] => { results := [.lit (.bool true)], args := [d1, d2] }
  | _ => none }
def parseTurnedRow : OpenClaim := { program := "ytmohgkoomnihfaa", sum := "c6f81f59d931fb5009b07978413dfbf0f98a92fc876f68ceb6c42b6086887a7a", func := "ferryslip/ferrysliplaw05.ParseTurned", spec := "parseTurned", inPlace := ["internal/bytealg.IndexByteString", "internal/bytealg.IndexString", "internal/abi.NoEscape", "internal/bytealg.abigen_runtime_cmpstring"], unfollowed := true, recurses := true, named := ["internal/bytealg.MaxLen"], apart := false }
def ParseTurnedSaid : Prop := parseTurnedRow.holds Try.pinned (OpenSpec.ofChange parseTurnedSpec)

/-- ITS FALSE NEIGHBOUR: 'it returns false'. Refute it at one input. -/
def parseTurnedWrong : ChangeSpec := { name := "parseTurned", fn := fun _ => fun
  | [d1, d2] => { results := [.lit (.bool false)], args := [d1, d2] }
  | _ => none }
def ParseTurnedWrongFalsely : Prop := parseTurnedRow.holds Try.pinned (OpenSpec.ofChange parseTurnedWrong)

/-- 'ferrysliplaw05.ParseDeep': WHATEVER THE INPUT: true; the input reads as it did. -/
def parseDeepSpec : ChangeSpec := { name := "parseDeep", fn := fun _ => fun
  | [d1, d2] => { results := [.lit (.bool true)], args := [d1, d2] }
  | _ => none }
def parseDeepRow : OpenClaim := { program := "ytmohgkoomnihfaa", sum := "c6f81f59d931fb5009b07978413dfbf0f98a92fc876f68ceb6c42b6086887a7a", func := "ferryslip/ferrysliplaw05.ParseDeep", spec := "parseDeep", inPlace := ["internal/bytealg.IndexByteString", "internal/bytealg.IndexString", "internal/abi.NoEscape", "internal/bytealg.abigen_runtime_cmpstring"], unfollowed := true, recurses := true, named := ["internal/bytealg.MaxLen"], apart := false }
def ParseDeepSaid : Prop := parseDeepRow.holds Try.pinned (OpenSpec.ofChange parseDeepSpec)

/-- ITS FALSE NEIGHBOUR: 'it returns false'. Refute it at one input. -/
def parseDeepWrong : ChangeSpec := { name := "parseDeep", fn := fun _ => fun
  | [d1, d2] => { results := [.lit (.bool false)], args := [d1, d2] }
  | _ => none }
def ParseDeepWrongFalsely : Prop := parseDeepRow.holds Try.pinned (OpenSpec.ofChange parseDeepWrong)

/-- 'ferrysliplaw05.ParseCounts': WHATEVER THE INPUT: true; the input reads as it did. -/
def parseCountsSpec : ChangeSpec := { name := "parseCounts", fn := fun _ => fun
  | [d] => { results := [.lit (.bool true)], args := [d] }
  | _ => none }
def parseCountsRow : OpenClaim := { program := "ytmohgkoomnihfaa", sum := "c6f81f59d931fb5009b07978413dfbf0f98a92fc876f68ceb6c42b6086887a7a", func := "ferryslip/ferrysliplaw05.ParseCounts", spec := "parseCounts", inPlace := ["internal/bytealg.IndexByteString", "internal/bytealg.IndexString", "internal/abi.NoEscape", "internal/bytealg.abigen_runtime_cmpstring"], unfollowed := true, recurses := true, named := ["internal/bytealg.MaxLen"], apart := false }
def ParseCountsSaid : Prop := parseCountsRow.holds Try.pinned (OpenSpec.ofChange parseCountsSpec)

/-- ITS FALSE NEIGHBOUR: 'it returns false'. Refute it at one input. -/
def parseCountsWrong : ChangeSpec := { name := "parseCounts", fn := fun _ => fun
  | [d] => { results := [.lit (.bool false)], args := [d] }
  | _ => none }
def ParseCountsWrongFalsely : Prop := parseCountsRow.holds Try.pinned (OpenSpec.ofChange parseCountsWrong)

/-- 'ferrysliplaw05.ParseCut': WHATEVER THE INPUT: true; the input reads as it did. -/
def parseCutSpec : ChangeSpec := { name := "parseCut", fn := fun _ => fun
  | [d1, d2] => { results := [.lit (.bool true)], args := [d1, d2] }
  | _ => none }
def parseCutRow : OpenClaim := { program := "ytmohgkoomnihfaa", sum := "c6f81f59d931fb5009b07978413dfbf0f98a92fc876f68ceb6c42b6086887a7a", func := "ferryslip/ferrysliplaw05.ParseCut", spec := "parseCut", inPlace := ["internal/bytealg.IndexByteString", "internal/bytealg.IndexString", "internal/abi.NoEscape", "internal/bytealg.abigen_runtime_cmpstring"], unfollowed := true, recurses := true, named := ["internal/bytealg.MaxLen"], apart := false }
def ParseCutSaid : Prop := parseCutRow.holds Try.pinned (OpenSpec.ofChange parseCutSpec)

/-- ITS FALSE NEIGHBOUR: 'it returns false'. Refute it at one input. -/
def parseCutWrong : ChangeSpec := { name := "parseCut", fn := fun _ => fun
  | [d1, d2] => { results := [.lit (.bool false)], args := [d1, d2] }
  | _ => none }
def ParseCutWrongFalsely : Prop := parseCutRow.holds Try.pinned (OpenSpec.ofChange parseCutWrong)

/-- 'ferrysliplaw05.ParseBack': WHATEVER THE INPUT: true; the input reads as it did. -/
def parseBackSpec : ChangeSpec := { name := "parseBack", fn := fun _ => fun
  | [d] => { results := [.lit (.bool true)], args := [d] }
  | _ => none }
def parseBackRow : OpenClaim := { program := "ytmohgkoomnihfaa", sum := "c6f81f59d931fb5009b07978413dfbf0f98a92fc876f68ceb6c42b6086887a7a", func := "ferryslip/ferrysliplaw05.ParseBack", spec := "parseBack", inPlace := ["internal/bytealg.IndexByteString", "internal/bytealg.IndexString", "internal/abi.NoEscape", "internal/bytealg.abigen_runtime_cmpstring", "internal/bytealg.MakeNoZero"], unfollowed := true, recurses := true, named := ["internal/bytealg.MaxLen"], apart := false }
def ParseBackSaid : Prop := parseBackRow.holds Try.pinned (OpenSpec.ofChange parseBackSpec)

/-- ITS FALSE NEIGHBOUR: 'it returns false'. Refute it at one input. -/
def parseBackWrong : ChangeSpec := { name := "parseBack", fn := fun _ => fun
  | [d] => { results := [.lit (.bool false)], args := [d] }
  | _ => none }
def ParseBackWrongFalsely : Prop := parseBackRow.holds Try.pinned (OpenSpec.ofChange parseBackWrong)

/-- 'ferrysliplaw05.ParseFixed': WHATEVER THE INPUT: true; the input reads as it did. -/
def parseFixedSpec : ChangeSpec := { name := "parseFixed", fn := fun _ => fun
  | [d] => { results := [.lit (.bool true)], args := [d] }
  | _ => none }
def parseFixedRow : OpenClaim := { program := "ytmohgkoomnihfaa", sum := "c6f81f59d931fb5009b07978413dfbf0f98a92fc876f68ceb6c42b6086887a7a", func := "ferryslip/ferrysliplaw05.ParseFixed", spec := "parseFixed", inPlace := ["internal/bytealg.IndexByteString", "internal/bytealg.IndexString", "internal/abi.NoEscape", "internal/bytealg.abigen_runtime_cmpstring", "internal/bytealg.MakeNoZero"], unfollowed := true, recurses := true, named := ["internal/bytealg.MaxLen"], apart := false }
def ParseFixedSaid : Prop := parseFixedRow.holds Try.pinned (OpenSpec.ofChange parseFixedSpec)

/-- ITS FALSE NEIGHBOUR: 'it returns false'. Refute it at one input. -/
def parseFixedWrong : ChangeSpec := { name := "parseFixed", fn := fun _ => fun
  | [d] => { results := [.lit (.bool false)], args := [d] }
  | _ => none }
def ParseFixedWrongFalsely : Prop := parseFixedRow.holds Try.pinned (OpenSpec.ofChange parseFixedWrong)

/- THE SECOND FORM. 'bulk': how many values and letters a reading holds, each counted each time it is reached (what is shared counts as often as it is met; a slice's spare places count too). A statement '..UptoSaid' is the law's where the arguments, and the package variables that the reading takes, are together of bulk at most 1048576: NARROWER than '..Said'. Prove '..Said' where nothing that the law and all that it calls make is longer than what came in: it says more and counts as full. Else prove '..UptoSaid'. A law counts once. -/
mutual
def uptoBulk {H : Type} : DataW H → Nat
  | .lit (.string bytes) => bytes.length + 1
  | .lit _ => 1
  | .nil => 1
  | .ptr d => uptoBulk d + 1
  | .slice elems spare => uptoBulkAll elems + uptoBulkAll spare + 1
  | .agg parts => uptoBulkAll parts + 1
  | .iface _ d => uptoBulk d + 1
  | .map entries => uptoBulkEntries entries + 1
  | .held _ => 1
def uptoBulkAll {H : Type} : List (DataW H) → Nat
  | [] => 0
  | d :: r => uptoBulk d + uptoBulkAll r
def uptoBulkEntries {H : Type} : List (Lit × DataW H) → Nat
  | [] => 0
  | x :: r => uptoBulkEntry x + uptoBulkEntries r
def uptoBulkEntry {H : Type} : Lit × DataW H → Nat
  | (.string bytes, d) => bytes.length + uptoBulk d + 1
  | (_, d) => uptoBulk d + 1
 end
def uptoSmall : (H : Type) → List (DataW H) → Bool := fun _ ds => decide (uptoBulkAll ds ≤ 1048576)
def OpenSpec.upto (s : _root_.Go.ChangeSpec) : _root_.Go.OpenSpec := { _root_.Go.OpenSpec.ofChange s with cond := some uptoSmall }

/-- 'ferrysliplaw05.ParseExact', WHERE WHAT IT READS IS OF BULK AT MOST 1048576: true; the input reads as it did. -/
def parseExactUptoRow : OpenClaim := { program := "ytmohgkoomnihfaa", sum := "c6f81f59d931fb5009b07978413dfbf0f98a92fc876f68ceb6c42b6086887a7a", func := "ferryslip/ferrysliplaw05.ParseExact", spec := "parseExact", inPlace := ["internal/bytealg.IndexByteString", "internal/bytealg.IndexString", "internal/abi.NoEscape", "internal/bytealg.abigen_runtime_cmpstring"], unfollowed := true, recurses := true, named := ["internal/bytealg.MaxLen"], apart := false, narrowed := true }
def ParseExactUptoSaid : Prop := parseExactUptoRow.holds Try.pinned (OpenSpec.upto parseExactSpec)

/-- 'ferrysliplaw05.ParseTurned', WHERE WHAT IT READS IS OF BULK AT MOST 1048576: true; the input reads as it did. -/
def parseTurnedUptoRow : OpenClaim := { program := "ytmohgkoomnihfaa", sum := "c6f81f59d931fb5009b07978413dfbf0f98a92fc876f68ceb6c42b6086887a7a", func := "ferryslip/ferrysliplaw05.ParseTurned", spec := "parseTurned", inPlace := ["internal/bytealg.IndexByteString", "internal/bytealg.IndexString", "internal/abi.NoEscape", "internal/bytealg.abigen_runtime_cmpstring"], unfollowed := true, recurses := true, named := ["internal/bytealg.MaxLen"], apart := false, narrowed := true }
def ParseTurnedUptoSaid : Prop := parseTurnedUptoRow.holds Try.pinned (OpenSpec.upto parseTurnedSpec)

/-- 'ferrysliplaw05.ParseDeep', WHERE WHAT IT READS IS OF BULK AT MOST 1048576: true; the input reads as it did. -/
def parseDeepUptoRow : OpenClaim := { program := "ytmohgkoomnihfaa", sum := "c6f81f59d931fb5009b07978413dfbf0f98a92fc876f68ceb6c42b6086887a7a", func := "ferryslip/ferrysliplaw05.ParseDeep", spec := "parseDeep", inPlace := ["internal/bytealg.IndexByteString", "internal/bytealg.IndexString", "internal/abi.NoEscape", "internal/bytealg.abigen_runtime_cmpstring"], unfollowed := true, recurses := true, named := ["internal/bytealg.MaxLen"], apart := false, narrowed := true }
def ParseDeepUptoSaid : Prop := parseDeepUptoRow.holds Try.pinned (OpenSpec.upto parseDeepSpec)

/-- 'ferrysliplaw05.ParseCounts', WHERE WHAT IT READS IS OF BULK AT MOST 1048576: true; the input reads as it did. -/
def parseCountsUptoRow : OpenClaim := { program := "ytmohgkoomnihfaa", sum := "c6f81f59d931fb5009b07978413dfbf0f98a92fc876f68ceb6c42b6086887a7a", func := "ferryslip/ferrysliplaw05.ParseCounts", spec := "parseCounts", inPlace := ["internal/bytealg.IndexByteString", "internal/bytealg.IndexString", "internal/abi.NoEscape", "internal/bytealg.abigen_runtime_cmpstring"], unfollowed := true, recurses := true, named := ["internal/bytealg.MaxLen"], apart := false, narrowed := true }
def ParseCountsUptoSaid : Prop := parseCountsUptoRow.holds Try.pinned (OpenSpec.upto parseCountsSpec)

/-- 'ferrysliplaw05.ParseCut', WHERE WHAT IT READS IS OF BULK AT MOST 1048576: true; the input reads as it did. -/
def parseCutUptoRow : OpenClaim := { program := "ytmohgkoomnihfaa", sum := "c6f81f59d931fb5009b07978413dfbf0f98a92fc876f68ceb6c42b6086887a7a", func := "ferryslip/ferrysliplaw05.ParseCut", spec := "parseCut", inPlace := ["internal/bytealg.IndexByteString", "internal/bytealg.IndexString", "internal/abi.NoEscape", "internal/bytealg.abigen_runtime_cmpstring"], unfollowed := true, recurses := true, named := ["internal/bytealg.MaxLen"], apart := false, narrowed := true }
def ParseCutUptoSaid : Prop := parseCutUptoRow.holds Try.pinned (OpenSpec.upto parseCutSpec)

/-- 'ferrysliplaw05.ParseBack', WHERE WHAT IT READS IS OF BULK AT MOST 1048576: true; the input reads as it did. -/
def parseBackUptoRow : OpenClaim := { program := "ytmohgkoomnihfaa", sum := "c6f81f59d931fb5009b07978413dfbf0f98a92fc876f68ceb6c42b6086887a7a", func := "ferryslip/ferrysliplaw05.ParseBack", spec := "parseBack", inPlace := ["internal/bytealg.IndexByteString", "internal/bytealg.IndexString", "internal/abi.NoEscape", "internal/bytealg.abigen_runtime_cmpstring", "internal/bytealg.MakeNoZero"], unfollowed := true, recurses := true, named := ["internal/bytealg.MaxLen"], apart := false, narrowed := true }
def ParseBackUptoSaid : Prop := parseBackUptoRow.holds Try.pinned (OpenSpec.upto parseBackSpec)

/-- 'ferrysliplaw05.ParseFixed', WHERE WHAT IT READS IS OF BULK AT MOST 1048576: true; the input reads as it did. -/
def parseFixedUptoRow : OpenClaim := { program := "ytmohgkoomnihfaa", sum := "c6f81f59d931fb5009b07978413dfbf0f98a92fc876f68ceb6c42b6086887a7a", func := "ferryslip/ferrysliplaw05.ParseFixed", spec := "parseFixed", inPlace := ["internal/bytealg.IndexByteString", "internal/bytealg.IndexString", "internal/abi.NoEscape", "internal/bytealg.abigen_runtime_cmpstring", "internal/bytealg.MakeNoZero"], unfollowed := true, recurses := true, named := ["internal/bytealg.MaxLen"], apart := false, narrowed := true }
def ParseFixedUptoSaid : Prop := parseFixedUptoRow.holds Try.pinned (OpenSpec.upto parseFixedSpec)

end Rows
end Go.Proofs.Ytmohgkoomnihfaa
