/-
  No cell of these rows narrows 'for every input' (looked for: loops, veiled, ifaces, maps, wideKeys, modest, calm, conditions, laid).
  DERIVED. THE GIVEN ROWS OF THIS SEAT. 7 by the template 'for every input the law returns true; each argument reads behind the call as it read before'; 0 by the template 'total and deterministic' (their statements: YtkbciolghkcjoaaTotals.lean).
  GIVEN WITH THE SEED: the statements are not yours to turn. If you find one false, say at which input.
  Laid BY PROGRAM, IN A SANDBOX (cutbox-rows.mjs): the forced cells as the released guide's own fill.sh prints them over the translation dc7e6a8c0b301168… (all of the seat's roots in one cut). By AI agents, Wed Nov 11 2026. No macro, syntax, notation, axiom, sorry.
-/
import Derived.Test.YtkbciolghkcjoaaChecked
import GoSem.Claim
import GoSem.ClaimJoined
import GoSem.ClaimMapViews
import Derived.JoinedTies
import Derived.KernelRfl
namespace Go.Proofs.Ytkbciolghkcjoaa
/- THE CELL 'sum', in the pinned program and in every row, IS THE sha256 OF THE DUMP (.gsa) THAT YtkbciolghkcjoaaProg.lean LOADS. Nothing in Lean hashes anything: it is a label: what it is worth is what the hold of that sum in a sandbox is worth. -/
noncomputable def Try.pinned : Pinned := { name := "ytkbciolghkcjoaa", sum := "dc7e6a8c0b3011682389cfd415cc52a82c6e1f790d749635ee335ec07fce281a", checked := Try.checked }
namespace Rows
def none {H : Type} : Left H := { results := [], args := [] }

/-- 'ferrysliplaw06.LinesAdd': WHATEVER THE INPUT: true; the input reads as it did. -/
def linesAddSpec : ChangeSpec := { name := "linesAdd", fn := fun _ => fun
  | [d1, d2] => { results := [.lit (.bool true)], args := [d1, d2] }
  | _ => none }
def linesAddRow : OpenClaim := { program := "ytkbciolghkcjoaa", sum := "dc7e6a8c0b3011682389cfd415cc52a82c6e1f790d749635ee335ec07fce281a", func := "ferryslip/ferrysliplaw06.LinesAdd", spec := "linesAdd", inPlace := ["internal/bytealg.IndexByteString", "internal/bytealg.IndexString", "internal/abi.NoEscape", "slices.overlaps[ferryslip/api.Line]", "internal/bytealg.MakeNoZero"], unfollowed := true, recurses := true, named := ["internal/bytealg.MaxLen"], apart := false }
def LinesAddSaid : Prop := linesAddRow.holds Try.pinned (OpenSpec.ofChange linesAddSpec)

/-- ITS FALSE NEIGHBOUR: 'it returns false'. Refute it at one input. -/
def linesAddWrong : ChangeSpec := { name := "linesAdd", fn := fun _ => fun
  | [d1, d2] => { results := [.lit (.bool false)], args := [d1, d2] }
  | _ => none }
def LinesAddWrongFalsely : Prop := linesAddRow.holds Try.pinned (OpenSpec.ofChange linesAddWrong)

/-- 'ferrysliplaw06.LinesText': WHATEVER THE INPUT: true; the input reads as it did. -/
def linesTextSpec : ChangeSpec := { name := "linesText", fn := fun _ => fun
  | [d] => { results := [.lit (.bool true)], args := [d] }
  | _ => none }
def linesTextRow : OpenClaim := { program := "ytkbciolghkcjoaa", sum := "dc7e6a8c0b3011682389cfd415cc52a82c6e1f790d749635ee335ec07fce281a", func := "ferryslip/ferrysliplaw06.LinesText", spec := "linesText", inPlace := ["internal/bytealg.IndexByteString", "internal/bytealg.IndexString", "internal/abi.NoEscape", "slices.overlaps[ferryslip/api.Line]", "internal/bytealg.MakeNoZero"], unfollowed := true, recurses := true, named := ["internal/bytealg.MaxLen"], apart := false }
def LinesTextSaid : Prop := linesTextRow.holds Try.pinned (OpenSpec.ofChange linesTextSpec)

/-- ITS FALSE NEIGHBOUR: 'it returns false'. Refute it at one input. -/
def linesTextWrong : ChangeSpec := { name := "linesText", fn := fun _ => fun
  | [d] => { results := [.lit (.bool false)], args := [d] }
  | _ => none }
def LinesTextWrongFalsely : Prop := linesTextRow.holds Try.pinned (OpenSpec.ofChange linesTextWrong)

/-- 'ferrysliplaw06.LinesBack': WHATEVER THE INPUT: true; the input reads as it did. -/
def linesBackSpec : ChangeSpec := { name := "linesBack", fn := fun _ => fun
  | [d] => { results := [.lit (.bool true)], args := [d] }
  | _ => none }
def linesBackRow : OpenClaim := { program := "ytkbciolghkcjoaa", sum := "dc7e6a8c0b3011682389cfd415cc52a82c6e1f790d749635ee335ec07fce281a", func := "ferryslip/ferrysliplaw06.LinesBack", spec := "linesBack", inPlace := ["internal/bytealg.IndexByteString", "internal/bytealg.IndexString", "internal/abi.NoEscape", "slices.overlaps[ferryslip/api.Line]", "internal/bytealg.MakeNoZero"], unfollowed := true, recurses := true, named := ["internal/bytealg.MaxLen"], apart := false }
def LinesBackSaid : Prop := linesBackRow.holds Try.pinned (OpenSpec.ofChange linesBackSpec)

/-- ITS FALSE NEIGHBOUR: 'it returns false'. Refute it at one input. -/
def linesBackWrong : ChangeSpec := { name := "linesBack", fn := fun _ => fun
  | [d] => { results := [.lit (.bool false)], args := [d] }
  | _ => none }
def LinesBackWrongFalsely : Prop := linesBackRow.holds Try.pinned (OpenSpec.ofChange linesBackWrong)

/-- 'ferrysliplaw06.LinesTwice': WHATEVER THE INPUT: true; the input reads as it did. -/
def linesTwiceSpec : ChangeSpec := { name := "linesTwice", fn := fun _ => fun
  | [d] => { results := [.lit (.bool true)], args := [d] }
  | _ => none }
def linesTwiceRow : OpenClaim := { program := "ytkbciolghkcjoaa", sum := "dc7e6a8c0b3011682389cfd415cc52a82c6e1f790d749635ee335ec07fce281a", func := "ferryslip/ferrysliplaw06.LinesTwice", spec := "linesTwice", inPlace := ["internal/bytealg.IndexByteString", "internal/bytealg.IndexString", "internal/abi.NoEscape", "slices.overlaps[ferryslip/api.Line]", "internal/bytealg.MakeNoZero"], unfollowed := true, recurses := true, named := ["internal/bytealg.MaxLen"], apart := false }
def LinesTwiceSaid : Prop := linesTwiceRow.holds Try.pinned (OpenSpec.ofChange linesTwiceSpec)

/-- ITS FALSE NEIGHBOUR: 'it returns false'. Refute it at one input. -/
def linesTwiceWrong : ChangeSpec := { name := "linesTwice", fn := fun _ => fun
  | [d] => { results := [.lit (.bool false)], args := [d] }
  | _ => none }
def LinesTwiceWrongFalsely : Prop := linesTwiceRow.holds Try.pinned (OpenSpec.ofChange linesTwiceWrong)

/-- 'ferrysliplaw06.LinesGrows': WHATEVER THE INPUT: true; the input reads as it did. -/
def linesGrowsSpec : ChangeSpec := { name := "linesGrows", fn := fun _ => fun
  | [d1, d2] => { results := [.lit (.bool true)], args := [d1, d2] }
  | _ => none }
def linesGrowsRow : OpenClaim := { program := "ytkbciolghkcjoaa", sum := "dc7e6a8c0b3011682389cfd415cc52a82c6e1f790d749635ee335ec07fce281a", func := "ferryslip/ferrysliplaw06.LinesGrows", spec := "linesGrows", inPlace := ["internal/bytealg.IndexByteString", "internal/bytealg.IndexString", "internal/abi.NoEscape", "slices.overlaps[ferryslip/api.Line]", "internal/bytealg.MakeNoZero"], unfollowed := true, recurses := true, named := ["internal/bytealg.MaxLen"], apart := false }
def LinesGrowsSaid : Prop := linesGrowsRow.holds Try.pinned (OpenSpec.ofChange linesGrowsSpec)

/-- ITS FALSE NEIGHBOUR: 'it returns false'. Refute it at one input. -/
def linesGrowsWrong : ChangeSpec := { name := "linesGrows", fn := fun _ => fun
  | [d1, d2] => { results := [.lit (.bool false)], args := [d1, d2] }
  | _ => none }
def LinesGrowsWrongFalsely : Prop := linesGrowsRow.holds Try.pinned (OpenSpec.ofChange linesGrowsWrong)

/-- 'ferrysliplaw06.LinesOrder': WHATEVER THE INPUT: true; the input reads as it did. -/
def linesOrderSpec : ChangeSpec := { name := "linesOrder", fn := fun _ => fun
  | [d1, d2] => { results := [.lit (.bool true)], args := [d1, d2] }
  | _ => none }
def linesOrderRow : OpenClaim := { program := "ytkbciolghkcjoaa", sum := "dc7e6a8c0b3011682389cfd415cc52a82c6e1f790d749635ee335ec07fce281a", func := "ferryslip/ferrysliplaw06.LinesOrder", spec := "linesOrder", inPlace := ["internal/bytealg.IndexByteString", "internal/bytealg.IndexString", "internal/abi.NoEscape", "slices.overlaps[ferryslip/api.Line]", "internal/bytealg.MakeNoZero"], unfollowed := true, recurses := true, named := ["internal/bytealg.MaxLen"], apart := false }
def LinesOrderSaid : Prop := linesOrderRow.holds Try.pinned (OpenSpec.ofChange linesOrderSpec)

/-- ITS FALSE NEIGHBOUR: 'it returns false'. Refute it at one input. -/
def linesOrderWrong : ChangeSpec := { name := "linesOrder", fn := fun _ => fun
  | [d1, d2] => { results := [.lit (.bool false)], args := [d1, d2] }
  | _ => none }
def LinesOrderWrongFalsely : Prop := linesOrderRow.holds Try.pinned (OpenSpec.ofChange linesOrderWrong)

/-- 'ferrysliplaw06.LinesRows': WHATEVER THE INPUT: true; the input reads as it did. -/
def linesRowsSpec : ChangeSpec := { name := "linesRows", fn := fun _ => fun
  | [d] => { results := [.lit (.bool true)], args := [d] }
  | _ => none }
def linesRowsRow : OpenClaim := { program := "ytkbciolghkcjoaa", sum := "dc7e6a8c0b3011682389cfd415cc52a82c6e1f790d749635ee335ec07fce281a", func := "ferryslip/ferrysliplaw06.LinesRows", spec := "linesRows", inPlace := ["internal/bytealg.IndexByteString", "internal/bytealg.IndexString", "internal/abi.NoEscape", "slices.overlaps[ferryslip/api.Line]", "internal/bytealg.MakeNoZero"], unfollowed := true, recurses := true, named := ["internal/bytealg.MaxLen"], apart := false }
def LinesRowsSaid : Prop := linesRowsRow.holds Try.pinned (OpenSpec.ofChange linesRowsSpec)

/-- ITS FALSE NEIGHBOUR: 'it returns false'. Refute it at one input. -/
def linesRowsWrong : ChangeSpec := { name := "linesRows", fn := fun _ => fun
  | [d] => { results := [.lit (.bool false)], args := [d] }
  | _ => none }
def LinesRowsWrongFalsely : Prop := linesRowsRow.holds Try.pinned (OpenSpec.ofChange linesRowsWrong)

/- THE SECOND FORM. 'bulk': how many values and letters a reading holds, each counted each time it is reached (what is shared counts as often as it is met; a slice's spare places count too). A statement '..UptoSaid' is the law's where the arguments, and the package variables that the reading takes, are together of bulk at most 1048576: NARROWER than '..Said'. Prove '..Said' where nothing that the law and all that it calls make is longer than what came in: it says more and counts as full. Else prove '..UptoSaid'. A law counts once. -/
mutual
def uptoBulk {H : Type} : DataW H → Nat
  | .lit (.string bytes) => bytes.length + 1
  | .lit _ => 1
  | .nil => 1
  | .ptr d => uptoBulk d + 1
  | .slice elems spare => uptoBulkAll elems + uptoBulkAll spare + 1
  | .agg parts => uptoBulkAll parts + 1
  | .iface _ d => uptoBulk d + 1
  | .map entries => uptoBulkEntries entries + 1
  | .held _ => 1
def uptoBulkAll {H : Type} : List (DataW H) → Nat
  | [] => 0
  | d :: r => uptoBulk d + uptoBulkAll r
def uptoBulkEntries {H : Type} : List (Lit × DataW H) → Nat
  | [] => 0
  | x :: r => uptoBulkEntry x + uptoBulkEntries r
def uptoBulkEntry {H : Type} : Lit × DataW H → Nat
  | (.string bytes, d) => bytes.length + uptoBulk d + 1
  | (_, d) => uptoBulk d + 1
 end
def uptoSmall : (H : Type) → List (DataW H) → Bool := fun _ ds => decide (uptoBulkAll ds ≤ 1048576)
def OpenSpec.upto (s : _root_.Go.ChangeSpec) : _root_.Go.OpenSpec := { _root_.Go.OpenSpec.ofChange s with cond := some uptoSmall }

/-- 'ferrysliplaw06.LinesAdd', WHERE WHAT IT READS IS OF BULK AT MOST 1048576: true; the input reads as it did. -/
def linesAddUptoRow : OpenClaim := { program := "ytkbciolghkcjoaa", sum := "dc7e6a8c0b3011682389cfd415cc52a82c6e1f790d749635ee335ec07fce281a", func := "ferryslip/ferrysliplaw06.LinesAdd", spec := "linesAdd", inPlace := ["internal/bytealg.IndexByteString", "internal/bytealg.IndexString", "internal/abi.NoEscape", "slices.overlaps[ferryslip/api.Line]", "internal/bytealg.MakeNoZero"], unfollowed := true, recurses := true, named := ["internal/bytealg.MaxLen"], apart := false, narrowed := true }
def LinesAddUptoSaid : Prop := linesAddUptoRow.holds Try.pinned (OpenSpec.upto linesAddSpec)

/-- 'ferrysliplaw06.LinesText', WHERE WHAT IT READS IS OF BULK AT MOST 1048576: true; the input reads as it did. -/
def linesTextUptoRow : OpenClaim := { program := "ytkbciolghkcjoaa", sum := "dc7e6a8c0b3011682389cfd415cc52a82c6e1f790d749635ee335ec07fce281a", func := "ferryslip/ferrysliplaw06.LinesText", spec := "linesText", inPlace := ["internal/bytealg.IndexByteString", "internal/bytealg.IndexString", "internal/abi.NoEscape", "slices.overlaps[ferryslip/api.Line]", "internal/bytealg.MakeNoZero"], unfollowed := true, recurses := true, named := ["internal/bytealg.MaxLen"], apart := false, narrowed := true }
def LinesTextUptoSaid : Prop := linesTextUptoRow.holds Try.pinned (OpenSpec.upto linesTextSpec)

/-- 'ferrysliplaw06.LinesBack', WHERE WHAT IT READS IS OF BULK AT MOST 1048576: true; the input reads as it did. -/
def linesBackUptoRow : OpenClaim := { program := "ytkbciolghkcjoaa", sum := "dc7e6a8c0b3011682389cfd415cc52a82c6e1f790d749635ee335ec07fce281a", func := "ferryslip/ferrysliplaw06.LinesBack", spec := "linesBack", inPlace := ["internal/bytealg.IndexByteString", "internal/bytealg.IndexString", "internal/abi.NoEscape", "slices.overlaps[ferryslip/api.Line]", "internal/bytealg.MakeNoZero"], unfollowed := true, recurses := true, named := ["internal/bytealg.MaxLen"], apart := false, narrowed := true }
def LinesBackUptoSaid : Prop := linesBackUptoRow.holds Try.pinned (OpenSpec.upto linesBackSpec)

/-- 'ferrysliplaw06.LinesTwice', WHERE WHAT IT READS IS OF BULK AT MOST 1048576: true; the input reads as it did. -/
def linesTwiceUptoRow : OpenClaim := { program := "ytkbciolghkcjoaa", sum := "dc7e6a8c0b3011682389cfd415cc52a82c6e1f790d749635ee335ec07fce281a", func := "ferryslip/ferrysliplaw06.LinesTwice", spec := "linesTwice", inPlace := ["internal/bytealg.IndexByteString", "internal/bytealg.IndexString", "internal/abi.NoEscape", "slices.overlaps[ferryslip/api.Line]", "internal/bytealg.MakeNoZero"], unfollowed := true, recurses := true, named := ["internal/bytealg.MaxLen"], apart := false, narrowed := true }
def LinesTwiceUptoSaid : Prop := linesTwiceUptoRow.holds Try.pinned (OpenSpec.upto linesTwiceSpec)

/-- 'ferrysliplaw06.LinesGrows', WHERE WHAT IT READS IS OF BULK AT MOST 1048576: true; the input reads as it did. -/
def linesGrowsUptoRow : OpenClaim := { program := "ytkbciolghkcjoaa", sum := "dc7e6a8c0b3011682389cfd415cc52a82c6e1f790d749635ee335ec07fce281a", func := "ferryslip/ferrysliplaw06.LinesGrows", spec := "linesGrows", inPlace := ["internal/bytealg.IndexByteString", "internal/bytealg.IndexString", "internal/abi.NoEscape", "slices.overlaps[ferryslip/api.Line]", "internal/bytealg.MakeNoZero"], unfollowed := true, recurses := true, named := ["internal/bytealg.MaxLen"], apart := false, narrowed := true }
def LinesGrowsUptoSaid : Prop := linesGrowsUptoRow.holds Try.pinned (OpenSpec.upto linesGrowsSpec)

/-- 'ferrysliplaw06.LinesOrder', WHERE WHAT IT READS IS OF BULK AT MOST 1048576: true; the input reads as it did. -/
def linesOrderUptoRow : OpenClaim := { program := "ytkbciolghkcjoaa", sum := "dc7e6a8c0b3011682389cfd415cc52a82c6e1f790d749635ee335ec07fce281a", func := "ferryslip/ferrysliplaw06.LinesOrder", spec := "linesOrder", inPlace := ["internal/bytealg.IndexByteString", "internal/bytealg.IndexString", "internal/abi.NoEscape", "slices.overlaps[ferryslip/api.Line]", "internal/bytealg.MakeNoZero"], unfollowed := true, recurses := true, named := ["internal/bytealg.MaxLen"], apart := false, narrowed := true }
def LinesOrderUptoSaid : Prop := linesOrderUptoRow.holds Try.pinned (OpenSpec.upto linesOrderSpec)

/-- 'ferrysliplaw06.LinesRows', WHERE WHAT IT READS IS OF BULK AT MOST 1048576: true; the input reads as it did. -/
def linesRowsUptoRow : OpenClaim := { program := "ytkbciolghkcjoaa", sum := "dc7e6a8c0b3011682389cfd415cc52a82c6e1f790d749635ee335ec07fce281a", func := "ferryslip/ferrysliplaw06.LinesRows", spec := "linesRows", inPlace := ["internal/bytealg.IndexByteString", "internal/bytealg.IndexString", "internal/abi.NoEscape", "slices.overlaps[ferryslip/api.Line]", "internal/bytealg.MakeNoZero"], unfollowed := true, recurses := true, named := ["internal/bytealg.MaxLen"], apart := false, narrowed := true }
def LinesRowsUptoSaid : Prop := linesRowsUptoRow.holds Try.pinned (OpenSpec.upto linesRowsSpec)

end Rows
end Go.Proofs.Ytkbciolghkcjoaa
