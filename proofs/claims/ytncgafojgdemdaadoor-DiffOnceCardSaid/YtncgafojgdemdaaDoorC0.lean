/-
  EACH STATEMENT OF THIS SEAT, OUT OF THE LAW TOLD OF DATA: if the law's call answers true for all data, the given row holds, and the card. No condition.
-/
import Derived.Test.YtncgafojgdemdaaDoorVz
import Derived.Test.YtncgafojgdemdaaDoorVp
import Derived.Test.YtncgafojgdemdaaDoorTie
import Derived.Test.YtncgafojgdemdaaDoorCards
import Derived.Shelf.Vars
import Derived.SevenTiedAt
import Derived.LaidMore
import Derived.Stop.Joined
import Derived.Lib.LaidTab
set_option linter.unusedVariables false
set_option linter.unusedSimpArgs false
set_option maxRecDepth 100000
namespace Go.Proofs.YtncgafojgdemdaaDoor
open Go.ChangeShapes Go.WideShapes Go.ChangeAt Go.RowKit

theorem Tryd.own : ownKnob Tryd.prog.godebug = none := by kernel_rfl
theorem Tryd.laidOut : laidOutB Tryd.prog = true := by kernel_rfl
abbrev laidAll : List (String × DataW Unit) := [("math/bits.deBruijn32tab", Rows.laid_math_bits_deBruijn32tab), ("math/bits.deBruijn64tab", Rows.laid_math_bits_deBruijn64tab), ("internal/strconv.uint64pow10", Rows.laid_internal_strconv_uint64pow10)]
/-- The door's own heap meets the condition. -/
theorem door_met (os : Os) (args : Array Value) : laidMetH Tryd.prog laidAll ((World.doorLaid Tryd.prog 400 os).forCall (fun _ _ => 0) ⟨#[], args, []⟩).memory :=
  laidMetH_of_parts3 (fuel := 8) (laidMet_of_run' 8 (by kernel_rfl) (by kernel_rfl)) (by kernel_rfl) (by kernel_rfl)

/-- The table of powers holds what it has. -/
theorem pow_laid {W : World} (h : laidMetH Tryd.prog laidAll W) : ∃ e fr, W.heap[0]? = some (.cells (Lib.pow10Tab.map fun z => Value.int .u64 z).toArray e fr) := by
  rw [MakeChecks.laidMetH_plain _ _ _ (by kernel_rfl)] at h
  obtain ⟨ps, ⟨g0, t0, cs0, f0, p0, q0, hg0, ht0, hv0, hd0, ⟨g1, t1, cs1, f1, p1, q1, hg1, ht1, hv1, hd1, ⟨g2, t2, cs2, f2, p2, q2, hg2, ht2, hv2, hd2, _, _⟩, _⟩, _⟩, _, _⟩ := h
  have hn : Tryd.prog.globalNamed "internal/strconv.uint64pow10" = some 0 := by kernel_rfl
  have hty : (Tryd.prog.globals[0]?).map (·.type) = some 107 := by kernel_rfl
  obtain rfl := Option.some.inj (hn.symm.trans hg2)
  obtain rfl := Option.some.inj (hty.symm.trans ht2)
  have hdat : (Rows.laid_internal_strconv_uint64pow10 : DataW Unit) = Lib.tabData .u64 Lib.pow10Tab := by kernel_rfl
  rw [hdat] at hd2
  have hcs := Lib.cells_of_tab (k := .u64) Tryd.underlying107 Tryd.underlying97 (by kernel_rfl) (by kernel_rfl) hd2
  unfold World.var? at hv2
  rw [hn] at hv2
  simp only [Option.bind_some] at hv2
  split at hv2
  · rename_i c e fr hh
    refine ⟨e, fr, ?_⟩
    injection hv2 with hv
    rw [hh, hv, ← hcs]
  · cases hv2
theorem Tryd.glb {W : World} (h : W.ShapedOpen Tryd.prog) (hl : laidMetH Tryd.prog laidAll W) : Vc.Glb Tryd.prog W fun b => b < W.heap.size :=
  Vc.glb_of_both [3] (by kernel_rfl) (fun g hg => by
    rcases List.mem_cons.1 hg with rfl | hg
    · exact Go.Proofs.cell_of_shapedOpen_int (zero := #[.int .i64 0]) (t := 3) h (of_decide_eq_true (by kernel_rfl)) (by kernel_rfl) rfl (by kernel_rfl) (by kernel_rfl) Tryd.underlying3
    cases hg) fun g zs hz => by
    have hlt : g < Tryd.prog.globals.size := by
      unfold Vc.tabVar at hz
      split at hz
      · rename_i v hv; exact (Array.getElem?_eq_some_iff.1 hv).1
      · cases hz
    have hall : ((List.range Tryd.prog.globals.size).all fun g => (Vc.tabVar Tryd.prog g).isNone || g == 0) = true := by kernel_rfl
    have h1 := List.all_eq_true.1 hall g (List.mem_range.2 hlt)
    rw [hz] at h1
    have hg0 : g = 0 := by simpa using h1
    subst hg0
    have hz2 : Vc.tabVar Tryd.prog 0 = some Lib.pow10Tab := by kernel_rfl
    rw [hz2] at hz
    injection hz with hz
    rw [← hz]
    exact pow_laid hl

end Go.Proofs.YtncgafojgdemdaaDoor
