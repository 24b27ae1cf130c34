/- What the cards of this seat share: the tables that the rows list, opened; the witness. -/
import Derived.Test.YtfjeheioglmalaaDoorRows
import Derived.Test.YtfjeheioglmalaaDoorCards
import Derived.Test.YtfjeheioglmalaaDoorTie
import Derived.Test.YtfjeheioglmalaaDoorItoa
import Derived.ProofKit
import Derived.LaidMore
import Derived.OpenShut
import Derived.ShutString
import Derived.Stop.Joined
import Derived.Stop.LaidErr
import Derived.MakeChecks
import Derived.SevenTiedAt
namespace Go.Proofs.YtfjeheioglmalaaDoor
open Go.ChangeShapes Go.WideShapes Go.ChangeAt Go.RowKit
set_option linter.unusedVariables false
theorem own_knob : ownKnob Tryd.prog.godebug = none := by kernel_rfl
theorem laid_out : laidOutB Tryd.prog = true := by kernel_rfl
theorem gPow : Tryd.prog.globalNamed "internal/strconv.uint64pow10" = some 1 := by kernel_rfl
theorem tPow : (Tryd.prog.globals[1]?).map (·.type) = some 116 := by kernel_rfl
theorem Tryd.cells110 : Tryd.prog.cellsOf 110 = 1 := by kernel_rfl
theorem Tryd.cells116 : Tryd.prog.cellsOf 116 = 20 := by kernel_rfl
abbrev laid3 : List (String × DataW Unit) := [("math/bits.deBruijn32tab", Rows.laid_math_bits_deBruijn32tab), ("math/bits.deBruijn64tab", Rows.laid_math_bits_deBruijn64tab), ("internal/strconv.uint64pow10", Rows.laid_internal_strconv_uint64pow10)]
theorem tab_of_laid {W : World} (h : laidMetH Tryd.prog laid3 W) : Tab W := by
  rw [MakeChecks.laidMetH_plain _ _ _ (by kernel_rfl)] at h
  exact Lib.tabIs_of_head gPow tPow Tryd.underlying116 Tryd.underlying110 Tryd.cells110 Tryd.cells116 (laidMet.tail (laidMet.tail h))
theorem door_met (os : Os) (args : Array Value) : laidMetH Tryd.prog laid3 ((World.doorLaid Tryd.prog 400 os).forCall (fun _ _ => 0) ⟨#[], args, []⟩).memory :=
  laidMetH_of_parts3 (fuel := 8) (laidMet_of_run' 8 (by kernel_rfl) (by kernel_rfl)) (by kernel_rfl) (by kernel_rfl)
end Go.Proofs.YtfjeheioglmalaaDoor
