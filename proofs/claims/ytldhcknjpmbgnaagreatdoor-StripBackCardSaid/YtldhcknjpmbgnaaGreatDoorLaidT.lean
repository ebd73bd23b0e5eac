/- The three tables that the row lists: that they lie there as the program lays them, and what a walk reads of them. -/
import Derived.Test.YtldhcknjpmbgnaaGreatDoorRows
import Derived.Test.YtldhcknjpmbgnaaGreatDoorLabT
import Derived.ProofKit
import Derived.LaidMore
import Derived.OpenShut
import Derived.Stop.Joined
import Derived.Stop.LaidErr
import Derived.Lib.LaidTab
namespace Go.Proofs.YtldhcknjpmbgnaaGreatDoor.Rk
open Go.RowKit
set_option linter.unusedVariables false
set_option linter.unusedSimpArgs false

def laid3 : List (String × DataW Unit) := [("math/bits.deBruijn32tab", Rows.laid_math_bits_deBruijn32tab), ("math/bits.deBruijn64tab", Rows.laid_math_bits_deBruijn64tab), ("internal/strconv.uint64pow10", Rows.laid_internal_strconv_uint64pow10)]
set_option maxRecDepth 100000 in
theorem door_met (os : Os) (args : Array Value) : laidMetH Tryz.prog laid3 ((World.doorLaid Tryz.prog 400 os).forCall (fun _ _ => 0) ⟨#[], args, []⟩).memory :=
  laidMetH_of_parts3 (fuel := 8) (laidMet_of_run' 8 (by kernel_rfl) (by kernel_rfl)) (by kernel_rfl) (by kernel_rfl)
theorem door_shaped (os : Os) (args : Array Value) : ((World.doorLaid Tryz.prog 400 os).forCall (fun _ _ => 0) ⟨#[], args, []⟩).Shaped Tryz.prog := World.shaped_of_RefB (by kernel_rfl) (by kernel_rfl)
theorem door_os (os : Os) : (World.doorLaid Tryz.prog 400 os).os = os := by kernel_rfl
/-- What the row's condition gives the walk. -/
theorem tab_of {W : World} (h : laidMetH Tryz.prog laid3 W) : Tab W := by
  rw [MakeChecks.laidMetH_plain _ _ _ (by kernel_rfl)] at h
  exact Lib.tabIs_of_head (zs := Lib.pow10Tab) (rest := []) (g := 1) (t := 232) (e := 226) (n := 20) (by kernel_rfl) (by kernel_rfl) Tryz.underlying232 Tryz.underlying226 (by kernel_rfl) (by kernel_rfl) h.tail.tail
end Go.Proofs.YtldhcknjpmbgnaaGreatDoor.Rk
