/- The kinds of the arguments, in this program. -/
import Derived.Test.YtejalhoaljlnhaaRow
import Derived.Test.YtejalhoaljlnhaaProg
namespace Go.Proofs.Ytejalhoaljlnhaa.Rk
open Go.RowKit
theorem opens_bytes : Opens Try.prog 22 (Kd.slice Kd.byte) := opens_slice Try.underlying22 (opens_byte Try.underlying5) (by kernel_rfl) (by decide)
end Go.Proofs.Ytejalhoaljlnhaa.Rk
