/-
  What the program is, for all rows: what is lifted.
-/
import Derived.Test.YteajpacajikaaaaRows
namespace Go.Proofs.Yteajpacajikaaaa.AM
open Go
theorem jLift : Try.pinned.checked.prog.liftsFinal = false := by kernel_rfl
end Go.Proofs.Yteajpacajikaaaa.AM
