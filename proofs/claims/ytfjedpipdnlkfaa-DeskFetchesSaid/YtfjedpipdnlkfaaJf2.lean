/-
  What the program is, for all rows: what is lifted.
-/
import Derived.Test.YtfjedpipdnlkfaaRows
namespace Go.Proofs.Ytfjedpipdnlkfaa.AM
open Go
theorem jLift : Try.pinned.checked.prog.liftsFinal = false := by kernel_rfl
end Go.Proofs.Ytfjedpipdnlkfaa.AM
