/-
  What the program is, for all rows: what is lifted.
-/
import Derived.Test.YtfjedpipdnlkfaaGreatRows
namespace Go.Proofs.YtfjedpipdnlkfaaGreat.AM
open Go
theorem jLift : Tryz.pinned.checked.prog.liftsFinal = false := by kernel_rfl
end Go.Proofs.YtfjedpipdnlkfaaGreat.AM
