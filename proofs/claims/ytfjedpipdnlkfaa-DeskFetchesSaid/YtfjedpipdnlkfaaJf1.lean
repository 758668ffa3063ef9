/-
  What the program is, for all rows: it may be entered.
-/
import Derived.Test.YtfjedpipdnlkfaaRows
namespace Go.Proofs.Ytfjedpipdnlkfaa.AM
open Go
theorem jMay : Try.pinned.checked.prog.mayEnter = true := by kernel_rfl
end Go.Proofs.Ytfjedpipdnlkfaa.AM
