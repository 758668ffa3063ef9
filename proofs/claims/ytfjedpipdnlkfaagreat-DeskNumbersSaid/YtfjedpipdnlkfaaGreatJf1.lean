/-
  What the program is, for all rows: it may be entered.
-/
import Derived.Test.YtfjedpipdnlkfaaGreatRows
namespace Go.Proofs.YtfjedpipdnlkfaaGreat.AM
open Go
theorem jMay : Tryz.pinned.checked.prog.mayEnter = true := by kernel_rfl
end Go.Proofs.YtfjedpipdnlkfaaGreat.AM
