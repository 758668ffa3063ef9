/-
  What the program is, for all rows: how it was made.
-/
import Derived.Test.YtfjedpipdnlkfaaGreatRows
namespace Go.Proofs.YtfjedpipdnlkfaaGreat.AM
open Go
theorem jMake : Tryz.pinned.checked.prog.make = some Rows.deskStampsRow.make := by kernel_rfl
end Go.Proofs.YtfjedpipdnlkfaaGreat.AM
