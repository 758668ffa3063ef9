/-
  What the program is, for all rows: how it was made.
-/
import Derived.Test.YtfjedpipdnlkfaaRows
namespace Go.Proofs.Ytfjedpipdnlkfaa.AM
open Go
theorem jMake : Try.pinned.checked.prog.make = some Rows.deskFetchesRow.make := by kernel_rfl
end Go.Proofs.Ytfjedpipdnlkfaa.AM
