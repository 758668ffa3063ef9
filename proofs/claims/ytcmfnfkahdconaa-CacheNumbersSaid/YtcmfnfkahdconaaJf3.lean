/-
  What the program is, for all rows: how it was made.
-/
import Derived.Test.YtcmfnfkahdconaaRows
namespace Go.Proofs.Ytcmfnfkahdconaa.AM
open Go
theorem jMake : Try.pinned.checked.prog.make = some Rows.feedTellsRow.make := by kernel_rfl
end Go.Proofs.Ytcmfnfkahdconaa.AM
