/-
  What the program is, for all rows: it may be entered.
-/
import Derived.Test.YtcmfnfkahdconaaRows
namespace Go.Proofs.Ytcmfnfkahdconaa.AM
open Go
theorem jMay : Try.pinned.checked.prog.mayEnter = true := by kernel_rfl
end Go.Proofs.Ytcmfnfkahdconaa.AM
