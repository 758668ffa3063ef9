/-
  What the program is, for all rows: what is lifted.
-/
import Derived.Test.YtcmfnfkahdconaaRows
namespace Go.Proofs.Ytcmfnfkahdconaa.AM
open Go
theorem jLift : Try.pinned.checked.prog.liftsFinal = false := by kernel_rfl
end Go.Proofs.Ytcmfnfkahdconaa.AM
