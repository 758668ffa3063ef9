/-
  What the program is, for all rows: what is lifted.
-/
import Derived.Test.YtpkgpldgoajphaaRows
namespace Go.Proofs.Ytpkgpldgoajphaa.AM
open Go
theorem jLift : Try.pinned.checked.prog.liftsFinal = false := by kernel_rfl
end Go.Proofs.Ytpkgpldgoajphaa.AM
