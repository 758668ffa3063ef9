/-
  What the program is, for all rows: it may be entered.
-/
import Derived.Test.YtpkgpldgoajphaaRows
namespace Go.Proofs.Ytpkgpldgoajphaa.AM
open Go
theorem jMay : Try.pinned.checked.prog.mayEnter = true := by kernel_rfl
end Go.Proofs.Ytpkgpldgoajphaa.AM
