/-
  What the program is, for all rows: how it was made.
-/
import Derived.Test.YtpkgpldgoajphaaRows
namespace Go.Proofs.Ytpkgpldgoajphaa.AM
open Go
theorem jMake : Try.pinned.checked.prog.make = some Rows.sweepPartsRow.make := by kernel_rfl
end Go.Proofs.Ytpkgpldgoajphaa.AM
