/-
  What the program is, for all rows: how it was made.
-/
import Derived.Test.YtmghjcbabebanaaGreatRows
namespace Go.Proofs.YtmghjcbabebanaaGreat.AM
open Go
theorem jMake : Tryz.pinned.checked.prog.make = some Rows.serverCrashRow.make := by kernel_rfl
end Go.Proofs.YtmghjcbabebanaaGreat.AM
