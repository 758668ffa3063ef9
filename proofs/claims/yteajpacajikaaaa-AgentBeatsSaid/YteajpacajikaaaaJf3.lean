/-
  What the program is, for all rows: how it was made.
-/
import Derived.Test.YteajpacajikaaaaRows
namespace Go.Proofs.Yteajpacajikaaaa.AM
open Go
theorem jMake : Try.pinned.checked.prog.make = some Rows.agentOneRow.make := by kernel_rfl
end Go.Proofs.Yteajpacajikaaaa.AM
