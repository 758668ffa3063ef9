/-
  What the program is, for all rows: what is lifted.
-/
import Derived.Test.YtmghjcbabebanaaGreatRows
namespace Go.Proofs.YtmghjcbabebanaaGreat.AM
open Go
theorem jLift : Tryz.pinned.checked.prog.liftsFinal = false := by kernel_rfl
end Go.Proofs.YtmghjcbabebanaaGreat.AM
