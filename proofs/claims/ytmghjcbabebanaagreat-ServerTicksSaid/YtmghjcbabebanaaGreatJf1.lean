/-
  What the program is, for all rows: it may be entered.
-/
import Derived.Test.YtmghjcbabebanaaGreatRows
namespace Go.Proofs.YtmghjcbabebanaaGreat.AM
open Go
theorem jMay : Tryz.pinned.checked.prog.mayEnter = true := by kernel_rfl
end Go.Proofs.YtmghjcbabebanaaGreat.AM
