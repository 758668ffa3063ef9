/-
  The seat's program fits the abstract machine.
-/
import Derived.Test.YtpkgpldgoajphaaTt
import Derived.Test.YtpkgpldgoajphaaSb
import Derived.Test.YtpkgpldgoajphaaChecked
namespace Go.Proofs.Ytpkgpldgoajphaa.AM
open Go Go.Proofs.Ytpkgpldgoajphaa
theorem ttOk : TOk Try.prog tt := TOk.of (l := ttl) (by kernel_rfl)
theorem mo : Try.prog.follows .mixedOrders = true := by kernel_rfl
def noM : TypeId → String → Option FuncId := fun _ _ => none
theorem noMok : Mok Try.prog noM := fun t m f h => by simp [noM] at h
def X (ann : Ann) : Env := { T := tt, M := noM, ann := ann }
/-- A function's call, by its code and what is told. -/
theorem spec {f : FuncId} {fn : Func} {ann : Ann} {t : Tr} {args : List AV} {H : Heap} {r : AV × Heap} (hb : H.length ≤ ann.base) (hf : Has Try.prog f fn) (h : funT Try.prog (X ann) fn t args H r) : ACalls Try.prog f args H r :=
  @funT_sound Try.prog (X ann) f fn ttOk noMok mo hf t args H r hb h
end Go.Proofs.Ytpkgpldgoajphaa.AM
