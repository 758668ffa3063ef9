/-
  The law CacheNumbers: for every input the call answers true.
-/
import Derived.Test.YtcmfnfkahdconaaMCacheNumbers6
import Derived.Test.YtcmfnfkahdconaaRows
import Derived.Test.YtcmfnfkahdconaaJf1
import Derived.Test.YtcmfnfkahdconaaJf2
import Derived.Test.YtcmfnfkahdconaaJf3
import Derived.WalkKit
import Derived.ProofKit
import Derived.OpenShut
import Derived.ShutString
import Derived.ChangeOld
import Derived.Below
import Derived.SizedLaws
namespace Go.Proofs.Ytcmfnfkahdconaa.cacheNumbers
open Go.ChangeShapes Go.WideShapes Go.ChangeAt Go.RowKit Go.Proofs.Ytcmfnfkahdconaa.AM
open Go.ChangeMaps (open_string shut_string)
set_option linter.unusedVariables false
set_option maxRecDepth 100000
theorem own : ownKnob Try.prog.godebug = none := by kernel_rfl
theorem laidOut : laidOutB Try.prog = true := by kernel_rfl
theorem walk  (w : World)  : Calls Try.prog 3 #[] w fun e w' => e = .returned (.bool true) ∧ Below w.heap.size w w' := by
  refine ACalls.yes (fn := Try.f3) ⟨Try.func3, by kernel_rfl, by kernel_rfl, by kernel_rfl⟩ (cnum_spec) rfl fun i hi => ?_
  simp at hi
theorem lifted (os : Os) (started : os.Started) (H : Type) (enc : TypeId × Value → H) :
    ReturnsInHanded {} Try.checked os 3 .any (Rows.cacheNumbersSpec.pre6 enc Try.prog Try.f3 Rows.cacheNumbersRow.domain false) (Rows.cacheNumbersSpec.post enc Try.prog Try.f3 false true false false) := by
  refine returnsInHanded_of_change_sized (C := Try.checked) own started (by kernel_rfl) Try.func3
    (ChangeSpec.witness6 (enc := enc) (C := Try.checked) false ⟨#[], #[], []⟩ 8 (by kernel_rfl) (by kernel_rfl) (by kernel_rfl) (by kernel_rfl)) ?_
  intro W base args ds gs before hval0 hW hcnd hsz0 _
  have hval : ∀ (j : Nat) t v, Try.f3.params[j]? = some t → args[j]? = some v → Value.okWide Try.prog W .any base t v := hval0
  have hW' := hW
  obtain ⟨p, q, hA0, hV, rfl, hfz, hnd⟩ := hW
  have hA : DataW.TrodAll enc Try.prog W 0 (fun _ => true) true Try.f3.params.toList args.toList ds p := hA0
  rw [Try.params3] at hA hval
  obtain ⟨hargs, rfl, rfl⟩ := trodAll_none hA
  obtain rfl : args = #[] := by first | exact hargs | (cases args; simp_all)
  obtain ⟨rfl, rfl⟩ := trodVars_none hV
  clear hA0 hval0 hsz0
  refine (walk  W ).mono fun e W' ⟨he, bel⟩ => ?_
  subst he
  exact ⟨_, rfl, _, _, _, [], _, [], hW', trodAll_mk1 (shut_bool Try.underlying4 _), trodAll_mk0, rfl, bel.frame _, fun h => by cases h⟩
theorem joined : joinedFacts Try.pinned.checked.prog 3 Try.f3 Rows.cacheNumbersSpec Rows.cacheNumbersRow = true := by
  unfold joinedFacts
  rw [jMay, jLift, show Try.pinned.checked.prog.make = some Rows.cacheNumbersRow.make from jMake]
  kernel_rfl
theorem over : Rows.cacheNumbersRow.holds Try.pinned (OpenSpec.ofChange Rows.cacheNumbersSpec) :=
  OpenClaim.holds_of_wide 3 Try.f3 rfl rfl rfl rfl rfl rfl rfl ⟨rfl, rfl, rfl, rfl, rfl⟩ rfl rfl rfl rfl rfl (by kernel_rfl) Try.func3 joined
    (of_decide_eq_true (by kernel_rfl)) (by unfold Func.isWrapper; first | (rw [if_pos (by decide +kernel)]; kernel_rfl) | (rw [if_neg (by decide +kernel)]; exact ⟨rfl, rfl⟩))
    (fun os started H enc _ => lifted os started H enc)
theorem proved : Rows.CacheNumbersSaid := over
end Go.Proofs.Ytcmfnfkahdconaa.cacheNumbers
namespace Go.Proofs.Ytcmfnfkahdconaa
/-- The law CacheNumbers, for every input. -/
theorem cacheNumbers_holds : Rows.CacheNumbersSaid := cacheNumbers.proved
end Go.Proofs.Ytcmfnfkahdconaa
