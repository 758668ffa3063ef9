/-
  The law DeskNumbers: for every input the call answers true.
-/
import Derived.Test.YtfjedpipdnlkfaaGreatMZ48
import Derived.Test.YtfjedpipdnlkfaaGreatRows
import Derived.Test.YtfjedpipdnlkfaaGreatJf1
import Derived.Test.YtfjedpipdnlkfaaGreatJf2
import Derived.Test.YtfjedpipdnlkfaaGreatJf3
import Derived.WalkKit
import Derived.ProofKit
import Derived.OpenShut
import Derived.ShutString
import Derived.ChangeOld
import Derived.Below
import Derived.SizedLaws
namespace Go.Proofs.YtfjedpipdnlkfaaGreat.deskNumbers
open Go.ChangeShapes Go.WideShapes Go.ChangeAt Go.RowKit Go.Proofs.YtfjedpipdnlkfaaGreat.AM
open Go.ChangeMaps (open_string shut_string)
set_option linter.unusedVariables false
set_option maxRecDepth 100000
theorem own : ownKnob Tryz.prog.godebug = none := by kernel_rfl
theorem laidOut : laidOutB Tryz.prog = true := by kernel_rfl
theorem walk  (w : World)  : Calls Tryz.prog 6 #[] w fun e w' => e = .returned (.bool true) ∧ Below w.heap.size w w' := by
  refine l6.yes (fn := Tryz.f6) ⟨Tryz.func6, by kernel_rfl, by kernel_rfl, by kernel_rfl⟩ (a5t) rfl fun i hi => ?_
  simp at hi
theorem lifted (os : Os) (started : os.Started) (H : Type) (enc : TypeId × Value → H) :
    ReturnsInHanded {} Tryz.checked os 6 .any (Rows.deskNumbersSpec.pre6 enc Tryz.prog Tryz.f6 Rows.deskNumbersRow.domain false) (Rows.deskNumbersSpec.post enc Tryz.prog Tryz.f6 false true false false) := by
  refine returnsInHanded_of_change_sized (C := Tryz.checked) own started (by kernel_rfl) Tryz.func6
    (ChangeSpec.witness6 (enc := enc) (C := Tryz.checked) false ⟨#[], #[], []⟩ 8 (by kernel_rfl) (by kernel_rfl) (by kernel_rfl) (by kernel_rfl)) ?_
  intro W base args ds gs before hval0 hW hcnd hsz0 _
  have hval : ∀ (j : Nat) t v, Tryz.f6.params[j]? = some t → args[j]? = some v → Value.okWide Tryz.prog W .any base t v := hval0
  have hW' := hW
  obtain ⟨p, q, hA0, hV, rfl, hfz, hnd⟩ := hW
  have hA : DataW.TrodAll enc Tryz.prog W 0 (fun _ => true) true Tryz.f6.params.toList args.toList ds p := hA0
  rw [Tryz.params6] at hA hval
  obtain ⟨hargs, rfl, rfl⟩ := trodAll_none hA
  obtain rfl : args = #[] := by first | exact hargs | (cases args; simp_all)
  obtain ⟨rfl, rfl⟩ := trodVars_none hV
  clear hA0 hval0 hsz0
  refine (walk  W ).mono fun e W' ⟨he, bel⟩ => ?_
  subst he
  exact ⟨_, rfl, _, _, _, [], _, [], hW', trodAll_mk1 (shut_bool Tryz.underlying4 _), trodAll_mk0, rfl, bel.frame _, fun h => by cases h⟩
theorem joined : joinedFacts Tryz.pinned.checked.prog 6 Tryz.f6 Rows.deskNumbersSpec Rows.deskNumbersRow = true := by
  unfold joinedFacts
  rw [jMay, jLift, show Tryz.pinned.checked.prog.make = some Rows.deskNumbersRow.make from jMake]
  kernel_rfl
theorem over : Rows.deskNumbersRow.holds Tryz.pinned (OpenSpec.ofChange Rows.deskNumbersSpec) :=
  OpenClaim.holds_of_wide 6 Tryz.f6 rfl rfl rfl rfl rfl rfl rfl ⟨rfl, rfl, rfl, rfl, rfl⟩ rfl rfl rfl rfl rfl (by kernel_rfl) Tryz.func6 joined
    (of_decide_eq_true (by kernel_rfl)) (by unfold Func.isWrapper; first | (rw [if_pos (by decide +kernel)]; kernel_rfl) | (rw [if_neg (by decide +kernel)]; exact ⟨rfl, rfl⟩))
    (fun os started H enc _ => lifted os started H enc)
theorem proved : Rows.DeskNumbersSaid := over
end Go.Proofs.YtfjedpipdnlkfaaGreat.deskNumbers
namespace Go.Proofs.YtfjedpipdnlkfaaGreat
/-- The law DeskNumbers, for every input. -/
theorem deskNumbers_holds : Rows.DeskNumbersSaid := deskNumbers.proved
end Go.Proofs.YtfjedpipdnlkfaaGreat
