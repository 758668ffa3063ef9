/-
  The law DeskFull: for every input the call answers true.
-/
import Derived.Test.YtfjedpipdnlkfaaGreatMDeskFull7
import Derived.Test.YtfjedpipdnlkfaaGreatRows
import Derived.Test.YtfjedpipdnlkfaaGreatJf1
import Derived.Test.YtfjedpipdnlkfaaGreatJf2
import Derived.Test.YtfjedpipdnlkfaaGreatJf3
import Derived.WalkKit
import Derived.ProofKit
import Derived.OpenShut
import Derived.ShutString
import Derived.ChangeOld
import Derived.Below
import Derived.SizedLaws
namespace Go.Proofs.YtfjedpipdnlkfaaGreat.deskFull
open Go.ChangeShapes Go.WideShapes Go.ChangeAt Go.RowKit Go.Proofs.YtfjedpipdnlkfaaGreat.AM
open Go.ChangeMaps (open_string shut_string)
set_option linter.unusedVariables false
set_option maxRecDepth 100000
theorem own : ownKnob Tryz.prog.godebug = none := by kernel_rfl
theorem laidOut : laidOutB Tryz.prog = true := by kernel_rfl
theorem walk (a0 : Int) (w : World)  : Calls Tryz.prog 4 #[.int .i64 a0] w fun e w' => e = .returned (.bool true) ∧ Below w.heap.size w w' := by
  refine ACalls.yes (fn := Tryz.f4) ⟨Tryz.func4, by kernel_rfl, by kernel_rfl, by kernel_rfl⟩ (dfull_spec a0) rfl fun i hi => ?_
  match i, hi with
  | 0, _ => exact .int ..
  | _ + 1, hi => simp at hi; try omega
theorem lifted (os : Os) (started : os.Started) (H : Type) (enc : TypeId × Value → H) :
    ReturnsInHanded {} Tryz.checked os 4 .any (Rows.deskFullSpec.pre6 enc Tryz.prog Tryz.f4 Rows.deskFullRow.domain false) (Rows.deskFullSpec.post enc Tryz.prog Tryz.f4 false true false false) := by
  refine returnsInHanded_of_change_sized (C := Tryz.checked) own started (by kernel_rfl) Tryz.func4
    (ChangeSpec.witness6 (enc := enc) (C := Tryz.checked) false ⟨#[], #[.int .i64 0], []⟩ 8 (by kernel_rfl) (by kernel_rfl) (by kernel_rfl) (by kernel_rfl)) ?_
  intro W base args ds gs before hval0 hW hcnd hsz0 _
  have hval : ∀ (j : Nat) t v, Tryz.f4.params[j]? = some t → args[j]? = some v → Value.okWide Tryz.prog W .any base t v := hval0
  have hW' := hW
  obtain ⟨p, q, hA0, hV, rfl, hfz, hnd⟩ := hW
  have hA : DataW.TrodAll enc Tryz.prog W 0 (fun _ => true) true Tryz.f4.params.toList args.toList ds p := hA0
  rw [Tryz.params4] at hA hval
  obtain ⟨v0, vs0, d0, ds0, p0, q0, hargs, rfl, rfl, h0, r0⟩ := trodAll_cons hA
  obtain ⟨rfl, rfl, rfl⟩ := trodAll_nil r0
  obtain rfl : args = #[v0] := by cases args; simp_all
  obtain ⟨rfl, rfl⟩ := trodVars_none hV
  obtain ⟨a0, rfl, rfl, rfl, wf0⟩ := open_int Tryz.underlying2 (hval 0 2 v0 rfl rfl) h0
  clear hA0 hval0 hsz0
  refine (walk a0 W ).mono fun e W' ⟨he, bel⟩ => ?_
  subst he
  exact ⟨_, rfl, _, _, _, [], _, [], hW', trodAll_mk1 (shut_bool Tryz.underlying4 _), (trodAll_cons_mk (shut_int Tryz.underlying2 wf0) trodAll_mk0), rfl, bel.frame _, fun h => by cases h⟩
theorem joined : joinedFacts Tryz.pinned.checked.prog 4 Tryz.f4 Rows.deskFullSpec Rows.deskFullRow = true := by
  unfold joinedFacts
  rw [jMay, jLift, show Tryz.pinned.checked.prog.make = some Rows.deskFullRow.make from jMake]
  kernel_rfl
theorem over : Rows.deskFullRow.holds Tryz.pinned (OpenSpec.ofChange Rows.deskFullSpec) :=
  OpenClaim.holds_of_wide 4 Tryz.f4 rfl rfl rfl rfl rfl rfl rfl ⟨rfl, rfl, rfl, rfl, rfl⟩ rfl rfl rfl rfl rfl (by kernel_rfl) Tryz.func4 joined
    (of_decide_eq_true (by kernel_rfl)) (by unfold Func.isWrapper; first | (rw [if_pos (by decide +kernel)]; kernel_rfl) | (rw [if_neg (by decide +kernel)]; exact ⟨rfl, rfl⟩))
    (fun os started H enc _ => lifted os started H enc)
theorem proved : Rows.DeskFullSaid := over
end Go.Proofs.YtfjedpipdnlkfaaGreat.deskFull
namespace Go.Proofs.YtfjedpipdnlkfaaGreat
/-- The law DeskFull, for every input. -/
theorem deskFull_holds : Rows.DeskFullSaid := deskFull.proved
end Go.Proofs.YtfjedpipdnlkfaaGreat
