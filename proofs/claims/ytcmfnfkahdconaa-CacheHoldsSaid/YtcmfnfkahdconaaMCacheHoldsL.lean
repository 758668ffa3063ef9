/-
  The law CacheHolds: for every input the call answers true.
-/
import Derived.Test.YtcmfnfkahdconaaMCacheHolds6
import Derived.Test.YtcmfnfkahdconaaRows
import Derived.Test.YtcmfnfkahdconaaJf1
import Derived.Test.YtcmfnfkahdconaaJf2
import Derived.Test.YtcmfnfkahdconaaJf3
import Derived.WalkKit
import Derived.ProofKit
import Derived.OpenShut
import Derived.ShutString
import Derived.ChangeOld
import Derived.Below
import Derived.SizedLaws
namespace Go.Proofs.Ytcmfnfkahdconaa.cacheHolds
open Go.ChangeShapes Go.WideShapes Go.ChangeAt Go.RowKit Go.Proofs.Ytcmfnfkahdconaa.AM
open Go.ChangeMaps (open_string shut_string)
set_option linter.unusedVariables false
set_option maxRecDepth 100000
theorem own : ownKnob Try.prog.godebug = none := by kernel_rfl
theorem laidOut : laidOutB Try.prog = true := by kernel_rfl
theorem mkBoolW {w : World} {a : Addr} {p : Nat} (h : ∀ (j : Nat) ck, ([.bool] : List CK)[j]? = some ck → ∃ v, w.cell? (a.add (p + j)) = some v ∧ ck.ok v) :
    ∃ x : Go.Proofs.Ytcmfnfkahdconaa.AM.BoolW, ∀ j, j < 1 → ∃ v, w.cell? (a.add (p + j)) = some v ∧ v.oneCell' = true ∧ VR (fun b => b < w.heap.size) w Cx.none ((Go.Proofs.Ytcmfnfkahdconaa.AM.BoolW.row x).getD j .skip) v := by
  obtain ⟨v0, c0, x0, rfl⟩ := h 0 _ rfl
  refine ⟨⟨x0⟩, fun j hj => ?_⟩
  match j, hj with
  | 0, _ => exact ⟨_, c0, rfl, .bool ..⟩
  | _ + 1, hj => omega
theorem walk (a0 : Option Addr) (len0 cap0 : Nat) (z0 : List Int) (a1 : Option Addr) (len1 cap1 : Nat) (z1 : List Go.Proofs.Ytcmfnfkahdconaa.AM.BoolW) (w : World) (w0 : IsInts w a0 len0 cap0 z0) (w1 : IsRows Go.Proofs.Ytcmfnfkahdconaa.AM.BoolW.row 1 w a1 len1 cap1 z1) : Calls Try.prog 12 #[.slice a0 len0 cap0, .slice a1 len1 cap1] w fun e w' => e = .returned (.bool true) ∧ Below w.heap.size w w' := by
  obtain ⟨r0, y0⟩ := w0.rel
  have r1 := IsRows.rel (k := 1) (fun _ => rfl) (by decide) w1
  refine ACalls.yes (fn := Try.f12) ⟨Try.func12, by kernel_rfl, by kernel_rfl, by kernel_rfl⟩ (cholds_spec (z0.take len0) z1 y0) rfl fun i hi => ?_
  match i, hi with
  | 0, _ => exact r0
  | 1, _ => exact r1
  | _ + 2, hi => simp at hi; try omega
theorem lifted (os : Os) (started : os.Started) (H : Type) (enc : TypeId × Value → H) :
    ReturnsInHanded {} Try.checked os 12 .any (Rows.cacheHoldsSpec.pre6 enc Try.prog Try.f12 Rows.cacheHoldsRow.domain false) (Rows.cacheHoldsSpec.post enc Try.prog Try.f12 false true false false) := by
  refine returnsInHanded_of_change_sized (C := Try.checked) own started (by kernel_rfl) Try.func12
    (ChangeSpec.witness6 (enc := enc) (C := Try.checked) false ⟨#[], #[.slice none 0 0, .slice none 0 0], []⟩ 8 (by kernel_rfl) (by kernel_rfl) (by kernel_rfl) (by kernel_rfl)) ?_
  intro W base args ds gs before hval0 hW hcnd hsz0 _
  have hval : ∀ (j : Nat) t v, Try.f12.params[j]? = some t → args[j]? = some v → Value.okWide Try.prog W .any base t v := hval0
  have hW' := hW
  obtain ⟨p, q, hA0, hV, rfl, hfz, hnd⟩ := hW
  have hA : DataW.TrodAll enc Try.prog W 0 (fun _ => true) true Try.f12.params.toList args.toList ds p := hA0
  rw [Try.params12] at hA hval
  obtain ⟨v0, vs0, d0, ds0, p0, q0, hargs, rfl, rfl, h0, r0⟩ := trodAll_cons hA
  obtain ⟨v1, vs1, d1, ds1, p1, q1, rfl, rfl, rfl, h1, r1⟩ := trodAll_cons r0
  obtain ⟨rfl, rfl, rfl⟩ := trodAll_nil r1
  obtain rfl : args = #[v0, v1] := by cases args; simp_all
  obtain ⟨rfl, rfl⟩ := trodVars_none hV
  obtain ⟨a0, len0, cap0, rfl⟩ := okWide_slice Try.underlying22 (hval 0 22 v0 rfl rfl)
  have k0 := h0
  have lt0 : ∀ x ∈ p0, x.block < W.heap.size := by obtain ⟨m, hm⟩ := k0; exact DataW.trod_lt m _ _ _ hm
  obtain ⟨z0, w0⟩ : ∃ zs, IsInts W a0 len0 cap0 zs := by
    obtain ⟨fuel, hf⟩ := h0
    rcases open_ints Try.underlying22 Try.underlying3 (by kernel_rfl) hf with ⟨hcs, _⟩ | ⟨x, l, c, zs, hcs, _, hl, hm, hz, _, hcell, hwz⟩
    · simp [Value.cells] at hcs
      obtain ⟨rfl, rfl, rfl⟩ := hcs
      exact ⟨[], .inl ⟨rfl, rfl, rfl, rfl⟩⟩
    · simp [Value.cells] at hcs
      obtain ⟨rfl, rfl, rfl⟩ := hcs
      exact ⟨zs, .inr ⟨_, rfl, hl, hm, by simpa using hz, hcell⟩⟩
  obtain ⟨a1, len1, cap1, rfl⟩ := okWide_slice Try.underlying26 (hval 1 26 v1 rfl rfl)
  have k1 := h1
  have lt1 : ∀ x ∈ p1, x.block < W.heap.size := by obtain ⟨m, hm⟩ := k1; exact DataW.trod_lt m _ _ _ hm
  obtain ⟨z1, w1⟩ : ∃ zs, IsRows Go.Proofs.Ytcmfnfkahdconaa.AM.BoolW.row 1 W a1 len1 cap1 zs := by
    obtain ⟨fuel, hf⟩ := h1
    rcases rows_kinds ttOk (d := 6) (ks := [.bool]) Try.underlying26 (by kernel_rfl) (by kernel_rfl) hf with hcs | ⟨x, l, c, hcs, hl, hm, hcell⟩
    · simp [Value.cells] at hcs
      obtain ⟨rfl, rfl, rfl⟩ := hcs
      exact ⟨[], rfl, .inl ⟨rfl, rfl, rfl⟩⟩
    · simp [Value.cells] at hcs
      obtain ⟨rfl, rfl, rfl⟩ := hcs
      exact IsRows.of hl hm fun i hi => mkBoolW fun j ck hj => hcell i j ck hi hj
  clear hA0 hval0 hsz0
  refine (walk a0 len0 cap0 z0 a1 len1 cap1 z1 W w0 w1).mono fun e W' ⟨he, bel⟩ => ?_
  subst he
  exact ⟨_, rfl, _, _, _, [], _, [], hW', trodAll_mk1 (shut_bool Try.underlying4 _), (trodAll_cons_mk (Below.trod laidOut (by kernel_rfl) (of_decide_eq_true (by kernel_rfl)) k0 bel lt0) (trodAll_cons_mk (Below.trod laidOut (by kernel_rfl) (of_decide_eq_true (by kernel_rfl)) k1 bel lt1) trodAll_mk0)), rfl, bel.frame _, fun h => by cases h⟩
theorem joined : joinedFacts Try.pinned.checked.prog 12 Try.f12 Rows.cacheHoldsSpec Rows.cacheHoldsRow = true := by
  unfold joinedFacts
  rw [jMay, jLift, show Try.pinned.checked.prog.make = some Rows.cacheHoldsRow.make from jMake]
  kernel_rfl
theorem over : Rows.cacheHoldsRow.holds Try.pinned (OpenSpec.ofChange Rows.cacheHoldsSpec) :=
  OpenClaim.holds_of_wide 12 Try.f12 rfl rfl rfl rfl rfl rfl rfl ⟨rfl, rfl, rfl, rfl, rfl⟩ rfl rfl rfl rfl rfl (by kernel_rfl) Try.func12 joined
    (of_decide_eq_true (by kernel_rfl)) (by unfold Func.isWrapper; first | (rw [if_pos (by decide +kernel)]; kernel_rfl) | (rw [if_neg (by decide +kernel)]; exact ⟨rfl, rfl⟩))
    (fun os started H enc _ => lifted os started H enc)
theorem proved : Rows.CacheHoldsSaid := over
end Go.Proofs.Ytcmfnfkahdconaa.cacheHolds
namespace Go.Proofs.Ytcmfnfkahdconaa
/-- The law CacheHolds, for every input. -/
theorem cacheHolds_holds : Rows.CacheHoldsSaid := cacheHolds.proved
end Go.Proofs.Ytcmfnfkahdconaa
