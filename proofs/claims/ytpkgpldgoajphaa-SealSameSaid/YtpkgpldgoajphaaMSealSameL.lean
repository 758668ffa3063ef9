/-
  The law SealSame: for every input the call answers true.
-/
import Derived.Test.YtpkgpldgoajphaaMSealSame6
import Derived.Test.YtpkgpldgoajphaaRows
import Derived.Test.YtpkgpldgoajphaaJf1
import Derived.Test.YtpkgpldgoajphaaJf2
import Derived.Test.YtpkgpldgoajphaaJf3
import Derived.WalkKit
import Derived.ProofKit
import Derived.OpenShut
import Derived.ShutString
import Derived.ChangeOld
import Derived.Below
import Derived.SizedLaws
namespace Go.Proofs.Ytpkgpldgoajphaa.sealSame
open Go.ChangeShapes Go.WideShapes Go.ChangeAt Go.RowKit Go.Proofs.Ytpkgpldgoajphaa.AM
open Go.ChangeMaps (open_string shut_string)
set_option linter.unusedVariables false
set_option maxRecDepth 100000
theorem own : ownKnob Try.prog.godebug = none := by kernel_rfl
theorem laidOut : laidOutB Try.prog = true := by kernel_rfl
theorem cellsStamp : Try.prog.cellsOf 32 = 3 := by kernel_rfl
theorem openStamp {H : Type} {enc : TypeId × Value → H} {W : World} {base fuel : Nat} {spare : Nat → Bool} {held : Bool} {l : List Value} {x : DataW H × List MemPlace} (hf : DataW.trod enc Try.prog W base spare held fuel 32 (Value.agg ⟨l⟩).cells.toList = some x) (hs : (Array.mk l).size = Try.prog.cellsOf 32) :
    ∃ x : Go.Proofs.Ytpkgpldgoajphaa.AM.Stamp, l = [.int .i64 x.t, .int .i64 x.node, .int .i64 x.n] := by
  have hk := trod_kinds ttOk 6 (ks := [.int .i64, .int .i64, .int .i64]) (by kernel_rfl) hf
  rw [cellsStamp] at hs
  have hl : l.length = 3 := by simpa using hs
  obtain ⟨v0, c0, x0, rfl⟩ := hk 0 _ rfl
  obtain ⟨v1, c1, x1, rfl⟩ := hk 1 _ rfl
  obtain ⟨v2, c2, x2, rfl⟩ := hk 2 _ rfl
  clear hk hf hs
  match l, hl with
  | [u0, u1, u2], _ =>
    simp [Value.cells] at c0 c1 c2
    subst c0 c1 c2
    exact ⟨⟨x0, x1, x2⟩, rfl⟩
theorem walk (a0 : Option Addr) (len0 cap0 : Nat) (z0 : List Int) (z1 : Go.Proofs.Ytpkgpldgoajphaa.AM.Stamp) (w : World) (w0 : IsInts w a0 len0 cap0 z0) : Calls Try.prog 13 #[.slice a0 len0 cap0, .agg #[.int .i64 z1.t, .int .i64 z1.node, .int .i64 z1.n]] w fun e w' => e = .returned (.bool true) ∧ Below w.heap.size w w' := by
  obtain ⟨r0, y0⟩ := w0.rel
  refine ACalls.yes (fn := Try.f13) ⟨Try.func13, by kernel_rfl, by kernel_rfl, by kernel_rfl⟩ (ssame_spec (z0.take len0) z1 y0) rfl fun i hi => ?_
  match i, hi with
  | 0, _ => exact r0
  | 1, _ => exact .agg _ _ _ rfl (fun j hj => match j, hj with | 0, _ => rfl | 1, _ => rfl | 2, _ => rfl | _ + 3, hj => by simp [Go.Proofs.Ytpkgpldgoajphaa.AM.Stamp.row] at hj; omega) (fun j hj => match j, hj with | 0, _ => .int .. | 1, _ => .int .. | 2, _ => .int .. | _ + 3, hj => by simp [Go.Proofs.Ytpkgpldgoajphaa.AM.Stamp.row] at hj; omega)
  | _ + 2, hi => simp at hi; try omega
theorem lifted (os : Os) (started : os.Started) (H : Type) (enc : TypeId × Value → H) :
    ReturnsInHanded {} Try.checked os 13 .any (Rows.sealSameSpec.pre6 enc Try.prog Try.f13 Rows.sealSameRow.domain false) (Rows.sealSameSpec.post enc Try.prog Try.f13 false true false false) := by
  refine returnsInHanded_of_change_sized (C := Try.checked) own started (by kernel_rfl) Try.func13
    (ChangeSpec.witness6 (enc := enc) (C := Try.checked) false ⟨#[], #[.slice none 0 0, .agg #[.int .i64 0, .int .i64 0, .int .i64 0]], []⟩ 8 (by kernel_rfl) (by kernel_rfl) (by kernel_rfl) (by kernel_rfl)) ?_
  intro W base args ds gs before hval0 hW hcnd hsz0 _
  have hval : ∀ (j : Nat) t v, Try.f13.params[j]? = some t → args[j]? = some v → Value.okWide Try.prog W .any base t v := hval0
  have hW' := hW
  obtain ⟨p, q, hA0, hV, rfl, hfz, hnd⟩ := hW
  have hA : DataW.TrodAll enc Try.prog W 0 (fun _ => true) true Try.f13.params.toList args.toList ds p := hA0
  rw [Try.params13] at hA hval
  obtain ⟨v0, vs0, d0, ds0, p0, q0, hargs, rfl, rfl, h0, r0⟩ := trodAll_cons hA
  obtain ⟨v1, vs1, d1, ds1, p1, q1, rfl, rfl, rfl, h1, r1⟩ := trodAll_cons r0
  obtain ⟨rfl, rfl, rfl⟩ := trodAll_nil r1
  obtain rfl : args = #[v0, v1] := by cases args; simp_all
  obtain ⟨rfl, rfl⟩ := trodVars_none hV
  obtain ⟨a0, len0, cap0, rfl⟩ := okWide_slice Try.underlying22 (hval 0 22 v0 rfl rfl)
  have k0 := h0
  have lt0 : ∀ x ∈ p0, x.block < W.heap.size := by obtain ⟨m, hm⟩ := k0; exact DataW.trod_lt m _ _ _ hm
  obtain ⟨z0, w0⟩ : ∃ zs, IsInts W a0 len0 cap0 zs := by
    obtain ⟨fuel, hf⟩ := h0
    rcases open_ints Try.underlying22 Try.underlying3 (by kernel_rfl) hf with ⟨hcs, _⟩ | ⟨x, l, c, zs, hcs, _, hl, hm, hz, _, hcell, hwz⟩
    · simp [Value.cells] at hcs
      obtain ⟨rfl, rfl, rfl⟩ := hcs
      exact ⟨[], .inl ⟨rfl, rfl, rfl, rfl⟩⟩
    · simp [Value.cells] at hcs
      obtain ⟨rfl, rfl, rfl⟩ := hcs
      exact ⟨zs, .inr ⟨_, rfl, hl, hm, by simpa using hz, hcell⟩⟩
  obtain ⟨⟨l1⟩, rfl, hs1⟩ := okWide_struct Try.underlying32 (hval 1 32 v1 rfl rfl)
  have k1 := h1
  have lt1 : ∀ x ∈ p1, x.block < W.heap.size := by obtain ⟨m, hm⟩ := k1; exact DataW.trod_lt m _ _ _ hm
  obtain ⟨z1, rfl⟩ : ∃ x : Go.Proofs.Ytpkgpldgoajphaa.AM.Stamp, l1 = [.int .i64 x.t, .int .i64 x.node, .int .i64 x.n] := by
    obtain ⟨fuel, hf⟩ := h1
    exact openStamp hf hs1
  clear hA0 hval0 hsz0
  refine (walk a0 len0 cap0 z0 z1 W w0).mono fun e W' ⟨he, bel⟩ => ?_
  subst he
  exact ⟨_, rfl, _, _, _, [], _, [], hW', trodAll_mk1 (shut_bool Try.underlying4 _), (trodAll_cons_mk (Below.trod laidOut (by kernel_rfl) (of_decide_eq_true (by kernel_rfl)) k0 bel lt0) (trodAll_cons_mk (Below.trod laidOut (by kernel_rfl) (of_decide_eq_true (by kernel_rfl)) k1 bel lt1) trodAll_mk0)), rfl, bel.frame _, fun h => by cases h⟩
theorem joined : joinedFacts Try.pinned.checked.prog 13 Try.f13 Rows.sealSameSpec Rows.sealSameRow = true := by
  unfold joinedFacts
  rw [jMay, jLift, show Try.pinned.checked.prog.make = some Rows.sealSameRow.make from jMake]
  kernel_rfl
theorem over : Rows.sealSameRow.holds Try.pinned (OpenSpec.ofChange Rows.sealSameSpec) :=
  OpenClaim.holds_of_wide 13 Try.f13 rfl rfl rfl rfl rfl rfl rfl ⟨rfl, rfl, rfl, rfl, rfl⟩ rfl rfl rfl rfl rfl (by kernel_rfl) Try.func13 joined
    (of_decide_eq_true (by kernel_rfl)) (by unfold Func.isWrapper; first | (rw [if_pos (by decide +kernel)]; kernel_rfl) | (rw [if_neg (by decide +kernel)]; exact ⟨rfl, rfl⟩))
    (fun os started H enc _ => lifted os started H enc)
theorem proved : Rows.SealSameSaid := over
end Go.Proofs.Ytpkgpldgoajphaa.sealSame
namespace Go.Proofs.Ytpkgpldgoajphaa
/-- The law SealSame, for every input. -/
theorem sealSame_holds : Rows.SealSameSaid := sealSame.proved
end Go.Proofs.Ytpkgpldgoajphaa
