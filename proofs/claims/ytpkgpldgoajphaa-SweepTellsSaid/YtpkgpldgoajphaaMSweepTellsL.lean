/-
  The law SweepTells: for every input the call answers true.
-/
import Derived.Test.YtpkgpldgoajphaaMSweepTells7
import Derived.Test.YtpkgpldgoajphaaRows
import Derived.Test.YtpkgpldgoajphaaJf1
import Derived.Test.YtpkgpldgoajphaaJf2
import Derived.Test.YtpkgpldgoajphaaJf3
import Derived.WalkKit
import Derived.ProofKit
import Derived.OpenShut
import Derived.ShutString
import Derived.ChangeOld
import Derived.Below
import Derived.SizedLaws
namespace Go.Proofs.Ytpkgpldgoajphaa.sweepTells
open Go.ChangeShapes Go.WideShapes Go.ChangeAt Go.RowKit Go.Proofs.Ytpkgpldgoajphaa.AM
open Go.ChangeMaps (open_string shut_string)
set_option linter.unusedVariables false
set_option maxRecDepth 100000
theorem own : ownKnob Try.prog.godebug = none := by kernel_rfl
theorem laidOut : laidOutB Try.prog = true := by kernel_rfl
theorem mkEntry {w : World} {a : Addr} {p : Nat} (h : ∀ (j : Nat) ck, ([.str, .str, .int .i64, .int .i64, .int .i64, .int .i64, .int .i64, .int .i64, .bool, .int .i64] : List CK)[j]? = some ck → ∃ v, w.cell? (a.add (p + j)) = some v ∧ ck.ok v) :
    ∃ x : Go.Proofs.Ytpkgpldgoajphaa.AM.Entry, ∀ j, j < 10 → ∃ v, w.cell? (a.add (p + j)) = some v ∧ v.oneCell' = true ∧ VR (fun b => b < w.heap.size) w Cx.none ((Go.Proofs.Ytpkgpldgoajphaa.AM.Entry.row x).getD j .skip) v := by
  obtain ⟨v0, c0, x0, rfl⟩ := h 0 _ rfl
  obtain ⟨v1, c1, x1, rfl⟩ := h 1 _ rfl
  obtain ⟨v2, c2, x2, rfl⟩ := h 2 _ rfl
  obtain ⟨v3, c3, x3, rfl⟩ := h 3 _ rfl
  obtain ⟨v4, c4, x4, rfl⟩ := h 4 _ rfl
  obtain ⟨v5, c5, x5, rfl⟩ := h 5 _ rfl
  obtain ⟨v6, c6, x6, rfl⟩ := h 6 _ rfl
  obtain ⟨v7, c7, x7, rfl⟩ := h 7 _ rfl
  obtain ⟨v8, c8, x8, rfl⟩ := h 8 _ rfl
  obtain ⟨v9, c9, x9, rfl⟩ := h 9 _ rfl
  refine ⟨⟨⟨⟨x0, x1⟩, x2, x3, x4, ⟨x5, x6, x7⟩, x8⟩, x9⟩, fun j hj => ?_⟩
  match j, hj with
  | 0, _ => exact ⟨_, c0, rfl, .str ..⟩
  | 1, _ => exact ⟨_, c1, rfl, .str ..⟩
  | 2, _ => exact ⟨_, c2, rfl, .int ..⟩
  | 3, _ => exact ⟨_, c3, rfl, .int ..⟩
  | 4, _ => exact ⟨_, c4, rfl, .int ..⟩
  | 5, _ => exact ⟨_, c5, rfl, .int ..⟩
  | 6, _ => exact ⟨_, c6, rfl, .int ..⟩
  | 7, _ => exact ⟨_, c7, rfl, .int ..⟩
  | 8, _ => exact ⟨_, c8, rfl, .bool ..⟩
  | 9, _ => exact ⟨_, c9, rfl, .int ..⟩
  | _ + 10, hj => omega
theorem walk (a0 : Option Addr) (len0 cap0 : Nat) (z0 : List Int) (a1 : Option Addr) (len1 cap1 : Nat) (z1 : List Go.Proofs.Ytpkgpldgoajphaa.AM.Entry) (a2 : Int) (a3 : Int) (a4 : Int) (w : World) (w0 : IsInts w a0 len0 cap0 z0) (w1 : IsRows Go.Proofs.Ytpkgpldgoajphaa.AM.Entry.row 10 w a1 len1 cap1 z1) : Calls Try.prog 8 #[.slice a0 len0 cap0, .slice a1 len1 cap1, .int .i64 a2, .int .i64 a3, .int .i64 a4] w fun e w' => e = .returned (.bool true) ∧ Below w.heap.size w w' := by
  obtain ⟨r0, y0⟩ := w0.rel
  have r1 := IsRows.rel (k := 10) (fun _ => rfl) (by decide) w1
  refine ACalls.yes (fn := Try.f8) ⟨Try.func8, by kernel_rfl, by kernel_rfl, by kernel_rfl⟩ (stells_spec (z0.take len0) z1 a2 a3 a4 y0) rfl fun i hi => ?_
  match i, hi with
  | 0, _ => exact r0
  | 1, _ => exact r1
  | 2, _ => exact .int ..
  | 3, _ => exact .int ..
  | 4, _ => exact .int ..
  | _ + 5, hi => simp at hi; try omega
theorem lifted (os : Os) (started : os.Started) (H : Type) (enc : TypeId × Value → H) :
    ReturnsInHanded {} Try.checked os 8 .any (Rows.sweepTellsSpec.pre6 enc Try.prog Try.f8 Rows.sweepTellsRow.domain false) (Rows.sweepTellsSpec.post enc Try.prog Try.f8 false true false false) := by
  refine returnsInHanded_of_change_sized (C := Try.checked) own started (by kernel_rfl) Try.func8
    (ChangeSpec.witness6 (enc := enc) (C := Try.checked) false ⟨#[], #[.slice none 0 0, .slice none 0 0, .int .i64 0, .int .i64 0, .int .i64 0], []⟩ 8 (by kernel_rfl) (by kernel_rfl) (by kernel_rfl) (by kernel_rfl)) ?_
  intro W base args ds gs before hval0 hW hcnd hsz0 _
  have hval : ∀ (j : Nat) t v, Try.f8.params[j]? = some t → args[j]? = some v → Value.okWide Try.prog W .any base t v := hval0
  have hW' := hW
  obtain ⟨p, q, hA0, hV, rfl, hfz, hnd⟩ := hW
  have hA : DataW.TrodAll enc Try.prog W 0 (fun _ => true) true Try.f8.params.toList args.toList ds p := hA0
  rw [Try.params8] at hA hval
  obtain ⟨v0, vs0, d0, ds0, p0, q0, hargs, rfl, rfl, h0, r0⟩ := trodAll_cons hA
  obtain ⟨v1, vs1, d1, ds1, p1, q1, rfl, rfl, rfl, h1, r1⟩ := trodAll_cons r0
  obtain ⟨v2, vs2, d2, ds2, p2, q2, rfl, rfl, rfl, h2, r2⟩ := trodAll_cons r1
  obtain ⟨v3, vs3, d3, ds3, p3, q3, rfl, rfl, rfl, h3, r3⟩ := trodAll_cons r2
  obtain ⟨v4, vs4, d4, ds4, p4, q4, rfl, rfl, rfl, h4, r4⟩ := trodAll_cons r3
  obtain ⟨rfl, rfl, rfl⟩ := trodAll_nil r4
  obtain rfl : args = #[v0, v1, v2, v3, v4] := by cases args; simp_all
  obtain ⟨rfl, rfl⟩ := trodVars_none hV
  obtain ⟨a0, len0, cap0, rfl⟩ := okWide_slice Try.underlying22 (hval 0 22 v0 rfl rfl)
  have k0 := h0
  have lt0 : ∀ x ∈ p0, x.block < W.heap.size := by obtain ⟨m, hm⟩ := k0; exact DataW.trod_lt m _ _ _ hm
  obtain ⟨z0, w0⟩ : ∃ zs, IsInts W a0 len0 cap0 zs := by
    obtain ⟨fuel, hf⟩ := h0
    rcases open_ints Try.underlying22 Try.underlying3 (by kernel_rfl) hf with ⟨hcs, _⟩ | ⟨x, l, c, zs, hcs, _, hl, hm, hz, _, hcell, hwz⟩
    · simp [Value.cells] at hcs
      obtain ⟨rfl, rfl, rfl⟩ := hcs
      exact ⟨[], .inl ⟨rfl, rfl, rfl, rfl⟩⟩
    · simp [Value.cells] at hcs
      obtain ⟨rfl, rfl, rfl⟩ := hcs
      exact ⟨zs, .inr ⟨_, rfl, hl, hm, by simpa using hz, hcell⟩⟩
  obtain ⟨a1, len1, cap1, rfl⟩ := okWide_slice Try.underlying52 (hval 1 52 v1 rfl rfl)
  have k1 := h1
  have lt1 : ∀ x ∈ p1, x.block < W.heap.size := by obtain ⟨m, hm⟩ := k1; exact DataW.trod_lt m _ _ _ hm
  obtain ⟨z1, w1⟩ : ∃ zs, IsRows Go.Proofs.Ytpkgpldgoajphaa.AM.Entry.row 10 W a1 len1 cap1 zs := by
    obtain ⟨fuel, hf⟩ := h1
    rcases rows_kinds ttOk (d := 6) (ks := [.str, .str, .int .i64, .int .i64, .int .i64, .int .i64, .int .i64, .int .i64, .bool, .int .i64]) Try.underlying52 (by kernel_rfl) (by kernel_rfl) hf with hcs | ⟨x, l, c, hcs, hl, hm, hcell⟩
    · simp [Value.cells] at hcs
      obtain ⟨rfl, rfl, rfl⟩ := hcs
      exact ⟨[], rfl, .inl ⟨rfl, rfl, rfl⟩⟩
    · simp [Value.cells] at hcs
      obtain ⟨rfl, rfl, rfl⟩ := hcs
      exact IsRows.of hl hm fun i hi => mkEntry fun j ck hj => hcell i j ck hi hj
  obtain ⟨a2, rfl, rfl, rfl, wf2⟩ := open_int Try.underlying2 (hval 2 2 v2 rfl rfl) h2
  obtain ⟨a3, rfl, rfl, rfl, wf3⟩ := open_int Try.underlying2 (hval 3 2 v3 rfl rfl) h3
  obtain ⟨a4, rfl, rfl, rfl, wf4⟩ := open_int Try.underlying3 (hval 4 3 v4 rfl rfl) h4
  clear hA0 hval0 hsz0
  refine (walk a0 len0 cap0 z0 a1 len1 cap1 z1 a2 a3 a4 W w0 w1).mono fun e W' ⟨he, bel⟩ => ?_
  subst he
  exact ⟨_, rfl, _, _, _, [], _, [], hW', trodAll_mk1 (shut_bool Try.underlying4 _), (trodAll_cons_mk (Below.trod laidOut (by kernel_rfl) (of_decide_eq_true (by kernel_rfl)) k0 bel lt0) (trodAll_cons_mk (Below.trod laidOut (by kernel_rfl) (of_decide_eq_true (by kernel_rfl)) k1 bel lt1) (trodAll_cons_mk (shut_int Try.underlying2 wf2) (trodAll_cons_mk (shut_int Try.underlying2 wf3) (trodAll_cons_mk (shut_int Try.underlying3 wf4) trodAll_mk0))))), rfl, bel.frame _, fun h => by cases h⟩
theorem joined : joinedFacts Try.pinned.checked.prog 8 Try.f8 Rows.sweepTellsSpec Rows.sweepTellsRow = true := by
  unfold joinedFacts
  rw [jMay, jLift, show Try.pinned.checked.prog.make = some Rows.sweepTellsRow.make from jMake]
  kernel_rfl
theorem over : Rows.sweepTellsRow.holds Try.pinned (OpenSpec.ofChange Rows.sweepTellsSpec) :=
  OpenClaim.holds_of_wide 8 Try.f8 rfl rfl rfl rfl rfl rfl rfl ⟨rfl, rfl, rfl, rfl, rfl⟩ rfl rfl rfl rfl rfl (by kernel_rfl) Try.func8 joined
    (of_decide_eq_true (by kernel_rfl)) (by unfold Func.isWrapper; first | (rw [if_pos (by decide +kernel)]; kernel_rfl) | (rw [if_neg (by decide +kernel)]; exact ⟨rfl, rfl⟩))
    (fun os started H enc _ => lifted os started H enc)
theorem proved : Rows.SweepTellsSaid := over
end Go.Proofs.Ytpkgpldgoajphaa.sweepTells
namespace Go.Proofs.Ytpkgpldgoajphaa
/-- The law SweepTells, for every input. -/
theorem sweepTells_holds : Rows.SweepTellsSaid := sweepTells.proved
end Go.Proofs.Ytpkgpldgoajphaa
