/-
  The law DeskPlays: for every input the call answers true.
-/
import Derived.Test.YtfjedpipdnlkfaaGreatMZ68
import Derived.Test.YtfjedpipdnlkfaaGreatRows
import Derived.Test.YtfjedpipdnlkfaaGreatJf1
import Derived.Test.YtfjedpipdnlkfaaGreatJf2
import Derived.Test.YtfjedpipdnlkfaaGreatJf3
import Derived.WalkKit
import Derived.ProofKit
import Derived.OpenShut
import Derived.ShutString
import Derived.ChangeOld
import Derived.Below
import Derived.SizedLaws
namespace Go.Proofs.YtfjedpipdnlkfaaGreat.deskPlays
open Go.ChangeShapes Go.WideShapes Go.ChangeAt Go.RowKit Go.Proofs.YtfjedpipdnlkfaaGreat.AM
open Go.ChangeMaps (open_string shut_string)
set_option linter.unusedVariables false
set_option maxRecDepth 100000
theorem own : ownKnob Tryz.prog.godebug = none := by kernel_rfl
theorem laidOut : laidOutB Tryz.prog = true := by kernel_rfl
theorem mkCard {w : World} {a : Addr} {p : Nat} (h : ∀ (j : Nat) ck, ([.str, .str, .int .i64, .int .i64, .int .i64, .int .i64, .int .i64, .int .i64, .bool] : List CK)[j]? = some ck → ∃ v, w.cell? (a.add (p + j)) = some v ∧ ck.ok v) :
    ∃ x : Go.Proofs.YtfjedpipdnlkfaaGreat.AM.Card, ∀ j, j < 9 → ∃ v, w.cell? (a.add (p + j)) = some v ∧ v.oneCell' = true ∧ VR (fun b => b < w.heap.size) w Cx.none ((Go.Proofs.YtfjedpipdnlkfaaGreat.AM.Card.row x).getD j .skip) v := by
  obtain ⟨v0, c0, x0, rfl⟩ := h 0 _ rfl
  obtain ⟨v1, c1, x1, rfl⟩ := h 1 _ rfl
  obtain ⟨v2, c2, x2, rfl⟩ := h 2 _ rfl
  obtain ⟨v3, c3, x3, rfl⟩ := h 3 _ rfl
  obtain ⟨v4, c4, x4, rfl⟩ := h 4 _ rfl
  obtain ⟨v5, c5, x5, rfl⟩ := h 5 _ rfl
  obtain ⟨v6, c6, x6, rfl⟩ := h 6 _ rfl
  obtain ⟨v7, c7, x7, rfl⟩ := h 7 _ rfl
  obtain ⟨v8, c8, x8, rfl⟩ := h 8 _ rfl
  refine ⟨⟨⟨x0, x1⟩, x2, x3, x4, ⟨x5, x6, x7⟩, x8⟩, fun j hj => ?_⟩
  match j, hj with
  | 0, _ => exact ⟨_, c0, rfl, .str ..⟩
  | 1, _ => exact ⟨_, c1, rfl, .str ..⟩
  | 2, _ => exact ⟨_, c2, rfl, .int ..⟩
  | 3, _ => exact ⟨_, c3, rfl, .int ..⟩
  | 4, _ => exact ⟨_, c4, rfl, .int ..⟩
  | 5, _ => exact ⟨_, c5, rfl, .int ..⟩
  | 6, _ => exact ⟨_, c6, rfl, .int ..⟩
  | 7, _ => exact ⟨_, c7, rfl, .int ..⟩
  | 8, _ => exact ⟨_, c8, rfl, .bool ..⟩
  | _ + 9, hj => omega
theorem mkKey {w : World} {a : Addr} {p : Nat} (h : ∀ (j : Nat) ck, ([.str, .str] : List CK)[j]? = some ck → ∃ v, w.cell? (a.add (p + j)) = some v ∧ ck.ok v) :
    ∃ x : Go.Proofs.YtfjedpipdnlkfaaGreat.AM.Key, ∀ j, j < 2 → ∃ v, w.cell? (a.add (p + j)) = some v ∧ v.oneCell' = true ∧ VR (fun b => b < w.heap.size) w Cx.none ((Go.Proofs.YtfjedpipdnlkfaaGreat.AM.Key.row x).getD j .skip) v := by
  obtain ⟨v0, c0, x0, rfl⟩ := h 0 _ rfl
  obtain ⟨v1, c1, x1, rfl⟩ := h 1 _ rfl
  refine ⟨⟨x0, x1⟩, fun j hj => ?_⟩
  match j, hj with
  | 0, _ => exact ⟨_, c0, rfl, .str ..⟩
  | 1, _ => exact ⟨_, c1, rfl, .str ..⟩
  | _ + 2, hj => omega
theorem mkAskT {w : World} {a : Addr} {p : Nat} (h : ∀ (j : Nat) ck, ([.int .i64, .int .i64, .int .i64, .int .i64, .int .i64, .int .i64, .int .i64, .int .i64, .str, .str, .bool, .int .u32, .sl [.str, .str, .int .i64, .int .i64, .int .i64, .int .i64, .int .i64, .int .i64, .bool], .sl [.str, .str], .int .i64, .int .i64, .str, .str, .int .i64, .int .i64, .int .i64, .int .i64, .int .i64, .int .i64, .bool] : List CL)[j]? = some ck → ∃ v, w.cell? (a.add (p + j)) = some v ∧ ck.ok w v) :
    ∃ x : Go.Proofs.YtfjedpipdnlkfaaGreat.AM.AskT, (x.m.key.app.size < 9223372036854775808 ∧ x.m.key.id.size < 9223372036854775808) ∧ ∀ j, j < 25 → ∃ v, w.cell? (a.add (p + j)) = some v ∧ v.oneCell' = true ∧ VR (fun b => b < w.heap.size) w Cx.none ((Go.Proofs.YtfjedpipdnlkfaaGreat.AM.AskT.row x).getD j .skip) v := by
  obtain ⟨v0, c0, x0, rfl⟩ := h 0 _ rfl
  obtain ⟨v1, c1, x1, rfl⟩ := h 1 _ rfl
  obtain ⟨v2, c2, x2, rfl⟩ := h 2 _ rfl
  obtain ⟨v3, c3, x3, rfl⟩ := h 3 _ rfl
  obtain ⟨v4, c4, x4, rfl⟩ := h 4 _ rfl
  obtain ⟨v5, c5, x5, rfl⟩ := h 5 _ rfl
  obtain ⟨v6, c6, x6, rfl⟩ := h 6 _ rfl
  obtain ⟨v7, c7, x7, rfl⟩ := h 7 _ rfl
  obtain ⟨v8, c8, x8, rfl, s8⟩ := h 8 _ rfl
  obtain ⟨v9, c9, x9, rfl, s9⟩ := h 9 _ rfl
  obtain ⟨v10, c10, x10, rfl⟩ := h 10 _ rfl
  obtain ⟨v11, c11, x11, rfl⟩ := h 11 _ rfl
  obtain ⟨v12, c12, l12⟩ := h 12 _ rfl
  obtain ⟨o12, x12, r12⟩ := CL.rows (row := Go.Proofs.YtfjedpipdnlkfaaGreat.AM.Card.row) (k := 9) (fun _ => rfl) (by decide) (by rfl) l12 mkCard
  obtain ⟨v13, c13, l13⟩ := h 13 _ rfl
  obtain ⟨o13, x13, r13⟩ := CL.rows (row := Go.Proofs.YtfjedpipdnlkfaaGreat.AM.Key.row) (k := 2) (fun _ => rfl) (by decide) (by rfl) l13 mkKey
  obtain ⟨v14, c14, x14, rfl⟩ := h 14 _ rfl
  obtain ⟨v15, c15, x15, rfl⟩ := h 15 _ rfl
  obtain ⟨v16, c16, x16, rfl, s16⟩ := h 16 _ rfl
  obtain ⟨v17, c17, x17, rfl, s17⟩ := h 17 _ rfl
  obtain ⟨v18, c18, x18, rfl⟩ := h 18 _ rfl
  obtain ⟨v19, c19, x19, rfl⟩ := h 19 _ rfl
  obtain ⟨v20, c20, x20, rfl⟩ := h 20 _ rfl
  obtain ⟨v21, c21, x21, rfl⟩ := h 21 _ rfl
  obtain ⟨v22, c22, x22, rfl⟩ := h 22 _ rfl
  obtain ⟨v23, c23, x23, rfl⟩ := h 23 _ rfl
  obtain ⟨v24, c24, x24, rfl⟩ := h 24 _ rfl
  refine ⟨⟨x0, ⟨x1, x2, x3, x4, x5, x6, x7, ⟨x8, x9⟩, x10, x11, x12, x13⟩, x14, x15, ⟨⟨x16, x17⟩, x18, x19, x20, ⟨x21, x22, x23⟩, x24⟩⟩, ?_, fun j hj => ?_⟩
  · exact ⟨s8, s9⟩
  match j, hj with
  | 0, _ => exact ⟨_, c0, rfl, .int ..⟩
  | 1, _ => exact ⟨_, c1, rfl, .int ..⟩
  | 2, _ => exact ⟨_, c2, rfl, .int ..⟩
  | 3, _ => exact ⟨_, c3, rfl, .int ..⟩
  | 4, _ => exact ⟨_, c4, rfl, .int ..⟩
  | 5, _ => exact ⟨_, c5, rfl, .int ..⟩
  | 6, _ => exact ⟨_, c6, rfl, .int ..⟩
  | 7, _ => exact ⟨_, c7, rfl, .int ..⟩
  | 8, _ => exact ⟨_, c8, rfl, .str ..⟩
  | 9, _ => exact ⟨_, c9, rfl, .str ..⟩
  | 10, _ => exact ⟨_, c10, rfl, .bool ..⟩
  | 11, _ => exact ⟨_, c11, rfl, .int ..⟩
  | 12, _ => exact ⟨_, c12, o12, r12⟩
  | 13, _ => exact ⟨_, c13, o13, r13⟩
  | 14, _ => exact ⟨_, c14, rfl, .int ..⟩
  | 15, _ => exact ⟨_, c15, rfl, .int ..⟩
  | 16, _ => exact ⟨_, c16, rfl, .str ..⟩
  | 17, _ => exact ⟨_, c17, rfl, .str ..⟩
  | 18, _ => exact ⟨_, c18, rfl, .int ..⟩
  | 19, _ => exact ⟨_, c19, rfl, .int ..⟩
  | 20, _ => exact ⟨_, c20, rfl, .int ..⟩
  | 21, _ => exact ⟨_, c21, rfl, .int ..⟩
  | 22, _ => exact ⟨_, c22, rfl, .int ..⟩
  | 23, _ => exact ⟨_, c23, rfl, .int ..⟩
  | 24, _ => exact ⟨_, c24, rfl, .bool ..⟩
  | _ + 25, hj => omega
theorem walk (a0 : Option Addr) (len0 cap0 : Nat) (z0 : List Int) (a1 : Int) (a2 : Int) (a3 : Option Addr) (len3 cap3 : Nat) (z3 : List Go.Proofs.YtfjedpipdnlkfaaGreat.AM.AskT) (w : World) (w0 : a2F w a0 len0 cap0 z0) (w3 : gZ Go.Proofs.YtfjedpipdnlkfaaGreat.AM.AskT.row 25 w a3 len3 cap3 z3) (pz3 : ∀ a ∈ z3, a.m.key.app.size < 9223372036854775808 ∧ a.m.key.id.size < 9223372036854775808) : Calls Tryz.prog 7 #[.slice a0 len0 cap0, .int .i64 a1, .int .i64 a2, .slice a3 len3 cap3] w fun e w' => e = .returned (.bool true) ∧ Below w.heap.size w w' := by
  obtain ⟨r0, y0⟩ := w0.rel
  have r3 := gZ.rel (k := 25) (fun _ => rfl) (by decide) w3
  refine l6.yes (fn := Tryz.f7) ⟨Tryz.func7, by kernel_rfl, by kernel_rfl, by kernel_rfl⟩ (b0I (z0.take len0) a1 a2 z3 y0 pz3) rfl fun i hi => ?_
  match i, hi with
  | 0, _ => exact r0
  | 1, _ => exact .int ..
  | 2, _ => exact .int ..
  | 3, _ => exact r3
  | _ + 4, hi => simp at hi; try omega
theorem lifted (os : Os) (started : os.Started) (H : Type) (enc : TypeId × Value → H) :
    ReturnsInHanded {} Tryz.checked os 7 .any (Rows.deskPlaysSpec.pre6 enc Tryz.prog Tryz.f7 Rows.deskPlaysRow.domain false) (Rows.deskPlaysSpec.post enc Tryz.prog Tryz.f7 false true false false) := by
  refine returnsInHanded_of_change_sized (C := Tryz.checked) own started (by kernel_rfl) Tryz.func7
    (ChangeSpec.witness6 (enc := enc) (C := Tryz.checked) false ⟨#[], #[.slice none 0 0, .int .i64 0, .int .i64 0, .slice none 0 0], []⟩ 8 (by kernel_rfl) (by kernel_rfl) (by kernel_rfl) (by kernel_rfl)) ?_
  intro W base args ds gs before hval0 hW hcnd hsz0 _
  have hval : ∀ (j : Nat) t v, Tryz.f7.params[j]? = some t → args[j]? = some v → Value.okWide Tryz.prog W .any base t v := hval0
  have hW' := hW
  obtain ⟨p, q, hA0, hV, rfl, hfz, hnd⟩ := hW
  have hA : DataW.TrodAll enc Tryz.prog W 0 (fun _ => true) true Tryz.f7.params.toList args.toList ds p := hA0
  rw [Tryz.params7] at hA hval
  obtain ⟨v0, vs0, d0, ds0, p0, q0, hargs, rfl, rfl, h0, r0⟩ := trodAll_cons hA
  obtain ⟨v1, vs1, d1, ds1, p1, q1, rfl, rfl, rfl, h1, r1⟩ := trodAll_cons r0
  obtain ⟨v2, vs2, d2, ds2, p2, q2, rfl, rfl, rfl, h2, r2⟩ := trodAll_cons r1
  obtain ⟨v3, vs3, d3, ds3, p3, q3, rfl, rfl, rfl, h3, r3⟩ := trodAll_cons r2
  obtain ⟨rfl, rfl, rfl⟩ := trodAll_nil r3
  obtain rfl : args = #[v0, v1, v2, v3] := by cases args; simp_all
  obtain ⟨rfl, rfl⟩ := trodVars_none hV
  obtain ⟨a0, len0, cap0, rfl⟩ := okWide_slice Tryz.underlying22 (hval 0 22 v0 rfl rfl)
  have k0 := h0
  have lt0 : ∀ x ∈ p0, x.block < W.heap.size := by obtain ⟨m, hm⟩ := k0; exact DataW.trod_lt m _ _ _ hm
  obtain ⟨z0, w0⟩ : ∃ zs, a2F W a0 len0 cap0 zs := by
    obtain ⟨fuel, hf⟩ := h0
    rcases open_ints Tryz.underlying22 Tryz.underlying3 (by kernel_rfl) hf with ⟨hcs, _⟩ | ⟨x, l, c, zs, hcs, _, hl, hm, hz, _, hcell, hwz⟩
    · simp [Value.cells] at hcs
      obtain ⟨rfl, rfl, rfl⟩ := hcs
      exact ⟨[], .inl ⟨rfl, rfl, rfl, rfl⟩⟩
    · simp [Value.cells] at hcs
      obtain ⟨rfl, rfl, rfl⟩ := hcs
      exact ⟨zs, .inr ⟨_, rfl, hl, hm, by simpa using hz, hcell⟩⟩
  obtain ⟨a1, rfl, rfl, rfl, wf1⟩ := open_int Tryz.underlying3 (hval 1 3 v1 rfl rfl) h1
  obtain ⟨a2, rfl, rfl, rfl, wf2⟩ := open_int Tryz.underlying2 (hval 2 2 v2 rfl rfl) h2
  obtain ⟨a3, len3, cap3, rfl⟩ := okWide_slice Tryz.underlying27 (hval 3 27 v3 rfl rfl)
  have k3 := h3
  have lt3 : ∀ x ∈ p3, x.block < W.heap.size := by obtain ⟨m, hm⟩ := k3; exact DataW.trod_lt m _ _ _ hm
  obtain ⟨z3, w3, pz3⟩ : ∃ zs, gZ Go.Proofs.YtfjedpipdnlkfaaGreat.AM.AskT.row 25 W a3 len3 cap3 zs ∧ ∀ a ∈ zs, a.m.key.app.size < 9223372036854775808 ∧ a.m.key.id.size < 9223372036854775808 := by
    obtain ⟨fuel, hf⟩ := h3
    rcases b3f bZ (d := 8) (ks := [.int .i64, .int .i64, .int .i64, .int .i64, .int .i64, .int .i64, .int .i64, .int .i64, .str, .str, .bool, .int .u32, .sl [.str, .str, .int .i64, .int .i64, .int .i64, .int .i64, .int .i64, .int .i64, .bool], .sl [.str, .str], .int .i64, .int .i64, .str, .str, .int .i64, .int .i64, .int .i64, .int .i64, .int .i64, .int .i64, .bool]) Tryz.underlying27 (by kernel_rfl) (by kernel_rfl) hf with hcs | ⟨x, l, c, hcs, hl, hm, hcell⟩
    · simp [Value.cells] at hcs
      obtain ⟨rfl, rfl, rfl⟩ := hcs
      exact ⟨[], ⟨rfl, .inl ⟨rfl, rfl, rfl⟩⟩, fun x hx => by simp at hx⟩
    · simp [Value.cells] at hcs
      obtain ⟨rfl, rfl, rfl⟩ := hcs
      exact gZ.ofP _ hl hm fun i hi => mkAskT fun j ck hj => hcell i j ck hi hj
  clear hA0 hval0 hsz0
  refine (walk a0 len0 cap0 z0 a1 a2 a3 len3 cap3 z3 W w0 w3 pz3).mono fun e W' ⟨he, bel⟩ => ?_
  subst he
  exact ⟨_, rfl, _, _, _, [], _, [], hW', trodAll_mk1 (shut_bool Tryz.underlying4 _), (trodAll_cons_mk (Below.trod laidOut (by kernel_rfl) (of_decide_eq_true (by kernel_rfl)) k0 bel lt0) (trodAll_cons_mk (shut_int Tryz.underlying3 wf1) (trodAll_cons_mk (shut_int Tryz.underlying2 wf2) (trodAll_cons_mk (Below.trod laidOut (by kernel_rfl) (of_decide_eq_true (by kernel_rfl)) k3 bel lt3) trodAll_mk0)))), rfl, bel.frame _, fun h => by cases h⟩
theorem joined : joinedFacts Tryz.pinned.checked.prog 7 Tryz.f7 Rows.deskPlaysSpec Rows.deskPlaysRow = true := by
  unfold joinedFacts
  rw [jMay, jLift, show Tryz.pinned.checked.prog.make = some Rows.deskPlaysRow.make from jMake]
  kernel_rfl
theorem over : Rows.deskPlaysRow.holds Tryz.pinned (OpenSpec.ofChange Rows.deskPlaysSpec) :=
  OpenClaim.holds_of_wide 7 Tryz.f7 rfl rfl rfl rfl rfl rfl rfl ⟨rfl, rfl, rfl, rfl, rfl⟩ rfl rfl rfl rfl rfl (by kernel_rfl) Tryz.func7 joined
    (of_decide_eq_true (by kernel_rfl)) (by unfold Func.isWrapper; first | (rw [if_pos (by decide +kernel)]; kernel_rfl) | (rw [if_neg (by decide +kernel)]; exact ⟨rfl, rfl⟩))
    (fun os started H enc _ => lifted os started H enc)
theorem proved : Rows.DeskPlaysSaid := over
end Go.Proofs.YtfjedpipdnlkfaaGreat.deskPlays
namespace Go.Proofs.YtfjedpipdnlkfaaGreat
/-- The law DeskPlays, for every input. -/
theorem deskPlays_holds : Rows.DeskPlaysSaid := deskPlays.proved
end Go.Proofs.YtfjedpipdnlkfaaGreat
