/-
  AM: the operations that ask nothing of exclusive objects do in the model what the evaluator says.
-/
import Derived.Test.YtpkgpldgoajphaaAm1
import Derived.Laws.Cells
import Derived.WalkKit
set_option linter.unusedVariables false
set_option linter.unusedSimpArgs false
namespace Go.Proofs.Ytpkgpldgoajphaa.AM
open Go

def TDok (P : Program) (t : TypeId) : TD → Prop
  | .int k => P.underlying t = some (.int k)
  | .bool => P.underlying t = some .bool
  | .string => P.underlying t = some .string
  | .ptr e => P.underlying t = some (.pointer e)
  | .slice e => P.underlying t = some (.slice e)
  | .struct fs => ∃ fields : Array Field, P.underlying t = some (.struct fields) ∧ fields.toList.map (fun f => (f.type, f.offset)) = fs ∧ (∀ f ∈ fields.toList, f.name ≠ "_") ∧ P.stoodInHeld t = false ∧ P.eqGuardType P.depth t = false
  | .array n e => P.underlying t = some (.array n e)
  | .iface => ∃ ms, P.underlying t = some (.interface ms)
  | .func => ∃ a b c, P.underlying t = some (.func a b c)
  | .other => ∃ d, P.underlying t = some d ∧ (∀ fs, d ≠ .struct fs) ∧ (∀ n e, d ≠ .array n e) ∧ (∀ ms, d ≠ .interface ms)
structure TIok (P : Program) (t : TypeId) (ti : TI) : Prop where
  info : ∃ i, P.info? t = some i ∧ i.size = ti.size ∧ i.bytes = ti.bytes ∧ ∃ z, i.zero = some z ∧ ofScalars z.cells.toList = some ti.zero ∧ ti.zero.length = ti.size ∧ ((∃ cs, z = .agg cs) ↔ ti.agg = true)
  und : TDok P t ti.d
  fields : ∀ {fields : Array Field}, P.underlying t = some (.struct fields) → ∀ f ∈ fields.toList, P.info? f.type ≠ none
def TOk (P : Program) (T : TT) : Prop := ∀ t ti, T t = some ti → TIok P t ti

section
variable {P : Program} {T : TT} {G : Nat → Prop} {w : World} {C : Cx} {F : Fr} {act : Act}

theorem TIok.isAgg {t : TypeId} {ti : TI} (h : TIok P t ti) (w : World) : (isAgg t).run P w = .ok ti.agg w := by
  have hu := h.und
  unfold TI.agg
  revert hu
  generalize ti.d = d
  intro hu
  cases d with
  | struct fs => obtain ⟨f, hf, _⟩ := hu; simp [Go.isAgg, run_underlying hf]
  | iface => obtain ⟨f, hf⟩ := hu; simp [Go.isAgg, run_underlying hf]
  | func => obtain ⟨a, b, c, hf⟩ := hu; simp [Go.isAgg, run_underlying hf]
  | other =>
    obtain ⟨d, hf, h1, h2, h3⟩ := hu
    simp only [Go.isAgg, Sem.run_bind, run_underlying hf, Result.andThen_ok]
    cases d <;> first | rfl | exact absurd rfl (h1 _) | exact absurd rfl (h2 _ _)
  | _ => simp only [TDok] at hu; simp [Go.isAgg, run_underlying hu]
theorem TIok.sizeOf {t : TypeId} {ti : TI} (h : TIok P t ti) (w : World) : (Go.sizeOf t).run P w = .ok ti.size w := by
  obtain ⟨i, hi, hs, _⟩ := h.info
  simp [Go.sizeOf, typeInfo, hi, hs]

theorem ofScalar_sound {v : Value} {a : AV} (h : ofScalar v = some a) : VR G w C a v := by
  unfold ofScalar at h
  split at h <;> simp at h <;> subst h
  · exact .bool ..
  · exact .int ..
  · exact .str ..
  · exact .nilp _
  · exact .nils _ _ _ (by simp)
  · exact .nilf _
  · exact .nili _
theorem ofScalar_one {v : Value} {a : AV} (h : ofScalar v = some a) : v.oneCell' = true := by
  unfold ofScalar at h
  split at h <;> first | rfl | (simp at h)
theorem ofScalars_sound : ∀ {vs : List Value} {l : List AV}, ofScalars vs = some l → vs.length = l.length ∧ ∀ i, i < l.length → (vs.getD i undef).oneCell' = true ∧ VR G w C (l.getD i .skip) (vs.getD i undef)
  | [], l, h => by simp [ofScalars] at h; subst h; simp
  | v :: vs, l, h => by
    simp only [ofScalars] at h
    split at h
    · rename_i a l' ha hl
      simp only [Option.some.injEq] at h
      subst h
      obtain ⟨h1, h2⟩ := ofScalars_sound hl
      refine ⟨by simp [h1], fun i hi => ?_⟩
      cases i with
      | zero => exact ⟨by simpa using ofScalar_one ha, by simpa using ofScalar_sound ha⟩
      | succ i => simpa using h2 i (by simpa using hi)
    · simp at h
theorem ofConst_sound {v : Value} {a : AV} (h : ofConst v = some a) : VR G w C a v := by
  unfold ofConst at h
  split at h
  · rename_i cs
    cases hl : ofScalars cs.toList with
    | none => simp [hl] at h
    | some l =>
      simp [hl] at h
      subst h
      obtain ⟨h1, h2⟩ := ofScalars_sound (G := G) (w := w) (C := C) hl
      refine .agg _ _ _ (by simpa using h1) (fun i hi => ?_) fun i hi => ?_
      · have := (h2 i hi).1
        simpa [Array.getD_eq_getD_getElem?, List.getD_eq_getElem?_getD] using this
      · have := (h2 i hi).2
        simpa [Array.getD_eq_getD_getElem?, List.getD_eq_getElem?_getD] using this
  · rename_i vs
    split at h
    · rename_i he
      simp at h
      subst h
      have : vs = #[] := by simpa using he
      subst this
      exact .skip _
    · simp at h
  · exact ofScalar_sound h
theorem opv_sound (hF : FrR G w C F act.tmps) {x : Operand} {a : AV} (h : opv F x = some a) : VR G w C a (act.eval x) := by
  cases x with
  | tmp t =>
    simp only [opv] at h
    split at h
    · rename_i o ho
      subst h
      exact hF.2 t a ho
    · simp at h
  | const v => exact ofConst_sound h
  | func f => simp [opv] at h; subst h; exact .func _ _ _ _ rfl (by simp)
  | global g => simp [opv] at h
theorem opvs_sound (hF : FrR G w C F act.tmps) : ∀ {xs : List Operand} {l : List AV}, opvs F xs = some l → xs.length = l.length ∧ ∀ i, i < l.length → VR G w C (l.getD i .skip) ((xs.map act.eval).getD i undef)
  | [], l, h => by simp [opvs] at h; subst h; simp
  | x :: xs, l, h => by
    simp only [opvs] at h
    split at h
    · rename_i a l' ha hl
      simp only [Option.some.injEq] at h
      subst h
      obtain ⟨h1, h2⟩ := opvs_sound hF hl
      refine ⟨by simp [h1], fun i hi => ?_⟩
      cases i with
      | zero => simpa using opv_sound hF ha
      | succ i => simpa using h2 i (by simpa using hi)
    · simp at h

theorem part_sound (hT : TOk P T) {t : TypeId} {cs : List AV} {c : Nat} {a : AV} (h : part T t cs c = some a) {vs : Array Value} (hs : vs.size = cs.length) (h1 : ∀ i, i < cs.length → (vs.getD i undef).oneCell' = true) (hv : ∀ i, i < cs.length → VR G w C (cs.getD i .skip) (vs.getD i undef)) :
    ∃ v, (Go.part t vs c).run P w = .ok v w ∧ VR G w C a v := by
  unfold AM.part at h
  split at h
  · simp at h
  · rename_i ti ht
    have hti := hT t ti ht
    split at h
    · rename_i hagg
      split at h
      · rename_i hle
        simp only [Option.some.injEq] at h
        subst h
        refine ⟨.agg (vs.extract c (c + ti.size)), by simp [Go.part, hti.isAgg, hti.sizeOf, hagg], .agg _ _ _ (by simp; omega) (fun i hi => ?_) fun i hi => ?_⟩
        · have hi' : i < ti.size := by simp at hi; omega
          have := h1 (c + i) (by omega)
          have h2 : i < min (c + ti.size) vs.size - c := by omega
          have h3 : c + i < vs.size := by omega
          simpa [Array.getD_eq_getD_getElem?, Array.getElem?_extract, hi', h2, h3] using this
        · have hi' : i < ti.size := by simp at hi; omega
          have := hv (c + i) (by omega)
          have h2 : i < min (c + ti.size) vs.size - c := by omega
          have h3 : c + i < vs.size := by omega
          simpa [Array.getD_eq_getD_getElem?, List.getD_eq_getElem?_getD, Array.getElem?_extract, List.getElem?_take, List.getElem?_drop, hi', h2, h3] using this
      · simp at h
    · rename_i hagg
      have hc : c < cs.length := by
        rcases Nat.lt_or_ge c cs.length with h' | h'
        · exact h'
        · rw [List.getElem?_eq_none h'] at h; simp at h
      have := hv c hc
      refine ⟨vs.getD c undef, ?_, ?_⟩
      · simp [Go.part, hti.isAgg, hagg, Array.getD_eq_getD_getElem?, show c < vs.size by omega]
      · simpa [List.getD_eq_getElem?_getD, h] using this

/-- Cells, as far as they are known. -/
def CR (G : Nat → Prop) (w : World) (C : Cx) (xs : List AV) (vs : Array Value) : Prop := ∀ (i : Nat) (a : AV), xs[i]? = some a → ∃ v, vs[i]? = some v ∧ VR G w C a v
theorem CR.of {xs : List AV} {vs : Array Value} (hs : vs.size = xs.length) (hv : ∀ i, i < xs.length → VR G w C (xs.getD i .skip) (vs.getD i undef)) : CR G w C xs vs := by
  intro i a ha
  have hi : i < xs.length := by
    rcases Nat.lt_or_ge i xs.length with h' | h'
    · exact h'
    · rw [List.getElem?_eq_none h'] at ha; simp at ha
  have := hv i hi
  refine ⟨vs.getD i undef, by simp [Array.getD_eq_getD_getElem?, show i < vs.size by omega], ?_⟩
  simpa only [List.getD_eq_getElem?_getD, ha, Option.getD_some] using this
theorem CR.slice {xs : List AV} {vs : Array Value} (h : CR G w C xs vs) (o n : Nat) : CR G w C ((xs.drop o).take n) (vs.extract o (o + n)) := by
  intro i a ha
  rw [List.getElem?_take] at ha
  split at ha
  · rename_i hi
    rw [List.getElem?_drop] at ha
    obtain ⟨v, hv, hr⟩ := h _ _ ha
    refine ⟨v, ?_, hr⟩
    have hlt : o + i < vs.size := (Array.getElem?_eq_some_iff.1 hv).1
    rw [Array.getElem?_extract]
    have h2 : i < min (o + n) vs.size - o := by omega
    simp [h2, hv]
  · simp at ha
theorem run_part_cell {t : TypeId} {ti : TI} (h : TIok P t ti) (ha : ti.agg = false) {vs : Array Value} {o : Nat} {v : Value} (hv : vs[o]? = some v) : (Go.part t vs o).run P w = .ok v w := by
  simp [Go.part, h.isAgg, ha, hv]
theorem eqFields_sound (hT : TOk P T) : ∀ (d D : Nat) (fs : List Field) (xs ys : List AV) (us vs : Array Value) (b : Bool), d ≤ D → (∀ f ∈ fs, f.name ≠ "_") → CR G w C xs us → CR G w C ys vs →
    eqFields T d (fs.map fun f => (f.type, f.offset)) xs ys = some b → (Op.eqFields D us vs fs).run P w = .ok b w
  | 0, _, _, _, _, _, _, _, _, _, _, _, h => by simp [eqFields] at h
  | d + 1, D, [], xs, ys, us, vs, b, hD, hn, hx, hy, h => by simp [eqFields] at h; subst h; simp [Op.eqFields]
  | d + 1, D, f :: fs, xs, ys, us, vs, b, hD, hn, hx, hy, h => by
    obtain ⟨D, rfl⟩ : ∃ m, D = m + 1 := ⟨D - 1, by omega⟩
    simp only [List.map_cons, eqFields] at h
    split at h
    · rename_i b1 b2 h1 h2
      simp only [Option.some.injEq] at h
      have hrest := eqFields_sound hT d (D + 1) fs xs ys us vs b2 (by omega) (fun g hg => hn g (by simp [hg])) hx hy h2
      have hone : ((Go.part f.type us f.offset).run P w).andThen (fun a w1 => ((Go.part f.type vs f.offset).run P w1).andThen fun c w2 => (Op.equalIn (D + 1) f.type a c).run P w2) = .ok b1 w := by
        split at h1
        · rename_i gs size _ _ ht
          have hti := hT _ _ ht
          obtain ⟨fields, hu, hm, hne, hst, hg⟩ := hti.und
          have hfo : P.fieldsOf f.type = fields := by simp [Program.fieldsOf, hu]
          simp only [Go.part, Sem.run_bind, hti.isAgg, TI.agg, Result.andThen_ok, if_true, hti.sizeOf, Sem.run_pure]
          rw [run_equalIn_struct w D f.type _ _ (by rw [hfo]; exact hu) hst, hfo]
          exact eqFields_sound hT d D fields.toList _ _ _ _ _ (by omega) hne (hx.slice _ _) (hy.slice _ _) (by rw [hm]; exact h1)
        · rename_i _ _ _ ht
          have hti := hT _ _ ht
          unfold eqI at h1
          split at h1
          · rename_i hxo hyo
            split at h1
            · rename_i hk
              subst hk
              simp only [Option.some.injEq] at h1
              obtain ⟨u, hu, hru⟩ := hx _ _ hxo
              obtain ⟨v, hv, hrv⟩ := hy _ _ hyo
              cases hru
              cases hrv
              rw [run_part_cell hti rfl hu, Result.andThen_ok, run_part_cell hti rfl hv, Result.andThen_ok, run_equalIn_int w D _ _ _ _ _ hti.und, h1]
            · simp at h1
          · simp at h1
        · rename_i _ _ _ ht
          have hti := hT _ _ ht
          unfold eqB at h1
          split at h1
          · rename_i hxo hyo
            simp only [Option.some.injEq] at h1
            obtain ⟨u, hu, hru⟩ := hx _ _ hxo
            obtain ⟨v, hv, hrv⟩ := hy _ _ hyo
            cases hru
            cases hrv
            rw [run_part_cell hti rfl hu, Result.andThen_ok, run_part_cell hti rfl hv, Result.andThen_ok, run_equalIn_bool' w D _ _ _ hti.und, h1]
          · simp at h1
        · rename_i _ _ _ ht
          have hti := hT _ _ ht
          unfold eqS at h1
          split at h1
          · rename_i hxo hyo
            simp only [Option.some.injEq] at h1
            obtain ⟨u, hu, hru⟩ := hx _ _ hxo
            obtain ⟨v, hv, hrv⟩ := hy _ _ hyo
            cases hru
            cases hrv
            rw [run_part_cell hti rfl hu, Result.andThen_ok, run_part_cell hti rfl hv, Result.andThen_ok, run_equalIn_string w D _ _ _ hti.und, h1]
          · simp at h1
        · simp at h1
      simp only [Op.eqFields, hn f (by simp), ne_eq, not_false_eq_true, if_true, Sem.run_bind]
      cases hp : (Go.part f.type us f.offset).run P w with
      | halt x w1 => rw [hp] at hone; simp at hone
      | ok a w1 =>
        rw [hp] at hone
        simp only [Result.andThen_ok] at hone ⊢
        cases hq : (Go.part f.type vs f.offset).run P w1 with
        | halt x w2 => rw [hq] at hone; simp at hone
        | ok c w2 =>
          rw [hq] at hone
          simp only [Result.andThen_ok] at hone ⊢
          rw [hone]
          subst h
          cases b1
          · simp
          · simpa using hrest
    · simp at h
end
end Go.Proofs.Ytpkgpldgoajphaa.AM
