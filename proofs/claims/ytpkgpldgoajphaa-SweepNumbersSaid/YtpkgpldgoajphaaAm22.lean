/-
  AM: functions: what 'evFun' says is what a call comes to.
-/
import Derived.Test.YtpkgpldgoajphaaAm21b
set_option linter.unusedVariables false
set_option linter.unusedSimpArgs false
namespace Go.Proofs.Ytpkgpldgoajphaa.AM
open Go

section
variable {P : Program} {X : Env} {G G' : Nat → Prop} {w w' : World} {C C' : Cx} {F F' : Fr} {act : Act} {H H' : Heap}

def resultM (tmps : Array Value) : ResultVar → Sem Value
  | .tmp t => pure (tmps.getD t undef)
  | .cell a t => do loadVar t (← asAddr (tmps.getD a undef))
theorem result1_sound (hT : TOk P X.T) (hF : FrR G w C F act.tmps) (hH : HR G w C H) {r : ResultVar} {a : AV} (h : result1 X F H r = some a) : ∃ v, (resultM act.tmps r).run P w = .ok v w ∧ VR G w C a v := by
  have same : ∀ (t : TypeId) (u : Value) (v : Value), (Instr.loadAt t u).run P w = .ok v w → (∃ ad, u = .pointer (some ad)) → (do loadVar t (← asAddr u) : Sem Value).run P w = .ok v w := by
    rintro t u v hr ⟨ad, rfl⟩
    simpa [Instr.loadAt, Instr.sureAddr, asAddr] using hr
  cases r with
  | tmp t =>
    simp only [result1] at h
    exact ⟨_, rfl, opv_sound (act := act) hF h⟩
  | cell x t =>
    simp only [result1] at h
    split at h
    · rename_i cs c hx
      have hv := opv_sound (act := act) hF hx
      obtain ⟨v, h1, h2⟩ := load_ref_sound hT hv h
      refine ⟨v, ?_, h2⟩
      simp only [resultM]
      refine same t _ v h1 ?_
      generalize hu : act.eval (.tmp x) = u at hv
      have : act.tmps.getD x undef = u := hu
      rw [this]
      cases hv
      exact ⟨_, rfl⟩
    · rename_i id g e c hx
      split at h
      case h_2 => simp at h
      rename_i cs hr
      have hv := opv_sound (act := act) hF hx
      obtain ⟨v, h1, h2⟩ := load_obj_sound hT hH hv hr h
      refine ⟨v, ?_, h2⟩
      simp only [resultM]
      refine same t _ v h1 ?_
      generalize hu : act.eval (.tmp x) = u at hv
      have : act.tmps.getD x undef = u := hu
      rw [this]
      cases hv
      exact ⟨_, rfl⟩
    · simp at h
theorem resultsOf_sound (hT : TOk P X.T) (hF : FrR G w C F act.tmps) (hH : HR G w C H) : ∀ {rs : List ResultVar} {as : List AV}, resultsOf X F H rs = some as →
    ∃ vs : List Value, (rs.mapM (resultM act.tmps)).run P w = .ok vs w ∧ vs.length = as.length ∧ ∀ i, i < as.length → VR G w C (as.getD i .skip) (vs.getD i undef)
  | [], as, h => by
    simp [resultsOf] at h
    subst h
    exact ⟨[], by simp, rfl, fun i hi => by simp at hi⟩
  | r :: rs, as, h => by
    simp only [resultsOf] at h
    split at h
    case h_2 => simp at h
    rename_i a l h1 h2
    simp only [Option.some.injEq] at h
    subst h
    obtain ⟨v, h3, h4⟩ := result1_sound hT hF hH h1
    obtain ⟨vs, h5, h6, h7⟩ := resultsOf_sound hT hF hH h2
    refine ⟨v :: vs, by simp [List.mapM_cons, h3, h5], by simp [h6], fun i hi => ?_⟩
    cases i with
    | zero => simpa using h4
    | succ i => simpa using h7 i (by simpa using hi)
theorem results_eq (fn : Func) (tmps : Array Value) : results fn tmps = (do let vs ← fn.results.mapM (resultM tmps); pure (if h : vs.size = 1 then vs[0] else .tuple vs)) := rfl
theorem results_sound (hT : TOk P X.T) (hF : FrR G w C F act.tmps) (hH : HR G w C H) {fn : Func} {as : List AV} (h : resultsOf X F H fn.results.toList = some as) :
    ∃ v, (results fn act.tmps).run P w = .ok v w ∧ VR G w C (packR as) v := by
  obtain ⟨vs, h1, h2, h3⟩ := resultsOf_sound (act := act) hT hF hH h
  have hm : (fn.results.mapM (resultM act.tmps)).run P w = .ok vs.toArray w := by
    rw [Array.mapM_eq_mapM_toList]
    simp [h1]
  rw [results_eq]
  simp only [Sem.run_bind, hm, Result.andThen_ok, Sem.run_pure]
  refine ⟨_, rfl, ?_⟩
  unfold packR
  split
  · rename_i a
    have hv : vs.length = 1 := h2
    obtain ⟨v, rfl⟩ := List.length_eq_one_iff.1 hv
    simpa using h3 0 (by simp)
  · rename_i hne
    have hv : ¬ vs.toArray.size = 1 := fun e => by
      have : as.length = 1 := by rw [← h2]; simpa using e
      obtain ⟨a, rfl⟩ := List.length_eq_one_iff.1 this
      exact hne a rfl
    rw [dif_neg hv]
    refine .tup _ _ _ (by simpa using h2) fun i hi => ?_
    have := h3 i hi
    simpa [Array.getD_eq_getD_getElem?, List.getD_eq_getElem?_getD] using this

mutual
theorem frzV_sound : ∀ {n0 : Nat} (a : AV) {G : Nat → Prop} {C : Cx} {H : Heap} {v : Value} {a' : AV} {H' : Heap}, VR G w C a v → HR G w C H → frzV n0 a H = some (a', H') → ∃ G' C', Ev G w C G' w C' ∧ HR G' w C' H' ∧ VR G' w C' a' v ∧ Pd AnyId C H C' H'
  | n0, .osl id g k e n, G, C, H, v, a', H', hv, hH, h => by
    simp only [frzV] at h
    split at h
    · split at h
      case h_2 => simp at h
      rename_i xs hr
      split at h
      case isFalse => simp at h
      rename_i hb
      simp only [Option.some.injEq, Prod.mk.injEq] at h
      obtain ⟨rfl, rfl⟩ := h
      exact freeze_sound hH hv hr hb
    · simp only [Option.some.injEq, Prod.mk.injEq] at h
      obtain ⟨rfl, rfl⟩ := h
      exact ⟨G, C, Ev.refl .., hH, hv, Pd.refl⟩
  | n0, .agg cs, G, C, H, v, a', H', hv, hH, h => by
    simp only [frzV] at h
    split at h
    case h_2 => simp at h
    rename_i cs' H2 hc
    simp only [Option.some.injEq, Prod.mk.injEq] at h
    obtain ⟨rfl, rfl⟩ := h
    cases hv with
    | agg _ _ vs hs h1 hv =>
      obtain ⟨G', C', a1, a2, a3, a4, a5⟩ := frzVs_sound cs (f := fun i => vs.getD i undef) hv hH hc
      exact ⟨G', C', a1, a2, .agg _ _ _ (by omega) (fun i hi => h1 i (by omega)) a4, a5⟩
  | n0, .tup cs, G, C, H, v, a', H', hv, hH, h => by
    simp only [frzV] at h
    split at h
    case h_2 => simp at h
    rename_i cs' H2 hc
    simp only [Option.some.injEq, Prod.mk.injEq] at h
    obtain ⟨rfl, rfl⟩ := h
    cases hv with
    | tup _ _ vs hs hv =>
      obtain ⟨G', C', a1, a2, a3, a4, a5⟩ := frzVs_sound cs (f := fun i => vs.getD i undef) hv hH hc
      exact ⟨G', C', a1, a2, .tup _ _ _ (by omega) a4, a5⟩
  | n0, .skip, G, C, H, v, a', H', hv, hH, h => by simp only [frzV, Option.some.injEq, Prod.mk.injEq] at h; obtain ⟨rfl, rfl⟩ := h; exact ⟨G, C, Ev.refl .., hH, hv, Pd.refl⟩
  | n0, .unk, G, C, H, v, a', H', hv, hH, h => by simp only [frzV, Option.some.injEq, Prod.mk.injEq] at h; obtain ⟨rfl, rfl⟩ := h; exact ⟨G, C, Ev.refl .., hH, hv, Pd.refl⟩
  | n0, .bool .., G, C, H, v, a', H', hv, hH, h => by simp only [frzV, Option.some.injEq, Prod.mk.injEq] at h; obtain ⟨rfl, rfl⟩ := h; exact ⟨G, C, Ev.refl .., hH, hv, Pd.refl⟩
  | n0, .int .., G, C, H, v, a', H', hv, hH, h => by simp only [frzV, Option.some.injEq, Prod.mk.injEq] at h; obtain ⟨rfl, rfl⟩ := h; exact ⟨G, C, Ev.refl .., hH, hv, Pd.refl⟩
  | n0, .str .., G, C, H, v, a', H', hv, hH, h => by simp only [frzV, Option.some.injEq, Prod.mk.injEq] at h; obtain ⟨rfl, rfl⟩ := h; exact ⟨G, C, Ev.refl .., hH, hv, Pd.refl⟩
  | n0, .nilp, G, C, H, v, a', H', hv, hH, h => by simp only [frzV, Option.some.injEq, Prod.mk.injEq] at h; obtain ⟨rfl, rfl⟩ := h; exact ⟨G, C, Ev.refl .., hH, hv, Pd.refl⟩
  | n0, .nilf, G, C, H, v, a', H', hv, hH, h => by simp only [frzV, Option.some.injEq, Prod.mk.injEq] at h; obtain ⟨rfl, rfl⟩ := h; exact ⟨G, C, Ev.refl .., hH, hv, Pd.refl⟩
  | n0, .nili, G, C, H, v, a', H', hv, hH, h => by simp only [frzV, Option.some.injEq, Prod.mk.injEq] at h; obtain ⟨rfl, rfl⟩ := h; exact ⟨G, C, Ev.refl .., hH, hv, Pd.refl⟩
  | n0, .func .., G, C, H, v, a', H', hv, hH, h => by simp only [frzV, Option.some.injEq, Prod.mk.injEq] at h; obtain ⟨rfl, rfl⟩ := h; exact ⟨G, C, Ev.refl .., hH, hv, Pd.refl⟩
  | n0, .iface .., G, C, H, v, a', H', hv, hH, h => by simp only [frzV, Option.some.injEq, Prod.mk.injEq] at h; obtain ⟨rfl, rfl⟩ := h; exact ⟨G, C, Ev.refl .., hH, hv, Pd.refl⟩
  | n0, .ref .., G, C, H, v, a', H', hv, hH, h => by simp only [frzV, Option.some.injEq, Prod.mk.injEq] at h; obtain ⟨rfl, rfl⟩ := h; exact ⟨G, C, Ev.refl .., hH, hv, Pd.refl⟩
  | n0, .sl .., G, C, H, v, a', H', hv, hH, h => by simp only [frzV, Option.some.injEq, Prod.mk.injEq] at h; obtain ⟨rfl, rfl⟩ := h; exact ⟨G, C, Ev.refl .., hH, hv, Pd.refl⟩
  | n0, .obj .., G, C, H, v, a', H', hv, hH, h => by simp only [frzV, Option.some.injEq, Prod.mk.injEq] at h; obtain ⟨rfl, rfl⟩ := h; exact ⟨G, C, Ev.refl .., hH, hv, Pd.refl⟩
theorem frzVs_sound : ∀ {n0 : Nat} (as : List AV) {G : Nat → Prop} {C : Cx} {H : Heap} {f : Nat → Value} {as' : List AV} {H' : Heap}, (∀ i, i < as.length → VR G w C (as.getD i .skip) (f i)) → HR G w C H → frzVs n0 as H = some (as', H') →
    ∃ G' C', Ev G w C G' w C' ∧ HR G' w C' H' ∧ as'.length = as.length ∧ (∀ i, i < as'.length → VR G' w C' (as'.getD i .skip) (f i)) ∧ Pd AnyId C H C' H'
  | n0, [], G, C, H, f, as', H', hv, hH, h => by
    simp only [frzVs, Option.some.injEq, Prod.mk.injEq] at h
    obtain ⟨rfl, rfl⟩ := h
    exact ⟨G, C, Ev.refl .., hH, rfl, fun i hi => by simp at hi, Pd.refl⟩
  | n0, a :: as, G, C, H, f, as', H', hv, hH, h => by
    simp only [frzVs] at h
    split at h
    case h_2 => simp at h
    rename_i a1 H1 h1
    split at h
    case h_2 => simp at h
    rename_i as1 H2 h2
    simp only [Option.some.injEq, Prod.mk.injEq] at h
    obtain ⟨rfl, rfl⟩ := h
    obtain ⟨G1, C1, b1, b2, b3, b4⟩ := frzV_sound a (by simpa using hv 0 (by simp)) hH h1
    obtain ⟨G2, C2, c1, c2, c3, c4, c5⟩ := frzVs_sound as (f := fun i => f (i + 1)) (fun i hi => by simpa using (hv (i + 1) (by simpa using hi)).ev b1) b2 h2
    refine ⟨G2, C2, b1.trans c1, c2, by simp [c3], fun i hi => ?_, b4.trans c5⟩
    cases i with
    | zero => simpa using b3.ev c1
    | succ i => simpa using c4 i (by simpa using hi)
end

/-- What a function's results come to. -/
def finP (X : Env) (fn : Func) (r : AV × Heap) (e : Ex) (F : Fr) (H : Heap) : Prop :=
  match e with
  | .exit _ => False
  | _ => match resultsOf X F H fn.results.toList with
    | some vs => match X.ann.fin with
      | none => (packR vs, H) = r
      | some n => match Nat.ble X.ann.base n with
        | true => (AV.bdd n (packR vs) = true ∧ obsB n (H.take n) = true) ∧ (packR vs, H.take n) = r
        | false => False
    | none => False
theorem finP_sound (hT : TOk P X.T) {G0 : Nat → Prop} {w0 : World} {C0 : Cx} {H0 : Heap} (hH0 : HR G0 w0 C0 H0) (hb0 : H0.length ≤ X.ann.base) (he : Ev G0 w0 C0 G w C) (hp : Pd AnyId C0 H0 C H) (hF : FrR G w C F act.tmps) (hH : HR G w C H) {fn : Func} {r : AV × Heap} {e : Ex} (h : finP X fn r e F H) :
    (∀ id, e ≠ .exit id) ∧ ∃ v, (results fn act.tmps).run P w = .ok v w ∧ After G0 w0 C0 H0 r v w := by
  unfold finP at h
  split at h
  · exact h.elim
  · rename_i hne
    split at h
    case h_2 => exact h.elim
    rename_i as has
    obtain ⟨v, h1, h2⟩ := results_sound (act := act) hT hF hH has
    split at h
    · subst h
      exact ⟨fun id he => hne id he, v, h1, G, C, he, hH, h2, hp⟩
    · split at h
      case h_2 => exact h.elim
      rename_i n _ _ hn
      obtain ⟨⟨h3, h4⟩, h5⟩ := h
      subst h5
      obtain ⟨c1, c2, c3, c4⟩ := cut_sound (n := n) hH0 he hp hF hH (Nat.le_trans hb0 (Nat.le_of_ble_eq_true hn)) h4
      exact ⟨fun id he => hne id he, v, h1, G, _, c1, c3, h2.cut n h3, c4⟩
end

/-- The program has this function, with a body. -/
structure Has (P : Program) (f : FuncId) (fn : Func) : Prop where
  get : P.funcs[f]? = some fn
  body : fn.body.isNone = false
  name : (fn.name == "runtime.NumGoroutine") = false
  ok : fn.body.all codeOk = true
def frame0 (fn : Func) (args : List AV) : Fr := args.map some ++ List.replicate (fn.ntmps - args.length) none
/-- What a function does, by its code. -/
def funQ (P : Program) (X : Env) (fn : Func) (args : List AV) (H : Heap) (r : AV × Heap) : Prop :=
  match fn.body with
  | some c => codeQ P X c (finP X fn r) (frame0 fn args) H
  | none => False
/-- What a function does, by its code and what is told. -/
def funT (P : Program) (X : Env) (fn : Func) (t : Tr) (args : List AV) (H : Heap) (r : AV × Heap) : Prop :=
  match fn.body with
  | some c => codeT P X c (fun _ => finP X fn r) t (frame0 fn args) H
  | none => False

theorem funQ_sound {P : Program} {X : Env} {f : FuncId} {fn : Func} (hT : TOk P X.T) (hM : Mok P X.M) (hmo : P.follows .mixedOrders = true) (hf : Has P f fn)
    {args : List AV} {H : Heap} {r : AV × Heap} (hb : H.length ≤ X.ann.base) (h : funQ P X fn args H r) : ACalls P f args H r := by
  intro G w C vs hsz hargs hH
  unfold funQ at h
  cases hbd : fn.body with
  | none => have := hf.body; simp [hbd] at this
  | some c =>
    rw [hbd] at h
    simp only at h
    have hcf : (callFunc f vs).run P w = .ok (.enter f vs) w := by
      simp only [callFunc, Sem.run_bind, run_program, Result.andThen_ok, hf.get]
      simp [hf.name, hf.body]
    unfold FCalls
    rw [hcf]
    simp only
    refine calls_of_wp hf.get hbd ?_
    refine codeQ_sound (X := X) (defers := []) hT hM hmo hH hb c (by have := hf.ok; simpa [hbd] using this) _ _ H G w C _ _ (Ev.refl ..) Pd.refl ⟨by simp [frame0, hsz], fun t a ht => ?_⟩ hH rfl h ?_
    · unfold frame0 at ht
      rcases Nat.lt_or_ge t args.length with h' | h'
      · rw [List.getElem?_append_left (by simpa using h')] at ht
        simp only [List.getElem?_map, Option.map_eq_some_iff] at ht
        obtain ⟨b, hb1, hb2⟩ := ht
        simp only [Option.some.injEq] at hb2
        subst hb2
        have := hargs t h'
        rw [List.getD_eq_getElem?_getD, hb1] at this
        simp only [Array.getD_eq_getD_getElem?]
        rw [Array.getElem?_append_left (by omega)]
        simpa [Array.getD_eq_getD_getElem?] using this
      · rw [List.getElem?_append_right (by simpa using h')] at ht
        rw [List.getElem?_replicate] at ht
        split at ht <;> simp at ht
    · intro e F' H' act' w' G' C' h1 h2 h3 h4 h5 h6
      obtain ⟨hne, v, hr, ha⟩ := finP_sound (act := act') hT hH hb h1 h4 h2 h3 h6
      have fin : act'.defers = [] ∧ ∃ v, (results fn act'.tmps).run P w' = .ok v w' ∧ ∃ v', Ending.returned v = .returned v' ∧ After G w C H r v' w' := ⟨h5, v, hr, v, rfl, ha⟩
      cases e with
      | normal => exact fin
      | ret => exact fin
      | exit id => exact absurd rfl (hne id)
theorem funT_sound {P : Program} {X : Env} {f : FuncId} {fn : Func} (hT : TOk P X.T) (hM : Mok P X.M) (hmo : P.follows .mixedOrders = true) (hf : Has P f fn)
    {t : Tr} {args : List AV} {H : Heap} {r : AV × Heap} (hb : H.length ≤ X.ann.base) (h : funT P X fn t args H r) : ACalls P f args H r := by
  refine funQ_sound (X := X) hT hM hmo hf hb ?_
  unfold funT at h
  unfold funQ
  split at h
  · rename_i c _
    exact codeQ_mono c (fun e F H ⟨_, h⟩ => h) (codeT_Q c h)
  · exact h
end Go.Proofs.Ytpkgpldgoajphaa.AM
