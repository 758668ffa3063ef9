/-
  AM: calls; each operation does in the model what 'ev1' says.
-/
import Derived.Test.YtpkgpldgoajphaaAm14o
set_option linter.unusedVariables false
set_option linter.unusedSimpArgs false
namespace Go.Proofs.Ytpkgpldgoajphaa.AM
open Go

def After (G : Nat → Prop) (w : World) (C : Cx) (H : Heap) (r : AV × Heap) (v : Value) (w' : World) : Prop :=
  ∃ G' C', Ev G w C G' w' C' ∧ HR G' w' C' r.2 ∧ VR G' w' C' r.1 v ∧ Pd AnyId C H C' r.2
def FCalls (P : Program) (f : FuncId) (vs : Array Value) (w : World) (R : Value → World → Prop) : Prop :=
  match (callFunc f vs).run P w with
  | .ok (.enter g args) w' => Calls P g args w' fun e w'' => ∃ v, e = .returned v ∧ R v w''
  | .ok (.value v) w' => R v w'
  | _ => False
/-- A call of f with these arguments and objects comes to r. -/
def ACalls (P : Program) (f : FuncId) (args : List AV) (H : Heap) (r : AV × Heap) : Prop :=
  ∀ (G : Nat → Prop) (w : World) (C : Cx) (vs : Array Value), vs.size = args.length → (∀ i, i < args.length → VR G w C (args.getD i .skip) (vs.getD i undef)) → HR G w C H → FCalls P f vs w (After G w C H r)

def Mok (P : Program) (M : TypeId → String → Option FuncId) : Prop := ∀ t m f, M t m = some f → ∀ v w, (method (P.types.size + Made.depth) t v m).run P w = .ok (f, v) w
/-- What an operation comes to: a call by what is known of the function; all else by 'ev1'. -/
def Sat (P : Program) (X : Env) (F : Fr) (H : Heap) (ar : Nat) (o : Oper) (a : AV) (H' : Heap) : Prop :=
  match o.op with
  | .call { callee := .value f, args, .. } => match opv F f, opvs F args.toList with
    | some (.func f xs), some as => ACalls P f (as ++ xs) H (a, H')
    | _, _ => False
  | .call { callee := .invoke r m, args, .. } => match opv F r, opvs F args.toList with
    | some (.iface t v), some as => match X.M t m with
      | some f => ACalls P f (v :: as) H (a, H')
      | none => False
    | _, _ => False
  | _ => ev1 X F H ar o = some (a, H')

section
variable {P : Program} {X : Env} {G G' : Nat → Prop} {w w' : World} {C C' : Cx} {F : Fr} {act : Act} {H H' : Heap}

theorem FCalls.upon {o : Oper} {f : FuncId} {vs : Array Value} {R : Value → World → Prop} (h : FCalls P f vs w R) {s : Sem Next} (hs : s.run P w = (callFunc f vs).run P w) {K : Act → World → Prop} {Q : Exit → Act → World → Prop}
    (hK : ∀ v w', R v w' → K (act.put o.dst v) w') : o.upon P act K Q (s.run P w) := by
  unfold FCalls at h
  rw [hs]
  split at h
  · rename_i g args w2 hr
    rw [hr, Oper.upon_enter]
    exact Calls.mono h fun e w'' ⟨v, he, hR⟩ => by subst he; exact hK _ _ hR
  · rename_i v w2 hr
    rw [hr, Oper.upon_value]
    exact hK _ _ h
  · exact h.elim

theorem opvs_arr (hF : FrR G w C F act.tmps) {xs : Array Operand} {l : List AV} (h : opvs F xs.toList = some l) : (xs.map act.eval).size = l.length ∧ ∀ i, i < l.length → VR G w C (l.getD i .skip) ((xs.map act.eval).getD i undef) := by
  obtain ⟨h1, h2⟩ := opvs_sound (act := act) hF h
  refine ⟨by simpa using h1, fun i hi => ?_⟩
  have := h2 i hi
  simpa [Array.getD_eq_getD_getElem?, List.getD_eq_getElem?_getD] using this
theorem args_cat {as xs : List AV} {us vs : Array Value} (h1 : us.size = as.length) (h2 : vs.size = xs.length) (h3 : ∀ i, i < as.length → VR G w C (as.getD i .skip) (us.getD i undef)) (h4 : ∀ i, i < xs.length → VR G w C (xs.getD i .skip) (vs.getD i undef)) :
    (us ++ vs).size = (as ++ xs).length ∧ ∀ i, i < (as ++ xs).length → VR G w C ((as ++ xs).getD i .skip) ((us ++ vs).getD i undef) := by
  refine ⟨by simp [h1, h2], fun i hi => ?_⟩
  simp only [List.length_append] at hi
  rw [List.getD_eq_getElem?_getD, Array.getD_eq_getD_getElem?]
  by_cases h : i < as.length
  · rw [List.getElem?_append_left h, Array.getElem?_append_left (by omega)]
    simpa [Array.getD_eq_getD_getElem?, List.getD_eq_getElem?_getD] using h3 i h
  · rw [List.getElem?_append_right (by omega), Array.getElem?_append_right (by omega), h1]
    simpa [Array.getD_eq_getD_getElem?, List.getD_eq_getElem?_getD] using h4 (i - as.length) (by omega)

theorem Sat.of {ar : Nat} {o : Oper} {a : AV} (h : ev1 X F H ar o = some (a, H')) : Sat P X F H ar o a H' := by
  obtain ⟨dst, op, type, pos, after, guard⟩ := o
  cases op with
  | call c =>
    obtain ⟨callee, args, argTypes⟩ := c
    cases callee with
    | value f => simp [ev1, evP] at h
    | invoke r m => simp [ev1, evP] at h
    | builtin b => exact h
  | _ => exact h
theorem Sat.sound (hT : TOk P X.T) (hM : Mok P X.M) (hF : FrR G w C F act.tmps) (hH : HR G w C H) {ar : Nat} {o : Oper} {a : AV} (h : Sat P X F H ar o a H')
    (har : ∀ t, o.op = .alloc t → ∃ ti, X.T t = some ti ∧ H[ar]? = some ⟨0, ti.size, [ti.zero], none⟩ ∧ C.ι ar = none)
    {K : Act → World → Prop} {Q : Exit → Act → World → Prop}
    (hK : ∀ v w' G' C', Ev G w C G' w' C' → HR G' w' C' H' → VR G' w' C' a v → Pd (fun id => isAlloc o = true → id ≠ ar) C H C' H' → K (act.put o.dst v) w') : o.wp P act w K Q := by
  have viaP : ∀ {a : AV}, evP X.T F o.op = some a → (∀ v w' G' C', Ev G w C G' w' C' → HR G' w' C' H → VR G' w' C' a v → Pd (fun id => isAlloc o = true → id ≠ ar) C H C' H → K (act.put o.dst v) w') → o.wp P act w K Q := by
    intro a ha hk
    obtain ⟨v, w', G', hr, he, hh, hv⟩ := evP_sound (act := act) hT hF hH ha
    unfold Oper.wp
    rw [hr, Oper.upon_value]
    exact hk v w' G' C he hh hv Pd.refl
  have hnew : ∀ (o' : Ob) (j : Nat), j ≠ H.length → (H ++ [o'])[j]? = H[j]? := fun o j hj => by
    rcases Nat.lt_or_ge j H.length with h' | h'
    · rw [List.getElem?_append_left h']
    · rw [List.getElem?_eq_none (by simp; omega), List.getElem?_eq_none (by omega)]
  obtain ⟨dst, op, type, pos, after, guard⟩ := o
  have ofP : (evP X.T F op).map (fun a => (a, H)) = some (a, H') → Oper.wp P ⟨dst, op, type, pos, after, guard⟩ act w K Q := by
    intro h
    cases ha : evP X.T F op with
    | none => simp [ha] at h
    | some b =>
      simp only [ha, Option.map_some, Option.some.injEq, Prod.mk.injEq] at h
      obtain ⟨rfl, rfl⟩ := h
      exact viaP ha hK
  cases op with
  | alloc t =>
    simp only [Sat, ev1, Option.some.injEq, Prod.mk.injEq] at h
    obtain ⟨rfl, rfl⟩ := h
    obtain ⟨ti, ht, hob, hι⟩ := har t rfl
    obtain ⟨i, hi, hsz, hby, z, hz, hzs, hzl, hza⟩ := (hT _ _ ht).info
    have hγ : C.γ ar = 0 := by have := hH.gen _ _ hob; simpa using this.symm
    have hlt : ar < H.length := by
      rcases Nat.lt_or_ge ar H.length with h' | h'
      · exact h'
      · rw [List.getElem?_eq_none h'] at hob; simp at hob
    have hzr := ofScalars_sound (G := G) (w := w) (C := C) hzs
    have hm := hH.made (H' := H) (w' := w.alloc (.cells z.cells t (0, 0))) ar ti.size [ti.zero] z.cells t rfl rfl rfl rfl 1 0 (by simp) (by have := hzr.1; simp at this; omega)
      (fun i hi => by simp at hi; subst hi; simpa using hzl) (by omega) (fun _ => hι) (fun _ _ => rfl) hob (Nat.le_refl _) (by omega) (fun i j hi hj => by
        simp at hi
        subst hi
        have := hzr.2 j (by omega)
        simpa [Array.getD_eq_getD_getElem?, List.getD_eq_getElem?_getD] using this)
    have hr : (execOp act.eval (⟨dst, .alloc t, type, pos, after, guard⟩ : Oper)).run P w = .ok (.value (.pointer (some ⟨w.heap.size, 0, none⟩))) (w.alloc (.cells z.cells t (0, 0))) := by
      simp [execOp, Instr.alloc, zeroValue, typeInfo, hi, hz, newVar, newRow]
    unfold Oper.wp
    rw [hr, Oper.upon_value]
    refine hK _ _ _ _ hm.1 hm.2 (.obj _ _ _ _ _ _ (by rw [Cx.lay_γ]; exact Nat.le_refl _) fun _ => ⟨_, _, Cx.lay_ι .., rfl, by simp⟩) ⟨Nat.le_refl _, fun id _ hs hi => ?_⟩
    have hne : id ≠ ar := hs rfl
    exact ⟨by rw [(Cx.lay_ne _ _ _ _ hne).1]; exact hi, (Cx.lay_ne _ _ _ _ hne).2, rfl⟩
  | box t x =>
    simp only [Sat, ev1] at h
    split at h
    case h_2 => simp at h
    rename_i b ti hb ht
    split at h
    case h_2 => simp at h
    rename_i cs d hfit
    have hv := opv_sound (act := act) hF hb
    obtain ⟨hus, hvs, hcells⟩ := hv.fit hfit
    have hr : (execOp act.eval (⟨some d, .box t x, type, pos, after, guard⟩ : Oper)).run P w = .ok (.value (.pointer (some ⟨w.heap.size, 0, none⟩))) (w.alloc (.cells (act.eval x).cells t (0, 0))) := by
      simp [execOp, Instr.box, newVar, newRow]
    unfold Oper.wp
    rw [hr, Oper.upon_value]
    split at h
    · split at h
      case isFalse => simp at h
      rename_i hbd
      simp only [Option.some.injEq, Prod.mk.injEq] at h
      obtain ⟨rfl, rfl⟩ := h
      refine hK _ _ _ C (Ev.alloc hH) hH.alloc ?_ Pd.refl
      have := VR.ref C (G := fun b => G b ∨ b = w.heap.size) (w := w.alloc (.cells (act.eval x).cells t (0, 0))) cs 0 w.heap.size 0 (.inr rfl) (fun j => (act.eval x).cells.getD j undef) (fun j hj => ?_) (fun j hj => (hcells j (by omega)).1) fun j hj => ?_
      · simpa using this
      · have hj' : j < (act.eval x).cells.size := by omega
        unfold World.cell?
        rw [heap_alloc_new]
        simp [hj']
      · have h1 := ((hcells j (by omega)).2.cut 0 (bdds_get _ hbd j hj)).mono (fun b hb => (.inl hb : G b ∨ b = w.heap.size)) (fun b hb => heap_alloc_old w _ (hH.gsz b hb)) (w' := w.alloc (.cells (act.eval x).cells t (0, 0))) (C' := Cx.none) (fun id => by
          simp only [Cx.cut, Nat.not_lt_zero, if_false, Cx.none]
          exact ⟨Nat.le_refl _, fun _ l hl => by simp at hl⟩)
        exact h1
    · simp only [Option.some.injEq, Prod.mk.injEq] at h
      obtain ⟨rfl, rfl⟩ := h
      have hnone := hH.out H.length (Nat.le_refl _)
      obtain ⟨h1, h2, h3⟩ := new_obj_sound (H' := H ++ [⟨0, ti.size, [cs], none⟩]) hH hv hfit t H.length (hnew _) (by simp) (by simp) (Nat.le_refl _) hnone.1 hnone.2
      refine hK _ _ _ _ h1 h2 h3 ⟨by simp, fun id hl _ hi => ?_⟩
      have hne : id ≠ H.length := by omega
      exact ⟨by rw [(Cx.lay_ne _ _ _ _ hne).1]; exact hi, (Cx.lay_ne _ _ _ _ hne).2, hnew _ _ hne⟩
  | load t x =>
    simp only [Sat, ev1] at h
    split at h
    · rename_i cs c hx
      cases hp : part X.T t cs c with
      | none => simp [hp] at h
      | some b =>
        simp only [hp, Option.map_some, Option.some.injEq, Prod.mk.injEq] at h
        obtain ⟨rfl, rfl⟩ := h
        exact viaP (by simp only [evP, hx]; exact hp) hK
    · rename_i id g e c hx
      split at h
      case h_2 => simp at h
      rename_i cs hrow
      cases hp : part X.T t cs c with
      | none => simp [hp] at h
      | some b =>
        simp only [hp, Option.map_some, Option.some.injEq, Prod.mk.injEq] at h
        obtain ⟨rfl, rfl⟩ := h
        obtain ⟨v, hr, hv⟩ := load_obj_sound hT hH (opv_sound (act := act) hF hx) hrow hp
        unfold Oper.wp
        have : (execOp act.eval (⟨dst, .load t x, type, pos, after, guard⟩ : Oper)).run P w = .ok (.value v) w := by simp [execOp, hr]
        rw [this, Oper.upon_value]
        exact hK _ _ _ _ (Ev.refl ..) hH hv Pd.refl
    · simp at h
  | store t x y =>
    simp only [Sat, ev1] at h
    split at h
    case h_2 => simp at h
    rename_i id g e c b ti hx hy ht
    split at h
    case h_2 => simp at h
    rename_i cs us hrow hfit
    split at h
    case isFalse => simp at h
    rename_i hle
    simp only [Option.some.injEq, Prod.mk.injEq] at h
    obtain ⟨rfl, rfl⟩ := h
    have hx' := opv_sound (act := act) hF hx
    obtain ⟨w', hr, he, hh⟩ := store_obj_sound hT hH ht hx' (opv_sound (act := act) hF hy) hrow hfit hle
    unfold Oper.wp
    have : (execOp act.eval (⟨dst, .store t x y, type, pos, after, guard⟩ : Oper)).run P w = .ok .skip w' := by simp [execOp, hr]
    rw [this, Oper.upon_skip]
    refine hK _ _ _ _ he hh (.skip _) ⟨by simp [setAt], fun j hl _ hi => ⟨hi, rfl, ?_⟩⟩
    obtain ⟨_, l, _, _, _, _, _, hι, _⟩ := rowAt_some hH hx' hrow
    have hne : id ≠ j := fun e' => by subst e'; rw [hι] at hi; simp at hi
    simp [setAt, List.getElem?_modify, hne]
  | call c =>
    obtain ⟨callee, args, argTypes⟩ := c
    cases callee with
    | value f =>
      simp only [Sat] at h
      split at h
      case h_2 => exact h.elim
      rename_i fid xs as hf has
      have hfv := opv_sound (act := act) hF hf
      obtain ⟨h1, h2⟩ := opvs_arr (act := act) hF has
      generalize hu : act.eval f = u at hfv
      cases hfv with
      | func _ _ _ vs hs hv =>
        obtain ⟨h3, h4⟩ := args_cat h1 hs h2 hv
        unfold Oper.wp
        refine FCalls.upon (f := fid) (h G w C _ h3 h4 hH) ?_ fun v w' ⟨G', C', he, hh, hv', hp⟩ => hK v w' G' C' he hh hv' (hp.weaken fun _ _ => trivial)
        simp [execOp, resolve, hu, Deferred.ofValue, invoke]
    | invoke r m =>
      simp only [Sat] at h
      split at h
      case h_2 => exact h.elim
      rename_i t b as hr has
      split at h
      case h_2 => exact h.elim
      rename_i fid hm
      have hrv := opv_sound (act := act) hF hr
      obtain ⟨h1, h2⟩ := opvs_arr (act := act) hF has
      generalize hu : act.eval r = u at hrv
      cases hrv with
      | iface _ _ _ v hv =>
        have h3 := args_cat (as := [b]) (us := #[v]) rfl h1 (fun i hi => by simp at hi; subst hi; simpa using hv) h2
        unfold Oper.wp
        refine FCalls.upon (f := fid) (h G w C _ h3.1 h3.2 hH) ?_ fun v w' ⟨G', C', he, hh, hv', hp⟩ => hK v w' G' C' he hh hv' (hp.weaken fun _ _ => trivial)
        have hm' := hM t m fid hm v w
        have hx : ((#[Value.iface t v] ++ args.map act.eval).extract 1 (args.size + 1)) = args.map act.eval := by
          apply Array.ext'
          simp
          try exact List.take_of_length_le (by simp)
        have hx' : ((#[Value.iface t v] ++ args.map act.eval).extract 1 (1 + args.size)) = args.map act.eval := by rw [Nat.add_comm]; exact hx
        have h0 : (#[Value.iface t v] ++ args.map act.eval)[0]? = some (.iface t v) := by
          rw [Array.getElem?_append_left (by simp)]; rfl
        have h1 : (#[Value.iface t v] ++ args.map act.eval).size = args.size + 1 := by simp [Nat.add_comm]
        simp only [execOp, resolve, hu, invoke, callMethod, Sem.run_bind, Sem.run_pure, Result.andThen_ok, h0, h1, hx, run_program, hm']
    | builtin b =>
      cases b with
      | append =>
        simp only [Sat, ev1] at h
        split at h
        case h_2 => simp at h
        rename_i s x t t' hargs htypes
        split at h
        case h_2 => simp at h
        rename_i sa xa hs hx
        split at h
        case h_2 => simp at h
        rename_i hst
        have hargs' : args = #[s, x] := Array.ext' hargs
        have htypes' : argTypes = #[t, t'] := Array.ext' htypes
        subst hargs' htypes'
        have hboth : ∃ v w' C', (Builtin.append_ #[t, t'] type #[act.eval s, act.eval x]).run P w = .ok v w' ∧ Ev G w C G w' C' ∧ HR G w' C' H' ∧ VR G w' C' a v ∧ Pd AnyId C H C' H' := by
          split at h
          · exact evAppendO_sound (ty := type) hT hH (opv_sound (act := act) hF hs) (opv_sound (act := act) hF hx) hst h
          · exact evAppend_sound (ty := type) hT hH (opv_sound (act := act) hF hs) (opv_sound (act := act) hF hx) hst h
        obtain ⟨v, w', C', hr, he, hh, hv, hp⟩ := hboth
        unfold Oper.wp
        have : (execOp act.eval (⟨dst, .call { callee := .builtin .append, args := #[s, x], argTypes := #[t, t'] }, type, pos, after, guard⟩ : Oper)).run P w = .ok (.value v) w' := by
          simp [execOp, resolve, invoke, builtin, hr]
        rw [this, Oper.upon_value]
        exact hK _ _ _ _ he hh hv (hp.weaken fun _ _ => trivial)
      | _ => exact ofP h
  | _ => exact ofP h
end
end Go.Proofs.Ytpkgpldgoajphaa.AM
