/-
  AM: code, functions: what 'evFun' says is what a call comes to.
-/
import Derived.Test.YtpkgpldgoajphaaAm20
import Derived.LoopN
set_option linter.unusedVariables false
set_option linter.unusedSimpArgs false
namespace Go.Proofs.Ytpkgpldgoajphaa.AM
open Go

def codeOk : Code → Bool
  | .region _ ops draw => match draw with
    | false => true
    | true => regOk ops
  | .seq a b => match codeOk a with
    | true => codeOk b
    | false => false
  | .cond _ a b => match codeOk a with
    | true => codeOk b
    | false => false
  | .block _ c => codeOk c
  | .loop c => codeOk c
  | _ => true
def Ex.exit' : Ex → Exit
  | .normal => .normal
  | .exit id => .exit id
  | .ret => .ret

theorem bddss_get {b : Nat} : ∀ (xs : List (List AV)), AV.bddss b xs = true → ∀ i, i < xs.length → AV.bdds b (xs.getD i []) = true
  | [], _, i, hi => by simp at hi
  | x :: xs, h, 0, _ => by simp [AV.bddss] at h; simpa using h.1
  | x :: xs, h, i + 1, hi => by
    simp [AV.bddss] at h
    simpa using bddss_get xs h.2 i (by simpa using hi)

section
variable {P : Program} {X : Env} {G G' : Nat → Prop} {w w' : World} {C C' : Cx} {F F' : Fr} {act : Act} {H H' : Heap}

theorem HR.world (h : HR G w C H) (hw : w'.heap = w.heap) : HR G w' C H := by
  refine ⟨h.gen, h.out, fun id l b hl hlb => by rw [hw]; exact h.own id l b hl hlb, h.inj, fun id o l ho hl => ?_, fun b hb => by rw [hw]; exact h.gsz b hb⟩
  obtain ⟨hk, hrm, hno, hlen, hrow, hcs0⟩ := h.ob id o l ho hl
  refine ⟨hk, hrm, hno, hlen, hrow, fun b hlb => ?_⟩
  obtain ⟨cs, t, hc, hcs, hcell⟩ := hcs0 b hlb
  exact ⟨cs, t, by rw [hw]; exact hc, hcs, fun i j hi hj => ⟨(hcell i j hi hj).1, (hcell i j hi hj).2.mono (fun _ h => h) (fun b _ => by rw [hw]) (CxLe.refl _)⟩⟩
theorem FrR.world {tmps : Array Value} (h : FrR G w C F tmps) (hw : w'.heap = w.heap) : FrR G w' C F tmps := ⟨h.1, fun t a ht => (h.2 t a ht).mono (fun _ h => h) (fun b _ => by rw [hw]) (CxLe.refl _)⟩
theorem FrR.told {tmps : Array Value} (h : FrR G w C F tmps) (t : Nat) (a : AV) (ha : VR G w C a (tmps.getD t undef)) : FrR G w C (F.set t (some a)) tmps := by
  refine ⟨by simpa using h.1, fun q b hq => ?_⟩
  rw [List.getElem?_set] at hq
  by_cases e : t = q
  · subst e
    simp only [if_true] at hq
    split at hq
    · simp at hq; subst hq; exact ha
    · simp at hq
  · simp only [e, if_false] at hq
    exact h.2 q b hq

/-- A slice that nobody turns any more. -/
theorem freeze_sound (hH : HR G w C H) {id g k e n : Nat} {v : Value} {xs : List (List AV)} (hv : VR G w C (.osl id g k e n) v) (hr : rowsIn H k (.osl id g k e n) = some xs) (hb : AV.bddss 0 xs = true) :
    ∃ G' C', Ev G w C G' w C' ∧ HR G' w C' (H.modify id fun o => { gen := o.gen + 1, k := o.k, els := [] }) ∧ VR G' w C' (.sl .any k xs) v ∧ Pd AnyId C H C' (H.modify id fun o => { gen := o.gen + 1, k := o.k, els := [] }) := by
  simp only [rowsIn] at hr
  split at hr
  case h_2 => simp at hr
  rename_i o ho
  split at hr
  case isFalse => simp at hr
  rename_i hc
  obtain ⟨hg, _, hen⟩ := hc
  simp only [Option.some.injEq] at hr
  have hγ := hH.gen id o ho
  have hself := hv
  cases hv with
  | osl0 _ _ _ _ _ base hle hl =>
    obtain ⟨l, hι, hlb, hlk⟩ := hl (by omega)
    have hidlt : id < H.length := hH.lt hι
    have hHH := hH.upd (G' := G) (w' := w) (C' := C.lay id none (g + 1)) (H' := H.modify id fun o => { gen := o.gen + 1, k := o.k, els := [] }) id { gen := o.gen + 1, k := o.k, els := [] } rfl rfl rfl
      (fun j hj => Cx.lay_ne _ _ _ _ hj) (by rw [Cx.lay_γ]; omega) (fun e2 => by rw [Cx.lay_γ] at e2; omega) (fun j hj => by simp [List.getElem?_modify, Ne.symm hj]) (by simp [List.getElem?_modify, ho]) (by simp) (by omega)
      (by rw [Cx.lay_γ]; simp; omega) (fun _ h => h) (fun b hb => .inl hb) (fun _ _ _ => rfl) (Nat.le_refl _) (fun b hb => hH.gsz b hb) (fun l' b hl' _ => by rw [Cx.lay_ι] at hl'; simp at hl') (fun _ => rfl) (fun l' hl' => by rw [Cx.lay_ι] at hl'; simp at hl')
    refine ⟨_, _, hHH.1, hHH.2, ?_, ⟨by simp, fun j hj _ hi => ?_⟩⟩
    · have : xs = [] := by rw [← hr]; simp
      subst this
      cases base with
      | none => exact .nils _ _ _ (by simp)
      | some ad => exact .sl _ .any [] k ad 0 (by simp) (by simp) (by simp) (by simp) (fun _ _ => undef) (by simp) (by simp) (by simp) (by simp)
    · have hne : j ≠ id := fun e => by subst e; rw [hι] at hi; simp at hi
      exact ⟨by rw [(Cx.lay_ne _ _ _ _ hne).1]; exact hi, (Cx.lay_ne _ _ _ _ hne).2, by simp [List.getElem?_modify, Ne.symm hne]⟩
  | osl _ _ _ _ _ _ ad cap hnc hle hl =>
    obtain ⟨l, bb, hι, hlb, hlk, hlen, hcap, had⟩ := hl (by omega)
    have hob := hH.ob id o l ho hι
    have hidlt : id < H.length := hH.lt hι
    have hHH := hH.upd (G' := fun b => G b ∨ b = bb) (w' := w) (C' := C.lay id none (g + 1)) (H' := H.modify id fun o => { gen := o.gen + 1, k := o.k, els := [] }) id { gen := o.gen + 1, k := o.k, els := [] } rfl rfl rfl
      (fun j hj => Cx.lay_ne _ _ _ _ hj) (by rw [Cx.lay_γ]; omega) (fun e2 => by rw [Cx.lay_γ] at e2; omega) (fun j hj => by simp [List.getElem?_modify, Ne.symm hj]) (by simp [List.getElem?_modify, ho]) (by simp) (by omega)
      (by rw [Cx.lay_γ]; simp; omega) (fun _ h => .inl h) (fun b hb => hb.imp (fun h => h) fun h => .inl ⟨l, hι, by rw [h]; exact hlb⟩) (fun _ _ _ => rfl) (Nat.le_refl _) (fun b hb => hb.elim (hH.gsz b) fun h => h ▸ (hH.own id l bb hι hlb).1) (fun l' b hl' _ => by rw [Cx.lay_ι] at hl'; simp at hl') (fun _ => rfl) (fun l' hl' => by rw [Cx.lay_ι] at hl'; simp at hl')
    refine ⟨_, _, hHH.1, hHH.2, ?_, ⟨by simp, fun j hj _ hi => ?_⟩⟩
    · have hxl : xs.length = n := by rw [← hr]; simp; omega
      have hrow : ∀ i, i < n → xs.getD i [] = o.els.getD (e + i) [] := fun i hi => by
        rw [← hr]; simp [List.getD_eq_getElem?_getD, List.getElem?_take, List.getElem?_drop, hi]
      rw [← hxl]
      refine VR.sl _ .any xs k ad cap (by simp) (by simp) (by omega) (fun hx => ?_) (fun i j => (w.cell? ⟨bb, l.sh + (e + i) * l.k + j, none⟩).getD undef) (fun i hi => ?_) (fun i j hi hj => ?_) (fun i j hi hj => ?_) fun i j hi hj => ?_
      · have hn : 0 < n := by rw [← hxl]; exact List.length_pos_iff.2 hx
        rw [had (by have := hob.len; omega)]
        exact ⟨rfl, .inr rfl⟩
      · rw [hrow i (by omega), ← hlk]; exact hob.row _ (by omega)
      all_goals
        have hn : 0 < n := by omega
        obtain ⟨v, h1, h2, h3⟩ := hob.there hlb (i := e + i) (j := j) (by omega) (by omega)
      · rw [had (by have := hob.len; omega), h1, Option.getD_some, ← h1]
        congr 2
        simp only
        rw [hlk, Nat.add_mul]
        omega
      · rw [h1]; exact h2
      · rw [h1, Option.getD_some, hrow i (by omega)]
        have hbd := bdds_get _ (bddss_get _ hb i hi) j (by rw [hrow i (by omega), hob.row _ (by omega)]; omega)
        rw [hrow i (by omega)] at hbd
        exact (h3.cut 0 hbd).mono (fun _ h => .inl h) (fun _ _ => rfl) (fun id => by
          simp only [Cx.cut, Nat.not_lt_zero, if_false, Cx.none]
          exact ⟨Nat.le_refl _, fun _ l hl => by simp at hl⟩)
    · have hne : j ≠ id := fun e => by subst e; rw [hι] at hi; simp at hi
      exact ⟨by rw [(Cx.lay_ne _ _ _ _ hne).1]; exact hi, (Cx.lay_ne _ _ _ _ hne).2, by simp [List.getElem?_modify, Ne.symm hne]⟩

end
end Go.Proofs.Ytpkgpldgoajphaa.AM
