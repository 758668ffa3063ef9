/-
  AM: 'append' whose yield is an exclusive slice, whether rows are appended or not.
-/
import Derived.Test.YtpkgpldgoajphaaAm14
set_option linter.unusedVariables false
set_option linter.unusedSimpArgs false
namespace Go.Proofs.Ytpkgpldgoajphaa.AM
open Go

section
variable {P : Program} {T : TT} {G G' : Nat → Prop} {w w' : World} {C C' : Cx} {F : Fr} {act : Act} {H H' : Heap}

/-- A slice of no length and no room is an exclusive one. -/
theorem HR.virt (hH : HR G w C H) (k : Nat) (base : Option Addr) :
    ∃ C', Ev G w C G w C' ∧ HR G w C' (H ++ [{ gen := 0, k := k, els := [] }]) ∧ VR G w C' (.osl H.length 0 k 0 0) (.slice base 0 0) ∧ Pd AnyId C H C' (H ++ [{ gen := 0, k := k, els := [] }]) := by
  obtain ⟨h1, h2⟩ := hH.out H.length (Nat.le_refl _)
  have hne : ∀ j, j ≠ H.length → (H ++ [({ gen := 0, k := k, els := [] } : Ob)])[j]? = H[j]? := fun j hj => by
    rcases Nat.lt_or_ge j H.length with h' | h'
    · rw [List.getElem?_append_left h']
    · rw [List.getElem?_eq_none (by simp; omega), List.getElem?_eq_none (by omega)]
  have hHH := hH.upd (G' := G) (w' := w) (C' := C.lay H.length (some ⟨none, 0, k, 0⟩) 0) (H' := H ++ [{ gen := 0, k := k, els := [] }]) H.length { gen := 0, k := k, els := [] } rfl rfl rfl
    (fun j hj => Cx.lay_ne _ _ _ _ hj) (by rw [Cx.lay_γ]; omega) (fun _ l hl => by rw [h2] at hl; simp at hl) hne (by simp) (by simp) (Nat.le_refl _)
    (by rw [Cx.lay_γ]) (fun _ h => h) (fun b hb => .inl hb) (fun _ _ _ => rfl) (Nat.le_refl _) (fun b hb => hH.gsz b hb) (fun l' b hl' hb => by rw [Cx.lay_ι] at hl'; simp at hl'; subst hl'; simp at hb) (fun _ => rfl)
    (fun l' hl' => by
      rw [Cx.lay_ι] at hl'
      simp only [Option.some.injEq] at hl'
      subst hl'
      exact ⟨fun b hb => by simp at hb, rfl, fun r hr => by simp at hr, fun _ => rfl, by simp, fun i hi => by simp at hi, fun b hb => by simp at hb⟩)
  refine ⟨_, hHH.1, hHH.2, .osl0 _ _ _ _ _ _ (by rw [Cx.lay_γ]; exact Nat.le_refl _) fun _ => ⟨_, Cx.lay_ι .., rfl, rfl⟩, ⟨by simp, fun j hj _ hi => ?_⟩⟩
  have hj' : j ≠ H.length := by omega
  exact ⟨by rw [(Cx.lay_ne _ _ _ _ hj').1]; exact hi, (Cx.lay_ne _ _ _ _ hj').2, hne j hj'⟩

/-- An exclusive slice up to its object's end: the object is cut to it, its number of turns raised. -/
theorem HR.trim (hH : HR G w C H) {id g k e n : Nat} {v : Value} {o : Ob} (hv : VR G w C (.osl id g k e n) v) (ho : H[id]? = some o) (hog : o.gen = g) (hen : e + n = o.els.length) :
    ∃ C', Ev G w C G w C' ∧ HR G w C' (H.set id { gen := g + 1, k := k, els := o.els.drop e }) ∧ VR G w C' (.osl id (g + 1) k 0 n) v ∧ Pd AnyId C H C' (H.set id { gen := g + 1, k := k, els := o.els.drop e }) := by
  have hγ := hH.gen id o ho
  have hlt : id < H.length := by
    rcases Nat.lt_or_ge id H.length with h' | h'
    · exact h'
    · rw [List.getElem?_eq_none h'] at ho; simp at ho
  have hset : ∀ (l l' : Loc), C.ι id = some l → l'.b = l.b → l'.k = l.k → l.k = k → l'.sh = l.sh + e * l.k → l'.room + e = l.room ∨ (l'.room = 0 ∧ l.b = none) →
      Ev G w C G w (C.lay id (some l') (g + 1)) ∧ HR G w (C.lay id (some l') (g + 1)) (H.set id { gen := g + 1, k := k, els := o.els.drop e }) ∧ Pd AnyId C H (C.lay id (some l') (g + 1)) (H.set id { gen := g + 1, k := k, els := o.els.drop e }) := by
    intro l l' hι hb hk hlk hsh hroom
    have hCle : CxLe C (C.lay id (some l') (g + 1)) := fun j => by
      by_cases e' : j = id
      · subst e'
        rw [Cx.lay_γ, Cx.lay_ι]
        exact ⟨by omega, fun e2 => by omega⟩
      · rw [(Cx.lay_ne _ _ _ _ e').1, (Cx.lay_ne _ _ _ _ e').2]; exact ⟨Nat.le_refl _, fun _ _ h => h⟩
    have hHH := hH.upd (G' := G) (w' := w) (C' := C.lay id (some l') (g + 1)) (H' := H.set id { gen := g + 1, k := k, els := o.els.drop e }) id { gen := g + 1, k := k, els := o.els.drop e } rfl rfl rfl
      (fun j hj => Cx.lay_ne _ _ _ _ hj) (by rw [Cx.lay_γ]; omega) (fun e2 => by rw [Cx.lay_γ] at e2; omega) (fun j hj => by rw [List.getElem?_set_ne (Ne.symm hj)]) (by rw [List.getElem?_set_self hlt]) (by simp) (by omega)
      (by rw [Cx.lay_γ]) (fun _ h => h) (fun b hb => .inl hb) (fun _ _ _ => rfl) (Nat.le_refl _) (fun b hb => hH.gsz b hb) (fun l2 b hl2 hb2 => by rw [Cx.lay_ι] at hl2; simp at hl2; subst hl2; exact .inl ⟨l, hι, by rw [← hb]; exact hb2⟩) (fun _ => rfl)
      (fun l2 hl2 => by
        rw [Cx.lay_ι] at hl2
        simp only [Option.some.injEq] at hl2
        subst hl2
        obtain ⟨hk0, hrm, hno, hlen, hrow, hcs⟩ := hH.ob id o l ho hι
        refine ⟨fun b hb2 => ?_, by simp [hk, hlk], fun r hr => by simp at hr, fun hn => ?_, ?_, fun i hi => ?_, fun b hb2 => ?_⟩
        · rw [hb] at hb2
          exact ⟨(hH.own id l b hι hb2).1, (hH.own id l b hι hb2).2, fun j hj l3 hl3 e' => hj (hH.inj _ _ _ _ b hl3 hι e' hb2)⟩
        · have := hno (by rw [← hb]; exact hn)
          rcases hroom with h | h <;> omega
        · simp only [List.length_drop]
          rcases hroom with h | ⟨h, h'⟩
          · omega
          · have := hno h'
            omega
        · simp only [List.length_drop] at hi
          have : (o.els.drop e).getD i [] = o.els.getD (e + i) [] := by simp [List.getD_eq_getElem?_getD, List.getElem?_drop]
          rw [this, hk]
          exact hrow _ (by omega)
        · rw [hb] at hb2
          obtain ⟨cs, t, hc, hcs, hcell⟩ := hcs b hb2
          refine ⟨cs, t, hc, ?_, fun i j hi hj => ?_⟩
          · rcases hroom with h | ⟨_, h⟩
            · have h5 : l.room * l.k = l'.room * l.k + e * l.k := by rw [← h, Nat.add_mul]
              rw [hsh, hk]
              omega
            · rw [h] at hb2; simp at hb2
          · simp only [List.length_drop] at hi
            have h2 : (o.els.drop e).getD i [] = o.els.getD (e + i) [] := by simp [List.getD_eq_getElem?_getD, List.getElem?_drop]
            have h3 : l'.sh + i * l'.k + j = l.sh + (e + i) * l.k + j := by rw [hsh, hk, Nat.add_mul]; omega
            rw [h2, h3]
            rw [hk] at hj
            obtain ⟨h4, h5⟩ := hcell (e + i) j (by omega) hj
            exact ⟨h4, h5.mono (fun _ h => h) (fun _ _ => rfl) hCle⟩)
    refine ⟨hHH.1, hHH.2, ⟨by simp, fun j hj _ hi => ?_⟩⟩
    have hne : j ≠ id := fun e => by subst e; rw [hι] at hi; simp at hi
    exact ⟨by rw [(Cx.lay_ne _ _ _ _ hne).1]; exact hi, (Cx.lay_ne _ _ _ _ hne).2, by rw [List.getElem?_set_ne (Ne.symm hne)]⟩
  cases hv with
  | osl _ _ _ _ _ _ ad cap hnc hle hl =>
    obtain ⟨l, b, hι, hlb, hlk, hen', hcap, had⟩ := hl (by omega)
    obtain ⟨h1, h2, h3⟩ := hset l ⟨l.b, l.sh + e * l.k, l.k, l.room - e⟩ hι rfl rfl hlk rfl (.inl (by simp; omega))
    refine ⟨_, h1, h2, .osl _ _ _ _ _ _ _ _ hnc (by rw [Cx.lay_γ]; exact Nat.le_refl _) fun _ => ⟨_, b, Cx.lay_ι .., hlb, hlk, by simp; omega, by simp; omega, fun hr => ?_⟩, h3⟩
    simp only at hr ⊢
    rw [had (by omega), hlk]
    simp
  | osl0 _ _ _ _ _ base hle hl =>
    obtain ⟨l, hι, hlb, hlk⟩ := hl (by omega)
    obtain ⟨h1, h2, h3⟩ := hset l ⟨l.b, l.sh + e * l.k, l.k, 0⟩ hι rfl rfl hlk rfl (.inr ⟨rfl, hlb⟩)
    exact ⟨_, h1, h2, .osl0 _ _ _ _ _ _ (by rw [Cx.lay_γ]; exact Nat.le_refl _) fun _ => ⟨_, Cx.lay_ι .., hlb, hlk⟩, h3⟩

theorem evAppendO_sound (hT : TOk P T) (hH : HR G w C H) {t t' ty : TypeId} {s x a : AV} {us ux : Value} (hs : VR G w C s us) (hx : VR G w C x ux) (ht' : sourceT T t' = true) (h : evAppendO T H t s x = some (a, H')) :
    ∃ v w' C', (Builtin.append_ #[t, t'] ty #[us, ux]).run P w = .ok v w' ∧ Ev G w C G w' C' ∧ HR G w' C' H' ∧ VR G w' C' a v ∧ Pd AnyId C H C' H' := by
  have h0 := h
  unfold evAppendO at h
  split at h
  case h_2 => simp at h
  rename_i e _ _ _ ht
  split at h
  case h_2 => simp at h
  rename_i te hte
  split at h
  case h_2 => simp at h
  rename_i new hnew
  obtain ⟨i, z, hA, hsz, hby, hzc⟩ := ApT.of hT ht rfl hte ht'
  have hnew' := hnew
  rw [← hsz] at hnew'
  obtain ⟨nv, hsrc⟩ := rowsIn_src (P := P) hH hx hnew'
  by_cases hne : new = []
  · -- nothing is appended
    subst hne
    split at h
    · rename_i g k
      have hcase : ∃ base, us = .slice base 0 0 := by
        cases hs with
        | nils _ _ _ hg => exact ⟨_, rfl⟩
        | sl _ _ _ _ ad cap hg hclip hle =>
          have : cap = 0 := by
            cases g with
            | nil => exact absurd rfl hg
            | clip => simpa using hclip (by simp)
            | cn => simpa using hclip (by simp)
            | op => simp at h
            | any => simp at h
          subst this
          exact ⟨_, rfl⟩
      obtain ⟨base, rfl⟩ := hcase
      have hr : a = .osl H.length 0 te.size 0 0 ∧ H' = H ++ [{ gen := 0, k := te.size, els := [] }] := by
        cases g <;> simp at h <;> exact ⟨h.2.1.symm, h.2.2.symm⟩
      obtain ⟨rfl, rfl⟩ := hr
      obtain ⟨C', h1, h2, h3, h4⟩ := hH.virt te.size base
      exact ⟨_, w, C', run_append_none hA ux hsrc base 0 0 (Nat.le_refl _), h1, h2, h3, h4⟩
    · rename_i id g k e' n
      split at h
      case h_2 => simp at h
      rename_i o ho
      split at h
      case isFalse => simp at h
      rename_i hc
      obtain ⟨hog, hk, _, hrm, hen, _⟩ := hc
      simp only [List.length_nil, Nat.add_zero, List.append_nil, Option.some.injEq, Prod.mk.injEq] at h
      obtain ⟨rfl, rfl⟩ := h
      obtain ⟨C', h1, h2, h3, h4⟩ := hH.trim hs ho hog hen
      cases hs with
      | osl _ _ _ _ _ _ ad cap hnc => exact ⟨_, w, C', run_append_none hA ux hsrc _ _ _ hnc, h1, h2, h3, h4⟩
      | osl0 _ _ _ _ _ base => exact ⟨_, w, C', run_append_none hA ux hsrc _ _ _ (Nat.le_refl _), h1, h2, h3, h4⟩
    · simp at h
  · have key : evAppend T H t s x = some (a, H') := by
      unfold evAppend
      simp only [ht, hte, hnew]
      cases new with
      | nil => exact absurd rfl hne
      | cons r new =>
        split at h
        · rename_i g k
          cases g <;> simp at h ⊢ <;> first | exact h | (obtain ⟨h1, h2⟩ := h; exact ⟨h1, h2⟩)
        · rename_i id g k e' n
          split at h
          case h_2 => simp at h
          rename_i o ho
          split at h
          case isFalse => simp at h
          rename_i hc
          obtain ⟨hog, hk, hk0, hrm, hen, hm, hb⟩ := hc
          simp only [ho]
          rw [if_pos ⟨hog, hk, hk0⟩]
          simp only [hrm]
          rw [if_pos hen, if_pos ⟨hm, hb⟩]
          exact h
        · simp at h
    exact evAppend_sound hT hH hs hx ht' key
end
end Go.Proofs.Ytpkgpldgoajphaa.AM
