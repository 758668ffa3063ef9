/-
  AM: loads from, stores to, and the making of, exclusive objects.
-/
import Derived.Test.YtpkgpldgoajphaaAm11
set_option linter.unusedVariables false
set_option linter.unusedSimpArgs false
namespace Go.Proofs.Ytpkgpldgoajphaa.AM
open Go

theorem seg_get {α : Type} (l vs : List α) (o i : Nat) (d : α) (h : o + vs.length ≤ l.length) :
    (l.take o ++ vs ++ l.drop (o + vs.length)).getD i d = if o ≤ i ∧ i < o + vs.length then vs.getD (i - o) d else l.getD i d := by
  simp only [List.getD_eq_getElem?_getD]
  by_cases h1 : i < o
  · rw [List.append_assoc, List.getElem?_append_left (by simp; omega), List.getElem?_take, if_pos h1, if_neg (by omega)]
  · by_cases h2 : i < o + vs.length
    · rw [List.append_assoc, List.getElem?_append_right (by simp; omega), List.getElem?_append_left (by simp; omega), if_pos (by omega)]
      simp [show min o l.length = o by omega]
    · rw [List.append_assoc, List.getElem?_append_right (by simp; omega), List.getElem?_append_right (by simp; omega), if_neg (by omega), List.getElem?_drop]
      simp only [List.length_take, show min o l.length = o by omega]
      congr 2
      omega
theorem row_lt {i e j k : Nat} (h : i < e) (hj : j < k) : i * k + j < e * k := by
  have : (i + 1) * k ≤ e * k := Nat.mul_le_mul_right k h
  rw [Nat.add_mul] at this
  omega

theorem frozen_setRow (w : World) (g : Nat) (cur cs : Array Value) (t : TypeId) (fr : Nat × Nat) (hg : w.heap[g]? = some (.cells cur t fr)) (a : Addr) : (w.setRow g cs).frozen? a = w.frozen? a := by
  unfold World.frozen?
  by_cases h : a.block = g
  · rw [h, setRow_heap w g cur cs t fr hg, hg]
  · rw [setRow_other w g a.block cs h]
section
variable {P : Program} {T : TT} {G G' : Nat → Prop} {w w' : World} {C C' : Cx} {F : Fr} {act : Act} {H H' : Heap}

theorem rowAt_some (hH : HR G w C H) {id g e c : Nat} {u : Value} {cs : List AV} (hu : VR G w C (.obj id g e c) u) (h : rowAt H id g e = some cs) :
    ∃ o l b, H[id]? = some o ∧ o.gen = g ∧ e < o.els.length ∧ o.els.getD e [] = cs ∧ C.ι id = some l ∧ l.b = some b ∧ C.γ id = g ∧ u = .pointer (some ⟨b, l.sh + e * l.k + c, none⟩) ∧ ObR G w C o l := by
  unfold rowAt at h
  split at h
  · rename_i o ho
    split at h
    · rename_i hg
      have hlt : e < o.els.length := by
        rcases Nat.lt_or_ge e o.els.length with h' | h'
        · exact h'
        · rw [List.getElem?_eq_none h'] at h; simp at h
      cases hu with
      | obj _ _ _ _ _ ad hle hl =>
        have hγ := hH.gen id o ho
        obtain ⟨l, b, hι, hlb, rfl⟩ := hl (by omega)
        exact ⟨o, l, b, ho, hg, hlt, by simp [List.getD_eq_getElem?_getD, h], hι, hlb, by omega, rfl, hH.ob id o l ho hι⟩
    · simp at h
  · simp at h

theorem load_at_sound (hT : TOk P T) {t : TypeId} {cs : List AV} {c : Nat} {a : AV} {b o : Nat} (cv : Nat → Value) (hc : ∀ j, j < cs.length → w.cell? ⟨b, o + j, none⟩ = some (cv j)) (h1 : ∀ j, j < cs.length → (cv j).oneCell' = true)
    (hv : ∀ j, j < cs.length → VR G w C (cs.getD j .skip) (cv j)) (h : AM.part T t cs c = some a) : ∃ v, (Instr.loadAt t (.pointer (some ⟨b, o + c, none⟩))).run P w = .ok v w ∧ VR G w C a v := by
  unfold AM.part at h
  split at h
  · simp at h
  · rename_i ti ht
    have hti := hT t ti ht
    simp only [Instr.loadAt, Instr.sureAddr, loadVar, Sem.run_bind, Sem.run_pure, Result.andThen_ok, hti.isAgg]
    split at h
    · rename_i hagg
      split at h
      · rename_i hle
        simp only [Option.some.injEq] at h
        subst h
        simp only [hagg, if_true, Sem.run_bind, hti.sizeOf, Result.andThen_ok]
        rw [run_loadCells w _ ti.size (fun j => cv (c + j)) (fun j hj => by rw [add_addr, Nat.add_assoc]; exact hc _ (by omega))]
        refine ⟨_, rfl, .agg _ _ _ (by simp; omega) (fun i hi => ?_) fun i hi => ?_⟩
        · have hi' : i < ti.size := by simp at hi; omega
          simpa [Array.getD_eq_getD_getElem?, hi'] using h1 (c + i) (by omega)
        · have hi' : i < ti.size := by simp at hi; omega
          have := hv (c + i) (by omega)
          simpa [Array.getD_eq_getD_getElem?, List.getD_eq_getElem?_getD, List.getElem?_take, List.getElem?_drop, hi'] using this
      · simp at h
    · rename_i hagg
      have hc' : c < cs.length := by
        rcases Nat.lt_or_ge c cs.length with h' | h'
        · exact h'
        · rw [List.getElem?_eq_none h'] at h; simp at h
      simp only [hagg, Bool.false_eq_true, if_false, run_load, hc c hc']
      exact ⟨_, rfl, by simpa [List.getD_eq_getElem?_getD, h] using hv c hc'⟩

/-- The cells of an object's row lie there. -/
theorem ObR.there {o : Ob} {l : Loc} (h : ObR G w C o l) {b : Nat} (hlb : l.b = some b) {i j : Nat} (hi : i < o.els.length) (hj : j < l.k) :
    ∃ v, w.cell? ⟨b, l.sh + i * l.k + j, none⟩ = some v ∧ v.oneCell' = true ∧ VR G w C ((o.els.getD i []).getD j .skip) v := by
  obtain ⟨hk, hrm, hno, hlen, hrow, hcs⟩ := h
  obtain ⟨cs, t, hc, hcs, hcell⟩ := hcs b hlb
  obtain ⟨h1, h2⟩ := hcell i j hi hj
  have h3 : i * l.k + j < l.room * l.k := row_lt (by omega) hj
  refine ⟨cs.getD (l.sh + i * l.k + j) undef, ?_, h1, h2⟩
  simp [World.cell?, hc, Array.getElem?_eq_getElem (show l.sh + i * l.k + j < cs.size by omega)]

theorem load_obj_sound (hT : TOk P T) (hH : HR G w C H) {t : TypeId} {id g e c : Nat} {cs : List AV} {a : AV} {u : Value} (hu : VR G w C (.obj id g e c) u) (hr : rowAt H id g e = some cs) (h : AM.part T t cs c = some a) :
    ∃ v, (Instr.loadAt t u).run P w = .ok v w ∧ VR G w C a v := by
  obtain ⟨o, l, b, ho, hg, hlt, hcs, hι, hlb, _, rfl, hob⟩ := rowAt_some hH hu hr
  have hlen : cs.length = l.k := by rw [← hcs]; exact hob.row e hlt
  have key : ∀ j, j < cs.length → ∃ v, w.cell? ⟨b, l.sh + e * l.k + j, none⟩ = some v ∧ v.oneCell' = true ∧ VR G w C (cs.getD j .skip) v := fun j hj => by
    have := hob.there hlb hlt (j := j) (by omega)
    rwa [hcs] at this
  refine load_at_sound hT (fun j => (w.cell? ⟨b, l.sh + e * l.k + j, none⟩).getD undef) (fun j hj => ?_) (fun j hj => ?_) (fun j hj => ?_) h
  all_goals
    obtain ⟨v, h1, h2, h3⟩ := key j hj
    simp only [h1, Option.getD_some]
  · exact h2
  · exact h3

/-- Cells are laid over a part of an object's rows. -/
theorem store_obj_sound (hT : TOk P T) (hH : HR G w C H) {t : TypeId} {ti : TI} (ht : T t = some ti) {id g e c : Nat} {cs us : List AV} {b : AV} {u v : Value} (hu : VR G w C (.obj id g e c) u) (hv : VR G w C b v)
    (hr : rowAt H id g e = some cs) (hfit : b.fit ti.size = some us) (hle : c + ti.size ≤ cs.length) :
    ∃ w', (Instr.storeAt t u v).run P w = .ok () w' ∧ Ev G w C G w' C ∧ HR G w' C (setAt H id e (fillAt cs c us)) := by
  obtain ⟨o, l, bb, ho, hg, hlt, hcs, hι, hlb, hγ, rfl, hob⟩ := rowAt_some hH hu hr
  have hlen : cs.length = l.k := by rw [← hcs]; exact hob.row e hlt
  obtain ⟨hus, hvs, hcells⟩ := hv.fit hfit
  have hti := hT t ti ht
  obtain ⟨hk, hrmm, hno, hrm, hrow, hcs0⟩ := hob
  obtain ⟨cur, et, hc, hsz, hcell⟩ := hcs0 bb hlb
  have hin : (e + 1) * l.k ≤ l.room * l.k := Nat.mul_le_mul_right _ (by omega)
  rw [Nat.add_mul] at hin
  have hone : ∀ x ∈ v.cells.toList, x.oneCell' = true := fun x hx => by
    obtain ⟨i, hi, rfl⟩ := List.getElem_of_mem hx
    have := (hcells i (by simpa [hvs] using hi)).1
    simpa [Array.getD_eq_getD_getElem?, Array.getElem?_eq_getElem (show i < v.cells.size by simpa using hi)] using this
  have hst := run_storeCells_at P bb (l.sh + e * l.k + c) et v.cells.toList 0 cur w hc (by simp [hvs]; omega) hone
  simp only [Nat.add_zero] at hst
  refine ⟨w.setRow bb (cur.toList.take (l.sh + e * l.k + c) ++ v.cells.toList ++ cur.toList.drop (l.sh + e * l.k + c + v.cells.toList.length)).toArray, ?_, ?_⟩
  · simp only [Instr.storeAt, Instr.sureAddr, storeVar, Sem.run_bind, Sem.run_pure, Result.andThen_ok, hti.sizeOf, hvs, ne_eq, not_true_eq_false, if_false]
    exact hst
  · have hHlt : id < H.length := by
      rcases Nat.lt_or_ge id H.length with h' | h'
      · exact h'
      · rw [List.getElem?_eq_none h'] at ho; simp at ho
    have hev : Mv G w C G (w.setRow bb (cur.toList.take (l.sh + e * l.k + c) ++ v.cells.toList ++ cur.toList.drop (l.sh + e * l.k + c + v.cells.toList.length)).toArray) C :=
      ⟨fun _ h => h, fun b' hb => setRow_other w _ _ _ fun e' => (hH.own id l bb hι hlb).2 (e' ▸ hb), CxLe.refl _⟩
    refine hH.upd (G' := G) id { o with els := o.els.set e (fillAt cs c us) } rfl rfl rfl (fun _ _ => ⟨rfl, rfl⟩) (Nat.le_refl _) (fun _ _ h => h) (fun j hj => ?_) ?_ (by simp [setAt]) (by omega) (by simpa using hH.gen id o ho) (fun _ h => h) (fun _ h => .inl h)
      (fun b' _ hb => setRow_other w _ _ _ fun e' => hb l hι (by rw [hlb, e'])) (by simp) (fun b' hb => by simpa using hH.gsz b' hb) (fun l' b' hl' hb' => .inl ⟨l', hl', hb'⟩) (frozen_setRow w _ _ _ _ _ hc) fun l' hl' => ?_
    · simp [setAt, List.getElem?_modify, Ne.symm hj]
    · simp [setAt, List.getElem?_modify, ho]
    · rw [hι] at hl'
      simp only [Option.some.injEq] at hl'
      subst hl'
      refine ⟨fun b' hb' => ?_, hk, hrmm, hno, by simpa using hrm, fun i hi => ?_, fun b' hb' => ?_⟩
      · rw [hlb] at hb'
        simp only [Option.some.injEq] at hb'
        subst hb'
        exact ⟨by simpa using (hH.own id l bb hι hlb).1, (hH.own id l bb hι hlb).2, fun j hj l2 hl2 e' => hj (hH.inj _ _ _ _ bb hl2 hι e' hlb)⟩
      rotate_left
      rw [hlb] at hb'
      simp only [Option.some.injEq] at hb'
      subst hb'
      refine ⟨_, et, setRow_heap w _ _ _ _ _ hc, ?_, fun i j hi hj => ?_⟩
      rotate_right
      · simp only [List.length_set] at hi
        rw [List.getD_eq_getElem?_getD, List.getElem?_set]
        by_cases e1 : e = i
        · subst e1
          simp only [if_true, hlt, Option.getD_some]
          simp [fillAt]; omega
        · simp only [e1, if_false]
          rw [← List.getD_eq_getElem?_getD]; exact hrow i hi
      · simp [hvs]; omega
      · simp only [List.length_set] at hi
        have hsl : l.sh + e * l.k + c + v.cells.toList.length ≤ cur.toList.length := by simp [hvs]; omega
        have hA : ((cur.toList.take (l.sh + e * l.k + c) ++ v.cells.toList ++ cur.toList.drop (l.sh + e * l.k + c + v.cells.toList.length)).toArray).getD (l.sh + i * l.k + j) undef =
            if l.sh + e * l.k + c ≤ l.sh + i * l.k + j ∧ l.sh + i * l.k + j < l.sh + e * l.k + c + v.cells.toList.length then v.cells.toList.getD (l.sh + i * l.k + j - (l.sh + e * l.k + c)) undef else cur.toList.getD (l.sh + i * l.k + j) undef := by
          rw [← seg_get _ _ _ _ _ hsl]
          simp [Array.getD_eq_getD_getElem?, List.getD_eq_getElem?_getD]
        rw [hA]
        have hvl : v.cells.toList.length = ti.size := by simpa using hvs
        have hcur : ∀ x, cur.toList.getD x undef = cur.getD x undef := fun x => by simp [Array.getD_eq_getD_getElem?, List.getD_eq_getElem?_getD]
        have hvv : ∀ x, v.cells.toList.getD x undef = v.cells.getD x undef := fun x => by simp [Array.getD_eq_getD_getElem?, List.getD_eq_getElem?_getD]
        rw [List.getD_eq_getElem?_getD (l := o.els.set e (fillAt cs c us)), List.getElem?_set]
        by_cases e1 : e = i
        · subst e1
          simp only [if_true, hlt, Option.getD_some]
          have hB : (fillAt cs c us).getD j .skip = if c ≤ j ∧ j < c + us.length then us.getD (j - c) .skip else cs.getD j .skip := seg_get _ _ _ _ _ (by omega)
          rw [hB]
          by_cases h2 : c ≤ j ∧ j < c + us.length
          · rw [if_pos h2, if_pos (by omega), hvv]
            obtain ⟨h3, h4⟩ := hcells (j - c) (by omega)
            rw [show l.sh + e * l.k + j - (l.sh + e * l.k + c) = j - c by omega]
            exact ⟨h3, h4.mv hev⟩
          · rw [if_neg h2, if_neg (by omega), hcur]
            obtain ⟨h3, h4⟩ := hcell e j hlt hj
            rw [hcs] at h4
            exact ⟨h3, h4.mv hev⟩
        · simp only [e1, if_false]
          have hne : ¬ (l.sh + e * l.k + c ≤ l.sh + i * l.k + j ∧ l.sh + i * l.k + j < l.sh + e * l.k + c + v.cells.toList.length) := by
            rcases Nat.lt_or_gt_of_ne e1 with h' | h'
            · have := row_lt (i := e) (e := i) (j := c + ti.size - 1) (k := l.k) h'
              rcases Nat.eq_zero_or_pos ti.size with h0 | h0
              · omega
              · have := this (by omega); omega
            · have := row_lt (i := i) (e := e) (j := j) (k := l.k) h' hj
              omega
          rw [if_neg hne, hcur, ← List.getD_eq_getElem?_getD]
          obtain ⟨h3, h4⟩ := hcell i j hi hj
          exact ⟨h3, h4.mv hev⟩

/-- A new object out of a value's cells. -/
theorem new_obj_sound (hH : HR G w C H) {b : AV} {v : Value} {size : Nat} {us : List AV} (hv : VR G w C b v) (hfit : b.fit size = some us) (e : TypeId) (id : Nat)
    (hH' : ∀ j, j ≠ id → H'[j]? = H[j]?) (hid : H'[id]? = some ⟨0, size, [us], none⟩) (hlen : H.length ≤ H'.length) (hle : id ≤ H.length) (hγ : C.γ id = 0) (hι : C.ι id = none) :
    let C' := C.lay id (some ⟨some w.heap.size, 0, size, 1⟩) 0
    Ev G w C G (w.alloc (.cells v.cells e (0, 0))) C' ∧ HR G (w.alloc (.cells v.cells e (0, 0))) C' H' ∧ VR G (w.alloc (.cells v.cells e (0, 0))) C' (.obj id 0 0 0) (.pointer (some ⟨w.heap.size, 0, none⟩)) := by
  obtain ⟨hus, hvs, hcells⟩ := hv.fit hfit
  have := hH.made id size [us] v.cells e (w' := w.alloc (.cells v.cells e (0, 0))) (H' := H') rfl rfl rfl rfl 1 0 (by simp) (by omega) (fun i hi => by simp at hi; subst hi; simpa using hus) (by omega) (fun _ => hι) hH' hid hlen hle
    (fun i j hi hj => by simp at hi; subst hi; simpa using hcells j hj)
  refine ⟨this.1, this.2, .obj _ _ _ _ _ _ (by rw [Cx.lay_γ]; exact Nat.le_refl _) fun _ => ⟨_, _, Cx.lay_ι .., rfl, by simp⟩⟩
end
end Go.Proofs.Ytpkgpldgoajphaa.AM
