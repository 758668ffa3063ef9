/-
  AM: all operations that ask nothing of exclusive objects.
-/
import Derived.Test.YtpkgpldgoajphaaAm6
import Derived.Laws.BytesString
set_option linter.unusedVariables false
set_option linter.unusedSimpArgs false
namespace Go.Proofs.Ytpkgpldgoajphaa.AM
open Go
section
variable {P : Program} {T : TT} {G : Nat → Prop} {w : World} {C : Cx} {F : Fr} {act : Act} {H : Heap}

theorem cut_zero (C : Cx) : C.cut 0 = Cx.none := by simp [Cx.cut, Cx.none]
theorem VR.free {a : AV} {v : Value} (h : VR G w C a v) (hb : a.bdd 0 = true) : VR G w Cx.none a v := by have := h.cut 0 hb; rwa [cut_zero] at this

theorem zeros_length (z : List AV) : ∀ n, (zeros z n).length = n * z.length
  | 0 => by simp [zeros]
  | n + 1 => by simp [zeros, zeros_length z n, Nat.add_mul]; omega
theorem zeros_get (z : List AV) : ∀ (n i : Nat), i < n * z.length → (zeros z n).getD i .skip = z.getD (i % z.length) .skip
  | 0, i, h => by simp at h
  | n + 1, i, h => by
    simp only [zeros, List.getD_eq_getElem?_getD]
    by_cases hi : i < z.length
    · rw [List.getElem?_append_left hi, Nat.mod_eq_of_lt hi]
    · rw [List.getElem?_append_right (by omega)]
      have h1 : i - z.length < n * z.length := by rw [Nat.add_mul] at h; omega
      have := zeros_get z n (i - z.length) h1
      simp only [List.getD_eq_getElem?_getD] at this
      rw [this, Nat.mod_eq_sub_mod (show i ≥ z.length by omega)]
theorem rowsOf_length (k : Nat) : ∀ (n : Nat) (cs : List AV), (rowsOf k n cs).length = n
  | 0, cs => rfl
  | n + 1, cs => by simp [rowsOf, rowsOf_length k n]
theorem rowsOf_get (k : Nat) : ∀ (n i : Nat) (cs : List AV), i < n → (rowsOf k n cs).getD i [] = (cs.drop (i * k)).take k
  | 0, i, cs, h => by omega
  | n + 1, 0, cs, h => by simp [rowsOf]
  | n + 1, i + 1, cs, h => by
    simp only [rowsOf, List.getD_cons_succ]
    rw [rowsOf_get k n i _ (by omega), List.drop_drop, Nat.add_mul, Nat.one_mul, Nat.add_comm]
theorem TIok.zeros {t : TypeId} {ti : TI} (h : TIok P t ti) : ∃ z, (∀ w, (zeroValue t).run P w = .ok z w) ∧ CF G w C ti.zero z.cells ∧ ti.zero.length = ti.size ∧ z.cells.size = ti.size ∧ (ti.agg = true → ∃ cs, z = .agg cs) ∧ (ti.agg = false → ∀ cs, z ≠ .agg cs) := by
  obtain ⟨i, hi, hs, hb, z, hz, hzs, hzl, hza⟩ := h.info
  obtain ⟨h1, h2⟩ := ofScalars_sound (G := G) (w := w) (C := C) hzs
  refine ⟨z, fun w => by simp [zeroValue, typeInfo, hi, hz], ⟨by simpa using h1, fun i hi => ?_⟩, hzl, by simpa [hzl] using h1, fun ha => hza.2 ha, fun ha cs e => ?_⟩
  · have := h2 i hi
    simpa [Array.getD_eq_getD_getElem?, List.getD_eq_getElem?_getD] using this
  · have := hza.1 ⟨cs, e⟩
    simp [ha] at this

theorem build_sound (hT : TOk P T) (hF : FrR G w C F act.tmps) {t : TypeId} {parts : Array (Nat × Operand)} {a : AV} (h : evP T F (.build t parts) = some a) :
    ∃ v, (Instr.build t (parts.map fun p => (p.1, act.eval p.2))).run P w = .ok v w ∧ VR G w C a v := by
  simp only [evP] at h
  split at h
  · rename_i fs size bytes zero ht
    have hti := hT _ _ ht
    obtain ⟨fields, hu, hm, _⟩ := hti.und
    obtain ⟨z, hz, hzc, hzl, hzs, hza, _⟩ := TIok.zeros (G := G) (w := w) (C := C) hti
    obtain ⟨cs, rfl⟩ := hza rfl
    cases hb : evBuild T F (fun i => (fs[i]?).bind fun p => (AM.sizeOf T p.1).map fun k => (p.2, k)) parts.toList zero with
    | none => simp [hb] at h
    | some ys =>
      simp [hb] at h; subst h
      have hmap : ∀ (l : List Field), ∃ places : List (Nat × Nat), ((l.mapM fun f => (do pure (f.offset, ← Go.sizeOf f.type) : Sem (Nat × Nat))).run P w = .ok places w ∨ ∃ f ∈ l, P.info? f.type = none) ∧
          ((∀ f ∈ l, P.info? f.type ≠ none) → places.length = l.length ∧ ∀ (i : Nat) (f : Field), l[i]? = some f → ∃ k, (Go.sizeOf f.type).run P w = .ok k w ∧ places[i]? = some (f.offset, k)) := by
        intro l
        induction l with
        | nil => exact ⟨[], .inl rfl, fun _ => ⟨rfl, fun i f hf => by simp at hf⟩⟩
        | cons f l ih =>
          obtain ⟨places, h1, h2⟩ := ih
          cases hfi : P.info? f.type with
          | none => exact ⟨[], .inr ⟨f, by simp, hfi⟩, fun hall => absurd hfi (hall f (by simp))⟩
          | some i =>
            have hsz : (Go.sizeOf f.type).run P w = .ok i.size w := by simp [Go.sizeOf, typeInfo, hfi]
            rcases h1 with h1 | ⟨g, hg, hgi⟩
            · refine ⟨(f.offset, i.size) :: places, .inl ?_, fun hall => ?_⟩
              · simp only [List.mapM_cons, Sem.run_bind, hsz, Result.andThen_ok, Sem.run_pure, h1]
              · obtain ⟨h3, h4⟩ := h2 fun g hg => hall g (by simp [hg])
                refine ⟨by simp [h3], fun j g hg => ?_⟩
                cases j with
                | zero => simp at hg; subst hg; exact ⟨_, hsz, by simp⟩
                | succ j => simpa using h4 j g (by simpa using hg)
            · exact ⟨[], .inr ⟨g, by simp [hg], hgi⟩, fun hall => absurd hgi (hall g (by simp [hg]))⟩
      have hall : ∀ f ∈ fields.toList, P.info? f.type ≠ none := hti.fields hu
      obtain ⟨places, h1, h2⟩ := hmap fields.toList
      obtain ⟨h3, h4⟩ := h2 hall
      have h1 : (fields.toList.mapM fun f => (do pure (f.offset, ← Go.sizeOf f.type) : Sem (Nat × Nat))).run P w = .ok places w := by
        rcases h1 with h1 | ⟨g, hg, hgi⟩
        · exact h1
        · exact absurd hgi (hall g hg)
      have hmapA : (fields.mapM fun f => (do pure (f.offset, ← Go.sizeOf f.type) : Sem (Nat × Nat))).run P w = .ok places.toArray w := by
        rw [Array.mapM_eq_mapM_toList]
        simp only [Sem.run_map, h1, Result.andThen_ok]
      obtain ⟨us, hus, hcf⟩ := fill_sound (act := act) hF (place' := fun i => places.toArray[i]?) (fun i p hp => by
        rw [← hm, List.getElem?_map] at hp
        cases hfi : fields.toList[i]? with
        | none => simp [hfi] at hp
        | some f =>
          obtain ⟨k, hk, hpl⟩ := h4 i f hfi
          simp [hfi] at hp
          obtain ⟨k', hk', rfl⟩ := hp
          obtain ⟨tf, _, hks, hszf⟩ := sizeOf_some hT hk'
          rw [hszf w] at hk
          simp at hk
          subst hk
          simpa using hpl) hzc hb
      refine ⟨.agg us, ?_, .agg _ _ _ hcf.1 (fun i hi => (hcf.2 i hi).1) fun i hi => (hcf.2 i hi).2⟩
      simp only [Instr.build, Sem.run_bind, hz, Result.andThen_ok, run_underlying hu, hmapA, Array.toList_map, hus, Sem.run_pure]
  · rename_i n e size bytes zero ht
    have hti := hT _ _ ht
    have hu : P.underlying t = some (.array n e) := hti.und
    obtain ⟨z, hz, hzc, hzl, hzs, hza, _⟩ := TIok.zeros (G := G) (w := w) (C := C) hti
    obtain ⟨cs, rfl⟩ := hza rfl
    split at h
    · rename_i k hk
      obtain ⟨te, hte, hks, hsz⟩ := sizeOf_some hT hk
      cases hb : evBuild T F (fun i => some (i * k, k)) parts.toList zero with
      | none => simp [hb] at h
      | some ys =>
        simp [hb] at h; subst h
        obtain ⟨us, hus, hcf⟩ := fill_sound (act := act) hF (place' := fun i => some (i * k, k)) (fun i p hp => hp) hzc hb
        refine ⟨.agg us, ?_, .agg _ _ _ hcf.1 (fun i hi => (hcf.2 i hi).1) fun i hi => (hcf.2 i hi).2⟩
        simp only [Instr.build, Sem.run_bind, hz, Result.andThen_ok, run_underlying hu, hsz, Array.toList_map, hus, Sem.run_pure]
    · simp at h
  · simp at h
end
end Go.Proofs.Ytpkgpldgoajphaa.AM
