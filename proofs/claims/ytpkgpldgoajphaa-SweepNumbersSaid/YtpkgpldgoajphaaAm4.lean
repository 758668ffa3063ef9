/-
  AM: the operations that ask nothing of exclusive objects do in the model what the evaluator says: all of them.
-/
import Derived.Test.YtpkgpldgoajphaaAm3
import Derived.Laws.Slices
set_option linter.unusedVariables false
set_option linter.unusedSimpArgs false
namespace Go.Proofs.Ytpkgpldgoajphaa.AM
open Go
section
variable {P : Program} {T : TT} {G : Nat → Prop} {w : World} {C : Cx} {F : Fr} {act : Act} {H : Heap}

/-- What comes of an operation that changes no exclusive object. -/
def Out (P : Program) (G : Nat → Prop) (w : World) (C : Cx) (H : Heap) (s : Sem Next) (a : AV) : Prop :=
  ∃ v w' G', s.run P w = .ok (.value v) w' ∧ Ev G w C G' w' C ∧ HR G' w' C H ∧ VR G' w' C a v
theorem Out.still {s : Sem Next} {a : AV} {v : Value} (hH : HR G w C H) (h : s.run P w = .ok (.value v) w) (hv : VR G w C a v) : Out P G w C H s a := ⟨v, w, G, h, Ev.refl .., hH, hv⟩

theorem evBin_sound (hT : TOk P T) {op : BinOp} {t : TypeId} {x y : Operand} {a b r : AV} {u v : Value} (ha : VR G w C a u) (hb : VR G w C b v) (h : evBin T op t a b = some r) (hc : a = .nili → b = .nili → isConst x = true ∨ isConst y = true) :
    ∃ z, (do eqGuard op t x y u v; Go.binOp op t u v : Sem Value).run P w = .ok z w ∧ VR G w C r z := by
  unfold evBin at h
  split at h
  · cases ha
    cases hb
    have hg : ∀ {k n k' n'}, (eqGuard op t x y (.int k n) (.int k' n')).run P w = .ok () w := eqGuard_plain (.inl (by simp)) (.inl (by simp))
    simp only [Sem.run_bind, hg, Result.andThen_ok]
    split at h
    · split at h
      · simp at h
      · rename_i hy
        simp at h; subst h
        exact ⟨_, by simp only [binOp, Op.shift, hy, if_false]; rfl, .int ..⟩
    · split at h
      · simp at h
      · rename_i hy
        simp at h; subst h
        exact ⟨_, by simp only [binOp, Op.shift, hy, if_false]; rfl, .int ..⟩
    · rename_i h1 h2
      split at h
      · rename_i hk
        subst hk
        exact evInt_sound t h (fun e => h1 e) (fun e => h2 e)
      · simp at h
  · cases ha
    cases hb
    have hg : ∀ {n n'}, (eqGuard op t x y (.string n) (.string n')).run P w = .ok () w := eqGuard_plain (.inl (by simp)) (.inl (by simp))
    simp only [Sem.run_bind, hg, Result.andThen_ok]
    exact evStr_sound t h
  · split at h
    · cases he : evEq T t a b with
      | none => simp [he] at h
      | some c =>
        simp [he] at h; subst h
        obtain ⟨h1, h2, h3, h4, h5, h6⟩ := evEq_sound hT (op := .eql) (x := x) (y := y) ha hb he hc
        refine ⟨.bool c, ?_, .bool ..⟩
        simp only [Sem.run_bind, h2, Result.andThen_ok]
        have : Go.binOp .eql t u v = (do pure (.bool (← Op.equal t u v))) := by
          cases u <;> first | exact absurd rfl (h3 _ _) | exact absurd rfl (h4 _) | exact absurd rfl (h5 _ _) | exact absurd rfl (h6 _ _ _) | (cases v <;> rfl)
        rw [this]
        simp [h1]
    · cases he : evEq T t a b with
      | none => simp [he] at h
      | some c =>
        simp [he] at h; subst h
        obtain ⟨h1, h2, h3, h4, h5, h6⟩ := evEq_sound hT (op := .neq) (x := x) (y := y) ha hb he hc
        refine ⟨.bool !c, ?_, .bool ..⟩
        simp only [Sem.run_bind, h2, Result.andThen_ok]
        have : Go.binOp .neq t u v = (do pure (.bool (!(← Op.equal t u v)))) := by
          cases u <;> first | exact absurd rfl (h3 _ _) | exact absurd rfl (h4 _) | exact absurd rfl (h5 _ _) | exact absurd rfl (h6 _ _ _) | (cases v <;> rfl)
        rw [this]
        simp [h1]
    · simp at h

theorem add_addr (b o j : Nat) : (⟨b, o, none⟩ : Addr).add j = ⟨b, o + j, none⟩ := by unfold Addr.add; split <;> simp_all

theorem load_ref_sound (hT : TOk P T) {t : TypeId} {cs : List AV} {c : Nat} {a : AV} {u : Value} (hu : VR G w C (.ref cs c) u) (h : AM.part T t cs c = some a) : ∃ v, (Instr.loadAt t u).run P w = .ok v w ∧ VR G w C a v := by
  cases hu with
  | ref _ _ _ b o hG cv hc h1 hv =>
    unfold AM.part at h
    split at h
    · simp at h
    · rename_i ti ht
      have hti := hT t ti ht
      simp only [Instr.loadAt, Instr.sureAddr, loadVar, Sem.run_bind, Sem.run_pure, Result.andThen_ok, hti.isAgg]
      split at h
      · rename_i hagg
        split at h
        · rename_i hle
          simp only [Option.some.injEq] at h
          subst h
          simp only [hagg, if_true, Sem.run_bind, hti.sizeOf, Result.andThen_ok]
          rw [run_loadCells w _ ti.size (fun j => cv (c + j)) (fun j hj => by rw [add_addr, Nat.add_assoc]; exact hc _ (by omega))]
          refine ⟨_, rfl, .agg _ _ _ (by simp; omega) (fun i hi => ?_) fun i hi => ?_⟩
          · have hi' : i < ti.size := by simp at hi; omega
            simpa [Array.getD_eq_getD_getElem?, hi'] using h1 (c + i) (by omega)
          · have hi' : i < ti.size := by simp at hi; omega
            have := (hv (c + i) (by omega)).lift C
            simpa [Array.getD_eq_getD_getElem?, List.getD_eq_getElem?_getD, List.getElem?_take, List.getElem?_drop, hi'] using this
        · simp at h
      · rename_i hagg
        have hc' : c < cs.length := by
          rcases Nat.lt_or_ge c cs.length with h' | h'
          · exact h'
          · rw [List.getElem?_eq_none h'] at h; simp at h
        simp only [hagg, Bool.false_eq_true, if_false, run_load, hc c hc']
        exact ⟨_, rfl, by simpa [List.getD_eq_getElem?_getD, h] using (hv c hc').lift C⟩

theorem evFieldAddr_sound (hT : TOk P T) {s : TypeId} {f : Nat} {x a : AV} {u : Value} (hx : VR G w C x u) (h : evFieldAddr T s f x = some a) : ∃ v, (Instr.fieldAt s u f).run P w = .ok v w ∧ VR G w C a v := by
  unfold evFieldAddr at h
  split at h
  · rename_i t o hf
    unfold fieldOf at hf
    split at hf
    · rename_i fs _ _ _ hs
      have hti := hT _ _ hs
      obtain ⟨fields, hu, hm, _⟩ := hti.und
      split at h
      · rename_i n cs c hsz
        obtain ⟨tt, htt, hszt⟩ : ∃ tt, T t = some tt ∧ tt.size = n + 1 := by
          unfold AM.sizeOf at hsz
          cases ht : T t with
          | none => simp [ht] at hsz
          | some tt => exact ⟨tt, rfl, by simpa [ht] using hsz⟩
        have hfl : ∃ fl, fields[f]? = some fl ∧ fl.type = t ∧ fl.offset = o := by
          rw [← hm] at hf
          rw [List.getElem?_map] at hf
          cases hg : fields.toList[f]? with
          | none => simp [hg] at hf
          | some fl => simp [hg] at hf; exact ⟨fl, by simpa using hg, hf.1, hf.2⟩
        obtain ⟨fl, hfl, rfl, rfl⟩ := hfl
        simp at h; subst h
        cases hx with
        | ref _ _ _ b o' hG cv hc h1 hv =>
          refine ⟨_, by simp [Instr.fieldAt, run_underlying hu, hfl, Instr.sureAddr, fieldPlace, (hT _ _ htt).sizeOf, hszt, add_addr]; rfl, ?_⟩
          rw [Nat.add_assoc]
          exact .ref _ _ _ _ _ hG cv hc h1 hv
      · rename_i n id g e c hsz
        obtain ⟨tt, htt, hszt⟩ : ∃ tt, T t = some tt ∧ tt.size = n + 1 := by
          unfold AM.sizeOf at hsz
          cases ht : T t with
          | none => simp [ht] at hsz
          | some tt => exact ⟨tt, rfl, by simpa [ht] using hsz⟩
        have hfl : ∃ fl, fields[f]? = some fl ∧ fl.type = t ∧ fl.offset = o := by
          rw [← hm] at hf
          rw [List.getElem?_map] at hf
          cases hg : fields.toList[f]? with
          | none => simp [hg] at hf
          | some fl => simp [hg] at hf; exact ⟨fl, by simpa using hg, hf.1, hf.2⟩
        obtain ⟨fl, hfl, rfl, rfl⟩ := hfl
        simp at h; subst h
        cases hx with
        | obj _ _ _ _ _ ad hle hl =>
          refine ⟨.pointer (some (ad.add fl.offset)), by simp [Instr.fieldAt, run_underlying hu, hfl, Instr.sureAddr, fieldPlace, (hT _ _ htt).sizeOf, hszt], ?_⟩
          refine .obj _ _ _ _ _ _ hle fun hg => ?_
          obtain ⟨l, b, h1, hb, h2⟩ := hl hg
          exact ⟨l, b, h1, hb, by rw [h2, add_addr, Nat.add_assoc]⟩
      · simp at h
    · simp at hf
  · simp at h
end
end Go.Proofs.Ytpkgpldgoajphaa.AM
