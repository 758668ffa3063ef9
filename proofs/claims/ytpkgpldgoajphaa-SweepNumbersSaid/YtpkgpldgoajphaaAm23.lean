/-
  AM: what is known of a call, carried to more objects, to fewer, to frozen slices.
-/
import Derived.Test.YtpkgpldgoajphaaAm22
set_option linter.unusedVariables false
set_option linter.unusedSimpArgs false
namespace Go.Proofs.Ytpkgpldgoajphaa.AM
open Go

theorem FCalls.mono {P : Program} {f : FuncId} {vs : Array Value} {w : World} {R R' : Value → World → Prop} (h : FCalls P f vs w R) (hr : ∀ v w', R v w' → R' v w') : FCalls P f vs w R' := by
  unfold FCalls at *
  split at h
  · exact Calls.mono h fun e w' ⟨v, he, hR⟩ => ⟨v, he, hr _ _ hR⟩
  · exact hr _ _ h
  · exact h.elim

mutual
theorem bdd_mono {b c : Nat} (h : b ≤ c) : ∀ (a : AV), AV.bdd b a = true → AV.bdd c a = true
  | .func _ xs, ha => by simp only [AV.bdd] at ha ⊢; exact bdds_mono h xs ha
  | .iface _ v, ha => by simp only [AV.bdd] at ha ⊢; exact bdd_mono h v ha
  | .agg cs, ha => by simp only [AV.bdd] at ha ⊢; exact bdds_mono h cs ha
  | .tup vs, ha => by simp only [AV.bdd] at ha ⊢; exact bdds_mono h vs ha
  | .obj id _ _ _, ha => by simp only [AV.bdd, decide_eq_true_eq] at ha ⊢; omega
  | .osl id _ _ _ _, ha => by simp only [AV.bdd, decide_eq_true_eq] at ha ⊢; omega
  | .skip, _ => rfl
  | .unk, _ => rfl
  | .bool _, _ => rfl
  | .int _ _, _ => rfl
  | .str _, _ => rfl
  | .nilp, _ => rfl
  | .nilf, _ => rfl
  | .nili, _ => rfl
  | .ref _ _, _ => rfl
  | .sl _ _ _, _ => rfl
theorem bdds_mono {b c : Nat} (h : b ≤ c) : ∀ (as : List AV), AV.bdds b as = true → AV.bdds c as = true
  | [], _ => rfl
  | a :: as, ha => by
    simp only [AV.bdds, Bool.and_eq_true] at ha ⊢
    exact ⟨bdd_mono h a ha.1, bdds_mono h as ha.2⟩
end
theorem bdds_of : ∀ {xs : List AV} {b : Nat}, (∀ i, i < xs.length → AV.bdd b (xs.getD i .skip) = true) → AV.bdds b xs = true
  | [], _, _ => rfl
  | x :: xs, b, h => by
    simp only [AV.bdds, Bool.and_eq_true]
    exact ⟨by simpa using h 0 (by simp), bdds_of fun i hi => by simpa using h (i + 1) (by simpa using hi)⟩

mutual
/-- Numbers of objects, renamed. -/
def AV.ren (τ : Nat → Nat) : AV → AV
  | .func f xs => .func f (AV.rens τ xs)
  | .iface t v => .iface t (AV.ren τ v)
  | .agg cs => .agg (AV.rens τ cs)
  | .tup vs => .tup (AV.rens τ vs)
  | .obj id g e c => .obj (τ id) g e c
  | .osl id g k e n => .osl (τ id) g k e n
  | a => a
def AV.rens (τ : Nat → Nat) : List AV → List AV
  | [] => []
  | a :: as => AV.ren τ a :: AV.rens τ as
end
mutual
theorem ren_id {τ : Nat → Nat} : ∀ (a : AV), AV.bdd 0 a = true → AV.ren τ a = a
  | .func _ xs, ha => by simp only [AV.bdd] at ha; simp only [AV.ren]; rw [rens_id xs ha]
  | .iface _ v, ha => by simp only [AV.bdd] at ha; simp only [AV.ren]; rw [ren_id v ha]
  | .agg cs, ha => by simp only [AV.bdd] at ha; simp only [AV.ren]; rw [rens_id cs ha]
  | .tup vs, ha => by simp only [AV.bdd] at ha; simp only [AV.ren]; rw [rens_id vs ha]
  | .obj id _ _ _, ha => by simp [AV.bdd] at ha
  | .osl id _ _ _ _, ha => by simp [AV.bdd] at ha
  | .skip, _ => rfl
  | .unk, _ => rfl
  | .bool _, _ => rfl
  | .int _ _, _ => rfl
  | .str _, _ => rfl
  | .nilp, _ => rfl
  | .nilf, _ => rfl
  | .nili, _ => rfl
  | .ref _ _, _ => rfl
  | .sl _ _ _, _ => rfl
theorem rens_id {τ : Nat → Nat} : ∀ (as : List AV), AV.bdds 0 as = true → AV.rens τ as = as
  | [], _ => rfl
  | a :: as, ha => by
    simp only [AV.bdds, Bool.and_eq_true] at ha
    simp only [AV.rens]
    rw [ren_id a ha.1, rens_id as ha.2]
end
theorem rens_len {τ : Nat → Nat} : ∀ (as : List AV), (AV.rens τ as).length = as.length
  | [] => rfl
  | a :: as => by simp [AV.rens, rens_len as]
theorem rens_get {τ : Nat → Nat} : ∀ (as : List AV) (i : Nat), i < as.length → (AV.rens τ as).getD i .skip = AV.ren τ (as.getD i .skip)
  | [], i, h => by simp at h
  | a :: as, 0, _ => rfl
  | a :: as, i + 1, h => by simpa [AV.rens] using rens_get as i (by simpa using h)

section
variable {P : Program} {G G' : Nat → Prop} {w w' : World} {C C' : Cx} {H H' : Heap}

/-- What is related names no object that is not there. -/
theorem VR.bdd {a : AV} {v : Value} (h : VR G w C a v) (n : Nat) (hC : ∀ id, n ≤ id → C.γ id = 0 ∧ C.ι id = none) : a.bdd n = true := by
  induction h with
  | func C f xs vs hs h ih => simp only [AV.bdd]; exact bdds_of fun i hi => ih i hi hC
  | iface C t a v h ih => simp only [AV.bdd]; exact ih hC
  | agg C xs vs hs h1 h ih => simp only [AV.bdd]; exact bdds_of fun i hi => ih i hi hC
  | tup C xs vs hs h ih => simp only [AV.bdd]; exact bdds_of fun i hi => ih i hi hC
  | obj C id g e c ad hle h =>
    simp only [AV.bdd, decide_eq_true_eq]
    rcases Nat.lt_or_ge id n with h' | h'
    · exact h'
    · obtain ⟨h1, h2⟩ := hC id h'
      obtain ⟨l, b, hl, _⟩ := h (by omega)
      rw [h2] at hl; simp at hl
  | osl C id g k e m ad cap hnc hle h =>
    simp only [AV.bdd, decide_eq_true_eq]
    rcases Nat.lt_or_ge id n with h' | h'
    · exact h'
    · obtain ⟨h1, h2⟩ := hC id h'
      obtain ⟨l, b, hl, _⟩ := h (by omega)
      rw [h2] at hl; simp at hl
  | osl0 C id g k e base hle h =>
    simp only [AV.bdd, decide_eq_true_eq]
    rcases Nat.lt_or_ge id n with h' | h'
    · exact h'
    · obtain ⟨h1, h2⟩ := hC id h'
      obtain ⟨l, hl, _⟩ := h (by omega)
      rw [h2] at hl; simp at hl
  | _ => rfl

/-- One context's objects are the other one's, renamed. -/
theorem VR.ren {τ : Nat → Nat} {n : Nat} {a : AV} {v : Value} (h : VR G w C (a.ren τ) v) (ha : a.bdd n = true) (hC : ∀ i, i < n → C'.ι i = C.ι (τ i) ∧ C'.γ i = C.γ (τ i)) : VR G w C' a v := by
  have key : ∀ {C : Cx} {b : AV} {v : Value}, VR G w C b v → ∀ (a : AV) (C' : Cx), b = a.ren τ → a.bdd n = true → (∀ i, i < n → C'.ι i = C.ι (τ i) ∧ C'.γ i = C.γ (τ i)) → VR G w C' a v := by
    intro C b v h
    induction h with
    | skip => intro a C' e _ _; cases a <;> simp [AV.ren] at e; exact .skip _
    | unk => intro a C' e _ _; cases a <;> simp [AV.ren] at e; exact .unk ..
    | bool => intro a C' e _ _; cases a <;> simp [AV.ren] at e; subst e; exact .bool ..
    | int => intro a C' e _ _; cases a <;> simp [AV.ren] at e; obtain ⟨rfl, rfl⟩ := e; exact .int ..
    | str => intro a C' e _ _; cases a <;> simp [AV.ren] at e; subst e; exact .str ..
    | nilp => intro a C' e _ _; cases a <;> simp [AV.ren] at e; exact .nilp _
    | nilf => intro a C' e _ _; cases a <;> simp [AV.ren] at e; exact .nilf _
    | nili => intro a C' e _ _; cases a <;> simp [AV.ren] at e; exact .nili _
    | func C f xs vs hs h ih =>
      intro a C' e hb hC
      cases a <;> simp [AV.ren] at e
      obtain ⟨rfl, rfl⟩ := e
      simp only [AV.bdd] at hb
      rw [rens_len] at hs ih
      exact .func _ _ _ _ hs fun i hi => ih i hi _ _ (rens_get _ i hi) (bdds_get _ hb i hi) hC
    | iface C t b v h ih =>
      intro a C' e hb hC
      cases a <;> simp [AV.ren] at e
      obtain ⟨rfl, rfl⟩ := e
      exact .iface _ _ _ _ (ih _ _ rfl (by simpa [AV.bdd] using hb) hC)
    | agg C xs vs hs h1 h ih =>
      intro a C' e hb hC
      cases a <;> simp [AV.ren] at e
      subst e
      simp only [AV.bdd] at hb
      rw [rens_len] at hs ih h1
      exact .agg _ _ _ hs h1 fun i hi => ih i hi _ _ (rens_get _ i hi) (bdds_get _ hb i hi) hC
    | tup C xs vs hs h ih =>
      intro a C' e hb hC
      cases a <;> simp [AV.ren] at e
      subst e
      simp only [AV.bdd] at hb
      rw [rens_len] at hs ih
      exact .tup _ _ _ hs fun i hi => ih i hi _ _ (rens_get _ i hi) (bdds_get _ hb i hi) hC
    | ref C cs c b o hG cv hc h1 h ih =>
      intro a C' e _ _
      cases a <;> simp [AV.ren] at e
      obtain ⟨rfl, rfl⟩ := e
      exact .ref _ _ _ _ _ hG cv hc h1 h
    | nils C g k hg =>
      intro a C' e _ _
      cases a <;> simp [AV.ren] at e
      obtain ⟨rfl, rfl, rfl⟩ := e
      exact .nils _ _ _ hg
    | sl C g xs k ad cap hg hclip hle hs cv hk hc h1 h ih =>
      intro a C' e _ _
      cases a <;> simp [AV.ren] at e
      obtain ⟨rfl, rfl, rfl⟩ := e
      exact .sl _ _ _ _ _ _ hg hclip hle hs cv hk hc h1 h
    | obj C id g e c ad hle h =>
      intro a C' e' hb hC
      cases a <;> simp [AV.ren] at e'
      obtain ⟨rfl, rfl, rfl, rfl⟩ := e'
      simp only [AV.bdd, decide_eq_true_eq] at hb
      obtain ⟨h1, h2⟩ := hC _ hb
      exact .obj _ _ _ _ _ _ (by rw [h2]; exact hle) fun hg => by rw [h1]; exact h (by rw [← h2]; exact hg)
    | osl C id g k e m ad cap hnc hle h =>
      intro a C' e' hb hC
      cases a <;> simp [AV.ren] at e'
      obtain ⟨rfl, rfl, rfl, rfl, rfl⟩ := e'
      simp only [AV.bdd, decide_eq_true_eq] at hb
      obtain ⟨h1, h2⟩ := hC _ hb
      exact .osl _ _ _ _ _ _ _ _ hnc (by rw [h2]; exact hle) fun hg => by rw [h1]; exact h (by rw [← h2]; exact hg)
    | osl0 C id g k e base hle h =>
      intro a C' e' hb hC
      cases a <;> simp [AV.ren] at e'
      obtain ⟨rfl, rfl, rfl, rfl, rfl⟩ := e'
      simp only [AV.bdd, decide_eq_true_eq] at hb
      obtain ⟨h1, h2⟩ := hC _ hb
      exact .osl0 _ _ _ _ _ _ (by rw [h2]; exact hle) fun hg => by rw [h1]; exact h (by rw [← h2]; exact hg)
  exact key h a C' rfl ha hC
/-- And the other way round. -/
theorem VR.unren {τ : Nat → Nat} {a : AV} {v : Value} (h : VR G w C' a v) (hC : ∀ i, C'.ι i = C.ι (τ i) ∧ C'.γ i = C.γ (τ i)) : VR G w C (a.ren τ) v := by
  induction h with
  | skip => exact .skip _
  | unk => exact .unk ..
  | bool => exact .bool ..
  | int => exact .int ..
  | str => exact .str ..
  | nilp => exact .nilp _
  | nilf => exact .nilf _
  | nili => exact .nili _
  | nils _ _ _ hg => exact .nils _ _ _ hg
  | func C' f xs vs hs h ih => exact .func _ _ _ _ (by rw [rens_len]; exact hs) fun i hi => by rw [rens_len] at hi; rw [rens_get _ i hi]; exact ih i hi hC
  | iface C' t a v h ih => exact .iface _ _ _ _ (ih hC)
  | agg C' xs vs hs h1 h ih => exact .agg _ _ _ (by rw [rens_len]; exact hs) (fun i hi => h1 i (by rw [rens_len] at hi; exact hi)) fun i hi => by rw [rens_len] at hi; rw [rens_get _ i hi]; exact ih i hi hC
  | tup C' xs vs hs h ih => exact .tup _ _ _ (by rw [rens_len]; exact hs) fun i hi => by rw [rens_len] at hi; rw [rens_get _ i hi]; exact ih i hi hC
  | ref C' cs c b o hG cv hc h1 h ih => exact .ref _ _ _ _ _ hG cv hc h1 h
  | sl C' g xs k ad cap hg hclip hle hs cv hk hc h1 h ih => exact .sl _ _ _ _ _ _ hg hclip hle hs cv hk hc h1 h
  | obj C' id g e c ad hle h =>
    obtain ⟨h1, h2⟩ := hC id
    exact .obj _ _ _ _ _ _ (by rw [← h2]; exact hle) fun hg => by rw [← h1]; exact h (by rw [h2]; exact hg)
  | osl C' id g k e m ad cap hnc hle h =>
    obtain ⟨h1, h2⟩ := hC id
    exact .osl _ _ _ _ _ _ _ _ hnc (by rw [← h2]; exact hle) fun hg => by rw [← h1]; exact h (by rw [h2]; exact hg)
  | osl0 C' id g k e base hle h =>
    obtain ⟨h1, h2⟩ := hC id
    exact .osl0 _ _ _ _ _ _ (by rw [← h2]; exact hle) fun hg => by rw [← h1]; exact h (by rw [h2]; exact hg)

theorem rowss_get {xs : List (List AV)} {b : Nat} (h : ∀ i, i < xs.length → AV.bdds b (xs.getD i []) = true) : AV.bddss b xs = true := by
  induction xs with
  | nil => rfl
  | cons x xs ih =>
    simp only [AV.bddss, Bool.and_eq_true]
    exact ⟨by simpa using h 0 (by simp), ih fun i hi => by simpa using h (i + 1) (by simpa using hi)⟩

/-- Objects behind number n are let go: nobody names them. -/
theorem ACalls.forget {f : FuncId} {args : List AV} {a : AV} {H2 X : Heap} (h : ACalls P f args H (a, H2 ++ X)) (hlen : H2.length = H.length) (ha : a.bdd H.length = true)
    (hr : ∀ (id : Nat) (o : Ob), H2[id]? = some o → H[id]? = some o ∨ AV.bddss H.length o.els = true) : ACalls P f args H (a, H2) := by
  intro G w C vs hsz hargs hH
  refine (h G w C vs hsz hargs hH).mono fun v w' ⟨G', C', he, hh, hv, hp⟩ => ?_
  have hcle : CxLe C (C'.cut H.length) := fun id => by
    have h1 := he.cx id
    simp only [Cx.cut]
    by_cases hid : id < H.length
    · simp only [hid, if_true]; exact h1
    · simp only [hid, if_false]
      obtain ⟨h2, h3⟩ := hH.out id (by omega)
      exact ⟨by omega, fun _ l hl => by rw [h3] at hl; simp at hl⟩
  have hι : ∀ id l, (C'.cut H.length).ι id = some l → id < H.length ∧ C'.ι id = some l := fun id l hl => by
    simp only [Cx.cut] at hl
    split at hl
    · rename_i h; exact ⟨h, hl⟩
    · simp at hl
  have hget : ∀ id, id < H.length → (H2 ++ X)[id]? = H2[id]? := fun id hid => by rw [List.getElem?_append_left (by omega)]
  refine ⟨G', C'.cut H.length, ⟨he.os, he.tape, he.output, he.size, he.lock, he.same, hcle, he.rest, he.grow, fun id l b hl hb => he.own id l b (hι id l hl).2 hb, he.frz⟩, ?_, hv.cut _ ha, ?_⟩
  · refine ⟨fun id o ho => ?_, fun id hid => ?_, fun id l b hl hb => hh.own id l b (hι id l hl).2 hb, fun i j l l' b h1 h2 => hh.inj i j l l' b (hι i l h1).2 (hι j l' h2).2, fun id o l ho hl => ?_, hh.gsz⟩
    · have hid : id < H.length := by
        rcases Nat.lt_or_ge id H2.length with h' | h'
        · omega
        · rw [List.getElem?_eq_none h'] at ho; simp at ho
      simp only [Cx.cut, hid, if_true]
      exact hh.gen id o (by rw [hget id hid]; exact ho)
    · simp only at hid
      have : ¬ id < H.length := by omega
      simp [Cx.cut, this]
    · obtain ⟨hid, hl'⟩ := hι id l hl
      obtain ⟨hk, hrm, hno, hlen', hrow, hcs0⟩ := hh.ob id o l (by rw [hget id hid]; exact ho) hl'
      have hb : AV.bddss H.length o.els = true := by
        rcases hr id o ho with h1 | h1
        · -- it is as it was
          have hCι : ∃ l0, C.ι id = some l0 := by
            cases hc0 : C.ι id with
            | some l0 => exact ⟨l0, rfl⟩
            | none =>
              have := (hp.2 id hid trivial hc0).1
              rw [hl'] at this; simp at this
          obtain ⟨l0, hl0⟩ := hCι
          obtain ⟨hk0, hrm0, hno0, hlen0, hrow0, hcs0'⟩ := hH.ob id o l0 h1 hl0
          cases hb0 : l0.b with
          | none =>
            have h0 := hno0 hb0
            have : o.els = [] := List.eq_nil_of_length_eq_zero (by omega)
            rw [this]; rfl
          | some b0 =>
            obtain ⟨cs0, e0, hc0, hcs0, hcell0⟩ := hcs0' b0 hb0
            refine rowss_get fun i hi => bdds_of fun j hj => ?_
            rw [hrow0 i hi] at hj
            exact (hcell0 i j hi hj).2.bdd _ fun id hid => hH.out id hid
        · exact h1
      refine ⟨hk, hrm, hno, hlen', hrow, fun b hlb => ?_⟩
      obtain ⟨cs, e, hc, hcs, hcell⟩ := hcs0 b hlb
      refine ⟨cs, e, hc, hcs, fun i j hi hj => ⟨(hcell i j hi hj).1, (hcell i j hi hj).2.cut _ ?_⟩⟩
      exact bdds_get _ (bddss_get _ hb i hi) j (by rw [hrow i hi]; exact hj)
  · refine ⟨by rw [hlen]; exact Nat.le_refl _, fun id hid hs hi => ?_⟩
    obtain ⟨h1, h2, h3⟩ := hp.2 id hid hs hi
    simp only [Cx.cut, hid, if_true]
    exact ⟨h1, h2, by rw [← hget id hid]; exact h3⟩

/-- What is handed back is frozen. -/
theorem ACalls.frz {f : FuncId} {args : List AV} {a a' : AV} {H1 H2 : Heap} {n0 : Nat} (h : ACalls P f args H (a, H1)) (hf : frzV n0 a H1 = some (a', H2)) : ACalls P f args H (a', H2) := by
  intro G w C vs hsz hargs hH
  refine (h G w C vs hsz hargs hH).mono fun v w' ⟨G', C', he, hh, hv, hp⟩ => ?_
  obtain ⟨G2, C2, h1, h2, h3, h4⟩ := frzV_sound a hv hh hf
  exact ⟨G2, C2, he.trans h1, h2, h3, hp.trans h4⟩
theorem ACalls.frz_osl {f : FuncId} {args : List AV} {H1 : Heap} {id g k e n : Nat} {xs : List (List AV)} (h : ACalls P f args H (.osl id g k e n, H1)) (hr : rowsIn H1 k (.osl id g k e n) = some xs) (hb : AV.bddss 0 xs = true) :
    ACalls P f args H (.sl .any k xs, H1.modify id fun o => { gen := o.gen + 1, k := o.k, els := [] }) :=
  h.frz (n0 := 0) (by simp only [frzV, Nat.zero_le, if_true]; rw [hr]; simp [hb])
end
end Go.Proofs.Ytpkgpldgoajphaa.AM
