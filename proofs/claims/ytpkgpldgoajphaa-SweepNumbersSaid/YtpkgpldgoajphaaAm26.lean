/-
  AM: a slice of which it is not known whether it is nil.
-/
import Derived.Test.YtpkgpldgoajphaaSb
set_option linter.unusedVariables false
set_option linter.unusedSimpArgs false
namespace Go.Proofs.Ytpkgpldgoajphaa.AM
open Go

theorem ACalls.orNil {P : Program} {f : FuncId} {k : Nat} {xs : List (List AV)} {as_ : List AV} {H : Heap} {r : AV × Heap} (h1 : xs = [] → ACalls P f (.sl .nil 0 [] :: as_) H r) (h2 : ACalls P f (.sl .op k xs :: as_) H r) :
    ACalls P f (.sl .any k xs :: as_) H r := by
  intro G w C vs hsz hargs hH
  have h0 := hargs 0 (by simp)
  have hr : ∀ i, 0 < i → i < as_.length + 1 → ∀ v : AV, (v :: as_).getD i .skip = (AV.sl .any k xs :: as_).getD i .skip := by
    intro i hi _ v
    cases i with
    | zero => omega
    | succ i => rfl
  have key : ∀ v : AV, VR G w C v (vs.getD 0 undef) → ∀ i, i < (v :: as_).length → VR G w C ((v :: as_).getD i .skip) (vs.getD i undef) := by
    intro v hv i hi
    cases i with
    | zero => exact hv
    | succ i =>
      have := hargs (i + 1) (by simpa using hi)
      rw [hr (i + 1) (by omega) (by simpa using hi) v]
      exact this
  simp only [List.getD_cons_zero] at h0
  generalize hv0 : vs.getD 0 undef = v0 at h0
  cases h0 with
  | nils _ _ _ hg => exact h1 rfl G w C vs (by simpa using hsz) (key _ (by rw [hv0]; exact .nils _ _ _ (.inl rfl))) hH
  | sl _ _ _ _ ad cap hg hclip hle hs cv hk hc h1' h => exact h2 G w C vs (by simpa using hsz) (key _ (by rw [hv0]; exact .sl _ _ _ _ ad cap (by simp) (by simp) hle hs cv hk hc h1' h)) hH
theorem slice_max {H : Heap} {k : Nat} {rows xs : List (List AV)} {g : Tg} {lo hi mx : Int} {l h : Nat} (hlo : lo = (l : Int)) (hhi : hi = (h : Int)) (h1 : l ≤ h) (h2 : h ≤ rows.length) (hx : (rows.take h).drop l = xs) (hm : hi = mx) :
    Option.map (fun a => (a, H)) (if k = k ∨ rows.isEmpty = true then (if hi = mx then (bounds lo hi rows.length).map fun p => AV.sl g k ((List.take p.2 rows).drop p.1) else none) else none) = some (.sl g k xs, H) := by
  rw [if_pos hm]
  exact slice_sl hlo hhi h1 h2 hx
def AV.scal : AV → Bool
  | .bool _ | .int _ _ | .str _ => true
  | _ => false
theorem VR.scal {G G' : Nat → Prop} {w w' : World} {C C' : Cx} {a : AV} {v : Value} (h : VR G w C a v) (ha : a.scal = true) : VR G' w' C' a v := by
  cases h <;> simp [AV.scal] at ha
  · exact .bool ..
  · exact .int ..
  · exact .str ..
/-- The argument as it is, and as the function is told of it. -/
def Br (H : Heap) (a' a : AV) : Prop := (a' = a ∧ AV.bdd 0 a = true) ∨ ∃ id g k e n rows, a' = .osl id g k e n ∧ a = .sl .any k rows ∧ rowsIn H k (.osl id g k e n) = some rows ∧ AV.bddss 0 rows = true
theorem Br.same {H : Heap} {a : AV} (h : AV.bdd 0 a = true) : Br H a a := .inl ⟨rfl, h⟩
theorem Br.osl {H : Heap} {id g k e n : Nat} {rows : List (List AV)} (h : rowsIn H k (.osl id g k e n) = some rows) (hb : AV.bddss 0 rows = true) : Br H (.osl id g k e n) (.sl .any k rows) := .inr ⟨id, g, k, e, n, rows, rfl, rfl, h, hb⟩
def Brs (H : Heap) : List AV → List AV → Prop
  | [], [] => True
  | a :: l, b :: m => Br H a b ∧ Brs H l m
  | _, _ => False
theorem Brs.get {H : Heap} : ∀ {l m : List AV}, Brs H l m → l.length = m.length ∧ ∀ i, i < m.length → Br H (l.getD i .skip) (m.getD i .skip)
  | [], [], _ => ⟨rfl, fun i hi => by simp at hi⟩
  | [], _ :: _, h => h.elim
  | _ :: _, [], h => h.elim
  | a :: l, b :: m, h => by
    obtain ⟨h1, h2⟩ := Brs.get h.2
    refine ⟨by simp [h1], fun i hi => ?_⟩
    cases i with
    | zero => simpa using h.1
    | succ i => simpa using h2 i (by simpa using hi)
theorem ACalls.borrow {P : Program} {f : FuncId} {args args' : List AV} {a : AV} (h : ACalls P f args [] (a, [])) (ha : a.scal = true) {H : Heap} (hb : Brs H args' args) : ACalls P f args' H (a, H) := by
  intro G w C vs hsz hargs hH
  obtain ⟨hl, hbr⟩ := hb.get
  have key : ∀ i, i < args.length → VR (fun b => G b ∨ ∃ id l, C.ι id = some l ∧ l.b = some b) w Cx.none (args.getD i .skip) (vs.getD i undef) := by
    intro i hi
    have hv := hargs i (by omega)
    rcases hbr i hi with ⟨e, h0⟩ | ⟨id, g, k, e, n, rows, h1, h2, h3, h4⟩
    · rw [e] at hv
      have := hv.cut 0 h0
      rw [cut_zero] at this
      exact this.mono (fun b hb => .inl hb) (fun _ _ => rfl) (CxLe.refl _)
    · rw [h1] at hv
      rw [h2]
      obtain ⟨G', C', e1, e2, e3, _⟩ := freeze_sound hH hv h3 h4
      have := e3.cut 0 rfl
      rw [cut_zero] at this
      refine this.mono (fun b hb => ?_) (fun _ _ => rfl) (CxLe.refl _)
      rcases e1.grow b hb with h5 | h5 | h5
      · exact .inl h5
      · exact .inr h5
      · have := e2.gsz b hb; omega
  have hE : HR (fun b => G b ∨ ∃ id l, C.ι id = some l ∧ l.b = some b) w Cx.none [] :=
    ⟨fun id o ho => by simp at ho, fun id _ => ⟨rfl, rfl⟩, fun id l b hl => by simp [Cx.none] at hl, fun i j l l' b hl => by simp [Cx.none] at hl, fun id o l ho => by simp at ho,
      fun b hb => hb.elim (hH.gsz b) fun ⟨id, l, h1, h2⟩ => (hH.own id l b h1 h2).1⟩
  refine (h _ w Cx.none vs (by omega) key hE).mono fun v w' ⟨G', C', he, hh, hv, hp⟩ => ?_
  have hall : ∀ b, b < w.heap.size → w'.heap[b]? = w.heap[b]? := fun b hb => he.rest b hb fun id l hl => by simp [Cx.none] at hl
  have hev : Ev G w C G w' C := ⟨he.os, he.tape, he.output, he.size, fun _ h => h, fun b hb => hall b (hH.gsz b hb), CxLe.refl _, fun b hb _ => hall b hb, fun _ h => .inl h, fun id l b h1 h2 => .inl ⟨id, l, h1, h2⟩, he.frz⟩
  refine ⟨G, C, hev, ⟨hH.gen, hH.out, fun id l b h1 h2 => ⟨Nat.lt_of_lt_of_le (hH.own id l b h1 h2).1 he.size, (hH.own id l b h1 h2).2⟩, hH.inj, fun id o l ho hl' => (hH.ob id o l ho hl').ev hev fun b hb => hall b (hH.own id l b hl' hb).1, fun b hb => Nat.lt_of_lt_of_le (hH.gsz b hb) he.size⟩, hv.scal ha, Pd.refl⟩
/-- A call that needs objects and makes one, which it hands back as a slice, among more objects. -/
theorem ACalls.ext_osl {P : Program} {f : FuncId} {args : List AV} {g k n : Nat} {Hs H1 : Heap} {o : Ob} (h : ACalls P f args Hs (.osl Hs.length g k 0 n, H1 ++ [o])) (hargs : AV.bdds Hs.length args = true) (hbs : obsB Hs.length Hs = true) (hbs' : obsB Hs.length H1 = true) (ho : AV.bddss 0 o.els = true) (hlen : H1.length = Hs.length) (E : Heap) :
    ACalls P f args (Hs ++ E) (.osl (Hs ++ E).length g k 0 n, (H1 ++ E) ++ [o]) := by
  have hτ : ∀ i, i < Hs.length → (fun i => if i < Hs.length then i else i + E.length) i = i := fun i hi => by simp [hi]
  have lt_of : ∀ {l : Heap} {i : Nat} {o : Ob}, l[i]? = some o → i < l.length := fun {l i o} ho => by
    rcases Nat.lt_or_ge i l.length with h' | h'
    · exact h'
    · rw [List.getElem?_eq_none h'] at ho; simp at ho
  have := h.frame (τ := fun i => if i < Hs.length then i else i + E.length) (Hb := Hs ++ E) (Hb' := (H1 ++ E) ++ [o])
    ⟨fun i hi => by simp [hi]; omega, fun i hi => by have : ¬ i < Hs.length := by omega
                                                     simp [this]; omega, fun i j hi hj e => by simpa [hi, hj] using e, fun i o ho => by
      have hi := lt_of ho
      simp only [hi, if_true]
      rw [List.getElem?_append_left hi, Ob.ren_fix hτ o (obsB_get hbs ho)]
      exact ho⟩ hargs (fun i o ho => obsB_get hbs ho) (by simp [hlen]; omega) (fun i o' ho' => by
      rcases Nat.lt_or_ge i Hs.length with hi | hi
      · simp only [hi, if_true]
        rw [List.getElem?_append_left (by omega)] at ho'
        rw [List.append_assoc, List.getElem?_append_left (by omega), Ob.ren_fix hτ o' (obsB_get hbs' ho')]
        exact ho'
      · have hi2 := lt_of ho'
        simp only [List.length_append, List.length_singleton] at hi2
        obtain rfl : i = Hs.length := by omega
        rw [List.getElem?_append_right (by omega)] at ho'
        simp [hlen] at ho'
        subst ho'
        have hn : ¬ Hs.length < Hs.length := by omega
        simp only [hn, if_false]
        rw [List.getElem?_append_right (by simp [hlen])]
        have h0 : ∀ i, i < 0 → (fun i => if i < Hs.length then i else i + E.length) i = i := fun i hi => by omega
        rw [Ob.ren_fix h0 o ho]
        simp [hlen]) fun j hj hn => by
      have hj' : Hs.length ≤ j := by
        rcases Nat.lt_or_ge j Hs.length with h' | h'
        · exact absurd (hτ j h') (hn j h')
        · exact h'
      simp only [List.length_append] at hj
      have e1 : ((H1 ++ E) ++ [o])[j]? = E[j - Hs.length]? := by rw [List.append_assoc, List.getElem?_append_right (by omega), hlen, List.getElem?_append_left (by omega)]
      have e2 : (Hs ++ E)[j]? = E[j - Hs.length]? := List.getElem?_append_right hj'
      exact e1.trans e2.symm
  rw [rens_fix hτ args hargs] at this
  simpa [AV.ren] using this
end Go.Proofs.Ytpkgpldgoajphaa.AM
