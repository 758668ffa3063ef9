/-
  AM: how abstract values stand to the model's values, abstract objects to blocks; that this stays as the world goes on.
-/
import Derived.Test.YtpkgpldgoajphaaAm0
import Derived.Laws.Sem
set_option linter.unusedVariables false
namespace Go.Proofs.Ytpkgpldgoajphaa.AM
open Go

structure Loc where
  b : Option Nat     -- none: a nil slice, of no room
  sh : Nat
  k : Nat
  room : Nat

/-- Where exclusive objects lie, and how often each was given away. -/
structure Cx where
  ι : Nat → Option Loc
  γ : Nat → Nat
def Cx.none : Cx := ⟨fun _ => Option.none, fun _ => 0⟩

/-- v is what the abstract value stands for. G: blocks that are never written again. -/
inductive VR (G : Nat → Prop) (w : World) : Cx → AV → Value → Prop
  | skip (C) : VR G w C .skip undef
  | unk (C v) : VR G w C .unk v
  | bool (C b) : VR G w C (.bool b) (.bool b)
  | int (C k n) : VR G w C (.int k n) (.int k n)
  | str (C s) : VR G w C (.str s) (.string s)
  | nilp (C) : VR G w C .nilp (.pointer Option.none)
  | nilf (C) : VR G w C .nilf .nilFunc
  | nili (C) : VR G w C .nili .nilIface
  | func (C f xs) (vs : Array Value) (hs : vs.size = xs.length) (h : ∀ i, i < xs.length → VR G w C (xs.getD i .skip) (vs.getD i undef)) : VR G w C (.func f xs) (.func (.func f) #[] vs)
  | iface (C t a v) (h : VR G w C a v) : VR G w C (.iface t a) (.iface t v)
  | agg (C xs) (vs : Array Value) (hs : vs.size = xs.length) (h1 : ∀ i, i < xs.length → (vs.getD i undef).oneCell' = true) (h : ∀ i, i < xs.length → VR G w C (xs.getD i .skip) (vs.getD i undef)) : VR G w C (.agg xs) (.agg vs)
  | tup (C xs) (vs : Array Value) (hs : vs.size = xs.length) (h : ∀ i, i < xs.length → VR G w C (xs.getD i .skip) (vs.getD i undef)) : VR G w C (.tup xs) (.tuple vs)
  | ref (C cs c b o) (hG : G b) (cv : Nat → Value) (hc : ∀ j, j < cs.length → w.cell? ⟨b, o + j, Option.none⟩ = some (cv j)) (h1 : ∀ j, j < cs.length → (cv j).oneCell' = true) (h : ∀ j, j < cs.length → VR G w Cx.none (cs.getD j .skip) (cv j)) :
      VR G w C (.ref cs c) (.pointer (some ⟨b, o + c, Option.none⟩))
  | nils (C g k) (hg : g = .nil ∨ g = .cn ∨ g = .any) : VR G w C (.sl g k []) (.slice Option.none 0 0)
  | sl (C g xs k ad cap) (hg : g ≠ .nil) (hclip : g = .clip ∨ g = .cn → cap = xs.length) (hle : xs.length ≤ cap) (hs : xs ≠ [] → ad.spot = Option.none ∧ G ad.block) (cv : Nat → Nat → Value)
      (hk : ∀ i, i < xs.length → (xs.getD i []).length = k) (hc : ∀ i j, i < xs.length → j < k → w.cell? ⟨ad.block, ad.off + i * k + j, Option.none⟩ = some (cv i j))
      (h1 : ∀ i j, i < xs.length → j < k → (cv i j).oneCell' = true) (h : ∀ i j, i < xs.length → j < k → VR G w Cx.none ((xs.getD i []).getD j .skip) (cv i j)) : VR G w C (.sl g k xs) (.slice (some ad) xs.length cap)
  | obj (C id g e c ad) (hle : g ≤ C.γ id) (h : g = C.γ id → ∃ l b, C.ι id = some l ∧ l.b = some b ∧ ad = ⟨b, l.sh + e * l.k + c, Option.none⟩) : VR G w C (.obj id g e c) (.pointer (some ad))
  | osl (C id g k e n ad cap) (hnc : n ≤ cap) (hle : g ≤ C.γ id) (h : g = C.γ id → ∃ l b, C.ι id = some l ∧ l.b = some b ∧ l.k = k ∧ e + n ≤ l.room ∧ cap = l.room - e ∧ (e < l.room → ad = ⟨b, l.sh + e * k, Option.none⟩)) :
      VR G w C (.osl id g k e n) (.slice (some ad) n cap)
  | osl0 (C id g k e base) (hle : g ≤ C.γ id) (h : g = C.γ id → ∃ l, C.ι id = some l ∧ l.b = Option.none ∧ l.k = k) : VR G w C (.osl id g k e 0) (.slice base 0 0)

/-- The context goes on: what was not given away lies where it lay. -/
def CxLe (C C' : Cx) : Prop := ∀ id, C.γ id ≤ C'.γ id ∧ (C'.γ id = C.γ id → ∀ l, C.ι id = some l → C'.ι id = some l)
theorem CxLe.refl (C : Cx) : CxLe C C := fun _ => ⟨Nat.le_refl _, fun _ _ h => h⟩
theorem CxLe.trans {A B C : Cx} (h : CxLe A B) (k : CxLe B C) : CxLe A C := fun id => ⟨Nat.le_trans (h id).1 (k id).1, fun e l hl => by
  have h1 := (h id).1
  have h2 := (k id).1
  exact (k id).2 (by omega) l ((h id).2 (by omega) l hl)⟩
theorem CxLe.none (C : Cx) : CxLe Cx.none C := fun _ => ⟨Nat.zero_le _, fun _ _ h => by simp [Cx.none] at h⟩

theorem cell_same {w w' : World} {b : Nat} (h : w'.heap[b]? = w.heap[b]?) (o : Nat) : w'.cell? ⟨b, o, Option.none⟩ = w.cell? ⟨b, o, Option.none⟩ := by
  unfold World.cell?
  simp only [h]

theorem VR.mono {G G' : Nat → Prop} {w w' : World} {C C' : Cx} {a : AV} {v : Value} (h : VR G w C a v) (hG : ∀ b, G b → G' b) (hw : ∀ b, G b → w'.heap[b]? = w.heap[b]?) (hC : CxLe C C') : VR G' w' C' a v := by
  induction h generalizing C' with
  | skip => exact .skip _
  | unk => exact .unk ..
  | bool => exact .bool ..
  | int => exact .int ..
  | str => exact .str ..
  | nilp => exact .nilp _
  | nilf => exact .nilf _
  | nili => exact .nili _
  | func C f xs vs hs h ih => exact .func _ _ _ _ hs fun i hi => ih i hi hC
  | iface C t a v h ih => exact .iface _ _ _ _ (ih hC)
  | agg C xs vs hs h1 h ih => exact .agg _ _ _ hs h1 fun i hi => ih i hi hC
  | tup C xs vs hs h ih => exact .tup _ _ _ hs fun i hi => ih i hi hC
  | ref C cs c b o hb cv hc h1 h ih => exact .ref _ _ _ _ _ (hG b hb) cv (fun j hj => (cell_same (hw b hb) _).trans (hc j hj)) h1 fun j hj => ih j hj (CxLe.refl _)
  | nils => exact .nils _ _ _ (by assumption)
  | sl C g xs k ad cap hg hclip hle hs cv hk hc h1 h ih =>
    refine .sl _ _ _ k _ _ hg hclip hle (fun hx => ⟨(hs hx).1, hG _ (hs hx).2⟩) cv hk (fun i j hi hj => ?_) h1 fun i j hi hj => ih i j hi hj (CxLe.refl _)
    have hx : xs ≠ [] := by intro e; simp [e] at hi
    exact (cell_same (hw _ (hs hx).2) _).trans (hc i j hi hj)
  | obj C id g e c ad hle h =>
    refine .obj _ _ _ _ _ _ (Nat.le_trans hle (hC id).1) fun hg => ?_
    have h1 := (hC id).1
    obtain ⟨l, b, hl, hv⟩ := h (by omega)
    exact ⟨l, b, (hC id).2 (by omega) l hl, hv⟩
  | osl C id g k e n ad cap hnc hle h =>
    refine .osl _ _ _ _ _ _ _ _ hnc (Nat.le_trans hle (hC id).1) fun hg => ?_
    have h1 := (hC id).1
    obtain ⟨l, b, hl, hr⟩ := h (by omega)
    exact ⟨l, b, (hC id).2 (by omega) l hl, hr⟩
  | osl0 C id g k e base hle h =>
    refine .osl0 _ _ _ _ _ _ (Nat.le_trans hle (hC id).1) fun hg => ?_
    have h1 := (hC id).1
    obtain ⟨l, hl, hr⟩ := h (by omega)
    exact ⟨l, (hC id).2 (by omega) l hl, hr⟩
theorem VR.lift {G : Nat → Prop} {w : World} {a : AV} {v : Value} (h : VR G w Cx.none a v) (C : Cx) : VR G w C a v := h.mono (fun _ h => h) (fun _ _ => rfl) (CxLe.none C)

/-- The context, cut off at object n. -/
def Cx.cut (C : Cx) (n : Nat) : Cx := ⟨fun id => if id < n then C.ι id else Option.none, fun id => if id < n then C.γ id else 0⟩
theorem bdds_get {b : Nat} : ∀ (xs : List AV), AV.bdds b xs = true → ∀ i, i < xs.length → AV.bdd b (xs.getD i .skip) = true
  | [], _, i, hi => by simp at hi
  | x :: xs, h, 0, _ => by simp [AV.bdds] at h; simpa using h.1
  | x :: xs, h, i + 1, hi => by
    simp [AV.bdds] at h
    simpa using bdds_get xs h.2 i (by simpa using hi)
theorem VR.cut {G : Nat → Prop} {w : World} {C : Cx} {a : AV} {v : Value} (h : VR G w C a v) (n : Nat) (hb : a.bdd n = true) : VR G w (C.cut n) a v := by
  induction h with
  | skip => exact .skip _
  | unk => exact .unk ..
  | bool => exact .bool ..
  | int => exact .int ..
  | str => exact .str ..
  | nilp => exact .nilp _
  | nilf => exact .nilf _
  | nili => exact .nili _
  | func C f xs vs hs h ih => exact .func _ _ _ _ hs fun i hi => ih i hi (bdds_get _ (by simpa [AV.bdd] using hb) i hi)
  | iface C t a v h ih => exact .iface _ _ _ _ (ih (by simpa [AV.bdd] using hb))
  | agg C xs vs hs h1 h ih => exact .agg _ _ _ hs h1 fun i hi => ih i hi (bdds_get _ (by simpa [AV.bdd] using hb) i hi)
  | tup C xs vs hs h ih => exact .tup _ _ _ hs fun i hi => ih i hi (bdds_get _ (by simpa [AV.bdd] using hb) i hi)
  | ref C cs c b o hG cv hc h1 h ih => exact .ref _ _ _ _ _ hG cv hc h1 h
  | nils => exact .nils _ _ _ (by assumption)
  | sl C g xs k ad cap hg hclip hle hs cv hk hc h1 h ih => exact .sl _ _ _ k _ _ hg hclip hle hs cv hk hc h1 h
  | obj C id g e c ad hle h =>
    have hid : id < n := by simpa [AV.bdd] using hb
    refine .obj _ _ _ _ _ _ (by simp only [Cx.cut, hid, if_true]; exact hle) fun hg => ?_
    simp only [Cx.cut, hid, if_true] at hg ⊢
    exact h hg
  | osl C id g k e n' ad cap hnc hle h =>
    have hid : id < n := by simpa [AV.bdd] using hb
    refine .osl _ _ _ _ _ _ _ _ hnc (by simp only [Cx.cut, hid, if_true]; exact hle) fun hg => ?_
    simp only [Cx.cut, hid, if_true] at hg ⊢
    exact h hg
  | osl0 C id g k e base hle h =>
    have hid : id < n := by simpa [AV.bdd] using hb
    refine .osl0 _ _ _ _ _ _ (by simp only [Cx.cut, hid, if_true]; exact hle) fun hg => ?_
    simp only [Cx.cut, hid, if_true] at hg ⊢
    exact h hg

/-- A slot or a cell of a value. -/
theorem VR.cells {G : Nat → Prop} {w : World} {C : Cx} {a : AV} {v : Value} (h : VR G w C a v) (hu : a ≠ .unk) :
    v.cells.size = a.cells.length ∧ ∀ i, i < a.cells.length → VR G w C (a.cells.getD i .skip) (v.cells.getD i undef) := by
  cases h with
  | agg _ xs vs hs h1 h => exact ⟨hs, h⟩
  | unk => exact absurd rfl hu
  | _ =>
    refine ⟨rfl, fun i hi => ?_⟩
    obtain rfl : i = 0 := by simp [AV.cells] at hi; omega
    first
      | exact .skip _
      | exact .bool ..
      | exact .int ..
      | exact .str ..
      | exact .nilp _
      | exact .nilf _
      | exact .nili _
      | (apply VR.nils <;> assumption)
      | (apply VR.func <;> assumption)
      | (apply VR.iface <;> assumption)
      | (apply VR.tup <;> assumption)
      | (apply VR.ref <;> assumption)
      | (apply VR.sl <;> assumption)
      | (apply VR.obj <;> assumption)
      | (apply VR.osl <;> assumption)
      | (apply VR.osl0 <;> assumption)

/-- The cells that a value takes in memory. -/
theorem VR.fit {G : Nat → Prop} {w : World} {C : Cx} {a : AV} {v : Value} (h : VR G w C a v) {size : Nat} {cs : List AV} (hf : a.fit size = some cs) :
    cs.length = size ∧ v.cells.size = size ∧ ∀ i, i < size → (v.cells.getD i undef).oneCell' = true ∧ VR G w C (cs.getD i .skip) (v.cells.getD i undef) := by
  have hu : a ≠ .unk := fun e => by subst e; simp [AV.fit] at hf
  have hcells := h.cells hu
  cases h with
  | agg _ xs vs hs h1 h =>
    simp only [AV.fit] at hf
    split at hf
    · rename_i hl
      simp only [Option.some.injEq] at hf
      subst hf
      exact ⟨hl, hs.trans hl, fun i hi => ⟨h1 i (by omega), h i (by omega)⟩⟩
    · simp at hf
  | tup => simp [AV.fit] at hf
  | skip => simp [AV.fit] at hf
  | unk => simp [AV.fit] at hf
  | _ =>
    simp only [AV.fit] at hf
    split at hf
    · rename_i hl
      simp only [Option.some.injEq] at hf
      subst hf hl
      refine ⟨rfl, rfl, fun i hi => ?_⟩
      obtain rfl : i = 0 := by omega
      exact ⟨rfl, hcells.2 0 (by simp [AV.cells])⟩
    · simp at hf

structure ObR (G : Nat → Prop) (w : World) (C : Cx) (o : Ob) (l : Loc) : Prop where
  k : o.k = l.k
  rm : ∀ r, o.room = some r → l.room = r
  no : l.b = Option.none → l.room = 0
  len : o.els.length ≤ l.room
  row : ∀ i, i < o.els.length → (o.els.getD i []).length = l.k
  cells : ∀ b, l.b = some b → ∃ cs e, w.heap[b]? = some (.cells cs e (0, 0)) ∧ l.sh + l.room * l.k ≤ cs.size ∧
    ∀ i j, i < o.els.length → j < l.k → (cs.getD (l.sh + i * l.k + j) undef).oneCell' = true ∧ VR G w C ((o.els.getD i []).getD j .skip) (cs.getD (l.sh + i * l.k + j) undef)

structure HR (G : Nat → Prop) (w : World) (C : Cx) (H : Heap) : Prop where
  gen : ∀ id o, H[id]? = some o → o.gen = C.γ id
  out : ∀ id, H.length ≤ id → C.γ id = 0 ∧ C.ι id = Option.none
  own : ∀ id l b, C.ι id = some l → l.b = some b → b < w.heap.size ∧ ¬ G b
  inj : ∀ i j l l' b, C.ι i = some l → C.ι j = some l' → l.b = some b → l'.b = some b → i = j
  ob : ∀ id o l, H[id]? = some o → C.ι id = some l → ObR G w C o l
  gsz : ∀ b, G b → b < w.heap.size

def FrR (G : Nat → Prop) (w : World) (C : Cx) (F : Fr) (tmps : Array Value) : Prop :=
  F.length = tmps.size ∧ ∀ t a, F[t]? = some (some a) → VR G w C a (tmps.getD t undef)

/-- The world goes on. -/
structure Ev (G : Nat → Prop) (w : World) (C : Cx) (G' : Nat → Prop) (w' : World) (C' : Cx) : Prop where
  os : w'.os = w.os
  tape : w'.tape = w.tape
  output : w'.output = w.output
  size : w.heap.size ≤ w'.heap.size
  lock : ∀ b, G b → G' b
  same : ∀ b, G b → w'.heap[b]? = w.heap[b]?
  cx : CxLe C C'
  rest : ∀ b, b < w.heap.size → (∀ id l, C.ι id = some l → l.b ≠ some b) → w'.heap[b]? = w.heap[b]?
  grow : ∀ b, G' b → G b ∨ (∃ id l, C.ι id = some l ∧ l.b = some b) ∨ w.heap.size ≤ b
  own : ∀ id l b, C'.ι id = some l → l.b = some b → (∃ j k, C.ι j = some k ∧ k.b = some b) ∨ w.heap.size ≤ b
  frz : ∀ a, w'.frozen? a = w.frozen? a
theorem Ev.refl (G : Nat → Prop) (w : World) (C : Cx) : Ev G w C G w C := ⟨rfl, rfl, rfl, Nat.le_refl _, fun _ h => h, fun _ _ => rfl, CxLe.refl _, fun _ _ _ => rfl, fun _ h => .inl h, fun id l b hl hb => .inl ⟨id, l, hl, hb⟩, fun _ => rfl⟩
/-- The part of it that values ask. -/
structure Mv (G : Nat → Prop) (w : World) (C : Cx) (G' : Nat → Prop) (w' : World) (C' : Cx) : Prop where
  lock : ∀ b, G b → G' b
  same : ∀ b, G b → w'.heap[b]? = w.heap[b]?
  cx : CxLe C C'
theorem VR.mv {G G' : Nat → Prop} {w w' : World} {C C' : Cx} {a : AV} {v : Value} (h : VR G w C a v) (e : Mv G w C G' w' C') : VR G' w' C' a v := h.mono e.lock e.same e.cx
theorem Ev.trans {G G' G'' : Nat → Prop} {w w' w'' : World} {C C' C'' : Cx} (h : Ev G w C G' w' C') (k : Ev G' w' C' G'' w'' C'') : Ev G w C G'' w'' C'' := by
  refine ⟨k.os.trans h.os, k.tape.trans h.tape, k.output.trans h.output, Nat.le_trans h.size k.size, fun b hb => k.lock b (h.lock b hb), fun b hb => (k.same b (h.lock b hb)).trans (h.same b hb), h.cx.trans k.cx, fun b hb hn => ?_, fun b hb => ?_, fun id l b hl hlb => ?_, fun a => (k.frz a).trans (h.frz a)⟩
  · refine (k.rest b (Nat.lt_of_lt_of_le hb h.size) fun id l hl e => ?_).trans (h.rest b hb hn)
    rcases h.own id l b hl e with ⟨j, m, hm, e'⟩ | hs
    · exact hn j m hm e'
    · omega
  · have hs := h.size
    rcases k.grow b hb with h1 | ⟨id, l, hl, e⟩ | h1
    · exact h.grow b h1
    · rcases h.own id l b hl e with ⟨j, m, hm, e'⟩ | h2
      · exact .inr (.inl ⟨j, m, hm, e'⟩)
      · exact .inr (.inr h2)
    · exact .inr (.inr (by omega))
  · have hs := h.size
    rcases k.own id l b hl hlb with ⟨j, m, hm, e⟩ | h1
    · rcases h.own j m b hm e with ⟨j', m', hm', e'⟩ | h2
      · exact .inl ⟨j', m', hm', e'⟩
      · exact .inr h2
    · exact .inr (by omega)
theorem VR.ev {G G' : Nat → Prop} {w w' : World} {C C' : Cx} {a : AV} {v : Value} (h : VR G w C a v) (e : Ev G w C G' w' C') : VR G' w' C' a v := h.mono e.lock e.same e.cx
theorem FrR.ev {G G' : Nat → Prop} {w w' : World} {C C' : Cx} {F : Fr} {tmps : Array Value} (h : FrR G w C F tmps) (e : Ev G w C G' w' C') : FrR G' w' C' F tmps := ⟨h.1, fun t a ht => (h.2 t a ht).ev e⟩
theorem FrR.set {G : Nat → Prop} {w : World} {C : Cx} {F : Fr} {tmps : Array Value} (h : FrR G w C F tmps) (d : Nat) (a : AV) (v : Value) (hv : VR G w C a v) : FrR G w C (F.set d (some a)) (tmps.setIfInBounds d v) := by
  refine ⟨by simpa using h.1, fun t b ht => ?_⟩
  rw [List.getElem?_set] at ht
  by_cases e : d = t
  · subst e
    simp only [if_true] at ht
    split at ht
    · rename_i hlt
      simp only [Option.some.injEq] at ht
      subst ht
      rw [h.1] at hlt
      simpa [Array.getD_eq_getD_getElem?, hlt] using hv
    · simp at ht
  · simp only [e, if_false] at ht
    have := h.2 t b ht
    simpa [Array.getD_eq_getD_getElem?, Array.getElem?_setIfInBounds, e] using this
theorem FrR.forget {G : Nat → Prop} {w : World} {C : Cx} {F : Fr} {tmps : Array Value} (h : FrR G w C F tmps) (d : Nat) (v : Value) : FrR G w C (F.set d Option.none) (tmps.setIfInBounds d v) := by
  refine ⟨by simpa using h.1, fun t b ht => ?_⟩
  rw [List.getElem?_set] at ht
  by_cases e : d = t
  · subst e
    simp only [if_true] at ht
    split at ht <;> simp at ht
  · simp only [e, if_false] at ht
    have := h.2 t b ht
    simpa [Array.getD_eq_getD_getElem?, Array.getElem?_setIfInBounds, e] using this
end Go.Proofs.Ytpkgpldgoajphaa.AM
