/-
  AM: exclusive objects: one of them is turned, made, given away; the others stay.
-/
import Derived.Test.YtpkgpldgoajphaaAm9
import Derived.Test.YtpkgpldgoajphaaAm10
import Derived.Laws.AppendOwn
import Derived.Laws.CopyRow
set_option linter.unusedVariables false
set_option linter.unusedSimpArgs false
namespace Go.Proofs.Ytpkgpldgoajphaa.AM
open Go

/-- Objects that are announced and not made: nothing turns them. -/
def Pd (S : Nat → Prop) (C : Cx) (H : Heap) (C' : Cx) (H' : Heap) : Prop :=
  H.length ≤ H'.length ∧ ∀ id, id < H.length → S id → C.ι id = none → C'.ι id = none ∧ C'.γ id = C.γ id ∧ H'[id]? = H[id]?
theorem Pd.refl {S : Nat → Prop} {C : Cx} {H : Heap} : Pd S C H C H := ⟨Nat.le_refl _, fun _ _ _ h => ⟨h, rfl, rfl⟩⟩
theorem Pd.trans {S : Nat → Prop} {C C' C'' : Cx} {H H' H'' : Heap} (h : Pd S C H C' H') (k : Pd S C' H' C'' H'') : Pd S C H C'' H'' :=
  ⟨Nat.le_trans h.1 k.1, fun id hl hs hi => by
    obtain ⟨h1, h2, h3⟩ := h.2 id hl hs hi
    obtain ⟨k1, k2, k3⟩ := k.2 id (Nat.lt_of_lt_of_le hl h.1) hs h1
    exact ⟨k1, k2.trans h2, k3.trans h3⟩⟩
theorem Pd.weaken {S S' : Nat → Prop} {C C' : Cx} {H H' : Heap} (h : Pd S C H C' H') (hs : ∀ id, S' id → S id) : Pd S' C H C' H' := ⟨h.1, fun id hl h' => h.2 id hl (hs id h')⟩
def AnyId : Nat → Prop := fun _ => True

section
variable {P : Program} {T : TT} {G G' : Nat → Prop} {w w' : World} {C C' : Cx} {F : Fr} {act : Act} {H H' : Heap}

theorem ObR.ev {o : Ob} {l : Loc} (h : ObR G w C o l) (e : Ev G w C G' w' C') (hb : ∀ b, l.b = some b → w'.heap[b]? = w.heap[b]?) : ObR G' w' C' o l := by
  obtain ⟨hk, hrm, hno, hlen, hrow, hcs⟩ := h
  refine ⟨hk, hrm, hno, hlen, hrow, fun b hlb => ?_⟩
  obtain ⟨cs, t, hc, hcs, hcell⟩ := hcs b hlb
  exact ⟨cs, t, (hb b hlb).trans hc, hcs, fun i j hi hj => ⟨(hcell i j hi hj).1, (hcell i j hi hj).2.ev e⟩⟩

/-- One object is turned. -/
theorem HR.upd (h : HR G w C H) (id : Nat) (o' : Ob)
    (hos : w'.os = w.os) (htape : w'.tape = w.tape) (hout : w'.output = w.output)
    (hC : ∀ j, j ≠ id → C'.ι j = C.ι j ∧ C'.γ j = C.γ j) (hγ : C.γ id ≤ C'.γ id) (hι : C'.γ id = C.γ id → ∀ l, C.ι id = some l → C'.ι id = some l)
    (hH : ∀ j, j ≠ id → H'[j]? = H[j]?) (hid : H'[id]? = some o') (hlen : H.length ≤ H'.length) (hle : id ≤ H.length) (hgen : o'.gen = C'.γ id)
    (hG : ∀ b, G b → G' b) (hG' : ∀ b, G' b → G b ∨ (∃ l, C.ι id = some l ∧ l.b = some b) ∨ w.heap.size ≤ b)
    (hw : ∀ b, b < w.heap.size → (∀ l, C.ι id = some l → l.b ≠ some b) → w'.heap[b]? = w.heap[b]?) (hsz : w.heap.size ≤ w'.heap.size) (hGs : ∀ b, G' b → b < w'.heap.size)
    (hown : ∀ l' b, C'.ι id = some l' → l'.b = some b → (∃ l, C.ι id = some l ∧ l.b = some b) ∨ w.heap.size ≤ b)
    (hfrz : ∀ a, w'.frozen? a = w.frozen? a)
    (hob : ∀ l', C'.ι id = some l' → (∀ b, l'.b = some b → b < w'.heap.size ∧ ¬ G' b ∧ (∀ j, j ≠ id → ∀ l, C.ι j = some l → l.b ≠ some b)) ∧ ObR G' w' C' o' l') :
    Ev G w C G' w' C' ∧ HR G' w' C' H' := by
  have hidlt : id < H'.length := by
    rcases Nat.lt_or_ge id H'.length with h' | h'
    · exact h'
    · rw [List.getElem?_eq_none h'] at hid; simp at hid
  have hev : Ev G w C G' w' C' := by
    refine ⟨hos, htape, hout, hsz, hG, fun b hb => hw b (h.gsz b hb) fun l hl e => (h.own id l b hl e).2 hb, fun j => ?_, fun b hb hn => hw b hb fun l hl e => hn id l hl e,
      fun b hb => (hG' b hb).imp (fun h => h) fun h => h.imp (fun ⟨l, hl, e⟩ => ⟨id, l, hl, e⟩) fun h => h, fun j l b hl hlb => ?_, hfrz⟩
    · by_cases e : j = id
      · subst e; exact ⟨hγ, hι⟩
      obtain ⟨h1, h2⟩ := hC j e
      exact ⟨Nat.le_of_eq h2.symm, fun _ l hl => by rw [h1]; exact hl⟩
    · by_cases e : j = id
      · subst e
        exact (hown l b hl hlb).imp (fun ⟨l0, hl0, e⟩ => ⟨j, l0, hl0, e⟩) fun h => h
      · rw [(hC j e).1] at hl
        exact .inl ⟨j, l, hl, hlb⟩
  have hkept : ∀ j, j ≠ id → ∀ l, C.ι j = some l → ∀ b, l.b = some b → w'.heap[b]? = w.heap[b]? := fun j hj l hl b hlb => hw _ (h.own j l b hl hlb).1 fun l2 hl2 e => hj (h.inj _ _ _ _ b hl hl2 hlb e)
  refine ⟨hev, fun j o ho => ?_, fun j hj => ?_, fun j l b hl hlb => ?_, fun i j l l2 b hi hj e1b e2b => ?_, fun j o l ho hl => ?_, hGs⟩
  · by_cases e : j = id
    · subst e; rw [hid] at ho; cases ho; exact hgen
    · rw [hH j e] at ho; rw [(hC j e).2]; exact h.gen j o ho
  · have e : j ≠ id := by omega
    rw [(hC j e).1, (hC j e).2]
    exact h.out j (by omega)
  · by_cases e : j = id
    · subst e; exact ⟨((hob l hl).1 b hlb).1, ((hob l hl).1 b hlb).2.1⟩
    · rw [(hC j e).1] at hl
      obtain ⟨h1, h2⟩ := h.own j l b hl hlb
      refine ⟨by omega, fun hg => ?_⟩
      rcases hG' _ hg with hg | ⟨l2, hl2, hb⟩ | hg
      · exact h2 hg
      · exact e (h.inj _ _ _ _ b hl hl2 hlb hb)
      · omega
  · by_cases e1 : i = id
    · by_cases e2 : j = id
      · omega
      · subst e1
        rw [(hC j e2).1] at hj
        exact absurd e2b (((hob l hi).1 b e1b).2.2 j e2 l2 hj)
    · by_cases e2 : j = id
      · subst e2
        rw [(hC i e1).1] at hi
        exact absurd e1b (((hob l2 hj).1 b e2b).2.2 i e1 l hi)
      · rw [(hC i e1).1] at hi
        rw [(hC j e2).1] at hj
        exact h.inj _ _ _ _ b hi hj e1b e2b
  · by_cases e : j = id
    · subst e; rw [hid] at ho; cases ho; exact (hob l hl).2
    · rw [hH j e] at ho
      rw [(hC j e).1] at hl
      exact (h.ob j o l ho hl).ev hev (hkept j e l hl)
theorem HR.lt (h : HR G w C H) {id : Nat} {l : Loc} (hl : C.ι id = some l) : id < H.length := by
  rcases Nat.lt_or_ge id H.length with h' | h'
  · exact h'
  · rw [(h.out id h').2] at hl; simp at hl

/-- The context with one object laid elsewhere. -/
def Cx.lay (C : Cx) (id : Nat) (l : Option Loc) (g : Nat) : Cx := ⟨fun j => if j = id then l else C.ι j, fun j => if j = id then g else C.γ j⟩
theorem Cx.lay_ι (C : Cx) (id : Nat) (l : Option Loc) (g : Nat) : (C.lay id l g).ι id = l := by simp [Cx.lay]
theorem Cx.lay_γ (C : Cx) (id : Nat) (l : Option Loc) (g : Nat) : (C.lay id l g).γ id = g := by simp [Cx.lay]
theorem Cx.lay_ne (C : Cx) (id : Nat) (l : Option Loc) (g : Nat) {j : Nat} (h : j ≠ id) : (C.lay id l g).ι j = C.ι j ∧ (C.lay id l g).γ j = C.γ j := by simp [Cx.lay, h]

/-- Objects that are announced. -/
theorem HR.add (h : HR G w C H) (al : Heap) (hg : ∀ o ∈ al, o.gen = 0) : HR G w C (H ++ al) := by
  refine ⟨fun id o ho => ?_, fun id hid => h.out id (by simp at hid; omega), h.own, h.inj, fun id o l ho hl => ?_, h.gsz⟩
  · rcases Nat.lt_or_ge id H.length with h' | h'
    · rw [List.getElem?_append_left h'] at ho; exact h.gen id o ho
    · rw [List.getElem?_append_right h'] at ho
      rw [(h.out id h').1]
      exact hg _ (List.mem_of_getElem? ho)
  · have := h.lt hl
    rw [List.getElem?_append_left this] at ho
    exact h.ob id o l ho hl
theorem allocs_gen : ∀ {ops : List Oper} {al : Heap}, allocs T ops = some al → ∀ o ∈ al, o.gen = 0
  | [], al, h => by simp [allocs] at h; subst h; simp
  | o :: os, al, h => by
    unfold allocs at h
    split at h
    · split at h
      · rename_i ti l _ hl
        simp only [Option.some.injEq] at h
        subst h
        intro x hx
        simp only [List.mem_cons] at hx
        rcases hx with rfl | hx
        · rfl
        · exact allocs_gen hl x hx
      · simp at h
    · exact allocs_gen h

/-- A new block, made of cells that are known, for an announced or a new object. -/
theorem HR.made (h : HR G w C H) (id : Nat) (k : Nat) (els : List (List AV)) (cells : Array Value) (e : TypeId)
    (hdr : w'.heap = (w.alloc (.cells cells e (0, 0))).heap) (hos : w'.os = w.os) (htape : w'.tape = w.tape) (hout : w'.output = w.output)
    (room g : Nat) (hroom : els.length ≤ room) (hcs : room * k ≤ cells.size) (hrow : ∀ i, i < els.length → (els.getD i []).length = k)
    (hg : C.γ id ≤ g) (hgι : g = C.γ id → C.ι id = none)
    (hH : ∀ j, j ≠ id → H'[j]? = H[j]?) (hid : H'[id]? = some ⟨g, k, els, none⟩) (hlen : H.length ≤ H'.length) (hle : id ≤ H.length)
    (hcell : ∀ i j, i < els.length → j < k → (cells.getD (i * k + j) undef).oneCell' = true ∧ VR G w C ((els.getD i []).getD j .skip) (cells.getD (i * k + j) undef)) :
    Ev G w C G w' (C.lay id (some ⟨some w.heap.size, 0, k, room⟩) g) ∧ HR G w' (C.lay id (some ⟨some w.heap.size, 0, k, room⟩) g) H' := by
  have hnew : w'.heap[w.heap.size]? = some (.cells cells e (0, 0)) := by rw [hdr]; exact heap_alloc_new w _
  have hold : ∀ b, b < w.heap.size → w'.heap[b]? = w.heap[b]? := fun b hb => by rw [hdr]; exact heap_alloc_old w _ hb
  have hfr : ∀ a, w'.frozen? a = w.frozen? a := fun a => by
    rw [← Go.RowKit.frozen?_alloc_cells w cells e a]
    unfold World.frozen?
    rw [hdr]
  have hsz : w'.heap.size = w.heap.size + 1 := by rw [hdr]; simp
  have hCle : CxLe C (C.lay id (some ⟨some w.heap.size, 0, k, room⟩) g) := fun j => by
    by_cases e : j = id
    · subst e
      rw [Cx.lay_γ, Cx.lay_ι]
      refine ⟨hg, fun e l hl => ?_⟩
      rw [hgι e] at hl; simp at hl
    · rw [(Cx.lay_ne _ _ _ _ e).1, (Cx.lay_ne _ _ _ _ e).2]; exact ⟨Nat.le_refl _, fun _ _ h => h⟩
  have hev : Mv G w C G w' (C.lay id (some ⟨some w.heap.size, 0, k, room⟩) g) := ⟨fun _ h => h, fun b hb => hold b (h.gsz b hb), hCle⟩
  refine h.upd (G' := G) id ⟨g, k, els, none⟩ hos htape hout (fun j hj => Cx.lay_ne _ _ _ _ hj) (by rw [Cx.lay_γ]; exact hg) (fun e l hl => ?_) hH hid hlen hle (by rw [Cx.lay_γ]) (fun _ h => h) (fun b hb => .inl hb)
    (fun b hb _ => hold b hb) (by omega) (fun b hb => by have := h.gsz b hb; omega) (fun l' b hl' hlb => ?_) hfr fun l' hl' => ?_
  · rw [Cx.lay_γ] at e
    rw [hgι e] at hl; simp at hl
  · rw [Cx.lay_ι] at hl'
    simp only [Option.some.injEq] at hl'
    subst hl'
    simp only [Option.some.injEq] at hlb
    exact .inr (by omega)
  · rw [Cx.lay_ι] at hl'
    simp only [Option.some.injEq] at hl'
    subst hl'
    refine ⟨fun b hb => ?_, rfl, fun r hr => by simp at hr, fun hn => by simp at hn, hroom, hrow, fun b hb => ⟨cells, e, ?_, by simp; omega, fun i j hi hj => ?_⟩⟩
    · simp only [Option.some.injEq] at hb
      subst hb
      refine ⟨by omega, fun hb => ?_, fun j hj l hl e => ?_⟩
      · have := h.gsz _ hb; simp at this
      · have := (h.own j l _ hl e).1; omega
    · simp only [Option.some.injEq] at hb
      subst hb
      exact hnew
    · have := hcell i j hi hj
      simp only [Nat.zero_add]
      exact ⟨this.1, this.2.mv hev⟩
end
end Go.Proofs.Ytpkgpldgoajphaa.AM
