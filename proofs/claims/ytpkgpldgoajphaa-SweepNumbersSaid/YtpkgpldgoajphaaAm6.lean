/-
  AM: indexing, building, converting: as the evaluator says; new blocks.
-/
import Derived.Test.YtpkgpldgoajphaaAm5
import Derived.Below
import Derived.RowKit3
set_option linter.unusedVariables false
set_option linter.unusedSimpArgs false
namespace Go.Proofs.Ytpkgpldgoajphaa.AM
open Go
section
variable {P : Program} {T : TT} {G : Nat → Prop} {w : World} {C : Cx} {F : Fr} {act : Act} {H : Heap}

theorem evIndexAddr_sound (hT : TOk P T) {t : TypeId} {x a : AV} {u : Value} {k : IntKind} {i : Int} (hx : VR G w C x u) (h : evIndexAddr T t x i = some a) : ∃ v, (Instr.indexAt t u (.int k i)).run P w = .ok v w ∧ VR G w C a v := by
  unfold evIndexAddr at h
  split at h
  · rename_i e _ _ _ ht
    have hu : P.underlying t = some (.slice e) := (hT _ _ ht).und
    split at h
    · rename_i k0 g k' xs hsz
      obtain ⟨te, hte, hks, hsz⟩ := sizeOf_some hT hsz
      split at h
      · rename_i hi
        obtain ⟨h0, rfl⟩ := hi
        cases hxs : xs[i.toNat]? with
        | none => simp [hxs] at h
        | some cs =>
          simp [hxs] at h; subst h
          have hlt : i.toNat < xs.length := by
            rcases Nat.lt_or_ge i.toNat xs.length with h' | h'
            · exact h'
            · rw [List.getElem?_eq_none h'] at hxs; simp at hxs
          cases hx with
          | nils => simp at hlt
          | sl _ _ _ _ ad cap hg hclip hle hs cv hk hc h1 hv =>
            have hne : xs ≠ [] := by intro e; simp [e] at hlt
            obtain ⟨h3, h4⟩ := hs hne
            obtain ⟨ab, ao, asp⟩ := ad
            simp only at h3
            subst h3
            have hgd : xs.getD i.toNat [] = cs := by simp [List.getD_eq_getElem?_getD, hxs]
            have hlen : cs.length = k0 := by rw [← hgd]; exact hk _ hlt
            refine ⟨.pointer (some ⟨ab, ao + i.toNat * k0, none⟩), ?_, ?_⟩
            · have h2 : i < (xs.length : Int) := by omega
              simp [Instr.indexAt, asIntOf, run_underlying hu, h0, h2, hsz, add_addr]
            · refine VR.ref C cs 0 ab (ao + i.toNat * k0) h4 (fun j => cv i.toNat j) (fun j hj => hc _ _ hlt (by omega)) (fun j hj => h1 _ _ hlt (by omega)) fun j hj => ?_
              have := hv i.toNat j hlt (by omega)
              rwa [hgd] at this
      · simp at h
    · rename_i k0 id g k' e0 n hsz
      obtain ⟨te, hte, hks, hsz⟩ := sizeOf_some hT hsz
      split at h
      · rename_i hi
        obtain ⟨h0, h1, rfl⟩ := hi
        simp only [Option.some.injEq] at h
        subst h
        cases hx with
        | osl _ _ _ _ _ _ ad cap hnc hle hl =>
          refine ⟨.pointer (some (ad.add (i.toNat * k0))), ?_, ?_⟩
          · simp [Instr.indexAt, asIntOf, run_underlying hu, h0, h1, hsz]
          · refine .obj _ _ _ _ _ _ hle fun hg => ?_
            obtain ⟨L, b, hι, hLb, hLk, hen, hcap, had⟩ := hl hg
            refine ⟨L, b, hι, hLb, ?_⟩
            rw [had (by omega), add_addr, Nat.add_mul, hLk]
            simp [Nat.add_assoc]
        | osl0 => exact absurd h1 (by omega)
      · simp at h
    · simp at h
  · rename_i n e _ _ _ ht
    have hu : P.underlying t = some (.array n e) := (hT _ _ ht).und
    split at h
    · rename_i k0 cs c hsz
      obtain ⟨te, hte, hks, hsz⟩ := sizeOf_some hT hsz
      split at h
      · rename_i hi
        simp only [Option.some.injEq] at h
        subst h
        cases hx with
        | ref _ _ _ b o hG cv hc h1 hv =>
          refine ⟨.pointer (some ⟨b, o + c + i.toNat * k0, none⟩), ?_, ?_⟩
          · simp [Instr.indexAt, asIntOf, run_underlying hu, hi.1, hi.2, hsz, Instr.sureAddr, add_addr]
          · rw [Nat.add_assoc]; exact .ref _ _ _ _ _ hG cv hc h1 hv
      · simp at h
    · rename_i k0 id g e0 c hsz
      obtain ⟨te, hte, hks, hsz⟩ := sizeOf_some hT hsz
      split at h
      · rename_i hi
        simp only [Option.some.injEq] at h
        subst h
        cases hx with
        | obj _ _ _ _ _ ad hle hl =>
          refine ⟨.pointer (some (ad.add (i.toNat * k0))), ?_, ?_⟩
          · simp [Instr.indexAt, asIntOf, run_underlying hu, hi.1, hi.2, hsz, Instr.sureAddr]
          · refine .obj _ _ _ _ _ _ hle fun hg => ?_
            obtain ⟨L, b, hι, hLb, hL⟩ := hl hg
            exact ⟨L, b, hι, hLb, by rw [hL, add_addr, Nat.add_assoc]⟩
      · simp at h
    · simp at h
  · simp at h

theorem evIndex_sound (hT : TOk P T) {t : TypeId} {x a : AV} {u : Value} {k : IntKind} {i : Int} (hx : VR G w C x u) (h : evIndex T t x i = some a) : ∃ v, (Instr.index t u (.int k i)).run P w = .ok v w ∧ VR G w C a v := by
  unfold evIndex at h
  split at h
  · rename_i n e _ _ _ cs ht
    have hu : P.underlying t = some (.array n e) := (hT _ _ ht).und
    split at h
    · rename_i k0 hsz
      obtain ⟨te, hte, hks, hsz⟩ := sizeOf_some hT hsz
      split at h
      · rename_i hi
        cases hx with
        | agg _ _ vs hs h1 hv =>
          obtain ⟨v, hv1, hv2⟩ := part_sound (P := P) hT h hs h1 hv
          exact ⟨v, by simp [Instr.index, asIntOf, run_underlying hu, hi.1, hi.2, hsz, hv1], hv2⟩
      · simp at h
    · simp at h
  · rename_i s ht
    have hu : P.underlying t = some .string := (hT _ _ ht).und
    cases hx
    cases hb : (if 0 ≤ i then s[i.toNat]? else none) with
    | none => simp [hb] at h
    | some b =>
      simp [hb] at h; subst h
      exact ⟨.int .u8 b.toNat, by simp [Instr.index, asIntOf, run_underlying hu, hb], .int ..⟩
  · simp at h

/-- Cells that are wholly known. -/
def CF (G : Nat → Prop) (w : World) (C : Cx) (xs : List AV) (vs : Array Value) : Prop := vs.size = xs.length ∧ ∀ i, i < xs.length → (vs.getD i undef).oneCell' = true ∧ VR G w C (xs.getD i .skip) (vs.getD i undef)
theorem fold_set (o : Nat) : ∀ (l : List (Value × Nat)) (cs : Array Value), (l.foldl (fun cs (p : Value × Nat) => cs.setIfInBounds (o + p.2) p.1) cs).size = cs.size := by
  intro l
  induction l with
  | nil => intro cs; rfl
  | cons p l ih => intro cs; simp [ih]
theorem fold_get (o : Nat) : ∀ (vs : List Value) (s : Nat) (cs : Array Value) (i : Nat), i < cs.size →
    ((vs.zipIdx s).foldl (fun cs (p : Value × Nat) => cs.setIfInBounds (o + p.2) p.1) cs).getD i undef = if o + s ≤ i ∧ i < o + s + vs.length then vs.getD (i - (o + s)) undef else cs.getD i undef := by
  intro vs
  induction vs with
  | nil => intro s cs i hi; simp [show ¬ (o + s ≤ i ∧ i < o + s) by omega]
  | cons v vs ih =>
    intro s cs i hi
    simp only [List.zipIdx_cons, List.foldl_cons]
    rw [ih (s + 1) _ i (by simpa using hi)]
    simp only [List.length_cons]
    by_cases h1 : i = o + s
    · subst h1
      simp [Array.getD_eq_getD_getElem?, hi, show ¬ (o + (s + 1) ≤ o + s) by omega]
    · by_cases h2 : o + (s + 1) ≤ i ∧ i < o + (s + 1) + vs.length
      · rw [if_pos h2, if_pos (by omega)]
        obtain ⟨d, hd⟩ : ∃ d, i - (o + s) = d + 1 := ⟨i - (o + s) - 1, by omega⟩
        rw [hd, show i - (o + (s + 1)) = d by omega]
        simp
      · rw [if_neg h2, if_neg (by omega)]
        simp [Array.getD_eq_getD_getElem?, Array.getElem?_setIfInBounds, show ¬ (o + s = i) by omega]
theorem fillAt_sound {xs : List AV} {vs : Array Value} {ys : List AV} {us : Array Value} {o : Nat} (h : CF G w C xs vs) (k : CF G w C ys us) (ho : o + ys.length ≤ xs.length) :
    CF G w C (fillAt xs o ys) (us.zipIdx.foldl (fun cs (p : Value × Nat) => cs.setIfInBounds (o + p.2) p.1) vs) := by
  have e : us.zipIdx.foldl (fun cs (p : Value × Nat) => cs.setIfInBounds (o + p.2) p.1) vs = (us.toList.zipIdx 0).foldl (fun cs (p : Value × Nat) => cs.setIfInBounds (o + p.2) p.1) vs := by
    rw [← Array.foldl_toList]; simp
  have hlen : (fillAt xs o ys).length = xs.length := by simp [fillAt]; omega
  rw [e]
  refine ⟨by rw [fold_set, hlen]; exact h.1, fun i hi => ?_⟩
  rw [hlen] at hi
  rw [fold_get _ _ _ _ _ (by rw [h.1]; exact hi)]
  have hus : us.toList.length = ys.length := by simpa using k.1
  unfold fillAt
  by_cases hc : o + 0 ≤ i ∧ i < o + 0 + us.toList.length
  · rw [if_pos hc]
    have := k.2 (i - o) (by omega)
    have e2 : (xs.take o ++ ys ++ xs.drop (o + ys.length)).getD i .skip = ys.getD (i - o) .skip := by
      simp only [List.getD_eq_getElem?_getD]
      rw [List.append_assoc, List.getElem?_append_right (by simp; omega), List.getElem?_append_left (by simp; omega)]
      simp [show min o xs.length = o by omega]
    rw [e2]
    simpa [Array.getD_eq_getD_getElem?, List.getD_eq_getElem?_getD] using this
  · rw [if_neg hc]
    have := h.2 i hi
    have e2 : (xs.take o ++ ys ++ xs.drop (o + ys.length)).getD i .skip = xs.getD i .skip := by
      simp only [List.getD_eq_getElem?_getD]
      rw [List.append_assoc]
      by_cases hlo : i < o
      · rw [List.getElem?_append_left (by simp; omega), List.getElem?_take, if_pos hlo]
      · rw [List.getElem?_append_right (by simp; omega), List.getElem?_append_right (by simp; omega)]
        simp only [List.length_take, List.getElem?_drop, show min o xs.length = o by omega]
        congr 2
        omega
    rw [e2]
    exact this

theorem fill_sound (hF : FrR G w C F act.tmps) {place place' : Nat → Option (Nat × Nat)} (hp : ∀ i p, place i = some p → place' i = some p) : ∀ {parts : List (Nat × Operand)} {xs ys : List AV} {vs : Array Value}, CF G w C xs vs → evBuild T F place parts xs = some ys →
    ∃ us, Instr.fill place' vs (parts.map fun p => (p.1, act.eval p.2)) = some us ∧ CF G w C ys us
  | [], xs, ys, vs, hc, h => by simp [evBuild] at h; subst h; exact ⟨vs, rfl, hc⟩
  | (i, x) :: rest, xs, ys, vs, hc, h => by
    simp only [evBuild] at h
    split at h
    · rename_i o size v hpl hv
      split at h
      · rename_i cs hfit
        split at h
        · rename_i hsz
          obtain ⟨h1, h2, h3⟩ := (opv_sound (act := act) hF hv).fit hfit
          simp only [List.map_cons, Instr.fill, hp _ _ hpl]
          rw [if_neg (by rw [h2, hc.1]; simp; omega)]
          exact fill_sound hF hp (fillAt_sound hc ⟨h2.trans h1.symm, fun i hi => h3 i (by omega)⟩ (by omega)) h
        · simp at h
      · simp at h
    · simp at h

theorem HR.alloc {o : Obj} (h : HR G w C H) : HR (fun b => G b ∨ b = w.heap.size) (w.alloc o) C H := by
  have hold : ∀ b, b < w.heap.size → (w.alloc o).heap[b]? = w.heap[b]? := fun b hb => Go.RowKit.Below.heap_alloc w o b hb
  refine ⟨h.gen, h.out, fun id l b hl hlb => ?_, h.inj, fun id ob l hob hl => ?_, fun b hb => ?_⟩
  · obtain ⟨h1, h2⟩ := h.own id l b hl hlb
    refine ⟨by simp; omega, fun h3 => ?_⟩
    rcases h3 with h3 | h3
    · exact h2 h3
    · omega
  · obtain ⟨hk, hrm, hno, hlen, hrow, hcs⟩ := h.ob id ob l hob hl
    refine ⟨hk, hrm, hno, hlen, hrow, fun b hlb => ?_⟩
    obtain ⟨h1, h2⟩ := h.own id l b hl hlb
    obtain ⟨cs, e, hb, hcs, hcell⟩ := hcs b hlb
    exact ⟨cs, e, (hold _ h1).trans hb, hcs, fun i j hi hj => ⟨(hcell i j hi hj).1, (hcell i j hi hj).2.mono (fun b hb => .inl hb) (fun b hb => hold b (h.gsz b hb)) (CxLe.refl _)⟩⟩
  · rcases hb with hb | hb
    · have := h.gsz b hb; simp; omega
    · simp; omega
theorem Ev.alloc {cs : Array Value} {t : TypeId} (h : HR G w C H) : Ev G w C (fun b => G b ∨ b = w.heap.size) (w.alloc (.cells cs t (0, 0))) C :=
  let o : Obj := .cells cs t (0, 0)
  ⟨rfl, rfl, rfl, by simp, fun b hb => .inl hb, fun b hb => Go.RowKit.Below.heap_alloc w o b (h.gsz b hb), CxLe.refl _, fun b hb _ => Go.RowKit.Below.heap_alloc w o b hb, fun b hb => hb.imp (fun h => h) fun h => .inr (Nat.le_of_eq h.symm), fun id l b hl hlb => .inl ⟨id, l, hl, hlb⟩, fun a => Go.RowKit.frozen?_alloc_cells w cs t a⟩
end
end Go.Proofs.Ytpkgpldgoajphaa.AM
