/-
  AM: regions in the order of the text.
-/
import Derived.Test.YtpkgpldgoajphaaAm15
import Derived.Orders
set_option linter.unusedVariables false
set_option linter.unusedSimpArgs false
namespace Go.Proofs.Ytpkgpldgoajphaa.AM
open Go

/-- Objects announced for the 'alloc's of these operations, from number b on. -/
def Pend (T : TT) (ops : List Oper) (b : Nat) (H : Heap) (C : Cx) : Prop := ∃ al, allocs T ops = some al ∧ ∀ m o, al[m]? = some o → H[b + m]? = some o ∧ C.ι (b + m) = none

/-- What is told of operations, by their numbers in a region. -/
abbrev Hs := List (Nat × (AV × Heap))
def doP (P : Program) (X : Env) (t : Option (AV × Heap)) (F : Fr) (H : Heap) (ar : Nat) (o : Oper) (K : AV → Heap → Prop) : Prop :=
  match t with
  | some (a, H') => Sat P X F H ar o a H' ∧ K a H'
  | none => match ev1 X F H ar o with
    | some (a, H') => K a H'
    | none => False
def up (o : Oper) (r : Nat) : Nat := if isAlloc o then r + 1 else r
/-- A region's operations in the text's order. i: the next one's number; r: how many 'alloc's came before. -/
def opsP (P : Program) (X : Env) (all : List Oper) (ab : Nat) (hs : Hs) : List Oper → Nat → Nat → (Fr → Heap → Prop) → Fr → Heap → Prop
  | [], _, _, K, F, H => K F H
  | o :: rest, i, r, K, F, H =>
    match o.guard with
    | none => doP P X (assoc i hs) F H (ab + r) o fun a H' => opsP P X all ab hs rest (i + 1) (up o r) K (putF F o.dst a) H'
    | some (j, want) => match dstOf all j with
      | some d => match F[d]? with
        | some (some (.bool c)) => match c with
          | true => match want with
            | true => doP P X (assoc i hs) (F.set d (some (.bool true))) H (ab + r) o fun a H' => opsP P X all ab hs rest (i + 1) (up o r) K (putF (F.set d (some (.bool true))) o.dst a) H'
            | false => opsP P X all ab hs rest (i + 1) (up o r) K (putF (F.set d (some (.bool true))) o.dst .skip) H
          | false => match want with
            | true => opsP P X all ab hs rest (i + 1) (up o r) K (putF (F.set d (some (.bool false))) o.dst .skip) H
            | false => doP P X (assoc i hs) (F.set d (some (.bool false))) H (ab + r) o fun a H' => opsP P X all ab hs rest (i + 1) (up o r) K (putF (F.set d (some (.bool false))) o.dst a) H'
        | some (some .skip) => opsP P X all ab hs rest (i + 1) (up o r) K (putF F o.dst .skip) H
        | _ => False
      | none => False

theorem set_same {α : Type} : ∀ (l : List α) (d : Nat) (a : α), l[d]? = some a → l.set d a = l
  | [], d, a, h => by simp at h
  | x :: l, 0, a, h => by simp at h; simp [h]
  | x :: l, d + 1, a, h => by simp at h; simp [set_same l d a h]

section
variable {P : Program} {X : Env} {G G' : Nat → Prop} {w w' : World} {C C' : Cx} {F : Fr} {act : Act} {H H' : Heap}

theorem FrR.put (h : FrR G w C F act.tmps) {a : AV} {v : Value} (hv : VR G w C a v) (d : Option Tmp) : FrR G w C (putF F d a) (act.put d v).tmps := by
  cases d with
  | none => exact h
  | some d => exact h.set d a v hv
theorem Act.put_defers' (a : Act) (d : Option Tmp) (v : Value) : (a.put d v).defers = a.defers := by cases d <;> rfl
theorem FrR.slot (h : FrR G w C F act.tmps) {d : Nat} {a : AV} (hd : F[d]? = some (some a)) : ∃ v, act.tmps[d]? = some v ∧ VR G w C a v := by
  have hlt : d < act.tmps.size := by
    rw [← h.1]
    rcases Nat.lt_or_ge d F.length with h' | h'
    · exact h'
    · rw [List.getElem?_eq_none h'] at hd; simp at hd
  refine ⟨act.tmps[d], Array.getElem?_eq_getElem hlt, ?_⟩
  have := h.2 d a hd
  simpa [Array.getD_eq_getD_getElem?, Array.getElem?_eq_getElem hlt] using this

theorem Pend.cons_alloc {T : TT} {o : Oper} {rest : List Oper} {b : Nat} (h : Pend T (o :: rest) b H C) {t : TypeId} (ho : o.op = .alloc t) : (∃ ti, T t = some ti ∧ H[b]? = some ⟨0, ti.size, [ti.zero], none⟩ ∧ C.ι b = none) ∧ Pend T rest (b + 1) H C := by
  obtain ⟨al, ha, hp⟩ := h
  unfold allocs at ha
  rw [ho] at ha
  simp only at ha
  split at ha
  · rename_i ti l ht hl
    simp only [Option.some.injEq] at ha
    subst ha
    refine ⟨⟨ti, ht, by simpa using hp 0 _ rfl⟩, l, hl, fun m o hm => ?_⟩
    have := hp (m + 1) o (by simpa using hm)
    rwa [show b + 1 + m = b + (m + 1) by omega]
  · simp at ha
theorem Pend.cons {T : TT} {o : Oper} {rest : List Oper} {b : Nat} (h : Pend T (o :: rest) b H C) (ho : isAlloc o = false) : Pend T rest b H C := by
  obtain ⟨al, ha, hp⟩ := h
  refine ⟨al, ?_, hp⟩
  unfold allocs at ha
  unfold isAlloc at ho
  split at ha
  · rename_i h; rw [h] at ho; simp at ho
  · exact ha
theorem isAlloc_iff {o : Oper} : isAlloc o = true ↔ ∃ t, o.op = .alloc t := by
  unfold isAlloc
  split
  · rename_i t h; simp [h]
  · rename_i h; simp; exact fun t ht => h t ht
/-- What is still announced behind an operation, done or passed over. -/
theorem Pend.next {T : TT} {o : Oper} {rest : List Oper} {ab r : Nat} (h : Pend T (o :: rest) (ab + r) H C) (hp : Pd (fun id => isAlloc o = true → id ≠ ab + r) C H C' H') : Pend T rest (ab + up o r) H' C' := by
  have lt : ∀ {m : Nat} {o : Ob}, H[m]? = some o → m < H.length := fun {m o} hm => by
    rcases Nat.lt_or_ge m H.length with h' | h'
    · exact h'
    · rw [List.getElem?_eq_none h'] at hm; simp at hm
  cases ho : isAlloc o with
  | false =>
    obtain ⟨al, ha, hq⟩ := h.cons ho
    refine ⟨al, ha, fun m o' hm => ?_⟩
    obtain ⟨h1, h2⟩ := hq m o' hm
    obtain ⟨h3, h4, h5⟩ := hp.2 _ (lt h1) (by simp [ho]) h2
    simp only [up, ho, Bool.false_eq_true, if_false]
    exact ⟨h5.trans h1, h3⟩
  | true =>
    obtain ⟨t, ht⟩ := isAlloc_iff.1 ho
    obtain ⟨al, ha, hq⟩ := (h.cons_alloc ht).2
    refine ⟨al, ha, fun m o' hm => ?_⟩
    obtain ⟨h1, h2⟩ := hq m o' hm
    obtain ⟨h3, h4, h5⟩ := hp.2 _ (lt h1) (fun _ => by omega) h2
    simp only [up, ho, if_true]
    rw [show ab + (r + 1) + m = ab + r + 1 + m by omega]
    exact ⟨h5.trans h1, h3⟩
theorem Pd.of_alloc {o : Oper} {ar n : Nat} (h : Pd (fun id => isAlloc o = true → id ≠ ar) C H C' H') (hn : n ≤ ar) : Pd (fun id => id < n) C H C' H' := h.weaken fun id hid _ => by omega

theorem doP.sound {t : Option (AV × Heap)} {ar : Nat} {o : Oper} {K : AV → Heap → Prop} (h : doP P X t F H ar o K) : ∃ a H', Sat P X F H ar o a H' ∧ K a H' := by
  unfold doP at h
  split at h
  · exact ⟨_, _, h.1, h.2⟩
  · split at h
    · rename_i a H' he; exact ⟨a, H', .of he, h⟩
    · exact h.elim

theorem opsP_sound {ops : Array Oper} {ab : Nat} {hs : Hs} (hT : TOk P X.T) (hM : Mok P X.M) {K : Fr → Heap → Prop} {Q : Exit → Act → World → Prop} {defers : List Deferred} :
    ∀ (rest : List Oper) (i r : Nat) (G : Nat → Prop) (w : World) (C : Cx) (F : Fr) (act : Act) (H : Heap), ops.toList.drop i = rest → Pend X.T rest (ab + r) H C → FrR G w C F act.tmps → HR G w C H → act.defers = defers →
      opsP P X ops.toList ab hs rest i r K F H →
      (∀ F' H' act' w' G' C', Ev G w C G' w' C' → FrR G' w' C' F' act'.tmps → HR G' w' C' H' → Pd (fun id => id < ab) C H C' H' → act'.defers = defers → K F' H' → Q .normal act' w') →
      wpOps P ops Q (List.range' i (ops.size - i)) act w
  | [], i, r, G, w, C, F, act, H, hd, hp, hF, hH, hdf, h, hK => by
    have hi : ops.size ≤ i := by
      have := congrArg List.length hd
      simp at this
      omega
    rw [show ops.size - i = 0 by omega]
    simp only [List.range'_zero, wpOps]
    simp only [opsP] at h
    exact hK F H act w G C (Ev.refl ..) hF hH Pd.refl hdf h
  | o :: rest, i, r, G, w, C, F, act, H, hd, hp, hF, hH, hdf, h, hK => by
    have hi : i < ops.size := by
      have := congrArg List.length hd
      simp at this
      omega
    have hoi : ops[i]? = some o := by
      have := congrArg (fun l => l[0]?) hd
      simpa using this
    have hd' : ops.toList.drop (i + 1) = rest := by
      have := congrArg (List.drop 1) hd
      simpa [List.drop_drop, Nat.add_comm] using this
    rw [show ops.size - i = (ops.size - (i + 1)) + 1 by omega, List.range'_succ, wpOps_cons]
    unfold wpOp
    simp only [hoi]
    have har : ∀ t, o.op = .alloc t → ∃ ti, X.T t = some ti ∧ H[ab + r]? = some ⟨0, ti.size, [ti.zero], none⟩ ∧ C.ι (ab + r) = none := fun t ht => (hp.cons_alloc ht).1
    -- the operation is done
    have go : (doP P X (assoc i hs) F H (ab + r) o fun a H' => opsP P X ops.toList ab hs rest (i + 1) (up o r) K (putF F o.dst a) H') → o.wp P act w (wpOps P ops Q (List.range' (i + 1) (ops.size - (i + 1)))) Q := by
      intro hg
      obtain ⟨a, H', he, hg⟩ := hg.sound
      refine he.sound hT hM hF hH har fun v w' G' C' hev hh hv hpd => ?_
      refine opsP_sound (defers := defers) hT hM rest (i + 1) _ G' w' C' _ _ _ hd' (hp.next hpd) ((hF.ev hev).put hv _) hh (by rw [Act.put_defers']; exact hdf) hg fun F' H'' act' w'' G'' C'' h1 h2 h3 h4 h5 h6 => ?_
      exact hK F' H'' act' w'' G'' C'' (hev.trans h1) h2 h3 ((hpd.of_alloc (Nat.le_add_right _ _)).trans h4) h5 h6
    -- it is passed over
    have skip : opsP P X ops.toList ab hs rest (i + 1) (up o r) K (putF F o.dst .skip) H → wpOps P ops Q (List.range' (i + 1) (ops.size - (i + 1))) (act.put o.dst undef) w := by
      intro hg
      exact opsP_sound (defers := defers) hT hM rest (i + 1) _ G w C _ _ _ hd' (hp.next Pd.refl) (hF.put (.skip _) _) hH (by rw [Act.put_defers']; exact hdf) hg hK
    unfold opsP at h
    cases hgd : o.guard with
    | none =>
      rw [hgd] at h
      have hw : Region.wanted o (yielded ops act.tmps) = true := by simp [Region.wanted, hgd]
      rw [if_pos hw]
      exact .inl (go h)
    | some jw =>
      obtain ⟨j, want⟩ := jw
      rw [hgd] at h
      simp only at h
      cases hdj : dstOf ops.toList j with
      | none => rw [hdj] at h; exact h.elim
      | some d =>
        rw [hdj] at h
        simp only at h
        have hy : yielded ops act.tmps j = match act.tmps[d]? with
            | some (.bool b) => some b
            | _ => none := by
          unfold yielded
          have : (ops[j]?).bind (·.dst) = some d := by simpa [dstOf] using hdj
          rw [this]
          rfl
        split at h
        · rename_i c hF'
          obtain ⟨v, hv, hvr⟩ := hF.slot hF'
          cases hvr
          have hy' : yielded ops act.tmps j = some c := by rw [hy, hv]
          have hw : Region.wanted o (yielded ops act.tmps) = (some c == some want) := by simp [Region.wanted, hgd, hy']
          have hsame : F.set d (some (.bool c)) = F := set_same _ _ _ hF'
          split at h
          · split at h
            · rw [hsame] at h
              rw [if_pos (by rw [hw]; rfl)]
              exact .inl (go h)
            · rw [hsame] at h
              rw [if_neg (by rw [hw]; simp)]
              exact skip h
          · split at h
            · rw [hsame] at h
              rw [if_neg (by rw [hw]; simp)]
              exact skip h
            · rw [hsame] at h
              rw [if_pos (by rw [hw]; rfl)]
              exact .inl (go h)
        · rename_i hF'
          obtain ⟨v, hv, hvr⟩ := hF.slot hF'
          cases hvr
          have hy' : yielded ops act.tmps j = none := by rw [hy, hv]; rfl
          have hw : Region.wanted o (yielded ops act.tmps) = false := by simp [Region.wanted, hgd, hy']
          rw [if_neg (by rw [hw]; simp)]
          exact skip h
        · exact h.elim
end
end Go.Proofs.Ytpkgpldgoajphaa.AM
