/-
  AM: regions whose order is drawn: what a run in the text's order met.
-/
import Derived.Test.YtpkgpldgoajphaaAm17
set_option linter.unusedVariables false
set_option linter.unusedSimpArgs false
namespace Go.Proofs.Ytpkgpldgoajphaa.AM
open Go

/-- Is the operation done? -/
def wantF (all : List Oper) (F : Fr) (o : Oper) : Option Bool :=
  match o.guard with
  | none => some true
  | some (j, want) => match dstOf all j with
    | some d => match F[d]? with
      | some (some (.bool c)) => some (c == want)
      | some (some .skip) => some false
      | _ => none
    | none => none
def stepF (X : Env) (all : List Oper) (ab : Nat) (hs : Hs) (F : Fr) (H : Heap) (i r : Nat) (o : Oper) : Option (AV × Heap) :=
  match wantF all F o with
  | some true => match assoc i hs with
    | some x => some x
    | none => ev1 X F H (ab + r) o
  | some false => some (.skip, H)
  | none => none
/-- The frame, the objects and the number of 'alloc's ahead of operation j, in the text's order. -/
def states (X : Env) (all : List Oper) (ab : Nat) (hs : Hs) (F0 : Fr) (H0 : Heap) : Nat → Option (Fr × Heap × Nat)
  | 0 => some (F0, H0, 0)
  | j + 1 => match states X all ab hs F0 H0 j, all[j]? with
    | some (F, H, r), some o => match stepF X all ab hs F H j r o with
      | some (a, H') => some (putF F o.dst a, H', up o r)
      | none => none
    | _, _ => none

section
variable {P : Program} {X : Env} {all : List Oper} {ab : Nat} {hs : Hs} {F0 : Fr} {H0 : Heap} {nd : List Nat}

/-- Operation j, in the text's order: its frame, objects, yield. -/
structure At (X : Env) (all : List Oper) (ab : Nat) (hs : Hs) (F0 : Fr) (H0 : Heap) (j : Nat) (o : Oper) (F : Fr) (H : Heap) (r : Nat) (a : AV) (H' : Heap) : Prop where
  op : all[j]? = some o
  st : states X all ab hs F0 H0 j = some (F, H, r)
  step : stepF X all ab hs F H j r o = some (a, H')
theorem At.next {j r : Nat} {o : Oper} {F : Fr} {H H' : Heap} {a : AV} (h : At X all ab hs F0 H0 j o F H r a H') : states X all ab hs F0 H0 (j + 1) = some (putF F o.dst a, H', up o r) := by
  simp only [states, h.st, h.op, h.step]

/-- What the record of a drawn region's run holds, ahead of operation i. -/
structure Dinv (P : Program) (X : Env) (all : List Oper) (ab : Nat) (hs : Hs) (F0 : Fr) (H0 : Heap) (i : Nat) (H : Heap) (D : Dr) : Prop where
  len : D.hs.length = D.es.length + 1
  zero : D.hs[0]? = some H0
  last : D.hs[D.es.length]? = some H
  lt : ∀ (m e : Nat), D.es[m]? = some e → e < i
  inj : ∀ (m m' e : Nat), D.es[m]? = some e → D.es[m']? = some e → m = m'
  turn : ∀ j o F Hj r a H', j < i → At X all ab hs F0 H0 j o F Hj r a H' → wantF all F o = some true → clsOf X F o = .E → ∃ m, D.es[m]? = some j ∧ D.hs[m]? = some Hj ∧ D.hs[m + 1]? = some H'
  read : ∀ j o F Hj r a H', j < i → At X all ab hs F0 H0 j o F Hj r a H' → wantF all F o = some true → clsOf X F o = .R → ∃ k, ⟨j, o, F, a, k⟩ ∈ D.rs ∧ D.hs[k]? = some Hj
  sat : ∀ j o F Hj r a H', j < i → At X all ab hs F0 H0 j o F Hj r a H' → wantF all F o = some true → Sat P X F Hj (ab + r) o a H'
  back : ∀ (m j : Nat), D.es[m]? = some j → ∃ o F Hj r a H', At X all ab hs F0 H0 j o F Hj r a H' ∧ wantF all F o = some true ∧ clsOf X F o = .E

theorem Dinv.start : Dinv P X all ab hs F0 H0 0 H0 ⟨[H0], [], []⟩ :=
  ⟨rfl, rfl, rfl, by simp, by simp, by omega, by omega, by omega, by simp⟩

theorem At.same {j : Nat} {o o' : Oper} {F F' : Fr} {H H' K K' : Heap} {r r' : Nat} {a a' : AV} (h : At X all ab hs F0 H0 j o F H r a H') (k : At X all ab hs F0 H0 j o' F' K r' a' K') : o = o' ∧ F = F' ∧ H = K ∧ r = r' ∧ a = a' ∧ H' = K' := by
  have h1 := h.op.symm.trans k.op
  simp only [Option.some.injEq] at h1
  subst h1
  have h2 := h.st.symm.trans k.st
  simp only [Option.some.injEq, Prod.mk.injEq] at h2
  obtain ⟨rfl, rfl, rfl⟩ := h2
  have h3 := h.step.symm.trans k.step
  simp only [Option.some.injEq, Prod.mk.injEq] at h3
  obtain ⟨rfl, rfl⟩ := h3
  exact ⟨rfl, rfl, rfl, rfl, rfl, rfl⟩

theorem Dinv.skip {i r : Nat} {o : Oper} {F : Fr} {H : Heap} {D : Dr} (h : Dinv P X all ab hs F0 H0 i H D) (hat : At X all ab hs F0 H0 i o F H r .skip H) (hw : wantF all F o = some false) : Dinv P X all ab hs F0 H0 (i + 1) H D := by
  refine ⟨h.len, h.zero, h.last, fun m e hm => Nat.lt_succ_of_lt (h.lt m e hm), h.inj, fun j o' F' Hj r' a H' hj ha hw' hc => ?_, fun j o' F' Hj r' a H' hj ha hw' hc => ?_, fun j o' F' Hj r' a H' hj ha hw' => ?_, h.back⟩
  · rcases Nat.lt_or_ge j i with h' | h'
    · exact h.turn j o' F' Hj r' a H' h' ha hw' hc
    · obtain rfl : j = i := by omega
      obtain ⟨rfl, rfl, _⟩ := hat.same ha
      rw [hw] at hw'; simp at hw'
  · rcases Nat.lt_or_ge j i with h' | h'
    · exact h.read j o' F' Hj r' a H' h' ha hw' hc
    · obtain rfl : j = i := by omega
      obtain ⟨rfl, rfl, _⟩ := hat.same ha
      rw [hw] at hw'; simp at hw'
  · rcases Nat.lt_or_ge j i with h' | h'
    · exact h.sat j o' F' Hj r' a H' h' ha hw'
    · obtain rfl : j = i := by omega
      obtain ⟨rfl, rfl, _⟩ := hat.same ha
      rw [hw] at hw'; simp at hw'
theorem Dinv.done {i r : Nat} {o : Oper} {F : Fr} {H H' : Heap} {a : AV} {D : Dr} (h : Dinv P X all ab hs F0 H0 i H D) (hat : At X all ab hs F0 H0 i o F H r a H') (hw : wantF all F o = some true) (hsat : Sat P X F H (ab + r) o a H') : Dinv P X all ab hs F0 H0 (i + 1) H' (noteD X F i o a H' D) := by
  have sats : ∀ j o' F' Hj r' a' K', j < i + 1 → At X all ab hs F0 H0 j o' F' Hj r' a' K' → wantF all F' o' = some true → Sat P X F' Hj (ab + r') o' a' K' := fun j o' F' Hj r' a' K' hj ha hw' => by
    rcases Nat.lt_or_ge j i with h' | h'
    · exact h.sat j o' F' Hj r' a' K' h' ha hw'
    · obtain rfl : j = i := by omega
      obtain ⟨rfl, rfl, rfl, rfl, rfl, rfl⟩ := hat.same ha
      exact hsat
  have old : ∀ {β : Type} {l : List β} {m : Nat} {x y : β}, l[m]? = some x → (l ++ [y])[m]? = some x := fun {β l m x y} hm => by
    rcases Nat.lt_or_ge m l.length with h' | h'
    · rw [List.getElem?_append_left h']; exact hm
    · rw [List.getElem?_eq_none h'] at hm; simp at hm
  cases hc : clsOf X F o with
  | P =>
    have hev : ev1 X F H (ab + r) o = some (a, H') := hsat.ev1_of (by rw [hc]; simp)
    have hH := (ev1_P hc hev).1
    subst hH
    have hD : noteD X F i o a H' D = D := by simp only [noteD, hc]
    rw [hD]
    refine ⟨h.len, h.zero, h.last, fun m e hm => Nat.lt_succ_of_lt (h.lt m e hm), h.inj, fun j o' F' Hj r' a' K' hj ha hw' hc' => ?_, fun j o' F' Hj r' a' K' hj ha hw' hc' => ?_, sats, h.back⟩
    · rcases Nat.lt_or_ge j i with h' | h'
      · exact h.turn j o' F' Hj r' a' K' h' ha hw' hc'
      · obtain rfl : j = i := by omega
        obtain ⟨rfl, rfl, _⟩ := hat.same ha
        rw [hc] at hc'; cases hc'
    · rcases Nat.lt_or_ge j i with h' | h'
      · exact h.read j o' F' Hj r' a' K' h' ha hw' hc'
      · obtain rfl : j = i := by omega
        obtain ⟨rfl, rfl, _⟩ := hat.same ha
        rw [hc] at hc'; cases hc'
  | R =>
    have hev : ev1 X F H (ab + r) o = some (a, H') := hsat.ev1_of (by rw [hc]; simp)
    have hH := (ev1_load (clsOf_R hc) hev).1
    subst hH
    have hD : noteD X F i o a H' D = { D with rs := ⟨i, o, F, a, D.es.length⟩ :: D.rs } := by simp only [noteD, hc]
    rw [hD]
    refine ⟨h.len, h.zero, h.last, fun m e hm => Nat.lt_succ_of_lt (h.lt m e hm), h.inj, fun j o' F' Hj r' a' K' hj ha hw' hc' => ?_, fun j o' F' Hj r' a' K' hj ha hw' hc' => ?_, sats, h.back⟩
    · rcases Nat.lt_or_ge j i with h' | h'
      · exact h.turn j o' F' Hj r' a' K' h' ha hw' hc'
      · obtain rfl : j = i := by omega
        obtain ⟨rfl, rfl, _⟩ := hat.same ha
        rw [hc] at hc'; cases hc'
    · rcases Nat.lt_or_ge j i with h' | h'
      · obtain ⟨k, h1, h2⟩ := h.read j o' F' Hj r' a' K' h' ha hw' hc'
        exact ⟨k, List.mem_cons_of_mem _ h1, h2⟩
      · obtain rfl : j = i := by omega
        obtain ⟨rfl, rfl, rfl, rfl, rfl, rfl⟩ := hat.same ha
        exact ⟨_, List.mem_cons_self, h.last⟩
  | E =>
    have hD : noteD X F i o a H' D = { D with hs := D.hs ++ [H'], es := D.es ++ [i] } := by simp only [noteD, hc]
    rw [hD]
    have mem : ∀ {m e : Nat}, (D.es ++ [i])[m]? = some e → D.es[m]? = some e ∨ (m = D.es.length ∧ e = i) := fun {m e} hm => by
      rcases Nat.lt_or_ge m D.es.length with h' | h'
      · rw [List.getElem?_append_left h'] at hm; exact .inl hm
      · rw [List.getElem?_append_right h'] at hm
        cases hx : m - D.es.length with
        | zero => rw [hx] at hm; simp at hm; exact .inr ⟨by omega, hm.symm⟩
        | succ q => rw [hx] at hm; simp at hm
    refine ⟨by simp [h.len], old h.zero, ?_, fun m e hm => ?_, fun m m' e hm hm' => ?_, fun j o' F' Hj r' a' K' hj ha hw' hc' => ?_, fun j o' F' Hj r' a' K' hj ha hw' hc' => ?_, sats, fun m j hm => ?_⟩
    · simp only [List.length_append, List.length_cons, List.length_nil]
      rw [List.getElem?_append_right (by rw [h.len]; omega), h.len]
      simp
    · rcases mem hm with h1 | h1
      · exact Nat.lt_succ_of_lt (h.lt _ _ h1)
      · omega
    · rcases mem hm with h1 | h1 <;> rcases mem hm' with h2 | h2
      · exact h.inj _ _ _ h1 h2
      · have := h.lt _ _ h1; omega
      · have := h.lt _ _ h2; omega
      · omega
    · rcases Nat.lt_or_ge j i with h' | h'
      · obtain ⟨m, h1, h2, h3⟩ := h.turn j o' F' Hj r' a' K' h' ha hw' hc'
        exact ⟨m, old h1, old h2, old h3⟩
      · obtain rfl : j = i := by omega
        obtain ⟨rfl, rfl, rfl, rfl, rfl, rfl⟩ := hat.same ha
        refine ⟨D.es.length, by simp, old h.last, ?_⟩
        rw [List.getElem?_append_right (by rw [h.len]; omega), h.len]
        simp
    · rcases Nat.lt_or_ge j i with h' | h'
      · obtain ⟨k, h1, h2⟩ := h.read j o' F' Hj r' a' K' h' ha hw' hc'
        exact ⟨k, h1, old h2⟩
      · obtain rfl : j = i := by omega
        obtain ⟨rfl, rfl, _⟩ := hat.same ha
        rw [hc] at hc'; cases hc'
    · rcases mem hm with h1 | ⟨rfl, rfl⟩
      · exact h.back _ _ h1
      · exact ⟨_, _, _, _, _, _, hat, hw, hc⟩

/-- The read comes to the same with each of these objects. -/
def readP (X : Env) (r : Rd) (lo hi : Nat) : List Heap → Nat → Prop → Prop
  | [], _, Q => Q
  | H :: hs, k, Q => match Nat.ble lo k && Nat.ble k hi && !Nat.beq k r.k with
    | true => ev1 X r.F H 0 r.o = some (r.a, H) ∧ readP X r lo hi hs (k + 1) Q
    | false => readP X r lo hi hs (k + 1) Q
def readsP (X : Env) (nd : List Nat) (D : Dr) : List Rd → Prop → Prop
  | [], Q => Q
  | r :: rs, Q => readP X r (countB (fun e => waits nd r.i e) D.es) (countB (fun e => !waits nd e r.i) D.es) D.hs 0 (readsP X nd D rs Q)
/-- A region whose order is drawn: in the text's order; then: would another order have come to the same? -/
def opsD (P : Program) (X : Env) (all : List Oper) (nd : List Nat) (ab : Nat) (hs : Hs) : List Oper → Nat → Nat → Dr → (Fr → Heap → Prop) → Fr → Heap → Prop
  | [], _, _, D, K, F, H => match chain nd D.es with
    | true => readsP X nd D D.rs (K F H)
    | false => False
  | o :: rest, i, r, D, K, F, H =>
    match o.guard with
    | none => doP P X (assoc i hs) F H (ab + r) o fun a H' => opsD P X all nd ab hs rest (i + 1) (up o r) (noteD X F i o a H' D) K (putF F o.dst a) H'
    | some (j, want) => match dstOf all j with
      | some d => match F[d]? with
        | some (some (.bool c)) => match c with
          | true => match want with
            | true => doP P X (assoc i hs) (F.set d (some (.bool true))) H (ab + r) o fun a H' => opsD P X all nd ab hs rest (i + 1) (up o r) (noteD X (F.set d (some (.bool true))) i o a H' D) K (putF (F.set d (some (.bool true))) o.dst a) H'
            | false => opsD P X all nd ab hs rest (i + 1) (up o r) D K (putF (F.set d (some (.bool true))) o.dst .skip) H
          | false => match want with
            | true => opsD P X all nd ab hs rest (i + 1) (up o r) D K (putF (F.set d (some (.bool false))) o.dst .skip) H
            | false => doP P X (assoc i hs) (F.set d (some (.bool false))) H (ab + r) o fun a H' => opsD P X all nd ab hs rest (i + 1) (up o r) (noteD X (F.set d (some (.bool false))) i o a H' D) K (putF (F.set d (some (.bool false))) o.dst a) H'
        | some (some .skip) => opsD P X all nd ab hs rest (i + 1) (up o r) D K (putF F o.dst .skip) H
        | _ => False
      | none => False

/-- What a run that came to an end met. -/
theorem opsD_states {K : Fr → Heap → Prop} : ∀ (rest : List Oper) (i r : Nat) (D : Dr) (F : Fr) (H : Heap), all.drop i = rest → states X all ab hs F0 H0 i = some (F, H, r) → Dinv P X all ab hs F0 H0 i H D →
    opsD P X all nd ab hs rest i r D K F H →
    ∃ F' H' r' D', states X all ab hs F0 H0 all.length = some (F', H', r') ∧ Dinv P X all ab hs F0 H0 all.length H' D' ∧ chain nd D'.es = true ∧ readsP X nd D' D'.rs (K F' H')
  | [], i, r, D, F, H, hd, hs', hD, h => by
    unfold opsD at h
    split at h
    case h_2 => exact h.elim
    rename_i hc
    have hle : all.length ≤ i := by
      have := congrArg List.length hd
      simp at this
      omega
    have hi : i = all.length := by
      rcases Nat.lt_or_ge all.length i with h' | h'
      · obtain ⟨q, rfl⟩ : ∃ q, i = q + 1 := ⟨i - 1, by omega⟩
        simp only [states] at hs'
        rw [List.getElem?_eq_none (by omega)] at hs'
        split at hs'
        · rename_i h1; simp at h1
        · simp at hs'
      · omega
    subst hi
    exact ⟨F, H, r, D, hs', hD, hc, h⟩
  | o :: rest, i, r, D, F, H, hd, hs', hD, h => by
    have ho : all[i]? = some o := by
      have := congrArg (fun l => l[0]?) hd
      simpa using this
    have hd' : all.drop (i + 1) = rest := by
      have := congrArg (List.drop 1) hd
      simpa [List.drop_drop, Nat.add_comm] using this
    have go : wantF all F o = some true → (doP P X (assoc i hs) F H (ab + r) o fun a H' => opsD P X all nd ab hs rest (i + 1) (up o r) (noteD X F i o a H' D) K (putF F o.dst a) H') → _ := fun hw hg => by
      unfold doP at hg
      split at hg
      · rename_i a H' ht
        have hat : At X all ab hs F0 H0 i o F H r a H' := ⟨ho, hs', by simp only [stepF, hw, ht]⟩
        exact opsD_states rest (i + 1) _ _ _ _ hd' hat.next (hD.done hat hw hg.1) hg.2
      · rename_i ht
        split at hg
        case h_2 => exact hg.elim
        rename_i a H' he
        have hat : At X all ab hs F0 H0 i o F H r a H' := ⟨ho, hs', by simp only [stepF, hw, ht, he]⟩
        exact opsD_states rest (i + 1) _ _ _ _ hd' hat.next (hD.done hat hw (.of he)) hg
    have skip : wantF all F o = some false → opsD P X all nd ab hs rest (i + 1) (up o r) D K (putF F o.dst .skip) H → _ := fun hw hg => by
      have hat : At X all ab hs F0 H0 i o F H r .skip H := ⟨ho, hs', by simp only [stepF, hw]⟩
      exact opsD_states rest (i + 1) _ _ _ _ hd' hat.next (hD.skip hat hw) hg
    unfold opsD at h
    cases hgd : o.guard with
    | none =>
      rw [hgd] at h
      exact go (by simp [wantF, hgd]) h
    | some jw =>
      obtain ⟨j, want⟩ := jw
      rw [hgd] at h
      simp only at h
      cases hdj : dstOf all j with
      | none => rw [hdj] at h; exact h.elim
      | some d =>
        rw [hdj] at h
        simp only at h
        split at h
        · rename_i c hF
          have hsame : F.set d (some (.bool c)) = F := set_same _ _ _ hF
          have hw : wantF all F o = some (c == want) := by simp only [wantF, hgd, hdj, hF]
          split at h
          · split at h
            · rw [hsame] at h; exact go hw h
            · rw [hsame] at h; exact skip hw h
          · split at h
            · rw [hsame] at h; exact skip hw h
            · rw [hsame] at h; exact go hw h
        · rename_i hF
          exact skip (by simp only [wantF, hgd, hdj, hF]) h
        · exact h.elim
end
end Go.Proofs.Ytpkgpldgoajphaa.AM
