/-
  AM: regions whose order is drawn: what is told of the text's operations alone.
-/
import Derived.Test.YtpkgpldgoajphaaAm18
set_option linter.unusedVariables false
set_option linter.unusedSimpArgs false
namespace Go.Proofs.Ytpkgpldgoajphaa.AM
open Go

/-- Each slot is turned by one operation at most, and who looks at it waits for that, or that waits for who looks at it. -/
def regOk (ops : Array Oper) : Bool :=
  let nd := needs ops.toList []
  (List.range ops.size).all fun i => match ops[i]? with
    | none => true
    | some o => o.after.toList.all (fun e => !Region.binds .any e || Nat.blt e.on i) && (List.range ops.size).all fun j => Nat.beq i j || match ops[j]? with
      | none => true
      | some p => match p.dst with
        | none => true
        | some d => (match o.dst with
            | some c => !Nat.beq c d
            | none => true) && (!memN d (o.looksAt ops) || (if Nat.blt j i then waits nd i j else waits nd j i))

theorem memN_mem {n : Nat} : ∀ {l : List Nat}, n ∈ l → memN n l = true
  | m :: ms, h => by
    simp only [memN]
    split
    · rfl
    · rename_i hne
      simp only [List.mem_cons] at h
      rcases h with rfl | h
      · simp at hne
      · exact memN_mem h
section
variable {ops : Array Oper}
theorem regOk_edge (h : regOk ops = true) {i : Nat} {o : Oper} (hi : ops[i]? = some o) : ∀ e ∈ o.after, Region.binds .any e = true → e.on < i := by
  intro e he hb
  have hlt : i < ops.size := (Array.getElem?_eq_some_iff.1 hi).1
  simp only [regOk, List.all_eq_true, List.mem_range] at h
  have h1 := h i hlt
  rw [hi] at h1
  simp only [Bool.and_eq_true] at h1
  have h2 := List.all_eq_true.1 h1.1 e (by simpa using he)
  simp [hb, Nat.blt] at h2
  omega
theorem regOk_pair (h : regOk ops = true) {i j : Nat} {o p : Oper} (hi : ops[i]? = some o) (hj : ops[j]? = some p) (hne : i ≠ j) {d : Tmp} (hd : p.dst = some d) :
    o.dst ≠ some d ∧ (d ∈ o.looksAt ops → (j < i → waits (needs ops.toList []) i j = true) ∧ (i < j → waits (needs ops.toList []) j i = true)) := by
  have hlt : i < ops.size := (Array.getElem?_eq_some_iff.1 hi).1
  have hlt' : j < ops.size := (Array.getElem?_eq_some_iff.1 hj).1
  simp only [regOk, List.all_eq_true, List.mem_range] at h
  have h1 := h i hlt
  rw [hi] at h1
  simp only [Bool.and_eq_true] at h1
  have h2 := List.all_eq_true.1 h1.2 j (by simpa using hlt')
  simp only [hj, hd] at h2
  simp only [Bool.or_eq_true, Bool.and_eq_true, Nat.beq_eq] at h2
  have h3 := h2.resolve_left hne
  refine ⟨fun hc => ?_, fun hm => ?_⟩
  · rw [hc] at h3; simp at h3
  · have h4 := h3.2.resolve_left (by simp [memN_mem hm])
    refine ⟨fun hji => ?_, fun hij => ?_⟩
    · have : Nat.blt j i = true := by simp [Nat.blt]; omega
      simpa [this] using h4
    · have : Nat.blt j i = false := by
        cases hb : Nat.blt j i with
        | false => rfl
        | true => simp [Nat.blt] at hb; omega
      simpa [this] using h4
end

theorem needs_len : ∀ (l : List Oper) (acc : List Nat), (needs l acc).length = acc.length + l.length
  | [], acc => rfl
  | o :: l, acc => by simp only [needs]; rw [needs_len l]; simp; omega
theorem needs_pre : ∀ (l : List Oper) (acc : List Nat), (needs l acc).take acc.length = acc
  | [], acc => by simp [needs]
  | o :: l, acc => by
    simp only [needs]
    have := congrArg (List.take acc.length) (needs_pre l (acc ++ [needsOf o.after.toList acc]))
    rw [List.take_take] at this
    simpa [Nat.min_eq_left] using this
theorem needs_get (l : List Oper) : ∀ (acc : List Nat) (i : Nat) (o : Oper), l[i]? = some o → (needs l acc).getD (acc.length + i) 0 = needsOf o.after.toList ((needs l acc).take (acc.length + i)) := by
  induction l with
  | nil => intro acc i o h; simp at h
  | cons o l ih =>
    intro acc i o' h
    cases i with
    | zero =>
      simp at h
      subst h
      simp only [needs, Nat.add_zero]
      have h1 := needs_pre l (acc ++ [needsOf o.after.toList acc])
      generalize needs l (acc ++ [needsOf o.after.toList acc]) = N at h1 ⊢
      have h2 : N.take acc.length = acc := by
        have := congrArg (List.take acc.length) h1
        rw [List.take_take] at this
        simpa [Nat.min_eq_left] using this
      rw [h2]
      have h3 := congrArg (fun l => l[acc.length]?) h1
      simp only [List.length_append, List.length_cons, List.length_nil, List.getElem?_take] at h3
      rw [if_pos (by omega)] at h3
      rw [List.getD_eq_getElem?_getD, h3]
      simp
    | succ i =>
      simp only [needs]
      have := ih (acc ++ [needsOf o.after.toList acc]) i o' (by simpa using h)
      rw [List.length_append, List.length_singleton, show acc.length + 1 + i = acc.length + (i + 1) by omega] at this
      exact this
theorem needsOf_bit {j : Nat} {acc : List Nat} : ∀ (es : List Edge), Nat.testBit (needsOf es acc) j = true → ∃ e ∈ es, Region.binds .any e = true ∧ (e.on = j ∨ Nat.testBit (acc.getD e.on 0) j = true)
  | [], h => by simp [needsOf] at h
  | e :: es, h => by
    simp only [needsOf] at h
    split at h
    · rename_i hb
      change Nat.testBit ((2 ^ e.on ||| acc.getD e.on 0) ||| needsOf es acc) j = true at h
      rw [Nat.testBit_or, Nat.testBit_or, Nat.testBit_two_pow] at h
      simp only [Bool.or_eq_true, decide_eq_true_eq] at h
      rcases h with (h | h) | h
      · exact ⟨e, by simp, hb, .inl h⟩
      · exact ⟨e, by simp, hb, .inr h⟩
      · obtain ⟨e', h1, h2⟩ := needsOf_bit es h
        exact ⟨e', by simp [h1], h2⟩
    · obtain ⟨e', h1, h2⟩ := needsOf_bit es h
      exact ⟨e', by simp [h1], h2⟩
/-- Who waits for j: an edge of its own says so, or one to another that waits for j. -/
theorem waits_edge {l : List Oper} {i j : Nat} {o : Oper} (hi : l[i]? = some o) (h : waits (needs l []) i j = true) : ∃ e ∈ o.after, Region.binds .any e = true ∧ (e.on = j ∨ waits (needs l []) e.on j = true) := by
  unfold waits at h
  have hg := needs_get l [] i o hi
  simp only [List.length_nil, Nat.zero_add] at hg
  rw [hg] at h
  obtain ⟨e, h1, h2, h3⟩ := needsOf_bit _ h
  refine ⟨e, by simpa using h1, h2, h3.imp id fun h3 => ?_⟩
  unfold waits
  rw [List.getD_eq_getElem?_getD, List.getElem?_take] at h3
  split at h3
  · rwa [List.getD_eq_getElem?_getD]
  · simp at h3

theorem countB_le {p : Nat → Bool} : ∀ (es : List Nat) (k : Nat), (∀ (m e : Nat), es[m]? = some e → p e = true → m < k) → countB p es ≤ k
  | [], k, _ => by simp [countB]
  | e :: es, k, h => by
    have ih := countB_le (p := p) es
    simp only [countB]
    split
    · rename_i hp
      have := h 0 e rfl hp
      have := ih (k - 1) fun m e' hm hp' => by have := h (m + 1) e' (by simpa using hm) hp'; omega
      omega
    · exact ih k fun m e' hm hp' => by have := h (m + 1) e' (by simpa using hm) hp'; omega
theorem countB_ge {p : Nat → Bool} : ∀ (es : List Nat) (k : Nat), (∀ (m e : Nat), es[m]? = some e → m < k → p e = true) → k ≤ es.length → k ≤ countB p es
  | [], k, _, h => by simp at h; simp [countB, h]
  | e :: es, 0, _, _ => Nat.zero_le _
  | e :: es, k + 1, h, hl => by
    simp only [countB, h 0 e rfl (by omega), if_true]
    have := countB_ge es k (fun m e' hm hk => h (m + 1) e' (by simpa using hm) (by omega)) (by simpa using hl)
    omega

theorem readP_end {X : Env} {r : Rd} {lo hi : Nat} : ∀ (hs : List Heap) (q : Nat) (Q : Prop), readP X r lo hi hs q Q → Q
  | [], q, Q, h => h
  | H1 :: hs, q, Q, h => by
    unfold readP at h
    split at h
    · exact readP_end hs (q + 1) Q h.2
    · exact readP_end hs (q + 1) Q h
theorem readP_get {X : Env} {r : Rd} {lo hi : Nat} : ∀ (hs : List Heap) (q : Nat) (Q : Prop), readP X r lo hi hs q Q → ∀ (m : Nat) (H : Heap), hs[m]? = some H → lo ≤ q + m → q + m ≤ hi → q + m ≠ r.k → ev1 X r.F H 0 r.o = some (r.a, H)
  | [], q, Q, h, m, H, hm, _, _, _ => by simp at hm
  | H1 :: hs, q, Q, h, 0, H, hm, h1, h2, h3 => by
    simp at hm
    subst hm
    unfold readP at h
    simp only [Nat.add_zero] at h1 h2 h3
    have hb : Nat.beq q r.k = false := by
      cases hb : Nat.beq q r.k with
      | false => rfl
      | true => exact absurd (Nat.eq_of_beq_eq_true hb) h3
    split at h
    · exact h.1
    · rename_i hn
      rw [hb, Nat.ble_eq_true_of_le h1, Nat.ble_eq_true_of_le h2] at hn
      simp at hn
  | H1 :: hs, q, Q, h, m + 1, H, hm, h1, h2, h3 => by
    unfold readP at h
    split at h
    · exact readP_get hs (q + 1) Q h.2 m H (by simpa using hm) (by omega) (by omega) (by omega)
    · exact readP_get hs (q + 1) Q h m H (by simpa using hm) (by omega) (by omega) (by omega)
theorem readsP_end {X : Env} {nd : List Nat} {D : Dr} (rs : List Rd) (Q : Prop) : readsP X nd D rs Q → Q := by
  induction rs with
  | nil => exact fun h => h
  | cons r rs ih => exact fun h => ih (readP_end _ _ _ h)
theorem readsP_get {X : Env} {nd : List Nat} {D : Dr} (rs : List Rd) (Q : Prop) : readsP X nd D rs Q → ∀ r ∈ rs, ∃ Q, readP X r (countB (fun e => waits nd r.i e) D.es) (countB (fun e => !waits nd e r.i) D.es) D.hs 0 Q := by
  induction rs with
  | nil => intro _ r hr; simp at hr
  | cons r rs ih =>
    intro h r' hr
    rcases List.mem_cons.1 hr with rfl | hr
    · exact ⟨_, h⟩
    · exact ih (readP_end _ _ _ h) r' hr
theorem chain_get {nd : List Nat} (es : List Nat) : chain nd es = true → ∀ (m a b : Nat), es[m]? = some a → es[m + 1]? = some b → waits nd b a = true := by
  induction es with
  | nil => intro _ m a b h; simp at h
  | cons x es ih =>
    intro h m a b h1 h2
    cases es with
    | nil => simp at h2
    | cons y es =>
      simp only [chain, Bool.and_eq_true] at h
      cases m with
      | zero => simp at h1 h2; subst h1 h2; exact h.1
      | succ m => exact ih h.2 m a b (by simpa using h1) (by simpa using h2)

section
variable {X : Env} {all : List Oper} {ab : Nat} {hs : Hs} {F0 : Fr} {H0 : Heap}
theorem states_at : ∀ {i : Nat} {s : Fr × Heap × Nat}, states X all ab hs F0 H0 i = some s → ∀ {j : Nat}, j < i → ∃ o F H r a H', At X all ab hs F0 H0 j o F H r a H'
  | 0, _, _, _, h => by omega
  | i + 1, s, hst, j, hj => by
    simp only [states] at hst
    split at hst
    case h_2 => simp at hst
    rename_i F H r o h1 h2
    split at hst
    case h_2 => simp at hst
    rename_i a H' h3
    rcases Nat.lt_or_ge j i with h | h
    · exact states_at h1 h
    · obtain rfl : j = i := by omega
      exact ⟨o, F, H, r, a, H', h2, h1, h3⟩
theorem states_len : ∀ {i : Nat} {F : Fr} {H : Heap} {r : Nat}, states X all ab hs F0 H0 i = some (F, H, r) → F.length = F0.length ∧ r = (all.take i).countP isAlloc
  | 0, F, H, r, hst => by simp [states] at hst; obtain ⟨rfl, rfl, rfl⟩ := hst; simp
  | i + 1, F, H, r, hst => by
    simp only [states] at hst
    split at hst
    case h_2 => simp at hst
    rename_i F' H' r' o h1 h2
    split at hst
    case h_2 => simp at hst
    rename_i a H2 h3
    simp only [Option.some.injEq, Prod.mk.injEq] at hst
    obtain ⟨rfl, rfl, rfl⟩ := hst
    obtain ⟨h4, h5⟩ := states_len h1
    refine ⟨?_, ?_⟩
    · unfold putF
      split <;> simp [h4]
    · rw [List.take_add_one, h2]
      simp only [Option.toList, List.countP_append, ← h5, up]
      cases ho : isAlloc o <;> simp [ho]
/-- A slot that no operation turned yet. -/
theorem frame_old : ∀ {i : Nat} {F : Fr} {H : Heap} {r : Nat}, states X all ab hs F0 H0 i = some (F, H, r) → ∀ {t : Nat}, (∀ (j : Nat) (o : Oper), j < i → all[j]? = some o → o.dst ≠ some t) → F[t]? = F0[t]?
  | 0, F, H, r, hst, t, _ => by simp [states] at hst; rw [hst.1]
  | i + 1, F, H, r, hst, t, ht => by
    simp only [states] at hst
    split at hst
    case h_2 => simp at hst
    rename_i F' H' r' o h1 h2
    split at hst
    case h_2 => simp at hst
    rename_i a H2 h3
    simp only [Option.some.injEq, Prod.mk.injEq] at hst
    obtain ⟨rfl, rfl, rfl⟩ := hst
    rw [← frame_old h1 fun j o' hj ho => ht j o' (by omega) ho]
    have := ht i o (by omega) h2
    unfold putF
    split
    · rename_i d hd
      rw [List.getElem?_set_ne]
      exact fun e => this (by rw [hd, e])
    · rfl
/-- A slot that one operation turned. -/
theorem frame_new : ∀ {i : Nat} {F : Fr} {H : Heap} {r : Nat}, states X all ab hs F0 H0 i = some (F, H, r) → ∀ {j t : Nat} {o : Oper} {Fj : Fr} {Hj : Heap} {rj : Nat} {a : AV} {Hj' : Heap}, j < i → At X all ab hs F0 H0 j o Fj Hj rj a Hj' → o.dst = some t →
      (∀ (m : Nat) (p : Oper), j < m → m < i → all[m]? = some p → p.dst ≠ some t) → ∀ x, F[t]? = some x → x = some a
  | 0, F, H, r, hst, j, t, o, Fj, Hj, rj, a, Hj', hj, _, _, _, _, _ => by omega
  | i + 1, F, H, r, hst, j, t, o, Fj, Hj, rj, a, Hj', hj, hat, hd, hm, x, hx => by
    simp only [states] at hst
    split at hst
    case h_2 => simp at hst
    rename_i F' H' r' o' h1 h2
    split at hst
    case h_2 => simp at hst
    rename_i a' H2 h3
    simp only [Option.some.injEq, Prod.mk.injEq] at hst
    obtain ⟨rfl, rfl, rfl⟩ := hst
    rcases Nat.lt_or_ge j i with h | h
    · refine frame_new h1 h hat hd (fun m p h4 h5 h6 => hm m p h4 (by omega) h6) x ?_
      have := hm i o' h (by omega) h2
      unfold putF at hx
      split at hx
      · rename_i d hd'
        rw [List.getElem?_set_ne] at hx
        · exact hx
        · exact fun e => this (by rw [hd', e])
      · exact hx
    · obtain rfl : j = i := by omega
      obtain ⟨rfl, rfl, rfl, rfl, rfl, rfl⟩ := hat.same (show At X all ab hs F0 H0 j o' F' H' r' a' H2 from ⟨h2, h1, h3⟩)
      rw [hd] at hx
      simp only [putF, List.getElem?_set] at hx
      simp only [if_true] at hx
      split at hx
      · simp at hx; exact hx.symm
      · simp at hx
theorem allocs_get {T : TT} (l : List Oper) : ∀ (al : Heap), allocs T l = some al → ∀ (j : Nat) (o : Oper) (t : TypeId), l[j]? = some o → o.op = .alloc t → ∃ ti, T t = some ti ∧ al[(l.take j).countP isAlloc]? = some ⟨0, ti.size, [ti.zero], none⟩ := by
  induction l with
  | nil => intro al _ j o t h; simp at h
  | cons o l ih =>
    intro al h j o' t hj ht
    unfold allocs at h
    cases j with
    | zero =>
      simp at hj
      subst hj
      rw [ht] at h
      simp only at h
      split at h
      · rename_i ti l' h1 h2
        simp only [Option.some.injEq] at h
        subst h
        exact ⟨ti, h1, by simp⟩
      · simp at h
    | succ j =>
      have hj' : l[j]? = some o' := by simpa using hj
      split at h
      · rename_i t' ho
        split at h
        · rename_i ti l' h1 h2
          simp only [Option.some.injEq] at h
          subst h
          obtain ⟨ti', h3, h4⟩ := ih l' h2 j o' t hj' ht
          have : isAlloc o = true := by simp [isAlloc, ho]
          exact ⟨ti', h3, by simpa [List.countP_cons, this] using h4⟩
        · simp at h
      · rename_i hno
        obtain ⟨ti', h3, h4⟩ := ih al h j o' t hj' ht
        have : isAlloc o = false := by
          cases hb : isAlloc o with
          | false => rfl
          | true => obtain ⟨t', h5⟩ := isAlloc_iff.1 hb; exact absurd h5 (hno t')
        exact ⟨ti', h3, by simpa [List.countP_cons, this] using h4⟩
theorem count_lt {i j : Nat} {o : Oper} (hi : all[i]? = some o) (ho : isAlloc o = true) (hij : i < j) : (all.take i).countP isAlloc < (all.take j).countP isAlloc := by
  have h1 : (all.take (i + 1)).countP isAlloc = (all.take i).countP isAlloc + 1 := by
    rw [List.take_add_one, hi]
    simp [List.countP_append, ho]
  have h2 : (all.take (i + 1)).countP isAlloc ≤ (all.take j).countP isAlloc := (List.take_sublist_take_left (show i + 1 ≤ j by omega)).countP_le
  omega
end
end Go.Proofs.Ytpkgpldgoajphaa.AM
