/-
  AM: regions whose order is drawn: whatever is drawn, it comes to what the text's order comes to.
-/
import Derived.Test.YtpkgpldgoajphaaAm19
set_option linter.unusedVariables false
set_option linter.unusedSimpArgs false
namespace Go.Proofs.Ytpkgpldgoajphaa.AM
open Go

def lit (listed : Array Bool) (j : Nat) : Bool := listed.getD j false
theorem lit_set {listed : Array Bool} {i j : Nat} (hi : i < listed.size) : lit (listed.setIfInBounds i true) j = if i = j then true else lit listed j := by
  unfold lit
  by_cases e : i = j
  · subst e; simp [hi]
  · simp [Array.getD_eq_getD_getElem?, Array.getElem?_setIfInBounds, e]

/-- How many are not listed. -/
def left (n : Nat) (listed : Array Bool) : Nat := (List.range n).countP fun j => !lit listed j
theorem left_set {n : Nat} {listed : Array Bool} {i : Nat} (hn : listed.size = n) (hi : i < n) (hl : lit listed i = false) : left n (listed.setIfInBounds i true) + 1 = left n listed := by
  unfold left
  have key : ∀ (l : List Nat), l.Nodup → i ∈ l → l.countP (fun j => !lit (listed.setIfInBounds i true) j) + 1 = l.countP (fun j => !lit listed j) := by
    intro l
    induction l with
    | nil => intro _ h; simp at h
    | cons x l ih =>
      intro hnd hmem
      simp only [List.nodup_cons] at hnd
      simp only [List.countP_cons, lit_set (hn ▸ hi : i < listed.size)]
      by_cases e : i = x
      · subst e
        simp only [if_true, hl]
        have : l.countP (fun j => !if i = j then true else lit listed j) = l.countP (fun j => !lit listed j) := by
          apply List.countP_congr
          intro j hj
          have : i ≠ j := fun e => hnd.1 (e ▸ hj)
          simp [this]
        rw [this]
        simp
      · simp only [e, if_false]
        have h1 := ih hnd.2 (by simpa [e] using hmem)
        simp only [lit_set (hn ▸ hi : i < listed.size)] at h1
        omega
  exact key _ List.nodup_range (List.mem_range.2 hi)

section
variable {P : Program} {X : Env} {ops : Array Oper} {ab : Nat} {hs : Hs} {F0 : Fr} {H0 : Heap} {G0 : Nat → Prop} {w0 : World} {C0 : Cx} {D : Dr} {defers : List Deferred}

structure DInv (X : Env) (ops : Array Oper) (ab : Nat) (hs : Hs) (F0 : Fr) (H0 : Heap) (G0 : Nat → Prop) (w0 : World) (C0 : Cx) (D : Dr) (defers : List Deferred) (listed : Array Bool) (act : Act) (w : World) (G : Nat → Prop) (C : Cx) (k : Nat) (H : Heap) : Prop where
  ev : Ev G0 w0 C0 G w C
  heap : D.hs[k]? = some H
  hr : HR G w C H
  size : listed.size = ops.size
  closed : ∀ i j, lit listed i = true → waits (needs ops.toList []) i j = true → lit listed j = true
  turns : ∀ (m e : Nat), D.es[m]? = some e → (lit listed e = true ↔ m < k)
  len : F0.length = act.tmps.size
  new : ∀ j o F Hj r a H', lit listed j = true → At X ops.toList ab hs F0 H0 j o F Hj r a H' → ∀ d, o.dst = some d → d < F0.length → VR G w C a (act.tmps.getD d undef)
  old : ∀ d a, (∀ (j : Nat) (o : Oper), lit listed j = true → ops[j]? = some o → o.dst ≠ some d) → F0[d]? = some (some a) → VR G w C a (act.tmps.getD d undef)
  pend : ∀ j o F Hj r a H' t, lit listed j = false → At X ops.toList ab hs F0 H0 j o F Hj r a H' → o.op = .alloc t → ∃ ti, X.T t = some ti ∧ H[ab + r]? = some ⟨0, ti.size, [ti.zero], none⟩ ∧ C.ι (ab + r) = none
  pd : Pd (fun id => id < ab) C0 H0 C H
  defers : act.defers = defers

theorem arr_list {i : Nat} {o : Oper} : ops[i]? = some o ↔ ops.toList[i]? = some o := by simp

/-- The slots that an operation looks at hold what they held in the text's order. -/
theorem DInv.look (hreg : regOk ops = true) {listed : Array Bool} {act : Act} {w : World} {G : Nat → Prop} {C : Cx} {k : Nat} {H : Heap} (h : DInv X ops ab hs F0 H0 G0 w0 C0 D defers listed act w G C k H)
    {i : Nat} {o : Oper} {F : Fr} {Hi : Heap} {r : Nat} {a : AV} {H' : Heap} (hat : At X ops.toList ab hs F0 H0 i o F Hi r a H') (hi : lit listed i = false) (hw : ∀ j, waits (needs ops.toList []) i j = true → lit listed j = true)
    {t : Nat} (ht : t ∈ o.looksAt ops) {b : AV} (hb : F[t]? = some (some b)) : VR G w C b (act.tmps.getD t undef) := by
  have hoi : ops[i]? = some o := arr_list.2 hat.op
  by_cases hx : ∃ j p, j < i ∧ ops[j]? = some p ∧ p.dst = some t
  · obtain ⟨j, p, hj, hp, hd⟩ := hx
    obtain ⟨o', F', Hj, rj, aj, Hj', hatj⟩ := states_at hat.st hj
    obtain rfl : o' = p := by have := arr_list.1 hp; rw [hatj.op] at this; simpa using this
    have hlj := hw j (((regOk_pair hreg hoi hp (by omega) hd).2 ht).1 hj)
    have := frame_new hat.st hj hatj hd (fun m q h1 h2 h3 h4 => (regOk_pair hreg (arr_list.2 h3) hp (by omega) hd).1 h4) _ hb
    simp only [Option.some.injEq] at this
    subst this
    refine h.new j o' F' Hj rj _ Hj' hlj hatj t hd ?_
    rw [← (states_len hat.st).1]
    rcases Nat.lt_or_ge t F.length with h' | h'
    · exact h'
    · rw [List.getElem?_eq_none h'] at hb; simp at hb
  · have hno : ∀ (j : Nat) (p : Oper), j < i → ops.toList[j]? = some p → p.dst ≠ some t := fun j p hj hp hd => hx ⟨j, p, hj, arr_list.2 hp, hd⟩
    rw [frame_old hat.st hno] at hb
    refine h.old t b (fun j p hlj hp hd => ?_) hb
    rcases Nat.lt_trichotomy j i with h1 | h1 | h1
    · exact hno j p h1 (arr_list.1 hp) hd
    · subst h1; rw [hi] at hlj; simp at hlj
    · have := ((regOk_pair hreg hoi hp (by omega) hd).2 ht).2 h1
      have := h.closed j i hlj this
      rw [hi] at this; simp at this

/-- The frame, as far as the operation looks. -/
def only (l : List Nat) : Nat → Fr → Fr
  | _, [] => []
  | i, a :: F => (if l.contains i then a else none) :: only l (i + 1) F
theorem only_get (l : List Nat) : ∀ (F : Fr) (i t : Nat), (only l i F)[t]? = (F[t]?).map fun a => if l.contains (i + t) then a else none
  | [], i, t => by simp [only]
  | a :: F, i, 0 => by simp [only]
  | a :: F, i, t + 1 => by simp only [only, List.getElem?_cons_succ]; rw [only_get l F (i + 1) t]; simp [Nat.add_assoc, Nat.add_comm 1 t]
theorem only_len (l : List Nat) : ∀ (F : Fr) (i : Nat), (only l i F).length = F.length
  | [], _ => rfl
  | a :: F, i => by simp [only, only_len l F]

theorem mem_operands {o : Oper} {t : Nat} (h : Operand.tmp t ∈ o.op.operands) : t ∈ o.looksAt ops := by
  unfold Oper.looksAt
  exact List.mem_append_left _ (List.mem_filterMap.2 ⟨.tmp t, by simpa using h, rfl⟩)

theorem only_opv {o : Oper} {F : Fr} : ∀ x ∈ o.op.operands, opv (only (o.looksAt ops) 0 F) x = opv F x := by
  intro x hx
  cases x with
  | tmp t =>
    have hm : t ∈ o.looksAt ops := mem_operands hx
    simp only [opv, only_get, Nat.zero_add]
    cases F[t]? with
    | none => rfl
    | some a => simp [hm]
  | _ => rfl

theorem DInv.wanted (hreg : regOk ops = true) {listed : Array Bool} {act : Act} {w : World} {G : Nat → Prop} {C : Cx} {k : Nat} {H : Heap} (h : DInv X ops ab hs F0 H0 G0 w0 C0 D defers listed act w G C k H)
    {i : Nat} {o : Oper} {F : Fr} {Hi : Heap} {r : Nat} {a : AV} {H' : Heap} (hat : At X ops.toList ab hs F0 H0 i o F Hi r a H') (hi : lit listed i = false) (hw : ∀ j, waits (needs ops.toList []) i j = true → lit listed j = true)
    {b : Bool} (hb : wantF ops.toList F o = some b) : Region.wanted o (yielded ops act.tmps) = b := by
  unfold wantF at hb
  unfold Region.wanted
  cases hgd : o.guard with
  | none => rw [hgd] at hb; simpa using hb
  | some jw =>
    obtain ⟨j, want⟩ := jw
    rw [hgd] at hb
    simp only at hb ⊢
    cases hdj : dstOf ops.toList j with
    | none => rw [hdj] at hb; simp at hb
    | some d =>
      rw [hdj] at hb
      simp only at hb
      have hgo : (ops[j]?).bind (·.dst) = some d := by simpa [dstOf] using hdj
      have hm : d ∈ o.looksAt ops := by
        unfold Oper.looksAt
        refine List.mem_append_right _ ?_
        rw [hgd]
        simp [hgo]
      have hy : yielded ops act.tmps j = match act.tmps[d]? with
          | some (.bool b) => some b
          | _ => none := by
        unfold yielded
        rw [hgo]
        rfl
      have slot : ∀ {c : AV}, F[d]? = some (some c) → ∃ v, act.tmps[d]? = some v ∧ VR G w C c v := fun {c} hc => by
        have hlt : d < act.tmps.size := by
          rw [← h.len, ← (states_len hat.st).1]
          rcases Nat.lt_or_ge d F.length with h' | h'
          · exact h'
          · rw [List.getElem?_eq_none h'] at hc; simp at hc
        refine ⟨act.tmps[d], Array.getElem?_eq_getElem hlt, ?_⟩
        have := h.look hreg hat hi hw hm hc
        simpa [Array.getD_eq_getD_getElem?, Array.getElem?_eq_getElem hlt] using this
      split at hb
      · rename_i c hF
        obtain ⟨v, hv, hvr⟩ := slot hF
        cases hvr
        rw [hy, hv]
        simpa using hb
      · rename_i hF
        obtain ⟨v, hv, hvr⟩ := slot hF
        cases hvr
        rw [hy, hv]
        simpa [undef] using hb
      · simp at hb

theorem opsD_sound (hT : TOk P X.T) (hM : Mok P X.M) (hreg : regOk ops = true) {K : Fr → Heap → Prop} {Q : Exit → Act → World → Prop} {act : Act}
    (hp : Pend X.T ops.toList ab H0 C0) (hF : FrR G0 w0 C0 F0 act.tmps) (hH : HR G0 w0 C0 H0) (hdf : act.defers = defers)
    (h : opsD P X ops.toList (needs ops.toList []) ab hs ops.toList 0 0 ⟨[H0], [], []⟩ K F0 H0)
    (hK : ∀ F' H' act' w' G' C', Ev G0 w0 C0 G' w' C' → FrR G' w' C' F' act'.tmps → HR G' w' C' H' → Pd (fun id => id < ab) C0 H0 C' H' → act'.defers = defers → K F' H' → Q .normal act' w') :
    wpAny P .any ops Q ops.size (Array.replicate ops.size false) act w0 := by
  obtain ⟨Fn, Hn, rn, D, hst, hD, hchain, hreads⟩ := opsD_states (F0 := F0) (H0 := H0) ops.toList 0 0 _ _ _ (by simp) rfl Dinv.start h
  have hKn := readsP_end _ _ hreads
  have hlen : ops.toList.length = ops.size := by simp
  rw [hlen] at hst hD
  -- the end
  have fin : ∀ (listed : Array Bool) (act : Act) (w : World) (G : Nat → Prop) (C : Cx) (k : Nat) (H : Heap), DInv X ops ab hs F0 H0 G0 w0 C0 D defers listed act w G C k H → left ops.size listed = 0 → Q .normal act w := by
    intro listed act w G C k H hI hl
    have hall : ∀ j, j < ops.size → lit listed j = true := fun j hj => by
      have := List.countP_eq_zero.1 hl j (List.mem_range.2 hj)
      simpa using this
    have hk : k = D.es.length := by
      have hlt : k < D.hs.length := by
        rcases Nat.lt_or_ge k D.hs.length with h' | h'
        · exact h'
        · have := hI.heap; rw [List.getElem?_eq_none h'] at this; simp at this
      rw [hD.len] at hlt
      rcases Nat.lt_or_ge k D.es.length with h' | h'
      · have he := List.getElem?_eq_getElem h'
        have := (hI.turns k _ he).1 (hall _ (hD.lt _ _ he))
        omega
      · omega
    subst hk
    have hHe : H = Hn := by have := hI.heap.symm.trans hD.last; simpa using this
    subst hHe
    refine hK Fn H act w G C hI.ev ⟨by rw [(states_len hst).1]; exact hI.len, fun t a ht => ?_⟩ hI.hr hI.pd hI.defers hKn
    by_cases hx : ∃ j p, j < ops.size ∧ ops[j]? = some p ∧ p.dst = some t
    · obtain ⟨j, p, hj, hp, hd⟩ := hx
      obtain ⟨o', F', Hj, rj, aj, Hj', hatj⟩ := states_at hst hj
      obtain rfl : o' = p := by have := arr_list.1 hp; rw [hatj.op] at this; simpa using this
      have := frame_new hst hj hatj hd (fun m q h1 h2 h3 h4 => (regOk_pair hreg (arr_list.2 h3) hp (by omega) hd).1 h4) _ ht
      simp only [Option.some.injEq] at this
      subst this
      refine hI.new j o' F' Hj rj _ Hj' (hall j hj) hatj t hd ?_
      rw [← (states_len hst).1]
      rcases Nat.lt_or_ge t Fn.length with h' | h'
      · exact h'
      · rw [List.getElem?_eq_none h'] at ht; simp at ht
    · have hno : ∀ (j : Nat) (p : Oper), j < ops.size → ops.toList[j]? = some p → p.dst ≠ some t := fun j p hj hp hd => hx ⟨j, p, hj, arr_list.2 hp, hd⟩
      rw [frame_old hst hno] at ht
      refine hI.old t a (fun j p hlj hp hd => hno j p ?_ (arr_list.1 hp) hd) ht
      exact (Array.getElem?_eq_some_iff.1 hp).1
  -- someone is ready
  have some_ready : ∀ (listed : Array Bool), listed.size = ops.size → Region.ready .any ops listed = [] → left ops.size listed = 0 := by
    intro listed hsz hr
    have hall : ∀ n, n ≤ ops.size → ∀ j, j < n → lit listed j = true := by
      intro n
      induction n with
      | zero => intro _ j hj; omega
      | succ n ih =>
        intro hn j hj
        rcases Nat.lt_or_ge j n with h' | h'
        · exact ih (by omega) j h'
        · obtain rfl : j = n := by omega
          cases hb : lit listed j with
          | true => rfl
          | false =>
            have hoj : ops[j]? = some ops[j] := Array.getElem?_eq_getElem (by omega)
            have : j ∈ Region.ready .any ops listed := mem_ready.2 ⟨by
              have hlt : j < listed.size := by omega
              simpa [lit, Array.getD_eq_getD_getElem?, Array.getElem?_eq_getElem hlt] using hb, _, hoj, fun e he hbd => ih (by omega) e.on (regOk_edge hreg hoj e he hbd)⟩
            rw [hr] at this
            simp at this
    refine List.countP_eq_zero.2 fun j hj => ?_
    simp [hall ops.size (Nat.le_refl _) j (List.mem_range.1 hj)]
  -- each step
  have main : ∀ (fuel : Nat) (listed : Array Bool) (act : Act) (w : World) (G : Nat → Prop) (C : Cx) (k : Nat) (H : Heap), DInv X ops ab hs F0 H0 G0 w0 C0 D defers listed act w G C k H → left ops.size listed ≤ fuel → wpAny P .any ops Q fuel listed act w := by
    intro fuel
    induction fuel with
    | zero =>
      intro listed act w G C k H hI hl
      refine ⟨?_, fin listed act w G C k H hI (by omega)⟩
      cases hr : Region.ready .any ops listed with
      | nil => rfl
      | cons i rest =>
        have hi : i ∈ Region.ready .any ops listed := by rw [hr]; simp
        obtain ⟨h1, o, ho, _⟩ := mem_ready.1 hi
        have hlt : i < ops.size := (Array.getElem?_eq_some_iff.1 ho).1
        have h2 := List.countP_eq_zero.1 (show left ops.size listed = 0 by omega) i (List.mem_range.2 hlt)
        have hlt' : i < listed.size := by rw [hI.size]; exact hlt
        simp [lit, Array.getD_eq_getD_getElem?, Array.getElem?_eq_getElem hlt'] at h1 h2
        rw [h1] at h2; simp at h2
    | succ fuel ih =>
      intro listed act w G C k H hI hl
      refine ⟨fun hr => fin listed act w G C k H hI (some_ready listed hI.size hr), fun i hi => ?_⟩
      obtain ⟨h1, o, ho, hedges⟩ := mem_ready.1 hi
      have hlt : i < ops.size := (Array.getElem?_eq_some_iff.1 ho).1
      have hlt' : i < listed.size := by rw [hI.size]; exact hlt
      have hil : lit listed i = false := by simpa [lit, Array.getD_eq_getD_getElem?, Array.getElem?_eq_getElem hlt'] using h1
      obtain ⟨o', F, Hi, r, a, H', hat⟩ := states_at hst hlt
      obtain rfl : o' = o := by have := arr_list.1 ho; rw [hat.op] at this; simpa using this
      have hw : ∀ j, waits (needs ops.toList []) i j = true → lit listed j = true := fun j hj => by
        obtain ⟨e, he, hb, hor⟩ := waits_edge hat.op hj
        have hle := hedges e he hb
        rcases hor with rfl | hor
        · exact hle
        · exact hI.closed _ _ hle hor
      have hclosed : ∀ x y, lit (listed.setIfInBounds i true) x = true → waits (needs ops.toList []) x y = true → lit (listed.setIfInBounds i true) y = true := fun x y hx hy => by
        rw [lit_set hlt'] at hx ⊢
        by_cases e1 : i = y
        · simp [e1]
        · simp only [e1, if_false]
          by_cases e2 : i = x
          · subst e2; exact hw y hy
          · simp only [e2, if_false] at hx
            exact hI.closed x y hx hy
      have hleft : left ops.size (listed.setIfInBounds i true) ≤ fuel := by
        have := left_set (n := ops.size) hI.size hlt hil
        omega
      have hdstne : ∀ (j : Nat) (p : Oper), j ≠ i → ops[j]? = some p → ∀ d, o'.dst = some d → p.dst ≠ some d := fun j p hj hp d hd => (regOk_pair hreg hp ho hj hd).1
      have hsize : (listed.setIfInBounds i true).size = ops.size := by simp [hI.size]
      -- the new slots
      have tmps_ne : ∀ (v : Value) (d : Nat), o'.dst ≠ some d → (act.put o'.dst v).tmps.getD d undef = act.tmps.getD d undef := fun v d hd => by
        cases hdst : o'.dst with
        | none => rfl
        | some c =>
          have : c ≠ d := fun e => hd (by rw [hdst, e])
          simp [Act.put, Array.getD_eq_getD_getElem?, Array.getElem?_setIfInBounds, this]
      have tmps_eq : ∀ (v : Value) (d : Nat), o'.dst = some d → d < act.tmps.size → (act.put o'.dst v).tmps.getD d undef = v := fun v d hd hlt => by
        rw [hd]
        simp [Act.put, Array.getD_eq_getD_getElem?, hlt]
      have tmps_sz : ∀ (v : Value), (act.put o'.dst v).tmps.size = act.tmps.size := fun v => by
        cases o'.dst <;> simp [Act.put]
      -- one more is listed
      have go : ∀ (v : Value) (w' : World) (G' : Nat → Prop) (C' : Cx) (k' : Nat) (H2 : Heap), Ev G w C G' w' C' → HR G' w' C' H2 → VR G' w' C' a v → Pd (fun id => isAlloc o' = true → id ≠ ab + r) C H C' H2 → D.hs[k']? = some H2 →
          (∀ (m e : Nat), D.es[m]? = some e → (lit (listed.setIfInBounds i true) e = true ↔ m < k')) → wpAny P .any ops Q fuel (listed.setIfInBounds i true) (act.put o'.dst v) w' := by
        intro v w' G' C' k' H2 hev hhr hv hpd hhs hturn
        refine ih _ _ w' G' C' k' H2 ⟨hI.ev.trans hev, hhs, hhr, hsize, hclosed, hturn, by rw [tmps_sz]; exact hI.len, fun j p Fj Hj rj aj Hj' hlj hatj d hd hdl => ?_, fun d b hno hb => ?_, fun j p Fj Hj rj aj Hj' t hlj hatj ht => ?_, ?_, by rw [Act.put_defers']; exact hI.defers⟩ hleft
        · rw [lit_set hlt'] at hlj
          by_cases e : i = j
          · subst e
            obtain ⟨rfl, rfl, rfl, rfl, rfl, rfl⟩ := hat.same hatj
            rw [tmps_eq v d hd (by rw [← hI.len]; exact hdl)]
            exact hv
          · simp only [e, if_false] at hlj
            have hpd2 : o'.dst ≠ some d := fun hd2 => hdstne j p (fun e2 => e e2.symm) (arr_list.2 hatj.op) d hd2 hd
            rw [tmps_ne v d hpd2]
            exact (hI.new j p Fj Hj rj aj Hj' hlj hatj d hd hdl).ev hev
        · have hd : o'.dst ≠ some d := hno i o' (by rw [lit_set hlt']; simp) ho
          rw [tmps_ne v d hd]
          exact (hI.old d b (fun j p hlj hp => hno j p (by rw [lit_set hlt']; simp [hlj]) hp) hb).ev hev
        · rw [lit_set hlt'] at hlj
          have hne : i ≠ j := fun e => by simp [e] at hlj
          simp only [hne, if_false] at hlj
          obtain ⟨ti, h3, h4, h5⟩ := hI.pend j p Fj Hj rj aj Hj' t hlj hatj ht
          have hlt2 : ab + rj < H.length := by
            rcases Nat.lt_or_ge (ab + rj) H.length with h' | h'
            · exact h'
            · rw [List.getElem?_eq_none h'] at h4; simp at h4
          have hne2 : isAlloc o' = true → ab + rj ≠ ab + r := fun ha e => by
            have hr1 := (states_len hat.st).2
            have hr2 := (states_len hatj.st).2
            rcases Nat.lt_or_gt_of_ne hne with h' | h'
            · have := count_lt hat.op ha h'; omega
            · have := count_lt hatj.op (isAlloc_iff.2 ⟨t, ht⟩) h'; omega
          obtain ⟨h6, h7, h8⟩ := hpd.2 _ hlt2 hne2 h5
          exact ⟨ti, h3, h8.trans h4, h6⟩
        · exact hI.pd.trans (hpd.of_alloc (Nat.le_add_right _ _))
      -- which of the objects' states it is
      have unlisted_turn : wantF ops.toList F o' ≠ some true ∨ clsOf X F o' ≠ .E → ∀ (m e : Nat), D.es[m]? = some e → (lit (listed.setIfInBounds i true) e = true ↔ m < k) := fun hn m e he => by
        have hne : i ≠ e := fun e2 => by
          subst e2
          obtain ⟨o2, F2, H2, r2, a2, H2', hat2, hw2, hc2⟩ := hD.back m i he
          obtain ⟨rfl, rfl, _⟩ := hat.same hat2
          rcases hn with hn | hn
          · exact hn hw2
          · exact hn hc2
        rw [lit_set hlt']
        simp only [hne, if_false]
        exact hI.turns m e he
      unfold wpOp
      simp only [ho]
      cases hwf : wantF ops.toList F o' with
      | none => have := hat.step; simp [stepF, hwf] at this
      | some b =>
        have hwanted := hI.wanted hreg hat hil hw hwf
        cases b with
        | false =>
          rw [if_neg (by rw [hwanted]; simp)]
          have hst' := hat.step
          simp only [stepF, hwf, Option.some.injEq, Prod.mk.injEq] at hst'
          obtain ⟨rfl, rfl⟩ := hst'
          exact go undef w G C k H (Ev.refl ..) hI.hr (.skip _) Pd.refl hI.heap (unlisted_turn (.inl (by rw [hwf]; simp)))
        | true =>
          rw [if_pos hwanted]
          refine .inl ?_
          have hsat : Sat P X F Hi (ab + r) o' a H' := hD.sat i o' F Hi r a H' hlt hat hwf
          have hFs : FrR G w C (only (o'.looksAt ops) 0 F) act.tmps := ⟨by rw [only_len, (states_len hat.st).1]; exact hI.len, fun t b ht => by
            rw [only_get] at ht
            cases hFt : F[t]? with
            | none => rw [hFt] at ht; simp at ht
            | some x =>
              rw [hFt] at ht
              simp only [Option.map_some, Nat.zero_add, Option.some.injEq] at ht
              split at ht
              · rename_i hc
                subst ht
                exact hI.look hreg hat hil hw (by simpa using hc) hFt
              · simp at ht⟩
          have har : ∀ t, o'.op = .alloc t → ∃ ti, X.T t = some ti ∧ H[ab + r]? = some ⟨0, ti.size, [ti.zero], none⟩ ∧ C.ι (ab + r) = none := fun t ht => hI.pend i o' F Hi r a H' t hil hat ht
          have hklt : k < D.es.length + 1 := by
            rw [← hD.len]
            rcases Nat.lt_or_ge k D.hs.length with h' | h'
            · exact h'
            · have := hI.heap; rw [List.getElem?_eq_none h'] at this; simp at this
          cases hc : clsOf X F o' with
          | P =>
            have hev1 := hsat.ev1_of (by rw [hc]; simp)
            have he : Sat P X F H (ab + r) o' a H := .of ((ev1_P hc hev1).2 H)
            rw [← Sat_congr (F := only (o'.looksAt ops) 0 F) only_opv] at he
            exact he.sound hT hM hFs hI.hr har fun v w' G' C' h3 h4 h5 h6 => go v w' G' C' k H h3 h4 h5 h6 hI.heap (unlisted_turn (.inr (by rw [hc]; simp)))
          | R =>
            have hev1 := hsat.ev1_of (by rw [hc]; simp)
            have hload := clsOf_R hc
            obtain ⟨kr, hrd, hhr⟩ := hD.read i o' F Hi r a H' hlt hat hwf hc
            have he : ev1 X F H (ab + r) o' = some (a, H) := by
              by_cases hkk : k = kr
              · subst hkk
                have : Hi = H := by have := hhr.symm.trans hI.heap; simpa using this
                subst this
                have := (ev1_load hload hev1).1
                subst this
                exact hev1
              · obtain ⟨Q2, hs2⟩ := readsP_get D.rs _ hreads _ hrd
                have hlo := countB_le (p := fun e => waits (needs ops.toList []) i e) D.es k fun m e hm hwt => (hI.turns m e hm).1 (hw e hwt)
                have hhi := countB_ge (p := fun e => !waits (needs ops.toList []) e i) D.es k (fun m e hm hmk => by
                  have hle := (hI.turns m e hm).2 hmk
                  cases hb : waits (needs ops.toList []) e i with
                  | false => rfl
                  | true =>
                    have := hI.closed e i hle hb
                    rw [hil] at this; simp at this) (by omega)
                have he2 := readP_get D.hs 0 _ hs2 k H hI.heap (by simpa using hlo) (by simpa using hhi) (by simpa using hkk)
                exact (ev1_load hload he2).2 _
            have he : Sat P X F H (ab + r) o' a H := .of he
            rw [← Sat_congr (F := only (o'.looksAt ops) 0 F) only_opv] at he
            exact he.sound hT hM hFs hI.hr har fun v w' G' C' h3 h4 h5 h6 => go v w' G' C' k H h3 h4 h5 h6 hI.heap (unlisted_turn (.inr (by rw [hc]; simp)))
          | E =>
            obtain ⟨m, hm, hh1, hh2⟩ := hD.turn i o' F Hi r a H' hlt hat hwf hc
            have hmk : m = k := by
              have h3 : ¬ m < k := fun h => by have := (hI.turns m i hm).2 h; rw [hil] at this; simp at this
              rcases Nat.eq_zero_or_pos m with h0 | h0
              · rcases Nat.eq_zero_or_pos k with h4 | h4
                · omega
                · omega
              · obtain ⟨q, rfl⟩ : ∃ q, m = q + 1 := ⟨m - 1, by omega⟩
                have hq : q < D.es.length := by
                  rcases Nat.lt_or_ge q D.es.length with h' | h'
                  · exact h'
                  · rw [List.getElem?_eq_none (by omega)] at hm; simp at hm
                have hq' := List.getElem?_eq_getElem hq
                have hwt := chain_get D.es hchain q _ i hq' hm
                have := (hI.turns q _ hq').1 (hw _ hwt)
                omega
            subst hmk
            have : Hi = H := by have := hh1.symm.trans hI.heap; simpa using this
            subst this
            have he := hsat
            rw [← Sat_congr (F := only (o'.looksAt ops) 0 F) only_opv] at he
            refine he.sound hT hM hFs hI.hr har fun v w' G' C' h3 h4 h5 h6 => go v w' G' C' (m + 1) H' h3 h4 h5 h6 hh2 fun m' e he' => ?_
            rw [lit_set hlt']
            by_cases e2 : i = e
            · subst e2
              have := hD.inj m' m i he' hm
              simp [this]
            · simp only [e2, if_false]
              rw [hI.turns m' e he']
              refine ⟨fun h => by omega, fun h => ?_⟩
              rcases Nat.lt_or_ge m' m with h' | h'
              · exact h'
              · obtain rfl : m' = m := by omega
                rw [hm] at he'
                simp at he'
                exact absurd he' e2
  refine main ops.size _ act w0 G0 C0 0 H0 ⟨Ev.refl .., hD.zero, hH, by simp, fun i j hi => ?_, fun m e he => ?_, hF.1, fun j o F Hj r a H' hj => ?_, fun d a _ hd => hF.2 d a hd, fun j o F Hj r a H' t hj hat ht => ?_, Pd.refl, hdf⟩ ?_
  · simp [lit, Array.getD_eq_getD_getElem?, Array.getElem?_replicate] at hi
    split at hi <;> simp at hi
  · refine ⟨fun hi => ?_, fun hi => by omega⟩
    simp [lit, Array.getD_eq_getD_getElem?, Array.getElem?_replicate] at hi
    split at hi <;> simp at hi
  · simp [lit, Array.getD_eq_getD_getElem?, Array.getElem?_replicate] at hj
    split at hj <;> simp at hj
  · obtain ⟨al, ha, hq⟩ := hp
    obtain ⟨ti, h1, h2⟩ := allocs_get _ al ha j o t hat.op ht
    rw [← (states_len hat.st).2] at h2
    exact ⟨ti, h1, hq r _ h2⟩
  · have := List.countP_le_length (p := fun j => !lit (Array.replicate ops.size false) j) (l := List.range ops.size)
    simpa [left] using this
end
end Go.Proofs.Ytpkgpldgoajphaa.AM
