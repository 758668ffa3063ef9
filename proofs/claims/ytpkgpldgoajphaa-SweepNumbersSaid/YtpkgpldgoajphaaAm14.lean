/-
  AM: 'append', in all its cases.
-/
import Derived.Test.YtpkgpldgoajphaaAm13
set_option linter.unusedVariables false
set_option linter.unusedSimpArgs false
namespace Go.Proofs.Ytpkgpldgoajphaa.AM
open Go

section
variable {P : Program} {T : TT} {G G' : Nat → Prop} {w w' : World} {C C' : Cx} {F : Fr} {act : Act} {H H' : Heap}

theorem Src.oneCell {k : Nat} {u : Value} {xs : List (List AV)} {nv : List Value} (h : Src P G w C k u xs nv) : ∀ v ∈ nv, v.oneCell' = true := fun v hv => by
  obtain ⟨q, hq, rfl⟩ := List.getElem_of_mem hv
  rw [h.length] at hq
  obtain ⟨h1, h2, h3⟩ := divmod hq
  have := (h.rel _ _ h1 h2).1
  rw [h3] at this
  simpa [List.getD_eq_getElem?_getD, List.getElem?_eq_getElem (show q < nv.length by rw [h.length]; exact hq)] using this
theorem ApT.of (hT : TOk P T) {t t' e : TypeId} {ti te : TI} (ht : T t = some ti) (htd : ti.d = .slice e) (hte : T e = some te) (h : sourceT T t' = true) :
    ∃ i z, ApT P t t' e i z ∧ i.size = te.size ∧ i.bytes = te.bytes ∧ z.cells.size = te.size := by
  have hu : P.underlying t = some (.slice e) := by have := (hT _ _ ht).und; rw [htd] at this; exact this
  obtain ⟨i, hi, hsz, hby, z, hz, hzs, hzl, _⟩ := (hT _ _ hte).info
  refine ⟨i, z, ⟨hu, ?_, hi, hz⟩, hsz, hby, ?_⟩
  · unfold sourceT at h
    split at h
    · rename_i e' _ _ _ h2
      exact .inr ⟨e', (hT _ _ h2).und⟩
    · rename_i _ _ _ h2
      exact .inl (hT _ _ h2).und
    · simp at h
  · have := (ofScalars_sound (G := fun _ => True) (w := default) (C := Cx.none) hzs).1
    simpa [hzl] using this

theorem cat_get {k : Nat} {xs ys : List (List AV)} {ov nv zs : List Value} (hov : ov.length = ys.length * k) (hnv : nv.length = xs.length * k) {i j : Nat} (hi : i < ys.length + xs.length) (hj : j < k) :
    (ov ++ nv ++ zs).getD (i * k + j) undef = if i < ys.length then ov.getD (i * k + j) undef else nv.getD ((i - ys.length) * k + j) undef := by
  have h := row_lt hi hj
  rw [Nat.add_mul] at h
  simp only [List.getD_eq_getElem?_getD]
  by_cases h1 : i < ys.length
  · have h2 := row_lt h1 hj
    rw [if_pos h1, List.append_assoc, List.getElem?_append_left (by omega)]
  · have h2 : ys.length * k ≤ i * k := Nat.mul_le_mul_right k (by omega)
    rw [if_neg h1, List.append_assoc, List.getElem?_append_right (by omega), List.getElem?_append_left (by omega), Nat.sub_mul]
    congr 2
    omega
theorem cat_row {xs ys : List (List AV)} (i : Nat) : (ys ++ xs).getD i [] = if i < ys.length then ys.getD i [] else xs.getD (i - ys.length) [] := by
  simp only [List.getD_eq_getElem?_getD]
  split
  · rename_i h; rw [List.getElem?_append_left h]
  · rename_i h; rw [List.getElem?_append_right (by omega)]

theorem grow_sound (hH : HR G w C H) {t t' ty e : TypeId} {i : TypeInfo} {z : Value} (hA : ApT P t t' e i z) (hzc : z.cells.size = i.size) (x : Value) {xs ys : List (List AV)} {nv ov : List Value} (hx : Src P G w C i.size x xs nv)
    (base : Option Addr) (sLen sCap : Nat) (ho : Src P G w C i.size (.slice base sLen sCap) ys ov) (hlen : ys.length = sLen)
    (hgr : sCap < sLen + xs.length) (hb : 0 < i.bytes) (hby : (sLen + xs.length) * i.bytes ≤ 140737488355328)
    (id g : Nat) (hg : C.γ id ≤ g) (hgι : g = C.γ id → C.ι id = none) (hH' : ∀ j, j ≠ id → H'[j]? = H[j]?) (hid : H'[id]? = some ⟨g, i.size, ys ++ xs, none⟩) (hl : H.length ≤ H'.length) (hle : id ≤ H.length) :
    ∃ v w' C', (Builtin.append_ #[t, t'] ty #[.slice base sLen sCap, x]).run P w = .ok v w' ∧ Ev G w C G w' C' ∧ HR G w' C' H' ∧ VR G w' C' (.osl id g i.size 0 (sLen + xs.length)) v ∧ (∀ j, j ≠ id → C'.ι j = C.ι j ∧ C'.γ j = C.γ j) := by
  subst hlen
  have hr := run_append_grow' (ty := ty) hA x hx base ys.length sCap ho rfl hgr hb hby
  have hge := grownCap_ge w (ys.length + xs.length) sCap e
  generalize grownCap w (ys.length + xs.length) sCap e = cap at hr hge
  have hcells : ∀ q, (ov.toArray ++ nv.toArray ++ Builtin.zeroCells z.cells (cap - (ys.length + xs.length))).getD q undef = (ov ++ nv ++ (Builtin.zeroCells z.cells (cap - (ys.length + xs.length))).toList).getD q undef := fun q => by
    rw [List.getD_eq_getElem?_getD, Array.getD_eq_getD_getElem?]
    congr 1
    rw [← Array.getElem?_toList]
    simp
  have hm := hH.made (w' := w.drew.alloc (.cells (ov.toArray ++ nv.toArray ++ Builtin.zeroCells z.cells (cap - (ys.length + xs.length))) e)) (H' := H') id i.size (ys ++ xs)
    (ov.toArray ++ nv.toArray ++ Builtin.zeroCells z.cells (cap - (ys.length + xs.length))) e rfl rfl rfl rfl cap g (by simpa using hge) ?_ (fun q hq => ?_) hg hgι hH' hid hl hle fun q j hq hj => ?_
  · refine ⟨_, _, _, hr, hm.1, hm.2, .osl _ _ _ _ _ _ _ _ hge (by rw [Cx.lay_γ]; exact Nat.le_refl _) fun _ => ⟨_, _, Cx.lay_ι .., rfl, rfl, by simpa using hge, by simp, fun _ => by simp⟩, fun j hj => Cx.lay_ne _ _ _ _ hj⟩
  · simp only [Array.size_append, List.size_toArray, size_zeroCells, hzc, ho.length, hx.length, ← Nat.add_mul]
    refine Nat.mul_le_mul_right _ ?_
    omega
  · simp only [List.length_append] at hq
    rw [cat_row]
    split
    · rename_i h; exact ho.row _ h
    · exact hx.row _ (by omega)
  · simp only [List.length_append] at hq
    rw [hcells, cat_get ho.length hx.length hq hj, cat_row]
    split
    · rename_i h; exact ho.rel _ _ h hj
    · exact hx.rel _ _ (by omega) hj

/-- Rows laid over an object's block, behind or over its rows. -/
theorem over_get {k sh q : Nat} {cur nv : List Value} {xs : List (List AV)} (hnv : nv.length = xs.length * k) (hfit : sh + q * k + nv.length ≤ cur.length) {i j : Nat} (hj : j < k) :
    (cur.take (sh + q * k) ++ nv ++ cur.drop (sh + q * k + nv.length)).getD (sh + i * k + j) undef = if q ≤ i ∧ i < q + xs.length then nv.getD ((i - q) * k + j) undef else cur.getD (sh + i * k + j) undef := by
  rw [seg_get _ _ _ _ _ hfit]
  by_cases h : q ≤ i ∧ i < q + xs.length
  · have h1 : q * k ≤ i * k := Nat.mul_le_mul_right k h.1
    have h2 := row_lt (i := i) (e := q + xs.length) h.2 hj
    rw [Nat.add_mul] at h2
    rw [if_pos h, if_pos (by omega), Nat.sub_mul]
    congr 1
    omega
  · rw [if_neg h, if_neg]
    intro h3
    apply h
    rcases Nat.lt_or_ge i q with h' | h'
    · have := row_lt h' hj; omega
    · refine ⟨h', ?_⟩
      rcases Nat.lt_or_ge i (q + xs.length) with h4 | h4
      · exact h4
      · have := Nat.mul_le_mul_right k h4
        rw [Nat.add_mul] at this
        omega

theorem evAppend_sound (hT : TOk P T) (hH : HR G w C H) {t t' ty : TypeId} {s x a : AV} {us ux : Value} (hs : VR G w C s us) (hx : VR G w C x ux) (ht' : sourceT T t' = true) (h : evAppend T H t s x = some (a, H')) :
    ∃ v w' C', (Builtin.append_ #[t, t'] ty #[us, ux]).run P w = .ok v w' ∧ Ev G w C G w' C' ∧ HR G w' C' H' ∧ VR G w' C' a v ∧ Pd AnyId C H C' H' := by
  unfold evAppend at h
  split at h
  case h_2 => simp at h
  rename_i e _ _ _ ht
  split at h
  case h_2 => simp at h
  rename_i te hte
  split at h
  case h_2 => simp at h
  rename_i new hnew
  obtain ⟨i, z, hA, hsz, hby, hzc⟩ := ApT.of hT ht rfl hte ht'
  rw [← hsz] at hnew hzc h
  rw [← hby] at h
  obtain ⟨nv, hsrc⟩ := rowsIn_src (P := P) hH hx hnew
  split at h
  · -- nothing is appended
    split at h
    · rename_i g k xs
      simp only [Option.some.injEq, Prod.mk.injEq] at h
      obtain ⟨rfl, rfl⟩ := h
      cases hs with
      | nils _ _ _ hgn => exact ⟨_, w, C, run_append_none hA ux hsrc _ _ _ (Nat.le_refl _), Ev.refl .., hH, .nils _ _ _ hgn, Pd.refl⟩
      | sl _ _ _ _ ad cap hg hclip hle hs cv hk hc h1 hv => exact ⟨_, w, C, run_append_none hA ux hsrc _ _ _ hle, Ev.refl .., hH, .sl _ _ _ _ _ _ hg hclip hle hs cv hk hc h1 hv, Pd.refl⟩
    · rename_i id g k e n
      simp only [Option.some.injEq, Prod.mk.injEq] at h
      obtain ⟨rfl, rfl⟩ := h
      cases hs with
      | osl _ _ _ _ _ _ ad cap hnc hle hl => exact ⟨_, w, C, run_append_none hA ux hsrc _ _ _ hnc, Ev.refl .., hH, .osl _ _ _ _ _ _ _ _ hnc hle hl, Pd.refl⟩
      | osl0 _ _ _ _ _ base hle hl => exact ⟨_, w, C, run_append_none hA ux hsrc _ _ _ (Nat.le_refl _), Ev.refl .., hH, .osl0 _ _ _ _ _ _ hle hl, Pd.refl⟩
    · simp at h
  · rename_i hne
    have hpos : 0 < new.length := by
      cases new with
      | nil => exact absurd rfl hne
      | cons => simp
    have hpd : ∀ {C' : Cx} {o : Ob}, (∀ j, j ≠ H.length → C'.ι j = C.ι j ∧ C'.γ j = C.γ j) → Pd AnyId C H C' (H ++ [o]) := fun hj =>
      ⟨by simp, fun id hl _ hi => ⟨by rw [(hj id (by omega)).1]; exact hi, (hj id (by omega)).2, by rw [List.getElem?_append_left hl]⟩⟩
    have hnone := hH.out H.length (Nat.le_refl _)
    have hother : ∀ (o : Ob) (j : Nat), j ≠ H.length → (H ++ [o])[j]? = H[j]? := fun o j hj => by
      rcases Nat.lt_or_ge j H.length with h' | h'
      · rw [List.getElem?_append_left h']
      · rw [List.getElem?_eq_none (by simp; omega), List.getElem?_eq_none (by omega)]
    split at h
    · -- a nil slice
      split at h
      · rename_i hc
        simp only [Option.some.injEq, Prod.mk.injEq] at h
        obtain ⟨rfl, rfl⟩ := h
        have ho := sl_src (P := P) (k := i.size) hs (.inr rfl)
        cases hs with
        | sl _ _ _ _ ad cap hg => exact absurd rfl hg
        | nils =>
          obtain ⟨ov, ho⟩ := ho
          obtain ⟨v, w', C', h1, h2, h3, h4, h5⟩ := grow_sound (H' := H ++ [⟨0, i.size, [] ++ new, none⟩]) (ty := ty) hH hA hzc ux hsrc none 0 0 ho rfl (by omega) hc.2.2 (by simpa [most] using hc.1) H.length 0 (by omega) (fun _ => hnone.2) (hother _) (by simp) (by simp) (Nat.le_refl _)
          simp only [Nat.zero_add, List.nil_append] at h3 h4
          exact ⟨v, w', C', h1, h2, h3, h4, hpd h5⟩
      · simp at h
    · -- a slice without room
      rename_i k xs
      split at h
      · rename_i hc
        simp only [Option.some.injEq, Prod.mk.injEq] at h
        obtain ⟨rfl, rfl⟩ := h
        have ho := sl_src (P := P) (k := i.size) hs (hc.2.2.2.imp Eq.symm id)
        cases hs with
        | nils _ _ _ hgn => simp at hgn
        | sl _ _ _ _ ad cap hg hclip hle =>
          obtain ⟨ov, ho⟩ := ho
          obtain rfl := hclip (by simp)
          obtain ⟨v, w', C', h1, h2, h3, h4, h5⟩ := grow_sound (H' := H ++ [⟨0, i.size, xs ++ new, none⟩]) (ty := ty) hH hA hzc ux hsrc (some ad) xs.length xs.length ho rfl (by omega) hc.2.2.1 (by simpa [most] using hc.1) H.length 0 (by omega) (fun _ => hnone.2) (hother _) (by simp) (by simp) (Nat.le_refl _)
          exact ⟨v, w', C', h1, h2, h3, h4, hpd h5⟩
      · simp at h
    · -- a slice without room, or nil
      rename_i k xs
      split at h
      · rename_i hc
        simp only [Option.some.injEq, Prod.mk.injEq] at h
        obtain ⟨rfl, rfl⟩ := h
        have ho := sl_src (P := P) (k := i.size) hs (hc.2.2.2.imp Eq.symm id)
        cases hs with
        | nils _ _ _ hgn =>
          obtain ⟨ov, ho⟩ := ho
          obtain ⟨v, w', C', h1, h2, h3, h4, h5⟩ := grow_sound (H' := H ++ [⟨0, i.size, [] ++ new, none⟩]) (ty := ty) hH hA hzc ux hsrc none 0 0 ho rfl (by omega) hc.2.2.1 (by simpa [most] using hc.1) H.length 0 (by omega) (fun _ => hnone.2) (hother _) (by simp) (by simp) (Nat.le_refl _)
          exact ⟨v, w', C', h1, h2, h3, h4, hpd h5⟩
        | sl _ _ _ _ ad cap hg hclip hle =>
          obtain ⟨ov, ho⟩ := ho
          obtain rfl := hclip (by simp)
          obtain ⟨v, w', C', h1, h2, h3, h4, h5⟩ := grow_sound (H' := H ++ [⟨0, i.size, xs ++ new, none⟩]) (ty := ty) hH hA hzc ux hsrc (some ad) xs.length xs.length ho rfl (by omega) hc.2.2.1 (by simpa [most] using hc.1) H.length 0 (by omega) (fun _ => hnone.2) (hother _) (by simp) (by simp) (Nat.le_refl _)
          exact ⟨v, w', C', h1, h2, h3, h4, hpd h5⟩
      · simp at h
    · -- an exclusive slice
      rename_i id g k e n
      split at h
      case h_2 => simp at h
      rename_i o ho
      split at h
      case isFalse => simp at h
      rename_i hc0
      obtain ⟨hog, rfl, hk0⟩ := hc0
      have hγ := hH.gen id o ho
      have hlt : id < H.length := by
        rcases Nat.lt_or_ge id H.length with h' | h'
        · exact h'
        · rw [List.getElem?_eq_none h'] at ho; simp at ho
      have hgγ : g = C.γ id := by omega
      have hself := hs
      have hsetne : ∀ (o' : Ob) (j : Nat), j ≠ id → (H.set id o')[j]? = H[j]? := fun o' j hj => by rw [List.getElem?_set_ne (Ne.symm hj)]
      have hsetid : ∀ (o' : Ob), (H.set id o')[id]? = some o' := fun o' => by rw [List.getElem?_set_self hlt]
      have hpdS : ∀ {C' : Cx} {o' : Ob} {l : Loc}, C.ι id = some l → (∀ j, j ≠ id → C'.ι j = C.ι j ∧ C'.γ j = C.γ j) → Pd AnyId C H C' (H.set id o') := fun hι hj =>
          ⟨by simp, fun j hl _ hi => by
            have hne : j ≠ id := fun e => by subst e; rw [hι] at hi; simp at hi
            exact ⟨by rw [(hj j hne).1]; exact hi, (hj j hne).2, by rw [List.getElem?_set_ne (Ne.symm hne)]⟩⟩
      split at h
      · -- there is no place
        rename_i rm hrm
        split at h
        case isFalse => simp at h
        rename_i hc
        simp only [Option.some.injEq, Prod.mk.injEq] at h
        obtain ⟨rfl, rfl⟩ := h
        obtain ⟨ov, hov⟩ := rowsIn_src (P := P) (k := i.size) (xs := (o.els.drop e).take n) hH hs (by simp [rowsIn, ho, hog, hc.1])
        have hyl : ((o.els.drop e).take n).length = n := by simp; omega
        cases hs with
        | osl _ _ _ _ _ _ ad cap hnc hle hl =>
          obtain ⟨l, b, hι, hlb, hlk, hen, hcap, had⟩ := hl hgγ
          have := (hH.ob id o l ho hι).rm rm hrm
          obtain ⟨v, w', C', h1, h2, h3, h4, h5⟩ := grow_sound (H' := H ++ [⟨0, i.size, (o.els.drop e).take n ++ new, none⟩]) (ty := ty) hH hA hzc ux hsrc (some ad) n cap hov hyl (by omega) hc.2.2.2 (by simpa [most] using hc.2.2.1) H.length 0 (by omega) (fun _ => hnone.2) (hother _) (by simp) (by simp) (Nat.le_refl _)
          exact ⟨v, w', C', h1, h2, h3, h4, hpd h5⟩
        | osl0 _ _ _ _ _ base =>
          obtain ⟨v, w', C', h1, h2, h3, h4, h5⟩ := grow_sound (H' := H ++ [⟨0, i.size, (o.els.drop e).take 0 ++ new, none⟩]) (ty := ty) hH hA hzc ux hsrc base 0 0 hov hyl (by omega) hc.2.2.2 (by simpa [most] using hc.2.2.1) H.length 0 (by omega) (fun _ => hnone.2) (hother _) (by simp) (by simp) (Nat.le_refl _)
          exact ⟨v, w', C', h1, h2, h3, h4, hpd h5⟩
      cases hs with
      | osl0 _ _ _ _ _ base hle hl =>
        obtain ⟨l, hι, hlb, hlk⟩ := hl hgγ
        have hob := hH.ob id o l ho hι
        have h0 := hob.no hlb
        have h1 := hob.len
        split at h
        · rename_i hend
          split at h
          case isFalse => simp at h
          rename_i hc
          simp only [Option.some.injEq, Prod.mk.injEq] at h
          obtain ⟨rfl, rfl⟩ := h
          have hnil : o.els = [] := List.eq_nil_of_length_eq_zero (by omega)
          obtain ⟨ov, hov⟩ := nil_src (P := P) (G := G) (w := w) (C := C) i.size base (o.els.drop e) (by simp [hnil])
          obtain ⟨v, w', C', h1, h2, h3, h4, h5⟩ := grow_sound (H' := H.set id ⟨g + 1, i.size, o.els.drop e ++ new, none⟩) (ty := ty) hH hA hzc ux hsrc base 0 0 hov (by simp [hnil]) (by omega) hc.2 (by simpa [most] using hc.1) id (g + 1) (by omega) (fun e' => by omega) (hsetne _) (hsetid _) (by simp) (by omega)
          exact ⟨v, w', C', h1, h2, h3, h4, hpdS hι h5⟩
        · split at h
          · rename_i hc
            omega
          · simp at h
      | osl _ _ _ _ _ _ ad cap hnc hle hl =>
        obtain ⟨l, bb, hι, hlb, hlk, hen, hcap, had⟩ := hl hgγ
        have hob := hH.ob id o l ho hι
        have hwid := hob.len
        -- in place: the rows from row q on are laid anew
        have place : ∀ (q : Nat) (hq : q = e + n) (o' : Ob) (l' : Loc) (g' : Nat), o'.gen = g' → C.γ id ≤ g' → (g' = C.γ id → l' = l) → l'.b = l.b → o'.room = none → l'.k = l.k → (∃ d, l'.sh = l.sh + d * l.k ∧ l'.room + d = l.room ∧ o'.k = l.k ∧ d + o'.els.length ≤ l.room ∧ d ≤ q ∧
              q + new.length ≤ d + o'.els.length ∧ ∀ r, r < o'.els.length → if q ≤ d + r ∧ d + r < q + new.length then o'.els.getD r [] = new.getD (d + r - q) [] else d + r < o.els.length ∧ o'.els.getD r [] = o.els.getD (d + r) []) → n + new.length ≤ cap → (e + n + new.length ≤ l.room) →
            ∃ v w' C', (Builtin.append_ #[t, t'] ty #[.slice (some ad) n cap, ux]).run P w = .ok v w' ∧ Ev G w C G w' C' ∧ HR G w' C' (H.set id o') ∧ v = .slice (some ⟨bb, l.sh + e * i.size, none⟩) (n + new.length) cap ∧ C' = C.lay id (some l') g' := by
          intro q hq o' l' g' hg' hγ' hl'l hb hrn hk' hd hroom hroom2
          obtain ⟨d, hsh, hrm, hok, hln, hdq, hqd, hrows⟩ := hd
          obtain ⟨hk1, hrm1, hno1, hlen1, hrow1, hcs1⟩ := hob
          obtain ⟨cur, et, hcur, hcsz, hcell⟩ := hcs1 bb hlb
          have hm : (q + new.length) * l.k ≤ l.room * l.k := Nat.mul_le_mul_right _ (by omega)
          rw [Nat.add_mul] at hm
          have hnvl : nv.length = new.length * l.k := by rw [hsrc.length, hlk]
          have hqk : q * l.k = e * l.k + n * l.k := by rw [hq, Nat.add_mul]
          have hr := run_append_room' (ty := ty) hA ux hsrc bb (l.sh + e * i.size) n cap cur et hcur hsrc.oneCell hroom (by rw [← hlk]; omega)
          have hoff : l.sh + e * i.size + n * i.size = l.sh + q * l.k := by rw [← hlk]; omega
          rw [hoff] at hr
          rw [had (by omega)]
          suffices hs2 : Ev G w C G (w.setRow bb (cur.toList.take (l.sh + q * l.k) ++ nv ++ cur.toList.drop (l.sh + q * l.k + nv.length)).toArray) (C.lay id (some l') g') ∧ HR G (w.setRow bb (cur.toList.take (l.sh + q * l.k) ++ nv ++ cur.toList.drop (l.sh + q * l.k + nv.length)).toArray) (C.lay id (some l') g') (H.set id o') from ⟨_, (w.setRow bb (cur.toList.take (l.sh + q * l.k) ++ nv ++ cur.toList.drop (l.sh + q * l.k + nv.length)).toArray), C.lay id (some l') g', hr, hs2.1, hs2.2, rfl, rfl⟩
          have hev : Mv G w C G (w.setRow bb (cur.toList.take (l.sh + q * l.k) ++ nv ++ cur.toList.drop (l.sh + q * l.k + nv.length)).toArray) (C.lay id (some l') g') :=
            ⟨fun _ h => h, fun b' hb' => setRow_other w _ _ _ fun e' => (hH.own id l bb hι hlb).2 (e' ▸ hb'), fun j => by
                by_cases e' : j = id
                · subst e'
                  rw [Cx.lay_γ, Cx.lay_ι]
                  exact ⟨hγ', fun e2 l2 hl2 => by rw [hι] at hl2; rw [hl'l e2]; exact hl2⟩
                · rw [(Cx.lay_ne _ _ _ _ e').1, (Cx.lay_ne _ _ _ _ e').2]; exact ⟨Nat.le_refl _, fun _ _ h => h⟩⟩
          · refine (hH.upd (G' := G) (w' := (w.setRow bb (cur.toList.take (l.sh + q * l.k) ++ nv ++ cur.toList.drop (l.sh + q * l.k + nv.length)).toArray)) (C' := C.lay id (some l') g') id o' rfl rfl rfl (fun j hj => Cx.lay_ne _ _ _ _ hj) (by rw [Cx.lay_γ]; exact hγ') (fun e2 l2 hl2 => ?_) (hsetne _) (hsetid _) (by simp) (by omega) (by rw [Cx.lay_γ]; exact hg') (fun _ h => h) (fun _ h => .inl h)
              (fun b' _ hb' => setRow_other w _ _ _ fun e' => hb' l hι (by rw [hlb, e'])) (by simp) (fun b' hb' => by simpa using hH.gsz b' hb') (fun l2 b2 hl2 hb2 => by rw [Cx.lay_ι] at hl2; simp only [Option.some.injEq] at hl2; subst hl2; exact .inl ⟨l, hι, by rw [← hb]; exact hb2⟩) (frozen_setRow w _ _ _ _ _ hcur) fun l2 hl2 => ?_)
            · rw [Cx.lay_γ] at e2
              rw [Cx.lay_ι, hl'l e2]
              rw [hι] at hl2
              exact hl2
            · rw [Cx.lay_ι] at hl2
              simp only [Option.some.injEq] at hl2
              subst hl2
              have hlsz : (cur.toList.take (l.sh + q * l.k) ++ nv ++ cur.toList.drop (l.sh + q * l.k + nv.length)).length = cur.size := by simp; omega
              have hlb' : ∀ b2, l'.b = some b2 → b2 = bb := fun b2 h2 => by rw [hb, hlb] at h2; simpa using h2.symm
              refine ⟨fun b2 hb2 => ?_, by rw [hok, hk'], fun r hr => by rw [hrn] at hr; simp at hr, fun hn => by rw [hb, hlb] at hn; simp at hn, by omega, fun r hr' => ?_, fun b2 hb2 => ?_⟩
              · rw [hlb' b2 hb2]
                exact ⟨by simpa using (hH.own id l bb hι hlb).1, (hH.own id l bb hι hlb).2, fun j hj l2 hl2 e' => hj (hH.inj _ _ _ _ bb hl2 hι e' hlb)⟩
              rotate_left
              rw [hlb' b2 hb2]
              refine ⟨_, et, setRow_heap w _ _ _ _ _ hcur, ?_, fun r j hr' hj => ?_⟩
              rotate_right
              · have := hrows r hr'
                split at this
                · rw [this, hk', hlk]; exact hsrc.row _ (by omega)
                · rw [this.2, hk']; exact hrow1 _ this.1
              · rw [hsh, hk']
                have : l.room * l.k = l'.room * l.k + d * l.k := by rw [← hrm, Nat.add_mul]
                have h2 : (cur.toList.take (l.sh + q * l.k) ++ nv ++ cur.toList.drop (l.sh + q * l.k + nv.length)).toArray.size = cur.size := by simpa using hlsz
                rw [h2]
                omega
              · rw [hk'] at hj ⊢
                have hidx : l'.sh + r * l.k + j = l.sh + (d + r) * l.k + j := by rw [hsh, Nat.add_mul]; omega
                rw [hidx]
                have hA2 : ((cur.toList.take (l.sh + q * l.k) ++ nv ++ cur.toList.drop (l.sh + q * l.k + nv.length)).toArray).getD (l.sh + (d + r) * l.k + j) undef = if q ≤ d + r ∧ d + r < q + new.length then nv.getD ((d + r - q) * l.k + j) undef else cur.toList.getD (l.sh + (d + r) * l.k + j) undef := by
                  rw [← over_get (xs := new) hnvl (by rw [hnvl]; simp; omega) hj]
                  simp [Array.getD_eq_getD_getElem?, List.getD_eq_getElem?_getD]
                rw [hA2]
                have := hrows r hr'
                split at this
                · rename_i hin
                  rw [if_pos hin, this]
                  obtain ⟨h3, h4⟩ := hsrc.rel (d + r - q) j (by omega) (by omega)
                  rw [← hlk] at h3 h4
                  exact ⟨h3, h4.mv hev⟩
                · rename_i hin
                  rw [if_neg hin, this.2]
                  have hcg : cur.toList.getD (l.sh + (d + r) * l.k + j) undef = cur.getD (l.sh + (d + r) * l.k + j) undef := by simp [Array.getD_eq_getD_getElem?, List.getD_eq_getElem?_getD]
                  rw [hcg]
                  obtain ⟨h3, h4⟩ := hcell (d + r) j this.1 hj
                  exact ⟨h3, h4.mv hev⟩
        split at h
        · -- at its end
          rename_i hend
          split at h
          case isFalse => simp at h
          rename_i hc
          simp only [Option.some.injEq, Prod.mk.injEq] at h
          obtain ⟨rfl, rfl⟩ := h
          rcases Nat.lt_or_ge cap (n + new.length) with hgrow | hroom
          · obtain ⟨ov, hov⟩ := osl_src (P := P) hι hlb hgγ hob hself hlk.symm (by omega)
            have hys : (o.els.drop e).take n = o.els.drop e := List.take_of_length_le (by simp; omega)
            rw [hys] at hov
            obtain ⟨v, w', C', h1, h2, h3, h4, h5⟩ := grow_sound (H' := H.set id ⟨g + 1, i.size, o.els.drop e ++ new, none⟩) (ty := ty) hH hA hzc ux hsrc (some ad) n cap hov (by simp; omega) hgrow hc.2 (by simpa [most] using hc.1) id (g + 1) (by omega) (fun e' => by omega) (hsetne _) (hsetid _) (by simp) (by omega)
            exact ⟨v, w', C', h1, h2, h3, h4, hpdS hι h5⟩
          · obtain ⟨v, w', C', h1, h2, h3, rfl, rfl⟩ := place (e + n) rfl ⟨g + 1, i.size, o.els.drop e ++ new, none⟩ ⟨l.b, l.sh + e * l.k, l.k, l.room - e⟩ (g + 1) rfl (by omega) (fun e' => by omega) rfl rfl rfl
              ⟨e, rfl, by simp; omega, hlk.symm, by simp; omega, by omega, by simp; omega, fun r hr' => by
                simp only [List.length_append, List.length_drop] at hr'
                rw [cat_row]
                simp only [List.length_drop]
                split
                · rename_i h2
                  rw [if_neg (by omega)]
                  congr 1
                  omega
                · rename_i h2
                  rw [if_pos (by omega)]
                  refine ⟨by omega, ?_⟩
                  simp [List.getD_eq_getElem?_getD, List.getElem?_drop]⟩ hroom (by omega)
            refine ⟨_, w', _, h1, h2, h3, .osl _ _ _ _ _ _ _ _ hroom (by rw [Cx.lay_γ]; exact Nat.le_refl _) fun _ => ⟨_, bb, Cx.lay_ι .., hlb, hlk, by simp; omega, by simp; omega, fun _ => by simp [hlk]⟩, hpdS hι fun j hj => Cx.lay_ne _ _ _ _ hj⟩
        · rename_i hend
          split at h
          case isFalse => simp at h
          rename_i hc
          simp only [Option.some.injEq, Prod.mk.injEq] at h
          obtain ⟨rfl, rfl⟩ := h
          obtain ⟨v, w', C', h1, h2, h3, rfl, rfl⟩ := place (e + n) rfl { o with els := o.els.take (e + n) ++ new ++ o.els.drop (e + n + new.length) } l g (by simpa using hog) (by omega) (fun _ => rfl) rfl (by assumption) rfl
            ⟨0, by simp, by simp, by simpa using hob.k, by simp; omega, by omega, by simp; omega, fun r hr' => by
              rw [seg_get _ _ _ _ _ (by omega)]
              simp only [Nat.zero_add]
              split
              · rfl
              · rename_i h2
                refine ⟨?_, rfl⟩
                simp at hr'
                omega⟩ (by omega) (by omega)
          refine ⟨_, w', _, h1, h2, h3, .osl _ _ _ _ _ _ _ _ (by omega) (by rw [Cx.lay_γ]; exact Nat.le_refl _) fun _ => ⟨l, bb, Cx.lay_ι .., hlb, hlk, by omega, hcap, fun _ => rfl⟩, hpdS hι fun j hj => Cx.lay_ne _ _ _ _ hj⟩
    · simp at h
end
end Go.Proofs.Ytpkgpldgoajphaa.AM
