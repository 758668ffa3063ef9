/-
  AM: what is known of a call over few objects is known of it over more.
-/
import Derived.Test.YtpkgpldgoajphaaAm23
set_option linter.unusedVariables false
set_option linter.unusedSimpArgs false
namespace Go.Proofs.Ytpkgpldgoajphaa.AM
open Go

def Ob.ren (τ : Nat → Nat) (o : Ob) : Ob := { o with els := o.els.map (AV.rens τ) }
/-- Objects Hs lie among Hb, at τ's numbers; new ones behind all. -/
structure Emb (τ : Nat → Nat) (Hs Hb : Heap) : Prop where
  lt : ∀ i, i < Hs.length → τ i < Hb.length
  new : ∀ i, Hs.length ≤ i → τ i = Hb.length + (i - Hs.length)
  inj : ∀ i j, i < Hs.length → j < Hs.length → τ i = τ j → i = j
  get : ∀ (i : Nat) (o : Ob), Hs[i]? = some o → Hb[τ i]? = some (o.ren τ)

section
variable {P : Program} {τ : Nat → Nat} {Hs Hb : Heap}
theorem Emb.inj' (h : Emb τ Hs Hb) {i j : Nat} (e : τ i = τ j) : i = j := by
  rcases Nat.lt_or_ge i Hs.length with h1 | h1 <;> rcases Nat.lt_or_ge j Hs.length with h2 | h2
  · exact h.inj i j h1 h2 e
  · have := h.lt i h1; have := h.new j h2; omega
  · have := h.lt j h2; have := h.new i h1; omega
  · have := h.new i h1; have := h.new j h2; omega
theorem bdds_len {b : Nat} {o : List (List AV)} (h : AV.bddss b o = true) (i : Nat) : AV.bdds b (o.getD i []) = true := by
  rcases Nat.lt_or_ge i o.length with h' | h'
  · exact bddss_get _ h i h'
  · rw [List.getD_eq_getElem?_getD, List.getElem?_eq_none h']; rfl

theorem ACalls.frame {f : FuncId} {args : List AV} {a : AV} {Hs' Hb' : Heap} (h : ACalls P f args Hs (a, Hs')) (hem : Emb τ Hs Hb) (hargs : AV.bdds Hs.length args = true)
    (hbs : ∀ (i : Nat) (o : Ob), Hs[i]? = some o → AV.bddss Hs.length o.els = true)
    (hlen : Hb'.length = Hb.length + (Hs'.length - Hs.length)) (hnew : ∀ (i : Nat) (o : Ob), Hs'[i]? = some o → Hb'[τ i]? = some (o.ren τ)) (hrest : ∀ j, j < Hb.length → (∀ i, i < Hs.length → τ i ≠ j) → Hb'[j]? = Hb[j]?) :
    ACalls P f (AV.rens τ args) Hb (a.ren τ, Hb') := by
  intro G w C vs hsz hav hH
  rw [rens_len] at hsz hav
  have hCs : ∀ i, i < Hs.length → (Cx.mk (fun i => if i < Hs.length then C.ι (τ i) else none) (fun i => if i < Hs.length then C.γ (τ i) else 0)).ι i = C.ι (τ i) ∧ (Cx.mk (fun i => if i < Hs.length then C.ι (τ i) else none) (fun i => if i < Hs.length then C.γ (τ i) else 0)).γ i = C.γ (τ i) := fun i hi => by simp [hi]
  generalize hCd : (Cx.mk (fun i => if i < Hs.length then C.ι (τ i) else none) (fun i => if i < Hs.length then C.γ (τ i) else 0)) = Cs at hCs
  have hCn : ∀ i, Hs.length ≤ i → Cs.γ i = 0 ∧ Cs.ι i = none := fun i hi => by
    rw [← hCd]
    have : ¬ i < Hs.length := by omega
    simp [this]
  have hCl : ∀ i l, Cs.ι i = some l → i < Hs.length ∧ C.ι (τ i) = some l := fun i l hl => by
    rcases Nat.lt_or_ge i Hs.length with h' | h'
    · exact ⟨h', by rw [← (hCs i h').1]; exact hl⟩
    · rw [(hCn i h').2] at hl; simp at hl
  have hHs : HR G w Cs Hs := by
    refine ⟨fun i o ho => ?_, hCn, fun i l b hl hb => hH.own _ l b (hCl i l hl).2 hb, fun i j l l' b h1 h2 e e2 => ?_, fun i o l ho hl => ?_, hH.gsz⟩
    · have hi : i < Hs.length := by
        rcases Nat.lt_or_ge i Hs.length with h' | h'
        · exact h'
        · rw [List.getElem?_eq_none h'] at ho; simp at ho
      rw [(hCs i hi).2]
      have := hH.gen _ _ (hem.get i o ho)
      exact this
    · exact hem.inj' (hH.inj _ _ _ _ b (hCl i l h1).2 (hCl j l' h2).2 e e2)
    · obtain ⟨hi, hl'⟩ := hCl i l hl
      obtain ⟨hk, hrm, hno, hlen', hrow, hcs0⟩ := hH.ob _ _ l (hem.get i o ho) hl'
      have hbo := hbs i o ho
      have hel : ∀ q, (o.ren τ).els.getD q [] = AV.rens τ (o.els.getD q []) := fun q => by
        simp only [Ob.ren, List.getD_eq_getElem?_getD, List.getElem?_map]
        cases o.els[q]? <;> rfl
      have hln : (o.ren τ).els.length = o.els.length := by simp [Ob.ren]
      refine ⟨hk, hrm, hno, by rw [← hln]; exact hlen', fun q hq => ?_, fun b hlb => ?_⟩
      · have := hrow q (by rw [hln]; exact hq)
        rwa [hel, rens_len] at this
      · obtain ⟨cs, e, hc, hcs, hcell⟩ := hcs0 b hlb
        refine ⟨cs, e, hc, hcs, fun q j hq hj => ?_⟩
        obtain ⟨h1, h2⟩ := hcell q j (by rw [hln]; exact hq) hj
        have hrl := hrow q (by rw [hln]; exact hq)
        rw [hel, rens_len] at hrl
        rw [hel, rens_get _ j (by rw [hrl]; exact hj)] at h2
        exact ⟨h1, h2.ren (bdds_get _ (bdds_len hbo q) j (by rw [hrl]; exact hj)) hCs⟩
  refine (h G w Cs vs hsz (fun i hi => ?_) hHs).mono fun v w' ⟨G', Cs', he, hh, hv, hp⟩ => ?_
  · have := hav i hi
    rw [rens_get _ i hi] at this
    exact this.ren (bdds_get _ hargs i hi) hCs
  · have hC' : ∃ C' : Cx, (∀ i, C'.ι (τ i) = Cs'.ι i ∧ C'.γ (τ i) = Cs'.γ i) ∧ ∀ j, (∀ i, τ i ≠ j) → C'.ι j = C.ι j ∧ C'.γ j = C.γ j := by
      classical
      refine ⟨⟨fun j => if h : ∃ i, τ i = j then Cs'.ι (Classical.choose h) else C.ι j, fun j => if h : ∃ i, τ i = j then Cs'.γ (Classical.choose h) else C.γ j⟩, fun i => ?_, fun j hj => ?_⟩
      · have hx : ∃ i', τ i' = τ i := ⟨i, rfl⟩
        have : Classical.choose hx = i := hem.inj' (Classical.choose_spec hx)
        simp only [hx, dif_pos, this]
        exact ⟨trivial, trivial⟩
      · have : ¬ ∃ i, τ i = j := fun ⟨i, hi⟩ => hj i hi
        simp [this]
    obtain ⟨C', hτ, hno⟩ := hC'
    have himg : ∀ j, (∃ i, τ i = j) ∨ (∀ i, τ i ≠ j) := fun j => by
      by_cases h : ∃ i, τ i = j
      · exact .inl h
      · exact .inr fun i hi => h ⟨i, hi⟩
    have hbig : ∀ j, Hb.length ≤ j → τ (Hs.length + (j - Hb.length)) = j := fun j hj => by rw [hem.new _ (by omega)]; omega
    have hcle : CxLe C C' := fun j => by
      rcases himg j with ⟨i, rfl⟩ | hj
      · rw [(hτ i).1, (hτ i).2]
        have hci := he.cx i
        rcases Nat.lt_or_ge i Hs.length with h' | h'
        · rw [(hCs i h').1, (hCs i h').2] at hci; exact hci
        · obtain ⟨h1, h2⟩ := hH.out (τ i) (by rw [hem.new i h']; omega)
          exact ⟨by omega, fun _ l hl => by rw [h2] at hl; simp at hl⟩
      · rw [(hno j hj).1, (hno j hj).2]; exact ⟨Nat.le_refl _, fun _ _ h => h⟩
    have hownC : ∀ i l b, Cs'.ι i = some l → l.b = some b → (∃ j k, C.ι j = some k ∧ k.b = some b ∧ ∃ q, τ q = j) ∨ w.heap.size ≤ b := fun i l b hl hb => (he.own i l b hl hb).imp (fun ⟨q, k, hk, e⟩ => ⟨τ q, k, (hCl q k hk).2, e, q, rfl⟩) fun h => h
    have hev : Ev G w C G' w' C' := by
      refine ⟨he.os, he.tape, he.output, he.size, he.lock, he.same, hcle, fun b hb hn => he.rest b hb fun i l hl => hn _ l (hCl i l hl).2, fun b hb => ?_, fun j l b hl hlb => ?_, he.frz⟩
      · exact (he.grow b hb).imp (fun h => h) fun h => h.imp (fun ⟨i, l, hl, e⟩ => ⟨τ i, l, (hCl i l hl).2, e⟩) fun h => h
      · rcases himg j with ⟨i, rfl⟩ | hj
        · rw [(hτ i).1] at hl
          exact (hownC i l b hl hlb).imp (fun ⟨q, k, hk, e, _⟩ => ⟨q, k, hk, e⟩) fun h => h
        · rw [(hno j hj).1] at hl
          exact .inl ⟨j, l, hl, hlb⟩
    have hkept : ∀ j l, (∀ i, τ i ≠ j) → C.ι j = some l → ∀ b, l.b = some b → w'.heap[b]? = w.heap[b]? := fun j l hj hl b hlb => he.rest _ (hH.own j l b hl hlb).1 fun i k hk e => hj i (hH.inj _ _ _ _ b (hCl i k hk).2 hl e hlb)
    have hHb' : ∀ (j : Nat) (ob : Ob), Hb'[j]? = some ob → (∃ i, τ i = j ∧ ∃ o, Hs'[i]? = some o ∧ ob = o.ren τ) ∨ ((∀ i, τ i ≠ j) ∧ Hb[j]? = some ob) := fun j ob ho => by
      have hjl : j < Hb'.length := by
        rcases Nat.lt_or_ge j Hb'.length with h' | h'
        · exact h'
        · rw [List.getElem?_eq_none h'] at ho; simp at ho
      rcases himg j with ⟨i, rfl⟩ | hj
      · have hi : i < Hs'.length := by
          rcases Nat.lt_or_ge i Hs.length with h' | h'
          · have := hp.1; simp only at this; omega
          · have := hem.new i h'; have := hp.1; simp only at this; omega
        have hg := List.getElem?_eq_getElem hi
        have := hnew i _ hg
        rw [ho] at this
        simp only [Option.some.injEq] at this
        exact .inl ⟨i, rfl, _, hg, this⟩
      · have hjb : j < Hb.length := by
          rcases Nat.lt_or_ge j Hb.length with h' | h'
          · exact h'
          · exact absurd (hbig j h') (hj _)
        rw [hrest j hjb fun i _ => hj i] at ho
        exact .inr ⟨hj, ho⟩
    refine ⟨G', C', hev, ?_, hv.unren fun i => ⟨(hτ i).1.symm, (hτ i).2.symm⟩, ?_⟩
    · refine ⟨fun j ob ho => ?_, fun j hj => ?_, fun j l b hl hlb => ?_, fun j k l l' b h1 h2 e1 e2 => ?_, fun j ob l ho hl => ?_, hh.gsz⟩
      · rcases hHb' j ob ho with ⟨i, rfl, o, ho', rfl⟩ | ⟨hj, ho'⟩
        · rw [(hτ i).2]; exact hh.gen i o ho'
        · rw [(hno j hj).2]; exact hH.gen j ob ho'
      · have hjb : Hb.length ≤ j := by simp only at hj; omega
        rw [← hbig j hjb, (hτ _).1, (hτ _).2]
        refine hh.out _ ?_
        have := hp.1
        simp only at hj this ⊢
        omega
      · rcases himg j with ⟨i, rfl⟩ | hj
        · rw [(hτ i).1] at hl; exact hh.own i l b hl hlb
        · rw [(hno j hj).1] at hl
          obtain ⟨h1, h2⟩ := hH.own j l b hl hlb
          refine ⟨Nat.lt_of_lt_of_le h1 he.size, fun hg => ?_⟩
          rcases he.grow _ hg with h3 | ⟨i, k, hk, e⟩ | h3
          · exact h2 h3
          · exact hj i (hH.inj _ _ _ _ b (hCl i k hk).2 hl e hlb)
          · omega
      · rcases himg j with ⟨i, rfl⟩ | hj <;> rcases himg k with ⟨q, rfl⟩ | hk
        · rw [(hτ i).1] at h1
          rw [(hτ q).1] at h2
          rw [hh.inj i q l l' b h1 h2 e1 e2]
        · rw [(hτ i).1] at h1
          rw [(hno k hk).1] at h2
          rcases hownC i l b h1 e1 with ⟨x, y, hy, e3, z, hz⟩ | h3
          · have := hH.inj _ _ _ _ b hy h2 e3 e2
            exact absurd (hz.trans this) (hk z)
          · have := (hH.own k l' b h2 e2).1; omega
        · rw [(hno j hj).1] at h1
          rw [(hτ q).1] at h2
          rcases hownC q l' b h2 e2 with ⟨x, y, hy, e3, z, hz⟩ | h3
          · have := hH.inj _ _ _ _ b hy h1 e3 e1
            exact absurd (hz.trans this) (hj z)
          · have := (hH.own j l b h1 e1).1; omega
        · rw [(hno j hj).1] at h1
          rw [(hno k hk).1] at h2
          exact hH.inj _ _ _ _ b h1 h2 e1 e2
      · rcases hHb' j ob ho with ⟨i, rfl, o, ho', rfl⟩ | ⟨hj, ho'⟩
        · rw [(hτ i).1] at hl
          obtain ⟨hk, hrm, hno, hlen', hrow, hcs0⟩ := hh.ob i o l ho' hl
          have hel : ∀ q, (o.ren τ).els.getD q [] = AV.rens τ (o.els.getD q []) := fun q => by
            simp only [Ob.ren, List.getD_eq_getElem?_getD, List.getElem?_map]
            cases o.els[q]? <;> rfl
          have hln : (o.ren τ).els.length = o.els.length := by simp [Ob.ren]
          refine ⟨hk, hrm, hno, by rw [hln]; exact hlen', fun q hq => ?_, fun b hlb => ?_⟩
          · rw [hel, rens_len]; exact hrow q (by rw [← hln]; exact hq)
          · obtain ⟨cs, e, hc, hcs, hcell⟩ := hcs0 b hlb
            refine ⟨cs, e, hc, hcs, fun q x hq hx => ?_⟩
            obtain ⟨h1, h2⟩ := hcell q x (by rw [← hln]; exact hq) hx
            rw [hel, rens_get _ x (by rw [hrow q (by rw [← hln]; exact hq)]; exact hx)]
            exact ⟨h1, h2.unren fun i => ⟨(hτ i).1.symm, (hτ i).2.symm⟩⟩
        · rw [(hno j hj).1] at hl
          exact (hH.ob j ob l ho' hl).ev hev (hkept j l hj hl)
    · refine ⟨by simp only; omega, fun j hj _ hi => ?_⟩
      rcases himg j with ⟨i, rfl⟩ | hj'
      · have hil : i < Hs.length := by
          rcases Nat.lt_or_ge i Hs.length with h' | h'
          · exact h'
          · have := hem.new i h'; omega
        obtain ⟨h1, h2, h3⟩ := hp.2 i hil trivial (by rw [(hCs i hil).1]; exact hi)
        refine ⟨by rw [(hτ i).1]; exact h1, by rw [(hτ i).2, h2, (hCs i hil).2], ?_⟩
        have hg := List.getElem?_eq_getElem hil
        rw [hem.get i _ hg, hnew i _ (h3.trans hg)]
      · exact ⟨by rw [(hno j hj').1]; exact hi, (hno j hj').2, hrest j hj fun i _ => hj' i⟩
end
end Go.Proofs.Ytpkgpldgoajphaa.AM
