/-
  Texts of this claim, part 6 of 6: an abstract machine over the model; what functions come to; plain laws.
-/
import Derived.Test.YtcmfnfkahdconaaMMergeTwice5
import Derived.Below
import Derived.Carry
import Derived.ChangeSlices
set_option linter.unusedVariables false
set_option linter.unusedSimpArgs false
namespace Go.Proofs.Ytcmfnfkahdconaa.AM
open Go
theorem cap32 : capM 32 = 32 := by unfold capM; omega
theorem apps_ok : ∀ i, i < 4 → nameB (nth apps i) = true
  | 0, _ => by kernel_rfl
  | 1, _ => by kernel_rfl
  | 2, _ => by kernel_rfl
  | 3, _ => by kernel_rfl
  | _ + 4, h => by omega
theorem ids_ok : ∀ i, i < 5 → nameB (nth idsL i) = true
  | 0, _ => by kernel_rfl
  | 1, _ => by kernel_rfl
  | 2, _ => by kernel_rfl
  | 3, _ => by kernel_rfl
  | 4, _ => by kernel_rfl
  | _ + 5, h => by omega
theorem tape_right (t : Tp) : cardR t.card = true := by
  have h1 := t.next_lt 4 (by omega)
  have h2 := (t.step 4).next_lt 5 (by omega)
  have h3 := t.keyT.next_lt 2 (by omega)
  have h4 := t.c1.next_lt 7 (by omega)
  have h5 := t.c2.next_lt 60 (by omega)
  have h6 := t.c3.next_lt 40 (by omega)
  have h7 := (t.c3.step 40).next_lt 6 (by omega)
  have h8 := ((t.c3.step 40).step 6).next_lt 9 (by omega)
  simp only [cardR, Tp.card, Tp.key, Tp.stamp, stR, apps_ok _ h1, ids_ok _ h2, Bool.and_eq_true, Bool.or_eq_true, true_and]
  refine ⟨?_, ⟨decide_eq_true (by omega), decide_eq_true (by omega)⟩, ⟨decide_eq_true (by omega), decide_eq_true (by omega)⟩, decide_eq_true (by omega), decide_eq_true (by omega), decide_eq_true (by omega), decide_eq_true (by omega)⟩
  rcases Nat.eq_zero_or_pos (t.keyT.next 2) with h | h
  · exact .inl (decide_eq_true (by omega))
  · exact .inr (decide_eq_true (by omega))
theorem cards_right {n : Nat} {t : Tp} {c : Card} (h : c ∈ t.cards n) : cardR c = true := by
  obtain ⟨t', rfl⟩ := Tp.cards_mem n t c h
  exact tape_right t'
theorem stamp_lt (a b : Stamp) : cmpSt a b < 0 ↔ (a.t < b.t ∨ (a.t = b.t ∧ (a.n < b.n ∨ (a.n = b.n ∧ a.node < b.node)))) := by
  unfold cmpSt cmpI
  rcases Int.lt_trichotomy a.t b.t with h | h | h
  · rw [if_pos h, if_neg (by omega)]; omega
  · rw [if_neg (show ¬ a.t < b.t by omega), if_neg (show ¬ a.t > b.t by omega), if_pos rfl]
    rcases Int.lt_trichotomy a.n b.n with h2 | h2 | h2
    · rw [if_pos h2, if_neg (by omega)]; omega
    · rw [if_neg (show ¬ a.n < b.n by omega), if_neg (show ¬ a.n > b.n by omega), if_pos rfl]
      split
      · omega
      · split <;> omega
    · rw [if_neg (show ¬ a.n < b.n by omega), if_pos h2, if_neg (by omega)]; omega
  · rw [if_neg (show ¬ a.t < b.t by omega), if_pos h, if_neg (by omega)]; omega
theorem stamp_le_trans {a b c : Stamp} (h1 : ¬ cmpSt b a < 0) (h2 : ¬ cmpSt c b < 0) : ¬ cmpSt c a < 0 := by
  rw [stamp_lt] at *; omega
theorem stamp_lt_le {a b : Stamp} (h : cmpSt a b < 0) : ¬ cmpSt b a < 0 := by
  rw [stamp_lt] at *; omega
theorem stamp_self (a : Stamp) : cmpSt a a = 0 := by unfold cmpSt cmpI; simp
theorem intoS_right {now : Int} {s : List Entry × List Key × List Card × Nat} {c : Card} (hr : cardR c = true) (hs : SrtE s.1) (hl : s.1.length < 32) :
    SrtE (intoS now s c).1 ∧ (findB (intoS now s c).1 c.key = true ∧ ¬ cmpSt (getE (intoS now s c).1 c.key).card.stamp c.stamp < 0) ∧
    (∀ k, findB s.1 k = true → findB (intoS now s c).1 k = true ∧ ¬ cmpSt (getE (intoS now s c).1 k).card.stamp (getE s.1 k).card.stamp < 0) := by
  have hcap : ∀ e : Entry, findB s.1 e.card.key = true ∨ (s.1.length : Int) < capM 32 := fun e => .inr (by rw [cap32]; omega)
  unfold intoS
  rw [if_pos hr]
  split
  · rename_i h
    obtain ⟨hb, hc⟩ := h
    have hc' : ¬ cmpSt (getE s.1 c.key).card.stamp c.stamp < 0 := by simpa using hc
    obtain ⟨hm, hk⟩ := find_get hb
    split
    · have e2 := find_putL (most := capM 32) hs (e := ⟨(getE s.1 c.key).card, now⟩) (hcap _)
      simp only [hk] at e2
      refine ⟨putL_srt hs _, ⟨e2.1, by rw [e2.2]; exact hc'⟩, fun k hkb => ?_⟩
      by_cases hkk : k = c.key
      · subst hkk; refine ⟨e2.1, ?_⟩; rw [e2.2]; simp only; rw [stamp_self]; omega
      · have e3 := find_putL_ne (most := capM 32) hs (e := ⟨(getE s.1 c.key).card, now⟩) (hcap _) (k := k) (by simpa [hk] using hkk)
        rw [e3.1, e3.2]; exact ⟨hkb, by rw [stamp_self]; omega⟩
    · exact ⟨hs, ⟨hb, hc'⟩, fun k hkb => ⟨hkb, by rw [stamp_self]; omega⟩⟩
  · rename_i h
    have e2 := find_putL (most := capM 32) hs (e := ⟨c, now⟩) (hcap _)
    refine ⟨putL_srt hs _, ⟨e2.1, ?_⟩, fun k hkb => ?_⟩
    · simp only at e2 ⊢; rw [e2.2]; simp only; rw [stamp_self]; omega
    · by_cases hkk : k = c.key
      · subst hkk
        refine ⟨e2.1, ?_⟩
        simp only at e2 ⊢; rw [e2.2]
        have h3 : cmpSt (getE s.1 c.key).card.stamp c.stamp < 0 := by
          rcases Decidable.em (cmpSt (getE s.1 c.key).card.stamp c.stamp < 0) with h4 | h4
          · exact h4
          · exact absurd ⟨hkb, by simpa using h4⟩ h
        exact stamp_lt_le h3
      · have e3 := find_putL_ne (most := capM 32) hs (e := ⟨c, now⟩) (hcap _) (k := k) hkk
        simp only at e3 ⊢
        rw [e3.1, e3.2]; exact ⟨hkb, by rw [stamp_self]; omega⟩
theorem intoF_right {now : Int} (cs : List Card) : ∀ (s : List Entry × List Key × List Card × Nat), (∀ c ∈ cs, cardR c = true) → SrtE s.1 → s.1.length + cs.length ≤ 32 →
    SrtE (cs.foldl (intoS now) s).1 ∧ (∀ c ∈ cs, findB (cs.foldl (intoS now) s).1 c.key = true ∧ ¬ cmpSt (getE (cs.foldl (intoS now) s).1 c.key).card.stamp c.stamp < 0) ∧
    (∀ k, findB s.1 k = true → findB (cs.foldl (intoS now) s).1 k = true ∧ ¬ cmpSt (getE (cs.foldl (intoS now) s).1 k).card.stamp (getE s.1 k).card.stamp < 0) := by
  induction cs with
  | nil => intro s _ hs _; exact ⟨hs, by simp, fun k hk => ⟨hk, by simp [stamp_self]⟩⟩
  | cons c cs ih =>
    intro s hr hs hl
    rw [List.length_cons] at hl
    obtain ⟨h1, h2, h3⟩ := intoS_right (now := now) (hr c (by simp)) hs (by omega)
    have hlen := (intoS_len now s c).1
    obtain ⟨k1, k2, k3⟩ := ih (intoS now s c) (fun x hx => hr x (by simp [hx])) h1 (by omega)
    rw [List.foldl_cons]
    refine ⟨k1, fun x hx => ?_, fun k hk => ?_⟩
    · rcases List.mem_cons.1 hx with rfl | hx
      · obtain ⟨q1, q2⟩ := k3 _ h2.1
        exact ⟨q1, stamp_le_trans h2.2 q2⟩
      · exact k2 x hx
    · obtain ⟨q1, q2⟩ := h3 k hk
      obtain ⟨q3, q4⟩ := k3 k q1
      exact ⟨q3, stamp_le_trans q2 q4⟩
theorem intoF_again {now : Int} (w : List Card) (cs : List Card) : ∀ (s : List Entry × List Key × List Card × Nat), (∀ c ∈ cs, c ∈ w) → SrtE s.1 → s.1.map Entry.card = w →
    (cs.foldl (intoS now) s).1.map Entry.card = w ∧ (cs.foldl (intoS now) s).2 = s.2 := by
  induction cs with
  | nil => intro s _ _ hw; exact ⟨hw, rfl⟩
  | cons c cs ih =>
    intro s hc hs hw
    have hcw := hc c (by simp)
    rw [← hw, List.mem_map] at hcw
    obtain ⟨e, he, hec⟩ := hcw
    obtain ⟨f1, f2⟩ := find_mem hs he
    rw [hec] at f1 f2
    have h1 : SrtE (intoS now s c).1 ∧ (intoS now s c).1.map Entry.card = w ∧ (intoS now s c).2 = s.2 := by
      unfold intoS
      split
      · rw [if_pos ⟨f1, by rw [f2, hec, stamp_self]; rfl⟩]
        split
        · refine ⟨putL_srt hs _, ?_, rfl⟩
          rw [put_cards (by rw [f2, hec]; exact f1) (by simp only [f2, hec]), hw]
        · exact ⟨hs, hw, rfl⟩
      · exact ⟨hs, hw, rfl⟩
    obtain ⟨k1, k2⟩ := ih (intoS now s c) (fun x hx => hc x (by simp [hx])) h1.1 h1.2.1
    rw [List.foldl_cons]
    exact ⟨k1, k2.trans h1.2.2⟩
def dupC : List Card → List Card
  | [] => []
  | c :: l => c :: c :: dupC l
theorem dupC_perm : ∀ (l : List Card), List.Perm (dupC l) (l ++ l)
  | [] => .refl _
  | c :: l => by
    have h1 := dupC_perm l
    have h2 : List.Perm (c :: (l ++ (c :: l))) (c :: (c :: (l ++ l))) := List.Perm.cons _ (List.perm_middle)
    exact (List.Perm.cons c (List.Perm.cons c h1)).trans h2.symm
theorem dupC_mem : ∀ {l : List Card} {x : Card}, x ∈ dupC l → x ∈ l
  | c :: l, x, h => by
    simp only [dupC, List.mem_cons] at h ⊢
    rcases h with h | h | h
    · exact .inl h
    · exact .inl h
    · exact .inr (dupC_mem h)
theorem dupC_sorted : ∀ {l : List Card}, List.Pairwise StC l → List.Pairwise WkC (dupC l)
  | [], _ => List.Pairwise.nil
  | c :: l, h => by
    rw [List.pairwise_cons] at h
    have h1 : ∀ x ∈ dupC l, WkC c x := fun x hx => bk_asymm (h.1 x (dupC_mem hx))
    refine List.pairwise_cons.2 ⟨fun x hx => ?_, List.pairwise_cons.2 ⟨h1, dupC_sorted h.2⟩⟩
    rcases List.mem_cons.1 hx with rfl | hx
    · exact bk_irrefl _
    · exact h1 x hx
theorem stC_inj {l : List Card} (h : List.Pairwise StC l) {a b : Card} (ha : a ∈ l) (hb : b ∈ l) (hk : a.key = b.key) : a = b := by
  obtain ⟨i, hi, rfl⟩ := mem_nth ha
  obtain ⟨j, hj, rfl⟩ := mem_nth hb
  rcases Nat.lt_trichotomy i j with h1 | rfl | h1
  · have := pw_nth.1 h i j h1 hj
    exact absurd hk (bk_ne this)
  · rfl
  · have := pw_nth.1 h j i h1 hi
    exact absurd hk.symm (bk_ne this)
theorem srt_unique {a b : List Card} (hp : List.Perm a b) (ha : List.Pairwise WkC a) (hb : List.Pairwise WkC b) (hi : ∀ x ∈ a, ∀ y ∈ a, x.key = y.key → x = y) : a = b :=
  List.Perm.eq_of_pairwise (le := WkC) (fun x y hx hy h1 h2 => hi x hx y (hp.symm.subset hy) (bk_tri h2 h1)) ha hb hp
theorem sortK_dup {w : List Card} (h : List.Pairwise StC w) : sortK (w ++ w) = dupC w := by
  refine srt_unique ((sortK_perm _).trans (dupC_perm w).symm) (sortK_sorted _) (dupC_sorted h) fun x hx y hy hk => ?_
  have h1 : ∀ z, z ∈ sortK (w ++ w) → z ∈ w := fun z hz => by
    have := (sortK_perm (w ++ w)).subset hz
    rw [List.mem_append] at this; exact this.elim id id
  exact stC_inj h (h1 x hx) (h1 y hy) hk
theorem joinC_self (c : Card) : joinC c c = c := by unfold joinC; split <;> rfl
theorem joinF_dup : ∀ (w s : List Card), List.Pairwise StC w → (∀ x ∈ s, ∀ c ∈ w, x.key ≠ c.key) → (dupC w).foldl joinS s = s ++ w
  | [], s, _, _ => by simp [dupC]
  | c :: w, s, h, hs => by
    rw [List.pairwise_cons] at h
    have h1 : joinS s c = s ++ [c] := by
      unfold joinS
      rw [if_neg]
      rintro ⟨h0, hk⟩
      exact hs _ (nth_mem (show s.length - 1 < s.length by omega)) c (by simp) ((Key.eqb_iff _ _).1 hk)
    have h2 : joinS (s ++ [c]) c = s ++ [c] := by
      unfold joinS
      have e1 : (s ++ [c]).length - 1 = s.length := by simp
      have e2 : nth (s ++ [c]) s.length = c := nth_append_len s c []
      rw [e1, e2, Key.eqb_refl, joinC_self]
      rw [if_pos ⟨by simp, rfl⟩]
      simp
    rw [dupC, List.foldl_cons, List.foldl_cons, h1, h2, joinF_dup w (s ++ [c]) h.2 fun x hx d hd => ?_]
    · simp
    · rw [List.mem_append, List.mem_singleton] at hx
      rcases hx with hx | rfl
      · exact hs x hx d (by simp [hd])
      · exact bk_ne (h.1 d hd)
theorem joinK_dup {w : List Card} (h : List.Pairwise StC w) : joinK (w ++ w) = w := by
  unfold joinK joinF
  rw [sortK_dup h, joinF_dup w [] h (by simp)]; rfl
theorem srtE_cards {l : List Entry} (h : SrtE l) : List.Pairwise StC (l.map Entry.card) := by
  have : List.Pairwise (fun a b : Entry => beforeK a.card.key b.card.key = true) l := List.pairwise_map.1 h
  exact List.pairwise_map.2 this
theorem twice_into {cs : List Card} (hr : ∀ c ∈ cs, cardR c = true) (hl : cs.length ≤ 14) :
    SrtE (intoC 3 cs [] []).1 ∧ (intoC 3 cs [] []).1.length ≤ 14 ∧ ∀ c ∈ cs, findB (intoC 3 cs [] []).1 c.key = true ∧ ¬ cmpSt (getE (intoC 3 cs [] []).1 c.key).card.stamp c.stamp < 0 := by
  have h := intoF_right (now := hold40 3) cs ([], [], [], 0) hr srtE_nil (by simp; omega)
  have h2 := (intoC_len 3 cs [] []).1
  exact ⟨h.1, by simp at h2; omega, h.2.1⟩
theorem twice_again {cs : List Card} (hr : ∀ c ∈ cs, cardR c = true) (hl : cs.length ≤ 14) (al : List Key) :
    (intoC 9 ((intoC 3 cs [] []).1.map Entry.card) (intoC 3 cs [] []).1 al).1.map Entry.card = (intoC 3 cs [] []).1.map Entry.card ∧ (intoC 9 ((intoC 3 cs [] []).1.map Entry.card) (intoC 3 cs [] []).1 al).2 = (al, [], 0) := by
  obtain ⟨h1, _, _⟩ := twice_into hr hl
  exact intoF_again (now := hold40 9) ((intoC 3 cs [] []).1.map Entry.card) _ ((intoC 3 cs [] []).1, al, [], 0) (fun c hc => hc) h1 rfl
end Go.Proofs.Ytcmfnfkahdconaa.AM

set_option maxRecDepth 100000
set_option linter.unusedVariables false
set_option linter.unusedSimpArgs false
namespace Go.Proofs.Ytcmfnfkahdconaa.AM
open Go Go.Proofs.Ytcmfnfkahdconaa
attribute [local irreducible] ACalls funT codeT codeQ LoopTo
attribute [local irreducible] hasK lastsK okS sinceK findP findB putL putE putG dropL getE liveL capM seenK sealB ofB sortP hereL sortK Tp.card Tp.cardT Tp.next Tp.step recL nameB stR cardR cmpSt joinC joinK flatC setA setG intoC intoG intoA intoH
def intoNil_ann : Ann := { fin := some 0 }
set_option maxRecDepth 100000 in
theorem intoNil_spec (cs : List Card) (now : Int)  : ACalls Try.prog 33 [AV.nilp, (.sl .any 9 (List.map Card.row cs)), (.int .i64 now)] ([] : Heap) ((AV.tup [(.sl .nil 0 []), (.int .i64 0)]), ([] : Heap)) :=
  specO (fn := Try.f33) (ann := intoNil_ann) (Has.o Try.func33) (.r (.g (.r (.g (.yes (.r (.g (.f 0 (AV.tup [(AV.sl .nil 0 []), (AV.int .i64 0)]) (.e (AV.tup [(AV.sl .nil 0 []), (AV.int .i64 0)]))))))))))
theorem intoNil_at (cs : List Card) (now : Int)  (H : Heap) : ACalls Try.prog 33 [AV.nilp, (.sl .any 9 (List.map Card.row cs)), (.int .i64 now)] H ((AV.tup [(.sl .nil 0 []), (.int .i64 0)]), H) := (intoNil_spec cs now ).lift kr kr H
def kA19 : Card := ⟨⟨⟨#[97]⟩, ⟨#[98]⟩⟩, 1, 0, 5, ⟨1, 0, 0⟩, false⟩
def kZ19 : Card := ⟨⟨⟨#[]⟩, ⟨#[]⟩⟩, 0, 0, 0, ⟨0, 0, 0⟩, false⟩
theorem kInto19 : intoC 7 [kA19, kZ19, kA19] [] [] = ([⟨kA19, 7⟩], [kA19.key], [kA19], 0) := by kernel_rfl
theorem kJoin19 : joinK (flatC []) = [] := by kernel_rfl
def known19_ann : Ann := { fin := some 0 }
@[simp] abbrev Wl_o1  : Ob := ⟨0, 10, (List.map Entry.row ([] : List Entry)), none⟩
@[simp] abbrev Wl_o2  : Ob := ⟨0, 3, [[(AV.int .i64 0), (AV.int .i64 0), (AV.int .i64 0)]], none⟩
@[simp] abbrev Wl_o3  : Ob := ⟨0, 2, (List.map Key.row (recL ([] : List Key))), none⟩
@[simp] abbrev Wl_o4  : Ob := ⟨0, 7, [[(AV.int .i64 0), (AV.int .i64 0), (AV.int .i64 0), (AV.int .i64 0), (AV.obj 0 0 0 0), (AV.obj 2 0 0 0), (AV.obj 3 0 0 0)]], none⟩
@[simp] abbrev Wl_1  : Heap := [⟨0, 2, [[(AV.int .i64 (capM 32)), (AV.osl 1 0 10 0 (List.length ([] : List Entry)))]], none⟩, Wl_o1, Wl_o2, ⟨0, 2, [[(AV.int .i64 (((List.length ([] : List Key)) : Nat) : Int)), (AV.osl 4 0 2 0 (List.length (recL ([] : List Key))))]], none⟩, Wl_o3, Wl_o4]
@[simp] abbrev Wl_2  : Heap := [⟨0, 2, [[(AV.int .i64 (capM 32)), (AV.osl 1 (intoG 7 [kA19, kZ19, kA19] ([] : List Entry) 0 ([] : List Key) 0) 10 0 (List.length (intoC 7 [kA19, kZ19, kA19] ([] : List Entry) ([] : List Key)).1))]], none⟩, ⟨(intoG 7 [kA19, kZ19, kA19] ([] : List Entry) 0 ([] : List Key) 0), 10, (List.map Entry.row (intoC 7 [kA19, kZ19, kA19] ([] : List Entry) ([] : List Key)).1), none⟩, Wl_o2, ⟨0, 2, [[(AV.int .i64 (((List.length (intoC 7 [kA19, kZ19, kA19] ([] : List Entry) ([] : List Key)).2.1) : Nat) : Int)), (AV.osl 4 (intoA 7 [kA19, kZ19, kA19] ([] : List Entry) 0 ([] : List Key) 0) 2 0 (List.length (recL (intoC 7 [kA19, kZ19, kA19] ([] : List Entry) ([] : List Key)).2.1)))]], none⟩, ⟨(intoA 7 [kA19, kZ19, kA19] ([] : List Entry) 0 ([] : List Key) 0), 2, (List.map Key.row (recL (intoC 7 [kA19, kZ19, kA19] ([] : List Entry) ([] : List Key)).2.1)), none⟩, Wl_o4, ⟨0, 9, [[(AV.str (ByteArray.mk #[97])), (AV.str (ByteArray.mk #[98])), (AV.int .i64 1), (AV.int .i64 0), (AV.int .i64 5), (AV.int .i64 1), (AV.int .i64 0), (AV.int .i64 0), (AV.bool false)]], none⟩]
set_option maxRecDepth 100000 in
theorem known19_spec   : ACalls Try.prog 29 [] ([] : Heap) ((AV.bool true), ([] : Heap)) :=
  specO (fn := Try.f29) (ann := known19_ann) (Has.o Try.func29) (.r (.g (.r (.ch 0 Wl_1 (ACalls.put2 [] ([] : Heap) (AV.obj 5 0 0 0) Wl_1 (dnew_spec 0 0 oa oa (by with_unfolding_all rfl)) (trivial) (⟨rfl, ⟨Ob.ren0 (Entry.rows_bdd 0 _), ⟨rfl, ⟨rfl, ⟨Ob.ren0 (Key.rows_bdd 0 _), ⟨rfl, trivial⟩⟩⟩⟩⟩⟩)) (.g (.r (.g (.r (.ch 5 Wl_2 (ACalls.pre (args' := [(AV.obj 5 0 0 0), (AV.sl .clip 9 [[(AV.str (ByteArray.mk #[97])), (AV.str (ByteArray.mk #[98])), (AV.int .i64 1), (AV.int .i64 0), (AV.int .i64 5), (AV.int .i64 1), (AV.int .i64 0), (AV.int .i64 0), (AV.bool false)], [(AV.str ⟨#[]⟩), (AV.str ⟨#[]⟩), (AV.int .i64 0), (AV.int .i64 0), (AV.int .i64 0), (AV.int .i64 0), (AV.int .i64 0), (AV.int .i64 0), (AV.bool false)], [(AV.str (ByteArray.mk #[97])), (AV.str (ByteArray.mk #[98])), (AV.int .i64 1), (AV.int .i64 0), (AV.int .i64 5), (AV.int .i64 1), (AV.int .i64 0), (AV.int .i64 0), (AV.bool false)]]), (AV.int .i64 7)]) (ACalls.put2 [0, 1, 2, 3, 4, 5] ([⟨0, 2, [[(AV.int .i64 (capM 32)), (AV.osl 1 0 10 0 (List.length ([] : List Entry)))]], none⟩, ⟨0, 10, (List.map Entry.row ([] : List Entry)), none⟩, ⟨0, 3, [[(AV.int .i64 0), (AV.int .i64 0), (AV.int .i64 0)]], none⟩, ⟨0, 2, [[(AV.int .i64 (((List.length ([] : List Key)) : Nat) : Int)), (AV.osl 4 0 2 0 (List.length (recL ([] : List Key))))]], none⟩, ⟨0, 2, (List.map Key.row (recL ([] : List Key))), none⟩, ⟨0, 7, [[(AV.int .i64 0), (AV.int .i64 0), (AV.int .i64 0), (AV.int .i64 0), (AV.obj 0 0 0 0), (AV.obj 2 0 0 0), (AV.obj 3 0 0 0)]], none⟩, ⟨0, 9, [[(AV.str (ByteArray.mk #[97])), (AV.str (ByteArray.mk #[98])), (AV.int .i64 1), (AV.int .i64 0), (AV.int .i64 5), (AV.int .i64 1), (AV.int .i64 0), (AV.int .i64 0), (AV.bool false)]], none⟩] : Heap) (AV.tup [(AV.sl .any 9 (List.map Card.row (intoC 7 [kA19, kZ19, kA19] ([] : List Entry) ([] : List Key)).2.2.1)), (AV.int .i64 (((intoC 7 [kA19, kZ19, kA19] ([] : List Entry) ([] : List Key)).2.2.2 : Nat) : Int))]) Wl_2 (into_spec [kA19, kZ19, kA19] 7 ([] : List Entry) 0 ([] : List Key) 0 0 0 0 0 0 0 0 oa oa) (⟨rfl, ⟨Ob.ren0 (Entry.rows_bdd 0 _), ⟨rfl, ⟨rfl, ⟨Ob.ren0 (Key.rows_bdd 0 _), ⟨rfl, trivial⟩⟩⟩⟩⟩⟩) (⟨rfl, ⟨Ob.ren0 (Entry.rows_bdd 0 _), ⟨rfl, ⟨rfl, ⟨Ob.ren0 (Key.rows_bdd 0 _), ⟨rfl, trivial⟩⟩⟩⟩⟩⟩)) ⟨AV.wk_refl_any _, ⟨rfl, rfl, .inl rfl⟩, AV.wk_refl_any _, trivial⟩) (.g (.r (.c 2 (ACalls.pre (args' := [AV.nilp, (AV.sl .clip 9 [[(AV.str (ByteArray.mk #[97])), (AV.str (ByteArray.mk #[98])), (AV.int .i64 1), (AV.int .i64 0), (AV.int .i64 5), (AV.int .i64 1), (AV.int .i64 0), (AV.int .i64 0), (AV.bool false)]]), (AV.int .i64 7)]) (intoNil_at ([(Card.mk (Key.mk (ByteArray.mk #[97]) (ByteArray.mk #[98])) 1 0 5 (Stamp.mk 1 0 0) false)]) 7  Wl_2) ⟨AV.wk_refl_any _, ⟨rfl, rfl, .inl rfl⟩, AV.wk_refl_any _, trivial⟩) (.g (.r (.yes (.yes (.y 4 (.int .i64 ((List.length (List.map Card.row (intoC 7 [kA19, kZ19, kA19] ([] : List Entry) ([] : List Key)).2.2.1) : Nat) : Int)) (AV.int .i64 (((intoC 7 [kA19, kZ19, kA19] ([] : List Entry) ([] : List Key)).2.2.1.length : Nat) : Int)) (Yes.len _ _ _) (.yes (.y 5 (AV.bool ((((intoC 7 [kA19, kZ19, kA19] ([] : List Entry) ([] : List Key)).2.2.1.length : Nat) : Int) == 1)) (AV.bool true) (Yes.bool (by rw [kInto19]; rfl)) (.yes (.yes (.y 9 (AV.bool ((((intoC 7 [kA19, kZ19, kA19] ([] : List Entry) ([] : List Key)).2.2.2 : Nat) : Int) == 0)) (AV.bool true) (Yes.bool (by rw [kInto19]; rfl)) (.yes (.yes (.yes (.yes (.c 17 (ACalls.pre (args' := [(AV.sl .nil 0 [])]) (mjoin_at [] oa (nth_le [] 100 (by simp)) (by rw [show flatC [] = [] from by with_unfolding_all rfl]; simp) Wl_2) ⟨⟨rfl, rfl, .inr rfl⟩, trivial⟩) (.yes (.y 18 (.int .i64 ((List.length (List.map Card.row (joinK (flatC []))) : Nat) : Int)) (AV.int .i64 (((joinK (flatC [])).length : Nat) : Int)) (Yes.len _ _ _) (.yes (.y 19 (AV.bool ((((joinK (flatC [])).length : Nat) : Int) == 0)) (AV.bool true) (Yes.bool (by rw [kJoin19]; rfl)) (.yes (.yes (.c 23 (ACalls.put2 [0, 1, 2, 3, 4, 5] Wl_2 (AV.obj 3 0 0 0) Wl_2 (drecent_spec (intoC 7 [kA19, kZ19, kA19] ([] : List Entry) ([] : List Key)).1 (intoG 7 [kA19, kZ19, kA19] ([] : List Entry) 0 ([] : List Key) 0) (intoC 7 [kA19, kZ19, kA19] ([] : List Entry) ([] : List Key)).2.1 (intoA 7 [kA19, kZ19, kA19] ([] : List Entry) 0 ([] : List Key) 0) 0 0 0 0 0 0 0 ) (⟨rfl, ⟨Ob.ren0 (Entry.rows_bdd 0 _), ⟨rfl, ⟨rfl, ⟨Ob.ren0 (Key.rows_bdd 0 _), ⟨rfl, trivial⟩⟩⟩⟩⟩⟩) (⟨rfl, ⟨Ob.ren0 (Entry.rows_bdd 0 _), ⟨rfl, ⟨rfl, ⟨Ob.ren0 (Key.rows_bdd 0 _), ⟨rfl, trivial⟩⟩⟩⟩⟩⟩)) (.yes (.c 24 (ACalls.pre (args' := [(AV.obj 3 0 0 0)]) (ACalls.put2 [3, 4] Wl_2 (AV.int .i64 (((intoC 7 [kA19, kZ19, kA19] ([] : List Entry) ([] : List Key)).2.1.length : Nat) : Int)) Wl_2 (seq_spec (intoC 7 [kA19, kZ19, kA19] ([] : List Entry) ([] : List Key)).2.1 (intoA 7 [kA19, kZ19, kA19] ([] : List Entry) 0 ([] : List Key) 0) ) (⟨rfl, ⟨Ob.ren0 (Key.rows_bdd 0 _), trivial⟩⟩) (⟨rfl, ⟨Ob.ren0 (Key.rows_bdd 0 _), trivial⟩⟩)) ⟨AV.wk_refl_any _, trivial⟩) (.yes (.y 25 (AV.bool ((((intoC 7 [kA19, kZ19, kA19] ([] : List Entry) ([] : List Key)).2.1.length : Nat) : Int) == 1)) (AV.bool true) (Yes.bool (by rw [kInto19]; rfl)) (.g (.h' ([] : Heap) (.f 0 (AV.bool true) (.e (AV.bool true)))))))))))))))))))))))))))))))))))))))))))
theorem known19_at   (H : Heap) : ACalls Try.prog 29 [] H ((AV.bool true), H) := (known19_spec  ).lift kr kr H
def mtC (tape : List Int) : List Card := ((⟨tape, 0⟩ : Tp).step 15).cards ((⟨tape, 0⟩ : Tp).next 15)
theorem mtC_ok (tape : List Int) : (mtC tape).length ≤ 14 ∧ ∀ c ∈ mtC tape, cardR c = true := by
  have h := Tp.next_lt (⟨tape, 0⟩ : Tp) 15 ow
  exact ⟨by unfold mtC; rw [Tp.cards_len]; omega, fun c hc => cards_right hc⟩
def mt_ann : Ann := { gha := [(14, .cut 7)], fin := some 0, live := [(9, [2, 4, 5, 6, 7, 41, 42, 43])], out := [(9, [2, 4, 5, 6, 7, 41, 42, 43])] }
@[simp] abbrev Wl_3 (v1_ : List Card) (v2_ : List Card) (v3_ : Nat) (v4_ : Nat) : Fr := (mkF 104 [(2, (AV.bool false)), (4, (AV.sl .any 9 (List.map Card.row v1_))), (5, (AV.obj 6 0 0 0)), (6, (AV.sl .any 9 (List.map Card.row v2_))), (7, (AV.int .i64 ((v3_ : Nat) : Int))), (41, (AV.sl .any 9 (List.map Card.row v1_))), (42, (AV.int .i64 ((v1_.length : Nat) : Int))), (43, (AV.int .i64 ((v4_ : Nat) : Int)))])
@[simp] abbrev Wl_o5 (v1_ : Nat) (v2_ : List Entry) : Ob := ⟨0, 2, [[(AV.int .i64 (capM 32)), (AV.osl 2 v1_ 10 0 (List.length v2_))]], none⟩
@[simp] abbrev Wl_o6 (v1_ : Int) (v2_ : Int) (v3_ : Int) : Ob := ⟨0, 3, [[(AV.int .i64 v1_), (AV.int .i64 v2_), (AV.int .i64 v3_)]], none⟩
@[simp] abbrev Wl_o7 (v1_ : List Key) (v2_ : Nat) : Ob := ⟨0, 2, [[(AV.int .i64 (((List.length v1_) : Nat) : Int)), (AV.osl 5 v2_ 2 0 (List.length (recL v1_)))]], none⟩
@[simp] abbrev Wl_o8 (v1_ : Int) (v2_ : Int) (v3_ : Int) (v4_ : Int) : Ob := ⟨0, 7, [[(AV.int .i64 v1_), (AV.int .i64 v2_), (AV.int .i64 v3_), (AV.int .i64 v4_), (AV.obj 1 0 0 0), (AV.obj 3 0 0 0), (AV.obj 4 0 0 0)]], none⟩
@[simp] abbrev Wl_4 (v1_ : Tp) (v2_ : Nat) (v3_ : List Entry) (v4_ : Int) (v5_ : Int) (v6_ : Int) (v7_ : List Key) (v8_ : Nat) (v9_ : Int) (v10_ : Int) (v11_ : Int) (v12_ : Int) (v13_ : List Card) (v14_ : Nat) : Heap := [⟨0, 2, [(Tp.row v1_)], none⟩, Wl_o5 v2_ v3_, ⟨v2_, 10, (List.map Entry.row v3_), none⟩, Wl_o6 v4_ v5_ v6_, Wl_o7 v7_ v8_, ⟨v8_, 2, (List.map Key.row (recL v7_)), none⟩, Wl_o8 v9_ v10_ v11_ v12_, ⟨0, 9, [(Card.row (nth v13_ v14_))], none⟩, ⟨0, 10, [(Entry.row (getE v3_ (nth v13_ v14_).key))], none⟩]
@[simp] abbrev Wl_5 (v1_ : Tp) (v2_ : Nat) (v3_ : List Entry) (v4_ : Int) (v5_ : Int) (v6_ : Int) (v7_ : List Key) (v8_ : Nat) (v9_ : Int) (v10_ : Int) (v11_ : Int) (v12_ : Int) : Heap := [⟨0, 2, [(Tp.row v1_)], none⟩, Wl_o5 v2_ v3_, ⟨v2_, 10, (List.map Entry.row v3_), none⟩, Wl_o6 v4_ v5_ v6_, Wl_o7 v7_ v8_, ⟨v8_, 2, (List.map Key.row (recL v7_)), none⟩, Wl_o8 v9_ v10_ v11_ v12_]
@[simp] abbrev Wl_6 (v1_ : Tp) (v2_ : Nat) (v3_ : List Entry) (v4_ : Int) (v5_ : Int) (v6_ : Int) (v7_ : List Key) (v8_ : Nat) (v9_ : Int) (v10_ : Int) (v11_ : Int) (v12_ : Int) (v13_ : List Card) (v14_ : Nat) : Heap := [⟨0, 2, [(Tp.row v1_)], none⟩, Wl_o5 v2_ v3_, ⟨v2_, 10, (List.map Entry.row v3_), none⟩, Wl_o6 v4_ v5_ v6_, Wl_o7 v7_ v8_, ⟨v8_, 2, (List.map Key.row (recL v7_)), none⟩, Wl_o8 v9_ v10_ v11_ v12_, ⟨0, 9, [(Card.row (nth v13_ v14_))], none⟩, ⟨0, 10, [[(AV.str ⟨#[]⟩), (AV.str ⟨#[]⟩), (AV.int .i64 0), (AV.int .i64 0), (AV.int .i64 0), (AV.int .i64 0), (AV.int .i64 0), (AV.int .i64 0), (AV.bool false), (AV.int .i64 0)]], none⟩]
set_option maxRecDepth 100000 in
theorem mt_step (t : Tp) (l : List Entry) (g : Nat) (al : List Key) (ga : Nat) (gf : Int) (gl : Int) (gt : Int) (nd : Int) (s1 : Int) (s2 : Int) (s3 : Int) (cs : List Card) (w : List Card) (nq : Nat)  (i : Nat) (hcl : cs.length < 1000) (hl : l.length < 1000) (hle_ : i ≤ cs.length) {eX : Ex} {FX : Fr} {HX : Heap} (k1 : (decide (((i : Nat) : Int) < ((cs.length : Nat) : Int))) = true → (!(findB l (nth cs i).key)) = true → ((.ret : Ex), (Wl_3 cs w nq i), (Wl_4 t g l gf gl gt al ga nd s1 s2 s3 cs i)) = (eX, FX, HX)) (k2 : (decide (((i : Nat) : Int) < ((cs.length : Nat) : Int))) = true → (!(findB l (nth cs i).key)) = false → (decide (cmpSt (getE l (nth cs i).key).card.stamp (nth cs i).stamp < 0)) = true → ((.ret : Ex), (Wl_3 cs w nq i), (Wl_4 t g l gf gl gt al ga nd s1 s2 s3 cs i)) = (eX, FX, HX)) (k3 : (decide (((i : Nat) : Int) < ((cs.length : Nat) : Int))) = true → (!(findB l (nth cs i).key)) = false → (decide (cmpSt (getE l (nth cs i).key).card.stamp (nth cs i).stamp < 0)) = false → LoopTo (codeQ Try.prog (X mt_ann) (loopOf Try.f7 0)) (some [2, 4, 5, 6, 7, 41, 42, 43]) (some [2, 4, 5, 6, 7, 41, 42, 43]) (mkF 104 [(2, (.bool false)), (4, (.sl .any 9 (List.map Card.row cs))), (5, (.obj 6 0 0 0)), (6, (.sl .any 9 (List.map Card.row w))), (7, (.int .i64 ((nq : Nat) : Int))), (41, (.sl .any 9 (List.map Card.row cs))), (42, (.int .i64 ((cs.length : Nat) : Int))), (43, (.int .i64 ((i + 1 : Nat) : Int)))]) (Wl_5 t g l gf gl gt al ga nd s1 s2 s3) eX FX HX) (k4 : (decide (((i : Nat) : Int) < ((cs.length : Nat) : Int))) = false → ((.exit 0 : Ex), (Wl_3 cs w nq i), (Wl_5 t g l gf gl gt al ga nd s1 s2 s3)) = (eX, FX, HX)) : LoopTo (codeQ Try.prog (X mt_ann) (loopOf Try.f7 0)) (some [2, 4, 5, 6, 7, 41, 42, 43]) (some [2, 4, 5, 6, 7, 41, 42, 43]) (Wl_3 cs w nq i) (Wl_5 t g l gf gl gt al ga nd s1 s2 s3) eX FX HX :=
  stepO (.r (.g (.two (decide (((i : Nat) : Int) < ((cs.length : Nat) : Int))) (fun h1 h1' => (.r (.h' ([⟨0, 2, [(Tp.row t)], none⟩, ⟨0, 2, [[(AV.int .i64 (capM 32)), (AV.osl 2 g 10 0 (List.length l))]], none⟩, ⟨g, 10, (List.map Entry.row l), none⟩, ⟨0, 3, [[(AV.int .i64 gf), (AV.int .i64 gl), (AV.int .i64 gt)]], none⟩, ⟨0, 2, [[(AV.int .i64 (((List.length al) : Nat) : Int)), (AV.osl 5 ga 2 0 (List.length (recL al)))]], none⟩, ⟨ga, 2, (List.map Key.row (recL al)), none⟩, ⟨0, 7, [[(AV.int .i64 nd), (AV.int .i64 s1), (AV.int .i64 s2), (AV.int .i64 s3), (AV.obj 1 0 0 0), (AV.obj 3 0 0 0), (AV.obj 4 0 0 0)]], none⟩, ⟨0, 9, [[(AV.str ⟨#[]⟩), (AV.str ⟨#[]⟩), (AV.int .i64 0), (AV.int .i64 0), (AV.int .i64 0), (AV.int .i64 0), (AV.int .i64 0), (AV.int .i64 0), (AV.bool false)]], none⟩] : Heap) (.is 0 9 9 (List.map Card.row cs) ((i : Nat) : Int) (Card.row (nth cs i)) (IdxSl.mk _ ow ow) (.g (.r (.c 1 (ACalls.pre (args' := [(AV.obj 6 0 0 0)]) (ACalls.put2 [1, 2, 3, 4, 5, 6] (Wl_6 t g l gf gl gt al ga nd s1 s2 s3 cs i) (AV.obj 1 0 0 0) (Wl_6 t g l gf gl gt al ga nd s1 s2 s3 cs i) (dshelf_spec l g al ga gf gl gt nd s1 s2 s3 ) (⟨rfl, ⟨Ob.ren0 (Entry.rows_bdd 0 _), ⟨rfl, ⟨rfl, ⟨Ob.ren0 (Key.rows_bdd 0 _), ⟨rfl, trivial⟩⟩⟩⟩⟩⟩) (⟨rfl, ⟨Ob.ren0 (Entry.rows_bdd 0 _), ⟨rfl, ⟨rfl, ⟨Ob.ren0 (Key.rows_bdd 0 _), ⟨rfl, trivial⟩⟩⟩⟩⟩⟩)) ⟨AV.wk_refl_any _, trivial⟩) (.c 4 (ACalls.pre (args' := [(AV.obj 1 0 0 0), (AV.agg (Key.row (nth cs i).key))]) (ACalls.put2 [1, 2] (Wl_6 t g l gf gl gt al ga nd s1 s2 s3 cs i) (AV.tup [(AV.agg (Entry.row (getE l (nth cs i).key))), (AV.bool (findB l (nth cs i).key))]) (Wl_6 t g l gf gl gt al ga nd s1 s2 s3 cs i) (get_spec (capM 32) l (nth cs i).key g (List.length l) oa oa) (⟨rfl, ⟨Ob.ren0 (Entry.rows_bdd 0 _), trivial⟩⟩) (⟨rfl, ⟨Ob.ren0 (Entry.rows_bdd 0 _), trivial⟩⟩)) ⟨AV.wk_refl_any _, AV.wk_refl_any _, trivial⟩) (.rd (AV.agg (Key.row (nth cs i).key)) (Wl_6 t g l gf gl gt al ga nd s1 s2 s3 cs i) (.g (.r (.two (!(findB l (nth cs i).key)) (fun h2 h2' => (.yes (.yes (.yes (.yes (.yes (.g (.yes (.r (.g (.l (k1 h1 h2)))))))))))) (fun h2 h2' => (.no (.no (.no (.no (.no (.c 8 (rstLess_at (getE l (nth cs i).key).card.stamp (nth cs i).stamp  (Wl_4 t g l gf gl gt al ga nd s1 s2 s3 cs i)) (.g (.two (decide (cmpSt (getE l (nth cs i).key).card.stamp (nth cs i).stamp < 0)) (fun h3 h3' => (.r (.g (.l (k2 h1 h2 h3))))) (fun h3 h3' => (.r (.h' (Wl_4 t g l gf gl gt al ga nd s1 s2 s3 cs i) (.y 0 (.int .i64 (IntKind.i64.wrap (((i : Nat) : Int) + 1))) (AV.int .i64 ((i + 1 : Nat) : Int)) (Yes.add ow ow ow) (.h' (Wl_5 t g l gf gl gt al ga nd s1 s2 s3) (.b 7 (.g (.l (k3 h1 h2 h3)))))))))))))))))))))))))))))) (fun h1 h1' => (.l (k4 h1))))))
def mt_f (t : Tp) (l : List Entry) (g : Nat) (al : List Key) (ga : Nat) (gf : Int) (gl : Int) (gt : Int) (nd : Int) (s1 : Int) (s2 : Int) (s3 : Int) (cs : List Card) (w : List Card) (nq : Nat) (i : Nat) (s : Unit) : Unit := ()
def mt_bad (t : Tp) (l : List Entry) (g : Nat) (al : List Key) (ga : Nat) (gf : Int) (gl : Int) (gt : Int) (nd : Int) (s1 : Int) (s2 : Int) (s3 : Int) (cs : List Card) (w : List Card) (nq : Nat)  (i : Nat) : Prop := (((decide (((i : Nat) : Int) < ((cs.length : Nat) : Int))) = true) ∧ ((!(findB l (nth cs i).key)) = true)) ∨ (((decide (((i : Nat) : Int) < ((cs.length : Nat) : Int))) = true) ∧ ((!(findB l (nth cs i).key)) = false) ∧ ((decide (cmpSt (getE l (nth cs i).key).card.stamp (nth cs i).stamp < 0)) = true))
theorem mt_loop (t : Tp) (l : List Entry) (g : Nat) (al : List Key) (ga : Nat) (gf : Int) (gl : Int) (gt : Int) (nd : Int) (s1 : Int) (s2 : Int) (s3 : Int) (cs : List Card) (w : List Card) (nq : Nat) (hcl : cs.length < 1000) (hl : l.length < 1000)  (hbad : ∀ (i : Nat), i < cs.length → ¬ mt_bad t l g al ga gf gl gt nd s1 s2 s3 cs w nq  i) (r_ : Nat) : ∀  (i : Nat) (sF : Unit), i + r_ = cs.length → () = (iter (mt_f t l g al ga gf gl gt nd s1 s2 s3 cs w nq) i 0 ()) → sF = iter (mt_f t l g al ga gf gl gt nd s1 s2 s3 cs w nq) r_ i () →
    LoopTo (codeQ Try.prog (X mt_ann) (loopOf Try.f7 0)) (some [2, 4, 5, 6, 7, 41, 42, 43]) (some [2, 4, 5, 6, 7, 41, 42, 43]) (Wl_3 cs w nq i) (Wl_5 t g l gf gl gt al ga nd s1 s2 s3) (.exit 0) (mkF 104 [(2, (.bool false)), (4, (.sl .any 9 (List.map Card.row cs))), (5, (.obj 6 0 0 0)), (6, (.sl .any 9 (List.map Card.row w))), (7, (.int .i64 ((nq : Nat) : Int))), (41, (.sl .any 9 (List.map Card.row cs))), (42, (.int .i64 ((cs.length : Nat) : Int))), (43, (.int .i64 ((cs.length : Nat) : Int)))]) (Wl_5 t g l gf gl gt al ga nd s1 s2 s3) := by
  induction r_ with
  | zero =>
    intro  i sF hi_  hs_ hF
    obtain rfl : cs.length = i := by omega
    have e_ : sF = () := hF
    refine mt_step t l g al ga gf gl gt nd s1 s2 s3 cs w nq  cs.length hcl hl (Nat.le_refl _) (fun h _ => by simp at h <;> omega) (fun h _ _ => by simp at h <;> omega) (fun h _ _ => by simp at h <;> omega) (fun _ => ?_)
    first | done | rfl | (rw [e_]; done) | (rw [e_]; rfl)
  | succ r_ ih =>
    intro  i sF hi_  hs_ hF
    refine mt_step t l g al ga gf gl gt nd s1 s2 s3 cs w nq  i hcl hl ow (fun h1 h2 => ?_) (fun h1 h2 h3 => ?_) (fun h1 h2 h3 => ?_) (fun h => by simp at h <;> omega)
    · exact False.elim (by
        have hb_ := hbad i ow
        try rw [← hs_] at hb_
        exact hb_ (Or.inl ⟨h1, h2⟩))
    · exact False.elim (by
        have hb_ := hbad i ow
        try rw [← hs_] at hb_
        exact hb_ (Or.inr (⟨h1, h2, h3⟩)))
    · exact ih  (i + 1) sF ow  (by rw [iter_succ, ← hs_] <;> simp only [mt_f, h2, h3, if_true, Bool.false_eq_true, if_false]) (by rw [hF] <;> simp only [iter, mt_f, h2, h3, if_true, Bool.false_eq_true, if_false])
@[simp] abbrev Wl_o9 (v1_ : List Int) : Ob := ⟨0, 2, [(Tp.row (((Tp.mk v1_ 0).step (14 + 1)).cardsT ((Tp.mk v1_ 0).next (14 + 1))))], none⟩
@[simp] abbrev Wl_7 (v1_ : List Int) : Heap := [Wl_o9 v1_]
@[simp] abbrev Wl_o10  : Ob := ⟨0, 7, [[(AV.int .i64 1), (AV.int .i64 0), (AV.int .i64 1), (AV.int .i64 0), (AV.obj 1 0 0 0), (AV.obj 3 0 0 0), (AV.obj 4 0 0 0)]], none⟩
@[simp] abbrev Wl_8 (v1_ : List Int) : Heap := [Wl_o9 v1_, ⟨0, 2, [[(AV.int .i64 (capM 32)), (AV.osl 2 0 10 0 (List.length ([] : List Entry)))]], none⟩, Wl_o1, Wl_o2, ⟨0, 2, [[(AV.int .i64 (((List.length ([] : List Key)) : Nat) : Int)), (AV.osl 5 0 2 0 (List.length (recL ([] : List Key))))]], none⟩, Wl_o3, Wl_o10]
@[simp] abbrev Wl_9 (v1_ : List Int) : Heap := [Wl_o9 v1_, ⟨0, 2, [[(AV.int .i64 (capM 32)), (AV.osl 2 (intoG 3 (mtC v1_) ([] : List Entry) 0 ([] : List Key) 0) 10 0 (List.length (intoC 3 (mtC v1_) ([] : List Entry) ([] : List Key)).1))]], none⟩, ⟨(intoG 3 (mtC v1_) ([] : List Entry) 0 ([] : List Key) 0), 10, (List.map Entry.row (intoC 3 (mtC v1_) ([] : List Entry) ([] : List Key)).1), none⟩, Wl_o2, ⟨0, 2, [[(AV.int .i64 (((List.length (intoC 3 (mtC v1_) ([] : List Entry) ([] : List Key)).2.1) : Nat) : Int)), (AV.osl 5 (intoA 3 (mtC v1_) ([] : List Entry) 0 ([] : List Key) 0) 2 0 (List.length (recL (intoC 3 (mtC v1_) ([] : List Entry) ([] : List Key)).2.1)))]], none⟩, ⟨(intoA 3 (mtC v1_) ([] : List Entry) 0 ([] : List Key) 0), 2, (List.map Key.row (recL (intoC 3 (mtC v1_) ([] : List Entry) ([] : List Key)).2.1)), none⟩, Wl_o10]
@[simp] abbrev Wl_10 (v1_ : List Int) : Fr := (mkF 104 [(2, (AV.bool false)), (4, (AV.sl .any 9 (List.map Card.row (mtC v1_)))), (5, (AV.obj 6 0 0 0)), (6, (AV.sl .any 9 (List.map Card.row (List.map Entry.card (intoC 3 (mtC v1_) [] []).1)))), (7, (AV.int .i64 (((List.length (intoC 3 (mtC v1_) [] []).2.1) : Nat) : Int))), (41, (AV.sl .any 9 (List.map Card.row (mtC v1_)))), (42, (AV.int .i64 (((mtC v1_).length : Nat) : Int))), (43, (AV.int .i64 (((mtC v1_).length : Nat) : Int)))])
@[simp] abbrev Wl_o11 (v1_ : List Int) : Ob := ⟨0, 2, [(Tp.row (((⟨v1_, 0⟩ : Tp).step 15).cardsT ((⟨v1_, 0⟩ : Tp).next 15)))], none⟩
@[simp] abbrev Wl_11 (v1_ : List Int) : Heap := [Wl_o11 v1_, ⟨0, 2, [[(AV.int .i64 (capM 32)), (AV.osl 2 (intoG 3 (mtC v1_) [] 0 [] 0) 10 0 (List.length (intoC 3 (mtC v1_) [] []).1))]], none⟩, ⟨(intoG 3 (mtC v1_) [] 0 [] 0), 10, (List.map Entry.row (intoC 3 (mtC v1_) [] []).1), none⟩, Wl_o2, ⟨0, 2, [[(AV.int .i64 (((List.length (intoC 3 (mtC v1_) [] []).2.1) : Nat) : Int)), (AV.osl 5 (intoA 3 (mtC v1_) [] 0 [] 0) 2 0 (List.length (recL (intoC 3 (mtC v1_) [] []).2.1)))]], none⟩, ⟨(intoA 3 (mtC v1_) [] 0 [] 0), 2, (List.map Key.row (recL (intoC 3 (mtC v1_) [] []).2.1)), none⟩, Wl_o10]
@[simp] abbrev Wl_12 (v1_ : List Int) : Heap := [Wl_o11 v1_, ⟨0, 2, [[(AV.int .i64 (capM 32)), (AV.osl 2 (intoG 9 (List.map Entry.card (intoC 3 (mtC v1_) [] []).1) (intoC 3 (mtC v1_) [] []).1 (intoG 3 (mtC v1_) [] 0 [] 0) (intoC 3 (mtC v1_) [] []).2.1 (intoA 3 (mtC v1_) [] 0 [] 0)) 10 0 (List.length (intoC 9 (List.map Entry.card (intoC 3 (mtC v1_) [] []).1) (intoC 3 (mtC v1_) [] []).1 (intoC 3 (mtC v1_) [] []).2.1).1))]], none⟩, ⟨(intoG 9 (List.map Entry.card (intoC 3 (mtC v1_) [] []).1) (intoC 3 (mtC v1_) [] []).1 (intoG 3 (mtC v1_) [] 0 [] 0) (intoC 3 (mtC v1_) [] []).2.1 (intoA 3 (mtC v1_) [] 0 [] 0)), 10, (List.map Entry.row (intoC 9 (List.map Entry.card (intoC 3 (mtC v1_) [] []).1) (intoC 3 (mtC v1_) [] []).1 (intoC 3 (mtC v1_) [] []).2.1).1), none⟩, Wl_o2, ⟨0, 2, [[(AV.int .i64 (((List.length (intoC 9 (List.map Entry.card (intoC 3 (mtC v1_) [] []).1) (intoC 3 (mtC v1_) [] []).1 (intoC 3 (mtC v1_) [] []).2.1).2.1) : Nat) : Int)), (AV.osl 5 (intoA 9 (List.map Entry.card (intoC 3 (mtC v1_) [] []).1) (intoC 3 (mtC v1_) [] []).1 (intoG 3 (mtC v1_) [] 0 [] 0) (intoC 3 (mtC v1_) [] []).2.1 (intoA 3 (mtC v1_) [] 0 [] 0)) 2 0 (List.length (recL (intoC 9 (List.map Entry.card (intoC 3 (mtC v1_) [] []).1) (intoC 3 (mtC v1_) [] []).1 (intoC 3 (mtC v1_) [] []).2.1).2.1)))]], none⟩, ⟨(intoA 9 (List.map Entry.card (intoC 3 (mtC v1_) [] []).1) (intoC 3 (mtC v1_) [] []).1 (intoG 3 (mtC v1_) [] 0 [] 0) (intoC 3 (mtC v1_) [] []).2.1 (intoA 3 (mtC v1_) [] 0 [] 0)), 2, (List.map Key.row (recL (intoC 9 (List.map Entry.card (intoC 3 (mtC v1_) [] []).1) (intoC 3 (mtC v1_) [] []).1 (intoC 3 (mtC v1_) [] []).2.1).2.1)), none⟩, Wl_o10]
set_option maxRecDepth 100000 in
theorem mtwice_spec (tape : List Int) (hl : tape.length < 9223372036854775808) : ACalls Try.prog 7 [(.sl .any 1 (List.map rI64 tape))] ([] : Heap) ((AV.bool true), ([] : Heap)) := by
  obtain ⟨hc1, hc2⟩ := mtC_ok tape
  obtain ⟨t1, t2, t3⟩ := twice_into hc2 hc1
  obtain ⟨a1, a2⟩ := twice_again hc2 hc1 (intoC 3 (mtC tape) [] []).2.1
  have hsrt := srtE_cards t1
  have h14 := t2
  have hal := (intoC_len 3 (mtC tape) [] []).2.1
  have hwl : (List.map Entry.card (intoC 3 (mtC tape) [] []).1).length = (intoC 3 (mtC tape) [] []).1.length := List.length_map _
  have a3 : (List.map (fun x => x.card) (intoC 9 (List.map Entry.card (intoC 3 (mtC tape) [] []).1) (intoC 3 (mtC tape) [] []).1 (intoC 3 (mtC tape) [] []).2.1).1) = (List.map Entry.card (intoC 3 (mtC tape) [] []).1) := a1
  have j1 : (intoC 9 (List.map Entry.card (intoC 3 (mtC tape) [] []).1) (intoC 3 (mtC tape) [] []).1 (intoC 3 (mtC tape) [] []).2.1).1.length = (intoC 3 (mtC tape) [] []).1.length := by have q := congrArg List.length a1; rw [List.length_map, List.length_map] at q; exact q
  have j2 : flatC [⟨(List.map Entry.card (intoC 3 (mtC tape) [] []).1)⟩, ⟨(List.map Entry.card (intoC 3 (mtC tape) [] []).1)⟩] = (List.map Entry.card (intoC 3 (mtC tape) [] []).1) ++ (List.map Entry.card (intoC 3 (mtC tape) [] []).1) := by rw [flatC_cons, flatC_cons]; show _ ++ (_ ++ flatC []) = _; rw [show flatC [] = [] from by with_unfolding_all rfl, List.append_nil]
  have j3 : joinK (flatC [⟨(List.map Entry.card (intoC 3 (mtC tape) [] []).1)⟩, ⟨(List.map Entry.card (intoC 3 (mtC tape) [] []).1)⟩]) = (List.map Entry.card (intoC 3 (mtC tape) [] []).1) := by rw [j2]; exact joinK_dup hsrt
  have j4 : (flatC [⟨(List.map Entry.card (intoC 3 (mtC tape) [] []).1)⟩, ⟨(List.map Entry.card (intoC 3 (mtC tape) [] []).1)⟩]).length < 1000 := by rw [j2, List.length_append]; omega
  exact specO (fn := Try.f7) (ann := mt_ann) (Has.o Try.func7) (.r (.g (.r (.g (.r (.ch 1 (Wl_7 tape) (ACalls.pre (args' := [(.obj 0 0 0 0), (.int .i64 14)]) (cards_at (Tp.mk tape 0) 14 oa oa ([] : Heap)) ⟨AV.wk_refl_any _, AV.wk_refl_any _, trivial⟩) (.g (.r (.ch 0 (Wl_8 tape) (ACalls.put2 [] (Wl_7 tape) (AV.obj 6 0 0 0) (Wl_8 tape) (dnew_spec 1 0 oa oa (by with_unfolding_all rfl)) (trivial) (⟨rfl, ⟨Ob.ren0 (Entry.rows_bdd 0 _), ⟨rfl, ⟨rfl, ⟨Ob.ren0 (Key.rows_bdd 0 _), ⟨rfl, trivial⟩⟩⟩⟩⟩⟩)) (.g (.r (.no (.no (.c 4 (ACalls.pre (args' := [(.obj 6 0 0 0)]) (ACalls.put2 [1, 2, 3, 4, 5, 6] (Wl_8 tape) (AV.obj 1 0 0 0) (Wl_8 tape) (dshelf_spec ([] : List Entry) 0 ([] : List Key) 0 0 0 0 1 0 1 0 ) (⟨rfl, ⟨Ob.ren0 (Entry.rows_bdd 0 _), ⟨rfl, ⟨rfl, ⟨Ob.ren0 (Key.rows_bdd 0 _), ⟨rfl, trivial⟩⟩⟩⟩⟩⟩) (⟨rfl, ⟨Ob.ren0 (Entry.rows_bdd 0 _), ⟨rfl, ⟨rfl, ⟨Ob.ren0 (Key.rows_bdd 0 _), ⟨rfl, trivial⟩⟩⟩⟩⟩⟩)) ⟨AV.wk_refl_any _, trivial⟩) (.no (.no (.no (.c 9 (ACalls.pre (args' := [(.obj 6 0 0 0)]) (ACalls.put2 [1, 2, 3, 4, 5, 6] (Wl_8 tape) (AV.obj 4 0 0 0) (Wl_8 tape) (drecent_spec ([] : List Entry) 0 ([] : List Key) 0 0 0 0 1 0 1 0 ) (⟨rfl, ⟨Ob.ren0 (Entry.rows_bdd 0 _), ⟨rfl, ⟨rfl, ⟨Ob.ren0 (Key.rows_bdd 0 _), ⟨rfl, trivial⟩⟩⟩⟩⟩⟩) (⟨rfl, ⟨Ob.ren0 (Entry.rows_bdd 0 _), ⟨rfl, ⟨rfl, ⟨Ob.ren0 (Key.rows_bdd 0 _), ⟨rfl, trivial⟩⟩⟩⟩⟩⟩)) ⟨AV.wk_refl_any _, trivial⟩) (.no (.g (.no (.r (.ch 2 (Wl_9 tape) (ACalls.pre (args' := [(.obj 6 0 0 0), (.sl .any 9 (List.map Card.row ((Tp.mk tape 0).step (14 + 1) |>.cards ((Tp.mk tape 0).next (14 + 1))))), (.int .i64 3)]) (ACalls.put2 [1, 2, 3, 4, 5, 6] (Wl_8 tape) (AV.tup [(.sl .any 9 (List.map Card.row (intoC 3 (mtC tape) ([] : List Entry) ([] : List Key)).2.2.1)), (.int .i64 (((intoC 3 (mtC tape) ([] : List Entry) ([] : List Key)).2.2.2 : Nat) : Int))]) (Wl_9 tape) (into_spec (mtC tape) 3 ([] : List Entry) 0 ([] : List Key) 0 0 0 0 1 0 1 0 (by simp; omega) (by simp; omega)) (⟨rfl, ⟨Ob.ren0 (Entry.rows_bdd 0 _), ⟨rfl, ⟨rfl, ⟨Ob.ren0 (Key.rows_bdd 0 _), ⟨rfl, trivial⟩⟩⟩⟩⟩⟩) (⟨rfl, ⟨Ob.ren0 (Entry.rows_bdd 0 _), ⟨rfl, ⟨rfl, ⟨Ob.ren0 (Key.rows_bdd 0 _), ⟨rfl, trivial⟩⟩⟩⟩⟩⟩)) ⟨AV.wk_refl_any _, ⟨rfl, rfl, .inl rfl⟩, AV.wk_refl_any _, trivial⟩) (.g (.r (.c 1 (ACalls.pre (args' := [(.obj 6 0 0 0)]) (ACalls.put2 [1, 2, 3, 4, 5, 6] (Wl_9 tape) (AV.obj 1 0 0 0) (Wl_9 tape) (dshelf_spec (intoC 3 (mtC tape) ([] : List Entry) ([] : List Key)).1 (intoG 3 (mtC tape) ([] : List Entry) 0 ([] : List Key) 0) (intoC 3 (mtC tape) ([] : List Entry) ([] : List Key)).2.1 (intoA 3 (mtC tape) ([] : List Entry) 0 ([] : List Key) 0) 0 0 0 1 0 1 0 ) (⟨rfl, ⟨Ob.ren0 (Entry.rows_bdd 0 _), ⟨rfl, ⟨rfl, ⟨Ob.ren0 (Key.rows_bdd 0 _), ⟨rfl, trivial⟩⟩⟩⟩⟩⟩) (⟨rfl, ⟨Ob.ren0 (Entry.rows_bdd 0 _), ⟨rfl, ⟨rfl, ⟨Ob.ren0 (Key.rows_bdd 0 _), ⟨rfl, trivial⟩⟩⟩⟩⟩⟩)) ⟨AV.wk_refl_any _, trivial⟩) (.c 2 (ACalls.pre (args' := [(.obj 1 0 0 0)]) (ACalls.put2 [1, 2] (Wl_9 tape) (AV.sl .any 9 (List.map Card.row ((intoC 3 (mtC tape) ([] : List Entry) ([] : List Key)).1.map (·.card)))) (Wl_9 tape) (scards_spec (capM 32) (intoC 3 (mtC tape) ([] : List Entry) ([] : List Key)).1 (intoG 3 (mtC tape) ([] : List Entry) 0 ([] : List Key) 0) (List.length (intoC 3 (mtC tape) ([] : List Entry) ([] : List Key)).1) oa oa) (⟨rfl, ⟨Ob.ren0 (Entry.rows_bdd 0 _), trivial⟩⟩) (⟨rfl, ⟨Ob.ren0 (Entry.rows_bdd 0 _), trivial⟩⟩)) ⟨AV.wk_refl_any _, trivial⟩) (.c 4 (ACalls.pre (args' := [(.obj 6 0 0 0)]) (ACalls.put2 [1, 2, 3, 4, 5, 6] (Wl_9 tape) (AV.obj 4 0 0 0) (Wl_9 tape) (drecent_spec (intoC 3 (mtC tape) ([] : List Entry) ([] : List Key)).1 (intoG 3 (mtC tape) ([] : List Entry) 0 ([] : List Key) 0) (intoC 3 (mtC tape) ([] : List Entry) ([] : List Key)).2.1 (intoA 3 (mtC tape) ([] : List Entry) 0 ([] : List Key) 0) 0 0 0 1 0 1 0 ) (⟨rfl, ⟨Ob.ren0 (Entry.rows_bdd 0 _), ⟨rfl, ⟨rfl, ⟨Ob.ren0 (Key.rows_bdd 0 _), ⟨rfl, trivial⟩⟩⟩⟩⟩⟩) (⟨rfl, ⟨Ob.ren0 (Entry.rows_bdd 0 _), ⟨rfl, ⟨rfl, ⟨Ob.ren0 (Key.rows_bdd 0 _), ⟨rfl, trivial⟩⟩⟩⟩⟩⟩)) ⟨AV.wk_refl_any _, trivial⟩) (.c 5 (ACalls.pre (args' := [(.obj 4 0 0 0)]) (ACalls.put2 [4, 5] (Wl_9 tape) (AV.int .i64 (((intoC 3 (mtC tape) ([] : List Entry) ([] : List Key)).2.1.length : Nat) : Int)) (Wl_9 tape) (seq_spec (intoC 3 (mtC tape) ([] : List Entry) ([] : List Key)).2.1 (intoA 3 (mtC tape) ([] : List Entry) 0 ([] : List Key) 0) ) (⟨rfl, ⟨Ob.ren0 (Key.rows_bdd 0 _), trivial⟩⟩) (⟨rfl, ⟨Ob.ren0 (Key.rows_bdd 0 _), trivial⟩⟩)) ⟨AV.wk_refl_any _, trivial⟩) (.g (.r (.y 1 (.int .i64 ((List.length (List.map Card.row ((Tp.mk tape 0).step (14 + 1) |>.cards ((Tp.mk tape 0).next (14 + 1)))) : Nat) : Int)) (AV.int .i64 ((((Tp.mk tape 0).step (14 + 1) |>.cards ((Tp.mk tape 0).next (14 + 1))).length : Nat) : Int)) (Yes.len _ _ _) (.g (.loop (Wl_10 tape) (show LoopTo (codeQ Try.prog (X mt_ann) (loopOf Try.f7 0)) (some [2, 4, 5, 6, 7, 41, 42, 43]) (some [2, 4, 5, 6, 7, 41, 42, 43]) (mkF 104 [(2, (.bool false)), (4, (.sl .any 9 (List.map Card.row ((Tp.mk tape 0).step (14 + 1) |>.cards ((Tp.mk tape 0).next (14 + 1)))))), (5, (.obj 6 0 0 0)), (6, (.sl .any 9 (List.map Card.row ((intoC 3 (mtC tape) ([] : List Entry) ([] : List Key)).1.map (·.card))))), (7, (.int .i64 (((intoC 3 (mtC tape) ([] : List Entry) ([] : List Key)).2.1.length : Nat) : Int))), (41, (.sl .any 9 (List.map Card.row ((Tp.mk tape 0).step (14 + 1) |>.cards ((Tp.mk tape 0).next (14 + 1)))))), (42, (.int .i64 ((((Tp.mk tape 0).step (14 + 1) |>.cards ((Tp.mk tape 0).next (14 + 1))).length : Nat) : Int))), (43, (.int .i64 0))]) (Wl_9 tape) (.exit 0) (Wl_10 tape) (Wl_11 tape) from (mt_loop (((⟨tape, 0⟩ : Tp).step 15).cardsT ((⟨tape, 0⟩ : Tp).next 15)) (intoC 3 (mtC tape) [] []).1 (intoG 3 (mtC tape) [] 0 [] 0) (intoC 3 (mtC tape) [] []).2.1 (intoA 3 (mtC tape) [] 0 [] 0) 0 0 0 1 0 1 0 (mtC tape) (List.map Entry.card (intoC 3 (mtC tape) [] []).1) (List.length (intoC 3 (mtC tape) [] []).2.1) ow ow (fun i hi => by have q := t3 _ (nth_mem hi); simp only [mt_bad, q.1]; simp; intro _; have := q.2; omega) (mtC tape).length 0 () ow rfl rfl)) (.r (.ch 2 (Wl_12 tape) (ACalls.pre (args' := [(.obj 6 0 0 0), (.sl .any 9 (List.map Card.row (List.map Entry.card (intoC 3 (mtC tape) [] []).1))), (.int .i64 9)]) (ACalls.put2 [1, 2, 3, 4, 5, 6] (Wl_11 tape) (AV.tup [(.sl .any 9 (List.map Card.row (intoC 9 (List.map Entry.card (intoC 3 (mtC tape) [] []).1) (intoC 3 (mtC tape) [] []).1 (intoC 3 (mtC tape) [] []).2.1).2.2.1)), (.int .i64 (((intoC 9 (List.map Entry.card (intoC 3 (mtC tape) [] []).1) (intoC 3 (mtC tape) [] []).1 (intoC 3 (mtC tape) [] []).2.1).2.2.2 : Nat) : Int))]) (Wl_12 tape) (into_spec (List.map Entry.card (intoC 3 (mtC tape) [] []).1) 9 (intoC 3 (mtC tape) [] []).1 (intoG 3 (mtC tape) [] 0 [] 0) (intoC 3 (mtC tape) [] []).2.1 (intoA 3 (mtC tape) [] 0 [] 0) 0 0 0 1 0 1 0 oa oa) (⟨rfl, ⟨Ob.ren0 (Entry.rows_bdd 0 _), ⟨rfl, ⟨rfl, ⟨Ob.ren0 (Key.rows_bdd 0 _), ⟨rfl, trivial⟩⟩⟩⟩⟩⟩) (⟨rfl, ⟨Ob.ren0 (Entry.rows_bdd 0 _), ⟨rfl, ⟨rfl, ⟨Ob.ren0 (Key.rows_bdd 0 _), ⟨rfl, trivial⟩⟩⟩⟩⟩⟩)) ⟨AV.wk_refl_any _, ⟨rfl, rfl, .inl rfl⟩, AV.wk_refl_any _, trivial⟩) (.g (.r (.y 1 (.int .i64 ((List.length (List.map Card.row (intoC 9 (List.map Entry.card (intoC 3 (mtC tape) [] []).1) (intoC 3 (mtC tape) [] []).1 (intoC 3 (mtC tape) [] []).2.1).2.2.1) : Nat) : Int)) (AV.int .i64 (((intoC 9 (List.map Entry.card (intoC 3 (mtC tape) [] []).1) (intoC 3 (mtC tape) [] []).1 (intoC 3 (mtC tape) [] []).2.1).2.2.1.length : Nat) : Int)) (Yes.len _ _ _) (.y 2 (AV.bool ((((intoC 9 (List.map Entry.card (intoC 3 (mtC tape) [] []).1) (intoC 3 (mtC tape) [] []).1 (intoC 3 (mtC tape) [] []).2.1).2.2.1.length : Nat) : Int) == 0)) (AV.bool true) (Yes.bool (by rw [a2]; rfl)) (.yes (.yes (.y 5 (AV.bool ((((intoC 9 (List.map Entry.card (intoC 3 (mtC tape) [] []).1) (intoC 3 (mtC tape) [] []).1 (intoC 3 (mtC tape) [] []).2.1).2.2.2 : Nat) : Int) == 0)) (AV.bool true) (Yes.bool (by rw [a2]; rfl)) (.yes (.yes (.c 9 (ACalls.pre (args' := [(.obj 6 0 0 0)]) (ACalls.put2 [1, 2, 3, 4, 5, 6] (Wl_12 tape) (AV.obj 4 0 0 0) (Wl_12 tape) (drecent_spec (intoC 9 (List.map Entry.card (intoC 3 (mtC tape) [] []).1) (intoC 3 (mtC tape) [] []).1 (intoC 3 (mtC tape) [] []).2.1).1 (intoG 9 (List.map Entry.card (intoC 3 (mtC tape) [] []).1) (intoC 3 (mtC tape) [] []).1 (intoG 3 (mtC tape) [] 0 [] 0) (intoC 3 (mtC tape) [] []).2.1 (intoA 3 (mtC tape) [] 0 [] 0)) (intoC 9 (List.map Entry.card (intoC 3 (mtC tape) [] []).1) (intoC 3 (mtC tape) [] []).1 (intoC 3 (mtC tape) [] []).2.1).2.1 (intoA 9 (List.map Entry.card (intoC 3 (mtC tape) [] []).1) (intoC 3 (mtC tape) [] []).1 (intoG 3 (mtC tape) [] 0 [] 0) (intoC 3 (mtC tape) [] []).2.1 (intoA 3 (mtC tape) [] 0 [] 0)) 0 0 0 1 0 1 0 ) (⟨rfl, ⟨Ob.ren0 (Entry.rows_bdd 0 _), ⟨rfl, ⟨rfl, ⟨Ob.ren0 (Key.rows_bdd 0 _), ⟨rfl, trivial⟩⟩⟩⟩⟩⟩) (⟨rfl, ⟨Ob.ren0 (Entry.rows_bdd 0 _), ⟨rfl, ⟨rfl, ⟨Ob.ren0 (Key.rows_bdd 0 _), ⟨rfl, trivial⟩⟩⟩⟩⟩⟩)) ⟨AV.wk_refl_any _, trivial⟩) (.yes (.c 10 (ACalls.pre (args' := [(.obj 4 0 0 0)]) (ACalls.put2 [4, 5] (Wl_12 tape) (AV.int .i64 (((intoC 9 (List.map Entry.card (intoC 3 (mtC tape) [] []).1) (intoC 3 (mtC tape) [] []).1 (intoC 3 (mtC tape) [] []).2.1).2.1.length : Nat) : Int)) (Wl_12 tape) (seq_spec (intoC 9 (List.map Entry.card (intoC 3 (mtC tape) [] []).1) (intoC 3 (mtC tape) [] []).1 (intoC 3 (mtC tape) [] []).2.1).2.1 (intoA 9 (List.map Entry.card (intoC 3 (mtC tape) [] []).1) (intoC 3 (mtC tape) [] []).1 (intoG 3 (mtC tape) [] 0 [] 0) (intoC 3 (mtC tape) [] []).2.1 (intoA 3 (mtC tape) [] 0 [] 0)) ) (⟨rfl, ⟨Ob.ren0 (Key.rows_bdd 0 _), trivial⟩⟩) (⟨rfl, ⟨Ob.ren0 (Key.rows_bdd 0 _), trivial⟩⟩)) ⟨AV.wk_refl_any _, trivial⟩) (.yes (.yes (.y 12 (AV.bool ((((intoC 9 (List.map Entry.card (intoC 3 (mtC tape) [] []).1) (intoC 3 (mtC tape) [] []).1 (intoC 3 (mtC tape) [] []).2.1).2.1.length : Nat) : Int) == (((List.length (intoC 3 (mtC tape) [] []).2.1) : Nat) : Int))) (AV.bool true) (Yes.bool (by rw [a2]; simp)) (.yes (.yes (.c 16 (ACalls.pre (args' := [(.obj 6 0 0 0)]) (ACalls.put2 [1, 2, 3, 4, 5, 6] (Wl_12 tape) (AV.obj 1 0 0 0) (Wl_12 tape) (dshelf_spec (intoC 9 (List.map Entry.card (intoC 3 (mtC tape) [] []).1) (intoC 3 (mtC tape) [] []).1 (intoC 3 (mtC tape) [] []).2.1).1 (intoG 9 (List.map Entry.card (intoC 3 (mtC tape) [] []).1) (intoC 3 (mtC tape) [] []).1 (intoG 3 (mtC tape) [] 0 [] 0) (intoC 3 (mtC tape) [] []).2.1 (intoA 3 (mtC tape) [] 0 [] 0)) (intoC 9 (List.map Entry.card (intoC 3 (mtC tape) [] []).1) (intoC 3 (mtC tape) [] []).1 (intoC 3 (mtC tape) [] []).2.1).2.1 (intoA 9 (List.map Entry.card (intoC 3 (mtC tape) [] []).1) (intoC 3 (mtC tape) [] []).1 (intoG 3 (mtC tape) [] 0 [] 0) (intoC 3 (mtC tape) [] []).2.1 (intoA 3 (mtC tape) [] 0 [] 0)) 0 0 0 1 0 1 0 ) (⟨rfl, ⟨Ob.ren0 (Entry.rows_bdd 0 _), ⟨rfl, ⟨rfl, ⟨Ob.ren0 (Key.rows_bdd 0 _), ⟨rfl, trivial⟩⟩⟩⟩⟩⟩) (⟨rfl, ⟨Ob.ren0 (Entry.rows_bdd 0 _), ⟨rfl, ⟨rfl, ⟨Ob.ren0 (Key.rows_bdd 0 _), ⟨rfl, trivial⟩⟩⟩⟩⟩⟩)) ⟨AV.wk_refl_any _, trivial⟩) (.yes (.c 17 (ACalls.pre (args' := [(.obj 1 0 0 0)]) (ACalls.put2 [1, 2] (Wl_12 tape) (AV.sl .any 9 (List.map Card.row ((intoC 9 (List.map Entry.card (intoC 3 (mtC tape) [] []).1) (intoC 3 (mtC tape) [] []).1 (intoC 3 (mtC tape) [] []).2.1).1.map (·.card)))) (Wl_12 tape) (scards_spec (capM 32) (intoC 9 (List.map Entry.card (intoC 3 (mtC tape) [] []).1) (intoC 3 (mtC tape) [] []).1 (intoC 3 (mtC tape) [] []).2.1).1 (intoG 9 (List.map Entry.card (intoC 3 (mtC tape) [] []).1) (intoC 3 (mtC tape) [] []).1 (intoG 3 (mtC tape) [] 0 [] 0) (intoC 3 (mtC tape) [] []).2.1 (intoA 3 (mtC tape) [] 0 [] 0)) (List.length (intoC 9 (List.map Entry.card (intoC 3 (mtC tape) [] []).1) (intoC 3 (mtC tape) [] []).1 (intoC 3 (mtC tape) [] []).2.1).1) oa ow) (⟨rfl, ⟨Ob.ren0 (Entry.rows_bdd 0 _), trivial⟩⟩) (⟨rfl, ⟨Ob.ren0 (Entry.rows_bdd 0 _), trivial⟩⟩)) ⟨AV.wk_refl_any _, trivial⟩) (.yes (.yes (.c 19 (sameC_at ((intoC 9 (List.map Entry.card (intoC 3 (mtC tape) [] []).1) (intoC 3 (mtC tape) [] []).1 (intoC 3 (mtC tape) [] []).2.1).1.map (·.card)) (List.map Entry.card (intoC 3 (mtC tape) [] []).1) (by rw [a3]; omega) (a3) (Wl_12 tape)) (.yes (.yes (.yes (.yes (.c 25 (ACalls.pre (args' := [(.sl .clip 1 [[(.sl .any 9 (List.map Card.row (List.map Entry.card (intoC 3 (mtC tape) [] []).1)))], [(.sl .any 9 (List.map Card.row (List.map Entry.card (intoC 3 (mtC tape) [] []).1)))]])]) (mjoin_at ([(CardL.mk (List.map Entry.card (intoC 3 (mtC tape) [] []).1)), (CardL.mk (List.map Entry.card (intoC 3 (mtC tape) [] []).1))]) oa (nth_le _ 100 (by intro x hx; simp only [List.mem_cons, List.not_mem_nil, or_false, or_self] at hx; subst hx; show (List.map Entry.card _).length ≤ 100; omega)) (j4) (Wl_12 tape)) ⟨⟨rfl, rfl, .inl rfl⟩, trivial⟩) (.yes (.yes (.c 27 (sameC_at (joinK (flatC ([(CardL.mk (List.map Entry.card (intoC 3 (mtC tape) [] []).1)), (CardL.mk (List.map Entry.card (intoC 3 (mtC tape) [] []).1))]))) (List.map Entry.card (intoC 3 (mtC tape) [] []).1) (by rw [j3]; omega) (j3) (Wl_12 tape)) (.yes (.c 30 (known19_at   (Wl_12 tape)) (.g (.h' ([] : Heap) (.f 0 (AV.bool true) (.e (AV.bool true))))))))))))))))))))))))))))))))))))))))))))))))))))))))))))))))))))))))))
end Go.Proofs.Ytcmfnfkahdconaa.AM

set_option linter.unusedVariables false
set_option linter.unusedSimpArgs false
namespace Go.Proofs.Ytcmfnfkahdconaa.AM
open Go Go.RowKit
theorem Ev.below {G G' : Nat → Prop} {w w' : World} {C' : Cx} (h : Ev G w Cx.none G' w' C') : Below w.heap.size w w' :=
  ⟨h.os, h.tape, h.output, h.size, fun b hb => h.rest b hb fun id l hl => by simp [Cx.none] at hl⟩
def IsInts (w : World) (a : Option Addr) (len cap : Nat) (zs : List Int) : Prop :=
  (a = none ∧ len = 0 ∧ cap = 0 ∧ zs = []) ∨ ∃ x, a = some x ∧ len ≤ cap ∧ cap ≤ maxLen ∧ zs.length = cap ∧ ∀ i, i < zs.length → w.cell? (x.add i) = some (.int .i64 (zs.getD i 0))
theorem cell?_lt {w : World} {a : Addr} {v : Value} (h : w.cell? a = some v) : a.block < w.heap.size := by
  unfold World.cell? at h
  rcases Nat.lt_or_ge a.block w.heap.size with h' | h'
  · exact h'
  · rw [Array.getElem?_eq_none (by omega)] at h; simp at h
theorem cell?_plain {w : World} {a : Addr} {v : Value} (h : w.cell? a = some v) : a.spot = none := by
  unfold World.cell? at h
  split at h
  · split at h
    · simp at h
    · rename_i hs; simpa using hs
  · simp at h
theorem IsInts.rel {w : World} {a : Option Addr} {len cap : Nat} {zs : List Int} (h : IsInts w a len cap zs) : VR (fun b => b < w.heap.size) w Cx.none (.sl .any 1 ((zs.take len).map rI64)) (.slice a len cap) ∧ (zs.take len).length < 9223372036854775808 := by
  rcases h with ⟨rfl, rfl, rfl, rfl⟩ | ⟨x, rfl, hl, hm, hz, hc⟩
  · exact ⟨.nils _ _ _ (by simp), by simp⟩
  · have hm' : cap ≤ 9223372036854775807 := by simpa [maxLen] using hm
    have hlen : ((zs.take len).map rI64).length = len := by simp; omega
    refine ⟨?_, by simp; omega⟩
    have key := VR.sl (G := fun b => b < w.heap.size) (w := w) Cx.none .any ((zs.take len).map rI64) 1 x cap (by simp) (by simp) (by omega) (fun hne => ?_) (fun i _ => .int .i64 (zs.getD i 0)) (fun i hi => ?_) (fun i j hi hj => ?_) (fun _ _ _ _ => rfl) fun i j hi hj => ?_
    · rwa [hlen] at key
    · have h0 : 0 < zs.length := by
        rcases Nat.eq_zero_or_pos zs.length with h | h
        · have : zs = [] := List.eq_nil_of_length_eq_zero h
          subst this; simp at hne
        · exact h
      have := hc 0 h0
      simp only [Addr.add, if_true] at this
      exact ⟨cell?_plain this, cell?_lt this⟩
    · have : ((zs.take len).map rI64)[i]? = some (rI64 ((zs.take len)[i]'(by rw [hlen] at hi; simp; omega))) := by
        rw [List.getElem?_map, List.getElem?_eq_getElem (by rw [hlen] at hi; simp; omega)]; rfl
      rw [List.getD_eq_getElem?_getD, this]; rfl
    · obtain rfl : j = 0 := by omega
      have h0 : 0 < zs.length := by omega
      have hsp := cell?_plain (hc 0 h0)
      simp only [Addr.add, if_true] at hsp
      have := hc i (by omega)
      obtain ⟨xb, xo, xs⟩ := x
      simp only at hsp
      subst hsp
      rw [add_addr] at this
      simpa using this
    · obtain rfl : j = 0 := by omega
      have hi' : i < zs.length := by omega
      have : ((zs.take len).map rI64).getD i [] = [.int .i64 (zs.getD i 0)] := by
        simp [List.getD_eq_getElem?_getD, List.getElem?_take, show i < len by omega, hi', rI64]
      rw [this]
      exact .int ..
theorem ACalls.yes {P : Program} {f : FuncId} {fn : Func} (hf : Has P f fn) {args : List AV} {H' : Heap} (h : ACalls P f args [] (.bool true, H')) {vs : Array Value} {w : World} (hsz : vs.size = args.length)
    (hargs : ∀ i, i < args.length → VR (fun b => b < w.heap.size) w Cx.none (args.getD i .skip) (vs.getD i undef)) :
    Calls P f vs w fun e w' => e = .returned (.bool true) ∧ Below w.heap.size w w' :=
  Calls.mono (h.calls hf hsz hargs (fun b hb => hb)) fun e w' ⟨v, G', C', he, h1, h2⟩ => by
    cases h2
    exact ⟨he, h1.below⟩
end Go.Proofs.Ytcmfnfkahdconaa.AM
