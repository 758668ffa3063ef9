/-
  Plain laws of seals: bytes of what is seen.
-/
import Derived.Test.YtpkgpldgoajphaaSs
import Derived.Test.YtpkgpldgoajphaaPg
set_option linter.unusedVariables false
set_option linter.unusedSimpArgs false
set_option maxRecDepth 100000
namespace Go.Proofs.Ytpkgpldgoajphaa.AM
open Go
attribute [local irreducible] Tp.card Tp.cardT Tp.next Tp.step Tp.cards Tp.cardsT Tp.key Tp.keyT

abbrev ltD (a b : Card) : Bool := decide (cmpK a.key b.key < 0)
theorem ltD_before (a b : Card) : ltD a b = beforeK a.key b.key := less_before a.key b.key
abbrev StrictD (l : List Card) : Prop := List.Pairwise StC l
theorem weakD : Weak ltD := ⟨fun a b h => by rw [ltD_before] at h ⊢; exact bk_asymm h, fun a b c h k => by rw [ltD_before] at h k ⊢; exact bk_le_trans h k⟩
theorem StrictD.inj {l : List Card} (h : StrictD l) {a b : Card} (ha : a ∈ l) (hb : b ∈ l) (e : a.key = b.key) : a = b := by
  obtain ⟨i, hi, rfl⟩ := mem_nth ha
  obtain ⟨j, hj, rfl⟩ := mem_nth hb
  have hp := pw_nth.1 h
  rcases Nat.lt_trichotomy i j with h1 | h1 | h1
  · exact absurd e (bk_ne (hp i j h1 hj))
  · rw [h1]
  · exact absurd e.symm (bk_ne (hp j i h1 hi))
theorem sortP_sortD (l : List Card) : sortP l = sortG ltD l := insSort_sortG _ l
theorem sortP_strictD {l : List Card} (h : StrictD l) : sortP l = l := by
  rw [sortP_sortD]
  refine sorted_unique (lt := ltD) _ _ (sortG_sorted weakD l) (h.imp fun {a b} hab => ?_) (sortG_perm _ l) fun a ha b hb h1 h2 => ?_
  · rw [ltD_before]; exact bk_asymm hab
  · rw [ltD_before] at h1 h2
    exact h.inj ((sortG_perm _ l).mem_iff.1 ha) ((sortG_perm _ l).mem_iff.1 hb) (bk_tri h1 h2)
theorem seenK_strict {l : List Card} (h : StrictD l) : seenK l = hereL l := by
  unfold seenK
  exact sortP_strictD (h.sublist List.filter_sublist)
theorem cardB_app (b : List Int) (c : Card) : cardB b c = b ++ cardB [] c := by
  simp [cardB, intB, byteB, textB, List.append_assoc]
theorem foldB (l : List Card) : ∀ (b : List Int), l.foldl cardB b = b ++ l.flatMap (cardB []) := by
  induction l with
  | nil => intro b; simp
  | cons c l ih => intro b; rw [List.foldl_cons, ih, cardB_app]; simp
theorem sealB_flat (l : List Card) : sealB l = (seenK l).flatMap (cardB []) := by unfold sealB; rw [foldB]; simp
theorem one_strictD (a : Card) : StrictD [a] := List.pairwise_singleton _ _
theorem sealB_one (c : Card) : sealB [c] = if c.gone = true then [] else cardB [] c := by
  rw [sealB_flat, seenK_strict (one_strictD c)]
  cases h : c.gone <;> simp [hereL, List.filter_cons, h]
theorem sealB_strict {l : List Card} (h : StrictD l) : sealB l = l.flatMap (fun c => sealB [c]) := by
  rw [sealB_flat, seenK_strict h]
  clear h
  induction l with
  | nil => rfl
  | cons c l ih =>
    rw [List.flatMap_cons, ← ih, sealB_one]
    cases hg : c.gone <;> simp [hereL, List.filter_cons, hg]
theorem cardB_pos (c : Card) : 0 < (cardB [] c).length := by
  unfold cardB; rw [intB_len]; omega
theorem take_drop_one {α : Type} [Inhabited α] {l : List α} {i : Nat} (h : i < l.length) : (l.take (i + 1)).drop i = [nth l i] := by
  rw [List.drop_take, drop_nth h, show i + 1 - i = 1 by omega]; simp
theorem ba_ext {a b : ByteArray} (h : a.data = b.data) : a = b := by cases a; cases b; simpa using h
theorem bstr_app (a b : List Int) : bstr (a ++ b) = bstr a ++ bstr b := by
  apply ba_ext
  rw [ByteArray.data_append]
  simp [bstr]
theorem bstr_flat (l : List Card) : ∀ (s : ByteArray) (n : Nat),
    l.foldl (fun (s : ByteArray × Nat) c => (s.1 ++ bstr (sealB [c]), if (!c.gone) = true then s.2 + 1 else s.2)) (s, n) = (s ++ bstr (l.flatMap fun c => sealB [c]), n + (hereL l).length) := by
  induction l with
  | nil => intro s n; simp only [List.foldl_nil, List.flatMap_nil, hereL, List.filter_nil, List.length_nil, Nat.add_zero]; congr 1; apply ba_ext; rw [ByteArray.data_append]; simp [bstr]
  | cons c l ih =>
    intro s n
    rw [List.foldl_cons, ih, List.flatMap_cons, bstr_app]
    congr 1
    · apply ba_ext; simp only [ByteArray.data_append, Array.append_assoc]
    · cases hg : c.gone <;> simp [hereL, List.filter_cons, hg]; omega
theorem sparts_true (tape : List Int) (hl : tape.length < 9223372036854775808) : ACalls Try.prog 14 [AV.sl .any 1 (List.map rI64 tape)] [] (AV.bool true, []) := by
  have key : ∀ A : List Card, StrictD A → (∀ (i : Nat), i < A.length → ¬ sparts_bad A (iter (sparts_f A) i 0 (⟨#[]⟩, 0)).1 (iter (sparts_f A) i 0 (⟨#[]⟩, 0)).2 i) ∧ bstr (sealB A) = (iter (sparts_f A) A.length 0 (⟨#[]⟩, 0)).1 ∧ (seenK A).length = (iter (sparts_f A) A.length 0 (⟨#[]⟩, 0)).2 := by
    intro A hA
    have hf : iter (sparts_f A) A.length 0 (⟨#[]⟩, 0) = ((⟨#[]⟩ : ByteArray) ++ bstr (A.flatMap fun c => sealB [c]), 0 + (hereL A).length) := by
      rw [iter_all (sparts_f A) (fun s c => (s.1 ++ bstr (sealB [c]), if (!c.gone) = true then s.2 + 1 else s.2)) A (fun i s hi => ?_), bstr_flat]
      simp only [sparts_f, take_drop_one hi]
      split <;> rfl
    refine ⟨fun i hi hb => ?_, ?_, ?_⟩
    · have h2 := hb.2
      rw [take_drop_one hi, sealB_one] at h2
      have hp := cardB_pos (nth A i)
      cases hg : (nth A i).gone
      · rw [hg] at h2
        have : ((((cardB [] (nth A i)).length : Nat) : Int) == 0) = false := by simp; exact List.ne_nil_of_length_pos hp
        simp only [Bool.false_eq_true, if_false, this] at h2
        simp at h2
      · rw [hg] at h2; simp at h2
    · rw [hf, sealB_strict hA]; apply ba_ext; rw [ByteArray.data_append]; simp
    · rw [hf, seenK_strict hA]; simp
  obtain ⟨h1, h2, h3⟩ := key _ (onceK_sorted (tC' ⟨tape, 0⟩ 12))
  exact sparts_spec tape hl h1 h2 h3
end Go.Proofs.Ytpkgpldgoajphaa.AM
