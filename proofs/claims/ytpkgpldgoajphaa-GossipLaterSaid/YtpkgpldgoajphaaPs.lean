/-
  Plain laws of gossip, for rows in which each key is once, by key.
-/
import Derived.Test.YtpkgpldgoajphaaSq
import Derived.Test.YtpkgpldgoajphaaPg
set_option linter.unusedVariables false
set_option linter.unusedSimpArgs false
set_option maxRecDepth 100000
namespace Go.Proofs.Ytpkgpldgoajphaa.AM
open Go
attribute [local irreducible] Tp.card Tp.cardT Tp.next Tp.step Tp.cards Tp.cardsT Tp.key Tp.keyT

abbrev ltC (a b : Card) : Bool := decide (cmpK a.key b.key < 0)
theorem ltC_before (a b : Card) : ltC a b = beforeK a.key b.key := less_before a.key b.key
abbrev Strict (l : List Card) : Prop := List.Pairwise StC l
theorem weakC : Weak ltC := ⟨fun a b h => by rw [ltC_before] at h ⊢; exact bk_asymm h, fun a b c h k => by rw [ltC_before] at h k ⊢; exact bk_le_trans h k⟩
theorem Strict.inj {l : List Card} (h : Strict l) {a b : Card} (ha : a ∈ l) (hb : b ∈ l) (e : a.key = b.key) : a = b := by
  obtain ⟨i, hi, rfl⟩ := mem_nth ha
  obtain ⟨j, hj, rfl⟩ := mem_nth hb
  have hp := pw_nth.1 h
  rcases Nat.lt_trichotomy i j with h1 | h1 | h1
  · exact absurd e (bk_ne (hp i j h1 hj))
  · rw [h1]
  · exact absurd e.symm (bk_ne (hp j i h1 hi))
theorem sortP_sortG (l : List Card) : sortP l = sortG ltC l := insSort_sortG _ l
theorem sortP_strict {l : List Card} (h : Strict l) : sortP l = l := by
  rw [sortP_sortG]
  refine sorted_unique (lt := ltC) _ _ (sortG_sorted weakC l) (h.imp fun {a b} hab => ?_) (sortG_perm _ l) fun a ha b hb h1 h2 => ?_
  · rw [ltC_before]; exact bk_asymm hab
  · rw [ltC_before] at h1 h2
    exact h.inj ((sortG_perm _ l).mem_iff.1 ha) ((sortG_perm _ l).mem_iff.1 hb) (bk_tri h1 h2)
theorem onceFold_strict (s : List Card) : ∀ (out : List Card) (g : Nat), Strict (out ++ s) → (s.foldl onceStep (out, g)).1 = out ++ s := by
  induction s with
  | nil => intro out g h; simp
  | cons c s ih =>
    intro out g h
    rw [List.foldl_cons]
    have : onceStep (out, g) c = (out ++ [c], g + 1) := by
      simp only [onceStep]
      rcases List.eq_nil_or_concat out with rfl | ⟨init, last, hc⟩
      · simp
      · have hc' : out = init ++ [last] := by simpa using hc
        have hlen : out.length = init.length + 1 := by rw [hc']; simp
        have hlast : nth out (out.length - 1) = last := by rw [hlen, hc', Nat.add_sub_cancel]; exact nth_append_len init last []
        have hlt : StC last c := (List.pairwise_append.1 h).2.2 last (by rw [hc']; simp) c (by simp)
        have hne : Key.eqb last.key c.key = false := Key.eqb_false.2 (bk_ne hlt)
        rw [hlast, hne]
        simp
    rw [this, ih _ _ (by simpa using h)]
    simp
theorem lastK_strict {l : List Card} (h : Strict l) : lastK l = l := by
  have := onceFold_strict l [] 0 (by simpa using h)
  unfold lastK lastS
  rw [sortP_strict h, this]; simp
theorem digK_strict {l : List Card} (h : Strict l) (hl : l.length ≤ 64) : digK l = l := by
  unfold digK
  rw [sortP_strict h]
  exact List.take_of_length_le (by omega)
theorem findC_mem {l : List Card} (h : Strict l) {c : Card} (hc : c ∈ l) : inC l c.key = true ∧ findC l c.key = c := by
  have key : ∃ n : Nat, ixI (isKey c.key) l = n ∧ nth l n = c := by
    unfold ixI
    cases hx : ixOf (isKey c.key) l 0 with
    | none =>
      obtain ⟨j, hj, e⟩ := mem_nth hc
      have := ixOf_none l 0 hx j hj
      rw [e] at this
      simp [isKey, Key.eqb_refl] at this
    | some n =>
      obtain ⟨_, h2, h3, _⟩ := ixOf_some l 0 n hx
      refine ⟨n, rfl, ?_⟩
      have h3' : Key.eqb (nth l n).key c.key = true := by simpa [isKey] using h3
      exact h.inj (nth_mem (by omega)) hc ((Key.eqb_iff _ _).1 h3')
  obtain ⟨n, h1, h2⟩ := key
  have h0 : ¬ ((n : Int) < 0) := by omega
  constructor
  · unfold inC; rw [h1]; simp
  · unfold findC; rw [h1, if_neg h0]; simpa using h2
theorem inC_nil (k : Key) : inC [] k = false := by simp [inC, ixI, ixOf]
theorem aheadK_strict {l : List Card} (h : Strict l) (m : List Card) : Strict (aheadK l m) := h.sublist List.filter_sublist
theorem aheadK_nil (l : List Card) : aheadK l [] = l := by
  unfold aheadK
  refine (List.filter_eq_self).2 fun c hc => ?_
  simp [aheadB, inC_nil]
theorem cmpI_self (x : Int) : cmpI x x = 0 := by simp [cmpI]
theorem cmpSt_self (a : Stamp) : cmpSt a a = 0 := by simp [cmpSt, cmpI_self]
theorem aheadK_self {l : List Card} (h : Strict l) : aheadK l l = [] := by
  unfold aheadK
  refine (List.filter_eq_nil_iff).2 fun c hc => ?_
  obtain ⟨h1, h2⟩ := findC_mem h hc
  simp [aheadB, h1, h2, cmpSt_self]
theorem hasK_false {l : List Key} {k : Key} (h : ∀ x ∈ l, x ≠ k) : hasK l k = false := by
  unfold hasK ixI
  cases hx : ixOf (Key.eqb k) l 0 with
  | none => simp
  | some n =>
    obtain ⟨_, h2, h3, _⟩ := ixOf_some l 0 n hx
    have := (Key.eqb_iff _ _).1 h3
    exact absurd this.symm (h _ (by simpa using nth_mem (show n < l.length by omega)))
theorem ansK_strict {l : List Card} (h : Strict l) (F : List Card) : ∀ (seen : List Key), (∀ c ∈ F, c ∈ l) → List.Pairwise (fun a b : Card => a.key ≠ b.key) F → (∀ c ∈ F, ∀ x ∈ seen, x ≠ c.key) → ansK l seen (keysC F) = F := by
  induction F with
  | nil => intro seen h1 h2 h3; rfl
  | cons c F ih =>
    intro seen h1 h2 h3
    have hp := List.pairwise_cons.1 h2
    obtain ⟨i1, i2⟩ := findC_mem h (h1 c (by simp))
    have hk : keysC (c :: F) = c.key :: keysC F := rfl
    rw [hk]
    simp only [ansK]
    rw [i1, hasK_false (h3 c (by simp)), i2, ih (seen ++ [c.key]) (fun x hx => h1 x (by simp [hx])) hp.2 (fun x hx y hy => ?_)]
    · simp
    · rcases List.mem_append.1 hy with hy | hy
      · exact h3 x (by simp [hx]) y hy
      · simp at hy; subst hy; exact hp.1 x hx
theorem answerK_strict {l : List Card} (h : Strict l) {F : List Card} (hF : List.Sublist F l) : answerK l (keysC F) = F := by
  unfold answerK
  rw [lastK_strict h]
  exact ansK_strict h F [] (fun c hc => hF.subset hc) ((h.sublist hF).imp fun hab => bk_ne hab) (fun c _ x hx => by simp at hx)
theorem wantK_strict {a b : List Card} (ha : Strict a) (hb : Strict b) : wantK a b = keysC (aheadK b a) := by unfold wantK; rw [lastK_strict ha, lastK_strict hb]
theorem tellK_strict {a b : List Card} (ha : Strict a) (hb : Strict b) : tellK a b = aheadK a b := by unfold tellK; rw [lastK_strict ha, lastK_strict hb]
theorem both_eq {a b : List Card} (ha : Strict a) (hb : Strict b) (la : a.length ≤ 64) (lb : b.length ≤ 64) : answerK b (wantK a (digK b)) = tellK b (digK a) ∧ (wantK a (digK b)).length = (tellK b (digK a)).length := by
  rw [digK_strict ha la, digK_strict hb lb, wantK_strict ha hb, tellK_strict hb ha]
  exact ⟨answerK_strict hb List.filter_sublist, keysC_len _⟩
theorem both_true (tape : List Int) (hl : tape.length < 9223372036854775808) : ACalls Try.prog 16 [AV.sl .any 1 (List.map rI64 tape)] [] (AV.bool true, []) := by
  have hA := onceK_sorted (tC ⟨tape, 0⟩ 12)
  have hB := onceK_sorted (tC (tT ⟨tape, 0⟩ 12) 12)
  have lA := Nat.le_trans (onceK_len (tC ⟨tape, 0⟩ 12)) (tC_len _ _)
  have lB := Nat.le_trans (onceK_len (tC (tT ⟨tape, 0⟩ 12) 12)) (tC_len _ _)
  obtain ⟨h1, h2⟩ := both_eq hA hB (by omega) (by omega)
  obtain ⟨h3, h4⟩ := both_eq hB hA (by omega) (by omega)
  exact both_spec tape hl h1 h3 h2 h4
theorem self_true (tape : List Int) (hl : tape.length < 9223372036854775808) : ACalls Try.prog 17 [AV.sl .any 1 (List.map rI64 tape)] [] (AV.bool true, []) := by
  have hA := onceK_sorted (tC ⟨tape, 0⟩ 14)
  have lA := Nat.le_trans (onceK_len (tC ⟨tape, 0⟩ 14)) (tC_len _ _)
  have hN : Strict [] := List.Pairwise.nil
  have hd := digK_strict hA (by omega)
  refine self_spec tape hl ?_ ?_ ?_ ?_ ?_ ?_ ?_
  · show wantK (onceK (tC ⟨tape, 0⟩ 14)) (digK (onceK (tC ⟨tape, 0⟩ 14))) = []
    rw [hd, wantK_strict hA hA, aheadK_self hA]; rfl
  · show tellK (onceK (tC ⟨tape, 0⟩ 14)) (digK (onceK (tC ⟨tape, 0⟩ 14))) = []
    rw [hd, tellK_strict hA hA, aheadK_self hA]
  · show wantK (onceK (tC ⟨tape, 0⟩ 14)) [] = []
    rw [wantK_strict hA hN]; rfl
  · show tellK (onceK (tC ⟨tape, 0⟩ 14)) [] = onceK (tC ⟨tape, 0⟩ 14)
    rw [tellK_strict hA hN, aheadK_nil]
  · show wantK [] (onceK (tC ⟨tape, 0⟩ 14)) = (onceK (tC ⟨tape, 0⟩ 14)).map (·.key)
    rw [wantK_strict hN hA, aheadK_nil]; rfl
  · show tellK [] (onceK (tC ⟨tape, 0⟩ 14)) = []
    rw [tellK_strict hN hA]; rfl
  · show answerK (onceK (tC ⟨tape, 0⟩ 14)) (keysC (onceK (tC ⟨tape, 0⟩ 14))) = onceK (tC ⟨tape, 0⟩ 14)
    exact answerK_strict hA (List.Sublist.refl _)
theorem one_strict (a : Card) : Strict [a] := List.pairwise_singleton _ _
theorem ahead_one {a b : Card} (h : a.key = b.key) : aheadK [a] [b] = if cmpSt b.stamp a.stamp < 0 then [a] else [] := by
  obtain ⟨h1, h2⟩ := findC_mem (one_strict b) (c := b) (by simp)
  rw [← h] at h1 h2
  unfold aheadK
  simp only [List.filter_cons, List.filter_nil, aheadB, h1, h2]
  by_cases hc : cmpSt b.stamp a.stamp < 0 <;> simp [hc]
theorem cmpSt_lt {a b : Stamp} (h : a.t < b.t) : cmpSt a b < 0 ∧ ¬ cmpSt b a < 0 := by
  have h1 : cmpI a.t b.t = -1 := by simp [cmpI, h]
  have h2 : cmpI b.t a.t = 1 := by simp [cmpI, h]; omega
  simp [cmpSt, h1, h2]
theorem later_true (tape : List Int) (t : Int) (hl : tape.length < 9223372036854775808) : ACalls Try.prog 18 [AV.sl .any 1 (List.map rI64 tape), AV.int .i64 t] [] (AV.bool true, []) := by
  have key : ∀ (a b : Card), a.key = b.key → wantK [a] [b] = (if cmpSt a.stamp b.stamp < 0 then [b.key] else []) ∧ tellK [a] [b] = if cmpSt b.stamp a.stamp < 0 then [a] else [] := by
    intro a b h
    rw [wantK_strict (one_strict a) (one_strict b), tellK_strict (one_strict a) (one_strict b), ahead_one h, ahead_one h.symm]
    exact ⟨by split <;> rfl, rfl⟩
  refine later_spec tape t hl (fun h1 => ?_) (fun h1 h2 => ?_) (fun h1 h2 => ?_)
  · obtain ⟨k1, k2⟩ := key (Tp.card ⟨tape, 0⟩) ⟨(Tp.card ⟨tape, 0⟩).key, (Tp.card ⟨tape, 0⟩).status, (Tp.card ⟨tape, 0⟩).over, (Tp.card ⟨tape, 0⟩).lease, ⟨(maskN t 63 : Nat), (Tp.card ⟨tape, 0⟩).stamp.node, (Tp.card ⟨tape, 0⟩).stamp.n⟩, (Tp.card ⟨tape, 0⟩).gone⟩ rfl
    have hc := cmpSt_lt (a := (Tp.card ⟨tape, 0⟩).stamp) (b := ⟨(maskN t 63 : Nat), (Tp.card ⟨tape, 0⟩).stamp.node, (Tp.card ⟨tape, 0⟩).stamp.n⟩) (of_decide_eq_true h1)
    rw [if_pos hc.1] at k1
    rw [if_neg hc.2] at k2
    exact ⟨k1, k2⟩
  · obtain ⟨k1, k2⟩ := key (Tp.card ⟨tape, 0⟩) ⟨(Tp.card ⟨tape, 0⟩).key, (Tp.card ⟨tape, 0⟩).status, (Tp.card ⟨tape, 0⟩).over, (Tp.card ⟨tape, 0⟩).lease, ⟨(maskN t 63 : Nat), (Tp.card ⟨tape, 0⟩).stamp.node, (Tp.card ⟨tape, 0⟩).stamp.n⟩, (Tp.card ⟨tape, 0⟩).gone⟩ rfl
    have hc := cmpSt_lt (b := (Tp.card ⟨tape, 0⟩).stamp) (a := ⟨(maskN t 63 : Nat), (Tp.card ⟨tape, 0⟩).stamp.node, (Tp.card ⟨tape, 0⟩).stamp.n⟩) (of_decide_eq_true h2)
    rw [if_neg hc.2] at k1
    rw [if_pos hc.1] at k2
    exact ⟨k1, k2⟩
  · obtain ⟨k1, k2⟩ := key (Tp.card ⟨tape, 0⟩) ⟨(Tp.card ⟨tape, 0⟩).key, (Tp.card ⟨tape, 0⟩).status, (Tp.card ⟨tape, 0⟩).over, (Tp.card ⟨tape, 0⟩).lease, ⟨(maskN t 63 : Nat), (Tp.card ⟨tape, 0⟩).stamp.node, (Tp.card ⟨tape, 0⟩).stamp.n⟩, (Tp.card ⟨tape, 0⟩).gone⟩ rfl
    have e1 := of_decide_eq_false h1
    have e2 := of_decide_eq_false h2
    have e : (Tp.card ⟨tape, 0⟩).stamp.t = ((maskN t 63 : Nat) : Int) := by omega
    have hs : (⟨(maskN t 63 : Nat), (Tp.card ⟨tape, 0⟩).stamp.node, (Tp.card ⟨tape, 0⟩).stamp.n⟩ : Stamp) = (Tp.card ⟨tape, 0⟩).stamp := by rw [← e]
    have c1 : ¬ cmpSt (Tp.card ⟨tape, 0⟩).stamp ⟨(maskN t 63 : Nat), (Tp.card ⟨tape, 0⟩).stamp.node, (Tp.card ⟨tape, 0⟩).stamp.n⟩ < 0 := by rw [hs, cmpSt_self]; omega
    have c2 : ¬ cmpSt ⟨(maskN t 63 : Nat), (Tp.card ⟨tape, 0⟩).stamp.node, (Tp.card ⟨tape, 0⟩).stamp.n⟩ (Tp.card ⟨tape, 0⟩).stamp < 0 := by rw [hs, cmpSt_self]; omega
    exact ⟨k1.trans (if_neg c1), k2.trans (if_neg c2)⟩
end Go.Proofs.Ytpkgpldgoajphaa.AM
