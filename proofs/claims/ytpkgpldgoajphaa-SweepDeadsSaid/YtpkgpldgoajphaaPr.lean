/-
  Plain laws: with more let go by no more are put out; who is long gone.
-/
import Derived.Test.YtpkgpldgoajphaaPg
import Derived.Test.YtpkgpldgoajphaaPq
import Derived.Test.YtpkgpldgoajphaaSl
set_option linter.unusedVariables false
set_option linter.unusedSimpArgs false
set_option maxRecDepth 100000
namespace Go.Proofs.Ytpkgpldgoajphaa.AM
open Go
attribute [local irreducible] Tp.card Tp.cardT Tp.next Tp.step Tp.cards Tp.cardsT Tp.key Tp.keyT
def ltL (now : Int) (a b : Entry) : Bool := decide (cmpL now a b < 0)
theorem cmpI_neg (a b : Int) : cmpI a b < 0 ↔ a < b := by unfold cmpI; split <;> (try split) <;> omega
theorem cmpI_zero (a b : Int) : cmpI a b = 0 ↔ a = b := by unfold cmpI; split <;> (try split) <;> omega
theorem orderK_neg (a b : Key) : orderK a b < 0 ↔ beforeK a b = true := by
  unfold orderK
  rw [less_before, less_before]
  cases beforeK a b <;> cases beforeK b a <;> simp
theorem ltL_iff (now : Int) (a b : Entry) : ltL now a b = true ↔ lateE b now < lateE a now ∨ (lateE b now = lateE a now ∧ beforeK a.card.key b.card.key = true) := by
  unfold ltL cmpL
  rw [decide_eq_true_eq]
  split
  · rename_i h
    rw [cmpI_zero] at h
    rw [orderK_neg]
    constructor
    · intro h2; exact .inr ⟨h, h2⟩
    · rintro (h2 | h2)
      · omega
      · exact h2.2
  · rename_i h
    rw [cmpI_zero] at h
    rw [cmpI_neg]
    constructor
    · intro h2; exact .inl h2
    · rintro (h2 | h2)
      · exact h2
      · exact absurd h2.1 h
theorem ltL_false (now : Int) (a b : Entry) : ltL now a b = false ↔ lateE a now < lateE b now ∨ (lateE a now = lateE b now ∧ beforeK a.card.key b.card.key = false) := by
  rw [← Bool.not_eq_true, ltL_iff]
  constructor
  · intro h
    rcases Nat.lt_or_ge 0 1 with _ | _
    · by_cases h1 : lateE a now < lateE b now
      · exact .inl h1
      · refine .inr ⟨?_, ?_⟩
        · have : ¬ lateE b now < lateE a now := fun x => h (.inl x)
          omega
        · cases hb : beforeK a.card.key b.card.key with
          | false => rfl
          | true =>
            have : ¬ lateE b now < lateE a now := fun x => h (.inl x)
            exact absurd (.inr ⟨by omega, hb⟩) h
    · omega
  · rintro (h | h) (k | k)
    · omega
    · omega
    · omega
    · rw [h.2] at k; exact absurd k.2 (by simp)
theorem ltL_weak (now : Int) : Weak (ltL now) := by
  refine ⟨fun a b h => ?_, fun a b c h k => ?_⟩
  · rw [ltL_iff] at h
    rw [ltL_false]
    rcases h with h | h
    · exact .inl h
    · exact .inr ⟨h.1, bk_asymm h.2⟩
  · rw [ltL_false] at h k ⊢
    rcases h with h | h <;> rcases k with k | k
    · exact .inl (by omega)
    · exact .inl (by omega)
    · exact .inl (by omega)
    · exact .inr ⟨by omega, bk_le_trans h.2 k.2⟩
theorem pickL_sortG (l : List Entry) (now late : Int) : pickL l now late = sortG (ltL now) (l.filter fun e => decide (lateE e now > max 0 late)) := by
  unfold pickL
  rw [insSort_sortG, pickS_list]
  rfl
theorem ltL_tri {now : Int} {l : List Entry} (hu : Unlike l) : ∀ a ∈ l, ∀ b ∈ l, ltL now a b = false → ltL now b a = false → a = b := by
  intro a ha b hb h k
  rw [ltL_false] at h k
  have h1 : lateE a now = lateE b now := by omega
  rcases h with h | h
  · omega
  · rcases k with k | k
    · omega
    · exact hu.inj ha hb (bk_tri h.2 k.2)
theorem Unlike.filter {l : List Entry} (h : Unlike l) (p : Entry → Bool) : Unlike (l.filter p) := List.Pairwise.filter _ h
/-- With more let go by: the first of them. -/
theorem pickL_more {l : List Entry} (hu : Unlike l) (now k k' : Int) (h : max 0 k ≤ max 0 k') : ∃ rest, pickL l now k = pickL l now k' ++ rest := by
  rw [pickL_sortG, pickL_sortG]
  generalize max 0 k = a at *
  generalize max 0 k' = b at *
  refine ⟨sortG (ltL now) ((l.filter fun e => decide (lateE e now > a)).filter fun e => !decide (lateE e now > b)), ?_⟩
  have hF : (l.filter fun e => decide (lateE e now > a)).filter (fun e => decide (lateE e now > b)) = l.filter fun e => decide (lateE e now > b) := by
    rw [List.filter_filter]
    congr 1
    funext e
    by_cases h1 : lateE e now > b
    · have : lateE e now > a := by omega
      simp [h1, this]
    · simp [h1]
  have hp := List.filter_append_perm (fun e => decide (lateE e now > b)) (l.filter fun e => decide (lateE e now > a))
  rw [hF] at hp
  refine sorted_unique (lt := ltL now) _ _ (sortG_sorted (ltL_weak now) _) ?_ ?_ ?_
  · refine List.pairwise_append.2 ⟨sortG_sorted (ltL_weak now) _, sortG_sorted (ltL_weak now) _, fun x hx y hy => ?_⟩
    have hx := (sortG_perm _ _).mem_iff.1 hx
    have hy := (sortG_perm _ _).mem_iff.1 hy
    rw [List.mem_filter] at hx hy
    rw [ltL_false]
    have h1 := of_decide_eq_true hx.2
    have h2 : ¬ lateE y now > b := by simpa using hy.2
    exact .inl (by omega)
  · refine (sortG_perm _ _).trans (hp.symm.trans ?_)
    exact (sortG_perm _ _).symm.append (sortG_perm _ _).symm
  · intro x hx y hy
    have hx := (sortG_perm _ _).mem_iff.1 hx
    have hy := (sortG_perm _ _).mem_iff.1 hy
    exact ltL_tri (hu.filter _) x hx y hy
theorem pickN_eq (l : List Entry) (now late : Int) : pickN l now late = min (pickL l now late).length (mostN (liveC l : Int)) := by unfold pickN; rw [pickS_live]
theorem pickK_length (l : List Entry) (now late : Int) : (pickK l now late).length = pickN l now late := by
  have : pickN l now late ≤ (pickL l now late).length := by rw [pickN_eq]; omega
  unfold pickK; simp; omega
theorem pickK_more {l : List Entry} (hu : Unlike l) (now k k' : Int) (h : max 0 k ≤ max 0 k') : (pickK l now k').length ≤ (pickK l now k).length ∧ ∀ i, i < (pickK l now k').length → nth (pickK l now k) i = nth (pickK l now k') i := by
  obtain ⟨rest, hr⟩ := pickL_more hu now k k' h
  have hl : (pickL l now k).length = (pickL l now k').length + rest.length := by rw [hr]; simp
  have hn : pickN l now k' ≤ pickN l now k := by rw [pickN_eq, pickN_eq]; omega
  refine ⟨by rw [pickK_length, pickK_length]; exact hn, fun i hi => ?_⟩
  rw [pickK_length] at hi
  have h1 : i < (pickL l now k').length := by rw [pickN_eq] at hi; omega
  have e1 : ∀ k, i < pickN l now k → i < (pickL l now k).length → (pickK l now k)[i]? = some (nth (pickL l now k) i).card.key := by
    intro k h3 h4
    unfold pickK
    rw [List.getElem?_map, List.getElem?_take, if_pos h3, nth_get h4]
    rfl
  rw [nth_eq (e1 k (by omega) (by omega)), nth_eq (e1 k' hi h1), hr, nth_append_left h1]
theorem lateE_mono (e : Entry) {n m : Int} (h : n ≤ m) : lateE e n ≤ lateE e m := by
  unfold lateE held
  split
  · omega
  · omega
theorem pickK_later (l : List Entry) {n m : Int} (h : n ≤ m) (k : Int) : (pickK l n k).length ≤ (pickK l m k).length := by
  rw [pickK_length, pickK_length, pickN_eq, pickN_eq]
  have : (pickL l n k).length ≤ (pickL l m k).length := by
    rw [(pickL_perm l n k).length_eq, (pickL_perm l m k).length_eq, ← List.countP_eq_length_filter, ← List.countP_eq_length_filter]
    refine List.countP_mono_left fun e _ he => ?_
    have := lateE_mono e h
    simp at he ⊢
    omega
  omega
theorem mostN_val (n : Nat) (h : n ≤ 1048576) : mostN (n : Int) = (n * 15 + 99) / 100 := by
  have h1 : max 0 (min (n : Int) 1048576) * 15 + 100 - 1 = ((n * 15 + 99 : Nat) : Int) := by omega
  unfold mostN
  rw [h1]
  rw [show (100 : Int) = ((100 : Nat) : Int) from rfl, ← Int.ofNat_tdiv]
  exact Int.toNat_natCast _
theorem leasts_true (tape : List Int) (now late more : Int) (hl : tape.length < 9223372036854775808) : ACalls Try.prog 10 [AV.sl .any 1 (List.map rI64 tape), AV.int .i64 now, AV.int .i64 late, AV.int .i64 more] [] (AV.bool true, []) := by
  have hu := madeL_unlike tape 19
  have hm := madeL_len tape 19
  have h1 := pickK_more hu (maskN now 255) (maskN late 15) ((maskN late 15 + maskN more 31 : Nat) : Int) (by omega)
  have h2 := pickK_len (madeL tape 19) (maskN now 255) (maskN late 15) (by omega)
  refine leasts_spec tape now late more hl h1.1 (by omega) (pickK_later _ (by omega) _) (fun i hi hb => ?_) ?_
  · have h3 := h1.2 i hi
    have h4 := hb.2
    rw [h3, (Key.eqb_iff _ _).2 rfl] at h4
    simp at h4
  · have h3 := liveC_le (madeL tape 19)
    rw [pickK_length, pickN_eq, mostN_val _ (by omega), mostN_val _ (by omega)]
    omega

/-! ### who is long gone -/
theorem deadF (now : Int) (l : List Entry) : ∀ (s : List Entry × Nat), (l.foldl (deadStep now) s).1 = s.1 ++ l.filter (deadB now) := by
  induction l with
  | nil => intro s; simp
  | cons e l ih =>
    intro s
    rw [List.foldl_cons, ih]
    simp only [deadStep, List.filter_cons]
    cases deadB now e <;> simp
theorem deadK_eq (l : List Entry) (now : Int) : deadK l now = (l.filter (deadB now)).map (·.card.key) := by
  unfold deadK deadS
  rw [deadF]; simp
theorem deadB_small {e : Entry} {n : Nat} (hn : n ≤ 1000000) (hs : 0 ≤ e.seen ∧ e.seen < 120) : deadB n e = if e.card.gone = true then decide ((IntKind.i64.wrap ((n : Int) - e.seen)) > 400) else false := by
  unfold deadB agoE held
  rw [i64_id (by omega) (by omega)]
  split
  · congr 1
    apply propext
    omega
  · rfl
theorem deads_true (tape : List Int) (now : Int) (hl : tape.length < 9223372036854775808) : ACalls Try.prog 11 [AV.sl .any 1 (List.map rI64 tape), AV.int .i64 now] [] (AV.bool true, []) := by
  have hu := madeL_unlike tape 19
  have hm := madeL_len tape 19
  have hn := maskN_le now 1023 (by omega)
  have h2 := pickK_len (madeL tape 19) (maskN now 1023) 0 (by omega)
  have hs : ∀ e ∈ madeL tape 19, 0 ≤ e.seen ∧ e.seen < 120 := fun e he => madeL_seen he
  have key := deads_spec tape now hl
  generalize madeL tape 19 = l at *
  generalize maskN now 1023 = n at *
  have hD := deadK_eq l n
  have hDl : (deadK l n).length ≤ l.length := by rw [hD, List.length_map]; exact List.length_filter_le _ _
  have hb : ∀ i, i < l.length → deadB n (nth l i) = if (nth l i).card.gone = true then decide ((IntKind.i64.wrap ((n : Int) - (nth l i).seen)) > 400) else false := fun i hi => deadB_small (by omega) (hs _ (nth_mem hi))
  have hit : ∀ (d o : List Key) (i : Nat), i ≤ l.length → iter (deads1_f l n d o) i 0 0 = ((l.take i).filter (deadB n)).length := by
    intro d o i
    induction i with
    | zero => intro _; rfl
    | succ i ih =>
      intro hi
      rw [iter_succ, ih (by omega), List.take_add_one, nth_get (by omega)]
      simp only [deads1_f, Option.toList_some, List.filter_append, List.length_append, List.filter_cons, List.filter_nil]
      rw [hb i (by omega)]
      by_cases h3 : (nth l i).card.gone = true
      · by_cases h4 : decide ((IntKind.i64.wrap ((n : Int) - (nth l i).seen)) > 400) = true
        · simp only [h3, h4, if_true]; rfl
        · simp only [h3, h4, if_true, Bool.false_eq_true, if_false]; rfl
      · simp only [h3, Bool.false_eq_true, if_false]; rfl
  have hat : ∀ i, i < l.length → deadB n (nth l i) = true → (deadK l n)[((l.take i).filter (deadB n)).length]? = some (nth l i).card.key := by
    intro i hi h3
    rw [hD]
    have hsp : l = l.take i ++ nth l i :: l.drop (i + 1) := by rw [← drop_nth hi, List.take_append_drop]
    conv => lhs; arg 1; rw [hsp]
    rw [List.filter_append, List.filter_cons, h3]
    simp
  refine key (by omega) (by omega) (fun i hi hbad => ?_) (fun i hi j hj hbad => ?_) ?_
  · rw [hit _ _ i (by omega)] at hbad
    have hbi := hb i hi
    have h3 : deadB n (nth l i) = true := by
      rcases hbad with h | h
      · rw [hbi, if_pos h.2.1]; exact h.2.2.1
      · rw [hbi, if_pos h.2.1]; exact h.2.2.1
    have h4 := hat i hi h3
    have h5 : ((l.take i).filter (deadB n)).length < (deadK l n).length := by
      rcases Nat.lt_or_ge ((l.take i).filter (deadB n)).length (deadK l n).length with h | h
      · exact h
      · rw [List.getElem?_eq_none h] at h4; simp at h4
    rcases hbad with h | h
    · have := of_decide_eq_true h.2.2.2
      omega
    · have h6 := h.2.2.2.2
      rw [nth_eq h4, (Key.eqb_iff _ _).2 rfl] at h6
      simp at h6
  · have h3 := (Key.eqb_iff _ _).1 hbad.2
    obtain ⟨e, he, hk, hlt⟩ := pickK_mem (nth_mem hi)
    have h4 := nth_mem hj
    rw [hD] at h4
    obtain ⟨x, hx, hxk⟩ := List.mem_map.1 h4
    rw [List.mem_filter] at hx
    rw [← hD] at hxk
    have := hu.inj he hx.1 (by rw [hk, hxk]; exact h3)
    subst this
    have h5 : e.card.gone = true := by
      have := hx.2
      unfold deadB at this
      split at this
      · assumption
      · simp at this
    unfold lateE at hlt
    rw [if_pos h5] at hlt
    omega
  · rw [hit _ _ _ (Nat.le_refl _), List.take_of_length_le (Nat.le_refl _), hD, List.length_map]
end Go.Proofs.Ytpkgpldgoajphaa.AM
