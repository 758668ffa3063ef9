/-
  Plain laws: who is put out.
-/
import Derived.Test.YtpkgpldgoajphaaPl
import Derived.Test.YtpkgpldgoajphaaSk
set_option linter.unusedVariables false
set_option linter.unusedSimpArgs false
set_option maxRecDepth 100000
namespace Go.Proofs.Ytpkgpldgoajphaa.AM
open Go
theorem Tp.card_lease (t : Tp) : 1 ≤ t.card.lease ∧ t.card.lease ≤ 60 := by
  have := t.c2.next_lt 60 (by omega)
  simp only [Tp.card]
  omega
attribute [local irreducible] Tp.card Tp.cardT Tp.next Tp.step Tp.cards Tp.cardsT Tp.key Tp.keyT
theorem madeL_lease {tape : List Int} {most : Nat} {e : Entry} (h : e ∈ madeL tape most) : 1 ≤ e.card.lease ∧ e.card.lease ≤ 60 := by
  obtain ⟨t, ht⟩ := madeC_mem (madeL_mem h)
  rw [ht]; exact t.card_lease
theorem pickF (now late : Int) (l : List Entry) : ∀ (s : Nat × List Entry × Nat), (l.foldl (pickStep now late) s).2.1 = s.2.1 ++ l.filter (fun e => decide (lateE e now > late)) ∧ (l.foldl (pickStep now late) s).1 = s.1 + liveC l := by
  induction l with
  | nil => intro s; simp [liveC]
  | cons e l ih =>
    intro s
    obtain ⟨h1, h2⟩ := ih (pickStep now late s e)
    rw [List.foldl_cons, h1, h2]
    simp only [pickStep, List.filter_cons, liveC]
    constructor
    · cases h : decide (lateE e now > late) <;> simp
    · split <;> omega
theorem pickS_list (l : List Entry) (now late : Int) : (pickS l now late).2.1 = l.filter (fun e => decide (lateE e now > late)) := by
  have := (pickF now late l (0, [], 0)).1
  simpa [pickS] using this
theorem pickS_live (l : List Entry) (now late : Int) : (pickS l now late).1 = liveC l := by
  have := (pickF now late l (0, [], 0)).2
  simpa [pickS] using this
theorem pickL_perm (l : List Entry) (now late : Int) : List.Perm (pickL l now late) (l.filter (fun e => decide (lateE e now > max 0 late))) := by
  unfold pickL
  refine (insSort_perm0 (cmpL now) _).trans ?_
  rw [pickS_list]
theorem mostN_bound (n : Nat) (h : n ≤ 1048576) : mostN (n : Int) * 100 < n * 15 + 100 := by
  have h1 : max 0 (min (n : Int) 1048576) * 15 + 100 - 1 = ((n * 15 + 99 : Nat) : Int) := by omega
  have : mostN (n : Int) = (n * 15 + 99) / 100 := by
    unfold mostN
    rw [h1]
    rw [show (100 : Int) = ((100 : Nat) : Int) from rfl, ← Int.ofNat_tdiv]
    exact Int.toNat_natCast _
  rw [this]
  omega
/-- Entries of unlike keys. -/
def Unlike (l : List Entry) : Prop := List.Pairwise (fun a b : Entry => a.card.key ≠ b.card.key) l
theorem madeL_unlike (tape : List Int) (most : Nat) : Unlike (madeL tape most) := (madeL_sorted tape most).imp fun h => bk_ne h
theorem Unlike.inj {l : List Entry} (h : Unlike l) {a b : Entry} (ha : a ∈ l) (hb : b ∈ l) (e : a.card.key = b.card.key) : a = b := by
  obtain ⟨i, hi, rfl⟩ := mem_nth ha
  obtain ⟨j, hj, rfl⟩ := mem_nth hb
  have h' := pw_nth.1 h
  rcases Nat.lt_trichotomy i j with h1 | h1 | h1
  · exact absurd e (h' i j h1 hj)
  · rw [h1]
  · exact absurd e.symm (h' j i h1 hi)
theorem pickL_unlike {l : List Entry} (h : Unlike l) (now late : Int) : Unlike (pickL l now late) := by
  refine List.Perm.pairwise (pickL_perm l now late).symm ?_ fun h e => h e.symm
  exact List.Pairwise.filter _ h
theorem countK_nodup (key : Key) : ∀ (l : List Key), List.Pairwise (· ≠ ·) l → countK key l ≤ 1 ∧ (0 < countK key l → key ∈ l) ∧ (key ∈ l → countK key l = 1)
  | [], _ => by simp [countK]
  | x :: l, h => by
    have hp := List.pairwise_cons.1 h
    obtain ⟨h1, h2, h3⟩ := countK_nodup key l hp.2
    simp only [countK]
    by_cases he : Key.eqb x key = true
    · have hk := (Key.eqb_iff _ _).1 he
      subst hk
      have : countK x l = 0 := by
        rcases Nat.eq_zero_or_pos (countK x l) with h4 | h4
        · exact h4
        · exact absurd rfl (hp.1 x (h2 h4))
      rw [if_pos he, this]
      simp
    · rw [if_neg he]
      have hk : x ≠ key := fun e => he ((Key.eqb_iff _ _).2 e)
      refine ⟨by omega, fun h4 => by simp [h2 (by omega)], fun h4 => ?_⟩
      rcases List.mem_cons.1 h4 with rfl | h4
      · exact absurd rfl hk
      · rw [h3 h4]
theorem pickK_nodup {l : List Entry} (h : Unlike l) (now late : Int) : List.Pairwise (· ≠ ·) (pickK l now late) := by
  unfold pickK
  rw [List.pairwise_map]
  exact (pickL_unlike h now late).sublist (List.take_sublist _ _)
theorem pickK_mem {l : List Entry} {now late : Int} {k : Key} (h : k ∈ pickK l now late) : ∃ e ∈ l, e.card.key = k ∧ lateE e now > max 0 late := by
  unfold pickK at h
  obtain ⟨e, he, rfl⟩ := List.mem_map.1 h
  have h1 := (pickL_perm l now late).mem_iff.1 (List.mem_of_mem_take he)
  rw [List.mem_filter] at h1
  exact ⟨e, h1.1, rfl, by simpa using h1.2⟩
theorem pickK_len (l : List Entry) (now late : Int) (h : l.length ≤ 1048576) : (pickK l now late).length * 100 < liveC l * 15 + 100 ∧ (pickK l now late).length ≤ l.length := by
  have h1 := liveC_le l
  have h2 := mostN_bound (liveC l) (by omega)
  have h3 : (pickK l now late).length ≤ mostN (liveC l : Int) := by
    unfold pickK pickN
    rw [pickS_live]
    simp
    omega
  have h4 : (pickL l now late).length ≤ l.length := by
    rw [(pickL_perm l now late).length_eq]; exact List.length_filter_le _ _
  have h5 : (pickK l now late).length ≤ (pickL l now late).length := by unfold pickK; simp; omega
  constructor
  · omega
  · omega
theorem lateE_small {e : Entry} {n : Nat} {k : Int} (hn : n ≤ 1000000) (hs : 0 ≤ e.seen ∧ e.seen < 120) (hl : 1 ≤ e.card.lease ∧ e.card.lease ≤ 60) (hk : 0 ≤ k) (h : lateE e n > k) : e.card.gone = false ∧ (n : Int) - e.seen - e.card.lease > k := by
  unfold lateE at h
  split at h
  · omega
  · rename_i hg
    refine ⟨by simpa using hg, ?_⟩
    unfold held at h
    omega
theorem parts_ok (tape : List Int) (now late : Int) : ∀ i, i < (madeL tape 19).length → partsOk (maskN now 255) (maskN late 15) (pickK (madeL tape 19) (maskN now 255) (maskN late 15)) (nth (madeL tape 19) i) := by
  intro i hi
  have he := nth_mem hi
  generalize nth (madeL tape 19) i = e at he
  have hu := madeL_unlike tape 19
  obtain ⟨h1, h2, h3⟩ := countK_nodup e.card.key _ (pickK_nodup hu (maskN now 255) (maskN late 15))
  have hb1 := maskN_le now 255 (by omega)
  have hb2 := maskN_le late 15 (by omega)
  refine ⟨by simp; omega, fun h4 => ?_⟩
  have h5 : 0 < countK e.card.key (pickK (madeL tape 19) (maskN now 255) (maskN late 15)) := by
    have := beq_iff_eq.1 h4
    omega
  obtain ⟨x, hx, hk, hl⟩ := pickK_mem (h2 h5)
  have := hu.inj hx he hk
  subst this
  have hs := madeL_seen he
  have hle := madeL_lease he
  obtain ⟨g1, g2⟩ := lateE_small (by omega) hs hle (by omega) hl
  refine ⟨g1, ?_⟩
  rw [i64_id (by omega) (by omega), i64_id (by omega) (by omega)]
  simp
  omega
theorem parts_true (tape : List Int) (now late : Int) (hl : tape.length < 9223372036854775808) : ACalls Try.prog 9 [AV.sl .any 1 (List.map rI64 tape), AV.int .i64 now, AV.int .i64 late] [] (AV.bool true, []) := by
  have h := pickK_len (madeL tape 19) (maskN now 255) (maskN late 15) (by have := madeL_len tape 19; omega)
  have := madeL_len tape 19
  exact parts_spec tape now late hl (by omega) (parts_ok tape now late) h.1
end Go.Proofs.Ytpkgpldgoajphaa.AM
