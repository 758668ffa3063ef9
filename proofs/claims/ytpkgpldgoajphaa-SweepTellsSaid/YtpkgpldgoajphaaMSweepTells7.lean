/-
  Texts of this claim, part 7 of 7: an abstract machine over the model; what functions come to; plain laws.
-/
import Derived.Test.YtpkgpldgoajphaaMSweepTells6
import Derived.Below
import Derived.Carry
import Derived.ChangeSlices
import Derived.Deep.Slices
set_option maxRecDepth 100000
set_option linter.unusedVariables false
set_option linter.unusedSimpArgs false
namespace Go.Proofs.Ytpkgpldgoajphaa.AM
open Go Go.Proofs.Ytpkgpldgoajphaa
attribute [local irreducible] ACalls funT codeT codeQ LoopTo
attribute [local irreducible] Tp.card Tp.cardT Tp.next Tp.step Tp.cards Tp.cardsT Tp.key Tp.keyT sink insSort pickS pickL pickN pickK mostN cmpL lateE orderK sortK insK posK beforeK onceStep onceS onceK madeE madeT madeT0 madeC madeL deadS deadK sortP lastS lastK cmpK someK insE posE earlK liveN rpickK
def ltM (now : Int) (a b : Entry) : Bool := decide (cmpL now a b < 0)
theorem cmpI_neg (a b : Int) : cmpI a b < 0 ↔ a < b := by unfold cmpI; split <;> (try split) <;> omega
theorem cmpI_zero (a b : Int) : cmpI a b = 0 ↔ a = b := by unfold cmpI; split <;> (try split) <;> omega
theorem orderK_neg (a b : Key) : orderK a b < 0 ↔ beforeK a b = true := by
  unfold orderK
  rw [less_before, less_before]
  cases beforeK a b <;> cases beforeK b a <;> simp
theorem ltM_iff (now : Int) (a b : Entry) : ltM now a b = true ↔ lateE b now < lateE a now ∨ (lateE b now = lateE a now ∧ beforeK a.card.key b.card.key = true) := by
  unfold ltM cmpL
  rw [decide_eq_true_eq]
  split
  · rename_i h
    rw [cmpI_zero] at h
    rw [orderK_neg]
    constructor
    · intro h2; exact .inr ⟨h, h2⟩
    · rintro (h2 | h2)
      · omega
      · exact h2.2
  · rename_i h
    rw [cmpI_zero] at h
    rw [cmpI_neg]
    constructor
    · intro h2; exact .inl h2
    · rintro (h2 | h2)
      · exact h2
      · exact absurd h2.1 h
theorem ltM_false (now : Int) (a b : Entry) : ltM now a b = false ↔ lateE a now < lateE b now ∨ (lateE a now = lateE b now ∧ beforeK a.card.key b.card.key = false) := by
  rw [← Bool.not_eq_true, ltM_iff]
  constructor
  · intro h
    rcases Nat.lt_or_ge 0 1 with _ | _
    · by_cases h1 : lateE a now < lateE b now
      · exact .inl h1
      · refine .inr ⟨?_, ?_⟩
        · have : ¬ lateE b now < lateE a now := fun x => h (.inl x)
          omega
        · cases hb : beforeK a.card.key b.card.key with
          | false => rfl
          | true =>
            have : ¬ lateE b now < lateE a now := fun x => h (.inl x)
            exact absurd (.inr ⟨by omega, hb⟩) h
    · omega
  · rintro (h | h) (k | k)
    · omega
    · omega
    · omega
    · rw [h.2] at k; exact absurd k.2 (by simp)
theorem ltM_weak (now : Int) : Weak (ltM now) := by
  refine ⟨fun a b h => ?_, fun a b c h k => ?_⟩
  · rw [ltM_iff] at h
    rw [ltM_false]
    rcases h with h | h
    · exact .inl h
    · exact .inr ⟨h.1, bk_asymm h.2⟩
  · rw [ltM_false] at h k ⊢
    rcases h with h | h <;> rcases k with k | k
    · exact .inl (by omega)
    · exact .inl (by omega)
    · exact .inl (by omega)
    · exact .inr ⟨by omega, bk_le_trans h.2 k.2⟩
set_option maxRecDepth 100000 in
theorem pickW_spec (l : List Entry) (now late : Int) (hl : l.length < 1000) : ACalls Try.prog 41 [(AV.sl .any 10 (List.map Entry.row l)), (AV.int .i64 now), (AV.int .i64 late)] ([] : Heap) ((AV.sl .any 2 (List.map Key.row (pickK l now late))), ([] : Heap)) := by
  have hp := pickS_len l now (max 0 late)
  have hpl := insSort_len (cmpL now) 0 ((pickS l now (max 0 late)).2.1.length - 1) 1 (pickS l now (max 0 late)).2.1
  refine spec (fn := Try.f41) (ann := pick_ann) (t := (.reg [] [] [] (.reg [(1, ((AV.int .i64 (max 0 late)), ([] : Heap)))] [] [] (.reg [] [] [] (.reg [] [] [] (.reg [(1, ((AV.int .i64 ((l.length : Nat) : Int)), ([⟨0, 10, (List.map Entry.row []), none⟩] : Heap)))] [] [] (.loop (.exit 0) (mkF 46 [(2, (AV.int .i64 (max 0 late))), (4, (AV.ref [(AV.int .i64 now)] 0)), (7, (AV.int .i64 (((pickS l now (max 0 late)).1 : Nat) : Int))), (8, (AV.osl 0 ((pickS l now (max 0 late)).2.2) 10 0 ((pickS l now (max 0 late)).2.1.length))), (13, (AV.sl .any 10 (List.map Entry.row l))), (14, (AV.int .i64 ((l.length : Nat) : Int))), (15, (AV.int .i64 ((l.length : Nat) : Int)))]) ([⟨((pickS l now (max 0 late)).2.2), 10, (List.map Entry.row ((pickS l now (max 0 late)).2.1)), none⟩] : Heap) (.reg [(2, ((AV.tup []), ([⟨((pickS l now (max 0 late)).2.2), 10, (List.map Entry.row (insSort (cmpL now) 0 (((pickS l now (max 0 late)).2.1.length) - 1) 1 ((pickS l now (max 0 late)).2.1))), none⟩] : Heap)))] [] [(8, (List.map Entry.row (insSort (cmpL now) 0 (((pickS l now (max 0 late)).2.1.length) - 1) 1 ((pickS l now (max 0 late)).2.1))))] (.reg [(2, ((AV.int .i64 (((insSort (cmpL now) 0 (((pickS l now (max 0 late)).2.1.length) - 1) 1 ((pickS l now (max 0 late)).2.1)).length : Nat) : Int)), ([⟨((pickS l now (max 0 late)).2.2 + 1), 10, [], none⟩] : Heap))), (4, ((AV.int .i64 ((mostN (((pickS l now (max 0 late)).1 : Nat) : Int) : Nat) : Int)), ([⟨((pickS l now (max 0 late)).2.2 + 1), 10, [], none⟩] : Heap))), (5, ((AV.int .i64 ((min (insSort (cmpL now) 0 (((pickS l now (max 0 late)).2.1.length) - 1) 1 ((pickS l now (max 0 late)).2.1)).length (mostN (((pickS l now (max 0 late)).1 : Nat) : Int)) : Nat) : Int)), ([⟨((pickS l now (max 0 late)).2.2 + 1), 10, [], none⟩] : Heap))), (6, ((AV.sl .any 10 (List.map Entry.row ((insSort (cmpL now) 0 (((pickS l now (max 0 late)).2.1.length) - 1) 1 ((pickS l now (max 0 late)).2.1)).take (min (insSort (cmpL now) 0 (((pickS l now (max 0 late)).2.1.length) - 1) 1 ((pickS l now (max 0 late)).2.1)).length (mostN (((pickS l now (max 0 late)).1 : Nat) : Int)))))), ([⟨((pickS l now (max 0 late)).2.2 + 1), 10, [], none⟩] : Heap))), (7, ((AV.sl .any 2 (List.map Key.row (((insSort (cmpL now) 0 (((pickS l now (max 0 late)).2.1.length) - 1) 1 ((pickS l now (max 0 late)).2.1)).take (min (insSort (cmpL now) 0 (((pickS l now (max 0 late)).2.1.length) - 1) 1 ((pickS l now (max 0 late)).2.1)).length (mostN (((pickS l now (max 0 late)).1 : Nat) : Int)))).map (·.card.key)))), ([⟨((pickS l now (max 0 late)).2.2 + 1), 10, [], none⟩] : Heap)))] [] [] .nil))))))))) (Nat.le_of_ble_eq_true (by kernel_rfl)) ⟨Try.func41, by kernel_rfl, by kernel_rfl, by kernel_rfl⟩ ?_
  refine Eq.mp (by kernel_rfl : ((Yes (.int .i64 (if late > 0 then late else 0)) ([] : Heap) (AV.int .i64 (max 0 late))) ∧ (Yes (.int .i64 ((List.length (List.map Entry.row l) : Nat) : Int)) ([⟨0, 10, (List.map Entry.row []), none⟩] : Heap) (AV.int .i64 ((l.length : Nat) : Int))) ∧ (LoopTo (codeQ Try.prog (X pick_ann) (loopOf Try.f41 0)) (some [2, 4, 7, 8, 13, 14, 15]) (some [2, 4, 7, 8, 13, 14, 15]) (mkF 46 [(2, (AV.int .i64 (max 0 late))), (4, (AV.ref [(AV.int .i64 now)] 0)), (7, (AV.int .i64 0)), (8, (AV.osl 0 0 10 0 0)), (13, (AV.sl .any 10 (List.map Entry.row l))), (14, (AV.int .i64 ((l.length : Nat) : Int))), (15, (AV.int .i64 0))]) ([⟨0, 10, (List.map Entry.row []), none⟩] : Heap) (.exit 0) (mkF 46 [(2, (AV.int .i64 (max 0 late))), (4, (AV.ref [(AV.int .i64 now)] 0)), (7, (AV.int .i64 (((pickS l now (max 0 late)).1 : Nat) : Int))), (8, (AV.osl 0 ((pickS l now (max 0 late)).2.2) 10 0 ((pickS l now (max 0 late)).2.1.length))), (13, (AV.sl .any 10 (List.map Entry.row l))), (14, (AV.int .i64 ((l.length : Nat) : Int))), (15, (AV.int .i64 ((l.length : Nat) : Int)))]) ([⟨((pickS l now (max 0 late)).2.2), 10, (List.map Entry.row ((pickS l now (max 0 late)).2.1)), none⟩] : Heap)) ∧ (ACalls Try.prog 75 [(AV.osl 0 ((pickS l now (max 0 late)).2.2) 10 0 ((pickS l now (max 0 late)).2.1.length)), (AV.func 76 [(AV.ref [(AV.int .i64 now)] 0)])] ([⟨((pickS l now (max 0 late)).2.2), 10, (List.map Entry.row ((pickS l now (max 0 late)).2.1)), none⟩] : Heap) ((AV.tup []), ([⟨((pickS l now (max 0 late)).2.2), 10, (List.map Entry.row (insSort (cmpL now) 0 (((pickS l now (max 0 late)).2.1.length) - 1) 1 ((pickS l now (max 0 late)).2.1))), none⟩] : Heap))) ∧ (rowsIn ([⟨((pickS l now (max 0 late)).2.2), 10, (List.map Entry.row (insSort (cmpL now) 0 (((pickS l now (max 0 late)).2.1.length) - 1) 1 ((pickS l now (max 0 late)).2.1))), none⟩] : Heap) 10 (AV.osl 0 ((pickS l now (max 0 late)).2.2) 10 0 ((pickS l now (max 0 late)).2.1.length)) = some (List.map Entry.row (insSort (cmpL now) 0 (((pickS l now (max 0 late)).2.1.length) - 1) 1 ((pickS l now (max 0 late)).2.1))) ∧ AV.bddss 0 (List.map Entry.row (insSort (cmpL now) 0 (((pickS l now (max 0 late)).2.1.length) - 1) 1 ((pickS l now (max 0 late)).2.1))) = true) ∧ (Yes (.int .i64 ((List.length (List.map Entry.row (insSort (cmpL now) 0 (((pickS l now (max 0 late)).2.1.length) - 1) 1 ((pickS l now (max 0 late)).2.1))) : Nat) : Int)) ([⟨((pickS l now (max 0 late)).2.2 + 1), 10, [], none⟩] : Heap) (AV.int .i64 (((insSort (cmpL now) 0 (((pickS l now (max 0 late)).2.1.length) - 1) 1 ((pickS l now (max 0 late)).2.1)).length : Nat) : Int))) ∧ (ACalls Try.prog 35 [(AV.int .i64 (((pickS l now (max 0 late)).1 : Nat) : Int))] ([⟨((pickS l now (max 0 late)).2.2 + 1), 10, [], none⟩] : Heap) ((AV.int .i64 ((mostN (((pickS l now (max 0 late)).1 : Nat) : Int) : Nat) : Int)), ([⟨((pickS l now (max 0 late)).2.2 + 1), 10, [], none⟩] : Heap))) ∧ (Yes (.int .i64 (if ((mostN (((pickS l now (max 0 late)).1 : Nat) : Int) : Nat) : Int) < (((insSort (cmpL now) 0 (((pickS l now (max 0 late)).2.1.length) - 1) 1 ((pickS l now (max 0 late)).2.1)).length : Nat) : Int) then ((mostN (((pickS l now (max 0 late)).1 : Nat) : Int) : Nat) : Int) else (((insSort (cmpL now) 0 (((pickS l now (max 0 late)).2.1.length) - 1) 1 ((pickS l now (max 0 late)).2.1)).length : Nat) : Int))) ([⟨((pickS l now (max 0 late)).2.2 + 1), 10, [], none⟩] : Heap) (AV.int .i64 ((min (insSort (cmpL now) 0 (((pickS l now (max 0 late)).2.1.length) - 1) 1 ((pickS l now (max 0 late)).2.1)).length (mostN (((pickS l now (max 0 late)).1 : Nat) : Int)) : Nat) : Int))) ∧ (Option.map (fun a => (a, ([⟨((pickS l now (max 0 late)).2.2 + 1), 10, [], none⟩] : Heap))) (if 10 = 10 ∨ ((List.map Entry.row (insSort (cmpL now) 0 (((pickS l now (max 0 late)).2.1.length) - 1) 1 ((pickS l now (max 0 late)).2.1)))).isEmpty = true then (bounds 0 ((min (insSort (cmpL now) 0 (((pickS l now (max 0 late)).2.1.length) - 1) 1 ((pickS l now (max 0 late)).2.1)).length (mostN (((pickS l now (max 0 late)).1 : Nat) : Int)) : Nat) : Int) (List.length (List.map Entry.row (insSort (cmpL now) 0 (((pickS l now (max 0 late)).2.1.length) - 1) 1 ((pickS l now (max 0 late)).2.1))))).map fun p => AV.sl .any 10 ((List.take p.2 (List.map Entry.row (insSort (cmpL now) 0 (((pickS l now (max 0 late)).2.1.length) - 1) 1 ((pickS l now (max 0 late)).2.1)))).drop p.1) else none) = some ((AV.sl .any 10 (List.map Entry.row ((insSort (cmpL now) 0 (((pickS l now (max 0 late)).2.1.length) - 1) 1 ((pickS l now (max 0 late)).2.1)).take (min (insSort (cmpL now) 0 (((pickS l now (max 0 late)).2.1.length) - 1) 1 ((pickS l now (max 0 late)).2.1)).length (mostN (((pickS l now (max 0 late)).1 : Nat) : Int)))))), ([⟨((pickS l now (max 0 late)).2.2 + 1), 10, [], none⟩] : Heap))) ∧ (ACalls Try.prog 80 [(AV.sl .any 10 (List.map Entry.row ((insSort (cmpL now) 0 (((pickS l now (max 0 late)).2.1.length) - 1) 1 ((pickS l now (max 0 late)).2.1)).take (min (insSort (cmpL now) 0 (((pickS l now (max 0 late)).2.1.length) - 1) 1 ((pickS l now (max 0 late)).2.1)).length (mostN (((pickS l now (max 0 late)).1 : Nat) : Int))))))] ([⟨((pickS l now (max 0 late)).2.2 + 1), 10, [], none⟩] : Heap) ((AV.sl .any 2 (List.map Key.row (((insSort (cmpL now) 0 (((pickS l now (max 0 late)).2.1.length) - 1) 1 ((pickS l now (max 0 late)).2.1)).take (min (insSort (cmpL now) 0 (((pickS l now (max 0 late)).2.1.length) - 1) 1 ((pickS l now (max 0 late)).2.1)).length (mostN (((pickS l now (max 0 late)).1 : Nat) : Int)))).map (·.card.key)))), ([⟨((pickS l now (max 0 late)).2.2 + 1), 10, [], none⟩] : Heap))) ∧ (AV.bdd 0 (AV.sl .any 2 (List.map Key.row (((insSort (cmpL now) 0 (((pickS l now (max 0 late)).2.1.length) - 1) 1 ((pickS l now (max 0 late)).2.1)).take (min (insSort (cmpL now) 0 (((pickS l now (max 0 late)).2.1.length) - 1) 1 ((pickS l now (max 0 late)).2.1)).length (mostN (((pickS l now (max 0 late)).1 : Nat) : Int)))).map (·.card.key)))) = true ∧ obsB 0 ([] : Heap) = true) ∧ ((AV.sl .any 2 (List.map Key.row (((insSort (cmpL now) 0 (((pickS l now (max 0 late)).2.1.length) - 1) 1 ((pickS l now (max 0 late)).2.1)).take (min (insSort (cmpL now) 0 (((pickS l now (max 0 late)).2.1.length) - 1) 1 ((pickS l now (max 0 late)).2.1)).length (mostN (((pickS l now (max 0 late)).1 : Nat) : Int)))).map (·.card.key)))), ([] : Heap)) = ((AV.sl .any 2 (List.map Key.row (pickK l now late))), ([] : Heap))) = _) ?_
  refine And.intro (Yes.int (by split <;> omega)) ?_
  refine And.intro (Yes.len _ _ _) ?_
  refine And.intro ((pick_loop l now (max 0 late) (List.length l) 0 0 0 0 [] _ (by omega) rfl (by omega) (by omega) (by omega) (by unfold pickS; rfl))) ?_
  refine And.intro ((sortEW_at (cmpL now) 76 ([(AV.ref [(AV.int .i64 now)] 0)]) ((pickS l now (max 0 late)).2.1.length) ((pickS l now (max 0 late)).2.2) ((pickS l now (max 0 late)).2.1) (fun x y H => pickcmp_at now x y H) (rfl) (ltM_weak now) (by first | omega | assumption | (simp; done) | (simp; omega) | (simp_all; done) | (simp_all; omega)) (by first | omega | assumption | (simp; done) | (simp; omega) | (simp_all; done) | (simp_all; omega)) ([] : Heap)).pre ⟨AV.wk_refl_any _, AV.wk_refl_any _, trivial⟩) ?_
  refine And.intro (And.intro (rowsIn_all (room := none) (by kernel_rfl) (by first | omega | (simp [insSort_len]; done) | (simp [insSort_len]; omega))) (Entry.rows_bdd _ _)) ?_
  refine And.intro (Yes.len _ _ _) ?_
  refine And.intro (most_at (((pickS l now (max 0 late)).1 : Nat) : Int)  ([⟨((pickS l now (max 0 late)).2.2 + 1), 10, [], none⟩] : Heap)) ?_
  refine And.intro (Yes.int (by split <;> omega)) ?_
  refine And.intro (slice_sl (l := 0) (h := min (insSort (cmpL now) 0 (((pickS l now (max 0 late)).2.1.length) - 1) 1 ((pickS l now (max 0 late)).2.1)).length (mostN (((pickS l now (max 0 late)).1 : Nat) : Int))) (by first | omega | (simp; done) | (simp; omega)) (by first | omega | (simp; done) | (simp; omega)) (by first | omega | (simp; done) | (simp; omega)) (by first | omega | (simp; done) | (simp; omega)) (by simp [List.map_take, List.map_drop, List.take_of_length_le])) ?_
  refine And.intro (keysE_at ((insSort (cmpL now) 0 (((pickS l now (max 0 late)).2.1.length) - 1) 1 ((pickS l now (max 0 late)).2.1)).take (min (insSort (cmpL now) 0 (((pickS l now (max 0 late)).2.1.length) - 1) 1 ((pickS l now (max 0 late)).2.1)).length (mostN (((pickS l now (max 0 late)).1 : Nat) : Int)))) (by first | omega | assumption | (simp; done) | (simp; omega) | (simp_all; done) | (simp_all; omega)) ([⟨((pickS l now (max 0 late)).2.2 + 1), 10, [], none⟩] : Heap)) ?_
  refine And.intro (by first | (simp [obsB, AV.bddss, AV.bdds, AV.bdd]; done) | (simp [obsB, AV.bddss, AV.bdds, AV.bdd, -List.map_append]; done) | simp [obsB, AV.bddss, AV.bdds, AV.bdd, -List.map_append, -List.map_set, -List.map_take, -List.map_drop, -List.map_cons, -List.map_map]) ?_
  simp only [pickK, pickN, pickL, insSort_len]
theorem pickW_at (l : List Entry) (now late : Int) (hl : l.length < 1000) (H : Heap) : ACalls Try.prog 41 [(AV.sl .any 10 (List.map Entry.row l)), (AV.int .i64 now), (AV.int .i64 late)] H ((AV.sl .any 2 (List.map Key.row (pickK l now late))), H) := (pickW_spec l now late hl).lift (by kernel_rfl) (by kernel_rfl) H
def same12W_ann : Ann := { fin := some 0 }
set_option maxRecDepth 100000 in
theorem same12W_spec (l : List Entry) (now late : Int) (hl : l.length < 1000) : ACalls Try.prog 39 [(AV.sl .any 10 (List.map Entry.row l)), (AV.int .i64 now), (AV.int .i64 late)] ([] : Heap) ((AV.bool true), ([] : Heap)) := by
  have h1 := pickK_le l now late
  have h2 := deadK_len l now
  refine spec (fn := Try.f39) (ann := same12W_ann) (t := (.reg [] [] [] (.reg [(3, ((AV.sl .any 2 (List.map Key.row (pickK l now late))), ([] : Heap))), (5, ((AV.sl .any 10 (List.map Entry.row l)), ([] : Heap))), (8, ((AV.sl .any 2 (List.map Key.row (rpickK l now late))), ([] : Heap))), (9, ((AV.bool true), ([] : Heap))), (13, ((AV.sl .any 2 (List.map Key.row (deadK l now))), ([] : Heap))), (15, ((AV.sl .any 10 (List.map Entry.row l)), ([] : Heap))), (17, ((AV.sl .any 2 (List.map Key.row (deadK l now))), ([] : Heap))), (18, ((AV.bool true), ([] : Heap)))] [] [] (.two (.two (.two (.two (.two (.two (.two (.two .nil .nil) .nil) .nil) .nil) .nil) .nil) .nil) .nil)))) (Nat.le_of_ble_eq_true (by kernel_rfl)) ⟨Try.func39, by kernel_rfl, by kernel_rfl, by kernel_rfl⟩ ?_
  refine Eq.mp (by kernel_rfl : ((ACalls Try.prog 41 [(AV.sl .any 10 (List.map Entry.row l)), (AV.int .i64 now), (AV.int .i64 late)] ([] : Heap) ((AV.sl .any 2 (List.map Key.row (pickK l now late))), ([] : Heap))) ∧ (ACalls Try.prog 72 [(AV.sl .any 10 (List.map Entry.row l))] ([] : Heap) ((AV.sl .any 10 (List.map Entry.row l)), ([] : Heap))) ∧ (ACalls Try.prog 71 [(AV.sl .any 10 (List.map Entry.row l)), (AV.int .i64 now), (AV.int .i64 late)] ([] : Heap) ((AV.sl .any 2 (List.map Key.row (rpickK l now late))), ([] : Heap))) ∧ (ACalls Try.prog 57 [(AV.sl .any 2 (List.map Key.row (pickK l now late))), (AV.sl .any 2 (List.map Key.row (rpickK l now late)))] ([] : Heap) ((AV.bool true), ([] : Heap))) ∧ (ACalls Try.prog 42 [(AV.sl .any 10 (List.map Entry.row l)), (AV.int .i64 now)] ([] : Heap) ((AV.sl .any 2 (List.map Key.row (deadK l now))), ([] : Heap))) ∧ (ACalls Try.prog 72 [(AV.sl .any 10 (List.map Entry.row l))] ([] : Heap) ((AV.sl .any 10 (List.map Entry.row l)), ([] : Heap))) ∧ (ACalls Try.prog 73 [(AV.sl .any 10 (List.map Entry.row l)), (AV.int .i64 now)] ([] : Heap) ((AV.sl .any 2 (List.map Key.row (deadK l now))), ([] : Heap))) ∧ (ACalls Try.prog 57 [(AV.sl .any 2 (List.map Key.row (deadK l now))), (AV.sl .any 2 (List.map Key.row (deadK l now)))] ([] : Heap) ((AV.bool true), ([] : Heap))) ∧ (AV.bdd 0 (AV.bool true) = true ∧ obsB 0 ([] : Heap) = true) ∧ ((AV.bool true), ([] : Heap)) = ((AV.bool true), ([] : Heap))) = _) ?_
  refine And.intro (pickW_at l now late (by first | omega | assumption | (simp; done) | (simp; omega) | (simp_all; done) | (simp_all; omega)) ([] : Heap)) ?_
  refine And.intro (plain_at l (by first | omega | assumption | (simp; done) | (simp; omega) | (simp_all; done) | (simp_all; omega)) ([] : Heap)) ?_
  refine And.intro (rpick_at l now late (by first | omega | assumption | (simp; done) | (simp; omega) | (simp_all; done) | (simp_all; omega)) ([] : Heap)) ?_
  refine And.intro (sameK_at (pickK l now late) (rpickK l now late) (by first | omega | assumption | (simp; done) | (simp; omega) | (simp_all; done) | (simp_all; omega)) (pick_same l now late) ([] : Heap)) ?_
  refine And.intro (dead_at l now (by first | omega | assumption | (simp; done) | (simp; omega) | (simp_all; done) | (simp_all; omega)) ([] : Heap)) ?_
  refine And.intro (plain_at l (by first | omega | assumption | (simp; done) | (simp; omega) | (simp_all; done) | (simp_all; omega)) ([] : Heap)) ?_
  refine And.intro (rdead_at l now (by first | omega | assumption | (simp; done) | (simp; omega) | (simp_all; done) | (simp_all; omega)) ([] : Heap)) ?_
  refine And.intro (sameK_at (deadK l now) (deadK l now) (by first | omega | assumption | (simp; done) | (simp; omega) | (simp_all; done) | (simp_all; omega)) (rfl) ([] : Heap)) ?_
  refine And.intro (by first | (simp [obsB, AV.bddss, AV.bdds, AV.bdd]; done) | (simp [obsB, AV.bddss, AV.bdds, AV.bdd, -List.map_append]; done) | simp [obsB, AV.bddss, AV.bdds, AV.bdd, -List.map_append, -List.map_set, -List.map_take, -List.map_drop, -List.map_cons, -List.map_map]) ?_
  rfl
theorem same12W_at (l : List Entry) (now late : Int) (hl : l.length < 1000) (H : Heap) : ACalls Try.prog 39 [(AV.sl .any 10 (List.map Entry.row l)), (AV.int .i64 now), (AV.int .i64 late)] H ((AV.bool true), H) := (same12W_spec l now late hl).lift (by kernel_rfl) (by kernel_rfl) H
def stells_ann : Ann := { fin := some 0 }
set_option maxRecDepth 100000 in
theorem stells_spec (z : List Int) (raw : List Entry) (now late n : Int) (hl : z.length < 9223372036854775808) : ACalls Try.prog 8 [(AV.sl .any 1 (List.map rI64 z)), (AV.sl .any 10 (List.map Entry.row raw)), (AV.int .i64 now), (AV.int .i64 late), (AV.int .i64 n)] ([] : Heap) ((AV.bool true), ([] : Heap)) := by
  have hm := madeL_len z 19
  refine spec (fn := Try.f8) (ann := stells_ann) (t := (.reg [] [] [] (.reg [(1, ((AV.int .i64 ((raw.length : Nat) : Int)), ([] : Heap)))] [] [] (.two (.reg [(1, ((AV.sl .any 10 (List.map Entry.row (raw.take 30))), ([] : Heap)))] [] [] (.reg [(1, ((AV.sl .any 10 (List.map Entry.row (madeL z 19))), ([] : Heap)))] [] [] (.reg [(2, ((AV.int .i64 ((maskN now 255 : Nat) : Int)), ([] : Heap))), (4, ((AV.int .i64 ((maskN late 31 : Nat) : Int)), ([] : Heap))), (5, ((AV.bool true), ([] : Heap))), (10, ((AV.bool true), ([] : Heap))), (16, ((AV.bool true), ([] : Heap))), (20, ((AV.int .i64 ((mostN n : Nat) : Int)), ([] : Heap))), (22, ((AV.int .i64 ((mostN n : Nat) : Int)), ([] : Heap))), (23, ((AV.bool true), ([] : Heap))), (27, ((AV.int .i64 ((maskN n 63 : Nat) : Int)), ([] : Heap))), (28, ((AV.int .i64 ((mostN ((maskN n 63 : Nat) : Int) : Nat) : Int)), ([] : Heap))), (30, ((AV.int .i64 ((maskN n 63 : Nat) : Int)), ([] : Heap))), (31, ((AV.int .i64 ((mostN ((maskN n 63 : Nat) : Int) : Nat) : Int)), ([] : Heap))), (32, ((AV.bool true), ([] : Heap))), (35, ((AV.bool true), ([] : Heap)))] [] [] (.two (.two (.two (.two (.two (.two (.two (.two (.two (.two (.two (.two (.two (.two (.two (.two (.two (.two (.two (.two (.two .nil .nil) .nil) .nil) .nil) .nil) .nil) .nil) .nil) .nil) .nil) .nil) .nil) .nil) .nil) .nil) .nil) .nil) .nil) .nil) .nil) .nil)))) (.reg [(1, ((AV.sl .any 10 (List.map Entry.row (madeL z 19))), ([] : Heap)))] [] [] (.reg [(2, ((AV.int .i64 ((maskN now 255 : Nat) : Int)), ([] : Heap))), (4, ((AV.int .i64 ((maskN late 31 : Nat) : Int)), ([] : Heap))), (5, ((AV.bool true), ([] : Heap))), (10, ((AV.bool true), ([] : Heap))), (16, ((AV.bool true), ([] : Heap))), (20, ((AV.int .i64 ((mostN n : Nat) : Int)), ([] : Heap))), (22, ((AV.int .i64 ((mostN n : Nat) : Int)), ([] : Heap))), (23, ((AV.bool true), ([] : Heap))), (27, ((AV.int .i64 ((maskN n 63 : Nat) : Int)), ([] : Heap))), (28, ((AV.int .i64 ((mostN ((maskN n 63 : Nat) : Int) : Nat) : Int)), ([] : Heap))), (30, ((AV.int .i64 ((maskN n 63 : Nat) : Int)), ([] : Heap))), (31, ((AV.int .i64 ((mostN ((maskN n 63 : Nat) : Int) : Nat) : Int)), ([] : Heap))), (32, ((AV.bool true), ([] : Heap))), (35, ((AV.bool true), ([] : Heap)))] [] [] (.two (.two (.two (.two (.two (.two (.two (.two (.two (.two (.two (.two (.two (.two (.two (.two (.two (.two (.two (.two (.two .nil .nil) .nil) .nil) .nil) .nil) .nil) .nil) .nil) .nil) .nil) .nil) .nil) .nil) .nil) .nil) .nil) .nil) .nil) .nil) .nil) .nil))))))) (Nat.le_of_ble_eq_true (by kernel_rfl)) ⟨Try.func8, by kernel_rfl, by kernel_rfl, by kernel_rfl⟩ ?_
  refine Eq.mp (by kernel_rfl : ((Yes (.int .i64 ((List.length (List.map Entry.row raw) : Nat) : Int)) ([] : Heap) (AV.int .i64 ((raw.length : Nat) : Int))) ∧ cond (decide (((raw.length : Nat) : Int) > 30)) ((Option.map (fun a => (a, ([] : Heap))) (if 10 = 10 ∨ ((List.map Entry.row raw)).isEmpty = true then (bounds 0 30 (List.length (List.map Entry.row raw))).map fun p => AV.sl .any 10 ((List.take p.2 (List.map Entry.row raw)).drop p.1) else none) = some ((AV.sl .any 10 (List.map Entry.row (raw.take 30))), ([] : Heap))) ∧ (ACalls Try.prog 37 [(AV.sl .any 1 (List.map rI64 z)), (AV.int .i64 19)] ([] : Heap) ((AV.sl .any 10 (List.map Entry.row (madeL z 19))), ([] : Heap))) ∧ (Yes (.int .i64 (IntKind.i64.wrap ((BitVec.ofInt 64 now &&& BitVec.ofInt 64 255).toNat))) ([] : Heap) (AV.int .i64 ((maskN now 255 : Nat) : Int))) ∧ (Yes (.int .i64 (IntKind.i64.wrap ((BitVec.ofInt 64 late &&& BitVec.ofInt 64 31).toNat))) ([] : Heap) (AV.int .i64 ((maskN late 31 : Nat) : Int))) ∧ (ACalls Try.prog 39 [(AV.sl .any 10 (List.map Entry.row (madeL z 19))), (AV.int .i64 ((maskN now 255 : Nat) : Int)), (AV.int .i64 ((maskN late 31 : Nat) : Int))] ([] : Heap) ((AV.bool true), ([] : Heap))) ∧ (ACalls Try.prog 39 [(AV.sl .any 10 (List.map Entry.row (madeL z 19))), (AV.int .i64 now), (AV.int .i64 late)] ([] : Heap) ((AV.bool true), ([] : Heap))) ∧ (ACalls Try.prog 39 [(AV.sl .any 10 (List.map Entry.row (raw.take 30))), (AV.int .i64 now), (AV.int .i64 late)] ([] : Heap) ((AV.bool true), ([] : Heap))) ∧ (ACalls Try.prog 35 [(AV.int .i64 n)] ([] : Heap) ((AV.int .i64 ((mostN n : Nat) : Int)), ([] : Heap))) ∧ (ACalls Try.prog 36 [(AV.int .i64 n)] ([] : Heap) ((AV.int .i64 ((mostN n : Nat) : Int)), ([] : Heap))) ∧ (Yes (AV.bool (((mostN n : Nat) : Int) == ((mostN n : Nat) : Int))) ([] : Heap) (AV.bool true)) ∧ (Yes (.int .i64 (IntKind.i64.wrap ((BitVec.ofInt 64 n &&& BitVec.ofInt 64 63).toNat))) ([] : Heap) (AV.int .i64 ((maskN n 63 : Nat) : Int))) ∧ (ACalls Try.prog 35 [(AV.int .i64 ((maskN n 63 : Nat) : Int))] ([] : Heap) ((AV.int .i64 ((mostN ((maskN n 63 : Nat) : Int) : Nat) : Int)), ([] : Heap))) ∧ (Yes (.int .i64 (IntKind.i64.wrap ((BitVec.ofInt 64 n &&& BitVec.ofInt 64 63).toNat))) ([] : Heap) (AV.int .i64 ((maskN n 63 : Nat) : Int))) ∧ (ACalls Try.prog 36 [(AV.int .i64 ((maskN n 63 : Nat) : Int))] ([] : Heap) ((AV.int .i64 ((mostN ((maskN n 63 : Nat) : Int) : Nat) : Int)), ([] : Heap))) ∧ (Yes (AV.bool (((mostN ((maskN n 63 : Nat) : Int) : Nat) : Int) == ((mostN ((maskN n 63 : Nat) : Int) : Nat) : Int))) ([] : Heap) (AV.bool true)) ∧ (ACalls Try.prog 40 [] ([] : Heap) ((AV.bool true), ([] : Heap))) ∧ (AV.bdd 0 (AV.bool true) = true ∧ obsB 0 ([] : Heap) = true) ∧ ((AV.bool true), ([] : Heap)) = ((AV.bool true), ([] : Heap))) ((ACalls Try.prog 37 [(AV.sl .any 1 (List.map rI64 z)), (AV.int .i64 19)] ([] : Heap) ((AV.sl .any 10 (List.map Entry.row (madeL z 19))), ([] : Heap))) ∧ (Yes (.int .i64 (IntKind.i64.wrap ((BitVec.ofInt 64 now &&& BitVec.ofInt 64 255).toNat))) ([] : Heap) (AV.int .i64 ((maskN now 255 : Nat) : Int))) ∧ (Yes (.int .i64 (IntKind.i64.wrap ((BitVec.ofInt 64 late &&& BitVec.ofInt 64 31).toNat))) ([] : Heap) (AV.int .i64 ((maskN late 31 : Nat) : Int))) ∧ (ACalls Try.prog 39 [(AV.sl .any 10 (List.map Entry.row (madeL z 19))), (AV.int .i64 ((maskN now 255 : Nat) : Int)), (AV.int .i64 ((maskN late 31 : Nat) : Int))] ([] : Heap) ((AV.bool true), ([] : Heap))) ∧ (ACalls Try.prog 39 [(AV.sl .any 10 (List.map Entry.row (madeL z 19))), (AV.int .i64 now), (AV.int .i64 late)] ([] : Heap) ((AV.bool true), ([] : Heap))) ∧ (ACalls Try.prog 39 [(AV.sl .any 10 (List.map Entry.row raw)), (AV.int .i64 now), (AV.int .i64 late)] ([] : Heap) ((AV.bool true), ([] : Heap))) ∧ (ACalls Try.prog 35 [(AV.int .i64 n)] ([] : Heap) ((AV.int .i64 ((mostN n : Nat) : Int)), ([] : Heap))) ∧ (ACalls Try.prog 36 [(AV.int .i64 n)] ([] : Heap) ((AV.int .i64 ((mostN n : Nat) : Int)), ([] : Heap))) ∧ (Yes (AV.bool (((mostN n : Nat) : Int) == ((mostN n : Nat) : Int))) ([] : Heap) (AV.bool true)) ∧ (Yes (.int .i64 (IntKind.i64.wrap ((BitVec.ofInt 64 n &&& BitVec.ofInt 64 63).toNat))) ([] : Heap) (AV.int .i64 ((maskN n 63 : Nat) : Int))) ∧ (ACalls Try.prog 35 [(AV.int .i64 ((maskN n 63 : Nat) : Int))] ([] : Heap) ((AV.int .i64 ((mostN ((maskN n 63 : Nat) : Int) : Nat) : Int)), ([] : Heap))) ∧ (Yes (.int .i64 (IntKind.i64.wrap ((BitVec.ofInt 64 n &&& BitVec.ofInt 64 63).toNat))) ([] : Heap) (AV.int .i64 ((maskN n 63 : Nat) : Int))) ∧ (ACalls Try.prog 36 [(AV.int .i64 ((maskN n 63 : Nat) : Int))] ([] : Heap) ((AV.int .i64 ((mostN ((maskN n 63 : Nat) : Int) : Nat) : Int)), ([] : Heap))) ∧ (Yes (AV.bool (((mostN ((maskN n 63 : Nat) : Int) : Nat) : Int) == ((mostN ((maskN n 63 : Nat) : Int) : Nat) : Int))) ([] : Heap) (AV.bool true)) ∧ (ACalls Try.prog 40 [] ([] : Heap) ((AV.bool true), ([] : Heap))) ∧ (AV.bdd 0 (AV.bool true) = true ∧ obsB 0 ([] : Heap) = true) ∧ ((AV.bool true), ([] : Heap)) = ((AV.bool true), ([] : Heap)))) = _) ?_
  refine And.intro (Yes.len _ _ _) ?_
  refine cond_split (fun h1 => ?_) (fun h1 => ?_)
  · have h1' := h1
    try simp at h1'
    refine And.intro (slice_sl (l := 0) (h := 30) (by first | omega | (simp; done) | (simp; omega)) (by first | omega | (simp; done) | (simp; omega)) (by first | omega | (simp; done) | (simp; omega)) (by first | omega | (simp; done) | (simp; omega)) (by simp [List.map_take, List.map_drop, List.take_of_length_le])) ?_
    refine And.intro ((made_at z 19 (by first | omega | assumption | (simp; done) | (simp; omega) | (simp_all; done) | (simp_all; omega)) (by first | omega | assumption | (simp; done) | (simp; omega) | (simp_all; done) | (simp_all; omega)) ([] : Heap)).pre ⟨⟨rfl, rfl, .inl rfl⟩, AV.wk_refl_any _, trivial⟩) ?_
    refine And.intro (Yes.mask (m := 255) (by omega)) ?_
    refine And.intro (Yes.mask (m := 31) (by omega)) ?_
    refine And.intro (same12W_at (madeL z 19) ((maskN now 255 : Nat) : Int) ((maskN late 31 : Nat) : Int) (by first | omega | assumption | (simp; done) | (simp; omega) | (simp_all; done) | (simp_all; omega)) ([] : Heap)) ?_
    refine And.intro (same12W_at (madeL z 19) now late (by first | omega | assumption | (simp; done) | (simp; omega) | (simp_all; done) | (simp_all; omega)) ([] : Heap)) ?_
    refine And.intro (same12W_at (raw.take 30) now late (by first | omega | assumption | (simp; done) | (simp; omega) | (simp_all; done) | (simp_all; omega)) ([] : Heap)) ?_
    refine And.intro (most_at n  ([] : Heap)) ?_
    refine And.intro (part_at n  ([] : Heap)) ?_
    refine And.intro (Yes.bool (by simp)) ?_
    refine And.intro (Yes.mask (m := 63) (by omega)) ?_
    refine And.intro (most_at ((maskN n 63 : Nat) : Int)  ([] : Heap)) ?_
    refine And.intro (Yes.mask (m := 63) (by omega)) ?_
    refine And.intro (part_at ((maskN n 63 : Nat) : Int)  ([] : Heap)) ?_
    refine And.intro (Yes.bool (by simp)) ?_
    refine And.intro (known12_at   ([] : Heap)) ?_
    refine And.intro (by first | (simp [obsB, AV.bddss, AV.bdds, AV.bdd]; done) | (simp [obsB, AV.bddss, AV.bdds, AV.bdd, -List.map_append]; done) | simp [obsB, AV.bddss, AV.bdds, AV.bdd, -List.map_append, -List.map_set, -List.map_take, -List.map_drop, -List.map_cons, -List.map_map]) ?_
    rfl
  · have h1' := h1
    try simp at h1'
    refine And.intro ((made_at z 19 (by first | omega | assumption | (simp; done) | (simp; omega) | (simp_all; done) | (simp_all; omega)) (by first | omega | assumption | (simp; done) | (simp; omega) | (simp_all; done) | (simp_all; omega)) ([] : Heap)).pre ⟨⟨rfl, rfl, .inl rfl⟩, AV.wk_refl_any _, trivial⟩) ?_
    refine And.intro (Yes.mask (m := 255) (by omega)) ?_
    refine And.intro (Yes.mask (m := 31) (by omega)) ?_
    refine And.intro (same12W_at (madeL z 19) ((maskN now 255 : Nat) : Int) ((maskN late 31 : Nat) : Int) (by first | omega | assumption | (simp; done) | (simp; omega) | (simp_all; done) | (simp_all; omega)) ([] : Heap)) ?_
    refine And.intro (same12W_at (madeL z 19) now late (by first | omega | assumption | (simp; done) | (simp; omega) | (simp_all; done) | (simp_all; omega)) ([] : Heap)) ?_
    refine And.intro (same12W_at raw now late (by first | omega | assumption | (simp; done) | (simp; omega) | (simp_all; done) | (simp_all; omega)) ([] : Heap)) ?_
    refine And.intro (most_at n  ([] : Heap)) ?_
    refine And.intro (part_at n  ([] : Heap)) ?_
    refine And.intro (Yes.bool (by simp)) ?_
    refine And.intro (Yes.mask (m := 63) (by omega)) ?_
    refine And.intro (most_at ((maskN n 63 : Nat) : Int)  ([] : Heap)) ?_
    refine And.intro (Yes.mask (m := 63) (by omega)) ?_
    refine And.intro (part_at ((maskN n 63 : Nat) : Int)  ([] : Heap)) ?_
    refine And.intro (Yes.bool (by simp)) ?_
    refine And.intro (known12_at   ([] : Heap)) ?_
    refine And.intro (by first | (simp [obsB, AV.bddss, AV.bdds, AV.bdd]; done) | (simp [obsB, AV.bddss, AV.bdds, AV.bdd, -List.map_append]; done) | simp [obsB, AV.bddss, AV.bdds, AV.bdd, -List.map_append, -List.map_set, -List.map_take, -List.map_drop, -List.map_cons, -List.map_map]) ?_
    rfl
theorem stells_at (z : List Int) (raw : List Entry) (now late n : Int) (hl : z.length < 9223372036854775808) (H : Heap) : ACalls Try.prog 8 [(AV.sl .any 1 (List.map rI64 z)), (AV.sl .any 10 (List.map Entry.row raw)), (AV.int .i64 now), (AV.int .i64 late), (AV.int .i64 n)] H ((AV.bool true), H) := (stells_spec z raw now late n hl).lift (by kernel_rfl) (by kernel_rfl) H
end Go.Proofs.Ytpkgpldgoajphaa.AM

set_option linter.unusedVariables false
set_option linter.unusedSimpArgs false
namespace Go.Proofs.Ytpkgpldgoajphaa.AM
open Go Go.RowKit

theorem Ev.below {G G' : Nat → Prop} {w w' : World} {C' : Cx} (h : Ev G w Cx.none G' w' C') : Below w.heap.size w w' :=
  ⟨h.os, h.tape, h.output, h.size, fun b hb => h.rest b hb fun id l hl => by simp [Cx.none] at hl⟩
/-- A slice of whole numbers, as it is read. -/
def IsInts (w : World) (a : Option Addr) (len cap : Nat) (zs : List Int) : Prop :=
  (a = none ∧ len = 0 ∧ cap = 0 ∧ zs = []) ∨ ∃ x, a = some x ∧ len ≤ cap ∧ cap ≤ maxLen ∧ zs.length = cap ∧ ∀ i, i < zs.length → w.cell? (x.add i) = some (.int .i64 (zs.getD i 0))
theorem cell?_lt {w : World} {a : Addr} {v : Value} (h : w.cell? a = some v) : a.block < w.heap.size := by
  unfold World.cell? at h
  rcases Nat.lt_or_ge a.block w.heap.size with h' | h'
  · exact h'
  · rw [Array.getElem?_eq_none (by omega)] at h; simp at h
theorem cell?_plain {w : World} {a : Addr} {v : Value} (h : w.cell? a = some v) : a.spot = none := by
  unfold World.cell? at h
  split at h
  · split at h
    · simp at h
    · rename_i hs; simpa using hs
  · simp at h
theorem IsInts.rel {w : World} {a : Option Addr} {len cap : Nat} {zs : List Int} (h : IsInts w a len cap zs) : VR (fun b => b < w.heap.size) w Cx.none (.sl .any 1 ((zs.take len).map rI64)) (.slice a len cap) ∧ (zs.take len).length < 9223372036854775808 := by
  rcases h with ⟨rfl, rfl, rfl, rfl⟩ | ⟨x, rfl, hl, hm, hz, hc⟩
  · exact ⟨.nils _ _ _ (by simp), by simp⟩
  · have hm' : cap ≤ 9223372036854775807 := by simpa [maxLen] using hm
    have hlen : ((zs.take len).map rI64).length = len := by simp; omega
    refine ⟨?_, by simp; omega⟩
    have key := VR.sl (G := fun b => b < w.heap.size) (w := w) Cx.none .any ((zs.take len).map rI64) 1 x cap (by simp) (by simp) (by omega) (fun hne => ?_) (fun i _ => .int .i64 (zs.getD i 0)) (fun i hi => ?_) (fun i j hi hj => ?_) (fun _ _ _ _ => rfl) fun i j hi hj => ?_
    · rwa [hlen] at key
    · have h0 : 0 < zs.length := by
        rcases Nat.eq_zero_or_pos zs.length with h | h
        · have : zs = [] := List.eq_nil_of_length_eq_zero h
          subst this; simp at hne
        · exact h
      have := hc 0 h0
      simp only [Addr.add, if_true] at this
      exact ⟨cell?_plain this, cell?_lt this⟩
    · have : ((zs.take len).map rI64)[i]? = some (rI64 ((zs.take len)[i]'(by rw [hlen] at hi; simp; omega))) := by
        rw [List.getElem?_map, List.getElem?_eq_getElem (by rw [hlen] at hi; simp; omega)]; rfl
      rw [List.getD_eq_getElem?_getD, this]; rfl
    · obtain rfl : j = 0 := by omega
      have h0 : 0 < zs.length := by omega
      have hsp := cell?_plain (hc 0 h0)
      simp only [Addr.add, if_true] at hsp
      have := hc i (by omega)
      obtain ⟨xb, xo, xs⟩ := x
      simp only at hsp
      subst hsp
      rw [add_addr] at this
      simpa using this
    · obtain rfl : j = 0 := by omega
      have hi' : i < zs.length := by omega
      have : ((zs.take len).map rI64).getD i [] = [.int .i64 (zs.getD i 0)] := by
        simp [List.getD_eq_getElem?_getD, List.getElem?_take, show i < len by omega, hi', rI64]
      rw [this]
      exact .int ..
/-- A call over no objects that answers true. -/
theorem ACalls.yes {P : Program} {f : FuncId} {fn : Func} (hf : Has P f fn) {args : List AV} {H' : Heap} (h : ACalls P f args [] (.bool true, H')) {vs : Array Value} {w : World} (hsz : vs.size = args.length)
    (hargs : ∀ i, i < args.length → VR (fun b => b < w.heap.size) w Cx.none (args.getD i .skip) (vs.getD i undef)) :
    Calls P f vs w fun e w' => e = .returned (.bool true) ∧ Below w.heap.size w w' :=
  Calls.mono (h.calls hf hsz hargs (fun b hb => hb)) fun e w' ⟨v, G', C', he, h1, h2⟩ => by
    cases h2
    exact ⟨he, h1.below⟩
end Go.Proofs.Ytpkgpldgoajphaa.AM

set_option linter.unusedVariables false
set_option linter.unusedSimpArgs false
namespace Go.Proofs.Ytpkgpldgoajphaa.AM
open Go Go.RowKit Go.Deep

/-- What a cell of a plain value is. -/
inductive CK where
  | int (k : IntKind) | bool | str
def CK.ok : CK → Value → Prop
  | .int k, v => ∃ n, v = .int k n
  | .bool, v => ∃ b, v = .bool b
  | .str, v => ∃ s, v = .string s
def kindsFs (K : TypeId → Option (List CK)) : List (TypeId × Nat) → Nat → Option (List CK)
  | [], _ => some []
  | (t, o) :: fs, p => if o = p then match K t with
    | some ks => match kindsFs K fs (p + ks.length) with
      | some l => some (ks ++ l)
      | none => none
    | none => none else none
/-- The cells of a plain type. -/
def kindsOf (T : TT) : Nat → TypeId → Option (List CK)
  | 0, _ => none
  | d + 1, t => match T t with
    | some ti => match ti.d with
      | .int k => some [.int k]
      | .bool => some [.bool]
      | .string => some [.str]
      | .struct fs => kindsFs (kindsOf T d) fs 0
      | _ => none
    | none => none
theorem kindsFs_ok {K : TypeId → Option (List CK)} {cs : List Value} {c : TypeId → Nat} : ∀ (fs : List (TypeId × Nat)) (p : Nat) (ks : List CK), kindsFs K fs p = some ks →
    (∀ (i : Nat) t o, fs[i]? = some (t, o) → ∀ kt, K t = some kt → ∀ (j : Nat) ck, kt[j]? = some ck → ∃ v, ((cs.drop o).take (c t))[j]? = some v ∧ ck.ok v) →
    ∀ (j : Nat) ck, ks[j]? = some ck → ∃ v, cs[p + j]? = some v ∧ ck.ok v
  | [], p, ks, h, _, j, ck, hj => by simp [kindsFs] at h; subst h; simp at hj
  | (t, o) :: fs, p, ks, h, hf, j, ck, hj => by
    simp only [kindsFs] at h
    split at h
    case isFalse => simp at h
    rename_i hop
    split at h
    case h_2 => simp at h
    rename_i kt hkt
    split at h
    case h_2 => simp at h
    rename_i l hl
    simp only [Option.some.injEq] at h
    subst h hop
    rcases Nat.lt_or_ge j kt.length with h' | h'
    · rw [List.getElem?_append_left h'] at hj
      obtain ⟨v, hv, hok⟩ := hf 0 t o rfl kt hkt j ck hj
      refine ⟨v, ?_, hok⟩
      rw [List.getElem?_take] at hv
      split at hv
      · rwa [List.getElem?_drop] at hv
      · simp at hv
    · rw [List.getElem?_append_right h'] at hj
      obtain ⟨v, hv, hok⟩ := kindsFs_ok fs (o + kt.length) l hl (fun i t' o' hi => hf (i + 1) t' o' (by simpa using hi)) (j - kt.length) ck hj
      refine ⟨v, ?_, hok⟩
      rwa [show o + kt.length + (j - kt.length) = o + j by omega] at hv
section
variable {H : Type} {enc : TypeId × Value → H} {P : Program} {w : World} {base : Nat} {spare : Nat → Bool} {held : Bool}
theorem trod_kinds {T : TT} (hT : TOk P T) : ∀ (d : Nat) {t : TypeId} {ks : List CK} {fuel : Nat} {cs : List Value} {x : DataW H × List MemPlace}, kindsOf T d t = some ks → DataW.trod enc P w base spare held fuel t cs = some x →
    ∀ (j : Nat) ck, ks[j]? = some ck → ∃ v, cs[j]? = some v ∧ ck.ok v
  | 0, t, ks, fuel, cs, x, h, _, j, ck, hj => by simp [kindsOf] at h
  | d + 1, t, ks, fuel, cs, x, h, ht, j, ck, hj => by
    simp only [kindsOf] at h
    split at h
    case h_2 => simp at h
    rename_i ti hti
    have hu := (hT t ti hti).und
    split at h
    · rename_i k hd
      rw [hd] at hu
      simp only [Option.some.injEq] at h
      subst h
      obtain ⟨n, rfl, _⟩ := DataW.trod_int hu ht
      cases j with
      | zero => simp at hj; subst hj; exact ⟨_, rfl, n, rfl⟩
      | succ j => simp at hj
    · rename_i hd
      rw [hd] at hu
      simp only [Option.some.injEq] at h
      subst h
      obtain ⟨b, rfl, _⟩ := DataW.trod_bool hu ht
      cases j with
      | zero => simp at hj; subst hj; exact ⟨_, rfl, b, rfl⟩
      | succ j => simp at hj
    · rename_i hd
      rw [hd] at hu
      simp only [Option.some.injEq] at h
      subst h
      obtain ⟨s, rfl, _⟩ := DataW.trod_string hu ht
      cases j with
      | zero => simp at hj; subst hj; exact ⟨_, rfl, s, rfl⟩
      | succ j => simp at hj
    · rename_i fs hd
      rw [hd] at hu
      obtain ⟨fields, hf, hmap, _⟩ := hu
      obtain ⟨xs, n, _, _, hlen, hxl, hget⟩ := DataW.trod_struct hf ht
      have := kindsFs_ok (cs := cs) (c := fun t => P.cellsOf t) fs 0 ks h (fun i t' o hi kt hkt j ck hj => by
        rw [← hmap, List.getElem?_map] at hi
        cases hfi : fields.toList[i]? with
        | none => rw [hfi] at hi; simp at hi
        | some f =>
          rw [hfi] at hi
          simp only [Option.map_some, Option.some.injEq, Prod.mk.injEq] at hi
          obtain ⟨rfl, rfl⟩ := hi
          have hfa : fields[i]? = some f := by simpa using hfi
          have h1 := hget i f hfa
          have hi2 : i < fields.size := by
            rcases Nat.lt_or_ge i fields.size with h' | h'
            · exact h'
            · rw [Array.getElem?_eq_none h'] at hfa; simp at hfa
          rw [List.getElem?_eq_getElem (by omega)] at h1
          exact trod_kinds hT d hkt h1 j ck hj) j ck hj
      simpa using this
    · simp at h
theorem rows_kinds {T : TT} (hT : TOk P T) {d : Nat} {t e : TypeId} {ks : List CK} {fuel : Nat} {cs : List Value} {x : DataW H × List MemPlace} (ht : P.underlying t = some (.slice e)) (hk : kindsOf T d e = some ks) (hc : P.cellsOf e = ks.length) (h : DataW.trod enc P w base spare held fuel t cs = some x) :
    cs = [.slice none 0 0] ∨ ∃ (a : Addr) (len cap : Nat), cs = [.slice (some a) len cap] ∧ len ≤ cap ∧ cap ≤ maxLen ∧ ∀ (i j : Nat) ck, i < len → ks[j]? = some ck → ∃ v, w.cell? (a.add (i * ks.length + j)) = some v ∧ ck.ok v := by
  rcases open_slice ht h with ⟨h0, _⟩ | ⟨a, len, cap, m, n, D, Pl, rfl, hb, hl, hm, hmm, rfl, hx⟩
  · exact .inl h0
  refine .inr ⟨a, len, cap, rfl, hl, hm, fun i j ck hi hj => ?_⟩
  have him : i < m := by rw [hmm]; split <;> omega
  obtain ⟨cs', h1, h2⟩ := hx i him
  obtain ⟨v, hv, hok⟩ := trod_kinds hT d hk h2 j ck hj
  obtain ⟨_, hlen, hcell⟩ := World.cells?_some h1
  have hjl : j < ks.length := by
    rcases Nat.lt_or_ge j ks.length with h' | h'
    · exact h'
    · rw [List.getElem?_eq_none h'] at hj; simp at hj
  refine ⟨v, ?_, hok⟩
  rw [← hv, ← hcell j (by rw [hc]; exact hjl), hc, add_add]
end
/-- Rows of structs in memory. -/
def IsRows {α : Type} [Inhabited α] (row : α → List AV) (k : Nat) (w : World) (a : Option Addr) (len cap : Nat) (zs : List α) : Prop :=
  zs.length = len ∧ ((a = none ∧ len = 0 ∧ cap = 0) ∨ ∃ x, a = some x ∧ len ≤ cap ∧ cap ≤ maxLen ∧ ∀ i j, i < len → j < k → ∃ v, w.cell? (x.add (i * k + j)) = some v ∧ v.oneCell' = true ∧ VR (fun b => b < w.heap.size) w Cx.none ((row (nth zs i)).getD j .skip) v)
theorem IsRows.of {α : Type} [Inhabited α] {row : α → List AV} {k : Nat} {w : World} {a : Addr} {len cap : Nat} (h1 : len ≤ cap) (h2 : cap ≤ maxLen)
    (h : ∀ i, i < len → ∃ x : α, ∀ j, j < k → ∃ v, w.cell? (a.add (i * k + j)) = some v ∧ v.oneCell' = true ∧ VR (fun b => b < w.heap.size) w Cx.none ((row x).getD j .skip) v) : ∃ zs, IsRows row k w (some a) len cap zs := by
  obtain ⟨q, hq⟩ := choose_lt h
  refine ⟨(List.range len).map q, by simp, .inr ⟨a, rfl, h1, h2, fun i j hi hj => ?_⟩⟩
  have : nth ((List.range len).map q) i = q i := by
    have := nth_get (l := (List.range len).map q) (i := i) (by simpa using hi)
    rw [List.getElem?_map, List.getElem?_range hi] at this
    simpa using this.symm
  rw [this]
  exact hq i hi j hj
theorem IsRows.rel {α : Type} [Inhabited α] {row : α → List AV} {k : Nat} (hrow : ∀ x, (row x).length = k) (hk : 0 < k) {w : World} {a : Option Addr} {len cap : Nat} {zs : List α} (h : IsRows row k w a len cap zs) : VR (fun b => b < w.heap.size) w Cx.none (.sl .any k (zs.map row)) (.slice a len cap) := by
  obtain ⟨hz, h⟩ := h
  rcases h with ⟨rfl, rfl, rfl⟩ | ⟨x, rfl, hl, hm, hc⟩
  · obtain rfl : zs = [] := List.eq_nil_of_length_eq_zero hz
    exact .nils _ _ _ (by simp)
  · have hlen : (zs.map row).length = len := by simp [hz]
    have hsp : (zs.map row) ≠ [] → x.spot = none ∧ x.block < w.heap.size := fun hne => by
      have h0 : 0 < len := by
        rcases Nat.eq_zero_or_pos len with h | h
        · rw [h] at hlen; exact absurd (List.eq_nil_of_length_eq_zero hlen) hne
        · exact h
      obtain ⟨v, hv, _⟩ := hc 0 0 h0 hk
      simp only [Nat.zero_mul, Nat.add_zero, Addr.add, if_true] at hv
      exact ⟨cell?_plain hv, cell?_lt hv⟩
    have hrowi : ∀ i, i < (zs.map row).length → (zs.map row).getD i [] = row (nth zs i) := fun i hi => by
      rw [List.getD_eq_getElem?_getD, nth_map row (by simpa using hi)]; rfl
    have hcell : ∀ i j, i < (zs.map row).length → j < k → ∃ v, w.cell? ⟨x.block, x.off + i * k + j, none⟩ = some v ∧ v.oneCell' = true ∧ VR (fun b => b < w.heap.size) w Cx.none ((row (nth zs i)).getD j .skip) v := fun i j hi hj => by
      obtain ⟨v, hv, h1, h2⟩ := hc i j (by omega) hj
      refine ⟨v, ?_, h1, h2⟩
      obtain ⟨hs1, _⟩ := hsp (fun e => by rw [e] at hi; simp at hi)
      obtain ⟨xb, xo, xs⟩ := x
      simp only at hs1
      subst hs1
      rw [add_addr] at hv
      rw [Nat.add_assoc]
      exact hv
    have key := VR.sl (G := fun b => b < w.heap.size) (w := w) Cx.none .any (zs.map row) k x cap (by simp) (by simp) (by omega) hsp (fun i j => (w.cell? ⟨x.block, x.off + i * k + j, none⟩).getD undef) (fun i hi => by rw [hrowi i hi]; exact hrow _) (fun i j hi hj => by
        obtain ⟨v, hv, _⟩ := hcell i j hi hj
        rw [hv]; rfl) (fun i j hi hj => by
        obtain ⟨v, hv, h1, _⟩ := hcell i j hi hj
        rw [hv]; exact h1) fun i j hi hj => by
        obtain ⟨v, hv, _, h2⟩ := hcell i j hi hj
        rw [hv, hrowi i hi]; exact h2
    rwa [hlen] at key
end Go.Proofs.Ytpkgpldgoajphaa.AM
