/-
  Texts of this claim, part 5 of 7: an abstract machine over the model; what functions come to; plain laws.
-/
import Derived.Test.YtcmfnfkahdconaaMFeedNumbers4
set_option maxRecDepth 100000
set_option linter.unusedVariables false
set_option linter.unusedSimpArgs false
namespace Go.Proofs.Ytcmfnfkahdconaa.AM
open Go Go.Proofs.Ytcmfnfkahdconaa
attribute [local irreducible] ACalls funT codeT codeQ LoopTo
attribute [local irreducible] hasK lastsK recL
def cloneKN_ann : Ann := { gha := [(2, .vir 2 2)], fin := some 1 }
set_option maxRecDepth 100000 in
theorem cloneKN_spec   : ACalls Try.prog 89 [(.sl .nil 0 [])] ([] : Heap) ((AV.osl 0 0 2 0 0), ([⟨0, 2, (List.map Key.row []), none⟩] : Heap)) := by
  refine spec (fn := Try.f89) (ann := cloneKN_ann) (t := (.reg [] [] [] (.reg [] [] [] (.two (.reg [] [] [] .nil) .nil)))) (Nat.le_of_ble_eq_true (by kernel_rfl)) ⟨Try.func89, by kernel_rfl, by kernel_rfl, by kernel_rfl⟩ ?_
  refine Eq.mp (by kernel_rfl : ((AV.bdd 1 (AV.osl 0 0 2 0 0) = true ∧ obsB 1 ([⟨0, 2, (List.map Key.row []), none⟩] : Heap) = true) ∧ ((AV.osl 0 0 2 0 0), ([⟨0, 2, (List.map Key.row []), none⟩] : Heap)) = ((AV.osl 0 0 2 0 0), ([⟨0, 2, (List.map Key.row []), none⟩] : Heap))) = _) ?_
  refine And.intro (by first | (simp [obsB, AV.bddss, AV.bdds, AV.bdd]; done) | simp [obsB, AV.bddss, AV.bdds, AV.bdd, -List.map_append, -List.map_set, -List.map_take, -List.map_drop, -List.map_cons, -List.map_map]) ?_
  rfl
def cloneKO_ann : Ann := { own := [7], fin := some 1 }
set_option maxRecDepth 100000 in
theorem cloneKO_spec (l : List Key) (hl : l.length < 1099511627776) : ACalls Try.prog 89 [(.sl .op 2 (List.map Key.row l))] ([] : Heap) ((AV.osl 0 0 2 0 l.length), ([⟨0, 2, (List.map Key.row l), none⟩] : Heap)) := by
  refine spec (fn := Try.f89) (ann := cloneKO_ann) (t := (.reg [] [] [] (.reg [] [] [] (.two .nil (.reg [(2, ((AV.osl 0 0 2 0 l.length), ([⟨0, 2, (List.map Key.row l), none⟩] : Heap)))] [] [] .nil))))) (Nat.le_of_ble_eq_true (by kernel_rfl)) ⟨Try.func89, by kernel_rfl, by kernel_rfl, by kernel_rfl⟩ ?_
  refine Eq.mp (by kernel_rfl : ((evAppendO tt ([] : Heap) 34 (AV.sl .clip 2 []) (AV.sl .op 2 (List.map Key.row l)) = some ((AV.osl 0 0 2 0 l.length), ([⟨0, 2, (List.map Key.row l), none⟩] : Heap))) ∧ (AV.bdd 1 (AV.osl 0 0 2 0 l.length) = true ∧ obsB 1 ([⟨0, 2, (List.map Key.row l), none⟩] : Heap) = true) ∧ ((AV.osl 0 0 2 0 l.length), ([⟨0, 2, (List.map Key.row l), none⟩] : Heap)) = ((AV.osl 0 0 2 0 l.length), ([⟨0, 2, (List.map Key.row l), none⟩] : Heap))) = _) ?_
  refine And.intro (evAppendO_fresh (T := tt) (e := 31) (te := { d := .struct [(9, 0), (9, 1)], size := 2, bytes := 32, zero := [.str ⟨#[]⟩, .str ⟨#[]⟩] }) (z := 1) (b := 24) (y := [.sl .nil 0 []]) (row := Key.row) (by kernel_rfl) (by kernel_rfl) rfl (by decide) (by decide) (by simp) (by first | (simp [rowsIn, List.map_take, List.map_drop, List.take_of_length_le]; done) | simp [rowsIn, rU8, rI64, rStr, rBool]) rfl rfl rfl (by first | omega | (simp; done) | (simp; omega))) ?_
  refine And.intro (by first | (simp [obsB, AV.bddss, AV.bdds, AV.bdd]; done) | simp [obsB, AV.bddss, AV.bdds, AV.bdd, -List.map_append, -List.map_set, -List.map_take, -List.map_drop, -List.map_cons, -List.map_map]) ?_
  rfl
theorem cloneK_spec (l : List Key) (hl : l.length < 1099511627776) : ACalls Try.prog 89 [(.sl .any 2 (List.map Key.row l))] ([] : Heap) ((AV.osl 0 0 2 0 l.length), ([⟨0, 2, (List.map Key.row l), none⟩] : Heap)) := ACalls.orNil (fun h => by
    have h2 : l = [] := by simpa using h
    subst h2; exact cloneKN_spec) (cloneKO_spec l hl)
theorem cloneKS_spec (l : List Key) (g e n : Nat) (hn : e + n = l.length) (hl : l.length < 1099511627776) : ACalls Try.prog 89 [(.osl 0 g 2 e n)] ([⟨g, 2, (List.map Key.row l), none⟩] : Heap) ((AV.osl 0 (g + 1) 2 0 n), ([⟨(g + 1), 2, (List.map Key.row (l.drop e)), none⟩] : Heap)) := by
  have h := cloneK_spec (l.drop e) (by rw [List.length_drop]; omega)
  have e1 : (l.drop e).length = n := by rw [List.length_drop]; omega
  rw [e1] at h
  have e2 : ((l.map Key.row).drop e).take n = (l.drop e).map Key.row := by rw [List.map_drop]; exact List.take_of_length_le (by rw [List.length_drop, List.length_map]; omega)
  exact ACalls.reclone h (scalss_map (fun x => rfl) _) (Key.rows_bdd _ _) ⟨.osl (by simp [rowsIn, hn, e2]) (Key.rows_bdd _ _), trivial⟩
def seq_ann : Ann := { base := 2, fin := some 2 }
set_option maxRecDepth 100000 in
theorem seq_spec (al : List Key) (g : Nat)  : ACalls Try.prog 36 [(.obj 0 0 0 0)] ([⟨0, 2, [[(.int .i64 (((List.length al) : Nat) : Int)), (.osl 1 g 2 0 (List.length (recL al)))]], none⟩, ⟨g, 2, (List.map Key.row (recL al)), none⟩] : Heap) ((AV.int .i64 ((al.length : Nat) : Int)), ([⟨0, 2, [[(.int .i64 (((List.length al) : Nat) : Int)), (.osl 1 g 2 0 (List.length (recL al)))]], none⟩, ⟨g, 2, (List.map Key.row (recL al)), none⟩] : Heap)) := by
  refine spec (fn := Try.f36) (ann := seq_ann) (t := (.reg [] [] [] (.reg [] [] [] .nil))) (Nat.le_of_ble_eq_true (by kernel_rfl)) ⟨Try.func36, by kernel_rfl, by kernel_rfl, by kernel_rfl⟩ ?_
  refine Eq.mp (by kernel_rfl : ((AV.bdd 2 (AV.int .i64 (((List.length al) : Nat) : Int)) = true ∧ obsB 2 ([⟨0, 2, [[(.int .i64 (((List.length al) : Nat) : Int)), (.osl 1 g 2 0 (List.length (recL al)))]], none⟩, ⟨g, 2, (List.map Key.row (recL al)), none⟩] : Heap) = true) ∧ ((AV.int .i64 (((List.length al) : Nat) : Int)), ([⟨0, 2, [[(.int .i64 (((List.length al) : Nat) : Int)), (.osl 1 g 2 0 (List.length (recL al)))]], none⟩, ⟨g, 2, (List.map Key.row (recL al)), none⟩] : Heap)) = ((AV.int .i64 ((al.length : Nat) : Int)), ([⟨0, 2, [[(.int .i64 (((List.length al) : Nat) : Int)), (.osl 1 g 2 0 (List.length (recL al)))]], none⟩, ⟨g, 2, (List.map Key.row (recL al)), none⟩] : Heap))) = _) ?_
  refine And.intro (by first | (simp [obsB, AV.bddss, AV.bdds, AV.bdd]; done) | simp [obsB, AV.bddss, AV.bdds, AV.bdd, -List.map_append, -List.map_set, -List.map_take, -List.map_drop, -List.map_cons, -List.map_map]) ?_
  rfl
def radd_ann : Ann := { refs := [3], own := [19], base := 2, fin := some 2 }
set_option maxRecDepth 100000 in
theorem radd_spec (al : List Key) (k : Key) (g : Nat) (ha : al.length < 1000000) : ACalls Try.prog 46 [(.obj 0 0 0 0), (.agg (Key.row k))] ([⟨0, 2, [[(.int .i64 (((List.length al) : Nat) : Int)), (.osl 1 g 2 0 (List.length (recL al)))]], none⟩, ⟨g, 2, (List.map Key.row (recL al)), none⟩] : Heap) ((AV.int .i64 (((al ++ [k]).length : Nat) : Int)), ([⟨0, 2, [[(.int .i64 (((List.length (al ++ [k])) : Nat) : Int)), (.osl 1 (g + 1 + 1) 2 0 (List.length (recL (al ++ [k]))))]], none⟩, ⟨(g + 1 + 1), 2, (List.map Key.row (recL (al ++ [k]))), none⟩] : Heap)) := by
  have hr := recL_len al
  have h1 := recL_add al k
  have h2 : (recL al).length + 1 - ((recL al).length + 1 - 16) = (recL (al ++ [k])).length := by rw [← h1]; simp
  refine spec (fn := Try.f46) (ann := radd_ann) (t := (.reg [] [] [] (.reg [(4, ((AV.int .i64 (((List.length al) + 1 : Nat) : Int)), ([⟨0, 2, [[(.int .i64 (((List.length al) : Nat) : Int)), (.osl 1 g 2 0 (List.length (recL al)))]], none⟩, ⟨g, 2, (List.map Key.row (recL al)), none⟩] : Heap)))] [] [] (.reg [(7, ((AV.osl 1 (g + 1) 2 0 ((List.length (recL al)) + 1)), ([⟨0, 2, [[(.int .i64 (((List.length al) + 1 : Nat) : Int)), (.osl 1 g 2 0 (List.length (recL al)))]], none⟩, ⟨(g + 1), 2, (List.map Key.row ((recL al) ++ [k])), none⟩] : Heap)))] [] [] (.reg [(10, ((AV.int .i64 (((((List.length (recL al)) + 1) : Nat) : Int) - 16)), ([⟨0, 2, [[(.int .i64 (((List.length al) + 1 : Nat) : Int)), (.osl 1 (g + 1) 2 0 ((List.length (recL al)) + 1))]], none⟩, ⟨(g + 1), 2, (List.map Key.row ((recL al) ++ [k])), none⟩] : Heap))), (11, ((AV.int .i64 (((((List.length (recL al)) + 1) - 16) : Nat) : Int)), ([⟨0, 2, [[(.int .i64 (((List.length al) + 1 : Nat) : Int)), (.osl 1 (g + 1) 2 0 ((List.length (recL al)) + 1))]], none⟩, ⟨(g + 1), 2, (List.map Key.row ((recL al) ++ [k])), none⟩] : Heap))), (12, ((AV.osl 1 (g + 1) 2 (((List.length (recL al)) + 1) - 16) (((List.length (recL al)) + 1) - (((List.length (recL al)) + 1) - 16))), ([⟨0, 2, [[(.int .i64 (((List.length al) + 1 : Nat) : Int)), (.osl 1 (g + 1) 2 0 ((List.length (recL al)) + 1))]], none⟩, ⟨(g + 1), 2, (List.map Key.row ((recL al) ++ [k])), none⟩] : Heap))), (13, ((AV.osl 1 ((g + 1) + 1) 2 0 (((List.length (recL al)) + 1) - (((List.length (recL al)) + 1) - 16))), ([⟨0, 2, [[(.int .i64 (((List.length al) + 1 : Nat) : Int)), (.osl 1 (g + 1) 2 0 ((List.length (recL al)) + 1))]], none⟩, ⟨((g + 1) + 1), 2, (List.map Key.row (((recL al) ++ [k]).drop (((List.length (recL al)) + 1) - 16))), none⟩] : Heap)))] [] [] (.reg [] [] [] .nil)))))) (Nat.le_of_ble_eq_true (by kernel_rfl)) ⟨Try.func46, by kernel_rfl, by kernel_rfl, by kernel_rfl⟩ ?_
  refine Eq.mp (by kernel_rfl : ((Yes (.int .i64 (IntKind.i64.wrap ((((List.length al) : Nat) : Int) + 1))) ([⟨0, 2, [[(.int .i64 (((List.length al) : Nat) : Int)), (.osl 1 g 2 0 (List.length (recL al)))]], none⟩, ⟨g, 2, (List.map Key.row (recL al)), none⟩] : Heap) (AV.int .i64 (((List.length al) + 1 : Nat) : Int))) ∧ (evAppendO tt ([⟨0, 2, [[(.int .i64 (((List.length al) + 1 : Nat) : Int)), (.osl 1 g 2 0 (List.length (recL al)))]], none⟩, ⟨g, 2, (List.map Key.row (recL al)), none⟩] : Heap) 34 (AV.osl 1 g 2 0 (List.length (recL al))) (AV.sl .clip 2 [(Key.row k)]) = some ((AV.osl 1 (g + 1) 2 0 ((List.length (recL al)) + 1)), ([⟨0, 2, [[(.int .i64 (((List.length al) + 1 : Nat) : Int)), (.osl 1 g 2 0 (List.length (recL al)))]], none⟩, ⟨(g + 1), 2, (List.map Key.row ((recL al) ++ [k])), none⟩] : Heap))) ∧ (Yes (.int .i64 (IntKind.i64.wrap (((((List.length (recL al)) + 1) : Nat) : Int) - 16))) ([⟨0, 2, [[(.int .i64 (((List.length al) + 1 : Nat) : Int)), (.osl 1 (g + 1) 2 0 ((List.length (recL al)) + 1))]], none⟩, ⟨(g + 1), 2, (List.map Key.row ((recL al) ++ [k])), none⟩] : Heap) (AV.int .i64 (((((List.length (recL al)) + 1) : Nat) : Int) - 16))) ∧ (Yes (.int .i64 (if ((((List.length (recL al)) + 1) : Nat) : Int) - 16 > 0 then ((((List.length (recL al)) + 1) : Nat) : Int) - 16 else 0)) ([⟨0, 2, [[(.int .i64 (((List.length al) + 1 : Nat) : Int)), (.osl 1 (g + 1) 2 0 ((List.length (recL al)) + 1))]], none⟩, ⟨(g + 1), 2, (List.map Key.row ((recL al) ++ [k])), none⟩] : Heap) (AV.int .i64 (((((List.length (recL al)) + 1) - 16) : Nat) : Int))) ∧ (Option.map (fun a => (a, ([⟨0, 2, [[(.int .i64 (((List.length al) + 1 : Nat) : Int)), (.osl 1 (g + 1) 2 0 ((List.length (recL al)) + 1))]], none⟩, ⟨(g + 1), 2, (List.map Key.row ((recL al) ++ [k])), none⟩] : Heap))) ((bounds (((((List.length (recL al)) + 1) - 16) : Nat) : Int) ((((List.length (recL al)) + 1) : Nat) : Int) ((List.length (recL al)) + 1)).map fun p => AV.osl 1 (g + 1) 2 (0 + p.1) (p.2 - p.1)) = some ((AV.osl 1 (g + 1) 2 (((List.length (recL al)) + 1) - 16) (((List.length (recL al)) + 1) - (((List.length (recL al)) + 1) - 16))), ([⟨0, 2, [[(.int .i64 (((List.length al) + 1 : Nat) : Int)), (.osl 1 (g + 1) 2 0 ((List.length (recL al)) + 1))]], none⟩, ⟨(g + 1), 2, (List.map Key.row ((recL al) ++ [k])), none⟩] : Heap))) ∧ (ACalls Try.prog 89 [(.osl 1 (g + 1) 2 (((List.length (recL al)) + 1) - 16) (((List.length (recL al)) + 1) - (((List.length (recL al)) + 1) - 16)))] ([⟨0, 2, [[(.int .i64 (((List.length al) + 1 : Nat) : Int)), (.osl 1 (g + 1) 2 0 ((List.length (recL al)) + 1))]], none⟩, ⟨(g + 1), 2, (List.map Key.row ((recL al) ++ [k])), none⟩] : Heap) ((AV.osl 1 ((g + 1) + 1) 2 0 (((List.length (recL al)) + 1) - (((List.length (recL al)) + 1) - 16))), ([⟨0, 2, [[(.int .i64 (((List.length al) + 1 : Nat) : Int)), (.osl 1 (g + 1) 2 0 ((List.length (recL al)) + 1))]], none⟩, ⟨((g + 1) + 1), 2, (List.map Key.row (((recL al) ++ [k]).drop (((List.length (recL al)) + 1) - 16))), none⟩] : Heap))) ∧ (AV.bdd 2 (AV.int .i64 (((List.length al) + 1 : Nat) : Int)) = true ∧ obsB 2 ([⟨0, 2, [[(.int .i64 (((List.length al) + 1 : Nat) : Int)), (.osl 1 ((g + 1) + 1) 2 0 (((List.length (recL al)) + 1) - (((List.length (recL al)) + 1) - 16)))]], none⟩, ⟨((g + 1) + 1), 2, (List.map Key.row (((recL al) ++ [k]).drop (((List.length (recL al)) + 1) - 16))), none⟩] : Heap) = true) ∧ ((AV.int .i64 (((List.length al) + 1 : Nat) : Int)), ([⟨0, 2, [[(.int .i64 (((List.length al) + 1 : Nat) : Int)), (.osl 1 ((g + 1) + 1) 2 0 (((List.length (recL al)) + 1) - (((List.length (recL al)) + 1) - 16)))]], none⟩, ⟨((g + 1) + 1), 2, (List.map Key.row (((recL al) ++ [k]).drop (((List.length (recL al)) + 1) - 16))), none⟩] : Heap)) = ((AV.int .i64 (((al ++ [k]).length : Nat) : Int)), ([⟨0, 2, [[(.int .i64 (((List.length (al ++ [k])) : Nat) : Int)), (.osl 1 (g + 1 + 1) 2 0 (List.length (recL (al ++ [k]))))]], none⟩, ⟨(g + 1 + 1), 2, (List.map Key.row (recL (al ++ [k]))), none⟩] : Heap))) = _) ?_
  refine And.intro (Yes.add (by omega) (by omega) (by omega)) ?_
  refine And.intro (evAppendO_end (T := tt) (e := 31) (te := { d := .struct [(9, 0), (9, 1)], size := 2, bytes := 32, zero := [.str ⟨#[]⟩, .str ⟨#[]⟩] }) (z := 1) (b := 24) (y := [.sl .nil 0 []]) (row := Key.row) (l := (recL al)) (by kernel_rfl) (by kernel_rfl) rfl (by decide) (by decide) (by kernel_rfl) (by first | (simp [rowsIn, List.map_take, List.map_drop, List.take_of_length_le]; done) | simp [rowsIn, rU8, rI64, rStr, rBool]) (by first | omega | (simp; done) | (simp; omega)) rfl rfl (by first | omega | (show _ * 32 ≤ _; omega) | (simp; done) | (simp; omega))) ?_
  refine And.intro (Yes.add (by omega) (by omega) rfl) ?_
  refine And.intro (Yes.int (by split <;> omega)) ?_
  refine And.intro (slice_osl (l := (((List.length (recL al)) + 1) - 16)) (h := ((List.length (recL al)) + 1)) (by first | omega | (simp; done) | (simp; omega)) (by first | omega | (simp; done) | (simp; omega)) (by first | omega | (simp; done) | (simp; omega)) (by first | omega | (simp; done) | (simp; omega)) (by first | omega | (simp; done) | (simp; omega)) (by first | omega | (simp; done) | (simp; omega))) ?_
  refine And.intro ((ACalls.put (H1 := ([⟨((g + 1) + 1), 2, (List.map Key.row (((recL al) ++ [k]).drop (((List.length (recL al)) + 1) - 16))), none⟩] : Heap)) (N := ([] : Heap)) (Hg := ([⟨(g + 1), 2, (List.map Key.row ((recL al) ++ [k])), none⟩] : Heap)) (H1' := ([⟨((g + 1) + 1), 2, (List.map Key.row (((recL al) ++ [k]).drop (((List.length (recL al)) + 1) - 16))), none⟩] : Heap)) (N' := ([] : Heap)) [1] (cloneKS_spec ((recL al) ++ [k]) (g + 1) (((List.length (recL al)) + 1) - 16) (((List.length (recL al)) + 1) - (((List.length (recL al)) + 1) - 16)) (by first | omega | assumption | (simp; done) | (simp; omega) | (simp_all; done) | (simp_all; omega)) (by first | omega | assumption | (simp; done) | (simp; omega) | (simp_all; done) | (simp_all; omega))) (by kernel_rfl) rfl rfl (by kernel_rfl) (by first | (simp [obsB, AV.bddss, AV.bdds, AV.bdd]; done) | simp [obsB, AV.bddss, AV.bdds, AV.bdd, -List.map_append, -List.map_set, -List.map_take, -List.map_drop, -List.map_cons, -List.map_map]) rfl (⟨Ob.ren0 (Key.rows_bdd 0 _), trivial⟩) (⟨Ob.ren0 (Key.rows_bdd 0 _), trivial⟩) (trivial) rfl rfl).pre ⟨AV.wk_refl_any _, trivial⟩) ?_
  refine And.intro (by first | (simp [obsB, AV.bddss, AV.bdds, AV.bdd]; done) | simp [obsB, AV.bddss, AV.bdds, AV.bdd, -List.map_append, -List.map_set, -List.map_take, -List.map_drop, -List.map_cons, -List.map_map]) ?_
  rw [h2, h1, List.length_append]; rfl
def xadd_ann : Ann := { refs := [3], own := [11, 14], gha := [(1, .frzf 0 0 2)], base := 1, fin := some 1 }
set_option maxRecDepth 100000 in
theorem xadd_spec (al : List Key) (k : Key) (ha : al.length < 1000000) : ACalls Try.prog 83 [(.obj 0 0 0 0), (.agg (Key.row k))] ([⟨0, 1, [[(.sl .any 2 (List.map Key.row al))]], none⟩] : Heap) ((AV.int .i64 (((al ++ [k]).length : Nat) : Int)), ([⟨0, 1, [[(.sl .any 2 (List.map Key.row (al ++ [k])))]], none⟩] : Heap)) := by
  refine spec (fn := Try.f83) (ann := xadd_ann) (t := (.reg [] [] [] (.reg [(6, ((AV.osl 1 0 2 0 al.length), ([⟨0, 1, [[(.sl .any 2 (List.map Key.row al))]], none⟩, ⟨0, 2, (List.map Key.row al), none⟩] : Heap))), (9, ((AV.osl 1 1 2 0 (al.length + 1)), ([⟨0, 1, [[(.sl .any 2 (List.map Key.row al))]], none⟩, ⟨1, 2, (List.map Key.row (al ++ [k])), none⟩] : Heap)))] [] [(0, (List.map Key.row (al ++ [k])))] (.reg [(4, ((AV.int .i64 (((al ++ [k]).length : Nat) : Int)), ([⟨0, 1, [[(.sl .any 2 (List.map Key.row (al ++ [k])))]], none⟩, ⟨2, 2, [], none⟩] : Heap)))] [] [] .nil)))) (Nat.le_of_ble_eq_true (by kernel_rfl)) ⟨Try.func83, by kernel_rfl, by kernel_rfl, by kernel_rfl⟩ ?_
  refine Eq.mp (by kernel_rfl : ((evAppendO tt ([⟨0, 1, [[(.sl .any 2 (List.map Key.row al))]], none⟩] : Heap) 34 (AV.sl .clip 2 []) (AV.sl .any 2 (List.map Key.row al)) = some ((AV.osl 1 0 2 0 al.length), ([⟨0, 1, [[(.sl .any 2 (List.map Key.row al))]], none⟩, ⟨0, 2, (List.map Key.row al), none⟩] : Heap))) ∧ (evAppendO tt ([⟨0, 1, [[(.sl .any 2 (List.map Key.row al))]], none⟩, ⟨0, 2, (List.map Key.row al), none⟩] : Heap) 34 (AV.osl 1 0 2 0 al.length) (AV.sl .clip 2 [(Key.row k)]) = some ((AV.osl 1 1 2 0 (al.length + 1)), ([⟨0, 1, [[(.sl .any 2 (List.map Key.row al))]], none⟩, ⟨1, 2, (List.map Key.row (al ++ [k])), none⟩] : Heap))) ∧ (0 = 0 ∧ rowsIn ([⟨0, 1, [[(.osl 1 1 2 0 (al.length + 1))]], none⟩, ⟨1, 2, (List.map Key.row (al ++ [k])), none⟩] : Heap) 2 (AV.osl 1 1 2 0 (al.length + 1)) = some (List.map Key.row (al ++ [k])) ∧ AV.bddss 0 (List.map Key.row (al ++ [k])) = true) ∧ (Yes (.int .i64 ((List.length (List.map Key.row (al ++ [k])) : Nat) : Int)) ([⟨0, 1, [[(.sl .any 2 (List.map Key.row (al ++ [k])))]], none⟩, ⟨2, 2, [], none⟩] : Heap) (AV.int .i64 (((al ++ [k]).length : Nat) : Int))) ∧ (AV.bdd 1 (AV.int .i64 (((al ++ [k]).length : Nat) : Int)) = true ∧ obsB 1 ([⟨0, 1, [[(.sl .any 2 (List.map Key.row (al ++ [k])))]], none⟩] : Heap) = true) ∧ ((AV.int .i64 (((al ++ [k]).length : Nat) : Int)), ([⟨0, 1, [[(.sl .any 2 (List.map Key.row (al ++ [k])))]], none⟩] : Heap)) = ((AV.int .i64 (((al ++ [k]).length : Nat) : Int)), ([⟨0, 1, [[(.sl .any 2 (List.map Key.row (al ++ [k])))]], none⟩] : Heap))) = _) ?_
  refine And.intro (evAppendO_fresh (T := tt) (e := 31) (te := { d := .struct [(9, 0), (9, 1)], size := 2, bytes := 32, zero := [.str ⟨#[]⟩, .str ⟨#[]⟩] }) (z := 1) (b := 24) (y := [.sl .nil 0 []]) (row := Key.row) (by kernel_rfl) (by kernel_rfl) rfl (by decide) (by decide) (by simp) (by first | (simp [rowsIn, List.map_take, List.map_drop, List.take_of_length_le]; done) | simp [rowsIn, rU8, rI64, rStr, rBool]) rfl rfl rfl (by first | omega | (simp; done) | (simp; omega))) ?_
  refine And.intro (evAppendO_end (T := tt) (e := 31) (te := { d := .struct [(9, 0), (9, 1)], size := 2, bytes := 32, zero := [.str ⟨#[]⟩, .str ⟨#[]⟩] }) (z := 1) (b := 24) (y := [.sl .nil 0 []]) (row := Key.row) (l := al) (by kernel_rfl) (by kernel_rfl) rfl (by decide) (by decide) (by kernel_rfl) (by first | (simp [rowsIn, List.map_take, List.map_drop, List.take_of_length_le]; done) | simp [rowsIn, rU8, rI64, rStr, rBool]) (by first | omega | (simp; done) | (simp; omega)) rfl rfl (by first | omega | (show _ * 32 ≤ _; omega) | (simp; done) | (simp; omega))) ?_
  refine And.intro (And.intro rfl (And.intro (rowsIn_all (room := none) (by kernel_rfl) (by first | omega | (simp; done) | (simp; omega))) (Key.rows_bdd _ _))) ?_
  refine And.intro (Yes.len _ _ _) ?_
  refine And.intro (by first | (simp [obsB, AV.bddss, AV.bdds, AV.bdd]; done) | simp [obsB, AV.bddss, AV.bdds, AV.bdd, -List.map_append, -List.map_set, -List.map_take, -List.map_drop, -List.map_cons, -List.map_map]) ?_
  simp
end Go.Proofs.Ytcmfnfkahdconaa.AM

set_option maxRecDepth 100000
set_option linter.unusedVariables false
set_option linter.unusedSimpArgs false
namespace Go.Proofs.Ytcmfnfkahdconaa.AM
open Go Go.Proofs.Ytcmfnfkahdconaa
attribute [local irreducible] ACalls funT codeT codeQ LoopTo
attribute [local irreducible] hasK lastsK recL
theorem hasKeyO_spec (l : List Key) (v : Key) (g q n : Nat) (hn : q + n = l.length) (hl : l.length < 1099511627776) : ACalls Try.prog 95 [(.osl 0 g 2 q n), (.agg (Key.row v))] ([⟨g, 2, (List.map Key.row l), none⟩] : Heap) ((AV.bool (hasK (l.drop q) v)), ([⟨g, 2, (List.map Key.row l), none⟩] : Heap)) := by
  have h := hasKey_spec (l.drop q) v (by rw [List.length_drop]; omega)
  have e2 : ((l.map Key.row).drop q).take n = (l.drop q).map Key.row := by rw [List.map_drop]; exact List.take_of_length_le (by rw [List.length_drop, List.length_map]; omega)
  exact h.borrow rfl ⟨.osl (by simp [rowsIn, hn, e2]) (Key.rows_bdd _ _), .same (by simp [AV.bdd]), trivial⟩
def since_ann : Ann := { gh := [(11, .frz 7)], gha := [(2, .any 4 2), (4, .vir 7 2), (10, .cut 3)], base := 2, fin := some 2, live := [(6, [6, 7, 46, 47, 48])], out := [(6, [6, 7, 46, 47, 48])] }
set_option maxRecDepth 100000 in
theorem since_step (al : List Key) (gq : Nat) (q : Nat) (n : Nat) (out : List Key) (k : Nat) (g : Nat) (i : Nat) (hn : q + n = (recL al).length) (hl : (recL al).length < 1048576) (hk : k = out.length) (hki : k ≤ i) (hle_ : i ≤ n) {eX : Ex} {FX : Fr} {HX : Heap} (k1 : (decide (((i : Nat) : Int) < ((n : Nat) : Int))) = true → (!(hasK ((recL al).drop (q + (i + 1))) (nth (recL al) (q + i)))) = true → LoopTo (codeQ Try.prog (X since_ann) (loopOf Try.f50 0)) (some [6, 7, 46, 47, 48]) (some [6, 7, 46, 47, 48]) (mkF 66 [(6, (.osl 1 gq 2 q n)), (7, (.osl 2 (g + 1) 2 0 (k + 1))), (46, (.osl 1 gq 2 q n)), (47, (.int .i64 ((n : Nat) : Int))), (48, (.int .i64 ((i + 1 : Nat) : Int)))]) ([⟨0, 2, [[(.int .i64 (((List.length al) : Nat) : Int)), (.osl 1 gq 2 0 (List.length (recL al)))]], none⟩, ⟨gq, 2, (List.map Key.row (recL al)), none⟩, ⟨(g + 1), 2, (List.map Key.row (out ++ [(nth (recL al) (q + i))])), none⟩] : Heap) eX FX HX) (k2 : (decide (((i : Nat) : Int) < ((n : Nat) : Int))) = true → (!(hasK ((recL al).drop (q + (i + 1))) (nth (recL al) (q + i)))) = false → LoopTo (codeQ Try.prog (X since_ann) (loopOf Try.f50 0)) (some [6, 7, 46, 47, 48]) (some [6, 7, 46, 47, 48]) (mkF 66 [(6, (.osl 1 gq 2 q n)), (7, (.osl 2 g 2 0 k)), (46, (.osl 1 gq 2 q n)), (47, (.int .i64 ((n : Nat) : Int))), (48, (.int .i64 ((i + 1 : Nat) : Int)))]) ([⟨0, 2, [[(.int .i64 (((List.length al) : Nat) : Int)), (.osl 1 gq 2 0 (List.length (recL al)))]], none⟩, ⟨gq, 2, (List.map Key.row (recL al)), none⟩, ⟨g, 2, (List.map Key.row out), none⟩] : Heap) eX FX HX) (k3 : (decide (((i : Nat) : Int) < ((n : Nat) : Int))) = false → ((.exit 0 : Ex), (mkF 66 [(6, (.osl 1 gq 2 q n)), (7, (.osl 2 g 2 0 k)), (46, (.osl 1 gq 2 q n)), (47, (.int .i64 ((n : Nat) : Int))), (48, (.int .i64 ((i : Nat) : Int)))]), ([⟨0, 2, [[(.int .i64 (((List.length al) : Nat) : Int)), (.osl 1 gq 2 0 (List.length (recL al)))]], none⟩, ⟨gq, 2, (List.map Key.row (recL al)), none⟩, ⟨g, 2, (List.map Key.row out), none⟩] : Heap)) = (eX, FX, HX)) : LoopTo (codeQ Try.prog (X since_ann) (loopOf Try.f50 0)) (some [6, 7, 46, 47, 48]) (some [6, 7, 46, 47, 48]) (mkF 66 [(6, (.osl 1 gq 2 q n)), (7, (.osl 2 g 2 0 k)), (46, (.osl 1 gq 2 q n)), (47, (.int .i64 ((n : Nat) : Int))), (48, (.int .i64 ((i : Nat) : Int)))]) ([⟨0, 2, [[(.int .i64 (((List.length al) : Nat) : Int)), (.osl 1 gq 2 0 (List.length (recL al)))]], none⟩, ⟨gq, 2, (List.map Key.row (recL al)), none⟩, ⟨g, 2, (List.map Key.row out), none⟩] : Heap) eX FX HX := by
  refine LoopTo.step (.reg [] [] [] (.two (.reg [(1, ((AV.obj 1 gq (q + i) 0), ([⟨0, 2, [[(.int .i64 (((List.length al) : Nat) : Int)), (.osl 1 gq 2 0 (List.length (recL al)))]], none⟩, ⟨gq, 2, (List.map Key.row (recL al)), none⟩, ⟨g, 2, (List.map Key.row out), none⟩, ⟨0, 2, [[(.str ⟨#[]⟩), (.str ⟨#[]⟩)]], none⟩] : Heap))), (2, ((AV.agg (Key.row (nth (recL al) (q + i)))), ([⟨0, 2, [[(.int .i64 (((List.length al) : Nat) : Int)), (.osl 1 gq 2 0 (List.length (recL al)))]], none⟩, ⟨gq, 2, (List.map Key.row (recL al)), none⟩, ⟨g, 2, (List.map Key.row out), none⟩, ⟨0, 2, [[(.str ⟨#[]⟩), (.str ⟨#[]⟩)]], none⟩] : Heap)))] [] [] (.reg [(2, ((AV.int .i64 ((i + 1 : Nat) : Int)), ([⟨0, 2, [[(.int .i64 (((List.length al) : Nat) : Int)), (.osl 1 gq 2 0 (List.length (recL al)))]], none⟩, ⟨gq, 2, (List.map Key.row (recL al)), none⟩, ⟨g, 2, (List.map Key.row out), none⟩, ⟨0, 2, [(Key.row (nth (recL al) (q + i)))], none⟩] : Heap))), (3, ((AV.osl 1 gq 2 (q + (i + 1)) (n - (i + 1))), ([⟨0, 2, [[(.int .i64 (((List.length al) : Nat) : Int)), (.osl 1 gq 2 0 (List.length (recL al)))]], none⟩, ⟨gq, 2, (List.map Key.row (recL al)), none⟩, ⟨g, 2, (List.map Key.row out), none⟩, ⟨0, 2, [(Key.row (nth (recL al) (q + i)))], none⟩] : Heap))), (5, ((AV.bool (hasK ((recL al).drop (q + (i + 1))) (nth (recL al) (q + i)))), ([⟨0, 2, [[(.int .i64 (((List.length al) : Nat) : Int)), (.osl 1 gq 2 0 (List.length (recL al)))]], none⟩, ⟨gq, 2, (List.map Key.row (recL al)), none⟩, ⟨g, 2, (List.map Key.row out), none⟩, ⟨0, 2, [(Key.row (nth (recL al) (q + i)))], none⟩] : Heap)))] [] [] (.two (.reg [(3, ((AV.osl 2 (g + 1) 2 0 (k + 1)), ([⟨0, 2, [[(.int .i64 (((List.length al) : Nat) : Int)), (.osl 1 gq 2 0 (List.length (recL al)))]], none⟩, ⟨gq, 2, (List.map Key.row (recL al)), none⟩, ⟨(g + 1), 2, (List.map Key.row (out ++ [(nth (recL al) (q + i))])), none⟩, ⟨0, 2, [(Key.row (nth (recL al) (q + i)))], none⟩] : Heap)))] [] [] (.reg [(0, ((AV.int .i64 ((i + 1 : Nat) : Int)), ([⟨0, 2, [[(.int .i64 (((List.length al) : Nat) : Int)), (.osl 1 gq 2 0 (List.length (recL al)))]], none⟩, ⟨gq, 2, (List.map Key.row (recL al)), none⟩, ⟨(g + 1), 2, (List.map Key.row (out ++ [(nth (recL al) (q + i))])), none⟩, ⟨0, 2, [(Key.row (nth (recL al) (q + i)))], none⟩] : Heap)))] [] [] .nil)) (.reg [(0, ((AV.int .i64 ((i + 1 : Nat) : Int)), ([⟨0, 2, [[(.int .i64 (((List.length al) : Nat) : Int)), (.osl 1 gq 2 0 (List.length (recL al)))]], none⟩, ⟨gq, 2, (List.map Key.row (recL al)), none⟩, ⟨g, 2, (List.map Key.row out), none⟩, ⟨0, 2, [(Key.row (nth (recL al) (q + i)))], none⟩] : Heap)))] [] [] .nil)))) .nil)) ?_
  refine Eq.mp (by kernel_rfl : (cond (decide (((i : Nat) : Int) < ((n : Nat) : Int))) ((IdxOsl 1 gq 2 2 q n ((i : Nat) : Int) ([⟨0, 2, [[(.int .i64 (((List.length al) : Nat) : Int)), (.osl 1 gq 2 0 (List.length (recL al)))]], none⟩, ⟨gq, 2, (List.map Key.row (recL al)), none⟩, ⟨g, 2, (List.map Key.row out), none⟩, ⟨0, 2, [[(.str ⟨#[]⟩), (.str ⟨#[]⟩)]], none⟩] : Heap) (q + i)) ∧ (LoadTo tt 31 0 ([⟨0, 2, [[(.int .i64 (((List.length al) : Nat) : Int)), (.osl 1 gq 2 0 (List.length (recL al)))]], none⟩, ⟨gq, 2, (List.map Key.row (recL al)), none⟩, ⟨g, 2, (List.map Key.row out), none⟩, ⟨0, 2, [[(.str ⟨#[]⟩), (.str ⟨#[]⟩)]], none⟩] : Heap) (rowAt ([⟨0, 2, [[(.int .i64 (((List.length al) : Nat) : Int)), (.osl 1 gq 2 0 (List.length (recL al)))]], none⟩, ⟨gq, 2, (List.map Key.row (recL al)), none⟩, ⟨g, 2, (List.map Key.row out), none⟩, ⟨0, 2, [[(.str ⟨#[]⟩), (.str ⟨#[]⟩)]], none⟩] : Heap) 1 gq (q + i)) = some ((AV.agg (Key.row (nth (recL al) (q + i)))), ([⟨0, 2, [[(.int .i64 (((List.length al) : Nat) : Int)), (.osl 1 gq 2 0 (List.length (recL al)))]], none⟩, ⟨gq, 2, (List.map Key.row (recL al)), none⟩, ⟨g, 2, (List.map Key.row out), none⟩, ⟨0, 2, [[(.str ⟨#[]⟩), (.str ⟨#[]⟩)]], none⟩] : Heap))) ∧ (Yes (.int .i64 (IntKind.i64.wrap (((i : Nat) : Int) + 1))) ([⟨0, 2, [[(.int .i64 (((List.length al) : Nat) : Int)), (.osl 1 gq 2 0 (List.length (recL al)))]], none⟩, ⟨gq, 2, (List.map Key.row (recL al)), none⟩, ⟨g, 2, (List.map Key.row out), none⟩, ⟨0, 2, [(Key.row (nth (recL al) (q + i)))], none⟩] : Heap) (AV.int .i64 ((i + 1 : Nat) : Int))) ∧ (Option.map (fun a => (a, ([⟨0, 2, [[(.int .i64 (((List.length al) : Nat) : Int)), (.osl 1 gq 2 0 (List.length (recL al)))]], none⟩, ⟨gq, 2, (List.map Key.row (recL al)), none⟩, ⟨g, 2, (List.map Key.row out), none⟩, ⟨0, 2, [(Key.row (nth (recL al) (q + i)))], none⟩] : Heap))) ((bounds ((i + 1 : Nat) : Int) ((n : Nat) : Int) n).map fun p => AV.osl 1 gq 2 (q + p.1) (p.2 - p.1)) = some ((AV.osl 1 gq 2 (q + (i + 1)) (n - (i + 1))), ([⟨0, 2, [[(.int .i64 (((List.length al) : Nat) : Int)), (.osl 1 gq 2 0 (List.length (recL al)))]], none⟩, ⟨gq, 2, (List.map Key.row (recL al)), none⟩, ⟨g, 2, (List.map Key.row out), none⟩, ⟨0, 2, [(Key.row (nth (recL al) (q + i)))], none⟩] : Heap))) ∧ (ACalls Try.prog 95 [(.osl 1 gq 2 (q + (i + 1)) (n - (i + 1))), (.agg (Key.row (nth (recL al) (q + i))))] ([⟨0, 2, [[(.int .i64 (((List.length al) : Nat) : Int)), (.osl 1 gq 2 0 (List.length (recL al)))]], none⟩, ⟨gq, 2, (List.map Key.row (recL al)), none⟩, ⟨g, 2, (List.map Key.row out), none⟩, ⟨0, 2, [(Key.row (nth (recL al) (q + i)))], none⟩] : Heap) ((AV.bool (hasK ((recL al).drop (q + (i + 1))) (nth (recL al) (q + i)))), ([⟨0, 2, [[(.int .i64 (((List.length al) : Nat) : Int)), (.osl 1 gq 2 0 (List.length (recL al)))]], none⟩, ⟨gq, 2, (List.map Key.row (recL al)), none⟩, ⟨g, 2, (List.map Key.row out), none⟩, ⟨0, 2, [(Key.row (nth (recL al) (q + i)))], none⟩] : Heap))) ∧ cond (!(hasK ((recL al).drop (q + (i + 1))) (nth (recL al) (q + i)))) ((evAppend tt ([⟨0, 2, [[(.int .i64 (((List.length al) : Nat) : Int)), (.osl 1 gq 2 0 (List.length (recL al)))]], none⟩, ⟨gq, 2, (List.map Key.row (recL al)), none⟩, ⟨g, 2, (List.map Key.row out), none⟩, ⟨0, 2, [(Key.row (nth (recL al) (q + i)))], none⟩] : Heap) 34 (AV.osl 2 g 2 0 k) (AV.sl .clip 2 [(Key.row (nth (recL al) (q + i)))]) = some ((AV.osl 2 (g + 1) 2 0 (k + 1)), ([⟨0, 2, [[(.int .i64 (((List.length al) : Nat) : Int)), (.osl 1 gq 2 0 (List.length (recL al)))]], none⟩, ⟨gq, 2, (List.map Key.row (recL al)), none⟩, ⟨(g + 1), 2, (List.map Key.row (out ++ [(nth (recL al) (q + i))])), none⟩, ⟨0, 2, [(Key.row (nth (recL al) (q + i)))], none⟩] : Heap))) ∧ (Yes (.int .i64 (IntKind.i64.wrap (((i : Nat) : Int) + 1))) ([⟨0, 2, [[(.int .i64 (((List.length al) : Nat) : Int)), (.osl 1 gq 2 0 (List.length (recL al)))]], none⟩, ⟨gq, 2, (List.map Key.row (recL al)), none⟩, ⟨(g + 1), 2, (List.map Key.row (out ++ [(nth (recL al) (q + i))])), none⟩, ⟨0, 2, [(Key.row (nth (recL al) (q + i)))], none⟩] : Heap) (AV.int .i64 ((i + 1 : Nat) : Int))) ∧ (obsB 3 ([⟨0, 2, [[(.int .i64 (((List.length al) : Nat) : Int)), (.osl 1 gq 2 0 (List.length (recL al)))]], none⟩, ⟨gq, 2, (List.map Key.row (recL al)), none⟩, ⟨(g + 1), 2, (List.map Key.row (out ++ [(nth (recL al) (q + i))])), none⟩] : Heap) = true) ∧ LoopTo (codeQ Try.prog (X since_ann) (loopOf Try.f50 0)) (some [6, 7, 46, 47, 48]) (some [6, 7, 46, 47, 48]) (mkF 66 [(6, (.osl 1 gq 2 q n)), (7, (.osl 2 (g + 1) 2 0 (k + 1))), (46, (.osl 1 gq 2 q n)), (47, (.int .i64 ((n : Nat) : Int))), (48, (.int .i64 ((i + 1 : Nat) : Int)))]) ([⟨0, 2, [[(.int .i64 (((List.length al) : Nat) : Int)), (.osl 1 gq 2 0 (List.length (recL al)))]], none⟩, ⟨gq, 2, (List.map Key.row (recL al)), none⟩, ⟨(g + 1), 2, (List.map Key.row (out ++ [(nth (recL al) (q + i))])), none⟩] : Heap) eX FX HX) ((Yes (.int .i64 (IntKind.i64.wrap (((i : Nat) : Int) + 1))) ([⟨0, 2, [[(.int .i64 (((List.length al) : Nat) : Int)), (.osl 1 gq 2 0 (List.length (recL al)))]], none⟩, ⟨gq, 2, (List.map Key.row (recL al)), none⟩, ⟨g, 2, (List.map Key.row out), none⟩, ⟨0, 2, [(Key.row (nth (recL al) (q + i)))], none⟩] : Heap) (AV.int .i64 ((i + 1 : Nat) : Int))) ∧ (obsB 3 ([⟨0, 2, [[(.int .i64 (((List.length al) : Nat) : Int)), (.osl 1 gq 2 0 (List.length (recL al)))]], none⟩, ⟨gq, 2, (List.map Key.row (recL al)), none⟩, ⟨g, 2, (List.map Key.row out), none⟩] : Heap) = true) ∧ LoopTo (codeQ Try.prog (X since_ann) (loopOf Try.f50 0)) (some [6, 7, 46, 47, 48]) (some [6, 7, 46, 47, 48]) (mkF 66 [(6, (.osl 1 gq 2 q n)), (7, (.osl 2 g 2 0 k)), (46, (.osl 1 gq 2 q n)), (47, (.int .i64 ((n : Nat) : Int))), (48, (.int .i64 ((i + 1 : Nat) : Int)))]) ([⟨0, 2, [[(.int .i64 (((List.length al) : Nat) : Int)), (.osl 1 gq 2 0 (List.length (recL al)))]], none⟩, ⟨gq, 2, (List.map Key.row (recL al)), none⟩, ⟨g, 2, (List.map Key.row out), none⟩] : Heap) eX FX HX)) (((.exit 0 : Ex), (mkF 66 [(6, (.osl 1 gq 2 q n)), (7, (.osl 2 g 2 0 k)), (46, (.osl 1 gq 2 q n)), (47, (.int .i64 ((n : Nat) : Int))), (48, (.int .i64 ((i : Nat) : Int)))]), ([⟨0, 2, [[(.int .i64 (((List.length al) : Nat) : Int)), (.osl 1 gq 2 0 (List.length (recL al)))]], none⟩, ⟨gq, 2, (List.map Key.row (recL al)), none⟩, ⟨g, 2, (List.map Key.row out), none⟩] : Heap)) = (eX, FX, HX))) = _) ?_
  refine cond_split (fun h1 => ?_) (fun h1 => ?_)
  · have h1' := h1
    try simp at h1'
    refine And.intro (IdxOsl.mko i _ (by omega) (by omega) (by omega)) ?_
    refine And.intro (load_row (rowAt_map (row := Key.row) (l := (recL al)) (k := 2) (room := none) (by kernel_rfl) (by first | omega | (simp; done) | (simp; omega))) (by kernel_rfl)) ?_
    refine And.intro (Yes.add (by omega) (by omega) (by omega)) ?_
    refine And.intro (slice_osl (l := i + 1) (h := n) (by first | omega | (simp; done) | (simp; omega)) (by first | omega | (simp; done) | (simp; omega)) (by first | omega | (simp; done) | (simp; omega)) (by first | omega | (simp; done) | (simp; omega)) (by first | omega | (simp; done) | (simp; omega)) (by first | omega | (simp; done) | (simp; omega))) ?_
    refine And.intro ((ACalls.put (H1 := ([⟨gq, 2, (List.map Key.row (recL al)), none⟩] : Heap)) (N := ([] : Heap)) (Hg := ([⟨gq, 2, (List.map Key.row (recL al)), none⟩] : Heap)) (H1' := ([⟨gq, 2, (List.map Key.row (recL al)), none⟩] : Heap)) (N' := ([] : Heap)) [1] (hasKeyO_spec (recL al) (nth (recL al) (q + i)) gq (q + (i + 1)) (n - (i + 1)) (by first | omega | assumption | (simp; done) | (simp; omega) | (simp_all; done) | (simp_all; omega)) (by first | omega | assumption | (simp; done) | (simp; omega) | (simp_all; done) | (simp_all; omega))) (by kernel_rfl) rfl rfl (by kernel_rfl) (by first | (simp [obsB, AV.bddss, AV.bdds, AV.bdd]; done) | simp [obsB, AV.bddss, AV.bdds, AV.bdd, -List.map_append, -List.map_set, -List.map_take, -List.map_drop, -List.map_cons, -List.map_map]) rfl (⟨Ob.ren0 (Key.rows_bdd 0 _), trivial⟩) (⟨Ob.ren0 (Key.rows_bdd 0 _), trivial⟩) (trivial) rfl rfl).pre ⟨AV.wk_refl_any _, AV.wk_refl_any _, trivial⟩) ?_
    refine cond_split (fun h2 => ?_) (fun h2 => ?_)
    · have h2' := h2
      try simp at h2'
      refine And.intro (evAppend_one (row := Key.row) (l := out) (x := (nth (recL al) (q + i))) (T := tt) (e := 31) (te := { d := .struct [(9, 0), (9, 1)], size := 2, bytes := 32, zero := [.str ⟨#[]⟩, .str ⟨#[]⟩] }) (z := 1) (b := 24) (y := [.sl .nil 0 []]) (by kernel_rfl) (by kernel_rfl) rfl (by decide) (by decide) (by kernel_rfl) (by first | assumption | omega | (simp; done) | (simp; omega)) rfl rfl (by first | omega | (show _ * 32 ≤ _; omega) | (simp; omega))) ?_
      refine And.intro (Yes.add (by omega) (by omega) (by omega)) ?_
      refine And.intro (by first | (simp [obsB, AV.bddss, AV.bdds, AV.bdd]; done) | simp [obsB, AV.bddss, AV.bdds, AV.bdd, -List.map_append, -List.map_set, -List.map_take, -List.map_drop, -List.map_cons, -List.map_map]) ?_
      exact k1 h1 h2
    · have h2' := h2
      try simp at h2'
      refine And.intro (Yes.add (by omega) (by omega) (by omega)) ?_
      refine And.intro (by first | (simp [obsB, AV.bddss, AV.bdds, AV.bdd]; done) | simp [obsB, AV.bddss, AV.bdds, AV.bdd, -List.map_append, -List.map_set, -List.map_take, -List.map_drop, -List.map_cons, -List.map_map]) ?_
      exact k2 h1 h2
  · have h1' := h1
    try simp at h1'
    exact k3 h1
def since_f (al : List Key) (gq : Nat) (q : Nat) (n : Nat) (i : Nat) (s : (List Key) × Nat × Nat) : (List Key) × Nat × Nat := (if (!(hasK ((recL al).drop (q + (i + 1))) (nth (recL al) (q + i)))) = true then (s.1 ++ [(nth (recL al) (q + i))], (s.2.1 + 1), (s.2.2 + 1)) else (s.1, s.2.1, s.2.2))
theorem since_loop (al : List Key) (gq : Nat) (q : Nat) (n : Nat) (hn : q + n = (recL al).length) (hl : (recL al).length < 1048576)  (r_ : Nat) : ∀ (out : List Key) (k : Nat) (g : Nat) (i : Nat) (sF : (List Key) × Nat × Nat), i + r_ = n → k = out.length → k ≤ i → sF = iter (since_f al gq q n) r_ i (out, k, g) →
    LoopTo (codeQ Try.prog (X since_ann) (loopOf Try.f50 0)) (some [6, 7, 46, 47, 48]) (some [6, 7, 46, 47, 48]) (mkF 66 [(6, (.osl 1 gq 2 q n)), (7, (.osl 2 g 2 0 k)), (46, (.osl 1 gq 2 q n)), (47, (.int .i64 ((n : Nat) : Int))), (48, (.int .i64 ((i : Nat) : Int)))]) ([⟨0, 2, [[(.int .i64 (((List.length al) : Nat) : Int)), (.osl 1 gq 2 0 (List.length (recL al)))]], none⟩, ⟨gq, 2, (List.map Key.row (recL al)), none⟩, ⟨g, 2, (List.map Key.row out), none⟩] : Heap) (.exit 0) (mkF 66 [(6, (.osl 1 gq 2 q n)), (7, (.osl 2 sF.2.2 2 0 sF.2.1)), (46, (.osl 1 gq 2 q n)), (47, (.int .i64 ((n : Nat) : Int))), (48, (.int .i64 ((n : Nat) : Int)))]) ([⟨0, 2, [[(.int .i64 (((List.length al) : Nat) : Int)), (.osl 1 gq 2 0 (List.length (recL al)))]], none⟩, ⟨gq, 2, (List.map Key.row (recL al)), none⟩, ⟨sF.2.2, 2, (List.map Key.row sF.1), none⟩] : Heap) := by
  induction r_ with
  | zero =>
    intro out k g i sF hi_ hk hki  hF
    obtain rfl : n = i := by omega
    have e_ : sF = (out, k, g) := hF
    refine since_step al gq q n out k g n hn hl hk hki (Nat.le_refl _) (fun h _ => by simp at h <;> omega) (fun h _ => by simp at h <;> omega) (fun _ => ?_)
    first | done | rfl | (rw [e_]; done) | (rw [e_]; rfl)
  | succ r_ ih =>
    intro out k g i sF hi_ hk hki  hF
    refine since_step al gq q n out k g i hn hl hk hki (by omega) (fun h1 h2 => ?_) (fun h1 h2 => ?_) (fun h => by simp at h <;> omega)
    · exact ih (out ++ [(nth (recL al) (q + i))]) (k + 1) (g + 1) (i + 1) sF (by omega) (by first | omega | assumption | (simp; done) | (simp; omega) | (simp [*]; done) | (simp [*]; omega)) (by first | omega | assumption | (simp; done) | (simp; omega) | (simp [*]; done) | (simp [*]; omega))  (by rw [hF] <;> simp only [iter, since_f, h2, if_true, Bool.false_eq_true, if_false])
    · exact ih out k g (i + 1) sF (by omega) (by first | omega | assumption | (simp; done) | (simp; omega) | (simp [*]; done) | (simp [*]; omega)) (by first | omega | assumption | (simp; done) | (simp; omega) | (simp [*]; done) | (simp [*]; omega))  (by rw [hF] <;> simp only [iter, since_f, h2, if_true, Bool.false_eq_true, if_false])
theorem since_iter0 (al : List Key) (gq q n : Nat) (hn : q + n = (recL al).length) (r : Nat) : ∀ (i : Nat) (out : List Key) (k g : Nat), i + r = n →
    iter (since_f al gq q n) r i (out, k, g) = (out ++ lastsK ((recL al).drop (q + i)), k + (lastsK ((recL al).drop (q + i))).length, g + (lastsK ((recL al).drop (q + i))).length) := by
  induction r with
  | zero =>
    intro i out k g hi
    have : (recL al).drop (q + i) = [] := List.drop_of_length_le (by omega)
    rw [this]; simp [iter, lastsK]
  | succ r ih =>
    intro i out k g hi
    rw [drop_nth (show q + i < (recL al).length by omega)]
    simp only [iter, lastsK, since_f]
    have e1 : q + i + 1 = q + (i + 1) := by omega
    rw [e1]
    by_cases h : (!(hasK ((recL al).drop (q + (i + 1))) (nth (recL al) (q + i)))) = true
    · rw [if_pos h, if_pos h, ih (i + 1) _ _ _ (by omega)]; simp; omega
    · rw [if_neg h, if_neg h, ih (i + 1) _ _ _ (by omega)]
theorem since_iter (al : List Key) (gq q n : Nat) (hn : q + n = (recL al).length) : (lastsK ((recL al).drop q), (lastsK ((recL al).drop q)).length, (lastsK ((recL al).drop q)).length) = iter (since_f al gq q n) n 0 ([], 0, 0) := by
  rw [since_iter0 al gq q n hn n 0 [] 0 0 (by omega)]; simp
set_option maxRecDepth 100000 in
theorem sinceS_spec (al : List Key) (g : Nat) (n : Nat) (ha : al.length < 1000000) (h1 : n ≤ al.length) (h2 : al.length - n ≤ 16) : ACalls Try.prog 50 [(.obj 0 0 0 0), (.int .i64 ((n : Nat) : Int))] ([⟨0, 2, [[(.int .i64 (((List.length al) : Nat) : Int)), (.osl 1 g 2 0 (List.length (recL al)))]], none⟩, ⟨g, 2, (List.map Key.row (recL al)), none⟩] : Heap) ((AV.tup [(.sl .any 2 (List.map Key.row (lastsK (al.drop n)))), (.bool true)]), ([⟨0, 2, [[(.int .i64 (((List.length al) : Nat) : Int)), (.osl 1 g 2 0 (List.length (recL al)))]], none⟩, ⟨g, 2, (List.map Key.row (recL al)), none⟩] : Heap)) := by
  have hr := recL_len al
  have h3 := recL_since h1 h2
  have h4 := lastsK_len (al.drop n)
  have h5 : (al.drop n).length = al.length - n := List.length_drop
  refine spec (fn := Try.f50) (ann := since_ann) (t := (.reg [] [] [] (.reg [(1, ((AV.bool false), ([⟨0, 2, [[(.int .i64 (((List.length al) : Nat) : Int)), (.osl 1 g 2 0 (List.length (recL al)))]], none⟩, ⟨g, 2, (List.map Key.row (recL al)), none⟩] : Heap))), (8, ((AV.bool false), ([⟨0, 2, [[(.int .i64 (((List.length al) : Nat) : Int)), (.osl 1 g 2 0 (List.length (recL al)))]], none⟩, ⟨g, 2, (List.map Key.row (recL al)), none⟩] : Heap))), (16, ((AV.int .i64 (((List.length al) - n : Nat) : Int)), ([⟨0, 2, [[(.int .i64 (((List.length al) : Nat) : Int)), (.osl 1 g 2 0 (List.length (recL al)))]], none⟩, ⟨g, 2, (List.map Key.row (recL al)), none⟩] : Heap))), (17, ((AV.bool false), ([⟨0, 2, [[(.int .i64 (((List.length al) : Nat) : Int)), (.osl 1 g 2 0 (List.length (recL al)))]], none⟩, ⟨g, 2, (List.map Key.row (recL al)), none⟩] : Heap)))] [] [] (.two .nil (.two .nil (.two .nil (.two .nil (.two .nil (.two .nil (.two .nil (.two .nil (.two .nil (.two .nil (.two .nil (.two .nil (.two .nil (.two .nil (.reg [(14, ((AV.int .i64 (((List.length al) - n : Nat) : Int)), ([⟨0, 2, [[(.int .i64 (((List.length al) : Nat) : Int)), (.osl 1 g 2 0 (List.length (recL al)))]], none⟩, ⟨g, 2, (List.map Key.row (recL al)), none⟩] : Heap))), (15, ((AV.int .i64 (((List.length (recL al)) - ((List.length al) - n) : Nat) : Int)), ([⟨0, 2, [[(.int .i64 (((List.length al) : Nat) : Int)), (.osl 1 g 2 0 (List.length (recL al)))]], none⟩, ⟨g, 2, (List.map Key.row (recL al)), none⟩] : Heap))), (16, ((AV.osl 1 g 2 ((List.length (recL al)) - ((List.length al) - n)) ((List.length (recL al)) - ((List.length (recL al)) - ((List.length al) - n)))), ([⟨0, 2, [[(.int .i64 (((List.length al) : Nat) : Int)), (.osl 1 g 2 0 (List.length (recL al)))]], none⟩, ⟨g, 2, (List.map Key.row (recL al)), none⟩] : Heap)))] [] [] (.reg [] [] [] (.reg [] [] [] (.loop (.exit 0) (mkF 66 [(6, (.osl 1 g 2 ((List.length (recL al)) - ((List.length al) - n)) ((List.length (recL al)) - ((List.length (recL al)) - ((List.length al) - n))))), (7, (.osl 2 (lastsK ((recL al).drop ((List.length (recL al)) - ((List.length al) - n)))).length 2 0 (lastsK ((recL al).drop ((List.length (recL al)) - ((List.length al) - n)))).length)), (46, (.osl 1 g 2 ((List.length (recL al)) - ((List.length al) - n)) ((List.length (recL al)) - ((List.length (recL al)) - ((List.length al) - n))))), (47, (.int .i64 ((((List.length (recL al)) - ((List.length (recL al)) - ((List.length al) - n))) : Nat) : Int))), (48, (.int .i64 ((((List.length (recL al)) - ((List.length (recL al)) - ((List.length al) - n))) : Nat) : Int)))]) ([⟨0, 2, [[(.int .i64 (((List.length al) : Nat) : Int)), (.osl 1 g 2 0 (List.length (recL al)))]], none⟩, ⟨g, 2, (List.map Key.row (recL al)), none⟩, ⟨(lastsK ((recL al).drop ((List.length (recL al)) - ((List.length al) - n)))).length, 2, (List.map Key.row (lastsK ((recL al).drop ((List.length (recL al)) - ((List.length al) - n))))), none⟩] : Heap) (.reg [] [(7, (List.map Key.row (lastsK ((recL al).drop ((List.length (recL al)) - ((List.length al) - n))))))] [] .nil)))))))))))))))))))))) (Nat.le_of_ble_eq_true (by kernel_rfl)) ⟨Try.func50, by kernel_rfl, by kernel_rfl, by kernel_rfl⟩ ?_
  refine Eq.mp (by kernel_rfl : ((Yes (AV.bool (decide (((n : Nat) : Int) < 0))) ([⟨0, 2, [[(.int .i64 (((List.length al) : Nat) : Int)), (.osl 1 g 2 0 (List.length (recL al)))]], none⟩, ⟨g, 2, (List.map Key.row (recL al)), none⟩] : Heap) (AV.bool false)) ∧ (Yes (AV.bool (decide (((n : Nat) : Int) > (((List.length al) : Nat) : Int)))) ([⟨0, 2, [[(.int .i64 (((List.length al) : Nat) : Int)), (.osl 1 g 2 0 (List.length (recL al)))]], none⟩, ⟨g, 2, (List.map Key.row (recL al)), none⟩] : Heap) (AV.bool false)) ∧ (Yes (.int .i64 (IntKind.i64.wrap ((((List.length al) : Nat) : Int) - ((n : Nat) : Int)))) ([⟨0, 2, [[(.int .i64 (((List.length al) : Nat) : Int)), (.osl 1 g 2 0 (List.length (recL al)))]], none⟩, ⟨g, 2, (List.map Key.row (recL al)), none⟩] : Heap) (AV.int .i64 (((List.length al) - n : Nat) : Int))) ∧ (Yes (AV.bool (decide ((((List.length al) - n : Nat) : Int) > 16))) ([⟨0, 2, [[(.int .i64 (((List.length al) : Nat) : Int)), (.osl 1 g 2 0 (List.length (recL al)))]], none⟩, ⟨g, 2, (List.map Key.row (recL al)), none⟩] : Heap) (AV.bool false)) ∧ (Yes (.int .i64 (IntKind.i64.wrap ((((List.length al) : Nat) : Int) - ((n : Nat) : Int)))) ([⟨0, 2, [[(.int .i64 (((List.length al) : Nat) : Int)), (.osl 1 g 2 0 (List.length (recL al)))]], none⟩, ⟨g, 2, (List.map Key.row (recL al)), none⟩] : Heap) (AV.int .i64 (((List.length al) - n : Nat) : Int))) ∧ (Yes (.int .i64 (IntKind.i64.wrap ((((List.length (recL al)) : Nat) : Int) - (((List.length al) - n : Nat) : Int)))) ([⟨0, 2, [[(.int .i64 (((List.length al) : Nat) : Int)), (.osl 1 g 2 0 (List.length (recL al)))]], none⟩, ⟨g, 2, (List.map Key.row (recL al)), none⟩] : Heap) (AV.int .i64 (((List.length (recL al)) - ((List.length al) - n) : Nat) : Int))) ∧ (Option.map (fun a => (a, ([⟨0, 2, [[(.int .i64 (((List.length al) : Nat) : Int)), (.osl 1 g 2 0 (List.length (recL al)))]], none⟩, ⟨g, 2, (List.map Key.row (recL al)), none⟩] : Heap))) ((bounds (((List.length (recL al)) - ((List.length al) - n) : Nat) : Int) (((List.length (recL al)) : Nat) : Int) (List.length (recL al))).map fun p => AV.osl 1 g 2 (0 + p.1) (p.2 - p.1)) = some ((AV.osl 1 g 2 ((List.length (recL al)) - ((List.length al) - n)) ((List.length (recL al)) - ((List.length (recL al)) - ((List.length al) - n)))), ([⟨0, 2, [[(.int .i64 (((List.length al) : Nat) : Int)), (.osl 1 g 2 0 (List.length (recL al)))]], none⟩, ⟨g, 2, (List.map Key.row (recL al)), none⟩] : Heap))) ∧ (LoopTo (codeQ Try.prog (X since_ann) (loopOf Try.f50 0)) (some [6, 7, 46, 47, 48]) (some [6, 7, 46, 47, 48]) (mkF 66 [(6, (.osl 1 g 2 ((List.length (recL al)) - ((List.length al) - n)) ((List.length (recL al)) - ((List.length (recL al)) - ((List.length al) - n))))), (7, (.osl 2 0 2 0 0)), (46, (.osl 1 g 2 ((List.length (recL al)) - ((List.length al) - n)) ((List.length (recL al)) - ((List.length (recL al)) - ((List.length al) - n))))), (47, (.int .i64 (((List.length (recL al)) - ((List.length (recL al)) - ((List.length al) - n)) : Nat) : Int))), (48, (.int .i64 0))]) ([⟨0, 2, [[(.int .i64 (((List.length al) : Nat) : Int)), (.osl 1 g 2 0 (List.length (recL al)))]], none⟩, ⟨g, 2, (List.map Key.row (recL al)), none⟩, ⟨0, 2, (List.map Key.row []), none⟩] : Heap) (.exit 0) (mkF 66 [(6, (.osl 1 g 2 ((List.length (recL al)) - ((List.length al) - n)) ((List.length (recL al)) - ((List.length (recL al)) - ((List.length al) - n))))), (7, (.osl 2 (lastsK ((recL al).drop ((List.length (recL al)) - ((List.length al) - n)))).length 2 0 (lastsK ((recL al).drop ((List.length (recL al)) - ((List.length al) - n)))).length)), (46, (.osl 1 g 2 ((List.length (recL al)) - ((List.length al) - n)) ((List.length (recL al)) - ((List.length (recL al)) - ((List.length al) - n))))), (47, (.int .i64 ((((List.length (recL al)) - ((List.length (recL al)) - ((List.length al) - n))) : Nat) : Int))), (48, (.int .i64 ((((List.length (recL al)) - ((List.length (recL al)) - ((List.length al) - n))) : Nat) : Int)))]) ([⟨0, 2, [[(.int .i64 (((List.length al) : Nat) : Int)), (.osl 1 g 2 0 (List.length (recL al)))]], none⟩, ⟨g, 2, (List.map Key.row (recL al)), none⟩, ⟨(lastsK ((recL al).drop ((List.length (recL al)) - ((List.length al) - n)))).length, 2, (List.map Key.row (lastsK ((recL al).drop ((List.length (recL al)) - ((List.length al) - n))))), none⟩] : Heap)) ∧ (rowsIn ([⟨0, 2, [[(.int .i64 (((List.length al) : Nat) : Int)), (.osl 1 g 2 0 (List.length (recL al)))]], none⟩, ⟨g, 2, (List.map Key.row (recL al)), none⟩, ⟨(lastsK ((recL al).drop ((List.length (recL al)) - ((List.length al) - n)))).length, 2, (List.map Key.row (lastsK ((recL al).drop ((List.length (recL al)) - ((List.length al) - n))))), none⟩] : Heap) 2 (AV.osl 2 (lastsK ((recL al).drop ((List.length (recL al)) - ((List.length al) - n)))).length 2 0 (lastsK ((recL al).drop ((List.length (recL al)) - ((List.length al) - n)))).length) = some (List.map Key.row (lastsK ((recL al).drop ((List.length (recL al)) - ((List.length al) - n))))) ∧ AV.bddss 0 (List.map Key.row (lastsK ((recL al).drop ((List.length (recL al)) - ((List.length al) - n))))) = true) ∧ (AV.bdd 2 (AV.tup [(.sl .any 2 (List.map Key.row (lastsK ((recL al).drop ((List.length (recL al)) - ((List.length al) - n)))))), (.bool true)]) = true ∧ obsB 2 ([⟨0, 2, [[(.int .i64 (((List.length al) : Nat) : Int)), (.osl 1 g 2 0 (List.length (recL al)))]], none⟩, ⟨g, 2, (List.map Key.row (recL al)), none⟩] : Heap) = true) ∧ ((AV.tup [(.sl .any 2 (List.map Key.row (lastsK ((recL al).drop ((List.length (recL al)) - ((List.length al) - n)))))), (.bool true)]), ([⟨0, 2, [[(.int .i64 (((List.length al) : Nat) : Int)), (.osl 1 g 2 0 (List.length (recL al)))]], none⟩, ⟨g, 2, (List.map Key.row (recL al)), none⟩] : Heap)) = ((AV.tup [(.sl .any 2 (List.map Key.row (lastsK (al.drop n)))), (.bool true)]), ([⟨0, 2, [[(.int .i64 (((List.length al) : Nat) : Int)), (.osl 1 g 2 0 (List.length (recL al)))]], none⟩, ⟨g, 2, (List.map Key.row (recL al)), none⟩] : Heap))) = _) ?_
  refine And.intro (Yes.bool (by simp)) ?_
  refine And.intro (Yes.bool (by simp; omega)) ?_
  refine And.intro (Yes.add (by omega) (by omega) (by omega)) ?_
  refine And.intro (Yes.bool (by simp; omega)) ?_
  refine And.intro (Yes.add (by omega) (by omega) (by omega)) ?_
  refine And.intro (Yes.add (by omega) (by omega) (by omega)) ?_
  refine And.intro (slice_osl (l := (List.length (recL al)) - ((List.length al) - n)) (h := (List.length (recL al))) (by first | omega | (simp; done) | (simp; omega)) (by first | omega | (simp; done) | (simp; omega)) (by first | omega | (simp; done) | (simp; omega)) (by first | omega | (simp; done) | (simp; omega)) (by first | omega | (simp; done) | (simp; omega)) (by first | omega | (simp; done) | (simp; omega))) ?_
  refine And.intro ((since_loop al g ((List.length (recL al)) - ((List.length al) - n)) ((List.length (recL al)) - ((List.length (recL al)) - ((List.length al) - n))) (by omega) (by omega) ((List.length (recL al)) - ((List.length (recL al)) - ((List.length al) - n))) [] 0 0 0 (lastsK (List.drop ((List.length (recL al)) - ((List.length al) - n)) (recL al)), (lastsK (List.drop ((List.length (recL al)) - ((List.length al) - n)) (recL al))).length, (lastsK (List.drop ((List.length (recL al)) - ((List.length al) - n)) (recL al))).length) (by omega) rfl (by omega) (since_iter _ _ _ _ (by omega)))) ?_
  refine And.intro (And.intro (rowsIn_all (room := none) (by kernel_rfl) (by first | omega | (simp [h3]; done) | (simp [h3]; omega))) (Key.rows_bdd _ _)) ?_
  refine And.intro (by first | (simp [obsB, AV.bddss, AV.bdds, AV.bdd]; done) | simp [obsB, AV.bddss, AV.bdds, AV.bdd, -List.map_append, -List.map_set, -List.map_take, -List.map_drop, -List.map_cons, -List.map_map]) ?_
  rw [h3]
set_option maxRecDepth 100000 in
theorem sinceN1_spec (al : List Key) (g : Nat) (n : Int) (ha : al.length < 1000000) (h : n < 0) : ACalls Try.prog 50 [(.obj 0 0 0 0), (.int .i64 n)] ([⟨0, 2, [[(.int .i64 (((List.length al) : Nat) : Int)), (.osl 1 g 2 0 (List.length (recL al)))]], none⟩, ⟨g, 2, (List.map Key.row (recL al)), none⟩] : Heap) ((AV.tup [(.sl .any 2 (List.map Key.row [])), (.bool false)]), ([⟨0, 2, [[(.int .i64 (((List.length al) : Nat) : Int)), (.osl 1 g 2 0 (List.length (recL al)))]], none⟩, ⟨g, 2, (List.map Key.row (recL al)), none⟩] : Heap)) := by
  refine spec (fn := Try.f50) (ann := since_ann) (t := (.reg [] [] [] (.reg [(1, ((AV.bool true), ([⟨0, 2, [[(.int .i64 (((List.length al) : Nat) : Int)), (.osl 1 g 2 0 (List.length (recL al)))]], none⟩, ⟨g, 2, (List.map Key.row (recL al)), none⟩] : Heap)))] [] [] (.two (.two (.two (.two (.two (.two (.two (.two (.two (.two (.two (.two (.two (.two (.reg [] [] [] .nil) .nil) .nil) .nil) .nil) .nil) .nil) .nil) .nil) .nil) .nil) .nil) .nil) .nil) .nil)))) (Nat.le_of_ble_eq_true (by kernel_rfl)) ⟨Try.func50, by kernel_rfl, by kernel_rfl, by kernel_rfl⟩ ?_
  refine Eq.mp (by kernel_rfl : ((Yes (AV.bool (decide (n < 0))) ([⟨0, 2, [[(.int .i64 (((List.length al) : Nat) : Int)), (.osl 1 g 2 0 (List.length (recL al)))]], none⟩, ⟨g, 2, (List.map Key.row (recL al)), none⟩] : Heap) (AV.bool true)) ∧ (AV.bdd 2 (AV.tup [(.sl .any 2 []), (.bool false)]) = true ∧ obsB 2 ([⟨0, 2, [[(.int .i64 (((List.length al) : Nat) : Int)), (.osl 1 g 2 0 (List.length (recL al)))]], none⟩, ⟨g, 2, (List.map Key.row (recL al)), none⟩] : Heap) = true) ∧ ((AV.tup [(.sl .any 2 []), (.bool false)]), ([⟨0, 2, [[(.int .i64 (((List.length al) : Nat) : Int)), (.osl 1 g 2 0 (List.length (recL al)))]], none⟩, ⟨g, 2, (List.map Key.row (recL al)), none⟩] : Heap)) = ((AV.tup [(.sl .any 2 (List.map Key.row [])), (.bool false)]), ([⟨0, 2, [[(.int .i64 (((List.length al) : Nat) : Int)), (.osl 1 g 2 0 (List.length (recL al)))]], none⟩, ⟨g, 2, (List.map Key.row (recL al)), none⟩] : Heap))) = _) ?_
  refine And.intro (Yes.bool (by simp; omega)) ?_
  refine And.intro (by first | (simp [obsB, AV.bddss, AV.bdds, AV.bdd]; done) | simp [obsB, AV.bddss, AV.bdds, AV.bdd, -List.map_append, -List.map_set, -List.map_take, -List.map_drop, -List.map_cons, -List.map_map]) ?_
  rfl
set_option maxRecDepth 100000 in
theorem sinceN2_spec (al : List Key) (g : Nat) (n : Int) (ha : al.length < 1000000) (h : 0 ≤ n) (h1 : (al.length : Int) < n) : ACalls Try.prog 50 [(.obj 0 0 0 0), (.int .i64 n)] ([⟨0, 2, [[(.int .i64 (((List.length al) : Nat) : Int)), (.osl 1 g 2 0 (List.length (recL al)))]], none⟩, ⟨g, 2, (List.map Key.row (recL al)), none⟩] : Heap) ((AV.tup [(.sl .any 2 (List.map Key.row [])), (.bool false)]), ([⟨0, 2, [[(.int .i64 (((List.length al) : Nat) : Int)), (.osl 1 g 2 0 (List.length (recL al)))]], none⟩, ⟨g, 2, (List.map Key.row (recL al)), none⟩] : Heap)) := by
  refine spec (fn := Try.f50) (ann := since_ann) (t := (.reg [] [] [] (.reg [(1, ((AV.bool false), ([⟨0, 2, [[(.int .i64 (((List.length al) : Nat) : Int)), (.osl 1 g 2 0 (List.length (recL al)))]], none⟩, ⟨g, 2, (List.map Key.row (recL al)), none⟩] : Heap))), (8, ((AV.bool true), ([⟨0, 2, [[(.int .i64 (((List.length al) : Nat) : Int)), (.osl 1 g 2 0 (List.length (recL al)))]], none⟩, ⟨g, 2, (List.map Key.row (recL al)), none⟩] : Heap)))] [] [] (.two .nil (.two .nil (.two .nil (.two .nil (.two .nil (.two .nil (.two (.two (.two (.two (.two (.two (.two (.two (.reg [] [] [] .nil) .nil) .nil) .nil) .nil) .nil) .nil) .nil) .nil)))))))))) (Nat.le_of_ble_eq_true (by kernel_rfl)) ⟨Try.func50, by kernel_rfl, by kernel_rfl, by kernel_rfl⟩ ?_
  refine Eq.mp (by kernel_rfl : ((Yes (AV.bool (decide (n < 0))) ([⟨0, 2, [[(.int .i64 (((List.length al) : Nat) : Int)), (.osl 1 g 2 0 (List.length (recL al)))]], none⟩, ⟨g, 2, (List.map Key.row (recL al)), none⟩] : Heap) (AV.bool false)) ∧ (Yes (AV.bool (decide (n > (((List.length al) : Nat) : Int)))) ([⟨0, 2, [[(.int .i64 (((List.length al) : Nat) : Int)), (.osl 1 g 2 0 (List.length (recL al)))]], none⟩, ⟨g, 2, (List.map Key.row (recL al)), none⟩] : Heap) (AV.bool true)) ∧ (AV.bdd 2 (AV.tup [(.sl .any 2 []), (.bool false)]) = true ∧ obsB 2 ([⟨0, 2, [[(.int .i64 (((List.length al) : Nat) : Int)), (.osl 1 g 2 0 (List.length (recL al)))]], none⟩, ⟨g, 2, (List.map Key.row (recL al)), none⟩] : Heap) = true) ∧ ((AV.tup [(.sl .any 2 []), (.bool false)]), ([⟨0, 2, [[(.int .i64 (((List.length al) : Nat) : Int)), (.osl 1 g 2 0 (List.length (recL al)))]], none⟩, ⟨g, 2, (List.map Key.row (recL al)), none⟩] : Heap)) = ((AV.tup [(.sl .any 2 (List.map Key.row [])), (.bool false)]), ([⟨0, 2, [[(.int .i64 (((List.length al) : Nat) : Int)), (.osl 1 g 2 0 (List.length (recL al)))]], none⟩, ⟨g, 2, (List.map Key.row (recL al)), none⟩] : Heap))) = _) ?_
  refine And.intro (Yes.bool (by simp; omega)) ?_
  refine And.intro (Yes.bool (by simp; omega)) ?_
  refine And.intro (by first | (simp [obsB, AV.bddss, AV.bdds, AV.bdd]; done) | simp [obsB, AV.bddss, AV.bdds, AV.bdd, -List.map_append, -List.map_set, -List.map_take, -List.map_drop, -List.map_cons, -List.map_map]) ?_
  rfl
set_option maxRecDepth 100000 in
theorem sinceN3_spec (al : List Key) (g : Nat) (n : Nat) (ha : al.length < 1000000) (h1 : n ≤ al.length) (h2 : 16 < al.length - n) : ACalls Try.prog 50 [(.obj 0 0 0 0), (.int .i64 ((n : Nat) : Int))] ([⟨0, 2, [[(.int .i64 (((List.length al) : Nat) : Int)), (.osl 1 g 2 0 (List.length (recL al)))]], none⟩, ⟨g, 2, (List.map Key.row (recL al)), none⟩] : Heap) ((AV.tup [(.sl .any 2 (List.map Key.row [])), (.bool false)]), ([⟨0, 2, [[(.int .i64 (((List.length al) : Nat) : Int)), (.osl 1 g 2 0 (List.length (recL al)))]], none⟩, ⟨g, 2, (List.map Key.row (recL al)), none⟩] : Heap)) := by
  refine spec (fn := Try.f50) (ann := since_ann) (t := (.reg [] [] [] (.reg [(1, ((AV.bool false), ([⟨0, 2, [[(.int .i64 (((List.length al) : Nat) : Int)), (.osl 1 g 2 0 (List.length (recL al)))]], none⟩, ⟨g, 2, (List.map Key.row (recL al)), none⟩] : Heap))), (8, ((AV.bool false), ([⟨0, 2, [[(.int .i64 (((List.length al) : Nat) : Int)), (.osl 1 g 2 0 (List.length (recL al)))]], none⟩, ⟨g, 2, (List.map Key.row (recL al)), none⟩] : Heap))), (16, ((AV.int .i64 (((List.length al) - n : Nat) : Int)), ([⟨0, 2, [[(.int .i64 (((List.length al) : Nat) : Int)), (.osl 1 g 2 0 (List.length (recL al)))]], none⟩, ⟨g, 2, (List.map Key.row (recL al)), none⟩] : Heap))), (17, ((AV.bool true), ([⟨0, 2, [[(.int .i64 (((List.length al) : Nat) : Int)), (.osl 1 g 2 0 (List.length (recL al)))]], none⟩, ⟨g, 2, (List.map Key.row (recL al)), none⟩] : Heap)))] [] [] (.two .nil (.two .nil (.two .nil (.two .nil (.two .nil (.two .nil (.two .nil (.two .nil (.two .nil (.two .nil (.two .nil (.two .nil (.two .nil (.two (.reg [] [] [] .nil) .nil))))))))))))))))) (Nat.le_of_ble_eq_true (by kernel_rfl)) ⟨Try.func50, by kernel_rfl, by kernel_rfl, by kernel_rfl⟩ ?_
  refine Eq.mp (by kernel_rfl : ((Yes (AV.bool (decide (((n : Nat) : Int) < 0))) ([⟨0, 2, [[(.int .i64 (((List.length al) : Nat) : Int)), (.osl 1 g 2 0 (List.length (recL al)))]], none⟩, ⟨g, 2, (List.map Key.row (recL al)), none⟩] : Heap) (AV.bool false)) ∧ (Yes (AV.bool (decide (((n : Nat) : Int) > (((List.length al) : Nat) : Int)))) ([⟨0, 2, [[(.int .i64 (((List.length al) : Nat) : Int)), (.osl 1 g 2 0 (List.length (recL al)))]], none⟩, ⟨g, 2, (List.map Key.row (recL al)), none⟩] : Heap) (AV.bool false)) ∧ (Yes (.int .i64 (IntKind.i64.wrap ((((List.length al) : Nat) : Int) - ((n : Nat) : Int)))) ([⟨0, 2, [[(.int .i64 (((List.length al) : Nat) : Int)), (.osl 1 g 2 0 (List.length (recL al)))]], none⟩, ⟨g, 2, (List.map Key.row (recL al)), none⟩] : Heap) (AV.int .i64 (((List.length al) - n : Nat) : Int))) ∧ (Yes (AV.bool (decide ((((List.length al) - n : Nat) : Int) > 16))) ([⟨0, 2, [[(.int .i64 (((List.length al) : Nat) : Int)), (.osl 1 g 2 0 (List.length (recL al)))]], none⟩, ⟨g, 2, (List.map Key.row (recL al)), none⟩] : Heap) (AV.bool true)) ∧ (AV.bdd 2 (AV.tup [(.sl .any 2 []), (.bool false)]) = true ∧ obsB 2 ([⟨0, 2, [[(.int .i64 (((List.length al) : Nat) : Int)), (.osl 1 g 2 0 (List.length (recL al)))]], none⟩, ⟨g, 2, (List.map Key.row (recL al)), none⟩] : Heap) = true) ∧ ((AV.tup [(.sl .any 2 []), (.bool false)]), ([⟨0, 2, [[(.int .i64 (((List.length al) : Nat) : Int)), (.osl 1 g 2 0 (List.length (recL al)))]], none⟩, ⟨g, 2, (List.map Key.row (recL al)), none⟩] : Heap)) = ((AV.tup [(.sl .any 2 (List.map Key.row [])), (.bool false)]), ([⟨0, 2, [[(.int .i64 (((List.length al) : Nat) : Int)), (.osl 1 g 2 0 (List.length (recL al)))]], none⟩, ⟨g, 2, (List.map Key.row (recL al)), none⟩] : Heap))) = _) ?_
  refine And.intro (Yes.bool (by simp)) ?_
  refine And.intro (Yes.bool (by simp; omega)) ?_
  refine And.intro (Yes.add (by omega) (by omega) (by omega)) ?_
  refine And.intro (Yes.bool (by simp; omega)) ?_
  refine And.intro (by first | (simp [obsB, AV.bddss, AV.bdds, AV.bdd]; done) | simp [obsB, AV.bddss, AV.bdds, AV.bdd, -List.map_append, -List.map_set, -List.map_take, -List.map_drop, -List.map_cons, -List.map_map]) ?_
  rfl
theorem since_spec (al : List Key) (g : Nat) (n : Int) (ha : al.length < 1000000) : ACalls Try.prog 50 [(.obj 0 0 0 0), (.int .i64 n)] ([⟨0, 2, [[(.int .i64 (((List.length al) : Nat) : Int)), (.osl 1 g 2 0 (List.length (recL al)))]], none⟩, ⟨g, 2, (List.map Key.row (recL al)), none⟩] : Heap) ((AV.tup [(.sl .any 2 (List.map Key.row (sinceK al n))), (.bool (okS al n))]), ([⟨0, 2, [[(.int .i64 (((List.length al) : Nat) : Int)), (.osl 1 g 2 0 (List.length (recL al)))]], none⟩, ⟨g, 2, (List.map Key.row (recL al)), none⟩] : Heap)) := by
  by_cases h : n < 0 ∨ (al.length : Int) < n ∨ 16 < (al.length : Int) - n
  · rw [sinceK_false h, okS_false h]
    by_cases h0 : n < 0
    · exact sinceN1_spec al g n ha h0
    · by_cases h1 : (al.length : Int) < n
      · exact sinceN2_spec al g n ha (by omega) h1
      · obtain ⟨m, rfl⟩ := Int.eq_ofNat_of_zero_le (show 0 ≤ n by omega)
        exact sinceN3_spec al g m ha (by omega) (by omega)
  · obtain ⟨m, rfl⟩ := Int.eq_ofNat_of_zero_le (show 0 ≤ n by omega)
    rw [sinceK_nat (by omega) (by omega), okS_nat (by omega) (by omega)]
    exact sinceS_spec al g m ha (by omega) (by omega)
def xsince_ann : Ann := { gh := [(15, .frz 7)], gha := [(3, .any 4 2), (4, .vir 7 2), (7, .cut 2)], base := 1, fin := some 1, live := [(6, [0, 6, 7, 8]), (10, [0, 6, 7, 8, 9, 10])], out := [(6, [0, 6, 7, 8]), (10, [0, 6, 7, 8, 9, 10])] }
set_option maxRecDepth 100000 in
theorem xsince10_step (al : List Key) (out : List Key) (k : Nat) (g : Nat) (i : Nat) (on : Bool) (j : Nat) (hl : al.length < 1048576) (hi : i < al.length) (hle_ : j ≤ al.length) {eX : Ex} {FX : Fr} {HX : Heap} (k1 : (decide (((j : Nat) : Int) < ((al.length : Nat) : Int))) = true → on = true → LoopTo (codeQ Try.prog (X xsince_ann) (loopOf Try.f132 1)) (some [0, 6, 7, 8, 9, 10]) (some [0, 6, 7, 8, 9, 10]) (mkF 72 [(0, (.obj 0 0 0 0)), (6, (.int .i64 ((al.length : Nat) : Int))), (7, (.osl 1 g 2 0 k)), (8, (.int .i64 ((i : Nat) : Int))), (9, (.bool (!(Key.eqb (nth al j) (nth al i))))), (10, (.int .i64 ((j + 1 : Nat) : Int)))]) ([⟨0, 1, [[(.sl .any 2 (List.map Key.row al))]], none⟩, ⟨g, 2, (List.map Key.row out), none⟩] : Heap) eX FX HX) (k2 : (decide (((j : Nat) : Int) < ((al.length : Nat) : Int))) = true → on = false → LoopTo (codeQ Try.prog (X xsince_ann) (loopOf Try.f132 1)) (some [0, 6, 7, 8, 9, 10]) (some [0, 6, 7, 8, 9, 10]) (mkF 72 [(0, (.obj 0 0 0 0)), (6, (.int .i64 ((al.length : Nat) : Int))), (7, (.osl 1 g 2 0 k)), (8, (.int .i64 ((i : Nat) : Int))), (9, (.bool false)), (10, (.int .i64 ((j + 1 : Nat) : Int)))]) ([⟨0, 1, [[(.sl .any 2 (List.map Key.row al))]], none⟩, ⟨g, 2, (List.map Key.row out), none⟩] : Heap) eX FX HX) (k3 : (decide (((j : Nat) : Int) < ((al.length : Nat) : Int))) = false → ((.exit 2 : Ex), (mkF 72 [(0, (.obj 0 0 0 0)), (6, (.int .i64 ((al.length : Nat) : Int))), (7, (.osl 1 g 2 0 k)), (8, (.int .i64 ((i : Nat) : Int))), (9, (.bool on)), (10, (.int .i64 ((j : Nat) : Int)))]), ([⟨0, 1, [[(.sl .any 2 (List.map Key.row al))]], none⟩, ⟨g, 2, (List.map Key.row out), none⟩] : Heap)) = (eX, FX, HX)) : LoopTo (codeQ Try.prog (X xsince_ann) (loopOf Try.f132 1)) (some [0, 6, 7, 8, 9, 10]) (some [0, 6, 7, 8, 9, 10]) (mkF 72 [(0, (.obj 0 0 0 0)), (6, (.int .i64 ((al.length : Nat) : Int))), (7, (.osl 1 g 2 0 k)), (8, (.int .i64 ((i : Nat) : Int))), (9, (.bool on)), (10, (.int .i64 ((j : Nat) : Int)))]) ([⟨0, 1, [[(.sl .any 2 (List.map Key.row al))]], none⟩, ⟨g, 2, (List.map Key.row out), none⟩] : Heap) eX FX HX := by
  refine LoopTo.step (.reg [] [] [] (.two (.reg [(7, ((AV.ref (Key.row (nth al j)) 0), ([⟨0, 1, [[(.sl .any 2 (List.map Key.row al))]], none⟩, ⟨g, 2, (List.map Key.row out), none⟩] : Heap))), (14, ((AV.ref (Key.row (nth al i)) 0), ([⟨0, 1, [[(.sl .any 2 (List.map Key.row al))]], none⟩, ⟨g, 2, (List.map Key.row out), none⟩] : Heap)))] [] [] (.two (.two (.two (.two (.two (.two (.two (.two (.two (.two (.two (.two (.two (.two (.two (.reg [(1, ((AV.int .i64 ((j + 1 : Nat) : Int)), ([⟨0, 1, [[(.sl .any 2 (List.map Key.row al))]], none⟩, ⟨g, 2, (List.map Key.row out), none⟩] : Heap)))] [] [] .nil) .nil) .nil) .nil) .nil) .nil) .nil) .nil) .nil) .nil) .nil) .nil) .nil) .nil) .nil) (.two .nil (.two .nil (.two .nil (.two .nil (.two .nil (.two .nil (.two .nil (.two .nil (.two .nil (.two .nil (.two .nil (.two .nil (.two .nil (.two .nil (.reg [(1, ((AV.int .i64 ((j + 1 : Nat) : Int)), ([⟨0, 1, [[(.sl .any 2 (List.map Key.row al))]], none⟩, ⟨g, 2, (List.map Key.row out), none⟩] : Heap)))] [] [] .nil))))))))))))))))) .nil)) ?_
  refine Eq.mp (by kernel_rfl : (cond (decide (((j : Nat) : Int) < ((al.length : Nat) : Int))) (cond on ((IdxSl 2 2 (List.map Key.row al) ((j : Nat) : Int) ([⟨0, 1, [[(.sl .any 2 (List.map Key.row al))]], none⟩, ⟨g, 2, (List.map Key.row out), none⟩] : Heap) (Key.row (nth al j))) ∧ (IdxSl 2 2 (List.map Key.row al) ((i : Nat) : Int) ([⟨0, 1, [[(.sl .any 2 (List.map Key.row al))]], none⟩, ⟨g, 2, (List.map Key.row out), none⟩] : Heap) (Key.row (nth al i))) ∧ (Yes (.int .i64 (IntKind.i64.wrap (((j : Nat) : Int) + 1))) ([⟨0, 1, [[(.sl .any 2 (List.map Key.row al))]], none⟩, ⟨g, 2, (List.map Key.row out), none⟩] : Heap) (AV.int .i64 ((j + 1 : Nat) : Int))) ∧ LoopTo (codeQ Try.prog (X xsince_ann) (loopOf Try.f132 1)) (some [0, 6, 7, 8, 9, 10]) (some [0, 6, 7, 8, 9, 10]) (mkF 72 [(0, (.obj 0 0 0 0)), (6, (.int .i64 ((al.length : Nat) : Int))), (7, (.osl 1 g 2 0 k)), (8, (.int .i64 ((i : Nat) : Int))), (9, (.bool (!(Key.eqb (nth al j) (nth al i))))), (10, (.int .i64 ((j + 1 : Nat) : Int)))]) ([⟨0, 1, [[(.sl .any 2 (List.map Key.row al))]], none⟩, ⟨g, 2, (List.map Key.row out), none⟩] : Heap) eX FX HX) ((Yes (.int .i64 (IntKind.i64.wrap (((j : Nat) : Int) + 1))) ([⟨0, 1, [[(.sl .any 2 (List.map Key.row al))]], none⟩, ⟨g, 2, (List.map Key.row out), none⟩] : Heap) (AV.int .i64 ((j + 1 : Nat) : Int))) ∧ LoopTo (codeQ Try.prog (X xsince_ann) (loopOf Try.f132 1)) (some [0, 6, 7, 8, 9, 10]) (some [0, 6, 7, 8, 9, 10]) (mkF 72 [(0, (.obj 0 0 0 0)), (6, (.int .i64 ((al.length : Nat) : Int))), (7, (.osl 1 g 2 0 k)), (8, (.int .i64 ((i : Nat) : Int))), (9, (.bool false)), (10, (.int .i64 ((j + 1 : Nat) : Int)))]) ([⟨0, 1, [[(.sl .any 2 (List.map Key.row al))]], none⟩, ⟨g, 2, (List.map Key.row out), none⟩] : Heap) eX FX HX)) (((.exit 2 : Ex), (mkF 72 [(0, (.obj 0 0 0 0)), (6, (.int .i64 ((al.length : Nat) : Int))), (7, (.osl 1 g 2 0 k)), (8, (.int .i64 ((i : Nat) : Int))), (9, (.bool on)), (10, (.int .i64 ((j : Nat) : Int)))]), ([⟨0, 1, [[(.sl .any 2 (List.map Key.row al))]], none⟩, ⟨g, 2, (List.map Key.row out), none⟩] : Heap)) = (eX, FX, HX))) = _) ?_
  refine cond_split (fun h1 => ?_) (fun h1 => ?_)
  · have h1' := h1
    try simp at h1'
    refine cond_split (fun h2 => ?_) (fun h2 => ?_)
    · have h2' := h2
      try simp at h2'
      refine And.intro (IdxSl.mk _ (by omega) (by omega)) ?_
      refine And.intro (IdxSl.mk _ (by omega) (by omega)) ?_
      refine And.intro (Yes.add (by omega) (by omega) (by omega)) ?_
      exact k1 h1 h2
    · have h2' := h2
      try simp at h2'
      refine And.intro (Yes.add (by omega) (by omega) (by omega)) ?_
      exact k2 h1 h2
  · have h1' := h1
    try simp at h1'
    exact k3 h1
def xsince10_f (al : List Key) (out : List Key) (k : Nat) (g : Nat) (i : Nat) (j : Nat) (s : Bool) : Bool := (if s = true then ((!(Key.eqb (nth al j) (nth al i)))) else (false))
theorem xsince10_loop (al : List Key) (out : List Key) (k : Nat) (g : Nat) (i : Nat) (hl : al.length < 1048576) (hi : i < al.length)  (r_ : Nat) : ∀ (on : Bool) (j : Nat) (sF : Bool), j + r_ = al.length → sF = iter (xsince10_f al out k g i) r_ j (on) →
    LoopTo (codeQ Try.prog (X xsince_ann) (loopOf Try.f132 1)) (some [0, 6, 7, 8, 9, 10]) (some [0, 6, 7, 8, 9, 10]) (mkF 72 [(0, (.obj 0 0 0 0)), (6, (.int .i64 ((al.length : Nat) : Int))), (7, (.osl 1 g 2 0 k)), (8, (.int .i64 ((i : Nat) : Int))), (9, (.bool on)), (10, (.int .i64 ((j : Nat) : Int)))]) ([⟨0, 1, [[(.sl .any 2 (List.map Key.row al))]], none⟩, ⟨g, 2, (List.map Key.row out), none⟩] : Heap) (.exit 2) (mkF 72 [(0, (.obj 0 0 0 0)), (6, (.int .i64 ((al.length : Nat) : Int))), (7, (.osl 1 g 2 0 k)), (8, (.int .i64 ((i : Nat) : Int))), (9, (.bool sF)), (10, (.int .i64 ((al.length : Nat) : Int)))]) ([⟨0, 1, [[(.sl .any 2 (List.map Key.row al))]], none⟩, ⟨g, 2, (List.map Key.row out), none⟩] : Heap) := by
  induction r_ with
  | zero =>
    intro on j sF hi_   hF
    obtain rfl : al.length = j := by omega
    have e_ : sF = (on) := hF
    refine xsince10_step al out k g i on al.length hl hi (Nat.le_refl _) (fun h _ => by simp at h <;> omega) (fun h _ => by simp at h <;> omega) (fun _ => ?_)
    first | done | rfl | (rw [e_]; done) | (rw [e_]; rfl)
  | succ r_ ih =>
    intro on j sF hi_   hF
    refine xsince10_step al out k g i on j hl hi (by omega) (fun h1 h2 => ?_) (fun h1 h2 => ?_) (fun h => by simp at h <;> omega)
    · exact ih (!(Key.eqb (nth al j) (nth al i))) (j + 1) sF (by omega)   (by rw [hF] <;> simp only [iter, xsince10_f, h2, if_true, Bool.false_eq_true, if_false])
    · exact ih false (j + 1) sF (by omega)   (by rw [hF] <;> simp only [iter, xsince10_f, h2, if_true, Bool.false_eq_true, if_false])
theorem xsince10_iter0 (al out : List Key) (k g i : Nat) (r : Nat) : ∀ (j : Nat) (s : Bool), j + r = al.length → iter (xsince10_f al out k g i) r j s = (s && !(hasK (al.drop j) (nth al i))) := by
  induction r with
  | zero =>
    intro j s hj
    have : al.drop j = [] := List.drop_of_length_le (by omega)
    rw [this]
    have h0 : hasK [] (nth al i) = false := by rw [hasK_any']; rfl
    rw [h0]; simp [iter]
  | succ r ih =>
    intro j s hj
    rw [drop_nth (show j < al.length by omega), hasK_cons]
    simp only [iter, xsince10_f]
    rw [ih (j + 1) _ (by omega), keqb_comm (nth al i) (nth al j)]
    cases s <;> cases Key.eqb (nth al i) (nth al j) <;> simp
theorem xsince10_iter (al out : List Key) (k g i : Nat) (hi : i < al.length) : (!(hasK (al.drop (i + 1)) (nth al i))) = iter (xsince10_f al out k g i) (al.length - (i + 1)) (i + 1) true := by
  rw [xsince10_iter0 al out k g i _ _ _ (by omega)]; simp
set_option maxRecDepth 100000 in
theorem xsince_step (al : List Key) (out : List Key) (k : Nat) (g : Nat) (i : Nat) (hl : al.length < 1000000) (hk : k = out.length) (hki : k ≤ i) (hle_ : i ≤ al.length) {eX : Ex} {FX : Fr} {HX : Heap} (k1 : (decide (((i : Nat) : Int) < ((al.length : Nat) : Int))) = true → (!(hasK (al.drop (i + 1)) (nth al i))) = true → LoopTo (codeQ Try.prog (X xsince_ann) (loopOf Try.f132 0)) (some [0, 6, 7, 8]) (some [0, 6, 7, 8]) (mkF 72 [(0, (.obj 0 0 0 0)), (6, (.int .i64 ((al.length : Nat) : Int))), (7, (.osl 1 (g + 1) 2 0 (k + 1))), (8, (.int .i64 ((i + 1 : Nat) : Int)))]) ([⟨0, 1, [[(.sl .any 2 (List.map Key.row al))]], none⟩, ⟨(g + 1), 2, (List.map Key.row (out ++ [(nth al i)])), none⟩] : Heap) eX FX HX) (k2 : (decide (((i : Nat) : Int) < ((al.length : Nat) : Int))) = true → (!(hasK (al.drop (i + 1)) (nth al i))) = false → LoopTo (codeQ Try.prog (X xsince_ann) (loopOf Try.f132 0)) (some [0, 6, 7, 8]) (some [0, 6, 7, 8]) (mkF 72 [(0, (.obj 0 0 0 0)), (6, (.int .i64 ((al.length : Nat) : Int))), (7, (.osl 1 g 2 0 k)), (8, (.int .i64 ((i + 1 : Nat) : Int)))]) ([⟨0, 1, [[(.sl .any 2 (List.map Key.row al))]], none⟩, ⟨g, 2, (List.map Key.row out), none⟩] : Heap) eX FX HX) (k3 : (decide (((i : Nat) : Int) < ((al.length : Nat) : Int))) = false → ((.exit 0 : Ex), (mkF 72 [(0, (.obj 0 0 0 0)), (6, (.int .i64 ((al.length : Nat) : Int))), (7, (.osl 1 g 2 0 k)), (8, (.int .i64 ((i : Nat) : Int)))]), ([⟨0, 1, [[(.sl .any 2 (List.map Key.row al))]], none⟩, ⟨g, 2, (List.map Key.row out), none⟩] : Heap)) = (eX, FX, HX)) : LoopTo (codeQ Try.prog (X xsince_ann) (loopOf Try.f132 0)) (some [0, 6, 7, 8]) (some [0, 6, 7, 8]) (mkF 72 [(0, (.obj 0 0 0 0)), (6, (.int .i64 ((al.length : Nat) : Int))), (7, (.osl 1 g 2 0 k)), (8, (.int .i64 ((i : Nat) : Int)))]) ([⟨0, 1, [[(.sl .any 2 (List.map Key.row al))]], none⟩, ⟨g, 2, (List.map Key.row out), none⟩] : Heap) eX FX HX := by
  refine LoopTo.step (.reg [] [] [] (.two (.reg [] [] [] (.reg [(1, ((AV.int .i64 ((i + 1 : Nat) : Int)), ([⟨0, 1, [[(.sl .any 2 (List.map Key.row al))]], none⟩, ⟨g, 2, (List.map Key.row out), none⟩] : Heap)))] [] [] (.loop (.exit 2) (mkF 72 [(0, (.obj 0 0 0 0)), (6, (.int .i64 ((al.length : Nat) : Int))), (7, (.osl 1 g 2 0 k)), (8, (.int .i64 ((i : Nat) : Int))), (9, (.bool (!(hasK (al.drop (i + 1)) (nth al i))))), (10, (.int .i64 ((al.length : Nat) : Int)))]) ([⟨0, 1, [[(.sl .any 2 (List.map Key.row al))]], none⟩, ⟨g, 2, (List.map Key.row out), none⟩] : Heap) (.reg [] [] [] (.two (.reg [(6, ((AV.ref (Key.row (nth al i)) 0), ([⟨0, 1, [[(.sl .any 2 (List.map Key.row al))]], none⟩, ⟨g, 2, (List.map Key.row out), none⟩] : Heap))), (9, ((AV.osl 1 (g + 1) 2 0 (k + 1)), ([⟨0, 1, [[(.sl .any 2 (List.map Key.row al))]], none⟩, ⟨(g + 1), 2, (List.map Key.row (out ++ [(nth al i)])), none⟩] : Heap)))] [] [] (.reg [(1, ((AV.int .i64 ((i + 1 : Nat) : Int)), ([⟨0, 1, [[(.sl .any 2 (List.map Key.row al))]], none⟩, ⟨(g + 1), 2, (List.map Key.row (out ++ [(nth al i)])), none⟩] : Heap)))] [] [] .nil)) (.reg [(1, ((AV.int .i64 ((i + 1 : Nat) : Int)), ([⟨0, 1, [[(.sl .any 2 (List.map Key.row al))]], none⟩, ⟨g, 2, (List.map Key.row out), none⟩] : Heap)))] [] [] .nil)))))) .nil)) ?_
  refine Eq.mp (by kernel_rfl : (cond (decide (((i : Nat) : Int) < ((al.length : Nat) : Int))) ((Yes (.int .i64 (IntKind.i64.wrap (((i : Nat) : Int) + 1))) ([⟨0, 1, [[(.sl .any 2 (List.map Key.row al))]], none⟩, ⟨g, 2, (List.map Key.row out), none⟩] : Heap) (AV.int .i64 ((i + 1 : Nat) : Int))) ∧ (LoopTo (codeQ Try.prog (X xsince_ann) (loopOf Try.f132 1)) (some [0, 6, 7, 8, 9, 10]) (some [0, 6, 7, 8, 9, 10]) (mkF 72 [(0, (.obj 0 0 0 0)), (6, (.int .i64 ((al.length : Nat) : Int))), (7, (.osl 1 g 2 0 k)), (8, (.int .i64 ((i : Nat) : Int))), (9, (.bool true)), (10, (.int .i64 ((i + 1 : Nat) : Int)))]) ([⟨0, 1, [[(.sl .any 2 (List.map Key.row al))]], none⟩, ⟨g, 2, (List.map Key.row out), none⟩] : Heap) (.exit 2) (mkF 72 [(0, (.obj 0 0 0 0)), (6, (.int .i64 ((al.length : Nat) : Int))), (7, (.osl 1 g 2 0 k)), (8, (.int .i64 ((i : Nat) : Int))), (9, (.bool (!(hasK (al.drop (i + 1)) (nth al i))))), (10, (.int .i64 ((al.length : Nat) : Int)))]) ([⟨0, 1, [[(.sl .any 2 (List.map Key.row al))]], none⟩, ⟨g, 2, (List.map Key.row out), none⟩] : Heap)) ∧ cond (!(hasK (al.drop (i + 1)) (nth al i))) ((IdxSl 2 2 (List.map Key.row al) ((i : Nat) : Int) ([⟨0, 1, [[(.sl .any 2 (List.map Key.row al))]], none⟩, ⟨g, 2, (List.map Key.row out), none⟩] : Heap) (Key.row (nth al i))) ∧ (evAppend tt ([⟨0, 1, [[(.sl .any 2 (List.map Key.row al))]], none⟩, ⟨g, 2, (List.map Key.row out), none⟩] : Heap) 34 (AV.osl 1 g 2 0 k) (AV.sl .clip 2 [(Key.row (nth al i))]) = some ((AV.osl 1 (g + 1) 2 0 (k + 1)), ([⟨0, 1, [[(.sl .any 2 (List.map Key.row al))]], none⟩, ⟨(g + 1), 2, (List.map Key.row (out ++ [(nth al i)])), none⟩] : Heap))) ∧ (Yes (.int .i64 (IntKind.i64.wrap (((i : Nat) : Int) + 1))) ([⟨0, 1, [[(.sl .any 2 (List.map Key.row al))]], none⟩, ⟨(g + 1), 2, (List.map Key.row (out ++ [(nth al i)])), none⟩] : Heap) (AV.int .i64 ((i + 1 : Nat) : Int))) ∧ (obsB 2 ([⟨0, 1, [[(.sl .any 2 (List.map Key.row al))]], none⟩, ⟨(g + 1), 2, (List.map Key.row (out ++ [(nth al i)])), none⟩] : Heap) = true) ∧ LoopTo (codeQ Try.prog (X xsince_ann) (loopOf Try.f132 0)) (some [0, 6, 7, 8]) (some [0, 6, 7, 8]) (mkF 72 [(0, (.obj 0 0 0 0)), (6, (.int .i64 ((al.length : Nat) : Int))), (7, (.osl 1 (g + 1) 2 0 (k + 1))), (8, (.int .i64 ((i + 1 : Nat) : Int)))]) ([⟨0, 1, [[(.sl .any 2 (List.map Key.row al))]], none⟩, ⟨(g + 1), 2, (List.map Key.row (out ++ [(nth al i)])), none⟩] : Heap) eX FX HX) ((Yes (.int .i64 (IntKind.i64.wrap (((i : Nat) : Int) + 1))) ([⟨0, 1, [[(.sl .any 2 (List.map Key.row al))]], none⟩, ⟨g, 2, (List.map Key.row out), none⟩] : Heap) (AV.int .i64 ((i + 1 : Nat) : Int))) ∧ (obsB 2 ([⟨0, 1, [[(.sl .any 2 (List.map Key.row al))]], none⟩, ⟨g, 2, (List.map Key.row out), none⟩] : Heap) = true) ∧ LoopTo (codeQ Try.prog (X xsince_ann) (loopOf Try.f132 0)) (some [0, 6, 7, 8]) (some [0, 6, 7, 8]) (mkF 72 [(0, (.obj 0 0 0 0)), (6, (.int .i64 ((al.length : Nat) : Int))), (7, (.osl 1 g 2 0 k)), (8, (.int .i64 ((i + 1 : Nat) : Int)))]) ([⟨0, 1, [[(.sl .any 2 (List.map Key.row al))]], none⟩, ⟨g, 2, (List.map Key.row out), none⟩] : Heap) eX FX HX)) (((.exit 0 : Ex), (mkF 72 [(0, (.obj 0 0 0 0)), (6, (.int .i64 ((al.length : Nat) : Int))), (7, (.osl 1 g 2 0 k)), (8, (.int .i64 ((i : Nat) : Int)))]), ([⟨0, 1, [[(.sl .any 2 (List.map Key.row al))]], none⟩, ⟨g, 2, (List.map Key.row out), none⟩] : Heap)) = (eX, FX, HX))) = _) ?_
  refine cond_split (fun h1 => ?_) (fun h1 => ?_)
  · have h1' := h1
    try simp at h1'
    refine And.intro (Yes.add (by omega) (by omega) (by omega)) ?_
    refine And.intro ((xsince10_loop al out k g i (by omega) (by simp_all) (List.length al - (i + 1)) true (i + 1) (!(hasK (List.drop (i + 1) al) (nth al i))) (by simp_all <;> omega) (xsince10_iter _ _ _ _ _ (by simp_all)))) ?_
    refine cond_split (fun h2 => ?_) (fun h2 => ?_)
    · have h2' := h2
      try simp at h2'
      refine And.intro (IdxSl.mk _ (by omega) (by omega)) ?_
      refine And.intro (evAppend_one (row := Key.row) (l := out) (x := (nth al i)) (T := tt) (e := 31) (te := { d := .struct [(9, 0), (9, 1)], size := 2, bytes := 32, zero := [.str ⟨#[]⟩, .str ⟨#[]⟩] }) (z := 1) (b := 24) (y := [.sl .nil 0 []]) (by kernel_rfl) (by kernel_rfl) rfl (by decide) (by decide) (by kernel_rfl) (by first | assumption | omega | (simp; done) | (simp; omega)) rfl rfl (by first | omega | (show _ * 32 ≤ _; omega) | (simp; omega))) ?_
      refine And.intro (Yes.add (by omega) (by omega) (by omega)) ?_
      refine And.intro (by first | (simp [obsB, AV.bddss, AV.bdds, AV.bdd]; done) | simp [obsB, AV.bddss, AV.bdds, AV.bdd, -List.map_append, -List.map_set, -List.map_take, -List.map_drop, -List.map_cons, -List.map_map]) ?_
      exact k1 h1 h2
    · have h2' := h2
      try simp at h2'
      refine And.intro (Yes.add (by omega) (by omega) (by omega)) ?_
      refine And.intro (by first | (simp [obsB, AV.bddss, AV.bdds, AV.bdd]; done) | simp [obsB, AV.bddss, AV.bdds, AV.bdd, -List.map_append, -List.map_set, -List.map_take, -List.map_drop, -List.map_cons, -List.map_map]) ?_
      exact k2 h1 h2
  · have h1' := h1
    try simp at h1'
    exact k3 h1
def xsince_f (al : List Key) (i : Nat) (s : (List Key) × Nat × Nat) : (List Key) × Nat × Nat := (if (!(hasK (al.drop (i + 1)) (nth al i))) = true then (s.1 ++ [(nth al i)], (s.2.1 + 1), (s.2.2 + 1)) else (s.1, s.2.1, s.2.2))
theorem xsince_loop (al : List Key) (hl : al.length < 1000000)  (r_ : Nat) : ∀ (out : List Key) (k : Nat) (g : Nat) (i : Nat) (sF : (List Key) × Nat × Nat), i + r_ = al.length → k = out.length → k ≤ i → sF = iter (xsince_f al) r_ i (out, k, g) →
    LoopTo (codeQ Try.prog (X xsince_ann) (loopOf Try.f132 0)) (some [0, 6, 7, 8]) (some [0, 6, 7, 8]) (mkF 72 [(0, (.obj 0 0 0 0)), (6, (.int .i64 ((al.length : Nat) : Int))), (7, (.osl 1 g 2 0 k)), (8, (.int .i64 ((i : Nat) : Int)))]) ([⟨0, 1, [[(.sl .any 2 (List.map Key.row al))]], none⟩, ⟨g, 2, (List.map Key.row out), none⟩] : Heap) (.exit 0) (mkF 72 [(0, (.obj 0 0 0 0)), (6, (.int .i64 ((al.length : Nat) : Int))), (7, (.osl 1 sF.2.2 2 0 sF.2.1)), (8, (.int .i64 ((al.length : Nat) : Int)))]) ([⟨0, 1, [[(.sl .any 2 (List.map Key.row al))]], none⟩, ⟨sF.2.2, 2, (List.map Key.row sF.1), none⟩] : Heap) := by
  induction r_ with
  | zero =>
    intro out k g i sF hi_ hk hki  hF
    obtain rfl : al.length = i := by omega
    have e_ : sF = (out, k, g) := hF
    refine xsince_step al out k g al.length hl hk hki (Nat.le_refl _) (fun h _ => by simp at h <;> omega) (fun h _ => by simp at h <;> omega) (fun _ => ?_)
    first | done | rfl | (rw [e_]; done) | (rw [e_]; rfl)
  | succ r_ ih =>
    intro out k g i sF hi_ hk hki  hF
    refine xsince_step al out k g i hl hk hki (by omega) (fun h1 h2 => ?_) (fun h1 h2 => ?_) (fun h => by simp at h <;> omega)
    · exact ih (out ++ [(nth al i)]) (k + 1) (g + 1) (i + 1) sF (by omega) (by first | omega | assumption | (simp; done) | (simp; omega) | (simp [*]; done) | (simp [*]; omega)) (by first | omega | assumption | (simp; done) | (simp; omega) | (simp [*]; done) | (simp [*]; omega))  (by rw [hF] <;> simp only [iter, xsince_f, h2, if_true, Bool.false_eq_true, if_false])
    · exact ih out k g (i + 1) sF (by omega) (by first | omega | assumption | (simp; done) | (simp; omega) | (simp [*]; done) | (simp [*]; omega)) (by first | omega | assumption | (simp; done) | (simp; omega) | (simp [*]; done) | (simp [*]; omega))  (by rw [hF] <;> simp only [iter, xsince_f, h2, if_true, Bool.false_eq_true, if_false])
theorem xsince_iter0 (al : List Key) (r : Nat) : ∀ (i : Nat) (out : List Key) (k g : Nat), i + r = al.length →
    iter (xsince_f al) r i (out, k, g) = (out ++ lastsK (al.drop i), k + (lastsK (al.drop i)).length, g + (lastsK (al.drop i)).length) := by
  induction r with
  | zero =>
    intro i out k g hi
    have : al.drop i = [] := List.drop_of_length_le (by omega)
    rw [this]; simp [iter, lastsK]
  | succ r ih =>
    intro i out k g hi
    rw [drop_nth (show i < al.length by omega)]
    simp only [iter, lastsK, xsince_f]
    by_cases h : (!(hasK (al.drop (i + 1)) (nth al i))) = true
    · rw [if_pos h, if_pos h, ih (i + 1) _ _ _ (by omega)]; simp; omega
    · rw [if_neg h, if_neg h, ih (i + 1) _ _ _ (by omega)]
theorem xsince_iter (al : List Key) (n : Nat) (hn : n ≤ al.length) : (lastsK (al.drop n), (lastsK (al.drop n)).length, (lastsK (al.drop n)).length) = iter (xsince_f al) (al.length - n) n ([], 0, 0) := by
  rw [xsince_iter0 al _ n [] 0 0 (by omega)]; simp
set_option maxRecDepth 100000 in
theorem xsinceS_spec (al : List Key) (n : Nat) (ha : al.length < 1000000) (h1 : n ≤ al.length) (h2 : al.length - n ≤ 16) : ACalls Try.prog 132 [(.obj 0 0 0 0), (.int .i64 ((n : Nat) : Int))] ([⟨0, 1, [[(.sl .any 2 (List.map Key.row al))]], none⟩] : Heap) ((AV.tup [(.sl .any 2 (List.map Key.row (lastsK (al.drop n)))), (.bool true)]), ([⟨0, 1, [[(.sl .any 2 (List.map Key.row al))]], none⟩] : Heap)) := by
  have h4 := lastsK_len (al.drop n)
  have h5 : (al.drop n).length = al.length - n := List.length_drop
  refine spec (fn := Try.f132) (ann := xsince_ann) (t := (.reg [] [] [] (.reg [(4, ((AV.int .i64 ((al.length : Nat) : Int)), ([⟨0, 1, [[(.sl .any 2 (List.map Key.row al))]], none⟩] : Heap)))] [] [] (.reg [(1, ((AV.bool false), ([⟨0, 1, [[(.sl .any 2 (List.map Key.row al))]], none⟩] : Heap))), (5, ((AV.bool false), ([⟨0, 1, [[(.sl .any 2 (List.map Key.row al))]], none⟩] : Heap))), (10, ((AV.int .i64 (((List.length al : Nat) : Int) - 16)), ([⟨0, 1, [[(.sl .any 2 (List.map Key.row al))]], none⟩] : Heap))), (11, ((AV.bool false), ([⟨0, 1, [[(.sl .any 2 (List.map Key.row al))]], none⟩] : Heap)))] [] [] (.two .nil (.two .nil (.two .nil (.two .nil (.two .nil (.two .nil (.two .nil (.two .nil (.reg [] [] [] (.reg [] [] [] (.loop (.exit 0) (mkF 72 [(0, (.obj 0 0 0 0)), (6, (.int .i64 ((al.length : Nat) : Int))), (7, (.osl 1 (lastsK (al.drop n)).length 2 0 (lastsK (al.drop n)).length)), (8, (.int .i64 ((al.length : Nat) : Int)))]) ([⟨0, 1, [[(.sl .any 2 (List.map Key.row al))]], none⟩, ⟨(lastsK (al.drop n)).length, 2, (List.map Key.row (lastsK (al.drop n))), none⟩] : Heap) (.reg [] [(7, (List.map Key.row (lastsK (al.drop n))))] [] .nil)))))))))))))))) (Nat.le_of_ble_eq_true (by kernel_rfl)) ⟨Try.func132, by kernel_rfl, by kernel_rfl, by kernel_rfl⟩ ?_
  refine Eq.mp (by kernel_rfl : ((Yes (.int .i64 ((List.length (List.map Key.row al) : Nat) : Int)) ([⟨0, 1, [[(.sl .any 2 (List.map Key.row al))]], none⟩] : Heap) (AV.int .i64 ((al.length : Nat) : Int))) ∧ (Yes (AV.bool (decide (((n : Nat) : Int) < 0))) ([⟨0, 1, [[(.sl .any 2 (List.map Key.row al))]], none⟩] : Heap) (AV.bool false)) ∧ (Yes (AV.bool (decide (((n : Nat) : Int) > ((al.length : Nat) : Int)))) ([⟨0, 1, [[(.sl .any 2 (List.map Key.row al))]], none⟩] : Heap) (AV.bool false)) ∧ (Yes (.int .i64 (IntKind.i64.wrap (((List.length al : Nat) : Int) - 16))) ([⟨0, 1, [[(.sl .any 2 (List.map Key.row al))]], none⟩] : Heap) (AV.int .i64 (((List.length al : Nat) : Int) - 16))) ∧ (Yes (AV.bool (decide (((n : Nat) : Int) < (((List.length al : Nat) : Int) - 16)))) ([⟨0, 1, [[(.sl .any 2 (List.map Key.row al))]], none⟩] : Heap) (AV.bool false)) ∧ (LoopTo (codeQ Try.prog (X xsince_ann) (loopOf Try.f132 0)) (some [0, 6, 7, 8]) (some [0, 6, 7, 8]) (mkF 72 [(0, (.obj 0 0 0 0)), (6, (.int .i64 ((al.length : Nat) : Int))), (7, (.osl 1 0 2 0 0)), (8, (.int .i64 ((n : Nat) : Int)))]) ([⟨0, 1, [[(.sl .any 2 (List.map Key.row al))]], none⟩, ⟨0, 2, (List.map Key.row []), none⟩] : Heap) (.exit 0) (mkF 72 [(0, (.obj 0 0 0 0)), (6, (.int .i64 ((al.length : Nat) : Int))), (7, (.osl 1 (lastsK (al.drop n)).length 2 0 (lastsK (al.drop n)).length)), (8, (.int .i64 ((al.length : Nat) : Int)))]) ([⟨0, 1, [[(.sl .any 2 (List.map Key.row al))]], none⟩, ⟨(lastsK (al.drop n)).length, 2, (List.map Key.row (lastsK (al.drop n))), none⟩] : Heap)) ∧ (rowsIn ([⟨0, 1, [[(.sl .any 2 (List.map Key.row al))]], none⟩, ⟨(lastsK (al.drop n)).length, 2, (List.map Key.row (lastsK (al.drop n))), none⟩] : Heap) 2 (AV.osl 1 (lastsK (al.drop n)).length 2 0 (lastsK (al.drop n)).length) = some (List.map Key.row (lastsK (al.drop n))) ∧ AV.bddss 0 (List.map Key.row (lastsK (al.drop n))) = true) ∧ (AV.bdd 1 (AV.tup [(.sl .any 2 (List.map Key.row (lastsK (al.drop n)))), (.bool true)]) = true ∧ obsB 1 ([⟨0, 1, [[(.sl .any 2 (List.map Key.row al))]], none⟩] : Heap) = true) ∧ ((AV.tup [(.sl .any 2 (List.map Key.row (lastsK (al.drop n)))), (.bool true)]), ([⟨0, 1, [[(.sl .any 2 (List.map Key.row al))]], none⟩] : Heap)) = ((AV.tup [(.sl .any 2 (List.map Key.row (lastsK (al.drop n)))), (.bool true)]), ([⟨0, 1, [[(.sl .any 2 (List.map Key.row al))]], none⟩] : Heap))) = _) ?_
  refine And.intro (Yes.len _ _ _) ?_
  refine And.intro (Yes.bool (by simp)) ?_
  refine And.intro (Yes.bool (by simp; omega)) ?_
  refine And.intro (Yes.add (by omega) (by omega) rfl) ?_
  refine And.intro (Yes.bool (by simp; omega)) ?_
  refine And.intro ((xsince_loop al (by omega) (List.length al - n) [] 0 0 n (lastsK (List.drop n al), (lastsK (List.drop n al)).length, (lastsK (List.drop n al)).length) (by omega) rfl (by omega) (xsince_iter _ _ (by omega)))) ?_
  refine And.intro (And.intro (rowsIn_all (room := none) (by kernel_rfl) (by first | omega | (simp; done) | (simp; omega))) (Key.rows_bdd _ _)) ?_
  refine And.intro (by first | (simp [obsB, AV.bddss, AV.bdds, AV.bdd]; done) | simp [obsB, AV.bddss, AV.bdds, AV.bdd, -List.map_append, -List.map_set, -List.map_take, -List.map_drop, -List.map_cons, -List.map_map]) ?_
  rfl
set_option maxRecDepth 100000 in
theorem xsinceN1_spec (al : List Key) (n : Int) (ha : al.length < 1000000) (h : n < 0) : ACalls Try.prog 132 [(.obj 0 0 0 0), (.int .i64 n)] ([⟨0, 1, [[(.sl .any 2 (List.map Key.row al))]], none⟩] : Heap) ((AV.tup [(.sl .any 2 (List.map Key.row [])), (.bool false)]), ([⟨0, 1, [[(.sl .any 2 (List.map Key.row al))]], none⟩] : Heap)) := by
  refine spec (fn := Try.f132) (ann := xsince_ann) (t := (.reg [] [] [] (.reg [(4, ((AV.int .i64 ((al.length : Nat) : Int)), ([⟨0, 1, [[(.sl .any 2 (List.map Key.row al))]], none⟩] : Heap)))] [] [] (.reg [(1, ((AV.bool true), ([⟨0, 1, [[(.sl .any 2 (List.map Key.row al))]], none⟩] : Heap)))] [] [] (.two (.two (.two (.two (.two (.two (.two (.two (.reg [] [] [] .nil) .nil) .nil) .nil) .nil) .nil) .nil) .nil) .nil))))) (Nat.le_of_ble_eq_true (by kernel_rfl)) ⟨Try.func132, by kernel_rfl, by kernel_rfl, by kernel_rfl⟩ ?_
  refine Eq.mp (by kernel_rfl : ((Yes (.int .i64 ((List.length (List.map Key.row al) : Nat) : Int)) ([⟨0, 1, [[(.sl .any 2 (List.map Key.row al))]], none⟩] : Heap) (AV.int .i64 ((al.length : Nat) : Int))) ∧ (Yes (AV.bool (decide (n < 0))) ([⟨0, 1, [[(.sl .any 2 (List.map Key.row al))]], none⟩] : Heap) (AV.bool true)) ∧ (AV.bdd 1 (AV.tup [(.sl .any 2 []), (.bool false)]) = true ∧ obsB 1 ([⟨0, 1, [[(.sl .any 2 (List.map Key.row al))]], none⟩] : Heap) = true) ∧ ((AV.tup [(.sl .any 2 []), (.bool false)]), ([⟨0, 1, [[(.sl .any 2 (List.map Key.row al))]], none⟩] : Heap)) = ((AV.tup [(.sl .any 2 (List.map Key.row [])), (.bool false)]), ([⟨0, 1, [[(.sl .any 2 (List.map Key.row al))]], none⟩] : Heap))) = _) ?_
  refine And.intro (Yes.len _ _ _) ?_
  refine And.intro (Yes.bool (by simp; omega)) ?_
  refine And.intro (by first | (simp [obsB, AV.bddss, AV.bdds, AV.bdd]; done) | simp [obsB, AV.bddss, AV.bdds, AV.bdd, -List.map_append, -List.map_set, -List.map_take, -List.map_drop, -List.map_cons, -List.map_map]) ?_
  rfl
set_option maxRecDepth 100000 in
theorem xsinceN2_spec (al : List Key) (n : Int) (ha : al.length < 1000000) (h : 0 ≤ n) (h1 : (al.length : Int) < n) : ACalls Try.prog 132 [(.obj 0 0 0 0), (.int .i64 n)] ([⟨0, 1, [[(.sl .any 2 (List.map Key.row al))]], none⟩] : Heap) ((AV.tup [(.sl .any 2 (List.map Key.row [])), (.bool false)]), ([⟨0, 1, [[(.sl .any 2 (List.map Key.row al))]], none⟩] : Heap)) := by
  refine spec (fn := Try.f132) (ann := xsince_ann) (t := (.reg [] [] [] (.reg [(4, ((AV.int .i64 ((al.length : Nat) : Int)), ([⟨0, 1, [[(.sl .any 2 (List.map Key.row al))]], none⟩] : Heap)))] [] [] (.reg [(1, ((AV.bool false), ([⟨0, 1, [[(.sl .any 2 (List.map Key.row al))]], none⟩] : Heap))), (5, ((AV.bool true), ([⟨0, 1, [[(.sl .any 2 (List.map Key.row al))]], none⟩] : Heap)))] [] [] (.two .nil (.two .nil (.two .nil (.two (.two (.two (.two (.two (.reg [] [] [] .nil) .nil) .nil) .nil) .nil) .nil)))))))) (Nat.le_of_ble_eq_true (by kernel_rfl)) ⟨Try.func132, by kernel_rfl, by kernel_rfl, by kernel_rfl⟩ ?_
  refine Eq.mp (by kernel_rfl : ((Yes (.int .i64 ((List.length (List.map Key.row al) : Nat) : Int)) ([⟨0, 1, [[(.sl .any 2 (List.map Key.row al))]], none⟩] : Heap) (AV.int .i64 ((al.length : Nat) : Int))) ∧ (Yes (AV.bool (decide (n < 0))) ([⟨0, 1, [[(.sl .any 2 (List.map Key.row al))]], none⟩] : Heap) (AV.bool false)) ∧ (Yes (AV.bool (decide (n > ((al.length : Nat) : Int)))) ([⟨0, 1, [[(.sl .any 2 (List.map Key.row al))]], none⟩] : Heap) (AV.bool true)) ∧ (AV.bdd 1 (AV.tup [(.sl .any 2 []), (.bool false)]) = true ∧ obsB 1 ([⟨0, 1, [[(.sl .any 2 (List.map Key.row al))]], none⟩] : Heap) = true) ∧ ((AV.tup [(.sl .any 2 []), (.bool false)]), ([⟨0, 1, [[(.sl .any 2 (List.map Key.row al))]], none⟩] : Heap)) = ((AV.tup [(.sl .any 2 (List.map Key.row [])), (.bool false)]), ([⟨0, 1, [[(.sl .any 2 (List.map Key.row al))]], none⟩] : Heap))) = _) ?_
  refine And.intro (Yes.len _ _ _) ?_
  refine And.intro (Yes.bool (by simp; omega)) ?_
  refine And.intro (Yes.bool (by simp; omega)) ?_
  refine And.intro (by first | (simp [obsB, AV.bddss, AV.bdds, AV.bdd]; done) | simp [obsB, AV.bddss, AV.bdds, AV.bdd, -List.map_append, -List.map_set, -List.map_take, -List.map_drop, -List.map_cons, -List.map_map]) ?_
  rfl
set_option maxRecDepth 100000 in
theorem xsinceN3_spec (al : List Key) (n : Nat) (ha : al.length < 1000000) (h1 : n ≤ al.length) (h2 : 16 < al.length - n) : ACalls Try.prog 132 [(.obj 0 0 0 0), (.int .i64 ((n : Nat) : Int))] ([⟨0, 1, [[(.sl .any 2 (List.map Key.row al))]], none⟩] : Heap) ((AV.tup [(.sl .any 2 (List.map Key.row [])), (.bool false)]), ([⟨0, 1, [[(.sl .any 2 (List.map Key.row al))]], none⟩] : Heap)) := by
  refine spec (fn := Try.f132) (ann := xsince_ann) (t := (.reg [] [] [] (.reg [(4, ((AV.int .i64 ((al.length : Nat) : Int)), ([⟨0, 1, [[(.sl .any 2 (List.map Key.row al))]], none⟩] : Heap)))] [] [] (.reg [(1, ((AV.bool false), ([⟨0, 1, [[(.sl .any 2 (List.map Key.row al))]], none⟩] : Heap))), (5, ((AV.bool false), ([⟨0, 1, [[(.sl .any 2 (List.map Key.row al))]], none⟩] : Heap))), (10, ((AV.int .i64 (((List.length al : Nat) : Int) - 16)), ([⟨0, 1, [[(.sl .any 2 (List.map Key.row al))]], none⟩] : Heap))), (11, ((AV.bool true), ([⟨0, 1, [[(.sl .any 2 (List.map Key.row al))]], none⟩] : Heap)))] [] [] (.two .nil (.two .nil (.two .nil (.two .nil (.two .nil (.two .nil (.two .nil (.two (.reg [] [] [] .nil) .nil)))))))))))) (Nat.le_of_ble_eq_true (by kernel_rfl)) ⟨Try.func132, by kernel_rfl, by kernel_rfl, by kernel_rfl⟩ ?_
  refine Eq.mp (by kernel_rfl : ((Yes (.int .i64 ((List.length (List.map Key.row al) : Nat) : Int)) ([⟨0, 1, [[(.sl .any 2 (List.map Key.row al))]], none⟩] : Heap) (AV.int .i64 ((al.length : Nat) : Int))) ∧ (Yes (AV.bool (decide (((n : Nat) : Int) < 0))) ([⟨0, 1, [[(.sl .any 2 (List.map Key.row al))]], none⟩] : Heap) (AV.bool false)) ∧ (Yes (AV.bool (decide (((n : Nat) : Int) > ((al.length : Nat) : Int)))) ([⟨0, 1, [[(.sl .any 2 (List.map Key.row al))]], none⟩] : Heap) (AV.bool false)) ∧ (Yes (.int .i64 (IntKind.i64.wrap (((List.length al : Nat) : Int) - 16))) ([⟨0, 1, [[(.sl .any 2 (List.map Key.row al))]], none⟩] : Heap) (AV.int .i64 (((List.length al : Nat) : Int) - 16))) ∧ (Yes (AV.bool (decide (((n : Nat) : Int) < (((List.length al : Nat) : Int) - 16)))) ([⟨0, 1, [[(.sl .any 2 (List.map Key.row al))]], none⟩] : Heap) (AV.bool true)) ∧ (AV.bdd 1 (AV.tup [(.sl .any 2 []), (.bool false)]) = true ∧ obsB 1 ([⟨0, 1, [[(.sl .any 2 (List.map Key.row al))]], none⟩] : Heap) = true) ∧ ((AV.tup [(.sl .any 2 []), (.bool false)]), ([⟨0, 1, [[(.sl .any 2 (List.map Key.row al))]], none⟩] : Heap)) = ((AV.tup [(.sl .any 2 (List.map Key.row [])), (.bool false)]), ([⟨0, 1, [[(.sl .any 2 (List.map Key.row al))]], none⟩] : Heap))) = _) ?_
  refine And.intro (Yes.len _ _ _) ?_
  refine And.intro (Yes.bool (by simp)) ?_
  refine And.intro (Yes.bool (by simp; omega)) ?_
  refine And.intro (Yes.add (by omega) (by omega) rfl) ?_
  refine And.intro (Yes.bool (by simp; omega)) ?_
  refine And.intro (by first | (simp [obsB, AV.bddss, AV.bdds, AV.bdd]; done) | simp [obsB, AV.bddss, AV.bdds, AV.bdd, -List.map_append, -List.map_set, -List.map_take, -List.map_drop, -List.map_cons, -List.map_map]) ?_
  rfl
theorem xsince_spec (al : List Key) (n : Int) (ha : al.length < 1000000) : ACalls Try.prog 132 [(.obj 0 0 0 0), (.int .i64 n)] ([⟨0, 1, [[(.sl .any 2 (List.map Key.row al))]], none⟩] : Heap) ((AV.tup [(.sl .any 2 (List.map Key.row (sinceK al n))), (.bool (okS al n))]), ([⟨0, 1, [[(.sl .any 2 (List.map Key.row al))]], none⟩] : Heap)) := by
  by_cases h : n < 0 ∨ (al.length : Int) < n ∨ 16 < (al.length : Int) - n
  · rw [sinceK_false h, okS_false h]
    by_cases h0 : n < 0
    · exact xsinceN1_spec al n ha h0
    · by_cases h1 : (al.length : Int) < n
      · exact xsinceN2_spec al n ha (by omega) h1
      · obtain ⟨m, rfl⟩ := Int.eq_ofNat_of_zero_le (show 0 ≤ n by omega)
        exact xsinceN3_spec al m ha (by omega) (by omega)
  · obtain ⟨m, rfl⟩ := Int.eq_ofNat_of_zero_le (show 0 ≤ n by omega)
    rw [sinceK_nat (by omega) (by omega), okS_nat (by omega) (by omega)]
    exact xsinceS_spec al m ha (by omega) (by omega)
end Go.Proofs.Ytcmfnfkahdconaa.AM

set_option linter.unusedVariables false
set_option linter.unusedSimpArgs false
namespace Go.Proofs.Ytcmfnfkahdconaa.AM
open Go
def strL (s : ByteArray) : List Int := s.data.toList.map fun b => (b.toNat : Int)
theorem strL_len (s : ByteArray) : (strL s).length = s.size := by unfold strL; rw [List.length_map]; rfl
theorem rows_str (H : Heap) (s : ByteArray) : rowsIn H 1 (.str s) = some ((strL s).map rU8) := by
  simp [rowsIn, strL, rU8, Function.comp_def]
theorem slice_str {H : Heap} {s : ByteArray} {lo hi : Int} {l h : Nat} (hlo : lo = (l : Int)) (hhi : hi = (h : Int)) (h1 : l ≤ h) (h2 : h ≤ s.size) :
    Option.map (fun a => (a, H)) ((bounds lo hi s.size).map fun p => AV.str (s.extract p.1 p.2)) = some (.str (s.extract l h), H) := by
  subst hlo hhi
  unfold bounds
  rw [if_pos ⟨by omega, by omega, by omega⟩]
  simp
end Go.Proofs.Ytcmfnfkahdconaa.AM

set_option maxRecDepth 100000
set_option linter.unusedVariables false
set_option linter.unusedSimpArgs false
namespace Go.Proofs.Ytcmfnfkahdconaa.AM
open Go Go.Proofs.Ytcmfnfkahdconaa
attribute [local irreducible] ACalls funT codeT codeQ LoopTo
attribute [local irreducible] Tp.card Tp.cardT Tp.next Tp.step Tp.key Tp.keyT sink insSort sortK insK posK beforeK sortP cmpK
def cloneBN_ann : Ann := { gha := [(2, .vir 2 1)], fin := some 1 }
set_option maxRecDepth 100000 in
theorem cloneBN_spec   : ACalls Try.prog 137 [(.sl .nil 0 [])] ([] : Heap) ((AV.osl 0 0 1 0 0), ([⟨0, 1, (List.map rU8 []), none⟩] : Heap)) := by
  refine spec (fn := Try.f137) (ann := cloneBN_ann) (t := (.reg [] [] [] (.reg [] [] [] (.two (.reg [] [] [] .nil) .nil)))) (Nat.le_of_ble_eq_true (by kernel_rfl)) ⟨Try.func137, by kernel_rfl, by kernel_rfl, by kernel_rfl⟩ ?_
  refine Eq.mp (by kernel_rfl : ((AV.bdd 1 (AV.osl 0 0 1 0 0) = true ∧ obsB 1 ([⟨0, 1, (List.map rU8 []), none⟩] : Heap) = true) ∧ ((AV.osl 0 0 1 0 0), ([⟨0, 1, (List.map rU8 []), none⟩] : Heap)) = ((AV.osl 0 0 1 0 0), ([⟨0, 1, (List.map rU8 []), none⟩] : Heap))) = _) ?_
  refine And.intro (by first | (simp [obsB, AV.bddss, AV.bdds, AV.bdd]; done) | simp [obsB, AV.bddss, AV.bdds, AV.bdd, -List.map_append, -List.map_set, -List.map_take, -List.map_drop, -List.map_cons, -List.map_map]) ?_
  rfl
def cloneBO_ann : Ann := { own := [7], fin := some 1 }
set_option maxRecDepth 100000 in
theorem cloneBO_spec (l : List Int) (hl : l.length < 1099511627776) : ACalls Try.prog 137 [(.sl .op 1 (List.map rU8 l))] ([] : Heap) ((AV.osl 0 0 1 0 l.length), ([⟨0, 1, (List.map rU8 l), none⟩] : Heap)) := by
  refine spec (fn := Try.f137) (ann := cloneBO_ann) (t := (.reg [] [] [] (.reg [] [] [] (.two .nil (.reg [(2, ((AV.osl 0 0 1 0 l.length), ([⟨0, 1, (List.map rU8 l), none⟩] : Heap)))] [] [] .nil))))) (Nat.le_of_ble_eq_true (by kernel_rfl)) ⟨Try.func137, by kernel_rfl, by kernel_rfl, by kernel_rfl⟩ ?_
  refine Eq.mp (by kernel_rfl : ((evAppendO tt ([] : Heap) 85 (AV.sl .clip 1 []) (AV.sl .op 1 (List.map rU8 l)) = some ((AV.osl 0 0 1 0 l.length), ([⟨0, 1, (List.map rU8 l), none⟩] : Heap))) ∧ (AV.bdd 1 (AV.osl 0 0 1 0 l.length) = true ∧ obsB 1 ([⟨0, 1, (List.map rU8 l), none⟩] : Heap) = true) ∧ ((AV.osl 0 0 1 0 l.length), ([⟨0, 1, (List.map rU8 l), none⟩] : Heap)) = ((AV.osl 0 0 1 0 l.length), ([⟨0, 1, (List.map rU8 l), none⟩] : Heap))) = _) ?_
  refine And.intro (evAppendO_fresh (T := tt) (e := 5) (te := { d := .int .u8, size := 1, bytes := 1, zero := [.int .u8 0] }) (z := 1) (b := 24) (y := [.sl .nil 0 []]) (row := rU8) (by kernel_rfl) (by kernel_rfl) rfl (by decide) (by decide) (by simp) (by first | (simp [rowsIn, List.map_take, List.map_drop, List.take_of_length_le]; done) | simp [rowsIn, rU8, rI64, rStr, rBool]) rfl rfl rfl (by first | omega | (simp; done) | (simp; omega))) ?_
  refine And.intro (by first | (simp [obsB, AV.bddss, AV.bdds, AV.bdd]; done) | simp [obsB, AV.bddss, AV.bdds, AV.bdd, -List.map_append, -List.map_set, -List.map_take, -List.map_drop, -List.map_cons, -List.map_map]) ?_
  rfl
theorem cloneB_spec (l : List Int) (hl : l.length < 1099511627776) : ACalls Try.prog 137 [(.sl .any 1 (List.map rU8 l))] ([] : Heap) ((AV.osl 0 0 1 0 l.length), ([⟨0, 1, (List.map rU8 l), none⟩] : Heap)) := ACalls.orNil (fun h => by
    have h2 : l = [] := by simpa using h
    subst h2; exact cloneBN_spec) (cloneBO_spec l hl)
theorem cloneB_at (l : List Int) (hl : l.length < 1099511627776) (H : Heap) : ACalls Try.prog 137 [(.sl .any 1 (List.map rU8 l))] H (.osl H.length 0 1 0 l.length, H ++ ([⟨0, 1, (List.map rU8 l), none⟩] : Heap)) := (cloneB_spec l hl).lift_osl (by kernel_rfl) (by simp [AV.bddss, rU8_bdd]) H
def byteB (b : List Int) (n : Int) : List Int := b ++ [IntKind.u8.wrap n]
theorem byteB_len (b : List Int) (n : Int) : (byteB b n).length = b.length + 1 := by simp [byteB]
def byteO_ann : Ann := { own := [10], fin := some 1 }
set_option maxRecDepth 100000 in
theorem byteO_spec (b : List Int) (n : Int) (hb : b.length < 1048576) : ACalls Try.prog 91 [(.sl .any 1 (List.map rU8 b)), (.int .i64 n)] ([] : Heap) ((AV.osl 0 1 1 0 (byteB b n).length), ([⟨1, 1, (List.map rU8 (byteB b n)), none⟩] : Heap)) := by
  have hB := byteB_len b n
  refine spec (fn := Try.f91) (ann := byteO_ann) (t := (.reg [] [] [] (.reg [(1, ((AV.osl 0 0 1 0 b.length), ([⟨0, 1, (List.map rU8 b), none⟩] : Heap))), (5, ((AV.osl 0 1 1 0 (b.length + 1)), ([⟨1, 1, (List.map rU8 (b ++ [(IntKind.u8.wrap n)])), none⟩] : Heap)))] [] [] .nil))) (Nat.le_of_ble_eq_true (by kernel_rfl)) ⟨Try.func91, by kernel_rfl, by kernel_rfl, by kernel_rfl⟩ ?_
  refine Eq.mp (by kernel_rfl : ((ACalls Try.prog 137 [(.sl .any 1 (List.map rU8 b))] ([] : Heap) ((AV.osl 0 0 1 0 b.length), ([⟨0, 1, (List.map rU8 b), none⟩] : Heap))) ∧ (evAppendO tt ([⟨0, 1, (List.map rU8 b), none⟩] : Heap) 85 (AV.osl 0 0 1 0 b.length) (AV.sl .clip 1 [[(.int .u8 (IntKind.u8.wrap n))]]) = some ((AV.osl 0 1 1 0 (b.length + 1)), ([⟨1, 1, (List.map rU8 (b ++ [(IntKind.u8.wrap n)])), none⟩] : Heap))) ∧ (AV.bdd 1 (AV.osl 0 1 1 0 (b.length + 1)) = true ∧ obsB 1 ([⟨1, 1, (List.map rU8 (b ++ [(IntKind.u8.wrap n)])), none⟩] : Heap) = true) ∧ ((AV.osl 0 1 1 0 (b.length + 1)), ([⟨1, 1, (List.map rU8 (b ++ [(IntKind.u8.wrap n)])), none⟩] : Heap)) = ((AV.osl 0 1 1 0 (byteB b n).length), ([⟨1, 1, (List.map rU8 (byteB b n)), none⟩] : Heap))) = _) ?_
  refine And.intro (cloneB_at b (by first | omega | assumption | (simp; done) | (simp; omega) | (simp_all; done) | (simp_all; omega)) ([] : Heap)) ?_
  refine And.intro (evAppendO_end (T := tt) (e := 5) (te := { d := .int .u8, size := 1, bytes := 1, zero := [.int .u8 0] }) (z := 1) (b := 24) (y := [.sl .nil 0 []]) (row := rU8) (l := b) (by kernel_rfl) (by kernel_rfl) rfl (by decide) (by decide) (by kernel_rfl) (by first | (simp [rowsIn, List.map_take, List.map_drop, List.take_of_length_le]; done) | simp [rowsIn, rU8, rI64, rStr, rBool]) (by first | omega | (simp; done) | (simp; omega)) rfl rfl (by first | omega | (show _ * 1 ≤ _; omega) | (simp; done) | (simp; omega))) ?_
  refine And.intro (by first | (simp [obsB, AV.bddss, AV.bdds, AV.bdd]; done) | simp [obsB, AV.bddss, AV.bdds, AV.bdd, -List.map_append, -List.map_set, -List.map_take, -List.map_drop, -List.map_cons, -List.map_map]) ?_
  simp [byteB]
theorem byteO_at (b : List Int) (n : Int) (hb : b.length < 1048576) (H : Heap) : ACalls Try.prog 91 [(.sl .any 1 (List.map rU8 b)), (.int .i64 n)] H (.osl H.length 1 1 0 (byteB b n).length, H ++ ([⟨1, 1, (List.map rU8 (byteB b n)), none⟩] : Heap)) := (byteO_spec b n hb).lift_osl (by kernel_rfl) (by simp [AV.bddss, rU8_bdd]) H
theorem byteF_spec (b : List Int) (n : Int) (hb : b.length < 1048576) : ACalls Try.prog 91 [(.sl .any 1 (List.map rU8 b)), (.int .i64 n)] ([] : Heap) ((AV.sl .any 1 (List.map rU8 (byteB b n))), ([] : Heap)) := by
  have h1 := (byteO_spec b n hb).frz_osl (xs := (byteB b n).map rU8) (rowsIn_all (room := none) (by kernel_rfl) (by first | omega | simp)) (rU8_bdd _ _)
  exact ACalls.forget (H2 := []) (X := [⟨2, 1, [], none⟩]) h1 rfl (by kernel_rfl) (fun id o ho => by simp at ho)
theorem byteF_at (b : List Int) (n : Int) (hb : b.length < 1048576) (H : Heap) : ACalls Try.prog 91 [(.sl .any 1 (List.map rU8 b)), (.int .i64 n)] H ((AV.sl .any 1 (List.map rU8 (byteB b n))), H) := (byteF_spec b n hb).lift (by kernel_rfl) (by kernel_rfl) H
def cutS (s : ByteArray) : ByteArray := ByteArray.extract s 0 (min s.size 255)
theorem cutS_size (s : ByteArray) : (cutS s).size = min s.size 255 := by simp [cutS]
def textB (b : List Int) (s : ByteArray) : List Int := byteB b (cutS s).size ++ strL (cutS s)
theorem textB_len (b : List Int) (s : ByteArray) : (textB b s).length ≤ b.length + 256 := by
  have := cutS_size s
  simp only [textB, List.length_append, byteB_len, strL_len]; omega
def textO_ann : Ann := { own := [15], fin := some 1 }
set_option maxRecDepth 100000 in
theorem textO_spec (b : List Int) (s : ByteArray) (hb : b.length < 1048576) : ACalls Try.prog 92 [(.sl .any 1 (List.map rU8 b)), (.str s)] ([] : Heap) ((AV.osl 0 2 1 0 (textB b s).length), ([⟨2, 1, (List.map rU8 (textB b s)), none⟩] : Heap)) := by
  have hT := textB_len b s
  have h7 : (ByteArray.extract s 0 (min s.size 255)).size = min s.size 255 := cutS_size s
  have h5 := byteB_len b ((min s.size 255 : Nat) : Int)
  have h6 := strL_len (ByteArray.extract s 0 (min s.size 255))
  refine spec (fn := Try.f92) (ann := textO_ann) (t := (.reg [] [] [] (.reg [(3, ((AV.int .i64 ((min s.size 255 : Nat) : Int)), ([] : Heap))), (4, ((AV.str (ByteArray.extract s 0 (min s.size 255))), ([] : Heap)))] [] [] (.reg [(3, ((AV.osl 0 1 1 0 (byteB b (((ByteArray.extract s 0 (min s.size 255)).size : Nat) : Int)).length), ([⟨1, 1, (List.map rU8 (byteB b (((ByteArray.extract s 0 (min s.size 255)).size : Nat) : Int))), none⟩] : Heap))), (5, ((AV.osl 0 2 1 0 ((byteB b (((ByteArray.extract s 0 (min s.size 255)).size : Nat) : Int)).length + (strL (ByteArray.extract s 0 (min s.size 255))).length)), ([⟨2, 1, (List.map rU8 ((byteB b (((ByteArray.extract s 0 (min s.size 255)).size : Nat) : Int)) ++ (strL (ByteArray.extract s 0 (min s.size 255))))), none⟩] : Heap)))] [] [] .nil)))) (Nat.le_of_ble_eq_true (by kernel_rfl)) ⟨Try.func92, by kernel_rfl, by kernel_rfl, by kernel_rfl⟩ ?_
  refine Eq.mp (by kernel_rfl : ((Yes (.int .i64 (if 255 < ((s.size : Nat) : Int) then 255 else ((s.size : Nat) : Int))) ([] : Heap) (AV.int .i64 ((min s.size 255 : Nat) : Int))) ∧ (Option.map (fun a => (a, ([] : Heap))) ((bounds 0 ((min s.size 255 : Nat) : Int) (ByteArray.size s)).map fun p => AV.str (ByteArray.extract s p.1 p.2)) = some ((AV.str (ByteArray.extract s 0 (min s.size 255))), ([] : Heap))) ∧ (ACalls Try.prog 91 [(.sl .any 1 (List.map rU8 b)), (.int .i64 (((ByteArray.extract s 0 (min s.size 255)).size : Nat) : Int))] ([] : Heap) ((AV.osl 0 1 1 0 (byteB b (((ByteArray.extract s 0 (min s.size 255)).size : Nat) : Int)).length), ([⟨1, 1, (List.map rU8 (byteB b (((ByteArray.extract s 0 (min s.size 255)).size : Nat) : Int))), none⟩] : Heap))) ∧ (evAppendO tt ([⟨1, 1, (List.map rU8 (byteB b (((ByteArray.extract s 0 (min s.size 255)).size : Nat) : Int))), none⟩] : Heap) 85 (AV.osl 0 1 1 0 (byteB b (((ByteArray.extract s 0 (min s.size 255)).size : Nat) : Int)).length) (AV.str (ByteArray.extract s 0 (min s.size 255))) = some ((AV.osl 0 2 1 0 ((byteB b (((ByteArray.extract s 0 (min s.size 255)).size : Nat) : Int)).length + (strL (ByteArray.extract s 0 (min s.size 255))).length)), ([⟨2, 1, (List.map rU8 ((byteB b (((ByteArray.extract s 0 (min s.size 255)).size : Nat) : Int)) ++ (strL (ByteArray.extract s 0 (min s.size 255))))), none⟩] : Heap))) ∧ (AV.bdd 1 (AV.osl 0 2 1 0 ((byteB b (((ByteArray.extract s 0 (min s.size 255)).size : Nat) : Int)).length + (strL (ByteArray.extract s 0 (min s.size 255))).length)) = true ∧ obsB 1 ([⟨2, 1, (List.map rU8 ((byteB b (((ByteArray.extract s 0 (min s.size 255)).size : Nat) : Int)) ++ (strL (ByteArray.extract s 0 (min s.size 255))))), none⟩] : Heap) = true) ∧ ((AV.osl 0 2 1 0 ((byteB b (((ByteArray.extract s 0 (min s.size 255)).size : Nat) : Int)).length + (strL (ByteArray.extract s 0 (min s.size 255))).length)), ([⟨2, 1, (List.map rU8 ((byteB b (((ByteArray.extract s 0 (min s.size 255)).size : Nat) : Int)) ++ (strL (ByteArray.extract s 0 (min s.size 255))))), none⟩] : Heap)) = ((AV.osl 0 2 1 0 (textB b s).length), ([⟨2, 1, (List.map rU8 (textB b s)), none⟩] : Heap))) = _) ?_
  refine And.intro (Yes.int (by split <;> omega)) ?_
  refine And.intro (slice_str (by first | omega | (simp; done) | (simp; omega)) (by first | omega | (simp; done) | (simp; omega)) (by first | omega | (simp; done) | (simp; omega)) (by first | omega | (simp; done) | (simp; omega))) ?_
  refine And.intro (byteO_at b (((ByteArray.extract s 0 (min s.size 255)).size : Nat) : Int) (by first | omega | assumption | (simp; done) | (simp; omega) | (simp_all; done) | (simp_all; omega)) ([] : Heap)) ?_
  refine And.intro (evAppendO_end (T := tt) (e := 5) (te := { d := .int .u8, size := 1, bytes := 1, zero := [.int .u8 0] }) (z := 1) (b := 24) (y := [.sl .nil 0 []]) (row := rU8) (l := (byteB b (((ByteArray.extract s 0 (min s.size 255)).size : Nat) : Int))) (by kernel_rfl) (by kernel_rfl) rfl (by decide) (by decide) (by kernel_rfl) (rows_str _ _) (by first | omega | (simp; done) | (simp; omega)) rfl rfl (by first | omega | (show _ * 1 ≤ _; omega) | (simp; done) | (simp; omega))) ?_
  refine And.intro (by first | (simp [obsB, AV.bddss, AV.bdds, AV.bdd]; done) | simp [obsB, AV.bddss, AV.bdds, AV.bdd, -List.map_append, -List.map_set, -List.map_take, -List.map_drop, -List.map_cons, -List.map_map]) ?_
  simp [textB, cutS, byteB, strL_len] <;> omega
theorem textF_spec (b : List Int) (s : ByteArray) (hb : b.length < 1048576) : ACalls Try.prog 92 [(.sl .any 1 (List.map rU8 b)), (.str s)] ([] : Heap) ((AV.sl .any 1 (List.map rU8 (textB b s))), ([] : Heap)) := by
  have h1 := (textO_spec b s hb).frz_osl (xs := (textB b s).map rU8) (rowsIn_all (room := none) (by kernel_rfl) (by first | omega | simp)) (rU8_bdd _ _)
  exact ACalls.forget (H2 := []) (X := [⟨3, 1, [], none⟩]) h1 rfl (by kernel_rfl) (fun id o ho => by simp at ho)
theorem textF_at (b : List Int) (s : ByteArray) (hb : b.length < 1048576) (H : Heap) : ACalls Try.prog 92 [(.sl .any 1 (List.map rU8 b)), (.str s)] H ((AV.sl .any 1 (List.map rU8 (textB b s))), H) := (textF_spec b s hb).lift (by kernel_rfl) (by kernel_rfl) H
def clipB_ann : Ann := { fin := some 0 }
set_option maxRecDepth 100000 in
theorem clipB_spec (l : List Int) (hl : l.length < 1099511627776) : ACalls Try.prog 138 [(.sl .any 1 (List.map rU8 l))] ([] : Heap) ((AV.sl .cn 1 (List.map rU8 l)), ([] : Heap)) := by
  refine spec (fn := Try.f138) (ann := clipB_ann) (t := (.reg [] [] [] (.reg [(2, ((AV.int .i64 ((l.length : Nat) : Int)), ([] : Heap))), (4, ((AV.int .i64 ((l.length : Nat) : Int)), ([] : Heap))), (5, ((AV.sl .cn 1 (List.map rU8 l)), ([] : Heap)))] [] [] .nil))) (Nat.le_of_ble_eq_true (by kernel_rfl)) ⟨Try.func138, by kernel_rfl, by kernel_rfl, by kernel_rfl⟩ ?_
  refine Eq.mp (by kernel_rfl : ((Yes (.int .i64 ((List.length (List.map rU8 l) : Nat) : Int)) ([] : Heap) (AV.int .i64 ((l.length : Nat) : Int))) ∧ (Yes (.int .i64 ((List.length (List.map rU8 l) : Nat) : Int)) ([] : Heap) (AV.int .i64 ((l.length : Nat) : Int))) ∧ (Option.map (fun a => (a, ([] : Heap))) (if 1 = 1 ∨ ((List.map rU8 l)).isEmpty = true then (if ((l.length : Nat) : Int) = ((l.length : Nat) : Int) then (bounds 0 ((l.length : Nat) : Int) (List.length (List.map rU8 l))).map fun p => AV.sl .cn 1 ((List.take p.2 (List.map rU8 l)).drop p.1) else none) else none) = some ((AV.sl .cn 1 (List.map rU8 l)), ([] : Heap))) ∧ (AV.bdd 0 (AV.sl .cn 1 (List.map rU8 l)) = true ∧ obsB 0 ([] : Heap) = true) ∧ ((AV.sl .cn 1 (List.map rU8 l)), ([] : Heap)) = ((AV.sl .cn 1 (List.map rU8 l)), ([] : Heap))) = _) ?_
  refine And.intro (Yes.len _ _ _) ?_
  refine And.intro (Yes.len _ _ _) ?_
  refine And.intro (slice_max (l := 0) (h := l.length) (by first | omega | (simp; done) | (simp; omega)) (by first | omega | (simp; done) | (simp; omega)) (by first | omega | (simp; done) | (simp; omega)) (by first | omega | (simp; done) | (simp; omega)) (by simp [List.map_take, List.map_drop, List.take_of_length_le]) (by first | rfl | omega | (simp; done) | (simp; omega))) ?_
  refine And.intro (by first | (simp [obsB, AV.bddss, AV.bdds, AV.bdd]; done) | simp [obsB, AV.bddss, AV.bdds, AV.bdd, -List.map_append, -List.map_set, -List.map_take, -List.map_drop, -List.map_cons, -List.map_map]) ?_
  rfl
theorem clipB_at (l : List Int) (hl : l.length < 1099511627776) (H : Heap) : ACalls Try.prog 138 [(.sl .any 1 (List.map rU8 l))] H ((AV.sl .cn 1 (List.map rU8 l)), H) := (clipB_spec l hl).lift (by kernel_rfl) (by kernel_rfl) H
def byteAt (n : Int) (k : Nat) : Int := IntKind.u8.wrap (Int.fdiv n (2 ^ (min (Int.toNat (8 * k : Nat)) 64)))
def intB (b : List Int) (n : Int) : List Int := b ++ [byteAt n 7, byteAt n 6, byteAt n 5, byteAt n 4, byteAt n 3, byteAt n 2, byteAt n 1, byteAt n 0]
theorem intB_len (b : List Int) (n : Int) : (intB b n).length = b.length + 8 := by simp [intB]
def int8_ann : Ann := { own := [20], gh := [(6, .frz 5)], fin := some 0 }
set_option maxRecDepth 100000 in
theorem int8_spec (b : List Int) (n : Int) (hb : b.length < 1048576) : ACalls Try.prog 94 [(.sl .any 1 (List.map rU8 b)), (.int .i64 n)] ([] : Heap) ((AV.sl .cn 1 (List.map rU8 (intB b n))), ([] : Heap)) := by
  refine spec (fn := Try.f94) (ann := int8_ann) (t := (.reg [] [] [] (.reg [(1, ((AV.osl 0 0 1 0 b.length), ([⟨0, 1, (List.map rU8 b), none⟩] : Heap)))] [] [] (.reg [] [] [] (.roll 9 (.reg [] [] [] (.two (.reg [(7, ((AV.osl 0 1 1 0 (b.length + 1)), ([⟨1, 1, (List.map rU8 (b ++ [(IntKind.u8.wrap (Int.fdiv n (2 ^ (min (Int.toNat 56) 64))))])), none⟩] : Heap)))] [] [] (.reg [] [] [] (.reg [] [] [] (.two (.reg [(7, ((AV.osl 0 2 1 0 ((b.length + 1) + 1)), ([⟨2, 1, (List.map rU8 ((b ++ [(IntKind.u8.wrap (Int.fdiv n (2 ^ (min (Int.toNat 56) 64))))]) ++ [(IntKind.u8.wrap (Int.fdiv n (2 ^ (min (Int.toNat 48) 64))))])), none⟩] : Heap)))] [] [] (.reg [] [] [] (.reg [] [] [] (.two (.reg [(7, ((AV.osl 0 3 1 0 (((b.length + 1) + 1) + 1)), ([⟨3, 1, (List.map rU8 (((b ++ [(IntKind.u8.wrap (Int.fdiv n (2 ^ (min (Int.toNat 56) 64))))]) ++ [(IntKind.u8.wrap (Int.fdiv n (2 ^ (min (Int.toNat 48) 64))))]) ++ [(IntKind.u8.wrap (Int.fdiv n (2 ^ (min (Int.toNat 40) 64))))])), none⟩] : Heap)))] [] [] (.reg [] [] [] (.reg [] [] [] (.two (.reg [(7, ((AV.osl 0 4 1 0 ((((b.length + 1) + 1) + 1) + 1)), ([⟨4, 1, (List.map rU8 ((((b ++ [(IntKind.u8.wrap (Int.fdiv n (2 ^ (min (Int.toNat 56) 64))))]) ++ [(IntKind.u8.wrap (Int.fdiv n (2 ^ (min (Int.toNat 48) 64))))]) ++ [(IntKind.u8.wrap (Int.fdiv n (2 ^ (min (Int.toNat 40) 64))))]) ++ [(IntKind.u8.wrap (Int.fdiv n (2 ^ (min (Int.toNat 32) 64))))])), none⟩] : Heap)))] [] [] (.reg [] [] [] (.reg [] [] [] (.two (.reg [(7, ((AV.osl 0 5 1 0 (((((b.length + 1) + 1) + 1) + 1) + 1)), ([⟨5, 1, (List.map rU8 (((((b ++ [(IntKind.u8.wrap (Int.fdiv n (2 ^ (min (Int.toNat 56) 64))))]) ++ [(IntKind.u8.wrap (Int.fdiv n (2 ^ (min (Int.toNat 48) 64))))]) ++ [(IntKind.u8.wrap (Int.fdiv n (2 ^ (min (Int.toNat 40) 64))))]) ++ [(IntKind.u8.wrap (Int.fdiv n (2 ^ (min (Int.toNat 32) 64))))]) ++ [(IntKind.u8.wrap (Int.fdiv n (2 ^ (min (Int.toNat 24) 64))))])), none⟩] : Heap)))] [] [] (.reg [] [] [] (.reg [] [] [] (.two (.reg [(7, ((AV.osl 0 6 1 0 ((((((b.length + 1) + 1) + 1) + 1) + 1) + 1)), ([⟨6, 1, (List.map rU8 ((((((b ++ [(IntKind.u8.wrap (Int.fdiv n (2 ^ (min (Int.toNat 56) 64))))]) ++ [(IntKind.u8.wrap (Int.fdiv n (2 ^ (min (Int.toNat 48) 64))))]) ++ [(IntKind.u8.wrap (Int.fdiv n (2 ^ (min (Int.toNat 40) 64))))]) ++ [(IntKind.u8.wrap (Int.fdiv n (2 ^ (min (Int.toNat 32) 64))))]) ++ [(IntKind.u8.wrap (Int.fdiv n (2 ^ (min (Int.toNat 24) 64))))]) ++ [(IntKind.u8.wrap (Int.fdiv n (2 ^ (min (Int.toNat 16) 64))))])), none⟩] : Heap)))] [] [] (.reg [] [] [] (.reg [] [] [] (.two (.reg [(7, ((AV.osl 0 7 1 0 (((((((b.length + 1) + 1) + 1) + 1) + 1) + 1) + 1)), ([⟨7, 1, (List.map rU8 (((((((b ++ [(IntKind.u8.wrap (Int.fdiv n (2 ^ (min (Int.toNat 56) 64))))]) ++ [(IntKind.u8.wrap (Int.fdiv n (2 ^ (min (Int.toNat 48) 64))))]) ++ [(IntKind.u8.wrap (Int.fdiv n (2 ^ (min (Int.toNat 40) 64))))]) ++ [(IntKind.u8.wrap (Int.fdiv n (2 ^ (min (Int.toNat 32) 64))))]) ++ [(IntKind.u8.wrap (Int.fdiv n (2 ^ (min (Int.toNat 24) 64))))]) ++ [(IntKind.u8.wrap (Int.fdiv n (2 ^ (min (Int.toNat 16) 64))))]) ++ [(IntKind.u8.wrap (Int.fdiv n (2 ^ (min (Int.toNat 8) 64))))])), none⟩] : Heap)))] [] [] (.reg [] [] [] (.reg [] [] [] (.two (.reg [(7, ((AV.osl 0 8 1 0 ((((((((b.length + 1) + 1) + 1) + 1) + 1) + 1) + 1) + 1)), ([⟨8, 1, (List.map rU8 ((((((((b ++ [(IntKind.u8.wrap (Int.fdiv n (2 ^ (min (Int.toNat 56) 64))))]) ++ [(IntKind.u8.wrap (Int.fdiv n (2 ^ (min (Int.toNat 48) 64))))]) ++ [(IntKind.u8.wrap (Int.fdiv n (2 ^ (min (Int.toNat 40) 64))))]) ++ [(IntKind.u8.wrap (Int.fdiv n (2 ^ (min (Int.toNat 32) 64))))]) ++ [(IntKind.u8.wrap (Int.fdiv n (2 ^ (min (Int.toNat 24) 64))))]) ++ [(IntKind.u8.wrap (Int.fdiv n (2 ^ (min (Int.toNat 16) 64))))]) ++ [(IntKind.u8.wrap (Int.fdiv n (2 ^ (min (Int.toNat 8) 64))))]) ++ [(IntKind.u8.wrap (Int.fdiv n (2 ^ (min (Int.toNat 0) 64))))])), none⟩] : Heap)))] [] [] (.reg [] [] [] (.reg [] [] [] (.two .nil (.reg [(1, ((AV.sl .cn 1 (List.map rU8 ((((((((b ++ [(IntKind.u8.wrap (Int.fdiv n (2 ^ (min (Int.toNat 56) 64))))]) ++ [(IntKind.u8.wrap (Int.fdiv n (2 ^ (min (Int.toNat 48) 64))))]) ++ [(IntKind.u8.wrap (Int.fdiv n (2 ^ (min (Int.toNat 40) 64))))]) ++ [(IntKind.u8.wrap (Int.fdiv n (2 ^ (min (Int.toNat 32) 64))))]) ++ [(IntKind.u8.wrap (Int.fdiv n (2 ^ (min (Int.toNat 24) 64))))]) ++ [(IntKind.u8.wrap (Int.fdiv n (2 ^ (min (Int.toNat 16) 64))))]) ++ [(IntKind.u8.wrap (Int.fdiv n (2 ^ (min (Int.toNat 8) 64))))]) ++ [(IntKind.u8.wrap (Int.fdiv n (2 ^ (min (Int.toNat 0) 64))))]))), ([⟨9, 1, [], none⟩] : Heap)))] [(5, (List.map rU8 ((((((((b ++ [(IntKind.u8.wrap (Int.fdiv n (2 ^ (min (Int.toNat 56) 64))))]) ++ [(IntKind.u8.wrap (Int.fdiv n (2 ^ (min (Int.toNat 48) 64))))]) ++ [(IntKind.u8.wrap (Int.fdiv n (2 ^ (min (Int.toNat 40) 64))))]) ++ [(IntKind.u8.wrap (Int.fdiv n (2 ^ (min (Int.toNat 32) 64))))]) ++ [(IntKind.u8.wrap (Int.fdiv n (2 ^ (min (Int.toNat 24) 64))))]) ++ [(IntKind.u8.wrap (Int.fdiv n (2 ^ (min (Int.toNat 16) 64))))]) ++ [(IntKind.u8.wrap (Int.fdiv n (2 ^ (min (Int.toNat 8) 64))))]) ++ [(IntKind.u8.wrap (Int.fdiv n (2 ^ (min (Int.toNat 0) 64))))])))] [] .nil))))) .nil)))) .nil)))) .nil)))) .nil)))) .nil)))) .nil)))) .nil)))) .nil))))))) (Nat.le_of_ble_eq_true (by kernel_rfl)) ⟨Try.func94, by kernel_rfl, by kernel_rfl, by kernel_rfl⟩ ?_
  refine Eq.mp (by kernel_rfl : ((ACalls Try.prog 137 [(.sl .any 1 (List.map rU8 b))] ([] : Heap) ((AV.osl 0 0 1 0 b.length), ([⟨0, 1, (List.map rU8 b), none⟩] : Heap))) ∧ (evAppendO tt ([⟨0, 1, (List.map rU8 b), none⟩] : Heap) 85 (AV.osl 0 0 1 0 b.length) (AV.sl .clip 1 [[(.int .u8 (IntKind.u8.wrap (Int.fdiv n (2 ^ (min (Int.toNat 56) 64)))))]]) = some ((AV.osl 0 1 1 0 (b.length + 1)), ([⟨1, 1, (List.map rU8 (b ++ [(IntKind.u8.wrap (Int.fdiv n (2 ^ (min (Int.toNat 56) 64))))])), none⟩] : Heap))) ∧ (evAppendO tt ([⟨1, 1, (List.map rU8 (b ++ [(IntKind.u8.wrap (Int.fdiv n (2 ^ (min (Int.toNat 56) 64))))])), none⟩] : Heap) 85 (AV.osl 0 1 1 0 (b.length + 1)) (AV.sl .clip 1 [[(.int .u8 (IntKind.u8.wrap (Int.fdiv n (2 ^ (min (Int.toNat 48) 64)))))]]) = some ((AV.osl 0 2 1 0 ((b.length + 1) + 1)), ([⟨2, 1, (List.map rU8 ((b ++ [(IntKind.u8.wrap (Int.fdiv n (2 ^ (min (Int.toNat 56) 64))))]) ++ [(IntKind.u8.wrap (Int.fdiv n (2 ^ (min (Int.toNat 48) 64))))])), none⟩] : Heap))) ∧ (evAppendO tt ([⟨2, 1, (List.map rU8 ((b ++ [(IntKind.u8.wrap (Int.fdiv n (2 ^ (min (Int.toNat 56) 64))))]) ++ [(IntKind.u8.wrap (Int.fdiv n (2 ^ (min (Int.toNat 48) 64))))])), none⟩] : Heap) 85 (AV.osl 0 2 1 0 ((b.length + 1) + 1)) (AV.sl .clip 1 [[(.int .u8 (IntKind.u8.wrap (Int.fdiv n (2 ^ (min (Int.toNat 40) 64)))))]]) = some ((AV.osl 0 3 1 0 (((b.length + 1) + 1) + 1)), ([⟨3, 1, (List.map rU8 (((b ++ [(IntKind.u8.wrap (Int.fdiv n (2 ^ (min (Int.toNat 56) 64))))]) ++ [(IntKind.u8.wrap (Int.fdiv n (2 ^ (min (Int.toNat 48) 64))))]) ++ [(IntKind.u8.wrap (Int.fdiv n (2 ^ (min (Int.toNat 40) 64))))])), none⟩] : Heap))) ∧ (evAppendO tt ([⟨3, 1, (List.map rU8 (((b ++ [(IntKind.u8.wrap (Int.fdiv n (2 ^ (min (Int.toNat 56) 64))))]) ++ [(IntKind.u8.wrap (Int.fdiv n (2 ^ (min (Int.toNat 48) 64))))]) ++ [(IntKind.u8.wrap (Int.fdiv n (2 ^ (min (Int.toNat 40) 64))))])), none⟩] : Heap) 85 (AV.osl 0 3 1 0 (((b.length + 1) + 1) + 1)) (AV.sl .clip 1 [[(.int .u8 (IntKind.u8.wrap (Int.fdiv n (2 ^ (min (Int.toNat 32) 64)))))]]) = some ((AV.osl 0 4 1 0 ((((b.length + 1) + 1) + 1) + 1)), ([⟨4, 1, (List.map rU8 ((((b ++ [(IntKind.u8.wrap (Int.fdiv n (2 ^ (min (Int.toNat 56) 64))))]) ++ [(IntKind.u8.wrap (Int.fdiv n (2 ^ (min (Int.toNat 48) 64))))]) ++ [(IntKind.u8.wrap (Int.fdiv n (2 ^ (min (Int.toNat 40) 64))))]) ++ [(IntKind.u8.wrap (Int.fdiv n (2 ^ (min (Int.toNat 32) 64))))])), none⟩] : Heap))) ∧ (evAppendO tt ([⟨4, 1, (List.map rU8 ((((b ++ [(IntKind.u8.wrap (Int.fdiv n (2 ^ (min (Int.toNat 56) 64))))]) ++ [(IntKind.u8.wrap (Int.fdiv n (2 ^ (min (Int.toNat 48) 64))))]) ++ [(IntKind.u8.wrap (Int.fdiv n (2 ^ (min (Int.toNat 40) 64))))]) ++ [(IntKind.u8.wrap (Int.fdiv n (2 ^ (min (Int.toNat 32) 64))))])), none⟩] : Heap) 85 (AV.osl 0 4 1 0 ((((b.length + 1) + 1) + 1) + 1)) (AV.sl .clip 1 [[(.int .u8 (IntKind.u8.wrap (Int.fdiv n (2 ^ (min (Int.toNat 24) 64)))))]]) = some ((AV.osl 0 5 1 0 (((((b.length + 1) + 1) + 1) + 1) + 1)), ([⟨5, 1, (List.map rU8 (((((b ++ [(IntKind.u8.wrap (Int.fdiv n (2 ^ (min (Int.toNat 56) 64))))]) ++ [(IntKind.u8.wrap (Int.fdiv n (2 ^ (min (Int.toNat 48) 64))))]) ++ [(IntKind.u8.wrap (Int.fdiv n (2 ^ (min (Int.toNat 40) 64))))]) ++ [(IntKind.u8.wrap (Int.fdiv n (2 ^ (min (Int.toNat 32) 64))))]) ++ [(IntKind.u8.wrap (Int.fdiv n (2 ^ (min (Int.toNat 24) 64))))])), none⟩] : Heap))) ∧ (evAppendO tt ([⟨5, 1, (List.map rU8 (((((b ++ [(IntKind.u8.wrap (Int.fdiv n (2 ^ (min (Int.toNat 56) 64))))]) ++ [(IntKind.u8.wrap (Int.fdiv n (2 ^ (min (Int.toNat 48) 64))))]) ++ [(IntKind.u8.wrap (Int.fdiv n (2 ^ (min (Int.toNat 40) 64))))]) ++ [(IntKind.u8.wrap (Int.fdiv n (2 ^ (min (Int.toNat 32) 64))))]) ++ [(IntKind.u8.wrap (Int.fdiv n (2 ^ (min (Int.toNat 24) 64))))])), none⟩] : Heap) 85 (AV.osl 0 5 1 0 (((((b.length + 1) + 1) + 1) + 1) + 1)) (AV.sl .clip 1 [[(.int .u8 (IntKind.u8.wrap (Int.fdiv n (2 ^ (min (Int.toNat 16) 64)))))]]) = some ((AV.osl 0 6 1 0 ((((((b.length + 1) + 1) + 1) + 1) + 1) + 1)), ([⟨6, 1, (List.map rU8 ((((((b ++ [(IntKind.u8.wrap (Int.fdiv n (2 ^ (min (Int.toNat 56) 64))))]) ++ [(IntKind.u8.wrap (Int.fdiv n (2 ^ (min (Int.toNat 48) 64))))]) ++ [(IntKind.u8.wrap (Int.fdiv n (2 ^ (min (Int.toNat 40) 64))))]) ++ [(IntKind.u8.wrap (Int.fdiv n (2 ^ (min (Int.toNat 32) 64))))]) ++ [(IntKind.u8.wrap (Int.fdiv n (2 ^ (min (Int.toNat 24) 64))))]) ++ [(IntKind.u8.wrap (Int.fdiv n (2 ^ (min (Int.toNat 16) 64))))])), none⟩] : Heap))) ∧ (evAppendO tt ([⟨6, 1, (List.map rU8 ((((((b ++ [(IntKind.u8.wrap (Int.fdiv n (2 ^ (min (Int.toNat 56) 64))))]) ++ [(IntKind.u8.wrap (Int.fdiv n (2 ^ (min (Int.toNat 48) 64))))]) ++ [(IntKind.u8.wrap (Int.fdiv n (2 ^ (min (Int.toNat 40) 64))))]) ++ [(IntKind.u8.wrap (Int.fdiv n (2 ^ (min (Int.toNat 32) 64))))]) ++ [(IntKind.u8.wrap (Int.fdiv n (2 ^ (min (Int.toNat 24) 64))))]) ++ [(IntKind.u8.wrap (Int.fdiv n (2 ^ (min (Int.toNat 16) 64))))])), none⟩] : Heap) 85 (AV.osl 0 6 1 0 ((((((b.length + 1) + 1) + 1) + 1) + 1) + 1)) (AV.sl .clip 1 [[(.int .u8 (IntKind.u8.wrap (Int.fdiv n (2 ^ (min (Int.toNat 8) 64)))))]]) = some ((AV.osl 0 7 1 0 (((((((b.length + 1) + 1) + 1) + 1) + 1) + 1) + 1)), ([⟨7, 1, (List.map rU8 (((((((b ++ [(IntKind.u8.wrap (Int.fdiv n (2 ^ (min (Int.toNat 56) 64))))]) ++ [(IntKind.u8.wrap (Int.fdiv n (2 ^ (min (Int.toNat 48) 64))))]) ++ [(IntKind.u8.wrap (Int.fdiv n (2 ^ (min (Int.toNat 40) 64))))]) ++ [(IntKind.u8.wrap (Int.fdiv n (2 ^ (min (Int.toNat 32) 64))))]) ++ [(IntKind.u8.wrap (Int.fdiv n (2 ^ (min (Int.toNat 24) 64))))]) ++ [(IntKind.u8.wrap (Int.fdiv n (2 ^ (min (Int.toNat 16) 64))))]) ++ [(IntKind.u8.wrap (Int.fdiv n (2 ^ (min (Int.toNat 8) 64))))])), none⟩] : Heap))) ∧ (evAppendO tt ([⟨7, 1, (List.map rU8 (((((((b ++ [(IntKind.u8.wrap (Int.fdiv n (2 ^ (min (Int.toNat 56) 64))))]) ++ [(IntKind.u8.wrap (Int.fdiv n (2 ^ (min (Int.toNat 48) 64))))]) ++ [(IntKind.u8.wrap (Int.fdiv n (2 ^ (min (Int.toNat 40) 64))))]) ++ [(IntKind.u8.wrap (Int.fdiv n (2 ^ (min (Int.toNat 32) 64))))]) ++ [(IntKind.u8.wrap (Int.fdiv n (2 ^ (min (Int.toNat 24) 64))))]) ++ [(IntKind.u8.wrap (Int.fdiv n (2 ^ (min (Int.toNat 16) 64))))]) ++ [(IntKind.u8.wrap (Int.fdiv n (2 ^ (min (Int.toNat 8) 64))))])), none⟩] : Heap) 85 (AV.osl 0 7 1 0 (((((((b.length + 1) + 1) + 1) + 1) + 1) + 1) + 1)) (AV.sl .clip 1 [[(.int .u8 (IntKind.u8.wrap (Int.fdiv n (2 ^ (min (Int.toNat 0) 64)))))]]) = some ((AV.osl 0 8 1 0 ((((((((b.length + 1) + 1) + 1) + 1) + 1) + 1) + 1) + 1)), ([⟨8, 1, (List.map rU8 ((((((((b ++ [(IntKind.u8.wrap (Int.fdiv n (2 ^ (min (Int.toNat 56) 64))))]) ++ [(IntKind.u8.wrap (Int.fdiv n (2 ^ (min (Int.toNat 48) 64))))]) ++ [(IntKind.u8.wrap (Int.fdiv n (2 ^ (min (Int.toNat 40) 64))))]) ++ [(IntKind.u8.wrap (Int.fdiv n (2 ^ (min (Int.toNat 32) 64))))]) ++ [(IntKind.u8.wrap (Int.fdiv n (2 ^ (min (Int.toNat 24) 64))))]) ++ [(IntKind.u8.wrap (Int.fdiv n (2 ^ (min (Int.toNat 16) 64))))]) ++ [(IntKind.u8.wrap (Int.fdiv n (2 ^ (min (Int.toNat 8) 64))))]) ++ [(IntKind.u8.wrap (Int.fdiv n (2 ^ (min (Int.toNat 0) 64))))])), none⟩] : Heap))) ∧ (rowsIn ([⟨8, 1, (List.map rU8 ((((((((b ++ [(IntKind.u8.wrap (Int.fdiv n (2 ^ (min (Int.toNat 56) 64))))]) ++ [(IntKind.u8.wrap (Int.fdiv n (2 ^ (min (Int.toNat 48) 64))))]) ++ [(IntKind.u8.wrap (Int.fdiv n (2 ^ (min (Int.toNat 40) 64))))]) ++ [(IntKind.u8.wrap (Int.fdiv n (2 ^ (min (Int.toNat 32) 64))))]) ++ [(IntKind.u8.wrap (Int.fdiv n (2 ^ (min (Int.toNat 24) 64))))]) ++ [(IntKind.u8.wrap (Int.fdiv n (2 ^ (min (Int.toNat 16) 64))))]) ++ [(IntKind.u8.wrap (Int.fdiv n (2 ^ (min (Int.toNat 8) 64))))]) ++ [(IntKind.u8.wrap (Int.fdiv n (2 ^ (min (Int.toNat 0) 64))))])), none⟩] : Heap) 1 (AV.osl 0 8 1 0 ((((((((b.length + 1) + 1) + 1) + 1) + 1) + 1) + 1) + 1)) = some (List.map rU8 ((((((((b ++ [(IntKind.u8.wrap (Int.fdiv n (2 ^ (min (Int.toNat 56) 64))))]) ++ [(IntKind.u8.wrap (Int.fdiv n (2 ^ (min (Int.toNat 48) 64))))]) ++ [(IntKind.u8.wrap (Int.fdiv n (2 ^ (min (Int.toNat 40) 64))))]) ++ [(IntKind.u8.wrap (Int.fdiv n (2 ^ (min (Int.toNat 32) 64))))]) ++ [(IntKind.u8.wrap (Int.fdiv n (2 ^ (min (Int.toNat 24) 64))))]) ++ [(IntKind.u8.wrap (Int.fdiv n (2 ^ (min (Int.toNat 16) 64))))]) ++ [(IntKind.u8.wrap (Int.fdiv n (2 ^ (min (Int.toNat 8) 64))))]) ++ [(IntKind.u8.wrap (Int.fdiv n (2 ^ (min (Int.toNat 0) 64))))])) ∧ AV.bddss 0 (List.map rU8 ((((((((b ++ [(IntKind.u8.wrap (Int.fdiv n (2 ^ (min (Int.toNat 56) 64))))]) ++ [(IntKind.u8.wrap (Int.fdiv n (2 ^ (min (Int.toNat 48) 64))))]) ++ [(IntKind.u8.wrap (Int.fdiv n (2 ^ (min (Int.toNat 40) 64))))]) ++ [(IntKind.u8.wrap (Int.fdiv n (2 ^ (min (Int.toNat 32) 64))))]) ++ [(IntKind.u8.wrap (Int.fdiv n (2 ^ (min (Int.toNat 24) 64))))]) ++ [(IntKind.u8.wrap (Int.fdiv n (2 ^ (min (Int.toNat 16) 64))))]) ++ [(IntKind.u8.wrap (Int.fdiv n (2 ^ (min (Int.toNat 8) 64))))]) ++ [(IntKind.u8.wrap (Int.fdiv n (2 ^ (min (Int.toNat 0) 64))))])) = true) ∧ (ACalls Try.prog 138 [(.sl .any 1 (List.map rU8 ((((((((b ++ [(IntKind.u8.wrap (Int.fdiv n (2 ^ (min (Int.toNat 56) 64))))]) ++ [(IntKind.u8.wrap (Int.fdiv n (2 ^ (min (Int.toNat 48) 64))))]) ++ [(IntKind.u8.wrap (Int.fdiv n (2 ^ (min (Int.toNat 40) 64))))]) ++ [(IntKind.u8.wrap (Int.fdiv n (2 ^ (min (Int.toNat 32) 64))))]) ++ [(IntKind.u8.wrap (Int.fdiv n (2 ^ (min (Int.toNat 24) 64))))]) ++ [(IntKind.u8.wrap (Int.fdiv n (2 ^ (min (Int.toNat 16) 64))))]) ++ [(IntKind.u8.wrap (Int.fdiv n (2 ^ (min (Int.toNat 8) 64))))]) ++ [(IntKind.u8.wrap (Int.fdiv n (2 ^ (min (Int.toNat 0) 64))))])))] ([⟨9, 1, [], none⟩] : Heap) ((AV.sl .cn 1 (List.map rU8 ((((((((b ++ [(IntKind.u8.wrap (Int.fdiv n (2 ^ (min (Int.toNat 56) 64))))]) ++ [(IntKind.u8.wrap (Int.fdiv n (2 ^ (min (Int.toNat 48) 64))))]) ++ [(IntKind.u8.wrap (Int.fdiv n (2 ^ (min (Int.toNat 40) 64))))]) ++ [(IntKind.u8.wrap (Int.fdiv n (2 ^ (min (Int.toNat 32) 64))))]) ++ [(IntKind.u8.wrap (Int.fdiv n (2 ^ (min (Int.toNat 24) 64))))]) ++ [(IntKind.u8.wrap (Int.fdiv n (2 ^ (min (Int.toNat 16) 64))))]) ++ [(IntKind.u8.wrap (Int.fdiv n (2 ^ (min (Int.toNat 8) 64))))]) ++ [(IntKind.u8.wrap (Int.fdiv n (2 ^ (min (Int.toNat 0) 64))))]))), ([⟨9, 1, [], none⟩] : Heap))) ∧ (AV.bdd 0 (AV.sl .cn 1 (List.map rU8 ((((((((b ++ [(IntKind.u8.wrap (Int.fdiv n (2 ^ (min (Int.toNat 56) 64))))]) ++ [(IntKind.u8.wrap (Int.fdiv n (2 ^ (min (Int.toNat 48) 64))))]) ++ [(IntKind.u8.wrap (Int.fdiv n (2 ^ (min (Int.toNat 40) 64))))]) ++ [(IntKind.u8.wrap (Int.fdiv n (2 ^ (min (Int.toNat 32) 64))))]) ++ [(IntKind.u8.wrap (Int.fdiv n (2 ^ (min (Int.toNat 24) 64))))]) ++ [(IntKind.u8.wrap (Int.fdiv n (2 ^ (min (Int.toNat 16) 64))))]) ++ [(IntKind.u8.wrap (Int.fdiv n (2 ^ (min (Int.toNat 8) 64))))]) ++ [(IntKind.u8.wrap (Int.fdiv n (2 ^ (min (Int.toNat 0) 64))))]))) = true ∧ obsB 0 ([] : Heap) = true) ∧ ((AV.sl .cn 1 (List.map rU8 ((((((((b ++ [(IntKind.u8.wrap (Int.fdiv n (2 ^ (min (Int.toNat 56) 64))))]) ++ [(IntKind.u8.wrap (Int.fdiv n (2 ^ (min (Int.toNat 48) 64))))]) ++ [(IntKind.u8.wrap (Int.fdiv n (2 ^ (min (Int.toNat 40) 64))))]) ++ [(IntKind.u8.wrap (Int.fdiv n (2 ^ (min (Int.toNat 32) 64))))]) ++ [(IntKind.u8.wrap (Int.fdiv n (2 ^ (min (Int.toNat 24) 64))))]) ++ [(IntKind.u8.wrap (Int.fdiv n (2 ^ (min (Int.toNat 16) 64))))]) ++ [(IntKind.u8.wrap (Int.fdiv n (2 ^ (min (Int.toNat 8) 64))))]) ++ [(IntKind.u8.wrap (Int.fdiv n (2 ^ (min (Int.toNat 0) 64))))]))), ([] : Heap)) = ((AV.sl .cn 1 (List.map rU8 (intB b n))), ([] : Heap))) = _) ?_
  refine And.intro (cloneB_at b (by first | omega | assumption | (simp; done) | (simp; omega) | (simp_all; done) | (simp_all; omega)) ([] : Heap)) ?_
  refine And.intro (evAppendO_end (T := tt) (e := 5) (te := { d := .int .u8, size := 1, bytes := 1, zero := [.int .u8 0] }) (z := 1) (b := 24) (y := [.sl .nil 0 []]) (row := rU8) (l := b) (by kernel_rfl) (by kernel_rfl) rfl (by decide) (by decide) (by kernel_rfl) (by first | (simp [rowsIn, List.map_take, List.map_drop, List.take_of_length_le]; done) | simp [rowsIn, rU8, rI64, rStr, rBool]) (by first | omega | (simp; done) | (simp; omega)) rfl rfl (by first | omega | (show _ * 1 ≤ _; omega) | (simp; done) | (simp; omega))) ?_
  refine And.intro (evAppendO_end (T := tt) (e := 5) (te := { d := .int .u8, size := 1, bytes := 1, zero := [.int .u8 0] }) (z := 1) (b := 24) (y := [.sl .nil 0 []]) (row := rU8) (l := b ++ [(IntKind.u8.wrap (Int.fdiv n (2 ^ (min (Int.toNat 56) 64))))]) (by kernel_rfl) (by kernel_rfl) rfl (by decide) (by decide) (by kernel_rfl) (by first | (simp [rowsIn, List.map_take, List.map_drop, List.take_of_length_le]; done) | simp [rowsIn, rU8, rI64, rStr, rBool]) (by first | omega | (simp; done) | (simp; omega)) rfl rfl (by first | omega | (show _ * 1 ≤ _; omega) | (simp; done) | (simp; omega))) ?_
  refine And.intro (evAppendO_end (T := tt) (e := 5) (te := { d := .int .u8, size := 1, bytes := 1, zero := [.int .u8 0] }) (z := 1) (b := 24) (y := [.sl .nil 0 []]) (row := rU8) (l := (b ++ [(IntKind.u8.wrap (Int.fdiv n (2 ^ (min (Int.toNat 56) 64))))]) ++ [(IntKind.u8.wrap (Int.fdiv n (2 ^ (min (Int.toNat 48) 64))))]) (by kernel_rfl) (by kernel_rfl) rfl (by decide) (by decide) (by kernel_rfl) (by first | (simp [rowsIn, List.map_take, List.map_drop, List.take_of_length_le]; done) | simp [rowsIn, rU8, rI64, rStr, rBool]) (by first | omega | (simp; done) | (simp; omega)) rfl rfl (by first | omega | (show _ * 1 ≤ _; omega) | (simp; done) | (simp; omega))) ?_
  refine And.intro (evAppendO_end (T := tt) (e := 5) (te := { d := .int .u8, size := 1, bytes := 1, zero := [.int .u8 0] }) (z := 1) (b := 24) (y := [.sl .nil 0 []]) (row := rU8) (l := ((b ++ [(IntKind.u8.wrap (Int.fdiv n (2 ^ (min (Int.toNat 56) 64))))]) ++ [(IntKind.u8.wrap (Int.fdiv n (2 ^ (min (Int.toNat 48) 64))))]) ++ [(IntKind.u8.wrap (Int.fdiv n (2 ^ (min (Int.toNat 40) 64))))]) (by kernel_rfl) (by kernel_rfl) rfl (by decide) (by decide) (by kernel_rfl) (by first | (simp [rowsIn, List.map_take, List.map_drop, List.take_of_length_le]; done) | simp [rowsIn, rU8, rI64, rStr, rBool]) (by first | omega | (simp; done) | (simp; omega)) rfl rfl (by first | omega | (show _ * 1 ≤ _; omega) | (simp; done) | (simp; omega))) ?_
  refine And.intro (evAppendO_end (T := tt) (e := 5) (te := { d := .int .u8, size := 1, bytes := 1, zero := [.int .u8 0] }) (z := 1) (b := 24) (y := [.sl .nil 0 []]) (row := rU8) (l := (((b ++ [(IntKind.u8.wrap (Int.fdiv n (2 ^ (min (Int.toNat 56) 64))))]) ++ [(IntKind.u8.wrap (Int.fdiv n (2 ^ (min (Int.toNat 48) 64))))]) ++ [(IntKind.u8.wrap (Int.fdiv n (2 ^ (min (Int.toNat 40) 64))))]) ++ [(IntKind.u8.wrap (Int.fdiv n (2 ^ (min (Int.toNat 32) 64))))]) (by kernel_rfl) (by kernel_rfl) rfl (by decide) (by decide) (by kernel_rfl) (by first | (simp [rowsIn, List.map_take, List.map_drop, List.take_of_length_le]; done) | simp [rowsIn, rU8, rI64, rStr, rBool]) (by first | omega | (simp; done) | (simp; omega)) rfl rfl (by first | omega | (show _ * 1 ≤ _; omega) | (simp; done) | (simp; omega))) ?_
  refine And.intro (evAppendO_end (T := tt) (e := 5) (te := { d := .int .u8, size := 1, bytes := 1, zero := [.int .u8 0] }) (z := 1) (b := 24) (y := [.sl .nil 0 []]) (row := rU8) (l := ((((b ++ [(IntKind.u8.wrap (Int.fdiv n (2 ^ (min (Int.toNat 56) 64))))]) ++ [(IntKind.u8.wrap (Int.fdiv n (2 ^ (min (Int.toNat 48) 64))))]) ++ [(IntKind.u8.wrap (Int.fdiv n (2 ^ (min (Int.toNat 40) 64))))]) ++ [(IntKind.u8.wrap (Int.fdiv n (2 ^ (min (Int.toNat 32) 64))))]) ++ [(IntKind.u8.wrap (Int.fdiv n (2 ^ (min (Int.toNat 24) 64))))]) (by kernel_rfl) (by kernel_rfl) rfl (by decide) (by decide) (by kernel_rfl) (by first | (simp [rowsIn, List.map_take, List.map_drop, List.take_of_length_le]; done) | simp [rowsIn, rU8, rI64, rStr, rBool]) (by first | omega | (simp; done) | (simp; omega)) rfl rfl (by first | omega | (show _ * 1 ≤ _; omega) | (simp; done) | (simp; omega))) ?_
  refine And.intro (evAppendO_end (T := tt) (e := 5) (te := { d := .int .u8, size := 1, bytes := 1, zero := [.int .u8 0] }) (z := 1) (b := 24) (y := [.sl .nil 0 []]) (row := rU8) (l := (((((b ++ [(IntKind.u8.wrap (Int.fdiv n (2 ^ (min (Int.toNat 56) 64))))]) ++ [(IntKind.u8.wrap (Int.fdiv n (2 ^ (min (Int.toNat 48) 64))))]) ++ [(IntKind.u8.wrap (Int.fdiv n (2 ^ (min (Int.toNat 40) 64))))]) ++ [(IntKind.u8.wrap (Int.fdiv n (2 ^ (min (Int.toNat 32) 64))))]) ++ [(IntKind.u8.wrap (Int.fdiv n (2 ^ (min (Int.toNat 24) 64))))]) ++ [(IntKind.u8.wrap (Int.fdiv n (2 ^ (min (Int.toNat 16) 64))))]) (by kernel_rfl) (by kernel_rfl) rfl (by decide) (by decide) (by kernel_rfl) (by first | (simp [rowsIn, List.map_take, List.map_drop, List.take_of_length_le]; done) | simp [rowsIn, rU8, rI64, rStr, rBool]) (by first | omega | (simp; done) | (simp; omega)) rfl rfl (by first | omega | (show _ * 1 ≤ _; omega) | (simp; done) | (simp; omega))) ?_
  refine And.intro (evAppendO_end (T := tt) (e := 5) (te := { d := .int .u8, size := 1, bytes := 1, zero := [.int .u8 0] }) (z := 1) (b := 24) (y := [.sl .nil 0 []]) (row := rU8) (l := ((((((b ++ [(IntKind.u8.wrap (Int.fdiv n (2 ^ (min (Int.toNat 56) 64))))]) ++ [(IntKind.u8.wrap (Int.fdiv n (2 ^ (min (Int.toNat 48) 64))))]) ++ [(IntKind.u8.wrap (Int.fdiv n (2 ^ (min (Int.toNat 40) 64))))]) ++ [(IntKind.u8.wrap (Int.fdiv n (2 ^ (min (Int.toNat 32) 64))))]) ++ [(IntKind.u8.wrap (Int.fdiv n (2 ^ (min (Int.toNat 24) 64))))]) ++ [(IntKind.u8.wrap (Int.fdiv n (2 ^ (min (Int.toNat 16) 64))))]) ++ [(IntKind.u8.wrap (Int.fdiv n (2 ^ (min (Int.toNat 8) 64))))]) (by kernel_rfl) (by kernel_rfl) rfl (by decide) (by decide) (by kernel_rfl) (by first | (simp [rowsIn, List.map_take, List.map_drop, List.take_of_length_le]; done) | simp [rowsIn, rU8, rI64, rStr, rBool]) (by first | omega | (simp; done) | (simp; omega)) rfl rfl (by first | omega | (show _ * 1 ≤ _; omega) | (simp; done) | (simp; omega))) ?_
  refine And.intro (And.intro (rowsIn_all (room := none) (by kernel_rfl) (by first | omega | (simp; done) | (simp; omega))) (rU8_bdd _ _)) ?_
  refine And.intro (clipB_at ((((((((b ++ [(IntKind.u8.wrap (Int.fdiv n (2 ^ (min (Int.toNat 56) 64))))]) ++ [(IntKind.u8.wrap (Int.fdiv n (2 ^ (min (Int.toNat 48) 64))))]) ++ [(IntKind.u8.wrap (Int.fdiv n (2 ^ (min (Int.toNat 40) 64))))]) ++ [(IntKind.u8.wrap (Int.fdiv n (2 ^ (min (Int.toNat 32) 64))))]) ++ [(IntKind.u8.wrap (Int.fdiv n (2 ^ (min (Int.toNat 24) 64))))]) ++ [(IntKind.u8.wrap (Int.fdiv n (2 ^ (min (Int.toNat 16) 64))))]) ++ [(IntKind.u8.wrap (Int.fdiv n (2 ^ (min (Int.toNat 8) 64))))]) ++ [(IntKind.u8.wrap (Int.fdiv n (2 ^ (min (Int.toNat 0) 64))))]) (by first | omega | assumption | (simp; done) | (simp; omega) | (simp_all; done) | (simp_all; omega)) ([⟨9, 1, [], none⟩] : Heap)) ?_
  refine And.intro (by first | (simp [obsB, AV.bddss, AV.bdds, AV.bdd]; done) | simp [obsB, AV.bddss, AV.bdds, AV.bdd, -List.map_append, -List.map_set, -List.map_take, -List.map_drop, -List.map_cons, -List.map_map]) ?_
  simp [intB, byteAt]
theorem intF_spec (b : List Int) (n : Int) (hb : b.length < 1048576) : ACalls Try.prog 94 [(.sl .any 1 (List.map rU8 b)), (.int .i64 n)] ([] : Heap) ((AV.sl .any 1 (List.map rU8 (intB b n))), ([] : Heap)) := (int8_spec b n hb).post ⟨rfl, rfl, .inl rfl⟩
theorem intF_at (b : List Int) (n : Int) (hb : b.length < 1048576) (H : Heap) : ACalls Try.prog 94 [(.sl .any 1 (List.map rU8 b)), (.int .i64 n)] H ((AV.sl .any 1 (List.map rU8 (intB b n))), H) := (intF_spec b n hb).lift (by kernel_rfl) (by kernel_rfl) H
def showsC (c : Card) : Int := if c.gone = true then 0 else if (c.over != 0) = true then c.over else c.status
def shows_ann : Ann := { refs := [1], fin := some 0 }
set_option maxRecDepth 100000 in
theorem shows_spec (c : Card)  : ACalls Try.prog 93 [(.agg (Card.row c))] ([] : Heap) ((AV.int .i64 (showsC c)), ([] : Heap)) := by
  refine spec (fn := Try.f93) (ann := shows_ann) (t := (.reg [] [] [] (.reg [] [] [] (.two (.reg [] [] [] .nil) (.reg [] [] [] (.two (.reg [] [] [] .nil) (.reg [] [] [] .nil))))))) (Nat.le_of_ble_eq_true (by kernel_rfl)) ⟨Try.func93, by kernel_rfl, by kernel_rfl, by kernel_rfl⟩ ?_
  refine Eq.mp (by kernel_rfl : (cond c.gone ((AV.bdd 0 (AV.int .i64 0) = true ∧ obsB 0 ([] : Heap) = true) ∧ ((AV.int .i64 0), ([] : Heap)) = ((AV.int .i64 (showsC c)), ([] : Heap))) (cond (c.over != 0) ((AV.bdd 0 (AV.int .i64 c.over) = true ∧ obsB 0 ([] : Heap) = true) ∧ ((AV.int .i64 c.over), ([] : Heap)) = ((AV.int .i64 (showsC c)), ([] : Heap))) ((AV.bdd 0 (AV.int .i64 c.status) = true ∧ obsB 0 ([] : Heap) = true) ∧ ((AV.int .i64 c.status), ([] : Heap)) = ((AV.int .i64 (showsC c)), ([] : Heap))))) = _) ?_
  refine cond_split (fun h1 => ?_) (fun h1 => ?_)
  · have h1' := h1
    try simp at h1'
    refine And.intro (by first | (simp [obsB, AV.bddss, AV.bdds, AV.bdd]; done) | simp [obsB, AV.bddss, AV.bdds, AV.bdd, -List.map_append, -List.map_set, -List.map_take, -List.map_drop, -List.map_cons, -List.map_map]) ?_
    simp_all [showsC]
  · have h1' := h1
    try simp at h1'
    refine cond_split (fun h2 => ?_) (fun h2 => ?_)
    · have h2' := h2
      try simp at h2'
      refine And.intro (by first | (simp [obsB, AV.bddss, AV.bdds, AV.bdd]; done) | simp [obsB, AV.bddss, AV.bdds, AV.bdd, -List.map_append, -List.map_set, -List.map_take, -List.map_drop, -List.map_cons, -List.map_map]) ?_
      simp_all [showsC]
    · have h2' := h2
      try simp at h2'
      refine And.intro (by first | (simp [obsB, AV.bddss, AV.bdds, AV.bdd]; done) | simp [obsB, AV.bddss, AV.bdds, AV.bdd, -List.map_append, -List.map_set, -List.map_take, -List.map_drop, -List.map_cons, -List.map_map]) ?_
      simp_all [showsC]
theorem shows_at (c : Card)  (H : Heap) : ACalls Try.prog 93 [(.agg (Card.row c))] H ((AV.int .i64 (showsC c)), H) := (shows_spec c ).lift (by kernel_rfl) (by kernel_rfl) H
def rshows_ann : Ann := { refs := [1], fin := some 0 }
set_option maxRecDepth 100000 in
theorem rshows_spec (c : Card)  : ACalls Try.prog 99 [(.agg (Card.row c))] ([] : Heap) ((AV.int .i64 (showsC c)), ([] : Heap)) := by
  refine spec (fn := Try.f99) (ann := rshows_ann) (t := (.reg [] [] [] (.reg [] [] [] (.two (.reg [] [] [] .nil) (.reg [] [] [] (.two (.reg [] [] [] .nil) (.reg [] [] [] .nil))))))) (Nat.le_of_ble_eq_true (by kernel_rfl)) ⟨Try.func99, by kernel_rfl, by kernel_rfl, by kernel_rfl⟩ ?_
  refine Eq.mp (by kernel_rfl : (cond c.gone ((AV.bdd 0 (AV.int .i64 0) = true ∧ obsB 0 ([] : Heap) = true) ∧ ((AV.int .i64 0), ([] : Heap)) = ((AV.int .i64 (showsC c)), ([] : Heap))) (cond (c.over != 0) ((AV.bdd 0 (AV.int .i64 c.over) = true ∧ obsB 0 ([] : Heap) = true) ∧ ((AV.int .i64 c.over), ([] : Heap)) = ((AV.int .i64 (showsC c)), ([] : Heap))) ((AV.bdd 0 (AV.int .i64 c.status) = true ∧ obsB 0 ([] : Heap) = true) ∧ ((AV.int .i64 c.status), ([] : Heap)) = ((AV.int .i64 (showsC c)), ([] : Heap))))) = _) ?_
  refine cond_split (fun h1 => ?_) (fun h1 => ?_)
  · have h1' := h1
    try simp at h1'
    refine And.intro (by first | (simp [obsB, AV.bddss, AV.bdds, AV.bdd]; done) | simp [obsB, AV.bddss, AV.bdds, AV.bdd, -List.map_append, -List.map_set, -List.map_take, -List.map_drop, -List.map_cons, -List.map_map]) ?_
    simp_all [showsC]
  · have h1' := h1
    try simp at h1'
    refine cond_split (fun h2 => ?_) (fun h2 => ?_)
    · have h2' := h2
      try simp at h2'
      refine And.intro (by first | (simp [obsB, AV.bddss, AV.bdds, AV.bdd]; done) | simp [obsB, AV.bddss, AV.bdds, AV.bdd, -List.map_append, -List.map_set, -List.map_take, -List.map_drop, -List.map_cons, -List.map_map]) ?_
      simp_all [showsC]
    · have h2' := h2
      try simp at h2'
      refine And.intro (by first | (simp [obsB, AV.bddss, AV.bdds, AV.bdd]; done) | simp [obsB, AV.bddss, AV.bdds, AV.bdd, -List.map_append, -List.map_set, -List.map_take, -List.map_drop, -List.map_cons, -List.map_map]) ?_
      simp_all [showsC]
theorem rshows_at (c : Card)  (H : Heap) : ACalls Try.prog 99 [(.agg (Card.row c))] H ((AV.int .i64 (showsC c)), H) := (rshows_spec c ).lift (by kernel_rfl) (by kernel_rfl) H
def hereL (l : List Card) : List Card := l.filter fun c => !c.gone
def seenK (l : List Card) : List Card := sortP (hereL l)
theorem hereL_len (l : List Card) : (hereL l).length ≤ l.length := List.length_filter_le _ _
theorem seenK_len (l : List Card) : (seenK l).length ≤ l.length := by unfold seenK; rw [sortP_len]; exact hereL_len l
def seen_ann : Ann := { gh := [(8, .frz 3)], gha := [(1, .vir 3 9), (7, .cut 1)], fin := some 0, live := [(3, [3, 6, 7, 8])], out := [(3, [3, 6, 7, 8])] }
set_option maxRecDepth 100000 in
theorem seen_step (l : List Card) (out : List Card) (k : Nat) (g : Nat) (i : Nat) (hl : l.length < 1048576) (hk : k = out.length) (hki : k ≤ i) (hle_ : i ≤ l.length) {eX : Ex} {FX : Fr} {HX : Heap} (k1 : (decide (((i : Nat) : Int) < ((l.length : Nat) : Int))) = true → (!(nth l i).gone) = true → LoopTo (codeQ Try.prog (X seen_ann) (loopOf Try.f85 0)) (some [3, 6, 7, 8]) (some [3, 6, 7, 8]) (mkF 22 [(3, (.osl 0 (g + 1) 9 0 (k + 1))), (6, (.sl .any 9 (List.map Card.row l))), (7, (.int .i64 ((l.length : Nat) : Int))), (8, (.int .i64 ((i + 1 : Nat) : Int)))]) ([⟨(g + 1), 9, (List.map Card.row (out ++ [(nth l i)])), none⟩] : Heap) eX FX HX) (k2 : (decide (((i : Nat) : Int) < ((l.length : Nat) : Int))) = true → (!(nth l i).gone) = false → LoopTo (codeQ Try.prog (X seen_ann) (loopOf Try.f85 0)) (some [3, 6, 7, 8]) (some [3, 6, 7, 8]) (mkF 22 [(3, (.osl 0 g 9 0 k)), (6, (.sl .any 9 (List.map Card.row l))), (7, (.int .i64 ((l.length : Nat) : Int))), (8, (.int .i64 ((i + 1 : Nat) : Int)))]) ([⟨g, 9, (List.map Card.row out), none⟩] : Heap) eX FX HX) (k3 : (decide (((i : Nat) : Int) < ((l.length : Nat) : Int))) = false → ((.exit 0 : Ex), (mkF 22 [(3, (.osl 0 g 9 0 k)), (6, (.sl .any 9 (List.map Card.row l))), (7, (.int .i64 ((l.length : Nat) : Int))), (8, (.int .i64 ((i : Nat) : Int)))]), ([⟨g, 9, (List.map Card.row out), none⟩] : Heap)) = (eX, FX, HX)) : LoopTo (codeQ Try.prog (X seen_ann) (loopOf Try.f85 0)) (some [3, 6, 7, 8]) (some [3, 6, 7, 8]) (mkF 22 [(3, (.osl 0 g 9 0 k)), (6, (.sl .any 9 (List.map Card.row l))), (7, (.int .i64 ((l.length : Nat) : Int))), (8, (.int .i64 ((i : Nat) : Int)))]) ([⟨g, 9, (List.map Card.row out), none⟩] : Heap) eX FX HX := by
  refine LoopTo.step (.reg [] [] [] (.two (.reg [(0, ((AV.ref (Card.row (nth l i)) 0), ([⟨g, 9, (List.map Card.row out), none⟩, ⟨0, 9, [[(.str ⟨#[]⟩), (.str ⟨#[]⟩), (.int .i64 0), (.int .i64 0), (.int .i64 0), (.int .i64 0), (.int .i64 0), (.int .i64 0), (.bool false)]], none⟩] : Heap)))] [] [] (.reg [] [] [] (.two (.reg [(3, ((AV.osl 0 (g + 1) 9 0 (k + 1)), ([⟨(g + 1), 9, (List.map Card.row (out ++ [(nth l i)])), none⟩, ⟨0, 9, [(Card.row (nth l i))], none⟩] : Heap)))] [] [] (.reg [(0, ((AV.int .i64 ((i + 1 : Nat) : Int)), ([⟨(g + 1), 9, (List.map Card.row (out ++ [(nth l i)])), none⟩, ⟨0, 9, [(Card.row (nth l i))], none⟩] : Heap)))] [] [] .nil)) (.reg [(0, ((AV.int .i64 ((i + 1 : Nat) : Int)), ([⟨g, 9, (List.map Card.row out), none⟩, ⟨0, 9, [(Card.row (nth l i))], none⟩] : Heap)))] [] [] .nil)))) .nil)) ?_
  refine Eq.mp (by kernel_rfl : (cond (decide (((i : Nat) : Int) < ((l.length : Nat) : Int))) ((IdxSl 9 9 (List.map Card.row l) ((i : Nat) : Int) ([⟨g, 9, (List.map Card.row out), none⟩, ⟨0, 9, [[(.str ⟨#[]⟩), (.str ⟨#[]⟩), (.int .i64 0), (.int .i64 0), (.int .i64 0), (.int .i64 0), (.int .i64 0), (.int .i64 0), (.bool false)]], none⟩] : Heap) (Card.row (nth l i))) ∧ cond (!(nth l i).gone) ((evAppend tt ([⟨g, 9, (List.map Card.row out), none⟩, ⟨0, 9, [(Card.row (nth l i))], none⟩] : Heap) 33 (AV.osl 0 g 9 0 k) (AV.sl .clip 9 [(Card.row (nth l i))]) = some ((AV.osl 0 (g + 1) 9 0 (k + 1)), ([⟨(g + 1), 9, (List.map Card.row (out ++ [(nth l i)])), none⟩, ⟨0, 9, [(Card.row (nth l i))], none⟩] : Heap))) ∧ (Yes (.int .i64 (IntKind.i64.wrap (((i : Nat) : Int) + 1))) ([⟨(g + 1), 9, (List.map Card.row (out ++ [(nth l i)])), none⟩, ⟨0, 9, [(Card.row (nth l i))], none⟩] : Heap) (AV.int .i64 ((i + 1 : Nat) : Int))) ∧ (obsB 1 ([⟨(g + 1), 9, (List.map Card.row (out ++ [(nth l i)])), none⟩] : Heap) = true) ∧ LoopTo (codeQ Try.prog (X seen_ann) (loopOf Try.f85 0)) (some [3, 6, 7, 8]) (some [3, 6, 7, 8]) (mkF 22 [(3, (.osl 0 (g + 1) 9 0 (k + 1))), (6, (.sl .any 9 (List.map Card.row l))), (7, (.int .i64 ((l.length : Nat) : Int))), (8, (.int .i64 ((i + 1 : Nat) : Int)))]) ([⟨(g + 1), 9, (List.map Card.row (out ++ [(nth l i)])), none⟩] : Heap) eX FX HX) ((Yes (.int .i64 (IntKind.i64.wrap (((i : Nat) : Int) + 1))) ([⟨g, 9, (List.map Card.row out), none⟩, ⟨0, 9, [(Card.row (nth l i))], none⟩] : Heap) (AV.int .i64 ((i + 1 : Nat) : Int))) ∧ (obsB 1 ([⟨g, 9, (List.map Card.row out), none⟩] : Heap) = true) ∧ LoopTo (codeQ Try.prog (X seen_ann) (loopOf Try.f85 0)) (some [3, 6, 7, 8]) (some [3, 6, 7, 8]) (mkF 22 [(3, (.osl 0 g 9 0 k)), (6, (.sl .any 9 (List.map Card.row l))), (7, (.int .i64 ((l.length : Nat) : Int))), (8, (.int .i64 ((i + 1 : Nat) : Int)))]) ([⟨g, 9, (List.map Card.row out), none⟩] : Heap) eX FX HX)) (((.exit 0 : Ex), (mkF 22 [(3, (.osl 0 g 9 0 k)), (6, (.sl .any 9 (List.map Card.row l))), (7, (.int .i64 ((l.length : Nat) : Int))), (8, (.int .i64 ((i : Nat) : Int)))]), ([⟨g, 9, (List.map Card.row out), none⟩] : Heap)) = (eX, FX, HX))) = _) ?_
  refine cond_split (fun h1 => ?_) (fun h1 => ?_)
  · have h1' := h1
    try simp at h1'
    refine And.intro (IdxSl.mk _ (by omega) (by omega)) ?_
    refine cond_split (fun h2 => ?_) (fun h2 => ?_)
    · have h2' := h2
      try simp at h2'
      refine And.intro (evAppend_one (row := Card.row) (l := out) (x := (nth l i)) (T := tt) (e := 58) (te := { d := .struct [(31, 0), (3, 2), (3, 3), (2, 4), (56, 5), (4, 8)], size := 9, bytes := 88, zero := [.str ⟨#[]⟩, .str ⟨#[]⟩, .int .i64 0, .int .i64 0, .int .i64 0, .int .i64 0, .int .i64 0, .int .i64 0, .bool false] }) (z := 1) (b := 24) (y := [.sl .nil 0 []]) (by kernel_rfl) (by kernel_rfl) rfl (by decide) (by decide) (by kernel_rfl) (by first | assumption | omega | (simp; done) | (simp; omega)) rfl rfl (by first | omega | (show _ * 88 ≤ _; omega) | (simp; omega))) ?_
      refine And.intro (Yes.add (by omega) (by omega) (by omega)) ?_
      refine And.intro (by first | (simp [obsB, AV.bddss, AV.bdds, AV.bdd]; done) | simp [obsB, AV.bddss, AV.bdds, AV.bdd, -List.map_append, -List.map_set, -List.map_take, -List.map_drop, -List.map_cons, -List.map_map]) ?_
      exact k1 h1 h2
    · have h2' := h2
      try simp at h2'
      refine And.intro (Yes.add (by omega) (by omega) (by omega)) ?_
      refine And.intro (by first | (simp [obsB, AV.bddss, AV.bdds, AV.bdd]; done) | simp [obsB, AV.bddss, AV.bdds, AV.bdd, -List.map_append, -List.map_set, -List.map_take, -List.map_drop, -List.map_cons, -List.map_map]) ?_
      exact k2 h1 h2
  · have h1' := h1
    try simp at h1'
    exact k3 h1
def seen_f (l : List Card) (i : Nat) (s : (List Card) × Nat × Nat) : (List Card) × Nat × Nat := (if (!(nth l i).gone) = true then (s.1 ++ [(nth l i)], (s.2.1 + 1), (s.2.2 + 1)) else (s.1, s.2.1, s.2.2))
theorem seen_loop (l : List Card) (hl : l.length < 1048576)  (r_ : Nat) : ∀ (out : List Card) (k : Nat) (g : Nat) (i : Nat) (sF : (List Card) × Nat × Nat), i + r_ = l.length → k = out.length → k ≤ i → sF = iter (seen_f l) r_ i (out, k, g) →
    LoopTo (codeQ Try.prog (X seen_ann) (loopOf Try.f85 0)) (some [3, 6, 7, 8]) (some [3, 6, 7, 8]) (mkF 22 [(3, (.osl 0 g 9 0 k)), (6, (.sl .any 9 (List.map Card.row l))), (7, (.int .i64 ((l.length : Nat) : Int))), (8, (.int .i64 ((i : Nat) : Int)))]) ([⟨g, 9, (List.map Card.row out), none⟩] : Heap) (.exit 0) (mkF 22 [(3, (.osl 0 sF.2.2 9 0 sF.2.1)), (6, (.sl .any 9 (List.map Card.row l))), (7, (.int .i64 ((l.length : Nat) : Int))), (8, (.int .i64 ((l.length : Nat) : Int)))]) ([⟨sF.2.2, 9, (List.map Card.row sF.1), none⟩] : Heap) := by
  induction r_ with
  | zero =>
    intro out k g i sF hi_ hk hki  hF
    obtain rfl : l.length = i := by omega
    have e_ : sF = (out, k, g) := hF
    refine seen_step l out k g l.length hl hk hki (Nat.le_refl _) (fun h _ => by simp at h <;> omega) (fun h _ => by simp at h <;> omega) (fun _ => ?_)
    first | done | rfl | (rw [e_]; done) | (rw [e_]; rfl)
  | succ r_ ih =>
    intro out k g i sF hi_ hk hki  hF
    refine seen_step l out k g i hl hk hki (by omega) (fun h1 h2 => ?_) (fun h1 h2 => ?_) (fun h => by simp at h <;> omega)
    · exact ih (out ++ [(nth l i)]) (k + 1) (g + 1) (i + 1) sF (by omega) (by first | omega | assumption | (simp; done) | (simp; omega) | (simp [*]; done) | (simp [*]; omega)) (by first | omega | assumption | (simp; done) | (simp; omega) | (simp [*]; done) | (simp [*]; omega))  (by rw [hF] <;> simp only [iter, seen_f, h2, if_true, Bool.false_eq_true, if_false])
    · exact ih out k g (i + 1) sF (by omega) (by first | omega | assumption | (simp; done) | (simp; omega) | (simp [*]; done) | (simp [*]; omega)) (by first | omega | assumption | (simp; done) | (simp; omega) | (simp [*]; done) | (simp [*]; omega))  (by rw [hF] <;> simp only [iter, seen_f, h2, if_true, Bool.false_eq_true, if_false])
theorem seen_iter (l : List Card) : (hereL l, (hereL l).length, (hereL l).length) = iter (seen_f l) l.length 0 ([], 0, 0) := by
  rw [iter_all (seen_f l) (fun s c => if (fun c : Card => !c.gone) c = true then (s.1 ++ [c], s.2.1 + 1, s.2.2 + 1) else s) l (fun i s hi => by simp [seen_f])]
  rw [fold_fmap' (fun c : Card => !c.gone) (fun c => c) l]; simp [hereL]
def cardB (b : List Int) (c : Card) : List Int := intB (byteB (textB (textB b c.key.app) c.key.id) (showsC c)) c.lease
theorem cardB_len (b : List Int) (c : Card) : (cardB b c).length ≤ b.length + 521 := by
  have h1 := textB_len b c.key.app
  have h2 := textB_len (textB b c.key.app) c.key.id
  unfold cardB; rw [intB_len, byteB_len]; omega
def sealB (l : List Card) : List Int := (seenK l).foldl cardB []
theorem cardsB_len (l : List Card) : ∀ (b : List Int), (l.foldl cardB b).length ≤ b.length + l.length * 521 := by
  induction l with
  | nil => intro b; simp
  | cons c l ih => intro b; have h1 := ih (cardB b c); have h2 := cardB_len b c; simp only [List.foldl_cons, List.length_cons]; omega
theorem sealB_len (l : List Card) : (sealB l).length ≤ l.length * 521 := by
  have h1 := cardsB_len (seenK l) []
  have h2 := seenK_len l
  unfold sealB; simp only [List.length_nil] at h1; omega
def sealB_ann : Ann := { gha := [(1, .any 3 1), (7, .cut 0)], fin := some 0, live := [(3, [3, 7, 8, 9])], out := [(3, [3, 7, 8, 9])] }
set_option maxRecDepth 100000 in
theorem sealB_step (l : List Card) (b : List Int) (i : Nat) (hl : l.length < 1000) (hb : b.length ≤ i * 521) (hle_ : i ≤ l.length) {eX : Ex} {FX : Fr} {HX : Heap} (k1 : (decide (((i : Nat) : Int) < ((l.length : Nat) : Int))) = true → LoopTo (codeQ Try.prog (X sealB_ann) (loopOf Try.f49 0)) (some [3, 7, 8, 9]) (some [3, 7, 8, 9]) (mkF 31 [(3, (.sl .any 1 (List.map rU8 (intB (byteB (textB (textB b (nth l i).key.app) (nth l i).key.id) (showsC (nth l i))) (nth l i).lease)))), (7, (.sl .any 9 (List.map Card.row l))), (8, (.int .i64 ((l.length : Nat) : Int))), (9, (.int .i64 ((i + 1 : Nat) : Int)))]) ([] : Heap) eX FX HX) (k2 : (decide (((i : Nat) : Int) < ((l.length : Nat) : Int))) = false → ((.exit 0 : Ex), (mkF 31 [(3, (.sl .any 1 (List.map rU8 b))), (7, (.sl .any 9 (List.map Card.row l))), (8, (.int .i64 ((l.length : Nat) : Int))), (9, (.int .i64 ((i : Nat) : Int)))]), ([] : Heap)) = (eX, FX, HX)) : LoopTo (codeQ Try.prog (X sealB_ann) (loopOf Try.f49 0)) (some [3, 7, 8, 9]) (some [3, 7, 8, 9]) (mkF 31 [(3, (.sl .any 1 (List.map rU8 b))), (7, (.sl .any 9 (List.map Card.row l))), (8, (.int .i64 ((l.length : Nat) : Int))), (9, (.int .i64 ((i : Nat) : Int)))]) ([] : Heap) eX FX HX := by
  have h1 := textB_len b (nth l i).key.app
  have h2 := textB_len (textB b (nth l i).key.app) (nth l i).key.id
  have h3 := byteB_len (textB (textB b (nth l i).key.app) (nth l i).key.id) (showsC (nth l i))
  refine LoopTo.step (.reg [] [] [] (.two (.reg [(0, ((AV.ref (Card.row (nth l i)) 0), ([⟨0, 9, [[(.str ⟨#[]⟩), (.str ⟨#[]⟩), (.int .i64 0), (.int .i64 0), (.int .i64 0), (.int .i64 0), (.int .i64 0), (.int .i64 0), (.bool false)]], none⟩] : Heap)))] [] [] (.reg [(4, ((AV.sl .any 1 (List.map rU8 (textB b (nth l i).key.app))), ([⟨0, 9, [(Card.row (nth l i))], none⟩] : Heap))), (8, ((AV.sl .any 1 (List.map rU8 (textB (textB b (nth l i).key.app) (nth l i).key.id))), ([⟨0, 9, [(Card.row (nth l i))], none⟩] : Heap))), (10, ((AV.int .i64 (showsC (nth l i))), ([⟨0, 9, [(Card.row (nth l i))], none⟩] : Heap))), (11, ((AV.sl .any 1 (List.map rU8 (byteB (textB (textB b (nth l i).key.app) (nth l i).key.id) (showsC (nth l i))))), ([⟨0, 9, [(Card.row (nth l i))], none⟩] : Heap)))] [] [] (.reg [(3, ((AV.sl .any 1 (List.map rU8 (intB (byteB (textB (textB b (nth l i).key.app) (nth l i).key.id) (showsC (nth l i))) (nth l i).lease))), ([⟨0, 9, [(Card.row (nth l i))], none⟩] : Heap)))] [] [] (.reg [(0, ((AV.int .i64 ((i + 1 : Nat) : Int)), ([⟨0, 9, [(Card.row (nth l i))], none⟩] : Heap)))] [] [] .nil)))) .nil)) ?_
  refine Eq.mp (by kernel_rfl : (cond (decide (((i : Nat) : Int) < ((l.length : Nat) : Int))) ((IdxSl 9 9 (List.map Card.row l) ((i : Nat) : Int) ([⟨0, 9, [[(.str ⟨#[]⟩), (.str ⟨#[]⟩), (.int .i64 0), (.int .i64 0), (.int .i64 0), (.int .i64 0), (.int .i64 0), (.int .i64 0), (.bool false)]], none⟩] : Heap) (Card.row (nth l i))) ∧ (ACalls Try.prog 92 [(.sl .any 1 (List.map rU8 b)), (.str (nth l i).key.app)] ([⟨0, 9, [(Card.row (nth l i))], none⟩] : Heap) ((AV.sl .any 1 (List.map rU8 (textB b (nth l i).key.app))), ([⟨0, 9, [(Card.row (nth l i))], none⟩] : Heap))) ∧ (ACalls Try.prog 92 [(.sl .any 1 (List.map rU8 (textB b (nth l i).key.app))), (.str (nth l i).key.id)] ([⟨0, 9, [(Card.row (nth l i))], none⟩] : Heap) ((AV.sl .any 1 (List.map rU8 (textB (textB b (nth l i).key.app) (nth l i).key.id))), ([⟨0, 9, [(Card.row (nth l i))], none⟩] : Heap))) ∧ (ACalls Try.prog 93 [(.agg (Card.row (nth l i)))] ([⟨0, 9, [(Card.row (nth l i))], none⟩] : Heap) ((AV.int .i64 (showsC (nth l i))), ([⟨0, 9, [(Card.row (nth l i))], none⟩] : Heap))) ∧ (ACalls Try.prog 91 [(.sl .any 1 (List.map rU8 (textB (textB b (nth l i).key.app) (nth l i).key.id))), (.int .i64 (showsC (nth l i)))] ([⟨0, 9, [(Card.row (nth l i))], none⟩] : Heap) ((AV.sl .any 1 (List.map rU8 (byteB (textB (textB b (nth l i).key.app) (nth l i).key.id) (showsC (nth l i))))), ([⟨0, 9, [(Card.row (nth l i))], none⟩] : Heap))) ∧ (some ((AV.agg (Card.row (nth l i))), ([⟨0, 9, [(Card.row (nth l i))], none⟩] : Heap)) = some ((AV.agg (Card.row (nth l i))), ([⟨0, 9, [(Card.row (nth l i))], none⟩] : Heap))) ∧ (some ((AV.agg (Card.row (nth l i))), ([⟨0, 9, [(Card.row (nth l i))], none⟩] : Heap)) = some ((AV.agg (Card.row (nth l i))), ([⟨0, 9, [(Card.row (nth l i))], none⟩] : Heap))) ∧ (some ((AV.str (nth l i).key.id), ([⟨0, 9, [(Card.row (nth l i))], none⟩] : Heap)) = some ((AV.str (nth l i).key.id), ([⟨0, 9, [(Card.row (nth l i))], none⟩] : Heap))) ∧ (ACalls Try.prog 94 [(.sl .any 1 (List.map rU8 (byteB (textB (textB b (nth l i).key.app) (nth l i).key.id) (showsC (nth l i))))), (.int .i64 (nth l i).lease)] ([⟨0, 9, [(Card.row (nth l i))], none⟩] : Heap) ((AV.sl .any 1 (List.map rU8 (intB (byteB (textB (textB b (nth l i).key.app) (nth l i).key.id) (showsC (nth l i))) (nth l i).lease))), ([⟨0, 9, [(Card.row (nth l i))], none⟩] : Heap))) ∧ (Yes (.int .i64 (IntKind.i64.wrap (((i : Nat) : Int) + 1))) ([⟨0, 9, [(Card.row (nth l i))], none⟩] : Heap) (AV.int .i64 ((i + 1 : Nat) : Int))) ∧ (obsB 0 ([] : Heap) = true) ∧ LoopTo (codeQ Try.prog (X sealB_ann) (loopOf Try.f49 0)) (some [3, 7, 8, 9]) (some [3, 7, 8, 9]) (mkF 31 [(3, (.sl .any 1 (List.map rU8 (intB (byteB (textB (textB b (nth l i).key.app) (nth l i).key.id) (showsC (nth l i))) (nth l i).lease)))), (7, (.sl .any 9 (List.map Card.row l))), (8, (.int .i64 ((l.length : Nat) : Int))), (9, (.int .i64 ((i + 1 : Nat) : Int)))]) ([] : Heap) eX FX HX) (((.exit 0 : Ex), (mkF 31 [(3, (.sl .any 1 (List.map rU8 b))), (7, (.sl .any 9 (List.map Card.row l))), (8, (.int .i64 ((l.length : Nat) : Int))), (9, (.int .i64 ((i : Nat) : Int)))]), ([] : Heap)) = (eX, FX, HX))) = _) ?_
  refine cond_split (fun h1 => ?_) (fun h1 => ?_)
  · have h1' := h1
    try simp at h1'
    refine And.intro (IdxSl.mk _ (by omega) (by omega)) ?_
    refine And.intro (textF_at b (nth l i).key.app (by first | omega | assumption | (simp; done) | (simp; omega) | (simp_all; done) | (simp_all; omega)) ([⟨0, 9, [(Card.row (nth l i))], none⟩] : Heap)) ?_
    refine And.intro (textF_at (textB b (nth l i).key.app) (nth l i).key.id (by first | omega | assumption | (simp; done) | (simp; omega) | (simp_all; done) | (simp_all; omega)) ([⟨0, 9, [(Card.row (nth l i))], none⟩] : Heap)) ?_
    refine And.intro (shows_at (nth l i)  ([⟨0, 9, [(Card.row (nth l i))], none⟩] : Heap)) ?_
    refine And.intro (byteF_at (textB (textB b (nth l i).key.app) (nth l i).key.id) (showsC (nth l i)) (by first | omega | assumption | (simp; done) | (simp; omega) | (simp_all; done) | (simp_all; omega)) ([⟨0, 9, [(Card.row (nth l i))], none⟩] : Heap)) ?_
    refine And.intro (rfl) ?_
    refine And.intro (rfl) ?_
    refine And.intro (rfl) ?_
    refine And.intro (intF_at (byteB (textB (textB b (nth l i).key.app) (nth l i).key.id) (showsC (nth l i))) (nth l i).lease (by first | omega | assumption | (simp; done) | (simp; omega) | (simp_all; done) | (simp_all; omega)) ([⟨0, 9, [(Card.row (nth l i))], none⟩] : Heap)) ?_
    refine And.intro (Yes.add (by omega) (by omega) (by omega)) ?_
    refine And.intro (by first | (simp [obsB, AV.bddss, AV.bdds, AV.bdd]; done) | simp [obsB, AV.bddss, AV.bdds, AV.bdd, -List.map_append, -List.map_set, -List.map_take, -List.map_drop, -List.map_cons, -List.map_map]) ?_
    exact k1 h1
  · have h1' := h1
    try simp at h1'
    exact k2 h1
def sealB_f (l : List Card) (i : Nat) (s : (List Int)) : (List Int) := (intB (byteB (textB (textB s (nth l i).key.app) (nth l i).key.id) (showsC (nth l i))) (nth l i).lease)
theorem sealB_loop (l : List Card) (hl : l.length < 1000)  (r_ : Nat) : ∀ (b : List Int) (i : Nat) (sF : (List Int)), i + r_ = l.length → b.length ≤ i * 521 → sF = iter (sealB_f l) r_ i (b) →
    LoopTo (codeQ Try.prog (X sealB_ann) (loopOf Try.f49 0)) (some [3, 7, 8, 9]) (some [3, 7, 8, 9]) (mkF 31 [(3, (.sl .any 1 (List.map rU8 b))), (7, (.sl .any 9 (List.map Card.row l))), (8, (.int .i64 ((l.length : Nat) : Int))), (9, (.int .i64 ((i : Nat) : Int)))]) ([] : Heap) (.exit 0) (mkF 31 [(3, (.sl .any 1 (List.map rU8 sF))), (7, (.sl .any 9 (List.map Card.row l))), (8, (.int .i64 ((l.length : Nat) : Int))), (9, (.int .i64 ((l.length : Nat) : Int)))]) ([] : Heap) := by
  induction r_ with
  | zero =>
    intro b i sF hi_ hb  hF
    obtain rfl : l.length = i := by omega
    have e_ : sF = (b) := hF
    refine sealB_step l b l.length hl hb (Nat.le_refl _) (fun h => by simp at h <;> omega) (fun _ => ?_)
    first | done | rfl | (rw [e_]; done) | (rw [e_]; rfl)
  | succ r_ ih =>
    intro b i sF hi_ hb  hF
    refine sealB_step l b i hl hb (by omega) (fun h1 => ?_) (fun h => by simp at h <;> omega)
    · exact ih (intB (byteB (textB (textB b (nth l i).key.app) (nth l i).key.id) (showsC (nth l i))) (nth l i).lease) (i + 1) sF (by omega) (by have h9 : (intB (byteB (textB (textB b (nth l i).key.app) (nth l i).key.id) (showsC (nth l i))) (nth l i).lease).length ≤ b.length + 521 := cardB_len b (nth l i); first | omega | assumption | (simp; done) | (simp; omega) | (simp [*]; done) | (simp [*]; omega))  (by rw [hF] <;> simp only [iter, sealB_f, if_true, Bool.false_eq_true, if_false])
theorem sealB_iter (l : List Card) : l.foldl cardB [] = iter (sealB_f l) l.length 0 [] := (iter_all (sealB_f l) cardB l (fun i s hi => rfl) []).symm
def sumStep (h x : Int) : Int := IntKind.u32.wrap (IntKind.u32.wrap (IntKind.u32.wrap (h * 31) + IntKind.u32.wrap x) + 7)
def sumB (l : List Int) : Int := l.foldl sumStep 17
def sum_ann : Ann := { fin := some 0, live := [(3, [3, 6, 7, 8])], out := [(3, [3, 6, 7, 8])] }
set_option maxRecDepth 100000 in
theorem sum_step (l : List Int) (h : Int) (i : Nat) (hl : l.length < 1048576) (hle_ : i ≤ l.length) {eX : Ex} {FX : Fr} {HX : Heap} (k1 : (decide (((i : Nat) : Int) < ((l.length : Nat) : Int))) = true → LoopTo (codeQ Try.prog (X sum_ann) (loopOf Try.f90 0)) (some [3, 6, 7, 8]) (some [3, 6, 7, 8]) (mkF 20 [(3, (.int .u32 (IntKind.u32.wrap ((IntKind.u32.wrap ((IntKind.u32.wrap (h * 31)) + (IntKind.u32.wrap (nth l i)))) + 7)))), (6, (.sl .any 1 (List.map rU8 l))), (7, (.int .i64 ((l.length : Nat) : Int))), (8, (.int .i64 ((i + 1 : Nat) : Int)))]) ([] : Heap) eX FX HX) (k2 : (decide (((i : Nat) : Int) < ((l.length : Nat) : Int))) = false → ((.exit 0 : Ex), (mkF 20 [(3, (.int .u32 h)), (6, (.sl .any 1 (List.map rU8 l))), (7, (.int .i64 ((l.length : Nat) : Int))), (8, (.int .i64 ((i : Nat) : Int)))]), ([] : Heap)) = (eX, FX, HX)) : LoopTo (codeQ Try.prog (X sum_ann) (loopOf Try.f90 0)) (some [3, 6, 7, 8]) (some [3, 6, 7, 8]) (mkF 20 [(3, (.int .u32 h)), (6, (.sl .any 1 (List.map rU8 l))), (7, (.int .i64 ((l.length : Nat) : Int))), (8, (.int .i64 ((i : Nat) : Int)))]) ([] : Heap) eX FX HX := by
  refine LoopTo.step (.reg [] [] [] (.two (.reg [(0, ((AV.ref [(.int .u8 (nth l i))] 0), ([] : Heap)))] [] [] (.reg [] [] [] (.reg [(0, ((AV.int .i64 ((i + 1 : Nat) : Int)), ([] : Heap)))] [] [] .nil))) .nil)) ?_
  refine Eq.mp (by kernel_rfl : (cond (decide (((i : Nat) : Int) < ((l.length : Nat) : Int))) ((IdxSl 1 1 (List.map rU8 l) ((i : Nat) : Int) ([] : Heap) (rU8 (nth l i))) ∧ (Yes (.int .i64 (IntKind.i64.wrap (((i : Nat) : Int) + 1))) ([] : Heap) (AV.int .i64 ((i + 1 : Nat) : Int))) ∧ LoopTo (codeQ Try.prog (X sum_ann) (loopOf Try.f90 0)) (some [3, 6, 7, 8]) (some [3, 6, 7, 8]) (mkF 20 [(3, (.int .u32 (IntKind.u32.wrap ((IntKind.u32.wrap ((IntKind.u32.wrap (h * 31)) + (IntKind.u32.wrap (nth l i)))) + 7)))), (6, (.sl .any 1 (List.map rU8 l))), (7, (.int .i64 ((l.length : Nat) : Int))), (8, (.int .i64 ((i + 1 : Nat) : Int)))]) ([] : Heap) eX FX HX) (((.exit 0 : Ex), (mkF 20 [(3, (.int .u32 h)), (6, (.sl .any 1 (List.map rU8 l))), (7, (.int .i64 ((l.length : Nat) : Int))), (8, (.int .i64 ((i : Nat) : Int)))]), ([] : Heap)) = (eX, FX, HX))) = _) ?_
  refine cond_split (fun h1 => ?_) (fun h1 => ?_)
  · have h1' := h1
    try simp at h1'
    refine And.intro (IdxSl.mk _ (by omega) (by omega)) ?_
    refine And.intro (Yes.add (by omega) (by omega) (by omega)) ?_
    exact k1 h1
  · have h1' := h1
    try simp at h1'
    exact k2 h1
def sum_f (l : List Int) (i : Nat) (s : Int) : Int := ((IntKind.u32.wrap ((IntKind.u32.wrap ((IntKind.u32.wrap (s * 31)) + (IntKind.u32.wrap (nth l i)))) + 7)))
theorem sum_loop (l : List Int) (hl : l.length < 1048576)  (r_ : Nat) : ∀ (h : Int) (i : Nat) (sF : Int), i + r_ = l.length → sF = iter (sum_f l) r_ i (h) →
    LoopTo (codeQ Try.prog (X sum_ann) (loopOf Try.f90 0)) (some [3, 6, 7, 8]) (some [3, 6, 7, 8]) (mkF 20 [(3, (.int .u32 h)), (6, (.sl .any 1 (List.map rU8 l))), (7, (.int .i64 ((l.length : Nat) : Int))), (8, (.int .i64 ((i : Nat) : Int)))]) ([] : Heap) (.exit 0) (mkF 20 [(3, (.int .u32 sF)), (6, (.sl .any 1 (List.map rU8 l))), (7, (.int .i64 ((l.length : Nat) : Int))), (8, (.int .i64 ((l.length : Nat) : Int)))]) ([] : Heap) := by
  induction r_ with
  | zero =>
    intro h i sF hi_   hF
    obtain rfl : l.length = i := by omega
    have e_ : sF = (h) := hF
    refine sum_step l h l.length hl (Nat.le_refl _) (fun h => by simp at h <;> omega) (fun _ => ?_)
    first | done | rfl | (rw [e_]; done) | (rw [e_]; rfl)
  | succ r_ ih =>
    intro h i sF hi_   hF
    refine sum_step l h i hl (by omega) (fun h1 => ?_) (fun h => by simp at h <;> omega)
    · exact ih (IntKind.u32.wrap ((IntKind.u32.wrap ((IntKind.u32.wrap (h * 31)) + (IntKind.u32.wrap (nth l i)))) + 7)) (i + 1) sF (by omega)   (by rw [hF] <;> simp only [iter, sum_f, if_true, Bool.false_eq_true, if_false])
theorem sum_iter (l : List Int) : sumB l = iter (sum_f l) l.length 0 17 := (iter_all (sum_f l) sumStep l (fun i s hi => rfl) 17).symm
set_option maxRecDepth 100000 in
theorem sum_spec (l : List Int) (hl : l.length < 1048576) : ACalls Try.prog 90 [(.sl .any 1 (List.map rU8 l))] ([] : Heap) ((AV.int .u32 (sumB l)), ([] : Heap)) := by
  refine spec (fn := Try.f90) (ann := sum_ann) (t := (.reg [] [] [] (.reg [] [] [] (.reg [(1, ((AV.int .i64 ((l.length : Nat) : Int)), ([] : Heap)))] [] [] (.loop (.exit 0) (mkF 20 [(3, (.int .u32 (sumB l))), (6, (.sl .any 1 (List.map rU8 l))), (7, (.int .i64 ((l.length : Nat) : Int))), (8, (.int .i64 ((l.length : Nat) : Int)))]) ([] : Heap) (.reg [] [] [] .nil)))))) (Nat.le_of_ble_eq_true (by kernel_rfl)) ⟨Try.func90, by kernel_rfl, by kernel_rfl, by kernel_rfl⟩ ?_
  refine Eq.mp (by kernel_rfl : ((Yes (.int .i64 ((List.length (List.map rU8 l) : Nat) : Int)) ([] : Heap) (AV.int .i64 ((l.length : Nat) : Int))) ∧ (LoopTo (codeQ Try.prog (X sum_ann) (loopOf Try.f90 0)) (some [3, 6, 7, 8]) (some [3, 6, 7, 8]) (mkF 20 [(3, (.int .u32 17)), (6, (.sl .any 1 (List.map rU8 l))), (7, (.int .i64 ((l.length : Nat) : Int))), (8, (.int .i64 0))]) ([] : Heap) (.exit 0) (mkF 20 [(3, (.int .u32 (sumB l))), (6, (.sl .any 1 (List.map rU8 l))), (7, (.int .i64 ((l.length : Nat) : Int))), (8, (.int .i64 ((l.length : Nat) : Int)))]) ([] : Heap)) ∧ (AV.bdd 0 (AV.int .u32 (sumB l)) = true ∧ obsB 0 ([] : Heap) = true) ∧ ((AV.int .u32 (sumB l)), ([] : Heap)) = ((AV.int .u32 (sumB l)), ([] : Heap))) = _) ?_
  refine And.intro (Yes.len _ _ _) ?_
  refine And.intro ((sum_loop l hl (List.length l) 17 0 (sumB l) (by omega) (sum_iter _))) ?_
  refine And.intro (by first | (simp [obsB, AV.bddss, AV.bdds, AV.bdd]; done) | simp [obsB, AV.bddss, AV.bdds, AV.bdd, -List.map_append, -List.map_set, -List.map_take, -List.map_drop, -List.map_cons, -List.map_map]) ?_
  rfl
theorem sum_at (l : List Int) (hl : l.length < 1048576) (H : Heap) : ACalls Try.prog 90 [(.sl .any 1 (List.map rU8 l))] H ((AV.int .u32 (sumB l)), H) := (sum_spec l hl).lift (by kernel_rfl) (by kernel_rfl) H
def ofB (l : List Card) : Int := sumB (sealB l)
end Go.Proofs.Ytcmfnfkahdconaa.AM

set_option linter.unusedVariables false
set_option linter.unusedSimpArgs false
set_option maxRecDepth 100000
set_option linter.unusedSectionVars false
namespace Go.Proofs.Ytcmfnfkahdconaa.AM
open Go
section
variable {α : Type} [Inhabited α]
def posG (lt : α → α → Bool) (x : α) (out : List α) : Nat → Nat
  | 0 => 0
  | k + 1 => if lt x (nth out k) = true then posG lt x out k else k + 1
def insG (lt : α → α → Bool) (out : List α) (x : α) : List α := (out.take (posG lt x out out.length) ++ [x]) ++ out.drop (posG lt x out out.length)
theorem posG_le (lt : α → α → Bool) (x : α) (out : List α) (k : Nat) : posG lt x out k ≤ k := by
  induction k with
  | zero => simp only [posG]; omega
  | succ k ih => simp only [posG]; split <;> omega
theorem posG_congr (lt : α → α → Bool) (x : α) {out out' : List α} (k : Nat) (h : ∀ i, i < k → nth out i = nth out' i) : posG lt x out k = posG lt x out' k := by
  induction k with
  | zero => rfl
  | succ k ih => simp only [posG]; rw [h k (by omega), ih fun i hi => h i (by omega)]
theorem posG_spec (lt : α → α → Bool) (x : α) (out : List α) (k : Nat) : (∀ i, posG lt x out k ≤ i → i < k → lt x (nth out i) = true) ∧ (0 < posG lt x out k → lt x (nth out (posG lt x out k - 1)) = false) := by
  induction k with
  | zero => simp only [posG]; exact ⟨fun i h1 h2 => by omega, fun h => by omega⟩
  | succ k ih =>
    simp only [posG]
    split
    · rename_i h
      refine ⟨fun i h1 h2 => ?_, ih.2⟩
      rcases Nat.lt_or_ge i k with h3 | h3
      · exact ih.1 i h1 h3
      · rw [show i = k by omega]; exact h
    · rename_i h
      exact ⟨fun i h1 h2 => by omega, fun _ => by simpa using h⟩
theorem insG_perm (lt : α → α → Bool) (out : List α) (x : α) : List.Perm (insG lt out x) (x :: out) := by
  unfold insG
  rw [List.append_assoc, List.singleton_append]
  refine List.perm_middle.trans ?_
  rw [List.take_append_drop]
theorem insG_len (lt : α → α → Bool) (out : List α) (x : α) : (insG lt out x).length = out.length + 1 := by
  rw [(insG_perm lt out x).length_eq]; rfl
structure Weak (lt : α → α → Bool) : Prop where
  asymm : ∀ a b, lt a b = true → lt b a = false
  trans : ∀ a b c, lt b a = false → lt c b = false → lt c a = false
abbrev Srt (lt : α → α → Bool) (l : List α) : Prop := List.Pairwise (fun a b => lt b a = false) l
theorem insG_sorted {lt : α → α → Bool} (W : Weak lt) {out : List α} (h : Srt lt out) (x : α) : Srt lt (insG lt out x) := by
  obtain ⟨h1, h2⟩ := posG_spec lt x out out.length
  have hp := posG_le lt x out out.length
  generalize hpe : posG lt x out out.length = p at *
  have hs := pw_nth.1 h
  unfold insG
  rw [hpe, List.append_assoc, List.singleton_append]
  refine List.pairwise_append.2 ⟨h.sublist (List.take_sublist _ _), List.pairwise_cons.2 ⟨fun y hy => ?_, h.sublist (List.drop_sublist _ _)⟩, fun a ha y hy => ?_⟩
  · obtain ⟨i, hi, rfl⟩ := mem_nth hy
    simp only [List.length_drop] at hi
    rw [nth_drop]
    exact W.asymm _ _ (h1 (p + i) (by omega) (by omega))
  · have hxp : lt x a = false := by
      obtain ⟨i, hi, rfl⟩ := mem_nth ha
      simp only [List.length_take] at hi
      rw [nth_take (by omega)]
      have h3 := h2 (by omega)
      rcases Nat.lt_or_ge i (p - 1) with h4 | h4
      · exact W.trans _ _ _ (hs i (p - 1) h4 (by omega)) h3
      · rw [show i = p - 1 by omega]; exact h3
    rcases List.mem_cons.1 hy with rfl | hy
    · exact hxp
    · obtain ⟨i, hi, rfl⟩ := mem_nth ha
      obtain ⟨j, hj, rfl⟩ := mem_nth hy
      simp only [List.length_take] at hi
      simp only [List.length_drop] at hj
      rw [nth_take (by omega), nth_drop]
      exact hs i (p + j) (by omega) (by omega)
def sortG (lt : α → α → Bool) (l : List α) : List α := l.foldl (insG lt) []
theorem sink_ins (cmp : α → α → Int) (j : Nat) : ∀ (l : List α), j < l.length → sink cmp 0 j l = insG (fun a b => decide (cmp a b < 0)) (l.take j) (nth l j) ++ l.drop (j + 1) := by
  induction j with
  | zero =>
    intro l h
    simp only [sink]
    have hd : l = nth l 0 :: l.drop 1 := by
      have := drop_nth (l := l) (i := 0) h
      simpa using this
    conv => lhs; rw [hd]
    simp [insG, posG]
  | succ j ih =>
    intro l h
    simp only [sink]
    have h0 : decide (((j + 1 : Nat) : Int) > ((0 : Nat) : Int)) = true := decide_eq_true (by omega)
    rw [if_pos h0]
    have htk : l.take (j + 1) = l.take j ++ [nth l j] := by
      rw [List.take_add_one]
      congr 1
      rw [nth_get (by omega)]
      rfl
    have hdj : l.drop (j + 1) = nth l (j + 1) :: l.drop (j + 2) := drop_nth h
    have hlen : (l.take j).length = j := by simp; omega
    by_cases hc : decide (cmp (nth l (j + 1)) (nth l j) < 0) = true
    · rw [if_pos hc]
      rw [ih _ (by simp; omega)]
      have e1 : ((l.set (j + 1) (nth l j)).set j (nth l (j + 1))).take j = l.take j := by
        rw [List.take_set_of_le (by omega), List.take_set_of_le (by omega)]
      have e2 : nth ((l.set (j + 1) (nth l j)).set j (nth l (j + 1))) j = nth l (j + 1) := by
        unfold nth
        rw [List.getD_eq_getElem?_getD, List.getElem?_set_self (by simp; omega)]; rfl
      have e3 : ((l.set (j + 1) (nth l j)).set j (nth l (j + 1))).drop (j + 1) = nth l j :: l.drop (j + 2) := by
        rw [List.drop_set_of_lt (by omega), drop_nth (by simp; omega)]
        congr 1
        · unfold nth
          rw [List.getD_eq_getElem?_getD, List.getElem?_set_self (by omega)]; rfl
        · rw [List.drop_set_of_lt (by omega)]
      rw [e1, e2, e3]
      have hpos : posG (fun a b => decide (cmp a b < 0)) (nth l (j + 1)) (l.take (j + 1)) (l.take (j + 1)).length = posG (fun a b => decide (cmp a b < 0)) (nth l (j + 1)) (l.take j) j := by
        rw [show (l.take (j + 1)).length = j + 1 by rw [List.length_take]; omega]
        simp only [posG]
        rw [nth_take (by omega), if_pos hc]
        exact posG_congr _ _ _ fun i hi => by rw [nth_take (by omega), nth_take hi]
      have hle := posG_le (fun a b => decide (cmp a b < 0)) (nth l (j + 1)) (l.take j) j
      unfold insG
      rw [hpos, hlen]
      generalize posG (fun a b => decide (cmp a b < 0)) (nth l (j + 1)) (l.take j) j = p at *
      rw [htk, List.take_append_of_le_length (by omega), List.drop_append_of_le_length (by omega)]
      simp
    · rw [if_neg hc]
      have hpos : posG (fun a b => decide (cmp a b < 0)) (nth l (j + 1)) (l.take (j + 1)) (l.take (j + 1)).length = j + 1 := by
        rw [show (l.take (j + 1)).length = j + 1 by rw [List.length_take]; omega]
        simp only [posG]
        rw [nth_take (by omega), if_neg hc]
      unfold insG
      rw [hpos]
      rw [List.take_of_length_le (l := l.take (j + 1)) (by simp; omega), List.drop_of_length_le (l := l.take (j + 1)) (by simp; omega), List.append_nil, List.append_assoc, List.singleton_append, ← hdj, List.take_append_drop]
theorem insSort_fold (cmp : α → α → Int) (rest : List α) : ∀ (S : List α), insSort cmp 0 rest.length S.length (S ++ rest) = rest.foldl (insG fun a b => decide (cmp a b < 0)) S := by
  induction rest with
  | nil => intro S; simp [insSort]
  | cons x rest ih =>
    intro S
    simp only [List.length_cons, insSort, List.foldl_cons]
    rw [sink_ins cmp S.length _ (by simp)]
    have e1 : (S ++ x :: rest).take S.length = S := by simp
    have e3 : (S ++ x :: rest).drop (S.length + 1) = rest := by
      rw [List.drop_append]
      simp
    rw [e1, nth_append_len, e3]
    have := ih (insG (fun a b => decide (cmp a b < 0)) S x)
    rwa [insG_len] at this
theorem insSort_sortG (cmp : α → α → Int) (l : List α) : insSort cmp 0 (l.length - 1) 1 l = sortG (fun a b => decide (cmp a b < 0)) l := by
  cases l with
  | nil => rfl
  | cons x l =>
    have := insSort_fold cmp l [x]
    simpa [sortG, insG, posG] using this
end
end Go.Proofs.Ytcmfnfkahdconaa.AM

set_option linter.unusedVariables false
set_option linter.unusedSimpArgs false
set_option maxRecDepth 100000
namespace Go.Proofs.Ytcmfnfkahdconaa.AM
open Go
section
variable {α : Type} [Inhabited α]
theorem insG_split {lt : α → α → Bool} (W : Weak lt) {out : List α} (h : Srt lt out) (x : α) : insG lt out x = out.filter (fun y => !lt x y) ++ x :: out.filter (fun y => lt x y) := by
  obtain ⟨h1, h2⟩ := posG_spec lt x out out.length
  have hp := posG_le lt x out out.length
  generalize hpe : posG lt x out out.length = p at *
  have hs := pw_nth.1 h
  have hA : ∀ y ∈ out.take p, lt x y = false := by
    intro y hy
    obtain ⟨i, hi, rfl⟩ := mem_nth hy
    simp only [List.length_take] at hi
    have hi' : i < p := by omega
    rw [nth_take hi']
    have h3 := h2 (by omega)
    rcases Nat.lt_or_ge i (p - 1) with h4 | h4
    · exact W.trans _ _ _ (hs i (p - 1) h4 (by omega)) (by simpa using h3)
    · rw [show i = p - 1 by omega]; simpa using h3
  have hB : ∀ y ∈ out.drop p, lt x y = true := by
    intro y hy
    obtain ⟨i, hi, rfl⟩ := mem_nth hy
    simp only [List.length_drop] at hi
    rw [nth_drop]
    exact h1 (p + i) (by omega) (by omega)
  have e1 : out.filter (fun y => !lt x y) = out.take p := by
    conv => lhs; rw [← List.take_append_drop p out]
    rw [List.filter_append, List.filter_eq_self.2 (fun y hy => by simp [hA y hy]), List.filter_eq_nil_iff.2 (fun y hy => by simp [hB y hy]), List.append_nil]
  have e2 : out.filter (fun y => lt x y) = out.drop p := by
    conv => lhs; rw [← List.take_append_drop p out]
    rw [List.filter_append, List.filter_eq_nil_iff.2 (fun y hy => by simp [hA y hy]), List.filter_eq_self.2 (fun y hy => by simp [hB y hy]), List.nil_append]
  unfold insG
  rw [hpe, e1, e2]; simp
theorem filter_insG {lt : α → α → Bool} (W : Weak lt) (p : α → Bool) {out : List α} (h : Srt lt out) (x : α) : (insG lt out x).filter p = if p x = true then insG lt (out.filter p) x else out.filter p := by
  have hf : Srt lt (out.filter p) := h.sublist List.filter_sublist
  rw [insG_split W h x, List.filter_append, List.filter_cons]
  have comm : ∀ q : α → Bool, (out.filter q).filter p = (out.filter p).filter q := fun q => by rw [List.filter_filter, List.filter_filter]; congr 1; funext y; rw [Bool.and_comm]
  split
  · rw [insG_split W hf x, comm, comm]
  · rw [← List.filter_append]
    have e := insG_split W h x
    have hperm : List.filter (fun y => !lt x y) out ++ List.filter (fun y => lt x y) out = out := by
      obtain ⟨h1, h2⟩ := posG_spec lt x out out.length
      have hi := e
      unfold insG at hi
      have hl := congrArg (fun l => l.filter p) hi
      clear hl
      have hp := posG_le lt x out out.length
      have hlen : (out.take (posG lt x out out.length)).length = (out.filter (fun y => !lt x y)).length := by
        have hs := pw_nth.1 h
        have e1 : out.filter (fun y => !lt x y) = out.take (posG lt x out out.length) := by
          conv => lhs; rw [← List.take_append_drop (posG lt x out out.length) out]
          rw [List.filter_append, List.filter_eq_self.2, List.filter_eq_nil_iff.2, List.append_nil]
          · intro y hy
            obtain ⟨i, hi, rfl⟩ := mem_nth hy
            simp only [List.length_drop] at hi
            rw [nth_drop]
            simp [h1 (posG lt x out out.length + i) (by omega) (by omega)]
          · intro y hy
            obtain ⟨i, hi, rfl⟩ := mem_nth hy
            simp only [List.length_take] at hi
            rw [nth_take (by omega)]
            have h3 := h2 (by omega)
            rcases Nat.lt_or_ge i (posG lt x out out.length - 1) with h4 | h4
            · have := W.trans _ _ _ (hs i (posG lt x out out.length - 1) h4 (by omega)) (by simpa using h3)
              simp [this]
            · rw [show i = posG lt x out out.length - 1 by omega]; simpa using h3
        rw [e1]
      have h5 := List.append_inj (show out.take (posG lt x out out.length) ++ (x :: out.drop (posG lt x out out.length)) = _ from by simpa using hi) hlen
      have h6 := (List.cons.inj h5.2).2
      rw [← h5.1, ← h6, List.take_append_drop]
    rw [hperm]
theorem filter_foldG {lt : α → α → Bool} (W : Weak lt) (p : α → Bool) (l : List α) : ∀ (out : List α), Srt lt out → (l.foldl (insG lt) out).filter p = (l.filter p).foldl (insG lt) (out.filter p) := by
  induction l with
  | nil => intro out h; rfl
  | cons x l ih =>
    intro out h
    rw [List.foldl_cons, ih _ (insG_sorted W h x), filter_insG W p h x, List.filter_cons]
    split
    · rw [List.foldl_cons]
    · rfl
theorem filter_sortG {lt : α → α → Bool} (W : Weak lt) (p : α → Bool) (l : List α) : (sortG lt l).filter p = sortG lt (l.filter p) := filter_foldG W p l [] List.Pairwise.nil
end
end Go.Proofs.Ytcmfnfkahdconaa.AM

set_option linter.unusedVariables false
set_option linter.unusedSimpArgs false
set_option maxRecDepth 100000
namespace Go.Proofs.Ytcmfnfkahdconaa.AM
open Go
attribute [local irreducible] Tp.card Tp.cardT Tp.next Tp.step Tp.key Tp.keyT
abbrev ltE (a b : Card) : Bool := decide (cmpK a.key b.key < 0)
theorem ltE_before : (fun a b : Card => beforeK a.key b.key) = ltE := by funext a b; exact (less_before a.key b.key).symm
theorem weakE : Weak ltE := ⟨fun a b h => by rw [← ltE_before] at h ⊢; exact bk_asymm h, fun a b c h k => by rw [← ltE_before] at h k ⊢; exact bk_le_trans h k⟩
theorem posK_posG (c : Card) (out : List Card) (k : Nat) : posK c out k = posG (fun a b : Card => beforeK a.key b.key) c out k := by
  induction k with
  | zero => rfl
  | succ k ih => simp only [posK, posG, ih]
theorem sortK_sortG (l : List Card) : sortK l = sortG ltE l := by
  rw [← ltE_before]
  have : insK = insG (fun a b : Card => beforeK a.key b.key) := by funext out c; unfold insK insG; rw [posK_posG]
  unfold sortK sortG; rw [this]
theorem sortP_sortK (l : List Card) : sortP l = sortK l := by rw [sortK_sortG]; exact insSort_sortG _ l
end Go.Proofs.Ytcmfnfkahdconaa.AM

set_option linter.unusedVariables false
set_option linter.unusedSimpArgs false
set_option maxRecDepth 100000
namespace Go.Proofs.Ytcmfnfkahdconaa.AM
open Go
attribute [local irreducible] Tp.card Tp.cardT Tp.next Tp.step Tp.key Tp.keyT
theorem hereL_sortK (l : List Card) : hereL (sortK l) = seenK l := by
  unfold seenK
  rw [sortP_sortK, sortK_sortG, sortK_sortG]
  exact filter_sortG weakE _ l
end Go.Proofs.Ytcmfnfkahdconaa.AM
