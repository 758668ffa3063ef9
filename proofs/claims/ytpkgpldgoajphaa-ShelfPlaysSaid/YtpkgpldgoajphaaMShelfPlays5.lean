/-
  Texts of this claim, part 5 of 7: an abstract machine over the model; what functions come to; plain laws.
-/
import Derived.Test.YtpkgpldgoajphaaMShelfPlays4
set_option maxRecDepth 100000
set_option linter.unusedVariables false
set_option linter.unusedSimpArgs false
namespace Go.Proofs.Ytpkgpldgoajphaa.AM
open Go Go.Proofs.Ytpkgpldgoajphaa
attribute [local irreducible] ACalls funT codeT codeQ LoopTo
attribute [local irreducible] Tp.card Tp.cardT Tp.next Tp.step Tp.cards Tp.cardsT Tp.key Tp.keyT sink insSort pickS pickL pickN pickK mostN cmpL lateE orderK sortK insK posK beforeK onceStep onceS onceK
theorem hcInsE (vs : Array Value) (w : World) : (callFunc 102 vs).run Try.prog w = ((Extern.SlicesOverlaps.overlaps #[52, 52] #[4] vs).run Try.prog w).andThen fun v w' => .ok (.value v) w' :=
  run_callFunc_extern (fn := Try.f102) (by kernel_rfl) (by kernel_rfl) (by kernel_rfl) (by kernel_rfl) (by kernel_rfl) vs w
def InsEE_ann : Ann := { base := 1, fin := some 1 }
set_option maxRecDepth 100000 in
theorem InsEE_spec (l : List Entry) (x : Entry) (g : Nat) (hl : l.length < 1048576) : ACalls Try.prog 62 [(AV.osl 0 g 10 0 l.length), (AV.int .i64 ((l.length : Nat) : Int)), (AV.sl .clip 10 [(Entry.row x)])] ([⟨g, 10, (List.map Entry.row l), none⟩] : Heap) ((AV.osl 0 (g + 1) 10 0 (l.length + 1)), ([⟨(g + 1), 10, (List.map Entry.row (l ++ [x])), none⟩] : Heap)) := by
  refine spec (fn := Try.f62) (ann := InsEE_ann) (t := (.reg [] [] [] (.reg [(2, ((AV.osl 0 g 10 l.length (l.length - l.length)), ([⟨g, 10, (List.map Entry.row l), none⟩] : Heap)))] [] [] (.reg [] [] [] (.reg [] [] [] (.two .nil (.reg [] [] [] (.reg [(2, ((AV.bool true), ([⟨g, 10, (List.map Entry.row l), none⟩] : Heap)))] [] [] (.two (.reg [(2, ((AV.osl 0 (g + 1) 10 0 (l.length + 1)), ([⟨(g + 1), 10, (List.map Entry.row (l ++ [x])), none⟩] : Heap)))] [] [] .nil) .nil))))))))) (Nat.le_of_ble_eq_true (by kernel_rfl)) ⟨Try.func62, by kernel_rfl, by kernel_rfl, by kernel_rfl⟩ ?_
  refine Eq.mp (by kernel_rfl : ((Option.map (fun a => (a, ([⟨g, 10, (List.map Entry.row l), none⟩] : Heap))) ((bounds ((l.length : Nat) : Int) ((l.length : Nat) : Int) l.length).map fun p => AV.osl 0 g 10 (0 + p.1) (p.2 - p.1)) = some ((AV.osl 0 g 10 l.length (l.length - l.length)), ([⟨g, 10, (List.map Entry.row l), none⟩] : Heap))) ∧ (Yes (AV.bool (((l.length : Nat) : Int) == ((l.length : Nat) : Int))) ([⟨g, 10, (List.map Entry.row l), none⟩] : Heap) (AV.bool true)) ∧ (evAppend tt ([⟨g, 10, (List.map Entry.row l), none⟩] : Heap) 52 (AV.osl 0 g 10 0 l.length) (AV.sl .clip 10 [(Entry.row x)]) = some ((AV.osl 0 (g + 1) 10 0 (l.length + 1)), ([⟨(g + 1), 10, (List.map Entry.row (l ++ [x])), none⟩] : Heap))) ∧ (AV.bdd 1 (AV.osl 0 (g + 1) 10 0 (l.length + 1)) = true ∧ obsB 1 ([⟨(g + 1), 10, (List.map Entry.row (l ++ [x])), none⟩] : Heap) = true) ∧ ((AV.osl 0 (g + 1) 10 0 (l.length + 1)), ([⟨(g + 1), 10, (List.map Entry.row (l ++ [x])), none⟩] : Heap)) = ((AV.osl 0 (g + 1) 10 0 (l.length + 1)), ([⟨(g + 1), 10, (List.map Entry.row (l ++ [x])), none⟩] : Heap))) = _) ?_
  refine And.intro (slice_osl (l := l.length) (h := l.length) (by first | omega | (simp; done) | (simp; omega)) (by first | omega | (simp; done) | (simp; omega)) (by first | omega | (simp; done) | (simp; omega)) (by first | omega | (simp; done) | (simp; omega)) (by first | omega | (simp; done) | (simp; omega)) (by first | omega | (simp; done) | (simp; omega))) ?_
  refine And.intro (Yes.bool (by first | omega | (simp; done) | (simp; omega))) ?_
  refine And.intro (evAppend_one (row := Entry.row) (l := l) (x := x) (T := tt) (e := 42) (te := { d := .struct [(34, 0), (2, 9)], size := 10, bytes := 96, zero := [.str ⟨#[]⟩, .str ⟨#[]⟩, .int .i64 0, .int .i64 0, .int .i64 0, .int .i64 0, .int .i64 0, .int .i64 0, .bool false, .int .i64 0] }) (z := 1) (b := 24) (y := [.sl .nil 0 []]) (by kernel_rfl) (by kernel_rfl) rfl (by decide) (by decide) (by kernel_rfl) (by first | assumption | omega | (simp; done) | (simp; omega)) rfl rfl (by first | omega | (simp; omega))) ?_
  refine And.intro (by first | (simp [obsB, AV.bddss, AV.bdds, AV.bdd]; done) | (simp [obsB, AV.bddss, AV.bdds, AV.bdd, -List.map_append]; done) | simp [obsB, AV.bddss, AV.bdds, AV.bdd, -List.map_append, -List.map_set, -List.map_take, -List.map_drop, -List.map_cons, -List.map_map]) ?_
  rfl
def InsEG_ann : Ann := { big := [40, 60], base := 1 }
set_option maxRecDepth 100000 in
theorem InsEG_spec (l : List Entry) (x : Entry) (g i r : Nat) (hi : i < l.length) (hl : l.length < 1048576) (hr : r < l.length + 1) : ACalls Try.prog 62 [(AV.osl 0 g 10 0 l.length), (AV.int .i64 ((i : Nat) : Int)), (AV.sl .clip 10 [(Entry.row x)])] ([⟨g, 10, (List.map Entry.row l), some r⟩] : Heap) ((AV.osl 1 0 10 0 (l.length + 1)), ([⟨g, 10, (List.map Entry.row l), some r⟩, ⟨0, 10, (List.map Entry.row (l.take i ++ x :: l.drop i)), none⟩] : Heap)) := by
  refine spec (fn := Try.f62) (ann := InsEG_ann) (t := (.reg [] [] [] (.reg [(2, ((AV.osl 0 g 10 i (l.length - i)), ([⟨g, 10, (List.map Entry.row l), some r⟩] : Heap)))] [] [] (.reg [] [] [] (.reg [] [] [] (.two .nil (.reg [] [] [] (.reg [(2, ((AV.bool false), ([⟨g, 10, (List.map Entry.row l), some r⟩] : Heap)))] [] [] (.two .nil (.reg [(2, ((AV.int .i64 ((l.length + 1 : Nat) : Int)), ([⟨g, 10, (List.map Entry.row l), some r⟩] : Heap))), (4, ((AV.int .i64 ((r : Nat) : Int)), ([⟨g, 10, (List.map Entry.row l), some r⟩] : Heap))), (5, ((AV.bool true), ([⟨g, 10, (List.map Entry.row l), some r⟩] : Heap)))] [] [] (.two (.reg [(2, ((AV.osl 0 g 10 0 i), ([⟨g, 10, (List.map Entry.row l), some r⟩] : Heap))), (5, ((AV.int .i64 ((l.length + 1 : Nat) : Int)), ([⟨g, 10, (List.map Entry.row l), some r⟩] : Heap))), (7, ((AV.int .i64 ((l.length + 1 - i : Nat) : Int)), ([⟨g, 10, (List.map Entry.row l), some r⟩] : Heap))), (8, ((AV.osl 1 0 10 0 (l.length + 1)), ([⟨g, 10, (List.map Entry.row l), some r⟩, ⟨0, 10, (List.map Entry.row (l.take i) ++ List.replicate (l.length + 1 - i) (List.replicate 10 AV.unk)), none⟩] : Heap)))] [] [] (.reg [(2, ((AV.osl 1 0 10 i ((l.length + 1) - i)), ([⟨g, 10, (List.map Entry.row l), some r⟩, ⟨0, 10, (List.map Entry.row (l.take i) ++ List.replicate (l.length + 1 - i) (List.replicate 10 AV.unk)), none⟩] : Heap))), (4, ((AV.int .i64 1), ([⟨g, 10, (List.map Entry.row l), some r⟩, ⟨0, 10, (List.map Entry.row (l.take i ++ [x]) ++ List.replicate (l.length + 1 - i - 1) (List.replicate 10 AV.unk)), none⟩] : Heap)))] [] [] (.reg [(3, ((AV.int .i64 ((i + 1 : Nat) : Int)), ([⟨g, 10, (List.map Entry.row l), some r⟩, ⟨0, 10, (List.map Entry.row (l.take i ++ [x]) ++ List.replicate (l.length + 1 - i - 1) (List.replicate 10 AV.unk)), none⟩] : Heap))), (4, ((AV.osl 1 0 10 (i + 1) ((l.length + 1) - (i + 1))), ([⟨g, 10, (List.map Entry.row l), some r⟩, ⟨0, 10, (List.map Entry.row (l.take i ++ [x]) ++ List.replicate (l.length + 1 - i - 1) (List.replicate 10 AV.unk)), none⟩] : Heap))), (7, ((AV.osl 0 g 10 i (l.length - i)), ([⟨g, 10, (List.map Entry.row l), some r⟩, ⟨0, 10, (List.map Entry.row (l.take i ++ [x]) ++ List.replicate (l.length + 1 - i - 1) (List.replicate 10 AV.unk)), none⟩] : Heap))), (8, ((AV.int .i64 (((l.length - i) : Nat) : Int)), ([⟨g, 10, (List.map Entry.row l), some r⟩, ⟨0, 10, (List.map Entry.row (l.take i ++ x :: l.drop i)), none⟩] : Heap)))] [] [] (.reg [] [] [] .nil)))) .nil))))))))))) (Nat.le_of_ble_eq_true (by kernel_rfl)) ⟨Try.func62, by kernel_rfl, by kernel_rfl, by kernel_rfl⟩ ?_
  refine Eq.mp (by kernel_rfl : ((Option.map (fun a => (a, ([⟨g, 10, (List.map Entry.row l), some r⟩] : Heap))) ((bounds ((i : Nat) : Int) ((l.length : Nat) : Int) l.length).map fun p => AV.osl 0 g 10 (0 + p.1) (p.2 - p.1)) = some ((AV.osl 0 g 10 i (l.length - i)), ([⟨g, 10, (List.map Entry.row l), some r⟩] : Heap))) ∧ (Yes (AV.bool (((i : Nat) : Int) == ((l.length : Nat) : Int))) ([⟨g, 10, (List.map Entry.row l), some r⟩] : Heap) (AV.bool false)) ∧ (Yes (.int .i64 (IntKind.i64.wrap (((l.length : Nat) : Int) + 1))) ([⟨g, 10, (List.map Entry.row l), some r⟩] : Heap) (AV.int .i64 ((l.length + 1 : Nat) : Int))) ∧ (Sat Try.prog (X InsEG_ann) (mkF 95 [(0, (AV.osl 0 g 10 0 l.length)), (1, (AV.int .i64 ((i : Nat) : Int))), (2, (AV.sl .clip 10 [(Entry.row x)])), (6, (AV.sl .nil 0 [])), (7, (AV.int .i64 1)), (8, (AV.int .i64 ((l.length : Nat) : Int))), (10, (AV.osl 0 g 10 0 l.length)), (11, (AV.int .i64 ((i : Nat) : Int))), (12, (AV.osl 0 g 10 i (l.length - i))), (13, (AV.sl .clip 10 [(Entry.row x)])), (14, (AV.int .i64 1)), (15, (AV.int .i64 1)), (16, (AV.bool false)), (18, (AV.osl 0 g 10 0 l.length)), (19, (AV.int .i64 ((l.length : Nat) : Int))), (20, (AV.int .i64 ((i : Nat) : Int))), (21, (AV.int .i64 ((l.length : Nat) : Int))), (22, (AV.bool false)), (26, (AV.int .i64 ((l.length : Nat) : Int))), (27, (AV.int .i64 1)), (28, (AV.int .i64 ((l.length + 1 : Nat) : Int))), (29, (AV.osl 0 g 10 0 l.length))]) ([⟨g, 10, (List.map Entry.row l), some r⟩] : Heap) 1 (opIn Try.f62 8 4) (AV.int .i64 ((r : Nat) : Int)) ([⟨g, 10, (List.map Entry.row l), some r⟩] : Heap)) ∧ (Yes (AV.bool (decide (((l.length + 1 : Nat) : Int) > ((r : Nat) : Int)))) ([⟨g, 10, (List.map Entry.row l), some r⟩] : Heap) (AV.bool true)) ∧ (Option.map (fun a => (a, ([⟨g, 10, (List.map Entry.row l), some r⟩] : Heap))) ((bounds 0 ((i : Nat) : Int) l.length).map fun p => AV.osl 0 g 10 (0 + p.1) (p.2 - p.1)) = some ((AV.osl 0 g 10 0 i), ([⟨g, 10, (List.map Entry.row l), some r⟩] : Heap))) ∧ (Yes (.int .i64 (IntKind.i64.wrap (((l.length : Nat) : Int) + 1))) ([⟨g, 10, (List.map Entry.row l), some r⟩] : Heap) (AV.int .i64 ((l.length + 1 : Nat) : Int))) ∧ (Yes (.int .i64 (IntKind.i64.wrap (((l.length + 1 : Nat) : Int) - ((i : Nat) : Int)))) ([⟨g, 10, (List.map Entry.row l), some r⟩] : Heap) (AV.int .i64 ((l.length + 1 - i : Nat) : Int))) ∧ (Sat Try.prog (X InsEG_ann) (mkF 95 [(0, (AV.osl 0 g 10 0 l.length)), (1, (AV.int .i64 ((i : Nat) : Int))), (2, (AV.sl .clip 10 [(Entry.row x)])), (6, (AV.sl .nil 0 [])), (7, (AV.int .i64 1)), (8, (AV.int .i64 ((l.length : Nat) : Int))), (10, (AV.osl 0 g 10 0 l.length)), (11, (AV.int .i64 ((i : Nat) : Int))), (12, (AV.osl 0 g 10 i (l.length - i))), (13, (AV.sl .clip 10 [(Entry.row x)])), (14, (AV.int .i64 1)), (15, (AV.int .i64 1)), (16, (AV.bool false)), (18, (AV.osl 0 g 10 0 l.length)), (19, (AV.int .i64 ((l.length : Nat) : Int))), (20, (AV.int .i64 ((i : Nat) : Int))), (21, (AV.int .i64 ((l.length : Nat) : Int))), (22, (AV.bool false)), (26, (AV.int .i64 ((l.length : Nat) : Int))), (27, (AV.int .i64 1)), (28, (AV.int .i64 ((l.length + 1 : Nat) : Int))), (29, (AV.osl 0 g 10 0 l.length)), (30, (AV.int .i64 ((r : Nat) : Int))), (31, (AV.bool true)), (32, (AV.osl 0 g 10 0 l.length)), (33, (AV.int .i64 ((i : Nat) : Int))), (34, (AV.osl 0 g 10 0 i)), (35, (AV.int .i64 ((l.length : Nat) : Int))), (36, (AV.int .i64 1)), (37, (AV.int .i64 ((l.length + 1 : Nat) : Int))), (38, (AV.int .i64 ((i : Nat) : Int))), (39, (AV.int .i64 ((l.length + 1 - i : Nat) : Int)))]) ([⟨g, 10, (List.map Entry.row l), some r⟩] : Heap) 1 (opIn Try.f62 9 8) (AV.osl 1 0 10 0 (l.length + 1)) ([⟨g, 10, (List.map Entry.row l), some r⟩, ⟨0, 10, (List.map Entry.row (l.take i) ++ List.replicate (l.length + 1 - i) (List.replicate 10 AV.unk)), none⟩] : Heap)) ∧ (Option.map (fun a => (a, ([⟨g, 10, (List.map Entry.row l), some r⟩, ⟨0, 10, (List.map Entry.row (l.take i) ++ List.replicate (l.length + 1 - i) (List.replicate 10 AV.unk)), none⟩] : Heap))) ((bounds ((i : Nat) : Int) (((l.length + 1) : Nat) : Int) (l.length + 1)).map fun p => AV.osl 1 0 10 (0 + p.1) (p.2 - p.1)) = some ((AV.osl 1 0 10 i ((l.length + 1) - i)), ([⟨g, 10, (List.map Entry.row l), some r⟩, ⟨0, 10, (List.map Entry.row (l.take i) ++ List.replicate (l.length + 1 - i) (List.replicate 10 AV.unk)), none⟩] : Heap))) ∧ (Sat Try.prog (X InsEG_ann) (mkF 95 [(0, (AV.osl 0 g 10 0 l.length)), (1, (AV.int .i64 ((i : Nat) : Int))), (2, (AV.sl .clip 10 [(Entry.row x)])), (6, (AV.sl .nil 0 [])), (7, (AV.int .i64 1)), (8, (AV.int .i64 ((l.length : Nat) : Int))), (9, (AV.osl 1 0 10 0 (l.length + 1))), (10, (AV.osl 0 g 10 0 l.length)), (11, (AV.int .i64 ((i : Nat) : Int))), (12, (AV.osl 0 g 10 i (l.length - i))), (13, (AV.sl .clip 10 [(Entry.row x)])), (14, (AV.int .i64 1)), (15, (AV.int .i64 1)), (16, (AV.bool false)), (18, (AV.osl 0 g 10 0 l.length)), (19, (AV.int .i64 ((l.length : Nat) : Int))), (20, (AV.int .i64 ((i : Nat) : Int))), (21, (AV.int .i64 ((l.length : Nat) : Int))), (22, (AV.bool false)), (26, (AV.int .i64 ((l.length : Nat) : Int))), (27, (AV.int .i64 1)), (28, (AV.int .i64 ((l.length + 1 : Nat) : Int))), (29, (AV.osl 0 g 10 0 l.length)), (30, (AV.int .i64 ((r : Nat) : Int))), (31, (AV.bool true)), (32, (AV.osl 0 g 10 0 l.length)), (33, (AV.int .i64 ((i : Nat) : Int))), (34, (AV.osl 0 g 10 0 i)), (35, (AV.int .i64 ((l.length : Nat) : Int))), (36, (AV.int .i64 1)), (37, (AV.int .i64 ((l.length + 1 : Nat) : Int))), (38, (AV.int .i64 ((i : Nat) : Int))), (39, (AV.int .i64 ((l.length + 1 - i : Nat) : Int))), (40, (AV.osl 1 0 10 0 (l.length + 1))), (41, (AV.osl 1 0 10 0 (l.length + 1))), (42, (AV.int .i64 ((i : Nat) : Int))), (43, (AV.osl 1 0 10 i ((l.length + 1) - i))), (44, (AV.sl .clip 10 [(Entry.row x)]))]) ([⟨g, 10, (List.map Entry.row l), some r⟩, ⟨0, 10, (List.map Entry.row (l.take i) ++ List.replicate (l.length + 1 - i) (List.replicate 10 AV.unk)), none⟩] : Heap) 2 (opIn Try.f62 10 4) (AV.int .i64 1) ([⟨g, 10, (List.map Entry.row l), some r⟩, ⟨0, 10, (List.map Entry.row (l.take i ++ [x]) ++ List.replicate (l.length + 1 - i - 1) (List.replicate 10 AV.unk)), none⟩] : Heap)) ∧ (Yes (.int .i64 (IntKind.i64.wrap (((i : Nat) : Int) + 1))) ([⟨g, 10, (List.map Entry.row l), some r⟩, ⟨0, 10, (List.map Entry.row (l.take i ++ [x]) ++ List.replicate (l.length + 1 - i - 1) (List.replicate 10 AV.unk)), none⟩] : Heap) (AV.int .i64 ((i + 1 : Nat) : Int))) ∧ (Option.map (fun a => (a, ([⟨g, 10, (List.map Entry.row l), some r⟩, ⟨0, 10, (List.map Entry.row (l.take i ++ [x]) ++ List.replicate (l.length + 1 - i - 1) (List.replicate 10 AV.unk)), none⟩] : Heap))) ((bounds ((i + 1 : Nat) : Int) (((l.length + 1) : Nat) : Int) (l.length + 1)).map fun p => AV.osl 1 0 10 (0 + p.1) (p.2 - p.1)) = some ((AV.osl 1 0 10 (i + 1) ((l.length + 1) - (i + 1))), ([⟨g, 10, (List.map Entry.row l), some r⟩, ⟨0, 10, (List.map Entry.row (l.take i ++ [x]) ++ List.replicate (l.length + 1 - i - 1) (List.replicate 10 AV.unk)), none⟩] : Heap))) ∧ (Option.map (fun a => (a, ([⟨g, 10, (List.map Entry.row l), some r⟩, ⟨0, 10, (List.map Entry.row (l.take i ++ [x]) ++ List.replicate (l.length + 1 - i - 1) (List.replicate 10 AV.unk)), none⟩] : Heap))) ((bounds ((i : Nat) : Int) ((l.length : Nat) : Int) l.length).map fun p => AV.osl 0 g 10 (0 + p.1) (p.2 - p.1)) = some ((AV.osl 0 g 10 i (l.length - i)), ([⟨g, 10, (List.map Entry.row l), some r⟩, ⟨0, 10, (List.map Entry.row (l.take i ++ [x]) ++ List.replicate (l.length + 1 - i - 1) (List.replicate 10 AV.unk)), none⟩] : Heap))) ∧ (Sat Try.prog (X InsEG_ann) (mkF 95 [(0, (AV.osl 0 g 10 0 l.length)), (1, (AV.int .i64 ((i : Nat) : Int))), (2, (AV.sl .clip 10 [(Entry.row x)])), (6, (AV.sl .nil 0 [])), (7, (AV.int .i64 1)), (8, (AV.int .i64 ((l.length : Nat) : Int))), (9, (AV.osl 1 0 10 0 (l.length + 1))), (10, (AV.osl 0 g 10 0 l.length)), (11, (AV.int .i64 ((i : Nat) : Int))), (12, (AV.osl 0 g 10 i (l.length - i))), (13, (AV.sl .clip 10 [(Entry.row x)])), (14, (AV.int .i64 1)), (15, (AV.int .i64 1)), (16, (AV.bool false)), (18, (AV.osl 0 g 10 0 l.length)), (19, (AV.int .i64 ((l.length : Nat) : Int))), (20, (AV.int .i64 ((i : Nat) : Int))), (21, (AV.int .i64 ((l.length : Nat) : Int))), (22, (AV.bool false)), (26, (AV.int .i64 ((l.length : Nat) : Int))), (27, (AV.int .i64 1)), (28, (AV.int .i64 ((l.length + 1 : Nat) : Int))), (29, (AV.osl 0 g 10 0 l.length)), (30, (AV.int .i64 ((r : Nat) : Int))), (31, (AV.bool true)), (32, (AV.osl 0 g 10 0 l.length)), (33, (AV.int .i64 ((i : Nat) : Int))), (34, (AV.osl 0 g 10 0 i)), (35, (AV.int .i64 ((l.length : Nat) : Int))), (36, (AV.int .i64 1)), (37, (AV.int .i64 ((l.length + 1 : Nat) : Int))), (38, (AV.int .i64 ((i : Nat) : Int))), (39, (AV.int .i64 ((l.length + 1 - i : Nat) : Int))), (40, (AV.osl 1 0 10 0 (l.length + 1))), (41, (AV.osl 1 0 10 0 (l.length + 1))), (42, (AV.int .i64 ((i : Nat) : Int))), (43, (AV.osl 1 0 10 i ((l.length + 1) - i))), (44, (AV.sl .clip 10 [(Entry.row x)])), (45, (AV.int .i64 1)), (46, (AV.osl 1 0 10 0 (l.length + 1))), (47, (AV.int .i64 ((i : Nat) : Int))), (48, (AV.int .i64 1)), (49, (AV.int .i64 ((i + 1 : Nat) : Int))), (50, (AV.osl 1 0 10 (i + 1) ((l.length + 1) - (i + 1)))), (51, (AV.osl 0 g 10 0 l.length)), (52, (AV.int .i64 ((i : Nat) : Int))), (53, (AV.osl 0 g 10 i (l.length - i)))]) ([⟨g, 10, (List.map Entry.row l), some r⟩, ⟨0, 10, (List.map Entry.row (l.take i ++ [x]) ++ List.replicate (l.length + 1 - i - 1) (List.replicate 10 AV.unk)), none⟩] : Heap) 2 (opIn Try.f62 11 8) (AV.int .i64 (((l.length - i) : Nat) : Int)) ([⟨g, 10, (List.map Entry.row l), some r⟩, ⟨0, 10, (List.map Entry.row (l.take i ++ x :: l.drop i)), none⟩] : Heap)) ∧ ((AV.osl 1 0 10 0 (l.length + 1)), ([⟨g, 10, (List.map Entry.row l), some r⟩, ⟨0, 10, (List.map Entry.row (l.take i ++ x :: l.drop i)), none⟩] : Heap)) = ((AV.osl 1 0 10 0 (l.length + 1)), ([⟨g, 10, (List.map Entry.row l), some r⟩, ⟨0, 10, (List.map Entry.row (l.take i ++ x :: l.drop i)), none⟩] : Heap))) = _) ?_
  refine And.intro (slice_osl (l := i) (h := l.length) (by first | omega | (simp; done) | (simp; omega)) (by first | omega | (simp; done) | (simp; omega)) (by first | omega | (simp; done) | (simp; omega)) (by first | omega | (simp; done) | (simp; omega)) (by first | omega | (simp; done) | (simp; omega)) (by first | omega | (simp; done) | (simp; omega))) ?_
  refine And.intro (Yes.bool (by first | omega | (simp; done) | (simp; omega))) ?_
  refine And.intro (Yes.add (by omega) (by omega) (by omega)) ?_
  refine And.intro (sat_cap (o := (opIn Try.f62 8 4)) (t := 52) (e0 := 42) (ti := { d := .slice 42, size := 1, bytes := 24, zero := [.sl .nil 0 []] }) (id := 0) (g := g) (e := 0) (n := l.length) (k := 10) (r := r) (els := (List.map Entry.row l)) ttOk (by kernel_rfl) (by kernel_rfl) (by kernel_rfl) rfl (by kernel_rfl) (by kernel_rfl) rfl) ?_
  refine And.intro (Yes.bool (by first | omega | (simp; done) | (simp; omega))) ?_
  refine And.intro (slice_osl (l := 0) (h := i) (by first | omega | (simp; done) | (simp; omega)) (by first | omega | (simp; done) | (simp; omega)) (by first | omega | (simp; done) | (simp; omega)) (by first | omega | (simp; done) | (simp; omega)) (by first | omega | (simp; done) | (simp; omega)) (by first | omega | (simp; done) | (simp; omega))) ?_
  refine And.intro (Yes.add (by omega) (by omega) (by omega)) ?_
  refine And.intro (Yes.add (by omega) (by omega) (by omega)) ?_
  refine And.intro (sat_make (o := (opIn Try.f62 9 8)) (t := 52) (e0 := 42) (ti := { d := .slice 42, size := 1, bytes := 24, zero := [.sl .nil 0 []] }) (id := 0) (g := g) (e := 0) (n := i) (t' := 3) (te := { d := .struct [(34, 0), (2, 9)], size := 10, bytes := 96, zero := [.str ⟨#[]⟩, .str ⟨#[]⟩, .int .i64 0, .int .i64 0, .int .i64 0, .int .i64 0, .int .i64 0, .int .i64 0, .bool false, .int .i64 0] }) (ti' := { d := .int .i64, size := 1, bytes := 8, zero := [.int .i64 0] }) (kk := .i64) (kx := .i64) (k := 10) (r := r) (c := l.length + 1 - i) (els := (List.map Entry.row l)) (ys := List.map Entry.row (l.take i)) (els' := (List.map Entry.row (l.take i) ++ List.replicate (l.length + 1 - i) (List.replicate 10 AV.unk))) ttOk (by kernel_rfl) (by kernel_rfl) (by kernel_rfl) rfl (by kernel_rfl) (by kernel_rfl) rfl rfl (by kernel_rfl) (by kernel_rfl) (by simp [rowsIn, List.map_take]; omega) (by first | omega | (simp; done) | (simp; omega)) (by kernel_rfl) (by first | omega | (simp; done) | (simp; omega)) (by decide) (by decide) (by first | omega | (simp; done) | (simp; omega)) (by show _ * 96 ≤ _; omega) (by first | omega | (simp; done) | (simp; omega)) (by first | omega | (simp; done) | (simp; omega)) rfl) ?_
  refine And.intro (slice_osl (l := i) (h := (l.length + 1)) (by first | omega | (simp; done) | (simp; omega)) (by first | omega | (simp; done) | (simp; omega)) (by first | omega | (simp; done) | (simp; omega)) (by first | omega | (simp; done) | (simp; omega)) (by first | omega | (simp; done) | (simp; omega)) (by first | omega | (simp; done) | (simp; omega))) ?_
  refine And.intro (sat_copy (o := (opIn Try.f62 10 4)) (t := 52) (e0 := 42) (ti := { d := .slice 42, size := 1, bytes := 24, zero := [.sl .nil 0 []] }) (id := 1) (g := 0) (e := i) (n := ((l.length + 1) - i)) (t' := 52) (te := { d := .struct [(34, 0), (2, 9)], size := 10, bytes := 96, zero := [.str ⟨#[]⟩, .str ⟨#[]⟩, .int .i64 0, .int .i64 0, .int .i64 0, .int .i64 0, .int .i64 0, .int .i64 0, .bool false, .int .i64 0] }) (k := 10) (els := (List.map Entry.row (l.take i) ++ List.replicate (l.length + 1 - i) (List.replicate 10 AV.unk))) (els' := (List.map Entry.row (l.take i ++ [x]) ++ List.replicate (l.length + 1 - i - 1) (List.replicate 10 AV.unk))) (room := none) (new := [(Entry.row x)]) (s := (AV.sl .clip 10 [(Entry.row x)])) ttOk (by kernel_rfl) (by kernel_rfl) (by kernel_rfl) rfl (by kernel_rfl) rfl (by kernel_rfl) (by kernel_rfl) (by kernel_rfl) (by kernel_rfl) (by first | omega | (simp; done) | (simp; omega)) (by first | omega | (simp; done) | (simp; omega)) (by first | omega | (simp; done) | (simp; omega)) (ins1 Entry.row x _ l (by omega) (by omega)) (rfl) rfl) ?_
  refine And.intro (Yes.add (by omega) (by omega) (by omega)) ?_
  refine And.intro (slice_osl (l := i + 1) (h := (l.length + 1)) (by first | omega | (simp; done) | (simp; omega)) (by first | omega | (simp; done) | (simp; omega)) (by first | omega | (simp; done) | (simp; omega)) (by first | omega | (simp; done) | (simp; omega)) (by first | omega | (simp; done) | (simp; omega)) (by first | omega | (simp; done) | (simp; omega))) ?_
  refine And.intro (slice_osl (l := i) (h := l.length) (by first | omega | (simp; done) | (simp; omega)) (by first | omega | (simp; done) | (simp; omega)) (by first | omega | (simp; done) | (simp; omega)) (by first | omega | (simp; done) | (simp; omega)) (by first | omega | (simp; done) | (simp; omega)) (by first | omega | (simp; done) | (simp; omega))) ?_
  refine And.intro (sat_copy (o := (opIn Try.f62 11 8)) (t := 52) (e0 := 42) (ti := { d := .slice 42, size := 1, bytes := 24, zero := [.sl .nil 0 []] }) (id := 1) (g := 0) (e := (i + 1)) (n := ((l.length + 1) - (i + 1))) (t' := 52) (te := { d := .struct [(34, 0), (2, 9)], size := 10, bytes := 96, zero := [.str ⟨#[]⟩, .str ⟨#[]⟩, .int .i64 0, .int .i64 0, .int .i64 0, .int .i64 0, .int .i64 0, .int .i64 0, .bool false, .int .i64 0] }) (k := 10) (els := (List.map Entry.row (l.take i ++ [x]) ++ List.replicate (l.length + 1 - i - 1) (List.replicate 10 AV.unk))) (els' := (List.map Entry.row (l.take i ++ x :: l.drop i))) (room := none) (new := List.map Entry.row (l.drop i)) (s := (AV.osl 0 g 10 i (l.length - i))) ttOk (by kernel_rfl) (by kernel_rfl) (by kernel_rfl) rfl (by kernel_rfl) rfl (by kernel_rfl) (by kernel_rfl) (by kernel_rfl) (by simp [rowsIn, List.map_drop, List.take_of_length_le] <;> omega) (by first | omega | (simp; done) | (simp; omega)) (by first | omega | (simp; done) | (simp; omega)) (by first | omega | (simp; done) | (simp; omega)) (ins2 Entry.row x _ l (by omega) (by omega)) (by first | omega | (simp; done) | (simp; omega)) rfl) ?_
  rfl
def InsER_ann : Ann := { big := [40, 60], base := 1, fin := some 1 }
set_option maxRecDepth 100000 in
theorem InsER_spec (l : List Entry) (x : Entry) (g i r : Nat) (hi : i < l.length) (hl : l.length < 1048576) (hr : l.length + 1 ≤ r) : ACalls Try.prog 62 [(AV.osl 0 g 10 0 l.length), (AV.int .i64 ((i : Nat) : Int)), (AV.sl .clip 10 [(Entry.row x)])] ([⟨g, 10, (List.map Entry.row l), some r⟩] : Heap) ((AV.osl 0 g 10 0 (l.length + 1)), ([⟨g, 10, (List.map Entry.row (l.take i ++ x :: l.drop i)), some r⟩] : Heap)) := by
  refine spec (fn := Try.f62) (ann := InsER_ann) (t := (.reg [] [] [] (.reg [(2, ((AV.osl 0 g 10 i (l.length - i)), ([⟨g, 10, (List.map Entry.row l), some r⟩] : Heap)))] [] [] (.reg [] [] [] (.reg [] [] [] (.two .nil (.reg [] [] [] (.reg [(2, ((AV.bool false), ([⟨g, 10, (List.map Entry.row l), some r⟩] : Heap)))] [] [] (.two .nil (.reg [(2, ((AV.int .i64 ((l.length + 1 : Nat) : Int)), ([⟨g, 10, (List.map Entry.row l), some r⟩] : Heap))), (4, ((AV.int .i64 ((r : Nat) : Int)), ([⟨g, 10, (List.map Entry.row l), some r⟩] : Heap))), (5, ((AV.bool false), ([⟨g, 10, (List.map Entry.row l), some r⟩] : Heap)))] [] [] (.two .nil (.reg [(3, ((AV.int .i64 ((l.length + 1 : Nat) : Int)), ([⟨g, 10, (List.map Entry.row l), some r⟩] : Heap))), (4, ((AV.osl 0 g 10 0 (l.length + 1)), ([⟨g, 10, (List.map Entry.row l), some r⟩] : Heap)))] [] [] (.reg [(4, ((AV.int .i64 ((i + 1 : Nat) : Int)), ([⟨g, 10, (List.map Entry.row l), some r⟩] : Heap))), (5, ((AV.osl 0 g 10 (i + 1) ((l.length + 1) - (i + 1))), ([⟨g, 10, (List.map Entry.row l), some r⟩] : Heap))), (6, ((AV.bool false), ([⟨g, 10, (List.map Entry.row l), some r⟩] : Heap)))] [] [] (.two (.reg [(3, ((AV.int .i64 ((i + 1 : Nat) : Int)), ([⟨g, 10, (List.map Entry.row l), some r⟩] : Heap))), (4, ((AV.osl 0 g 10 (i + 1) ((l.length + 1) - (i + 1))), ([⟨g, 10, (List.map Entry.row l), some r⟩] : Heap))), (7, ((AV.osl 0 g 10 i ((l.length + 1) - i)), ([⟨g, 10, (List.map Entry.row l), some r⟩] : Heap))), (8, ((AV.int .i64 ((((l.length + 1) - (i + 1)) : Nat) : Int)), ([⟨g, 10, (List.map Entry.row (l.take (i + 1) ++ l.drop i)), some r⟩] : Heap)))] [] [] (.reg [(2, ((AV.osl 0 g 10 i ((l.length + 1) - i)), ([⟨g, 10, (List.map Entry.row (l.take (i + 1) ++ l.drop i)), some r⟩] : Heap))), (4, ((AV.int .i64 1), ([⟨g, 10, (List.map Entry.row (l.take i ++ x :: l.drop i)), some r⟩] : Heap)))] [] [] (.reg [] [] [] .nil))) .nil)))))))))))))) (Nat.le_of_ble_eq_true (by kernel_rfl)) ⟨Try.func62, by kernel_rfl, by kernel_rfl, by kernel_rfl⟩ ?_
  refine Eq.mp (by kernel_rfl : ((Option.map (fun a => (a, ([⟨g, 10, (List.map Entry.row l), some r⟩] : Heap))) ((bounds ((i : Nat) : Int) ((l.length : Nat) : Int) l.length).map fun p => AV.osl 0 g 10 (0 + p.1) (p.2 - p.1)) = some ((AV.osl 0 g 10 i (l.length - i)), ([⟨g, 10, (List.map Entry.row l), some r⟩] : Heap))) ∧ (Yes (AV.bool (((i : Nat) : Int) == ((l.length : Nat) : Int))) ([⟨g, 10, (List.map Entry.row l), some r⟩] : Heap) (AV.bool false)) ∧ (Yes (.int .i64 (IntKind.i64.wrap (((l.length : Nat) : Int) + 1))) ([⟨g, 10, (List.map Entry.row l), some r⟩] : Heap) (AV.int .i64 ((l.length + 1 : Nat) : Int))) ∧ (Sat Try.prog (X InsER_ann) (mkF 95 [(0, (AV.osl 0 g 10 0 l.length)), (1, (AV.int .i64 ((i : Nat) : Int))), (2, (AV.sl .clip 10 [(Entry.row x)])), (6, (AV.sl .nil 0 [])), (7, (AV.int .i64 1)), (8, (AV.int .i64 ((l.length : Nat) : Int))), (10, (AV.osl 0 g 10 0 l.length)), (11, (AV.int .i64 ((i : Nat) : Int))), (12, (AV.osl 0 g 10 i (l.length - i))), (13, (AV.sl .clip 10 [(Entry.row x)])), (14, (AV.int .i64 1)), (15, (AV.int .i64 1)), (16, (AV.bool false)), (18, (AV.osl 0 g 10 0 l.length)), (19, (AV.int .i64 ((l.length : Nat) : Int))), (20, (AV.int .i64 ((i : Nat) : Int))), (21, (AV.int .i64 ((l.length : Nat) : Int))), (22, (AV.bool false)), (26, (AV.int .i64 ((l.length : Nat) : Int))), (27, (AV.int .i64 1)), (28, (AV.int .i64 ((l.length + 1 : Nat) : Int))), (29, (AV.osl 0 g 10 0 l.length))]) ([⟨g, 10, (List.map Entry.row l), some r⟩] : Heap) 1 (opIn Try.f62 8 4) (AV.int .i64 ((r : Nat) : Int)) ([⟨g, 10, (List.map Entry.row l), some r⟩] : Heap)) ∧ (Yes (AV.bool (decide (((l.length + 1 : Nat) : Int) > ((r : Nat) : Int)))) ([⟨g, 10, (List.map Entry.row l), some r⟩] : Heap) (AV.bool false)) ∧ (Yes (.int .i64 (IntKind.i64.wrap (((l.length : Nat) : Int) + 1))) ([⟨g, 10, (List.map Entry.row l), some r⟩] : Heap) (AV.int .i64 ((l.length + 1 : Nat) : Int))) ∧ (Sat Try.prog (X InsER_ann) (mkF 95 [(0, (AV.osl 0 g 10 0 l.length)), (1, (AV.int .i64 ((i : Nat) : Int))), (2, (AV.sl .clip 10 [(Entry.row x)])), (6, (AV.sl .nil 0 [])), (7, (AV.int .i64 1)), (8, (AV.int .i64 ((l.length : Nat) : Int))), (10, (AV.osl 0 g 10 0 l.length)), (11, (AV.int .i64 ((i : Nat) : Int))), (12, (AV.osl 0 g 10 i (l.length - i))), (13, (AV.sl .clip 10 [(Entry.row x)])), (14, (AV.int .i64 1)), (15, (AV.int .i64 1)), (16, (AV.bool false)), (18, (AV.osl 0 g 10 0 l.length)), (19, (AV.int .i64 ((l.length : Nat) : Int))), (20, (AV.int .i64 ((i : Nat) : Int))), (21, (AV.int .i64 ((l.length : Nat) : Int))), (22, (AV.bool false)), (26, (AV.int .i64 ((l.length : Nat) : Int))), (27, (AV.int .i64 1)), (28, (AV.int .i64 ((l.length + 1 : Nat) : Int))), (29, (AV.osl 0 g 10 0 l.length)), (30, (AV.int .i64 ((r : Nat) : Int))), (31, (AV.bool false)), (56, (AV.osl 0 g 10 0 l.length)), (57, (AV.int .i64 ((l.length : Nat) : Int))), (58, (AV.int .i64 1)), (59, (AV.int .i64 ((l.length + 1 : Nat) : Int)))]) ([⟨g, 10, (List.map Entry.row l), some r⟩] : Heap) 1 (opIn Try.f62 13 4) (AV.osl 0 g 10 0 (l.length + 1)) ([⟨g, 10, (List.map Entry.row l), some r⟩] : Heap)) ∧ (Yes (.int .i64 (IntKind.i64.wrap (((i : Nat) : Int) + 1))) ([⟨g, 10, (List.map Entry.row l), some r⟩] : Heap) (AV.int .i64 ((i + 1 : Nat) : Int))) ∧ (Option.map (fun a => (a, ([⟨g, 10, (List.map Entry.row l), some r⟩] : Heap))) ((bounds ((i + 1 : Nat) : Int) (((l.length + 1) : Nat) : Int) (l.length + 1)).map fun p => AV.osl 0 g 10 (0 + p.1) (p.2 - p.1)) = some ((AV.osl 0 g 10 (i + 1) ((l.length + 1) - (i + 1))), ([⟨g, 10, (List.map Entry.row l), some r⟩] : Heap))) ∧ (ACalls Try.prog 102 [(AV.sl .clip 10 [(Entry.row x)]), (AV.osl 0 g 10 (i + 1) ((l.length + 1) - (i + 1)))] ([⟨g, 10, (List.map Entry.row l), some r⟩] : Heap) ((AV.bool false), ([⟨g, 10, (List.map Entry.row l), some r⟩] : Heap))) ∧ (Yes (.int .i64 (IntKind.i64.wrap (((i : Nat) : Int) + 1))) ([⟨g, 10, (List.map Entry.row l), some r⟩] : Heap) (AV.int .i64 ((i + 1 : Nat) : Int))) ∧ (Option.map (fun a => (a, ([⟨g, 10, (List.map Entry.row l), some r⟩] : Heap))) ((bounds ((i + 1 : Nat) : Int) (((l.length + 1) : Nat) : Int) (l.length + 1)).map fun p => AV.osl 0 g 10 (0 + p.1) (p.2 - p.1)) = some ((AV.osl 0 g 10 (i + 1) ((l.length + 1) - (i + 1))), ([⟨g, 10, (List.map Entry.row l), some r⟩] : Heap))) ∧ (Option.map (fun a => (a, ([⟨g, 10, (List.map Entry.row l), some r⟩] : Heap))) ((bounds ((i : Nat) : Int) (((l.length + 1) : Nat) : Int) (l.length + 1)).map fun p => AV.osl 0 g 10 (0 + p.1) (p.2 - p.1)) = some ((AV.osl 0 g 10 i ((l.length + 1) - i)), ([⟨g, 10, (List.map Entry.row l), some r⟩] : Heap))) ∧ (Sat Try.prog (X InsER_ann) (mkF 95 [(0, (AV.osl 0 g 10 0 (l.length + 1))), (1, (AV.int .i64 ((i : Nat) : Int))), (2, (AV.sl .clip 10 [(Entry.row x)])), (6, (AV.sl .nil 0 [])), (7, (AV.int .i64 1)), (8, (AV.int .i64 ((l.length : Nat) : Int))), (10, (AV.osl 0 g 10 0 l.length)), (11, (AV.int .i64 ((i : Nat) : Int))), (12, (AV.osl 0 g 10 i (l.length - i))), (13, (AV.sl .clip 10 [(Entry.row x)])), (14, (AV.int .i64 1)), (15, (AV.int .i64 1)), (16, (AV.bool false)), (18, (AV.osl 0 g 10 0 l.length)), (19, (AV.int .i64 ((l.length : Nat) : Int))), (20, (AV.int .i64 ((i : Nat) : Int))), (21, (AV.int .i64 ((l.length : Nat) : Int))), (22, (AV.bool false)), (26, (AV.int .i64 ((l.length : Nat) : Int))), (27, (AV.int .i64 1)), (28, (AV.int .i64 ((l.length + 1 : Nat) : Int))), (29, (AV.osl 0 g 10 0 l.length)), (30, (AV.int .i64 ((r : Nat) : Int))), (31, (AV.bool false)), (56, (AV.osl 0 g 10 0 l.length)), (57, (AV.int .i64 ((l.length : Nat) : Int))), (58, (AV.int .i64 1)), (59, (AV.int .i64 ((l.length + 1 : Nat) : Int))), (60, (AV.osl 0 g 10 0 (l.length + 1))), (61, (AV.sl .clip 10 [(Entry.row x)])), (62, (AV.osl 0 g 10 0 (l.length + 1))), (63, (AV.int .i64 ((i : Nat) : Int))), (64, (AV.int .i64 1)), (65, (AV.int .i64 ((i + 1 : Nat) : Int))), (66, (AV.osl 0 g 10 (i + 1) ((l.length + 1) - (i + 1)))), (67, (AV.bool false)), (68, (AV.bool true)), (69, (AV.osl 0 g 10 0 (l.length + 1))), (70, (AV.int .i64 ((i : Nat) : Int))), (71, (AV.int .i64 1)), (72, (AV.int .i64 ((i + 1 : Nat) : Int))), (73, (AV.osl 0 g 10 (i + 1) ((l.length + 1) - (i + 1)))), (74, (AV.osl 0 g 10 0 (l.length + 1))), (75, (AV.int .i64 ((i : Nat) : Int))), (76, (AV.osl 0 g 10 i ((l.length + 1) - i)))]) ([⟨g, 10, (List.map Entry.row l), some r⟩] : Heap) 1 (opIn Try.f62 15 8) (AV.int .i64 ((((l.length + 1) - (i + 1)) : Nat) : Int)) ([⟨g, 10, (List.map Entry.row (l.take (i + 1) ++ l.drop i)), some r⟩] : Heap)) ∧ (Option.map (fun a => (a, ([⟨g, 10, (List.map Entry.row (l.take (i + 1) ++ l.drop i)), some r⟩] : Heap))) ((bounds ((i : Nat) : Int) (((l.length + 1) : Nat) : Int) (l.length + 1)).map fun p => AV.osl 0 g 10 (0 + p.1) (p.2 - p.1)) = some ((AV.osl 0 g 10 i ((l.length + 1) - i)), ([⟨g, 10, (List.map Entry.row (l.take (i + 1) ++ l.drop i)), some r⟩] : Heap))) ∧ (Sat Try.prog (X InsER_ann) (mkF 95 [(0, (AV.osl 0 g 10 0 (l.length + 1))), (1, (AV.int .i64 ((i : Nat) : Int))), (2, (AV.sl .clip 10 [(Entry.row x)])), (6, (AV.sl .nil 0 [])), (7, (AV.int .i64 1)), (8, (AV.int .i64 ((l.length : Nat) : Int))), (10, (AV.osl 0 g 10 0 l.length)), (11, (AV.int .i64 ((i : Nat) : Int))), (12, (AV.osl 0 g 10 i (l.length - i))), (13, (AV.sl .clip 10 [(Entry.row x)])), (14, (AV.int .i64 1)), (15, (AV.int .i64 1)), (16, (AV.bool false)), (18, (AV.osl 0 g 10 0 l.length)), (19, (AV.int .i64 ((l.length : Nat) : Int))), (20, (AV.int .i64 ((i : Nat) : Int))), (21, (AV.int .i64 ((l.length : Nat) : Int))), (22, (AV.bool false)), (26, (AV.int .i64 ((l.length : Nat) : Int))), (27, (AV.int .i64 1)), (28, (AV.int .i64 ((l.length + 1 : Nat) : Int))), (29, (AV.osl 0 g 10 0 l.length)), (30, (AV.int .i64 ((r : Nat) : Int))), (31, (AV.bool false)), (56, (AV.osl 0 g 10 0 l.length)), (57, (AV.int .i64 ((l.length : Nat) : Int))), (58, (AV.int .i64 1)), (59, (AV.int .i64 ((l.length + 1 : Nat) : Int))), (60, (AV.osl 0 g 10 0 (l.length + 1))), (61, (AV.sl .clip 10 [(Entry.row x)])), (62, (AV.osl 0 g 10 0 (l.length + 1))), (63, (AV.int .i64 ((i : Nat) : Int))), (64, (AV.int .i64 1)), (65, (AV.int .i64 ((i + 1 : Nat) : Int))), (66, (AV.osl 0 g 10 (i + 1) ((l.length + 1) - (i + 1)))), (67, (AV.bool false)), (68, (AV.bool true)), (69, (AV.osl 0 g 10 0 (l.length + 1))), (70, (AV.int .i64 ((i : Nat) : Int))), (71, (AV.int .i64 1)), (72, (AV.int .i64 ((i + 1 : Nat) : Int))), (73, (AV.osl 0 g 10 (i + 1) ((l.length + 1) - (i + 1)))), (74, (AV.osl 0 g 10 0 (l.length + 1))), (75, (AV.int .i64 ((i : Nat) : Int))), (76, (AV.osl 0 g 10 i ((l.length + 1) - i))), (77, (AV.int .i64 ((((l.length + 1) - (i + 1)) : Nat) : Int))), (78, (AV.osl 0 g 10 0 (l.length + 1))), (79, (AV.int .i64 ((i : Nat) : Int))), (80, (AV.osl 0 g 10 i ((l.length + 1) - i))), (81, (AV.sl .clip 10 [(Entry.row x)]))]) ([⟨g, 10, (List.map Entry.row (l.take (i + 1) ++ l.drop i)), some r⟩] : Heap) 1 (opIn Try.f62 16 4) (AV.int .i64 1) ([⟨g, 10, (List.map Entry.row (l.take i ++ x :: l.drop i)), some r⟩] : Heap)) ∧ (AV.bdd 1 (AV.osl 0 g 10 0 (l.length + 1)) = true ∧ obsB 1 ([⟨g, 10, (List.map Entry.row (l.take i ++ x :: l.drop i)), some r⟩] : Heap) = true) ∧ ((AV.osl 0 g 10 0 (l.length + 1)), ([⟨g, 10, (List.map Entry.row (l.take i ++ x :: l.drop i)), some r⟩] : Heap)) = ((AV.osl 0 g 10 0 (l.length + 1)), ([⟨g, 10, (List.map Entry.row (l.take i ++ x :: l.drop i)), some r⟩] : Heap))) = _) ?_
  refine And.intro (slice_osl (l := i) (h := l.length) (by first | omega | (simp; done) | (simp; omega)) (by first | omega | (simp; done) | (simp; omega)) (by first | omega | (simp; done) | (simp; omega)) (by first | omega | (simp; done) | (simp; omega)) (by first | omega | (simp; done) | (simp; omega)) (by first | omega | (simp; done) | (simp; omega))) ?_
  refine And.intro (Yes.bool (by first | omega | (simp; done) | (simp; omega))) ?_
  refine And.intro (Yes.add (by omega) (by omega) (by omega)) ?_
  refine And.intro (sat_cap (o := (opIn Try.f62 8 4)) (t := 52) (e0 := 42) (ti := { d := .slice 42, size := 1, bytes := 24, zero := [.sl .nil 0 []] }) (id := 0) (g := g) (e := 0) (n := l.length) (k := 10) (r := r) (els := (List.map Entry.row l)) ttOk (by kernel_rfl) (by kernel_rfl) (by kernel_rfl) rfl (by kernel_rfl) (by kernel_rfl) rfl) ?_
  refine And.intro (Yes.bool (by first | omega | (simp; done) | (simp; omega))) ?_
  refine And.intro (Yes.add (by omega) (by omega) (by omega)) ?_
  refine And.intro (sat_slice (o := (opIn Try.f62 13 4)) (t := 52) (e0 := 42) (ti := { d := .slice 42, size := 1, bytes := 24, zero := [.sl .nil 0 []] }) (id := 0) (g := g) (e := 0) (n := l.length) (te := { d := .struct [(34, 0), (2, 9)], size := 10, bytes := 96, zero := [.str ⟨#[]⟩, .str ⟨#[]⟩, .int .i64 0, .int .i64 0, .int .i64 0, .int .i64 0, .int .i64 0, .int .i64 0, .bool false, .int .i64 0] }) (k := 10) (r := r) (l := 0) (h := l.length + 1) (els := (List.map Entry.row l)) ttOk (by kernel_rfl) (by kernel_rfl) (by kernel_rfl) rfl (by kernel_rfl) rfl (by kernel_rfl) (by kernel_rfl) (by kernel_rfl) (by kernel_rfl) (by first | omega | (simp; done) | (simp; omega)) (by first | omega | (simp; done) | (simp; omega)) (by first | omega | (simp; done) | (simp; omega)) (by first | omega | (simp; done) | (simp; omega))) ?_
  refine And.intro (Yes.add (by omega) (by omega) (by omega)) ?_
  refine And.intro (slice_osl (l := i + 1) (h := (l.length + 1)) (by first | omega | (simp; done) | (simp; omega)) (by first | omega | (simp; done) | (simp; omega)) (by first | omega | (simp; done) | (simp; omega)) (by first | omega | (simp; done) | (simp; omega)) (by first | omega | (simp; done) | (simp; omega)) (by first | omega | (simp; done) | (simp; omega))) ?_
  refine And.intro (acalls_overlaps (tS := 52) (tR := 4) (e0 := 42) (o := ⟨g, 10, (List.map Entry.row l), some r⟩) (hcInsE) (tok_slice ttOk (ti := { d := .slice 42, size := 1, bytes := 24, zero := [.sl .nil 0 []] }) (by kernel_rfl) rfl) (fun w => (ttOk 42 { d := .struct [(34, 0), (2, 9)], size := 10, bytes := 96, zero := [.str ⟨#[]⟩, .str ⟨#[]⟩, .int .i64 0, .int .i64 0, .int .i64 0, .int .i64 0, .int .i64 0, .int .i64 0, .bool false, .int .i64 0] } (by kernel_rfl)).sizeOf w) (by decide) (by kernel_rfl) rfl) ?_
  refine And.intro (Yes.add (by omega) (by omega) (by omega)) ?_
  refine And.intro (slice_osl (l := i + 1) (h := (l.length + 1)) (by first | omega | (simp; done) | (simp; omega)) (by first | omega | (simp; done) | (simp; omega)) (by first | omega | (simp; done) | (simp; omega)) (by first | omega | (simp; done) | (simp; omega)) (by first | omega | (simp; done) | (simp; omega)) (by first | omega | (simp; done) | (simp; omega))) ?_
  refine And.intro (slice_osl (l := i) (h := (l.length + 1)) (by first | omega | (simp; done) | (simp; omega)) (by first | omega | (simp; done) | (simp; omega)) (by first | omega | (simp; done) | (simp; omega)) (by first | omega | (simp; done) | (simp; omega)) (by first | omega | (simp; done) | (simp; omega)) (by first | omega | (simp; done) | (simp; omega))) ?_
  refine And.intro (sat_copyN (o := (opIn Try.f62 15 8)) (t := 52) (e0 := 42) (ti := { d := .slice 42, size := 1, bytes := 24, zero := [.sl .nil 0 []] }) (id := 0) (g := g) (e := (i + 1)) (n := ((l.length + 1) - (i + 1))) (t' := 52) (te := { d := .struct [(34, 0), (2, 9)], size := 10, bytes := 96, zero := [.str ⟨#[]⟩, .str ⟨#[]⟩, .int .i64 0, .int .i64 0, .int .i64 0, .int .i64 0, .int .i64 0, .int .i64 0, .bool false, .int .i64 0] }) (k := 10) (els := (List.map Entry.row l)) (els' := (List.map Entry.row (l.take (i + 1) ++ l.drop i))) (room := some r) (id2 := 0) (g2 := g) (e2 := i) (n2 := ((l.length + 1) - i)) (els2 := (List.map Entry.row l)) (room2 := some r) ttOk (by kernel_rfl) (by kernel_rfl) (by kernel_rfl) rfl (by kernel_rfl) rfl (by kernel_rfl) (by kernel_rfl) (by kernel_rfl) (by kernel_rfl) (by first | omega | (simp; done) | (simp; omega)) (by first | omega | (simp; done) | (simp; omega)) (by first | omega | (simp; done) | (simp; omega)) (by first | omega | (simp; done) | (simp; omega)) (by rw [show l.length + 1 - (i + 1) = l.length - i by omega]; exact ins3 Entry.row l hi) rfl rfl) ?_
  refine And.intro (slice_osl (l := i) (h := (l.length + 1)) (by first | omega | (simp; done) | (simp; omega)) (by first | omega | (simp; done) | (simp; omega)) (by first | omega | (simp; done) | (simp; omega)) (by first | omega | (simp; done) | (simp; omega)) (by first | omega | (simp; done) | (simp; omega)) (by first | omega | (simp; done) | (simp; omega))) ?_
  refine And.intro (sat_copy (o := (opIn Try.f62 16 4)) (t := 52) (e0 := 42) (ti := { d := .slice 42, size := 1, bytes := 24, zero := [.sl .nil 0 []] }) (id := 0) (g := g) (e := i) (n := ((l.length + 1) - i)) (t' := 52) (te := { d := .struct [(34, 0), (2, 9)], size := 10, bytes := 96, zero := [.str ⟨#[]⟩, .str ⟨#[]⟩, .int .i64 0, .int .i64 0, .int .i64 0, .int .i64 0, .int .i64 0, .int .i64 0, .bool false, .int .i64 0] }) (k := 10) (els := (List.map Entry.row (l.take (i + 1) ++ l.drop i))) (els' := (List.map Entry.row (l.take i ++ x :: l.drop i))) (room := some r) (new := [(Entry.row x)]) (s := (AV.sl .clip 10 [(Entry.row x)])) ttOk (by kernel_rfl) (by kernel_rfl) (by kernel_rfl) rfl (by kernel_rfl) rfl (by kernel_rfl) (by kernel_rfl) (by kernel_rfl) (by kernel_rfl) (by first | omega | (simp; done) | (simp; omega)) (by first | omega | (simp; done) | (simp; omega)) (by first | omega | (simp; done) | (simp; omega)) (ins4 Entry.row x l hi) (rfl) rfl) ?_
  refine And.intro (by first | (simp [obsB, AV.bddss, AV.bdds, AV.bdd]; done) | (simp [obsB, AV.bddss, AV.bdds, AV.bdd, -List.map_append]; done) | simp [obsB, AV.bddss, AV.bdds, AV.bdd, -List.map_append, -List.map_set, -List.map_take, -List.map_drop, -List.map_cons, -List.map_map]) ?_
  rfl
theorem InsE_spec (l : List Entry) (x : Entry) (g i n : Nat) (hn : n = l.length) (hi : i ≤ l.length) (hl : l.length < 1048576) : ACalls Try.prog 62 [(AV.osl 0 g 10 0 n), (AV.int .i64 ((i : Nat) : Int)), (AV.sl .clip 10 [(Entry.row x)])] ([⟨g, 10, (List.map Entry.row l), none⟩] : Heap) ((AV.osl 0 (g + 1) 10 0 (n + 1)), ([⟨(g + 1), 10, (List.map Entry.row (l.take i ++ x :: l.drop i)), none⟩] : Heap)) := by
  subst hn
  exact ACalls.insert Entry.rows_bdd hi (InsEE_spec l x g hl) (fun h r hr => InsEG_spec l x g i r h hl hr) (fun h r hr => InsER_spec l x g i r h hl hr)
theorem InsE_at (l : List Entry) (x : Entry) (g i n : Nat) (hn : n = l.length) (hi : i ≤ l.length) (hl : l.length < 1048576) (H : Heap) : ACalls Try.prog 62 [(AV.osl 0 g 10 0 n), (AV.int .i64 ((i : Nat) : Int)), (AV.sl .clip 10 [(Entry.row x)])] (([⟨g, 10, (List.map Entry.row l), none⟩] : Heap) ++ H) ((AV.osl 0 (g + 1) 10 0 (n + 1)), ([⟨(g + 1), 10, (List.map Entry.row (l.take i ++ x :: l.drop i)), none⟩] : Heap) ++ H) := (InsE_spec l x g i n hn hi hl).ext (by kernel_rfl) (by kernel_rfl) (by first | (simp [obsB, AV.bddss, AV.bdds, AV.bdd]; done) | (simp [obsB, AV.bddss, AV.bdds, AV.bdd, -List.map_append]; done) | simp [obsB, AV.bddss, AV.bdds, AV.bdd, -List.map_append, -List.map_set, -List.map_take, -List.map_drop, -List.map_cons, -List.map_map]) (by first | (simp [obsB, AV.bddss, AV.bdds, AV.bdd]; done) | (simp [obsB, AV.bddss, AV.bdds, AV.bdd, -List.map_append]; done) | simp [obsB, AV.bddss, AV.bdds, AV.bdd, -List.map_append, -List.map_set, -List.map_take, -List.map_drop, -List.map_cons, -List.map_map]) (by kernel_rfl) H
def DelE0_ann : Ann := { big := [13, 31], base := 1 }
set_option maxRecDepth 100000 in
theorem DelE0_spec (l : List Entry) (g i : Nat) (hi : i < l.length) (hl : l.length < 1048576) : ACalls Try.prog 61 [(AV.osl 0 g 10 0 l.length), (AV.int .i64 ((i : Nat) : Int)), (AV.int .i64 ((i + 1 : Nat) : Int))] ([⟨g, 10, (List.map Entry.row l), none⟩] : Heap) ((AV.osl 0 g 10 0 (l.length - 1)), ([⟨g, 10, (List.map Entry.row (l.take i ++ l.drop (i + 1)) ++ [(List.replicate 10 AV.unk)]), none⟩] : Heap)) := by
  refine spec (fn := Try.f61) (ann := DelE0_ann) (t := (.reg [] [] [] (.reg [(5, (AV.unk, ([⟨g, 10, (List.map Entry.row l), none⟩] : Heap)))] [] [] (.reg [(2, ((AV.bool false), ([⟨g, 10, (List.map Entry.row l), none⟩] : Heap)))] [] [] (.two .nil (.reg [] [] [] (.reg [(2, ((AV.osl 0 g 10 0 i), ([⟨g, 10, (List.map Entry.row l), none⟩] : Heap))), (5, ((AV.osl 0 g 10 (i + 1) (l.length - (i + 1))), ([⟨g, 10, (List.map Entry.row l), none⟩] : Heap))), (6, ((AV.osl 0 g 10 0 (l.length - 1)), ([⟨g, 10, (List.map Entry.row (l.take i ++ l.drop (i + 1) ++ l.drop (l.length - 1))), none⟩] : Heap)))] [] [] (.reg [(4, ((AV.osl 0 g 10 (l.length - 1) 1), ([⟨g, 10, (List.map Entry.row (l.take i ++ l.drop (i + 1) ++ l.drop (l.length - 1))), none⟩] : Heap))), (5, (AV.unk, ([⟨g, 10, (List.map Entry.row (l.take i ++ l.drop (i + 1)) ++ [(List.replicate 10 AV.unk)]), none⟩] : Heap)))] [] [] (.reg [] [] [] .nil))))))))) (Nat.le_of_ble_eq_true (by kernel_rfl)) ⟨Try.func61, by kernel_rfl, by kernel_rfl, by kernel_rfl⟩ ?_
  refine Eq.mp (by kernel_rfl : ((Sat Try.prog (X DelE0_ann) (mkF 33 [(0, (AV.osl 0 g 10 0 l.length)), (1, (AV.int .i64 ((i : Nat) : Int))), (2, (AV.int .i64 ((i + 1 : Nat) : Int))), (6, (AV.sl .nil 0 [])), (8, (AV.osl 0 g 10 0 l.length)), (9, (AV.int .i64 ((i : Nat) : Int))), (10, (AV.int .i64 ((i + 1 : Nat) : Int))), (11, (AV.osl 0 g 10 0 l.length)), (12, (AV.int .i64 ((l.length : Nat) : Int)))]) ([⟨g, 10, (List.map Entry.row l), none⟩] : Heap) 1 (opIn Try.f61 1 5) AV.unk ([⟨g, 10, (List.map Entry.row l), none⟩] : Heap)) ∧ (Yes (AV.bool (((i : Nat) : Int) == ((i + 1 : Nat) : Int))) ([⟨g, 10, (List.map Entry.row l), none⟩] : Heap) (AV.bool false)) ∧ (Option.map (fun a => (a, ([⟨g, 10, (List.map Entry.row l), none⟩] : Heap))) ((bounds 0 ((i : Nat) : Int) l.length).map fun p => AV.osl 0 g 10 (0 + p.1) (p.2 - p.1)) = some ((AV.osl 0 g 10 0 i), ([⟨g, 10, (List.map Entry.row l), none⟩] : Heap))) ∧ (Option.map (fun a => (a, ([⟨g, 10, (List.map Entry.row l), none⟩] : Heap))) ((bounds ((i + 1 : Nat) : Int) ((l.length : Nat) : Int) l.length).map fun p => AV.osl 0 g 10 (0 + p.1) (p.2 - p.1)) = some ((AV.osl 0 g 10 (i + 1) (l.length - (i + 1))), ([⟨g, 10, (List.map Entry.row l), none⟩] : Heap))) ∧ (evAppend tt ([⟨g, 10, (List.map Entry.row l), none⟩] : Heap) 52 (AV.osl 0 g 10 0 i) (AV.osl 0 g 10 (i + 1) (l.length - (i + 1))) = some ((AV.osl 0 g 10 0 (l.length - 1)), ([⟨g, 10, (List.map Entry.row (l.take i ++ l.drop (i + 1) ++ l.drop (l.length - 1))), none⟩] : Heap))) ∧ (Sat Try.prog (X DelE0_ann) (mkF 33 [(0, (AV.osl 0 g 10 0 (l.length - 1))), (1, (AV.int .i64 ((i : Nat) : Int))), (2, (AV.int .i64 ((i + 1 : Nat) : Int))), (6, (AV.sl .nil 0 [])), (7, (AV.int .i64 ((l.length : Nat) : Int))), (8, (AV.osl 0 g 10 0 l.length)), (9, (AV.int .i64 ((i : Nat) : Int))), (10, (AV.int .i64 ((i + 1 : Nat) : Int))), (11, (AV.osl 0 g 10 0 l.length)), (12, (AV.int .i64 ((l.length : Nat) : Int))), (13, AV.unk), (14, (AV.int .i64 ((i : Nat) : Int))), (15, (AV.int .i64 ((i + 1 : Nat) : Int))), (16, (AV.bool false)), (18, (AV.osl 0 g 10 0 l.length)), (19, (AV.int .i64 ((l.length : Nat) : Int))), (20, (AV.osl 0 g 10 0 l.length)), (21, (AV.int .i64 ((i : Nat) : Int))), (22, (AV.osl 0 g 10 0 i)), (23, (AV.osl 0 g 10 0 l.length)), (24, (AV.int .i64 ((i + 1 : Nat) : Int))), (25, (AV.osl 0 g 10 (i + 1) (l.length - (i + 1)))), (26, (AV.osl 0 g 10 0 (l.length - 1))), (27, (AV.osl 0 g 10 0 (l.length - 1))), (28, (AV.osl 0 g 10 0 (l.length - 1))), (29, (AV.int .i64 (((l.length - 1) : Nat) : Int))), (30, (AV.int .i64 ((l.length : Nat) : Int)))]) ([⟨g, 10, (List.map Entry.row (l.take i ++ l.drop (i + 1) ++ l.drop (l.length - 1))), none⟩] : Heap) 1 (opIn Try.f61 6 4) (AV.osl 0 g 10 (l.length - 1) 1) ([⟨g, 10, (List.map Entry.row (l.take i ++ l.drop (i + 1) ++ l.drop (l.length - 1))), none⟩] : Heap)) ∧ (Sat Try.prog (X DelE0_ann) (mkF 33 [(0, (AV.osl 0 g 10 0 (l.length - 1))), (1, (AV.int .i64 ((i : Nat) : Int))), (2, (AV.int .i64 ((i + 1 : Nat) : Int))), (6, (AV.sl .nil 0 [])), (7, (AV.int .i64 ((l.length : Nat) : Int))), (8, (AV.osl 0 g 10 0 l.length)), (9, (AV.int .i64 ((i : Nat) : Int))), (10, (AV.int .i64 ((i + 1 : Nat) : Int))), (11, (AV.osl 0 g 10 0 l.length)), (12, (AV.int .i64 ((l.length : Nat) : Int))), (13, AV.unk), (14, (AV.int .i64 ((i : Nat) : Int))), (15, (AV.int .i64 ((i + 1 : Nat) : Int))), (16, (AV.bool false)), (18, (AV.osl 0 g 10 0 l.length)), (19, (AV.int .i64 ((l.length : Nat) : Int))), (20, (AV.osl 0 g 10 0 l.length)), (21, (AV.int .i64 ((i : Nat) : Int))), (22, (AV.osl 0 g 10 0 i)), (23, (AV.osl 0 g 10 0 l.length)), (24, (AV.int .i64 ((i + 1 : Nat) : Int))), (25, (AV.osl 0 g 10 (i + 1) (l.length - (i + 1)))), (26, (AV.osl 0 g 10 0 (l.length - 1))), (27, (AV.osl 0 g 10 0 (l.length - 1))), (28, (AV.osl 0 g 10 0 (l.length - 1))), (29, (AV.int .i64 (((l.length - 1) : Nat) : Int))), (30, (AV.int .i64 ((l.length : Nat) : Int))), (31, (AV.osl 0 g 10 (l.length - 1) 1))]) ([⟨g, 10, (List.map Entry.row (l.take i ++ l.drop (i + 1) ++ l.drop (l.length - 1))), none⟩] : Heap) 1 (opIn Try.f61 6 5) AV.unk ([⟨g, 10, (List.map Entry.row (l.take i ++ l.drop (i + 1)) ++ [(List.replicate 10 AV.unk)]), none⟩] : Heap)) ∧ ((AV.osl 0 g 10 0 (l.length - 1)), ([⟨g, 10, (List.map Entry.row (l.take i ++ l.drop (i + 1)) ++ [(List.replicate 10 AV.unk)]), none⟩] : Heap)) = ((AV.osl 0 g 10 0 (l.length - 1)), ([⟨g, 10, (List.map Entry.row (l.take i ++ l.drop (i + 1)) ++ [(List.replicate 10 AV.unk)]), none⟩] : Heap))) = _) ?_
  refine And.intro (sat_slice3 (o := (opIn Try.f61 1 5)) (t := 52) (e0 := 42) (ti := { d := .slice 42, size := 1, bytes := 24, zero := [.sl .nil 0 []] }) (id := 0) (g := g) (e := 0) (n := l.length) (te := { d := .struct [(34, 0), (2, 9)], size := 10, bytes := 96, zero := [.str ⟨#[]⟩, .str ⟨#[]⟩, .int .i64 0, .int .i64 0, .int .i64 0, .int .i64 0, .int .i64 0, .int .i64 0, .bool false, .int .i64 0] }) (k := 10) (l := i) (h := i + 1) (c := l.length) ttOk (by kernel_rfl) (by kernel_rfl) (by kernel_rfl) rfl (by kernel_rfl) rfl (by kernel_rfl) (by kernel_rfl) (by kernel_rfl) (by kernel_rfl) (by first | omega | (simp; done) | (simp; omega)) (by first | omega | (simp; done) | (simp; omega)) (by first | omega | (simp; done) | (simp; omega))) ?_
  refine And.intro (Yes.bool (by simp; omega)) ?_
  refine And.intro (slice_osl (l := 0) (h := i) (by first | omega | (simp; done) | (simp; omega)) (by first | omega | (simp; done) | (simp; omega)) (by first | omega | (simp; done) | (simp; omega)) (by first | omega | (simp; done) | (simp; omega)) (by first | omega | (simp; done) | (simp; omega)) (by first | omega | (simp; done) | (simp; omega))) ?_
  refine And.intro (slice_osl (l := i + 1) (h := l.length) (by first | omega | (simp; done) | (simp; omega)) (by first | omega | (simp; done) | (simp; omega)) (by first | omega | (simp; done) | (simp; omega)) (by first | omega | (simp; done) | (simp; omega)) (by first | omega | (simp; done) | (simp; omega)) (by first | omega | (simp; done) | (simp; omega))) ?_
  refine And.intro (evAppend_over (els := (List.map Entry.row l)) (ti := { d := .slice 42, size := 1, bytes := 24, zero := [.sl .nil 0 []] }) (te := { d := .struct [(34, 0), (2, 9)], size := 10, bytes := 96, zero := [.str ⟨#[]⟩, .str ⟨#[]⟩, .int .i64 0, .int .i64 0, .int .i64 0, .int .i64 0, .int .i64 0, .int .i64 0, .bool false, .int .i64 0] }) (e0 := 42) (by kernel_rfl) rfl (by kernel_rfl) rfl (by decide) (by kernel_rfl) (by first | omega | (simp; done) | (simp; omega)) (by first | omega | (simp; done) | (simp; omega)) (del1 Entry.row l hi) (by first | omega | (simp; done) | (simp; omega)) rfl) ?_
  refine And.intro (sat_sliceR (o := (opIn Try.f61 6 4)) (t := 52) (e0 := 42) (ti := { d := .slice 42, size := 1, bytes := 24, zero := [.sl .nil 0 []] }) (id := 0) (g := g) (e := 0) (n := (l.length - 1)) (te := { d := .struct [(34, 0), (2, 9)], size := 10, bytes := 96, zero := [.str ⟨#[]⟩, .str ⟨#[]⟩, .int .i64 0, .int .i64 0, .int .i64 0, .int .i64 0, .int .i64 0, .int .i64 0, .bool false, .int .i64 0] }) (k := 10) (room := none) (l := (l.length - 1)) (h := l.length) (els := (List.map Entry.row (l.take i ++ l.drop (i + 1) ++ l.drop (l.length - 1)))) ttOk (by kernel_rfl) (by kernel_rfl) (by kernel_rfl) rfl (by kernel_rfl) rfl (by kernel_rfl) (by kernel_rfl) (by kernel_rfl) (by kernel_rfl) (by first | omega | (simp; done) | (simp; omega)) (by first | omega | (simp; done) | (simp; omega)) (by first | omega | (simp; done) | (simp; omega)) (by first | omega | (simp; done) | (simp; omega))) ?_
  refine And.intro (sat_clear (o := (opIn Try.f61 6 5)) (t := 52) (e0 := 42) (ti := { d := .slice 42, size := 1, bytes := 24, zero := [.sl .nil 0 []] }) (id := 0) (g := g) (e := (l.length - 1)) (n := 1) (te := { d := .struct [(34, 0), (2, 9)], size := 10, bytes := 96, zero := [.str ⟨#[]⟩, .str ⟨#[]⟩, .int .i64 0, .int .i64 0, .int .i64 0, .int .i64 0, .int .i64 0, .int .i64 0, .bool false, .int .i64 0] }) (k := 10) (els := (List.map Entry.row (l.take i ++ l.drop (i + 1) ++ l.drop (l.length - 1)))) (els' := (List.map Entry.row (l.take i ++ l.drop (i + 1)) ++ [(List.replicate 10 AV.unk)])) (room := none) ttOk (by kernel_rfl) (by kernel_rfl) (by kernel_rfl) rfl (by kernel_rfl) rfl (by decide) (by kernel_rfl) (by kernel_rfl) (by first | omega | (simp; done) | (simp; omega)) (by simp; omega) (del2 Entry.row (List.replicate 10 AV.unk) l hi) rfl) ?_
  rfl
theorem DelE_spec (l : List Entry) (g i n : Nat) (hn : n = l.length) (hi : i < l.length) (hl : l.length < 1048576) : ACalls Try.prog 61 [(AV.osl 0 g 10 0 n), (AV.int .i64 ((i : Nat) : Int)), (AV.int .i64 ((i + 1 : Nat) : Int))] ([⟨g, 10, (List.map Entry.row l), none⟩] : Heap) ((AV.osl 0 g 10 0 (n - 1)), ([⟨g, 10, (List.map Entry.row (l.take i ++ l.drop (i + 1))), none⟩] : Heap)) := by
  subst hn
  exact (DelE0_spec l g i hi hl).delete (by rw [List.take_append_of_le_length (by simp; omega), List.take_of_length_le (by simp; omega)])
theorem DelE_at (l : List Entry) (g i n : Nat) (hn : n = l.length) (hi : i < l.length) (hl : l.length < 1048576) (H : Heap) : ACalls Try.prog 61 [(AV.osl 0 g 10 0 n), (AV.int .i64 ((i : Nat) : Int)), (AV.int .i64 ((i + 1 : Nat) : Int))] (([⟨g, 10, (List.map Entry.row l), none⟩] : Heap) ++ H) ((AV.osl 0 g 10 0 (n - 1)), ([⟨g, 10, (List.map Entry.row (l.take i ++ l.drop (i + 1))), none⟩] : Heap) ++ H) := (DelE_spec l g i n hn hi hl).ext (by kernel_rfl) (by kernel_rfl) (by first | (simp [obsB, AV.bddss, AV.bdds, AV.bdd]; done) | (simp [obsB, AV.bddss, AV.bdds, AV.bdd, -List.map_append]; done) | simp [obsB, AV.bddss, AV.bdds, AV.bdd, -List.map_append, -List.map_set, -List.map_take, -List.map_drop, -List.map_cons, -List.map_map]) (by first | (simp [obsB, AV.bddss, AV.bdds, AV.bdd]; done) | (simp [obsB, AV.bddss, AV.bdds, AV.bdd, -List.map_append]; done) | simp [obsB, AV.bddss, AV.bdds, AV.bdd, -List.map_append, -List.map_set, -List.map_take, -List.map_drop, -List.map_cons, -List.map_map]) (by kernel_rfl) H
end Go.Proofs.Ytpkgpldgoajphaa.AM

set_option linter.unusedVariables false
set_option linter.unusedSimpArgs false
set_option maxRecDepth 100000
namespace Go.Proofs.Ytpkgpldgoajphaa.AM
open Go
attribute [local irreducible] Tp.card Tp.cardT Tp.next Tp.step Tp.cards Tp.cardsT Tp.key Tp.keyT

/-! ### texts -/
theorem bl_irrefl : ∀ (x : List UInt8), Op.bytesLess x x = false
  | [] => rfl
  | a :: x => by
    have := bl_irrefl x
    simp [Op.bytesLess, this]
theorem bl_asymm : ∀ (x y : List UInt8), Op.bytesLess x y = true → Op.bytesLess y x = false
  | [], [], h => by simp [Op.bytesLess] at h
  | [], b :: y, h => rfl
  | a :: x, [], h => by simp [Op.bytesLess] at h
  | a :: x, b :: y, h => by
    simp only [Op.bytesLess, Bool.or_eq_true, Bool.and_eq_true, decide_eq_true_eq, beq_iff_eq] at h
    rcases h with h | ⟨rfl, h⟩
    · have h1 : ¬ b < a := fun h' => by exact absurd (UInt8.lt_trans h h') (UInt8.lt_irrefl _)
      have h2 : ¬ b = a := fun e => by subst e; exact UInt8.lt_irrefl _ h
      simp [Op.bytesLess, h1, h2]
    · have := bl_asymm x y h
      simp [Op.bytesLess, this]
theorem bl_trans : ∀ (x y z : List UInt8), Op.bytesLess x y = true → Op.bytesLess y z = true → Op.bytesLess x z = true
  | [], [], z, h, _ => by simp [Op.bytesLess] at h
  | [], b :: y, [], _, h => by simp [Op.bytesLess] at h
  | [], b :: y, c :: z, _, _ => rfl
  | a :: x, [], z, h, _ => by simp [Op.bytesLess] at h
  | a :: x, b :: y, [], _, h => by simp [Op.bytesLess] at h
  | a :: x, b :: y, c :: z, h, k => by
    simp only [Op.bytesLess, Bool.or_eq_true, Bool.and_eq_true, decide_eq_true_eq, beq_iff_eq] at h k ⊢
    rcases h with h | ⟨rfl, h⟩
    · rcases k with k | ⟨rfl, k⟩
      · exact .inl (UInt8.lt_trans h k)
      · exact .inl h
    · rcases k with k | ⟨rfl, k⟩
      · exact .inl k
      · exact .inr ⟨rfl, bl_trans x y z h k⟩
theorem bl_tri : ∀ (x y : List UInt8), Op.bytesLess x y = false → Op.bytesLess y x = false → x = y
  | [], [], _, _ => rfl
  | [], b :: y, h, _ => by simp [Op.bytesLess] at h
  | a :: x, [], _, h => by simp [Op.bytesLess] at h
  | a :: x, b :: y, h, k => by
    simp only [Op.bytesLess, Bool.or_eq_false_iff, decide_eq_false_iff_not] at h k
    have e : a = b := by
      rcases UInt8.lt_or_lt_of_ne (a := a) (b := b) |> fun f => Classical.em (a = b) with e | e
      · exact e
      · rcases UInt8.lt_or_lt_of_ne e with h1 | h1
        · exact absurd h1 h.1
        · exact absurd h1 k.1
    subst e
    simp only [beq_self_eq_true, Bool.true_and] at h k
    rw [bl_tri x y h.2 k.2]
theorem ba_eq {a b : ByteArray} (h : a.toList = b.toList) : a = b := by
  rw [ByteArray.toList_eq, ByteArray.toList_eq] at h
  obtain ⟨⟨a⟩⟩ := a
  obtain ⟨⟨b⟩⟩ := b
  simp at h
  rw [h]

/-! ### keys -/
theorem Key.eqb_iff (a b : Key) : Key.eqb a b = true ↔ a = b := by
  unfold Key.eqb
  constructor
  · intro h
    simp only [Bool.and_true, Bool.and_eq_true, beq_iff_eq] at h
    cases a; cases b
    exact congr (congrArg Key.mk (ba_eq h.1)) (ba_eq h.2)
  · intro h; subst h; simp
theorem Key.eqb_false {a b : Key} : Key.eqb a b = false ↔ a ≠ b := by
  rw [Ne, ← Key.eqb_iff]; simp
theorem bk_irrefl (a : Key) : beforeK a a = false := by simp [beforeK, bl_irrefl]
theorem bk_asymm {a b : Key} (h : beforeK a b = true) : beforeK b a = false := by
  unfold beforeK at *
  by_cases e : a.app.toList = b.app.toList
  · have e' : b.app.toList = a.app.toList := e.symm
    simp [e] at h
    simp [e']
    exact bl_asymm _ _ h
  · have e' : ¬ b.app.toList = a.app.toList := fun x => e x.symm
    simp [e] at h
    simp [e']
    exact bl_asymm _ _ h
theorem bk_trans {a b c : Key} (h : beforeK a b = true) (k : beforeK b c = true) : beforeK a c = true := by
  unfold beforeK at *
  by_cases e : a.app.toList = b.app.toList
  · by_cases f : b.app.toList = c.app.toList
    · simp [e] at h; simp [f] at k; simp [e, f]
      exact bl_trans _ _ _ h k
    · simp [f] at k
      have : ¬ a.app.toList = c.app.toList := by rw [e]; exact f
      simp [this]; rw [e]; exact k
  · simp [e] at h
    by_cases f : b.app.toList = c.app.toList
    · have : ¬ a.app.toList = c.app.toList := by rw [← f]; exact e
      simp [this]; rw [← f]; exact h
    · simp [f] at k
      have h1 := bl_trans _ _ _ h k
      have : ¬ a.app.toList = c.app.toList := fun x => by rw [x] at h; have := bl_asymm _ _ h; rw [k] at this; simp at this
      simp [this]; exact h1
theorem bk_tri {a b : Key} (h : beforeK a b = false) (k : beforeK b a = false) : a = b := by
  unfold beforeK at *
  by_cases e : a.app.toList = b.app.toList
  · have e' : b.app.toList = a.app.toList := e.symm
    simp [e] at h; simp [e'] at k
    have h2 := bl_tri _ _ h k
    cases a; cases b
    exact congr (congrArg Key.mk (ba_eq e)) (ba_eq h2)
  · have e' : ¬ b.app.toList = a.app.toList := fun x => e x.symm
    simp [e] at h; simp [e'] at k
    exact absurd (bl_tri _ _ h k) e
theorem bk_ne {a b : Key} (h : beforeK a b = true) : a ≠ b := fun e => by subst e; rw [bk_irrefl] at h; simp at h
/-- not behind, and before: before. -/
theorem bk_le_lt {a b c : Key} (h : beforeK b a = false) (k : beforeK b c = true) : beforeK a c = true := by
  cases e : beforeK a b with
  | true => exact bk_trans e k
  | false => rw [bk_tri e h]; exact k
theorem bk_lt_le {a b c : Key} (h : beforeK a b = true) (k : beforeK c b = false) : beforeK a c = true := by
  cases e : beforeK b c with
  | true => exact bk_trans h e
  | false => rw [← bk_tri e k]; exact h
theorem bk_le_trans {a b c : Key} (h : beforeK b a = false) (k : beforeK c b = false) : beforeK c a = false := by
  cases e : beforeK c a with
  | false => rfl
  | true => have := bk_lt_le e h; rw [this] at k; simp at k
theorem less_before (a b : Key) : lessK a b = beforeK a b := by
  unfold lessK cmpK cmpS beforeK
  by_cases h1 : Op.bytesLess a.app.toList b.app.toList = true
  · have : ¬ a.app.toList = b.app.toList := fun e => by rw [e, bl_irrefl] at h1; simp at h1
    simp [h1, this]
  · by_cases h2 : a.app.toList = b.app.toList
    · simp [h2, bl_irrefl]
      by_cases h3 : Op.bytesLess a.id.toList b.id.toList = true
      · simp [h3]
      · by_cases h4 : a.id.toList = b.id.toList
        · simp [h4, bl_irrefl]
        · simp [h3, h4]
    · simp [h1, h2]

/-! ### the reference's sort -/
def WkC (a b : Card) : Prop := beforeK b.key a.key = false
def StC (a b : Card) : Prop := beforeK a.key b.key = true
theorem nth_mem {α : Type} [Inhabited α] {l : List α} {i : Nat} (h : i < l.length) : nth l i ∈ l := List.mem_of_getElem? (nth_get h)
theorem nth_getElem {α : Type} [Inhabited α] {l : List α} {i : Nat} (h : i < l.length) : nth l i = l[i] := by
  simp [nth, List.getD_eq_getElem?_getD, List.getElem?_eq_getElem h]
theorem pw_nth {α : Type} [Inhabited α] {R : α → α → Prop} {l : List α} : List.Pairwise R l ↔ ∀ i j, i < j → j < l.length → R (nth l i) (nth l j) := by
  rw [List.pairwise_iff_getElem]
  constructor
  · intro h i j hij hj
    rw [nth_getElem (show i < l.length by omega), nth_getElem hj]
    exact h i j _ _ hij
  · intro h i j hi hj hij
    have := h i j hij hj
    rwa [nth_getElem hi, nth_getElem hj] at this
theorem mem_nth {α : Type} [Inhabited α] {l : List α} {x : α} (h : x ∈ l) : ∃ i, i < l.length ∧ nth l i = x := by
  obtain ⟨i, hi, rfl⟩ := List.getElem_of_mem h
  exact ⟨i, hi, nth_getElem hi⟩
theorem nth_take {α : Type} [Inhabited α] {l : List α} {i k : Nat} (h : i < k) : nth (l.take k) i = nth l i := by
  simp [nth, List.getD_eq_getElem?_getD, List.getElem?_take, h]
theorem nth_drop {α : Type} [Inhabited α] {l : List α} {i k : Nat} : nth (l.drop k) i = nth l (k + i) := by
  simp [nth, List.getD_eq_getElem?_getD, List.getElem?_drop]

theorem posK_spec (c : Card) (out : List Card) (k : Nat) : (∀ i, posK c out k ≤ i → i < k → beforeK c.key (nth out i).key = true) ∧ (0 < posK c out k → beforeK c.key (nth out (posK c out k - 1)).key = false) := by
  induction k with
  | zero => simp only [posK]; exact ⟨fun i h1 h2 => by omega, fun h => by omega⟩
  | succ k ih =>
    simp only [posK]
    split
    · rename_i h
      refine ⟨fun i h1 h2 => ?_, ih.2⟩
      rcases Nat.lt_or_ge i k with h3 | h3
      · exact ih.1 i h1 h3
      · rw [show i = k by omega]; exact h
    · rename_i h
      exact ⟨fun i h1 h2 => by omega, fun _ => by simpa using h⟩
theorem insK_perm (out : List Card) (c : Card) : List.Perm (insK out c) (c :: out) := by
  unfold insK
  rw [List.append_assoc, List.singleton_append]
  refine List.perm_middle.trans ?_
  rw [List.take_append_drop]
theorem insK_sorted {out : List Card} (h : List.Pairwise WkC out) (c : Card) : List.Pairwise WkC (insK out c) := by
  obtain ⟨h1, h2⟩ := posK_spec c out out.length
  have hp := posK_le c out out.length
  generalize hpe : posK c out out.length = p at *
  have hs := pw_nth.1 h
  unfold insK
  rw [hpe, List.append_assoc, List.singleton_append, List.pairwise_append]
  refine ⟨h.sublist (List.take_sublist _ _), List.pairwise_cons.2 ⟨fun y hy => ?_, h.sublist (List.drop_sublist _ _)⟩, fun x hx y hy => ?_⟩
  · obtain ⟨i, hi, rfl⟩ := mem_nth hy
    simp only [List.length_drop] at hi
    rw [nth_drop]
    exact bk_asymm (h1 (p + i) (by omega) (by omega))
  · have hxp : beforeK c.key x.key = false := by
      obtain ⟨i, hi, rfl⟩ := mem_nth hx
      simp only [List.length_take] at hi
      rw [nth_take (by omega)]
      have h3 := h2 (by omega)
      rcases Nat.lt_or_ge i (p - 1) with h4 | h4
      · exact bk_le_trans (hs i (p - 1) h4 (by omega)) h3
      · rw [show i = p - 1 by omega]; exact h3
    rcases List.mem_cons.1 hy with rfl | hy
    · exact hxp
    · obtain ⟨i, hi, rfl⟩ := mem_nth hx
      obtain ⟨j, hj, rfl⟩ := mem_nth hy
      simp only [List.length_take] at hi
      simp only [List.length_drop] at hj
      rw [nth_take (by omega), nth_drop]
      exact hs i (p + j) (by omega) (by omega)
theorem foldl_insK (l : List Card) : ∀ (out : List Card), List.Pairwise WkC out → List.Pairwise WkC (l.foldl insK out) ∧ List.Perm (l.foldl insK out) (out ++ l) := by
  induction l with
  | nil => intro out h; exact ⟨h, by simp⟩
  | cons c l ih =>
    intro out h
    obtain ⟨h1, h2⟩ := ih (insK out c) (insK_sorted h c)
    refine ⟨h1, h2.trans ?_⟩
    exact ((insK_perm out c).append_right l).trans (by simpa using List.perm_middle.symm)
theorem sortK_sorted (l : List Card) : List.Pairwise WkC (sortK l) := (foldl_insK l [] List.Pairwise.nil).1
theorem sortK_perm (l : List Card) : List.Perm (sortK l) l := (foldl_insK l [] List.Pairwise.nil).2

/-! ### Once -/
theorem onceF (s : List Card) : ∀ (out : List Card) (g : Nat), List.Pairwise WkC (out ++ s) → List.Pairwise StC out →
    List.Pairwise StC (s.foldl onceStep (out, g)).1 ∧ ∀ x ∈ (s.foldl onceStep (out, g)).1, x ∈ out ∨ x ∈ s := by
  induction s with
  | nil => intro out g h1 h2; exact ⟨h2, fun x hx => .inl hx⟩
  | cons c s ih =>
    intro out g h1 h2
    rw [List.foldl_cons]
    have app : ∀ (hlt : ∀ x ∈ out, beforeK x.key c.key = true), List.Pairwise StC (s.foldl onceStep (out ++ [c], g + 1)).1 ∧ ∀ x ∈ (s.foldl onceStep (out ++ [c], g + 1)).1, x ∈ out ∨ x ∈ c :: s := by
      intro hlt
      obtain ⟨a1, a2⟩ := ih (out ++ [c]) (g + 1) (by simpa using h1) (List.pairwise_append.2 ⟨h2, List.pairwise_singleton _ _, fun x hx y hy => by simp at hy; subst hy; exact hlt x hx⟩)
      refine ⟨a1, fun x hx => ?_⟩
      rcases a2 x hx with h | h
      · rcases List.mem_append.1 h with h | h
        · exact .inl h
        · simp at h; subst h; exact .inr (by simp)
      · exact .inr (by simp [h])
    have hw := List.pairwise_append.1 h1
    rcases List.eq_nil_or_concat out with rfl | ⟨init, last, hc⟩
    · have : onceStep ([], g) c = ([] ++ [c], g + 1) := by simp [onceStep]
      rw [this]
      exact app (fun x hx => by simp at hx)
    · have hc' : out = init ++ [last] := by simpa using hc
      have hlen : out.length = init.length + 1 := by rw [hc']; simp
      have hlast : nth out (out.length - 1) = last := by rw [hlen, hc', Nat.add_sub_cancel]; exact nth_append_len init last []
      have h0 : decide ((out.length : Int) > 0) = true := by simp; omega
      have hlm : last ∈ out := by rw [hc']; simp
      by_cases he : Key.eqb last.key c.key = true
      · have hset : out.set (out.length - 1) c = init ++ [c] := by rw [hlen, Nat.add_sub_cancel, hc']; simp
        have : onceStep (out, g) c = (init ++ [c], g) := by
          simp only [onceStep]
          rw [if_pos h0, hlast, if_pos he, hset]
        rw [this]
        have hk := (Key.eqb_iff _ _).1 he
        rw [hc'] at h1 h2
        have hp2 := List.pairwise_append.1 h2
        obtain ⟨a1, a2⟩ := ih (init ++ [c]) g (h1.sublist (by
          rw [List.append_assoc, List.append_assoc]
          refine List.Sublist.append_left ?_ _
          simp)) (List.pairwise_append.2 ⟨hp2.1, List.pairwise_singleton _ _, fun x hx y hy => by
            simp at hy; subst hy
            have := hp2.2.2 x hx last (by simp)
            unfold StC at this ⊢
            rw [← hk]; exact this⟩)
        refine ⟨a1, fun x hx => ?_⟩
        rcases a2 x hx with h | h
        · rcases List.mem_append.1 h with h | h
          · exact .inl (by rw [hc']; simp [h])
          · simp at h; subst h; exact .inr (by simp)
        · exact .inr (by simp [h])
      · have : onceStep (out, g) c = (out ++ [c], g + 1) := by
          simp only [onceStep]
          rw [if_pos h0, hlast, if_neg he]
        rw [this]
        have hll : beforeK last.key c.key = true := by
          have h3 : beforeK c.key last.key = false := hw.2.2 last hlm c (by simp)
          cases h4 : beforeK last.key c.key with
          | true => rfl
          | false => exact absurd ((Key.eqb_iff _ _).2 (bk_tri h4 h3)) he
        refine app fun x hx => ?_
        rw [hc'] at hx
        rcases List.mem_append.1 hx with hx | hx
        · rw [hc'] at h2
          have := (List.pairwise_append.1 h2).2.2 x hx last (by simp)
          exact bk_trans this hll
        · simp at hx; subst hx; exact hll
theorem onceK_sorted (l : List Card) : List.Pairwise StC (onceK l) := (onceF (sortK l) [] 0 (by simpa using sortK_sorted l) List.Pairwise.nil).1
theorem onceK_mem {l : List Card} {x : Card} (h : x ∈ onceK l) : x ∈ l := by
  rcases (onceF (sortK l) [] 0 (by simpa using sortK_sorted l) List.Pairwise.nil).2 x h with h | h
  · simp at h
  · exact (sortK_perm l).mem_iff.1 h

/-! ### insertion sort in place -/
theorem swap_perm {α : Type} [Inhabited α] {l : List α} {i j : Nat} (hi : i < l.length) (hj : j < l.length) : List.Perm ((l.set i (nth l j)).set j (nth l i)) l := by
  rw [nth_getElem hi, nth_getElem hj]
  exact List.set_set_perm hi hj
theorem sink_perm {α : Type} [Inhabited α] (cmp : α → α → Int) (a j : Nat) : ∀ (l : List α), j < l.length → List.Perm (sink cmp a j l) l := by
  induction j with
  | zero => intro l _; simp only [sink]; exact List.Perm.refl _
  | succ j ih =>
    intro l h
    simp only [sink]
    split
    · split
      · exact (ih _ (by simp; omega)).trans (swap_perm h (by omega))
      · exact List.Perm.refl _
    · exact List.Perm.refl _
theorem insSort_perm {α : Type} [Inhabited α] (cmp : α → α → Int) (a k : Nat) : ∀ (i : Nat) (l : List α), i + k ≤ l.length → List.Perm (insSort cmp a k i l) l := by
  induction k with
  | zero => intro i l _; simp only [insSort]; exact List.Perm.refl _
  | succ k ih =>
    intro i l h
    simp only [insSort]
    exact (ih (i + 1) _ (by rw [sink_len]; omega)).trans (sink_perm cmp a i l (by omega))
theorem insSort_perm0 {α : Type} [Inhabited α] (cmp : α → α → Int) (l : List α) : List.Perm (insSort cmp 0 (l.length - 1) 1 l) l := by
  rcases Nat.eq_zero_or_pos l.length with h | h
  · have : l = [] := List.eq_nil_of_length_eq_zero h
    subst this; simp [insSort]
  · exact insSort_perm cmp 0 _ 1 l (by omega)

/-! ### what the tape makes -/
theorem Tp.cards_mem (n : Nat) : ∀ (t : Tp) (c : Card), c ∈ t.cards n → ∃ t' : Tp, c = t'.card := by
  induction n with
  | zero => intro t c h; simp [Tp.cards] at h
  | succ n ih =>
    intro t c h
    simp only [Tp.cards, List.mem_cons] at h
    rcases h with h | h
    · exact ⟨t, h⟩
    · exact ih _ c h
theorem madeE_card (cs : List Card) : ∀ (t : Tp), (madeE t cs).map (·.card) = cs := by
  induction cs with
  | nil => intro t; rfl
  | cons c cs ih => intro t; simp only [madeE, List.map_cons, ih]
theorem madeE_seen (cs : List Card) : ∀ (t : Tp) (e : Entry), e ∈ madeE t cs → 0 ≤ e.seen ∧ e.seen < 120 := by
  induction cs with
  | nil => intro t e h; simp [madeE] at h
  | cons c cs ih =>
    intro t e h
    simp only [madeE, List.mem_cons] at h
    rcases h with h | h
    · subst h
      have := t.next_lt 120 (by omega)
      simp only
      omega
    · exact ih _ e h
theorem madeC_mem {tape : List Int} {most : Nat} {c : Card} (h : c ∈ madeC tape most) : ∃ t' : Tp, c = t'.card := Tp.cards_mem _ _ c (onceK_mem h)
theorem madeL_mem {tape : List Int} {most : Nat} {e : Entry} (h : e ∈ madeL tape most) : e.card ∈ madeC tape most := by
  have : (madeL tape most).map (·.card) = madeC tape most := madeE_card _ _
  rw [← this]
  exact List.mem_map_of_mem h
/-- Entries of unlike keys, by key. -/
theorem madeL_sorted (tape : List Int) (most : Nat) : List.Pairwise (fun a b : Entry => beforeK a.card.key b.card.key = true) (madeL tape most) := by
  have h1 : (madeL tape most).map (·.card) = madeC tape most := madeE_card _ _
  have h2 : List.Pairwise StC (madeC tape most) := onceK_sorted _
  rw [← h1, List.pairwise_map] at h2
  exact h2
theorem madeL_seen {tape : List Int} {most : Nat} {e : Entry} (h : e ∈ madeL tape most) : 0 ≤ e.seen ∧ e.seen < 120 := madeE_seen _ _ e h
end Go.Proofs.Ytpkgpldgoajphaa.AM

set_option linter.unusedVariables false
set_option linter.unusedSimpArgs false
namespace Go.Proofs.Ytpkgpldgoajphaa.AM
open Go

def AV.scalss (els : List (List AV)) : Bool := els.all fun r => r.all AV.scal
theorem scalss_get {els : List (List AV)} (h : AV.scalss els = true) {i j : Nat} (hi : i < els.length) (hj : j < (els.getD i []).length) : ((els.getD i []).getD j .skip).scal = true := by
  have h1 : els.getD i [] ∈ els := by
    rw [List.getD_eq_getElem?_getD, List.getElem?_eq_getElem hi]; exact List.getElem_mem _
  have h3 := List.all_eq_true.1 h _ h1
  generalize els.getD i [] = r at hj h3 ⊢
  have h2 : r.getD j .skip ∈ r := by
    rw [List.getD_eq_getElem?_getD, List.getElem?_eq_getElem hj]; exact List.getElem_mem _
  exact List.all_eq_true.1 h3 _ h2
theorem scalss_map {α : Type} {row : α → List AV} (h : ∀ x, (row x).all AV.scal = true) (l : List α) : AV.scalss (l.map row) = true := by
  unfold AV.scalss
  rw [List.all_eq_true]
  intro r hr
  obtain ⟨x, _, rfl⟩ := List.mem_map.1 hr
  exact h x
theorem ACalls.borrow_osl {P : Program} {f : FuncId} {args args' : List AV} {g k n : Nat} {o : Ob} (h : ACalls P f args [] (.osl 0 g k 0 n, [o])) (ho : AV.scalss o.els = true) {H : Heap} (hb : Brs H args' args) : ACalls P f args' H (.osl H.length g k 0 n, H ++ [o]) := by
  intro G w C vs hsz hargs hH
  obtain ⟨hlen, hbr⟩ := Brs.get hb
  have key : ∀ i, i < args.length → VR (fun b => G b ∨ ∃ id l, C.ι id = some l ∧ l.b = some b) w Cx.none (args.getD i .skip) (vs.getD i undef) := by
    intro i hi
    have hv := hargs i (by omega)
    rcases hbr i hi with ⟨e, h0⟩ | ⟨id, g, k, e, n, rows, h1, h2, h3, h4⟩
    · rw [e] at hv
      have := hv.cut 0 h0
      rw [cut_zero] at this
      exact this.mono (fun b hb => .inl hb) (fun _ _ => rfl) (CxLe.refl _)
    · rw [h1] at hv
      rw [h2]
      obtain ⟨G', C', e1, e2, e3, _⟩ := freeze_sound hH hv h3 h4
      have := e3.cut 0 rfl
      rw [cut_zero] at this
      refine this.mono (fun b hb => ?_) (fun _ _ => rfl) (CxLe.refl _)
      rcases e1.grow b hb with h5 | h5 | h5
      · exact .inl h5
      · exact .inr h5
      · have := e2.gsz b hb; omega
  refine (h _ w Cx.none vs (by omega) key
    ⟨fun id o ho => by simp at ho, fun id _ => ⟨rfl, rfl⟩, fun id l b hl => by simp [Cx.none] at hl, fun i j l l' b hl => by simp [Cx.none] at hl, fun id o l ho => by simp at ho,
      fun b hb => hb.elim (hH.gsz b) fun ⟨id, l, h1, h2⟩ => (hH.own id l b h1 h2).1⟩).mono fun v w' ⟨G2, C2, he, hh, hv, hp⟩ => ?_
  have hall : ∀ b, b < w.heap.size → w'.heap[b]? = w.heap[b]? := fun b hb => he.rest b hb fun id l hl => by simp [Cx.none] at hl
  obtain ⟨hγn, hιn⟩ := hH.out H.length (Nat.le_refl _)
  have hnew : ∀ l b, C2.ι 0 = some l → l.b = some b → w.heap.size ≤ b := fun l b hl hb => by
    rcases he.own 0 l b hl hb with ⟨j, m, hm, _⟩ | h1
    · simp [Cx.none] at hm
    · exact h1
  have hC1 : (C.lay H.length (C2.ι 0) (C2.γ 0)).ι H.length = C2.ι 0 := Cx.lay_ι ..
  have hC2 : (C.lay H.length (C2.ι 0) (C2.γ 0)).γ H.length = C2.γ 0 := Cx.lay_γ ..
  have hC3 : ∀ j, j ≠ H.length → (C.lay H.length (C2.ι 0) (C2.γ 0)).ι j = C.ι j ∧ (C.lay H.length (C2.ι 0) (C2.γ 0)).γ j = C.γ j := fun j hj => Cx.lay_ne _ _ _ _ hj
  generalize C.lay H.length (C2.ι 0) (C2.γ 0) = C' at hC1 hC2 hC3
  have hcx : CxLe C C' := fun j => by
    by_cases hj : j = H.length
    · subst hj; rw [hC2, hγn, hC1, hιn]; exact ⟨Nat.zero_le _, fun _ l hl => by simp at hl⟩
    · rw [(hC3 j hj).1, (hC3 j hj).2]; exact ⟨Nat.le_refl _, fun _ l hl => hl⟩
  have hev : Ev G w C G w' C' := ⟨he.os, he.tape, he.output, he.size, fun _ h => h, fun b hb => hall b (hH.gsz b hb), hcx, fun b hb _ => hall b hb, fun _ h => .inl h, fun id l b h1 h2 => by
    by_cases hj : id = H.length
    · subst hj; rw [hC1] at h1; exact .inr (hnew l b h1 h2)
    · rw [(hC3 id hj).1] at h1; exact .inl ⟨id, l, h1, h2⟩, he.frz⟩
  have hget : ∀ (j : Nat) (oj : Ob), (H ++ [o])[j]? = some oj → (j < H.length ∧ H[j]? = some oj) ∨ (j = H.length ∧ oj = o) := fun j oj hj => by
    rcases Nat.lt_or_ge j H.length with h' | h'
    · rw [List.getElem?_append_left h'] at hj; exact .inl ⟨h', hj⟩
    · have := heap_lt hj
      simp at this
      obtain rfl : j = H.length := by omega
      simp at hj
      exact .inr ⟨rfl, hj.symm⟩
  refine ⟨G, C', hev, ⟨fun j oj hj => ?_, fun j hj => ?_, fun j l b hl hlb => ?_, fun i j l l' b hi hj hb hb' => ?_, fun j oj l hj hl => ?_, fun b hb => Nat.lt_of_lt_of_le (hH.gsz b hb) he.size⟩, ?_, by simp, fun j hj _ hιj => ?_⟩
  · rcases hget j oj hj with ⟨h1, h2⟩ | ⟨rfl, rfl⟩
    · rw [(hC3 j (by omega)).2]; exact hH.gen j oj h2
    · rw [hC2]; exact hh.gen 0 oj rfl
  · simp only [List.length_append, List.length_singleton] at hj
    rw [(hC3 j (by omega)).1, (hC3 j (by omega)).2]; exact hH.out j (by omega)
  · by_cases hj : j = H.length
    · subst hj; rw [hC1] at hl
      obtain ⟨q1, q2⟩ := hh.own 0 l b hl hlb
      exact ⟨q1, fun hg => q2 (he.lock b (.inl hg))⟩
    · rw [(hC3 j hj).1] at hl
      obtain ⟨q1, q2⟩ := hH.own j l b hl hlb
      exact ⟨Nat.lt_of_lt_of_le q1 he.size, q2⟩
  · by_cases h1 : i = H.length <;> by_cases h2 : j = H.length
    · omega
    · subst h1; rw [hC1] at hi; rw [(hC3 j h2).1] at hj
      have := hnew l b hi hb; have := (hH.own j l' b hj hb').1; omega
    · subst h2; rw [hC1] at hj; rw [(hC3 i h1).1] at hi
      have := hnew l' b hj hb'; have := (hH.own i l b hi hb).1; omega
    · rw [(hC3 i h1).1] at hi; rw [(hC3 j h2).1] at hj
      exact hH.inj i j l l' b hi hj hb hb'
  · rcases hget j oj hj with ⟨h1, h2⟩ | ⟨rfl, rfl⟩
    · rw [(hC3 j (by omega)).1] at hl
      exact (hH.ob j oj l h2 hl).ev hev fun b hb => hall b (hH.own j l b hl hb).1
    · rw [hC1] at hl
      have hob := hh.ob 0 oj l rfl hl
      refine ⟨hob.k, hob.rm, hob.no, hob.len, hob.row, fun b hb => ?_⟩
      obtain ⟨cs, et, q1, q2, q3⟩ := hob.cells b hb
      exact ⟨cs, et, q1, q2, fun i j hi hj => ⟨(q3 i j hi hj).1, (q3 i j hi hj).2.scal (scalss_get ho hi (by rw [hob.row i hi]; exact hj))⟩⟩
  · cases hv with
    | osl _ _ _ _ _ _ ad cap hnc hle hl =>
      refine .osl _ _ _ _ _ _ _ _ hnc (by rw [hC2]; exact hle) fun hg => ?_
      rw [hC2] at hg
      rw [hC1]
      exact hl hg
    | osl0 _ _ _ _ _ base hle hl =>
      refine .osl0 _ _ _ _ _ _ (by rw [hC2]; exact hle) fun hg => ?_
      rw [hC2] at hg
      rw [hC1]
      exact hl hg
  · rw [(hC3 j (by omega)).1, (hC3 j (by omega)).2, List.getElem?_append_left hj]
    exact ⟨hιj, rfl, rfl⟩
end Go.Proofs.Ytpkgpldgoajphaa.AM

set_option maxRecDepth 100000
set_option linter.unusedVariables false
set_option linter.unusedSimpArgs false
namespace Go.Proofs.Ytpkgpldgoajphaa.AM
open Go Go.Proofs.Ytpkgpldgoajphaa
attribute [local irreducible] ACalls funT codeT codeQ LoopTo
attribute [local irreducible] Tp.card Tp.cardT Tp.next Tp.step Tp.cards Tp.cardsT Tp.key Tp.keyT sink insSort pickS pickL pickN pickK mostN cmpL lateE orderK sortK insK posK beforeK onceStep onceS onceK
/-- Where a key lies, or would lie. -/
def findP (l : List Entry) (k : Key) : Nat := (l.takeWhile fun e => beforeK e.card.key k).length
def findB (l : List Entry) (k : Key) : Bool := decide (findP l k < l.length) && Key.eqb (nth l (findP l k)).card.key k
theorem findP_le (l : List Entry) (k : Key) : findP l k ≤ l.length := by
  unfold findP
  have := List.Sublist.length_le (List.takeWhile_sublist (l := l) fun e => beforeK e.card.key k)
  exact this
theorem findP_lt {l : List Entry} {k : Key} : ∀ {i : Nat}, i < findP l k → beforeK (nth l i).card.key k = true := by
  unfold findP
  induction l with
  | nil => intro i h; simp at h
  | cons e l ih =>
    intro i h
    rw [List.takeWhile_cons] at h
    by_cases hb : beforeK e.card.key k = true
    · rw [if_pos hb] at h
      cases i with
      | zero => exact hb
      | succ i => exact ih (by simpa using h)
    · rw [if_neg hb] at h; simp at h
theorem findP_at {l : List Entry} {k : Key} (h : findP l k < l.length) : beforeK (nth l (findP l k)).card.key k = false := by
  unfold findP at *
  induction l with
  | nil => simp at h
  | cons e l ih =>
    rw [List.takeWhile_cons] at h ⊢
    by_cases hb : beforeK e.card.key k = true
    · rw [if_pos hb] at h ⊢
      exact ih (by simpa using h)
    · rw [if_neg hb]
      have h3 : beforeK e.card.key k = false := by simpa using hb
      exact h3
theorem findB_lt {l : List Entry} {k : Key} (h : findB l k = true) : findP l k < l.length := by
  unfold findB at h
  rw [Bool.and_eq_true] at h
  exact of_decide_eq_true h.1
theorem findP_pos {l : List Entry} {k : Key} {i : Nat} (hi : i ≤ l.length) (h1 : ∀ j, j < i → beforeK (nth l j).card.key k = true) (h2 : i < l.length → beforeK (nth l i).card.key k = false) : findP l k = i := by
  rcases Nat.lt_trichotomy (findP l k) i with h | h | h
  · have := h1 _ h
    rw [findP_at (by omega)] at this; simp at this
  · exact h
  · have := findP_lt h
    rw [h2 (by have := findP_le l k; omega)] at this; simp at this
def find_ann : Ann := { refs := [3], base := 2, fin := some 2, live := [(2, [0, 3, 6])], out := [(2, [0, 3, 6])] }
set_option maxRecDepth 100000 in
theorem find_step (most : Int) (l : List Entry) (k : Key) (g n : Nat) (i : Nat) (hn : n = l.length) (hl : l.length < 1048576) (hi : i ≤ l.length) {eX : Ex} {FX : Fr} {HX : Heap} (k1 : (decide (((i : Nat) : Int) < ((n : Nat) : Int))) = true → (lessK (nth l i).card.key k) = true → LoopTo (codeQ Try.prog (X find_ann) (loopOf Try.f60 0)) (some [0, 3, 6]) (some [0, 3, 6]) (mkF 50 [(0, (AV.obj 0 0 0 0)), (3, (AV.ref (Key.row k) 0)), (6, (AV.int .i64 ((i + 1 : Nat) : Int)))]) ([⟨0, 2, [[(AV.int .i64 most), (AV.osl 1 g 10 0 n)]], none⟩, ⟨g, 10, (List.map Entry.row l), none⟩] : Heap) eX FX HX) (k2 : (decide (((i : Nat) : Int) < ((n : Nat) : Int))) = true → (lessK (nth l i).card.key k) = false → ((.exit 0 : Ex), (mkF 50 [(0, (AV.obj 0 0 0 0)), (3, (AV.ref (Key.row k) 0)), (6, (AV.int .i64 ((i : Nat) : Int)))]), ([⟨0, 2, [[(AV.int .i64 most), (AV.osl 1 g 10 0 n)]], none⟩, ⟨g, 10, (List.map Entry.row l), none⟩] : Heap)) = (eX, FX, HX)) (k3 : (decide (((i : Nat) : Int) < ((n : Nat) : Int))) = false → ((.exit 0 : Ex), (mkF 50 [(0, (AV.obj 0 0 0 0)), (3, (AV.ref (Key.row k) 0)), (6, (AV.int .i64 ((i : Nat) : Int)))]), ([⟨0, 2, [[(AV.int .i64 most), (AV.osl 1 g 10 0 n)]], none⟩, ⟨g, 10, (List.map Entry.row l), none⟩] : Heap)) = (eX, FX, HX)) : LoopTo (codeQ Try.prog (X find_ann) (loopOf Try.f60 0)) (some [0, 3, 6]) (some [0, 3, 6]) (mkF 50 [(0, (AV.obj 0 0 0 0)), (3, (AV.ref (Key.row k) 0)), (6, (AV.int .i64 ((i : Nat) : Int)))]) ([⟨0, 2, [[(AV.int .i64 most), (AV.osl 1 g 10 0 n)]], none⟩, ⟨g, 10, (List.map Entry.row l), none⟩] : Heap) eX FX HX := by
  refine LoopTo.step (.reg [(13, ((AV.obj 1 g i 0), ([⟨0, 2, [[(AV.int .i64 most), (AV.osl 1 g 10 0 n)]], none⟩, ⟨g, 10, (List.map Entry.row l), none⟩] : Heap))), (16, ((AV.agg (Key.row (nth l i).card.key)), ([⟨0, 2, [[(AV.int .i64 most), (AV.osl 1 g 10 0 n)]], none⟩, ⟨g, 10, (List.map Entry.row l), none⟩] : Heap))), (18, ((AV.bool (lessK (nth l i).card.key k)), ([⟨0, 2, [[(AV.int .i64 most), (AV.osl 1 g 10 0 n)]], none⟩, ⟨g, 10, (List.map Entry.row l), none⟩] : Heap)))] [] [] (.two (.two (.two (.two (.two (.two (.two (.two (.two (.two (.two (.two (.reg [(1, ((AV.int .i64 ((i + 1 : Nat) : Int)), ([⟨0, 2, [[(AV.int .i64 most), (AV.osl 1 g 10 0 n)]], none⟩, ⟨g, 10, (List.map Entry.row l), none⟩] : Heap)))] [] [] .nil) .nil) .nil) .nil) .nil) .nil) .nil) .nil) .nil) .nil) .nil) .nil) (.two .nil (.two .nil (.two .nil (.two .nil (.two .nil (.two .nil (.two .nil (.two .nil (.two .nil (.two .nil (.two .nil .nil))))))))))))) ?_
  refine Eq.mp (by kernel_rfl : (cond (decide (((i : Nat) : Int) < ((n : Nat) : Int))) ((IdxOsl 1 g 10 10 0 n ((i : Nat) : Int) ([⟨0, 2, [[(AV.int .i64 most), (AV.osl 1 g 10 0 n)]], none⟩, ⟨g, 10, (List.map Entry.row l), none⟩] : Heap) i) ∧ (LoadTo tt 30 0 ([⟨0, 2, [[(AV.int .i64 most), (AV.osl 1 g 10 0 n)]], none⟩, ⟨g, 10, (List.map Entry.row l), none⟩] : Heap) (rowAt ([⟨0, 2, [[(AV.int .i64 most), (AV.osl 1 g 10 0 n)]], none⟩, ⟨g, 10, (List.map Entry.row l), none⟩] : Heap) 1 g i) = some ((AV.agg (Key.row (nth l i).card.key)), ([⟨0, 2, [[(AV.int .i64 most), (AV.osl 1 g 10 0 n)]], none⟩, ⟨g, 10, (List.map Entry.row l), none⟩] : Heap))) ∧ (ACalls Try.prog 101 [(AV.agg (Key.row (nth l i).card.key)), (AV.agg (Key.row k))] ([⟨0, 2, [[(AV.int .i64 most), (AV.osl 1 g 10 0 n)]], none⟩, ⟨g, 10, (List.map Entry.row l), none⟩] : Heap) ((AV.bool (lessK (nth l i).card.key k)), ([⟨0, 2, [[(AV.int .i64 most), (AV.osl 1 g 10 0 n)]], none⟩, ⟨g, 10, (List.map Entry.row l), none⟩] : Heap))) ∧ cond (lessK (nth l i).card.key k) ((Yes (.int .i64 (IntKind.i64.wrap (((i : Nat) : Int) + 1))) ([⟨0, 2, [[(AV.int .i64 most), (AV.osl 1 g 10 0 n)]], none⟩, ⟨g, 10, (List.map Entry.row l), none⟩] : Heap) (AV.int .i64 ((i + 1 : Nat) : Int))) ∧ LoopTo (codeQ Try.prog (X find_ann) (loopOf Try.f60 0)) (some [0, 3, 6]) (some [0, 3, 6]) (mkF 50 [(0, (AV.obj 0 0 0 0)), (3, (AV.ref (Key.row k) 0)), (6, (AV.int .i64 ((i + 1 : Nat) : Int)))]) ([⟨0, 2, [[(AV.int .i64 most), (AV.osl 1 g 10 0 n)]], none⟩, ⟨g, 10, (List.map Entry.row l), none⟩] : Heap) eX FX HX) (((.exit 0 : Ex), (mkF 50 [(0, (AV.obj 0 0 0 0)), (3, (AV.ref (Key.row k) 0)), (6, (AV.int .i64 ((i : Nat) : Int)))]), ([⟨0, 2, [[(AV.int .i64 most), (AV.osl 1 g 10 0 n)]], none⟩, ⟨g, 10, (List.map Entry.row l), none⟩] : Heap)) = (eX, FX, HX))) (((.exit 0 : Ex), (mkF 50 [(0, (AV.obj 0 0 0 0)), (3, (AV.ref (Key.row k) 0)), (6, (AV.int .i64 ((i : Nat) : Int)))]), ([⟨0, 2, [[(AV.int .i64 most), (AV.osl 1 g 10 0 n)]], none⟩, ⟨g, 10, (List.map Entry.row l), none⟩] : Heap)) = (eX, FX, HX))) = _) ?_
  refine cond_split (fun h1 => ?_) (fun h1 => ?_)
  · have h1' := h1
    try simp at h1'
    refine And.intro (IdxOsl.mk _ (by omega) (by omega)) ?_
    refine And.intro (load_row (rowAt_map (row := Entry.row) (l := l) (k := 10) (room := none) (by kernel_rfl) (by first | omega | (simp; done) | (simp; omega))) (by kernel_rfl)) ?_
    refine And.intro (keyLess_at (nth l i).card.key k  ([⟨0, 2, [[(AV.int .i64 most), (AV.osl 1 g 10 0 n)]], none⟩, ⟨g, 10, (List.map Entry.row l), none⟩] : Heap)) ?_
    refine cond_split (fun h2 => ?_) (fun h2 => ?_)
    · have h2' := h2
      try simp at h2'
      refine And.intro (Yes.add (by omega) (by omega) (by omega)) ?_
      exact k1 h1 h2
    · have h2' := h2
      try simp at h2'
      exact k2 h1 h2
  · have h1' := h1
    try simp at h1'
    exact k3 h1
theorem find_loop (most : Int) (l : List Entry) (k : Key) (g n : Nat) (hn : n = l.length) (hl : l.length < 1048576) (r : Nat) : ∀ (i : Nat), i + r = findP l k →
    LoopTo (codeQ Try.prog (X find_ann) (loopOf Try.f60 0)) (some [0, 3, 6]) (some [0, 3, 6]) (mkF 50 [(0, (AV.obj 0 0 0 0)), (3, (AV.ref (Key.row k) 0)), (6, (AV.int .i64 ((i : Nat) : Int)))]) ([⟨0, 2, [[(AV.int .i64 most), (AV.osl 1 g 10 0 n)]], none⟩, ⟨g, 10, (List.map Entry.row l), none⟩] : Heap) (.exit 0) (mkF 50 [(0, (AV.obj 0 0 0 0)), (3, (AV.ref (Key.row k) 0)), (6, (AV.int .i64 (((findP l k) : Nat) : Int)))]) ([⟨0, 2, [[(AV.int .i64 most), (AV.osl 1 g 10 0 n)]], none⟩, ⟨g, 10, (List.map Entry.row l), none⟩] : Heap) := by
  have hle := findP_le l k
  induction r with
  | zero =>
    intro i hi
    obtain rfl : i = findP l k := by omega
    refine find_step most l k g n (findP l k) hn hl (by omega) (fun h1 h2 => ?_) (fun _ _ => rfl) (fun _ => rfl)
    rw [less_before, findP_at (by have := of_decide_eq_true h1; omega)] at h2; simp at h2
  | succ r ih =>
    intro i hi
    refine find_step most l k g n i hn hl (by omega) (fun _ _ => ih (i + 1) (by omega)) (fun _ h2 => ?_) (fun h1 => ?_)
    · rw [less_before, findP_lt (show i < findP l k by omega)] at h2; simp at h2
    · simp at h1; omega
set_option maxRecDepth 100000 in
theorem find_spec (most : Int) (l : List Entry) (k : Key) (g n : Nat) (hn : n = l.length) (hl : l.length < 1048576) : ACalls Try.prog 60 [(AV.obj 0 0 0 0), (AV.agg (Key.row k))] ([⟨0, 2, [[(AV.int .i64 most), (AV.osl 1 g 10 0 n)]], none⟩, ⟨g, 10, (List.map Entry.row l), none⟩] : Heap) ((AV.tup [(AV.int .i64 (((findP l k) : Nat) : Int)), (AV.bool (findB l k))]), ([⟨0, 2, [[(AV.int .i64 most), (AV.osl 1 g 10 0 n)]], none⟩, ⟨g, 10, (List.map Entry.row l), none⟩] : Heap)) := by
  have hle := findP_le l k
  refine spec (fn := Try.f60) (ann := find_ann) (t := (.reg [] [] [] (.reg [] [] [] (.loop (.exit 0) (mkF 50 [(0, (AV.obj 0 0 0 0)), (3, (AV.ref (Key.row k) 0)), (6, (AV.int .i64 (((findP l k) : Nat) : Int)))]) ([⟨0, 2, [[(AV.int .i64 most), (AV.osl 1 g 10 0 n)]], none⟩, ⟨g, 10, (List.map Entry.row l), none⟩] : Heap) (.reg [(14, ((AV.obj 1 g (findP l k) 0), ([⟨0, 2, [[(AV.int .i64 most), (AV.osl 1 g 10 0 n)]], none⟩, ⟨g, 10, (List.map Entry.row l), none⟩] : Heap))), (17, ((AV.agg (Key.row (nth l (findP l k)).card.key)), ([⟨0, 2, [[(AV.int .i64 most), (AV.osl 1 g 10 0 n)]], none⟩, ⟨g, 10, (List.map Entry.row l), none⟩] : Heap)))] [] [] (.two (.two (.two (.two (.two (.two (.two (.two (.two (.two (.two .nil .nil) .nil) .nil) .nil) .nil) .nil) .nil) .nil) .nil) .nil) (.two .nil (.two .nil (.two .nil (.two .nil (.two .nil (.two .nil (.two .nil (.two .nil (.two .nil (.two .nil .nil)))))))))))))))) (Nat.le_of_ble_eq_true (by kernel_rfl)) ⟨Try.func60, by kernel_rfl, by kernel_rfl, by kernel_rfl⟩ ?_
  refine Eq.mp (by kernel_rfl : ((LoopTo (codeQ Try.prog (X find_ann) (loopOf Try.f60 0)) (some [0, 3, 6]) (some [0, 3, 6]) (mkF 50 [(0, (AV.obj 0 0 0 0)), (3, (AV.ref (Key.row k) 0)), (6, (AV.int .i64 0))]) ([⟨0, 2, [[(AV.int .i64 most), (AV.osl 1 g 10 0 n)]], none⟩, ⟨g, 10, (List.map Entry.row l), none⟩] : Heap) (.exit 0) (mkF 50 [(0, (AV.obj 0 0 0 0)), (3, (AV.ref (Key.row k) 0)), (6, (AV.int .i64 (((findP l k) : Nat) : Int)))]) ([⟨0, 2, [[(AV.int .i64 most), (AV.osl 1 g 10 0 n)]], none⟩, ⟨g, 10, (List.map Entry.row l), none⟩] : Heap)) ∧ cond (decide ((((findP l k) : Nat) : Int) < ((n : Nat) : Int))) ((IdxOsl 1 g 10 10 0 n (((findP l k) : Nat) : Int) ([⟨0, 2, [[(AV.int .i64 most), (AV.osl 1 g 10 0 n)]], none⟩, ⟨g, 10, (List.map Entry.row l), none⟩] : Heap) (findP l k)) ∧ (LoadTo tt 30 0 ([⟨0, 2, [[(AV.int .i64 most), (AV.osl 1 g 10 0 n)]], none⟩, ⟨g, 10, (List.map Entry.row l), none⟩] : Heap) (rowAt ([⟨0, 2, [[(AV.int .i64 most), (AV.osl 1 g 10 0 n)]], none⟩, ⟨g, 10, (List.map Entry.row l), none⟩] : Heap) 1 g (findP l k)) = some ((AV.agg (Key.row (nth l (findP l k)).card.key)), ([⟨0, 2, [[(AV.int .i64 most), (AV.osl 1 g 10 0 n)]], none⟩, ⟨g, 10, (List.map Entry.row l), none⟩] : Heap))) ∧ (AV.bdd 2 (AV.tup [(AV.int .i64 (((findP l k) : Nat) : Int)), (AV.bool (Key.eqb (nth l (findP l k)).card.key k))]) = true ∧ obsB 2 ([⟨0, 2, [[(AV.int .i64 most), (AV.osl 1 g 10 0 n)]], none⟩, ⟨g, 10, (List.map Entry.row l), none⟩] : Heap) = true) ∧ ((AV.tup [(AV.int .i64 (((findP l k) : Nat) : Int)), (AV.bool (Key.eqb (nth l (findP l k)).card.key k))]), ([⟨0, 2, [[(AV.int .i64 most), (AV.osl 1 g 10 0 n)]], none⟩, ⟨g, 10, (List.map Entry.row l), none⟩] : Heap)) = ((AV.tup [(AV.int .i64 (((findP l k) : Nat) : Int)), (AV.bool (findB l k))]), ([⟨0, 2, [[(AV.int .i64 most), (AV.osl 1 g 10 0 n)]], none⟩, ⟨g, 10, (List.map Entry.row l), none⟩] : Heap))) ((AV.bdd 2 (AV.tup [(AV.int .i64 (((findP l k) : Nat) : Int)), (AV.bool false)]) = true ∧ obsB 2 ([⟨0, 2, [[(AV.int .i64 most), (AV.osl 1 g 10 0 n)]], none⟩, ⟨g, 10, (List.map Entry.row l), none⟩] : Heap) = true) ∧ ((AV.tup [(AV.int .i64 (((findP l k) : Nat) : Int)), (AV.bool false)]), ([⟨0, 2, [[(AV.int .i64 most), (AV.osl 1 g 10 0 n)]], none⟩, ⟨g, 10, (List.map Entry.row l), none⟩] : Heap)) = ((AV.tup [(AV.int .i64 (((findP l k) : Nat) : Int)), (AV.bool (findB l k))]), ([⟨0, 2, [[(AV.int .i64 most), (AV.osl 1 g 10 0 n)]], none⟩, ⟨g, 10, (List.map Entry.row l), none⟩] : Heap)))) = _) ?_
  refine And.intro ((find_loop most l k g n hn hl (findP l k) 0 (by omega))) ?_
  refine cond_split (fun h1 => ?_) (fun h1 => ?_)
  · have h1' := h1
    try simp at h1'
    refine And.intro (IdxOsl.mk _ (by omega) (by omega)) ?_
    refine And.intro (load_row (rowAt_map (row := Entry.row) (l := l) (k := 10) (room := none) (by kernel_rfl) (by first | omega | (simp; done) | (simp; omega))) (by kernel_rfl)) ?_
    refine And.intro (by first | (simp [obsB, AV.bddss, AV.bdds, AV.bdd]; done) | (simp [obsB, AV.bddss, AV.bdds, AV.bdd, -List.map_append]; done) | simp [obsB, AV.bddss, AV.bdds, AV.bdd, -List.map_append, -List.map_set, -List.map_take, -List.map_drop, -List.map_cons, -List.map_map]) ?_
    have hb : findB l k = Key.eqb (nth l (findP l k)).card.key k := by unfold findB; first | (simp_all; done) | (simp_all; omega) | (simp_all; intro h; omega)
    rw [hb]
  · have h1' := h1
    try simp at h1'
    refine And.intro (by first | (simp [obsB, AV.bddss, AV.bdds, AV.bdd]; done) | (simp [obsB, AV.bddss, AV.bdds, AV.bdd, -List.map_append]; done) | simp [obsB, AV.bddss, AV.bdds, AV.bdd, -List.map_append, -List.map_set, -List.map_take, -List.map_drop, -List.map_cons, -List.map_map]) ?_
    have hb : findB l k = false := by unfold findB; first | (simp_all; done) | (simp_all; omega) | (simp_all; intro h; omega)
    rw [hb]
theorem find_at (most : Int) (l : List Entry) (k : Key) (g n : Nat) (hn : n = l.length) (hl : l.length < 1048576) (H : Heap) : ACalls Try.prog 60 [(AV.obj 0 0 0 0), (AV.agg (Key.row k))] (([⟨0, 2, [[(AV.int .i64 most), (AV.osl 1 g 10 0 n)]], none⟩, ⟨g, 10, (List.map Entry.row l), none⟩] : Heap) ++ H) ((AV.tup [(AV.int .i64 (((findP l k) : Nat) : Int)), (AV.bool (findB l k))]), ([⟨0, 2, [[(AV.int .i64 most), (AV.osl 1 g 10 0 n)]], none⟩, ⟨g, 10, (List.map Entry.row l), none⟩] : Heap) ++ H) := (find_spec most l k g n hn hl).ext (by kernel_rfl) (by kernel_rfl) (by first | (simp [obsB, AV.bddss, AV.bdds, AV.bdd]; done) | (simp [obsB, AV.bddss, AV.bdds, AV.bdd, -List.map_append]; done) | simp [obsB, AV.bddss, AV.bdds, AV.bdd, -List.map_append, -List.map_set, -List.map_take, -List.map_drop, -List.map_cons, -List.map_map]) (by first | (simp [obsB, AV.bddss, AV.bdds, AV.bdd]; done) | (simp [obsB, AV.bddss, AV.bdds, AV.bdd, -List.map_append]; done) | simp [obsB, AV.bddss, AV.bdds, AV.bdd, -List.map_append, -List.map_set, -List.map_take, -List.map_drop, -List.map_cons, -List.map_map]) (by kernel_rfl) H
def putIn_ann : Ann := { refs := [3], base := 2, fin := some 2 }
set_option maxRecDepth 100000 in
theorem putIn_spec (most : Int) (l : List Entry) (e : Entry) (g n : Nat) (hn : n = l.length) (hl : l.length < 1048576) (hb : findB l e.card.key = true) : ACalls Try.prog 23 [(AV.obj 0 0 0 0), (AV.agg (Entry.row e))] ([⟨0, 2, [[(AV.int .i64 most), (AV.osl 1 g 10 0 n)]], none⟩, ⟨g, 10, (List.map Entry.row l), none⟩] : Heap) ((AV.int .i64 0), ([⟨0, 2, [[(AV.int .i64 most), (AV.osl 1 g 10 0 n)]], none⟩, ⟨g, 10, (List.map Entry.row (l.set (findP l e.card.key) e)), none⟩] : Heap)) := by
  have hle := findP_le l e.card.key
  have hlt := findB_lt hb
  refine spec (fn := Try.f23) (ann := putIn_ann) (t := (.reg [] [] [] (.reg [(4, ((AV.tup [(AV.int .i64 (((findP l e.card.key) : Nat) : Int)), (AV.bool (findB l e.card.key))]), ([⟨0, 2, [[(AV.int .i64 most), (AV.osl 1 g 10 0 n)]], none⟩, ⟨g, 10, (List.map Entry.row l), none⟩] : Heap)))] [] [] (.reg [(0, ((AV.bool true), ([⟨0, 2, [[(AV.int .i64 most), (AV.osl 1 g 10 0 n)]], none⟩, ⟨g, 10, (List.map Entry.row l), none⟩] : Heap)))] [] [] (.two (.reg [(6, ((AV.obj 1 g (findP l e.card.key) 0), ([⟨0, 2, [[(AV.int .i64 most), (AV.osl 1 g 10 0 n)]], none⟩, ⟨g, 10, (List.map Entry.row l), none⟩] : Heap))), (7, (AV.skip, ([⟨0, 2, [[(AV.int .i64 most), (AV.osl 1 g 10 0 n)]], none⟩, ⟨g, 10, (List.map Entry.row (l.set (findP l e.card.key) e)), none⟩] : Heap)))] [] [] (.reg [] [] [] .nil)) .nil))))) (Nat.le_of_ble_eq_true (by kernel_rfl)) ⟨Try.func23, by kernel_rfl, by kernel_rfl, by kernel_rfl⟩ ?_
  refine Eq.mp (by kernel_rfl : ((ACalls Try.prog 60 [(AV.obj 0 0 0 0), (AV.agg (Key.row e.card.key))] ([⟨0, 2, [[(AV.int .i64 most), (AV.osl 1 g 10 0 n)]], none⟩, ⟨g, 10, (List.map Entry.row l), none⟩] : Heap) ((AV.tup [(AV.int .i64 (((findP l e.card.key) : Nat) : Int)), (AV.bool (findB l e.card.key))]), ([⟨0, 2, [[(AV.int .i64 most), (AV.osl 1 g 10 0 n)]], none⟩, ⟨g, 10, (List.map Entry.row l), none⟩] : Heap))) ∧ (Yes (AV.bool (findB l e.card.key)) ([⟨0, 2, [[(AV.int .i64 most), (AV.osl 1 g 10 0 n)]], none⟩, ⟨g, 10, (List.map Entry.row l), none⟩] : Heap) (AV.bool true)) ∧ (IdxOsl 1 g 10 10 0 n (((findP l e.card.key) : Nat) : Int) ([⟨0, 2, [[(AV.int .i64 most), (AV.osl 1 g 10 0 n)]], none⟩, ⟨g, 10, (List.map Entry.row l), none⟩] : Heap) (findP l e.card.key)) ∧ (StoreTo ([⟨0, 2, [[(AV.int .i64 most), (AV.osl 1 g 10 0 n)]], none⟩, ⟨g, 10, (List.map Entry.row l), none⟩] : Heap) 1 (findP l e.card.key) 10 0 (rowAt ([⟨0, 2, [[(AV.int .i64 most), (AV.osl 1 g 10 0 n)]], none⟩, ⟨g, 10, (List.map Entry.row l), none⟩] : Heap) 1 g (findP l e.card.key)) (AV.fit (AV.agg (Entry.row e)) 10) = some (AV.skip, ([⟨0, 2, [[(AV.int .i64 most), (AV.osl 1 g 10 0 n)]], none⟩, ⟨g, 10, (List.map Entry.row (l.set (findP l e.card.key) e)), none⟩] : Heap))) ∧ (AV.bdd 2 (AV.int .i64 0) = true ∧ obsB 2 ([⟨0, 2, [[(AV.int .i64 most), (AV.osl 1 g 10 0 n)]], none⟩, ⟨g, 10, (List.map Entry.row (l.set (findP l e.card.key) e)), none⟩] : Heap) = true) ∧ ((AV.int .i64 0), ([⟨0, 2, [[(AV.int .i64 most), (AV.osl 1 g 10 0 n)]], none⟩, ⟨g, 10, (List.map Entry.row (l.set (findP l e.card.key) e)), none⟩] : Heap)) = ((AV.int .i64 0), ([⟨0, 2, [[(AV.int .i64 most), (AV.osl 1 g 10 0 n)]], none⟩, ⟨g, 10, (List.map Entry.row (l.set (findP l e.card.key) e)), none⟩] : Heap))) = _) ?_
  refine And.intro (find_at most l e.card.key g n (by first | omega | assumption | (simp; done) | (simp; omega) | (simp_all; done) | (simp_all; omega)) (by first | omega | assumption | (simp; done) | (simp; omega) | (simp_all; done) | (simp_all; omega)) ([] : Heap)) ?_
  refine And.intro (Yes.bool (hb)) ?_
  refine And.intro (IdxOsl.mk _ (by omega) (by omega)) ?_
  refine And.intro (store_row (us := (Entry.row e)) (rowAt_map (row := Entry.row) (l := l) (k := 10) (room := none) (by kernel_rfl) (by first | omega | (simp; done) | (simp; omega))) (by kernel_rfl) (by simp [Entry.row]) (by simp [setAt, fillAt, List.map_set, Entry.row])) ?_
  refine And.intro (by first | (simp [obsB, AV.bddss, AV.bdds, AV.bdd]; done) | (simp [obsB, AV.bddss, AV.bdds, AV.bdd, -List.map_append]; done) | simp [obsB, AV.bddss, AV.bdds, AV.bdd, -List.map_append, -List.map_set, -List.map_take, -List.map_drop, -List.map_cons, -List.map_map]) ?_
  rfl
def putFull_ann : Ann := { refs := [3], base := 2, fin := some 2 }
set_option maxRecDepth 100000 in
theorem putFull_spec (most : Int) (l : List Entry) (e : Entry) (g n : Nat) (hn : n = l.length) (hl : l.length < 1048576) (hb : findB l e.card.key = false) (hm : most ≤ (n : Int)) : ACalls Try.prog 23 [(AV.obj 0 0 0 0), (AV.agg (Entry.row e))] ([⟨0, 2, [[(AV.int .i64 most), (AV.osl 1 g 10 0 n)]], none⟩, ⟨g, 10, (List.map Entry.row l), none⟩] : Heap) ((AV.int .i64 24), ([⟨0, 2, [[(AV.int .i64 most), (AV.osl 1 g 10 0 n)]], none⟩, ⟨g, 10, (List.map Entry.row l), none⟩] : Heap)) := by
  have hle := findP_le l e.card.key
  refine spec (fn := Try.f23) (ann := putFull_ann) (t := (.reg [] [] [] (.reg [(4, ((AV.tup [(AV.int .i64 (((findP l e.card.key) : Nat) : Int)), (AV.bool (findB l e.card.key))]), ([⟨0, 2, [[(AV.int .i64 most), (AV.osl 1 g 10 0 n)]], none⟩, ⟨g, 10, (List.map Entry.row l), none⟩] : Heap)))] [] [] (.reg [(0, ((AV.bool false), ([⟨0, 2, [[(AV.int .i64 most), (AV.osl 1 g 10 0 n)]], none⟩, ⟨g, 10, (List.map Entry.row l), none⟩] : Heap)))] [] [] (.two .nil (.reg [(9, ((AV.bool true), ([⟨0, 2, [[(AV.int .i64 most), (AV.osl 1 g 10 0 n)]], none⟩, ⟨g, 10, (List.map Entry.row l), none⟩] : Heap)))] [] [] (.two (.reg [] [] [] .nil) .nil))))))) (Nat.le_of_ble_eq_true (by kernel_rfl)) ⟨Try.func23, by kernel_rfl, by kernel_rfl, by kernel_rfl⟩ ?_
  refine Eq.mp (by kernel_rfl : ((ACalls Try.prog 60 [(AV.obj 0 0 0 0), (AV.agg (Key.row e.card.key))] ([⟨0, 2, [[(AV.int .i64 most), (AV.osl 1 g 10 0 n)]], none⟩, ⟨g, 10, (List.map Entry.row l), none⟩] : Heap) ((AV.tup [(AV.int .i64 (((findP l e.card.key) : Nat) : Int)), (AV.bool (findB l e.card.key))]), ([⟨0, 2, [[(AV.int .i64 most), (AV.osl 1 g 10 0 n)]], none⟩, ⟨g, 10, (List.map Entry.row l), none⟩] : Heap))) ∧ (Yes (AV.bool (findB l e.card.key)) ([⟨0, 2, [[(AV.int .i64 most), (AV.osl 1 g 10 0 n)]], none⟩, ⟨g, 10, (List.map Entry.row l), none⟩] : Heap) (AV.bool false)) ∧ (Yes (AV.bool (decide (((n : Nat) : Int) ≥ most))) ([⟨0, 2, [[(AV.int .i64 most), (AV.osl 1 g 10 0 n)]], none⟩, ⟨g, 10, (List.map Entry.row l), none⟩] : Heap) (AV.bool true)) ∧ (AV.bdd 2 (AV.int .i64 24) = true ∧ obsB 2 ([⟨0, 2, [[(AV.int .i64 most), (AV.osl 1 g 10 0 n)]], none⟩, ⟨g, 10, (List.map Entry.row l), none⟩] : Heap) = true) ∧ ((AV.int .i64 24), ([⟨0, 2, [[(AV.int .i64 most), (AV.osl 1 g 10 0 n)]], none⟩, ⟨g, 10, (List.map Entry.row l), none⟩] : Heap)) = ((AV.int .i64 24), ([⟨0, 2, [[(AV.int .i64 most), (AV.osl 1 g 10 0 n)]], none⟩, ⟨g, 10, (List.map Entry.row l), none⟩] : Heap))) = _) ?_
  refine And.intro (find_at most l e.card.key g n (by first | omega | assumption | (simp; done) | (simp; omega) | (simp_all; done) | (simp_all; omega)) (by first | omega | assumption | (simp; done) | (simp; omega) | (simp_all; done) | (simp_all; omega)) ([] : Heap)) ?_
  refine And.intro (Yes.bool (hb)) ?_
  refine And.intro (Yes.bool (by first | omega | (simp; done) | (simp; omega))) ?_
  refine And.intro (by first | (simp [obsB, AV.bddss, AV.bdds, AV.bdd]; done) | (simp [obsB, AV.bddss, AV.bdds, AV.bdd, -List.map_append]; done) | simp [obsB, AV.bddss, AV.bdds, AV.bdd, -List.map_append, -List.map_set, -List.map_take, -List.map_drop, -List.map_cons, -List.map_map]) ?_
  rfl
def putNew_ann : Ann := { refs := [3], base := 2, fin := some 2 }
set_option maxRecDepth 100000 in
theorem putNew_spec (most : Int) (l : List Entry) (e : Entry) (g n : Nat) (hn : n = l.length) (hl : l.length < 1048576) (hb : findB l e.card.key = false) (hm : (n : Int) < most) : ACalls Try.prog 23 [(AV.obj 0 0 0 0), (AV.agg (Entry.row e))] ([⟨0, 2, [[(AV.int .i64 most), (AV.osl 1 g 10 0 n)]], none⟩, ⟨g, 10, (List.map Entry.row l), none⟩] : Heap) ((AV.int .i64 0), ([⟨0, 2, [[(AV.int .i64 most), (AV.osl 1 (g + 1) 10 0 (n + 1))]], none⟩, ⟨(g + 1), 10, (List.map Entry.row (l.take (findP l e.card.key) ++ e :: l.drop (findP l e.card.key))), none⟩] : Heap)) := by
  have hle := findP_le l e.card.key
  refine spec (fn := Try.f23) (ann := putNew_ann) (t := (.reg [] [] [] (.reg [(4, ((AV.tup [(AV.int .i64 (((findP l e.card.key) : Nat) : Int)), (AV.bool (findB l e.card.key))]), ([⟨0, 2, [[(AV.int .i64 most), (AV.osl 1 g 10 0 n)]], none⟩, ⟨g, 10, (List.map Entry.row l), none⟩] : Heap)))] [] [] (.reg [(0, ((AV.bool false), ([⟨0, 2, [[(AV.int .i64 most), (AV.osl 1 g 10 0 n)]], none⟩, ⟨g, 10, (List.map Entry.row l), none⟩] : Heap)))] [] [] (.two .nil (.reg [(9, ((AV.bool false), ([⟨0, 2, [[(AV.int .i64 most), (AV.osl 1 g 10 0 n)]], none⟩, ⟨g, 10, (List.map Entry.row l), none⟩] : Heap)))] [] [] (.two .nil (.reg [(8, ((AV.osl 1 (g + 1) 10 0 (n + 1)), ([⟨0, 2, [[(AV.int .i64 most), (AV.osl 1 g 10 0 n)]], none⟩, ⟨(g + 1), 10, (List.map Entry.row (l.take (findP l e.card.key) ++ e :: l.drop (findP l e.card.key))), none⟩] : Heap)))] [] [] (.reg [] [] [] .nil))))))))) (Nat.le_of_ble_eq_true (by kernel_rfl)) ⟨Try.func23, by kernel_rfl, by kernel_rfl, by kernel_rfl⟩ ?_
  refine Eq.mp (by kernel_rfl : ((ACalls Try.prog 60 [(AV.obj 0 0 0 0), (AV.agg (Key.row e.card.key))] ([⟨0, 2, [[(AV.int .i64 most), (AV.osl 1 g 10 0 n)]], none⟩, ⟨g, 10, (List.map Entry.row l), none⟩] : Heap) ((AV.tup [(AV.int .i64 (((findP l e.card.key) : Nat) : Int)), (AV.bool (findB l e.card.key))]), ([⟨0, 2, [[(AV.int .i64 most), (AV.osl 1 g 10 0 n)]], none⟩, ⟨g, 10, (List.map Entry.row l), none⟩] : Heap))) ∧ (Yes (AV.bool (findB l e.card.key)) ([⟨0, 2, [[(AV.int .i64 most), (AV.osl 1 g 10 0 n)]], none⟩, ⟨g, 10, (List.map Entry.row l), none⟩] : Heap) (AV.bool false)) ∧ (Yes (AV.bool (decide (((n : Nat) : Int) ≥ most))) ([⟨0, 2, [[(AV.int .i64 most), (AV.osl 1 g 10 0 n)]], none⟩, ⟨g, 10, (List.map Entry.row l), none⟩] : Heap) (AV.bool false)) ∧ (ACalls Try.prog 62 [(AV.osl 1 g 10 0 n), (AV.int .i64 (((findP l e.card.key) : Nat) : Int)), (AV.sl .clip 10 [(Entry.row e)])] ([⟨0, 2, [[(AV.int .i64 most), (AV.osl 1 g 10 0 n)]], none⟩, ⟨g, 10, (List.map Entry.row l), none⟩] : Heap) ((AV.osl 1 (g + 1) 10 0 (n + 1)), ([⟨0, 2, [[(AV.int .i64 most), (AV.osl 1 g 10 0 n)]], none⟩, ⟨(g + 1), 10, (List.map Entry.row (l.take (findP l e.card.key) ++ e :: l.drop (findP l e.card.key))), none⟩] : Heap))) ∧ (AV.bdd 2 (AV.int .i64 0) = true ∧ obsB 2 ([⟨0, 2, [[(AV.int .i64 most), (AV.osl 1 (g + 1) 10 0 (n + 1))]], none⟩, ⟨(g + 1), 10, (List.map Entry.row (l.take (findP l e.card.key) ++ e :: l.drop (findP l e.card.key))), none⟩] : Heap) = true) ∧ ((AV.int .i64 0), ([⟨0, 2, [[(AV.int .i64 most), (AV.osl 1 (g + 1) 10 0 (n + 1))]], none⟩, ⟨(g + 1), 10, (List.map Entry.row (l.take (findP l e.card.key) ++ e :: l.drop (findP l e.card.key))), none⟩] : Heap)) = ((AV.int .i64 0), ([⟨0, 2, [[(AV.int .i64 most), (AV.osl 1 (g + 1) 10 0 (n + 1))]], none⟩, ⟨(g + 1), 10, (List.map Entry.row (l.take (findP l e.card.key) ++ e :: l.drop (findP l e.card.key))), none⟩] : Heap))) = _) ?_
  refine And.intro (find_at most l e.card.key g n (by first | omega | assumption | (simp; done) | (simp; omega) | (simp_all; done) | (simp_all; omega)) (by first | omega | assumption | (simp; done) | (simp; omega) | (simp_all; done) | (simp_all; omega)) ([] : Heap)) ?_
  refine And.intro (Yes.bool (hb)) ?_
  refine And.intro (Yes.bool (by simp; omega)) ?_
  refine And.intro ((ACalls.put (H1 := ([⟨(g + 1), 10, (List.map Entry.row (l.take (findP l e.card.key) ++ e :: l.drop (findP l e.card.key))), none⟩] : Heap)) (N := ([] : Heap)) (Hg := ([⟨g, 10, (List.map Entry.row l), none⟩] : Heap)) (H1' := ([⟨(g + 1), 10, (List.map Entry.row (l.take (findP l e.card.key) ++ e :: l.drop (findP l e.card.key))), none⟩] : Heap)) (N' := ([] : Heap)) [1] (InsE_spec l e g (findP l e.card.key) n (by first | omega | assumption | (simp; done) | (simp; omega) | (simp_all; done) | (simp_all; omega)) (by first | omega | assumption | (simp; done) | (simp; omega) | (simp_all; done) | (simp_all; omega)) (by first | omega | assumption | (simp; done) | (simp; omega) | (simp_all; done) | (simp_all; omega))) (by kernel_rfl) rfl rfl (by kernel_rfl) (by first | (simp [obsB, AV.bddss, AV.bdds, AV.bdd]; done) | (simp [obsB, AV.bddss, AV.bdds, AV.bdd, -List.map_append]; done) | simp [obsB, AV.bddss, AV.bdds, AV.bdd, -List.map_append, -List.map_set, -List.map_take, -List.map_drop, -List.map_cons, -List.map_map]) rfl (⟨Ob.ren0 (Entry.rows_bdd 0 _), trivial⟩) (⟨Ob.ren0 (Entry.rows_bdd 0 _), trivial⟩) (trivial) rfl rfl).pre ⟨AV.wk_refl_any _, AV.wk_refl_any _, ⟨rfl, rfl, .inl rfl⟩, trivial⟩) ?_
  refine And.intro (by first | (simp [obsB, AV.bddss, AV.bdds, AV.bdd]; done) | (simp [obsB, AV.bddss, AV.bdds, AV.bdd, -List.map_append]; done) | simp [obsB, AV.bddss, AV.bdds, AV.bdd, -List.map_append, -List.map_set, -List.map_take, -List.map_drop, -List.map_cons, -List.map_map]) ?_
  rfl
def putE (most : Int) (l : List Entry) (e : Entry) : Int := if findB l e.card.key = true then 0 else if most ≤ (l.length : Int) then 24 else 0
def putL (most : Int) (l : List Entry) (e : Entry) : List Entry := if findB l e.card.key = true then l.set (findP l e.card.key) e else if most ≤ (l.length : Int) then l else l.take (findP l e.card.key) ++ e :: l.drop (findP l e.card.key)
def putG (most : Int) (l : List Entry) (e : Entry) (g : Nat) : Nat := if findB l e.card.key = true then g else if most ≤ (l.length : Int) then g else g + 1
theorem putL_len (most : Int) (l : List Entry) (e : Entry) : (putL most l e).length ≤ l.length + 1 := by
  have := findP_le l e.card.key
  unfold putL; split
  · simp
  · split
    · omega
    · simp; omega
theorem putL_most {most : Int} {l : List Entry} {e : Entry} (h : (l.length : Int) ≤ most) : ((putL most l e).length : Int) ≤ most := by
  have := findP_le l e.card.key
  unfold putL; split
  · simpa using h
  · split
    · exact h
    · simp; omega
def zE : Entry := ⟨⟨⟨⟨#[]⟩, ⟨#[]⟩⟩, 0, 0, 0, ⟨0, 0, 0⟩, false⟩, 0⟩
def dropL (l : List Entry) (k : Key) : List Entry := if findB l k = true then l.take (findP l k) ++ l.drop (findP l k + 1) else l
def getE (l : List Entry) (k : Key) : Entry := if findB l k = true then nth l (findP l k) else zE
theorem dropL_len (l : List Entry) (k : Key) : (dropL l k).length ≤ l.length := by
  unfold dropL; split
  · simp; omega
  · omega
theorem put_spec (most : Int) (l : List Entry) (e : Entry) (g n : Nat) (hn : n = l.length) (hl : l.length < 1048576) : ACalls Try.prog 23 [(AV.obj 0 0 0 0), (AV.agg (Entry.row e))] ([⟨0, 2, [[(AV.int .i64 most), (AV.osl 1 g 10 0 n)]], none⟩, ⟨g, 10, (List.map Entry.row l), none⟩] : Heap) ((AV.int .i64 (putE most l e)), ([⟨0, 2, [[(AV.int .i64 most), (AV.osl 1 (putG most l e g) 10 0 (List.length (putL most l e)))]], none⟩, ⟨(putG most l e g), 10, (List.map Entry.row (putL most l e)), none⟩] : Heap)) := by
  subst hn
  have hle := findP_le l e.card.key
  cases hb : findB l e.card.key with
  | true =>
    have h1 : putE most l e = 0 := by simp [putE, hb]
    have h2 : putL most l e = l.set (findP l e.card.key) e := by simp [putL, hb]
    have h3 : putG most l e g = g := by simp [putG, hb]
    rw [h1, h2, h3, List.length_set]
    exact putIn_spec most l e g l.length rfl hl hb
  | false =>
    by_cases hm : most ≤ (l.length : Int)
    · have h1 : putE most l e = 24 := by simp [putE, hb, hm]
      have h2 : putL most l e = l := by simp [putL, hb, hm]
      have h3 : putG most l e g = g := by simp [putG, hb, hm]
      rw [h1, h2, h3]
      exact putFull_spec most l e g l.length rfl hl hb hm
    · have h1 : putE most l e = 0 := by simp [putE, hb, hm]
      have h2 : putL most l e = l.take (findP l e.card.key) ++ e :: l.drop (findP l e.card.key) := by simp [putL, hb, hm]
      have h3 : putG most l e g = g + 1 := by simp [putG, hb, hm]
      have h4 : (l.take (findP l e.card.key) ++ e :: l.drop (findP l e.card.key)).length = l.length + 1 := by simp; omega
      rw [h1, h2, h3, h4]
      exact putNew_spec most l e g l.length rfl hl hb (by omega)
theorem put_at (most : Int) (l : List Entry) (e : Entry) (g n : Nat) (hn : n = l.length) (hl : l.length < 1048576) (H : Heap) : ACalls Try.prog 23 [(AV.obj 0 0 0 0), (AV.agg (Entry.row e))] (([⟨0, 2, [[(AV.int .i64 most), (AV.osl 1 g 10 0 n)]], none⟩, ⟨g, 10, (List.map Entry.row l), none⟩] : Heap) ++ H) ((AV.int .i64 (putE most l e)), ([⟨0, 2, [[(AV.int .i64 most), (AV.osl 1 (putG most l e g) 10 0 (List.length (putL most l e)))]], none⟩, ⟨(putG most l e g), 10, (List.map Entry.row (putL most l e)), none⟩] : Heap) ++ H) := (put_spec most l e g n hn hl).ext (by kernel_rfl) (by kernel_rfl) (by first | (simp [obsB, AV.bddss, AV.bdds, AV.bdd]; done) | (simp [obsB, AV.bddss, AV.bdds, AV.bdd, -List.map_append]; done) | simp [obsB, AV.bddss, AV.bdds, AV.bdd, -List.map_append, -List.map_set, -List.map_take, -List.map_drop, -List.map_cons, -List.map_map]) (by first | (simp [obsB, AV.bddss, AV.bdds, AV.bdd]; done) | (simp [obsB, AV.bddss, AV.bdds, AV.bdd, -List.map_append]; done) | simp [obsB, AV.bddss, AV.bdds, AV.bdd, -List.map_append, -List.map_set, -List.map_take, -List.map_drop, -List.map_cons, -List.map_map]) (by kernel_rfl) H
def dropIn_ann : Ann := { refs := [3], base := 2, fin := some 2 }
set_option maxRecDepth 100000 in
theorem dropIn_spec (most : Int) (l : List Entry) (k : Key) (g n : Nat) (hn : n = l.length) (hl : l.length < 1048576) (hb : findB l k = true) : ACalls Try.prog 22 [(AV.obj 0 0 0 0), (AV.agg (Key.row k))] ([⟨0, 2, [[(AV.int .i64 most), (AV.osl 1 g 10 0 n)]], none⟩, ⟨g, 10, (List.map Entry.row l), none⟩] : Heap) ((AV.bool true), ([⟨0, 2, [[(AV.int .i64 most), (AV.osl 1 g 10 0 (n - 1))]], none⟩, ⟨g, 10, (List.map Entry.row (l.take (findP l k) ++ l.drop ((findP l k) + 1))), none⟩] : Heap)) := by
  have hle := findP_le l k
  have hlt := findB_lt hb
  refine spec (fn := Try.f22) (ann := dropIn_ann) (t := (.reg [] [] [] (.reg [(2, ((AV.tup [(AV.int .i64 (((findP l k) : Nat) : Int)), (AV.bool (findB l k))]), ([⟨0, 2, [[(AV.int .i64 most), (AV.osl 1 g 10 0 n)]], none⟩, ⟨g, 10, (List.map Entry.row l), none⟩] : Heap)))] [] [] (.reg [(0, ((AV.bool true), ([⟨0, 2, [[(AV.int .i64 most), (AV.osl 1 g 10 0 n)]], none⟩, ⟨g, 10, (List.map Entry.row l), none⟩] : Heap)))] [] [] (.two (.reg [(7, ((AV.int .i64 (((findP l k) + 1 : Nat) : Int)), ([⟨0, 2, [[(AV.int .i64 most), (AV.osl 1 g 10 0 n)]], none⟩, ⟨g, 10, (List.map Entry.row l), none⟩] : Heap))), (8, ((AV.osl 1 g 10 0 (n - 1)), ([⟨0, 2, [[(AV.int .i64 most), (AV.osl 1 g 10 0 n)]], none⟩, ⟨g, 10, (List.map Entry.row (l.take (findP l k) ++ l.drop ((findP l k) + 1))), none⟩] : Heap)))] [] [] (.reg [(0, ((AV.bool true), ([⟨0, 2, [[(AV.int .i64 most), (AV.osl 1 g 10 0 (n - 1))]], none⟩, ⟨g, 10, (List.map Entry.row (l.take (findP l k) ++ l.drop ((findP l k) + 1))), none⟩] : Heap)))] [] [] .nil)) .nil))))) (Nat.le_of_ble_eq_true (by kernel_rfl)) ⟨Try.func22, by kernel_rfl, by kernel_rfl, by kernel_rfl⟩ ?_
  refine Eq.mp (by kernel_rfl : ((ACalls Try.prog 60 [(AV.obj 0 0 0 0), (AV.agg (Key.row k))] ([⟨0, 2, [[(AV.int .i64 most), (AV.osl 1 g 10 0 n)]], none⟩, ⟨g, 10, (List.map Entry.row l), none⟩] : Heap) ((AV.tup [(AV.int .i64 (((findP l k) : Nat) : Int)), (AV.bool (findB l k))]), ([⟨0, 2, [[(AV.int .i64 most), (AV.osl 1 g 10 0 n)]], none⟩, ⟨g, 10, (List.map Entry.row l), none⟩] : Heap))) ∧ (Yes (AV.bool (findB l k)) ([⟨0, 2, [[(AV.int .i64 most), (AV.osl 1 g 10 0 n)]], none⟩, ⟨g, 10, (List.map Entry.row l), none⟩] : Heap) (AV.bool true)) ∧ (Yes (.int .i64 (IntKind.i64.wrap ((((findP l k) : Nat) : Int) + 1))) ([⟨0, 2, [[(AV.int .i64 most), (AV.osl 1 g 10 0 n)]], none⟩, ⟨g, 10, (List.map Entry.row l), none⟩] : Heap) (AV.int .i64 (((findP l k) + 1 : Nat) : Int))) ∧ (ACalls Try.prog 61 [(AV.osl 1 g 10 0 n), (AV.int .i64 (((findP l k) : Nat) : Int)), (AV.int .i64 (((findP l k) + 1 : Nat) : Int))] ([⟨0, 2, [[(AV.int .i64 most), (AV.osl 1 g 10 0 n)]], none⟩, ⟨g, 10, (List.map Entry.row l), none⟩] : Heap) ((AV.osl 1 g 10 0 (n - 1)), ([⟨0, 2, [[(AV.int .i64 most), (AV.osl 1 g 10 0 n)]], none⟩, ⟨g, 10, (List.map Entry.row (l.take (findP l k) ++ l.drop ((findP l k) + 1))), none⟩] : Heap))) ∧ (Yes (AV.bool (findB l k)) ([⟨0, 2, [[(AV.int .i64 most), (AV.osl 1 g 10 0 (n - 1))]], none⟩, ⟨g, 10, (List.map Entry.row (l.take (findP l k) ++ l.drop ((findP l k) + 1))), none⟩] : Heap) (AV.bool true)) ∧ (AV.bdd 2 (AV.bool true) = true ∧ obsB 2 ([⟨0, 2, [[(AV.int .i64 most), (AV.osl 1 g 10 0 (n - 1))]], none⟩, ⟨g, 10, (List.map Entry.row (l.take (findP l k) ++ l.drop ((findP l k) + 1))), none⟩] : Heap) = true) ∧ ((AV.bool true), ([⟨0, 2, [[(AV.int .i64 most), (AV.osl 1 g 10 0 (n - 1))]], none⟩, ⟨g, 10, (List.map Entry.row (l.take (findP l k) ++ l.drop ((findP l k) + 1))), none⟩] : Heap)) = ((AV.bool true), ([⟨0, 2, [[(AV.int .i64 most), (AV.osl 1 g 10 0 (n - 1))]], none⟩, ⟨g, 10, (List.map Entry.row (l.take (findP l k) ++ l.drop ((findP l k) + 1))), none⟩] : Heap))) = _) ?_
  refine And.intro (find_at most l k g n (by first | omega | assumption | (simp; done) | (simp; omega) | (simp_all; done) | (simp_all; omega)) (by first | omega | assumption | (simp; done) | (simp; omega) | (simp_all; done) | (simp_all; omega)) ([] : Heap)) ?_
  refine And.intro (Yes.bool (hb)) ?_
  refine And.intro (Yes.add (by omega) (by omega) (by omega)) ?_
  refine And.intro ((ACalls.put (H1 := ([⟨g, 10, (List.map Entry.row (l.take (findP l k) ++ l.drop ((findP l k) + 1))), none⟩] : Heap)) (N := ([] : Heap)) (Hg := ([⟨g, 10, (List.map Entry.row l), none⟩] : Heap)) (H1' := ([⟨g, 10, (List.map Entry.row (l.take (findP l k) ++ l.drop ((findP l k) + 1))), none⟩] : Heap)) (N' := ([] : Heap)) [1] (DelE_spec l g (findP l k) n (by first | omega | assumption | (simp; done) | (simp; omega) | (simp_all; done) | (simp_all; omega)) (by first | omega | assumption | (simp; done) | (simp; omega) | (simp_all; done) | (simp_all; omega)) (by first | omega | assumption | (simp; done) | (simp; omega) | (simp_all; done) | (simp_all; omega))) (by kernel_rfl) rfl rfl (by kernel_rfl) (by first | (simp [obsB, AV.bddss, AV.bdds, AV.bdd]; done) | (simp [obsB, AV.bddss, AV.bdds, AV.bdd, -List.map_append]; done) | simp [obsB, AV.bddss, AV.bdds, AV.bdd, -List.map_append, -List.map_set, -List.map_take, -List.map_drop, -List.map_cons, -List.map_map]) rfl (⟨Ob.ren0 (Entry.rows_bdd 0 _), trivial⟩) (⟨Ob.ren0 (Entry.rows_bdd 0 _), trivial⟩) (trivial) rfl rfl).pre ⟨AV.wk_refl_any _, AV.wk_refl_any _, AV.wk_refl_any _, trivial⟩) ?_
  refine And.intro (Yes.bool (hb)) ?_
  refine And.intro (by first | (simp [obsB, AV.bddss, AV.bdds, AV.bdd]; done) | (simp [obsB, AV.bddss, AV.bdds, AV.bdd, -List.map_append]; done) | simp [obsB, AV.bddss, AV.bdds, AV.bdd, -List.map_append, -List.map_set, -List.map_take, -List.map_drop, -List.map_cons, -List.map_map]) ?_
  rfl
def dropOut_ann : Ann := { refs := [3], base := 2, fin := some 2 }
set_option maxRecDepth 100000 in
theorem dropOut_spec (most : Int) (l : List Entry) (k : Key) (g n : Nat) (hn : n = l.length) (hl : l.length < 1048576) (hb : findB l k = false) : ACalls Try.prog 22 [(AV.obj 0 0 0 0), (AV.agg (Key.row k))] ([⟨0, 2, [[(AV.int .i64 most), (AV.osl 1 g 10 0 n)]], none⟩, ⟨g, 10, (List.map Entry.row l), none⟩] : Heap) ((AV.bool false), ([⟨0, 2, [[(AV.int .i64 most), (AV.osl 1 g 10 0 n)]], none⟩, ⟨g, 10, (List.map Entry.row l), none⟩] : Heap)) := by
  have hle := findP_le l k
  refine spec (fn := Try.f22) (ann := dropOut_ann) (t := (.reg [] [] [] (.reg [(2, ((AV.tup [(AV.int .i64 (((findP l k) : Nat) : Int)), (AV.bool (findB l k))]), ([⟨0, 2, [[(AV.int .i64 most), (AV.osl 1 g 10 0 n)]], none⟩, ⟨g, 10, (List.map Entry.row l), none⟩] : Heap)))] [] [] (.reg [(0, ((AV.bool false), ([⟨0, 2, [[(AV.int .i64 most), (AV.osl 1 g 10 0 n)]], none⟩, ⟨g, 10, (List.map Entry.row l), none⟩] : Heap)))] [] [] (.two .nil (.reg [(0, ((AV.bool false), ([⟨0, 2, [[(AV.int .i64 most), (AV.osl 1 g 10 0 n)]], none⟩, ⟨g, 10, (List.map Entry.row l), none⟩] : Heap)))] [] [] .nil)))))) (Nat.le_of_ble_eq_true (by kernel_rfl)) ⟨Try.func22, by kernel_rfl, by kernel_rfl, by kernel_rfl⟩ ?_
  refine Eq.mp (by kernel_rfl : ((ACalls Try.prog 60 [(AV.obj 0 0 0 0), (AV.agg (Key.row k))] ([⟨0, 2, [[(AV.int .i64 most), (AV.osl 1 g 10 0 n)]], none⟩, ⟨g, 10, (List.map Entry.row l), none⟩] : Heap) ((AV.tup [(AV.int .i64 (((findP l k) : Nat) : Int)), (AV.bool (findB l k))]), ([⟨0, 2, [[(AV.int .i64 most), (AV.osl 1 g 10 0 n)]], none⟩, ⟨g, 10, (List.map Entry.row l), none⟩] : Heap))) ∧ (Yes (AV.bool (findB l k)) ([⟨0, 2, [[(AV.int .i64 most), (AV.osl 1 g 10 0 n)]], none⟩, ⟨g, 10, (List.map Entry.row l), none⟩] : Heap) (AV.bool false)) ∧ (Yes (AV.bool (findB l k)) ([⟨0, 2, [[(AV.int .i64 most), (AV.osl 1 g 10 0 n)]], none⟩, ⟨g, 10, (List.map Entry.row l), none⟩] : Heap) (AV.bool false)) ∧ (AV.bdd 2 (AV.bool false) = true ∧ obsB 2 ([⟨0, 2, [[(AV.int .i64 most), (AV.osl 1 g 10 0 n)]], none⟩, ⟨g, 10, (List.map Entry.row l), none⟩] : Heap) = true) ∧ ((AV.bool false), ([⟨0, 2, [[(AV.int .i64 most), (AV.osl 1 g 10 0 n)]], none⟩, ⟨g, 10, (List.map Entry.row l), none⟩] : Heap)) = ((AV.bool false), ([⟨0, 2, [[(AV.int .i64 most), (AV.osl 1 g 10 0 n)]], none⟩, ⟨g, 10, (List.map Entry.row l), none⟩] : Heap))) = _) ?_
  refine And.intro (find_at most l k g n (by first | omega | assumption | (simp; done) | (simp; omega) | (simp_all; done) | (simp_all; omega)) (by first | omega | assumption | (simp; done) | (simp; omega) | (simp_all; done) | (simp_all; omega)) ([] : Heap)) ?_
  refine And.intro (Yes.bool (hb)) ?_
  refine And.intro (Yes.bool (hb)) ?_
  refine And.intro (by first | (simp [obsB, AV.bddss, AV.bdds, AV.bdd]; done) | (simp [obsB, AV.bddss, AV.bdds, AV.bdd, -List.map_append]; done) | simp [obsB, AV.bddss, AV.bdds, AV.bdd, -List.map_append, -List.map_set, -List.map_take, -List.map_drop, -List.map_cons, -List.map_map]) ?_
  rfl
theorem drop_spec (most : Int) (l : List Entry) (k : Key) (g n : Nat) (hn : n = l.length) (hl : l.length < 1048576) : ACalls Try.prog 22 [(AV.obj 0 0 0 0), (AV.agg (Key.row k))] ([⟨0, 2, [[(AV.int .i64 most), (AV.osl 1 g 10 0 n)]], none⟩, ⟨g, 10, (List.map Entry.row l), none⟩] : Heap) ((AV.bool (findB l k)), ([⟨0, 2, [[(AV.int .i64 most), (AV.osl 1 g 10 0 (List.length (dropL l k)))]], none⟩, ⟨g, 10, (List.map Entry.row (dropL l k)), none⟩] : Heap)) := by
  subst hn
  have hle := findP_le l k
  cases hb : findB l k with
  | true =>
    have hlt := findB_lt hb
    have h2 : dropL l k = l.take (findP l k) ++ l.drop (findP l k + 1) := by simp [dropL, hb]
    have h4 : (l.take (findP l k) ++ l.drop (findP l k + 1)).length = l.length - 1 := by simp; omega
    rw [h2, h4]
    exact dropIn_spec most l k g l.length rfl hl hb
  | false =>
    have h2 : dropL l k = l := by simp [dropL, hb]
    rw [h2]
    exact dropOut_spec most l k g l.length rfl hl hb
theorem drop_at (most : Int) (l : List Entry) (k : Key) (g n : Nat) (hn : n = l.length) (hl : l.length < 1048576) (H : Heap) : ACalls Try.prog 22 [(AV.obj 0 0 0 0), (AV.agg (Key.row k))] (([⟨0, 2, [[(AV.int .i64 most), (AV.osl 1 g 10 0 n)]], none⟩, ⟨g, 10, (List.map Entry.row l), none⟩] : Heap) ++ H) ((AV.bool (findB l k)), ([⟨0, 2, [[(AV.int .i64 most), (AV.osl 1 g 10 0 (List.length (dropL l k)))]], none⟩, ⟨g, 10, (List.map Entry.row (dropL l k)), none⟩] : Heap) ++ H) := (drop_spec most l k g n hn hl).ext (by kernel_rfl) (by kernel_rfl) (by first | (simp [obsB, AV.bddss, AV.bdds, AV.bdd]; done) | (simp [obsB, AV.bddss, AV.bdds, AV.bdd, -List.map_append]; done) | simp [obsB, AV.bddss, AV.bdds, AV.bdd, -List.map_append, -List.map_set, -List.map_take, -List.map_drop, -List.map_cons, -List.map_map]) (by first | (simp [obsB, AV.bddss, AV.bdds, AV.bdd]; done) | (simp [obsB, AV.bddss, AV.bdds, AV.bdd, -List.map_append]; done) | simp [obsB, AV.bddss, AV.bdds, AV.bdd, -List.map_append, -List.map_set, -List.map_take, -List.map_drop, -List.map_cons, -List.map_map]) (by kernel_rfl) H
def getIn_ann : Ann := { refs := [3], base := 2, fin := some 2 }
set_option maxRecDepth 100000 in
theorem getIn_spec (most : Int) (l : List Entry) (k : Key) (g n : Nat) (hn : n = l.length) (hl : l.length < 1048576) (hb : findB l k = true) : ACalls Try.prog 24 [(AV.obj 0 0 0 0), (AV.agg (Key.row k))] ([⟨0, 2, [[(AV.int .i64 most), (AV.osl 1 g 10 0 n)]], none⟩, ⟨g, 10, (List.map Entry.row l), none⟩] : Heap) ((AV.tup [(AV.agg (Entry.row (nth l (findP l k)))), (AV.bool true)]), ([⟨0, 2, [[(AV.int .i64 most), (AV.osl 1 g 10 0 n)]], none⟩, ⟨g, 10, (List.map Entry.row l), none⟩] : Heap)) := by
  have hle := findP_le l k
  have hlt := findB_lt hb
  refine spec (fn := Try.f24) (ann := getIn_ann) (t := (.reg [] [] [] (.reg [(2, ((AV.tup [(AV.int .i64 (((findP l k) : Nat) : Int)), (AV.bool (findB l k))]), ([⟨0, 2, [[(AV.int .i64 most), (AV.osl 1 g 10 0 n)]], none⟩, ⟨g, 10, (List.map Entry.row l), none⟩, ⟨0, 10, [[(AV.str (ByteArray.mk #[])), (AV.str (ByteArray.mk #[])), (AV.int .i64 0), (AV.int .i64 0), (AV.int .i64 0), (AV.int .i64 0), (AV.int .i64 0), (AV.int .i64 0), (AV.bool false), (AV.int .i64 0)]], none⟩] : Heap)))] [] [] (.reg [(1, ((AV.bool false), ([⟨0, 2, [[(AV.int .i64 most), (AV.osl 1 g 10 0 n)]], none⟩, ⟨g, 10, (List.map Entry.row l), none⟩, ⟨0, 10, [[(AV.str (ByteArray.mk #[])), (AV.str (ByteArray.mk #[])), (AV.int .i64 0), (AV.int .i64 0), (AV.int .i64 0), (AV.int .i64 0), (AV.int .i64 0), (AV.int .i64 0), (AV.bool false), (AV.int .i64 0)]], none⟩] : Heap)))] [] [] (.two .nil (.reg [(5, ((AV.obj 1 g (findP l k) 0), ([⟨0, 2, [[(AV.int .i64 most), (AV.osl 1 g 10 0 n)]], none⟩, ⟨g, 10, (List.map Entry.row l), none⟩, ⟨0, 10, [[(AV.str (ByteArray.mk #[])), (AV.str (ByteArray.mk #[])), (AV.int .i64 0), (AV.int .i64 0), (AV.int .i64 0), (AV.int .i64 0), (AV.int .i64 0), (AV.int .i64 0), (AV.bool false), (AV.int .i64 0)]], none⟩] : Heap))), (6, ((AV.agg (Entry.row (nth l (findP l k)))), ([⟨0, 2, [[(AV.int .i64 most), (AV.osl 1 g 10 0 n)]], none⟩, ⟨g, 10, (List.map Entry.row l), none⟩, ⟨0, 10, [[(AV.str (ByteArray.mk #[])), (AV.str (ByteArray.mk #[])), (AV.int .i64 0), (AV.int .i64 0), (AV.int .i64 0), (AV.int .i64 0), (AV.int .i64 0), (AV.int .i64 0), (AV.bool false), (AV.int .i64 0)]], none⟩] : Heap)))] [] [] .nil)))))) (Nat.le_of_ble_eq_true (by kernel_rfl)) ⟨Try.func24, by kernel_rfl, by kernel_rfl, by kernel_rfl⟩ ?_
  refine Eq.mp (by kernel_rfl : ((ACalls Try.prog 60 [(AV.obj 0 0 0 0), (AV.agg (Key.row k))] ([⟨0, 2, [[(AV.int .i64 most), (AV.osl 1 g 10 0 n)]], none⟩, ⟨g, 10, (List.map Entry.row l), none⟩, ⟨0, 10, [[(AV.str (ByteArray.mk #[])), (AV.str (ByteArray.mk #[])), (AV.int .i64 0), (AV.int .i64 0), (AV.int .i64 0), (AV.int .i64 0), (AV.int .i64 0), (AV.int .i64 0), (AV.bool false), (AV.int .i64 0)]], none⟩] : Heap) ((AV.tup [(AV.int .i64 (((findP l k) : Nat) : Int)), (AV.bool (findB l k))]), ([⟨0, 2, [[(AV.int .i64 most), (AV.osl 1 g 10 0 n)]], none⟩, ⟨g, 10, (List.map Entry.row l), none⟩, ⟨0, 10, [[(AV.str (ByteArray.mk #[])), (AV.str (ByteArray.mk #[])), (AV.int .i64 0), (AV.int .i64 0), (AV.int .i64 0), (AV.int .i64 0), (AV.int .i64 0), (AV.int .i64 0), (AV.bool false), (AV.int .i64 0)]], none⟩] : Heap))) ∧ (Yes (AV.bool (!(findB l k))) ([⟨0, 2, [[(AV.int .i64 most), (AV.osl 1 g 10 0 n)]], none⟩, ⟨g, 10, (List.map Entry.row l), none⟩, ⟨0, 10, [[(AV.str (ByteArray.mk #[])), (AV.str (ByteArray.mk #[])), (AV.int .i64 0), (AV.int .i64 0), (AV.int .i64 0), (AV.int .i64 0), (AV.int .i64 0), (AV.int .i64 0), (AV.bool false), (AV.int .i64 0)]], none⟩] : Heap) (AV.bool false)) ∧ (IdxOsl 1 g 10 10 0 n (((findP l k) : Nat) : Int) ([⟨0, 2, [[(AV.int .i64 most), (AV.osl 1 g 10 0 n)]], none⟩, ⟨g, 10, (List.map Entry.row l), none⟩, ⟨0, 10, [[(AV.str (ByteArray.mk #[])), (AV.str (ByteArray.mk #[])), (AV.int .i64 0), (AV.int .i64 0), (AV.int .i64 0), (AV.int .i64 0), (AV.int .i64 0), (AV.int .i64 0), (AV.bool false), (AV.int .i64 0)]], none⟩] : Heap) (findP l k)) ∧ (LoadTo tt 42 0 ([⟨0, 2, [[(AV.int .i64 most), (AV.osl 1 g 10 0 n)]], none⟩, ⟨g, 10, (List.map Entry.row l), none⟩, ⟨0, 10, [[(AV.str (ByteArray.mk #[])), (AV.str (ByteArray.mk #[])), (AV.int .i64 0), (AV.int .i64 0), (AV.int .i64 0), (AV.int .i64 0), (AV.int .i64 0), (AV.int .i64 0), (AV.bool false), (AV.int .i64 0)]], none⟩] : Heap) (rowAt ([⟨0, 2, [[(AV.int .i64 most), (AV.osl 1 g 10 0 n)]], none⟩, ⟨g, 10, (List.map Entry.row l), none⟩, ⟨0, 10, [[(AV.str (ByteArray.mk #[])), (AV.str (ByteArray.mk #[])), (AV.int .i64 0), (AV.int .i64 0), (AV.int .i64 0), (AV.int .i64 0), (AV.int .i64 0), (AV.int .i64 0), (AV.bool false), (AV.int .i64 0)]], none⟩] : Heap) 1 g (findP l k)) = some ((AV.agg (Entry.row (nth l (findP l k)))), ([⟨0, 2, [[(AV.int .i64 most), (AV.osl 1 g 10 0 n)]], none⟩, ⟨g, 10, (List.map Entry.row l), none⟩, ⟨0, 10, [[(AV.str (ByteArray.mk #[])), (AV.str (ByteArray.mk #[])), (AV.int .i64 0), (AV.int .i64 0), (AV.int .i64 0), (AV.int .i64 0), (AV.int .i64 0), (AV.int .i64 0), (AV.bool false), (AV.int .i64 0)]], none⟩] : Heap))) ∧ (AV.bdd 2 (AV.tup [(AV.agg (Entry.row (nth l (findP l k)))), (AV.bool true)]) = true ∧ obsB 2 ([⟨0, 2, [[(AV.int .i64 most), (AV.osl 1 g 10 0 n)]], none⟩, ⟨g, 10, (List.map Entry.row l), none⟩] : Heap) = true) ∧ ((AV.tup [(AV.agg (Entry.row (nth l (findP l k)))), (AV.bool true)]), ([⟨0, 2, [[(AV.int .i64 most), (AV.osl 1 g 10 0 n)]], none⟩, ⟨g, 10, (List.map Entry.row l), none⟩] : Heap)) = ((AV.tup [(AV.agg (Entry.row (nth l (findP l k)))), (AV.bool true)]), ([⟨0, 2, [[(AV.int .i64 most), (AV.osl 1 g 10 0 n)]], none⟩, ⟨g, 10, (List.map Entry.row l), none⟩] : Heap))) = _) ?_
  refine And.intro (find_at most l k g n (by first | omega | assumption | (simp; done) | (simp; omega) | (simp_all; done) | (simp_all; omega)) (by first | omega | assumption | (simp; done) | (simp; omega) | (simp_all; done) | (simp_all; omega)) ([⟨0, 10, [[(AV.str (ByteArray.mk #[])), (AV.str (ByteArray.mk #[])), (AV.int .i64 0), (AV.int .i64 0), (AV.int .i64 0), (AV.int .i64 0), (AV.int .i64 0), (AV.int .i64 0), (AV.bool false), (AV.int .i64 0)]], none⟩] : Heap)) ?_
  refine And.intro (Yes.bool (by rw [hb]; rfl)) ?_
  refine And.intro (IdxOsl.mk _ (by omega) (by omega)) ?_
  refine And.intro (load_row (rowAt_map (row := Entry.row) (l := l) (k := 10) (room := none) (by kernel_rfl) (by first | omega | (simp; done) | (simp; omega))) (by kernel_rfl)) ?_
  refine And.intro (by first | (simp [obsB, AV.bddss, AV.bdds, AV.bdd]; done) | (simp [obsB, AV.bddss, AV.bdds, AV.bdd, -List.map_append]; done) | simp [obsB, AV.bddss, AV.bdds, AV.bdd, -List.map_append, -List.map_set, -List.map_take, -List.map_drop, -List.map_cons, -List.map_map]) ?_
  rfl
def getOut_ann : Ann := { refs := [3], base := 2, fin := some 2 }
set_option maxRecDepth 100000 in
theorem getOut_spec (most : Int) (l : List Entry) (k : Key) (g n : Nat) (hn : n = l.length) (hl : l.length < 1048576) (hb : findB l k = false) : ACalls Try.prog 24 [(AV.obj 0 0 0 0), (AV.agg (Key.row k))] ([⟨0, 2, [[(AV.int .i64 most), (AV.osl 1 g 10 0 n)]], none⟩, ⟨g, 10, (List.map Entry.row l), none⟩] : Heap) ((AV.tup [(AV.agg (Entry.row zE)), (AV.bool false)]), ([⟨0, 2, [[(AV.int .i64 most), (AV.osl 1 g 10 0 n)]], none⟩, ⟨g, 10, (List.map Entry.row l), none⟩] : Heap)) := by
  have hle := findP_le l k
  refine spec (fn := Try.f24) (ann := getOut_ann) (t := (.reg [] [] [] (.reg [(2, ((AV.tup [(AV.int .i64 (((findP l k) : Nat) : Int)), (AV.bool (findB l k))]), ([⟨0, 2, [[(AV.int .i64 most), (AV.osl 1 g 10 0 n)]], none⟩, ⟨g, 10, (List.map Entry.row l), none⟩, ⟨0, 10, [[(AV.str (ByteArray.mk #[])), (AV.str (ByteArray.mk #[])), (AV.int .i64 0), (AV.int .i64 0), (AV.int .i64 0), (AV.int .i64 0), (AV.int .i64 0), (AV.int .i64 0), (AV.bool false), (AV.int .i64 0)]], none⟩] : Heap)))] [] [] (.reg [(1, ((AV.bool true), ([⟨0, 2, [[(AV.int .i64 most), (AV.osl 1 g 10 0 n)]], none⟩, ⟨g, 10, (List.map Entry.row l), none⟩, ⟨0, 10, [[(AV.str (ByteArray.mk #[])), (AV.str (ByteArray.mk #[])), (AV.int .i64 0), (AV.int .i64 0), (AV.int .i64 0), (AV.int .i64 0), (AV.int .i64 0), (AV.int .i64 0), (AV.bool false), (AV.int .i64 0)]], none⟩] : Heap)))] [] [] (.two (.reg [] [] [] .nil) .nil))))) (Nat.le_of_ble_eq_true (by kernel_rfl)) ⟨Try.func24, by kernel_rfl, by kernel_rfl, by kernel_rfl⟩ ?_
  refine Eq.mp (by kernel_rfl : ((ACalls Try.prog 60 [(AV.obj 0 0 0 0), (AV.agg (Key.row k))] ([⟨0, 2, [[(AV.int .i64 most), (AV.osl 1 g 10 0 n)]], none⟩, ⟨g, 10, (List.map Entry.row l), none⟩, ⟨0, 10, [[(AV.str (ByteArray.mk #[])), (AV.str (ByteArray.mk #[])), (AV.int .i64 0), (AV.int .i64 0), (AV.int .i64 0), (AV.int .i64 0), (AV.int .i64 0), (AV.int .i64 0), (AV.bool false), (AV.int .i64 0)]], none⟩] : Heap) ((AV.tup [(AV.int .i64 (((findP l k) : Nat) : Int)), (AV.bool (findB l k))]), ([⟨0, 2, [[(AV.int .i64 most), (AV.osl 1 g 10 0 n)]], none⟩, ⟨g, 10, (List.map Entry.row l), none⟩, ⟨0, 10, [[(AV.str (ByteArray.mk #[])), (AV.str (ByteArray.mk #[])), (AV.int .i64 0), (AV.int .i64 0), (AV.int .i64 0), (AV.int .i64 0), (AV.int .i64 0), (AV.int .i64 0), (AV.bool false), (AV.int .i64 0)]], none⟩] : Heap))) ∧ (Yes (AV.bool (!(findB l k))) ([⟨0, 2, [[(AV.int .i64 most), (AV.osl 1 g 10 0 n)]], none⟩, ⟨g, 10, (List.map Entry.row l), none⟩, ⟨0, 10, [[(AV.str (ByteArray.mk #[])), (AV.str (ByteArray.mk #[])), (AV.int .i64 0), (AV.int .i64 0), (AV.int .i64 0), (AV.int .i64 0), (AV.int .i64 0), (AV.int .i64 0), (AV.bool false), (AV.int .i64 0)]], none⟩] : Heap) (AV.bool true)) ∧ (AV.bdd 2 (AV.tup [(AV.agg [(AV.str (ByteArray.mk #[])), (AV.str (ByteArray.mk #[])), (AV.int .i64 0), (AV.int .i64 0), (AV.int .i64 0), (AV.int .i64 0), (AV.int .i64 0), (AV.int .i64 0), (AV.bool false), (AV.int .i64 0)]), (AV.bool false)]) = true ∧ obsB 2 ([⟨0, 2, [[(AV.int .i64 most), (AV.osl 1 g 10 0 n)]], none⟩, ⟨g, 10, (List.map Entry.row l), none⟩] : Heap) = true) ∧ ((AV.tup [(AV.agg [(AV.str (ByteArray.mk #[])), (AV.str (ByteArray.mk #[])), (AV.int .i64 0), (AV.int .i64 0), (AV.int .i64 0), (AV.int .i64 0), (AV.int .i64 0), (AV.int .i64 0), (AV.bool false), (AV.int .i64 0)]), (AV.bool false)]), ([⟨0, 2, [[(AV.int .i64 most), (AV.osl 1 g 10 0 n)]], none⟩, ⟨g, 10, (List.map Entry.row l), none⟩] : Heap)) = ((AV.tup [(AV.agg (Entry.row zE)), (AV.bool false)]), ([⟨0, 2, [[(AV.int .i64 most), (AV.osl 1 g 10 0 n)]], none⟩, ⟨g, 10, (List.map Entry.row l), none⟩] : Heap))) = _) ?_
  refine And.intro (find_at most l k g n (by first | omega | assumption | (simp; done) | (simp; omega) | (simp_all; done) | (simp_all; omega)) (by first | omega | assumption | (simp; done) | (simp; omega) | (simp_all; done) | (simp_all; omega)) ([⟨0, 10, [[(AV.str (ByteArray.mk #[])), (AV.str (ByteArray.mk #[])), (AV.int .i64 0), (AV.int .i64 0), (AV.int .i64 0), (AV.int .i64 0), (AV.int .i64 0), (AV.int .i64 0), (AV.bool false), (AV.int .i64 0)]], none⟩] : Heap)) ?_
  refine And.intro (Yes.bool (by rw [hb]; rfl)) ?_
  refine And.intro (by first | (simp [obsB, AV.bddss, AV.bdds, AV.bdd]; done) | (simp [obsB, AV.bddss, AV.bdds, AV.bdd, -List.map_append]; done) | simp [obsB, AV.bddss, AV.bdds, AV.bdd, -List.map_append, -List.map_set, -List.map_take, -List.map_drop, -List.map_cons, -List.map_map]) ?_
  rfl
theorem get_spec (most : Int) (l : List Entry) (k : Key) (g n : Nat) (hn : n = l.length) (hl : l.length < 1048576) : ACalls Try.prog 24 [(AV.obj 0 0 0 0), (AV.agg (Key.row k))] ([⟨0, 2, [[(AV.int .i64 most), (AV.osl 1 g 10 0 n)]], none⟩, ⟨g, 10, (List.map Entry.row l), none⟩] : Heap) ((AV.tup [(AV.agg (Entry.row (getE l k))), (AV.bool (findB l k))]), ([⟨0, 2, [[(AV.int .i64 most), (AV.osl 1 g 10 0 n)]], none⟩, ⟨g, 10, (List.map Entry.row l), none⟩] : Heap)) := by
  cases hb : findB l k with
  | true =>
    have h2 : getE l k = nth l (findP l k) := by simp [getE, hb]
    rw [h2]
    exact getIn_spec most l k g n hn hl hb
  | false =>
    have h2 : getE l k = zE := by simp [getE, hb]
    rw [h2]
    exact getOut_spec most l k g n hn hl hb
theorem get_at (most : Int) (l : List Entry) (k : Key) (g n : Nat) (hn : n = l.length) (hl : l.length < 1048576) (H : Heap) : ACalls Try.prog 24 [(AV.obj 0 0 0 0), (AV.agg (Key.row k))] (([⟨0, 2, [[(AV.int .i64 most), (AV.osl 1 g 10 0 n)]], none⟩, ⟨g, 10, (List.map Entry.row l), none⟩] : Heap) ++ H) ((AV.tup [(AV.agg (Entry.row (getE l k))), (AV.bool (findB l k))]), ([⟨0, 2, [[(AV.int .i64 most), (AV.osl 1 g 10 0 n)]], none⟩, ⟨g, 10, (List.map Entry.row l), none⟩] : Heap) ++ H) := (get_spec most l k g n hn hl).ext (by kernel_rfl) (by kernel_rfl) (by first | (simp [obsB, AV.bddss, AV.bdds, AV.bdd]; done) | (simp [obsB, AV.bddss, AV.bdds, AV.bdd, -List.map_append]; done) | simp [obsB, AV.bddss, AV.bdds, AV.bdd, -List.map_append, -List.map_set, -List.map_take, -List.map_drop, -List.map_cons, -List.map_map]) (by first | (simp [obsB, AV.bddss, AV.bdds, AV.bdd]; done) | (simp [obsB, AV.bddss, AV.bdds, AV.bdd, -List.map_append]; done) | simp [obsB, AV.bddss, AV.bdds, AV.bdd, -List.map_append, -List.map_set, -List.map_take, -List.map_drop, -List.map_cons, -List.map_map]) (by kernel_rfl) H
def slen_ann : Ann := { base := 2, fin := some 2 }
set_option maxRecDepth 100000 in
theorem slen_spec (most : Int) (l : List Entry) (g n : Nat)  : ACalls Try.prog 25 [(AV.obj 0 0 0 0)] ([⟨0, 2, [[(AV.int .i64 most), (AV.osl 1 g 10 0 n)]], none⟩, ⟨g, 10, (List.map Entry.row l), none⟩] : Heap) ((AV.int .i64 ((n : Nat) : Int)), ([⟨0, 2, [[(AV.int .i64 most), (AV.osl 1 g 10 0 n)]], none⟩, ⟨g, 10, (List.map Entry.row l), none⟩] : Heap)) := by
  refine spec (fn := Try.f25) (ann := slen_ann) (t := (.reg [] [] [] (.reg [] [] [] .nil))) (Nat.le_of_ble_eq_true (by kernel_rfl)) ⟨Try.func25, by kernel_rfl, by kernel_rfl, by kernel_rfl⟩ ?_
  refine Eq.mp (by kernel_rfl : ((AV.bdd 2 (AV.int .i64 ((n : Nat) : Int)) = true ∧ obsB 2 ([⟨0, 2, [[(AV.int .i64 most), (AV.osl 1 g 10 0 n)]], none⟩, ⟨g, 10, (List.map Entry.row l), none⟩] : Heap) = true) ∧ ((AV.int .i64 ((n : Nat) : Int)), ([⟨0, 2, [[(AV.int .i64 most), (AV.osl 1 g 10 0 n)]], none⟩, ⟨g, 10, (List.map Entry.row l), none⟩] : Heap)) = ((AV.int .i64 ((n : Nat) : Int)), ([⟨0, 2, [[(AV.int .i64 most), (AV.osl 1 g 10 0 n)]], none⟩, ⟨g, 10, (List.map Entry.row l), none⟩] : Heap))) = _) ?_
  refine And.intro (by first | (simp [obsB, AV.bddss, AV.bdds, AV.bdd]; done) | (simp [obsB, AV.bddss, AV.bdds, AV.bdd, -List.map_append]; done) | simp [obsB, AV.bddss, AV.bdds, AV.bdd, -List.map_append, -List.map_set, -List.map_take, -List.map_drop, -List.map_cons, -List.map_map]) ?_
  rfl
theorem slen_at (most : Int) (l : List Entry) (g n : Nat)  (H : Heap) : ACalls Try.prog 25 [(AV.obj 0 0 0 0)] (([⟨0, 2, [[(AV.int .i64 most), (AV.osl 1 g 10 0 n)]], none⟩, ⟨g, 10, (List.map Entry.row l), none⟩] : Heap) ++ H) ((AV.int .i64 ((n : Nat) : Int)), ([⟨0, 2, [[(AV.int .i64 most), (AV.osl 1 g 10 0 n)]], none⟩, ⟨g, 10, (List.map Entry.row l), none⟩] : Heap) ++ H) := (slen_spec most l g n ).ext (by kernel_rfl) (by kernel_rfl) (by first | (simp [obsB, AV.bddss, AV.bdds, AV.bdd]; done) | (simp [obsB, AV.bddss, AV.bdds, AV.bdd, -List.map_append]; done) | simp [obsB, AV.bddss, AV.bdds, AV.bdd, -List.map_append, -List.map_set, -List.map_take, -List.map_drop, -List.map_cons, -List.map_map]) (by first | (simp [obsB, AV.bddss, AV.bdds, AV.bdd]; done) | (simp [obsB, AV.bddss, AV.bdds, AV.bdd, -List.map_append]; done) | simp [obsB, AV.bddss, AV.bdds, AV.bdd, -List.map_append, -List.map_set, -List.map_take, -List.map_drop, -List.map_cons, -List.map_map]) (by kernel_rfl) H
def cloneEN_ann : Ann := { gha := [(2, .vir 2 10)], fin := some 1 }
set_option maxRecDepth 100000 in
theorem cloneEN_spec   : ACalls Try.prog 65 [(AV.sl .nil 0 [])] ([] : Heap) ((AV.osl 0 0 10 0 0), ([⟨0, 10, (List.map Entry.row []), none⟩] : Heap)) := by
  refine spec (fn := Try.f65) (ann := cloneEN_ann) (t := (.reg [] [] [] (.reg [] [] [] (.two (.reg [] [] [] .nil) .nil)))) (Nat.le_of_ble_eq_true (by kernel_rfl)) ⟨Try.func65, by kernel_rfl, by kernel_rfl, by kernel_rfl⟩ ?_
  refine Eq.mp (by kernel_rfl : ((AV.bdd 1 (AV.osl 0 0 10 0 0) = true ∧ obsB 1 ([⟨0, 10, (List.map Entry.row []), none⟩] : Heap) = true) ∧ ((AV.osl 0 0 10 0 0), ([⟨0, 10, (List.map Entry.row []), none⟩] : Heap)) = ((AV.osl 0 0 10 0 0), ([⟨0, 10, (List.map Entry.row []), none⟩] : Heap))) = _) ?_
  refine And.intro (by first | (simp [obsB, AV.bddss, AV.bdds, AV.bdd]; done) | (simp [obsB, AV.bddss, AV.bdds, AV.bdd, -List.map_append]; done) | simp [obsB, AV.bddss, AV.bdds, AV.bdd, -List.map_append, -List.map_set, -List.map_take, -List.map_drop, -List.map_cons, -List.map_map]) ?_
  rfl
def cloneEO_ann : Ann := { own := [7], fin := some 1 }
set_option maxRecDepth 100000 in
theorem cloneEO_spec (l : List Entry) (hl : l.length < 1099511627776) : ACalls Try.prog 65 [(AV.sl .op 10 (List.map Entry.row l))] ([] : Heap) ((AV.osl 0 0 10 0 l.length), ([⟨0, 10, (List.map Entry.row l), none⟩] : Heap)) := by
  refine spec (fn := Try.f65) (ann := cloneEO_ann) (t := (.reg [] [] [] (.reg [] [] [] (.two .nil (.reg [(2, ((AV.osl 0 0 10 0 l.length), ([⟨0, 10, (List.map Entry.row l), none⟩] : Heap)))] [] [] .nil))))) (Nat.le_of_ble_eq_true (by kernel_rfl)) ⟨Try.func65, by kernel_rfl, by kernel_rfl, by kernel_rfl⟩ ?_
  refine Eq.mp (by kernel_rfl : ((evAppendO tt ([] : Heap) 52 (AV.sl .clip 10 []) (AV.sl .op 10 (List.map Entry.row l)) = some ((AV.osl 0 0 10 0 l.length), ([⟨0, 10, (List.map Entry.row l), none⟩] : Heap))) ∧ (AV.bdd 1 (AV.osl 0 0 10 0 l.length) = true ∧ obsB 1 ([⟨0, 10, (List.map Entry.row l), none⟩] : Heap) = true) ∧ ((AV.osl 0 0 10 0 l.length), ([⟨0, 10, (List.map Entry.row l), none⟩] : Heap)) = ((AV.osl 0 0 10 0 l.length), ([⟨0, 10, (List.map Entry.row l), none⟩] : Heap))) = _) ?_
  refine And.intro (evAppendO_fresh (T := tt) (e := 42) (te := { d := .struct [(34, 0), (2, 9)], size := 10, bytes := 96, zero := [.str ⟨#[]⟩, .str ⟨#[]⟩, .int .i64 0, .int .i64 0, .int .i64 0, .int .i64 0, .int .i64 0, .int .i64 0, .bool false, .int .i64 0] }) (z := 1) (b := 24) (y := [.sl .nil 0 []]) (row := Entry.row) (by kernel_rfl) (by kernel_rfl) rfl (by decide) (by decide) (by simp) (by first | (simp [rowsIn, List.map_take, List.map_drop, List.take_of_length_le]; done) | simp [rowsIn, rU8, rI64, rStr, rBool]) rfl rfl rfl (by first | omega | (simp; done) | (simp; omega))) ?_
  refine And.intro (by first | (simp [obsB, AV.bddss, AV.bdds, AV.bdd]; done) | (simp [obsB, AV.bddss, AV.bdds, AV.bdd, -List.map_append]; done) | simp [obsB, AV.bddss, AV.bdds, AV.bdd, -List.map_append, -List.map_set, -List.map_take, -List.map_drop, -List.map_cons, -List.map_map]) ?_
  rfl
theorem cloneE_spec (l : List Entry) (hl : l.length < 1099511627776) : ACalls Try.prog 65 [(AV.sl .any 10 (List.map Entry.row l))] ([] : Heap) ((AV.osl 0 0 10 0 l.length), ([⟨0, 10, (List.map Entry.row l), none⟩] : Heap)) := ACalls.orNil (fun h => by
    have h2 : l = [] := by simpa using h
    subst h2; exact cloneEN_spec) (cloneEO_spec l hl)
theorem cloneE_at (l : List Entry) (hl : l.length < 1099511627776) (H : Heap) : ACalls Try.prog 65 [(AV.sl .any 10 (List.map Entry.row l))] H (.osl H.length 0 10 0 l.length, H ++ ([⟨0, 10, (List.map Entry.row l), none⟩] : Heap)) := (cloneE_spec l hl).lift_osl (by kernel_rfl) (by simp [AV.bddss, Entry.rows_bdd]) H
def sall_ann : Ann := { gha := [(1, .frz 2)], base := 2, fin := some 2 }
set_option maxRecDepth 100000 in
theorem sall_spec (most : Int) (l : List Entry) (g n : Nat) (hn : n = l.length) (hl : l.length < 1048576) : ACalls Try.prog 31 [(AV.obj 0 0 0 0)] ([⟨0, 2, [[(AV.int .i64 most), (AV.osl 1 g 10 0 n)]], none⟩, ⟨g, 10, (List.map Entry.row l), none⟩] : Heap) ((AV.sl .any 10 (List.map Entry.row l)), ([⟨0, 2, [[(AV.int .i64 most), (AV.osl 1 g 10 0 n)]], none⟩, ⟨g, 10, (List.map Entry.row l), none⟩] : Heap)) := by
  refine spec (fn := Try.f31) (ann := sall_ann) (t := (.reg [] [] [] (.reg [(4, ((AV.osl 2 0 10 0 l.length), ([⟨0, 2, [[(AV.int .i64 most), (AV.osl 1 g 10 0 n)]], none⟩, ⟨g, 10, (List.map Entry.row l), none⟩, ⟨0, 10, (List.map Entry.row l), none⟩] : Heap)))] [] [(2, (List.map Entry.row l))] .nil))) (Nat.le_of_ble_eq_true (by kernel_rfl)) ⟨Try.func31, by kernel_rfl, by kernel_rfl, by kernel_rfl⟩ ?_
  refine Eq.mp (by kernel_rfl : ((ACalls Try.prog 65 [(AV.osl 1 g 10 0 n)] ([⟨0, 2, [[(AV.int .i64 most), (AV.osl 1 g 10 0 n)]], none⟩, ⟨g, 10, (List.map Entry.row l), none⟩] : Heap) ((AV.osl 2 0 10 0 l.length), ([⟨0, 2, [[(AV.int .i64 most), (AV.osl 1 g 10 0 n)]], none⟩, ⟨g, 10, (List.map Entry.row l), none⟩, ⟨0, 10, (List.map Entry.row l), none⟩] : Heap))) ∧ (rowsIn ([⟨0, 2, [[(AV.int .i64 most), (AV.osl 1 g 10 0 n)]], none⟩, ⟨g, 10, (List.map Entry.row l), none⟩, ⟨0, 10, (List.map Entry.row l), none⟩] : Heap) 10 (AV.osl 2 0 10 0 l.length) = some (List.map Entry.row l) ∧ AV.bddss 0 (List.map Entry.row l) = true) ∧ (AV.bdd 2 (AV.sl .any 10 (List.map Entry.row l)) = true ∧ obsB 2 ([⟨0, 2, [[(AV.int .i64 most), (AV.osl 1 g 10 0 n)]], none⟩, ⟨g, 10, (List.map Entry.row l), none⟩] : Heap) = true) ∧ ((AV.sl .any 10 (List.map Entry.row l)), ([⟨0, 2, [[(AV.int .i64 most), (AV.osl 1 g 10 0 n)]], none⟩, ⟨g, 10, (List.map Entry.row l), none⟩] : Heap)) = ((AV.sl .any 10 (List.map Entry.row l)), ([⟨0, 2, [[(AV.int .i64 most), (AV.osl 1 g 10 0 n)]], none⟩, ⟨g, 10, (List.map Entry.row l), none⟩] : Heap))) = _) ?_
  refine And.intro (ACalls.borrow_osl (args := [(AV.sl .any 10 (List.map Entry.row l))]) (args' := [(AV.osl 1 g 10 0 n)]) (H := ([⟨0, 2, [[(AV.int .i64 most), (AV.osl 1 g 10 0 n)]], none⟩, ⟨g, 10, (List.map Entry.row l), none⟩] : Heap)) (cloneE_spec l (by first | omega | assumption | (simp; done) | (simp; omega) | (simp_all; done) | (simp_all; omega))) (scalss_map (fun _ => rfl) _) (show Brs ([⟨0, 2, [[(AV.int .i64 most), (AV.osl 1 g 10 0 n)]], none⟩, ⟨g, 10, (List.map Entry.row l), none⟩] : Heap) [(AV.osl 1 g 10 0 n)] [(AV.sl .any 10 (List.map Entry.row l))] from ⟨Br.osl (rowsIn_all (room := none) (by kernel_rfl) (by first | omega | (simp [List.length_set]; done) | (simp [List.length_set]; omega))) (Entry.rows_bdd _ _), trivial⟩)) ?_
  refine And.intro (And.intro (rowsIn_all (room := none) (by kernel_rfl) (by first | omega | (simp; done) | (simp; omega))) (Entry.rows_bdd _ _)) ?_
  refine And.intro (by first | (simp [obsB, AV.bddss, AV.bdds, AV.bdd]; done) | (simp [obsB, AV.bddss, AV.bdds, AV.bdd, -List.map_append]; done) | simp [obsB, AV.bddss, AV.bdds, AV.bdd, -List.map_append, -List.map_set, -List.map_take, -List.map_drop, -List.map_cons, -List.map_map]) ?_
  rfl
theorem sall_at (most : Int) (l : List Entry) (g n : Nat) (hn : n = l.length) (hl : l.length < 1048576) (H : Heap) : ACalls Try.prog 31 [(AV.obj 0 0 0 0)] (([⟨0, 2, [[(AV.int .i64 most), (AV.osl 1 g 10 0 n)]], none⟩, ⟨g, 10, (List.map Entry.row l), none⟩] : Heap) ++ H) ((AV.sl .any 10 (List.map Entry.row l)), ([⟨0, 2, [[(AV.int .i64 most), (AV.osl 1 g 10 0 n)]], none⟩, ⟨g, 10, (List.map Entry.row l), none⟩] : Heap) ++ H) := (sall_spec most l g n hn hl).ext (by kernel_rfl) (by kernel_rfl) (by first | (simp [obsB, AV.bddss, AV.bdds, AV.bdd]; done) | (simp [obsB, AV.bddss, AV.bdds, AV.bdd, -List.map_append]; done) | simp [obsB, AV.bddss, AV.bdds, AV.bdd, -List.map_append, -List.map_set, -List.map_take, -List.map_drop, -List.map_cons, -List.map_map]) (by first | (simp [obsB, AV.bddss, AV.bdds, AV.bdd]; done) | (simp [obsB, AV.bddss, AV.bdds, AV.bdd, -List.map_append]; done) | simp [obsB, AV.bddss, AV.bdds, AV.bdd, -List.map_append, -List.map_set, -List.map_take, -List.map_drop, -List.map_cons, -List.map_map]) (by kernel_rfl) H
def liveL (l : List Entry) : Nat := l.foldl (fun s e => if (!e.card.gone) = true then s + 1 else s) 0
theorem fold_map {α β : Type} (f : α → β) (l : List α) : ∀ (out : List β) (k g : Nat), l.foldl (fun (s : List β × Nat × Nat) c => (s.1 ++ [f c], s.2.1 + 1, s.2.2 + 1)) (out, k, g) = (out ++ l.map f, k + l.length, g + l.length) := by
  induction l with
  | nil => intro out k g; simp
  | cons c l ih => intro out k g; rw [List.foldl_cons, ih]; simp; omega
def slive_ann : Ann := { gha := [(7, .cut 2)], base := 2, fin := some 2, live := [(3, [3, 9, 10, 11])], out := [(3, [3, 9, 10, 11])] }
set_option maxRecDepth 100000 in
theorem slive_step (most : Int) (l : List Entry) (g : Nat) (n : Nat) (k : Nat) (i : Nat) (hn : n = l.length) (hl : l.length < 1048576) (hk : k ≤ i) (hle_ : i ≤ n) {eX : Ex} {FX : Fr} {HX : Heap} (k1 : (decide (((i : Nat) : Int) < ((n : Nat) : Int))) = true → (!(nth l i).card.gone) = true → LoopTo (codeQ Try.prog (X slive_ann) (loopOf Try.f26 0)) (some [3, 9, 10, 11]) (some [3, 9, 10, 11]) (mkF 23 [(3, (AV.int .i64 ((k + 1 : Nat) : Int))), (9, (AV.osl 1 g 10 0 n)), (10, (AV.int .i64 ((n : Nat) : Int))), (11, (AV.int .i64 ((i + 1 : Nat) : Int)))]) ([⟨0, 2, [[(AV.int .i64 most), (AV.osl 1 g 10 0 n)]], none⟩, ⟨g, 10, (List.map Entry.row l), none⟩] : Heap) eX FX HX) (k2 : (decide (((i : Nat) : Int) < ((n : Nat) : Int))) = true → (!(nth l i).card.gone) = false → LoopTo (codeQ Try.prog (X slive_ann) (loopOf Try.f26 0)) (some [3, 9, 10, 11]) (some [3, 9, 10, 11]) (mkF 23 [(3, (AV.int .i64 ((k : Nat) : Int))), (9, (AV.osl 1 g 10 0 n)), (10, (AV.int .i64 ((n : Nat) : Int))), (11, (AV.int .i64 ((i + 1 : Nat) : Int)))]) ([⟨0, 2, [[(AV.int .i64 most), (AV.osl 1 g 10 0 n)]], none⟩, ⟨g, 10, (List.map Entry.row l), none⟩] : Heap) eX FX HX) (k3 : (decide (((i : Nat) : Int) < ((n : Nat) : Int))) = false → ((.exit 0 : Ex), (mkF 23 [(3, (AV.int .i64 ((k : Nat) : Int))), (9, (AV.osl 1 g 10 0 n)), (10, (AV.int .i64 ((n : Nat) : Int))), (11, (AV.int .i64 ((i : Nat) : Int)))]), ([⟨0, 2, [[(AV.int .i64 most), (AV.osl 1 g 10 0 n)]], none⟩, ⟨g, 10, (List.map Entry.row l), none⟩] : Heap)) = (eX, FX, HX)) : LoopTo (codeQ Try.prog (X slive_ann) (loopOf Try.f26 0)) (some [3, 9, 10, 11]) (some [3, 9, 10, 11]) (mkF 23 [(3, (AV.int .i64 ((k : Nat) : Int))), (9, (AV.osl 1 g 10 0 n)), (10, (AV.int .i64 ((n : Nat) : Int))), (11, (AV.int .i64 ((i : Nat) : Int)))]) ([⟨0, 2, [[(AV.int .i64 most), (AV.osl 1 g 10 0 n)]], none⟩, ⟨g, 10, (List.map Entry.row l), none⟩] : Heap) eX FX HX := by
  refine LoopTo.step (.reg [] [] [] (.two (.reg [(0, ((AV.obj 1 g i 0), ([⟨0, 2, [[(AV.int .i64 most), (AV.osl 1 g 10 0 n)]], none⟩, ⟨g, 10, (List.map Entry.row l), none⟩, ⟨0, 10, [[(AV.str (ByteArray.mk #[])), (AV.str (ByteArray.mk #[])), (AV.int .i64 0), (AV.int .i64 0), (AV.int .i64 0), (AV.int .i64 0), (AV.int .i64 0), (AV.int .i64 0), (AV.bool false), (AV.int .i64 0)]], none⟩] : Heap))), (1, ((AV.agg (Entry.row (nth l i))), ([⟨0, 2, [[(AV.int .i64 most), (AV.osl 1 g 10 0 n)]], none⟩, ⟨g, 10, (List.map Entry.row l), none⟩, ⟨0, 10, [[(AV.str (ByteArray.mk #[])), (AV.str (ByteArray.mk #[])), (AV.int .i64 0), (AV.int .i64 0), (AV.int .i64 0), (AV.int .i64 0), (AV.int .i64 0), (AV.int .i64 0), (AV.bool false), (AV.int .i64 0)]], none⟩] : Heap)))] [] [] (.reg [] [] [] (.two (.reg [(1, ((AV.int .i64 ((k + 1 : Nat) : Int)), ([⟨0, 2, [[(AV.int .i64 most), (AV.osl 1 g 10 0 n)]], none⟩, ⟨g, 10, (List.map Entry.row l), none⟩, ⟨0, 10, [(Entry.row (nth l i))], none⟩] : Heap)))] [] [] (.reg [(0, ((AV.int .i64 ((i + 1 : Nat) : Int)), ([⟨0, 2, [[(AV.int .i64 most), (AV.osl 1 g 10 0 n)]], none⟩, ⟨g, 10, (List.map Entry.row l), none⟩, ⟨0, 10, [(Entry.row (nth l i))], none⟩] : Heap)))] [] [] .nil)) (.reg [(0, ((AV.int .i64 ((i + 1 : Nat) : Int)), ([⟨0, 2, [[(AV.int .i64 most), (AV.osl 1 g 10 0 n)]], none⟩, ⟨g, 10, (List.map Entry.row l), none⟩, ⟨0, 10, [(Entry.row (nth l i))], none⟩] : Heap)))] [] [] .nil)))) .nil)) ?_
  refine Eq.mp (by kernel_rfl : (cond (decide (((i : Nat) : Int) < ((n : Nat) : Int))) ((IdxOsl 1 g 10 10 0 n ((i : Nat) : Int) ([⟨0, 2, [[(AV.int .i64 most), (AV.osl 1 g 10 0 n)]], none⟩, ⟨g, 10, (List.map Entry.row l), none⟩, ⟨0, 10, [[(AV.str (ByteArray.mk #[])), (AV.str (ByteArray.mk #[])), (AV.int .i64 0), (AV.int .i64 0), (AV.int .i64 0), (AV.int .i64 0), (AV.int .i64 0), (AV.int .i64 0), (AV.bool false), (AV.int .i64 0)]], none⟩] : Heap) i) ∧ (LoadTo tt 42 0 ([⟨0, 2, [[(AV.int .i64 most), (AV.osl 1 g 10 0 n)]], none⟩, ⟨g, 10, (List.map Entry.row l), none⟩, ⟨0, 10, [[(AV.str (ByteArray.mk #[])), (AV.str (ByteArray.mk #[])), (AV.int .i64 0), (AV.int .i64 0), (AV.int .i64 0), (AV.int .i64 0), (AV.int .i64 0), (AV.int .i64 0), (AV.bool false), (AV.int .i64 0)]], none⟩] : Heap) (rowAt ([⟨0, 2, [[(AV.int .i64 most), (AV.osl 1 g 10 0 n)]], none⟩, ⟨g, 10, (List.map Entry.row l), none⟩, ⟨0, 10, [[(AV.str (ByteArray.mk #[])), (AV.str (ByteArray.mk #[])), (AV.int .i64 0), (AV.int .i64 0), (AV.int .i64 0), (AV.int .i64 0), (AV.int .i64 0), (AV.int .i64 0), (AV.bool false), (AV.int .i64 0)]], none⟩] : Heap) 1 g i) = some ((AV.agg (Entry.row (nth l i))), ([⟨0, 2, [[(AV.int .i64 most), (AV.osl 1 g 10 0 n)]], none⟩, ⟨g, 10, (List.map Entry.row l), none⟩, ⟨0, 10, [[(AV.str (ByteArray.mk #[])), (AV.str (ByteArray.mk #[])), (AV.int .i64 0), (AV.int .i64 0), (AV.int .i64 0), (AV.int .i64 0), (AV.int .i64 0), (AV.int .i64 0), (AV.bool false), (AV.int .i64 0)]], none⟩] : Heap))) ∧ cond (!(nth l i).card.gone) ((Yes (.int .i64 (IntKind.i64.wrap (((k : Nat) : Int) + 1))) ([⟨0, 2, [[(AV.int .i64 most), (AV.osl 1 g 10 0 n)]], none⟩, ⟨g, 10, (List.map Entry.row l), none⟩, ⟨0, 10, [(Entry.row (nth l i))], none⟩] : Heap) (AV.int .i64 ((k + 1 : Nat) : Int))) ∧ (Yes (.int .i64 (IntKind.i64.wrap (((i : Nat) : Int) + 1))) ([⟨0, 2, [[(AV.int .i64 most), (AV.osl 1 g 10 0 n)]], none⟩, ⟨g, 10, (List.map Entry.row l), none⟩, ⟨0, 10, [(Entry.row (nth l i))], none⟩] : Heap) (AV.int .i64 ((i + 1 : Nat) : Int))) ∧ (obsB 2 ([⟨0, 2, [[(AV.int .i64 most), (AV.osl 1 g 10 0 n)]], none⟩, ⟨g, 10, (List.map Entry.row l), none⟩] : Heap) = true) ∧ LoopTo (codeQ Try.prog (X slive_ann) (loopOf Try.f26 0)) (some [3, 9, 10, 11]) (some [3, 9, 10, 11]) (mkF 23 [(3, (AV.int .i64 ((k + 1 : Nat) : Int))), (9, (AV.osl 1 g 10 0 n)), (10, (AV.int .i64 ((n : Nat) : Int))), (11, (AV.int .i64 ((i + 1 : Nat) : Int)))]) ([⟨0, 2, [[(AV.int .i64 most), (AV.osl 1 g 10 0 n)]], none⟩, ⟨g, 10, (List.map Entry.row l), none⟩] : Heap) eX FX HX) ((Yes (.int .i64 (IntKind.i64.wrap (((i : Nat) : Int) + 1))) ([⟨0, 2, [[(AV.int .i64 most), (AV.osl 1 g 10 0 n)]], none⟩, ⟨g, 10, (List.map Entry.row l), none⟩, ⟨0, 10, [(Entry.row (nth l i))], none⟩] : Heap) (AV.int .i64 ((i + 1 : Nat) : Int))) ∧ (obsB 2 ([⟨0, 2, [[(AV.int .i64 most), (AV.osl 1 g 10 0 n)]], none⟩, ⟨g, 10, (List.map Entry.row l), none⟩] : Heap) = true) ∧ LoopTo (codeQ Try.prog (X slive_ann) (loopOf Try.f26 0)) (some [3, 9, 10, 11]) (some [3, 9, 10, 11]) (mkF 23 [(3, (AV.int .i64 ((k : Nat) : Int))), (9, (AV.osl 1 g 10 0 n)), (10, (AV.int .i64 ((n : Nat) : Int))), (11, (AV.int .i64 ((i + 1 : Nat) : Int)))]) ([⟨0, 2, [[(AV.int .i64 most), (AV.osl 1 g 10 0 n)]], none⟩, ⟨g, 10, (List.map Entry.row l), none⟩] : Heap) eX FX HX)) (((.exit 0 : Ex), (mkF 23 [(3, (AV.int .i64 ((k : Nat) : Int))), (9, (AV.osl 1 g 10 0 n)), (10, (AV.int .i64 ((n : Nat) : Int))), (11, (AV.int .i64 ((i : Nat) : Int)))]), ([⟨0, 2, [[(AV.int .i64 most), (AV.osl 1 g 10 0 n)]], none⟩, ⟨g, 10, (List.map Entry.row l), none⟩] : Heap)) = (eX, FX, HX))) = _) ?_
  refine cond_split (fun h1 => ?_) (fun h1 => ?_)
  · have h1' := h1
    try simp at h1'
    refine And.intro (IdxOsl.mk _ (by omega) (by omega)) ?_
    refine And.intro (load_row (rowAt_map (row := Entry.row) (l := l) (k := 10) (room := none) (by kernel_rfl) (by first | omega | (simp; done) | (simp; omega))) (by kernel_rfl)) ?_
    refine cond_split (fun h2 => ?_) (fun h2 => ?_)
    · have h2' := h2
      try simp at h2'
      refine And.intro (Yes.add (by omega) (by omega) (by omega)) ?_
      refine And.intro (Yes.add (by omega) (by omega) (by omega)) ?_
      refine And.intro (by first | (simp [obsB, AV.bddss, AV.bdds, AV.bdd]; done) | (simp [obsB, AV.bddss, AV.bdds, AV.bdd, -List.map_append]; done) | simp [obsB, AV.bddss, AV.bdds, AV.bdd, -List.map_append, -List.map_set, -List.map_take, -List.map_drop, -List.map_cons, -List.map_map]) ?_
      exact k1 h1 h2
    · have h2' := h2
      try simp at h2'
      refine And.intro (Yes.add (by omega) (by omega) (by omega)) ?_
      refine And.intro (by first | (simp [obsB, AV.bddss, AV.bdds, AV.bdd]; done) | (simp [obsB, AV.bddss, AV.bdds, AV.bdd, -List.map_append]; done) | simp [obsB, AV.bddss, AV.bdds, AV.bdd, -List.map_append, -List.map_set, -List.map_take, -List.map_drop, -List.map_cons, -List.map_map]) ?_
      exact k2 h1 h2
  · have h1' := h1
    try simp at h1'
    exact k3 h1
def slive_f (most : Int) (l : List Entry) (g : Nat) (n : Nat) (i : Nat) (s : Nat) : Nat := (if (!(nth l i).card.gone) = true then (s + 1) else (s))
theorem slive_loop (most : Int) (l : List Entry) (g : Nat) (n : Nat) (hn : n = l.length) (hl : l.length < 1048576)  (r_ : Nat) : ∀ (k : Nat) (i : Nat) (sF : Nat), i + r_ = n → k ≤ i → sF = iter (slive_f most l g n) r_ i (k) →
    LoopTo (codeQ Try.prog (X slive_ann) (loopOf Try.f26 0)) (some [3, 9, 10, 11]) (some [3, 9, 10, 11]) (mkF 23 [(3, (AV.int .i64 ((k : Nat) : Int))), (9, (AV.osl 1 g 10 0 n)), (10, (AV.int .i64 ((n : Nat) : Int))), (11, (AV.int .i64 ((i : Nat) : Int)))]) ([⟨0, 2, [[(AV.int .i64 most), (AV.osl 1 g 10 0 n)]], none⟩, ⟨g, 10, (List.map Entry.row l), none⟩] : Heap) (.exit 0) (mkF 23 [(3, (AV.int .i64 ((sF : Nat) : Int))), (9, (AV.osl 1 g 10 0 n)), (10, (AV.int .i64 ((n : Nat) : Int))), (11, (AV.int .i64 ((n : Nat) : Int)))]) ([⟨0, 2, [[(AV.int .i64 most), (AV.osl 1 g 10 0 n)]], none⟩, ⟨g, 10, (List.map Entry.row l), none⟩] : Heap) := by
  induction r_ with
  | zero =>
    intro k i sF hi_ hk  hF
    obtain rfl : n = i := by omega
    have e_ : sF = (k) := hF
    refine slive_step most l g n k n hn hl hk (Nat.le_refl _) (fun h _ => by simp at h <;> omega) (fun h _ => by simp at h <;> omega) (fun _ => ?_)
    first | done | rfl | (rw [e_]; done) | (rw [e_]; rfl)
  | succ r_ ih =>
    intro k i sF hi_ hk  hF
    refine slive_step most l g n k i hn hl hk (by omega) (fun h1 h2 => ?_) (fun h1 h2 => ?_) (fun h => by simp at h <;> omega)
    · exact ih (k + 1) (i + 1) sF (by omega) (by first | omega | assumption | (simp; done) | (simp; omega) | (simp [*]; done) | (simp [*]; omega))  (by rw [hF] <;> simp only [iter, slive_f, h2, if_true, Bool.false_eq_true, if_false])
    · exact ih k (i + 1) sF (by omega) (by first | omega | assumption | (simp; done) | (simp; omega) | (simp [*]; done) | (simp [*]; omega))  (by rw [hF] <;> simp only [iter, slive_f, h2, if_true, Bool.false_eq_true, if_false])
theorem liveL_iter (most : Int) (l : List Entry) (g : Nat) : liveL l = iter (slive_f most l g l.length) l.length 0 0 := by
  rw [iter_all (slive_f most l g l.length) (fun s e => if (!e.card.gone) = true then s + 1 else s) l (fun i s hi => rfl)]; rfl
attribute [local irreducible] liveL
set_option maxRecDepth 100000 in
theorem slive_spec (most : Int) (l : List Entry) (g n : Nat) (hn : n = l.length) (hl : l.length < 1048576) : ACalls Try.prog 26 [(AV.obj 0 0 0 0)] ([⟨0, 2, [[(AV.int .i64 most), (AV.osl 1 g 10 0 n)]], none⟩, ⟨g, 10, (List.map Entry.row l), none⟩] : Heap) ((AV.int .i64 (((liveL l) : Nat) : Int)), ([⟨0, 2, [[(AV.int .i64 most), (AV.osl 1 g 10 0 n)]], none⟩, ⟨g, 10, (List.map Entry.row l), none⟩] : Heap)) := by
  refine spec (fn := Try.f26) (ann := slive_ann) (t := (.reg [] [] [] (.reg [] [] [] (.reg [] [] [] (.loop (.exit 0) (mkF 23 [(3, (AV.int .i64 (((liveL l) : Nat) : Int))), (9, (AV.osl 1 g 10 0 n)), (10, (AV.int .i64 ((n : Nat) : Int))), (11, (AV.int .i64 ((n : Nat) : Int)))]) ([⟨0, 2, [[(AV.int .i64 most), (AV.osl 1 g 10 0 n)]], none⟩, ⟨g, 10, (List.map Entry.row l), none⟩] : Heap) (.reg [] [] [] .nil)))))) (Nat.le_of_ble_eq_true (by kernel_rfl)) ⟨Try.func26, by kernel_rfl, by kernel_rfl, by kernel_rfl⟩ ?_
  refine Eq.mp (by kernel_rfl : ((LoopTo (codeQ Try.prog (X slive_ann) (loopOf Try.f26 0)) (some [3, 9, 10, 11]) (some [3, 9, 10, 11]) (mkF 23 [(3, (AV.int .i64 0)), (9, (AV.osl 1 g 10 0 n)), (10, (AV.int .i64 ((n : Nat) : Int))), (11, (AV.int .i64 0))]) ([⟨0, 2, [[(AV.int .i64 most), (AV.osl 1 g 10 0 n)]], none⟩, ⟨g, 10, (List.map Entry.row l), none⟩] : Heap) (.exit 0) (mkF 23 [(3, (AV.int .i64 (((liveL l) : Nat) : Int))), (9, (AV.osl 1 g 10 0 n)), (10, (AV.int .i64 ((n : Nat) : Int))), (11, (AV.int .i64 ((n : Nat) : Int)))]) ([⟨0, 2, [[(AV.int .i64 most), (AV.osl 1 g 10 0 n)]], none⟩, ⟨g, 10, (List.map Entry.row l), none⟩] : Heap)) ∧ (AV.bdd 2 (AV.int .i64 (((liveL l) : Nat) : Int)) = true ∧ obsB 2 ([⟨0, 2, [[(AV.int .i64 most), (AV.osl 1 g 10 0 n)]], none⟩, ⟨g, 10, (List.map Entry.row l), none⟩] : Heap) = true) ∧ ((AV.int .i64 (((liveL l) : Nat) : Int)), ([⟨0, 2, [[(AV.int .i64 most), (AV.osl 1 g 10 0 n)]], none⟩, ⟨g, 10, (List.map Entry.row l), none⟩] : Heap)) = ((AV.int .i64 (((liveL l) : Nat) : Int)), ([⟨0, 2, [[(AV.int .i64 most), (AV.osl 1 g 10 0 n)]], none⟩, ⟨g, 10, (List.map Entry.row l), none⟩] : Heap))) = _) ?_
  refine And.intro ((slive_loop most l g n hn hl n 0 0 (liveL l) (by omega) (by omega) (by subst hn; exact liveL_iter most l g))) ?_
  refine And.intro (by first | (simp [obsB, AV.bddss, AV.bdds, AV.bdd]; done) | (simp [obsB, AV.bddss, AV.bdds, AV.bdd, -List.map_append]; done) | simp [obsB, AV.bddss, AV.bdds, AV.bdd, -List.map_append, -List.map_set, -List.map_take, -List.map_drop, -List.map_cons, -List.map_map]) ?_
  rfl
theorem slive_at (most : Int) (l : List Entry) (g n : Nat) (hn : n = l.length) (hl : l.length < 1048576) (H : Heap) : ACalls Try.prog 26 [(AV.obj 0 0 0 0)] (([⟨0, 2, [[(AV.int .i64 most), (AV.osl 1 g 10 0 n)]], none⟩, ⟨g, 10, (List.map Entry.row l), none⟩] : Heap) ++ H) ((AV.int .i64 (((liveL l) : Nat) : Int)), ([⟨0, 2, [[(AV.int .i64 most), (AV.osl 1 g 10 0 n)]], none⟩, ⟨g, 10, (List.map Entry.row l), none⟩] : Heap) ++ H) := (slive_spec most l g n hn hl).ext (by kernel_rfl) (by kernel_rfl) (by first | (simp [obsB, AV.bddss, AV.bdds, AV.bdd]; done) | (simp [obsB, AV.bddss, AV.bdds, AV.bdd, -List.map_append]; done) | simp [obsB, AV.bddss, AV.bdds, AV.bdd, -List.map_append, -List.map_set, -List.map_take, -List.map_drop, -List.map_cons, -List.map_map]) (by first | (simp [obsB, AV.bddss, AV.bdds, AV.bdd]; done) | (simp [obsB, AV.bddss, AV.bdds, AV.bdd, -List.map_append]; done) | simp [obsB, AV.bddss, AV.bdds, AV.bdd, -List.map_append, -List.map_set, -List.map_take, -List.map_drop, -List.map_cons, -List.map_map]) (by kernel_rfl) H
def scards_ann : Ann := { gha := [(1, .vir 3 9), (6, .cut 3), (7, .frz 2)], base := 2, fin := some 2, live := [(3, [3, 9, 10, 11])], out := [(3, [3, 9, 10, 11])] }
set_option maxRecDepth 100000 in
theorem scards_step (most : Int) (l : List Entry) (g : Nat) (n : Nat) (out : List Card) (k : Nat) (h : Nat) (i : Nat) (hn : n = l.length) (hl : l.length < 1048576) (hk : k = out.length) (hki : k ≤ i) (hle_ : i ≤ n) {eX : Ex} {FX : Fr} {HX : Heap} (k1 : (decide (((i : Nat) : Int) < ((n : Nat) : Int))) = true → LoopTo (codeQ Try.prog (X scards_ann) (loopOf Try.f106 0)) (some [3, 9, 10, 11]) (some [3, 9, 10, 11]) (mkF 22 [(3, (AV.osl 2 (h + 1) 9 0 (k + 1))), (9, (AV.osl 1 g 10 0 n)), (10, (AV.int .i64 ((n : Nat) : Int))), (11, (AV.int .i64 ((i + 1 : Nat) : Int)))]) ([⟨0, 2, [[(AV.int .i64 most), (AV.osl 1 g 10 0 n)]], none⟩, ⟨g, 10, (List.map Entry.row l), none⟩, ⟨(h + 1), 9, (List.map Card.row (out ++ [(nth l i).card])), none⟩] : Heap) eX FX HX) (k2 : (decide (((i : Nat) : Int) < ((n : Nat) : Int))) = false → ((.exit 0 : Ex), (mkF 22 [(3, (AV.osl 2 h 9 0 k)), (9, (AV.osl 1 g 10 0 n)), (10, (AV.int .i64 ((n : Nat) : Int))), (11, (AV.int .i64 ((i : Nat) : Int)))]), ([⟨0, 2, [[(AV.int .i64 most), (AV.osl 1 g 10 0 n)]], none⟩, ⟨g, 10, (List.map Entry.row l), none⟩, ⟨h, 9, (List.map Card.row out), none⟩] : Heap)) = (eX, FX, HX)) : LoopTo (codeQ Try.prog (X scards_ann) (loopOf Try.f106 0)) (some [3, 9, 10, 11]) (some [3, 9, 10, 11]) (mkF 22 [(3, (AV.osl 2 h 9 0 k)), (9, (AV.osl 1 g 10 0 n)), (10, (AV.int .i64 ((n : Nat) : Int))), (11, (AV.int .i64 ((i : Nat) : Int)))]) ([⟨0, 2, [[(AV.int .i64 most), (AV.osl 1 g 10 0 n)]], none⟩, ⟨g, 10, (List.map Entry.row l), none⟩, ⟨h, 9, (List.map Card.row out), none⟩] : Heap) eX FX HX := by
  refine LoopTo.step (.reg [] [] [] (.two (.reg [(0, ((AV.obj 1 g i 0), ([⟨0, 2, [[(AV.int .i64 most), (AV.osl 1 g 10 0 n)]], none⟩, ⟨g, 10, (List.map Entry.row l), none⟩, ⟨h, 9, (List.map Card.row out), none⟩, ⟨0, 10, [[(AV.str (ByteArray.mk #[])), (AV.str (ByteArray.mk #[])), (AV.int .i64 0), (AV.int .i64 0), (AV.int .i64 0), (AV.int .i64 0), (AV.int .i64 0), (AV.int .i64 0), (AV.bool false), (AV.int .i64 0)]], none⟩] : Heap))), (1, ((AV.agg (Entry.row (nth l i))), ([⟨0, 2, [[(AV.int .i64 most), (AV.osl 1 g 10 0 n)]], none⟩, ⟨g, 10, (List.map Entry.row l), none⟩, ⟨h, 9, (List.map Card.row out), none⟩, ⟨0, 10, [[(AV.str (ByteArray.mk #[])), (AV.str (ByteArray.mk #[])), (AV.int .i64 0), (AV.int .i64 0), (AV.int .i64 0), (AV.int .i64 0), (AV.int .i64 0), (AV.int .i64 0), (AV.bool false), (AV.int .i64 0)]], none⟩] : Heap)))] [] [] (.reg [(4, ((AV.osl 2 (h + 1) 9 0 (k + 1)), ([⟨0, 2, [[(AV.int .i64 most), (AV.osl 1 g 10 0 n)]], none⟩, ⟨g, 10, (List.map Entry.row l), none⟩, ⟨(h + 1), 9, (List.map Card.row (out ++ [(nth l i).card])), none⟩, ⟨0, 10, [(Entry.row (nth l i))], none⟩] : Heap)))] [] [] (.reg [(0, ((AV.int .i64 ((i + 1 : Nat) : Int)), ([⟨0, 2, [[(AV.int .i64 most), (AV.osl 1 g 10 0 n)]], none⟩, ⟨g, 10, (List.map Entry.row l), none⟩, ⟨(h + 1), 9, (List.map Card.row (out ++ [(nth l i).card])), none⟩, ⟨0, 10, [(Entry.row (nth l i))], none⟩] : Heap)))] [] [] .nil))) .nil)) ?_
  refine Eq.mp (by kernel_rfl : (cond (decide (((i : Nat) : Int) < ((n : Nat) : Int))) ((IdxOsl 1 g 10 10 0 n ((i : Nat) : Int) ([⟨0, 2, [[(AV.int .i64 most), (AV.osl 1 g 10 0 n)]], none⟩, ⟨g, 10, (List.map Entry.row l), none⟩, ⟨h, 9, (List.map Card.row out), none⟩, ⟨0, 10, [[(AV.str (ByteArray.mk #[])), (AV.str (ByteArray.mk #[])), (AV.int .i64 0), (AV.int .i64 0), (AV.int .i64 0), (AV.int .i64 0), (AV.int .i64 0), (AV.int .i64 0), (AV.bool false), (AV.int .i64 0)]], none⟩] : Heap) i) ∧ (LoadTo tt 42 0 ([⟨0, 2, [[(AV.int .i64 most), (AV.osl 1 g 10 0 n)]], none⟩, ⟨g, 10, (List.map Entry.row l), none⟩, ⟨h, 9, (List.map Card.row out), none⟩, ⟨0, 10, [[(AV.str (ByteArray.mk #[])), (AV.str (ByteArray.mk #[])), (AV.int .i64 0), (AV.int .i64 0), (AV.int .i64 0), (AV.int .i64 0), (AV.int .i64 0), (AV.int .i64 0), (AV.bool false), (AV.int .i64 0)]], none⟩] : Heap) (rowAt ([⟨0, 2, [[(AV.int .i64 most), (AV.osl 1 g 10 0 n)]], none⟩, ⟨g, 10, (List.map Entry.row l), none⟩, ⟨h, 9, (List.map Card.row out), none⟩, ⟨0, 10, [[(AV.str (ByteArray.mk #[])), (AV.str (ByteArray.mk #[])), (AV.int .i64 0), (AV.int .i64 0), (AV.int .i64 0), (AV.int .i64 0), (AV.int .i64 0), (AV.int .i64 0), (AV.bool false), (AV.int .i64 0)]], none⟩] : Heap) 1 g i) = some ((AV.agg (Entry.row (nth l i))), ([⟨0, 2, [[(AV.int .i64 most), (AV.osl 1 g 10 0 n)]], none⟩, ⟨g, 10, (List.map Entry.row l), none⟩, ⟨h, 9, (List.map Card.row out), none⟩, ⟨0, 10, [[(AV.str (ByteArray.mk #[])), (AV.str (ByteArray.mk #[])), (AV.int .i64 0), (AV.int .i64 0), (AV.int .i64 0), (AV.int .i64 0), (AV.int .i64 0), (AV.int .i64 0), (AV.bool false), (AV.int .i64 0)]], none⟩] : Heap))) ∧ (evAppend tt ([⟨0, 2, [[(AV.int .i64 most), (AV.osl 1 g 10 0 n)]], none⟩, ⟨g, 10, (List.map Entry.row l), none⟩, ⟨h, 9, (List.map Card.row out), none⟩, ⟨0, 10, [(Entry.row (nth l i))], none⟩] : Heap) 48 (AV.osl 2 h 9 0 k) (AV.sl .clip 9 [(Card.row (nth l i).card)]) = some ((AV.osl 2 (h + 1) 9 0 (k + 1)), ([⟨0, 2, [[(AV.int .i64 most), (AV.osl 1 g 10 0 n)]], none⟩, ⟨g, 10, (List.map Entry.row l), none⟩, ⟨(h + 1), 9, (List.map Card.row (out ++ [(nth l i).card])), none⟩, ⟨0, 10, [(Entry.row (nth l i))], none⟩] : Heap))) ∧ (Yes (.int .i64 (IntKind.i64.wrap (((i : Nat) : Int) + 1))) ([⟨0, 2, [[(AV.int .i64 most), (AV.osl 1 g 10 0 n)]], none⟩, ⟨g, 10, (List.map Entry.row l), none⟩, ⟨(h + 1), 9, (List.map Card.row (out ++ [(nth l i).card])), none⟩, ⟨0, 10, [(Entry.row (nth l i))], none⟩] : Heap) (AV.int .i64 ((i + 1 : Nat) : Int))) ∧ (obsB 3 ([⟨0, 2, [[(AV.int .i64 most), (AV.osl 1 g 10 0 n)]], none⟩, ⟨g, 10, (List.map Entry.row l), none⟩, ⟨(h + 1), 9, (List.map Card.row (out ++ [(nth l i).card])), none⟩] : Heap) = true) ∧ LoopTo (codeQ Try.prog (X scards_ann) (loopOf Try.f106 0)) (some [3, 9, 10, 11]) (some [3, 9, 10, 11]) (mkF 22 [(3, (AV.osl 2 (h + 1) 9 0 (k + 1))), (9, (AV.osl 1 g 10 0 n)), (10, (AV.int .i64 ((n : Nat) : Int))), (11, (AV.int .i64 ((i + 1 : Nat) : Int)))]) ([⟨0, 2, [[(AV.int .i64 most), (AV.osl 1 g 10 0 n)]], none⟩, ⟨g, 10, (List.map Entry.row l), none⟩, ⟨(h + 1), 9, (List.map Card.row (out ++ [(nth l i).card])), none⟩] : Heap) eX FX HX) (((.exit 0 : Ex), (mkF 22 [(3, (AV.osl 2 h 9 0 k)), (9, (AV.osl 1 g 10 0 n)), (10, (AV.int .i64 ((n : Nat) : Int))), (11, (AV.int .i64 ((i : Nat) : Int)))]), ([⟨0, 2, [[(AV.int .i64 most), (AV.osl 1 g 10 0 n)]], none⟩, ⟨g, 10, (List.map Entry.row l), none⟩, ⟨h, 9, (List.map Card.row out), none⟩] : Heap)) = (eX, FX, HX))) = _) ?_
  refine cond_split (fun h1 => ?_) (fun h1 => ?_)
  · have h1' := h1
    try simp at h1'
    refine And.intro (IdxOsl.mk _ (by omega) (by omega)) ?_
    refine And.intro (load_row (rowAt_map (row := Entry.row) (l := l) (k := 10) (room := none) (by kernel_rfl) (by first | omega | (simp; done) | (simp; omega))) (by kernel_rfl)) ?_
    refine And.intro (evAppend_one (row := Card.row) (l := out) (x := (nth l i).card) (T := tt) (e := 34) (te := { d := .struct [(30, 0), (3, 2), (3, 3), (2, 4), (32, 5), (4, 8)], size := 9, bytes := 88, zero := [.str ⟨#[]⟩, .str ⟨#[]⟩, .int .i64 0, .int .i64 0, .int .i64 0, .int .i64 0, .int .i64 0, .int .i64 0, .bool false] }) (z := 1) (b := 24) (y := [.sl .nil 0 []]) (by kernel_rfl) (by kernel_rfl) rfl (by decide) (by decide) (by kernel_rfl) (by first | assumption | omega | (simp; done) | (simp; omega)) rfl rfl (by first | omega | (simp; omega))) ?_
    refine And.intro (Yes.add (by omega) (by omega) (by omega)) ?_
    refine And.intro (by first | (simp [obsB, AV.bddss, AV.bdds, AV.bdd]; done) | (simp [obsB, AV.bddss, AV.bdds, AV.bdd, -List.map_append]; done) | simp [obsB, AV.bddss, AV.bdds, AV.bdd, -List.map_append, -List.map_set, -List.map_take, -List.map_drop, -List.map_cons, -List.map_map]) ?_
    exact k1 h1
  · have h1' := h1
    try simp at h1'
    exact k2 h1
def scards_f (most : Int) (l : List Entry) (g : Nat) (n : Nat) (i : Nat) (s : (List Card) × Nat × Nat) : (List Card) × Nat × Nat := (s.1 ++ [(nth l i).card], (s.2.1 + 1), (s.2.2 + 1))
theorem scards_loop (most : Int) (l : List Entry) (g : Nat) (n : Nat) (hn : n = l.length) (hl : l.length < 1048576)  (r_ : Nat) : ∀ (out : List Card) (k : Nat) (h : Nat) (i : Nat) (sF : (List Card) × Nat × Nat), i + r_ = n → k = out.length → k ≤ i → sF = iter (scards_f most l g n) r_ i (out, k, h) →
    LoopTo (codeQ Try.prog (X scards_ann) (loopOf Try.f106 0)) (some [3, 9, 10, 11]) (some [3, 9, 10, 11]) (mkF 22 [(3, (AV.osl 2 h 9 0 k)), (9, (AV.osl 1 g 10 0 n)), (10, (AV.int .i64 ((n : Nat) : Int))), (11, (AV.int .i64 ((i : Nat) : Int)))]) ([⟨0, 2, [[(AV.int .i64 most), (AV.osl 1 g 10 0 n)]], none⟩, ⟨g, 10, (List.map Entry.row l), none⟩, ⟨h, 9, (List.map Card.row out), none⟩] : Heap) (.exit 0) (mkF 22 [(3, (AV.osl 2 sF.2.2 9 0 sF.2.1)), (9, (AV.osl 1 g 10 0 n)), (10, (AV.int .i64 ((n : Nat) : Int))), (11, (AV.int .i64 ((n : Nat) : Int)))]) ([⟨0, 2, [[(AV.int .i64 most), (AV.osl 1 g 10 0 n)]], none⟩, ⟨g, 10, (List.map Entry.row l), none⟩, ⟨sF.2.2, 9, (List.map Card.row sF.1), none⟩] : Heap) := by
  induction r_ with
  | zero =>
    intro out k h i sF hi_ hk hki  hF
    obtain rfl : n = i := by omega
    have e_ : sF = (out, k, h) := hF
    refine scards_step most l g n out k h n hn hl hk hki (Nat.le_refl _) (fun h => by simp at h <;> omega) (fun _ => ?_)
    first | done | rfl | (rw [e_]; done) | (rw [e_]; rfl)
  | succ r_ ih =>
    intro out k h i sF hi_ hk hki  hF
    refine scards_step most l g n out k h i hn hl hk hki (by omega) (fun h1 => ?_) (fun h => by simp at h <;> omega)
    · exact ih (out ++ [(nth l i).card]) (k + 1) (h + 1) (i + 1) sF (by omega) (by first | omega | assumption | (simp; done) | (simp; omega) | (simp [*]; done) | (simp [*]; omega)) (by first | omega | assumption | (simp; done) | (simp; omega) | (simp [*]; done) | (simp [*]; omega))  (by rw [hF] <;> simp only [iter, scards_f, if_true, Bool.false_eq_true, if_false])
theorem scards_iter (most : Int) (l : List Entry) (g : Nat) : (l.map (·.card), l.length, l.length) = iter (scards_f most l g l.length) l.length 0 ([], 0, 0) := by
  rw [iter_all (scards_f most l g l.length) (fun s e => (s.1 ++ [e.card], s.2.1 + 1, s.2.2 + 1)) l (fun i s hi => rfl), fold_map (fun e : Entry => e.card)]; simp
set_option maxRecDepth 100000 in
theorem scards_spec (most : Int) (l : List Entry) (g n : Nat) (hn : n = l.length) (hl : l.length < 1048576) : ACalls Try.prog 106 [(AV.obj 0 0 0 0)] ([⟨0, 2, [[(AV.int .i64 most), (AV.osl 1 g 10 0 n)]], none⟩, ⟨g, 10, (List.map Entry.row l), none⟩] : Heap) ((AV.sl .any 9 (List.map Card.row (l.map (·.card)))), ([⟨0, 2, [[(AV.int .i64 most), (AV.osl 1 g 10 0 n)]], none⟩, ⟨g, 10, (List.map Entry.row l), none⟩] : Heap)) := by
  refine spec (fn := Try.f106) (ann := scards_ann) (t := (.reg [] [] [] (.reg [] [] [] (.reg [] [] [] (.loop (.exit 0) (mkF 22 [(3, (AV.osl 2 l.length 9 0 l.length)), (9, (AV.osl 1 g 10 0 n)), (10, (AV.int .i64 ((n : Nat) : Int))), (11, (AV.int .i64 ((n : Nat) : Int)))]) ([⟨0, 2, [[(AV.int .i64 most), (AV.osl 1 g 10 0 n)]], none⟩, ⟨g, 10, (List.map Entry.row l), none⟩, ⟨l.length, 9, (List.map Card.row (l.map (·.card))), none⟩] : Heap) (.reg [] [] [(2, (List.map Card.row (l.map (·.card))))] .nil)))))) (Nat.le_of_ble_eq_true (by kernel_rfl)) ⟨Try.func106, by kernel_rfl, by kernel_rfl, by kernel_rfl⟩ ?_
  refine Eq.mp (by kernel_rfl : ((LoopTo (codeQ Try.prog (X scards_ann) (loopOf Try.f106 0)) (some [3, 9, 10, 11]) (some [3, 9, 10, 11]) (mkF 22 [(3, (AV.osl 2 0 9 0 0)), (9, (AV.osl 1 g 10 0 n)), (10, (AV.int .i64 ((n : Nat) : Int))), (11, (AV.int .i64 0))]) ([⟨0, 2, [[(AV.int .i64 most), (AV.osl 1 g 10 0 n)]], none⟩, ⟨g, 10, (List.map Entry.row l), none⟩, ⟨0, 9, (List.map Card.row []), none⟩] : Heap) (.exit 0) (mkF 22 [(3, (AV.osl 2 l.length 9 0 l.length)), (9, (AV.osl 1 g 10 0 n)), (10, (AV.int .i64 ((n : Nat) : Int))), (11, (AV.int .i64 ((n : Nat) : Int)))]) ([⟨0, 2, [[(AV.int .i64 most), (AV.osl 1 g 10 0 n)]], none⟩, ⟨g, 10, (List.map Entry.row l), none⟩, ⟨l.length, 9, (List.map Card.row (l.map (·.card))), none⟩] : Heap)) ∧ (rowsIn ([⟨0, 2, [[(AV.int .i64 most), (AV.osl 1 g 10 0 n)]], none⟩, ⟨g, 10, (List.map Entry.row l), none⟩, ⟨l.length, 9, (List.map Card.row (l.map (·.card))), none⟩] : Heap) 9 (AV.osl 2 l.length 9 0 l.length) = some (List.map Card.row (l.map (·.card))) ∧ AV.bddss 0 (List.map Card.row (l.map (·.card))) = true) ∧ (AV.bdd 2 (AV.sl .any 9 (List.map Card.row (l.map (·.card)))) = true ∧ obsB 2 ([⟨0, 2, [[(AV.int .i64 most), (AV.osl 1 g 10 0 n)]], none⟩, ⟨g, 10, (List.map Entry.row l), none⟩] : Heap) = true) ∧ ((AV.sl .any 9 (List.map Card.row (l.map (·.card)))), ([⟨0, 2, [[(AV.int .i64 most), (AV.osl 1 g 10 0 n)]], none⟩, ⟨g, 10, (List.map Entry.row l), none⟩] : Heap)) = ((AV.sl .any 9 (List.map Card.row (l.map (·.card)))), ([⟨0, 2, [[(AV.int .i64 most), (AV.osl 1 g 10 0 n)]], none⟩, ⟨g, 10, (List.map Entry.row l), none⟩] : Heap))) = _) ?_
  refine And.intro ((scards_loop most l g n hn hl n [] 0 0 0 (l.map (·.card), l.length, l.length) (by omega) rfl (by omega) (by subst hn; exact scards_iter most l g))) ?_
  refine And.intro (And.intro (rowsIn_all (room := none) (by kernel_rfl) (by first | omega | (simp; done) | (simp; omega))) (Card.rows_bdd _ _)) ?_
  refine And.intro (by first | (simp [obsB, AV.bddss, AV.bdds, AV.bdd]; done) | (simp [obsB, AV.bddss, AV.bdds, AV.bdd, -List.map_append]; done) | simp [obsB, AV.bddss, AV.bdds, AV.bdd, -List.map_append, -List.map_set, -List.map_take, -List.map_drop, -List.map_cons, -List.map_map]) ?_
  rfl
theorem scards_at (most : Int) (l : List Entry) (g n : Nat) (hn : n = l.length) (hl : l.length < 1048576) (H : Heap) : ACalls Try.prog 106 [(AV.obj 0 0 0 0)] (([⟨0, 2, [[(AV.int .i64 most), (AV.osl 1 g 10 0 n)]], none⟩, ⟨g, 10, (List.map Entry.row l), none⟩] : Heap) ++ H) ((AV.sl .any 9 (List.map Card.row (l.map (·.card)))), ([⟨0, 2, [[(AV.int .i64 most), (AV.osl 1 g 10 0 n)]], none⟩, ⟨g, 10, (List.map Entry.row l), none⟩] : Heap) ++ H) := (scards_spec most l g n hn hl).ext (by kernel_rfl) (by kernel_rfl) (by first | (simp [obsB, AV.bddss, AV.bdds, AV.bdd]; done) | (simp [obsB, AV.bddss, AV.bdds, AV.bdd, -List.map_append]; done) | simp [obsB, AV.bddss, AV.bdds, AV.bdd, -List.map_append, -List.map_set, -List.map_take, -List.map_drop, -List.map_cons, -List.map_map]) (by first | (simp [obsB, AV.bddss, AV.bdds, AV.bdd]; done) | (simp [obsB, AV.bddss, AV.bdds, AV.bdd, -List.map_append]; done) | simp [obsB, AV.bddss, AV.bdds, AV.bdd, -List.map_append, -List.map_set, -List.map_take, -List.map_drop, -List.map_cons, -List.map_map]) (by kernel_rfl) H
end Go.Proofs.Ytpkgpldgoajphaa.AM

set_option linter.unusedVariables false
set_option linter.unusedSimpArgs false
namespace Go.Proofs.Ytpkgpldgoajphaa.AM
open Go

theorem wk_cell_sound {G : Nat → Prop} {w : World} {C : Cx} {H : Heap} (hH : HR G w C H) {id e c : Nat} {o : Ob} {a a' : AV} {v : Value} (ho : H[id]? = some o) (he : e < o.els.length) (hc : c < (o.els.getD e []).length)
    (hcell : AV.wk ((o.els.getD e []).getD c .skip) a') (hv : VR G w C a v) (hl : ∃ l, C.ι id = some l) :
    ∃ G' C', Ev G w C G' w C' ∧ HR G' w C' (H.set id { o with els := o.els.set e ((o.els.getD e []).set c a') }) ∧ VR G' w C' a v ∧ Pd AnyId C H C' (H.set id { o with els := o.els.set e ((o.els.getD e []).set c a') }) := by
  obtain ⟨l, hl⟩ := hl
  obtain ⟨b, cs, et, h1, h2, h3⟩ := hH.get_cell ho hl he hc
  refine ⟨G, C, Ev.refl .., hH.set_cell ho hl h1 h2 (h3.wk hcell), hv, by simp, fun j hj hs hi => ⟨hi, rfl, ?_⟩⟩
  have hne' : id ≠ j := fun e => by subst e; rw [hl] at hi; simp at hi
  exact List.getElem?_set_ne hne'
/-- A slice that a function has laid into a field of its first argument's object is frozen. -/
theorem ACalls.frzField {P : Program} {f : FuncId} {args : List AV} {r a : AV} {o0 : Ob} {k g2 n : Nat} {els els' : List (List AV)} (h : ACalls P f args [o0] (r, [⟨0, 2, [[a, .osl 1 g2 k 0 n]], none⟩, ⟨g2, k, els, none⟩])) (h0 : args[0]? = some (.obj 0 0 0 0)) (hg0 : o0.gen = 0)
    (hn : n = els.length) (hb : AV.bddss 0 els = true) (ha : AV.bdd 1 a = true) (hr : r.bdd 1 = true) (he : els = els') : ACalls P f args [o0] (r, [⟨0, 2, [[a, .sl .any k els']], none⟩]) := by
  subst he
  have h1 := h.ghost (i := 0) (id := 0) (g := 0) (x := .obj 0 0 0 0) (o := o0) (a' := r) (H2 := [⟨0, 2, [[a, .sl .any k els]], none⟩] ++ [⟨g2 + 1, k, [], none⟩]) h0 (.inl ⟨_, _, rfl⟩) rfl hg0 rfl rfl
    fun G w C v hH hv hl => frz_cell_sound (id := 0) (e := 0) (c := 1) (id2 := 1) (g2 := g2) (k := k) (e2 := 0) (n2 := n) (xs := els) (o := ⟨0, 2, [[a, .osl 1 g2 k 0 n]], none⟩) hH rfl (by decide) (by simp) (by simp) rfl (by simp [rowsIn, hn]) hb hv hl
  refine h1.forget rfl hr fun id o ho => .inr ?_
  cases id with
  | zero =>
    simp only [List.getElem?_cons_zero, Option.some.injEq] at ho
    subst ho
    simp [AV.bddss, AV.bdds, ha, AV.bdd]
  | succ id => simp at ho
/-- A nil slice in a field of an object that a function has made is made exclusive. -/
theorem ACalls.virField {P : Program} {f : FuncId} {args : List AV} {a : AV} {k k0 : Nat} (h : ACalls P f args [] (.obj 0 0 0 0, [⟨0, 2, [[a, .sl .nil k0 []]], none⟩])) : ACalls P f args [] (.obj 0 0 0 0, [⟨0, 2, [[a, .osl 1 0 k 0 0]], none⟩, ⟨0, k, [], none⟩]) :=
  h.ghost0 fun G w C v hH hv => vir_cell_sound (id := 0) (e := 0) (c := 1) (k0 := k0) (o := ⟨0, 2, [[a, .sl .nil k0 []]], none⟩) hH k rfl (by simp) (by simp) rfl hv (VR.shows hv (id := 0) (g := 0) (.inl ⟨_, _, rfl⟩) (by simpa using hH.gen 0 _ rfl))
theorem ACalls.wkField {P : Program} {f : FuncId} {args : List AV} {a x y : AV} (h : ACalls P f args [] (.obj 0 0 0 0, [⟨0, 2, [[a, x]], none⟩])) (hw : AV.wk x y) : ACalls P f args [] (.obj 0 0 0 0, [⟨0, 2, [[a, y]], none⟩]) :=
  h.ghost0 fun G w C v hH hv => wk_cell_sound (id := 0) (e := 0) (c := 1) (o := ⟨0, 2, [[a, x]], none⟩) hH rfl (by simp) (by simp) hw hv (VR.shows hv (id := 0) (g := 0) (.inl ⟨_, _, rfl⟩) (by simpa using hH.gen 0 _ rfl))
end Go.Proofs.Ytpkgpldgoajphaa.AM
