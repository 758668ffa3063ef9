/-
  Texts of this claim, part 4 of 6: an abstract machine over the model; what functions come to; plain laws.
-/
import Derived.Test.YtcmfnfkahdconaaMMergeTwice3
set_option maxRecDepth 100000
set_option linter.unusedVariables false
set_option linter.unusedSimpArgs false
namespace Go.Proofs.Ytcmfnfkahdconaa.AM
open Go Go.Proofs.Ytcmfnfkahdconaa
attribute [local irreducible] ACalls funT codeT codeQ LoopTo
attribute [local irreducible] Tp.card Tp.cardT Tp.next Tp.step Tp.cards Tp.cardsT Tp.key Tp.keyT sink insSort sortK insK posK beforeK onceStep onceS
theorem hcInsE (vs : Array Value) (w : World) : (callFunc 135 vs).run Try.prog w = ((Extern.SlicesOverlaps.overlaps #[108, 108] #[4] vs).run Try.prog w).andThen fun v w' => .ok (.value v) w' :=
  run_callFunc_extern (fn := Try.f135) kr kr kr kr kr vs w
def InsEE_ann : Ann := { base := 1, fin := some 1 }
set_option maxRecDepth 100000 in
theorem InsEE_spec (l : List Entry) (x : Entry) (g : Nat) (hl : l.length < 1048576) : ACalls Try.prog 88 [(.osl 0 g 10 0 l.length), (.int .i64 ((l.length : Nat) : Int)), (.sl .clip 10 [(Entry.row x)])] ([⟨g, 10, (List.map Entry.row l), none⟩] : Heap) ((AV.osl 0 (g + 1) 10 0 (l.length + 1)), ([⟨(g + 1), 10, (List.map Entry.row (l ++ [x])), none⟩] : Heap)) :=
  specO (fn := Try.f88) (ann := InsEE_ann) (Has.o Try.func88) (.r (.g (.r (.so 2 0 g 10 0 l.length ((l.length : Nat) : Int) ((l.length : Nat) : Int) (AV.osl 0 g 10 l.length (l.length - l.length)) (slice_osl (l := l.length) (h := l.length) om om om om om om) (.g (.r (.g (.r (.g (.no (.r (.g (.r (.y 2 (AV.bool (((l.length : Nat) : Int) == ((l.length : Nat) : Int))) (AV.bool true) (Yes.bool om) (.g (.yes (.r (.ap 2 108 (AV.osl 0 g 10 0 l.length) (AV.sl .clip 10 [(Entry.row x)]) (AV.osl 0 (g + 1) 10 0 (l.length + 1)) ([⟨(g + 1), 10, (List.map Entry.row (l ++ [x])), none⟩] : Heap) (evAppend_one (row := Entry.row) (l := l) (x := x) (T := tt) (e := 70) (te := { d := .struct [(58, 0), (2, 9)], size := 10, bytes := 96, zero := [.str ⟨#[]⟩, .str ⟨#[]⟩, .int .i64 0, .int .i64 0, .int .i64 0, .int .i64 0, .int .i64 0, .int .i64 0, .bool false, .int .i64 0] }) (z := 1) (b := 24) (y := [.sl .nil 0 []]) kr kr rfl (by decide) (by decide) kr (by first | assumption | omega | (simp; done) | (simp; omega)) rfl rfl (by first | omega | (show _ * 96 ≤ _; omega) | (simp; omega))) (.g (.f 1 (AV.osl 0 (g + 1) 10 0 (l.length + 1)) (.e (AV.osl 0 (g + 1) 10 0 (l.length + 1)))))))))))))))))))))))
def InsEG_ann : Ann := { big := [40, 60], base := 1 }
@[simp] abbrev Va_1 (v1_ : Nat) (v2_ : List Entry) (v3_ : Nat) (v4_ : Nat) (v5_ : Entry) : Heap := [⟨v1_, 10, (List.map Entry.row v2_), some v3_⟩, ⟨0, 10, (List.map Entry.row (v2_.take v4_ ++ v5_ :: v2_.drop v4_)), none⟩]
@[simp] abbrev Va_2 (v1_ : Nat) (v2_ : List Entry) (v3_ : Nat) (v4_ : Entry) : Fr := (mkF 95 [(0, (AV.osl 0 v1_ 10 0 v2_.length)), (1, (AV.int .i64 ((v3_ : Nat) : Int))), (2, (AV.sl .clip 10 [(Entry.row v4_)])), (6, (AV.sl .nil 0 [])), (7, (AV.int .i64 1)), (8, (AV.int .i64 ((v2_.length : Nat) : Int))), (10, (AV.osl 0 v1_ 10 0 v2_.length)), (11, (AV.int .i64 ((v3_ : Nat) : Int))), (12, (AV.osl 0 v1_ 10 v3_ (v2_.length - v3_))), (13, (AV.sl .clip 10 [(Entry.row v4_)])), (14, (AV.int .i64 1)), (15, (AV.int .i64 1)), (16, (AV.bool false)), (18, (AV.osl 0 v1_ 10 0 v2_.length)), (19, (AV.int .i64 ((v2_.length : Nat) : Int))), (20, (AV.int .i64 ((v3_ : Nat) : Int))), (21, (AV.int .i64 ((v2_.length : Nat) : Int))), (22, (AV.bool false)), (26, (AV.int .i64 ((v2_.length : Nat) : Int))), (27, (AV.int .i64 1)), (28, (AV.int .i64 ((v2_.length + 1 : Nat) : Int))), (29, (AV.osl 0 v1_ 10 0 v2_.length))])
@[simp] abbrev Va_3 (v1_ : Nat) (v2_ : List Entry) (v3_ : Nat) (v4_ : Nat) : Heap := [⟨v1_, 10, (List.map Entry.row v2_), some v3_⟩, ⟨0, 10, (List.map Entry.row (v2_.take v4_) ++ List.replicate (v2_.length + 1 - v4_) (List.replicate 10 AV.unk)), none⟩]
@[simp] abbrev Va_4 (v1_ : Nat) (v2_ : List Entry) (v3_ : Nat) (v4_ : Nat) (v5_ : Entry) : Heap := [⟨v1_, 10, (List.map Entry.row v2_), some v3_⟩, ⟨0, 10, (List.map Entry.row (v2_.take v4_ ++ [v5_]) ++ List.replicate (v2_.length + 1 - v4_ - 1) (List.replicate 10 AV.unk)), none⟩]
set_option maxRecDepth 100000 in
theorem InsEG_spec (l : List Entry) (x : Entry) (g i r : Nat) (hi : i < l.length) (hl : l.length < 1048576) (hr : r < l.length + 1) : ACalls Try.prog 88 [(.osl 0 g 10 0 l.length), (.int .i64 ((i : Nat) : Int)), (.sl .clip 10 [(Entry.row x)])] ([⟨g, 10, (List.map Entry.row l), some r⟩] : Heap) ((AV.osl 1 0 10 0 (l.length + 1)), (Va_1 g l r i x)) :=
  specO (fn := Try.f88) (ann := InsEG_ann) (Has.o Try.func88) (.r (.g (.r (.so 2 0 g 10 0 l.length ((i : Nat) : Int) ((l.length : Nat) : Int) (AV.osl 0 g 10 i (l.length - i)) (slice_osl (l := i) (h := l.length) om om om om om om) (.g (.r (.g (.r (.g (.no (.r (.g (.r (.y 2 (AV.bool (((i : Nat) : Int) == ((l.length : Nat) : Int))) (AV.bool false) (Yes.bool om) (.g (.no (.r (.y 2 (.int .i64 (IntKind.i64.wrap (((l.length : Nat) : Int) + 1))) (AV.int .i64 ((l.length + 1 : Nat) : Int)) (Yes.add ow ow ow) (.t 4 (AV.int .i64 ((r : Nat) : Int)) ([⟨g, 10, (List.map Entry.row l), some r⟩] : Heap) (sat_cap (o := (opIn Try.f88 8 4)) (t := 108) (e0 := 70) (ti := { d := .slice 70, size := 1, bytes := 24, zero := [.sl .nil 0 []] }) (id := 0) (g := g) (e := 0) (n := l.length) (k := 10) (r := r) (els := (List.map Entry.row l)) ttOk kr kr kr rfl kr kr rfl : Sat Try.prog (X InsEG_ann) (Va_2 g l i x) ([⟨g, 10, (List.map Entry.row l), some r⟩] : Heap) 1 (opIn Try.f88 8 4) (AV.int .i64 ((r : Nat) : Int)) ([⟨g, 10, (List.map Entry.row l), some r⟩] : Heap)) (.y 5 (AV.bool (decide (((l.length + 1 : Nat) : Int) > ((r : Nat) : Int)))) (AV.bool true) (Yes.bool om) (.g (.yes (.r (.so 2 0 g 10 0 l.length 0 ((i : Nat) : Int) (AV.osl 0 g 10 0 i) (slice_osl (l := 0) (h := i) om om om om om om) (.y 5 (.int .i64 (IntKind.i64.wrap (((l.length : Nat) : Int) + 1))) (AV.int .i64 ((l.length + 1 : Nat) : Int)) (Yes.add ow ow ow) (.y 7 (.int .i64 (IntKind.i64.wrap (((l.length + 1 : Nat) : Int) - ((i : Nat) : Int)))) (AV.int .i64 ((l.length + 1 - i : Nat) : Int)) (Yes.add ow ow ow) (.t 8 (AV.osl 1 0 10 0 (l.length + 1)) (Va_3 g l r i) (sat_make (o := (opIn Try.f88 9 8)) (t := 108) (e0 := 70) (ti := { d := .slice 70, size := 1, bytes := 24, zero := [.sl .nil 0 []] }) (id := 0) (g := g) (e := 0) (n := i) (t' := 3) (te := { d := .struct [(58, 0), (2, 9)], size := 10, bytes := 96, zero := [.str ⟨#[]⟩, .str ⟨#[]⟩, .int .i64 0, .int .i64 0, .int .i64 0, .int .i64 0, .int .i64 0, .int .i64 0, .bool false, .int .i64 0] }) (ti' := { d := .int .i64, size := 1, bytes := 8, zero := [.int .i64 0] }) (kk := .i64) (kx := .i64) (k := 10) (r := r) (c := l.length + 1 - i) (els := (List.map Entry.row l)) (ys := List.map Entry.row (l.take i)) (els' := (List.map Entry.row (l.take i) ++ List.replicate (l.length + 1 - i) (List.replicate 10 AV.unk))) ttOk kr kr kr rfl kr kr rfl rfl kr kr (by simp [rowsIn, List.map_take]; omega) om kr om (by decide) (by decide) om (by show _ * 96 ≤ _; omega) om om rfl : Sat Try.prog (X InsEG_ann) (mkF 95 [(0, (AV.osl 0 g 10 0 l.length)), (1, (AV.int .i64 ((i : Nat) : Int))), (2, (AV.sl .clip 10 [(Entry.row x)])), (6, (AV.sl .nil 0 [])), (7, (AV.int .i64 1)), (8, (AV.int .i64 ((l.length : Nat) : Int))), (10, (AV.osl 0 g 10 0 l.length)), (11, (AV.int .i64 ((i : Nat) : Int))), (12, (AV.osl 0 g 10 i (l.length - i))), (13, (AV.sl .clip 10 [(Entry.row x)])), (14, (AV.int .i64 1)), (15, (AV.int .i64 1)), (16, (AV.bool false)), (18, (AV.osl 0 g 10 0 l.length)), (19, (AV.int .i64 ((l.length : Nat) : Int))), (20, (AV.int .i64 ((i : Nat) : Int))), (21, (AV.int .i64 ((l.length : Nat) : Int))), (22, (AV.bool false)), (26, (AV.int .i64 ((l.length : Nat) : Int))), (27, (AV.int .i64 1)), (28, (AV.int .i64 ((l.length + 1 : Nat) : Int))), (29, (AV.osl 0 g 10 0 l.length)), (30, (AV.int .i64 ((r : Nat) : Int))), (31, (AV.bool true)), (32, (AV.osl 0 g 10 0 l.length)), (33, (AV.int .i64 ((i : Nat) : Int))), (34, (AV.osl 0 g 10 0 i)), (35, (AV.int .i64 ((l.length : Nat) : Int))), (36, (AV.int .i64 1)), (37, (AV.int .i64 ((l.length + 1 : Nat) : Int))), (38, (AV.int .i64 ((i : Nat) : Int))), (39, (AV.int .i64 ((l.length + 1 - i : Nat) : Int)))]) ([⟨g, 10, (List.map Entry.row l), some r⟩] : Heap) 1 (opIn Try.f88 9 8) (AV.osl 1 0 10 0 (l.length + 1)) (Va_3 g l r i)) (.g (.r (.h' (Va_3 g l r i) (.so 2 1 0 10 0 (l.length + 1) ((i : Nat) : Int) (((l.length + 1) : Nat) : Int) (AV.osl 1 0 10 i ((l.length + 1) - i)) (slice_osl (l := i) (h := (l.length + 1)) om om om om om om) (.t 4 (AV.int .i64 1) (Va_4 g l r i x) (sat_copy (o := (opIn Try.f88 10 4)) (t := 108) (e0 := 70) (ti := { d := .slice 70, size := 1, bytes := 24, zero := [.sl .nil 0 []] }) (id := 1) (g := 0) (e := i) (n := ((l.length + 1) - i)) (t' := 108) (te := { d := .struct [(58, 0), (2, 9)], size := 10, bytes := 96, zero := [.str ⟨#[]⟩, .str ⟨#[]⟩, .int .i64 0, .int .i64 0, .int .i64 0, .int .i64 0, .int .i64 0, .int .i64 0, .bool false, .int .i64 0] }) (k := 10) (els := (List.map Entry.row (l.take i) ++ List.replicate (l.length + 1 - i) (List.replicate 10 AV.unk))) (els' := (List.map Entry.row (l.take i ++ [x]) ++ List.replicate (l.length + 1 - i - 1) (List.replicate 10 AV.unk))) (room := none) (new := [(Entry.row x)]) (s := (AV.sl .clip 10 [(Entry.row x)])) ttOk kr kr kr rfl kr rfl kr kr kr kr om om om (ins1 Entry.row x _ l ow ow) (rfl) rfl : Sat Try.prog (X InsEG_ann) (mkF 95 [(0, (AV.osl 0 g 10 0 l.length)), (1, (AV.int .i64 ((i : Nat) : Int))), (2, (AV.sl .clip 10 [(Entry.row x)])), (6, (AV.sl .nil 0 [])), (7, (AV.int .i64 1)), (8, (AV.int .i64 ((l.length : Nat) : Int))), (9, (AV.osl 1 0 10 0 (l.length + 1))), (10, (AV.osl 0 g 10 0 l.length)), (11, (AV.int .i64 ((i : Nat) : Int))), (12, (AV.osl 0 g 10 i (l.length - i))), (13, (AV.sl .clip 10 [(Entry.row x)])), (14, (AV.int .i64 1)), (15, (AV.int .i64 1)), (16, (AV.bool false)), (18, (AV.osl 0 g 10 0 l.length)), (19, (AV.int .i64 ((l.length : Nat) : Int))), (20, (AV.int .i64 ((i : Nat) : Int))), (21, (AV.int .i64 ((l.length : Nat) : Int))), (22, (AV.bool false)), (26, (AV.int .i64 ((l.length : Nat) : Int))), (27, (AV.int .i64 1)), (28, (AV.int .i64 ((l.length + 1 : Nat) : Int))), (29, (AV.osl 0 g 10 0 l.length)), (30, (AV.int .i64 ((r : Nat) : Int))), (31, (AV.bool true)), (32, (AV.osl 0 g 10 0 l.length)), (33, (AV.int .i64 ((i : Nat) : Int))), (34, (AV.osl 0 g 10 0 i)), (35, (AV.int .i64 ((l.length : Nat) : Int))), (36, (AV.int .i64 1)), (37, (AV.int .i64 ((l.length + 1 : Nat) : Int))), (38, (AV.int .i64 ((i : Nat) : Int))), (39, (AV.int .i64 ((l.length + 1 - i : Nat) : Int))), (40, (AV.osl 1 0 10 0 (l.length + 1))), (41, (AV.osl 1 0 10 0 (l.length + 1))), (42, (AV.int .i64 ((i : Nat) : Int))), (43, (AV.osl 1 0 10 i ((l.length + 1) - i))), (44, (AV.sl .clip 10 [(Entry.row x)]))]) (Va_3 g l r i) 2 (opIn Try.f88 10 4) (AV.int .i64 1) (Va_4 g l r i x)) (.g (.r (.h' (Va_4 g l r i x) (.y 3 (.int .i64 (IntKind.i64.wrap (((i : Nat) : Int) + 1))) (AV.int .i64 ((i + 1 : Nat) : Int)) (Yes.add ow ow ow) (.so 4 1 0 10 0 (l.length + 1) ((i + 1 : Nat) : Int) (((l.length + 1) : Nat) : Int) (AV.osl 1 0 10 (i + 1) ((l.length + 1) - (i + 1))) (slice_osl (l := i + 1) (h := (l.length + 1)) om om om om om om) (.so 7 0 g 10 0 l.length ((i : Nat) : Int) ((l.length : Nat) : Int) (AV.osl 0 g 10 i (l.length - i)) (slice_osl (l := i) (h := l.length) om om om om om om) (.t 8 (AV.int .i64 (((l.length - i) : Nat) : Int)) (Va_1 g l r i x) (sat_copy (o := (opIn Try.f88 11 8)) (t := 108) (e0 := 70) (ti := { d := .slice 70, size := 1, bytes := 24, zero := [.sl .nil 0 []] }) (id := 1) (g := 0) (e := (i + 1)) (n := ((l.length + 1) - (i + 1))) (t' := 108) (te := { d := .struct [(58, 0), (2, 9)], size := 10, bytes := 96, zero := [.str ⟨#[]⟩, .str ⟨#[]⟩, .int .i64 0, .int .i64 0, .int .i64 0, .int .i64 0, .int .i64 0, .int .i64 0, .bool false, .int .i64 0] }) (k := 10) (els := (List.map Entry.row (l.take i ++ [x]) ++ List.replicate (l.length + 1 - i - 1) (List.replicate 10 AV.unk))) (els' := (List.map Entry.row (l.take i ++ x :: l.drop i))) (room := none) (new := List.map Entry.row (l.drop i)) (s := (AV.osl 0 g 10 i (l.length - i))) ttOk kr kr kr rfl kr rfl kr kr kr (by simp [rowsIn, List.map_drop, List.take_of_length_le] <;> omega) om om om (ins2 Entry.row x _ l ow ow) om rfl : Sat Try.prog (X InsEG_ann) (mkF 95 [(0, (AV.osl 0 g 10 0 l.length)), (1, (AV.int .i64 ((i : Nat) : Int))), (2, (AV.sl .clip 10 [(Entry.row x)])), (6, (AV.sl .nil 0 [])), (7, (AV.int .i64 1)), (8, (AV.int .i64 ((l.length : Nat) : Int))), (9, (AV.osl 1 0 10 0 (l.length + 1))), (10, (AV.osl 0 g 10 0 l.length)), (11, (AV.int .i64 ((i : Nat) : Int))), (12, (AV.osl 0 g 10 i (l.length - i))), (13, (AV.sl .clip 10 [(Entry.row x)])), (14, (AV.int .i64 1)), (15, (AV.int .i64 1)), (16, (AV.bool false)), (18, (AV.osl 0 g 10 0 l.length)), (19, (AV.int .i64 ((l.length : Nat) : Int))), (20, (AV.int .i64 ((i : Nat) : Int))), (21, (AV.int .i64 ((l.length : Nat) : Int))), (22, (AV.bool false)), (26, (AV.int .i64 ((l.length : Nat) : Int))), (27, (AV.int .i64 1)), (28, (AV.int .i64 ((l.length + 1 : Nat) : Int))), (29, (AV.osl 0 g 10 0 l.length)), (30, (AV.int .i64 ((r : Nat) : Int))), (31, (AV.bool true)), (32, (AV.osl 0 g 10 0 l.length)), (33, (AV.int .i64 ((i : Nat) : Int))), (34, (AV.osl 0 g 10 0 i)), (35, (AV.int .i64 ((l.length : Nat) : Int))), (36, (AV.int .i64 1)), (37, (AV.int .i64 ((l.length + 1 : Nat) : Int))), (38, (AV.int .i64 ((i : Nat) : Int))), (39, (AV.int .i64 ((l.length + 1 - i : Nat) : Int))), (40, (AV.osl 1 0 10 0 (l.length + 1))), (41, (AV.osl 1 0 10 0 (l.length + 1))), (42, (AV.int .i64 ((i : Nat) : Int))), (43, (AV.osl 1 0 10 i ((l.length + 1) - i))), (44, (AV.sl .clip 10 [(Entry.row x)])), (45, (AV.int .i64 1)), (46, (AV.osl 1 0 10 0 (l.length + 1))), (47, (AV.int .i64 ((i : Nat) : Int))), (48, (AV.int .i64 1)), (49, (AV.int .i64 ((i + 1 : Nat) : Int))), (50, (AV.osl 1 0 10 (i + 1) ((l.length + 1) - (i + 1)))), (51, (AV.osl 0 g 10 0 l.length)), (52, (AV.int .i64 ((i : Nat) : Int))), (53, (AV.osl 0 g 10 i (l.length - i)))]) (Va_4 g l r i x) 2 (opIn Try.f88 11 8) (AV.int .i64 (((l.length - i) : Nat) : Int)) (Va_1 g l r i x)) (.g (.r (.g (.h' (Va_1 g l r i x) (.e (AV.osl 1 0 10 0 (l.length + 1))))))))))))))))))))))))))))))))))))))))))))))
def InsER_ann : Ann := { big := [40, 60], base := 1, fin := some 1 }
@[simp] abbrev Va_5 (v1_ : Nat) (v2_ : List Entry) (v3_ : Nat) (v4_ : Entry) (v5_ : Nat) : Heap := [⟨v1_, 10, (List.map Entry.row (v2_.take v3_ ++ v4_ :: v2_.drop v3_)), some v5_⟩]
@[simp] abbrev Va_6 (v1_ : Nat) (v2_ : List Entry) (v3_ : Nat) (v4_ : Nat) : Heap := [⟨v1_, 10, (List.map Entry.row (v2_.take (v3_ + 1) ++ v2_.drop v3_)), some v4_⟩]
set_option maxRecDepth 100000 in
theorem InsER_spec (l : List Entry) (x : Entry) (g i r : Nat) (hi : i < l.length) (hl : l.length < 1048576) (hr : l.length + 1 ≤ r) : ACalls Try.prog 88 [(.osl 0 g 10 0 l.length), (.int .i64 ((i : Nat) : Int)), (.sl .clip 10 [(Entry.row x)])] ([⟨g, 10, (List.map Entry.row l), some r⟩] : Heap) ((AV.osl 0 g 10 0 (l.length + 1)), (Va_5 g l i x r)) :=
  specO (fn := Try.f88) (ann := InsER_ann) (Has.o Try.func88) (.r (.g (.r (.so 2 0 g 10 0 l.length ((i : Nat) : Int) ((l.length : Nat) : Int) (AV.osl 0 g 10 i (l.length - i)) (slice_osl (l := i) (h := l.length) om om om om om om) (.g (.r (.g (.r (.g (.no (.r (.g (.r (.y 2 (AV.bool (((i : Nat) : Int) == ((l.length : Nat) : Int))) (AV.bool false) (Yes.bool om) (.g (.no (.r (.y 2 (.int .i64 (IntKind.i64.wrap (((l.length : Nat) : Int) + 1))) (AV.int .i64 ((l.length + 1 : Nat) : Int)) (Yes.add ow ow ow) (.t 4 (AV.int .i64 ((r : Nat) : Int)) ([⟨g, 10, (List.map Entry.row l), some r⟩] : Heap) (sat_cap (o := (opIn Try.f88 8 4)) (t := 108) (e0 := 70) (ti := { d := .slice 70, size := 1, bytes := 24, zero := [.sl .nil 0 []] }) (id := 0) (g := g) (e := 0) (n := l.length) (k := 10) (r := r) (els := (List.map Entry.row l)) ttOk kr kr kr rfl kr kr rfl : Sat Try.prog (X InsER_ann) (Va_2 g l i x) ([⟨g, 10, (List.map Entry.row l), some r⟩] : Heap) 1 (opIn Try.f88 8 4) (AV.int .i64 ((r : Nat) : Int)) ([⟨g, 10, (List.map Entry.row l), some r⟩] : Heap)) (.y 5 (AV.bool (decide (((l.length + 1 : Nat) : Int) > ((r : Nat) : Int)))) (AV.bool false) (Yes.bool om) (.g (.no (.r (.y 3 (.int .i64 (IntKind.i64.wrap (((l.length : Nat) : Int) + 1))) (AV.int .i64 ((l.length + 1 : Nat) : Int)) (Yes.add ow ow ow) (.t 4 (AV.osl 0 g 10 0 (l.length + 1)) ([⟨g, 10, (List.map Entry.row l), some r⟩] : Heap) (sat_slice (o := (opIn Try.f88 13 4)) (t := 108) (e0 := 70) (ti := { d := .slice 70, size := 1, bytes := 24, zero := [.sl .nil 0 []] }) (id := 0) (g := g) (e := 0) (n := l.length) (te := { d := .struct [(58, 0), (2, 9)], size := 10, bytes := 96, zero := [.str ⟨#[]⟩, .str ⟨#[]⟩, .int .i64 0, .int .i64 0, .int .i64 0, .int .i64 0, .int .i64 0, .int .i64 0, .bool false, .int .i64 0] }) (k := 10) (r := r) (l := 0) (h := l.length + 1) (els := (List.map Entry.row l)) ttOk kr kr kr rfl kr rfl kr kr kr kr om om om om : Sat Try.prog (X InsER_ann) (mkF 95 [(0, (.osl 0 g 10 0 l.length)), (1, (.int .i64 ((i : Nat) : Int))), (2, (.sl .clip 10 [(Entry.row x)])), (6, (.sl .nil 0 [])), (7, (.int .i64 1)), (8, (.int .i64 ((l.length : Nat) : Int))), (10, (.osl 0 g 10 0 l.length)), (11, (.int .i64 ((i : Nat) : Int))), (12, (.osl 0 g 10 i (l.length - i))), (13, (.sl .clip 10 [(Entry.row x)])), (14, (.int .i64 1)), (15, (.int .i64 1)), (16, (.bool false)), (18, (.osl 0 g 10 0 l.length)), (19, (.int .i64 ((l.length : Nat) : Int))), (20, (.int .i64 ((i : Nat) : Int))), (21, (.int .i64 ((l.length : Nat) : Int))), (22, (.bool false)), (26, (.int .i64 ((l.length : Nat) : Int))), (27, (.int .i64 1)), (28, (.int .i64 ((l.length + 1 : Nat) : Int))), (29, (.osl 0 g 10 0 l.length)), (30, (.int .i64 ((r : Nat) : Int))), (31, (.bool false)), (56, (.osl 0 g 10 0 l.length)), (57, (.int .i64 ((l.length : Nat) : Int))), (58, (.int .i64 1)), (59, (.int .i64 ((l.length + 1 : Nat) : Int)))]) ([⟨g, 10, (List.map Entry.row l), some r⟩] : Heap) 1 (opIn Try.f88 13 4) (AV.osl 0 g 10 0 (l.length + 1)) ([⟨g, 10, (List.map Entry.row l), some r⟩] : Heap)) (.g (.r (.y 4 (.int .i64 (IntKind.i64.wrap (((i : Nat) : Int) + 1))) (AV.int .i64 ((i + 1 : Nat) : Int)) (Yes.add ow ow ow) (.so 5 0 g 10 0 (l.length + 1) ((i + 1 : Nat) : Int) (((l.length + 1) : Nat) : Int) (AV.osl 0 g 10 (i + 1) ((l.length + 1) - (i + 1))) (slice_osl (l := i + 1) (h := (l.length + 1)) om om om om om om) (.t 6 (AV.bool false) ([⟨g, 10, (List.map Entry.row l), some r⟩] : Heap) (acalls_overlaps (tS := 108) (tR := 4) (e0 := 70) (o := ⟨g, 10, (List.map Entry.row l), some r⟩) (hcInsE) (tok_slice ttOk (ti := { d := .slice 70, size := 1, bytes := 24, zero := [.sl .nil 0 []] }) kr rfl) (fun w => (ttOk 70 { d := .struct [(58, 0), (2, 9)], size := 10, bytes := 96, zero := [.str ⟨#[]⟩, .str ⟨#[]⟩, .int .i64 0, .int .i64 0, .int .i64 0, .int .i64 0, .int .i64 0, .int .i64 0, .bool false, .int .i64 0] } kr).sizeOf w) (by decide) kr rfl : ACalls Try.prog 135 [(.sl .clip 10 [(Entry.row x)]), (.osl 0 g 10 (i + 1) ((l.length + 1) - (i + 1)))] ([⟨g, 10, (List.map Entry.row l), some r⟩] : Heap) ((AV.bool false), ([⟨g, 10, (List.map Entry.row l), some r⟩] : Heap))) (.g (.yes (.r (.y 3 (.int .i64 (IntKind.i64.wrap (((i : Nat) : Int) + 1))) (AV.int .i64 ((i + 1 : Nat) : Int)) (Yes.add ow ow ow) (.so 4 0 g 10 0 (l.length + 1) ((i + 1 : Nat) : Int) (((l.length + 1) : Nat) : Int) (AV.osl 0 g 10 (i + 1) ((l.length + 1) - (i + 1))) (slice_osl (l := i + 1) (h := (l.length + 1)) om om om om om om) (.so 7 0 g 10 0 (l.length + 1) ((i : Nat) : Int) (((l.length + 1) : Nat) : Int) (AV.osl 0 g 10 i ((l.length + 1) - i)) (slice_osl (l := i) (h := (l.length + 1)) om om om om om om) (.t 8 (AV.int .i64 ((((l.length + 1) - (i + 1)) : Nat) : Int)) (Va_6 g l i r) (sat_copyN (o := (opIn Try.f88 15 8)) (t := 108) (e0 := 70) (ti := { d := .slice 70, size := 1, bytes := 24, zero := [.sl .nil 0 []] }) (id := 0) (g := g) (e := (i + 1)) (n := ((l.length + 1) - (i + 1))) (t' := 108) (te := { d := .struct [(58, 0), (2, 9)], size := 10, bytes := 96, zero := [.str ⟨#[]⟩, .str ⟨#[]⟩, .int .i64 0, .int .i64 0, .int .i64 0, .int .i64 0, .int .i64 0, .int .i64 0, .bool false, .int .i64 0] }) (k := 10) (els := (List.map Entry.row l)) (els' := (List.map Entry.row (l.take (i + 1) ++ l.drop i))) (room := some r) (id2 := 0) (g2 := g) (e2 := i) (n2 := ((l.length + 1) - i)) (els2 := (List.map Entry.row l)) (room2 := some r) ttOk kr kr kr rfl kr rfl kr kr kr kr om om om om (by rw [show l.length + 1 - (i + 1) = l.length - i by omega]; exact ins3 Entry.row l hi) rfl rfl : Sat Try.prog (X InsER_ann) (mkF 95 [(0, (.osl 0 g 10 0 (l.length + 1))), (1, (.int .i64 ((i : Nat) : Int))), (2, (.sl .clip 10 [(Entry.row x)])), (6, (.sl .nil 0 [])), (7, (.int .i64 1)), (8, (.int .i64 ((l.length : Nat) : Int))), (10, (.osl 0 g 10 0 l.length)), (11, (.int .i64 ((i : Nat) : Int))), (12, (.osl 0 g 10 i (l.length - i))), (13, (.sl .clip 10 [(Entry.row x)])), (14, (.int .i64 1)), (15, (.int .i64 1)), (16, (.bool false)), (18, (.osl 0 g 10 0 l.length)), (19, (.int .i64 ((l.length : Nat) : Int))), (20, (.int .i64 ((i : Nat) : Int))), (21, (.int .i64 ((l.length : Nat) : Int))), (22, (.bool false)), (26, (.int .i64 ((l.length : Nat) : Int))), (27, (.int .i64 1)), (28, (.int .i64 ((l.length + 1 : Nat) : Int))), (29, (.osl 0 g 10 0 l.length)), (30, (.int .i64 ((r : Nat) : Int))), (31, (.bool false)), (56, (.osl 0 g 10 0 l.length)), (57, (.int .i64 ((l.length : Nat) : Int))), (58, (.int .i64 1)), (59, (.int .i64 ((l.length + 1 : Nat) : Int))), (60, (.osl 0 g 10 0 (l.length + 1))), (61, (.sl .clip 10 [(Entry.row x)])), (62, (.osl 0 g 10 0 (l.length + 1))), (63, (.int .i64 ((i : Nat) : Int))), (64, (.int .i64 1)), (65, (.int .i64 ((i + 1 : Nat) : Int))), (66, (.osl 0 g 10 (i + 1) ((l.length + 1) - (i + 1)))), (67, (.bool false)), (68, (.bool true)), (69, (.osl 0 g 10 0 (l.length + 1))), (70, (.int .i64 ((i : Nat) : Int))), (71, (.int .i64 1)), (72, (.int .i64 ((i + 1 : Nat) : Int))), (73, (.osl 0 g 10 (i + 1) ((l.length + 1) - (i + 1)))), (74, (.osl 0 g 10 0 (l.length + 1))), (75, (.int .i64 ((i : Nat) : Int))), (76, (.osl 0 g 10 i ((l.length + 1) - i)))]) ([⟨g, 10, (List.map Entry.row l), some r⟩] : Heap) 1 (opIn Try.f88 15 8) (AV.int .i64 ((((l.length + 1) - (i + 1)) : Nat) : Int)) (Va_6 g l i r)) (.g (.r (.h' (Va_6 g l i r) (.so 2 0 g 10 0 (l.length + 1) ((i : Nat) : Int) (((l.length + 1) : Nat) : Int) (AV.osl 0 g 10 i ((l.length + 1) - i)) (slice_osl (l := i) (h := (l.length + 1)) om om om om om om) (.t 4 (AV.int .i64 1) (Va_5 g l i x r) (sat_copy (o := (opIn Try.f88 16 4)) (t := 108) (e0 := 70) (ti := { d := .slice 70, size := 1, bytes := 24, zero := [.sl .nil 0 []] }) (id := 0) (g := g) (e := i) (n := ((l.length + 1) - i)) (t' := 108) (te := { d := .struct [(58, 0), (2, 9)], size := 10, bytes := 96, zero := [.str ⟨#[]⟩, .str ⟨#[]⟩, .int .i64 0, .int .i64 0, .int .i64 0, .int .i64 0, .int .i64 0, .int .i64 0, .bool false, .int .i64 0] }) (k := 10) (els := (List.map Entry.row (l.take (i + 1) ++ l.drop i))) (els' := (List.map Entry.row (l.take i ++ x :: l.drop i))) (room := some r) (new := [(Entry.row x)]) (s := (AV.sl .clip 10 [(Entry.row x)])) ttOk kr kr kr rfl kr rfl kr kr kr kr om om om (ins4 Entry.row x l hi) (rfl) rfl : Sat Try.prog (X InsER_ann) (mkF 95 [(0, (.osl 0 g 10 0 (l.length + 1))), (1, (.int .i64 ((i : Nat) : Int))), (2, (.sl .clip 10 [(Entry.row x)])), (6, (.sl .nil 0 [])), (7, (.int .i64 1)), (8, (.int .i64 ((l.length : Nat) : Int))), (10, (.osl 0 g 10 0 l.length)), (11, (.int .i64 ((i : Nat) : Int))), (12, (.osl 0 g 10 i (l.length - i))), (13, (.sl .clip 10 [(Entry.row x)])), (14, (.int .i64 1)), (15, (.int .i64 1)), (16, (.bool false)), (18, (.osl 0 g 10 0 l.length)), (19, (.int .i64 ((l.length : Nat) : Int))), (20, (.int .i64 ((i : Nat) : Int))), (21, (.int .i64 ((l.length : Nat) : Int))), (22, (.bool false)), (26, (.int .i64 ((l.length : Nat) : Int))), (27, (.int .i64 1)), (28, (.int .i64 ((l.length + 1 : Nat) : Int))), (29, (.osl 0 g 10 0 l.length)), (30, (.int .i64 ((r : Nat) : Int))), (31, (.bool false)), (56, (.osl 0 g 10 0 l.length)), (57, (.int .i64 ((l.length : Nat) : Int))), (58, (.int .i64 1)), (59, (.int .i64 ((l.length + 1 : Nat) : Int))), (60, (.osl 0 g 10 0 (l.length + 1))), (61, (.sl .clip 10 [(Entry.row x)])), (62, (.osl 0 g 10 0 (l.length + 1))), (63, (.int .i64 ((i : Nat) : Int))), (64, (.int .i64 1)), (65, (.int .i64 ((i + 1 : Nat) : Int))), (66, (.osl 0 g 10 (i + 1) ((l.length + 1) - (i + 1)))), (67, (.bool false)), (68, (.bool true)), (69, (.osl 0 g 10 0 (l.length + 1))), (70, (.int .i64 ((i : Nat) : Int))), (71, (.int .i64 1)), (72, (.int .i64 ((i + 1 : Nat) : Int))), (73, (.osl 0 g 10 (i + 1) ((l.length + 1) - (i + 1)))), (74, (.osl 0 g 10 0 (l.length + 1))), (75, (.int .i64 ((i : Nat) : Int))), (76, (.osl 0 g 10 i ((l.length + 1) - i))), (77, (.int .i64 ((((l.length + 1) - (i + 1)) : Nat) : Int))), (78, (.osl 0 g 10 0 (l.length + 1))), (79, (.int .i64 ((i : Nat) : Int))), (80, (.osl 0 g 10 i ((l.length + 1) - i))), (81, (.sl .clip 10 [(Entry.row x)]))]) (Va_6 g l i r) 1 (opIn Try.f88 16 4) (AV.int .i64 1) (Va_5 g l i x r)) (.g (.r (.g (.h' (Va_5 g l i x r) (.f 1 (AV.osl 0 g 10 0 (l.length + 1)) (.e (AV.osl 0 g 10 0 (l.length + 1))))))))))))))))))))))))))))))))))))))))))))))))))
@[simp] abbrev Va_7 (v1_ : Nat) (v2_ : List Entry) (v3_ : Nat) (v4_ : Entry) : Heap := [⟨(v1_ + 1), 10, (List.map Entry.row (v2_.take v3_ ++ v4_ :: v2_.drop v3_)), none⟩]
theorem InsE_spec (l : List Entry) (x : Entry) (g i n : Nat) (hn : n = l.length) (hi : i ≤ l.length) (hl : l.length < 1048576) : ACalls Try.prog 88 [(.osl 0 g 10 0 n), (.int .i64 ((i : Nat) : Int)), (.sl .clip 10 [(Entry.row x)])] ([⟨g, 10, (List.map Entry.row l), none⟩] : Heap) ((AV.osl 0 (g + 1) 10 0 (n + 1)), (Va_7 g l i x)) := by
  subst hn
  exact ACalls.insert Entry.rows_bdd hi (InsEE_spec l x g hl) (fun h r hr => InsEG_spec l x g i r h hl hr) (fun h r hr => InsER_spec l x g i r h hl hr)
@[simp] abbrev Va_8 (v1_ : Nat) (v2_ : List Entry) (v3_ : Nat) : Heap := [⟨v1_, 10, (List.map Entry.row (v2_.take v3_ ++ v2_.drop (v3_ + 1)) ++ [(List.replicate 10 AV.unk)]), none⟩]
@[simp] abbrev Va_9 (v1_ : Nat) (v2_ : List Entry) (v3_ : Nat) : Heap := [⟨v1_, 10, (List.map Entry.row (v2_.take v3_ ++ v2_.drop (v3_ + 1) ++ v2_.drop (v2_.length - 1))), none⟩]
end Go.Proofs.Ytcmfnfkahdconaa.AM

set_option maxRecDepth 100000
set_option linter.unusedVariables false
set_option linter.unusedSimpArgs false
namespace Go.Proofs.Ytcmfnfkahdconaa.AM
open Go Go.Proofs.Ytcmfnfkahdconaa
attribute [local irreducible] ACalls funT codeT codeQ LoopTo
attribute [local irreducible] Tp.card Tp.cardT Tp.next Tp.step Tp.cards Tp.cardsT Tp.key Tp.keyT sink insSort sortK insK posK beforeK onceStep onceS
def findP (l : List Entry) (k : Key) : Nat := (l.takeWhile fun e => beforeK e.card.key k).length
def findB (l : List Entry) (k : Key) : Bool := decide (findP l k < l.length) && Key.eqb (nth l (findP l k)).card.key k
theorem findP_le (l : List Entry) (k : Key) : findP l k ≤ l.length := by
  unfold findP
  have := List.Sublist.length_le (List.takeWhile_sublist (l := l) fun e => beforeK e.card.key k)
  exact this
theorem findP_lt {l : List Entry} {k : Key} : ∀ {i : Nat}, i < findP l k → beforeK (nth l i).card.key k = true := by
  unfold findP
  induction l with
  | nil => intro i h; simp at h
  | cons e l ih =>
    intro i h
    rw [List.takeWhile_cons] at h
    by_cases hb : beforeK e.card.key k = true
    · rw [if_pos hb] at h
      cases i with
      | zero => exact hb
      | succ i => exact ih (by simpa using h)
    · rw [if_neg hb] at h; simp at h
theorem findP_at {l : List Entry} {k : Key} (h : findP l k < l.length) : beforeK (nth l (findP l k)).card.key k = false := by
  unfold findP at *
  induction l with
  | nil => simp at h
  | cons e l ih =>
    rw [List.takeWhile_cons] at h ⊢
    by_cases hb : beforeK e.card.key k = true
    · rw [if_pos hb] at h ⊢
      exact ih (by simpa using h)
    · rw [if_neg hb]
      have h3 : beforeK e.card.key k = false := by simpa using hb
      exact h3
theorem findB_lt {l : List Entry} {k : Key} (h : findB l k = true) : findP l k < l.length := by
  unfold findB at h
  rw [Bool.and_eq_true] at h
  exact of_decide_eq_true h.1
theorem findP_pos {l : List Entry} {k : Key} {i : Nat} (hi : i ≤ l.length) (h1 : ∀ j, j < i → beforeK (nth l j).card.key k = true) (h2 : i < l.length → beforeK (nth l i).card.key k = false) : findP l k = i := by
  rcases Nat.lt_trichotomy (findP l k) i with h | h | h
  · have := h1 _ h
    rw [findP_at ow] at this; simp at this
  · exact h
  · have := findP_lt h
    rw [h2 (by have := findP_le l k; omega)] at this; simp at this
def find_ann : Ann := { refs := [3], base := 2, fin := some 2, live := [(2, [0, 3, 6])], out := [(2, [0, 3, 6])] }
@[simp] abbrev Vb_o1 (v1_ : Int) (v2_ : Nat) (v3_ : Nat) : Ob := ⟨0, 2, [[(AV.int .i64 v1_), (AV.osl 1 v2_ 10 0 v3_)]], none⟩
@[simp] abbrev Vb_1 (v1_ : Int) (v2_ : Nat) (v3_ : Nat) (v4_ : List Entry) : Heap := [Vb_o1 v1_ v2_ v3_, ⟨v2_, 10, (List.map Entry.row v4_), none⟩]
@[simp] abbrev Vb_2 (v1_ : Key) (v2_ : Nat) : Fr := (mkF 50 [(0, (AV.obj 0 0 0 0)), (3, (AV.ref (Key.row v1_) 0)), (6, (AV.int .i64 ((v2_ : Nat) : Int)))])
set_option maxRecDepth 100000 in
theorem find_step (most : Int) (l : List Entry) (k : Key) (g n : Nat) (i : Nat) (hn : n = l.length) (hl : l.length < 1048576) (hi : i ≤ l.length) {eX : Ex} {FX : Fr} {HX : Heap} (k1 : (decide (((i : Nat) : Int) < ((n : Nat) : Int))) = true → (lessK (nth l i).card.key k) = true → LoopTo (codeQ Try.prog (X find_ann) (loopOf Try.f75 0)) (some [0, 3, 6]) (some [0, 3, 6]) (mkF 50 [(0, (.obj 0 0 0 0)), (3, (.ref (Key.row k) 0)), (6, (.int .i64 ((i + 1 : Nat) : Int)))]) (Vb_1 most g n l) eX FX HX) (k2 : (decide (((i : Nat) : Int) < ((n : Nat) : Int))) = true → (lessK (nth l i).card.key k) = false → ((.exit 0 : Ex), (Vb_2 k i), (Vb_1 most g n l)) = (eX, FX, HX)) (k3 : (decide (((i : Nat) : Int) < ((n : Nat) : Int))) = false → ((.exit 0 : Ex), (Vb_2 k i), (Vb_1 most g n l)) = (eX, FX, HX)) : LoopTo (codeQ Try.prog (X find_ann) (loopOf Try.f75 0)) (some [0, 3, 6]) (some [0, 3, 6]) (Vb_2 k i) (Vb_1 most g n l) eX FX HX :=
  stepO (.r (.two (decide (((i : Nat) : Int) < ((n : Nat) : Int))) (fun h1 h1' => (.yes (.yes (.yes (.yes (.yes (.io 13 1 g 10 10 0 n ((i : Nat) : Int) i (IdxOsl.mk _ ow ow) (.yes (.yes (.yes (.t 16 (AV.agg (Key.row (nth l i).card.key)) (Vb_1 most g n l) (load_row (rowAt_map (row := Entry.row) (l := l) (k := 10) (room := none) kr om) kr : LoadTo tt 31 0 (Vb_1 most g n l) (rowAt (Vb_1 most g n l) 1 g i) = some ((AV.agg (Key.row (nth l i).card.key)), (Vb_1 most g n l))) (.yes (.yes (.c 18 (keyLess_at (nth l i).card.key k  (Vb_1 most g n l)) (.g (.two (lessK (nth l i).card.key k) (fun h2 h2' => (.r (.y 1 (.int .i64 (IntKind.i64.wrap (((i : Nat) : Int) + 1))) (AV.int .i64 ((i + 1 : Nat) : Int)) (Yes.add ow ow ow) (.g (.l (k1 h1 h2)))))) (fun h2 h2' => (.l (k2 h1 h2))))))))))))))))))) (fun h1 h1' => (.no (.no (.no (.no (.no (.no (.no (.no (.no (.no (.g (.no (.l (k3 h1)))))))))))))))))
@[simp] abbrev Vb_3 (v1_ : Key) (v2_ : List Entry) : Fr := (mkF 50 [(0, (AV.obj 0 0 0 0)), (3, (AV.ref (Key.row v1_) 0)), (6, (AV.int .i64 (((findP v2_ v1_) : Nat) : Int)))])
theorem find_loop (most : Int) (l : List Entry) (k : Key) (g n : Nat) (hn : n = l.length) (hl : l.length < 1048576) (r : Nat) : ∀ (i : Nat), i + r = findP l k →
    LoopTo (codeQ Try.prog (X find_ann) (loopOf Try.f75 0)) (some [0, 3, 6]) (some [0, 3, 6]) (Vb_2 k i) (Vb_1 most g n l) (.exit 0) (Vb_3 k l) (Vb_1 most g n l) := by
  have hle := findP_le l k
  induction r with
  | zero =>
    intro i hi
    obtain rfl : i = findP l k := by omega
    refine find_step most l k g n (findP l k) hn hl ow (fun h1 h2 => ?_) (fun _ _ => rfl) (fun _ => rfl)
    rw [less_before, findP_at (by have := of_decide_eq_true h1; omega)] at h2; simp at h2
  | succ r ih =>
    intro i hi
    refine find_step most l k g n i hn hl ow (fun _ _ => ih (i + 1) ow) (fun _ h2 => ?_) (fun h1 => ?_)
    · rw [less_before, findP_lt (show i < findP l k by omega)] at h2; simp at h2
    · simp at h1; omega
set_option maxRecDepth 100000 in
theorem find_spec (most : Int) (l : List Entry) (k : Key) (g n : Nat) (hn : n = l.length) (hl : l.length < 1048576) : ACalls Try.prog 75 [(.obj 0 0 0 0), (.agg (Key.row k))] (Vb_1 most g n l) ((AV.tup [(.int .i64 (((findP l k) : Nat) : Int)), (.bool (findB l k))]), (Vb_1 most g n l)) := by
  have hle := findP_le l k
  exact specO (fn := Try.f75) (ann := find_ann) (Has.o Try.func75) (.r (.g (.r (.g (.loop (Vb_3 k l) (show LoopTo (codeQ Try.prog (X find_ann) (loopOf Try.f75 0)) (some [0, 3, 6]) (some [0, 3, 6]) (mkF 50 [(0, (.obj 0 0 0 0)), (3, (.ref (Key.row k) 0)), (6, (.int .i64 0))]) (Vb_1 most g n l) (.exit 0) (Vb_3 k l) (Vb_1 most g n l) from (find_loop most l k g n hn hl (findP l k) 0 ow)) (.r (.two (decide ((((findP l k) : Nat) : Int) < ((n : Nat) : Int))) (fun h1 h1' => (.yes (.yes (.yes (.yes (.yes (.io 14 1 g 10 10 0 n (((findP l k) : Nat) : Int) (findP l k) (IdxOsl.mk _ ow ow) (.yes (.yes (.yes (.t 17 (AV.agg (Key.row (nth l (findP l k)).card.key)) (Vb_1 most g n l) (load_row (rowAt_map (row := Entry.row) (l := l) (k := 10) (room := none) kr om) kr : LoadTo tt 31 0 (Vb_1 most g n l) (rowAt (Vb_1 most g n l) 1 g (findP l k)) = some ((AV.agg (Key.row (nth l (findP l k)).card.key)), (Vb_1 most g n l))) (.yes (.yes (.g (.f 2 (AV.tup [(.int .i64 (((findP l k) : Nat) : Int)), (.bool (Key.eqb (nth l (findP l k)).card.key k))]) (.e (AV.tup [(.int .i64 (((findP l k) : Nat) : Int)), (.bool (Key.eqb (nth l (findP l k)).card.key k))]) (by
        try delta Vb_1 Vb_o1
        have hb : findB l k = Key.eqb (nth l (findP l k)).card.key k := by unfold findB; first | (simp_all; done) | (simp_all; omega) | (simp_all; intro h; omega)
        rw [hb]))))))))))))))))) (fun h1 h1' => (.no (.no (.no (.no (.no (.no (.no (.no (.no (.no (.g (.f 2 (AV.tup [(AV.int .i64 (((findP l k) : Nat) : Int)), (AV.bool false)]) (.e (AV.tup [(AV.int .i64 (((findP l k) : Nat) : Int)), (AV.bool false)]) (by
        try delta Vb_1 Vb_o1
        have hb : findB l k = false := by unfold findB; first | (simp_all; done) | (simp_all; omega) | (simp_all; intro h; omega)
        rw [hb]))))))))))))))))))))))
theorem find_at (most : Int) (l : List Entry) (k : Key) (g n : Nat) (hn : n = l.length) (hl : l.length < 1048576) (H : Heap) : ACalls Try.prog 75 [(.obj 0 0 0 0), (.agg (Key.row k))] ((Vb_1 most g n l) ++ H) ((AV.tup [(.int .i64 (((findP l k) : Nat) : Int)), (.bool (findB l k))]), (Vb_1 most g n l) ++ H) := (find_spec most l k g n hn hl).ext kr kr ob ob kr H
def putIn_ann : Ann := { refs := [3], base := 2, fin := some 2 }
@[simp] abbrev Vb_4 (v1_ : Int) (v2_ : Nat) (v3_ : Nat) (v4_ : List Entry) (v5_ : Entry) : Heap := [Vb_o1 v1_ v2_ v3_, ⟨v2_, 10, (List.map Entry.row (v4_.set (findP v4_ v5_.card.key) v5_)), none⟩]
set_option maxRecDepth 100000 in
theorem putIn_spec (most : Int) (l : List Entry) (e : Entry) (g n : Nat) (hn : n = l.length) (hl : l.length < 1048576) (hb : findB l e.card.key = true) : ACalls Try.prog 45 [(.obj 0 0 0 0), (.agg (Entry.row e))] (Vb_1 most g n l) ((AV.int .i64 0), (Vb_4 most g n l e)) := by
  have hle := findP_le l e.card.key
  have hlt := findB_lt hb
  exact specO (fn := Try.f45) (ann := putIn_ann) (Has.o Try.func45) (.r (.g (.r (.c 4 (find_at most l e.card.key g n oa oa ([] : Heap)) (.g (.r (.y 0 (AV.bool (findB l e.card.key)) (AV.bool true) (Yes.bool (hb)) (.g (.yes (.r (.io 6 1 g 10 10 0 n (((findP l e.card.key) : Nat) : Int) (findP l e.card.key) (IdxOsl.mk _ ow ow) (.st 7 1 g (findP l e.card.key) 10 0 (AV.agg (Entry.row e)) (Vb_4 most g n l e) (store_row (us := (Entry.row e)) (rowAt_map (row := Entry.row) (l := l) (k := 10) (room := none) kr om) kr (by simp [Entry.row]) (by simp [setAt, fillAt, List.map_set, Entry.row])) (.g (.r (.g (.f 2 (AV.int .i64 0) (.e (AV.int .i64 0))))))))))))))))))
def putFull_ann : Ann := { refs := [3], base := 2, fin := some 2 }
set_option maxRecDepth 100000 in
theorem putFull_spec (most : Int) (l : List Entry) (e : Entry) (g n : Nat) (hn : n = l.length) (hl : l.length < 1048576) (hb : findB l e.card.key = false) (hm : most ≤ (n : Int)) : ACalls Try.prog 45 [(.obj 0 0 0 0), (.agg (Entry.row e))] ([⟨0, 2, [[(.int .i64 most), (.osl 1 g 10 0 n)]], none⟩, ⟨g, 10, (List.map Entry.row l), none⟩] : Heap) ((AV.int .i64 24), ([⟨0, 2, [[(.int .i64 most), (.osl 1 g 10 0 n)]], none⟩, ⟨g, 10, (List.map Entry.row l), none⟩] : Heap)) := by
  have hle := findP_le l e.card.key
  exact specO (fn := Try.f45) (ann := putFull_ann) (Has.o Try.func45) (.r (.g (.r (.c 4 (find_at most l e.card.key g n oa oa ([] : Heap)) (.g (.r (.y 0 (AV.bool (findB l e.card.key)) (AV.bool false) (Yes.bool (hb)) (.g (.no (.r (.y 9 (AV.bool (decide (((n : Nat) : Int) ≥ most))) (AV.bool true) (Yes.bool om) (.g (.yes (.r (.g (.f 2 (AV.int .i64 24) (.e (AV.int .i64 24))))))))))))))))))
def putNew_ann : Ann := { refs := [3], base := 2, fin := some 2 }
set_option maxRecDepth 100000 in
theorem putNew_spec (most : Int) (l : List Entry) (e : Entry) (g n : Nat) (hn : n = l.length) (hl : l.length < 1048576) (hb : findB l e.card.key = false) (hm : (n : Int) < most) : ACalls Try.prog 45 [(.obj 0 0 0 0), (.agg (Entry.row e))] ([⟨0, 2, [[(.int .i64 most), (.osl 1 g 10 0 n)]], none⟩, ⟨g, 10, (List.map Entry.row l), none⟩] : Heap) ((AV.int .i64 0), ([⟨0, 2, [[(.int .i64 most), (.osl 1 (g + 1) 10 0 (n + 1))]], none⟩, ⟨(g + 1), 10, (List.map Entry.row (l.take (findP l e.card.key) ++ e :: l.drop (findP l e.card.key))), none⟩] : Heap)) := by
  have hle := findP_le l e.card.key
  exact specO (fn := Try.f45) (ann := putNew_ann) (Has.o Try.func45) (.r (.g (.r (.c 4 (find_at most l e.card.key g n oa oa ([] : Heap)) (.g (.r (.y 0 (AV.bool (findB l e.card.key)) (AV.bool false) (Yes.bool (hb)) (.g (.no (.r (.y 9 (AV.bool (decide (((n : Nat) : Int) ≥ most))) (AV.bool false) (Yes.bool (by simp; omega)) (.g (.no (.r (.ch 8 ([⟨0, 2, [[(AV.int .i64 most), (AV.osl 1 g 10 0 n)]], none⟩, ⟨(g + 1), 10, (List.map Entry.row (l.take (findP l e.card.key) ++ e :: l.drop (findP l e.card.key))), none⟩] : Heap) (ACalls.pre (args' := [(AV.osl 1 g 10 0 n), (AV.int .i64 (((findP l e.card.key) : Nat) : Int)), (AV.sl .clip 10 [(Entry.row e)])]) (ACalls.put2 [1] ([⟨0, 2, [[(AV.int .i64 most), (AV.osl 1 g 10 0 n)]], none⟩, ⟨g, 10, (List.map Entry.row l), none⟩] : Heap) (AV.osl 1 (g + 1) 10 0 (n + 1)) ([⟨0, 2, [[(AV.int .i64 most), (AV.osl 1 g 10 0 n)]], none⟩, ⟨(g + 1), 10, (List.map Entry.row (l.take (findP l e.card.key) ++ e :: l.drop (findP l e.card.key))), none⟩] : Heap) (InsE_spec l e g (findP l e.card.key) n oa oa oa) (⟨Ob.ren0 (Entry.rows_bdd 0 _), trivial⟩) (⟨Ob.ren0 (Entry.rows_bdd 0 _), trivial⟩)) ⟨AV.wk_refl_any _, AV.wk_refl_any _, ⟨rfl, rfl, .inl rfl⟩, trivial⟩) (.g (.r (.g (.h' ([⟨0, 2, [[(AV.int .i64 most), (AV.osl 1 (g + 1) 10 0 (n + 1))]], none⟩, ⟨(g + 1), 10, (List.map Entry.row (l.take (findP l e.card.key) ++ e :: l.drop (findP l e.card.key))), none⟩] : Heap) (.f 2 (AV.int .i64 0) (.e (AV.int .i64 0))))))))))))))))))))))
def putE (most : Int) (l : List Entry) (e : Entry) : Int := if findB l e.card.key = true then 0 else if most ≤ (l.length : Int) then 24 else 0
def putL (most : Int) (l : List Entry) (e : Entry) : List Entry := if findB l e.card.key = true then l.set (findP l e.card.key) e else if most ≤ (l.length : Int) then l else l.take (findP l e.card.key) ++ e :: l.drop (findP l e.card.key)
def putG (most : Int) (l : List Entry) (e : Entry) (g : Nat) : Nat := if findB l e.card.key = true then g else if most ≤ (l.length : Int) then g else g + 1
theorem putL_len (most : Int) (l : List Entry) (e : Entry) : (putL most l e).length ≤ l.length + 1 := by
  have := findP_le l e.card.key
  unfold putL; split
  · simp
  · split
    · omega
    · simp; omega
def zE : Entry := ⟨⟨⟨⟨#[]⟩, ⟨#[]⟩⟩, 0, 0, 0, ⟨0, 0, 0⟩, false⟩, 0⟩
def dropL (l : List Entry) (k : Key) : List Entry := if findB l k = true then l.take (findP l k) ++ l.drop (findP l k + 1) else l
def getE (l : List Entry) (k : Key) : Entry := if findB l k = true then nth l (findP l k) else zE
theorem put_spec (most : Int) (l : List Entry) (e : Entry) (g n : Nat) (hn : n = l.length) (hl : l.length < 1048576) : ACalls Try.prog 45 [(.obj 0 0 0 0), (.agg (Entry.row e))] ([⟨0, 2, [[(.int .i64 most), (.osl 1 g 10 0 n)]], none⟩, ⟨g, 10, (List.map Entry.row l), none⟩] : Heap) ((AV.int .i64 (putE most l e)), ([⟨0, 2, [[(.int .i64 most), (.osl 1 (putG most l e g) 10 0 (List.length (putL most l e)))]], none⟩, ⟨(putG most l e g), 10, (List.map Entry.row (putL most l e)), none⟩] : Heap)) := by
  subst hn
  have hle := findP_le l e.card.key
  cases hb : findB l e.card.key with
  | true =>
    have h1 : putE most l e = 0 := by simp [putE, hb]
    have h2 : putL most l e = l.set (findP l e.card.key) e := by simp [putL, hb]
    have h3 : putG most l e g = g := by simp [putG, hb]
    rw [h1, h2, h3, List.length_set]
    exact putIn_spec most l e g l.length rfl hl hb
  | false =>
    by_cases hm : most ≤ (l.length : Int)
    · have h1 : putE most l e = 24 := by simp [putE, hb, hm]
      have h2 : putL most l e = l := by simp [putL, hb, hm]
      have h3 : putG most l e g = g := by simp [putG, hb, hm]
      rw [h1, h2, h3]
      exact putFull_spec most l e g l.length rfl hl hb hm
    · have h1 : putE most l e = 0 := by simp [putE, hb, hm]
      have h2 : putL most l e = l.take (findP l e.card.key) ++ e :: l.drop (findP l e.card.key) := by simp [putL, hb, hm]
      have h3 : putG most l e g = g + 1 := by simp [putG, hb, hm]
      have h4 : (l.take (findP l e.card.key) ++ e :: l.drop (findP l e.card.key)).length = l.length + 1 := by simp; omega
      rw [h1, h2, h3, h4]
      exact putNew_spec most l e g l.length rfl hl hb ow
theorem put_at (most : Int) (l : List Entry) (e : Entry) (g n : Nat) (hn : n = l.length) (hl : l.length < 1048576) (H : Heap) : ACalls Try.prog 45 [(.obj 0 0 0 0), (.agg (Entry.row e))] ((Vb_1 most g n l) ++ H) ((AV.int .i64 (putE most l e)), ([⟨0, 2, [[(.int .i64 most), (.osl 1 (putG most l e g) 10 0 (List.length (putL most l e)))]], none⟩, ⟨(putG most l e g), 10, (List.map Entry.row (putL most l e)), none⟩] : Heap) ++ H) := (put_spec most l e g n hn hl).ext kr kr ob ob kr H
@[simp] abbrev Vb_o2 (v1_ : Nat) (v2_ : List Entry) (v3_ : Key) : Ob := ⟨v1_, 10, (List.map Entry.row (v2_.take (findP v2_ v3_) ++ v2_.drop ((findP v2_ v3_) + 1))), none⟩
@[simp] abbrev Vb_5 (v1_ : Int) (v2_ : Nat) (v3_ : Nat) (v4_ : List Entry) (v5_ : Key) : Heap := [⟨0, 2, [[(AV.int .i64 v1_), (AV.osl 1 v2_ 10 0 (v3_ - 1))]], none⟩, Vb_o2 v2_ v4_ v5_]
@[simp] abbrev Vb_6 (v1_ : Int) (v2_ : Nat) (v3_ : Nat) (v4_ : List Entry) (v5_ : Key) : Heap := [Vb_o1 v1_ v2_ v3_, Vb_o2 v2_ v4_ v5_]
def getIn_ann : Ann := { refs := [3], base := 2, fin := some 2 }
@[simp] abbrev Vb_o3  : Ob := ⟨0, 10, [[(AV.str ⟨#[]⟩), (AV.str ⟨#[]⟩), (AV.int .i64 0), (AV.int .i64 0), (AV.int .i64 0), (AV.int .i64 0), (AV.int .i64 0), (AV.int .i64 0), (AV.bool false), (AV.int .i64 0)]], none⟩
@[simp] abbrev Vb_7  : Heap := [Vb_o3]
@[simp] abbrev Vb_8 (v1_ : Int) (v2_ : Nat) (v3_ : Nat) (v4_ : List Entry) : Heap := [Vb_o1 v1_ v2_ v3_, ⟨v2_, 10, (List.map Entry.row v4_), none⟩, Vb_o3]
set_option maxRecDepth 100000 in
theorem getIn_spec (most : Int) (l : List Entry) (k : Key) (g n : Nat) (hn : n = l.length) (hl : l.length < 1048576) (hb : findB l k = true) : ACalls Try.prog 37 [(.obj 0 0 0 0), (.agg (Key.row k))] (Vb_1 most g n l) ((AV.tup [(.agg (Entry.row (nth l (findP l k)))), (.bool true)]), (Vb_1 most g n l)) := by
  have hle := findP_le l k
  have hlt := findB_lt hb
  exact specO (fn := Try.f37) (ann := getIn_ann) (Has.o Try.func37) (.r (.g (.r (.c 2 (find_at most l k g n oa oa Vb_7) (.g (.r (.h' (Vb_8 most g n l) (.y 1 (AV.bool (!(findB l k))) (AV.bool false) (Yes.bool (by rw [hb]; rfl)) (.g (.no (.r (.io 5 1 g 10 10 0 n (((findP l k) : Nat) : Int) (findP l k) (IdxOsl.mk _ ow ow) (.t 6 (AV.agg (Entry.row (nth l (findP l k)))) (Vb_8 most g n l) (load_row (rowAt_map (row := Entry.row) (l := l) (k := 10) (room := none) kr om) kr : LoadTo tt 70 0 (Vb_8 most g n l) (rowAt (Vb_8 most g n l) 1 g (findP l k)) = some ((AV.agg (Entry.row (nth l (findP l k)))), (Vb_8 most g n l))) (.g (.h' (Vb_1 most g n l) (.f 2 (AV.tup [(AV.agg (Entry.row (nth l (findP l k)))), (AV.bool true)]) (.e (AV.tup [(AV.agg (Entry.row (nth l (findP l k)))), (AV.bool true)]))))))))))))))))))
def getOut_ann : Ann := { refs := [3], base := 2, fin := some 2 }
set_option maxRecDepth 100000 in
theorem getOut_spec (most : Int) (l : List Entry) (k : Key) (g n : Nat) (hn : n = l.length) (hl : l.length < 1048576) (hb : findB l k = false) : ACalls Try.prog 37 [(.obj 0 0 0 0), (.agg (Key.row k))] (Vb_1 most g n l) ((AV.tup [(.agg (Entry.row zE)), (.bool false)]), (Vb_1 most g n l)) := by
  have hle := findP_le l k
  exact specO (fn := Try.f37) (ann := getOut_ann) (Has.o Try.func37) (.r (.g (.r (.c 2 (find_at most l k g n oa oa Vb_7) (.g (.r (.h' (Vb_8 most g n l) (.y 1 (AV.bool (!(findB l k))) (AV.bool true) (Yes.bool (by rw [hb]; rfl)) (.g (.yes (.r (.g (.h' (Vb_1 most g n l) (.f 2 (AV.tup [(AV.agg [(AV.str ⟨#[]⟩), (AV.str ⟨#[]⟩), (AV.int .i64 0), (AV.int .i64 0), (AV.int .i64 0), (AV.int .i64 0), (AV.int .i64 0), (AV.int .i64 0), (AV.bool false), (AV.int .i64 0)]), (AV.bool false)]) (.e (AV.tup [(AV.agg [(AV.str ⟨#[]⟩), (AV.str ⟨#[]⟩), (AV.int .i64 0), (AV.int .i64 0), (AV.int .i64 0), (AV.int .i64 0), (AV.int .i64 0), (AV.int .i64 0), (AV.bool false), (AV.int .i64 0)]), (AV.bool false)]))))))))))))))))
theorem get_spec (most : Int) (l : List Entry) (k : Key) (g n : Nat) (hn : n = l.length) (hl : l.length < 1048576) : ACalls Try.prog 37 [(.obj 0 0 0 0), (.agg (Key.row k))] ([⟨0, 2, [[(.int .i64 most), (.osl 1 g 10 0 n)]], none⟩, ⟨g, 10, (List.map Entry.row l), none⟩] : Heap) ((AV.tup [(.agg (Entry.row (getE l k))), (.bool (findB l k))]), ([⟨0, 2, [[(.int .i64 most), (.osl 1 g 10 0 n)]], none⟩, ⟨g, 10, (List.map Entry.row l), none⟩] : Heap)) := by
  cases hb : findB l k with
  | true =>
    have h2 : getE l k = nth l (findP l k) := by simp [getE, hb]
    rw [h2]
    exact getIn_spec most l k g n hn hl hb
  | false =>
    have h2 : getE l k = zE := by simp [getE, hb]
    rw [h2]
    exact getOut_spec most l k g n hn hl hb
theorem get_at (most : Int) (l : List Entry) (k : Key) (g n : Nat) (hn : n = l.length) (hl : l.length < 1048576) (H : Heap) : ACalls Try.prog 37 [(.obj 0 0 0 0), (.agg (Key.row k))] ((Vb_1 most g n l) ++ H) ((AV.tup [(.agg (Entry.row (getE l k))), (.bool (findB l k))]), (Vb_1 most g n l) ++ H) := (get_spec most l k g n hn hl).ext kr kr ob ob kr H
@[simp] abbrev Vb_9 (v1_ : Int) (v2_ : Nat) (v3_ : Nat) (v4_ : List Entry) : Heap := [Vb_o1 v1_ v2_ v3_, ⟨v2_, 10, (List.map Entry.row v4_), none⟩, ⟨0, 10, (List.map Entry.row v4_), none⟩]
def liveL (l : List Entry) : Nat := l.foldl (fun s e => if (!e.card.gone) = true then s + 1 else s) 0
theorem fold_map {α β : Type} (f : α → β) (l : List α) : ∀ (out : List β) (k g : Nat), l.foldl (fun (s : List β × Nat × Nat) c => (s.1 ++ [f c], s.2.1 + 1, s.2.2 + 1)) (out, k, g) = (out ++ l.map f, k + l.length, g + l.length) := by
  induction l with
  | nil => intro out k g; simp
  | cons c l ih => intro out k g; rw [List.foldl_cons, ih]; simp; omega
@[simp] abbrev Vb_10 (v1_ : Nat) (v2_ : Nat) (v3_ : Nat) (v4_ : Nat) : Fr := (mkF 23 [(3, (AV.int .i64 ((v1_ : Nat) : Int))), (9, (AV.osl 1 v2_ 10 0 v3_)), (10, (AV.int .i64 ((v3_ : Nat) : Int))), (11, (AV.int .i64 ((v4_ : Nat) : Int)))])
@[simp] abbrev Vb_11 (v1_ : Int) (v2_ : Nat) (v3_ : Nat) (v4_ : List Entry) (v5_ : Nat) : Heap := [Vb_o1 v1_ v2_ v3_, ⟨v2_, 10, (List.map Entry.row v4_), none⟩, ⟨0, 10, [(Entry.row (nth v4_ v5_))], none⟩]
attribute [local irreducible] liveL
@[simp] abbrev Vb_12 (v1_ : List Entry) (v2_ : Nat) (v3_ : Nat) : Fr := (mkF 23 [(3, (AV.int .i64 (((liveL v1_) : Nat) : Int))), (9, (AV.osl 1 v2_ 10 0 v3_)), (10, (AV.int .i64 ((v3_ : Nat) : Int))), (11, (AV.int .i64 ((v3_ : Nat) : Int)))])
def scards_ann : Ann := { gha := [(1, .vir 3 9), (6, .cut 3), (7, .frz 2)], base := 2, fin := some 2, live := [(3, [3, 9, 10, 11])], out := [(3, [3, 9, 10, 11])] }
@[simp] abbrev Vb_13 (v1_ : Int) (v2_ : Nat) (v3_ : Nat) (v4_ : List Entry) (v5_ : Nat) (v6_ : List Card) (v7_ : Nat) : Heap := [Vb_o1 v1_ v2_ v3_, ⟨v2_, 10, (List.map Entry.row v4_), none⟩, ⟨(v5_ + 1), 9, (List.map Card.row (v6_ ++ [(nth v4_ v7_).card])), none⟩]
@[simp] abbrev Vb_14 (v1_ : Nat) (v2_ : Nat) (v3_ : Nat) (v4_ : Nat) (v5_ : Nat) : Fr := (mkF 22 [(3, (AV.osl 2 v1_ 9 0 v2_)), (9, (AV.osl 1 v3_ 10 0 v4_)), (10, (AV.int .i64 ((v4_ : Nat) : Int))), (11, (AV.int .i64 ((v5_ : Nat) : Int)))])
@[simp] abbrev Vb_15 (v1_ : Int) (v2_ : Nat) (v3_ : Nat) (v4_ : List Entry) (v5_ : Nat) (v6_ : List Card) : Heap := [Vb_o1 v1_ v2_ v3_, ⟨v2_, 10, (List.map Entry.row v4_), none⟩, ⟨v5_, 9, (List.map Card.row v6_), none⟩]
@[simp] abbrev Vb_16 (v1_ : Int) (v2_ : Nat) (v3_ : Nat) (v4_ : List Entry) (v5_ : Nat) (v6_ : List Card) : Heap := [Vb_o1 v1_ v2_ v3_, ⟨v2_, 10, (List.map Entry.row v4_), none⟩, ⟨v5_, 9, (List.map Card.row v6_), none⟩, Vb_o3]
set_option maxRecDepth 100000 in
theorem scards_step (most : Int) (l : List Entry) (g : Nat) (n : Nat) (out : List Card) (k : Nat) (h : Nat) (i : Nat) (hn : n = l.length) (hl : l.length < 1048576) (hk : k = out.length) (hki : k ≤ i) (hle_ : i ≤ n) {eX : Ex} {FX : Fr} {HX : Heap} (k1 : (decide (((i : Nat) : Int) < ((n : Nat) : Int))) = true → LoopTo (codeQ Try.prog (X scards_ann) (loopOf Try.f34 0)) (some [3, 9, 10, 11]) (some [3, 9, 10, 11]) (mkF 22 [(3, (.osl 2 (h + 1) 9 0 (k + 1))), (9, (.osl 1 g 10 0 n)), (10, (.int .i64 ((n : Nat) : Int))), (11, (.int .i64 ((i + 1 : Nat) : Int)))]) (Vb_13 most g n l h out i) eX FX HX) (k2 : (decide (((i : Nat) : Int) < ((n : Nat) : Int))) = false → ((.exit 0 : Ex), (Vb_14 h k g n i), (Vb_15 most g n l h out)) = (eX, FX, HX)) : LoopTo (codeQ Try.prog (X scards_ann) (loopOf Try.f34 0)) (some [3, 9, 10, 11]) (some [3, 9, 10, 11]) (Vb_14 h k g n i) (Vb_15 most g n l h out) eX FX HX :=
  stepO (.r (.g (.two (decide (((i : Nat) : Int) < ((n : Nat) : Int))) (fun h1 h1' => (.r (.h' (Vb_16 most g n l h out) (.io 0 1 g 10 10 0 n ((i : Nat) : Int) i (IdxOsl.mk _ ow ow) (.t 1 (AV.agg (Entry.row (nth l i))) (Vb_16 most g n l h out) (load_row (rowAt_map (row := Entry.row) (l := l) (k := 10) (room := none) kr om) kr : LoadTo tt 70 0 (Vb_16 most g n l h out) (rowAt (Vb_16 most g n l h out) 1 g i) = some ((AV.agg (Entry.row (nth l i))), (Vb_16 most g n l h out))) (.g (.r (.h' ([⟨0, 2, [[(AV.int .i64 most), (AV.osl 1 g 10 0 n)]], none⟩, ⟨g, 10, (List.map Entry.row l), none⟩, ⟨h, 9, (List.map Card.row out), none⟩, ⟨0, 10, [(Entry.row (nth l i))], none⟩] : Heap) (.ap 4 33 (AV.osl 2 h 9 0 k) (AV.sl .clip 9 [(Card.row (nth l i).card)]) (AV.osl 2 (h + 1) 9 0 (k + 1)) ([⟨0, 2, [[(AV.int .i64 most), (AV.osl 1 g 10 0 n)]], none⟩, ⟨g, 10, (List.map Entry.row l), none⟩, ⟨(h + 1), 9, (List.map Card.row (out ++ [(nth l i).card])), none⟩, ⟨0, 10, [(Entry.row (nth l i))], none⟩] : Heap) (evAppend_one (row := Card.row) (l := out) (x := (nth l i).card) (T := tt) (e := 58) (te := { d := .struct [(31, 0), (3, 2), (3, 3), (2, 4), (56, 5), (4, 8)], size := 9, bytes := 88, zero := [.str ⟨#[]⟩, .str ⟨#[]⟩, .int .i64 0, .int .i64 0, .int .i64 0, .int .i64 0, .int .i64 0, .int .i64 0, .bool false] }) (z := 1) (b := 24) (y := [.sl .nil 0 []]) kr kr rfl (by decide) (by decide) kr (by first | assumption | omega | (simp; done) | (simp; omega)) rfl rfl (by first | omega | (show _ * 88 ≤ _; omega) | (simp; omega))) (.g (.r (.y 0 (.int .i64 (IntKind.i64.wrap (((i : Nat) : Int) + 1))) (AV.int .i64 ((i + 1 : Nat) : Int)) (Yes.add ow ow ow) (.h' (Vb_13 most g n l h out i) (.b 3 (.g (.l (k1 h1))))))))))))))))) (fun h1 h1' => (.l (k2 h1))))))
def scards_f (most : Int) (l : List Entry) (g : Nat) (n : Nat) (i : Nat) (s : (List Card) × Nat × Nat) : (List Card) × Nat × Nat := (s.1 ++ [(nth l i).card], (s.2.1 + 1), (s.2.2 + 1))
theorem scards_loop (most : Int) (l : List Entry) (g : Nat) (n : Nat) (hn : n = l.length) (hl : l.length < 1048576)  (r_ : Nat) : ∀ (out : List Card) (k : Nat) (h : Nat) (i : Nat) (sF : (List Card) × Nat × Nat), i + r_ = n → k = out.length → k ≤ i → sF = iter (scards_f most l g n) r_ i (out, k, h) →
    LoopTo (codeQ Try.prog (X scards_ann) (loopOf Try.f34 0)) (some [3, 9, 10, 11]) (some [3, 9, 10, 11]) (Vb_14 h k g n i) (Vb_15 most g n l h out) (.exit 0) (mkF 22 [(3, (.osl 2 sF.2.2 9 0 sF.2.1)), (9, (.osl 1 g 10 0 n)), (10, (.int .i64 ((n : Nat) : Int))), (11, (.int .i64 ((n : Nat) : Int)))]) ([⟨0, 2, [[(.int .i64 most), (.osl 1 g 10 0 n)]], none⟩, ⟨g, 10, (List.map Entry.row l), none⟩, ⟨sF.2.2, 9, (List.map Card.row sF.1), none⟩] : Heap) := by
  induction r_ with
  | zero =>
    intro out k h i sF hi_ hk hki  hF
    obtain rfl : n = i := by omega
    have e_ : sF = (out, k, h) := hF
    refine scards_step most l g n out k h n hn hl hk hki (Nat.le_refl _) (fun h => by simp at h <;> omega) (fun _ => ?_)
    first | done | rfl | (rw [e_]; done) | (rw [e_]; rfl)
  | succ r_ ih =>
    intro out k h i sF hi_ hk hki  hF
    refine scards_step most l g n out k h i hn hl hk hki ow (fun h1 => ?_) (fun h => by simp at h <;> omega)
    · exact ih (out ++ [(nth l i).card]) (k + 1) (h + 1) (i + 1) sF ow (by first | omega | assumption | (simp; done) | (simp; omega) | (simp [*]; done) | (simp [*]; omega)) (by first | omega | assumption | (simp; done) | (simp; omega) | (simp [*]; done) | (simp [*]; omega))  (by rw [hF] <;> simp only [iter, scards_f, if_true, Bool.false_eq_true, if_false])
theorem scards_iter (most : Int) (l : List Entry) (g : Nat) : (l.map (·.card), l.length, l.length) = iter (scards_f most l g l.length) l.length 0 ([], 0, 0) := by
  rw [iter_all (scards_f most l g l.length) (fun s e => (s.1 ++ [e.card], s.2.1 + 1, s.2.2 + 1)) l (fun i s hi => rfl), fold_map (fun e : Entry => e.card)]; simp
@[simp] abbrev Vb_17 (v1_ : List Entry) (v2_ : Nat) (v3_ : Nat) : Fr := (mkF 22 [(3, (AV.osl 2 v1_.length 9 0 v1_.length)), (9, (AV.osl 1 v2_ 10 0 v3_)), (10, (AV.int .i64 ((v3_ : Nat) : Int))), (11, (AV.int .i64 ((v3_ : Nat) : Int)))])
@[simp] abbrev Vb_18 (v1_ : Int) (v2_ : Nat) (v3_ : Nat) (v4_ : List Entry) : Heap := [Vb_o1 v1_ v2_ v3_, ⟨v2_, 10, (List.map Entry.row v4_), none⟩, ⟨v4_.length, 9, (List.map Card.row (v4_.map (·.card))), none⟩]
set_option maxRecDepth 100000 in
theorem scards_spec (most : Int) (l : List Entry) (g n : Nat) (hn : n = l.length) (hl : l.length < 1048576) : ACalls Try.prog 34 [(.obj 0 0 0 0)] (Vb_1 most g n l) ((AV.sl .any 9 (List.map Card.row (l.map (·.card)))), (Vb_1 most g n l)) :=
  specO (fn := Try.f34) (ann := scards_ann) (Has.o Try.func34) (.r (.g (.r (.g (.r (.g (.loop (Vb_17 l g n) (show LoopTo (codeQ Try.prog (X scards_ann) (loopOf Try.f34 0)) (some [3, 9, 10, 11]) (some [3, 9, 10, 11]) (mkF 22 [(3, (.osl 2 0 9 0 0)), (9, (.osl 1 g 10 0 n)), (10, (.int .i64 ((n : Nat) : Int))), (11, (.int .i64 0))]) ([⟨0, 2, [[(.int .i64 most), (.osl 1 g 10 0 n)]], none⟩, ⟨g, 10, (List.map Entry.row l), none⟩, ⟨0, 9, (List.map Card.row []), none⟩] : Heap) (.exit 0) (Vb_17 l g n) (Vb_18 most g n l) from (scards_loop most l g n hn hl n [] 0 0 0 (l.map (·.card), l.length, l.length) ow rfl ow (by subst hn; exact scards_iter most l g))) (.r (.w' 2 (List.map Card.row (l.map (·.card))) (And.intro (rowsIn_all (room := none) kr om) (Card.rows_bdd _ _) : rowsIn (Vb_18 most g n l) 9 (AV.osl 2 l.length 9 0 l.length) = some (List.map Card.row (l.map (·.card))) ∧ AV.bddss 0 (List.map Card.row (l.map (·.card))) = true) (.g (.h' (Vb_1 most g n l) (.f 2 (AV.sl .any 9 (List.map Card.row (l.map (·.card)))) (.e (AV.sl .any 9 (List.map Card.row (l.map (·.card)))))))))))))))))
end Go.Proofs.Ytcmfnfkahdconaa.AM

set_option maxRecDepth 100000
set_option linter.unusedVariables false
set_option linter.unusedSimpArgs false
namespace Go.Proofs.Ytcmfnfkahdconaa.AM
open Go Go.Proofs.Ytcmfnfkahdconaa
attribute [local irreducible] ACalls funT codeT codeQ LoopTo
attribute [local irreducible] Tp.card Tp.cardT Tp.next Tp.step Tp.cards Tp.cardsT Tp.key Tp.keyT sink insSort sortK insK posK beforeK onceStep onceS
attribute [local irreducible] findP findB putL putE putG dropL getE liveL
def capM (most : Int) : Int := max 0 (min most 32)
def new0_ann : Ann := { fin := some 1 }
@[simp] abbrev Vc_1 (v1_ : Int) : Heap := [⟨0, 2, [[(AV.int .i64 (capM v1_)), (AV.sl .nil 0 [])]], none⟩]
set_option maxRecDepth 100000 in
theorem new0_spec (most : Int)  : ACalls Try.prog 52 [(.int .i64 most)] ([] : Heap) ((AV.obj 0 0 0 0), (Vc_1 most)) :=
  specO (fn := Try.f52) (ann := new0_ann) (Has.o Try.func52) (.r (.g (.r (.y 1 (.int .i64 (if 32 < most then 32 else most)) (AV.int .i64 (min most 32)) (Yes.int (by split <;> omega)) (.y 2 (.int .i64 (if (min most 32) > 0 then (min most 32) else 0)) (AV.int .i64 (max 0 (min most 32))) (Yes.int (by split <;> omega)) (.g (.h' ([⟨0, 2, [[(AV.int .i64 (max 0 (min most 32))), (AV.sl .nil 0 [])]], none⟩] : Heap) (.f 1 (AV.obj 0 0 0 0) (.e (AV.obj 0 0 0 0))))))))))
theorem snew_spec (most : Int)  : ACalls Try.prog 52 [(.int .i64 most)] ([] : Heap) ((AV.obj 0 0 0 0), ([⟨0, 2, [[(.int .i64 (capM most)), (.osl 1 0 10 0 0)]], none⟩, ⟨0, 10, (List.map Entry.row []), none⟩] : Heap)) := (new0_spec most).virField
@[simp] abbrev Vc_o1 (v1_ : Int) (v2_ : List Entry) : Ob := ⟨0, 2, [[(AV.int .i64 v1_), (AV.sl .any 10 (List.map Entry.row v2_))]], none⟩
@[simp] abbrev Vc_2 (v1_ : Int) (v2_ : List Entry) : Heap := [Vc_o1 v1_ v2_]
@[simp] abbrev Vc_3 (v1_ : Key) (v2_ : Nat) : Fr := (mkF 50 [(0, (AV.obj 0 0 0 0)), (3, (AV.ref (Key.row v1_) 0)), (6, (AV.int .i64 ((v2_ : Nat) : Int)))])
@[simp] abbrev Vc_4 (v1_ : Key) (v2_ : List Entry) : Fr := (mkF 50 [(0, (AV.obj 0 0 0 0)), (3, (AV.ref (Key.row v1_) 0)), (6, (AV.int .i64 (((findP v2_ v1_) : Nat) : Int)))])
@[simp] abbrev Vc_5 (v1_ : Int) (v2_ : List Entry) (v3_ : Entry) : Heap := [⟨0, 2, [[(AV.int .i64 v1_), (AV.osl 1 0 10 0 v2_.length)]], none⟩, ⟨0, 10, (List.map Entry.row (v2_.set (findP v2_ v3_.card.key) v3_)), none⟩]
@[simp] abbrev Vc_6 (v1_ : Int) (v2_ : List Entry) (v3_ : Entry) : Heap := [Vc_o1 v1_ v2_, ⟨0, 10, (List.map Entry.row (v2_.take (findP v2_ v3_.card.key))), none⟩]
@[simp] abbrev Vc_7 (v1_ : Int) (v2_ : List Entry) (v3_ : Entry) : Heap := [Vc_o1 v1_ v2_, ⟨1, 10, (List.map Entry.row ((v2_.take (findP v2_ v3_.card.key)) ++ [v3_])), none⟩]
@[simp] abbrev Vc_8 (v1_ : Int) (v2_ : List Entry) (v3_ : Key) : Heap := [Vc_o1 v1_ v2_, ⟨0, 10, (List.map Entry.row (v2_.take (findP v2_ v3_))), none⟩]
@[simp] abbrev Vc_o2  : Ob := ⟨0, 10, [[(AV.str ⟨#[]⟩), (AV.str ⟨#[]⟩), (AV.int .i64 0), (AV.int .i64 0), (AV.int .i64 0), (AV.int .i64 0), (AV.int .i64 0), (AV.int .i64 0), (AV.bool false), (AV.int .i64 0)]], none⟩
@[simp] abbrev Vc_9  : Heap := [Vc_o2]
@[simp] abbrev Vc_10 (v1_ : Int) (v2_ : List Entry) : Heap := [Vc_o1 v1_ v2_, Vc_o2]
end Go.Proofs.Ytcmfnfkahdconaa.AM

set_option maxRecDepth 100000
set_option linter.unusedVariables false
set_option linter.unusedSimpArgs false
namespace Go.Proofs.Ytcmfnfkahdconaa.AM
open Go Go.Proofs.Ytcmfnfkahdconaa
attribute [local irreducible] ACalls funT codeT codeQ LoopTo
attribute [local irreducible] hasK lastsK recL
def cloneKN_ann : Ann := { gha := [(2, .vir 2 2)], fin := some 1 }
set_option maxRecDepth 100000 in
theorem cloneKN_spec   : ACalls Try.prog 89 [(.sl .nil 0 [])] ([] : Heap) ((AV.osl 0 0 2 0 0), ([⟨0, 2, (List.map Key.row []), none⟩] : Heap)) :=
  specO (fn := Try.f89) (ann := cloneKN_ann) (Has.o Try.func89) (.r (.g (.r (.g (.yes (.r (.g (.h' ([⟨0, 2, (List.map Key.row []), none⟩] : Heap) (.f 1 (AV.osl 0 0 2 0 0) (.e (AV.osl 0 0 2 0 0)))))))))))
def cloneKO_ann : Ann := { own := [7], fin := some 1 }
set_option maxRecDepth 100000 in
theorem cloneKO_spec (l : List Key) (hl : l.length < 1099511627776) : ACalls Try.prog 89 [(.sl .op 2 (List.map Key.row l))] ([] : Heap) ((AV.osl 0 0 2 0 l.length), ([⟨0, 2, (List.map Key.row l), none⟩] : Heap)) :=
  specO (fn := Try.f89) (ann := cloneKO_ann) (Has.o Try.func89) (.r (.g (.r (.g (.no (.r (.ao 2 34 (AV.sl .clip 2 []) (AV.sl .op 2 (List.map Key.row l)) (AV.osl 0 0 2 0 l.length) ([⟨0, 2, (List.map Key.row l), none⟩] : Heap) (evAppendO_fresh (T := tt) (e := 31) (te := { d := .struct [(9, 0), (9, 1)], size := 2, bytes := 32, zero := [.str ⟨#[]⟩, .str ⟨#[]⟩] }) (z := 1) (b := 24) (y := [.sl .nil 0 []]) (row := Key.row) kr kr rfl (by decide) (by decide) (by simp) (by first | (simp [rowsIn, List.map_take, List.map_drop, List.take_of_length_le]; done) | simp [rowsIn, rU8, rI64, rStr, rBool]) rfl rfl rfl om) (.g (.f 1 (AV.osl 0 0 2 0 l.length) (.e (AV.osl 0 0 2 0 l.length)))))))))))
theorem cloneK_spec (l : List Key) (hl : l.length < 1099511627776) : ACalls Try.prog 89 [(.sl .any 2 (List.map Key.row l))] ([] : Heap) ((AV.osl 0 0 2 0 l.length), ([⟨0, 2, (List.map Key.row l), none⟩] : Heap)) := ACalls.orNil (fun h => by
    have h2 : l = [] := by simpa using h
    subst h2; exact cloneKN_spec) (cloneKO_spec l hl)
theorem cloneKS_spec (l : List Key) (g e n : Nat) (hn : e + n = l.length) (hl : l.length < 1099511627776) : ACalls Try.prog 89 [(.osl 0 g 2 e n)] ([⟨g, 2, (List.map Key.row l), none⟩] : Heap) ((AV.osl 0 (g + 1) 2 0 n), ([⟨(g + 1), 2, (List.map Key.row (l.drop e)), none⟩] : Heap)) := by
  have h := cloneK_spec (l.drop e) (by rw [List.length_drop]; omega)
  have e1 : (l.drop e).length = n := by rw [List.length_drop]; omega
  rw [e1] at h
  have e2 : ((l.map Key.row).drop e).take n = (l.drop e).map Key.row := by rw [List.map_drop]; exact List.take_of_length_le (by rw [List.length_drop, List.length_map]; omega)
  exact ACalls.reclone h (scalss_map (fun x => rfl) _) (Key.rows_bdd _ _) ⟨.osl (by simp [rowsIn, hn, e2]) (Key.rows_bdd _ _), trivial⟩
def seq_ann : Ann := { base := 2, fin := some 2 }
@[simp] abbrev Wa_1 (v1_ : List Key) (v2_ : Nat) : Heap := [⟨0, 2, [[(AV.int .i64 (((List.length v1_) : Nat) : Int)), (AV.osl 1 v2_ 2 0 (List.length (recL v1_)))]], none⟩, ⟨v2_, 2, (List.map Key.row (recL v1_)), none⟩]
set_option maxRecDepth 100000 in
theorem seq_spec (al : List Key) (g : Nat)  : ACalls Try.prog 36 [(.obj 0 0 0 0)] (Wa_1 al g) ((AV.int .i64 ((al.length : Nat) : Int)), (Wa_1 al g)) :=
  specO (fn := Try.f36) (ann := seq_ann) (Has.o Try.func36) (.r (.g (.r (.g (.f 2 (AV.int .i64 (((List.length al) : Nat) : Int)) (.e (AV.int .i64 (((List.length al) : Nat) : Int))))))))
def radd_ann : Ann := { refs := [3], own := [19], base := 2, fin := some 2 }
@[simp] abbrev Wa_2 (v1_ : List Key) (v2_ : Key) (v3_ : Nat) : Heap := [⟨0, 2, [[(AV.int .i64 (((List.length (v1_ ++ [v2_])) : Nat) : Int)), (AV.osl 1 (v3_ + 1 + 1) 2 0 (List.length (recL (v1_ ++ [v2_]))))]], none⟩, ⟨(v3_ + 1 + 1), 2, (List.map Key.row (recL (v1_ ++ [v2_]))), none⟩]
@[simp] abbrev Wa_o1 (v1_ : List Key) (v2_ : Nat) : Ob := ⟨0, 2, [[(AV.int .i64 (((List.length v1_) + 1 : Nat) : Int)), (AV.osl 1 (v2_ + 1) 2 0 ((List.length (recL v1_)) + 1))]], none⟩
@[simp] abbrev Wa_3 (v1_ : List Key) (v2_ : Nat) (v3_ : Key) : Heap := [Wa_o1 v1_ v2_, ⟨(v2_ + 1), 2, (List.map Key.row ((recL v1_) ++ [v3_])), none⟩]
@[simp] abbrev Wa_4 (v1_ : List Key) (v2_ : Nat) (v3_ : Key) : Heap := [Wa_o1 v1_ v2_, ⟨((v2_ + 1) + 1), 2, (List.map Key.row (((recL v1_) ++ [v3_]).drop (((List.length (recL v1_)) + 1) - 16))), none⟩]
set_option maxRecDepth 100000 in
theorem radd_spec (al : List Key) (k : Key) (g : Nat) (ha : al.length < 1000000) : ACalls Try.prog 46 [(.obj 0 0 0 0), (.agg (Key.row k))] (Wa_1 al g) ((AV.int .i64 (((al ++ [k]).length : Nat) : Int)), (Wa_2 al k g)) := by
  have hr := recL_len al
  have h1 := recL_add al k
  have h2 : (recL al).length + 1 - ((recL al).length + 1 - 16) = (recL (al ++ [k])).length := by rw [← h1]; simp
  exact specO (fn := Try.f46) (ann := radd_ann) (Has.o Try.func46) (.r (.g (.r (.y 4 (.int .i64 (IntKind.i64.wrap ((((List.length al) : Nat) : Int) + 1))) (AV.int .i64 (((List.length al) + 1 : Nat) : Int)) (Yes.add ow ow ow) (.g (.r (.h' ([⟨0, 2, [[(AV.int .i64 (((List.length al) + 1 : Nat) : Int)), (AV.osl 1 g 2 0 (List.length (recL al)))]], none⟩, ⟨g, 2, (List.map Key.row (recL al)), none⟩] : Heap) (.ao 7 34 (AV.osl 1 g 2 0 (List.length (recL al))) (AV.sl .clip 2 [(Key.row k)]) (AV.osl 1 (g + 1) 2 0 ((List.length (recL al)) + 1)) ([⟨0, 2, [[(AV.int .i64 (((List.length al) + 1 : Nat) : Int)), (AV.osl 1 g 2 0 (List.length (recL al)))]], none⟩, ⟨(g + 1), 2, (List.map Key.row ((recL al) ++ [k])), none⟩] : Heap) (evAppendO_end (T := tt) (e := 31) (te := { d := .struct [(9, 0), (9, 1)], size := 2, bytes := 32, zero := [.str ⟨#[]⟩, .str ⟨#[]⟩] }) (z := 1) (b := 24) (y := [.sl .nil 0 []]) (row := Key.row) (l := (recL al)) kr kr rfl (by decide) (by decide) kr (by first | (simp [rowsIn, List.map_take, List.map_drop, List.take_of_length_le]; done) | simp [rowsIn, rU8, rI64, rStr, rBool]) om rfl rfl (by first | omega | (show _ * 32 ≤ _; omega) | (simp; done) | (simp; omega))) (.g (.r (.h' (Wa_3 al g k) (.y 10 (.int .i64 (IntKind.i64.wrap (((((List.length (recL al)) + 1) : Nat) : Int) - 16))) (AV.int .i64 (((((List.length (recL al)) + 1) : Nat) : Int) - 16)) (Yes.add ow ow rfl) (.y 11 (.int .i64 (if ((((List.length (recL al)) + 1) : Nat) : Int) - 16 > 0 then ((((List.length (recL al)) + 1) : Nat) : Int) - 16 else 0)) (AV.int .i64 (((((List.length (recL al)) + 1) - 16) : Nat) : Int)) (Yes.int (by split <;> omega)) (.so 12 1 (g + 1) 2 0 ((List.length (recL al)) + 1) (((((List.length (recL al)) + 1) - 16) : Nat) : Int) ((((List.length (recL al)) + 1) : Nat) : Int) (AV.osl 1 (g + 1) 2 (((List.length (recL al)) + 1) - 16) (((List.length (recL al)) + 1) - (((List.length (recL al)) + 1) - 16))) (slice_osl (l := (((List.length (recL al)) + 1) - 16)) (h := ((List.length (recL al)) + 1)) om om om om om om) (.ch 13 (Wa_4 al g k) (ACalls.pre (args' := [(AV.osl 1 (g + 1) 2 (((List.length (recL al)) + 1) - 16) (((List.length (recL al)) + 1) - (((List.length (recL al)) + 1) - 16)))]) (ACalls.put2 [1] (Wa_3 al g k) (AV.osl 1 ((g + 1) + 1) 2 0 (((List.length (recL al)) + 1) - (((List.length (recL al)) + 1) - 16))) (Wa_4 al g k) (cloneKS_spec ((recL al) ++ [k]) (g + 1) (((List.length (recL al)) + 1) - 16) (((List.length (recL al)) + 1) - (((List.length (recL al)) + 1) - 16)) oa oa) (⟨Ob.ren0 (Key.rows_bdd 0 _), trivial⟩) (⟨Ob.ren0 (Key.rows_bdd 0 _), trivial⟩)) ⟨AV.wk_refl_any _, trivial⟩) (.g (.r (.g (.h' ([⟨0, 2, [[(AV.int .i64 (((List.length al) + 1 : Nat) : Int)), (AV.osl 1 ((g + 1) + 1) 2 0 (((List.length (recL al)) + 1) - (((List.length (recL al)) + 1) - 16)))]], none⟩, ⟨((g + 1) + 1), 2, (List.map Key.row (((recL al) ++ [k]).drop (((List.length (recL al)) + 1) - 16))), none⟩] : Heap) (.f 2 (AV.int .i64 (((List.length al) + 1 : Nat) : Int)) (.e (AV.int .i64 (((List.length al) + 1 : Nat) : Int)) (by
        try delta Wa_1 Wa_2
        rw [h2, h1, List.length_append]; rfl))))))))))))))))))))))
@[simp] abbrev Wa_5 (v1_ : List Key) (v2_ : Key) : Heap := [⟨0, 1, [[(AV.sl .any 2 (List.map Key.row (v1_ ++ [v2_])))]], none⟩]
end Go.Proofs.Ytcmfnfkahdconaa.AM

set_option maxRecDepth 100000
set_option linter.unusedVariables false
set_option linter.unusedSimpArgs false
namespace Go.Proofs.Ytcmfnfkahdconaa.AM
open Go Go.Proofs.Ytcmfnfkahdconaa
attribute [local irreducible] ACalls funT codeT codeQ LoopTo
attribute [local irreducible] hasK lastsK recL
@[simp] abbrev Wb_o1 (v1_ : List Key) (v2_ : Nat) : Ob := ⟨0, 2, [[(AV.int .i64 (((List.length v1_) : Nat) : Int)), (AV.osl 1 v2_ 2 0 (List.length (recL v1_)))]], none⟩
@[simp] abbrev Wb_1 (v1_ : List Key) (v2_ : Nat) (v3_ : Nat) (v4_ : List Key) (v5_ : Nat) (v6_ : Nat) : Heap := [Wb_o1 v1_ v2_, ⟨v2_, 2, (List.map Key.row (recL v1_)), none⟩, ⟨(v3_ + 1), 2, (List.map Key.row (v4_ ++ [(nth (recL v1_) (v5_ + v6_))])), none⟩]
@[simp] abbrev Wb_2 (v1_ : List Key) (v2_ : Nat) (v3_ : Nat) (v4_ : List Key) : Heap := [Wb_o1 v1_ v2_, ⟨v2_, 2, (List.map Key.row (recL v1_)), none⟩, ⟨v3_, 2, (List.map Key.row v4_), none⟩]
@[simp] abbrev Wb_3 (v1_ : Nat) (v2_ : Nat) (v3_ : Nat) (v4_ : Nat) (v5_ : Nat) (v6_ : Nat) : Fr := (mkF 66 [(6, (AV.osl 1 v1_ 2 v2_ v3_)), (7, (AV.osl 2 v4_ 2 0 v5_)), (46, (AV.osl 1 v1_ 2 v2_ v3_)), (47, (AV.int .i64 ((v3_ : Nat) : Int))), (48, (AV.int .i64 ((v6_ : Nat) : Int)))])
@[simp] abbrev Wb_4 (v1_ : List Key) (v2_ : Nat) (v3_ : Nat) (v4_ : List Key) : Heap := [Wb_o1 v1_ v2_, ⟨v2_, 2, (List.map Key.row (recL v1_)), none⟩, ⟨v3_, 2, (List.map Key.row v4_), none⟩, ⟨0, 2, [[(AV.str ⟨#[]⟩), (AV.str ⟨#[]⟩)]], none⟩]
@[simp] abbrev Wb_5 (v1_ : List Key) (v2_ : Nat) (v3_ : Nat) (v4_ : List Key) (v5_ : Nat) (v6_ : Nat) : Heap := [Wb_o1 v1_ v2_, ⟨v2_, 2, (List.map Key.row (recL v1_)), none⟩, ⟨v3_, 2, (List.map Key.row v4_), none⟩, ⟨0, 2, [(Key.row (nth (recL v1_) (v5_ + v6_)))], none⟩]
@[simp] abbrev Wb_6 (v1_ : List Key) (v2_ : Nat) : Heap := [Wb_o1 v1_ v2_, ⟨v2_, 2, (List.map Key.row (recL v1_)), none⟩]
@[simp] abbrev Wb_7 (v1_ : Nat) (v2_ : List Key) (v3_ : Nat) : Fr := (mkF 66 [(6, (AV.osl 1 v1_ 2 ((List.length (recL v2_)) - ((List.length v2_) - v3_)) ((List.length (recL v2_)) - ((List.length (recL v2_)) - ((List.length v2_) - v3_))))), (7, (AV.osl 2 (lastsK ((recL v2_).drop ((List.length (recL v2_)) - ((List.length v2_) - v3_)))).length 2 0 (lastsK ((recL v2_).drop ((List.length (recL v2_)) - ((List.length v2_) - v3_)))).length)), (46, (AV.osl 1 v1_ 2 ((List.length (recL v2_)) - ((List.length v2_) - v3_)) ((List.length (recL v2_)) - ((List.length (recL v2_)) - ((List.length v2_) - v3_))))), (47, (AV.int .i64 ((((List.length (recL v2_)) - ((List.length (recL v2_)) - ((List.length v2_) - v3_))) : Nat) : Int))), (48, (AV.int .i64 ((((List.length (recL v2_)) - ((List.length (recL v2_)) - ((List.length v2_) - v3_))) : Nat) : Int)))])
@[simp] abbrev Wb_8 (v1_ : List Key) (v2_ : Nat) (v3_ : Nat) : Heap := [Wb_o1 v1_ v2_, ⟨v2_, 2, (List.map Key.row (recL v1_)), none⟩, ⟨(lastsK ((recL v1_).drop ((List.length (recL v1_)) - ((List.length v1_) - v3_)))).length, 2, (List.map Key.row (lastsK ((recL v1_).drop ((List.length (recL v1_)) - ((List.length v1_) - v3_))))), none⟩]
@[simp] abbrev Wb_o2 (v1_ : List Key) : Ob := ⟨0, 1, [[(AV.sl .any 2 (List.map Key.row v1_))]], none⟩
@[simp] abbrev Wb_9 (v1_ : List Key) (v2_ : Nat) (v3_ : List Key) : Heap := [Wb_o2 v1_, ⟨v2_, 2, (List.map Key.row v3_), none⟩]
@[simp] abbrev Wb_10 (v1_ : List Key) (v2_ : Nat) (v3_ : Nat) (v4_ : Nat) (v5_ : Bool) (v6_ : Nat) : Fr := (mkF 72 [(0, (AV.obj 0 0 0 0)), (6, (AV.int .i64 ((v1_.length : Nat) : Int))), (7, (AV.osl 1 v2_ 2 0 v3_)), (8, (AV.int .i64 ((v4_ : Nat) : Int))), (9, (AV.bool v5_)), (10, (AV.int .i64 ((v6_ : Nat) : Int)))])
@[simp] abbrev Wb_11 (v1_ : List Key) (v2_ : Nat) (v3_ : List Key) (v4_ : Nat) : Heap := [Wb_o2 v1_, ⟨(v2_ + 1), 2, (List.map Key.row (v3_ ++ [(nth v1_ v4_)])), none⟩]
@[simp] abbrev Wb_12 (v1_ : List Key) (v2_ : Nat) (v3_ : Nat) (v4_ : Nat) : Fr := (mkF 72 [(0, (AV.obj 0 0 0 0)), (6, (AV.int .i64 ((v1_.length : Nat) : Int))), (7, (AV.osl 1 v2_ 2 0 v3_)), (8, (AV.int .i64 ((v4_ : Nat) : Int)))])
@[simp] abbrev Wb_13 (v1_ : List Key) (v2_ : Nat) (v3_ : Nat) (v4_ : Nat) : Fr := (mkF 72 [(0, (AV.obj 0 0 0 0)), (6, (AV.int .i64 ((v1_.length : Nat) : Int))), (7, (AV.osl 1 v2_ 2 0 v3_)), (8, (AV.int .i64 ((v4_ : Nat) : Int))), (9, (AV.bool (!(hasK (v1_.drop (v4_ + 1)) (nth v1_ v4_))))), (10, (AV.int .i64 ((v1_.length : Nat) : Int)))])
@[simp] abbrev Wb_14 (v1_ : List Key) (v2_ : Nat) : Fr := (mkF 72 [(0, (AV.obj 0 0 0 0)), (6, (AV.int .i64 ((v1_.length : Nat) : Int))), (7, (AV.osl 1 (lastsK (v1_.drop v2_)).length 2 0 (lastsK (v1_.drop v2_)).length)), (8, (AV.int .i64 ((v1_.length : Nat) : Int)))])
@[simp] abbrev Wb_15 (v1_ : List Key) (v2_ : Nat) : Heap := [Wb_o2 v1_, ⟨(lastsK (v1_.drop v2_)).length, 2, (List.map Key.row (lastsK (v1_.drop v2_))), none⟩]
end Go.Proofs.Ytcmfnfkahdconaa.AM

set_option maxRecDepth 100000
set_option linter.unusedVariables false
set_option linter.unusedSimpArgs false
namespace Go.Proofs.Ytcmfnfkahdconaa.AM
open Go Go.Proofs.Ytcmfnfkahdconaa
attribute [local irreducible] ACalls funT codeT codeQ LoopTo
attribute [local irreducible] Tp.card Tp.cardT Tp.next Tp.step Tp.cards Tp.cardsT Tp.key Tp.keyT sink insSort sortK insK posK beforeK onceStep onceS sortP cmpK
def byteB (b : List Int) (n : Int) : List Int := b ++ [IntKind.u8.wrap n]
def cutS (s : ByteArray) : ByteArray := ByteArray.extract s 0 (min s.size 255)
def textB (b : List Int) (s : ByteArray) : List Int := byteB b (cutS s).size ++ strL (cutS s)
def byteAt (n : Int) (k : Nat) : Int := IntKind.u8.wrap (Int.fdiv n (2 ^ (min (Int.toNat (8 * k : Nat)) 64)))
def intB (b : List Int) (n : Int) : List Int := b ++ [byteAt n 7, byteAt n 6, byteAt n 5, byteAt n 4, byteAt n 3, byteAt n 2, byteAt n 1, byteAt n 0]
@[simp] abbrev Sr_1 (v1_ : List Int) (v2_ : Int) : Heap := [⟨8, 1, (List.map rU8 ((((((((v1_ ++ [(IntKind.u8.wrap (Int.fdiv v2_ (2 ^ (min (Int.toNat 56) 64))))]) ++ [(IntKind.u8.wrap (Int.fdiv v2_ (2 ^ (min (Int.toNat 48) 64))))]) ++ [(IntKind.u8.wrap (Int.fdiv v2_ (2 ^ (min (Int.toNat 40) 64))))]) ++ [(IntKind.u8.wrap (Int.fdiv v2_ (2 ^ (min (Int.toNat 32) 64))))]) ++ [(IntKind.u8.wrap (Int.fdiv v2_ (2 ^ (min (Int.toNat 24) 64))))]) ++ [(IntKind.u8.wrap (Int.fdiv v2_ (2 ^ (min (Int.toNat 16) 64))))]) ++ [(IntKind.u8.wrap (Int.fdiv v2_ (2 ^ (min (Int.toNat 8) 64))))]) ++ [(IntKind.u8.wrap (Int.fdiv v2_ (2 ^ (min (Int.toNat 0) 64))))])), none⟩]
def showsC (c : Card) : Int := if c.gone = true then 0 else if (c.over != 0) = true then c.over else c.status
def hereL (l : List Card) : List Card := l.filter fun c => !c.gone
def seenK (l : List Card) : List Card := sortP (hereL l)
@[simp] abbrev Sr_2 (v1_ : Nat) (v2_ : List Card) (v3_ : List Card) (v4_ : Nat) : Heap := [⟨(v1_ + 1), 9, (List.map Card.row (v2_ ++ [(nth v3_ v4_)])), none⟩]
@[simp] abbrev Sr_3 (v1_ : Nat) (v2_ : Nat) (v3_ : List Card) (v4_ : Nat) : Fr := (mkF 22 [(3, (AV.osl 0 v1_ 9 0 v2_)), (6, (AV.sl .any 9 (List.map Card.row v3_))), (7, (AV.int .i64 ((v3_.length : Nat) : Int))), (8, (AV.int .i64 ((v4_ : Nat) : Int)))])
@[simp] abbrev Sr_4 (v1_ : Nat) (v2_ : List Card) (v3_ : List Card) (v4_ : Nat) : Heap := [⟨v1_, 9, (List.map Card.row v2_), none⟩, ⟨0, 9, [(Card.row (nth v3_ v4_))], none⟩]
@[simp] abbrev Sr_5 (v1_ : List Card) : Fr := (mkF 22 [(3, (AV.osl 0 (hereL v1_).length 9 0 (hereL v1_).length)), (6, (AV.sl .any 9 (List.map Card.row v1_))), (7, (AV.int .i64 ((v1_.length : Nat) : Int))), (8, (AV.int .i64 ((v1_.length : Nat) : Int)))])
def cardB (b : List Int) (c : Card) : List Int := intB (byteB (textB (textB b c.key.app) c.key.id) (showsC c)) c.lease
def sealB (l : List Card) : List Int := (seenK l).foldl cardB []
@[simp] abbrev Sr_6 (v1_ : List Int) (v2_ : List Card) (v3_ : Nat) : Fr := (mkF 31 [(3, (AV.sl .any 1 (List.map rU8 v1_))), (7, (AV.sl .any 9 (List.map Card.row v2_))), (8, (AV.int .i64 ((v2_.length : Nat) : Int))), (9, (AV.int .i64 ((v3_ : Nat) : Int)))])
@[simp] abbrev Sr_7 (v1_ : List Card) : Fr := (mkF 31 [(3, (AV.sl .any 1 (List.map rU8 (List.foldl cardB [] (seenK v1_))))), (7, (AV.sl .any 9 (List.map Card.row (seenK v1_)))), (8, (AV.int .i64 (((seenK v1_).length : Nat) : Int))), (9, (AV.int .i64 (((seenK v1_).length : Nat) : Int)))])
def sumStep (h x : Int) : Int := IntKind.u32.wrap (IntKind.u32.wrap (IntKind.u32.wrap (h * 31) + IntKind.u32.wrap x) + 7)
def sumB (l : List Int) : Int := l.foldl sumStep 17
@[simp] abbrev Sr_8 (v1_ : Int) (v2_ : List Int) (v3_ : Nat) : Fr := (mkF 20 [(3, (AV.int .u32 v1_)), (6, (AV.sl .any 1 (List.map rU8 v2_))), (7, (AV.int .i64 ((v2_.length : Nat) : Int))), (8, (AV.int .i64 ((v3_ : Nat) : Int)))])
@[simp] abbrev Sr_9 (v1_ : List Int) : Fr := (mkF 20 [(3, (AV.int .u32 (sumB v1_))), (6, (AV.sl .any 1 (List.map rU8 v1_))), (7, (AV.int .i64 ((v1_.length : Nat) : Int))), (8, (AV.int .i64 ((v1_.length : Nat) : Int)))])
def ofB (l : List Card) : Int := sumB (sealB l)
end Go.Proofs.Ytcmfnfkahdconaa.AM

set_option linter.unusedVariables false
set_option linter.unusedSimpArgs false
set_option maxRecDepth 100000
set_option linter.unusedSectionVars false
namespace Go.Proofs.Ytcmfnfkahdconaa.AM
open Go
section
variable {α : Type} [Inhabited α]
def posG (lt : α → α → Bool) (x : α) (out : List α) : Nat → Nat
  | 0 => 0
  | k + 1 => if lt x (nth out k) = true then posG lt x out k else k + 1
def insG (lt : α → α → Bool) (out : List α) (x : α) : List α := (out.take (posG lt x out out.length) ++ [x]) ++ out.drop (posG lt x out out.length)
theorem posG_le (lt : α → α → Bool) (x : α) (out : List α) (k : Nat) : posG lt x out k ≤ k := by
  induction k with
  | zero => simp only [posG]; omega
  | succ k ih => simp only [posG]; split <;> omega
theorem posG_congr (lt : α → α → Bool) (x : α) {out out' : List α} (k : Nat) (h : ∀ i, i < k → nth out i = nth out' i) : posG lt x out k = posG lt x out' k := by
  induction k with
  | zero => rfl
  | succ k ih => simp only [posG]; rw [h k (by omega), ih fun i hi => h i (by omega)]
theorem posG_spec (lt : α → α → Bool) (x : α) (out : List α) (k : Nat) : (∀ i, posG lt x out k ≤ i → i < k → lt x (nth out i) = true) ∧ (0 < posG lt x out k → lt x (nth out (posG lt x out k - 1)) = false) := by
  induction k with
  | zero => simp only [posG]; exact ⟨fun i h1 h2 => by omega, fun h => by omega⟩
  | succ k ih =>
    simp only [posG]
    split
    · rename_i h
      refine ⟨fun i h1 h2 => ?_, ih.2⟩
      rcases Nat.lt_or_ge i k with h3 | h3
      · exact ih.1 i h1 h3
      · rw [show i = k by omega]; exact h
    · rename_i h
      exact ⟨fun i h1 h2 => by omega, fun _ => by simpa using h⟩
theorem insG_perm (lt : α → α → Bool) (out : List α) (x : α) : List.Perm (insG lt out x) (x :: out) := by
  unfold insG
  rw [List.append_assoc, List.singleton_append]
  refine List.perm_middle.trans ?_
  rw [List.take_append_drop]
theorem insG_len (lt : α → α → Bool) (out : List α) (x : α) : (insG lt out x).length = out.length + 1 := by
  rw [(insG_perm lt out x).length_eq]; rfl
structure Weak (lt : α → α → Bool) : Prop where
  asymm : ∀ a b, lt a b = true → lt b a = false
  trans : ∀ a b c, lt b a = false → lt c b = false → lt c a = false
abbrev Srt (lt : α → α → Bool) (l : List α) : Prop := List.Pairwise (fun a b => lt b a = false) l
theorem insG_sorted {lt : α → α → Bool} (W : Weak lt) {out : List α} (h : Srt lt out) (x : α) : Srt lt (insG lt out x) := by
  obtain ⟨h1, h2⟩ := posG_spec lt x out out.length
  have hp := posG_le lt x out out.length
  generalize hpe : posG lt x out out.length = p at *
  have hs := pw_nth.1 h
  unfold insG
  rw [hpe, List.append_assoc, List.singleton_append]
  refine List.pairwise_append.2 ⟨h.sublist (List.take_sublist _ _), List.pairwise_cons.2 ⟨fun y hy => ?_, h.sublist (List.drop_sublist _ _)⟩, fun a ha y hy => ?_⟩
  · obtain ⟨i, hi, rfl⟩ := mem_nth hy
    simp only [List.length_drop] at hi
    rw [nth_drop]
    exact W.asymm _ _ (h1 (p + i) (by omega) (by omega))
  · have hxp : lt x a = false := by
      obtain ⟨i, hi, rfl⟩ := mem_nth ha
      simp only [List.length_take] at hi
      rw [nth_take (by omega)]
      have h3 := h2 (by omega)
      rcases Nat.lt_or_ge i (p - 1) with h4 | h4
      · exact W.trans _ _ _ (hs i (p - 1) h4 (by omega)) h3
      · rw [show i = p - 1 by omega]; exact h3
    rcases List.mem_cons.1 hy with rfl | hy
    · exact hxp
    · obtain ⟨i, hi, rfl⟩ := mem_nth ha
      obtain ⟨j, hj, rfl⟩ := mem_nth hy
      simp only [List.length_take] at hi
      simp only [List.length_drop] at hj
      rw [nth_take (by omega), nth_drop]
      exact hs i (p + j) (by omega) (by omega)
def sortG (lt : α → α → Bool) (l : List α) : List α := l.foldl (insG lt) []
theorem foldG (lt : α → α → Bool) (l : List α) : ∀ (out : List α), List.Perm (l.foldl (insG lt) out) (out ++ l) := by
  induction l with
  | nil => intro out; simp
  | cons x l ih =>
    intro out
    exact (ih (insG lt out x)).trans (((insG_perm lt out x).append_right l).trans (by simpa using List.perm_middle.symm))
theorem foldG_sorted {lt : α → α → Bool} (W : Weak lt) (l : List α) : ∀ (out : List α), Srt lt out → Srt lt (l.foldl (insG lt) out) := by
  induction l with
  | nil => intro out h; exact h
  | cons x l ih => intro out h; exact ih _ (insG_sorted W h x)
theorem sortG_perm (lt : α → α → Bool) (l : List α) : List.Perm (sortG lt l) l := foldG lt l []
theorem sortG_sorted {lt : α → α → Bool} (W : Weak lt) (l : List α) : Srt lt (sortG lt l) := foldG_sorted W l [] List.Pairwise.nil
theorem sink_ins (cmp : α → α → Int) (j : Nat) : ∀ (l : List α), j < l.length → sink cmp 0 j l = insG (fun a b => decide (cmp a b < 0)) (l.take j) (nth l j) ++ l.drop (j + 1) := by
  induction j with
  | zero =>
    intro l h
    simp only [sink]
    have hd : l = nth l 0 :: l.drop 1 := by
      have := drop_nth (l := l) (i := 0) h
      simpa using this
    conv => lhs; rw [hd]
    simp [insG, posG]
  | succ j ih =>
    intro l h
    simp only [sink]
    have h0 : decide (((j + 1 : Nat) : Int) > ((0 : Nat) : Int)) = true := decide_eq_true (by omega)
    rw [if_pos h0]
    have htk : l.take (j + 1) = l.take j ++ [nth l j] := by
      rw [List.take_add_one]
      congr 1
      rw [nth_get (by omega)]
      rfl
    have hdj : l.drop (j + 1) = nth l (j + 1) :: l.drop (j + 2) := drop_nth h
    have hlen : (l.take j).length = j := by simp; omega
    by_cases hc : decide (cmp (nth l (j + 1)) (nth l j) < 0) = true
    · rw [if_pos hc]
      rw [ih _ (by simp; omega)]
      have e1 : ((l.set (j + 1) (nth l j)).set j (nth l (j + 1))).take j = l.take j := by
        rw [List.take_set_of_le (by omega), List.take_set_of_le (by omega)]
      have e2 : nth ((l.set (j + 1) (nth l j)).set j (nth l (j + 1))) j = nth l (j + 1) := by
        unfold nth
        rw [List.getD_eq_getElem?_getD, List.getElem?_set_self (by simp; omega)]; rfl
      have e3 : ((l.set (j + 1) (nth l j)).set j (nth l (j + 1))).drop (j + 1) = nth l j :: l.drop (j + 2) := by
        rw [List.drop_set_of_lt (by omega), drop_nth (by simp; omega)]
        congr 1
        · unfold nth
          rw [List.getD_eq_getElem?_getD, List.getElem?_set_self (by omega)]; rfl
        · rw [List.drop_set_of_lt (by omega)]
      rw [e1, e2, e3]
      have hpos : posG (fun a b => decide (cmp a b < 0)) (nth l (j + 1)) (l.take (j + 1)) (l.take (j + 1)).length = posG (fun a b => decide (cmp a b < 0)) (nth l (j + 1)) (l.take j) j := by
        rw [show (l.take (j + 1)).length = j + 1 by rw [List.length_take]; omega]
        simp only [posG]
        rw [nth_take (by omega), if_pos hc]
        exact posG_congr _ _ _ fun i hi => by rw [nth_take (by omega), nth_take hi]
      have hle := posG_le (fun a b => decide (cmp a b < 0)) (nth l (j + 1)) (l.take j) j
      unfold insG
      rw [hpos, hlen]
      generalize posG (fun a b => decide (cmp a b < 0)) (nth l (j + 1)) (l.take j) j = p at *
      rw [htk, List.take_append_of_le_length (by omega), List.drop_append_of_le_length (by omega)]
      simp
    · rw [if_neg hc]
      have hpos : posG (fun a b => decide (cmp a b < 0)) (nth l (j + 1)) (l.take (j + 1)) (l.take (j + 1)).length = j + 1 := by
        rw [show (l.take (j + 1)).length = j + 1 by rw [List.length_take]; omega]
        simp only [posG]
        rw [nth_take (by omega), if_neg hc]
      unfold insG
      rw [hpos]
      rw [List.take_of_length_le (l := l.take (j + 1)) (by simp; omega), List.drop_of_length_le (l := l.take (j + 1)) (by simp; omega), List.append_nil, List.append_assoc, List.singleton_append, ← hdj, List.take_append_drop]
theorem insSort_fold (cmp : α → α → Int) (rest : List α) : ∀ (S : List α), insSort cmp 0 rest.length S.length (S ++ rest) = rest.foldl (insG fun a b => decide (cmp a b < 0)) S := by
  induction rest with
  | nil => intro S; simp [insSort]
  | cons x rest ih =>
    intro S
    simp only [List.length_cons, insSort, List.foldl_cons]
    rw [sink_ins cmp S.length _ (by simp)]
    have e1 : (S ++ x :: rest).take S.length = S := by simp
    have e3 : (S ++ x :: rest).drop (S.length + 1) = rest := by
      rw [List.drop_append]
      simp
    rw [e1, nth_append_len, e3]
    have := ih (insG (fun a b => decide (cmp a b < 0)) S x)
    rwa [insG_len] at this
theorem insSort_sortG (cmp : α → α → Int) (l : List α) : insSort cmp 0 (l.length - 1) 1 l = sortG (fun a b => decide (cmp a b < 0)) l := by
  cases l with
  | nil => rfl
  | cons x l =>
    have := insSort_fold cmp l [x]
    simpa [sortG, insG, posG] using this
end
end Go.Proofs.Ytcmfnfkahdconaa.AM

set_option linter.unusedVariables false
set_option linter.unusedSimpArgs false
set_option maxRecDepth 100000
namespace Go.Proofs.Ytcmfnfkahdconaa.AM
open Go
section
variable {α : Type} [Inhabited α]
theorem insG_split {lt : α → α → Bool} (W : Weak lt) {out : List α} (h : Srt lt out) (x : α) : insG lt out x = out.filter (fun y => !lt x y) ++ x :: out.filter (fun y => lt x y) := by
  obtain ⟨h1, h2⟩ := posG_spec lt x out out.length
  have hp := posG_le lt x out out.length
  generalize hpe : posG lt x out out.length = p at *
  have hs := pw_nth.1 h
  have hA : ∀ y ∈ out.take p, lt x y = false := by
    intro y hy
    obtain ⟨i, hi, rfl⟩ := mem_nth hy
    simp only [List.length_take] at hi
    have hi' : i < p := by omega
    rw [nth_take hi']
    have h3 := h2 (by omega)
    rcases Nat.lt_or_ge i (p - 1) with h4 | h4
    · exact W.trans _ _ _ (hs i (p - 1) h4 (by omega)) (by simpa using h3)
    · rw [show i = p - 1 by omega]; simpa using h3
  have hB : ∀ y ∈ out.drop p, lt x y = true := by
    intro y hy
    obtain ⟨i, hi, rfl⟩ := mem_nth hy
    simp only [List.length_drop] at hi
    rw [nth_drop]
    exact h1 (p + i) (by omega) (by omega)
  have e1 : out.filter (fun y => !lt x y) = out.take p := by
    conv => lhs; rw [← List.take_append_drop p out]
    rw [List.filter_append, List.filter_eq_self.2 (fun y hy => by simp [hA y hy]), List.filter_eq_nil_iff.2 (fun y hy => by simp [hB y hy]), List.append_nil]
  have e2 : out.filter (fun y => lt x y) = out.drop p := by
    conv => lhs; rw [← List.take_append_drop p out]
    rw [List.filter_append, List.filter_eq_nil_iff.2 (fun y hy => by simp [hA y hy]), List.filter_eq_self.2 (fun y hy => by simp [hB y hy]), List.nil_append]
  unfold insG
  rw [hpe, e1, e2]; simp
end
end Go.Proofs.Ytcmfnfkahdconaa.AM

set_option linter.unusedVariables false
set_option linter.unusedSimpArgs false
set_option maxRecDepth 100000
namespace Go.Proofs.Ytcmfnfkahdconaa.AM
open Go
attribute [local irreducible] Tp.card Tp.cardT Tp.next Tp.step Tp.cards Tp.cardsT Tp.key Tp.keyT
abbrev ltE (a b : Card) : Bool := decide (cmpK a.key b.key < 0)
theorem ltE_before : (fun a b : Card => beforeK a.key b.key) = ltE := by funext a b; exact (less_before a.key b.key).symm
theorem weakE : Weak ltE := ⟨fun a b h => by rw [← ltE_before] at h ⊢; exact bk_asymm h, fun a b c h k => by rw [← ltE_before] at h k ⊢; exact bk_le_trans h k⟩
theorem posK_posG (c : Card) (out : List Card) (k : Nat) : posK c out k = posG (fun a b : Card => beforeK a.key b.key) c out k := by
  induction k with
  | zero => rfl
  | succ k ih => simp only [posK, posG, ih]
theorem sortK_sortG (l : List Card) : sortK l = sortG ltE l := by
  rw [← ltE_before]
  have : insK = insG (fun a b : Card => beforeK a.key b.key) := by funext out c; unfold insK insG; rw [posK_posG]
  unfold sortK sortG; rw [this]
theorem sortP_sortK (l : List Card) : sortP l = sortK l := by rw [sortK_sortG]; exact insSort_sortG _ l
end Go.Proofs.Ytcmfnfkahdconaa.AM

set_option linter.unusedVariables false
set_option linter.unusedSimpArgs false
set_option maxRecDepth 100000
namespace Go.Proofs.Ytcmfnfkahdconaa.AM
open Go
attribute [local irreducible] Tp.card Tp.cardT Tp.next Tp.step Tp.cards Tp.cardsT Tp.key Tp.keyT
end Go.Proofs.Ytcmfnfkahdconaa.AM

set_option maxRecDepth 100000
set_option linter.unusedVariables false
set_option linter.unusedSimpArgs false
namespace Go.Proofs.Ytcmfnfkahdconaa.AM
open Go Go.Proofs.Ytcmfnfkahdconaa
attribute [local irreducible] ACalls funT codeT codeQ LoopTo
attribute [local irreducible] Tp.card Tp.cardT Tp.next Tp.step Tp.cards Tp.cardsT Tp.key Tp.keyT sink insSort sortK insK posK beforeK onceStep onceS sortP cmpK byteB cutS textB byteAt intB showsC hereL seenK cardB sealB sumStep sumB ofB strL
@[simp] abbrev Su_1 (v1_ : List Int) (v2_ : Int) : Heap := [⟨8, 1, (List.map rU8 ((((((((v1_ ++ [(IntKind.u8.wrap (Int.fdiv v2_ (2 ^ (min (Int.toNat 56) 64))))]) ++ [(IntKind.u8.wrap (Int.fdiv v2_ (2 ^ (min (Int.toNat 48) 64))))]) ++ [(IntKind.u8.wrap (Int.fdiv v2_ (2 ^ (min (Int.toNat 40) 64))))]) ++ [(IntKind.u8.wrap (Int.fdiv v2_ (2 ^ (min (Int.toNat 32) 64))))]) ++ [(IntKind.u8.wrap (Int.fdiv v2_ (2 ^ (min (Int.toNat 24) 64))))]) ++ [(IntKind.u8.wrap (Int.fdiv v2_ (2 ^ (min (Int.toNat 16) 64))))]) ++ [(IntKind.u8.wrap (Int.fdiv v2_ (2 ^ (min (Int.toNat 8) 64))))]) ++ [(IntKind.u8.wrap (Int.fdiv v2_ (2 ^ (min (Int.toNat 0) 64))))])), none⟩]
@[simp] abbrev Su_2 (v1_ : List Int) (v2_ : Int) (v3_ : Nat) : Fr := (mkF 21 [(0, (AV.sl .any 1 (List.map rU8 v1_))), (3, (AV.int .u32 v2_)), (4, (AV.int .i64 ((v3_ : Nat) : Int)))])
@[simp] abbrev Su_3 (v1_ : Nat) (v2_ : List Card) (v3_ : List Card) (v4_ : Nat) : Heap := [⟨(v1_ + 1), 9, (List.map Card.row (v2_ ++ [(nth v3_ v4_)])), none⟩]
@[simp] abbrev Su_4 (v1_ : Nat) (v2_ : Nat) (v3_ : List Card) (v4_ : Nat) : Fr := (mkF 22 [(3, (AV.osl 0 v1_ 9 0 v2_)), (7, (AV.sl .any 9 (List.map Card.row v3_))), (8, (AV.int .i64 ((v3_.length : Nat) : Int))), (9, (AV.int .i64 ((v4_ : Nat) : Int)))])
@[simp] abbrev Su_5 (v1_ : Nat) (v2_ : List Card) (v3_ : List Card) (v4_ : Nat) : Heap := [⟨v1_, 9, (List.map Card.row v2_), none⟩, ⟨0, 9, [(Card.row (nth v3_ v4_))], none⟩]
@[simp] abbrev Su_6 (v1_ : List Card) : Fr := (mkF 22 [(3, (AV.osl 0 (hereL (sortK v1_)).length 9 0 (hereL (sortK v1_)).length)), (7, (AV.sl .any 9 (List.map Card.row (sortK v1_)))), (8, (AV.int .i64 (((sortK v1_).length : Nat) : Int))), (9, (AV.int .i64 (((sortK v1_).length : Nat) : Int)))])
@[simp] abbrev Su_7 (v1_ : List Card) : Heap := [⟨(hereL (sortK v1_)).length, 9, (List.map Card.row (hereL (sortK v1_))), none⟩]
@[simp] abbrev Su_8 (v1_ : List Int) (v2_ : List Card) (v3_ : Nat) : Fr := (mkF 31 [(3, (AV.sl .any 1 (List.map rU8 v1_))), (7, (AV.sl .any 9 (List.map Card.row v2_))), (8, (AV.int .i64 ((v2_.length : Nat) : Int))), (9, (AV.int .i64 ((v3_ : Nat) : Int)))])
@[simp] abbrev Su_9 (v1_ : List Card) : Fr := (mkF 31 [(3, (AV.sl .any 1 (List.map rU8 (List.foldl cardB [] (seenK v1_))))), (7, (AV.sl .any 9 (List.map Card.row (seenK v1_)))), (8, (AV.int .i64 (((seenK v1_).length : Nat) : Int))), (9, (AV.int .i64 (((seenK v1_).length : Nat) : Int)))])
end Go.Proofs.Ytcmfnfkahdconaa.AM

set_option maxRecDepth 100000
set_option linter.unusedVariables false
set_option linter.unusedSimpArgs false
namespace Go.Proofs.Ytcmfnfkahdconaa.AM
open Go Go.Proofs.Ytcmfnfkahdconaa
attribute [local irreducible] ACalls funT codeT codeQ LoopTo
attribute [local irreducible] Tp.card Tp.cardT Tp.next Tp.step Tp.cards Tp.cardsT Tp.key Tp.keyT sink insSort sortK insK posK beforeK onceStep onceS sortP cmpK byteB cutS textB byteAt intB showsC hereL seenK cardB sealB sumStep sumB ofB strL
@[simp] abbrev Vt_1 (v1_ : List Card) : Fr := (mkF 22 [(3, (AV.osl 0 (hereL v1_).length 9 0 (hereL v1_).length)), (6, (AV.sl .any 9 (List.map Card.row v1_))), (7, (AV.int .i64 ((v1_.length : Nat) : Int))), (8, (AV.int .i64 ((v1_.length : Nat) : Int)))])
@[simp] abbrev Vt_2 (v1_ : List Card) : Fr := (mkF 31 [(3, (AV.sl .any 1 (List.map rU8 (List.foldl cardB [] (seenK v1_))))), (7, (AV.sl .any 9 (List.map Card.row (seenK v1_)))), (8, (AV.int .i64 (((seenK v1_).length : Nat) : Int))), (9, (AV.int .i64 (((seenK v1_).length : Nat) : Int)))])
end Go.Proofs.Ytcmfnfkahdconaa.AM

set_option maxRecDepth 100000
set_option linter.unusedVariables false
set_option linter.unusedSimpArgs false
namespace Go.Proofs.Ytcmfnfkahdconaa.AM
open Go Go.Proofs.Ytcmfnfkahdconaa
attribute [local irreducible] ACalls funT codeT codeQ LoopTo
abbrev zRow : List AV := [(AV.int .i64 0), (AV.int .i64 0), (AV.int .i64 0), (AV.int .i64 0), (AV.int .i64 0), (AV.int .i64 0), (AV.int .i64 0), (AV.str ⟨#[]⟩), (AV.str ⟨#[]⟩), (AV.bool false), (AV.int .u32 0), (AV.sl .nil 0 []), (AV.sl .nil 0 [])]
abbrev mRow (x b u c : AV) : List AV := [(AV.int .i64 2), (AV.int .i64 5), (AV.int .i64 0), (AV.int .i64 0), (AV.int .i64 0), (AV.int .i64 0), x, (AV.str ⟨#[]⟩), (AV.str ⟨#[]⟩), b, u, c, (AV.sl .nil 0 [])]
@[simp] theorem zRow_bdds (n : Nat) : AV.bdds n zRow = true := by simp [AV.bdds, AV.bdd]
@[simp] theorem mRow_bdds (n : Nat) (x b u c : AV) : AV.bdds n (mRow x b u c) = (AV.bdd n x && (AV.bdd n b && (AV.bdd n u && AV.bdd n c))) := by simp [AV.bdds, AV.bdd]
attribute [local irreducible] hasK lastsK recL okS sinceK findP findB putL putE putG dropL getE liveL capM seenK sealB ofB sortP hereL sortK
@[simp] abbrev Wc_o1 (v1_ : Int) (v2_ : Nat) (v3_ : Nat) : Ob := ⟨0, 2, [[(AV.int .i64 v1_), (AV.osl 1 v2_ 10 0 v3_)]], none⟩
@[simp] abbrev Wc_o2 (v1_ : List Key) (v2_ : Nat) : Ob := ⟨0, 2, [[(AV.int .i64 (((List.length v1_) : Nat) : Int)), (AV.osl 3 v2_ 2 0 (List.length (recL v1_)))]], none⟩
@[simp] abbrev Wc_1 (v1_ : Int) (v2_ : Nat) (v3_ : Nat) (v4_ : List Entry) (v5_ : List Key) (v6_ : Nat) : Heap := [Wc_o1 v1_ v2_ v3_, ⟨v2_, 10, (List.map Entry.row v4_), none⟩, Wc_o2 v5_ v6_, ⟨v6_, 2, (List.map Key.row (recL v5_)), none⟩]
@[simp] abbrev Wc_2 (v1_ : Int) (v2_ : Nat) (v3_ : Nat) (v4_ : List Entry) (v5_ : List Key) (v6_ : Nat) : Heap := [Wc_o1 v1_ v2_ v3_, ⟨v2_, 10, (List.map Entry.row v4_), none⟩, Wc_o2 v5_ v6_, ⟨v6_, 2, (List.map Key.row (recL v5_)), none⟩, ⟨0, 13, [zRow], none⟩]
@[simp] abbrev Wc_3 (v1_ : Int) (v2_ : Nat) (v3_ : Nat) (v4_ : List Entry) (v5_ : List Key) (v6_ : Nat) : Heap := [Wc_o1 v1_ v2_ v3_, ⟨v2_, 10, (List.map Entry.row v4_), none⟩, Wc_o2 v5_ v6_, ⟨v6_, 2, (List.map Key.row (recL v5_)), none⟩, ⟨0, 13, [zRow], none⟩, ⟨0, 13, [zRow], none⟩]
def goneC (k : Key) : Card := ⟨k, 2, 0, 1, ⟨0, 0, 0⟩, true⟩
def atC (l : List Entry) (k : Key) : Card := if findB l k = true then (getE l k).card else goneC k
@[simp] abbrev Wc_4 (v1_ : List Key) (v2_ : Nat) : Fr := (mkF 61 [(0, (AV.obj 0 0 0 0)), (6, (AV.obj 4 0 0 0)), (9, (AV.obj 5 0 0 0)), (36, (AV.sl .any 2 (List.map Key.row v1_))), (37, (AV.int .i64 ((v1_.length : Nat) : Int))), (38, (AV.int .i64 ((v2_ + 1 : Nat) : Int)))])
@[simp] abbrev Wc_o3 (v1_ : List Key) (v2_ : List Entry) (v3_ : Nat) (v4_ : Nat) : Ob := ⟨0, 13, [(mRow (AV.int .i64 ((v1_.length : Nat) : Int)) (AV.bool false) (AV.int .u32 (ofB (List.map Entry.card v2_))) (AV.osl 6 (v3_ + 1) 9 0 (v4_ + 1)))], none⟩
@[simp] abbrev Wc_o4 (v1_ : Nat) (v2_ : List Card) (v3_ : List Entry) (v4_ : List Key) (v5_ : Nat) : Ob := ⟨(v1_ + 1), 9, (List.map Card.row (v2_ ++ [(getE v3_ (nth v4_ v5_)).card])), none⟩
@[simp] abbrev Wc_5 (v1_ : Int) (v2_ : Nat) (v3_ : Nat) (v4_ : List Entry) (v5_ : List Key) (v6_ : Nat) (v7_ : Nat) (v8_ : Nat) (v9_ : List Card) (v10_ : List Key) (v11_ : Nat) : Heap := [Wc_o1 v1_ v2_ v3_, ⟨v2_, 10, (List.map Entry.row v4_), none⟩, Wc_o2 v5_ v6_, ⟨v6_, 2, (List.map Key.row (recL v5_)), none⟩, ⟨0, 13, [zRow], none⟩, Wc_o3 v5_ v4_ v7_ v8_, Wc_o4 v7_ v9_ v4_ v10_ v11_]
@[simp] abbrev Wc_o5 (v1_ : Nat) (v2_ : List Card) (v3_ : List Key) (v4_ : Nat) : Ob := ⟨(v1_ + 1), 9, (List.map Card.row (v2_ ++ [(Card.mk (nth v3_ v4_) 2 0 1 (Stamp.mk 0 0 0) true)])), none⟩
@[simp] abbrev Wc_6 (v1_ : Int) (v2_ : Nat) (v3_ : Nat) (v4_ : List Entry) (v5_ : List Key) (v6_ : Nat) (v7_ : Nat) (v8_ : Nat) (v9_ : List Card) (v10_ : List Key) (v11_ : Nat) : Heap := [Wc_o1 v1_ v2_ v3_, ⟨v2_, 10, (List.map Entry.row v4_), none⟩, Wc_o2 v5_ v6_, ⟨v6_, 2, (List.map Key.row (recL v5_)), none⟩, ⟨0, 13, [zRow], none⟩, Wc_o3 v5_ v4_ v7_ v8_, Wc_o5 v7_ v9_ v10_ v11_]
@[simp] abbrev Wc_7 (v1_ : List Key) (v2_ : Nat) : Fr := (mkF 61 [(0, (AV.obj 0 0 0 0)), (6, (AV.obj 4 0 0 0)), (9, (AV.obj 5 0 0 0)), (36, (AV.sl .any 2 (List.map Key.row v1_))), (37, (AV.int .i64 ((v1_.length : Nat) : Int))), (38, (AV.int .i64 ((v2_ : Nat) : Int)))])
@[simp] abbrev Wc_8 (v1_ : Int) (v2_ : Nat) (v3_ : Nat) (v4_ : List Entry) (v5_ : List Key) (v6_ : Nat) (v7_ : Nat) (v8_ : Nat) (v9_ : List Card) : Heap := [Wc_o1 v1_ v2_ v3_, ⟨v2_, 10, (List.map Entry.row v4_), none⟩, Wc_o2 v5_ v6_, ⟨v6_, 2, (List.map Key.row (recL v5_)), none⟩, ⟨0, 13, [zRow], none⟩, ⟨0, 13, [(mRow (AV.int .i64 ((v5_.length : Nat) : Int)) (AV.bool false) (AV.int .u32 (ofB (List.map Entry.card v4_))) (AV.osl 6 v7_ 9 0 v8_))], none⟩, ⟨v7_, 9, (List.map Card.row v9_), none⟩]
@[simp] abbrev Wc_9 (v1_ : Int) (v2_ : Nat) (v3_ : Nat) (v4_ : List Entry) (v5_ : List Key) (v6_ : Nat) : Heap := [Wc_o1 v1_ v2_ v3_, ⟨v2_, 10, (List.map Entry.row v4_), none⟩, Wc_o2 v5_ v6_, ⟨v6_, 2, (List.map Key.row (recL v5_)), none⟩, ⟨0, 13, [zRow], none⟩, ⟨0, 13, [(mRow (AV.int .i64 ((v5_.length : Nat) : Int)) (AV.bool false) (AV.int .u32 (ofB (List.map Entry.card v4_))) (AV.osl 6 0 9 0 0))], none⟩, ⟨0, 9, (List.map Card.row []), none⟩]
@[simp] abbrev Wc_10 (v1_ : List Key) (v2_ : Int) : Fr := (mkF 61 [(0, (AV.obj 0 0 0 0)), (6, (AV.obj 4 0 0 0)), (9, (AV.obj 5 0 0 0)), (36, (AV.sl .any 2 (List.map Key.row (sinceK v1_ v2_)))), (37, (AV.int .i64 (((sinceK v1_ v2_).length : Nat) : Int))), (38, (AV.int .i64 (((sinceK v1_ v2_).length : Nat) : Int)))])
@[simp] abbrev Wc_o6 (v1_ : List Entry) (v2_ : List Key) (v3_ : Int) : Ob := ⟨(List.map (atC v1_) (sinceK v2_ v3_)).length, 9, (List.map Card.row (List.map (atC v1_) (sinceK v2_ v3_))), none⟩
@[simp] abbrev Wc_11 (v1_ : Int) (v2_ : Nat) (v3_ : Nat) (v4_ : List Entry) (v5_ : List Key) (v6_ : Nat) (v7_ : Int) : Heap := [Wc_o1 v1_ v2_ v3_, ⟨v2_, 10, (List.map Entry.row v4_), none⟩, Wc_o2 v5_ v6_, ⟨v6_, 2, (List.map Key.row (recL v5_)), none⟩, ⟨0, 13, [zRow], none⟩, ⟨0, 13, [(mRow (AV.int .i64 ((v5_.length : Nat) : Int)) (AV.bool false) (AV.int .u32 (ofB (List.map Entry.card v4_))) (AV.osl 6 (List.map (atC v4_) (sinceK v5_ v7_)).length 9 0 (List.map (atC v4_) (sinceK v5_ v7_)).length))], none⟩, Wc_o6 v4_ v5_ v7_]
@[simp] abbrev Wc_o7 (v1_ : Int) (v2_ : List Entry) : Ob := ⟨0, 2, [[(AV.int .i64 v1_), (AV.sl .any 10 (List.map Entry.row v2_))]], none⟩
@[simp] abbrev Wc_12 (v1_ : Int) (v2_ : List Entry) (v3_ : Nat) (v4_ : List Card) (v5_ : Nat) : Heap := [Wc_o7 v1_ v2_, ⟨(v3_ + 1), 9, (List.map Card.row (v4_ ++ [(nth v2_ v5_).card])), none⟩]
@[simp] abbrev Wc_13 (v1_ : Nat) (v2_ : Nat) (v3_ : List Entry) (v4_ : Nat) : Fr := (mkF 22 [(3, (AV.osl 1 v1_ 9 0 v2_)), (9, (AV.sl .any 10 (List.map Entry.row v3_))), (10, (AV.int .i64 ((v3_.length : Nat) : Int))), (11, (AV.int .i64 ((v4_ : Nat) : Int)))])
@[simp] abbrev Wc_14 (v1_ : Int) (v2_ : List Entry) (v3_ : Nat) (v4_ : List Card) : Heap := [Wc_o7 v1_ v2_, ⟨v3_, 9, (List.map Card.row v4_), none⟩]
@[simp] abbrev Wc_15 (v1_ : Int) (v2_ : List Entry) : Heap := [Wc_o7 v1_ v2_]
@[simp] abbrev Wc_16 (v1_ : Int) (v2_ : List Entry) : Heap := [Wc_o7 v1_ v2_, ⟨0, 9, (List.map Card.row []), none⟩]
@[simp] abbrev Wc_17 (v1_ : List Entry) : Fr := (mkF 22 [(3, (AV.osl 1 (List.map Entry.card v1_).length 9 0 (List.map Entry.card v1_).length)), (9, (AV.sl .any 10 (List.map Entry.row v1_))), (10, (AV.int .i64 ((v1_.length : Nat) : Int))), (11, (AV.int .i64 ((v1_.length : Nat) : Int)))])
@[simp] abbrev Wc_18 (v1_ : Int) (v2_ : List Entry) : Heap := [Wc_o7 v1_ v2_, ⟨(List.map Entry.card v2_).length, 9, (List.map Card.row (List.map Entry.card v2_)), none⟩]
@[simp] abbrev Wc_o8 (v1_ : List Key) : Ob := ⟨0, 1, [[(AV.sl .any 2 (List.map Key.row v1_))]], none⟩
@[simp] abbrev Wc_19 (v1_ : Int) (v2_ : List Entry) (v3_ : List Key) : Heap := [Wc_o7 v1_ v2_, Wc_o8 v3_]
@[simp] abbrev Wc_20 (v1_ : Int) (v2_ : List Entry) (v3_ : List Key) : Heap := [Wc_o7 v1_ v2_, Wc_o8 v3_, ⟨0, 13, [zRow], none⟩]
@[simp] abbrev Wc_21 (v1_ : List Key) : Heap := [Wc_o8 v1_, ⟨0, 13, [zRow], none⟩]
@[simp] abbrev Wc_22 (v1_ : List Key) (v2_ : Nat) : Fr := (mkF 54 [(0, (AV.obj 0 0 0 0)), (6, (AV.obj 2 0 0 0)), (9, (AV.obj 3 0 0 0)), (28, (AV.sl .any 2 (List.map Key.row v1_))), (29, (AV.int .i64 ((v1_.length : Nat) : Int))), (30, (AV.int .i64 ((v2_ + 1 : Nat) : Int)))])
@[simp] abbrev Wc_o9 (v1_ : List Key) (v2_ : List Entry) (v3_ : Nat) (v4_ : Nat) : Ob := ⟨0, 13, [(mRow (AV.int .i64 ((v1_.length : Nat) : Int)) (AV.bool false) (AV.int .u32 (ofB (List.map Entry.card v2_))) (AV.osl 4 (v3_ + 1) 9 0 (v4_ + 1)))], none⟩
@[simp] abbrev Wc_23 (v1_ : Int) (v2_ : List Entry) (v3_ : List Key) (v4_ : Nat) (v5_ : Nat) (v6_ : List Card) (v7_ : List Key) (v8_ : Nat) : Heap := [Wc_o7 v1_ v2_, Wc_o8 v3_, ⟨0, 13, [zRow], none⟩, Wc_o9 v3_ v2_ v4_ v5_, Wc_o5 v4_ v6_ v7_ v8_]
@[simp] abbrev Wc_24 (v1_ : Int) (v2_ : List Entry) (v3_ : List Key) (v4_ : Nat) (v5_ : Nat) (v6_ : List Card) (v7_ : List Key) (v8_ : Nat) : Heap := [Wc_o7 v1_ v2_, Wc_o8 v3_, ⟨0, 13, [zRow], none⟩, Wc_o9 v3_ v2_ v4_ v5_, Wc_o4 v4_ v6_ v2_ v7_ v8_]
@[simp] abbrev Wc_25 (v1_ : List Key) (v2_ : Nat) : Fr := (mkF 54 [(0, (AV.obj 0 0 0 0)), (6, (AV.obj 2 0 0 0)), (9, (AV.obj 3 0 0 0)), (28, (AV.sl .any 2 (List.map Key.row v1_))), (29, (AV.int .i64 ((v1_.length : Nat) : Int))), (30, (AV.int .i64 ((v2_ : Nat) : Int)))])
@[simp] abbrev Wc_26 (v1_ : Int) (v2_ : List Entry) (v3_ : List Key) (v4_ : Nat) (v5_ : Nat) (v6_ : List Card) : Heap := [Wc_o7 v1_ v2_, Wc_o8 v3_, ⟨0, 13, [zRow], none⟩, ⟨0, 13, [(mRow (AV.int .i64 ((v3_.length : Nat) : Int)) (AV.bool false) (AV.int .u32 (ofB (List.map Entry.card v2_))) (AV.osl 4 v4_ 9 0 v5_))], none⟩, ⟨v4_, 9, (List.map Card.row v6_), none⟩]
@[simp] abbrev Wc_27 (v1_ : Int) (v2_ : List Entry) (v3_ : List Key) : Heap := [Wc_o7 v1_ v2_, Wc_o8 v3_, ⟨0, 13, [zRow], none⟩, ⟨0, 13, [(mRow (AV.int .i64 ((v3_.length : Nat) : Int)) (AV.bool true) (AV.int .u32 (ofB (List.map Entry.card v2_))) (AV.sl .any 9 (List.map Card.row (seenK (List.map Entry.card v2_)))))], none⟩]
@[simp] abbrev Wc_28 (v1_ : Int) (v2_ : List Entry) (v3_ : List Key) : Heap := [Wc_o7 v1_ v2_, Wc_o8 v3_, ⟨0, 13, [zRow], none⟩, ⟨0, 13, [(mRow (AV.int .i64 ((v3_.length : Nat) : Int)) (AV.bool false) (AV.int .u32 (ofB (List.map Entry.card v2_))) (AV.osl 4 0 9 0 0))], none⟩, ⟨0, 9, (List.map Card.row []), none⟩]
@[simp] abbrev Wc_29 (v1_ : List Key) (v2_ : Int) : Fr := (mkF 54 [(0, (AV.obj 0 0 0 0)), (6, (AV.obj 2 0 0 0)), (9, (AV.obj 3 0 0 0)), (28, (AV.sl .any 2 (List.map Key.row (sinceK v1_ v2_)))), (29, (AV.int .i64 (((sinceK v1_ v2_).length : Nat) : Int))), (30, (AV.int .i64 (((sinceK v1_ v2_).length : Nat) : Int)))])
@[simp] abbrev Wc_30 (v1_ : Int) (v2_ : List Entry) (v3_ : List Key) (v4_ : Int) : Heap := [Wc_o7 v1_ v2_, Wc_o8 v3_, ⟨0, 13, [zRow], none⟩, ⟨0, 13, [(mRow (AV.int .i64 ((v3_.length : Nat) : Int)) (AV.bool false) (AV.int .u32 (ofB (List.map Entry.card v2_))) (AV.osl 4 (List.map (atC v2_) (sinceK v3_ v4_)).length 9 0 (List.map (atC v2_) (sinceK v3_ v4_)).length))], none⟩, Wc_o6 v2_ v3_ v4_]
end Go.Proofs.Ytcmfnfkahdconaa.AM

set_option maxRecDepth 100000
set_option linter.unusedVariables false
set_option linter.unusedSimpArgs false
namespace Go.Proofs.Ytcmfnfkahdconaa.AM
open Go Go.Proofs.Ytcmfnfkahdconaa
attribute [local irreducible] ACalls funT codeT codeQ LoopTo
attribute [local irreducible] hasK lastsK okS sinceK findP findB putL putE putG dropL getE liveL capM seenK sealB ofB sortP hereL sortK Tp.card Tp.cardT Tp.next Tp.step
def recnew0_ann : Ann := { fin := some 1 }
set_option maxRecDepth 100000 in
theorem recnew0_spec   : ACalls Try.prog 53 [] ([] : Heap) ((AV.obj 0 0 0 0), ([⟨0, 2, [[(.int .i64 0), (.sl .nil 0 [])]], none⟩] : Heap)) :=
  specO (fn := Try.f53) (ann := recnew0_ann) (Has.o Try.func53) (.r (.g (.r (.g (.h' ([⟨0, 2, [[(AV.int .i64 0), (AV.sl .nil 0 [])]], none⟩] : Heap) (.f 1 (AV.obj 0 0 0 0) (.e (AV.obj 0 0 0 0))))))))
theorem recnew_spec   : ACalls Try.prog 53 [] ([] : Heap) ((AV.obj 0 0 0 0), ([⟨0, 2, [[(.int .i64 (((List.length ([] : List Key)) : Nat) : Int)), (.osl 1 0 2 0 (List.length (recL ([] : List Key))))]], none⟩, ⟨0, 2, (List.map Key.row (recL ([] : List Key))), none⟩] : Heap)) := (recnew0_spec).virField
attribute [local irreducible] recL
def mdS : Nat → Tp → List Entry → Nat → List Key → Nat → Tp × List Entry × Nat × List Key × Nat
  | 0, t, l, g, al, ga => (t, l, g, al, ga)
  | r + 1, t, l, g, al, ga => if ((((t.cardT).next 5 : Nat) : Int) == 0) = true then mdS r (t.cardT.step 5) (dropL l t.card.key) g al ga
      else mdS r (t.cardT.step 5) (putL (capM 20) l ⟨t.card, 0⟩) (putG (capM 20) l ⟨t.card, 0⟩ g) (al ++ [t.card.key]) (ga + 1 + 1)
@[simp] abbrev Wd_1 (v1_ : Nat) : Fr := (mkF 68 [(6, (AV.obj 0 0 0 0)), (7, (AV.obj 1 0 0 0)), (8, (AV.obj 3 0 0 0)), (9, (AV.obj 5 0 0 0)), (10, (AV.obj 6 0 0 0)), (11, (AV.int .i64 ((v1_ - 1 : Nat) : Int)))])
@[simp] abbrev Wd_o1 (v1_ : Nat) (v2_ : List Entry) (v3_ : Tp) : Ob := ⟨0, 2, [[(AV.int .i64 (capM 20)), (AV.osl 2 v1_ 10 0 (List.length (dropL v2_ v3_.card.key)))]], none⟩
@[simp] abbrev Wd_o2 (v1_ : Nat) (v2_ : List Entry) (v3_ : Tp) : Ob := ⟨v1_, 10, (List.map Entry.row (dropL v2_ v3_.card.key)), none⟩
@[simp] abbrev Wd_o3 (v1_ : List Key) (v2_ : Nat) : Ob := ⟨0, 2, [[(AV.int .i64 (((List.length v1_) : Nat) : Int)), (AV.osl 4 v2_ 2 0 (List.length (recL v1_)))]], none⟩
@[simp] abbrev Wd_o4 (v1_ : List Entry) (v2_ : Tp) : Ob := ⟨0, 2, [[(AV.int .i64 (capM 20)), (AV.sl .any 10 (List.map Entry.row (dropL v1_ v2_.card.key)))]], none⟩
@[simp] abbrev Wd_o5 (v1_ : List Key) : Ob := ⟨0, 1, [[(AV.sl .any 2 (List.map Key.row v1_))]], none⟩
@[simp] abbrev Wd_2 (v1_ : Tp) (v2_ : Nat) (v3_ : List Entry) (v4_ : List Key) (v5_ : Nat) : Heap := [⟨0, 2, [(Tp.row (v1_.cardT.step 5))], none⟩, Wd_o1 v2_ v3_ v1_, Wd_o2 v2_ v3_ v1_, Wd_o3 v4_ v5_, ⟨v5_, 2, (List.map Key.row (recL v4_)), none⟩, Wd_o4 v3_ v1_, Wd_o5 v4_]
@[simp] abbrev Wd_o6 (v1_ : List Entry) (v2_ : Tp) (v3_ : Nat) : Ob := ⟨0, 2, [[(AV.int .i64 (capM 20)), (AV.osl 2 (putG (capM 20) v1_ (Entry.mk v2_.card 0) v3_) 10 0 (List.length (putL (capM 20) v1_ (Entry.mk v2_.card 0))))]], none⟩
@[simp] abbrev Wd_o7 (v1_ : List Entry) (v2_ : Tp) (v3_ : Nat) : Ob := ⟨(putG (capM 20) v1_ (Entry.mk v2_.card 0) v3_), 10, (List.map Entry.row (putL (capM 20) v1_ (Entry.mk v2_.card 0))), none⟩
@[simp] abbrev Wd_o8 (v1_ : List Key) (v2_ : Tp) (v3_ : Nat) : Ob := ⟨0, 2, [[(AV.int .i64 (((List.length (v1_ ++ [v2_.card.key])) : Nat) : Int)), (AV.osl 4 (v3_ + 1 + 1) 2 0 (List.length (recL (v1_ ++ [v2_.card.key]))))]], none⟩
@[simp] abbrev Wd_o9 (v1_ : Nat) (v2_ : List Key) (v3_ : Tp) : Ob := ⟨(v1_ + 1 + 1), 2, (List.map Key.row (recL (v2_ ++ [v3_.card.key]))), none⟩
@[simp] abbrev Wd_o10 (v1_ : List Entry) (v2_ : Tp) : Ob := ⟨0, 2, [[(AV.int .i64 (capM 20)), (AV.sl .any 10 (List.map Entry.row (putL (capM 20) v1_ (Entry.mk v2_.card 0))))]], none⟩
@[simp] abbrev Wd_o11 (v1_ : List Key) (v2_ : Tp) : Ob := ⟨0, 1, [[(AV.sl .any 2 (List.map Key.row (v1_ ++ [v2_.card.key])))]], none⟩
@[simp] abbrev Wd_3 (v1_ : Tp) (v2_ : List Entry) (v3_ : Nat) (v4_ : List Key) (v5_ : Nat) : Heap := [⟨0, 2, [(Tp.row (v1_.cardT.step 5))], none⟩, Wd_o6 v2_ v1_ v3_, Wd_o7 v2_ v1_ v3_, Wd_o8 v4_ v1_ v5_, Wd_o9 v5_ v4_ v1_, Wd_o10 v2_ v1_, Wd_o11 v4_ v1_]
@[simp] abbrev Wd_4 (v1_ : Nat) : Fr := (mkF 68 [(6, (AV.obj 0 0 0 0)), (7, (AV.obj 1 0 0 0)), (8, (AV.obj 3 0 0 0)), (9, (AV.obj 5 0 0 0)), (10, (AV.obj 6 0 0 0)), (11, (AV.int .i64 ((v1_ : Nat) : Int)))])
@[simp] abbrev Wd_o12 (v1_ : Nat) (v2_ : List Entry) : Ob := ⟨0, 2, [[(AV.int .i64 (capM 20)), (AV.osl 2 v1_ 10 0 (List.length v2_))]], none⟩
@[simp] abbrev Wd_o13 (v1_ : List Entry) : Ob := ⟨0, 2, [[(AV.int .i64 (capM 20)), (AV.sl .any 10 (List.map Entry.row v1_))]], none⟩
@[simp] abbrev Wd_5 (v1_ : Tp) (v2_ : Nat) (v3_ : List Entry) (v4_ : List Key) (v5_ : Nat) : Heap := [⟨0, 2, [(Tp.row v1_)], none⟩, Wd_o12 v2_ v3_, ⟨v2_, 10, (List.map Entry.row v3_), none⟩, Wd_o3 v4_ v5_, ⟨v5_, 2, (List.map Key.row (recL v4_)), none⟩, Wd_o13 v3_, Wd_o5 v4_]
@[simp] abbrev Wd_6 (v1_ : Tp) (v2_ : Nat) (v3_ : List Entry) (v4_ : List Key) (v5_ : Nat) : Heap := [⟨0, 2, [(Tp.row (v1_.cardT.step 5))], none⟩, Wd_o12 v2_ v3_, ⟨v2_, 10, (List.map Entry.row v3_), none⟩, Wd_o3 v4_ v5_, ⟨v5_, 2, (List.map Key.row (recL v4_)), none⟩, Wd_o13 v3_, Wd_o5 v4_, ⟨0, 9, [(Card.row v1_.card)], none⟩]
@[simp] abbrev Wd_7 (v1_ : Tp) (v2_ : Nat) (v3_ : List Entry) (v4_ : List Key) (v5_ : Nat) : Heap := [⟨0, 2, [(Tp.row (v1_.cardT.step 5))], none⟩, Wd_o1 v2_ v3_ v1_, Wd_o2 v2_ v3_ v1_, Wd_o3 v4_ v5_, ⟨v5_, 2, (List.map Key.row (recL v4_)), none⟩, Wd_o13 v3_, Wd_o5 v4_, ⟨0, 9, [(Card.row v1_.card)], none⟩]
@[simp] abbrev Wd_8 (v1_ : Tp) (v2_ : Nat) (v3_ : List Entry) (v4_ : List Key) (v5_ : Nat) : Heap := [⟨0, 2, [(Tp.row (v1_.cardT.step 5))], none⟩, Wd_o1 v2_ v3_ v1_, Wd_o2 v2_ v3_ v1_, Wd_o3 v4_ v5_, ⟨v5_, 2, (List.map Key.row (recL v4_)), none⟩, Wd_o4 v3_ v1_, Wd_o5 v4_, ⟨0, 9, [(Card.row v1_.card)], none⟩]
@[simp] abbrev Wd_9 (v1_ : Tp) (v2_ : List Entry) (v3_ : Nat) (v4_ : List Key) (v5_ : Nat) : Heap := [⟨0, 2, [(Tp.row (v1_.cardT.step 5))], none⟩, Wd_o6 v2_ v1_ v3_, Wd_o7 v2_ v1_ v3_, Wd_o3 v4_ v5_, ⟨v5_, 2, (List.map Key.row (recL v4_)), none⟩, Wd_o13 v2_, Wd_o5 v4_, ⟨0, 9, [(Card.row v1_.card)], none⟩]
@[simp] abbrev Wd_10 (v1_ : Tp) (v2_ : List Entry) (v3_ : Nat) (v4_ : List Key) (v5_ : Nat) : Heap := [⟨0, 2, [(Tp.row (v1_.cardT.step 5))], none⟩, Wd_o6 v2_ v1_ v3_, Wd_o7 v2_ v1_ v3_, Wd_o3 v4_ v5_, ⟨v5_, 2, (List.map Key.row (recL v4_)), none⟩, Wd_o10 v2_ v1_, Wd_o5 v4_, ⟨0, 9, [(Card.row v1_.card)], none⟩]
@[simp] abbrev Wd_11 (v1_ : Tp) (v2_ : List Entry) (v3_ : Nat) (v4_ : List Key) (v5_ : Nat) : Heap := [⟨0, 2, [(Tp.row (v1_.cardT.step 5))], none⟩, Wd_o6 v2_ v1_ v3_, Wd_o7 v2_ v1_ v3_, Wd_o8 v4_ v1_ v5_, Wd_o9 v5_ v4_ v1_, Wd_o10 v2_ v1_, Wd_o5 v4_, ⟨0, 9, [(Card.row v1_.card)], none⟩]
@[simp] abbrev Wd_12 (v1_ : Tp) (v2_ : List Entry) (v3_ : Nat) (v4_ : List Key) (v5_ : Nat) : Heap := [⟨0, 2, [(Tp.row (v1_.cardT.step 5))], none⟩, Wd_o6 v2_ v1_ v3_, Wd_o7 v2_ v1_ v3_, Wd_o8 v4_ v1_ v5_, Wd_o9 v5_ v4_ v1_, Wd_o10 v2_ v1_, Wd_o11 v4_ v1_, ⟨0, 9, [(Card.row v1_.card)], none⟩]
@[simp] abbrev Wd_13  : Fr := (mkF 68 [(6, (AV.obj 0 0 0 0)), (7, (AV.obj 1 0 0 0)), (8, (AV.obj 3 0 0 0)), (9, (AV.obj 5 0 0 0)), (10, (AV.obj 6 0 0 0)), (11, (AV.int .i64 ((0 : Nat) : Int)))])
def mdF (tape : List Int) : Tp × List Entry × Nat × List Key × Nat := mdS ((⟨tape, 0⟩ : Tp).next 30) ((⟨tape, 0⟩ : Tp).step 30) [] 0 [] 0
@[simp] abbrev Wd_14 (v1_ : List Int) : Heap := [⟨0, 2, [(Tp.row ((mdF v1_).1))], none⟩, ⟨0, 2, [[(AV.int .i64 (capM 20)), (AV.osl 2 ((mdF v1_).2.2.1) 10 0 (List.length ((mdF v1_).2.1)))]], none⟩, ⟨((mdF v1_).2.2.1), 10, (List.map Entry.row ((mdF v1_).2.1)), none⟩, ⟨0, 2, [[(AV.int .i64 (((List.length ((mdF v1_).2.2.2.1)) : Nat) : Int)), (AV.osl 4 ((mdF v1_).2.2.2.2) 2 0 (List.length (recL ((mdF v1_).2.2.2.1))))]], none⟩, ⟨((mdF v1_).2.2.2.2), 2, (List.map Key.row (recL ((mdF v1_).2.2.2.1))), none⟩, ⟨0, 2, [[(AV.int .i64 (capM 20)), (AV.sl .any 10 (List.map Entry.row ((mdF v1_).2.1)))]], none⟩, ⟨0, 1, [[(AV.sl .any 2 (List.map Key.row ((mdF v1_).2.2.2.1)))]], none⟩]
@[simp] abbrev Wd_o14 (v1_ : List Int) : Ob := ⟨0, 2, [[(AV.sl .any 1 (List.map rI64 v1_)), (AV.int .i64 0)]], none⟩
@[simp] abbrev Wd_o15  : Ob := ⟨0, 2, [[(AV.int .i64 (capM 20)), (AV.osl 2 0 10 0 0)]], none⟩
@[simp] abbrev Wd_15 (v1_ : List Int) : Heap := [Wd_o14 v1_, Wd_o15, ⟨0, 10, (List.map Entry.row []), none⟩]
@[simp] abbrev Wd_o16  : Ob := ⟨0, 2, [[(AV.int .i64 (((List.length ([] : List Key)) : Nat) : Int)), (AV.osl 4 0 2 0 (List.length (recL ([] : List Key))))]], none⟩
@[simp] abbrev Wd_o17  : Ob := ⟨0, 2, (List.map Key.row (recL ([] : List Key))), none⟩
@[simp] abbrev Wd_16 (v1_ : List Int) : Heap := [Wd_o14 v1_, Wd_o15, ⟨0, 10, (List.map Entry.row []), none⟩, Wd_o16, Wd_o17]
@[simp] abbrev Wd_o18  : Ob := ⟨0, 2, [[(AV.int .i64 (capM 20)), (AV.sl .any 10 (List.map Entry.row []))]], none⟩
@[simp] abbrev Wd_17 (v1_ : List Int) : Heap := [Wd_o14 v1_, Wd_o15, ⟨0, 10, (List.map Entry.row []), none⟩, Wd_o16, Wd_o17, Wd_o18]
@[simp] abbrev Wd_18 (v1_ : List Int) : Heap := [⟨0, 2, [(Tp.row ((Tp.mk v1_ 0).step 30))], none⟩, Wd_o15, ⟨0, 10, (List.map Entry.row []), none⟩, Wd_o16, Wd_o17, Wd_o18, ⟨0, 1, [[(AV.sl .any 2 (List.map Key.row []))]], none⟩]
attribute [local irreducible] mdF mdS
end Go.Proofs.Ytcmfnfkahdconaa.AM

set_option maxRecDepth 100000
set_option linter.unusedVariables false
set_option linter.unusedSimpArgs false
namespace Go.Proofs.Ytcmfnfkahdconaa.AM
open Go Go.Proofs.Ytcmfnfkahdconaa
attribute [local irreducible] ACalls funT codeT codeQ LoopTo
attribute [local irreducible] hasK lastsK okS sinceK findP findB putL putE putG dropL getE liveL capM seenK sealB ofB sortP hereL sortK Tp.card Tp.cardT Tp.next Tp.step recL
def hold40 (n : Int) : Int := max 0 (min n 1099511627776)
def dheld_ann : Ann := { fin := some 0 }
set_option maxRecDepth 100000 in
theorem dheld_spec (now : Int)  : ACalls Try.prog 70 [(.int .i64 now)] ([] : Heap) ((AV.int .i64 (hold40 now)), ([] : Heap)) :=
  specO (fn := Try.f70) (ann := dheld_ann) (Has.o Try.func70) (.r (.g (.r (.y 1 (.int .i64 (if 1099511627776 < now then 1099511627776 else now)) (AV.int .i64 (min now 1099511627776)) (Yes.int (by split <;> omega)) (.y 2 (.int .i64 (if (min now 1099511627776) > 0 then (min now 1099511627776) else 0)) (AV.int .i64 (max 0 (min now 1099511627776))) (Yes.int (by split <;> omega)) (.g (.f 0 (AV.int .i64 (max 0 (min now 1099511627776))) (.e (AV.int .i64 (max 0 (min now 1099511627776))) (by
        simp [hold40, Int.max_comm, Int.min_comm])))))))))
theorem dheld_at (now : Int)  (H : Heap) : ACalls Try.prog 70 [(.int .i64 now)] H ((AV.int .i64 (hold40 now)), H) := (dheld_spec now ).lift kr kr H
def gnew_ann : Ann := { fin := some 1 }
@[simp] abbrev Wg_o1 (v1_ : Int) : Ob := ⟨0, 3, [[(AV.int .i64 v1_), (AV.int .i64 0), (AV.int .i64 0)]], none⟩
@[simp] abbrev Wg_1 (v1_ : Int) : Heap := [Wg_o1 v1_]
set_option maxRecDepth 100000 in
theorem gnew_spec (now : Int)  : ACalls Try.prog 71 [(.int .i64 now)] ([] : Heap) ((AV.obj 0 0 0 0), (Wg_1 now)) :=
  specO (fn := Try.f71) (ann := gnew_ann) (Has.o Try.func71) (.r (.g (.r (.g (.h' (Wg_1 now) (.f 1 (AV.obj 0 0 0 0) (.e (AV.obj 0 0 0 0))))))))
def dshelf_ann : Ann := { base := 6, fin := some 6 }
@[simp] abbrev Wg_o2 (v1_ : Int) (v2_ : Int) (v3_ : Int) : Ob := ⟨0, 3, [[(AV.int .i64 v1_), (AV.int .i64 v2_), (AV.int .i64 v3_)]], none⟩
@[simp] abbrev Wg_o3 (v1_ : List Key) (v2_ : Nat) : Ob := ⟨0, 2, [[(AV.int .i64 (((List.length v1_) : Nat) : Int)), (AV.osl 4 v2_ 2 0 (List.length (recL v1_)))]], none⟩
@[simp] abbrev Wg_o4 (v1_ : Int) (v2_ : Int) (v3_ : Int) (v4_ : Int) : Ob := ⟨0, 7, [[(AV.int .i64 v1_), (AV.int .i64 v2_), (AV.int .i64 v3_), (AV.int .i64 v4_), (AV.obj 0 0 0 0), (AV.obj 2 0 0 0), (AV.obj 3 0 0 0)]], none⟩
@[simp] abbrev Wg_2 (v1_ : Nat) (v2_ : List Entry) (v3_ : Int) (v4_ : Int) (v5_ : Int) (v6_ : List Key) (v7_ : Nat) (v8_ : Int) (v9_ : Int) (v10_ : Int) (v11_ : Int) : Heap := [⟨0, 2, [[(AV.int .i64 (capM 32)), (AV.osl 1 v1_ 10 0 (List.length v2_))]], none⟩, ⟨v1_, 10, (List.map Entry.row v2_), none⟩, Wg_o2 v3_ v4_ v5_, Wg_o3 v6_ v7_, ⟨v7_, 2, (List.map Key.row (recL v6_)), none⟩, Wg_o4 v8_ v9_ v10_ v11_]
set_option maxRecDepth 100000 in
theorem dshelf_spec (l : List Entry) (g : Nat) (al : List Key) (ga : Nat) (gf gl gt nd s1 s2 s3 : Int)  : ACalls Try.prog 32 [(.obj 5 0 0 0)] (Wg_2 g l gf gl gt al ga nd s1 s2 s3) ((AV.obj 0 0 0 0), (Wg_2 g l gf gl gt al ga nd s1 s2 s3)) :=
  specO (fn := Try.f32) (ann := dshelf_ann) (Has.o Try.func32) (.r (.g (.r (.g (.f 6 (AV.obj 0 0 0 0) (.e (AV.obj 0 0 0 0)))))))
def drecent_ann : Ann := { base := 6, fin := some 6 }
set_option maxRecDepth 100000 in
theorem drecent_spec (l : List Entry) (g : Nat) (al : List Key) (ga : Nat) (gf gl gt nd s1 s2 s3 : Int)  : ACalls Try.prog 35 [(.obj 5 0 0 0)] (Wg_2 g l gf gl gt al ga nd s1 s2 s3) ((AV.obj 3 0 0 0), (Wg_2 g l gf gl gt al ga nd s1 s2 s3)) :=
  specO (fn := Try.f35) (ann := drecent_ann) (Has.o Try.func35) (.r (.g (.r (.g (.f 6 (AV.obj 3 0 0 0) (.e (AV.obj 3 0 0 0)))))))
def dnew_ann : Ann := { fin := some 6 }
@[simp] abbrev Wg_o5  : Ob := ⟨0, 2, [[(AV.int .i64 (capM 32)), (AV.osl 1 0 10 0 0)]], none⟩
@[simp] abbrev Wg_3  : Heap := [Wg_o5, ⟨0, 10, (List.map Entry.row []), none⟩]
@[simp] abbrev Wg_4 (v1_ : Int) : Heap := [Wg_o5, ⟨0, 10, (List.map Entry.row []), none⟩, Wg_o1 v1_]
@[simp] abbrev Wg_5 (v1_ : Int) : Heap := [Wg_o5, ⟨0, 10, (List.map Entry.row []), none⟩, Wg_o1 v1_, ⟨0, 2, [[(AV.int .i64 (((List.length ([] : List Key)) : Nat) : Int)), (AV.osl 4 0 2 0 (List.length (recL ([] : List Key))))]], none⟩, ⟨0, 2, (List.map Key.row (recL ([] : List Key))), none⟩]
set_option maxRecDepth 100000 in
theorem dnew_spec (nd now : Int) (h1 : 0 ≤ nd) (h2 : nd < 6) (h3 : hold40 now = now) : ACalls Try.prog 31 [(.int .i64 nd), (.int .i64 now)] ([] : Heap) ((AV.obj 5 0 0 0), ([⟨0, 2, [[(.int .i64 (capM 32)), (.osl 1 0 10 0 (List.length ([] : List Entry)))]], none⟩, ⟨0, 10, (List.map Entry.row ([] : List Entry)), none⟩, ⟨0, 3, [[(.int .i64 now), (.int .i64 0), (.int .i64 0)]], none⟩, ⟨0, 2, [[(.int .i64 (((List.length ([] : List Key)) : Nat) : Int)), (.osl 4 0 2 0 (List.length (recL ([] : List Key))))]], none⟩, ⟨0, 2, (List.map Key.row (recL ([] : List Key))), none⟩, ⟨0, 7, [[(.int .i64 nd), (.int .i64 0), (.int .i64 nd), (.int .i64 0), (.obj 0 0 0 0), (.obj 2 0 0 0), (.obj 3 0 0 0)]], none⟩] : Heap)) :=
  specO (fn := Try.f31) (ann := dnew_ann) (Has.o Try.func31) (.r (.g (.r (.y 1 (AV.bool (decide (nd < 0))) (AV.bool false) (Yes.bool (by simp; omega)) (.no (.no (.y 4 (AV.bool (decide (nd ≥ 6))) (AV.bool false) (Yes.bool (by simp; omega)) (.no (.no (.no (.c 9 (dheld_at now  ([] : Heap)) (.no (.y 10 (AV.bool (now != (hold40 now))) (AV.bool false) (Yes.bool (by rw [h3]; simp)) (.g (.no (.r (.ch 3 Wg_3 (ACalls.put2 [] ([] : Heap) (AV.obj 0 0 0 0) Wg_3 (snew_spec 32 ) (trivial) (⟨rfl, ⟨Ob.ren0 (Entry.rows_bdd 0 _), trivial⟩⟩)) (.ch 5 (Wg_4 now) (ACalls.put2 [] Wg_3 (AV.obj 2 0 0 0) (Wg_4 now) (gnew_spec now ) (trivial) (⟨rfl, trivial⟩)) (.ch 6 (Wg_5 now) (ACalls.put2 [] (Wg_4 now) (AV.obj 3 0 0 0) (Wg_5 now) (recnew_spec  ) (trivial) (⟨rfl, ⟨Ob.ren0 (Key.rows_bdd 0 _), trivial⟩⟩)) (.g (.h' ([⟨0, 2, [[(AV.int .i64 (capM 32)), (AV.osl 1 0 10 0 0)]], none⟩, ⟨0, 10, (List.map Entry.row []), none⟩, ⟨0, 3, [[(AV.int .i64 now), (AV.int .i64 0), (AV.int .i64 0)]], none⟩, ⟨0, 2, [[(AV.int .i64 (((List.length ([] : List Key)) : Nat) : Int)), (AV.osl 4 0 2 0 (List.length (recL ([] : List Key))))]], none⟩, ⟨0, 2, (List.map Key.row (recL ([] : List Key))), none⟩, ⟨0, 7, [[(AV.int .i64 nd), (AV.int .i64 0), (AV.int .i64 nd), (AV.int .i64 0), (AV.obj 0 0 0 0), (AV.obj 2 0 0 0), (AV.obj 3 0 0 0)]], none⟩] : Heap) (.f 6 (AV.obj 5 0 0 0) (.e (AV.obj 5 0 0 0))))))))))))))))))))))))
def dsetY_ann : Ann := { refs := [3], base := 6, fin := some 6 }
@[simp] abbrev Wg_o6 (v1_ : List Entry) (v2_ : Entry) (v3_ : Nat) : Ob := ⟨0, 2, [[(AV.int .i64 (capM 32)), (AV.osl 1 (putG (capM 32) v1_ v2_ v3_) 10 0 (List.length (putL (capM 32) v1_ v2_)))]], none⟩
@[simp] abbrev Wg_o7 (v1_ : List Entry) (v2_ : Entry) (v3_ : Nat) : Ob := ⟨(putG (capM 32) v1_ v2_ v3_), 10, (List.map Entry.row (putL (capM 32) v1_ v2_)), none⟩
@[simp] abbrev Wg_6 (v1_ : List Entry) (v2_ : Entry) (v3_ : Nat) (v4_ : Int) (v5_ : Int) (v6_ : Int) (v7_ : List Key) (v8_ : Nat) (v9_ : Int) (v10_ : Int) (v11_ : Int) (v12_ : Int) : Heap := [Wg_o6 v1_ v2_ v3_, Wg_o7 v1_ v2_ v3_, Wg_o2 v4_ v5_ v6_, ⟨0, 2, [[(AV.int .i64 (((List.length (v7_ ++ [v2_.card.key])) : Nat) : Int)), (AV.osl 4 (v8_ + 1 + 1) 2 0 (List.length (recL (v7_ ++ [v2_.card.key]))))]], none⟩, ⟨(v8_ + 1 + 1), 2, (List.map Key.row (recL (v7_ ++ [v2_.card.key]))), none⟩, Wg_o4 v9_ v10_ v11_ v12_]
@[simp] abbrev Wg_7 (v1_ : List Entry) (v2_ : Entry) (v3_ : Nat) (v4_ : Int) (v5_ : Int) (v6_ : Int) (v7_ : List Key) (v8_ : Nat) (v9_ : Int) (v10_ : Int) (v11_ : Int) (v12_ : Int) : Heap := [Wg_o6 v1_ v2_ v3_, Wg_o7 v1_ v2_ v3_, Wg_o2 v4_ v5_ v6_, Wg_o3 v7_ v8_, ⟨v8_, 2, (List.map Key.row (recL v7_)), none⟩, Wg_o4 v9_ v10_ v11_ v12_]
@[simp] abbrev Wg_8 (v1_ : Int) (v2_ : Int) (v3_ : Int) (v4_ : List Key) (v5_ : Nat) (v6_ : Int) (v7_ : Int) (v8_ : Int) (v9_ : Int) : Heap := [Wg_o2 v1_ v2_ v3_, Wg_o3 v4_ v5_, ⟨v5_, 2, (List.map Key.row (recL v4_)), none⟩, Wg_o4 v6_ v7_ v8_ v9_]
set_option maxRecDepth 100000 in
theorem dsetY_spec (l : List Entry) (g : Nat) (al : List Key) (ga : Nat) (gf gl gt nd s1 s2 s3 : Int) (x : Entry) (hl : l.length < 1000) (ha : al.length < 100000) (h : ((putE (capM 32) l x) == 0) = true) : ACalls Try.prog 74 [(.obj 5 0 0 0), (.agg (Entry.row x))] (Wg_2 g l gf gl gt al ga nd s1 s2 s3) ((AV.int .i64 (putE (capM 32) l x)), (Wg_6 l x g gf gl gt al ga nd s1 s2 s3)) := by
  have p1 := putL_len (capM 32) l x
  exact specO (fn := Try.f74) (ann := dsetY_ann) (Has.o Try.func74) (.r (.g (.r (.ch 5 (Wg_7 l x g gf gl gt al ga nd s1 s2 s3) (put_at (capM 32) l x g (List.length l) oa oa (Wg_8 gf gl gt al ga nd s1 s2 s3)) (.g (.r (.y 1 (AV.bool ((putE (capM 32) l x) == 0)) (AV.bool true) (Yes.bool (h)) (.g (.yes (.r (.ch 7 (Wg_6 l x g gf gl gt al ga nd s1 s2 s3) (ACalls.pre (args' := [(AV.obj 3 0 0 0), (AV.agg (Key.row x.card.key))]) (ACalls.put2 [3, 4] (Wg_7 l x g gf gl gt al ga nd s1 s2 s3) (AV.int .i64 (((al ++ [x.card.key]).length : Nat) : Int)) (Wg_6 l x g gf gl gt al ga nd s1 s2 s3) (radd_spec al x.card.key ga oa) (⟨rfl, ⟨Ob.ren0 (Key.rows_bdd 0 _), trivial⟩⟩) (⟨rfl, ⟨Ob.ren0 (Key.rows_bdd 0 _), trivial⟩⟩)) ⟨AV.wk_refl_any _, AV.wk_refl_any _, trivial⟩) (.g (.r (.g (.f 6 (AV.int .i64 (putE (capM 32) l x)) (.e (AV.int .i64 (putE (capM 32) l x))))))))))))))))))
def dsetN_ann : Ann := { refs := [3], base := 6, fin := some 6 }
set_option maxRecDepth 100000 in
theorem dsetN_spec (l : List Entry) (g : Nat) (al : List Key) (ga : Nat) (gf gl gt nd s1 s2 s3 : Int) (x : Entry) (hl : l.length < 1000) (ha : al.length < 100000) (h : ((putE (capM 32) l x) == 0) = false) : ACalls Try.prog 74 [(.obj 5 0 0 0), (.agg (Entry.row x))] (Wg_2 g l gf gl gt al ga nd s1 s2 s3) ((AV.int .i64 (putE (capM 32) l x)), (Wg_7 l x g gf gl gt al ga nd s1 s2 s3)) := by
  have p1 := putL_len (capM 32) l x
  exact specO (fn := Try.f74) (ann := dsetN_ann) (Has.o Try.func74) (.r (.g (.r (.ch 5 (Wg_7 l x g gf gl gt al ga nd s1 s2 s3) (put_at (capM 32) l x g (List.length l) oa oa (Wg_8 gf gl gt al ga nd s1 s2 s3)) (.g (.r (.y 1 (AV.bool ((putE (capM 32) l x) == 0)) (AV.bool false) (Yes.bool (h)) (.g (.no (.r (.g (.f 6 (AV.int .i64 (putE (capM 32) l x)) (.e (AV.int .i64 (putE (capM 32) l x)))))))))))))))
def setA (l : List Entry) (x : Entry) (al : List Key) : List Key := if (putE (capM 32) l x == 0) = true then al ++ [x.card.key] else al
def setG (l : List Entry) (x : Entry) (ga : Nat) : Nat := if (putE (capM 32) l x == 0) = true then ga + 1 + 1 else ga
theorem dset_spec (l : List Entry) (g : Nat) (al : List Key) (ga : Nat) (gf gl gt nd s1 s2 s3 : Int) (x : Entry) (hl : l.length < 1000) (ha : al.length < 100000) : ACalls Try.prog 74 [(.obj 5 0 0 0), (.agg (Entry.row x))] ([⟨0, 2, [[(.int .i64 (capM 32)), (.osl 1 g 10 0 (List.length l))]], none⟩, ⟨g, 10, (List.map Entry.row l), none⟩, ⟨0, 3, [[(.int .i64 gf), (.int .i64 gl), (.int .i64 gt)]], none⟩, ⟨0, 2, [[(.int .i64 (((List.length al) : Nat) : Int)), (.osl 4 ga 2 0 (List.length (recL al)))]], none⟩, ⟨ga, 2, (List.map Key.row (recL al)), none⟩, ⟨0, 7, [[(.int .i64 nd), (.int .i64 s1), (.int .i64 s2), (.int .i64 s3), (.obj 0 0 0 0), (.obj 2 0 0 0), (.obj 3 0 0 0)]], none⟩] : Heap) ((AV.int .i64 (putE (capM 32) l x)), ([⟨0, 2, [[(.int .i64 (capM 32)), (.osl 1 (putG (capM 32) l x g) 10 0 (List.length (putL (capM 32) l x)))]], none⟩, ⟨(putG (capM 32) l x g), 10, (List.map Entry.row (putL (capM 32) l x)), none⟩, ⟨0, 3, [[(.int .i64 gf), (.int .i64 gl), (.int .i64 gt)]], none⟩, ⟨0, 2, [[(.int .i64 (((List.length (setA l x al)) : Nat) : Int)), (.osl 4 (setG l x ga) 2 0 (List.length (recL (setA l x al))))]], none⟩, ⟨(setG l x ga), 2, (List.map Key.row (recL (setA l x al))), none⟩, ⟨0, 7, [[(.int .i64 nd), (.int .i64 s1), (.int .i64 s2), (.int .i64 s3), (.obj 0 0 0 0), (.obj 2 0 0 0), (.obj 3 0 0 0)]], none⟩] : Heap)) := by
  cases h : (putE (capM 32) l x == 0) with
  | true => unfold setA setG; rw [if_pos h, if_pos h]; exact dsetY_spec l g al ga gf gl gt nd s1 s2 s3 x hl ha h
  | false => unfold setA setG; rw [if_neg (by rw [h]; simp), if_neg (by rw [h]; simp)]; exact dsetN_spec l g al ga gf gl gt nd s1 s2 s3 x hl ha h
theorem dset_at (l : List Entry) (g : Nat) (al : List Key) (ga : Nat) (gf gl gt nd s1 s2 s3 : Int) (x : Entry) (hl : l.length < 1000) (ha : al.length < 100000) (H : Heap) : ACalls Try.prog 74 [(.obj 5 0 0 0), (.agg (Entry.row x))] ((Wg_2 g l gf gl gt al ga nd s1 s2 s3) ++ H) ((AV.int .i64 (putE (capM 32) l x)), ([⟨0, 2, [[(.int .i64 (capM 32)), (.osl 1 (putG (capM 32) l x g) 10 0 (List.length (putL (capM 32) l x)))]], none⟩, ⟨(putG (capM 32) l x g), 10, (List.map Entry.row (putL (capM 32) l x)), none⟩, ⟨0, 3, [[(.int .i64 gf), (.int .i64 gl), (.int .i64 gt)]], none⟩, ⟨0, 2, [[(.int .i64 (((List.length (setA l x al)) : Nat) : Int)), (.osl 4 (setG l x ga) 2 0 (List.length (recL (setA l x al))))]], none⟩, ⟨(setG l x ga), 2, (List.map Key.row (recL (setA l x al))), none⟩, ⟨0, 7, [[(.int .i64 nd), (.int .i64 s1), (.int .i64 s2), (.int .i64 s3), (.obj 0 0 0 0), (.obj 2 0 0 0), (.obj 3 0 0 0)]], none⟩] : Heap) ++ H) := (dset_spec l g al ga gf gl gt nd s1 s2 s3 x hl ha).ext kr kr ob ob kr H
end Go.Proofs.Ytcmfnfkahdconaa.AM

set_option maxRecDepth 100000
set_option linter.unusedVariables false
set_option linter.unusedSimpArgs false
namespace Go.Proofs.Ytcmfnfkahdconaa.AM
open Go Go.Proofs.Ytcmfnfkahdconaa
attribute [local irreducible] ACalls funT codeT codeQ LoopTo
attribute [local irreducible] hasK lastsK okS sinceK findP findB putL putE putG dropL getE liveL capM seenK sealB ofB sortP hereL sortK Tp.card Tp.cardT Tp.next Tp.step recL nameB stR cardR cmpSt
@[simp] abbrev Wj_1  : Heap := [⟨0, 2, [[(AV.int .i64 (capM 32)), (AV.sl .any 10 (List.map Entry.row []))]], none⟩]
@[simp] abbrev Wj_o1 (v1_ : List Entry) : Ob := ⟨0, 2, [[(AV.int .i64 (capM 32)), (AV.sl .any 10 (List.map Entry.row v1_))]], none⟩
@[simp] abbrev Wj_o2 (v1_ : Int) (v2_ : Int) (v3_ : Int) : Ob := ⟨0, 3, [[(AV.int .i64 v1_), (AV.int .i64 v2_), (AV.int .i64 v3_)]], none⟩
@[simp] abbrev Wj_o3 (v1_ : List Key) : Ob := ⟨0, 1, [[(AV.sl .any 2 (List.map Key.row v1_))]], none⟩
@[simp] abbrev Wj_o4 (v1_ : Int) (v2_ : Int) (v3_ : Int) : Ob := ⟨0, 6, [[(AV.obj 0 0 0 0), (AV.obj 1 0 0 0), (AV.obj 2 0 0 0), (AV.int .i64 v1_), (AV.int .i64 v2_), (AV.int .i64 v3_)]], none⟩
@[simp] abbrev Wj_2 (v1_ : List Entry) (v2_ : Int) (v3_ : Int) (v4_ : Int) (v5_ : List Key) (v6_ : Int) (v7_ : Int) (v8_ : Int) : Heap := [Wj_o1 v1_, Wj_o2 v2_ v3_ v4_, Wj_o3 v5_, Wj_o4 v6_ v7_ v8_]
@[simp] abbrev Wj_o5 (v1_ : List Entry) (v2_ : Entry) : Ob := ⟨0, 2, [[(AV.int .i64 (capM 32)), (AV.sl .any 10 (List.map Entry.row (putL (capM 32) v1_ v2_)))]], none⟩
@[simp] abbrev Wj_3 (v1_ : List Entry) (v2_ : Entry) (v3_ : Int) (v4_ : Int) (v5_ : Int) (v6_ : List Key) (v7_ : Int) (v8_ : Int) (v9_ : Int) : Heap := [Wj_o5 v1_ v2_, Wj_o2 v3_ v4_ v5_, ⟨0, 1, [[(AV.sl .any 2 (List.map Key.row (v6_ ++ [v2_.card.key])))]], none⟩, Wj_o4 v7_ v8_ v9_]
@[simp] abbrev Wj_4 (v1_ : List Entry) (v2_ : Entry) (v3_ : Int) (v4_ : Int) (v5_ : Int) (v6_ : List Key) (v7_ : Int) (v8_ : Int) (v9_ : Int) : Heap := [Wj_o5 v1_ v2_, Wj_o2 v3_ v4_ v5_, Wj_o3 v6_, Wj_o4 v7_ v8_ v9_]
@[simp] abbrev Wj_5 (v1_ : Int) (v2_ : Int) (v3_ : Int) (v4_ : List Key) (v5_ : Int) (v6_ : Int) (v7_ : Int) : Heap := [Wj_o2 v1_ v2_ v3_, Wj_o3 v4_, Wj_o4 v5_ v6_ v7_]
theorem setA_len (l : List Entry) (x : Entry) (al : List Key) : (setA l x al).length ≤ al.length + 1 := by
  unfold setA; split
  · simp
  · omega
attribute [local irreducible] setA setG
def into_ann : Ann := { gh := [(18, .frz 8)], gha := [(4, .vir 8 9), (17, .cut 7)], base := 6, fin := some 6, live := [(7, [0, 2, 8, 9, 19, 20, 21])], out := [(7, [0, 2, 8, 9, 19, 20, 21])] }
@[simp] abbrev Wj_6 (v1_ : Int) (v2_ : Nat) (v3_ : Nat) (v4_ : Nat) (v5_ : List Card) (v6_ : Nat) : Fr := (mkF 82 [(0, (AV.obj 5 0 0 0)), (2, (AV.int .i64 (hold40 v1_))), (8, (AV.osl 6 v2_ 9 0 v3_)), (9, (AV.int .i64 ((v4_ : Nat) : Int))), (19, (AV.sl .any 9 (List.map Card.row v5_))), (20, (AV.int .i64 ((v5_.length : Nat) : Int))), (21, (AV.int .i64 ((v6_ + 1 : Nat) : Int)))])
@[simp] abbrev Wj_o6 (v1_ : Nat) (v2_ : List Entry) : Ob := ⟨0, 2, [[(AV.int .i64 (capM 32)), (AV.osl 1 v1_ 10 0 (List.length v2_))]], none⟩
@[simp] abbrev Wj_o7 (v1_ : List Key) (v2_ : Nat) : Ob := ⟨0, 2, [[(AV.int .i64 (((List.length v1_) : Nat) : Int)), (AV.osl 4 v2_ 2 0 (List.length (recL v1_)))]], none⟩
@[simp] abbrev Wj_o8 (v1_ : Int) (v2_ : Int) (v3_ : Int) (v4_ : Int) : Ob := ⟨0, 7, [[(AV.int .i64 v1_), (AV.int .i64 v2_), (AV.int .i64 v3_), (AV.int .i64 v4_), (AV.obj 0 0 0 0), (AV.obj 2 0 0 0), (AV.obj 3 0 0 0)]], none⟩
@[simp] abbrev Wj_7 (v1_ : Nat) (v2_ : List Entry) (v3_ : Int) (v4_ : Int) (v5_ : Int) (v6_ : List Key) (v7_ : Nat) (v8_ : Int) (v9_ : Int) (v10_ : Int) (v11_ : Int) (v12_ : Nat) (v13_ : List Card) : Heap := [Wj_o6 v1_ v2_, ⟨v1_, 10, (List.map Entry.row v2_), none⟩, Wj_o2 v3_ v4_ v5_, Wj_o7 v6_ v7_, ⟨v7_, 2, (List.map Key.row (recL v6_)), none⟩, Wj_o8 v8_ v9_ v10_ v11_, ⟨v12_, 9, (List.map Card.row v13_), none⟩]
@[simp] abbrev Wj_8 (v1_ : Int) (v2_ : Nat) (v3_ : Nat) (v4_ : Nat) (v5_ : List Card) (v6_ : Nat) : Fr := (mkF 82 [(0, (AV.obj 5 0 0 0)), (2, (AV.int .i64 (hold40 v1_))), (8, (AV.osl 6 v2_ 9 0 v3_)), (9, (AV.int .i64 ((v4_ + 1 : Nat) : Int))), (19, (AV.sl .any 9 (List.map Card.row v5_))), (20, (AV.int .i64 ((v5_.length : Nat) : Int))), (21, (AV.int .i64 ((v6_ + 1 : Nat) : Int)))])
@[simp] abbrev Wj_o9 (v1_ : List Entry) (v2_ : List Card) (v3_ : Nat) (v4_ : Int) (v5_ : Nat) : Ob := ⟨0, 2, [[(AV.int .i64 (capM 32)), (AV.osl 1 (putG (capM 32) v1_ (Entry.mk (nth v2_ v3_) (hold40 v4_)) v5_) 10 0 (List.length (putL (capM 32) v1_ (Entry.mk (nth v2_ v3_) (hold40 v4_)))))]], none⟩
@[simp] abbrev Wj_o10 (v1_ : List Entry) (v2_ : List Card) (v3_ : Nat) (v4_ : Int) (v5_ : Nat) : Ob := ⟨(putG (capM 32) v1_ (Entry.mk (nth v2_ v3_) (hold40 v4_)) v5_), 10, (List.map Entry.row (putL (capM 32) v1_ (Entry.mk (nth v2_ v3_) (hold40 v4_)))), none⟩
@[simp] abbrev Wj_o11 (v1_ : List Entry) (v2_ : List Card) (v3_ : Nat) (v4_ : Int) (v5_ : List Key) (v6_ : Nat) : Ob := ⟨0, 2, [[(AV.int .i64 (((List.length (setA v1_ (Entry.mk (nth v2_ v3_) (hold40 v4_)) v5_)) : Nat) : Int)), (AV.osl 4 (setG v1_ (Entry.mk (nth v2_ v3_) (hold40 v4_)) v6_) 2 0 (List.length (recL (setA v1_ (Entry.mk (nth v2_ v3_) (hold40 v4_)) v5_))))]], none⟩
@[simp] abbrev Wj_o12 (v1_ : List Entry) (v2_ : List Card) (v3_ : Nat) (v4_ : Int) (v5_ : Nat) (v6_ : List Key) : Ob := ⟨(setG v1_ (Entry.mk (nth v2_ v3_) (hold40 v4_)) v5_), 2, (List.map Key.row (recL (setA v1_ (Entry.mk (nth v2_ v3_) (hold40 v4_)) v6_))), none⟩
@[simp] abbrev Wj_9 (v1_ : List Entry) (v2_ : List Card) (v3_ : Nat) (v4_ : Int) (v5_ : Nat) (v6_ : Int) (v7_ : Int) (v8_ : Int) (v9_ : List Key) (v10_ : Nat) (v11_ : Int) (v12_ : Int) (v13_ : Int) (v14_ : Int) (v15_ : Nat) (v16_ : List Card) : Heap := [Wj_o9 v1_ v2_ v3_ v4_ v5_, Wj_o10 v1_ v2_ v3_ v4_ v5_, Wj_o2 v6_ v7_ v8_, Wj_o11 v1_ v2_ v3_ v4_ v9_ v10_, Wj_o12 v1_ v2_ v3_ v4_ v10_ v9_, Wj_o8 v11_ v12_ v13_ v14_, ⟨v15_, 9, (List.map Card.row v16_), none⟩]
@[simp] abbrev Wj_10 (v1_ : Int) (v2_ : Nat) (v3_ : Nat) (v4_ : Nat) (v5_ : List Card) (v6_ : Nat) : Fr := (mkF 82 [(0, (AV.obj 5 0 0 0)), (2, (AV.int .i64 (hold40 v1_))), (8, (AV.osl 6 (v2_ + 1) 9 0 (v3_ + 1))), (9, (AV.int .i64 ((v4_ : Nat) : Int))), (19, (AV.sl .any 9 (List.map Card.row v5_))), (20, (AV.int .i64 ((v5_.length : Nat) : Int))), (21, (AV.int .i64 ((v6_ + 1 : Nat) : Int)))])
@[simp] abbrev Wj_o13 (v1_ : Nat) (v2_ : List Card) (v3_ : List Card) (v4_ : Nat) : Ob := ⟨(v1_ + 1), 9, (List.map Card.row (v2_ ++ [(nth v3_ v4_)])), none⟩
@[simp] abbrev Wj_11 (v1_ : List Entry) (v2_ : List Card) (v3_ : Nat) (v4_ : Int) (v5_ : Nat) (v6_ : Int) (v7_ : Int) (v8_ : Int) (v9_ : List Key) (v10_ : Nat) (v11_ : Int) (v12_ : Int) (v13_ : Int) (v14_ : Int) (v15_ : Nat) (v16_ : List Card) : Heap := [Wj_o9 v1_ v2_ v3_ v4_ v5_, Wj_o10 v1_ v2_ v3_ v4_ v5_, Wj_o2 v6_ v7_ v8_, Wj_o11 v1_ v2_ v3_ v4_ v9_ v10_, Wj_o12 v1_ v2_ v3_ v4_ v10_ v9_, Wj_o8 v11_ v12_ v13_ v14_, Wj_o13 v15_ v16_ v2_ v3_]
@[simp] abbrev Wj_12 (v1_ : List Entry) (v2_ : List Card) (v3_ : Nat) (v4_ : Int) (v5_ : Nat) (v6_ : Int) (v7_ : Int) (v8_ : Int) (v9_ : List Key) (v10_ : Nat) (v11_ : Int) (v12_ : Int) (v13_ : Int) (v14_ : Int) (v15_ : Nat) (v16_ : List Card) : Heap := [⟨0, 2, [[(AV.int .i64 (capM 32)), (AV.osl 1 (putG (capM 32) v1_ (Entry.mk (getE v1_ (nth v2_ v3_).key).card (hold40 v4_)) v5_) 10 0 (List.length (putL (capM 32) v1_ (Entry.mk (getE v1_ (nth v2_ v3_).key).card (hold40 v4_)))))]], none⟩, ⟨(putG (capM 32) v1_ (Entry.mk (getE v1_ (nth v2_ v3_).key).card (hold40 v4_)) v5_), 10, (List.map Entry.row (putL (capM 32) v1_ (Entry.mk (getE v1_ (nth v2_ v3_).key).card (hold40 v4_)))), none⟩, Wj_o2 v6_ v7_ v8_, Wj_o7 v9_ v10_, ⟨v10_, 2, (List.map Key.row (recL v9_)), none⟩, Wj_o8 v11_ v12_ v13_ v14_, ⟨v15_, 9, (List.map Card.row v16_), none⟩]
@[simp] abbrev Wj_13 (v1_ : Int) (v2_ : Nat) (v3_ : Nat) (v4_ : Nat) (v5_ : List Card) (v6_ : Nat) : Fr := (mkF 82 [(0, (AV.obj 5 0 0 0)), (2, (AV.int .i64 (hold40 v1_))), (8, (AV.osl 6 v2_ 9 0 v3_)), (9, (AV.int .i64 ((v4_ : Nat) : Int))), (19, (AV.sl .any 9 (List.map Card.row v5_))), (20, (AV.int .i64 ((v5_.length : Nat) : Int))), (21, (AV.int .i64 ((v6_ : Nat) : Int)))])
@[simp] abbrev Wj_14 (v1_ : Nat) (v2_ : List Entry) (v3_ : Int) (v4_ : Int) (v5_ : Int) (v6_ : List Key) (v7_ : Nat) (v8_ : Int) (v9_ : Int) (v10_ : Int) (v11_ : Int) (v12_ : Nat) (v13_ : List Card) (v14_ : List Card) (v15_ : Nat) : Heap := [Wj_o6 v1_ v2_, ⟨v1_, 10, (List.map Entry.row v2_), none⟩, Wj_o2 v3_ v4_ v5_, Wj_o7 v6_ v7_, ⟨v7_, 2, (List.map Key.row (recL v6_)), none⟩, Wj_o8 v8_ v9_ v10_ v11_, ⟨v12_, 9, (List.map Card.row v13_), none⟩, ⟨0, 9, [(Card.row (nth v14_ v15_))], none⟩]
@[simp] abbrev Wj_15 (v1_ : Nat) (v2_ : List Entry) (v3_ : Int) (v4_ : Int) (v5_ : Int) (v6_ : List Key) (v7_ : Nat) (v8_ : Int) (v9_ : Int) (v10_ : Int) (v11_ : Int) (v12_ : Nat) (v13_ : List Card) (v14_ : List Card) (v15_ : Nat) : Heap := [Wj_o6 v1_ v2_, ⟨v1_, 10, (List.map Entry.row v2_), none⟩, Wj_o2 v3_ v4_ v5_, Wj_o7 v6_ v7_, ⟨v7_, 2, (List.map Key.row (recL v6_)), none⟩, Wj_o8 v8_ v9_ v10_ v11_, ⟨v12_, 9, (List.map Card.row v13_), none⟩, ⟨0, 9, [(Card.row (nth v14_ v15_))], none⟩, ⟨0, 10, [[(AV.str ⟨#[]⟩), (AV.str ⟨#[]⟩), (AV.int .i64 0), (AV.int .i64 0), (AV.int .i64 0), (AV.int .i64 0), (AV.int .i64 0), (AV.int .i64 0), (AV.bool false), (AV.int .i64 0)]], none⟩]
@[simp] abbrev Wj_o14 (v1_ : List Entry) (v2_ : List Card) (v3_ : Nat) : Ob := ⟨0, 10, [(Entry.row (getE v1_ (nth v2_ v3_).key))], none⟩
@[simp] abbrev Wj_16 (v1_ : List Entry) (v2_ : List Card) (v3_ : Nat) (v4_ : Int) (v5_ : Nat) (v6_ : Int) (v7_ : Int) (v8_ : Int) (v9_ : List Key) (v10_ : Nat) (v11_ : Int) (v12_ : Int) (v13_ : Int) (v14_ : Int) (v15_ : Nat) (v16_ : List Card) : Heap := [Wj_o9 v1_ v2_ v3_ v4_ v5_, Wj_o10 v1_ v2_ v3_ v4_ v5_, Wj_o2 v6_ v7_ v8_, Wj_o11 v1_ v2_ v3_ v4_ v9_ v10_, Wj_o12 v1_ v2_ v3_ v4_ v10_ v9_, Wj_o8 v11_ v12_ v13_ v14_, ⟨v15_, 9, (List.map Card.row v16_), none⟩, ⟨0, 9, [(Card.row (nth v2_ v3_))], none⟩, Wj_o14 v1_ v2_ v3_]
@[simp] abbrev Wj_17 (v1_ : Nat) (v2_ : List Card) (v3_ : List Card) (v4_ : Nat) (v5_ : List Entry) : Heap := [⟨v1_, 9, (List.map Card.row v2_), none⟩, ⟨0, 9, [(Card.row (nth v3_ v4_))], none⟩, Wj_o14 v5_ v3_ v4_]
@[simp] abbrev Wj_18 (v1_ : List Entry) (v2_ : List Card) (v3_ : Nat) (v4_ : Int) (v5_ : Nat) (v6_ : Int) (v7_ : Int) (v8_ : Int) (v9_ : List Key) (v10_ : Nat) (v11_ : Int) (v12_ : Int) (v13_ : Int) (v14_ : Int) (v15_ : Nat) (v16_ : List Card) : Heap := [Wj_o9 v1_ v2_ v3_ v4_ v5_, Wj_o10 v1_ v2_ v3_ v4_ v5_, Wj_o2 v6_ v7_ v8_, Wj_o11 v1_ v2_ v3_ v4_ v9_ v10_, Wj_o12 v1_ v2_ v3_ v4_ v10_ v9_, Wj_o8 v11_ v12_ v13_ v14_, Wj_o13 v15_ v16_ v2_ v3_, ⟨0, 9, [(Card.row (nth v2_ v3_))], none⟩, Wj_o14 v1_ v2_ v3_]
@[simp] abbrev Wj_19 (v1_ : Nat) (v2_ : List Entry) (v3_ : Int) (v4_ : Int) (v5_ : Int) (v6_ : List Key) (v7_ : Nat) (v8_ : Int) (v9_ : Int) (v10_ : Int) (v11_ : Int) (v12_ : Nat) (v13_ : List Card) (v14_ : List Card) (v15_ : Nat) : Heap := [Wj_o6 v1_ v2_, ⟨v1_, 10, (List.map Entry.row v2_), none⟩, Wj_o2 v3_ v4_ v5_, Wj_o7 v6_ v7_, ⟨v7_, 2, (List.map Key.row (recL v6_)), none⟩, Wj_o8 v8_ v9_ v10_ v11_, ⟨v12_, 9, (List.map Card.row v13_), none⟩, ⟨0, 9, [(Card.row (nth v14_ v15_))], none⟩, Wj_o14 v2_ v14_ v15_]
set_option maxRecDepth 100000 in
theorem into_step (q : Nat) (qa : Nat) (cs : List Card) (now : Int) (gf : Int) (gl : Int) (gt : Int) (nd : Int) (s1 : Int) (s2 : Int) (s3 : Int) (l : List Entry) (g : Nat) (al : List Key) (ga : Nat) (out : List Card) (k : Nat) (h : Nat) (rf : Nat) (i : Nat) (hq : q + cs.length < 1000) (hqa : qa + cs.length < 100000) (hk : k = out.length) (hkl : k ≤ i) (hrf : rf ≤ i) (hl : l.length ≤ q + i) (ha : al.length ≤ qa + i) (hle_ : i ≤ cs.length) {eX : Ex} {FX : Fr} {HX : Heap} (k1 : (decide (((i : Nat) : Int) < ((cs.length : Nat) : Int))) = true → (!(cardR (nth cs i))) = true → LoopTo (codeQ Try.prog (X into_ann) (loopOf Try.f33 0)) (some [0, 2, 8, 9, 19, 20, 21]) (some [0, 2, 8, 9, 19, 20, 21]) (Wj_6 now h k rf cs i) (Wj_7 g l gf gl gt al ga nd s1 s2 s3 h out) eX FX HX) (k2 : (decide (((i : Nat) : Int) < ((cs.length : Nat) : Int))) = true → (!(cardR (nth cs i))) = false → (!(findB l (nth cs i).key)) = true → ((putE (capM 32) l (Entry.mk (nth cs i) (hold40 now))) != 0) = true → LoopTo (codeQ Try.prog (X into_ann) (loopOf Try.f33 0)) (some [0, 2, 8, 9, 19, 20, 21]) (some [0, 2, 8, 9, 19, 20, 21]) (Wj_8 now h k rf cs i) (Wj_9 l cs i now g gf gl gt al ga nd s1 s2 s3 h out) eX FX HX) (k3 : (decide (((i : Nat) : Int) < ((cs.length : Nat) : Int))) = true → (!(cardR (nth cs i))) = false → (!(findB l (nth cs i).key)) = true → ((putE (capM 32) l (Entry.mk (nth cs i) (hold40 now))) != 0) = false → LoopTo (codeQ Try.prog (X into_ann) (loopOf Try.f33 0)) (some [0, 2, 8, 9, 19, 20, 21]) (some [0, 2, 8, 9, 19, 20, 21]) (Wj_10 now h k rf cs i) (Wj_11 l cs i now g gf gl gt al ga nd s1 s2 s3 h out) eX FX HX) (k4 : (decide (((i : Nat) : Int) < ((cs.length : Nat) : Int))) = true → (!(cardR (nth cs i))) = false → (!(findB l (nth cs i).key)) = false → (decide (cmpSt (getE l (nth cs i).key).card.stamp (nth cs i).stamp < 0)) = true → ((putE (capM 32) l (Entry.mk (nth cs i) (hold40 now))) != 0) = true → LoopTo (codeQ Try.prog (X into_ann) (loopOf Try.f33 0)) (some [0, 2, 8, 9, 19, 20, 21]) (some [0, 2, 8, 9, 19, 20, 21]) (Wj_8 now h k rf cs i) (Wj_9 l cs i now g gf gl gt al ga nd s1 s2 s3 h out) eX FX HX) (k5 : (decide (((i : Nat) : Int) < ((cs.length : Nat) : Int))) = true → (!(cardR (nth cs i))) = false → (!(findB l (nth cs i).key)) = false → (decide (cmpSt (getE l (nth cs i).key).card.stamp (nth cs i).stamp < 0)) = true → ((putE (capM 32) l (Entry.mk (nth cs i) (hold40 now))) != 0) = false → LoopTo (codeQ Try.prog (X into_ann) (loopOf Try.f33 0)) (some [0, 2, 8, 9, 19, 20, 21]) (some [0, 2, 8, 9, 19, 20, 21]) (Wj_10 now h k rf cs i) (Wj_11 l cs i now g gf gl gt al ga nd s1 s2 s3 h out) eX FX HX) (k6 : (decide (((i : Nat) : Int) < ((cs.length : Nat) : Int))) = true → (!(cardR (nth cs i))) = false → (!(findB l (nth cs i).key)) = false → (decide (cmpSt (getE l (nth cs i).key).card.stamp (nth cs i).stamp < 0)) = false → (Stamp.eqb (getE l (nth cs i).key).card.stamp (nth cs i).stamp) = true → (!(getE l (nth cs i).key).card.gone) = true → LoopTo (codeQ Try.prog (X into_ann) (loopOf Try.f33 0)) (some [0, 2, 8, 9, 19, 20, 21]) (some [0, 2, 8, 9, 19, 20, 21]) (Wj_6 now h k rf cs i) (Wj_12 l cs i now g gf gl gt al ga nd s1 s2 s3 h out) eX FX HX) (k7 : (decide (((i : Nat) : Int) < ((cs.length : Nat) : Int))) = true → (!(cardR (nth cs i))) = false → (!(findB l (nth cs i).key)) = false → (decide (cmpSt (getE l (nth cs i).key).card.stamp (nth cs i).stamp < 0)) = false → (Stamp.eqb (getE l (nth cs i).key).card.stamp (nth cs i).stamp) = true → (!(getE l (nth cs i).key).card.gone) = false → LoopTo (codeQ Try.prog (X into_ann) (loopOf Try.f33 0)) (some [0, 2, 8, 9, 19, 20, 21]) (some [0, 2, 8, 9, 19, 20, 21]) (Wj_6 now h k rf cs i) (Wj_7 g l gf gl gt al ga nd s1 s2 s3 h out) eX FX HX) (k8 : (decide (((i : Nat) : Int) < ((cs.length : Nat) : Int))) = true → (!(cardR (nth cs i))) = false → (!(findB l (nth cs i).key)) = false → (decide (cmpSt (getE l (nth cs i).key).card.stamp (nth cs i).stamp < 0)) = false → (Stamp.eqb (getE l (nth cs i).key).card.stamp (nth cs i).stamp) = false → LoopTo (codeQ Try.prog (X into_ann) (loopOf Try.f33 0)) (some [0, 2, 8, 9, 19, 20, 21]) (some [0, 2, 8, 9, 19, 20, 21]) (Wj_6 now h k rf cs i) (Wj_7 g l gf gl gt al ga nd s1 s2 s3 h out) eX FX HX) (k9 : (decide (((i : Nat) : Int) < ((cs.length : Nat) : Int))) = false → ((.exit 0 : Ex), (Wj_13 now h k rf cs i), (Wj_7 g l gf gl gt al ga nd s1 s2 s3 h out)) = (eX, FX, HX)) : LoopTo (codeQ Try.prog (X into_ann) (loopOf Try.f33 0)) (some [0, 2, 8, 9, 19, 20, 21]) (some [0, 2, 8, 9, 19, 20, 21]) (Wj_13 now h k rf cs i) (Wj_7 g l gf gl gt al ga nd s1 s2 s3 h out) eX FX HX := by
  have p1 := putL_len (capM 32) l ⟨nth cs i, hold40 now⟩
  have p2 := setA_len l ⟨nth cs i, hold40 now⟩ al
  have p3 := putL_len (capM 32) l ⟨(getE l (nth cs i).key).card, hold40 now⟩
  exact stepO (.r (.g (.two (decide (((i : Nat) : Int) < ((cs.length : Nat) : Int))) (fun h1 h1' => (.r (.h' ([⟨0, 2, [[(AV.int .i64 (capM 32)), (AV.osl 1 g 10 0 (List.length l))]], none⟩, ⟨g, 10, (List.map Entry.row l), none⟩, ⟨0, 3, [[(AV.int .i64 gf), (AV.int .i64 gl), (AV.int .i64 gt)]], none⟩, ⟨0, 2, [[(AV.int .i64 (((List.length al) : Nat) : Int)), (AV.osl 4 ga 2 0 (List.length (recL al)))]], none⟩, ⟨ga, 2, (List.map Key.row (recL al)), none⟩, ⟨0, 7, [[(AV.int .i64 nd), (AV.int .i64 s1), (AV.int .i64 s2), (AV.int .i64 s3), (AV.obj 0 0 0 0), (AV.obj 2 0 0 0), (AV.obj 3 0 0 0)]], none⟩, ⟨h, 9, (List.map Card.row out), none⟩, ⟨0, 9, [[(AV.str ⟨#[]⟩), (AV.str ⟨#[]⟩), (AV.int .i64 0), (AV.int .i64 0), (AV.int .i64 0), (AV.int .i64 0), (AV.int .i64 0), (AV.int .i64 0), (AV.bool false)]], none⟩] : Heap) (.is 0 9 9 (List.map Card.row cs) ((i : Nat) : Int) (Card.row (nth cs i)) (IdxSl.mk _ ow ow) (.g (.r (.c 1 (cright_at (nth cs i)  (Wj_14 g l gf gl gt al ga nd s1 s2 s3 h out cs i)) (.g (.two (!(cardR (nth cs i))) (fun h2 h2' => (.r (.h' (Wj_14 g l gf gl gt al ga nd s1 s2 s3 h out cs i) (.y 0 (.int .i64 (IntKind.i64.wrap (((i : Nat) : Int) + 1))) (AV.int .i64 ((i + 1 : Nat) : Int)) (Yes.add ow ow ow) (.h' (Wj_7 g l gf gl gt al ga nd s1 s2 s3 h out) (.b 7 (.g (.l (k1 h1 h2))))))))) (fun h2 h2' => (.r (.c 1 (ACalls.put2 [0, 1, 2, 3, 4, 5] (Wj_15 g l gf gl gt al ga nd s1 s2 s3 h out cs i) (AV.obj 0 0 0 0) (Wj_15 g l gf gl gt al ga nd s1 s2 s3 h out cs i) (dshelf_spec l g al ga gf gl gt nd s1 s2 s3 ) (⟨rfl, ⟨Ob.ren0 (Entry.rows_bdd 0 _), ⟨rfl, ⟨rfl, ⟨Ob.ren0 (Key.rows_bdd 0 _), ⟨rfl, trivial⟩⟩⟩⟩⟩⟩) (⟨rfl, ⟨Ob.ren0 (Entry.rows_bdd 0 _), ⟨rfl, ⟨rfl, ⟨Ob.ren0 (Key.rows_bdd 0 _), ⟨rfl, trivial⟩⟩⟩⟩⟩⟩)) (.c 4 (get_at (capM 32) l (nth cs i).key g (List.length l) oa oa ([⟨0, 3, [[(AV.int .i64 gf), (AV.int .i64 gl), (AV.int .i64 gt)]], none⟩, ⟨0, 2, [[(AV.int .i64 (((List.length al) : Nat) : Int)), (AV.osl 4 ga 2 0 (List.length (recL al)))]], none⟩, ⟨ga, 2, (List.map Key.row (recL al)), none⟩, ⟨0, 7, [[(AV.int .i64 nd), (AV.int .i64 s1), (AV.int .i64 s2), (AV.int .i64 s3), (AV.obj 0 0 0 0), (AV.obj 2 0 0 0), (AV.obj 3 0 0 0)]], none⟩, ⟨h, 9, (List.map Card.row out), none⟩, ⟨0, 9, [(Card.row (nth cs i))], none⟩, ⟨0, 10, [[(AV.str ⟨#[]⟩), (AV.str ⟨#[]⟩), (AV.int .i64 0), (AV.int .i64 0), (AV.int .i64 0), (AV.int .i64 0), (AV.int .i64 0), (AV.int .i64 0), (AV.bool false), (AV.int .i64 0)]], none⟩] : Heap)) (.rd (AV.agg (Key.row (nth cs i).key)) (Wj_15 g l gf gl gt al ga nd s1 s2 s3 h out cs i) (.g (.r (.two (!(findB l (nth cs i).key)) (fun h3 h3' => (.yes (.yes (.yes (.yes (.yes (.g (.yes (.r (.ch 4 (Wj_16 l cs i now g gf gl gt al ga nd s1 s2 s3 h out) (ACalls.pre (args' := [(AV.obj 5 0 0 0), (AV.agg [(AV.str (nth cs i).key.app), (AV.str (nth cs i).key.id), (AV.int .i64 (nth cs i).status), (AV.int .i64 (nth cs i).over), (AV.int .i64 (nth cs i).lease), (AV.int .i64 (nth cs i).stamp.t), (AV.int .i64 (nth cs i).stamp.node), (AV.int .i64 (nth cs i).stamp.n), (AV.bool (nth cs i).gone), (AV.int .i64 (hold40 now))])]) (dset_at l g al ga gf gl gt nd s1 s2 s3 (Entry.mk (nth cs i) (hold40 now)) oa oa (Wj_17 h out cs i l)) ⟨AV.wk_refl_any _, AV.wk_refl_any _, trivial⟩) (.g (.two ((putE (capM 32) l (Entry.mk (nth cs i) (hold40 now))) != 0) (fun h4 h4' => (.r (.y 1 (.int .i64 (IntKind.i64.wrap (((rf : Nat) : Int) + 1))) (AV.int .i64 ((rf + 1 : Nat) : Int)) (Yes.add ow ow ow) (.g (.r (.y 0 (.int .i64 (IntKind.i64.wrap (((i : Nat) : Int) + 1))) (AV.int .i64 ((i + 1 : Nat) : Int)) (Yes.add ow ow ow) (.h' (Wj_9 l cs i now g gf gl gt al ga nd s1 s2 s3 h out) (.b 7 (.g (.l (k2 h1 h2 h3 h4))))))))))) (fun h4 h4' => (.r (.ap 3 33 (AV.osl 6 h 9 0 k) (AV.sl .clip 9 [(Card.row (nth cs i))]) (AV.osl 6 (h + 1) 9 0 (k + 1)) (Wj_18 l cs i now g gf gl gt al ga nd s1 s2 s3 h out) (evAppend_one (row := Card.row) (l := out) (x := (nth cs i)) (T := tt) (e := 58) (te := { d := .struct [(31, 0), (3, 2), (3, 3), (2, 4), (56, 5), (4, 8)], size := 9, bytes := 88, zero := [.str ⟨#[]⟩, .str ⟨#[]⟩, .int .i64 0, .int .i64 0, .int .i64 0, .int .i64 0, .int .i64 0, .int .i64 0, .bool false] }) (z := 1) (b := 24) (y := [.sl .nil 0 []]) kr kr rfl (by decide) (by decide) kr (by first | assumption | omega | (simp; done) | (simp; omega)) rfl rfl (by first | omega | (show _ * 88 ≤ _; omega) | (simp; omega))) (.g (.r (.y 0 (.int .i64 (IntKind.i64.wrap (((i : Nat) : Int) + 1))) (AV.int .i64 ((i + 1 : Nat) : Int)) (Yes.add ow ow ow) (.h' (Wj_11 l cs i now g gf gl gt al ga nd s1 s2 s3 h out) (.b 7 (.g (.l (k3 h1 h2 h3 h4))))))))))))))))))))))) (fun h3 h3' => (.no (.no (.no (.no (.no (.c 8 (stLess_at (getE l (nth cs i).key).card.stamp (nth cs i).stamp  (Wj_19 g l gf gl gt al ga nd s1 s2 s3 h out cs i)) (.g (.two (decide (cmpSt (getE l (nth cs i).key).card.stamp (nth cs i).stamp < 0)) (fun h4 h4' => (.r (.ch 4 (Wj_16 l cs i now g gf gl gt al ga nd s1 s2 s3 h out) (ACalls.pre (args' := [(AV.obj 5 0 0 0), (AV.agg [(AV.str (nth cs i).key.app), (AV.str (nth cs i).key.id), (AV.int .i64 (nth cs i).status), (AV.int .i64 (nth cs i).over), (AV.int .i64 (nth cs i).lease), (AV.int .i64 (nth cs i).stamp.t), (AV.int .i64 (nth cs i).stamp.node), (AV.int .i64 (nth cs i).stamp.n), (AV.bool (nth cs i).gone), (AV.int .i64 (hold40 now))])]) (dset_at l g al ga gf gl gt nd s1 s2 s3 (Entry.mk (nth cs i) (hold40 now)) oa oa (Wj_17 h out cs i l)) ⟨AV.wk_refl_any _, AV.wk_refl_any _, trivial⟩) (.g (.two ((putE (capM 32) l (Entry.mk (nth cs i) (hold40 now))) != 0) (fun h5 h5' => (.r (.y 1 (.int .i64 (IntKind.i64.wrap (((rf : Nat) : Int) + 1))) (AV.int .i64 ((rf + 1 : Nat) : Int)) (Yes.add ow ow ow) (.g (.r (.y 0 (.int .i64 (IntKind.i64.wrap (((i : Nat) : Int) + 1))) (AV.int .i64 ((i + 1 : Nat) : Int)) (Yes.add ow ow ow) (.h' (Wj_9 l cs i now g gf gl gt al ga nd s1 s2 s3 h out) (.b 7 (.g (.l (k4 h1 h2 h3 h4 h5))))))))))) (fun h5 h5' => (.r (.ap 3 33 (AV.osl 6 h 9 0 k) (AV.sl .clip 9 [(Card.row (nth cs i))]) (AV.osl 6 (h + 1) 9 0 (k + 1)) (Wj_18 l cs i now g gf gl gt al ga nd s1 s2 s3 h out) (evAppend_one (row := Card.row) (l := out) (x := (nth cs i)) (T := tt) (e := 58) (te := { d := .struct [(31, 0), (3, 2), (3, 3), (2, 4), (56, 5), (4, 8)], size := 9, bytes := 88, zero := [.str ⟨#[]⟩, .str ⟨#[]⟩, .int .i64 0, .int .i64 0, .int .i64 0, .int .i64 0, .int .i64 0, .int .i64 0, .bool false] }) (z := 1) (b := 24) (y := [.sl .nil 0 []]) kr kr rfl (by decide) (by decide) kr (by first | assumption | omega | (simp; done) | (simp; omega)) rfl rfl (by first | omega | (show _ * 88 ≤ _; omega) | (simp; omega))) (.g (.r (.y 0 (.int .i64 (IntKind.i64.wrap (((i : Nat) : Int) + 1))) (AV.int .i64 ((i + 1 : Nat) : Int)) (Yes.add ow ow ow) (.h' (Wj_11 l cs i now g gf gl gt al ga nd s1 s2 s3 h out) (.b 7 (.g (.l (k5 h1 h2 h3 h4 h5)))))))))))))))) (fun h4 h4' => (.r (.two (Stamp.eqb (getE l (nth cs i).key).card.stamp (nth cs i).stamp) (fun h5 h5' => (.yes (.yes (.yes (.g (.two (!(getE l (nth cs i).key).card.gone) (fun h6 h6' => (.r (.c 1 (ACalls.put2 [0, 1, 2, 3, 4, 5] (Wj_19 g l gf gl gt al ga nd s1 s2 s3 h out cs i) (AV.obj 0 0 0 0) (Wj_19 g l gf gl gt al ga nd s1 s2 s3 h out cs i) (dshelf_spec l g al ga gf gl gt nd s1 s2 s3 ) (⟨rfl, ⟨Ob.ren0 (Entry.rows_bdd 0 _), ⟨rfl, ⟨rfl, ⟨Ob.ren0 (Key.rows_bdd 0 _), ⟨rfl, trivial⟩⟩⟩⟩⟩⟩) (⟨rfl, ⟨Ob.ren0 (Entry.rows_bdd 0 _), ⟨rfl, ⟨rfl, ⟨Ob.ren0 (Key.rows_bdd 0 _), ⟨rfl, trivial⟩⟩⟩⟩⟩⟩)) (.ch 6 ([⟨0, 2, [[(AV.int .i64 (capM 32)), (AV.osl 1 (putG (capM 32) l (Entry.mk (getE l (nth cs i).key).card (hold40 now)) g) 10 0 (List.length (putL (capM 32) l (Entry.mk (getE l (nth cs i).key).card (hold40 now)))))]], none⟩, ⟨(putG (capM 32) l (Entry.mk (getE l (nth cs i).key).card (hold40 now)) g), 10, (List.map Entry.row (putL (capM 32) l (Entry.mk (getE l (nth cs i).key).card (hold40 now)))), none⟩, ⟨0, 3, [[(AV.int .i64 gf), (AV.int .i64 gl), (AV.int .i64 gt)]], none⟩, ⟨0, 2, [[(AV.int .i64 (((List.length al) : Nat) : Int)), (AV.osl 4 ga 2 0 (List.length (recL al)))]], none⟩, ⟨ga, 2, (List.map Key.row (recL al)), none⟩, ⟨0, 7, [[(AV.int .i64 nd), (AV.int .i64 s1), (AV.int .i64 s2), (AV.int .i64 s3), (AV.obj 0 0 0 0), (AV.obj 2 0 0 0), (AV.obj 3 0 0 0)]], none⟩, ⟨h, 9, (List.map Card.row out), none⟩, ⟨0, 9, [(Card.row (nth cs i))], none⟩, ⟨0, 10, [(Entry.row (getE l (nth cs i).key))], none⟩] : Heap) (ACalls.pre (args' := [(AV.obj 0 0 0 0), (AV.agg [(AV.str (getE l (nth cs i).key).card.key.app), (AV.str (getE l (nth cs i).key).card.key.id), (AV.int .i64 (getE l (nth cs i).key).card.status), (AV.int .i64 (getE l (nth cs i).key).card.over), (AV.int .i64 (getE l (nth cs i).key).card.lease), (AV.int .i64 (getE l (nth cs i).key).card.stamp.t), (AV.int .i64 (getE l (nth cs i).key).card.stamp.node), (AV.int .i64 (getE l (nth cs i).key).card.stamp.n), (AV.bool (getE l (nth cs i).key).card.gone), (AV.int .i64 (hold40 now))])]) (put_at (capM 32) l (Entry.mk (getE l (nth cs i).key).card (hold40 now)) g (List.length l) oa oa ([⟨0, 3, [[(AV.int .i64 gf), (AV.int .i64 gl), (AV.int .i64 gt)]], none⟩, ⟨0, 2, [[(AV.int .i64 (((List.length al) : Nat) : Int)), (AV.osl 4 ga 2 0 (List.length (recL al)))]], none⟩, ⟨ga, 2, (List.map Key.row (recL al)), none⟩, ⟨0, 7, [[(AV.int .i64 nd), (AV.int .i64 s1), (AV.int .i64 s2), (AV.int .i64 s3), (AV.obj 0 0 0 0), (AV.obj 2 0 0 0), (AV.obj 3 0 0 0)]], none⟩, ⟨h, 9, (List.map Card.row out), none⟩, ⟨0, 9, [(Card.row (nth cs i))], none⟩, ⟨0, 10, [(Entry.row (getE l (nth cs i).key))], none⟩] : Heap)) ⟨AV.wk_refl_any _, AV.wk_refl_any _, trivial⟩) (.rd (AV.agg (Card.row (getE l (nth cs i).key).card)) (Wj_19 g l gf gl gt al ga nd s1 s2 s3 h out cs i) (.g (.r (.y 0 (.int .i64 (IntKind.i64.wrap (((i : Nat) : Int) + 1))) (AV.int .i64 ((i + 1 : Nat) : Int)) (Yes.add ow ow ow) (.h' (Wj_12 l cs i now g gf gl gt al ga nd s1 s2 s3 h out) (.b 7 (.g (.l (k6 h1 h2 h3 h4 h5 h6))))))))))))) (fun h6 h6' => (.r (.h' (Wj_19 g l gf gl gt al ga nd s1 s2 s3 h out cs i) (.y 0 (.int .i64 (IntKind.i64.wrap (((i : Nat) : Int) + 1))) (AV.int .i64 ((i + 1 : Nat) : Int)) (Yes.add ow ow ow) (.h' (Wj_7 g l gf gl gt al ga nd s1 s2 s3 h out) (.b 7 (.g (.l (k7 h1 h2 h3 h4 h5 h6))))))))))))))) (fun h5 h5' => (.no (.no (.no (.g (.no (.r (.h' (Wj_19 g l gf gl gt al ga nd s1 s2 s3 h out cs i) (.y 0 (.int .i64 (IntKind.i64.wrap (((i : Nat) : Int) + 1))) (AV.int .i64 ((i + 1 : Nat) : Int)) (Yes.add ow ow ow) (.h' (Wj_7 g l gf gl gt al ga nd s1 s2 s3 h out) (.b 7 (.g (.l (k8 h1 h2 h3 h4 h5))))))))))))))))))))))))))))))))))))))))))) (fun h1 h1' => (.l (k9 h1))))))
def into_f (q : Nat) (qa : Nat) (cs : List Card) (now : Int) (gf : Int) (gl : Int) (gt : Int) (nd : Int) (s1 : Int) (s2 : Int) (s3 : Int) (i : Nat) (s : (List Entry) × Nat × (List Key) × Nat × (List Card) × Nat × Nat × Nat) : (List Entry) × Nat × (List Key) × Nat × (List Card) × Nat × Nat × Nat := (if (!(cardR (nth cs i))) = true then (s.1, s.2.1, s.2.2.1, s.2.2.2.1, s.2.2.2.2.1, s.2.2.2.2.2.1, s.2.2.2.2.2.2.1, s.2.2.2.2.2.2.2) else (if (!(findB s.1 (nth cs i).key)) = true then (if ((putE (capM 32) s.1 (Entry.mk (nth cs i) (hold40 now))) != 0) = true then (putL (capM 32) s.1 (Entry.mk (nth cs i) (hold40 now)), (putG (capM 32) s.1 (Entry.mk (nth cs i) (hold40 now)) s.2.1), setA s.1 (Entry.mk (nth cs i) (hold40 now)) s.2.2.1, (setG s.1 (Entry.mk (nth cs i) (hold40 now)) s.2.2.2.1), s.2.2.2.2.1, s.2.2.2.2.2.1, s.2.2.2.2.2.2.1, s.2.2.2.2.2.2.2 + 1) else (putL (capM 32) s.1 (Entry.mk (nth cs i) (hold40 now)), (putG (capM 32) s.1 (Entry.mk (nth cs i) (hold40 now)) s.2.1), setA s.1 (Entry.mk (nth cs i) (hold40 now)) s.2.2.1, (setG s.1 (Entry.mk (nth cs i) (hold40 now)) s.2.2.2.1), s.2.2.2.2.1 ++ [(nth cs i)], (s.2.2.2.2.2.1 + 1), (s.2.2.2.2.2.2.1 + 1), s.2.2.2.2.2.2.2)) else (if (decide (cmpSt (getE s.1 (nth cs i).key).card.stamp (nth cs i).stamp < 0)) = true then (if ((putE (capM 32) s.1 (Entry.mk (nth cs i) (hold40 now))) != 0) = true then (putL (capM 32) s.1 (Entry.mk (nth cs i) (hold40 now)), (putG (capM 32) s.1 (Entry.mk (nth cs i) (hold40 now)) s.2.1), setA s.1 (Entry.mk (nth cs i) (hold40 now)) s.2.2.1, (setG s.1 (Entry.mk (nth cs i) (hold40 now)) s.2.2.2.1), s.2.2.2.2.1, s.2.2.2.2.2.1, s.2.2.2.2.2.2.1, s.2.2.2.2.2.2.2 + 1) else (putL (capM 32) s.1 (Entry.mk (nth cs i) (hold40 now)), (putG (capM 32) s.1 (Entry.mk (nth cs i) (hold40 now)) s.2.1), setA s.1 (Entry.mk (nth cs i) (hold40 now)) s.2.2.1, (setG s.1 (Entry.mk (nth cs i) (hold40 now)) s.2.2.2.1), s.2.2.2.2.1 ++ [(nth cs i)], (s.2.2.2.2.2.1 + 1), (s.2.2.2.2.2.2.1 + 1), s.2.2.2.2.2.2.2)) else (if (Stamp.eqb (getE s.1 (nth cs i).key).card.stamp (nth cs i).stamp) = true then (if (!(getE s.1 (nth cs i).key).card.gone) = true then (putL (capM 32) s.1 (Entry.mk (getE s.1 (nth cs i).key).card (hold40 now)), (putG (capM 32) s.1 (Entry.mk (getE s.1 (nth cs i).key).card (hold40 now)) s.2.1), s.2.2.1, s.2.2.2.1, s.2.2.2.2.1, s.2.2.2.2.2.1, s.2.2.2.2.2.2.1, s.2.2.2.2.2.2.2) else (s.1, s.2.1, s.2.2.1, s.2.2.2.1, s.2.2.2.2.1, s.2.2.2.2.2.1, s.2.2.2.2.2.2.1, s.2.2.2.2.2.2.2)) else (s.1, s.2.1, s.2.2.1, s.2.2.2.1, s.2.2.2.2.1, s.2.2.2.2.2.1, s.2.2.2.2.2.2.1, s.2.2.2.2.2.2.2)))))
theorem into_loop (q : Nat) (qa : Nat) (cs : List Card) (now : Int) (gf : Int) (gl : Int) (gt : Int) (nd : Int) (s1 : Int) (s2 : Int) (s3 : Int) (hq : q + cs.length < 1000) (hqa : qa + cs.length < 100000)  (r_ : Nat) : ∀ (l : List Entry) (g : Nat) (al : List Key) (ga : Nat) (out : List Card) (k : Nat) (h : Nat) (rf : Nat) (i : Nat) (sF : (List Entry) × Nat × (List Key) × Nat × (List Card) × Nat × Nat × Nat), i + r_ = cs.length → k = out.length → k ≤ i → rf ≤ i → l.length ≤ q + i → al.length ≤ qa + i → sF = iter (into_f q qa cs now gf gl gt nd s1 s2 s3) r_ i (l, g, al, ga, out, k, h, rf) →
    LoopTo (codeQ Try.prog (X into_ann) (loopOf Try.f33 0)) (some [0, 2, 8, 9, 19, 20, 21]) (some [0, 2, 8, 9, 19, 20, 21]) (Wj_13 now h k rf cs i) (Wj_7 g l gf gl gt al ga nd s1 s2 s3 h out) (.exit 0) (mkF 82 [(0, (.obj 5 0 0 0)), (2, (.int .i64 (hold40 now))), (8, (.osl 6 sF.2.2.2.2.2.2.1 9 0 sF.2.2.2.2.2.1)), (9, (.int .i64 ((sF.2.2.2.2.2.2.2 : Nat) : Int))), (19, (.sl .any 9 (List.map Card.row cs))), (20, (.int .i64 ((cs.length : Nat) : Int))), (21, (.int .i64 ((cs.length : Nat) : Int)))]) ([⟨0, 2, [[(.int .i64 (capM 32)), (.osl 1 sF.2.1 10 0 (List.length sF.1))]], none⟩, ⟨sF.2.1, 10, (List.map Entry.row sF.1), none⟩, ⟨0, 3, [[(.int .i64 gf), (.int .i64 gl), (.int .i64 gt)]], none⟩, ⟨0, 2, [[(.int .i64 (((List.length sF.2.2.1) : Nat) : Int)), (.osl 4 sF.2.2.2.1 2 0 (List.length (recL sF.2.2.1)))]], none⟩, ⟨sF.2.2.2.1, 2, (List.map Key.row (recL sF.2.2.1)), none⟩, ⟨0, 7, [[(.int .i64 nd), (.int .i64 s1), (.int .i64 s2), (.int .i64 s3), (.obj 0 0 0 0), (.obj 2 0 0 0), (.obj 3 0 0 0)]], none⟩, ⟨sF.2.2.2.2.2.2.1, 9, (List.map Card.row sF.2.2.2.2.1), none⟩] : Heap) := by
  induction r_ with
  | zero =>
    intro l g al ga out k h rf i sF hi_ hk hkl hrf hl ha  hF
    obtain rfl : cs.length = i := by omega
    have e_ : sF = (l, g, al, ga, out, k, h, rf) := hF
    refine into_step q qa cs now gf gl gt nd s1 s2 s3 l g al ga out k h rf cs.length hq hqa hk hkl hrf hl ha (Nat.le_refl _) (fun h _ => by simp at h <;> omega) (fun h _ _ _ => by simp at h <;> omega) (fun h _ _ _ => by simp at h <;> omega) (fun h _ _ _ _ => by simp at h <;> omega) (fun h _ _ _ _ => by simp at h <;> omega) (fun h _ _ _ _ _ => by simp at h <;> omega) (fun h _ _ _ _ _ => by simp at h <;> omega) (fun h _ _ _ _ => by simp at h <;> omega) (fun _ => ?_)
    first | done | rfl | (rw [e_]; done) | (rw [e_]; rfl)
  | succ r_ ih =>
    intro l g al ga out k h rf i sF hi_ hk hkl hrf hl ha  hF
    refine into_step q qa cs now gf gl gt nd s1 s2 s3 l g al ga out k h rf i hq hqa hk hkl hrf hl ha ow (fun h1 h2 => ?_) (fun h1 h2 h3 h4 => ?_) (fun h1 h2 h3 h4 => ?_) (fun h1 h2 h3 h4 h5 => ?_) (fun h1 h2 h3 h4 h5 => ?_) (fun h1 h2 h3 h4 h5 h6 => ?_) (fun h1 h2 h3 h4 h5 h6 => ?_) (fun h1 h2 h3 h4 h5 => ?_) (fun h => by simp at h <;> omega)
    · exact ih l g al ga out k h rf (i + 1) sF ow (by have p1 := putL_len (capM 32) l ⟨nth cs i, hold40 now⟩; have p2 := setA_len l ⟨nth cs i, hold40 now⟩ al; have p3 := putL_len (capM 32) l ⟨(getE l (nth cs i).key).card, hold40 now⟩; first | omega | assumption | (simp; done) | (simp; omega) | (simp [*]; done) | (simp [*]; omega)) (by have p1 := putL_len (capM 32) l ⟨nth cs i, hold40 now⟩; have p2 := setA_len l ⟨nth cs i, hold40 now⟩ al; have p3 := putL_len (capM 32) l ⟨(getE l (nth cs i).key).card, hold40 now⟩; first | omega | assumption | (simp; done) | (simp; omega) | (simp [*]; done) | (simp [*]; omega)) (by have p1 := putL_len (capM 32) l ⟨nth cs i, hold40 now⟩; have p2 := setA_len l ⟨nth cs i, hold40 now⟩ al; have p3 := putL_len (capM 32) l ⟨(getE l (nth cs i).key).card, hold40 now⟩; first | omega | assumption | (simp; done) | (simp; omega) | (simp [*]; done) | (simp [*]; omega)) (by have p1 := putL_len (capM 32) l ⟨nth cs i, hold40 now⟩; have p2 := setA_len l ⟨nth cs i, hold40 now⟩ al; have p3 := putL_len (capM 32) l ⟨(getE l (nth cs i).key).card, hold40 now⟩; first | omega | assumption | (simp; done) | (simp; omega) | (simp [*]; done) | (simp [*]; omega)) (by have p1 := putL_len (capM 32) l ⟨nth cs i, hold40 now⟩; have p2 := setA_len l ⟨nth cs i, hold40 now⟩ al; have p3 := putL_len (capM 32) l ⟨(getE l (nth cs i).key).card, hold40 now⟩; first | omega | assumption | (simp; done) | (simp; omega) | (simp [*]; done) | (simp [*]; omega))  (by rw [hF] <;> simp only [iter, into_f, h2, if_true, Bool.false_eq_true, if_false])
    · exact ih (putL (capM 32) l (Entry.mk (nth cs i) (hold40 now))) (putG (capM 32) l (Entry.mk (nth cs i) (hold40 now)) g) (setA l (Entry.mk (nth cs i) (hold40 now)) al) (setG l (Entry.mk (nth cs i) (hold40 now)) ga) out k h (rf + 1) (i + 1) sF ow (by have p1 := putL_len (capM 32) l ⟨nth cs i, hold40 now⟩; have p2 := setA_len l ⟨nth cs i, hold40 now⟩ al; have p3 := putL_len (capM 32) l ⟨(getE l (nth cs i).key).card, hold40 now⟩; first | omega | assumption | (simp; done) | (simp; omega) | (simp [*]; done) | (simp [*]; omega)) (by have p1 := putL_len (capM 32) l ⟨nth cs i, hold40 now⟩; have p2 := setA_len l ⟨nth cs i, hold40 now⟩ al; have p3 := putL_len (capM 32) l ⟨(getE l (nth cs i).key).card, hold40 now⟩; first | omega | assumption | (simp; done) | (simp; omega) | (simp [*]; done) | (simp [*]; omega)) (by have p1 := putL_len (capM 32) l ⟨nth cs i, hold40 now⟩; have p2 := setA_len l ⟨nth cs i, hold40 now⟩ al; have p3 := putL_len (capM 32) l ⟨(getE l (nth cs i).key).card, hold40 now⟩; first | omega | assumption | (simp; done) | (simp; omega) | (simp [*]; done) | (simp [*]; omega)) (by have p1 := putL_len (capM 32) l ⟨nth cs i, hold40 now⟩; have p2 := setA_len l ⟨nth cs i, hold40 now⟩ al; have p3 := putL_len (capM 32) l ⟨(getE l (nth cs i).key).card, hold40 now⟩; first | omega | assumption | (simp; done) | (simp; omega) | (simp [*]; done) | (simp [*]; omega)) (by have p1 := putL_len (capM 32) l ⟨nth cs i, hold40 now⟩; have p2 := setA_len l ⟨nth cs i, hold40 now⟩ al; have p3 := putL_len (capM 32) l ⟨(getE l (nth cs i).key).card, hold40 now⟩; first | omega | assumption | (simp; done) | (simp; omega) | (simp [*]; done) | (simp [*]; omega))  (by rw [hF] <;> simp only [iter, into_f, h2, h3, h4, if_true, Bool.false_eq_true, if_false])
    · exact ih (putL (capM 32) l (Entry.mk (nth cs i) (hold40 now))) (putG (capM 32) l (Entry.mk (nth cs i) (hold40 now)) g) (setA l (Entry.mk (nth cs i) (hold40 now)) al) (setG l (Entry.mk (nth cs i) (hold40 now)) ga) (out ++ [(nth cs i)]) (k + 1) (h + 1) rf (i + 1) sF ow (by have p1 := putL_len (capM 32) l ⟨nth cs i, hold40 now⟩; have p2 := setA_len l ⟨nth cs i, hold40 now⟩ al; have p3 := putL_len (capM 32) l ⟨(getE l (nth cs i).key).card, hold40 now⟩; first | omega | assumption | (simp; done) | (simp; omega) | (simp [*]; done) | (simp [*]; omega)) (by have p1 := putL_len (capM 32) l ⟨nth cs i, hold40 now⟩; have p2 := setA_len l ⟨nth cs i, hold40 now⟩ al; have p3 := putL_len (capM 32) l ⟨(getE l (nth cs i).key).card, hold40 now⟩; first | omega | assumption | (simp; done) | (simp; omega) | (simp [*]; done) | (simp [*]; omega)) (by have p1 := putL_len (capM 32) l ⟨nth cs i, hold40 now⟩; have p2 := setA_len l ⟨nth cs i, hold40 now⟩ al; have p3 := putL_len (capM 32) l ⟨(getE l (nth cs i).key).card, hold40 now⟩; first | omega | assumption | (simp; done) | (simp; omega) | (simp [*]; done) | (simp [*]; omega)) (by have p1 := putL_len (capM 32) l ⟨nth cs i, hold40 now⟩; have p2 := setA_len l ⟨nth cs i, hold40 now⟩ al; have p3 := putL_len (capM 32) l ⟨(getE l (nth cs i).key).card, hold40 now⟩; first | omega | assumption | (simp; done) | (simp; omega) | (simp [*]; done) | (simp [*]; omega)) (by have p1 := putL_len (capM 32) l ⟨nth cs i, hold40 now⟩; have p2 := setA_len l ⟨nth cs i, hold40 now⟩ al; have p3 := putL_len (capM 32) l ⟨(getE l (nth cs i).key).card, hold40 now⟩; first | omega | assumption | (simp; done) | (simp; omega) | (simp [*]; done) | (simp [*]; omega))  (by rw [hF] <;> simp only [iter, into_f, h2, h3, h4, if_true, Bool.false_eq_true, if_false])
    · exact ih (putL (capM 32) l (Entry.mk (nth cs i) (hold40 now))) (putG (capM 32) l (Entry.mk (nth cs i) (hold40 now)) g) (setA l (Entry.mk (nth cs i) (hold40 now)) al) (setG l (Entry.mk (nth cs i) (hold40 now)) ga) out k h (rf + 1) (i + 1) sF ow (by have p1 := putL_len (capM 32) l ⟨nth cs i, hold40 now⟩; have p2 := setA_len l ⟨nth cs i, hold40 now⟩ al; have p3 := putL_len (capM 32) l ⟨(getE l (nth cs i).key).card, hold40 now⟩; first | omega | assumption | (simp; done) | (simp; omega) | (simp [*]; done) | (simp [*]; omega)) (by have p1 := putL_len (capM 32) l ⟨nth cs i, hold40 now⟩; have p2 := setA_len l ⟨nth cs i, hold40 now⟩ al; have p3 := putL_len (capM 32) l ⟨(getE l (nth cs i).key).card, hold40 now⟩; first | omega | assumption | (simp; done) | (simp; omega) | (simp [*]; done) | (simp [*]; omega)) (by have p1 := putL_len (capM 32) l ⟨nth cs i, hold40 now⟩; have p2 := setA_len l ⟨nth cs i, hold40 now⟩ al; have p3 := putL_len (capM 32) l ⟨(getE l (nth cs i).key).card, hold40 now⟩; first | omega | assumption | (simp; done) | (simp; omega) | (simp [*]; done) | (simp [*]; omega)) (by have p1 := putL_len (capM 32) l ⟨nth cs i, hold40 now⟩; have p2 := setA_len l ⟨nth cs i, hold40 now⟩ al; have p3 := putL_len (capM 32) l ⟨(getE l (nth cs i).key).card, hold40 now⟩; first | omega | assumption | (simp; done) | (simp; omega) | (simp [*]; done) | (simp [*]; omega)) (by have p1 := putL_len (capM 32) l ⟨nth cs i, hold40 now⟩; have p2 := setA_len l ⟨nth cs i, hold40 now⟩ al; have p3 := putL_len (capM 32) l ⟨(getE l (nth cs i).key).card, hold40 now⟩; first | omega | assumption | (simp; done) | (simp; omega) | (simp [*]; done) | (simp [*]; omega))  (by rw [hF] <;> simp only [iter, into_f, h2, h3, h4, h5, if_true, Bool.false_eq_true, if_false])
    · exact ih (putL (capM 32) l (Entry.mk (nth cs i) (hold40 now))) (putG (capM 32) l (Entry.mk (nth cs i) (hold40 now)) g) (setA l (Entry.mk (nth cs i) (hold40 now)) al) (setG l (Entry.mk (nth cs i) (hold40 now)) ga) (out ++ [(nth cs i)]) (k + 1) (h + 1) rf (i + 1) sF ow (by have p1 := putL_len (capM 32) l ⟨nth cs i, hold40 now⟩; have p2 := setA_len l ⟨nth cs i, hold40 now⟩ al; have p3 := putL_len (capM 32) l ⟨(getE l (nth cs i).key).card, hold40 now⟩; first | omega | assumption | (simp; done) | (simp; omega) | (simp [*]; done) | (simp [*]; omega)) (by have p1 := putL_len (capM 32) l ⟨nth cs i, hold40 now⟩; have p2 := setA_len l ⟨nth cs i, hold40 now⟩ al; have p3 := putL_len (capM 32) l ⟨(getE l (nth cs i).key).card, hold40 now⟩; first | omega | assumption | (simp; done) | (simp; omega) | (simp [*]; done) | (simp [*]; omega)) (by have p1 := putL_len (capM 32) l ⟨nth cs i, hold40 now⟩; have p2 := setA_len l ⟨nth cs i, hold40 now⟩ al; have p3 := putL_len (capM 32) l ⟨(getE l (nth cs i).key).card, hold40 now⟩; first | omega | assumption | (simp; done) | (simp; omega) | (simp [*]; done) | (simp [*]; omega)) (by have p1 := putL_len (capM 32) l ⟨nth cs i, hold40 now⟩; have p2 := setA_len l ⟨nth cs i, hold40 now⟩ al; have p3 := putL_len (capM 32) l ⟨(getE l (nth cs i).key).card, hold40 now⟩; first | omega | assumption | (simp; done) | (simp; omega) | (simp [*]; done) | (simp [*]; omega)) (by have p1 := putL_len (capM 32) l ⟨nth cs i, hold40 now⟩; have p2 := setA_len l ⟨nth cs i, hold40 now⟩ al; have p3 := putL_len (capM 32) l ⟨(getE l (nth cs i).key).card, hold40 now⟩; first | omega | assumption | (simp; done) | (simp; omega) | (simp [*]; done) | (simp [*]; omega))  (by rw [hF] <;> simp only [iter, into_f, h2, h3, h4, h5, if_true, Bool.false_eq_true, if_false])
    · exact ih (putL (capM 32) l (Entry.mk (getE l (nth cs i).key).card (hold40 now))) (putG (capM 32) l (Entry.mk (getE l (nth cs i).key).card (hold40 now)) g) al ga out k h rf (i + 1) sF ow (by have p1 := putL_len (capM 32) l ⟨nth cs i, hold40 now⟩; have p2 := setA_len l ⟨nth cs i, hold40 now⟩ al; have p3 := putL_len (capM 32) l ⟨(getE l (nth cs i).key).card, hold40 now⟩; first | omega | assumption | (simp; done) | (simp; omega) | (simp [*]; done) | (simp [*]; omega)) (by have p1 := putL_len (capM 32) l ⟨nth cs i, hold40 now⟩; have p2 := setA_len l ⟨nth cs i, hold40 now⟩ al; have p3 := putL_len (capM 32) l ⟨(getE l (nth cs i).key).card, hold40 now⟩; first | omega | assumption | (simp; done) | (simp; omega) | (simp [*]; done) | (simp [*]; omega)) (by have p1 := putL_len (capM 32) l ⟨nth cs i, hold40 now⟩; have p2 := setA_len l ⟨nth cs i, hold40 now⟩ al; have p3 := putL_len (capM 32) l ⟨(getE l (nth cs i).key).card, hold40 now⟩; first | omega | assumption | (simp; done) | (simp; omega) | (simp [*]; done) | (simp [*]; omega)) (by have p1 := putL_len (capM 32) l ⟨nth cs i, hold40 now⟩; have p2 := setA_len l ⟨nth cs i, hold40 now⟩ al; have p3 := putL_len (capM 32) l ⟨(getE l (nth cs i).key).card, hold40 now⟩; first | omega | assumption | (simp; done) | (simp; omega) | (simp [*]; done) | (simp [*]; omega)) (by have p1 := putL_len (capM 32) l ⟨nth cs i, hold40 now⟩; have p2 := setA_len l ⟨nth cs i, hold40 now⟩ al; have p3 := putL_len (capM 32) l ⟨(getE l (nth cs i).key).card, hold40 now⟩; first | omega | assumption | (simp; done) | (simp; omega) | (simp [*]; done) | (simp [*]; omega))  (by rw [hF] <;> simp only [iter, into_f, h2, h3, h4, h5, h6, if_true, Bool.false_eq_true, if_false])
    · exact ih l g al ga out k h rf (i + 1) sF ow (by have p1 := putL_len (capM 32) l ⟨nth cs i, hold40 now⟩; have p2 := setA_len l ⟨nth cs i, hold40 now⟩ al; have p3 := putL_len (capM 32) l ⟨(getE l (nth cs i).key).card, hold40 now⟩; first | omega | assumption | (simp; done) | (simp; omega) | (simp [*]; done) | (simp [*]; omega)) (by have p1 := putL_len (capM 32) l ⟨nth cs i, hold40 now⟩; have p2 := setA_len l ⟨nth cs i, hold40 now⟩ al; have p3 := putL_len (capM 32) l ⟨(getE l (nth cs i).key).card, hold40 now⟩; first | omega | assumption | (simp; done) | (simp; omega) | (simp [*]; done) | (simp [*]; omega)) (by have p1 := putL_len (capM 32) l ⟨nth cs i, hold40 now⟩; have p2 := setA_len l ⟨nth cs i, hold40 now⟩ al; have p3 := putL_len (capM 32) l ⟨(getE l (nth cs i).key).card, hold40 now⟩; first | omega | assumption | (simp; done) | (simp; omega) | (simp [*]; done) | (simp [*]; omega)) (by have p1 := putL_len (capM 32) l ⟨nth cs i, hold40 now⟩; have p2 := setA_len l ⟨nth cs i, hold40 now⟩ al; have p3 := putL_len (capM 32) l ⟨(getE l (nth cs i).key).card, hold40 now⟩; first | omega | assumption | (simp; done) | (simp; omega) | (simp [*]; done) | (simp [*]; omega)) (by have p1 := putL_len (capM 32) l ⟨nth cs i, hold40 now⟩; have p2 := setA_len l ⟨nth cs i, hold40 now⟩ al; have p3 := putL_len (capM 32) l ⟨(getE l (nth cs i).key).card, hold40 now⟩; first | omega | assumption | (simp; done) | (simp; omega) | (simp [*]; done) | (simp [*]; omega))  (by rw [hF] <;> simp only [iter, into_f, h2, h3, h4, h5, h6, if_true, Bool.false_eq_true, if_false])
    · exact ih l g al ga out k h rf (i + 1) sF ow (by have p1 := putL_len (capM 32) l ⟨nth cs i, hold40 now⟩; have p2 := setA_len l ⟨nth cs i, hold40 now⟩ al; have p3 := putL_len (capM 32) l ⟨(getE l (nth cs i).key).card, hold40 now⟩; first | omega | assumption | (simp; done) | (simp; omega) | (simp [*]; done) | (simp [*]; omega)) (by have p1 := putL_len (capM 32) l ⟨nth cs i, hold40 now⟩; have p2 := setA_len l ⟨nth cs i, hold40 now⟩ al; have p3 := putL_len (capM 32) l ⟨(getE l (nth cs i).key).card, hold40 now⟩; first | omega | assumption | (simp; done) | (simp; omega) | (simp [*]; done) | (simp [*]; omega)) (by have p1 := putL_len (capM 32) l ⟨nth cs i, hold40 now⟩; have p2 := setA_len l ⟨nth cs i, hold40 now⟩ al; have p3 := putL_len (capM 32) l ⟨(getE l (nth cs i).key).card, hold40 now⟩; first | omega | assumption | (simp; done) | (simp; omega) | (simp [*]; done) | (simp [*]; omega)) (by have p1 := putL_len (capM 32) l ⟨nth cs i, hold40 now⟩; have p2 := setA_len l ⟨nth cs i, hold40 now⟩ al; have p3 := putL_len (capM 32) l ⟨(getE l (nth cs i).key).card, hold40 now⟩; first | omega | assumption | (simp; done) | (simp; omega) | (simp [*]; done) | (simp [*]; omega)) (by have p1 := putL_len (capM 32) l ⟨nth cs i, hold40 now⟩; have p2 := setA_len l ⟨nth cs i, hold40 now⟩ al; have p3 := putL_len (capM 32) l ⟨(getE l (nth cs i).key).card, hold40 now⟩; first | omega | assumption | (simp; done) | (simp; omega) | (simp [*]; done) | (simp [*]; omega))  (by rw [hF] <;> simp only [iter, into_f, h2, h3, h4, h5, if_true, Bool.false_eq_true, if_false])
theorem iter_inv {σ : Type} (f : Nat → σ → σ) (P : Nat → σ → Prop) (n : Nat) (h : ∀ i s, i < n → P i s → P (i + 1) (f i s)) (r : Nat) : ∀ (i : Nat) (s : σ), i + r ≤ n → P i s → P (i + r) (iter f r i s) := by
  induction r with
  | zero => intro i s _ hp; exact hp
  | succ r ih =>
    intro i s hi hp
    have := ih (i + 1) (f i s) ow (h i s ow hp)
    rw [show i + (r + 1) = i + 1 + r by omega]; exact this
theorem iter_proj {σ τ : Type} (f : Nat → σ → σ) (f' : Nat → τ → τ) (p : σ → τ) (h : ∀ i s, p (f i s) = f' i (p s)) (r : Nat) : ∀ (i : Nat) (s : σ), p (iter f r i s) = iter f' r i (p s) := by
  induction r with
  | zero => intro i s; rfl
  | succ r ih => intro i s; show p (iter f r (i + 1) (f i s)) = iter f' r (i + 1) (f' i (p s)); rw [ih, h]
def intoS (now : Int) (s : List Entry × List Key × List Card × Nat) (c : Card) : List Entry × List Key × List Card × Nat :=
  if cardR c = true then
    if findB s.1 c.key = true ∧ decide (cmpSt (getE s.1 c.key).card.stamp c.stamp < 0) = false then
      if Stamp.eqb (getE s.1 c.key).card.stamp c.stamp = true ∧ (getE s.1 c.key).card.gone = false then (putL (capM 32) s.1 ⟨(getE s.1 c.key).card, now⟩, s.2.1, s.2.2.1, s.2.2.2) else s
    else (putL (capM 32) s.1 ⟨c, now⟩, setA s.1 ⟨c, now⟩ s.2.1, if putE (capM 32) s.1 ⟨c, now⟩ = 0 then s.2.2.1 ++ [c] else s.2.2.1, if putE (capM 32) s.1 ⟨c, now⟩ = 0 then s.2.2.2 else s.2.2.2 + 1)
  else s
def intoC (now : Int) (cs : List Card) (l : List Entry) (al : List Key) : List Entry × List Key × List Card × Nat := cs.foldl (intoS (hold40 now)) (l, al, [], 0)
theorem intoS_len (now : Int) (s : List Entry × List Key × List Card × Nat) (c : Card) : (intoS now s c).1.length ≤ s.1.length + 1 ∧ (intoS now s c).2.1.length ≤ s.2.1.length + 1 ∧ (intoS now s c).2.2.1.length ≤ s.2.2.1.length + 1 ∧ (intoS now s c).2.2.2 ≤ s.2.2.2 + 1 := by
  have p1 := putL_len (capM 32) s.1 ⟨c, now⟩
  have p2 := setA_len s.1 ⟨c, now⟩ s.2.1
  have p3 := putL_len (capM 32) s.1 ⟨(getE s.1 c.key).card, now⟩
  unfold intoS
  split
  · split
    · split
      · exact ⟨p3, Nat.le_succ _, Nat.le_succ _, Nat.le_succ _⟩
      · exact ⟨by omega, by omega, by omega, by omega⟩
    · refine ⟨p1, p2, ?_, ?_⟩ <;> simp only <;> split <;> simp <;> omega
  · exact ⟨by omega, by omega, by omega, by omega⟩
theorem intoF_len (now : Int) (cs : List Card) : ∀ (s : List Entry × List Key × List Card × Nat), (cs.foldl (intoS now) s).1.length ≤ s.1.length + cs.length ∧ (cs.foldl (intoS now) s).2.1.length ≤ s.2.1.length + cs.length ∧ (cs.foldl (intoS now) s).2.2.1.length ≤ s.2.2.1.length + cs.length ∧ (cs.foldl (intoS now) s).2.2.2 ≤ s.2.2.2 + cs.length := by
  induction cs with
  | nil => intro s; simp
  | cons c cs ih =>
    intro s
    obtain ⟨h1, h2, h3, h4⟩ := ih (intoS now s c)
    obtain ⟨k1, k2, k3, k4⟩ := intoS_len now s c
    simp only [List.foldl_cons, List.length_cons]
    exact ⟨by omega, by omega, by omega, by omega⟩
theorem intoC_len (now : Int) (cs : List Card) (l : List Entry) (al : List Key) : (intoC now cs l al).1.length ≤ l.length + cs.length ∧ (intoC now cs l al).2.1.length ≤ al.length + cs.length ∧ (intoC now cs l al).2.2.1.length ≤ cs.length ∧ (intoC now cs l al).2.2.2 ≤ cs.length := by
  have h := intoF_len (hold40 now) cs (l, al, [], 0)
  simpa [intoC] using h
def intoP (t : List Entry × Nat × List Key × Nat × List Card × Nat × Nat × Nat) : List Entry × List Key × List Card × Nat := (t.1, t.2.2.1, t.2.2.2.2.1, t.2.2.2.2.2.2.2)
theorem into_fS (q qa : Nat) (cs : List Card) (now gf gl gt nd s1 s2 s3 : Int) (i : Nat) (s : List Entry × Nat × List Key × Nat × List Card × Nat × Nat × Nat) :
    intoP (into_f q qa cs now gf gl gt nd s1 s2 s3 i s) = intoS (hold40 now) (intoP s) (nth cs i) := by
  unfold intoP into_f intoS
  generalize cardR (nth cs i) = b1
  generalize findB s.1 (nth cs i).key = b2
  generalize decide (cmpSt (getE s.1 (nth cs i).key).card.stamp (nth cs i).stamp < 0) = b3
  generalize Stamp.eqb (getE s.1 (nth cs i).key).card.stamp (nth cs i).stamp = b4
  generalize (getE s.1 (nth cs i).key).card.gone = b5
  generalize putE (capM 32) s.1 (Entry.mk (nth cs i) (hold40 now)) = z
  by_cases hz : z = 0 <;> cases b1 <;> cases b2 <;> cases b3 <;> cases b4 <;> cases b5 <;> simp [hz]
theorem into_fk (q qa : Nat) (cs : List Card) (now gf gl gt nd s1 s2 s3 : Int) (i : Nat) (s : List Entry × Nat × List Key × Nat × List Card × Nat × Nat × Nat) (h : s.2.2.2.2.2.1 = s.2.2.2.2.1.length) :
    (into_f q qa cs now gf gl gt nd s1 s2 s3 i s).2.2.2.2.2.1 = (into_f q qa cs now gf gl gt nd s1 s2 s3 i s).2.2.2.2.1.length := by
  unfold into_f
  repeat' split
  all_goals simp [h]
def intoI (now : Int) (cs : List Card) (l : List Entry) (g : Nat) (al : List Key) (ga : Nat) : List Entry × Nat × List Key × Nat × List Card × Nat × Nat × Nat := iter (into_f 0 0 cs now 0 0 0 0 0 0 0) cs.length 0 (l, g, al, ga, [], 0, 0, 0)
def intoG (now : Int) (cs : List Card) (l : List Entry) (g : Nat) (al : List Key) (ga : Nat) : Nat := (intoI now cs l g al ga).2.1
def intoA (now : Int) (cs : List Card) (l : List Entry) (g : Nat) (al : List Key) (ga : Nat) : Nat := (intoI now cs l g al ga).2.2.2.1
def intoH (now : Int) (cs : List Card) (l : List Entry) (g : Nat) (al : List Key) (ga : Nat) : Nat := (intoI now cs l g al ga).2.2.2.2.2.2.1
theorem into_iter (q qa : Nat) (cs : List Card) (now gf gl gt nd s1 s2 s3 : Int) (l : List Entry) (g : Nat) (al : List Key) (ga : Nat) :
    ((intoC now cs l al).1, intoG now cs l g al ga, (intoC now cs l al).2.1, intoA now cs l g al ga, (intoC now cs l al).2.2.1, (intoC now cs l al).2.2.1.length, intoH now cs l g al ga, (intoC now cs l al).2.2.2) = iter (into_f q qa cs now gf gl gt nd s1 s2 s3) cs.length 0 (l, g, al, ga, [], 0, 0, 0) := by
  have e : iter (into_f q qa cs now gf gl gt nd s1 s2 s3) cs.length 0 (l, g, al, ga, [], 0, 0, 0) = intoI now cs l g al ga := rfl
  have h1 : intoP (intoI now cs l g al ga) = iter (fun i s => intoS (hold40 now) s (nth cs i)) cs.length 0 (l, al, [], 0) := iter_proj (into_f 0 0 cs now 0 0 0 0 0 0 0) (fun i s => intoS (hold40 now) s (nth cs i)) intoP (fun i s => into_fS 0 0 cs now 0 0 0 0 0 0 0 i s) cs.length 0 (l, g, al, ga, [], 0, 0, 0)
  rw [iter_all (fun i s => intoS (hold40 now) s (nth cs i)) (intoS (hold40 now)) cs (fun i s hi => rfl)] at h1
  have h2 : (intoI now cs l g al ga).2.2.2.2.2.1 = (intoI now cs l g al ga).2.2.2.2.1.length := iter_inv (into_f 0 0 cs now 0 0 0 0 0 0 0) (fun _ s => s.2.2.2.2.2.1 = s.2.2.2.2.1.length) cs.length (fun i s _ hs => into_fk 0 0 cs now 0 0 0 0 0 0 0 i s hs) cs.length 0 (l, g, al, ga, [], 0, 0, 0) ow rfl
  rw [e]
  unfold intoC intoG intoA intoH
  unfold intoP at h1
  generalize intoI now cs l g al ga = x at h1 h2 ⊢
  obtain ⟨x1, x2, x3, x4, x5, x6, x7, x8⟩ := x
  simp only at h1 h2 ⊢
  rw [← h1]
  simp only [h2]
attribute [local irreducible] intoC intoG intoA intoH
@[simp] abbrev Wj_o15 (v1_ : Int) (v2_ : List Card) (v3_ : List Entry) (v4_ : Nat) (v5_ : List Key) (v6_ : Nat) : Ob := ⟨0, 2, [[(AV.int .i64 (capM 32)), (AV.osl 1 (intoG v1_ v2_ v3_ v4_ v5_ v6_) 10 0 (List.length (intoC v1_ v2_ v3_ v5_).1))]], none⟩
@[simp] abbrev Wj_o16 (v1_ : Int) (v2_ : List Card) (v3_ : List Entry) (v4_ : Nat) (v5_ : List Key) (v6_ : Nat) : Ob := ⟨(intoG v1_ v2_ v3_ v4_ v5_ v6_), 10, (List.map Entry.row ((intoC v1_ v2_ v3_ v5_).1)), none⟩
@[simp] abbrev Wj_o17 (v1_ : Int) (v2_ : List Card) (v3_ : List Entry) (v4_ : List Key) (v5_ : Nat) (v6_ : Nat) : Ob := ⟨0, 2, [[(AV.int .i64 (((List.length (intoC v1_ v2_ v3_ v4_).2.1) : Nat) : Int)), (AV.osl 4 (intoA v1_ v2_ v3_ v5_ v4_ v6_) 2 0 (List.length (recL (intoC v1_ v2_ v3_ v4_).2.1)))]], none⟩
@[simp] abbrev Wj_o18 (v1_ : Int) (v2_ : List Card) (v3_ : List Entry) (v4_ : Nat) (v5_ : List Key) (v6_ : Nat) : Ob := ⟨(intoA v1_ v2_ v3_ v4_ v5_ v6_), 2, (List.map Key.row (recL (intoC v1_ v2_ v3_ v5_).2.1)), none⟩
@[simp] abbrev Wj_20 (v1_ : Int) (v2_ : List Card) (v3_ : List Entry) (v4_ : Nat) (v5_ : List Key) (v6_ : Nat) (v7_ : Int) (v8_ : Int) (v9_ : Int) (v10_ : Int) (v11_ : Int) (v12_ : Int) (v13_ : Int) : Heap := [Wj_o15 v1_ v2_ v3_ v4_ v5_ v6_, Wj_o16 v1_ v2_ v3_ v4_ v5_ v6_, Wj_o2 v7_ v8_ v9_, Wj_o17 v1_ v2_ v3_ v5_ v4_ v6_, Wj_o18 v1_ v2_ v3_ v4_ v5_ v6_, Wj_o8 v10_ v11_ v12_ v13_]
@[simp] abbrev Wj_21 (v1_ : Nat) (v2_ : List Entry) (v3_ : Int) (v4_ : Int) (v5_ : Int) (v6_ : List Key) (v7_ : Nat) (v8_ : Int) (v9_ : Int) (v10_ : Int) (v11_ : Int) : Heap := [Wj_o6 v1_ v2_, ⟨v1_, 10, (List.map Entry.row v2_), none⟩, Wj_o2 v3_ v4_ v5_, Wj_o7 v6_ v7_, ⟨v7_, 2, (List.map Key.row (recL v6_)), none⟩, Wj_o8 v8_ v9_ v10_ v11_, ⟨0, 9, (List.map Card.row []), none⟩]
@[simp] abbrev Wj_22 (v1_ : Int) (v2_ : List Card) (v3_ : List Entry) (v4_ : Nat) (v5_ : List Key) (v6_ : Nat) : Fr := (mkF 82 [(0, (AV.obj 5 0 0 0)), (2, (AV.int .i64 (hold40 v1_))), (8, (AV.osl 6 (intoH v1_ v2_ v3_ v4_ v5_ v6_) 9 0 (List.length (intoC v1_ v2_ v3_ v5_).2.2.1))), (9, (AV.int .i64 ((((intoC v1_ v2_ v3_ v5_).2.2.2) : Nat) : Int))), (19, (AV.sl .any 9 (List.map Card.row v2_))), (20, (AV.int .i64 ((v2_.length : Nat) : Int))), (21, (AV.int .i64 ((v2_.length : Nat) : Int)))])
@[simp] abbrev Wj_23 (v1_ : Int) (v2_ : List Card) (v3_ : List Entry) (v4_ : Nat) (v5_ : List Key) (v6_ : Nat) (v7_ : Int) (v8_ : Int) (v9_ : Int) (v10_ : Int) (v11_ : Int) (v12_ : Int) (v13_ : Int) : Heap := [Wj_o15 v1_ v2_ v3_ v4_ v5_ v6_, Wj_o16 v1_ v2_ v3_ v4_ v5_ v6_, Wj_o2 v7_ v8_ v9_, Wj_o17 v1_ v2_ v3_ v5_ v4_ v6_, Wj_o18 v1_ v2_ v3_ v4_ v5_ v6_, Wj_o8 v10_ v11_ v12_ v13_, ⟨(intoH v1_ v2_ v3_ v4_ v5_ v6_), 9, (List.map Card.row ((intoC v1_ v2_ v3_ v5_).2.2.1)), none⟩]
set_option maxRecDepth 100000 in
theorem into_spec (cs : List Card) (now : Int) (l : List Entry) (g : Nat) (al : List Key) (ga : Nat) (gf gl gt nd s1 s2 s3 : Int) (hl : l.length + cs.length < 1000) (ha : al.length + cs.length < 100000) : ACalls Try.prog 33 [(.obj 5 0 0 0), (.sl .any 9 (List.map Card.row cs)), (.int .i64 now)] ([⟨0, 2, [[(.int .i64 (capM 32)), (.osl 1 g 10 0 (List.length l))]], none⟩, ⟨g, 10, (List.map Entry.row l), none⟩, ⟨0, 3, [[(.int .i64 gf), (.int .i64 gl), (.int .i64 gt)]], none⟩, ⟨0, 2, [[(.int .i64 (((List.length al) : Nat) : Int)), (.osl 4 ga 2 0 (List.length (recL al)))]], none⟩, ⟨ga, 2, (List.map Key.row (recL al)), none⟩, ⟨0, 7, [[(.int .i64 nd), (.int .i64 s1), (.int .i64 s2), (.int .i64 s3), (.obj 0 0 0 0), (.obj 2 0 0 0), (.obj 3 0 0 0)]], none⟩] : Heap) ((AV.tup [(.sl .any 9 (List.map Card.row ((intoC now cs l al).2.2.1))), (.int .i64 (((intoC now cs l al).2.2.2 : Nat) : Int))]), (Wj_20 now cs l g al ga gf gl gt nd s1 s2 s3)) := by
  have k1 := intoC_len now cs l al
  exact specO (fn := Try.f33) (ann := into_ann) (Has.o Try.func33) (.r (.g (.r (.g (.no (.r (.y 1 (.int .i64 (if 1099511627776 < now then 1099511627776 else now)) (AV.int .i64 (min now 1099511627776)) (Yes.int (by split <;> omega)) (.y 2 (.int .i64 (if (min now 1099511627776) > 0 then (min now 1099511627776) else 0)) (AV.int .i64 (max 0 (min now 1099511627776))) (Yes.int (by split <;> omega)) (.g (.r (.g (.r (.g (.r (.h' (Wj_21 g l gf gl gt al ga nd s1 s2 s3) (.y 1 (.int .i64 ((List.length (List.map Card.row cs) : Nat) : Int)) (AV.int .i64 ((cs.length : Nat) : Int)) (Yes.len _ _ _) (.g (.loop (Wj_22 now cs l g al ga) (show LoopTo (codeQ Try.prog (X into_ann) (loopOf Try.f33 0)) (some [0, 2, 8, 9, 19, 20, 21]) (some [0, 2, 8, 9, 19, 20, 21]) (mkF 82 [(0, (.obj 5 0 0 0)), (2, (.int .i64 (max 0 (min now 1099511627776)))), (8, (.osl 6 0 9 0 0)), (9, (.int .i64 0)), (19, (.sl .any 9 (List.map Card.row cs))), (20, (.int .i64 ((cs.length : Nat) : Int))), (21, (.int .i64 0))]) (Wj_21 g l gf gl gt al ga nd s1 s2 s3) (.exit 0) (Wj_22 now cs l g al ga) (Wj_23 now cs l g al ga gf gl gt nd s1 s2 s3) from (into_loop l.length al.length cs now gf gl gt nd s1 s2 s3 hl ha cs.length l g al ga [] 0 0 0 0 _ ow rfl ow ow ow ow (into_iter _ _ cs now gf gl gt nd s1 s2 s3 l g al ga))) (.r (.w 8 (List.map Card.row ((intoC now cs l al).2.2.1)) (And.intro (rowsIn_all (room := none) kr om) (Card.rows_bdd _ _) : rowsIn (Wj_23 now cs l g al ga gf gl gt nd s1 s2 s3) 9 (AV.osl 6 (intoH now cs l g al ga) 9 0 (List.length (intoC now cs l al).2.2.1)) = some (List.map Card.row ((intoC now cs l al).2.2.1)) ∧ AV.bddss 0 (List.map Card.row ((intoC now cs l al).2.2.1)) = true) (.g (.h' (Wj_20 now cs l g al ga gf gl gt nd s1 s2 s3) (.f 6 (AV.tup [(.sl .any 9 (List.map Card.row ((intoC now cs l al).2.2.1))), (.int .i64 ((((intoC now cs l al).2.2.2) : Nat) : Int))]) (.e (AV.tup [(.sl .any 9 (List.map Card.row ((intoC now cs l al).2.2.1))), (.int .i64 ((((intoC now cs l al).2.2.2) : Nat) : Int))])))))))))))))))))))))))))
@[simp] abbrev Wj_24 (v1_ : Int) (v2_ : Nat) (v3_ : Nat) (v4_ : Nat) (v5_ : List Card) (v6_ : Nat) : Fr := (mkF 80 [(0, (AV.obj 3 0 0 0)), (2, (AV.int .i64 (hold40 v1_))), (8, (AV.osl 4 v2_ 9 0 v3_)), (9, (AV.int .i64 ((v4_ : Nat) : Int))), (16, (AV.sl .any 9 (List.map Card.row v5_))), (17, (AV.int .i64 ((v5_.length : Nat) : Int))), (18, (AV.int .i64 ((v6_ + 1 : Nat) : Int)))])
@[simp] abbrev Wj_25 (v1_ : List Entry) (v2_ : Int) (v3_ : Int) (v4_ : Int) (v5_ : List Key) (v6_ : Int) (v7_ : Int) (v8_ : Int) (v9_ : Nat) (v10_ : List Card) : Heap := [Wj_o1 v1_, Wj_o2 v2_ v3_ v4_, Wj_o3 v5_, Wj_o4 v6_ v7_ v8_, ⟨v9_, 9, (List.map Card.row v10_), none⟩]
@[simp] abbrev Wj_26 (v1_ : List Entry) (v2_ : List Card) (v3_ : Nat) (v4_ : Int) (v5_ : Int) (v6_ : Int) (v7_ : Int) (v8_ : List Key) (v9_ : Int) (v10_ : Int) (v11_ : Int) (v12_ : Nat) (v13_ : List Card) : Heap := [⟨0, 2, [[(AV.int .i64 (capM 32)), (AV.sl .any 10 (List.map Entry.row (putL (capM 32) v1_ (Entry.mk (getE v1_ (nth v2_ v3_).key).card (hold40 v4_)))))]], none⟩, Wj_o2 v5_ v6_ v7_, Wj_o3 v8_, Wj_o4 v9_ v10_ v11_, ⟨v12_, 9, (List.map Card.row v13_), none⟩]
@[simp] abbrev Wj_27 (v1_ : Int) (v2_ : Nat) (v3_ : Nat) (v4_ : Nat) (v5_ : List Card) (v6_ : Nat) : Fr := (mkF 80 [(0, (AV.obj 3 0 0 0)), (2, (AV.int .i64 (hold40 v1_))), (8, (AV.osl 4 v2_ 9 0 v3_)), (9, (AV.int .i64 ((v4_ + 1 : Nat) : Int))), (16, (AV.sl .any 9 (List.map Card.row v5_))), (17, (AV.int .i64 ((v5_.length : Nat) : Int))), (18, (AV.int .i64 ((v6_ + 1 : Nat) : Int)))])
@[simp] abbrev Wj_o19 (v1_ : List Entry) (v2_ : List Card) (v3_ : Nat) (v4_ : Int) : Ob := ⟨0, 2, [[(AV.int .i64 (capM 32)), (AV.sl .any 10 (List.map Entry.row (putL (capM 32) v1_ (Entry.mk (nth v2_ v3_) (hold40 v4_)))))]], none⟩
@[simp] abbrev Wj_o20 (v1_ : List Entry) (v2_ : List Card) (v3_ : Nat) (v4_ : Int) (v5_ : List Key) : Ob := ⟨0, 1, [[(AV.sl .any 2 (List.map Key.row (setA v1_ (Entry.mk (nth v2_ v3_) (hold40 v4_)) v5_)))]], none⟩
@[simp] abbrev Wj_28 (v1_ : List Entry) (v2_ : List Card) (v3_ : Nat) (v4_ : Int) (v5_ : Int) (v6_ : Int) (v7_ : Int) (v8_ : List Key) (v9_ : Int) (v10_ : Int) (v11_ : Int) (v12_ : Nat) (v13_ : List Card) : Heap := [Wj_o19 v1_ v2_ v3_ v4_, Wj_o2 v5_ v6_ v7_, Wj_o20 v1_ v2_ v3_ v4_ v8_, Wj_o4 v9_ v10_ v11_, ⟨v12_, 9, (List.map Card.row v13_), none⟩]
@[simp] abbrev Wj_29 (v1_ : Int) (v2_ : Nat) (v3_ : Nat) (v4_ : Nat) (v5_ : List Card) (v6_ : Nat) : Fr := (mkF 80 [(0, (AV.obj 3 0 0 0)), (2, (AV.int .i64 (hold40 v1_))), (8, (AV.osl 4 (v2_ + 1) 9 0 (v3_ + 1))), (9, (AV.int .i64 ((v4_ : Nat) : Int))), (16, (AV.sl .any 9 (List.map Card.row v5_))), (17, (AV.int .i64 ((v5_.length : Nat) : Int))), (18, (AV.int .i64 ((v6_ + 1 : Nat) : Int)))])
@[simp] abbrev Wj_30 (v1_ : List Entry) (v2_ : List Card) (v3_ : Nat) (v4_ : Int) (v5_ : Int) (v6_ : Int) (v7_ : Int) (v8_ : List Key) (v9_ : Int) (v10_ : Int) (v11_ : Int) (v12_ : Nat) (v13_ : List Card) : Heap := [Wj_o19 v1_ v2_ v3_ v4_, Wj_o2 v5_ v6_ v7_, Wj_o20 v1_ v2_ v3_ v4_ v8_, Wj_o4 v9_ v10_ v11_, Wj_o13 v12_ v13_ v2_ v3_]
@[simp] abbrev Wj_31 (v1_ : Int) (v2_ : Nat) (v3_ : Nat) (v4_ : Nat) (v5_ : List Card) (v6_ : Nat) : Fr := (mkF 80 [(0, (AV.obj 3 0 0 0)), (2, (AV.int .i64 (hold40 v1_))), (8, (AV.osl 4 v2_ 9 0 v3_)), (9, (AV.int .i64 ((v4_ : Nat) : Int))), (16, (AV.sl .any 9 (List.map Card.row v5_))), (17, (AV.int .i64 ((v5_.length : Nat) : Int))), (18, (AV.int .i64 ((v6_ : Nat) : Int)))])
@[simp] abbrev Wj_32 (v1_ : List Entry) (v2_ : Int) (v3_ : Int) (v4_ : Int) (v5_ : List Key) (v6_ : Int) (v7_ : Int) (v8_ : Int) (v9_ : Nat) (v10_ : List Card) (v11_ : List Card) (v12_ : Nat) : Heap := [Wj_o1 v1_, Wj_o2 v2_ v3_ v4_, Wj_o3 v5_, Wj_o4 v6_ v7_ v8_, ⟨v9_, 9, (List.map Card.row v10_), none⟩, ⟨0, 9, [(Card.row (nth v11_ v12_))], none⟩]
@[simp] abbrev Wj_33 (v1_ : List Entry) (v2_ : Int) (v3_ : Int) (v4_ : Int) (v5_ : List Key) (v6_ : Int) (v7_ : Int) (v8_ : Int) (v9_ : Nat) (v10_ : List Card) (v11_ : List Card) (v12_ : Nat) : Heap := [Wj_o1 v1_, Wj_o2 v2_ v3_ v4_, Wj_o3 v5_, Wj_o4 v6_ v7_ v8_, ⟨v9_, 9, (List.map Card.row v10_), none⟩, ⟨0, 9, [(Card.row (nth v11_ v12_))], none⟩, Wj_o14 v1_ v11_ v12_]
@[simp] abbrev Wj_34 (v1_ : List Entry) (v2_ : List Card) (v3_ : Nat) (v4_ : Int) (v5_ : Int) (v6_ : Int) (v7_ : Int) (v8_ : List Key) (v9_ : Int) (v10_ : Int) (v11_ : Int) (v12_ : Nat) (v13_ : List Card) : Heap := [Wj_o19 v1_ v2_ v3_ v4_, Wj_o2 v5_ v6_ v7_, Wj_o20 v1_ v2_ v3_ v4_ v8_, Wj_o4 v9_ v10_ v11_, ⟨v12_, 9, (List.map Card.row v13_), none⟩, ⟨0, 9, [(Card.row (nth v2_ v3_))], none⟩, Wj_o14 v1_ v2_ v3_]
@[simp] abbrev Wj_35 (v1_ : List Entry) (v2_ : List Card) (v3_ : Nat) (v4_ : Int) (v5_ : Int) (v6_ : Int) (v7_ : Int) (v8_ : List Key) (v9_ : Int) (v10_ : Int) (v11_ : Int) (v12_ : Nat) (v13_ : List Card) : Heap := [Wj_o19 v1_ v2_ v3_ v4_, Wj_o2 v5_ v6_ v7_, Wj_o20 v1_ v2_ v3_ v4_ v8_, Wj_o4 v9_ v10_ v11_, Wj_o13 v12_ v13_ v2_ v3_, ⟨0, 9, [(Card.row (nth v2_ v3_))], none⟩, Wj_o14 v1_ v2_ v3_]
def rinto_f (q : Nat) (qa : Nat) (cs : List Card) (now : Int) (gf : Int) (gl : Int) (gt : Int) (s1 : Int) (s2 : Int) (s3 : Int) (i : Nat) (s : (List Entry) × (List Key) × (List Card) × Nat × Nat × Nat) : (List Entry) × (List Key) × (List Card) × Nat × Nat × Nat := (if (!(cardR (nth cs i))) = true then (s.1, s.2.1, s.2.2.1, s.2.2.2.1, s.2.2.2.2.1, s.2.2.2.2.2) else (if (findB s.1 (nth cs i).key) = true then (if (!(decide (cmpSt (getE s.1 (nth cs i).key).card.stamp (nth cs i).stamp < 0))) = true then (if (Stamp.eqb (getE s.1 (nth cs i).key).card.stamp (nth cs i).stamp) = true then (if (!(getE s.1 (nth cs i).key).card.gone) = true then (putL (capM 32) s.1 (Entry.mk (getE s.1 (nth cs i).key).card (hold40 now)), s.2.1, s.2.2.1, s.2.2.2.1, s.2.2.2.2.1, s.2.2.2.2.2) else (s.1, s.2.1, s.2.2.1, s.2.2.2.1, s.2.2.2.2.1, s.2.2.2.2.2)) else (s.1, s.2.1, s.2.2.1, s.2.2.2.1, s.2.2.2.2.1, s.2.2.2.2.2)) else (if ((putE (capM 32) s.1 (Entry.mk (nth cs i) (hold40 now))) != 0) = true then ((putL (capM 32) s.1 (Entry.mk (nth cs i) (hold40 now))), (setA s.1 (Entry.mk (nth cs i) (hold40 now)) s.2.1), s.2.2.1, s.2.2.2.1, s.2.2.2.2.1, s.2.2.2.2.2 + 1) else ((putL (capM 32) s.1 (Entry.mk (nth cs i) (hold40 now))), (setA s.1 (Entry.mk (nth cs i) (hold40 now)) s.2.1), s.2.2.1 ++ [(nth cs i)], (s.2.2.2.1 + 1), (s.2.2.2.2.1 + 1), s.2.2.2.2.2))) else (if ((putE (capM 32) s.1 (Entry.mk (nth cs i) (hold40 now))) != 0) = true then ((putL (capM 32) s.1 (Entry.mk (nth cs i) (hold40 now))), (setA s.1 (Entry.mk (nth cs i) (hold40 now)) s.2.1), s.2.2.1, s.2.2.2.1, s.2.2.2.2.1, s.2.2.2.2.2 + 1) else ((putL (capM 32) s.1 (Entry.mk (nth cs i) (hold40 now))), (setA s.1 (Entry.mk (nth cs i) (hold40 now)) s.2.1), s.2.2.1 ++ [(nth cs i)], (s.2.2.2.1 + 1), (s.2.2.2.2.1 + 1), s.2.2.2.2.2))))
def rintoI (now : Int) (cs : List Card) (l : List Entry) (al : List Key) : List Entry × List Key × List Card × Nat × Nat × Nat := iter (rinto_f 0 0 cs now 0 0 0 0 0 0) cs.length 0 (l, al, [], 0, 0, 0)
def rintoH (now : Int) (cs : List Card) (l : List Entry) (al : List Key) : Nat := (rintoI now cs l al).2.2.2.2.1
attribute [local irreducible] rintoH
@[simp] abbrev Wj_o21 (v1_ : Int) (v2_ : List Card) (v3_ : List Entry) (v4_ : List Key) : Ob := ⟨0, 2, [[(AV.int .i64 (capM 32)), (AV.sl .any 10 (List.map Entry.row ((intoC v1_ v2_ v3_ v4_).1)))]], none⟩
@[simp] abbrev Wj_o22 (v1_ : Int) (v2_ : List Card) (v3_ : List Entry) (v4_ : List Key) : Ob := ⟨0, 1, [[(AV.sl .any 2 (List.map Key.row ((intoC v1_ v2_ v3_ v4_).2.1)))]], none⟩
@[simp] abbrev Wj_36 (v1_ : Int) (v2_ : List Card) (v3_ : List Entry) (v4_ : List Key) (v5_ : Int) (v6_ : Int) (v7_ : Int) (v8_ : Int) (v9_ : Int) (v10_ : Int) : Heap := [Wj_o21 v1_ v2_ v3_ v4_, Wj_o2 v5_ v6_ v7_, Wj_o22 v1_ v2_ v3_ v4_, Wj_o4 v8_ v9_ v10_]
@[simp] abbrev Wj_37 (v1_ : List Entry) (v2_ : Int) (v3_ : Int) (v4_ : Int) (v5_ : List Key) (v6_ : Int) (v7_ : Int) (v8_ : Int) : Heap := [Wj_o1 v1_, Wj_o2 v2_ v3_ v4_, Wj_o3 v5_, Wj_o4 v6_ v7_ v8_, ⟨0, 9, (List.map Card.row []), none⟩]
@[simp] abbrev Wj_38 (v1_ : Int) (v2_ : List Card) (v3_ : List Entry) (v4_ : List Key) : Fr := (mkF 80 [(0, (AV.obj 3 0 0 0)), (2, (AV.int .i64 (hold40 v1_))), (8, (AV.osl 4 (rintoH v1_ v2_ v3_ v4_) 9 0 (List.length (intoC v1_ v2_ v3_ v4_).2.2.1))), (9, (AV.int .i64 ((((intoC v1_ v2_ v3_ v4_).2.2.2) : Nat) : Int))), (16, (AV.sl .any 9 (List.map Card.row v2_))), (17, (AV.int .i64 ((v2_.length : Nat) : Int))), (18, (AV.int .i64 ((v2_.length : Nat) : Int)))])
@[simp] abbrev Wj_39 (v1_ : Int) (v2_ : List Card) (v3_ : List Entry) (v4_ : List Key) (v5_ : Int) (v6_ : Int) (v7_ : Int) (v8_ : Int) (v9_ : Int) (v10_ : Int) : Heap := [Wj_o21 v1_ v2_ v3_ v4_, Wj_o2 v5_ v6_ v7_, Wj_o22 v1_ v2_ v3_ v4_, Wj_o4 v8_ v9_ v10_, ⟨(rintoH v1_ v2_ v3_ v4_), 9, (List.map Card.row ((intoC v1_ v2_ v3_ v4_).2.2.1)), none⟩]
end Go.Proofs.Ytcmfnfkahdconaa.AM

set_option linter.unusedVariables false
set_option linter.unusedSimpArgs false
namespace Go.Proofs.Ytcmfnfkahdconaa.AM
open Go
theorem ssem_cap0 {P : Program} {F : Fr} {H : Heap} {dst : Option Tmp} {x : Operand} {t e0 : TypeId} {type : TypeId} {pos : String} {after : Array Edge} {guard : Option (Nat × Bool)} {k : Nat}
    (ht : P.underlying t = some (.slice e0)) (hx : opv F x = some (.sl .nil k [])) :
    SSem P F H ⟨dst, .call { callee := .builtin .cap, args := #[x], argTypes := #[t] }, type, pos, after, guard⟩ (.int .i64 0, H) := by
  intro G w C f hf hH
  have hv := hf x (by simp [Op.operands, Call.operands]) _ hx
  have hfx : f x = .slice none 0 0 := by
    generalize hu : f x = u at hv
    cases hv with
    | nils _ _ _ hg => rfl
    | sl _ _ _ _ _ _ hg => exact absurd rfl hg
  have hr : (Builtin.cap_ #[t] type #[f x]).run P w = .ok (.int .i64 0) w := by
    rw [hfx]; simp [Builtin.cap_, run_underlying ht, goInt]
  refine ⟨.int .i64 0, w, ?_, G, C, Ev.refl .., hH, .int .., Pd.refl⟩
  simp [execOp, resolve, invoke, builtin, hr]
theorem ssem_make0 {P : Program} {F : Fr} {H : Heap} {dst : Option Tmp} {x y : Operand} {t t' e0 : TypeId} {type : TypeId} {pos : String} {after : Array Edge} {guard : Option (Nat × Bool)} {k c : Nat} {i : TypeInfo} {z : Value} {kk kx : IntKind}
    (ht : P.underlying t = some (.slice e0)) (ht' : P.underlying t' = some (.int kk)) (hi : P.info? e0 = some i) (hz : i.zero = some z) (hzs : z.cells.size = i.size) (hz1 : ∀ v ∈ z.cells.toList, v.oneCell' = true)
    (hx : opv F x = some (.sl .nil k [])) (hy : opv F y = some (.int kx (c : Int)))
    (hb : 0 < i.bytes) (hs : 0 < i.size) (hc : 0 < c) (hby : c * i.bytes ≤ 140737488355328) :
    SSem P F H ⟨dst, .call { callee := .builtin .append, args := #[x, y], argTypes := #[t, t'] }, type, pos, after, guard⟩ (.osl H.length 0 i.size 0 c, H ++ [⟨0, i.size, List.replicate c (List.replicate i.size .unk), none⟩]) := by
  intro G w C f hf hH
  have hv := hf x (by simp [Op.operands, Call.operands]) _ hx
  have hvy := hf y (by simp [Op.operands, Call.operands]) _ hy
  obtain ⟨ov, hsrc⟩ := rowsIn_src (P := P) (k := i.size) (xs := []) hH hv (by simp [rowsIn])
  generalize huy : f y = uy at hvy
  cases hvy
  have hfx : f x = .slice none 0 0 := by
    generalize hu : f x = u at hv
    cases hv with
    | nils _ _ _ hg => rfl
    | sl _ _ _ _ _ _ hg => exact absurd rfl hg
  rw [hfx] at hsrc
  obtain ⟨v, w', h1, h2⟩ := grow_make (ty := type) (kx := kx) hH ht ht' hi hz hzs hz1 c none 0 0 hsrc rfl (by omega) hb hs hc (by rw [Nat.zero_add]; exact hby)
  refine ⟨v, w', ?_, by simpa using h2⟩
  simp [execOp, resolve, invoke, builtin, hfx, huy, h1]
section
variable {P : Program} {X : Env} {F : Fr} {H H2 : Heap} {ar : Nat} {o : Oper}
theorem sat_cap0 (hT : TOk P X.T) {t e0 : TypeId} {ti : TI} (hop : o.op = .call { callee := .builtin .cap, args := #[argO o 0], argTypes := #[t] }) (hsem : isSem X o = true) (ht : X.T t = some ti) (htd : ti.d = .slice e0)
    {k : Nat} (hx : opv F (argO o 0) = some (.sl .nil k [])) : Sat P X F H ar o (.int .i64 0) H := by
  refine Sat.sem hsem ?_
  obtain ⟨dst, op, type, pos, after, guard⟩ := o
  simp only at hop
  generalize argO _ 0 = x at hop hx
  subst hop
  exact ssem_cap0 (tok_slice hT ht htd) hx
theorem sat_make0 (hT : TOk P X.T) {t t' e0 : TypeId} {ti ti' te : TI} {kk kx : IntKind} (hop : o.op = .call { callee := .builtin .append, args := #[argO o 0, argO o 1], argTypes := #[t, t'] }) (hsem : isSem X o = true) (ht : X.T t = some ti) (htd : ti.d = .slice e0) (hte : X.T e0 = some te) (ht' : X.T t' = some ti') (htd' : ti'.d = .int kk)
    {k k0 c : Nat} {els' : List (List AV)} (hk : te.size = k) (hx : opv F (argO o 0) = some (.sl .nil k0 [])) (hy : opv F (argO o 1) = some (.int kx (c : Int)))
    (hb : 0 < te.bytes) (hs : 0 < k) (hc : 0 < c) (hby : c * te.bytes ≤ 140737488355328) (hels : List.replicate c (List.replicate k .unk) = els') (hH : H ++ [⟨0, k, els', none⟩] = H2) :
    Sat P X F H ar o (.osl H.length 0 k 0 c) H2 := by
  refine Sat.sem hsem ?_
  subst hk hels hH
  obtain ⟨dst, op, type, pos, after, guard⟩ := o
  simp only at hop
  generalize argO _ 0 = x at hop hx
  generalize argO _ 1 = y at hop hy
  subst hop
  obtain ⟨i, hi, hsz, hbt, z, hz, hzs, hzl, hza⟩ := (hT _ _ hte).info
  rw [← hsz] at hs ⊢
  rw [← hbt] at hb hby
  exact ssem_make0 (tok_slice hT ht htd) (tok_int hT ht' htd') hi hz (by have := scalars_len hzs; simp at this; omega) (one_of_scalars hzs) hx hy hb hs hc hby
end
end Go.Proofs.Ytcmfnfkahdconaa.AM

set_option linter.unusedVariables false
set_option linter.unusedSimpArgs false
set_option linter.unusedSectionVars false
namespace Go.Proofs.Ytcmfnfkahdconaa.AM
open Go
section
variable {α : Type} [Inhabited α]
theorem nth_def (l : List α) (q : Nat) : nth l q = l.getD q default := rfl
theorem nth_setM (l : List α) {i : Nat} (h : i < l.length) (x : α) (q : Nat) : nth (l.set i x) q = if i = q then x else nth l q := by
  simp only [nth_def, List.getD_eq_getElem?_getD]
  by_cases e : i = q
  · subst e; rw [List.getElem?_set_self h, if_pos rfl]; rfl
  · rw [List.getElem?_set_ne e, if_neg e]
theorem nth_appM (l m : List α) (q : Nat) : nth (l ++ m) q = if q < l.length then nth l q else nth m (q - l.length) := by
  simp only [nth_def, List.getD_eq_getElem?_getD]
  split
  · rename_i h; rw [List.getElem?_append_left h]
  · rename_i h; rw [List.getElem?_append_right (by omega)]
theorem ext_nth {l m : List α} (hl : l.length = m.length) (h : ∀ q, q < l.length → nth l q = nth m q) : l = m := by
  apply List.ext_getElem hl
  intro q h1 h2
  have := h q h1
  rwa [nth_getElem h1, nth_getElem h2] at this
def swapL (a b n : Nat) (l : List α) : List α := iter (fun i l => (l.set (a + i) (nth l (b + i))).set (b + i) (nth l (a + i))) n 0 l
theorem swapL_all (a b n : Nat) (l : List α) (hab : a + n ≤ b) (hb : b + n ≤ l.length) : ∀ k, k ≤ n → (swapL a b k l).length = l.length ∧ ∀ q, nth (swapL a b k l) q = if a ≤ q ∧ q < a + k then nth l (b + (q - a)) else if b ≤ q ∧ q < b + k then nth l (a + (q - b)) else nth l q := by
  intro k
  induction k with
  | zero =>
    intro _
    refine ⟨rfl, fun q => ?_⟩
    rw [if_neg (by omega), if_neg (by omega)]
    rfl
  | succ k ih =>
    intro hk
    obtain ⟨h1, h2⟩ := ih (by omega)
    have e : swapL a b (k + 1) l = ((swapL a b k l).set (a + k) (nth (swapL a b k l) (b + k))).set (b + k) (nth (swapL a b k l) (a + k)) := iter_succ _ _ _
    refine ⟨by rw [e]; simp [h1], fun q => ?_⟩
    rw [e, nth_setM _ (by simp; omega), nth_setM _ (by omega), h2, h2, h2]
    by_cases c1 : b + k = q
    · subst c1
      rw [if_pos rfl, if_neg (by omega), if_neg (by omega), if_neg (by omega), if_pos (by omega)]
      congr 1; omega
    · rw [if_neg c1]
      by_cases c2 : a + k = q
      · subst c2
        rw [if_pos rfl, if_neg (by omega), if_neg (by omega), if_pos (by omega)]
        congr 1; omega
      · rw [if_neg c2]
        have e1 : (a ≤ q ∧ q < a + (k + 1)) ↔ (a ≤ q ∧ q < a + k) := by omega
        have e2 : (b ≤ q ∧ q < b + (k + 1)) ↔ (b ≤ q ∧ q < b + k) := by omega
        simp only [e1, e2]
theorem swapL_len {a b n : Nat} {l : List α} (hab : a + n ≤ b) (hb : b + n ≤ l.length) : (swapL a b n l).length = l.length := (swapL_all a b n l hab hb n (Nat.le_refl _)).1
theorem swapL_parts (X U M V Y : List α) {a b n : Nat} (ha : a = X.length) (hU : U.length = n) (hV : V.length = n) (hb : b = X.length + n + M.length) :
    swapL a b n (X ++ (U ++ (M ++ (V ++ Y)))) = X ++ (V ++ (M ++ (U ++ Y))) := by
  obtain ⟨h1, h2⟩ := swapL_all a b n (X ++ (U ++ (M ++ (V ++ Y)))) (by omega) (by simp; omega) n (Nat.le_refl _)
  refine ext_nth (by rw [h1]; simp; omega) fun q hq => ?_
  rw [h2]
  simp only [nth_appM, hU, hV]
  by_cases c1 : q < X.length
  · rw [if_neg (by omega), if_neg (by omega), if_pos c1, if_pos c1]
  · rw [if_neg (c := q < X.length) c1, if_neg (c := q < X.length) c1]
    by_cases c2 : q - X.length < n
    · rw [if_pos (by omega), if_pos (c := q - X.length < n) c2, if_neg (by omega), if_neg (by omega), if_neg (by omega), if_pos (by omega)]
      congr 1; omega
    · rw [if_neg (by omega), if_neg (c := q - X.length < n) c2, if_neg (c := q - X.length < n) c2]
      by_cases c3 : q - X.length - n < M.length
      · rw [if_neg (by omega), if_pos c3, if_pos c3]
      · rw [if_neg (c := q - X.length - n < M.length) c3, if_neg (c := q - X.length - n < M.length) c3]
        by_cases c4 : q - X.length - n - M.length < n
        · rw [if_pos (by omega), if_pos (c := q - X.length - n - M.length < n) c4, if_neg (by omega), if_pos (by omega)]
          congr 1; omega
        · rw [if_neg (by omega), if_neg c4, if_neg c4]
def rotS (m : Nat) : Nat → Nat → Nat → List α → List α × Nat
  | 0, i, _, l => (l, i)
  | r + 1, i, j, l => if i = j then (l, i) else if j < i then rotS m r (i - j) j (swapL (m - i) m j l) else rotS m r i (j - i) (swapL (m - i) (m + j - i) i l)
def rotL (a m b : Nat) (l : List α) : List α := swapL (m - (rotS m (m - a + (b - m)) (m - a) (b - m) l).2) m (rotS m (m - a + (b - m)) (m - a) (b - m) l).2 (rotS m (m - a + (b - m)) (m - a) (b - m) l).1
theorem rotS_parts (m : Nat) (T : List α) (r : Nat) : ∀ (X U V Y : List α) (i j : Nat), i + j ≤ r + 1 → 0 < i → 0 < j → U.length = i → V.length = j → m = X.length + i → T = X ++ (V ++ (U ++ Y)) →
    0 < (rotS m r i j (X ++ (U ++ (V ++ Y)))).2 ∧ (rotS m r i j (X ++ (U ++ (V ++ Y)))).2 ≤ i ∧ (rotS m r i j (X ++ (U ++ (V ++ Y)))).2 ≤ j ∧ (rotS m r i j (X ++ (U ++ (V ++ Y)))).1.length = T.length ∧ swapL (m - (rotS m r i j (X ++ (U ++ (V ++ Y)))).2) m (rotS m r i j (X ++ (U ++ (V ++ Y)))).2 (rotS m r i j (X ++ (U ++ (V ++ Y)))).1 = T := by
  induction r with
  | zero => intro X U V Y i j h1 h2 h3; omega
  | succ r ih =>
    intro X U V Y i j h1 h2 h3 hU hV hm hT
    simp only [rotS]
    by_cases c1 : i = j
    · rw [if_pos c1]
      refine ⟨h2, Nat.le_refl _, by simp only; omega, by rw [hT]; simp; omega, ?_⟩
      subst c1
      have := swapL_parts X U [] V Y (a := m - i) (b := m) (n := i) (by omega) hU hV (by simp; omega)
      rw [hT]
      simpa using this
    · rw [if_neg c1]
      by_cases c2 : j < i
      · rw [if_pos c2]
        have hP : (U.take j).length = j := by simp; omega
        have hQ : (U.drop j).length = i - j := by simp; omega
        have e := swapL_parts X (U.take j) (U.drop j) V Y (a := m - i) (b := m) (n := j) (by omega) hP hV (by omega)
        rw [← List.append_assoc (U.take j), List.take_append_drop] at e
        rw [e]
        have := ih (X ++ V) (U.drop j) (U.take j) Y (i - j) j (by omega) (by omega) h3 hQ hP (by simp; omega) (by rw [hT, ← List.append_assoc (U.take j), List.take_append_drop]; simp)
        simp only [List.append_assoc] at this ⊢
        exact ⟨this.1, by omega, this.2.2.1, this.2.2.2⟩
      · rw [if_neg c2]
        have hP : (V.take (j - i)).length = j - i := by simp; omega
        have hQ : (V.drop (j - i)).length = i := by simp; omega
        have e := swapL_parts X U (V.take (j - i)) (V.drop (j - i)) Y (a := m - i) (b := m + j - i) (n := i) (by omega) hU hQ (by omega)
        rw [← List.append_assoc (V.take (j - i)) (V.drop (j - i)), List.take_append_drop] at e
        rw [e]
        have := ih X (V.drop (j - i)) (V.take (j - i)) (U ++ Y) i (j - i) (by omega) h2 (by omega) hQ hP hm (by rw [hT, ← List.append_assoc (V.take (j - i)) (V.drop (j - i)), List.take_append_drop])
        exact ⟨this.1, this.2.1, by omega, this.2.2.2⟩
theorem rotL_parts (X U V Y : List α) {a m b : Nat} (ha : a = X.length) (hm : m = X.length + U.length) (hb : b = X.length + U.length + V.length) (h1 : 0 < U.length) (h2 : 0 < V.length) : rotL a m b (X ++ (U ++ (V ++ Y))) = X ++ (V ++ (U ++ Y)) := by
  have e1 : m - a = U.length := by omega
  have e2 : b - m = V.length := by omega
  unfold rotL
  rw [e1, e2]
  exact (rotS_parts m _ _ X U V Y U.length V.length (by omega) h1 h2 rfl rfl hm rfl).2.2.2.2
def bsr (p : Nat → Bool) : Nat → Nat → Nat → Nat
  | 0, lo, _ => lo
  | r + 1, lo, hi => if lo < hi then if p ((lo + hi) / 2) = true then bsr p r ((lo + hi) / 2 + 1) hi else bsr p r lo ((lo + hi) / 2) else lo
theorem bsr_spec (p : Nat → Bool) (r : Nat) : ∀ (lo hi : Nat), hi - lo ≤ r → lo ≤ hi → lo ≤ bsr p r lo hi ∧ bsr p r lo hi ≤ hi ∧ (lo < bsr p r lo hi → p (bsr p r lo hi - 1) = true) ∧ (bsr p r lo hi < hi → p (bsr p r lo hi) = false) := by
  induction r with
  | zero =>
    intro lo hi h1 h2
    simp only [bsr]
    exact ⟨Nat.le_refl _, h2, fun h => by omega, fun h => by omega⟩
  | succ r ih =>
    intro lo hi h1 h2
    simp only [bsr]
    by_cases c : lo < hi
    · rw [if_pos c]
      by_cases d : p ((lo + hi) / 2) = true
      · rw [if_pos d]
        obtain ⟨k1, k2, k3, k4⟩ := ih ((lo + hi) / 2 + 1) hi (by omega) (by omega)
        refine ⟨by omega, k2, fun _ => ?_, k4⟩
        rcases Nat.lt_or_ge ((lo + hi) / 2 + 1) (bsr p r ((lo + hi) / 2 + 1) hi) with h | h
        · exact k3 h
        · have : bsr p r ((lo + hi) / 2 + 1) hi = (lo + hi) / 2 + 1 := by omega
          rw [this]; simpa using d
      · rw [if_neg d]
        obtain ⟨k1, k2, k3, k4⟩ := ih lo ((lo + hi) / 2) (by omega) (by omega)
        refine ⟨k1, by omega, k3, fun _ => ?_⟩
        rcases Nat.lt_or_ge (bsr p r lo ((lo + hi) / 2)) ((lo + hi) / 2) with h | h
        · exact k4 h
        · have : bsr p r lo ((lo + hi) / 2) = (lo + hi) / 2 := by omega
          rw [this]; simpa using d
    · rw [if_neg c]
      exact ⟨Nat.le_refl _, h2, fun h => by omega, fun h => by omega⟩
def mgL (lt : α → α → Bool) : Nat → List α → List α → List α
  | 0, L, R => L ++ R
  | _ + 1, [], R => R
  | _ + 1, L, [] => L
  | n + 1, x :: L, y :: R => if lt y x = true then y :: mgL lt n (x :: L) R else x :: mgL lt n L (y :: R)
def mg (lt : α → α → Bool) (L R : List α) : List α := mgL lt (L.length + R.length) L R
theorem mg_nil_l (lt : α → α → Bool) (R : List α) : mg lt [] R = R := by
  unfold mg; cases h : ([] : List α).length + R.length <;> simp [mgL]
theorem mg_nil_r (lt : α → α → Bool) (L : List α) : mg lt L [] = L := by
  unfold mg
  cases L with
  | nil => simp [mgL]
  | cons x L => simp [mgL]
theorem mg_cons (lt : α → α → Bool) (x y : α) (L R : List α) : mg lt (x :: L) (y :: R) = if lt y x = true then y :: mg lt (x :: L) R else x :: mg lt L (y :: R) := by
  unfold mg
  have h1 : (x :: L).length + (y :: R).length = ((x :: L).length + R.length) + 1 := by simp; omega
  have h2 : L.length + (y :: R).length = (x :: L).length + R.length := by simp; omega
  rw [h1, h2]
  rfl
theorem mg_split (lt : α → α → Bool) {L2 R2 : List α} (n : Nat) : ∀ (L1 R1 : List α), L1.length + R1.length ≤ n → (∀ x ∈ L2, ∀ y ∈ R1, lt y x = true) → (∀ x ∈ L1, ∀ y ∈ R2, lt y x = false) → mg lt (L1 ++ L2) (R1 ++ R2) = mg lt L1 R1 ++ mg lt L2 R2 := by
  induction n with
  | zero =>
    intro L1 R1 h _ _
    obtain rfl : L1 = [] := List.eq_nil_of_length_eq_zero (by omega)
    obtain rfl : R1 = [] := List.eq_nil_of_length_eq_zero (by omega)
    rw [mg_nil_l]; rfl
  | succ n ih =>
    intro L1 R1 h h1 h2
    cases L1 with
    | nil =>
      cases R1 with
      | nil => rw [mg_nil_l]; rfl
      | cons y R1 =>
        have := ih [] R1 (by simp at h ⊢; omega) (fun x hx y' hy' => h1 x hx y' (List.mem_cons_of_mem _ hy')) (fun x hx => by simp at hx)
        rw [mg_nil_l] at this ⊢
        simp only [List.nil_append, List.cons_append] at this ⊢
        cases L2 with
        | nil => rw [mg_nil_l, mg_nil_l]
        | cons x L2 => rw [mg_cons, if_pos (h1 x (by simp) y (by simp)), this]
    | cons x L1 =>
      cases R1 with
      | nil =>
        have := ih L1 [] (by simp at h ⊢; omega) (fun x hx y' hy' => by simp at hy') (fun x' hx' y hy => h2 x' (List.mem_cons_of_mem _ hx') y hy)
        rw [mg_nil_r] at this ⊢
        simp only [List.nil_append, List.cons_append] at this ⊢
        cases R2 with
        | nil => rw [mg_nil_r, mg_nil_r]
        | cons y R2 => rw [mg_cons, if_neg (by rw [h2 x (by simp) y (by simp)]; simp), this]
      | cons y R1 =>
        simp only [List.cons_append]
        rw [mg_cons, mg_cons]
        have k1 := ih (x :: L1) R1 (by simp at h ⊢; omega) (fun x hx y' hy' => h1 x hx y' (List.mem_cons_of_mem _ hy')) h2
        have k2 := ih L1 (y :: R1) (by simp at h ⊢; omega) h1 (fun x' hx' y hy => h2 x' (List.mem_cons_of_mem _ hx') y hy)
        simp only [List.cons_append] at k1 k2
        split
        · rw [k1]; rfl
        · rw [k2]; rfl
theorem mg_perm (lt : α → α → Bool) (n : Nat) : ∀ (L R : List α), L.length + R.length ≤ n → List.Perm (mg lt L R) (L ++ R) := by
  induction n with
  | zero =>
    intro L R h
    obtain rfl : L = [] := List.eq_nil_of_length_eq_zero (by omega)
    obtain rfl : R = [] := List.eq_nil_of_length_eq_zero (by omega)
    rw [mg_nil_l]; exact .refl _
  | succ n ih =>
    intro L R h
    cases L with
    | nil => rw [mg_nil_l]; exact .refl _
    | cons x L =>
      cases R with
      | nil => rw [mg_nil_r]; simp
      | cons y R =>
        rw [mg_cons]
        split
        · refine (List.Perm.cons y (ih (x :: L) R (by simp at h ⊢; omega))).trans ?_
          exact (List.perm_middle (a := y) (l₁ := x :: L) (l₂ := R)).symm
        · exact List.Perm.cons x (ih L (y :: R) (by simp at h ⊢; omega))
theorem mg_len (lt : α → α → Bool) (L R : List α) : (mg lt L R).length = L.length + R.length := by
  have := (mg_perm lt _ L R (Nat.le_refl _)).length_eq
  simpa using this
end
end Go.Proofs.Ytcmfnfkahdconaa.AM

set_option maxRecDepth 100000
set_option linter.unusedVariables false
set_option linter.unusedSimpArgs false
namespace Go.Proofs.Ytcmfnfkahdconaa.AM
open Go Go.Proofs.Ytcmfnfkahdconaa
attribute [local irreducible] ACalls funT codeT codeQ LoopTo
attribute [local irreducible] Tp.card Tp.cardT Tp.next Tp.step Tp.cards Tp.cardsT Tp.key Tp.keyT sink insSort sortK insK posK beforeK onceStep onceS sortP cmpK
theorem half_nat {n h : Nat} (hn : n < 4611686018427387904) (hh : h = n / 2) : IntKind.i64.wrap (Int.fdiv (IntKind.u64.wrap ((n : Nat) : Int)) (2 ^ (min (Int.toNat 1) 64))) = ((h : Nat) : Int) := by
  have h1 : IntKind.u64.wrap ((n : Nat) : Int) = ((n : Nat) : Int) := by simp [IntKind.wrap, IntKind.signed, IntKind.bits]; omega
  have h2 : (2 : Int) ^ (min (Int.toNat 1) 64) = 2 := rfl
  rw [h1, h2, Int.fdiv_eq_ediv_of_nonneg _ ow, IntKind.wrap_i64]
  omega
section
variable {α : Type} [Inhabited α]
def ltF (cmp : α → α → Int) (x y : α) : Bool := decide (cmp x y < 0)
def mAt (lt : α → α → Bool) (a m b : Nat) (l : List α) : List α := l.take a ++ (mg lt ((l.drop a).take (m - a)) ((l.drop m).take (b - m)) ++ l.drop b)
def shU (r k : Nat) (l : List α) : List α := iter (fun k l => (l.set k (nth l (k + 1))).set (k + 1) (nth l k)) r k l
def shD : Nat → Nat → List α → List α
  | 0, _, l => l
  | r + 1, k, l => shD r (k - 1) ((l.set k (nth l (k - 1))).set (k - 1) (nth l k))
end
end Go.Proofs.Ytcmfnfkahdconaa.AM

set_option linter.unusedVariables false
set_option linter.unusedSimpArgs false
set_option linter.unusedSectionVars false
namespace Go.Proofs.Ytcmfnfkahdconaa.AM
open Go
section
variable {α : Type} [Inhabited α]
theorem swap1 (X : List α) (x y : α) (Z : List α) {k : Nat} (hk : k = X.length) : ((X ++ x :: y :: Z).set k (nth (X ++ x :: y :: Z) (k + 1))).set (k + 1) (nth (X ++ x :: y :: Z) k) = X ++ y :: x :: Z := by
  have := swapL_parts X [x] [] [y] Z (a := k) (b := k + 1) (n := 1) hk rfl rfl (by simp; omega)
  simpa [swapL, iter] using this
theorem shU_parts (x : α) (R : List α) : ∀ (X Y : List α) (k : Nat), k = X.length → shU R.length k (X ++ x :: (R ++ Y)) = X ++ (R ++ x :: Y) := by
  induction R with
  | nil => intro X Y k hk; rfl
  | cons y R ih =>
    intro X Y k hk
    have h1 : shU (y :: R).length k (X ++ x :: ((y :: R) ++ Y)) = shU R.length (k + 1) (((X ++ x :: y :: (R ++ Y)).set k (nth (X ++ x :: y :: (R ++ Y)) (k + 1))).set (k + 1) (nth (X ++ x :: y :: (R ++ Y)) k)) := rfl
    rw [h1, swap1 X x y (R ++ Y) hk]
    have := ih (X ++ [y]) Y (k + 1) (by simp [hk])
    simpa using this
theorem shD_parts (y : α) (r : Nat) : ∀ (X L Y : List α) (k : Nat), L.length = r → k = X.length + r → shD r k (X ++ (L ++ y :: Y)) = X ++ y :: (L ++ Y) := by
  induction r with
  | zero =>
    intro X L Y k hL hk
    obtain rfl : L = [] := List.eq_nil_of_length_eq_zero hL
    rfl
  | succ r ih =>
    intro X L Y k hL hk
    rcases List.eq_nil_or_concat L with rfl | ⟨L', z, rfl⟩
    · simp at hL
    · rw [List.concat_eq_append] at *
      have hL' : L'.length = r := by simpa using hL
      simp only [shD]
      have e0 : X ++ ((L' ++ [z]) ++ y :: Y) = (X ++ L') ++ z :: y :: Y := by simp
      obtain ⟨k', rfl⟩ : ∃ k', k = k' + 1 := ⟨k - 1, by omega⟩
      rw [e0, Nat.add_sub_cancel, List.set_comm _ _ (by omega), swap1 (X ++ L') z y Y (k := k') (by simp; omega)]
      have := ih X L' (z :: Y) k' hL' (by omega)
      simpa using this
theorem piece (A L Z : List α) {a k : Nat} (ha : a = A.length) (hk : k = L.length) : ((A ++ (L ++ Z)).drop a).take k = L := by
  subst ha hk
  rw [List.drop_append_of_le_length (Nat.le_refl _), List.drop_length, List.nil_append, List.take_append_of_le_length (Nat.le_refl _), List.take_length]
theorem mAt_parts (lt : α → α → Bool) (A L R B : List α) {a m b : Nat} (ha : a = A.length) (hm : m = A.length + L.length) (hb : b = A.length + L.length + R.length) : mAt lt a m b (A ++ (L ++ (R ++ B))) = A ++ (mg lt L R ++ B) := by
  unfold mAt
  have h1 : (A ++ (L ++ (R ++ B))).take a = A := by subst ha; rw [List.take_append_of_le_length (Nat.le_refl _), List.take_length]
  have h2 : ((A ++ (L ++ (R ++ B))).drop a).take (m - a) = L := piece A L (R ++ B) ha (by omega)
  have h3 : ((A ++ (L ++ (R ++ B))).drop m).take (b - m) = R := by
    have := piece (A ++ L) R B (a := m) (k := b - m) (by simp; omega) (by omega)
    simpa using this
  have h4 : (A ++ (L ++ (R ++ B))).drop b = B := by
    have e : A ++ (L ++ (R ++ B)) = (A ++ (L ++ R)) ++ B := by simp
    rw [e, List.drop_append_of_le_length (by simp; omega), List.drop_of_length_le (by simp; omega), List.nil_append]
  rw [h1, h2, h3, h4]
theorem sm1 (A L1 L2 R1 R2 B : List α) {l : List α} (hl : l = A ++ (L1 ++ (L2 ++ (R1 ++ (R2 ++ B))))) {s m e : Nat} (hs : s = A.length + L1.length) (hm : m = s + L2.length) (he : e = m + R1.length) :
    (if s < m ∧ m < e then rotL s m e l else l) = A ++ (L1 ++ (R1 ++ (L2 ++ (R2 ++ B)))) := by
  subst hl
  split
  · rename_i h
    have := rotL_parts (A ++ L1) L2 R1 (R2 ++ B) (a := s) (m := m) (b := e) (by simp; omega) (by simp; omega) (by simp; omega) (by omega) (by omega)
    simpa using this
  · rename_i h
    rcases Nat.eq_zero_or_pos L2.length with h1 | h1
    · obtain rfl : L2 = [] := List.eq_nil_of_length_eq_zero h1
      rfl
    · obtain rfl : R1 = [] := List.eq_nil_of_length_eq_zero (by omega)
      rfl
theorem sm2 (lt : α → α → Bool) (A L1 R1 Z : List α) {a s mid : Nat} (ha : a = A.length) (hs : s = a + L1.length) (hmid : mid = s + R1.length) :
    (if a < s ∧ s < mid then mAt lt a s mid (A ++ (L1 ++ (R1 ++ Z))) else A ++ (L1 ++ (R1 ++ Z))) = A ++ (mg lt L1 R1 ++ Z) := by
  split
  · exact mAt_parts lt A L1 R1 Z ha (by omega) (by omega)
  · rename_i h
    rcases Nat.eq_zero_or_pos L1.length with h1 | h1
    · obtain rfl : L1 = [] := List.eq_nil_of_length_eq_zero h1
      rw [mg_nil_l]; rfl
    · obtain rfl : R1 = [] := List.eq_nil_of_length_eq_zero (by omega)
      rw [mg_nil_r]; rfl
theorem sm3 (lt : α → α → Bool) (A M L2 R2 B : List α) {mid e b : Nat} (hm : mid = A.length + M.length) (he : e = mid + L2.length) (hb : b = e + R2.length) :
    (if mid < e ∧ e < b then mAt lt mid e b (A ++ (M ++ (L2 ++ (R2 ++ B)))) else A ++ (M ++ (L2 ++ (R2 ++ B)))) = A ++ (M ++ (mg lt L2 R2 ++ B)) := by
  have := sm2 lt (A ++ M) L2 R2 B (a := mid) (s := e) (mid := b) (by simp; omega) he hb
  simpa using this
theorem rot_facts (X U V Y : List α) {l : List α} (hl : l = X ++ (U ++ (V ++ Y))) {a m b : Nat} (ha : a = X.length) (hm : m = a + U.length) (hb : b = m + V.length) (h1 : 0 < U.length) (h2 : 0 < V.length) :
    (rotS m (m - a + (b - m)) (m - a) (b - m) l).1.length = l.length ∧ (rotS m (m - a + (b - m)) (m - a) (b - m) l).2 ≤ m - a ∧ (rotS m (m - a + (b - m)) (m - a) (b - m) l).2 ≤ b - m := by
  have e1 : m - a = U.length := by omega
  have e2 : b - m = V.length := by omega
  rw [e1, e2, hl]
  obtain ⟨_, k2, k3, k4, _⟩ := rotS_parts m _ (U.length + V.length) X U V Y U.length V.length (by omega) h1 h2 rfl rfl (by omega) rfl
  exact ⟨by rw [k4]; simp; omega, k2, k3⟩
end
end Go.Proofs.Ytcmfnfkahdconaa.AM
