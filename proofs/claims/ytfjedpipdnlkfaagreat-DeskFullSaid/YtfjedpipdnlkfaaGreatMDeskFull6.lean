/-
  Texts of this claim, part 6 of 7: an abstract machine over the model; what functions come to; plain laws.
-/
import Derived.Test.YtfjedpipdnlkfaaGreatMDeskFull5
set_option maxRecDepth 100000
set_option linter.unusedVariables false
set_option linter.unusedSimpArgs false
namespace Go.Proofs.YtfjedpipdnlkfaaGreat.AM
open Go Go.Proofs.YtfjedpipdnlkfaaGreat
attribute [local irreducible] ACalls funT codeT codeQ LoopTo
attribute [local irreducible] cmpSt maxS nextS setA setG putE putL putG getE findB regE renewE cancelE overE givC givS regQ regC regR regL regG regA regGa regS
def tu4N_ann : Ann := { refs := [4], gha := [(6, .any 6 9), (8, .any 6 9), (12, .any 6 9)], base := 6, fin := some 6 }
@[simp] abbrev Yc_o1 (v1_ : Nat) (v2_ : List Entry) : Ob := ⟨0, 2, [[(AV.int .i64 (capM 32)), (AV.osl 1 v1_ 10 0 (List.length v2_))]], none⟩
@[simp] abbrev Yc_o2 (v1_ : Int) (v2_ : Int) (v3_ : Int) : Ob := ⟨0, 3, [[(AV.int .i64 v1_), (AV.int .i64 v2_), (AV.int .i64 v3_)]], none⟩
@[simp] abbrev Yc_o3 (v1_ : List Key) (v2_ : Nat) : Ob := ⟨0, 2, [[(AV.int .i64 (((List.length v1_) : Nat) : Int)), (AV.osl 4 v2_ 2 0 (List.length (recL v1_)))]], none⟩
@[simp] abbrev Yc_o4 (v1_ : Int) (v2_ : Stamp) : Ob := ⟨0, 7, [[(AV.int .i64 v1_), (AV.int .i64 v2_.t), (AV.int .i64 v2_.node), (AV.int .i64 v2_.n), (AV.obj 0 0 0 0), (AV.obj 2 0 0 0), (AV.obj 3 0 0 0)]], none⟩
@[simp] abbrev Yc_1 (v1_ : Nat) (v2_ : List Entry) (v3_ : Int) (v4_ : Int) (v5_ : Int) (v6_ : List Key) (v7_ : Nat) (v8_ : Int) (v9_ : Stamp) : Heap := [Yc_o1 v1_ v2_, ⟨v1_, 10, (List.map Entry.row v2_), none⟩, Yc_o2 v3_ v4_ v5_, Yc_o3 v6_ v7_, ⟨v7_, 2, (List.map Key.row (recL v6_)), none⟩, Yc_o4 v8_ v9_]
@[simp] abbrev Yc_o5  : Ob := ⟨0, 10, [[(AV.str ⟨#[]⟩), (AV.str ⟨#[]⟩), (AV.int .i64 0), (AV.int .i64 0), (AV.int .i64 0), (AV.int .i64 0), (AV.int .i64 0), (AV.int .i64 0), (AV.bool false), (AV.int .i64 0)]], none⟩
@[simp] abbrev Yc_2 (v1_ : Int) (v2_ : Int) (v3_ : Int) (v4_ : List Key) (v5_ : Nat) (v6_ : Int) (v7_ : Stamp) : Heap := [Yc_o2 v1_ v2_ v3_, Yc_o3 v4_ v5_, ⟨v5_, 2, (List.map Key.row (recL v4_)), none⟩, Yc_o4 v6_ v7_, Yc_o5]
@[simp] abbrev Yc_3 (v1_ : Nat) (v2_ : List Entry) (v3_ : Int) (v4_ : Int) (v5_ : Int) (v6_ : List Key) (v7_ : Nat) (v8_ : Int) (v9_ : Stamp) (v10_ : Msg) : Heap := [Yc_o1 v1_ v2_, ⟨v1_, 10, (List.map Entry.row v2_), none⟩, Yc_o2 v3_ v4_ v5_, Yc_o3 v6_ v7_, ⟨v7_, 2, (List.map Key.row (recL v6_)), none⟩, Yc_o4 v8_ v9_, ⟨0, 10, [(Entry.row (getE v2_ v10_.key))], none⟩]
set_option maxRecDepth 100000 in
theorem tu4N_spec (l : List Entry) (g : Nat) (al : List Key) (ga : Nat) (gf gl gt nd : Int) (st : Stamp) (q : Msg) (now : Int) (hl : l.length < 1000) (ha : al.length < 100000) (hgt : 0 ≤ gt ∧ gt < 4611686018427387904) (ho : q.op = 4) (hs : 3 < q.status) : ACalls Tryz.prog 55 [(AV.obj 5 0 0 0), (AV.agg (Msg.row q)), (AV.int .i64 now)] (Yc_1 g l gf gl gt al ga nd st) ((AV.tup [(AV.sl .any 9 (List.map Card.row ([] : List Card))), (AV.int .i64 1)]), (Yc_1 g l gf gl gt al ga nd st)) :=
  specO (fn := Tryz.f55) (ann := tu4N_ann) (Has.o Tryz.func55) (.r (.g (.r (.c 6 (get_at (capM 32) l q.key g (List.length l) oa oa (Yc_2 gf gl gt al ga nd st)) (.g (.r (.two (findB l q.key) (fun h1 h1' => (.yes (.yes (.yes (.g (.r (.h' (Yc_3 g l gf gl gt al ga nd st q) (.y 2 (AV.bool (q.op == 1)) (AV.bool false) (Yes.bool (by rw [ho]; rfl)) (.g (.no (.r (.y 2 (AV.bool (q.op == 4)) (AV.bool true) (Yes.bool (by rw [ho]; rfl)) (.yes (.yes (.yes (.y 6 (AV.bool (decide (q.status > 3))) (AV.bool true) (Yes.bool (decide_eq_true ow)) (.g (.yes (.r (.g (.h' (Yc_1 g l gf gl gt al ga nd st) (.f 6 (AV.tup [(AV.sl .any 9 []), (AV.int .i64 1)]) (.e (AV.tup [(AV.sl .any 9 []), (AV.int .i64 1)])))))))))))))))))))))))) (fun h1 h1' => (.no (.no (.no (.g (.r (.h' (Yc_3 g l gf gl gt al ga nd st q) (.y 2 (AV.bool (q.op == 1)) (AV.bool false) (Yes.bool (by rw [ho]; rfl)) (.g (.no (.r (.y 2 (AV.bool (q.op == 4)) (AV.bool true) (Yes.bool (by rw [ho]; rfl)) (.yes (.yes (.yes (.y 6 (AV.bool (decide (q.status > 3))) (AV.bool true) (Yes.bool (decide_eq_true ow)) (.g (.yes (.r (.g (.h' (Yc_1 g l gf gl gt al ga nd st) (.f 6 (AV.tup [(AV.sl .any 9 []), (AV.int .i64 1)]) (.e (AV.tup [(AV.sl .any 9 []), (AV.int .i64 1)])))))))))))))))))))))))))))))))
def tu3_ann : Ann := { refs := [4], gha := [(6, .any 6 9), (8, .any 6 9), (12, .any 6 9)], base := 6, fin := some 6 }
@[simp] abbrev Yc_4 (v1_ : List Entry) (v2_ : Msg) (v3_ : Stamp) (v4_ : Int) (v5_ : Int) (v6_ : Nat) (v7_ : Int) (v8_ : Int) (v9_ : Int) (v10_ : List Key) (v11_ : Nat) : Heap := [⟨0, 2, [[(AV.int .i64 (capM 32)), (AV.osl 1 (putG (capM 32) v1_ (cancelE (getE v1_ v2_.key) (nextS (maxS v3_ (getE v1_ v2_.key).card.stamp) v4_ v5_) v4_) v6_) 10 0 (List.length (putL (capM 32) v1_ (cancelE (getE v1_ v2_.key) (nextS (maxS v3_ (getE v1_ v2_.key).card.stamp) v4_ v5_) v4_))))]], none⟩, ⟨(putG (capM 32) v1_ (cancelE (getE v1_ v2_.key) (nextS (maxS v3_ (getE v1_ v2_.key).card.stamp) v4_ v5_) v4_) v6_), 10, (List.map Entry.row (putL (capM 32) v1_ (cancelE (getE v1_ v2_.key) (nextS (maxS v3_ (getE v1_ v2_.key).card.stamp) v4_ v5_) v4_))), none⟩, Yc_o2 v7_ v8_ v9_, ⟨0, 2, [[(AV.int .i64 (((List.length (setA v1_ (cancelE (getE v1_ v2_.key) (nextS (maxS v3_ (getE v1_ v2_.key).card.stamp) v4_ v5_) v4_) v10_)) : Nat) : Int)), (AV.osl 4 (setG v1_ (cancelE (getE v1_ v2_.key) (nextS (maxS v3_ (getE v1_ v2_.key).card.stamp) v4_ v5_) v4_) v11_) 2 0 (List.length (recL (setA v1_ (cancelE (getE v1_ v2_.key) (nextS (maxS v3_ (getE v1_ v2_.key).card.stamp) v4_ v5_) v4_) v10_))))]], none⟩, ⟨(setG v1_ (cancelE (getE v1_ v2_.key) (nextS (maxS v3_ (getE v1_ v2_.key).card.stamp) v4_ v5_) v4_) v11_), 2, (List.map Key.row (recL (setA v1_ (cancelE (getE v1_ v2_.key) (nextS (maxS v3_ (getE v1_ v2_.key).card.stamp) v4_ v5_) v4_) v10_))), none⟩, ⟨0, 7, [[(AV.int .i64 v5_), (AV.int .i64 (givS v1_ (cancelE (getE v1_ v2_.key) (nextS (maxS v3_ (getE v1_ v2_.key).card.stamp) v4_ v5_) v4_) v3_).t), (AV.int .i64 (givS v1_ (cancelE (getE v1_ v2_.key) (nextS (maxS v3_ (getE v1_ v2_.key).card.stamp) v4_ v5_) v4_) v3_).node), (AV.int .i64 (givS v1_ (cancelE (getE v1_ v2_.key) (nextS (maxS v3_ (getE v1_ v2_.key).card.stamp) v4_ v5_) v4_) v3_).n), (AV.obj 0 0 0 0), (AV.obj 2 0 0 0), (AV.obj 3 0 0 0)]], none⟩]
@[simp] abbrev Yc_5 (v1_ : Nat) (v2_ : List Entry) (v3_ : Int) (v4_ : Int) (v5_ : Int) (v6_ : List Key) (v7_ : Nat) (v8_ : Int) (v9_ : Stamp) (v10_ : Msg) : Heap := [Yc_o1 v1_ v2_, ⟨v1_, 10, (List.map Entry.row v2_), none⟩, Yc_o2 v3_ v4_ v5_, Yc_o3 v6_ v7_, ⟨v7_, 2, (List.map Key.row (recL v6_)), none⟩, Yc_o4 v8_ v9_, ⟨0, 10, [(Entry.row (getE v2_ v10_.key))], none⟩, Yc_o5]
@[simp] abbrev Yc_6 (v1_ : Nat) (v2_ : List Entry) (v3_ : Int) (v4_ : Int) (v5_ : Int) (v6_ : List Key) (v7_ : Nat) (v8_ : Int) (v9_ : Stamp) (v10_ : Msg) (v11_ : Int) : Heap := [Yc_o1 v1_ v2_, ⟨v1_, 10, (List.map Entry.row v2_), none⟩, Yc_o2 v3_ v4_ v5_, Yc_o3 v6_ v7_, ⟨v7_, 2, (List.map Key.row (recL v6_)), none⟩, Yc_o4 v8_ v9_, ⟨0, 10, [(Entry.row (getE v2_ v10_.key))], none⟩, ⟨0, 10, [(Entry.row (cancelE (getE v2_ v10_.key) (nextS (maxS v9_ (getE v2_ v10_.key).card.stamp) v11_ v8_) v11_))], none⟩]
set_option maxRecDepth 100000 in
theorem tu3_spec (l : List Entry) (g : Nat) (al : List Key) (ga : Nat) (gf gl gt nd : Int) (st : Stamp) (q : Msg) (now : Int) (hl : l.length < 1000) (ha : al.length < 100000) (hgt : 0 ≤ gt ∧ gt < 4611686018427387904) (ho : q.op = 3) (hf : findB l q.key = true) (hg : (getE l q.key).card.gone = false) : ACalls Tryz.prog 55 [(AV.obj 5 0 0 0), (AV.agg (Msg.row q)), (AV.int .i64 now)] (Yc_1 g l gf gl gt al ga nd st) ((AV.tup [(AV.sl .any 9 (List.map Card.row (givC l (cancelE (getE l q.key) (nextS (maxS st (getE l q.key).card.stamp) now nd) now)))), (AV.int .i64 (putE (capM 32) l (cancelE (getE l q.key) (nextS (maxS st (getE l q.key).card.stamp) now nd) now)))]), (Yc_4 l q st now nd g gf gl gt al ga)) :=
  specO (fn := Tryz.f55) (ann := tu3_ann) (Has.o Tryz.func55) (.r (.g (.r (.c 6 (get_at (capM 32) l q.key g (List.length l) oa oa (Yc_2 gf gl gt al ga nd st)) (.g (.r (.h' (Yc_3 g l gf gl gt al ga nd st q) (.y 0 (AV.bool (findB l q.key)) (AV.bool true) (Yes.bool (hf)) (.yes (.yes (.yes (.y 4 (AV.bool (getE l q.key).card.gone) (AV.bool false) (Yes.bool (hg)) (.yes (.g (.r (.y 2 (AV.bool (q.op == 1)) (AV.bool false) (Yes.bool (by rw [ho]; rfl)) (.g (.no (.r (.y 2 (AV.bool (q.op == 4)) (AV.bool false) (Yes.bool (by rw [ho]; rfl)) (.no (.no (.no (.g (.no (.r (.g (.no (.r (.y 2 (AV.bool (q.op == 2)) (AV.bool false) (Yes.bool (by rw [ho]; rfl)) (.g (.no (.r (.c 5 (ACalls.put2 [0, 1, 2, 3, 4, 5] (Yc_5 g l gf gl gt al ga nd st q) (AV.agg (Stamp.row (nextS (maxS st (getE l q.key).card.stamp) now nd))) (Yc_5 g l gf gl gt al ga nd st q) (dnext_spec l g al ga gf gl gt nd st (getE l q.key).card now ) (⟨rfl, ⟨Ob.ren0 (Entry.rows_bdd 0 _), ⟨rfl, ⟨rfl, ⟨Ob.ren0 (Key.rows_bdd 0 _), ⟨rfl, trivial⟩⟩⟩⟩⟩⟩) (⟨rfl, ⟨Ob.ren0 (Entry.rows_bdd 0 _), ⟨rfl, ⟨rfl, ⟨Ob.ren0 (Key.rows_bdd 0 _), ⟨rfl, trivial⟩⟩⟩⟩⟩⟩)) (.c 7 (lcancel_at (getE l q.key) (nextS (maxS st (getE l q.key).card.stamp) now nd) now oa (Yc_5 g l gf gl gt al ga nd st q)) (.rd (AV.agg (Entry.row (getE l q.key))) (Yc_5 g l gf gl gt al ga nd st q) (.g (.r (.h' (Yc_6 g l gf gl gt al ga nd st q now) (.y 2 (AV.bool (q.op == 4)) (AV.bool false) (Yes.bool (by rw [ho]; rfl)) (.g (.no (.r (.ch 2 ([⟨0, 2, [[(AV.int .i64 (capM 32)), (AV.osl 1 (putG (capM 32) l (cancelE (getE l q.key) (nextS (maxS st (getE l q.key).card.stamp) now nd) now) g) 10 0 (List.length (putL (capM 32) l (cancelE (getE l q.key) (nextS (maxS st (getE l q.key).card.stamp) now nd) now))))]], none⟩, ⟨(putG (capM 32) l (cancelE (getE l q.key) (nextS (maxS st (getE l q.key).card.stamp) now nd) now) g), 10, (List.map Entry.row (putL (capM 32) l (cancelE (getE l q.key) (nextS (maxS st (getE l q.key).card.stamp) now nd) now))), none⟩, ⟨0, 3, [[(AV.int .i64 gf), (AV.int .i64 gl), (AV.int .i64 gt)]], none⟩, ⟨0, 2, [[(AV.int .i64 (((List.length (setA l (cancelE (getE l q.key) (nextS (maxS st (getE l q.key).card.stamp) now nd) now) al)) : Nat) : Int)), (AV.osl 4 (setG l (cancelE (getE l q.key) (nextS (maxS st (getE l q.key).card.stamp) now nd) now) ga) 2 0 (List.length (recL (setA l (cancelE (getE l q.key) (nextS (maxS st (getE l q.key).card.stamp) now nd) now) al))))]], none⟩, ⟨(setG l (cancelE (getE l q.key) (nextS (maxS st (getE l q.key).card.stamp) now nd) now) ga), 2, (List.map Key.row (recL (setA l (cancelE (getE l q.key) (nextS (maxS st (getE l q.key).card.stamp) now nd) now) al))), none⟩, ⟨0, 7, [[(AV.int .i64 nd), (AV.int .i64 (givS l (cancelE (getE l q.key) (nextS (maxS st (getE l q.key).card.stamp) now nd) now) st).t), (AV.int .i64 (givS l (cancelE (getE l q.key) (nextS (maxS st (getE l q.key).card.stamp) now nd) now) st).node), (AV.int .i64 (givS l (cancelE (getE l q.key) (nextS (maxS st (getE l q.key).card.stamp) now nd) now) st).n), (AV.obj 0 0 0 0), (AV.obj 2 0 0 0), (AV.obj 3 0 0 0)]], none⟩, ⟨0, 10, [(Entry.row (getE l q.key))], none⟩, ⟨0, 10, [(Entry.row (cancelE (getE l q.key) (nextS (maxS st (getE l q.key).card.stamp) now nd) now))], none⟩] : Heap) (dgive_at l g al ga gf gl gt nd st (cancelE (getE l q.key) (nextS (maxS st (getE l q.key).card.stamp) now nd) now) oa oa ([⟨0, 10, [(Entry.row (getE l q.key))], none⟩, ⟨0, 10, [(Entry.row (cancelE (getE l q.key) (nextS (maxS st (getE l q.key).card.stamp) now nd) now))], none⟩] : Heap)) (.g (.h' (Yc_4 l q st now nd g gf gl gt al ga) (.f 6 (AV.tup [(AV.sl .any 9 (List.map Card.row (givC l (cancelE (getE l q.key) (nextS (maxS st (getE l q.key).card.stamp) now nd) now)))), (AV.int .i64 (putE (capM 32) l (cancelE (getE l q.key) (nextS (maxS st (getE l q.key).card.stamp) now nd) now)))]) (.e (AV.tup [(AV.sl .any 9 (List.map Card.row (givC l (cancelE (getE l q.key) (nextS (maxS st (getE l q.key).card.stamp) now nd) now)))), (AV.int .i64 (putE (capM 32) l (cancelE (getE l q.key) (nextS (maxS st (getE l q.key).card.stamp) now nd) now)))])))))))))))))))))))))))))))))))))))))))))))))))))
def tu4_ann : Ann := { refs := [4], gha := [(6, .any 6 9), (8, .any 6 9), (12, .any 6 9)], base := 6, fin := some 6 }
@[simp] abbrev Yc_7 (v1_ : List Entry) (v2_ : Msg) (v3_ : Stamp) (v4_ : Int) (v5_ : Int) (v6_ : Nat) (v7_ : Int) (v8_ : Int) (v9_ : Int) (v10_ : List Key) (v11_ : Nat) : Heap := [⟨0, 2, [[(AV.int .i64 (capM 32)), (AV.osl 1 (putG (capM 32) v1_ (overE (getE v1_ v2_.key) v2_.status (nextS (maxS v3_ (getE v1_ v2_.key).card.stamp) v4_ v5_)) v6_) 10 0 (List.length (putL (capM 32) v1_ (overE (getE v1_ v2_.key) v2_.status (nextS (maxS v3_ (getE v1_ v2_.key).card.stamp) v4_ v5_)))))]], none⟩, ⟨(putG (capM 32) v1_ (overE (getE v1_ v2_.key) v2_.status (nextS (maxS v3_ (getE v1_ v2_.key).card.stamp) v4_ v5_)) v6_), 10, (List.map Entry.row (putL (capM 32) v1_ (overE (getE v1_ v2_.key) v2_.status (nextS (maxS v3_ (getE v1_ v2_.key).card.stamp) v4_ v5_)))), none⟩, Yc_o2 v7_ v8_ v9_, ⟨0, 2, [[(AV.int .i64 (((List.length (setA v1_ (overE (getE v1_ v2_.key) v2_.status (nextS (maxS v3_ (getE v1_ v2_.key).card.stamp) v4_ v5_)) v10_)) : Nat) : Int)), (AV.osl 4 (setG v1_ (overE (getE v1_ v2_.key) v2_.status (nextS (maxS v3_ (getE v1_ v2_.key).card.stamp) v4_ v5_)) v11_) 2 0 (List.length (recL (setA v1_ (overE (getE v1_ v2_.key) v2_.status (nextS (maxS v3_ (getE v1_ v2_.key).card.stamp) v4_ v5_)) v10_))))]], none⟩, ⟨(setG v1_ (overE (getE v1_ v2_.key) v2_.status (nextS (maxS v3_ (getE v1_ v2_.key).card.stamp) v4_ v5_)) v11_), 2, (List.map Key.row (recL (setA v1_ (overE (getE v1_ v2_.key) v2_.status (nextS (maxS v3_ (getE v1_ v2_.key).card.stamp) v4_ v5_)) v10_))), none⟩, ⟨0, 7, [[(AV.int .i64 v5_), (AV.int .i64 (givS v1_ (overE (getE v1_ v2_.key) v2_.status (nextS (maxS v3_ (getE v1_ v2_.key).card.stamp) v4_ v5_)) v3_).t), (AV.int .i64 (givS v1_ (overE (getE v1_ v2_.key) v2_.status (nextS (maxS v3_ (getE v1_ v2_.key).card.stamp) v4_ v5_)) v3_).node), (AV.int .i64 (givS v1_ (overE (getE v1_ v2_.key) v2_.status (nextS (maxS v3_ (getE v1_ v2_.key).card.stamp) v4_ v5_)) v3_).n), (AV.obj 0 0 0 0), (AV.obj 2 0 0 0), (AV.obj 3 0 0 0)]], none⟩]
set_option maxRecDepth 100000 in
theorem tu4_spec (l : List Entry) (g : Nat) (al : List Key) (ga : Nat) (gf gl gt nd : Int) (st : Stamp) (q : Msg) (now : Int) (hl : l.length < 1000) (ha : al.length < 100000) (hgt : 0 ≤ gt ∧ gt < 4611686018427387904) (ho : q.op = 4) (hs : q.status ≤ 3) (hs0 : 0 ≤ q.status) (hf : findB l q.key = true) (hg : (getE l q.key).card.gone = false) : ACalls Tryz.prog 55 [(AV.obj 5 0 0 0), (AV.agg (Msg.row q)), (AV.int .i64 now)] (Yc_1 g l gf gl gt al ga nd st) ((AV.tup [(AV.sl .any 9 (List.map Card.row (givC l (overE (getE l q.key) q.status (nextS (maxS st (getE l q.key).card.stamp) now nd))))), (AV.int .i64 (putE (capM 32) l (overE (getE l q.key) q.status (nextS (maxS st (getE l q.key).card.stamp) now nd))))]), (Yc_7 l q st now nd g gf gl gt al ga)) :=
  specO (fn := Tryz.f55) (ann := tu4_ann) (Has.o Tryz.func55) (.r (.g (.r (.c 6 (get_at (capM 32) l q.key g (List.length l) oa oa (Yc_2 gf gl gt al ga nd st)) (.g (.r (.h' (Yc_3 g l gf gl gt al ga nd st q) (.y 0 (AV.bool (findB l q.key)) (AV.bool true) (Yes.bool (hf)) (.yes (.yes (.yes (.y 4 (AV.bool (getE l q.key).card.gone) (AV.bool false) (Yes.bool (hg)) (.yes (.g (.r (.y 2 (AV.bool (q.op == 1)) (AV.bool false) (Yes.bool (by rw [ho]; rfl)) (.g (.no (.r (.y 2 (AV.bool (q.op == 4)) (AV.bool true) (Yes.bool (by rw [ho]; rfl)) (.yes (.yes (.yes (.y 6 (AV.bool (decide (q.status > 3))) (AV.bool false) (Yes.bool (decide_eq_false ow)) (.g (.no (.r (.g (.no (.r (.y 2 (AV.bool (q.op == 2)) (AV.bool false) (Yes.bool (by rw [ho]; rfl)) (.g (.no (.r (.c 5 (ACalls.put2 [0, 1, 2, 3, 4, 5] (Yc_5 g l gf gl gt al ga nd st q) (AV.agg (Stamp.row (nextS (maxS st (getE l q.key).card.stamp) now nd))) (Yc_5 g l gf gl gt al ga nd st q) (dnext_spec l g al ga gf gl gt nd st (getE l q.key).card now ) (⟨rfl, ⟨Ob.ren0 (Entry.rows_bdd 0 _), ⟨rfl, ⟨rfl, ⟨Ob.ren0 (Key.rows_bdd 0 _), ⟨rfl, trivial⟩⟩⟩⟩⟩⟩) (⟨rfl, ⟨Ob.ren0 (Entry.rows_bdd 0 _), ⟨rfl, ⟨rfl, ⟨Ob.ren0 (Key.rows_bdd 0 _), ⟨rfl, trivial⟩⟩⟩⟩⟩⟩)) (.c 7 (lcancel_at (getE l q.key) (nextS (maxS st (getE l q.key).card.stamp) now nd) now oa (Yc_5 g l gf gl gt al ga nd st q)) (.rd (AV.agg (Entry.row (getE l q.key))) (Yc_5 g l gf gl gt al ga nd st q) (.g (.r (.h' (Yc_6 g l gf gl gt al ga nd st q now) (.y 2 (AV.bool (q.op == 4)) (AV.bool true) (Yes.bool (by rw [ho]; rfl)) (.g (.yes (.r (.c 7 (ACalls.put2 [0, 1, 2, 3, 4, 5] (Yc_6 g l gf gl gt al ga nd st q now) (AV.agg (Stamp.row (nextS (maxS st (getE l q.key).card.stamp) now nd))) (Yc_6 g l gf gl gt al ga nd st q now) (dnext_spec l g al ga gf gl gt nd st (getE l q.key).card now ) (⟨rfl, ⟨Ob.ren0 (Entry.rows_bdd 0 _), ⟨rfl, ⟨rfl, ⟨Ob.ren0 (Key.rows_bdd 0 _), ⟨rfl, trivial⟩⟩⟩⟩⟩⟩) (⟨rfl, ⟨Ob.ren0 (Entry.rows_bdd 0 _), ⟨rfl, ⟨rfl, ⟨Ob.ren0 (Key.rows_bdd 0 _), ⟨rfl, trivial⟩⟩⟩⟩⟩⟩)) (.c 8 (lover_at (getE l q.key) q.status (nextS (maxS st (getE l q.key).card.stamp) now nd) oa oa oa (Yc_6 g l gf gl gt al ga nd st q now)) (.rd (AV.agg (Entry.row (getE l q.key))) (Yc_6 g l gf gl gt al ga nd st q now) (.g (.r (.ch 2 ([⟨0, 2, [[(AV.int .i64 (capM 32)), (AV.osl 1 (putG (capM 32) l (overE (getE l q.key) q.status (nextS (maxS st (getE l q.key).card.stamp) now nd)) g) 10 0 (List.length (putL (capM 32) l (overE (getE l q.key) q.status (nextS (maxS st (getE l q.key).card.stamp) now nd)))))]], none⟩, ⟨(putG (capM 32) l (overE (getE l q.key) q.status (nextS (maxS st (getE l q.key).card.stamp) now nd)) g), 10, (List.map Entry.row (putL (capM 32) l (overE (getE l q.key) q.status (nextS (maxS st (getE l q.key).card.stamp) now nd)))), none⟩, ⟨0, 3, [[(AV.int .i64 gf), (AV.int .i64 gl), (AV.int .i64 gt)]], none⟩, ⟨0, 2, [[(AV.int .i64 (((List.length (setA l (overE (getE l q.key) q.status (nextS (maxS st (getE l q.key).card.stamp) now nd)) al)) : Nat) : Int)), (AV.osl 4 (setG l (overE (getE l q.key) q.status (nextS (maxS st (getE l q.key).card.stamp) now nd)) ga) 2 0 (List.length (recL (setA l (overE (getE l q.key) q.status (nextS (maxS st (getE l q.key).card.stamp) now nd)) al))))]], none⟩, ⟨(setG l (overE (getE l q.key) q.status (nextS (maxS st (getE l q.key).card.stamp) now nd)) ga), 2, (List.map Key.row (recL (setA l (overE (getE l q.key) q.status (nextS (maxS st (getE l q.key).card.stamp) now nd)) al))), none⟩, ⟨0, 7, [[(AV.int .i64 nd), (AV.int .i64 (givS l (overE (getE l q.key) q.status (nextS (maxS st (getE l q.key).card.stamp) now nd)) st).t), (AV.int .i64 (givS l (overE (getE l q.key) q.status (nextS (maxS st (getE l q.key).card.stamp) now nd)) st).node), (AV.int .i64 (givS l (overE (getE l q.key) q.status (nextS (maxS st (getE l q.key).card.stamp) now nd)) st).n), (AV.obj 0 0 0 0), (AV.obj 2 0 0 0), (AV.obj 3 0 0 0)]], none⟩, ⟨0, 10, [(Entry.row (getE l q.key))], none⟩, ⟨0, 10, [(Entry.row (overE (getE l q.key) q.status (nextS (maxS st (getE l q.key).card.stamp) now nd)))], none⟩] : Heap) (dgive_at l g al ga gf gl gt nd st (overE (getE l q.key) q.status (nextS (maxS st (getE l q.key).card.stamp) now nd)) oa oa ([⟨0, 10, [(Entry.row (getE l q.key))], none⟩, ⟨0, 10, [(Entry.row (overE (getE l q.key) q.status (nextS (maxS st (getE l q.key).card.stamp) now nd)))], none⟩] : Heap)) (.g (.h' (Yc_7 l q st now nd g gf gl gt al ga) (.f 6 (AV.tup [(AV.sl .any 9 (List.map Card.row (givC l (overE (getE l q.key) q.status (nextS (maxS st (getE l q.key).card.stamp) now nd))))), (AV.int .i64 (putE (capM 32) l (overE (getE l q.key) q.status (nextS (maxS st (getE l q.key).card.stamp) now nd))))]) (.e (AV.tup [(AV.sl .any 9 (List.map Card.row (givC l (overE (getE l q.key) q.status (nextS (maxS st (getE l q.key).card.stamp) now nd))))), (AV.int .i64 (putE (capM 32) l (overE (getE l q.key) q.status (nextS (maxS st (getE l q.key).card.stamp) now nd))))])))))))))))))))))))))))))))))))))))))))))))))))))))))))
def tu2_ann : Ann := { refs := [4], gha := [(6, .any 6 9), (8, .any 6 9), (12, .any 6 9)], base := 6, fin := some 6 }
@[simp] abbrev Yc_o6 (v1_ : Int) (v2_ : Int) (v3_ : Int) : Ob := ⟨0, 3, [[(AV.int .i64 v1_), (AV.int .i64 v2_), (AV.int .i64 (min (v3_ + 1) 1048576))]], none⟩
@[simp] abbrev Yc_8 (v1_ : List Entry) (v2_ : Msg) (v3_ : Int) (v4_ : Nat) (v5_ : Int) (v6_ : Int) (v7_ : Int) (v8_ : List Key) (v9_ : Nat) (v10_ : Int) (v11_ : Stamp) : Heap := [⟨0, 2, [[(AV.int .i64 (capM 32)), (AV.osl 1 (putG (capM 32) v1_ (renewE (getE v1_ v2_.key) v3_) v4_) 10 0 (List.length (putL (capM 32) v1_ (renewE (getE v1_ v2_.key) v3_))))]], none⟩, ⟨(putG (capM 32) v1_ (renewE (getE v1_ v2_.key) v3_) v4_), 10, (List.map Entry.row (putL (capM 32) v1_ (renewE (getE v1_ v2_.key) v3_))), none⟩, Yc_o6 v5_ v6_ v7_, Yc_o3 v8_ v9_, ⟨v9_, 2, (List.map Key.row (recL v8_)), none⟩, Yc_o4 v10_ v11_]
@[simp] abbrev Yc_9 (v1_ : Nat) (v2_ : List Entry) (v3_ : Int) (v4_ : Int) (v5_ : Int) (v6_ : List Key) (v7_ : Nat) (v8_ : Int) (v9_ : Stamp) (v10_ : Msg) (v11_ : Int) : Heap := [Yc_o1 v1_ v2_, ⟨v1_, 10, (List.map Entry.row v2_), none⟩, Yc_o6 v3_ v4_ v5_, Yc_o3 v6_ v7_, ⟨v7_, 2, (List.map Key.row (recL v6_)), none⟩, Yc_o4 v8_ v9_, ⟨0, 10, [(Entry.row (getE v2_ v10_.key))], none⟩, ⟨0, 10, [(Entry.row (renewE (getE v2_ v10_.key) v11_))], none⟩]
set_option maxRecDepth 100000 in
theorem tu2_spec (l : List Entry) (g : Nat) (al : List Key) (ga : Nat) (gf gl gt nd : Int) (st : Stamp) (q : Msg) (now : Int) (hl : l.length < 1000) (ha : al.length < 100000) (hgt : 0 ≤ gt ∧ gt < 4611686018427387904) (ho : q.op = 2) (hf : findB l q.key = true) (hg : (getE l q.key).card.gone = false) : ACalls Tryz.prog 55 [(AV.obj 5 0 0 0), (AV.agg (Msg.row q)), (AV.int .i64 now)] (Yc_1 g l gf gl gt al ga nd st) ((AV.tup [(AV.sl .any 9 (List.map Card.row ([] : List Card))), (AV.int .i64 (putE (capM 32) l (renewE (getE l q.key) now)))]), (Yc_8 l q now g gf gl gt al ga nd st)) :=
  specO (fn := Tryz.f55) (ann := tu2_ann) (Has.o Tryz.func55) (.r (.g (.r (.c 6 (get_at (capM 32) l q.key g (List.length l) oa oa (Yc_2 gf gl gt al ga nd st)) (.g (.r (.h' (Yc_3 g l gf gl gt al ga nd st q) (.y 0 (AV.bool (findB l q.key)) (AV.bool true) (Yes.bool (hf)) (.yes (.yes (.yes (.y 4 (AV.bool (getE l q.key).card.gone) (AV.bool false) (Yes.bool (hg)) (.yes (.g (.r (.y 2 (AV.bool (q.op == 1)) (AV.bool false) (Yes.bool (by rw [ho]; rfl)) (.g (.no (.r (.y 2 (AV.bool (q.op == 4)) (AV.bool false) (Yes.bool (by rw [ho]; rfl)) (.no (.no (.no (.g (.no (.r (.g (.no (.r (.y 2 (AV.bool (q.op == 2)) (AV.bool true) (Yes.bool (by rw [ho]; rfl)) (.g (.yes (.r (.c 2 (lrenew_at (getE l q.key) now oa (Yc_5 g l gf gl gt al ga nd st q)) (.g (.r (.ch 4 (Yc_9 g l gf gl gt al ga nd st q now) (ACalls.pre (args := [(AV.obj 2 0 0 0)]) (args' := [(AV.obj 2 0 0 0)]) (ACalls.put2 [2] ([⟨0, 2, [[(AV.int .i64 (capM 32)), (AV.osl 1 g 10 0 (List.length l))]], none⟩, ⟨g, 10, (List.map Entry.row l), none⟩, ⟨0, 3, [[(AV.int .i64 gf), (AV.int .i64 gl), (AV.int .i64 gt)]], none⟩, ⟨0, 2, [[(AV.int .i64 (((List.length al) : Nat) : Int)), (AV.osl 4 ga 2 0 (List.length (recL al)))]], none⟩, ⟨ga, 2, (List.map Key.row (recL al)), none⟩, ⟨0, 7, [[(AV.int .i64 nd), (AV.int .i64 st.t), (AV.int .i64 st.node), (AV.int .i64 st.n), (AV.obj 0 0 0 0), (AV.obj 2 0 0 0), (AV.obj 3 0 0 0)]], none⟩, ⟨0, 10, [(Entry.row (getE l q.key))], none⟩, ⟨0, 10, [(Entry.row (renewE (getE l q.key) now))], none⟩] : Heap) (AV.tup []) (Yc_9 g l gf gl gt al ga nd st q now) (grenew_spec gf gl gt oa oa) (⟨rfl, trivial⟩) (⟨rfl, trivial⟩)) ⟨AV.wk_refl_any _, trivial⟩) (.g (.r (.ch 5 ([⟨0, 2, [[(AV.int .i64 (capM 32)), (AV.osl 1 (putG (capM 32) l (renewE (getE l q.key) now) g) 10 0 (List.length (putL (capM 32) l (renewE (getE l q.key) now))))]], none⟩, ⟨(putG (capM 32) l (renewE (getE l q.key) now) g), 10, (List.map Entry.row (putL (capM 32) l (renewE (getE l q.key) now))), none⟩, ⟨0, 3, [[(AV.int .i64 gf), (AV.int .i64 gl), (AV.int .i64 (min (gt + 1) 1048576))]], none⟩, ⟨0, 2, [[(AV.int .i64 (((List.length al) : Nat) : Int)), (AV.osl 4 ga 2 0 (List.length (recL al)))]], none⟩, ⟨ga, 2, (List.map Key.row (recL al)), none⟩, ⟨0, 7, [[(AV.int .i64 nd), (AV.int .i64 st.t), (AV.int .i64 st.node), (AV.int .i64 st.n), (AV.obj 0 0 0 0), (AV.obj 2 0 0 0), (AV.obj 3 0 0 0)]], none⟩, ⟨0, 10, [(Entry.row (getE l q.key))], none⟩, ⟨0, 10, [(Entry.row (renewE (getE l q.key) now))], none⟩] : Heap) (put_at (capM 32) l (renewE (getE l q.key) now) g (List.length l) oa oa ([⟨0, 3, [[(AV.int .i64 gf), (AV.int .i64 gl), (AV.int .i64 (min (gt + 1) 1048576))]], none⟩, ⟨0, 2, [[(AV.int .i64 (((List.length al) : Nat) : Int)), (AV.osl 4 ga 2 0 (List.length (recL al)))]], none⟩, ⟨ga, 2, (List.map Key.row (recL al)), none⟩, ⟨0, 7, [[(AV.int .i64 nd), (AV.int .i64 st.t), (AV.int .i64 st.node), (AV.int .i64 st.n), (AV.obj 0 0 0 0), (AV.obj 2 0 0 0), (AV.obj 3 0 0 0)]], none⟩, ⟨0, 10, [(Entry.row (getE l q.key))], none⟩, ⟨0, 10, [(Entry.row (renewE (getE l q.key) now))], none⟩] : Heap)) (.g (.h' (Yc_8 l q now g gf gl gt al ga nd st) (.f 6 (AV.tup [(AV.sl .any 9 []), (AV.int .i64 (putE (capM 32) l (renewE (getE l q.key) now)))]) (.e (AV.tup [(AV.sl .any 9 []), (AV.int .i64 (putE (capM 32) l (renewE (getE l q.key) now)))])))))))))))))))))))))))))))))))))))))))))))))
def tu1_ann : Ann := { refs := [4], gha := [(6, .any 6 9), (8, .any 6 9), (12, .any 6 9)], base := 6, fin := some 6 }
@[simp] abbrev Yc_o7 (v1_ : List Entry) (v2_ : Msg) (v3_ : Stamp) (v4_ : Int) (v5_ : Int) (v6_ : Nat) : Ob := ⟨0, 2, [[(AV.int .i64 (capM 32)), (AV.osl 1 (regG v1_ v2_ (regX v2_ (getE v1_ v2_.key) (findB v1_ v2_.key) v3_ v4_ v5_) v6_) 10 0 (List.length (regL v1_ v2_ (regX v2_ (getE v1_ v2_.key) (findB v1_ v2_.key) v3_ v4_ v5_))))]], none⟩
@[simp] abbrev Yc_o8 (v1_ : List Entry) (v2_ : Msg) (v3_ : Stamp) (v4_ : Int) (v5_ : Int) (v6_ : Nat) : Ob := ⟨(regG v1_ v2_ (regX v2_ (getE v1_ v2_.key) (findB v1_ v2_.key) v3_ v4_ v5_) v6_), 10, (List.map Entry.row (regL v1_ v2_ (regX v2_ (getE v1_ v2_.key) (findB v1_ v2_.key) v3_ v4_ v5_))), none⟩
@[simp] abbrev Yc_o9 (v1_ : List Entry) (v2_ : Msg) (v3_ : Stamp) (v4_ : Int) (v5_ : Int) (v6_ : List Key) (v7_ : Nat) : Ob := ⟨0, 2, [[(AV.int .i64 (((List.length (regA v1_ v2_ (regX v2_ (getE v1_ v2_.key) (findB v1_ v2_.key) v3_ v4_ v5_) v6_)) : Nat) : Int)), (AV.osl 4 (regGa v1_ v2_ (regX v2_ (getE v1_ v2_.key) (findB v1_ v2_.key) v3_ v4_ v5_) v7_) 2 0 (List.length (recL (regA v1_ v2_ (regX v2_ (getE v1_ v2_.key) (findB v1_ v2_.key) v3_ v4_ v5_) v6_))))]], none⟩
@[simp] abbrev Yc_o10 (v1_ : List Entry) (v2_ : Msg) (v3_ : Stamp) (v4_ : Int) (v5_ : Int) (v6_ : Nat) (v7_ : List Key) : Ob := ⟨(regGa v1_ v2_ (regX v2_ (getE v1_ v2_.key) (findB v1_ v2_.key) v3_ v4_ v5_) v6_), 2, (List.map Key.row (recL (regA v1_ v2_ (regX v2_ (getE v1_ v2_.key) (findB v1_ v2_.key) v3_ v4_ v5_) v7_))), none⟩
@[simp] abbrev Yc_o11 (v1_ : Int) (v2_ : List Entry) (v3_ : Msg) (v4_ : Stamp) (v5_ : Int) : Ob := ⟨0, 7, [[(AV.int .i64 v1_), (AV.int .i64 (regS v2_ v3_ (regX v3_ (getE v2_ v3_.key) (findB v2_ v3_.key) v4_ v5_ v1_) v4_).t), (AV.int .i64 (regS v2_ v3_ (regX v3_ (getE v2_ v3_.key) (findB v2_ v3_.key) v4_ v5_ v1_) v4_).node), (AV.int .i64 (regS v2_ v3_ (regX v3_ (getE v2_ v3_.key) (findB v2_ v3_.key) v4_ v5_ v1_) v4_).n), (AV.obj 0 0 0 0), (AV.obj 2 0 0 0), (AV.obj 3 0 0 0)]], none⟩
@[simp] abbrev Yc_10 (v1_ : List Entry) (v2_ : Msg) (v3_ : Stamp) (v4_ : Int) (v5_ : Int) (v6_ : Nat) (v7_ : Int) (v8_ : Int) (v9_ : Int) (v10_ : List Key) (v11_ : Nat) : Heap := [Yc_o7 v1_ v2_ v3_ v4_ v5_ v6_, Yc_o8 v1_ v2_ v3_ v4_ v5_ v6_, Yc_o2 v7_ v8_ v9_, Yc_o9 v1_ v2_ v3_ v4_ v5_ v10_ v11_, Yc_o10 v1_ v2_ v3_ v4_ v5_ v11_ v10_, Yc_o11 v5_ v1_ v2_ v3_ v4_]
@[simp] abbrev Yc_11 (v1_ : List Entry) (v2_ : Msg) (v3_ : Stamp) (v4_ : Int) (v5_ : Int) (v6_ : Nat) (v7_ : Int) (v8_ : Int) (v9_ : Int) (v10_ : List Key) (v11_ : Nat) : Heap := [Yc_o7 v1_ v2_ v3_ v4_ v5_ v6_, Yc_o8 v1_ v2_ v3_ v4_ v5_ v6_, Yc_o2 v7_ v8_ v9_, Yc_o9 v1_ v2_ v3_ v4_ v5_ v10_ v11_, Yc_o10 v1_ v2_ v3_ v4_ v5_ v11_ v10_, Yc_o11 v5_ v1_ v2_ v3_ v4_, ⟨0, 10, [(Entry.row (getE v1_ v2_.key))], none⟩]
set_option maxRecDepth 100000 in
theorem tu1_spec (l : List Entry) (g : Nat) (al : List Key) (ga : Nat) (gf gl gt nd : Int) (st : Stamp) (q : Msg) (now : Int) (hl : l.length < 1000) (ha : al.length < 100000) (hgt : 0 ≤ gt ∧ gt < 4611686018427387904) (ho : q.op = 1) : ACalls Tryz.prog 55 [(AV.obj 5 0 0 0), (AV.agg (Msg.row q)), (AV.int .i64 now)] (Yc_1 g l gf gl gt al ga nd st) ((AV.tup [(AV.sl .any 9 (List.map Card.row (regC l q (regX q (getE l q.key) (findB l q.key) st now nd)))), (AV.int .i64 (regR l q (regX q (getE l q.key) (findB l q.key) st now nd)))]), (Yc_10 l q st now nd g gf gl gt al ga)) :=
  specO (fn := Tryz.f55) (ann := tu1_ann) (Has.o Tryz.func55) (.r (.g (.r (.c 6 (get_at (capM 32) l q.key g (List.length l) oa oa (Yc_2 gf gl gt al ga nd st)) (.g (.r (.two (findB l q.key) (fun h1 h1' => (.yes (.yes (.yes (.g (.r (.h' (Yc_3 g l gf gl gt al ga nd st q) (.y 2 (AV.bool (q.op == 1)) (AV.bool true) (Yes.bool (by rw [ho]; rfl)) (.g (.yes (.r (.ch 5 (Yc_11 l q st now nd g gf gl gt al ga) (dreg_at l g al ga gf gl gt nd st q (getE l q.key) (findB l q.key) now oa oa ([⟨0, 10, [(Entry.row (getE l q.key))], none⟩] : Heap)) (.g (.h' (Yc_10 l q st now nd g gf gl gt al ga) (.f 6 (AV.tup [(AV.sl .any 9 (List.map Card.row (regC l q (regX q (getE l q.key) (findB l q.key) st now nd)))), (AV.int .i64 (regR l q (regX q (getE l q.key) (findB l q.key) st now nd)))]) (.e (AV.tup [(AV.sl .any 9 (List.map Card.row (regC l q (regX q (getE l q.key) (findB l q.key) st now nd)))), (AV.int .i64 (regR l q (regX q (getE l q.key) (findB l q.key) st now nd)))]))))))))))))))))) (fun h1 h1' => (.no (.no (.no (.g (.r (.h' (Yc_3 g l gf gl gt al ga nd st q) (.y 2 (AV.bool (q.op == 1)) (AV.bool true) (Yes.bool (by rw [ho]; rfl)) (.g (.yes (.r (.ch 5 (Yc_11 l q st now nd g gf gl gt al ga) (dreg_at l g al ga gf gl gt nd st q (getE l q.key) (findB l q.key) now oa oa ([⟨0, 10, [(Entry.row (getE l q.key))], none⟩] : Heap)) (.g (.h' (Yc_10 l q st now nd g gf gl gt al ga) (.f 6 (AV.tup [(AV.sl .any 9 (List.map Card.row (regC l q (regX q (getE l q.key) (findB l q.key) st now nd)))), (AV.int .i64 (regR l q (regX q (getE l q.key) (findB l q.key) st now nd)))]) (.e (AV.tup [(AV.sl .any 9 (List.map Card.row (regC l q (regX q (getE l q.key) (findB l q.key) st now nd)))), (AV.int .i64 (regR l q (regX q (getE l q.key) (findB l q.key) st now nd)))]))))))))))))))))))))))))
def tuN_ann : Ann := { refs := [4], gha := [(6, .any 6 9), (8, .any 6 9), (12, .any 6 9)], base := 6, fin := some 6 }
set_option maxRecDepth 100000 in
theorem tuN_spec (l : List Entry) (g : Nat) (al : List Key) (ga : Nat) (gf gl gt nd : Int) (st : Stamp) (q : Msg) (now : Int) (hl : l.length < 1000) (ha : al.length < 100000) (hgt : 0 ≤ gt ∧ gt < 4611686018427387904) (h1 : ¬ q.op = 1) (h4 : ¬ (q.op = 4 ∧ 3 < q.status)) (hf : findB l q.key = false) : ACalls Tryz.prog 55 [(AV.obj 5 0 0 0), (AV.agg (Msg.row q)), (AV.int .i64 now)] (Yc_1 g l gf gl gt al ga nd st) ((AV.tup [(AV.sl .any 9 (List.map Card.row ([] : List Card))), (AV.int .i64 22)]), (Yc_1 g l gf gl gt al ga nd st)) :=
  specO (fn := Tryz.f55) (ann := tuN_ann) (Has.o Tryz.func55) (.r (.g (.r (.c 6 (get_at (capM 32) l q.key g (List.length l) oa oa (Yc_2 gf gl gt al ga nd st)) (.g (.r (.h' (Yc_3 g l gf gl gt al ga nd st q) (.y 0 (AV.bool (findB l q.key)) (AV.bool false) (Yes.bool (hf)) (.no (.no (.no (.no (.g (.r (.y 2 (AV.bool (q.op == 1)) (AV.bool false) (Yes.bool (by simpa using h1)) (.g (.no (.r (.two (q.op == 4) (fun h1 h1' => (.yes (.yes (.y 6 (AV.bool (decide (q.status > 3))) (AV.bool false) (Yes.bool (decide_eq_false (fun z => h4 ⟨eq_of_beq (by assumption), z⟩))) (.g (.no (.r (.g (.yes (.r (.g (.h' (Yc_1 g l gf gl gt al ga nd st) (.f 6 (AV.tup [(AV.sl .any 9 []), (AV.int .i64 22)]) (.e (AV.tup [(AV.sl .any 9 []), (AV.int .i64 22)]))))))))))))))) (fun h1 h1' => (.no (.no (.g (.no (.r (.g (.yes (.r (.g (.h' (Yc_1 g l gf gl gt al ga nd st) (.f 6 (AV.tup [(AV.sl .any 9 []), (AV.int .i64 22)]) (.e (AV.tup [(AV.sl .any 9 []), (AV.int .i64 22)])))))))))))))))))))))))))))))))))
def tuG_ann : Ann := { refs := [4], gha := [(6, .any 6 9), (8, .any 6 9), (12, .any 6 9)], base := 6, fin := some 6 }
set_option maxRecDepth 100000 in
theorem tuG_spec (l : List Entry) (g : Nat) (al : List Key) (ga : Nat) (gf gl gt nd : Int) (st : Stamp) (q : Msg) (now : Int) (hl : l.length < 1000) (ha : al.length < 100000) (hgt : 0 ≤ gt ∧ gt < 4611686018427387904) (h1 : ¬ q.op = 1) (h4 : ¬ (q.op = 4 ∧ 3 < q.status)) (hf : findB l q.key = true) (hg : (getE l q.key).card.gone = true) : ACalls Tryz.prog 55 [(AV.obj 5 0 0 0), (AV.agg (Msg.row q)), (AV.int .i64 now)] (Yc_1 g l gf gl gt al ga nd st) ((AV.tup [(AV.sl .any 9 (List.map Card.row ([] : List Card))), (AV.int .i64 22)]), (Yc_1 g l gf gl gt al ga nd st)) :=
  specO (fn := Tryz.f55) (ann := tuG_ann) (Has.o Tryz.func55) (.r (.g (.r (.c 6 (get_at (capM 32) l q.key g (List.length l) oa oa (Yc_2 gf gl gt al ga nd st)) (.g (.r (.h' (Yc_3 g l gf gl gt al ga nd st q) (.y 0 (AV.bool (findB l q.key)) (AV.bool true) (Yes.bool (hf)) (.yes (.yes (.yes (.y 4 (AV.bool (getE l q.key).card.gone) (AV.bool true) (Yes.bool (hg)) (.yes (.g (.r (.y 2 (AV.bool (q.op == 1)) (AV.bool false) (Yes.bool (by simpa using h1)) (.g (.no (.r (.two (q.op == 4) (fun h1 h1' => (.yes (.yes (.y 6 (AV.bool (decide (q.status > 3))) (AV.bool false) (Yes.bool (decide_eq_false (fun z => h4 ⟨eq_of_beq (by assumption), z⟩))) (.g (.no (.r (.g (.yes (.r (.g (.h' (Yc_1 g l gf gl gt al ga nd st) (.f 6 (AV.tup [(AV.sl .any 9 []), (AV.int .i64 22)]) (.e (AV.tup [(AV.sl .any 9 []), (AV.int .i64 22)]))))))))))))))) (fun h1 h1' => (.no (.no (.g (.no (.r (.g (.yes (.r (.g (.h' (Yc_1 g l gf gl gt al ga nd st) (.f 6 (AV.tup [(AV.sl .any 9 []), (AV.int .i64 22)]) (.e (AV.tup [(AV.sl .any 9 []), (AV.int .i64 22)]))))))))))))))))))))))))))))))))))
structure TuR where
  c : List Card
  code : Int
  l : List Entry
  g : Nat
  al : List Key
  ga : Nat
  st : Stamp
  gt : Int
def tuPut (l : List Entry) (g : Nat) (al : List Key) (ga : Nat) (gt : Int) (st : Stamp) (x : Entry) : TuR := ⟨givC l x, putE (capM 32) l x, putL (capM 32) l x, putG (capM 32) l x g, setA l x al, setG l x ga, givS l x st, gt⟩
def tuR (l : List Entry) (g : Nat) (al : List Key) (ga : Nat) (gt nd : Int) (st : Stamp) (q : Msg) (now : Int) : TuR :=
  if q.op = 1 then ⟨regC l q (regX q (getE l q.key) (findB l q.key) st now nd), regR l q (regX q (getE l q.key) (findB l q.key) st now nd), regL l q (regX q (getE l q.key) (findB l q.key) st now nd), regG l q (regX q (getE l q.key) (findB l q.key) st now nd) g, regA l q (regX q (getE l q.key) (findB l q.key) st now nd) al, regGa l q (regX q (getE l q.key) (findB l q.key) st now nd) ga, regS l q (regX q (getE l q.key) (findB l q.key) st now nd) st, gt⟩
  else if q.op = 4 ∧ 3 < q.status then ⟨[], 1, l, g, al, ga, st, gt⟩
  else if findB l q.key = true ∧ (getE l q.key).card.gone = false then
    (if q.op = 2 then ⟨[], putE (capM 32) l (renewE (getE l q.key) now), putL (capM 32) l (renewE (getE l q.key) now), putG (capM 32) l (renewE (getE l q.key) now) g, al, ga, st, min (gt + 1) 1048576⟩
     else if q.op = 4 then tuPut l g al ga gt st (overE (getE l q.key) q.status (nextS (maxS st (getE l q.key).card.stamp) now nd)) else tuPut l g al ga gt st (cancelE (getE l q.key) (nextS (maxS st (getE l q.key).card.stamp) now nd) now))
  else ⟨[], 22, l, g, al, ga, st, gt⟩
theorem turn_spec (l : List Entry) (g : Nat) (al : List Key) (ga : Nat) (gf gl gt nd : Int) (st : Stamp) (q : Msg) (now : Int) (hl : l.length < 1000) (ha : al.length < 100000) (hgt : 0 ≤ gt ∧ gt < 4611686018427387904) (ho1 : 1 ≤ q.op) (ho5 : q.op < 5) (hs0 : 0 ≤ q.status) : ACalls Tryz.prog 55 [(AV.obj 5 0 0 0), (AV.agg (Msg.row q)), (AV.int .i64 now)] ([⟨0, 2, [[(AV.int .i64 (capM 32)), (AV.osl 1 g 10 0 (List.length l))]], none⟩, ⟨g, 10, (List.map Entry.row l), none⟩, ⟨0, 3, [[(AV.int .i64 gf), (AV.int .i64 gl), (AV.int .i64 gt)]], none⟩, ⟨0, 2, [[(AV.int .i64 (((List.length al) : Nat) : Int)), (AV.osl 4 ga 2 0 (List.length (recL al)))]], none⟩, ⟨ga, 2, (List.map Key.row (recL al)), none⟩, ⟨0, 7, [[(AV.int .i64 nd), (AV.int .i64 st.t), (AV.int .i64 st.node), (AV.int .i64 st.n), (AV.obj 0 0 0 0), (AV.obj 2 0 0 0), (AV.obj 3 0 0 0)]], none⟩] : Heap) ((AV.tup [(AV.sl .any 9 (List.map Card.row (tuR l g al ga gt nd st q now).c)), (AV.int .i64 (tuR l g al ga gt nd st q now).code)]), ([⟨0, 2, [[(AV.int .i64 (capM 32)), (AV.osl 1 (tuR l g al ga gt nd st q now).g 10 0 (List.length (tuR l g al ga gt nd st q now).l))]], none⟩, ⟨(tuR l g al ga gt nd st q now).g, 10, (List.map Entry.row (tuR l g al ga gt nd st q now).l), none⟩, ⟨0, 3, [[(AV.int .i64 gf), (AV.int .i64 gl), (AV.int .i64 (tuR l g al ga gt nd st q now).gt)]], none⟩, ⟨0, 2, [[(AV.int .i64 (((List.length (tuR l g al ga gt nd st q now).al) : Nat) : Int)), (AV.osl 4 (tuR l g al ga gt nd st q now).ga 2 0 (List.length (recL (tuR l g al ga gt nd st q now).al)))]], none⟩, ⟨(tuR l g al ga gt nd st q now).ga, 2, (List.map Key.row (recL (tuR l g al ga gt nd st q now).al)), none⟩, ⟨0, 7, [[(AV.int .i64 nd), (AV.int .i64 (tuR l g al ga gt nd st q now).st.t), (AV.int .i64 (tuR l g al ga gt nd st q now).st.node), (AV.int .i64 (tuR l g al ga gt nd st q now).st.n), (AV.obj 0 0 0 0), (AV.obj 2 0 0 0), (AV.obj 3 0 0 0)]], none⟩] : Heap)) := by
  unfold tuR tuPut
  by_cases o1 : q.op = 1
  · rw [if_pos o1]
    exact tu1_spec l g al ga gf gl gt nd st q now hl ha hgt o1
  rw [if_neg o1]
  by_cases o4 : q.op = 4 ∧ 3 < q.status
  · rw [if_pos o4]
    exact tu4N_spec l g al ga gf gl gt nd st q now hl ha hgt o4.1 o4.2
  rw [if_neg o4]
  by_cases lv : findB l q.key = true ∧ (getE l q.key).card.gone = false
  · rw [if_pos lv]
    by_cases o2 : q.op = 2
    · rw [if_pos o2]
      exact tu2_spec l g al ga gf gl gt nd st q now hl ha hgt o2 lv.1 lv.2
    rw [if_neg o2]
    by_cases o3 : q.op = 4
    · rw [if_pos o3]
      exact tu4_spec l g al ga gf gl gt nd st q now hl ha hgt o3 (Int.not_lt.1 fun z => o4 ⟨o3, z⟩) hs0 lv.1 lv.2
    · rw [if_neg o3]
      exact tu3_spec l g al ga gf gl gt nd st q now hl ha hgt ow lv.1 lv.2
  · rw [if_neg lv]
    cases hf : findB l q.key with
    | false => exact tuN_spec l g al ga gf gl gt nd st q now hl ha hgt o1 o4 hf
    | true => exact tuG_spec l g al ga gf gl gt nd st q now hl ha hgt o1 o4 hf (by
        rcases Bool.eq_false_or_eq_true (getE l q.key).card.gone with z | z
        · exact z
        · exact absurd ⟨hf, z⟩ lv)
theorem turn_at (l : List Entry) (g : Nat) (al : List Key) (ga : Nat) (gf gl gt nd : Int) (st : Stamp) (q : Msg) (now : Int) (hl : l.length < 1000) (ha : al.length < 100000) (hgt : 0 ≤ gt ∧ gt < 4611686018427387904) (ho1 : 1 ≤ q.op) (ho5 : q.op < 5) (hs0 : 0 ≤ q.status) (H : Heap) : ACalls Tryz.prog 55 [(AV.obj 5 0 0 0), (AV.agg (Msg.row q)), (AV.int .i64 now)] ((Yc_1 g l gf gl gt al ga nd st) ++ H) ((AV.tup [(AV.sl .any 9 (List.map Card.row (tuR l g al ga gt nd st q now).c)), (AV.int .i64 (tuR l g al ga gt nd st q now).code)]), ([⟨0, 2, [[(AV.int .i64 (capM 32)), (AV.osl 1 (tuR l g al ga gt nd st q now).g 10 0 (List.length (tuR l g al ga gt nd st q now).l))]], none⟩, ⟨(tuR l g al ga gt nd st q now).g, 10, (List.map Entry.row (tuR l g al ga gt nd st q now).l), none⟩, ⟨0, 3, [[(AV.int .i64 gf), (AV.int .i64 gl), (AV.int .i64 (tuR l g al ga gt nd st q now).gt)]], none⟩, ⟨0, 2, [[(AV.int .i64 (((List.length (tuR l g al ga gt nd st q now).al) : Nat) : Int)), (AV.osl 4 (tuR l g al ga gt nd st q now).ga 2 0 (List.length (recL (tuR l g al ga gt nd st q now).al)))]], none⟩, ⟨(tuR l g al ga gt nd st q now).ga, 2, (List.map Key.row (recL (tuR l g al ga gt nd st q now).al)), none⟩, ⟨0, 7, [[(AV.int .i64 nd), (AV.int .i64 (tuR l g al ga gt nd st q now).st.t), (AV.int .i64 (tuR l g al ga gt nd st q now).st.node), (AV.int .i64 (tuR l g al ga gt nd st q now).st.n), (AV.obj 0 0 0 0), (AV.obj 2 0 0 0), (AV.obj 3 0 0 0)]], none⟩] : Heap) ++ H) := (turn_spec l g al ga gf gl gt nd st q now hl ha hgt ho1 ho5 hs0).ext kr kr ob ob kr H
end Go.Proofs.YtfjedpipdnlkfaaGreat.AM

set_option maxRecDepth 100000
set_option linter.unusedVariables false
set_option linter.unusedSimpArgs false
namespace Go.Proofs.YtfjedpipdnlkfaaGreat.AM
open Go Go.Proofs.YtfjedpipdnlkfaaGreat
attribute [local irreducible] ACalls funT codeT codeQ LoopTo
attribute [local irreducible] cmpSt maxS nextS setA setG putE putL putG getE findB tuR msgR zeroM opM withB namesK Tp.next Tp.step Tp.key Tp.keyT
def hdM (q : Msg) (code : Int) : Msg := ⟨2, q.op, 0, code, q.tag, 0, 0, q.key, false, 0, [], []⟩
def hdA_ann : Ann := { refs := [4], gha := [(10, .frzf 6 11 9), (10, .frzf 6 12 2)], base := 6, fin := some 6 }
@[simp] abbrev Yd_o1 (v1_ : Nat) (v2_ : List Entry) : Ob := ⟨0, 2, [[(AV.int .i64 (capM 32)), (AV.osl 1 v1_ 10 0 (List.length v2_))]], none⟩
@[simp] abbrev Yd_o2 (v1_ : Int) (v2_ : Int) (v3_ : Int) : Ob := ⟨0, 3, [[(AV.int .i64 v1_), (AV.int .i64 v2_), (AV.int .i64 v3_)]], none⟩
@[simp] abbrev Yd_o3 (v1_ : List Key) (v2_ : Nat) : Ob := ⟨0, 2, [[(AV.int .i64 (((List.length v1_) : Nat) : Int)), (AV.osl 4 v2_ 2 0 (List.length (recL v1_)))]], none⟩
@[simp] abbrev Yd_o4 (v1_ : Int) (v2_ : Stamp) : Ob := ⟨0, 7, [[(AV.int .i64 v1_), (AV.int .i64 v2_.t), (AV.int .i64 v2_.node), (AV.int .i64 v2_.n), (AV.obj 0 0 0 0), (AV.obj 2 0 0 0), (AV.obj 3 0 0 0)]], none⟩
@[simp] abbrev Yd_1 (v1_ : Nat) (v2_ : List Entry) (v3_ : Int) (v4_ : Int) (v5_ : Int) (v6_ : List Key) (v7_ : Nat) (v8_ : Int) (v9_ : Stamp) : Heap := [Yd_o1 v1_ v2_, ⟨v1_, 10, (List.map Entry.row v2_), none⟩, Yd_o2 v3_ v4_ v5_, Yd_o3 v6_ v7_, ⟨v7_, 2, (List.map Key.row (recL v6_)), none⟩, Yd_o4 v8_ v9_]
@[simp] abbrev Yd_2 (v1_ : List Entry) (v2_ : Nat) (v3_ : List Key) (v4_ : Nat) (v5_ : Int) (v6_ : Int) (v7_ : Stamp) (v8_ : Msg) (v9_ : Int) (v10_ : Int) (v11_ : Int) : Heap := [⟨0, 2, [[(AV.int .i64 (capM 32)), (AV.osl 1 (tuR v1_ v2_ v3_ v4_ v5_ v6_ v7_ v8_ (hold40 v9_)).g 10 0 (List.length (tuR v1_ v2_ v3_ v4_ v5_ v6_ v7_ v8_ (hold40 v9_)).l))]], none⟩, ⟨(tuR v1_ v2_ v3_ v4_ v5_ v6_ v7_ v8_ (hold40 v9_)).g, 10, (List.map Entry.row (tuR v1_ v2_ v3_ v4_ v5_ v6_ v7_ v8_ (hold40 v9_)).l), none⟩, ⟨0, 3, [[(AV.int .i64 v10_), (AV.int .i64 v11_), (AV.int .i64 (tuR v1_ v2_ v3_ v4_ v5_ v6_ v7_ v8_ (hold40 v9_)).gt)]], none⟩, ⟨0, 2, [[(AV.int .i64 (((List.length (tuR v1_ v2_ v3_ v4_ v5_ v6_ v7_ v8_ (hold40 v9_)).al) : Nat) : Int)), (AV.osl 4 (tuR v1_ v2_ v3_ v4_ v5_ v6_ v7_ v8_ (hold40 v9_)).ga 2 0 (List.length (recL (tuR v1_ v2_ v3_ v4_ v5_ v6_ v7_ v8_ (hold40 v9_)).al)))]], none⟩, ⟨(tuR v1_ v2_ v3_ v4_ v5_ v6_ v7_ v8_ (hold40 v9_)).ga, 2, (List.map Key.row (recL (tuR v1_ v2_ v3_ v4_ v5_ v6_ v7_ v8_ (hold40 v9_)).al)), none⟩, ⟨0, 7, [[(AV.int .i64 v6_), (AV.int .i64 (tuR v1_ v2_ v3_ v4_ v5_ v6_ v7_ v8_ (hold40 v9_)).st.t), (AV.int .i64 (tuR v1_ v2_ v3_ v4_ v5_ v6_ v7_ v8_ (hold40 v9_)).st.node), (AV.int .i64 (tuR v1_ v2_ v3_ v4_ v5_ v6_ v7_ v8_ (hold40 v9_)).st.n), (AV.obj 0 0 0 0), (AV.obj 2 0 0 0), (AV.obj 3 0 0 0)]], none⟩]
@[simp] abbrev Yd_o5  : Ob := ⟨0, 13, [[(AV.int .i64 0), (AV.int .i64 0), (AV.int .i64 0), (AV.int .i64 0), (AV.int .i64 0), (AV.int .i64 0), (AV.int .i64 0), (AV.str ⟨#[]⟩), (AV.str ⟨#[]⟩), (AV.bool false), (AV.int .u32 0), (AV.sl .nil 0 []), (AV.sl .nil 0 [])]], none⟩
@[simp] abbrev Yd_3 (v1_ : Nat) (v2_ : List Entry) (v3_ : Int) (v4_ : Int) (v5_ : Int) (v6_ : List Key) (v7_ : Nat) (v8_ : Int) (v9_ : Stamp) : Heap := [Yd_o1 v1_ v2_, ⟨v1_, 10, (List.map Entry.row v2_), none⟩, Yd_o2 v3_ v4_ v5_, Yd_o3 v6_ v7_, ⟨v7_, 2, (List.map Key.row (recL v6_)), none⟩, Yd_o4 v8_ v9_, Yd_o5]
@[simp] abbrev Yd_4 (v1_ : Nat) (v2_ : List Entry) (v3_ : Int) (v4_ : Int) (v5_ : Int) (v6_ : List Key) (v7_ : Nat) (v8_ : Int) (v9_ : Stamp) (v10_ : Msg) : Heap := [Yd_o1 v1_ v2_, ⟨v1_, 10, (List.map Entry.row v2_), none⟩, Yd_o2 v3_ v4_ v5_, Yd_o3 v6_ v7_, ⟨v7_, 2, (List.map Key.row (recL v6_)), none⟩, Yd_o4 v8_ v9_, Yd_o5, ⟨0, 13, [[(AV.int .i64 2), (AV.int .i64 v10_.op), (AV.int .i64 0), (AV.int .i64 0), (AV.int .i64 v10_.tag), (AV.int .i64 0), (AV.int .i64 0), (AV.str v10_.key.app), (AV.str v10_.key.id), (AV.bool false), (AV.int .u32 0), (AV.sl .nil 0 []), (AV.sl .nil 0 [])]], none⟩]
set_option maxRecDepth 100000 in
theorem hdA_spec (l : List Entry) (g : Nat) (al : List Key) (ga : Nat) (gf gl gt nd : Int) (st : Stamp) (q : Msg) (now : Int) (hl : l.length < 1000) (ha : al.length < 100000) (hgt : 0 ≤ gt ∧ gt < 4611686018427387904) (ho1 : 1 ≤ q.op) (ho5 : q.op < 5) (hs0 : 0 ≤ q.status) (hk : q.kind = 1) (hr : msgR q = true) : ACalls Tryz.prog 18 [(AV.obj 5 0 0 0), (AV.agg (Msg.row q)), (AV.int .i64 now)] (Yd_1 g l gf gl gt al ga nd st) ((AV.tup [(AV.agg (Msg.row (hdM q (tuR l g al ga gt nd st q (hold40 now)).code))), (AV.sl .any 9 (List.map Card.row (tuR l g al ga gt nd st q (hold40 now)).c))]), (Yd_2 l g al ga gt nd st q now gf gl)) :=
  specO (fn := Tryz.f18) (ann := hdA_ann) (Has.o Tryz.func18) (.r (.g (.r (.c 1 (dheld_at now  (Yd_3 g l gf gl gt al ga nd st)) (.g (.r (.g (.r (.h' (Yd_4 g l gf gl gt al ga nd st q) (.y 2 (AV.bool (q.kind != 1)) (AV.bool false) (Yes.bool (by rw [hk]; rfl)) (.no (.no (.c 5 (mrightG_at q oa (Yd_4 g l gf gl gt al ga nd st q)) (.no (.g (.no (.r (.y 2 (AV.bool (q.op == 5)) (AV.bool false) (Yes.bool (by have z : ¬ q.op = 5 := ow; simpa using z)) (.g (.no (.r (.ch 3 ([⟨0, 2, [[(AV.int .i64 (capM 32)), (AV.osl 1 (tuR l g al ga gt nd st q (hold40 now)).g 10 0 (List.length (tuR l g al ga gt nd st q (hold40 now)).l))]], none⟩, ⟨(tuR l g al ga gt nd st q (hold40 now)).g, 10, (List.map Entry.row (tuR l g al ga gt nd st q (hold40 now)).l), none⟩, ⟨0, 3, [[(AV.int .i64 gf), (AV.int .i64 gl), (AV.int .i64 (tuR l g al ga gt nd st q (hold40 now)).gt)]], none⟩, ⟨0, 2, [[(AV.int .i64 (((List.length (tuR l g al ga gt nd st q (hold40 now)).al) : Nat) : Int)), (AV.osl 4 (tuR l g al ga gt nd st q (hold40 now)).ga 2 0 (List.length (recL (tuR l g al ga gt nd st q (hold40 now)).al)))]], none⟩, ⟨(tuR l g al ga gt nd st q (hold40 now)).ga, 2, (List.map Key.row (recL (tuR l g al ga gt nd st q (hold40 now)).al)), none⟩, ⟨0, 7, [[(AV.int .i64 nd), (AV.int .i64 (tuR l g al ga gt nd st q (hold40 now)).st.t), (AV.int .i64 (tuR l g al ga gt nd st q (hold40 now)).st.node), (AV.int .i64 (tuR l g al ga gt nd st q (hold40 now)).st.n), (AV.obj 0 0 0 0), (AV.obj 2 0 0 0), (AV.obj 3 0 0 0)]], none⟩, ⟨0, 13, [[(AV.int .i64 0), (AV.int .i64 0), (AV.int .i64 0), (AV.int .i64 0), (AV.int .i64 0), (AV.int .i64 0), (AV.int .i64 0), (AV.str ⟨#[]⟩), (AV.str ⟨#[]⟩), (AV.bool false), (AV.int .u32 0), (AV.sl .nil 0 []), (AV.sl .nil 0 [])]], none⟩, ⟨0, 13, [[(AV.int .i64 2), (AV.int .i64 q.op), (AV.int .i64 0), (AV.int .i64 0), (AV.int .i64 q.tag), (AV.int .i64 0), (AV.int .i64 0), (AV.str q.key.app), (AV.str q.key.id), (AV.bool false), (AV.int .u32 0), (AV.sl .nil 0 []), (AV.sl .nil 0 [])]], none⟩] : Heap) (turn_at l g al ga gf gl gt nd st q (hold40 now) oa oa oa oa oa oa ([⟨0, 13, [[(AV.int .i64 0), (AV.int .i64 0), (AV.int .i64 0), (AV.int .i64 0), (AV.int .i64 0), (AV.int .i64 0), (AV.int .i64 0), (AV.str ⟨#[]⟩), (AV.str ⟨#[]⟩), (AV.bool false), (AV.int .u32 0), (AV.sl .nil 0 []), (AV.sl .nil 0 [])]], none⟩, ⟨0, 13, [[(AV.int .i64 2), (AV.int .i64 q.op), (AV.int .i64 0), (AV.int .i64 0), (AV.int .i64 q.tag), (AV.int .i64 0), (AV.int .i64 0), (AV.str q.key.app), (AV.str q.key.id), (AV.bool false), (AV.int .u32 0), (AV.sl .nil 0 []), (AV.sl .nil 0 [])]], none⟩] : Heap)) (.g (.r (.g (.r (.o (rfl : 0 = 0) (.o (rfl : 0 = 0) (.g (.h' (Yd_2 l g al ga gt nd st q now gf gl) (.f 6 (AV.tup [(AV.agg [(AV.int .i64 2), (AV.int .i64 q.op), (AV.int .i64 0), (AV.int .i64 (tuR l g al ga gt nd st q (hold40 now)).code), (AV.int .i64 q.tag), (AV.int .i64 0), (AV.int .i64 0), (AV.str q.key.app), (AV.str q.key.id), (AV.bool false), (AV.int .u32 0), (AV.sl .any 9 (List.map Card.row [])), (AV.sl .any 2 (List.map Key.row []))]), (AV.sl .any 9 (List.map Card.row (tuR l g al ga gt nd st q (hold40 now)).c))]) (.e (AV.tup [(AV.agg [(AV.int .i64 2), (AV.int .i64 q.op), (AV.int .i64 0), (AV.int .i64 (tuR l g al ga gt nd st q (hold40 now)).code), (AV.int .i64 q.tag), (AV.int .i64 0), (AV.int .i64 0), (AV.str q.key.app), (AV.str q.key.id), (AV.bool false), (AV.int .u32 0), (AV.sl .any 9 (List.map Card.row [])), (AV.sl .any 2 (List.map Key.row []))]), (AV.sl .any 9 (List.map Card.row (tuR l g al ga gt nd st q (hold40 now)).c))])))))))))))))))))))))))))))))))))
def fnew_ann : Ann := { refs := [11], fin := some 0 }
set_option maxRecDepth 100000 in
theorem fnew_spec (tx : ByteArray) (code : Int) (h : ¬ code = 0) : ACalls Tryz.prog 96 [(AV.str tx), (AV.int .i64 code)] ([] : Heap) ((AV.iface 222 (AV.ref [(AV.str tx), (AV.iface 42 (AV.int .i64 code))] 0)), ([] : Heap)) :=
  specO (fn := Tryz.f96) (ann := fnew_ann) (Has.o Tryz.func96) (.r (.g (.r (.y 1 (AV.bool (code == 0)) (AV.bool false) (Yes.bool (by simpa using h)) (.g (.no (.r (.g (.f 0 (AV.iface 222 (AV.ref [(AV.str tx), (AV.iface 42 (AV.int .i64 code))] 0)) (.e (AV.iface 222 (AV.ref [(AV.str tx), (AV.iface 42 (AV.int .i64 code))] 0))))))))))))
theorem fnew_at (tx : ByteArray) (code : Int) (h : ¬ code = 0) (H : Heap) : ACalls Tryz.prog 96 [(AV.str tx), (AV.int .i64 code)] H ((AV.iface 222 (AV.ref [(AV.str tx), (AV.iface 42 (AV.int .i64 code))] 0)), H) := (fnew_spec tx code h).lift kr kr H
theorem zero_ask {q : Msg} (hk : q.kind = 1) (h : zeroM q = true) : q.code = 0 ∧ q.full = false ∧ q.sum = 0 ∧ q.cards = [] ∧ q.keys = [] := by
  with_unfolding_all
    unfold zeroM at h
    rw [if_pos hk] at h
    simp only [sameZ, Bool.and_eq_true, decide_eq_true_eq, beq_iff_eq, List.length_eq_zero_iff] at h
    obtain ⟨h1, h2, _, _, _, h3, _, _, _, _, h4, h5⟩ := h
    exact ⟨h3, h4, h5, h1, h2⟩
def errB (b : List UInt8) (code : Int) : AV := .ref [.str (ByteArray.mk b.toArray), .iface 42 (.int .i64 code)] 0
def errA (q : Msg) : AV := if zeroM q = false then errB [122, 101, 114, 111] 12 else if opM q = false then errB [111, 112] 12 else errB [110, 117, 109, 98, 101, 114] 1
@[simp] theorem errA_bdd (n : Nat) (q : Msg) : AV.bdd n (errA q) = true := by unfold errA errB; split <;> (try split) <;> simp [AV.bdd, AV.bdds]
def mrZ_ann : Ann := { refs := [1], fin := some 0 }
set_option maxRecDepth 100000 in
theorem mrZ_spec (q : Msg) (hk : q.kind = 1) (hz : zeroM q = false) : ACalls Tryz.prog 53 [(AV.agg (Msg.row q))] ([] : Heap) ((AV.iface 222 (AV.ref [(AV.str (ByteArray.mk #[122, 101, 114, 111])), (AV.iface 42 (AV.int .i64 12))] 0)), ([] : Heap)) :=
  specO (fn := Tryz.f53) (ann := mrZ_ann) (Has.o Tryz.func53) (.r (.g (.r (.y 2 (AV.bool (decide (q.kind < 1))) (AV.bool false) (Yes.bool (by rw [hk]; rfl)) (.no (.no (.no (.y 6 (AV.bool (decide (q.kind > 5))) (AV.bool false) (Yes.bool (by rw [hk]; rfl)) (.g (.no (.r (.c 1 (mzero_at q  ([] : Heap)) (.y 2 (AV.bool (!(zeroM q))) (AV.bool true) (Yes.bool (by rw [hz]; rfl)) (.g (.yes (.r (.c 0 (fnew_at (ByteArray.mk #[122, 101, 114, 111]) 12 oa ([] : Heap)) (.g (.f 0 (AV.iface 222 (AV.ref [(AV.str (ByteArray.mk #[122, 101, 114, 111])), (AV.iface 42 (AV.int .i64 12))] 0)) (.e (AV.iface 222 (AV.ref [(AV.str (ByteArray.mk #[122, 101, 114, 111])), (AV.iface 42 (AV.int .i64 12))] 0))))))))))))))))))))))
def mrO_ann : Ann := { refs := [1], fin := some 0 }
set_option maxRecDepth 100000 in
theorem mrO_spec (q : Msg) (hk : q.kind = 1) (hz : zeroM q = true) (ho : opM q = false) : ACalls Tryz.prog 53 [(AV.agg (Msg.row q))] ([] : Heap) ((AV.iface 222 (AV.ref [(AV.str (ByteArray.mk #[111, 112])), (AV.iface 42 (AV.int .i64 12))] 0)), ([] : Heap)) :=
  specO (fn := Tryz.f53) (ann := mrO_ann) (Has.o Tryz.func53) (.r (.g (.r (.y 2 (AV.bool (decide (q.kind < 1))) (AV.bool false) (Yes.bool (by rw [hk]; rfl)) (.no (.no (.no (.y 6 (AV.bool (decide (q.kind > 5))) (AV.bool false) (Yes.bool (by rw [hk]; rfl)) (.g (.no (.r (.c 1 (mzero_at q  ([] : Heap)) (.y 2 (AV.bool (!(zeroM q))) (AV.bool false) (Yes.bool (by rw [hz]; rfl)) (.g (.no (.r (.c 1 (mop_at q  ([] : Heap)) (.y 2 (AV.bool (!(opM q))) (AV.bool true) (Yes.bool (by rw [ho]; rfl)) (.g (.yes (.r (.c 0 (fnew_at (ByteArray.mk #[111, 112]) 12 oa ([] : Heap)) (.g (.f 0 (AV.iface 222 (AV.ref [(AV.str (ByteArray.mk #[111, 112])), (AV.iface 42 (AV.int .i64 12))] 0)) (.e (AV.iface 222 (AV.ref [(AV.str (ByteArray.mk #[111, 112])), (AV.iface 42 (AV.int .i64 12))] 0)))))))))))))))))))))))))))
def mrN1_ann : Ann := { refs := [1], fin := some 0 }
set_option maxRecDepth 100000 in
theorem mrN1_spec (q : Msg) (hk : q.kind = 1) (hz : zeroM q = true) (ho : opM q = true) (hn : withB q.status = false) : ACalls Tryz.prog 53 [(AV.agg (Msg.row q))] ([] : Heap) ((AV.iface 222 (AV.ref [(AV.str (ByteArray.mk #[110, 117, 109, 98, 101, 114])), (AV.iface 42 (AV.int .i64 1))] 0)), ([] : Heap)) :=
  specO (fn := Tryz.f53) (ann := mrN1_ann) (Has.o Tryz.func53) (.r (.g (.r (.y 2 (AV.bool (decide (q.kind < 1))) (AV.bool false) (Yes.bool (by rw [hk]; rfl)) (.no (.no (.no (.y 6 (AV.bool (decide (q.kind > 5))) (AV.bool false) (Yes.bool (by rw [hk]; rfl)) (.g (.no (.r (.c 1 (mzero_at q  ([] : Heap)) (.y 2 (AV.bool (!(zeroM q))) (AV.bool false) (Yes.bool (by rw [hz]; rfl)) (.g (.no (.r (.c 1 (mop_at q  ([] : Heap)) (.y 2 (AV.bool (!(opM q))) (AV.bool false) (Yes.bool (by rw [ho]; rfl)) (.g (.no (.r (.c 2 (mwithin_at q.code  ([] : Heap)) (.y 3 (AV.bool (!(withB q.code))) (AV.bool false) (Yes.bool (by rw [(zero_ask hk hz).1]; with_unfolding_all rfl)) (.no (.no (.no (.c 7 (mwithin_at q.status  ([] : Heap)) (.no (.y 8 (AV.bool (!(withB q.status))) (AV.bool true) (Yes.bool (by rw [hn]; rfl)) (.yes (.yes (.yes (.g (.yes (.r (.c 0 (fnew_at (ByteArray.mk #[110, 117, 109, 98, 101, 114]) 1 oa ([] : Heap)) (.g (.f 0 (AV.iface 222 (AV.ref [(AV.str (ByteArray.mk #[110, 117, 109, 98, 101, 114])), (AV.iface 42 (AV.int .i64 1))] 0)) (.e (AV.iface 222 (AV.ref [(AV.str (ByteArray.mk #[110, 117, 109, 98, 101, 114])), (AV.iface 42 (AV.int .i64 1))] 0)))))))))))))))))))))))))))))))))))))))))
def mrN2_ann : Ann := { refs := [1], fin := some 0 }
set_option maxRecDepth 100000 in
theorem mrN2_spec (q : Msg) (hk : q.kind = 1) (hz : zeroM q = true) (ho : opM q = true) (hn : withB q.status = true) (hs : q.seq < -1) : ACalls Tryz.prog 53 [(AV.agg (Msg.row q))] ([] : Heap) ((AV.iface 222 (AV.ref [(AV.str (ByteArray.mk #[110, 117, 109, 98, 101, 114])), (AV.iface 42 (AV.int .i64 1))] 0)), ([] : Heap)) :=
  specO (fn := Tryz.f53) (ann := mrN2_ann) (Has.o Tryz.func53) (.r (.g (.r (.y 2 (AV.bool (decide (q.kind < 1))) (AV.bool false) (Yes.bool (by rw [hk]; rfl)) (.no (.no (.no (.y 6 (AV.bool (decide (q.kind > 5))) (AV.bool false) (Yes.bool (by rw [hk]; rfl)) (.g (.no (.r (.c 1 (mzero_at q  ([] : Heap)) (.y 2 (AV.bool (!(zeroM q))) (AV.bool false) (Yes.bool (by rw [hz]; rfl)) (.g (.no (.r (.c 1 (mop_at q  ([] : Heap)) (.y 2 (AV.bool (!(opM q))) (AV.bool false) (Yes.bool (by rw [ho]; rfl)) (.g (.no (.r (.c 2 (mwithin_at q.code  ([] : Heap)) (.y 3 (AV.bool (!(withB q.code))) (AV.bool false) (Yes.bool (by rw [(zero_ask hk hz).1]; with_unfolding_all rfl)) (.no (.no (.no (.c 7 (mwithin_at q.status  ([] : Heap)) (.no (.y 8 (AV.bool (!(withB q.status))) (AV.bool false) (Yes.bool (by rw [hn]; rfl)) (.no (.no (.no (.y 13 (AV.bool (decide (q.seq < (-1)))) (AV.bool true) (Yes.bool (decide_eq_true hs)) (.g (.yes (.r (.c 0 (fnew_at (ByteArray.mk #[110, 117, 109, 98, 101, 114]) 1 oa ([] : Heap)) (.g (.f 0 (AV.iface 222 (AV.ref [(AV.str (ByteArray.mk #[110, 117, 109, 98, 101, 114])), (AV.iface 42 (AV.int .i64 1))] 0)) (.e (AV.iface 222 (AV.ref [(AV.str (ByteArray.mk #[110, 117, 109, 98, 101, 114])), (AV.iface 42 (AV.int .i64 1))] 0))))))))))))))))))))))))))))))))))))))))))
theorem mrB_spec (q : Msg) (hk : q.kind = 1) (hr : msgR q = false) : ACalls Tryz.prog 53 [(AV.agg (Msg.row q))] ([] : Heap) ((AV.iface 222 (errA q)), ([] : Heap)) := by
  cases hz : zeroM q with
  | false => have e : errA q = errB [122, 101, 114, 111] 12 := by unfold errA; rw [if_pos hz]
             rw [e]; exact mrZ_spec q hk hz
  | true =>
    cases ho : opM q with
    | false => have e : errA q = errB [111, 112] 12 := by unfold errA; rw [if_neg (by rw [hz]; simp), if_pos ho]
               rw [e]; exact mrO_spec q hk hz ho
    | true =>
      have e : errA q = errB [110, 117, 109, 98, 101, 114] 1 := by unfold errA; rw [if_neg (by rw [hz]; simp), if_neg (by rw [ho]; simp)]
      rw [e]
      cases hn : withB q.status with
      | false => exact mrN1_spec q hk hz ho hn
      | true =>
        refine mrN2_spec q hk hz ho hn ?_
        obtain ⟨c1, c2, c3, c4, c5⟩ := zero_ask hk hz
        have hw : withB 0 = true := by with_unfolding_all rfl
        by_cases h : q.seq < -1
        · exact h
        · have : msgR q = true := by
            with_unfolding_all
              unfold msgR
              rw [hz, ho, c1, hw, hn, c4, c5, hk, decide_eq_true (show -1 ≤ q.seq by omega)]
              rfl
          rw [this] at hr; simp at hr
theorem mrB_at (q : Msg) (hk : q.kind = 1) (hr : msgR q = false) (H : Heap) : ACalls Tryz.prog 53 [(AV.agg (Msg.row q))] H ((AV.iface 222 (errA q)), H) := (mrB_spec q hk hr).lift kr (by simp [AV.bdd, AV.bdds]) H
attribute [local irreducible] errA
def hdK_ann : Ann := { refs := [4], gha := [(5, .frzf 6 11 9), (5, .frzf 6 12 2), (5, .any 7 9)], base := 6, fin := some 6 }
set_option maxRecDepth 100000 in
theorem hdK_spec (l : List Entry) (g : Nat) (al : List Key) (ga : Nat) (gf gl gt nd : Int) (st : Stamp) (q : Msg) (now : Int) (hk : ¬ q.kind = 1) : ACalls Tryz.prog 18 [(AV.obj 5 0 0 0), (AV.agg (Msg.row q)), (AV.int .i64 now)] (Yd_1 g l gf gl gt al ga nd st) ((AV.tup [(AV.agg (Msg.row (hdM q 1))), (AV.sl .any 9 (List.map Card.row ([] : List Card)))]), (Yd_1 g l gf gl gt al ga nd st)) :=
  specO (fn := Tryz.f18) (ann := hdK_ann) (Has.o Tryz.func18) (.r (.g (.r (.c 1 (dheld_at now  (Yd_3 g l gf gl gt al ga nd st)) (.g (.r (.g (.r (.h' (Yd_4 g l gf gl gt al ga nd st q) (.y 2 (AV.bool (q.kind != 1)) (AV.bool true) (Yes.bool (by simpa using hk)) (.yes (.yes (.yes (.g (.yes (.r (.g (.r (.o (rfl : 0 = 0) (.o (rfl : 0 = 0) (.g (.h' (Yd_1 g l gf gl gt al ga nd st) (.f 6 (AV.tup [(AV.agg [(AV.int .i64 2), (AV.int .i64 q.op), (AV.int .i64 0), (AV.int .i64 1), (AV.int .i64 q.tag), (AV.int .i64 0), (AV.int .i64 0), (AV.str q.key.app), (AV.str q.key.id), (AV.bool false), (AV.int .u32 0), (AV.sl .any 9 (List.map Card.row [])), (AV.sl .any 2 (List.map Key.row []))]), (AV.sl .any 9 [])]) (.e (AV.tup [(AV.agg [(AV.int .i64 2), (AV.int .i64 q.op), (AV.int .i64 0), (AV.int .i64 1), (AV.int .i64 q.tag), (AV.int .i64 0), (AV.int .i64 0), (AV.str q.key.app), (AV.str q.key.id), (AV.bool false), (AV.int .u32 0), (AV.sl .any 9 (List.map Card.row [])), (AV.sl .any 2 (List.map Key.row []))]), (AV.sl .any 9 [])])))))))))))))))))))))))))
def hdB_ann : Ann := { refs := [4], gha := [(5, .frzf 6 11 9), (5, .frzf 6 12 2), (5, .any 7 9)], base := 6, fin := some 6 }
set_option maxRecDepth 100000 in
theorem hdB_spec (l : List Entry) (g : Nat) (al : List Key) (ga : Nat) (gf gl gt nd : Int) (st : Stamp) (q : Msg) (now : Int) (hk : q.kind = 1) (hr : msgR q = false) : ACalls Tryz.prog 18 [(AV.obj 5 0 0 0), (AV.agg (Msg.row q)), (AV.int .i64 now)] (Yd_1 g l gf gl gt al ga nd st) ((AV.tup [(AV.agg (Msg.row (hdM q 1))), (AV.sl .any 9 (List.map Card.row ([] : List Card)))]), (Yd_1 g l gf gl gt al ga nd st)) :=
  specO (fn := Tryz.f18) (ann := hdB_ann) (Has.o Tryz.func18) (.r (.g (.r (.c 1 (dheld_at now  (Yd_3 g l gf gl gt al ga nd st)) (.g (.r (.g (.r (.h' (Yd_4 g l gf gl gt al ga nd st q) (.y 2 (AV.bool (q.kind != 1)) (AV.bool false) (Yes.bool (by rw [hk]; rfl)) (.no (.no (.c 5 (mrB_at q oa oa (Yd_4 g l gf gl gt al ga nd st q)) (.no (.g (.yes (.r (.g (.r (.o (rfl : 0 = 0) (.o (rfl : 0 = 0) (.g (.h' (Yd_1 g l gf gl gt al ga nd st) (.f 6 (AV.tup [(AV.agg [(AV.int .i64 2), (AV.int .i64 q.op), (AV.int .i64 0), (AV.int .i64 1), (AV.int .i64 q.tag), (AV.int .i64 0), (AV.int .i64 0), (AV.str q.key.app), (AV.str q.key.id), (AV.bool false), (AV.int .u32 0), (AV.sl .any 9 (List.map Card.row [])), (AV.sl .any 2 (List.map Key.row []))]), (AV.sl .any 9 [])]) (.e (AV.tup [(AV.agg [(AV.int .i64 2), (AV.int .i64 q.op), (AV.int .i64 0), (AV.int .i64 1), (AV.int .i64 q.tag), (AV.int .i64 0), (AV.int .i64 0), (AV.str q.key.app), (AV.str q.key.id), (AV.bool false), (AV.int .u32 0), (AV.sl .any 9 (List.map Card.row [])), (AV.sl .any 2 (List.map Key.row []))]), (AV.sl .any 9 [])]))))))))))))))))))))))))))
def Tp.ask (t : Tp) : Msg × Tp :=
  let u := (t.step 50).step 5
  if (((1 + (t.step 50).next 5 : Nat) : Int) == 5) = true then (⟨1, ((1 + (t.step 50).next 5 : Nat) : Int), 0, 0, ((t.next 50 : Nat) : Int), 0, ((u.next 40 : Nat) : Int) - 1, ⟨⟨#[]⟩, ⟨#[]⟩⟩, false, 0, [], []⟩, u.step 40)
  else (⟨1, ((1 + (t.step 50).next 5 : Nat) : Int), ((((u.keyT).step 60).next 5 : Nat) : Int), 0, ((t.next 50 : Nat) : Int), (((u.keyT).next 60 : Nat) : Int), 0, u.key, false, 0, [], []⟩, ((u.keyT).step 60).step 5)
end Go.Proofs.YtfjedpipdnlkfaaGreat.AM

set_option maxRecDepth 100000
set_option linter.unusedVariables false
set_option linter.unusedSimpArgs false
namespace Go.Proofs.YtfjedpipdnlkfaaGreat.AM
open Go Go.Proofs.YtfjedpipdnlkfaaGreat
attribute [local irreducible] ACalls funT codeT codeQ LoopTo
attribute [local irreducible] hasK lastsK recL okS sinceK findP findB putL putE putG dropL getE capM seenK sealB ofB sortP hereL atC
def begunX_ann : Ann := { base := 4, fin := some 4 }
@[simp] abbrev Ye_o1 (v1_ : Int) (v2_ : Nat) (v3_ : Nat) : Ob := ⟨0, 2, [[(AV.int .i64 v1_), (AV.osl 1 v2_ 10 0 v3_)]], none⟩
@[simp] abbrev Ye_o2 (v1_ : List Key) (v2_ : Nat) : Ob := ⟨0, 2, [[(AV.int .i64 (((List.length v1_) : Nat) : Int)), (AV.osl 3 v2_ 2 0 (List.length (recL v1_)))]], none⟩
@[simp] abbrev Ye_1 (v1_ : Int) (v2_ : Nat) (v3_ : Nat) (v4_ : List Entry) (v5_ : List Key) (v6_ : Nat) : Heap := [Ye_o1 v1_ v2_ v3_, ⟨v2_, 10, (List.map Entry.row v4_), none⟩, Ye_o2 v5_ v6_, ⟨v6_, 2, (List.map Key.row (recL v5_)), none⟩]
@[simp] abbrev Ye_o3  : Ob := ⟨0, 13, [[(AV.int .i64 0), (AV.int .i64 0), (AV.int .i64 0), (AV.int .i64 0), (AV.int .i64 0), (AV.int .i64 0), (AV.int .i64 0), (AV.str ⟨#[]⟩), (AV.str ⟨#[]⟩), (AV.bool false), (AV.int .u32 0), (AV.sl .nil 0 []), (AV.sl .nil 0 [])]], none⟩
@[simp] abbrev Ye_2 (v1_ : Int) (v2_ : Nat) (v3_ : Nat) (v4_ : List Entry) (v5_ : List Key) (v6_ : Nat) : Heap := [Ye_o1 v1_ v2_ v3_, ⟨v2_, 10, (List.map Entry.row v4_), none⟩, Ye_o2 v5_ v6_, ⟨v6_, 2, (List.map Key.row (recL v5_)), none⟩, Ye_o3]
set_option maxRecDepth 100000 in
theorem begunX_spec (most : Int) (l : List Entry) (g n : Nat) (al : List Key) (ga : Nat) (hn : n = l.length) (hl : l.length < 1000) (ha : al.length < 1000000) : ACalls Tryz.prog 172 [(AV.obj 0 0 0 0), (AV.obj 2 0 0 0)] (Ye_1 most g n l al ga) ((AV.agg [(AV.int .i64 2), (AV.int .i64 5), (AV.int .i64 0), (AV.int .i64 0), (AV.int .i64 0), (AV.int .i64 0), (AV.int .i64 ((al.length : Nat) : Int)), (AV.str ⟨#[]⟩), (AV.str ⟨#[]⟩), (AV.bool false), (AV.int .u32 (ofB (List.map Entry.card l))), (AV.sl .nil 0 []), (AV.sl .nil 0 [])]), (Ye_1 most g n l al ga)) := by
  have hm : (List.map Entry.card l).length = l.length := List.length_map _
  exact specO (fn := Tryz.f172) (ann := begunX_ann) (Has.o Tryz.func172) (.r (.g (.r (.c 1 (ACalls.pre (args := [(AV.obj 2 0 0 0)]) (args' := [(AV.obj 2 0 0 0)]) (ACalls.put2 [2, 3] (Ye_2 most g n l al ga) (AV.int .i64 ((al.length : Nat) : Int)) (Ye_2 most g n l al ga) (seq_spec al ga ) (⟨rfl, ⟨Ob.ren0 (Key.rows_bdd 0 _), trivial⟩⟩) (⟨rfl, ⟨Ob.ren0 (Key.rows_bdd 0 _), trivial⟩⟩)) ⟨AV.wk_refl_any _, trivial⟩) (.c 3 (scards_at most l g n oa oa ([⟨0, 2, [[(AV.int .i64 (((List.length al) : Nat) : Int)), (AV.osl 3 ga 2 0 (List.length (recL al)))]], none⟩, ⟨ga, 2, (List.map Key.row (recL al)), none⟩, ⟨0, 13, [[(AV.int .i64 0), (AV.int .i64 0), (AV.int .i64 0), (AV.int .i64 0), (AV.int .i64 0), (AV.int .i64 0), (AV.int .i64 0), (AV.str ⟨#[]⟩), (AV.str ⟨#[]⟩), (AV.bool false), (AV.int .u32 0), (AV.sl .nil 0 []), (AV.sl .nil 0 [])]], none⟩] : Heap)) (.c 4 (sealOfX_at (l.map (·.card)) oa (Ye_2 most g n l al ga)) (.g (.f 4 (AV.agg [(AV.int .i64 2), (AV.int .i64 5), (AV.int .i64 0), (AV.int .i64 0), (AV.int .i64 0), (AV.int .i64 0), (AV.int .i64 ((al.length : Nat) : Int)), (AV.str ⟨#[]⟩), (AV.str ⟨#[]⟩), (AV.bool false), (AV.int .u32 (ofB (l.map (·.card)))), (AV.sl .nil 0 []), (AV.sl .nil 0 [])]) (.e (AV.agg [(AV.int .i64 2), (AV.int .i64 5), (AV.int .i64 0), (AV.int .i64 0), (AV.int .i64 0), (AV.int .i64 0), (AV.int .i64 ((al.length : Nat) : Int)), (AV.str ⟨#[]⟩), (AV.str ⟨#[]⟩), (AV.bool false), (AV.int .u32 (ofB (l.map (·.card)))), (AV.sl .nil 0 []), (AV.sl .nil 0 [])]))))))))))
theorem begunX_at (most : Int) (l : List Entry) (g n : Nat) (al : List Key) (ga : Nat) (hn : n = l.length) (hl : l.length < 1000) (ha : al.length < 1000000) (H : Heap) : ACalls Tryz.prog 172 [(AV.obj 0 0 0 0), (AV.obj 2 0 0 0)] ((Ye_1 most g n l al ga) ++ H) ((AV.agg [(AV.int .i64 2), (AV.int .i64 5), (AV.int .i64 0), (AV.int .i64 0), (AV.int .i64 0), (AV.int .i64 0), (AV.int .i64 ((al.length : Nat) : Int)), (AV.str ⟨#[]⟩), (AV.str ⟨#[]⟩), (AV.bool false), (AV.int .u32 (ofB (List.map Entry.card l))), (AV.sl .nil 0 []), (AV.sl .nil 0 [])]), (Ye_1 most g n l al ga) ++ H) := (begunX_spec most l g n al ga hn hl ha).ext kr kr ob ob kr H
def ffullX_ann : Ann := { base := 4, fin := some 4 }
@[simp] abbrev Ye_3  : Heap := [Ye_o3, Ye_o3]
set_option maxRecDepth 100000 in
theorem ffullX_spec (most : Int) (l : List Entry) (g n : Nat) (al : List Key) (ga : Nat) (hn : n = l.length) (hl : l.length < 1000) (ha : al.length < 1000000) : ACalls Tryz.prog 106 [(AV.obj 0 0 0 0), (AV.obj 2 0 0 0)] (Ye_1 most g n l al ga) ((AV.agg [(AV.int .i64 2), (AV.int .i64 5), (AV.int .i64 0), (AV.int .i64 0), (AV.int .i64 0), (AV.int .i64 0), (AV.int .i64 ((al.length : Nat) : Int)), (AV.str ⟨#[]⟩), (AV.str ⟨#[]⟩), (AV.bool true), (AV.int .u32 (ofB (List.map Entry.card l))), (AV.sl .any 9 (List.map Card.row (seenK (List.map Entry.card l)))), (AV.sl .nil 0 [])]), (Ye_1 most g n l al ga)) := by
  have hm : (List.map Entry.card l).length = l.length := List.length_map _
  exact specO (fn := Tryz.f106) (ann := ffullX_ann) (Has.o Tryz.func106) (.r (.g (.r (.no (.no (.g (.no (.r (.c 2 (begunX_at most l g n al ga oa oa oa Ye_3) (.g (.r (.c 1 (scards_at most l g n oa oa ([⟨0, 2, [[(AV.int .i64 (((List.length al) : Nat) : Int)), (AV.osl 3 ga 2 0 (List.length (recL al)))]], none⟩, ⟨ga, 2, (List.map Key.row (recL al)), none⟩, ⟨0, 13, [[(AV.int .i64 0), (AV.int .i64 0), (AV.int .i64 0), (AV.int .i64 0), (AV.int .i64 0), (AV.int .i64 0), (AV.int .i64 0), (AV.str ⟨#[]⟩), (AV.str ⟨#[]⟩), (AV.bool false), (AV.int .u32 0), (AV.sl .nil 0 []), (AV.sl .nil 0 [])]], none⟩, ⟨0, 13, [[(AV.int .i64 2), (AV.int .i64 5), (AV.int .i64 0), (AV.int .i64 0), (AV.int .i64 0), (AV.int .i64 0), (AV.int .i64 ((al.length : Nat) : Int)), (AV.str ⟨#[]⟩), (AV.str ⟨#[]⟩), (AV.bool false), (AV.int .u32 (ofB (List.map Entry.card l))), (AV.sl .nil 0 []), (AV.sl .nil 0 [])]], none⟩] : Heap)) (.c 2 (seenX_at (l.map (·.card)) oa ([⟨0, 2, [[(AV.int .i64 most), (AV.osl 1 g 10 0 n)]], none⟩, ⟨g, 10, (List.map Entry.row l), none⟩, ⟨0, 2, [[(AV.int .i64 (((List.length al) : Nat) : Int)), (AV.osl 3 ga 2 0 (List.length (recL al)))]], none⟩, ⟨ga, 2, (List.map Key.row (recL al)), none⟩, ⟨0, 13, [[(AV.int .i64 0), (AV.int .i64 0), (AV.int .i64 0), (AV.int .i64 0), (AV.int .i64 0), (AV.int .i64 0), (AV.int .i64 0), (AV.str ⟨#[]⟩), (AV.str ⟨#[]⟩), (AV.bool false), (AV.int .u32 0), (AV.sl .nil 0 []), (AV.sl .nil 0 [])]], none⟩, ⟨0, 13, [[(AV.int .i64 2), (AV.int .i64 5), (AV.int .i64 0), (AV.int .i64 0), (AV.int .i64 0), (AV.int .i64 0), (AV.int .i64 ((al.length : Nat) : Int)), (AV.str ⟨#[]⟩), (AV.str ⟨#[]⟩), (AV.bool false), (AV.int .u32 (ofB (List.map Entry.card l))), (AV.sl .nil 0 []), (AV.sl .nil 0 [])]], none⟩] : Heap)) (.g (.r (.g (.f 4 (AV.agg [(AV.int .i64 2), (AV.int .i64 5), (AV.int .i64 0), (AV.int .i64 0), (AV.int .i64 0), (AV.int .i64 0), (AV.int .i64 ((al.length : Nat) : Int)), (AV.str ⟨#[]⟩), (AV.str ⟨#[]⟩), (AV.bool true), (AV.int .u32 (ofB (List.map Entry.card l))), (AV.sl .any 9 (List.map Card.row (seenK (l.map (·.card))))), (AV.sl .nil 0 [])]) (.e (AV.agg [(AV.int .i64 2), (AV.int .i64 5), (AV.int .i64 0), (AV.int .i64 0), (AV.int .i64 0), (AV.int .i64 0), (AV.int .i64 ((al.length : Nat) : Int)), (AV.str ⟨#[]⟩), (AV.str ⟨#[]⟩), (AV.bool true), (AV.int .u32 (ofB (List.map Entry.card l))), (AV.sl .any 9 (List.map Card.row (seenK (l.map (·.card))))), (AV.sl .nil 0 [])])))))))))))))))))))
theorem ffullX_at (most : Int) (l : List Entry) (g n : Nat) (al : List Key) (ga : Nat) (hn : n = l.length) (hl : l.length < 1000) (ha : al.length < 1000000) (H : Heap) : ACalls Tryz.prog 106 [(AV.obj 0 0 0 0), (AV.obj 2 0 0 0)] ((Ye_1 most g n l al ga) ++ H) ((AV.agg [(AV.int .i64 2), (AV.int .i64 5), (AV.int .i64 0), (AV.int .i64 0), (AV.int .i64 0), (AV.int .i64 0), (AV.int .i64 ((al.length : Nat) : Int)), (AV.str ⟨#[]⟩), (AV.str ⟨#[]⟩), (AV.bool true), (AV.int .u32 (ofB (List.map Entry.card l))), (AV.sl .any 9 (List.map Card.row (seenK (List.map Entry.card l)))), (AV.sl .nil 0 [])]), (Ye_1 most g n l al ga) ++ H) := (ffullX_spec most l g n al ga hn hl ha).ext kr kr ob ob kr H
def deltaX_ann : Ann := { gh := [(16, .frzf 9 11 9)], gha := [(6, .virf 9 11 9), (15, .cut 7)], base := 4, fin := some 4, live := [(8, [0, 6, 9, 36, 37, 38])], out := [(8, [0, 6, 9, 36, 37, 38])] }
@[simp] abbrev Ye_4 (v1_ : List Key) (v2_ : Nat) : Fr := (mkF 61 [(0, (AV.obj 0 0 0 0)), (6, (AV.obj 4 0 0 0)), (9, (AV.obj 5 0 0 0)), (36, (AV.sl .any 2 (List.map Key.row v1_))), (37, (AV.int .i64 ((v1_.length : Nat) : Int))), (38, (AV.int .i64 ((v2_ + 1 : Nat) : Int)))])
@[simp] abbrev Ye_o4 (v1_ : List Key) (v2_ : List Entry) (v3_ : Nat) (v4_ : Nat) : Ob := ⟨0, 13, [[(AV.int .i64 2), (AV.int .i64 5), (AV.int .i64 0), (AV.int .i64 0), (AV.int .i64 0), (AV.int .i64 0), (AV.int .i64 ((v1_.length : Nat) : Int)), (AV.str ⟨#[]⟩), (AV.str ⟨#[]⟩), (AV.bool false), (AV.int .u32 (ofB (List.map Entry.card v2_))), (AV.osl 6 (v3_ + 1) 9 0 (v4_ + 1)), (AV.sl .nil 0 [])]], none⟩
@[simp] abbrev Ye_5 (v1_ : Int) (v2_ : Nat) (v3_ : Nat) (v4_ : List Entry) (v5_ : List Key) (v6_ : Nat) (v7_ : Nat) (v8_ : Nat) (v9_ : List Card) (v10_ : List Key) (v11_ : Nat) : Heap := [Ye_o1 v1_ v2_ v3_, ⟨v2_, 10, (List.map Entry.row v4_), none⟩, Ye_o2 v5_ v6_, ⟨v6_, 2, (List.map Key.row (recL v5_)), none⟩, Ye_o3, Ye_o4 v5_ v4_ v7_ v8_, ⟨(v7_ + 1), 9, (List.map Card.row (v9_ ++ [(getE v4_ (nth v10_ v11_)).card])), none⟩]
@[simp] abbrev Ye_6 (v1_ : Int) (v2_ : Nat) (v3_ : Nat) (v4_ : List Entry) (v5_ : List Key) (v6_ : Nat) (v7_ : Nat) (v8_ : Nat) (v9_ : List Card) (v10_ : List Key) (v11_ : Nat) : Heap := [Ye_o1 v1_ v2_ v3_, ⟨v2_, 10, (List.map Entry.row v4_), none⟩, Ye_o2 v5_ v6_, ⟨v6_, 2, (List.map Key.row (recL v5_)), none⟩, Ye_o3, Ye_o4 v5_ v4_ v7_ v8_, ⟨(v7_ + 1), 9, (List.map Card.row (v9_ ++ [(Card.mk (nth v10_ v11_) 2 0 1 (Stamp.mk 0 0 0) true)])), none⟩]
@[simp] abbrev Ye_7 (v1_ : List Key) (v2_ : Nat) : Fr := (mkF 61 [(0, (AV.obj 0 0 0 0)), (6, (AV.obj 4 0 0 0)), (9, (AV.obj 5 0 0 0)), (36, (AV.sl .any 2 (List.map Key.row v1_))), (37, (AV.int .i64 ((v1_.length : Nat) : Int))), (38, (AV.int .i64 ((v2_ : Nat) : Int)))])
@[simp] abbrev Ye_8 (v1_ : Int) (v2_ : Nat) (v3_ : Nat) (v4_ : List Entry) (v5_ : List Key) (v6_ : Nat) (v7_ : Nat) (v8_ : Nat) (v9_ : List Card) : Heap := [Ye_o1 v1_ v2_ v3_, ⟨v2_, 10, (List.map Entry.row v4_), none⟩, Ye_o2 v5_ v6_, ⟨v6_, 2, (List.map Key.row (recL v5_)), none⟩, Ye_o3, ⟨0, 13, [[(AV.int .i64 2), (AV.int .i64 5), (AV.int .i64 0), (AV.int .i64 0), (AV.int .i64 0), (AV.int .i64 0), (AV.int .i64 ((v5_.length : Nat) : Int)), (AV.str ⟨#[]⟩), (AV.str ⟨#[]⟩), (AV.bool false), (AV.int .u32 (ofB (List.map Entry.card v4_))), (AV.osl 6 v7_ 9 0 v8_), (AV.sl .nil 0 [])]], none⟩, ⟨v7_, 9, (List.map Card.row v9_), none⟩]
set_option maxRecDepth 100000 in
theorem deltaX_step (most : Int) (l : List Entry) (g : Nat) (n : Nat) (al : List Key) (ga : Nat) (ks : List Key) (out : List Card) (k : Nat) (gc : Nat) (i : Nat) (hn : n = l.length) (hl : l.length < 1000) (ha : al.length < 1000000) (hk : ks.length < 1000000) (hko : k = out.length) (hki : k ≤ i) (hle_ : i ≤ ks.length) {eX : Ex} {FX : Fr} {HX : Heap} (k1 : (decide (((i : Nat) : Int) < ((ks.length : Nat) : Int))) = true → (findB l (nth ks i)) = true → LoopTo (codeQ Tryz.prog (X deltaX_ann) (loopOf Tryz.f107 0)) (some [0, 6, 9, 36, 37, 38]) (some [0, 6, 9, 36, 37, 38]) (Ye_4 ks i) (Ye_5 most g n l al ga gc k out ks i) eX FX HX) (k2 : (decide (((i : Nat) : Int) < ((ks.length : Nat) : Int))) = true → (findB l (nth ks i)) = false → LoopTo (codeQ Tryz.prog (X deltaX_ann) (loopOf Tryz.f107 0)) (some [0, 6, 9, 36, 37, 38]) (some [0, 6, 9, 36, 37, 38]) (Ye_4 ks i) (Ye_6 most g n l al ga gc k out ks i) eX FX HX) (k3 : (decide (((i : Nat) : Int) < ((ks.length : Nat) : Int))) = false → ((.exit 0 : Ex), (Ye_7 ks i), (Ye_8 most g n l al ga gc k out)) = (eX, FX, HX)) : LoopTo (codeQ Tryz.prog (X deltaX_ann) (loopOf Tryz.f107 0)) (some [0, 6, 9, 36, 37, 38]) (some [0, 6, 9, 36, 37, 38]) (Ye_7 ks i) (Ye_8 most g n l al ga gc k out) eX FX HX :=
  stepO (.r (.g (.two (decide (((i : Nat) : Int) < ((ks.length : Nat) : Int))) (fun h1 h1' => (.r (.h' ([⟨0, 2, [[(AV.int .i64 most), (AV.osl 1 g 10 0 n)]], none⟩, ⟨g, 10, (List.map Entry.row l), none⟩, ⟨0, 2, [[(AV.int .i64 (((List.length al) : Nat) : Int)), (AV.osl 3 ga 2 0 (List.length (recL al)))]], none⟩, ⟨ga, 2, (List.map Key.row (recL al)), none⟩, ⟨0, 13, [[(AV.int .i64 0), (AV.int .i64 0), (AV.int .i64 0), (AV.int .i64 0), (AV.int .i64 0), (AV.int .i64 0), (AV.int .i64 0), (AV.str ⟨#[]⟩), (AV.str ⟨#[]⟩), (AV.bool false), (AV.int .u32 0), (AV.sl .nil 0 []), (AV.sl .nil 0 [])]], none⟩, ⟨0, 13, [[(AV.int .i64 2), (AV.int .i64 5), (AV.int .i64 0), (AV.int .i64 0), (AV.int .i64 0), (AV.int .i64 0), (AV.int .i64 ((al.length : Nat) : Int)), (AV.str ⟨#[]⟩), (AV.str ⟨#[]⟩), (AV.bool false), (AV.int .u32 (ofB (List.map Entry.card l))), (AV.osl 6 gc 9 0 k), (AV.sl .nil 0 [])]], none⟩, ⟨gc, 9, (List.map Card.row out), none⟩, ⟨0, 2, [[(AV.str ⟨#[]⟩), (AV.str ⟨#[]⟩)]], none⟩] : Heap) (.is 0 2 2 (List.map Key.row ks) ((i : Nat) : Int) (Key.row (nth ks i)) (IdxSl.mk _ ow ow) (.g (.r (.g (.r (.c 2 (get_at most l (nth ks i) g n oa oa ([⟨0, 2, [[(AV.int .i64 (((List.length al) : Nat) : Int)), (AV.osl 3 ga 2 0 (List.length (recL al)))]], none⟩, ⟨ga, 2, (List.map Key.row (recL al)), none⟩, ⟨0, 13, [[(AV.int .i64 0), (AV.int .i64 0), (AV.int .i64 0), (AV.int .i64 0), (AV.int .i64 0), (AV.int .i64 0), (AV.int .i64 0), (AV.str ⟨#[]⟩), (AV.str ⟨#[]⟩), (AV.bool false), (AV.int .u32 0), (AV.sl .nil 0 []), (AV.sl .nil 0 [])]], none⟩, ⟨0, 13, [[(AV.int .i64 2), (AV.int .i64 5), (AV.int .i64 0), (AV.int .i64 0), (AV.int .i64 0), (AV.int .i64 0), (AV.int .i64 ((al.length : Nat) : Int)), (AV.str ⟨#[]⟩), (AV.str ⟨#[]⟩), (AV.bool false), (AV.int .u32 (ofB (List.map Entry.card l))), (AV.osl 6 gc 9 0 k), (AV.sl .nil 0 [])]], none⟩, ⟨gc, 9, (List.map Card.row out), none⟩, ⟨0, 2, [(Key.row (nth ks i))], none⟩, ⟨0, 9, [[(AV.str (nth ks i).app), (AV.str (nth ks i).id), (AV.int .i64 2), (AV.int .i64 0), (AV.int .i64 1), (AV.int .i64 0), (AV.int .i64 0), (AV.int .i64 0), (AV.bool true)]], none⟩, ⟨0, 10, [[(AV.str ⟨#[]⟩), (AV.str ⟨#[]⟩), (AV.int .i64 0), (AV.int .i64 0), (AV.int .i64 0), (AV.int .i64 0), (AV.int .i64 0), (AV.int .i64 0), (AV.bool false), (AV.int .i64 0)]], none⟩] : Heap)) (.g (.r (.g (.two (findB l (nth ks i)) (fun h2 h2' => (.r (.g (.r (.h' ([⟨0, 2, [[(AV.int .i64 most), (AV.osl 1 g 10 0 n)]], none⟩, ⟨g, 10, (List.map Entry.row l), none⟩, ⟨0, 2, [[(AV.int .i64 (((List.length al) : Nat) : Int)), (AV.osl 3 ga 2 0 (List.length (recL al)))]], none⟩, ⟨ga, 2, (List.map Key.row (recL al)), none⟩, ⟨0, 13, [[(AV.int .i64 0), (AV.int .i64 0), (AV.int .i64 0), (AV.int .i64 0), (AV.int .i64 0), (AV.int .i64 0), (AV.int .i64 0), (AV.str ⟨#[]⟩), (AV.str ⟨#[]⟩), (AV.bool false), (AV.int .u32 0), (AV.sl .nil 0 []), (AV.sl .nil 0 [])]], none⟩, ⟨0, 13, [[(AV.int .i64 2), (AV.int .i64 5), (AV.int .i64 0), (AV.int .i64 0), (AV.int .i64 0), (AV.int .i64 0), (AV.int .i64 ((al.length : Nat) : Int)), (AV.str ⟨#[]⟩), (AV.str ⟨#[]⟩), (AV.bool false), (AV.int .u32 (ofB (List.map Entry.card l))), (AV.osl 6 gc 9 0 k), (AV.sl .nil 0 [])]], none⟩, ⟨gc, 9, (List.map Card.row out), none⟩, ⟨0, 2, [(Key.row (nth ks i))], none⟩, ⟨0, 9, [(Card.row (getE l (nth ks i)).card)], none⟩, ⟨0, 10, [(Entry.row (getE l (nth ks i)))], none⟩] : Heap) (.ap 4 32 (AV.osl 6 gc 9 0 k) (AV.sl .clip 9 [(Card.row (getE l (nth ks i)).card)]) (AV.osl 6 (gc + 1) 9 0 (k + 1)) ([⟨0, 2, [[(AV.int .i64 most), (AV.osl 1 g 10 0 n)]], none⟩, ⟨g, 10, (List.map Entry.row l), none⟩, ⟨0, 2, [[(AV.int .i64 (((List.length al) : Nat) : Int)), (AV.osl 3 ga 2 0 (List.length (recL al)))]], none⟩, ⟨ga, 2, (List.map Key.row (recL al)), none⟩, ⟨0, 13, [[(AV.int .i64 0), (AV.int .i64 0), (AV.int .i64 0), (AV.int .i64 0), (AV.int .i64 0), (AV.int .i64 0), (AV.int .i64 0), (AV.str ⟨#[]⟩), (AV.str ⟨#[]⟩), (AV.bool false), (AV.int .u32 0), (AV.sl .nil 0 []), (AV.sl .nil 0 [])]], none⟩, ⟨0, 13, [[(AV.int .i64 2), (AV.int .i64 5), (AV.int .i64 0), (AV.int .i64 0), (AV.int .i64 0), (AV.int .i64 0), (AV.int .i64 ((al.length : Nat) : Int)), (AV.str ⟨#[]⟩), (AV.str ⟨#[]⟩), (AV.bool false), (AV.int .u32 (ofB (List.map Entry.card l))), (AV.osl 6 gc 9 0 k), (AV.sl .nil 0 [])]], none⟩, ⟨(gc + 1), 9, (List.map Card.row (out ++ [(getE l (nth ks i)).card])), none⟩, ⟨0, 2, [(Key.row (nth ks i))], none⟩, ⟨0, 9, [(Card.row (getE l (nth ks i)).card)], none⟩, ⟨0, 10, [(Entry.row (getE l (nth ks i)))], none⟩] : Heap) (evAppend_one (row := Card.row) (l := out) (x := (getE l (nth ks i)).card) (T := tt) (e := 39) (te := { d := .struct [(30, 0), (3, 2), (3, 3), (2, 4), (37, 5), (4, 8)], size := 9, bytes := 88, zero := [.str ⟨#[]⟩, .str ⟨#[]⟩, .int .i64 0, .int .i64 0, .int .i64 0, .int .i64 0, .int .i64 0, .int .i64 0, .bool false] }) (z := 1) (b := 24) (y := [.sl .nil 0 []]) kr kr rfl (by decide) (by decide) kr (by first | assumption | omega | (simp; done) | (simp; omega)) rfl rfl (by first | omega | (show _ * 88 ≤ _; omega) | (simp; omega))) (.g (.r (.h' ([⟨0, 2, [[(AV.int .i64 most), (AV.osl 1 g 10 0 n)]], none⟩, ⟨g, 10, (List.map Entry.row l), none⟩, ⟨0, 2, [[(AV.int .i64 (((List.length al) : Nat) : Int)), (AV.osl 3 ga 2 0 (List.length (recL al)))]], none⟩, ⟨ga, 2, (List.map Key.row (recL al)), none⟩, ⟨0, 13, [[(AV.int .i64 0), (AV.int .i64 0), (AV.int .i64 0), (AV.int .i64 0), (AV.int .i64 0), (AV.int .i64 0), (AV.int .i64 0), (AV.str ⟨#[]⟩), (AV.str ⟨#[]⟩), (AV.bool false), (AV.int .u32 0), (AV.sl .nil 0 []), (AV.sl .nil 0 [])]], none⟩, ⟨0, 13, [[(AV.int .i64 2), (AV.int .i64 5), (AV.int .i64 0), (AV.int .i64 0), (AV.int .i64 0), (AV.int .i64 0), (AV.int .i64 ((al.length : Nat) : Int)), (AV.str ⟨#[]⟩), (AV.str ⟨#[]⟩), (AV.bool false), (AV.int .u32 (ofB (List.map Entry.card l))), (AV.osl 6 (gc + 1) 9 0 (k + 1)), (AV.sl .nil 0 [])]], none⟩, ⟨(gc + 1), 9, (List.map Card.row (out ++ [(getE l (nth ks i)).card])), none⟩, ⟨0, 2, [(Key.row (nth ks i))], none⟩, ⟨0, 9, [(Card.row (getE l (nth ks i)).card)], none⟩, ⟨0, 10, [(Entry.row (getE l (nth ks i)))], none⟩] : Heap) (.y 0 (.int .i64 (IntKind.i64.wrap (((i : Nat) : Int) + 1))) (AV.int .i64 ((i + 1 : Nat) : Int)) (Yes.add ow ow ow) (.h' (Ye_5 most g n l al ga gc k out ks i) (.b 7 (.g (.l (k1 h1 h2))))))))))))))) (fun h2 h2' => (.r (.h' ([⟨0, 2, [[(AV.int .i64 most), (AV.osl 1 g 10 0 n)]], none⟩, ⟨g, 10, (List.map Entry.row l), none⟩, ⟨0, 2, [[(AV.int .i64 (((List.length al) : Nat) : Int)), (AV.osl 3 ga 2 0 (List.length (recL al)))]], none⟩, ⟨ga, 2, (List.map Key.row (recL al)), none⟩, ⟨0, 13, [[(AV.int .i64 0), (AV.int .i64 0), (AV.int .i64 0), (AV.int .i64 0), (AV.int .i64 0), (AV.int .i64 0), (AV.int .i64 0), (AV.str ⟨#[]⟩), (AV.str ⟨#[]⟩), (AV.bool false), (AV.int .u32 0), (AV.sl .nil 0 []), (AV.sl .nil 0 [])]], none⟩, ⟨0, 13, [[(AV.int .i64 2), (AV.int .i64 5), (AV.int .i64 0), (AV.int .i64 0), (AV.int .i64 0), (AV.int .i64 0), (AV.int .i64 ((al.length : Nat) : Int)), (AV.str ⟨#[]⟩), (AV.str ⟨#[]⟩), (AV.bool false), (AV.int .u32 (ofB (List.map Entry.card l))), (AV.osl 6 gc 9 0 k), (AV.sl .nil 0 [])]], none⟩, ⟨gc, 9, (List.map Card.row out), none⟩, ⟨0, 2, [(Key.row (nth ks i))], none⟩, ⟨0, 9, [[(AV.str (nth ks i).app), (AV.str (nth ks i).id), (AV.int .i64 2), (AV.int .i64 0), (AV.int .i64 1), (AV.int .i64 0), (AV.int .i64 0), (AV.int .i64 0), (AV.bool true)]], none⟩, ⟨0, 10, [(Entry.row (getE l (nth ks i)))], none⟩] : Heap) (.ap 4 32 (AV.osl 6 gc 9 0 k) (AV.sl .clip 9 [[(AV.str (nth ks i).app), (AV.str (nth ks i).id), (AV.int .i64 2), (AV.int .i64 0), (AV.int .i64 1), (AV.int .i64 0), (AV.int .i64 0), (AV.int .i64 0), (AV.bool true)]]) (AV.osl 6 (gc + 1) 9 0 (k + 1)) ([⟨0, 2, [[(AV.int .i64 most), (AV.osl 1 g 10 0 n)]], none⟩, ⟨g, 10, (List.map Entry.row l), none⟩, ⟨0, 2, [[(AV.int .i64 (((List.length al) : Nat) : Int)), (AV.osl 3 ga 2 0 (List.length (recL al)))]], none⟩, ⟨ga, 2, (List.map Key.row (recL al)), none⟩, ⟨0, 13, [[(AV.int .i64 0), (AV.int .i64 0), (AV.int .i64 0), (AV.int .i64 0), (AV.int .i64 0), (AV.int .i64 0), (AV.int .i64 0), (AV.str ⟨#[]⟩), (AV.str ⟨#[]⟩), (AV.bool false), (AV.int .u32 0), (AV.sl .nil 0 []), (AV.sl .nil 0 [])]], none⟩, ⟨0, 13, [[(AV.int .i64 2), (AV.int .i64 5), (AV.int .i64 0), (AV.int .i64 0), (AV.int .i64 0), (AV.int .i64 0), (AV.int .i64 ((al.length : Nat) : Int)), (AV.str ⟨#[]⟩), (AV.str ⟨#[]⟩), (AV.bool false), (AV.int .u32 (ofB (List.map Entry.card l))), (AV.osl 6 gc 9 0 k), (AV.sl .nil 0 [])]], none⟩, ⟨(gc + 1), 9, (List.map Card.row (out ++ [(Card.mk (nth ks i) 2 0 1 (Stamp.mk 0 0 0) true)])), none⟩, ⟨0, 2, [(Key.row (nth ks i))], none⟩, ⟨0, 9, [[(AV.str (nth ks i).app), (AV.str (nth ks i).id), (AV.int .i64 2), (AV.int .i64 0), (AV.int .i64 1), (AV.int .i64 0), (AV.int .i64 0), (AV.int .i64 0), (AV.bool true)]], none⟩, ⟨0, 10, [(Entry.row (getE l (nth ks i)))], none⟩] : Heap) (evAppend_one (row := Card.row) (l := out) (x := (Card.mk (nth ks i) 2 0 1 (Stamp.mk 0 0 0) true)) (T := tt) (e := 39) (te := { d := .struct [(30, 0), (3, 2), (3, 3), (2, 4), (37, 5), (4, 8)], size := 9, bytes := 88, zero := [.str ⟨#[]⟩, .str ⟨#[]⟩, .int .i64 0, .int .i64 0, .int .i64 0, .int .i64 0, .int .i64 0, .int .i64 0, .bool false] }) (z := 1) (b := 24) (y := [.sl .nil 0 []]) kr kr rfl (by decide) (by decide) kr (by first | assumption | omega | (simp; done) | (simp; omega)) rfl rfl (by first | omega | (show _ * 88 ≤ _; omega) | (simp; omega))) (.g (.r (.h' ([⟨0, 2, [[(AV.int .i64 most), (AV.osl 1 g 10 0 n)]], none⟩, ⟨g, 10, (List.map Entry.row l), none⟩, ⟨0, 2, [[(AV.int .i64 (((List.length al) : Nat) : Int)), (AV.osl 3 ga 2 0 (List.length (recL al)))]], none⟩, ⟨ga, 2, (List.map Key.row (recL al)), none⟩, ⟨0, 13, [[(AV.int .i64 0), (AV.int .i64 0), (AV.int .i64 0), (AV.int .i64 0), (AV.int .i64 0), (AV.int .i64 0), (AV.int .i64 0), (AV.str ⟨#[]⟩), (AV.str ⟨#[]⟩), (AV.bool false), (AV.int .u32 0), (AV.sl .nil 0 []), (AV.sl .nil 0 [])]], none⟩, ⟨0, 13, [[(AV.int .i64 2), (AV.int .i64 5), (AV.int .i64 0), (AV.int .i64 0), (AV.int .i64 0), (AV.int .i64 0), (AV.int .i64 ((al.length : Nat) : Int)), (AV.str ⟨#[]⟩), (AV.str ⟨#[]⟩), (AV.bool false), (AV.int .u32 (ofB (List.map Entry.card l))), (AV.osl 6 (gc + 1) 9 0 (k + 1)), (AV.sl .nil 0 [])]], none⟩, ⟨(gc + 1), 9, (List.map Card.row (out ++ [(Card.mk (nth ks i) 2 0 1 (Stamp.mk 0 0 0) true)])), none⟩, ⟨0, 2, [(Key.row (nth ks i))], none⟩, ⟨0, 9, [[(AV.str (nth ks i).app), (AV.str (nth ks i).id), (AV.int .i64 2), (AV.int .i64 0), (AV.int .i64 1), (AV.int .i64 0), (AV.int .i64 0), (AV.int .i64 0), (AV.bool true)]], none⟩, ⟨0, 10, [(Entry.row (getE l (nth ks i)))], none⟩] : Heap) (.y 0 (.int .i64 (IntKind.i64.wrap (((i : Nat) : Int) + 1))) (AV.int .i64 ((i + 1 : Nat) : Int)) (Yes.add ow ow ow) (.h' (Ye_6 most g n l al ga gc k out ks i) (.b 7 (.g (.l (k2 h1 h2)))))))))))))))))))))))))) (fun h1 h1' => (.l (k3 h1))))))
def deltaX_f (most : Int) (l : List Entry) (g : Nat) (n : Nat) (al : List Key) (ga : Nat) (ks : List Key) (i : Nat) (s : (List Card) × Nat × Nat) : (List Card) × Nat × Nat := (if (findB l (nth ks i)) = true then (s.1 ++ [(getE l (nth ks i)).card], (s.2.1 + 1), (s.2.2 + 1)) else (s.1 ++ [(Card.mk (nth ks i) 2 0 1 (Stamp.mk 0 0 0) true)], (s.2.1 + 1), (s.2.2 + 1)))
theorem deltaX_loop (most : Int) (l : List Entry) (g : Nat) (n : Nat) (al : List Key) (ga : Nat) (ks : List Key) (hn : n = l.length) (hl : l.length < 1000) (ha : al.length < 1000000) (hk : ks.length < 1000000)  (r_ : Nat) : ∀ (out : List Card) (k : Nat) (gc : Nat) (i : Nat) (sF : (List Card) × Nat × Nat), i + r_ = ks.length → k = out.length → k ≤ i → sF = iter (deltaX_f most l g n al ga ks) r_ i (out, k, gc) →
    LoopTo (codeQ Tryz.prog (X deltaX_ann) (loopOf Tryz.f107 0)) (some [0, 6, 9, 36, 37, 38]) (some [0, 6, 9, 36, 37, 38]) (Ye_7 ks i) (Ye_8 most g n l al ga gc k out) (.exit 0) (mkF 61 [(0, (.obj 0 0 0 0)), (6, (.obj 4 0 0 0)), (9, (.obj 5 0 0 0)), (36, (.sl .any 2 (List.map Key.row ks))), (37, (.int .i64 ((ks.length : Nat) : Int))), (38, (.int .i64 ((ks.length : Nat) : Int)))]) ([⟨0, 2, [[(.int .i64 most), (.osl 1 g 10 0 n)]], none⟩, ⟨g, 10, (List.map Entry.row l), none⟩, ⟨0, 2, [[(.int .i64 (((List.length al) : Nat) : Int)), (.osl 3 ga 2 0 (List.length (recL al)))]], none⟩, ⟨ga, 2, (List.map Key.row (recL al)), none⟩, ⟨0, 13, [[(.int .i64 0), (.int .i64 0), (.int .i64 0), (.int .i64 0), (.int .i64 0), (.int .i64 0), (.int .i64 0), (.str ⟨#[]⟩), (.str ⟨#[]⟩), (.bool false), (.int .u32 0), (.sl .nil 0 []), (.sl .nil 0 [])]], none⟩, ⟨0, 13, [[(.int .i64 2), (.int .i64 5), (.int .i64 0), (.int .i64 0), (.int .i64 0), (.int .i64 0), (.int .i64 ((al.length : Nat) : Int)), (.str ⟨#[]⟩), (.str ⟨#[]⟩), (.bool false), (.int .u32 (ofB (List.map Entry.card l))), (.osl 6 sF.2.2 9 0 sF.2.1), (.sl .nil 0 [])]], none⟩, ⟨sF.2.2, 9, (List.map Card.row sF.1), none⟩] : Heap) := by
  induction r_ with
  | zero =>
    intro out k gc i sF hi_ hko hki  hF
    obtain rfl : ks.length = i := by omega
    have e_ : sF = (out, k, gc) := hF
    refine deltaX_step most l g n al ga ks out k gc ks.length hn hl ha hk hko hki (Nat.le_refl _) (fun h _ => by simp at h <;> omega) (fun h _ => by simp at h <;> omega) (fun _ => ?_)
    first | done | rfl | (rw [e_]; done) | (rw [e_]; rfl)
  | succ r_ ih =>
    intro out k gc i sF hi_ hko hki  hF
    refine deltaX_step most l g n al ga ks out k gc i hn hl ha hk hko hki ow (fun h1 h2 => ?_) (fun h1 h2 => ?_) (fun h => by simp at h <;> omega)
    · exact ih (out ++ [(getE l (nth ks i)).card]) (k + 1) (gc + 1) (i + 1) sF ow (by first | omega | assumption | (simp; done) | (simp; omega) | (simp [*]; done) | (simp [*]; omega)) (by first | omega | assumption | (simp; done) | (simp; omega) | (simp [*]; done) | (simp [*]; omega))  (by rw [hF] <;> simp only [iter, deltaX_f, h2, if_true, Bool.false_eq_true, if_false])
    · exact ih (out ++ [(Card.mk (nth ks i) 2 0 1 (Stamp.mk 0 0 0) true)]) (k + 1) (gc + 1) (i + 1) sF ow (by first | omega | assumption | (simp; done) | (simp; omega) | (simp [*]; done) | (simp [*]; omega)) (by first | omega | assumption | (simp; done) | (simp; omega) | (simp [*]; done) | (simp [*]; omega))  (by rw [hF] <;> simp only [iter, deltaX_f, h2, if_true, Bool.false_eq_true, if_false])
theorem deltaX_iter (most : Int) (l : List Entry) (g n : Nat) (al : List Key) (ga : Nat) (ks : List Key) : (ks.map (atC l), (ks.map (atC l)).length, (ks.map (atC l)).length) = iter (deltaX_f most l g n al ga ks) ks.length 0 ([], 0, 0) := by
  rw [iter_all (deltaX_f most l g n al ga ks) (fun s k => (s.1 ++ [atC l k], s.2.1 + 1, s.2.2 + 1)) ks (fun i s hi => ?_)]
  · rw [fold_push (atC l) ks]; simp
  · with_unfolding_all simp only [deltaX_f, atC, goneC]
    by_cases h1 : findB l (nth ks i) = true <;> simp [h1]
@[simp] abbrev Ye_9 (v1_ : Int) (v2_ : Nat) (v3_ : Nat) (v4_ : List Entry) (v5_ : List Key) (v6_ : Nat) : Heap := [Ye_o1 v1_ v2_ v3_, ⟨v2_, 10, (List.map Entry.row v4_), none⟩, Ye_o2 v5_ v6_, ⟨v6_, 2, (List.map Key.row (recL v5_)), none⟩, Ye_o3, ⟨0, 13, [[(AV.int .i64 2), (AV.int .i64 5), (AV.int .i64 0), (AV.int .i64 0), (AV.int .i64 0), (AV.int .i64 0), (AV.int .i64 ((v5_.length : Nat) : Int)), (AV.str ⟨#[]⟩), (AV.str ⟨#[]⟩), (AV.bool false), (AV.int .u32 (ofB (List.map Entry.card v4_))), (AV.osl 6 0 9 0 0), (AV.sl .nil 0 [])]], none⟩, ⟨0, 9, (List.map Card.row []), none⟩]
@[simp] abbrev Ye_10 (v1_ : List Key) (v2_ : Int) : Fr := (mkF 61 [(0, (AV.obj 0 0 0 0)), (6, (AV.obj 4 0 0 0)), (9, (AV.obj 5 0 0 0)), (36, (AV.sl .any 2 (List.map Key.row (sinceK v1_ v2_)))), (37, (AV.int .i64 (((sinceK v1_ v2_).length : Nat) : Int))), (38, (AV.int .i64 (((sinceK v1_ v2_).length : Nat) : Int)))])
@[simp] abbrev Ye_11 (v1_ : Int) (v2_ : Nat) (v3_ : Nat) (v4_ : List Entry) (v5_ : List Key) (v6_ : Nat) (v7_ : Int) : Heap := [Ye_o1 v1_ v2_ v3_, ⟨v2_, 10, (List.map Entry.row v4_), none⟩, Ye_o2 v5_ v6_, ⟨v6_, 2, (List.map Key.row (recL v5_)), none⟩, Ye_o3, ⟨0, 13, [[(AV.int .i64 2), (AV.int .i64 5), (AV.int .i64 0), (AV.int .i64 0), (AV.int .i64 0), (AV.int .i64 0), (AV.int .i64 ((v5_.length : Nat) : Int)), (AV.str ⟨#[]⟩), (AV.str ⟨#[]⟩), (AV.bool false), (AV.int .u32 (ofB (List.map Entry.card v4_))), (AV.osl 6 (List.map (atC v4_) (sinceK v5_ v7_)).length 9 0 (List.map (atC v4_) (sinceK v5_ v7_)).length), (AV.sl .nil 0 [])]], none⟩, ⟨(List.map (atC v4_) (sinceK v5_ v7_)).length, 9, (List.map Card.row (List.map (atC v4_) (sinceK v5_ v7_))), none⟩]
set_option maxRecDepth 100000 in
theorem deltaXS_spec (most : Int) (l : List Entry) (g n : Nat) (al : List Key) (ga : Nat) (since : Int) (hn : n = l.length) (hl : l.length < 1000) (ha : al.length < 1000000) (hok : okS al since = true) : ACalls Tryz.prog 107 [(AV.obj 0 0 0 0), (AV.obj 2 0 0 0), (AV.int .i64 since)] (Ye_1 most g n l al ga) ((AV.agg [(AV.int .i64 2), (AV.int .i64 5), (AV.int .i64 0), (AV.int .i64 0), (AV.int .i64 0), (AV.int .i64 0), (AV.int .i64 ((al.length : Nat) : Int)), (AV.str ⟨#[]⟩), (AV.str ⟨#[]⟩), (AV.bool false), (AV.int .u32 (ofB (List.map Entry.card l))), (AV.sl .any 9 (List.map Card.row (List.map (atC l) (sinceK al since)))), (AV.sl .nil 0 [])]), (Ye_1 most g n l al ga)) := by
  have hm : (List.map Entry.card l).length = l.length := List.length_map _
  have hs := sinceK_len al since
  have hd : (List.map (atC l) (sinceK al since)).length = (sinceK al since).length := List.length_map _
  exact specO (fn := Tryz.f107) (ann := deltaX_ann) (Has.o Tryz.func107) (.r (.g (.r (.no (.no (.g (.no (.r (.c 2 (ACalls.pre (args := [(.obj 2 0 0 0), (.int .i64 since)]) (args' := [(.obj 2 0 0 0), (.int .i64 since)]) (ACalls.put2 [2, 3] (Ye_2 most g n l al ga) (AV.tup [(.sl .any 2 (List.map Key.row (sinceK al since))), (.bool (okS al since))]) (Ye_2 most g n l al ga) (since_spec al ga since oa) (⟨rfl, ⟨Ob.ren0 (Key.rows_bdd 0 _), trivial⟩⟩) (⟨rfl, ⟨Ob.ren0 (Key.rows_bdd 0 _), trivial⟩⟩)) ⟨AV.wk_refl_any _, AV.wk_refl_any _, trivial⟩) (.g (.r (.h' (Ye_2 most g n l al ga) (.y 1 (AV.bool (!(okS al since))) (AV.bool false) (Yes.bool (by rw [hok]; rfl)) (.g (.no (.r (.c 2 (begunX_at most l g n al ga oa oa oa Ye_3) (.o (rfl : 0 = 0) (.g (.r (.h' (Ye_9 most g n l al ga) (.y 1 (.int .i64 ((List.length (List.map Key.row (sinceK al since)) : Nat) : Int)) (AV.int .i64 (((sinceK al since).length : Nat) : Int)) (Yes.len _ _ _) (.g (.loop (Ye_10 al since) (show LoopTo (codeQ Tryz.prog (X deltaX_ann) (loopOf Tryz.f107 0)) (some [0, 6, 9, 36, 37, 38]) (some [0, 6, 9, 36, 37, 38]) (mkF 61 [(0, (.obj 0 0 0 0)), (6, (.obj 4 0 0 0)), (9, (.obj 5 0 0 0)), (36, (.sl .any 2 (List.map Key.row (sinceK al since)))), (37, (.int .i64 (((sinceK al since).length : Nat) : Int))), (38, (.int .i64 0))]) (Ye_9 most g n l al ga) (.exit 0) (Ye_10 al since) (Ye_11 most g n l al ga since) from (deltaX_loop most l g n al ga (sinceK al since) ow ow ow ow (List.length (sinceK al since)) [] 0 0 0 (List.map (atC l) (sinceK al since), (List.map (atC l) (sinceK al since)).length, (List.map (atC l) (sinceK al since)).length) ow rfl ow (deltaX_iter _ _ _ _ _ _ _))) (.r (.w 9 (List.map Card.row (List.map (atC l) (sinceK al since))) (And.intro rfl (And.intro (rowsIn_all (room := none) kr om) (Card.rows_bdd _ _)) : 0 = 0 ∧ rowsIn (Ye_11 most g n l al ga since) 9 (AV.osl 6 (List.map (atC l) (sinceK al since)).length 9 0 (List.map (atC l) (sinceK al since)).length) = some (List.map Card.row (List.map (atC l) (sinceK al since))) ∧ AV.bddss 0 (List.map Card.row (List.map (atC l) (sinceK al since))) = true) (.g (.h' (Ye_1 most g n l al ga) (.f 4 (AV.agg [(.int .i64 2), (.int .i64 5), (.int .i64 0), (.int .i64 0), (.int .i64 0), (.int .i64 0), (.int .i64 ((al.length : Nat) : Int)), (.str ⟨#[]⟩), (.str ⟨#[]⟩), (.bool false), (.int .u32 (ofB (List.map Entry.card l))), (.sl .any 9 (List.map Card.row (List.map (atC l) (sinceK al since)))), (.sl .nil 0 [])]) (.e (AV.agg [(.int .i64 2), (.int .i64 5), (.int .i64 0), (.int .i64 0), (.int .i64 0), (.int .i64 0), (.int .i64 ((al.length : Nat) : Int)), (.str ⟨#[]⟩), (.str ⟨#[]⟩), (.bool false), (.int .u32 (ofB (List.map Entry.card l))), (.sl .any 9 (List.map Card.row (List.map (atC l) (sinceK al since)))), (.sl .nil 0 [])])))))))))))))))))))))))))))))))
set_option maxRecDepth 100000 in
theorem deltaXN_spec (most : Int) (l : List Entry) (g n : Nat) (al : List Key) (ga : Nat) (since : Int) (hn : n = l.length) (hl : l.length < 1000) (ha : al.length < 1000000) (hok : okS al since = false) : ACalls Tryz.prog 107 [(AV.obj 0 0 0 0), (AV.obj 2 0 0 0), (AV.int .i64 since)] (Ye_1 most g n l al ga) ((AV.agg [(AV.int .i64 2), (AV.int .i64 5), (AV.int .i64 0), (AV.int .i64 0), (AV.int .i64 0), (AV.int .i64 0), (AV.int .i64 ((al.length : Nat) : Int)), (AV.str ⟨#[]⟩), (AV.str ⟨#[]⟩), (AV.bool true), (AV.int .u32 (ofB (List.map Entry.card l))), (AV.sl .any 9 (List.map Card.row (seenK (List.map Entry.card l)))), (AV.sl .nil 0 [])]), (Ye_1 most g n l al ga)) := by
  have hm : (List.map Entry.card l).length = l.length := List.length_map _
  have hs := sinceK_len al since
  have hd : (List.map (atC l) (sinceK al since)).length = (sinceK al since).length := List.length_map _
  exact specO (fn := Tryz.f107) (ann := deltaX_ann) (Has.o Tryz.func107) (.r (.g (.r (.no (.no (.g (.no (.r (.c 2 (ACalls.pre (args := [(AV.obj 2 0 0 0), (AV.int .i64 since)]) (args' := [(AV.obj 2 0 0 0), (AV.int .i64 since)]) (ACalls.put2 [2, 3] (Ye_2 most g n l al ga) (AV.tup [(AV.sl .any 2 (List.map Key.row (sinceK al since))), (AV.bool (okS al since))]) (Ye_2 most g n l al ga) (since_spec al ga since oa) (⟨rfl, ⟨Ob.ren0 (Key.rows_bdd 0 _), trivial⟩⟩) (⟨rfl, ⟨Ob.ren0 (Key.rows_bdd 0 _), trivial⟩⟩)) ⟨AV.wk_refl_any _, AV.wk_refl_any _, trivial⟩) (.g (.r (.h' (Ye_2 most g n l al ga) (.y 1 (AV.bool (!(okS al since))) (AV.bool true) (Yes.bool (by rw [hok]; rfl)) (.g (.yes (.r (.c 2 (ffullX_at most l g n al ga oa oa oa ([⟨0, 13, [[(AV.int .i64 0), (AV.int .i64 0), (AV.int .i64 0), (AV.int .i64 0), (AV.int .i64 0), (AV.int .i64 0), (AV.int .i64 0), (AV.str ⟨#[]⟩), (AV.str ⟨#[]⟩), (AV.bool false), (AV.int .u32 0), (AV.sl .nil 0 []), (AV.sl .nil 0 [])]], none⟩] : Heap)) (.g (.h' (Ye_1 most g n l al ga) (.f 4 (AV.agg [(AV.int .i64 2), (AV.int .i64 5), (AV.int .i64 0), (AV.int .i64 0), (AV.int .i64 0), (AV.int .i64 0), (AV.int .i64 ((al.length : Nat) : Int)), (AV.str ⟨#[]⟩), (AV.str ⟨#[]⟩), (AV.bool true), (AV.int .u32 (ofB (List.map Entry.card l))), (AV.sl .any 9 (List.map Card.row (seenK (List.map Entry.card l)))), (AV.sl .nil 0 [])]) (.e (AV.agg [(AV.int .i64 2), (AV.int .i64 5), (AV.int .i64 0), (AV.int .i64 0), (AV.int .i64 0), (AV.int .i64 0), (AV.int .i64 ((al.length : Nat) : Int)), (AV.str ⟨#[]⟩), (AV.str ⟨#[]⟩), (AV.bool true), (AV.int .u32 (ofB (List.map Entry.card l))), (AV.sl .any 9 (List.map Card.row (seenK (List.map Entry.card l)))), (AV.sl .nil 0 [])]))))))))))))))))))))))
theorem deltaX_spec (most : Int) (l : List Entry) (g n : Nat) (al : List Key) (ga : Nat) (since : Int) (hn : n = l.length) (hl : l.length < 1000) (ha : al.length < 1000000) : ACalls Tryz.prog 107 [(AV.obj 0 0 0 0), (AV.obj 2 0 0 0), (AV.int .i64 since)] ([⟨0, 2, [[(AV.int .i64 most), (AV.osl 1 g 10 0 n)]], none⟩, ⟨g, 10, (List.map Entry.row l), none⟩, ⟨0, 2, [[(AV.int .i64 (((List.length al) : Nat) : Int)), (AV.osl 3 ga 2 0 (List.length (recL al)))]], none⟩, ⟨ga, 2, (List.map Key.row (recL al)), none⟩] : Heap) ((AV.agg [(AV.int .i64 2), (AV.int .i64 5), (AV.int .i64 0), (AV.int .i64 0), (AV.int .i64 0), (AV.int .i64 0), (AV.int .i64 ((al.length : Nat) : Int)), (AV.str ⟨#[]⟩), (AV.str ⟨#[]⟩), (AV.bool (!(okS al since))), (AV.int .u32 (ofB (List.map Entry.card l))), (AV.sl .any 9 (List.map Card.row (dCards l al since))), (AV.sl .nil 0 [])]), ([⟨0, 2, [[(AV.int .i64 most), (AV.osl 1 g 10 0 n)]], none⟩, ⟨g, 10, (List.map Entry.row l), none⟩, ⟨0, 2, [[(AV.int .i64 (((List.length al) : Nat) : Int)), (AV.osl 3 ga 2 0 (List.length (recL al)))]], none⟩, ⟨ga, 2, (List.map Key.row (recL al)), none⟩] : Heap)) := by
  cases h : okS al since with
  | true => have h1 := deltaXS_spec most l g n al ga since hn hl ha h; unfold dCards; rw [if_pos h]; exact h1
  | false => have h1 := deltaXN_spec most l g n al ga since hn hl ha h; unfold dCards; rw [if_neg (by rw [h]; simp)]; exact h1
def fetM (l : List Entry) (al : List Key) (seq tag : Int) : Msg := ⟨2, 5, 0, 0, tag, 0, (al.length : Int), ⟨⟨#[]⟩, ⟨#[]⟩⟩, !(okS al seq), ofB (List.map Entry.card l), dCards l al seq, []⟩
def fulM (l : List Entry) (al : List Key) (tag : Int) : Msg := ⟨2, 5, 0, 0, tag, 0, (al.length : Int), ⟨⟨#[]⟩, ⟨#[]⟩⟩, true, ofB (List.map Entry.card l), seenK (List.map Entry.card l), []⟩
def fetR (l : List Entry) (al : List Key) (seq tag : Int) : Msg := if seq = -1 then fulM l al tag else fetM l al seq tag
def dfetchD_ann : Ann := { refs := [3], gha := [(5, .frzf 4 11 9), (5, .frzf 4 12 2)], base := 6, fin := some 6 }
@[simp] abbrev Ye_o5 (v1_ : Nat) (v2_ : List Entry) : Ob := ⟨0, 2, [[(AV.int .i64 (capM 32)), (AV.osl 1 v1_ 10 0 (List.length v2_))]], none⟩
@[simp] abbrev Ye_o6 (v1_ : Int) (v2_ : Int) (v3_ : Int) : Ob := ⟨0, 3, [[(AV.int .i64 v1_), (AV.int .i64 v2_), (AV.int .i64 v3_)]], none⟩
@[simp] abbrev Ye_o7 (v1_ : List Key) (v2_ : Nat) : Ob := ⟨0, 2, [[(AV.int .i64 (((List.length v1_) : Nat) : Int)), (AV.osl 4 v2_ 2 0 (List.length (recL v1_)))]], none⟩
@[simp] abbrev Ye_o8 (v1_ : Int) (v2_ : Stamp) : Ob := ⟨0, 7, [[(AV.int .i64 v1_), (AV.int .i64 v2_.t), (AV.int .i64 v2_.node), (AV.int .i64 v2_.n), (AV.obj 0 0 0 0), (AV.obj 2 0 0 0), (AV.obj 3 0 0 0)]], none⟩
@[simp] abbrev Ye_12 (v1_ : Nat) (v2_ : List Entry) (v3_ : Int) (v4_ : Int) (v5_ : Int) (v6_ : List Key) (v7_ : Nat) (v8_ : Int) (v9_ : Stamp) : Heap := [Ye_o5 v1_ v2_, ⟨v1_, 10, (List.map Entry.row v2_), none⟩, Ye_o6 v3_ v4_ v5_, Ye_o7 v6_ v7_, ⟨v7_, 2, (List.map Key.row (recL v6_)), none⟩, Ye_o8 v8_ v9_]
@[simp] abbrev Ye_13 (v1_ : Nat) (v2_ : List Entry) (v3_ : Int) (v4_ : Int) (v5_ : Int) (v6_ : List Key) (v7_ : Nat) (v8_ : Int) (v9_ : Stamp) : Heap := [Ye_o5 v1_ v2_, ⟨v1_, 10, (List.map Entry.row v2_), none⟩, Ye_o6 v3_ v4_ v5_, Ye_o7 v6_ v7_, ⟨v7_, 2, (List.map Key.row (recL v6_)), none⟩, Ye_o8 v8_ v9_, Ye_o3, Ye_o3]
@[simp] abbrev Ye_14 (v1_ : Nat) (v2_ : List Entry) (v3_ : Int) (v4_ : Int) (v5_ : Int) (v6_ : List Key) (v7_ : Nat) (v8_ : Int) (v9_ : Stamp) : Heap := [Ye_o5 v1_ v2_, ⟨v1_, 10, (List.map Entry.row v2_), none⟩, Ye_o6 v3_ v4_ v5_, Ye_o7 v6_ v7_, ⟨v7_, 2, (List.map Key.row (recL v6_)), none⟩, Ye_o8 v8_ v9_, Ye_o3, ⟨0, 13, [[(AV.int .i64 2), (AV.int .i64 5), (AV.int .i64 0), (AV.int .i64 0), (AV.int .i64 0), (AV.int .i64 0), (AV.int .i64 ((v6_.length : Nat) : Int)), (AV.str ⟨#[]⟩), (AV.str ⟨#[]⟩), (AV.bool true), (AV.int .u32 (ofB (List.map Entry.card v2_))), (AV.sl .any 9 (List.map Card.row (seenK (List.map Entry.card v2_)))), (AV.sl .nil 0 [])]], none⟩]
set_option maxRecDepth 100000 in
theorem dfetchD_spec (l : List Entry) (g : Nat) (al : List Key) (ga : Nat) (gf gl gt nd : Int) (st : Stamp) (q : Msg) (hl : l.length < 1000) (ha : al.length < 100000) (hs : ¬ q.seq = -1) : ACalls Tryz.prog 54 [(AV.obj 5 0 0 0), (AV.agg (Msg.row q))] (Ye_12 g l gf gl gt al ga nd st) ((AV.agg (Msg.row (fetM l al q.seq q.tag))), (Ye_12 g l gf gl gt al ga nd st)) :=
  specO (fn := Tryz.f54) (ann := dfetchD_ann) (Has.o Tryz.func54) (.r (.g (.r (.c 8 (ACalls.pre (args := [(AV.obj 0 0 0 0), (AV.obj 3 0 0 0)]) (args' := [(AV.obj 0 0 0 0), (AV.obj 3 0 0 0)]) (ACalls.put2 [0, 1, 3, 4] (Ye_13 g l gf gl gt al ga nd st) (AV.agg [(AV.int .i64 2), (AV.int .i64 5), (AV.int .i64 0), (AV.int .i64 0), (AV.int .i64 0), (AV.int .i64 0), (AV.int .i64 ((al.length : Nat) : Int)), (AV.str ⟨#[]⟩), (AV.str ⟨#[]⟩), (AV.bool true), (AV.int .u32 (ofB (List.map Entry.card l))), (AV.sl .any 9 (List.map Card.row (seenK (List.map Entry.card l)))), (AV.sl .nil 0 [])]) (Ye_13 g l gf gl gt al ga nd st) (ffullX_spec (capM 32) l g (List.length l) al ga oa oa oa) (⟨rfl, ⟨Ob.ren0 (Entry.rows_bdd 0 _), ⟨rfl, ⟨Ob.ren0 (Key.rows_bdd 0 _), trivial⟩⟩⟩⟩) (⟨rfl, ⟨Ob.ren0 (Entry.rows_bdd 0 _), ⟨rfl, ⟨Ob.ren0 (Key.rows_bdd 0 _), trivial⟩⟩⟩⟩)) ⟨AV.wk_refl_any _, AV.wk_refl_any _, trivial⟩) (.g (.r (.h' (Ye_14 g l gf gl gt al ga nd st) (.y 2 (AV.bool (q.seq != (-1))) (AV.bool true) (Yes.bool (by simpa using hs)) (.g (.yes (.r (.c 10 (ACalls.pre (args := [(AV.obj 0 0 0 0), (AV.obj 3 0 0 0), (AV.int .i64 q.seq)]) (args' := [(AV.obj 0 0 0 0), (AV.obj 3 0 0 0), (AV.int .i64 q.seq)]) (ACalls.put2 [0, 1, 3, 4] (Ye_14 g l gf gl gt al ga nd st) (AV.agg [(AV.int .i64 2), (AV.int .i64 5), (AV.int .i64 0), (AV.int .i64 0), (AV.int .i64 0), (AV.int .i64 0), (AV.int .i64 ((al.length : Nat) : Int)), (AV.str ⟨#[]⟩), (AV.str ⟨#[]⟩), (AV.bool (!(okS al q.seq))), (AV.int .u32 (ofB (List.map Entry.card l))), (AV.sl .any 9 (List.map Card.row (dCards l al q.seq))), (AV.sl .nil 0 [])]) (Ye_14 g l gf gl gt al ga nd st) (deltaX_spec (capM 32) l g (List.length l) al ga q.seq oa oa oa) (⟨rfl, ⟨Ob.ren0 (Entry.rows_bdd 0 _), ⟨rfl, ⟨Ob.ren0 (Key.rows_bdd 0 _), trivial⟩⟩⟩⟩) (⟨rfl, ⟨Ob.ren0 (Entry.rows_bdd 0 _), ⟨rfl, ⟨Ob.ren0 (Key.rows_bdd 0 _), trivial⟩⟩⟩⟩)) ⟨AV.wk_refl_any _, AV.wk_refl_any _, AV.wk_refl_any _, trivial⟩) (.g (.r (.g (.r (.o (rfl : 0 = 0) (.o (rfl : 0 = 0) (.g (.h' (Ye_12 g l gf gl gt al ga nd st) (.f 6 (AV.agg [(AV.int .i64 2), (AV.int .i64 5), (AV.int .i64 0), (AV.int .i64 0), (AV.int .i64 q.tag), (AV.int .i64 0), (AV.int .i64 ((al.length : Nat) : Int)), (AV.str ⟨#[]⟩), (AV.str ⟨#[]⟩), (AV.bool (!(okS al q.seq))), (AV.int .u32 (ofB (List.map Entry.card l))), (AV.sl .any 9 (List.map Card.row (dCards l al q.seq))), (AV.sl .any 2 (List.map Key.row []))]) (.e (AV.agg [(AV.int .i64 2), (AV.int .i64 5), (AV.int .i64 0), (AV.int .i64 0), (AV.int .i64 q.tag), (AV.int .i64 0), (AV.int .i64 ((al.length : Nat) : Int)), (AV.str ⟨#[]⟩), (AV.str ⟨#[]⟩), (AV.bool (!(okS al q.seq))), (AV.int .u32 (ofB (List.map Entry.card l))), (AV.sl .any 9 (List.map Card.row (dCards l al q.seq))), (AV.sl .any 2 (List.map Key.row []))])))))))))))))))))))))))
def dfetchA_ann : Ann := { refs := [3], gha := [(5, .frzf 4 11 9), (5, .frzf 4 12 2)], base := 6, fin := some 6 }
set_option maxRecDepth 100000 in
theorem dfetchA_spec (l : List Entry) (g : Nat) (al : List Key) (ga : Nat) (gf gl gt nd : Int) (st : Stamp) (q : Msg) (hl : l.length < 1000) (ha : al.length < 100000) (hs : q.seq = -1) : ACalls Tryz.prog 54 [(AV.obj 5 0 0 0), (AV.agg (Msg.row q))] (Ye_12 g l gf gl gt al ga nd st) ((AV.agg (Msg.row (fulM l al q.tag))), (Ye_12 g l gf gl gt al ga nd st)) :=
  specO (fn := Tryz.f54) (ann := dfetchA_ann) (Has.o Tryz.func54) (.r (.g (.r (.c 8 (ACalls.pre (args := [(AV.obj 0 0 0 0), (AV.obj 3 0 0 0)]) (args' := [(AV.obj 0 0 0 0), (AV.obj 3 0 0 0)]) (ACalls.put2 [0, 1, 3, 4] (Ye_13 g l gf gl gt al ga nd st) (AV.agg [(AV.int .i64 2), (AV.int .i64 5), (AV.int .i64 0), (AV.int .i64 0), (AV.int .i64 0), (AV.int .i64 0), (AV.int .i64 ((al.length : Nat) : Int)), (AV.str ⟨#[]⟩), (AV.str ⟨#[]⟩), (AV.bool true), (AV.int .u32 (ofB (List.map Entry.card l))), (AV.sl .any 9 (List.map Card.row (seenK (List.map Entry.card l)))), (AV.sl .nil 0 [])]) (Ye_13 g l gf gl gt al ga nd st) (ffullX_spec (capM 32) l g (List.length l) al ga oa oa oa) (⟨rfl, ⟨Ob.ren0 (Entry.rows_bdd 0 _), ⟨rfl, ⟨Ob.ren0 (Key.rows_bdd 0 _), trivial⟩⟩⟩⟩) (⟨rfl, ⟨Ob.ren0 (Entry.rows_bdd 0 _), ⟨rfl, ⟨Ob.ren0 (Key.rows_bdd 0 _), trivial⟩⟩⟩⟩)) ⟨AV.wk_refl_any _, AV.wk_refl_any _, trivial⟩) (.g (.r (.h' (Ye_14 g l gf gl gt al ga nd st) (.y 2 (AV.bool (q.seq != (-1))) (AV.bool false) (Yes.bool (by rw [hs]; rfl)) (.g (.no (.r (.g (.r (.o (rfl : 0 = 0) (.o (rfl : 0 = 0) (.g (.h' (Ye_12 g l gf gl gt al ga nd st) (.f 6 (AV.agg [(AV.int .i64 2), (AV.int .i64 5), (AV.int .i64 0), (AV.int .i64 0), (AV.int .i64 q.tag), (AV.int .i64 0), (AV.int .i64 ((al.length : Nat) : Int)), (AV.str ⟨#[]⟩), (AV.str ⟨#[]⟩), (AV.bool true), (AV.int .u32 (ofB (List.map Entry.card l))), (AV.sl .any 9 (List.map Card.row (seenK (List.map Entry.card l)))), (AV.sl .any 2 (List.map Key.row []))]) (.e (AV.agg [(AV.int .i64 2), (AV.int .i64 5), (AV.int .i64 0), (AV.int .i64 0), (AV.int .i64 q.tag), (AV.int .i64 0), (AV.int .i64 ((al.length : Nat) : Int)), (AV.str ⟨#[]⟩), (AV.str ⟨#[]⟩), (AV.bool true), (AV.int .u32 (ofB (List.map Entry.card l))), (AV.sl .any 9 (List.map Card.row (seenK (List.map Entry.card l)))), (AV.sl .any 2 (List.map Key.row []))]))))))))))))))))))))
theorem dfetch_spec (l : List Entry) (g : Nat) (al : List Key) (ga : Nat) (gf gl gt nd : Int) (st : Stamp) (q : Msg) (hl : l.length < 1000) (ha : al.length < 100000) : ACalls Tryz.prog 54 [(AV.obj 5 0 0 0), (AV.agg (Msg.row q))] ([⟨0, 2, [[(AV.int .i64 (capM 32)), (AV.osl 1 g 10 0 (List.length l))]], none⟩, ⟨g, 10, (List.map Entry.row l), none⟩, ⟨0, 3, [[(AV.int .i64 gf), (AV.int .i64 gl), (AV.int .i64 gt)]], none⟩, ⟨0, 2, [[(AV.int .i64 (((List.length al) : Nat) : Int)), (AV.osl 4 ga 2 0 (List.length (recL al)))]], none⟩, ⟨ga, 2, (List.map Key.row (recL al)), none⟩, ⟨0, 7, [[(AV.int .i64 nd), (AV.int .i64 st.t), (AV.int .i64 st.node), (AV.int .i64 st.n), (AV.obj 0 0 0 0), (AV.obj 2 0 0 0), (AV.obj 3 0 0 0)]], none⟩] : Heap) ((AV.agg (Msg.row (fetR l al q.seq q.tag))), ([⟨0, 2, [[(AV.int .i64 (capM 32)), (AV.osl 1 g 10 0 (List.length l))]], none⟩, ⟨g, 10, (List.map Entry.row l), none⟩, ⟨0, 3, [[(AV.int .i64 gf), (AV.int .i64 gl), (AV.int .i64 gt)]], none⟩, ⟨0, 2, [[(AV.int .i64 (((List.length al) : Nat) : Int)), (AV.osl 4 ga 2 0 (List.length (recL al)))]], none⟩, ⟨ga, 2, (List.map Key.row (recL al)), none⟩, ⟨0, 7, [[(AV.int .i64 nd), (AV.int .i64 st.t), (AV.int .i64 st.node), (AV.int .i64 st.n), (AV.obj 0 0 0 0), (AV.obj 2 0 0 0), (AV.obj 3 0 0 0)]], none⟩] : Heap)) := by
  by_cases hs : q.seq = -1
  · have e : fetR l al q.seq q.tag = fulM l al q.tag := if_pos hs
    rw [e]; exact dfetchA_spec l g al ga gf gl gt nd st q hl ha hs
  · have e : fetR l al q.seq q.tag = fetM l al q.seq q.tag := if_neg hs
    rw [e]; exact dfetchD_spec l g al ga gf gl gt nd st q hl ha hs
theorem dfetch_at (l : List Entry) (g : Nat) (al : List Key) (ga : Nat) (gf gl gt nd : Int) (st : Stamp) (q : Msg) (hl : l.length < 1000) (ha : al.length < 100000) (H : Heap) : ACalls Tryz.prog 54 [(AV.obj 5 0 0 0), (AV.agg (Msg.row q))] ((Ye_12 g l gf gl gt al ga nd st) ++ H) ((AV.agg (Msg.row (fetR l al q.seq q.tag))), (Ye_12 g l gf gl gt al ga nd st) ++ H) := (dfetch_spec l g al ga gf gl gt nd st q hl ha).ext kr kr ob ob kr H
attribute [local irreducible] fetR errA hold40
def hdF_ann : Ann := { refs := [4], gha := [(7, .any 7 9)], base := 6, fin := some 6 }
@[simp] abbrev Ye_15 (v1_ : Nat) (v2_ : List Entry) (v3_ : Int) (v4_ : Int) (v5_ : Int) (v6_ : List Key) (v7_ : Nat) (v8_ : Int) (v9_ : Stamp) (v10_ : Msg) : Heap := [Ye_o5 v1_ v2_, ⟨v1_, 10, (List.map Entry.row v2_), none⟩, Ye_o6 v3_ v4_ v5_, Ye_o7 v6_ v7_, ⟨v7_, 2, (List.map Key.row (recL v6_)), none⟩, Ye_o8 v8_ v9_, Ye_o3, ⟨0, 13, [[(AV.int .i64 2), (AV.int .i64 v10_.op), (AV.int .i64 0), (AV.int .i64 0), (AV.int .i64 v10_.tag), (AV.int .i64 0), (AV.int .i64 0), (AV.str v10_.key.app), (AV.str v10_.key.id), (AV.bool false), (AV.int .u32 0), (AV.sl .nil 0 []), (AV.sl .nil 0 [])]], none⟩]
set_option maxRecDepth 100000 in
theorem hdF_spec (l : List Entry) (g : Nat) (al : List Key) (ga : Nat) (gf gl gt nd : Int) (st : Stamp) (q : Msg) (now : Int) (hl : l.length < 1000) (ha : al.length < 100000) (hk : q.kind = 1) (hr : msgR q = true) (ho : q.op = 5) : ACalls Tryz.prog 18 [(AV.obj 5 0 0 0), (AV.agg (Msg.row q)), (AV.int .i64 now)] (Ye_12 g l gf gl gt al ga nd st) ((AV.tup [(AV.agg (Msg.row (fetR l al q.seq q.tag))), (AV.sl .any 9 (List.map Card.row ([] : List Card)))]), (Ye_12 g l gf gl gt al ga nd st)) :=
  specO (fn := Tryz.f18) (ann := hdF_ann) (Has.o Tryz.func18) (.r (.g (.r (.c 1 (dheld_at now  ([⟨0, 2, [[(AV.int .i64 (capM 32)), (AV.osl 1 g 10 0 (List.length l))]], none⟩, ⟨g, 10, (List.map Entry.row l), none⟩, ⟨0, 3, [[(AV.int .i64 gf), (AV.int .i64 gl), (AV.int .i64 gt)]], none⟩, ⟨0, 2, [[(AV.int .i64 (((List.length al) : Nat) : Int)), (AV.osl 4 ga 2 0 (List.length (recL al)))]], none⟩, ⟨ga, 2, (List.map Key.row (recL al)), none⟩, ⟨0, 7, [[(AV.int .i64 nd), (AV.int .i64 st.t), (AV.int .i64 st.node), (AV.int .i64 st.n), (AV.obj 0 0 0 0), (AV.obj 2 0 0 0), (AV.obj 3 0 0 0)]], none⟩, ⟨0, 13, [[(AV.int .i64 0), (AV.int .i64 0), (AV.int .i64 0), (AV.int .i64 0), (AV.int .i64 0), (AV.int .i64 0), (AV.int .i64 0), (AV.str ⟨#[]⟩), (AV.str ⟨#[]⟩), (AV.bool false), (AV.int .u32 0), (AV.sl .nil 0 []), (AV.sl .nil 0 [])]], none⟩] : Heap)) (.g (.r (.g (.r (.h' (Ye_15 g l gf gl gt al ga nd st q) (.y 2 (AV.bool (q.kind != 1)) (AV.bool false) (Yes.bool (by rw [hk]; rfl)) (.no (.no (.c 5 (mrightG_at q oa (Ye_15 g l gf gl gt al ga nd st q)) (.no (.g (.no (.r (.y 2 (AV.bool (q.op == 5)) (AV.bool true) (Yes.bool (by rw [ho]; rfl)) (.g (.yes (.r (.c 2 (dfetch_at l g al ga gf gl gt nd st q oa oa ([⟨0, 13, [[(AV.int .i64 0), (AV.int .i64 0), (AV.int .i64 0), (AV.int .i64 0), (AV.int .i64 0), (AV.int .i64 0), (AV.int .i64 0), (AV.str ⟨#[]⟩), (AV.str ⟨#[]⟩), (AV.bool false), (AV.int .u32 0), (AV.sl .nil 0 []), (AV.sl .nil 0 [])]], none⟩, ⟨0, 13, [[(AV.int .i64 2), (AV.int .i64 q.op), (AV.int .i64 0), (AV.int .i64 0), (AV.int .i64 q.tag), (AV.int .i64 0), (AV.int .i64 0), (AV.str q.key.app), (AV.str q.key.id), (AV.bool false), (AV.int .u32 0), (AV.sl .nil 0 []), (AV.sl .nil 0 [])]], none⟩] : Heap)) (.g (.h' (Ye_12 g l gf gl gt al ga nd st) (.f 6 (AV.tup [(AV.agg (Msg.row (fetR l al q.seq q.tag))), (AV.sl .any 9 [])]) (.e (AV.tup [(AV.agg (Msg.row (fetR l al q.seq q.tag))), (AV.sl .any 9 [])])))))))))))))))))))))))))))
structure DS where
  l : List Entry
  g : Nat
  al : List Key
  ga : Nat
  gf : Int
  gl : Int
  gt : Int
  st : Stamp
def DS.turn (s : DS) (nd : Int) (q : Msg) (now : Int) : DS :=
  ⟨(tuR s.l s.g s.al s.ga s.gt nd s.st q now).l, (tuR s.l s.g s.al s.ga s.gt nd s.st q now).g, (tuR s.l s.g s.al s.ga s.gt nd s.st q now).al, (tuR s.l s.g s.al s.ga s.gt nd s.st q now).ga, s.gf, s.gl, (tuR s.l s.g s.al s.ga s.gt nd s.st q now).gt, (tuR s.l s.g s.al s.ga s.gt nd s.st q now).st⟩
structure HdR where
  m : Msg
  c : List Card
  s : DS
def hdD (nd : Int) (s : DS) (q : Msg) (now : Int) : HdR :=
  if q.kind = 1 ∧ msgR q = true then
    if q.op = 5 then ⟨fetR s.l s.al q.seq q.tag, [], s⟩
    else ⟨hdM q (tuR s.l s.g s.al s.ga s.gt nd s.st q (hold40 now)).code, (tuR s.l s.g s.al s.ga s.gt nd s.st q (hold40 now)).c, s.turn nd q (hold40 now)⟩
  else ⟨hdM q 1, [], s⟩
theorem msgR_op {q : Msg} (h : msgR q = true) (hk : q.kind = 1) (h5 : ¬ q.op = 5) : 1 ≤ q.op ∧ q.op < 5 ∧ 0 ≤ q.status ∧ q.status ≤ 255 := by
  obtain ⟨a1, a2, a3, a4, a5, a6⟩ := msgR_all h
  with_unfolding_all
    unfold opM at a3
    unfold withB at a5
    rw [if_pos (.inl hk), if_neg h5] at a3
    simp only [Bool.and_eq_true, decide_eq_true_eq] at a3 a5
    exact ⟨a3.1, a3.2.1, a5.1, a5.2⟩
theorem hd_spec (l : List Entry) (g : Nat) (al : List Key) (ga : Nat) (gf gl gt nd : Int) (st : Stamp) (q : Msg) (now : Int) (hl : l.length < 1000) (ha : al.length < 100000) (hgt : 0 ≤ gt ∧ gt < 4611686018427387904) : ACalls Tryz.prog 18 [(AV.obj 5 0 0 0), (AV.agg (Msg.row q)), (AV.int .i64 now)] ([⟨0, 2, [[(AV.int .i64 (capM 32)), (AV.osl 1 g 10 0 (List.length l))]], none⟩, ⟨g, 10, (List.map Entry.row l), none⟩, ⟨0, 3, [[(AV.int .i64 gf), (AV.int .i64 gl), (AV.int .i64 gt)]], none⟩, ⟨0, 2, [[(AV.int .i64 (((List.length al) : Nat) : Int)), (AV.osl 4 ga 2 0 (List.length (recL al)))]], none⟩, ⟨ga, 2, (List.map Key.row (recL al)), none⟩, ⟨0, 7, [[(AV.int .i64 nd), (AV.int .i64 st.t), (AV.int .i64 st.node), (AV.int .i64 st.n), (AV.obj 0 0 0 0), (AV.obj 2 0 0 0), (AV.obj 3 0 0 0)]], none⟩] : Heap) ((AV.tup [(AV.agg (Msg.row (hdD nd (DS.mk l g al ga gf gl gt st) q now).m)), (AV.sl .any 9 (List.map Card.row (hdD nd (DS.mk l g al ga gf gl gt st) q now).c))]), ([⟨0, 2, [[(AV.int .i64 (capM 32)), (AV.osl 1 (hdD nd (DS.mk l g al ga gf gl gt st) q now).s.g 10 0 (List.length (hdD nd (DS.mk l g al ga gf gl gt st) q now).s.l))]], none⟩, ⟨(hdD nd (DS.mk l g al ga gf gl gt st) q now).s.g, 10, (List.map Entry.row (hdD nd (DS.mk l g al ga gf gl gt st) q now).s.l), none⟩, ⟨0, 3, [[(AV.int .i64 (hdD nd (DS.mk l g al ga gf gl gt st) q now).s.gf), (AV.int .i64 (hdD nd (DS.mk l g al ga gf gl gt st) q now).s.gl), (AV.int .i64 (hdD nd (DS.mk l g al ga gf gl gt st) q now).s.gt)]], none⟩, ⟨0, 2, [[(AV.int .i64 (((List.length (hdD nd (DS.mk l g al ga gf gl gt st) q now).s.al) : Nat) : Int)), (AV.osl 4 (hdD nd (DS.mk l g al ga gf gl gt st) q now).s.ga 2 0 (List.length (recL (hdD nd (DS.mk l g al ga gf gl gt st) q now).s.al)))]], none⟩, ⟨(hdD nd (DS.mk l g al ga gf gl gt st) q now).s.ga, 2, (List.map Key.row (recL (hdD nd (DS.mk l g al ga gf gl gt st) q now).s.al)), none⟩, ⟨0, 7, [[(AV.int .i64 nd), (AV.int .i64 (hdD nd (DS.mk l g al ga gf gl gt st) q now).s.st.t), (AV.int .i64 (hdD nd (DS.mk l g al ga gf gl gt st) q now).s.st.node), (AV.int .i64 (hdD nd (DS.mk l g al ga gf gl gt st) q now).s.st.n), (AV.obj 0 0 0 0), (AV.obj 2 0 0 0), (AV.obj 3 0 0 0)]], none⟩] : Heap)) := by
  by_cases hk : q.kind = 1
  · cases hr : msgR q with
    | false =>
      have e : hdD nd (DS.mk l g al ga gf gl gt st) q now = ⟨hdM q 1, [], (DS.mk l g al ga gf gl gt st)⟩ := if_neg (by rw [hr]; simp)
      rw [e]; exact hdB_spec l g al ga gf gl gt nd st q now hk hr
    | true =>
      by_cases ho : q.op = 5
      · have e : hdD nd (DS.mk l g al ga gf gl gt st) q now = ⟨fetR l al q.seq q.tag, [], (DS.mk l g al ga gf gl gt st)⟩ := by unfold hdD; rw [if_pos ⟨hk, hr⟩, if_pos ho]
        rw [e]; exact hdF_spec l g al ga gf gl gt nd st q now hl ha hk hr ho
      · have e : hdD nd (DS.mk l g al ga gf gl gt st) q now = ⟨hdM q (tuR l g al ga gt nd st q (hold40 now)).code, (tuR l g al ga gt nd st q (hold40 now)).c, (DS.mk l g al ga gf gl gt st).turn nd q (hold40 now)⟩ := by unfold hdD; rw [if_pos ⟨hk, hr⟩, if_neg ho]
        obtain ⟨o1, o2, o3, _⟩ := msgR_op hr hk ho
        rw [e]; exact hdA_spec l g al ga gf gl gt nd st q now hl ha hgt o1 o2 o3 hk hr
  · have e : hdD nd (DS.mk l g al ga gf gl gt st) q now = ⟨hdM q 1, [], (DS.mk l g al ga gf gl gt st)⟩ := if_neg (fun z => hk z.1)
    rw [e]; exact hdK_spec l g al ga gf gl gt nd st q now hk
end Go.Proofs.YtfjedpipdnlkfaaGreat.AM

set_option maxRecDepth 100000
set_option linter.unusedVariables false
set_option linter.unusedSimpArgs false
namespace Go.Proofs.YtfjedpipdnlkfaaGreat.AM
open Go Go.Proofs.YtfjedpipdnlkfaaGreat
attribute [local irreducible] ACalls funT codeT codeQ LoopTo
attribute [local irreducible] Tp.card Tp.cardT Tp.next Tp.step Tp.cards Tp.key Tp.keyT Tp.ask
structure AskT where
  kind : Int
  m : Msg
  more : Int
  late : Int
  c : Card
  deriving Inhabited
def AskT.row (x : AskT) : List AV := [(AV.int .i64 x.kind), (AV.int .i64 x.m.kind), (AV.int .i64 x.m.op), (AV.int .i64 x.m.status), (AV.int .i64 x.m.code), (AV.int .i64 x.m.tag), (AV.int .i64 x.m.n), (AV.int .i64 x.m.seq), (AV.str x.m.key.app), (AV.str x.m.key.id), (AV.bool x.m.full), (AV.int .u32 x.m.sum), (AV.sl .any 9 (List.map Card.row x.m.cards)), (AV.sl .any 2 (List.map Key.row x.m.keys)), (AV.int .i64 x.more), (AV.int .i64 x.late), (AV.str x.c.key.app), (AV.str x.c.key.id), (AV.int .i64 x.c.status), (AV.int .i64 x.c.over), (AV.int .i64 x.c.lease), (AV.int .i64 x.c.stamp.t), (AV.int .i64 x.c.stamp.node), (AV.int .i64 x.c.stamp.n), (AV.bool x.c.gone)]
@[simp] theorem AskT.row_bdd (n : Nat) (x : AskT) : AV.bdds n x.row = true := by simp [AskT.row, AV.bdds, AV.bdd]
@[simp] theorem AskT.rows_bdd (n : Nat) (l : List AskT) : AV.bddss n (l.map AskT.row) = true := by induction l with | nil => rfl | cons x l ih => simp [AV.bddss, AskT.row_bdd, ih]
end Go.Proofs.YtfjedpipdnlkfaaGreat.AM

set_option linter.unusedVariables false
set_option linter.unusedSimpArgs false
namespace Go.Proofs.YtfjedpipdnlkfaaGreat.AM
open Go
def kE (e : Entry) : Key := e.card.key
abbrev SrtK (l : List Key) : Prop := List.Pairwise (fun a b : Key => beforeK a b = true) l
abbrev SrtE (l : List Entry) : Prop := SrtK (l.map kE)
theorem srtE_nth {l : List Entry} (h : SrtE l) {i j : Nat} (hij : i < j) (hj : j < l.length) : beforeK (nth l i).card.key (nth l j).card.key = true := by
  have h1 : List.Pairwise (fun a b : Entry => beforeK a.card.key b.card.key = true) l := List.pairwise_map.1 h
  exact pw_nth.1 h1 i j hij hj
theorem findP_mem {l : List Entry} (hs : SrtE l) {i : Nat} (hi : i < l.length) : findP l (nth l i).card.key = i :=
  findP_pos (Nat.le_of_lt hi) (fun j hj => srtE_nth hs hj hi) fun _ => bk_irrefl _
theorem find_mem {l : List Entry} (hs : SrtE l) {e : Entry} (he : e ∈ l) : findB l e.card.key = true ∧ getE l e.card.key = e := by
  obtain ⟨i, hi, rfl⟩ := mem_nth he
  have h1 := findP_mem hs hi
  have h2 : findB l (nth l i).card.key = true := by
    unfold findB; rw [h1]; simp [hi, Key.eqb_refl]
  exact ⟨h2, by unfold getE; rw [if_pos h2, h1]⟩
theorem find_get {l : List Entry} {k : Key} (h : findB l k = true) : getE l k ∈ l ∧ (getE l k).card.key = k := by
  have h1 := findB_lt h
  unfold getE; rw [if_pos h]
  refine ⟨nth_mem h1, ?_⟩
  unfold findB at h; rw [Bool.and_eq_true] at h
  exact (Key.eqb_iff _ _).1 h.2
theorem find_iff {l : List Entry} (hs : SrtE l) (k : Key) : findB l k = true ↔ ∃ e ∈ l, e.card.key = k :=
  ⟨fun h => ⟨_, (find_get h).1, (find_get h).2⟩, fun ⟨e, he, hk⟩ => hk ▸ (find_mem hs he).1⟩
theorem set_keys {l : List Entry} {e : Entry} (h : findB l e.card.key = true) : (l.set (findP l e.card.key) e).map kE = l.map kE := by
  have h1 := findB_lt h
  have h2 := (find_get h).2
  unfold getE at h2; rw [if_pos h] at h2
  rw [List.map_set]
  refine List.ext_getElem (by simp) fun i hi hi2 => ?_
  rw [List.getElem_set]
  split
  · rename_i e1; subst e1
    rw [List.getElem_map, ← nth_getElem h1]; exact h2.symm
  · rfl
theorem putL_srt {most : Int} {l : List Entry} (hs : SrtE l) (e : Entry) : SrtE (putL most l e) := by
  unfold putL
  split
  · rename_i h
    show SrtK ((l.set (findP l e.card.key) e).map kE)
    rw [set_keys h]; exact hs
  · rename_i h
    split
    · exact hs
    · have hp := findP_le l e.card.key
      have hs' : List.Pairwise (fun a b : Entry => beforeK a.card.key b.card.key = true) l := List.pairwise_map.1 hs
      refine List.pairwise_map.2 (List.pairwise_append.2 ⟨hs'.sublist (List.take_sublist _ _), List.pairwise_cons.2 ⟨fun x hx => ?_, hs'.sublist (List.drop_sublist _ _)⟩, fun a ha b hb => ?_⟩)
      · obtain ⟨j, hj, rfl⟩ := mem_nth hx
        rw [List.length_drop] at hj
        rw [nth_drop]
        have h0 : findP l e.card.key < l.length := by omega
        have h1 := findP_at h0
        have h2 : beforeK e.card.key (nth l (findP l e.card.key)).card.key = true := by
          cases hb : beforeK e.card.key (nth l (findP l e.card.key)).card.key with
          | true => rfl
          | false =>
            have := bk_tri h1 hb
            exfalso; apply h; unfold findB; rw [this, Key.eqb_refl]; simp [h0]
        rcases Nat.eq_zero_or_pos j with rfl | hj0
        · exact h2
        · exact bk_trans h2 (srtE_nth hs (by omega) (by omega))
      · obtain ⟨i, hi, rfl⟩ := mem_nth ha
        rw [List.length_take] at hi
        rw [nth_take (by omega)]
        rcases List.mem_cons.1 hb with rfl | hb
        · exact findP_lt (k := b.card.key) (by omega)
        · obtain ⟨j, hj, rfl⟩ := mem_nth hb
          rw [List.length_drop] at hj
          rw [nth_drop]
          exact srtE_nth hs (by omega) (by omega)
theorem mem_putL {most : Int} {l : List Entry} (hs : SrtE l) {e : Entry} (h : findB l e.card.key = true ∨ (l.length : Int) < most) (x : Entry) : x ∈ putL most l e ↔ x = e ∨ (x ∈ l ∧ x.card.key ≠ e.card.key) := by
  have hp := findP_le l e.card.key
  unfold putL
  split
  · rename_i hb
    have h1 := findB_lt hb
    have h2 := (find_get hb).2
    unfold getE at h2; rw [if_pos hb] at h2
    constructor
    · intro hx
      obtain ⟨i, hi, e1⟩ := List.getElem_of_mem hx
      rw [List.getElem_set] at e1
      split at e1
      · exact .inl e1.symm
      · rename_i hne
        rw [List.length_set] at hi
        refine .inr ⟨e1 ▸ List.getElem_mem _, fun hk => hne ?_⟩
        rw [← e1, ← nth_getElem hi] at hk
        rw [← hk]; exact findP_mem hs hi
    · rintro (rfl | ⟨hx, hk⟩)
      · exact List.mem_set h1 _
      · obtain ⟨i, hi, e1⟩ := List.getElem_of_mem hx
        have hne : findP l e.card.key ≠ i := fun q => hk (by rw [← e1, ← nth_getElem hi, ← q]; exact h2)
        have : (l.set (findP l e.card.key) e)[i]'(by simpa using hi) = x := by rw [List.getElem_set, if_neg hne]; exact e1
        exact this ▸ List.getElem_mem _
  · rename_i hb
    have hlt : (l.length : Int) < most := h.resolve_left hb
    rw [if_neg (by omega)]
    have hno : ∀ y ∈ l, y.card.key ≠ e.card.key := fun y hy hk => hb ((find_iff hs _).2 ⟨y, hy, hk⟩)
    rw [List.mem_append, List.mem_cons]
    constructor
    · rintro (hx | rfl | hx)
      · exact .inr ⟨List.mem_of_mem_take hx, hno _ (List.mem_of_mem_take hx)⟩
      · exact .inl rfl
      · exact .inr ⟨List.mem_of_mem_drop hx, hno _ (List.mem_of_mem_drop hx)⟩
    · rintro (rfl | ⟨hx, _⟩)
      · exact .inr (.inl rfl)
      · rw [← List.take_append_drop (findP l e.card.key) l, List.mem_append] at hx
        exact hx.imp id .inr
theorem find_putL {most : Int} {l : List Entry} (hs : SrtE l) {e : Entry} (h : findB l e.card.key = true ∨ (l.length : Int) < most) : findB (putL most l e) e.card.key = true ∧ getE (putL most l e) e.card.key = e :=
  find_mem (putL_srt hs e) ((mem_putL hs h e).2 (.inl rfl))
theorem find_putL_ne {most : Int} {l : List Entry} (hs : SrtE l) {e : Entry} (h : findB l e.card.key = true ∨ (l.length : Int) < most) {k : Key} (hk : k ≠ e.card.key) : findB (putL most l e) k = findB l k ∧ getE (putL most l e) k = getE l k := by
  have hs2 := putL_srt (most := most) hs e
  cases hb : findB l k with
  | true =>
    obtain ⟨h1, h2⟩ := find_get hb
    have h3 : getE l k ∈ putL most l e := (mem_putL hs h _).2 (.inr ⟨h1, by rw [h2]; exact hk⟩)
    have h4 := find_mem hs2 h3
    rw [h2] at h4; exact h4
  | false =>
    have h1 : findB (putL most l e) k = false := by
      cases hc : findB (putL most l e) k with
      | false => rfl
      | true =>
        obtain ⟨h1, h2⟩ := find_get hc
        rcases (mem_putL hs h _).1 h1 with h3 | ⟨h3, _⟩
        · exact absurd (by rw [← h2, h3]) hk
        · exact absurd ((find_iff hs k).2 ⟨_, h3, h2⟩) (by rw [hb]; simp)
    refine ⟨h1, ?_⟩
    unfold getE; rw [h1, hb]; simp
theorem putE_zero {most : Int} {l : List Entry} {e : Entry} (h : findB l e.card.key = true ∨ (l.length : Int) < most) : putE most l e = 0 := by
  unfold putE; split
  · rfl
  · rename_i hb; rw [if_neg (by have := h.resolve_left hb; omega)]
theorem srtE_nil : SrtE [] := List.Pairwise.nil
end Go.Proofs.YtfjedpipdnlkfaaGreat.AM

set_option linter.unusedVariables false
set_option linter.unusedSimpArgs false
namespace Go.Proofs.YtfjedpipdnlkfaaGreat.AM
open Go
theorem cap32 : capM 32 = 32 := by unfold capM; omega
end Go.Proofs.YtfjedpipdnlkfaaGreat.AM

set_option linter.unusedVariables false
set_option linter.unusedSimpArgs false
set_option maxRecDepth 100000
namespace Go.Proofs.YtfjedpipdnlkfaaGreat.AM
open Go
attribute [local irreducible] msgR fetR hold40 findB findP getE putL putE putG nextS maxS cmpSt
theorem tuR_or (l : List Entry) (g : Nat) (al : List Key) (ga : Nat) (gt nd : Int) (st : Stamp) (q : Msg) (now : Int) :
    ((tuR l g al ga gt nd st q now).c = [] ∧ (tuR l g al ga gt nd st q now).l = l ∧ (tuR l g al ga gt nd st q now).al = al ∧ (tuR l g al ga gt nd st q now).st = st ∧ (tuR l g al ga gt nd st q now).gt = gt) ∨
    (findB l q.key = true ∧ (tuR l g al ga gt nd st q now).c = [] ∧ (tuR l g al ga gt nd st q now).l = putL (capM 32) l (renewE (getE l q.key) now) ∧ (tuR l g al ga gt nd st q now).al = al ∧ (tuR l g al ga gt nd st q now).st = st ∧ (tuR l g al ga gt nd st q now).gt = min (gt + 1) 1048576) ∨
    ∃ x : Entry, x.card.key = q.key ∧ x.card.stamp = nextS (maxS st (getE l q.key).card.stamp) now nd ∧ tuR l g al ga gt nd st q now = tuPut l g al ga gt st x := by
  unfold tuR
  by_cases o1 : q.op = 1
  · rw [if_pos o1]
    by_cases r : regQ q
    · refine .inr (.inr ⟨regX q (getE l q.key) (findB l q.key) st now nd, rfl, rfl, ?_⟩)
      unfold regC regR regL regG regA regGa regS tuPut
      simp only [if_pos r]
    · refine .inl ?_
      unfold regC regR regL regG regA regGa regS
      simp only [if_neg r]
      exact ⟨trivial, trivial, trivial, trivial, trivial⟩
  rw [if_neg o1]
  by_cases o4 : q.op = 4 ∧ 3 < q.status
  · rw [if_pos o4]; exact .inl ⟨rfl, rfl, rfl, rfl, rfl⟩
  rw [if_neg o4]
  by_cases lv : findB l q.key = true ∧ (getE l q.key).card.gone = false
  · rw [if_pos lv]
    by_cases o2 : q.op = 2
    · rw [if_pos o2]; exact .inr (.inl ⟨lv.1, rfl, rfl, rfl, rfl, rfl⟩)
    rw [if_neg o2]
    have hk := (find_get lv.1).2
    by_cases o3 : q.op = 4
    · rw [if_pos o3]; exact .inr (.inr ⟨overE (getE l q.key) q.status (nextS (maxS st (getE l q.key).card.stamp) now nd), hk, rfl, rfl⟩)
    · rw [if_neg o3]; exact .inr (.inr ⟨cancelE (getE l q.key) (nextS (maxS st (getE l q.key).card.stamp) now nd) now, hk, rfl, rfl⟩)
  · rw [if_neg lv]; exact .inl ⟨rfl, rfl, rfl, rfl, rfl⟩
structure DSok (n : Nat) (s : DS) : Prop where
  srt : SrtE s.l
  len : s.l.length ≤ 32
  al : s.al.length ≤ n
  g0 : 0 ≤ s.gt
  g1 : s.gt ≤ 1048576
theorem putL_32 {l : List Entry} (x : Entry) (h : l.length ≤ 32) : (putL (capM 32) l x).length ≤ 32 := by
  have := putL_most (most := capM 32) (l := l) (e := x) (by rw [cap32]; omega)
  rw [cap32] at this ⊢
  omega
theorem DSok.mono {n m : Nat} {s : DS} (h : DSok n s) (hm : n ≤ m) : DSok m s := ⟨h.srt, h.len, Nat.le_trans h.al hm, h.g0, h.g1⟩
theorem DSok.put {n : Nat} {s : DS} (h : DSok n s) (x : Entry) : DSok (n + 1) ⟨putL (capM 32) s.l x, putG (capM 32) s.l x s.g, setA s.l x s.al, setG s.l x s.ga, s.gf, s.gl, s.gt, givS s.l x s.st⟩ :=
  ⟨putL_srt h.srt x, putL_32 x h.len, Nat.le_trans (setA_len s.l x s.al) (Nat.succ_le_succ h.al), h.g0, h.g1⟩
theorem DSok.turn {n : Nat} {s : DS} (h : DSok n s) (nd : Int) (q : Msg) (now : Int) : DSok (n + 1) (s.turn nd q now) := by
  rcases tuR_or s.l s.g s.al s.ga s.gt nd s.st q now with ⟨_, e2, e3, _, e5⟩ | ⟨_, _, e2, e3, _, e5⟩ | ⟨x, _, _, e⟩
  · refine ⟨?_, ?_, ?_, ?_, ?_⟩ <;> simp only [DS.turn, e2, e3, e5]
    · exact h.srt
    · exact h.len
    · exact Nat.le_succ_of_le h.al
    · exact h.g0
    · exact h.g1
  · have g0 := h.g0
    refine ⟨?_, ?_, ?_, ?_, ?_⟩ <;> simp only [DS.turn, e2, e3, e5]
    · exact putL_srt h.srt _
    · exact putL_32 _ h.len
    · exact Nat.le_succ_of_le h.al
    · omega
    · omega
  · have e' : s.turn nd q now = ⟨putL (capM 32) s.l x, putG (capM 32) s.l x s.g, setA s.l x s.al, setG s.l x s.ga, s.gf, s.gl, s.gt, givS s.l x s.st⟩ := by unfold DS.turn; rw [e]; rfl
    rw [e']; exact h.put x
theorem DSok.hd {n : Nat} {s : DS} (h : DSok n s) (nd : Int) (q : Msg) (now : Int) : DSok (n + 1) (hdD nd s q now).s := by
  unfold hdD
  split
  · split
    · exact h.mono (Nat.le_succ _)
    · exact h.turn nd q _
  · exact h.mono (Nat.le_succ _)
end Go.Proofs.YtfjedpipdnlkfaaGreat.AM

set_option linter.unusedVariables false
set_option linter.unusedSimpArgs false
set_option maxRecDepth 100000
namespace Go.Proofs.YtfjedpipdnlkfaaGreat.AM
open Go
theorem mem_put_sub' {most : Int} {l : List Entry} {e x : Entry} (h : x ∈ putL most l e) : x = e ∨ x ∈ l := by
  unfold putL at h
  split at h
  · exact (List.mem_or_eq_of_mem_set h).symm
  · split at h
    · exact .inr h
    · rw [List.mem_append, List.mem_cons] at h
      rcases h with h | h | h
      · exact .inr (List.mem_of_mem_take h)
      · exact .inl h
      · exact .inr (List.mem_of_mem_drop h)
def stB (n : Nat) (x : Stamp) : Prop := 0 ≤ x.t ∧ 0 ≤ x.n ∧ x.n ≤ (n : Int)
theorem stB.mono {n m : Nat} {x : Stamp} (h : stB n x) (hm : n ≤ m) : stB m x := ⟨h.1, h.2.1, by have := h.2.2; omega⟩
attribute [local irreducible] msgR fetR hold40 findB findP getE putL putE putG nextS maxS cmpSt
structure DStI (n : Nat) (s : DS) : Prop where
  ok : DSok n s
  l : ∀ e ∈ s.l, stB (n + 9) e.card.stamp
  st : stB (n + 9) s.st
theorem DStI.mono {n m : Nat} {s : DS} (h : DStI n s) (hm : n ≤ m) : DStI m s := ⟨h.ok.mono hm, fun e he => (h.l e he).mono (by omega), h.st.mono (by omega)⟩
theorem DStI.get {n : Nat} {s : DS} (h : DStI n s) (k : Key) : stB (n + 9) (getE s.l k).card.stamp := by
  cases hf : findB s.l k with
  | true => exact h.l _ (find_get hf).1
  | false =>
    have e : getE s.l k = zE := by with_unfolding_all unfold getE; rw [if_neg (by rw [hf]; simp)]
    rw [e]; exact ⟨by decide, by decide, by simp [zE]; omega⟩
theorem DStI.set {n : Nat} {s : DS} (h : DStI n s) {x : Entry} (hx : stB (n + 10) x.card.stamp) {st : Stamp} (hst : stB (n + 10) st) :
    DStI (n + 1) ⟨putL (capM 32) s.l x, putG (capM 32) s.l x s.g, setA s.l x s.al, setG s.l x s.ga, s.gf, s.gl, s.gt, st⟩ := by
  have ho := h.ok.put x
  refine ⟨⟨ho.srt, ho.len, ho.al, ho.g0, ho.g1⟩, fun e he => ?_, hst.mono (by omega)⟩
  rcases mem_put_sub' he with rfl | he
  · exact hx.mono (by omega)
  · exact (h.l e he).mono (by omega)
end Go.Proofs.YtfjedpipdnlkfaaGreat.AM

set_option maxRecDepth 100000
set_option linter.unusedVariables false
set_option linter.unusedSimpArgs false
namespace Go.Proofs.YtfjedpipdnlkfaaGreat.AM
open Go Go.Proofs.YtfjedpipdnlkfaaGreat
attribute [local irreducible] ACalls funT codeT codeQ LoopTo
attribute [local irreducible] cmpSt maxS nextS setA setG putE putL putG getE findB tuR msgR hdD fetR hold40 errA zeroM opM withB namesK
def dnewN_ann : Ann := { fin := some 0 }
set_option maxRecDepth 100000 in
theorem dnewN_spec   : ACalls Tryz.prog 13 [(AV.int .i64 6), (AV.int .i64 0)] ([] : Heap) (AV.nilp, ([] : Heap)) :=
  specO (fn := Tryz.f13) (ann := dnewN_ann) (Has.o Tryz.func13) (.r (.g (.r (.no (.no (.yes (.yes (.yes (.yes (.g (.yes (.r (.g (.f 0 AV.nilp (.e AV.nilp)))))))))))))))
theorem dnewN_at   (H : Heap) : ACalls Tryz.prog 13 [(AV.int .i64 6), (AV.int .i64 0)] H (AV.nilp, H) := (dnewN_spec  ).lift kr kr H
def k16 : Key := ⟨⟨#[97]⟩, ⟨#[98]⟩⟩
def k16c1 : Card := ⟨k16, 1, 0, 9, ⟨5, 1, 1⟩, false⟩
def k16c2 : Card := ⟨k16, 1, 0, 9, ⟨7, 1, 2⟩, true⟩
abbrev T16 := DS × Int × Msg × Int
def d16a : DS := ⟨[], 0, [], 0, 0, 0, 0, ⟨0, 1, 0⟩⟩
def d16b : DS := ⟨[⟨k16c1, 5⟩], 1, [k16], 2, 0, 0, 0, ⟨5, 1, 1⟩⟩
def d16c : DS := ⟨[⟨k16c2, 7⟩], 1, [k16, k16], 4, 0, 0, 0, ⟨7, 1, 2⟩⟩
def q16a : T16 := (d16a, 1, ⟨1, 1, 1, 0, 4, 9, 0, k16, false, 0, [], []⟩, 5)
def q16b : T16 := (d16b, 1, ⟨1, 2, 0, 0, 0, 0, 0, ⟨⟨#[120]⟩, ⟨#[121]⟩⟩, false, 0, [], []⟩, 6)
def q16c : T16 := (d16b, 1, ⟨1, 3, 0, 0, 0, 0, 0, k16, false, 0, [], []⟩, 7)
def q16d : T16 := (d16c, 1, ⟨1, 3, 0, 0, 0, 0, 0, k16, false, 0, [], []⟩, 8)
@[simp] abbrev Yg_o1 (v1_ : Nat) (v2_ : List Entry) : Ob := ⟨0, 2, [[(AV.int .i64 (capM 32)), (AV.osl 1 v1_ 10 0 (List.length v2_))]], none⟩
@[simp] abbrev Yg_o2 (v1_ : Int) (v2_ : Int) (v3_ : Int) : Ob := ⟨0, 3, [[(AV.int .i64 v1_), (AV.int .i64 v2_), (AV.int .i64 v3_)]], none⟩
@[simp] abbrev Yg_o3 (v1_ : List Key) (v2_ : Nat) : Ob := ⟨0, 2, [[(AV.int .i64 (((List.length v1_) : Nat) : Int)), (AV.osl 4 v2_ 2 0 (List.length (recL v1_)))]], none⟩
@[simp] abbrev Yg_o4 (v1_ : Int) (v2_ : Stamp) : Ob := ⟨0, 7, [[(AV.int .i64 v1_), (AV.int .i64 v2_.t), (AV.int .i64 v2_.node), (AV.int .i64 v2_.n), (AV.obj 0 0 0 0), (AV.obj 2 0 0 0), (AV.obj 3 0 0 0)]], none⟩
@[simp] abbrev Yg_1 (v1_ : Nat) (v2_ : List Entry) (v3_ : Int) (v4_ : Int) (v5_ : Int) (v6_ : List Key) (v7_ : Nat) (v8_ : Int) (v9_ : Stamp) : Heap := [Yg_o1 v1_ v2_, ⟨v1_, 10, (List.map Entry.row v2_), none⟩, Yg_o2 v3_ v4_ v5_, Yg_o3 v6_ v7_, ⟨v7_, 2, (List.map Key.row (recL v6_)), none⟩, Yg_o4 v8_ v9_]
@[simp] abbrev Yg_o5  : Ob := ⟨0, 3, [[(AV.int .i64 0), (AV.int .i64 0), (AV.int .i64 0)]], none⟩
@[simp] abbrev Yg_2 (v1_ : Int) : Heap := [⟨0, 2, [[(AV.int .i64 (capM 32)), (AV.osl 1 1 10 0 (List.length [(Entry.mk k16c1 5)]))]], none⟩, ⟨1, 10, (List.map Entry.row [(Entry.mk k16c1 5)]), none⟩, Yg_o5, ⟨0, 2, [[(AV.int .i64 (((List.length [k16]) : Nat) : Int)), (AV.osl 4 2 2 0 (List.length (recL [k16])))]], none⟩, ⟨2, 2, (List.map Key.row (recL [k16])), none⟩, ⟨0, 7, [[(AV.int .i64 v1_), (AV.int .i64 (Stamp.mk 5 1 1).t), (AV.int .i64 (Stamp.mk 5 1 1).node), (AV.int .i64 (Stamp.mk 5 1 1).n), (AV.obj 0 0 0 0), (AV.obj 2 0 0 0), (AV.obj 3 0 0 0)]], none⟩]
theorem k16t1_spec (l : List Entry) (g : Nat) (al : List Key) (ga : Nat) (gf gl gt nd : Int) (st : Stamp) (q : Msg) (now : Int) (he : ((⟨l, g, al, ga, gf, gl, gt, st⟩ : DS), nd, q, now) = q16a) : ACalls Tryz.prog 18 [(AV.obj 5 0 0 0), (AV.agg (Msg.row q)), (AV.int .i64 now)] (Yg_1 g l gf gl gt al ga nd st) ((AV.tup [(AV.agg [(AV.int .i64 2), (AV.int .i64 1), (AV.int .i64 0), (AV.int .i64 0), (AV.int .i64 4), (AV.int .i64 0), (AV.int .i64 0), (AV.str (ByteArray.mk #[97])), (AV.str (ByteArray.mk #[98])), (AV.bool false), (AV.int .u32 0), (AV.sl .any 9 []), (AV.sl .any 2 [])]), (AV.sl .any 9 [[(AV.str (ByteArray.mk #[97])), (AV.str (ByteArray.mk #[98])), (AV.int .i64 1), (AV.int .i64 0), (AV.int .i64 9), (AV.int .i64 5), (AV.int .i64 1), (AV.int .i64 1), (AV.bool false)]])]), (Yg_2 nd)) := by
  have e1 : (⟨l, g, al, ga, gf, gl, gt, st⟩ : DS) = q16a.1 := congrArg (fun z => z.1) he
  have e2 : nd = q16a.2.1 := congrArg (fun z => z.2.1) he
  have e3 : q = q16a.2.2.1 := congrArg (fun z => z.2.2.1) he
  have e4 : now = q16a.2.2.2 := congrArg (fun z => z.2.2.2) he
  clear he
  have e5 : l = q16a.1.l := congrArg DS.l e1
  have e6 : g = q16a.1.g := congrArg DS.g e1
  have e7 : al = q16a.1.al := congrArg DS.al e1
  have e8 : ga = q16a.1.ga := congrArg DS.ga e1
  have e9 : gf = q16a.1.gf := congrArg DS.gf e1
  have e10 : gl = q16a.1.gl := congrArg DS.gl e1
  have e11 : gt = q16a.1.gt := congrArg DS.gt e1
  have e12 : st = q16a.1.st := congrArg DS.st e1
  clear e1
  subst e2 e3 e4 e5 e6 e7 e8 e9 e10 e11 e12
  have h := hd_spec q16a.1.l q16a.1.g q16a.1.al q16a.1.ga q16a.1.gf q16a.1.gl q16a.1.gt q16a.2.1 q16a.1.st q16a.2.2.1 q16a.2.2.2 (of_decide_eq_true kr) (of_decide_eq_true kr) (of_decide_eq_true kr)
  exact Eq.mp (congrArg (fun z => ACalls _ _ _ _ z) kr) h
theorem k16t1_at (l : List Entry) (g : Nat) (al : List Key) (ga : Nat) (gf gl gt nd : Int) (st : Stamp) (q : Msg) (now : Int) (he : ((⟨l, g, al, ga, gf, gl, gt, st⟩ : DS), nd, q, now) = q16a) (H : Heap) : ACalls Tryz.prog 18 [(AV.obj 5 0 0 0), (AV.agg (Msg.row q)), (AV.int .i64 now)] ((Yg_1 g l gf gl gt al ga nd st) ++ H) ((AV.tup [(AV.agg [(AV.int .i64 2), (AV.int .i64 1), (AV.int .i64 0), (AV.int .i64 0), (AV.int .i64 4), (AV.int .i64 0), (AV.int .i64 0), (AV.str (ByteArray.mk #[97])), (AV.str (ByteArray.mk #[98])), (AV.bool false), (AV.int .u32 0), (AV.sl .any 9 []), (AV.sl .any 2 [])]), (AV.sl .any 9 [[(AV.str (ByteArray.mk #[97])), (AV.str (ByteArray.mk #[98])), (AV.int .i64 1), (AV.int .i64 0), (AV.int .i64 9), (AV.int .i64 5), (AV.int .i64 1), (AV.int .i64 1), (AV.bool false)]])]), (Yg_2 nd) ++ H) := (k16t1_spec l g al ga gf gl gt nd st q now he).ext kr kr ob ob kr H
theorem k16t2_spec (l : List Entry) (g : Nat) (al : List Key) (ga : Nat) (gf gl gt nd : Int) (st : Stamp) (q : Msg) (now : Int) (he : ((⟨l, g, al, ga, gf, gl, gt, st⟩ : DS), nd, q, now) = q16b) : ACalls Tryz.prog 18 [(AV.obj 5 0 0 0), (AV.agg (Msg.row q)), (AV.int .i64 now)] (Yg_1 g l gf gl gt al ga nd st) ((AV.tup [(AV.agg [(AV.int .i64 2), (AV.int .i64 2), (AV.int .i64 0), (AV.int .i64 22), (AV.int .i64 0), (AV.int .i64 0), (AV.int .i64 0), (AV.str (ByteArray.mk #[120])), (AV.str (ByteArray.mk #[121])), (AV.bool false), (AV.int .u32 0), (AV.sl .any 9 []), (AV.sl .any 2 [])]), (AV.sl .any 9 [])]), (Yg_2 nd)) := by
  have e1 : (⟨l, g, al, ga, gf, gl, gt, st⟩ : DS) = q16b.1 := congrArg (fun z => z.1) he
  have e2 : nd = q16b.2.1 := congrArg (fun z => z.2.1) he
  have e3 : q = q16b.2.2.1 := congrArg (fun z => z.2.2.1) he
  have e4 : now = q16b.2.2.2 := congrArg (fun z => z.2.2.2) he
  clear he
  have e5 : l = q16b.1.l := congrArg DS.l e1
  have e6 : g = q16b.1.g := congrArg DS.g e1
  have e7 : al = q16b.1.al := congrArg DS.al e1
  have e8 : ga = q16b.1.ga := congrArg DS.ga e1
  have e9 : gf = q16b.1.gf := congrArg DS.gf e1
  have e10 : gl = q16b.1.gl := congrArg DS.gl e1
  have e11 : gt = q16b.1.gt := congrArg DS.gt e1
  have e12 : st = q16b.1.st := congrArg DS.st e1
  clear e1
  subst e2 e3 e4 e5 e6 e7 e8 e9 e10 e11 e12
  have h := hd_spec q16b.1.l q16b.1.g q16b.1.al q16b.1.ga q16b.1.gf q16b.1.gl q16b.1.gt q16b.2.1 q16b.1.st q16b.2.2.1 q16b.2.2.2 (of_decide_eq_true kr) (of_decide_eq_true kr) (of_decide_eq_true kr)
  exact Eq.mp (congrArg (fun z => ACalls _ _ _ _ z) kr) h
theorem k16t2_at (l : List Entry) (g : Nat) (al : List Key) (ga : Nat) (gf gl gt nd : Int) (st : Stamp) (q : Msg) (now : Int) (he : ((⟨l, g, al, ga, gf, gl, gt, st⟩ : DS), nd, q, now) = q16b) (H : Heap) : ACalls Tryz.prog 18 [(AV.obj 5 0 0 0), (AV.agg (Msg.row q)), (AV.int .i64 now)] ((Yg_1 g l gf gl gt al ga nd st) ++ H) ((AV.tup [(AV.agg [(AV.int .i64 2), (AV.int .i64 2), (AV.int .i64 0), (AV.int .i64 22), (AV.int .i64 0), (AV.int .i64 0), (AV.int .i64 0), (AV.str (ByteArray.mk #[120])), (AV.str (ByteArray.mk #[121])), (AV.bool false), (AV.int .u32 0), (AV.sl .any 9 []), (AV.sl .any 2 [])]), (AV.sl .any 9 [])]), (Yg_2 nd) ++ H) := (k16t2_spec l g al ga gf gl gt nd st q now he).ext kr kr ob ob kr H
@[simp] abbrev Yg_o6  : Ob := ⟨0, 2, [[(AV.int .i64 (capM 32)), (AV.osl 1 1 10 0 (List.length [(Entry.mk k16c2 7)]))]], none⟩
@[simp] abbrev Yg_o7  : Ob := ⟨1, 10, (List.map Entry.row [(Entry.mk k16c2 7)]), none⟩
@[simp] abbrev Yg_o8  : Ob := ⟨0, 2, [[(AV.int .i64 (((List.length [k16, k16]) : Nat) : Int)), (AV.osl 4 4 2 0 (List.length (recL [k16, k16])))]], none⟩
@[simp] abbrev Yg_o9  : Ob := ⟨4, 2, (List.map Key.row (recL [k16, k16])), none⟩
@[simp] abbrev Yg_3 (v1_ : Int) : Heap := [Yg_o6, Yg_o7, Yg_o5, Yg_o8, Yg_o9, ⟨0, 7, [[(AV.int .i64 v1_), (AV.int .i64 (Stamp.mk 7 1 2).t), (AV.int .i64 (Stamp.mk 7 1 2).node), (AV.int .i64 (Stamp.mk 7 1 2).n), (AV.obj 0 0 0 0), (AV.obj 2 0 0 0), (AV.obj 3 0 0 0)]], none⟩]
theorem k16t3_spec (l : List Entry) (g : Nat) (al : List Key) (ga : Nat) (gf gl gt nd : Int) (st : Stamp) (q : Msg) (now : Int) (he : ((⟨l, g, al, ga, gf, gl, gt, st⟩ : DS), nd, q, now) = q16c) : ACalls Tryz.prog 18 [(AV.obj 5 0 0 0), (AV.agg (Msg.row q)), (AV.int .i64 now)] (Yg_1 g l gf gl gt al ga nd st) ((AV.tup [(AV.agg [(AV.int .i64 2), (AV.int .i64 3), (AV.int .i64 0), (AV.int .i64 0), (AV.int .i64 0), (AV.int .i64 0), (AV.int .i64 0), (AV.str (ByteArray.mk #[97])), (AV.str (ByteArray.mk #[98])), (AV.bool false), (AV.int .u32 0), (AV.sl .any 9 []), (AV.sl .any 2 [])]), (AV.sl .any 9 [[(AV.str (ByteArray.mk #[97])), (AV.str (ByteArray.mk #[98])), (AV.int .i64 1), (AV.int .i64 0), (AV.int .i64 9), (AV.int .i64 7), (AV.int .i64 1), (AV.int .i64 2), (AV.bool true)]])]), (Yg_3 nd)) := by
  have e1 : (⟨l, g, al, ga, gf, gl, gt, st⟩ : DS) = q16c.1 := congrArg (fun z => z.1) he
  have e2 : nd = q16c.2.1 := congrArg (fun z => z.2.1) he
  have e3 : q = q16c.2.2.1 := congrArg (fun z => z.2.2.1) he
  have e4 : now = q16c.2.2.2 := congrArg (fun z => z.2.2.2) he
  clear he
  have e5 : l = q16c.1.l := congrArg DS.l e1
  have e6 : g = q16c.1.g := congrArg DS.g e1
  have e7 : al = q16c.1.al := congrArg DS.al e1
  have e8 : ga = q16c.1.ga := congrArg DS.ga e1
  have e9 : gf = q16c.1.gf := congrArg DS.gf e1
  have e10 : gl = q16c.1.gl := congrArg DS.gl e1
  have e11 : gt = q16c.1.gt := congrArg DS.gt e1
  have e12 : st = q16c.1.st := congrArg DS.st e1
  clear e1
  subst e2 e3 e4 e5 e6 e7 e8 e9 e10 e11 e12
  have h := hd_spec q16c.1.l q16c.1.g q16c.1.al q16c.1.ga q16c.1.gf q16c.1.gl q16c.1.gt q16c.2.1 q16c.1.st q16c.2.2.1 q16c.2.2.2 (of_decide_eq_true kr) (of_decide_eq_true kr) (of_decide_eq_true kr)
  exact Eq.mp (congrArg (fun z => ACalls _ _ _ _ z) kr) h
theorem k16t3_at (l : List Entry) (g : Nat) (al : List Key) (ga : Nat) (gf gl gt nd : Int) (st : Stamp) (q : Msg) (now : Int) (he : ((⟨l, g, al, ga, gf, gl, gt, st⟩ : DS), nd, q, now) = q16c) (H : Heap) : ACalls Tryz.prog 18 [(AV.obj 5 0 0 0), (AV.agg (Msg.row q)), (AV.int .i64 now)] ((Yg_1 g l gf gl gt al ga nd st) ++ H) ((AV.tup [(AV.agg [(AV.int .i64 2), (AV.int .i64 3), (AV.int .i64 0), (AV.int .i64 0), (AV.int .i64 0), (AV.int .i64 0), (AV.int .i64 0), (AV.str (ByteArray.mk #[97])), (AV.str (ByteArray.mk #[98])), (AV.bool false), (AV.int .u32 0), (AV.sl .any 9 []), (AV.sl .any 2 [])]), (AV.sl .any 9 [[(AV.str (ByteArray.mk #[97])), (AV.str (ByteArray.mk #[98])), (AV.int .i64 1), (AV.int .i64 0), (AV.int .i64 9), (AV.int .i64 7), (AV.int .i64 1), (AV.int .i64 2), (AV.bool true)]])]), (Yg_3 nd) ++ H) := (k16t3_spec l g al ga gf gl gt nd st q now he).ext kr kr ob ob kr H
theorem k16t4_spec (l : List Entry) (g : Nat) (al : List Key) (ga : Nat) (gf gl gt nd : Int) (st : Stamp) (q : Msg) (now : Int) (he : ((⟨l, g, al, ga, gf, gl, gt, st⟩ : DS), nd, q, now) = q16d) : ACalls Tryz.prog 18 [(AV.obj 5 0 0 0), (AV.agg (Msg.row q)), (AV.int .i64 now)] (Yg_1 g l gf gl gt al ga nd st) ((AV.tup [(AV.agg [(AV.int .i64 2), (AV.int .i64 3), (AV.int .i64 0), (AV.int .i64 22), (AV.int .i64 0), (AV.int .i64 0), (AV.int .i64 0), (AV.str (ByteArray.mk #[97])), (AV.str (ByteArray.mk #[98])), (AV.bool false), (AV.int .u32 0), (AV.sl .any 9 []), (AV.sl .any 2 [])]), (AV.sl .any 9 [])]), (Yg_3 nd)) := by
  have e1 : (⟨l, g, al, ga, gf, gl, gt, st⟩ : DS) = q16d.1 := congrArg (fun z => z.1) he
  have e2 : nd = q16d.2.1 := congrArg (fun z => z.2.1) he
  have e3 : q = q16d.2.2.1 := congrArg (fun z => z.2.2.1) he
  have e4 : now = q16d.2.2.2 := congrArg (fun z => z.2.2.2) he
  clear he
  have e5 : l = q16d.1.l := congrArg DS.l e1
  have e6 : g = q16d.1.g := congrArg DS.g e1
  have e7 : al = q16d.1.al := congrArg DS.al e1
  have e8 : ga = q16d.1.ga := congrArg DS.ga e1
  have e9 : gf = q16d.1.gf := congrArg DS.gf e1
  have e10 : gl = q16d.1.gl := congrArg DS.gl e1
  have e11 : gt = q16d.1.gt := congrArg DS.gt e1
  have e12 : st = q16d.1.st := congrArg DS.st e1
  clear e1
  subst e2 e3 e4 e5 e6 e7 e8 e9 e10 e11 e12
  have h := hd_spec q16d.1.l q16d.1.g q16d.1.al q16d.1.ga q16d.1.gf q16d.1.gl q16d.1.gt q16d.2.1 q16d.1.st q16d.2.2.1 q16d.2.2.2 (of_decide_eq_true kr) (of_decide_eq_true kr) (of_decide_eq_true kr)
  exact Eq.mp (congrArg (fun z => ACalls _ _ _ _ z) kr) h
theorem k16t4_at (l : List Entry) (g : Nat) (al : List Key) (ga : Nat) (gf gl gt nd : Int) (st : Stamp) (q : Msg) (now : Int) (he : ((⟨l, g, al, ga, gf, gl, gt, st⟩ : DS), nd, q, now) = q16d) (H : Heap) : ACalls Tryz.prog 18 [(AV.obj 5 0 0 0), (AV.agg (Msg.row q)), (AV.int .i64 now)] ((Yg_1 g l gf gl gt al ga nd st) ++ H) ((AV.tup [(AV.agg [(AV.int .i64 2), (AV.int .i64 3), (AV.int .i64 0), (AV.int .i64 22), (AV.int .i64 0), (AV.int .i64 0), (AV.int .i64 0), (AV.str (ByteArray.mk #[97])), (AV.str (ByteArray.mk #[98])), (AV.bool false), (AV.int .u32 0), (AV.sl .any 9 []), (AV.sl .any 2 [])]), (AV.sl .any 9 [])]), (Yg_3 nd) ++ H) := (k16t4_spec l g al ga gf gl gt nd st q now he).ext kr kr ob ob kr H
def known16_ann : Ann := { fin := some 0 }
@[simp] abbrev Yg_o10  : Ob := ⟨0, 2, [[(AV.int .i64 (capM 32)), (AV.osl 1 0 10 0 (List.length ([] : List Entry)))]], none⟩
@[simp] abbrev Yg_o11  : Ob := ⟨0, 10, (List.map Entry.row ([] : List Entry)), none⟩
@[simp] abbrev Yg_o12  : Ob := ⟨0, 2, [[(AV.int .i64 (((List.length ([] : List Key)) : Nat) : Int)), (AV.osl 4 0 2 0 (List.length (recL ([] : List Key))))]], none⟩
@[simp] abbrev Yg_o13  : Ob := ⟨0, 2, (List.map Key.row (recL ([] : List Key))), none⟩
@[simp] abbrev Yg_4  : Heap := [Yg_o10, Yg_o11, Yg_o5, Yg_o12, Yg_o13, ⟨0, 7, [[(AV.int .i64 1), (AV.int .i64 0), (AV.int .i64 1), (AV.int .i64 0), (AV.obj 0 0 0 0), (AV.obj 2 0 0 0), (AV.obj 3 0 0 0)]], none⟩]
@[simp] abbrev Yg_5  : Heap := [Yg_o6, Yg_o7, Yg_o5, Yg_o8, Yg_o9, ⟨0, 7, [[(AV.int .i64 1), (AV.int .i64 (Stamp.mk 7 1 2).t), (AV.int .i64 (Stamp.mk 7 1 2).node), (AV.int .i64 (Stamp.mk 7 1 2).n), (AV.obj 0 0 0 0), (AV.obj 2 0 0 0), (AV.obj 3 0 0 0)]], none⟩, ⟨0, 2, [[(AV.str (ByteArray.mk #[97])), (AV.str (ByteArray.mk #[98]))]], none⟩, ⟨0, 13, [[(AV.int .i64 2), (AV.int .i64 1), (AV.int .i64 0), (AV.int .i64 0), (AV.int .i64 4), (AV.int .i64 0), (AV.int .i64 0), (AV.str (ByteArray.mk #[97])), (AV.str (ByteArray.mk #[98])), (AV.bool false), (AV.int .u32 0), (AV.sl .any 9 []), (AV.sl .any 2 [])]], none⟩, ⟨0, 13, [[(AV.int .i64 2), (AV.int .i64 2), (AV.int .i64 0), (AV.int .i64 22), (AV.int .i64 0), (AV.int .i64 0), (AV.int .i64 0), (AV.str (ByteArray.mk #[120])), (AV.str (ByteArray.mk #[121])), (AV.bool false), (AV.int .u32 0), (AV.sl .any 9 []), (AV.sl .any 2 [])]], none⟩, ⟨0, 13, [[(AV.int .i64 2), (AV.int .i64 3), (AV.int .i64 0), (AV.int .i64 0), (AV.int .i64 0), (AV.int .i64 0), (AV.int .i64 0), (AV.str (ByteArray.mk #[97])), (AV.str (ByteArray.mk #[98])), (AV.bool false), (AV.int .u32 0), (AV.sl .any 9 []), (AV.sl .any 2 [])]], none⟩, ⟨0, 13, [[(AV.int .i64 2), (AV.int .i64 3), (AV.int .i64 0), (AV.int .i64 22), (AV.int .i64 0), (AV.int .i64 0), (AV.int .i64 0), (AV.str (ByteArray.mk #[97])), (AV.str (ByteArray.mk #[98])), (AV.bool false), (AV.int .u32 0), (AV.sl .any 9 []), (AV.sl .any 2 [])]], none⟩]
set_option maxRecDepth 100000 in
theorem known16_spec   : ACalls Tryz.prog 20 [] ([] : Heap) ((AV.bool true), ([] : Heap)) :=
  specO (fn := Tryz.f20) (ann := known16_ann) (Has.o Tryz.func20) (.r (.g (.r (.ch 0 Yg_4 (ACalls.put2 [] ([] : Heap) (AV.obj 5 0 0 0) Yg_4 (dnew_spec 1 0 (by first | omega | assumption | (simp; done) | (simp; omega) | exact kr | kernel_rfl) (by first | omega | assumption | (simp; done) | (simp; omega) | exact kr | kernel_rfl) (by first | omega | assumption | (simp; done) | (simp; omega) | exact kr | kernel_rfl)) (trivial) (⟨rfl, ⟨Ob.ren0 (Entry.rows_bdd 0 _), ⟨rfl, ⟨rfl, ⟨Ob.ren0 (Key.rows_bdd 0 _), ⟨rfl, trivial⟩⟩⟩⟩⟩⟩)) (.g (.r (.no (.c 3 (dnewN_at   Yg_4) (.no (.g (.no (.r (.g (.r (.ch 3 ([⟨0, 2, [[(AV.int .i64 (capM 32)), (AV.osl 1 1 10 0 (List.length [(Entry.mk k16c1 5)]))]], none⟩, ⟨1, 10, (List.map Entry.row [(Entry.mk k16c1 5)]), none⟩, ⟨0, 3, [[(AV.int .i64 0), (AV.int .i64 0), (AV.int .i64 0)]], none⟩, ⟨0, 2, [[(AV.int .i64 (((List.length [k16]) : Nat) : Int)), (AV.osl 4 2 2 0 (List.length (recL [k16])))]], none⟩, ⟨2, 2, (List.map Key.row (recL [k16])), none⟩, ⟨0, 7, [[(AV.int .i64 1), (AV.int .i64 (Stamp.mk 5 1 1).t), (AV.int .i64 (Stamp.mk 5 1 1).node), (AV.int .i64 (Stamp.mk 5 1 1).n), (AV.obj 0 0 0 0), (AV.obj 2 0 0 0), (AV.obj 3 0 0 0)]], none⟩, ⟨0, 2, [[(AV.str (ByteArray.mk #[97])), (AV.str (ByteArray.mk #[98]))]], none⟩, ⟨0, 13, [[(AV.int .i64 0), (AV.int .i64 0), (AV.int .i64 0), (AV.int .i64 0), (AV.int .i64 0), (AV.int .i64 0), (AV.int .i64 0), (AV.str ⟨#[]⟩), (AV.str ⟨#[]⟩), (AV.bool false), (AV.int .u32 0), (AV.sl .nil 0 []), (AV.sl .nil 0 [])]], none⟩] : Heap) (ACalls.pre (args := [(AV.obj 5 0 0 0), (AV.agg (Msg.row (Msg.mk 1 1 1 0 4 9 0 (Key.mk (ByteArray.mk #[97]) (ByteArray.mk #[98])) false 0 [] []))), (AV.int .i64 5)]) (args' := [(AV.obj 5 0 0 0), (AV.agg [(AV.int .i64 1), (AV.int .i64 1), (AV.int .i64 1), (AV.int .i64 0), (AV.int .i64 4), (AV.int .i64 9), (AV.int .i64 0), (AV.str (ByteArray.mk #[97])), (AV.str (ByteArray.mk #[98])), (AV.bool false), (AV.int .u32 0), (AV.sl .nil 0 []), (AV.sl .nil 0 [])]), (AV.int .i64 5)]) (k16t1_at ([] : List Entry) 0 ([] : List Key) 0 0 0 0 1 (Stamp.mk 0 1 0) (Msg.mk 1 1 1 0 4 9 0 (Key.mk (ByteArray.mk #[97]) (ByteArray.mk #[98])) false 0 [] []) 5 (by first | omega | assumption | (simp; done) | (simp; omega) | exact kr | kernel_rfl) ([⟨0, 2, [[(AV.str (ByteArray.mk #[97])), (AV.str (ByteArray.mk #[98]))]], none⟩, ⟨0, 13, [[(AV.int .i64 0), (AV.int .i64 0), (AV.int .i64 0), (AV.int .i64 0), (AV.int .i64 0), (AV.int .i64 0), (AV.int .i64 0), (AV.str ⟨#[]⟩), (AV.str ⟨#[]⟩), (AV.bool false), (AV.int .u32 0), (AV.sl .nil 0 []), (AV.sl .nil 0 [])]], none⟩] : Heap)) ⟨AV.wk_refl_any _, ⟨AV.wk_refl_any _, AV.wk_refl_any _, AV.wk_refl_any _, AV.wk_refl_any _, AV.wk_refl_any _, AV.wk_refl_any _, AV.wk_refl_any _, AV.wk_refl_any _, AV.wk_refl_any _, AV.wk_refl_any _, AV.wk_refl_any _, ⟨rfl, rfl, .inr rfl⟩, ⟨rfl, rfl, .inr rfl⟩, trivial⟩, AV.wk_refl_any _, trivial⟩) (.g (.r (.c 3 (ACalls.pre (args := [(AV.obj 5 0 0 0), (AV.agg (Msg.row (Msg.mk 1 2 0 0 0 0 0 (Key.mk (ByteArray.mk #[120]) (ByteArray.mk #[121])) false 0 [] []))), (AV.int .i64 6)]) (args' := [(AV.obj 5 0 0 0), (AV.agg [(AV.int .i64 1), (AV.int .i64 2), (AV.int .i64 0), (AV.int .i64 0), (AV.int .i64 0), (AV.int .i64 0), (AV.int .i64 0), (AV.str (ByteArray.mk #[120])), (AV.str (ByteArray.mk #[121])), (AV.bool false), (AV.int .u32 0), (AV.sl .nil 0 []), (AV.sl .nil 0 [])]), (AV.int .i64 6)]) (k16t2_at [(Entry.mk k16c1 5)] 1 [k16] 2 0 0 0 1 (Stamp.mk 5 1 1) (Msg.mk 1 2 0 0 0 0 0 (Key.mk (ByteArray.mk #[120]) (ByteArray.mk #[121])) false 0 [] []) 6 (by first | omega | assumption | (simp; done) | (simp; omega) | exact kr | kernel_rfl) ([⟨0, 2, [[(AV.str (ByteArray.mk #[97])), (AV.str (ByteArray.mk #[98]))]], none⟩, ⟨0, 13, [[(AV.int .i64 2), (AV.int .i64 1), (AV.int .i64 0), (AV.int .i64 0), (AV.int .i64 4), (AV.int .i64 0), (AV.int .i64 0), (AV.str (ByteArray.mk #[97])), (AV.str (ByteArray.mk #[98])), (AV.bool false), (AV.int .u32 0), (AV.sl .any 9 []), (AV.sl .any 2 [])]], none⟩, ⟨0, 13, [[(AV.int .i64 0), (AV.int .i64 0), (AV.int .i64 0), (AV.int .i64 0), (AV.int .i64 0), (AV.int .i64 0), (AV.int .i64 0), (AV.str ⟨#[]⟩), (AV.str ⟨#[]⟩), (AV.bool false), (AV.int .u32 0), (AV.sl .nil 0 []), (AV.sl .nil 0 [])]], none⟩] : Heap)) ⟨AV.wk_refl_any _, ⟨AV.wk_refl_any _, AV.wk_refl_any _, AV.wk_refl_any _, AV.wk_refl_any _, AV.wk_refl_any _, AV.wk_refl_any _, AV.wk_refl_any _, AV.wk_refl_any _, AV.wk_refl_any _, AV.wk_refl_any _, AV.wk_refl_any _, ⟨rfl, rfl, .inr rfl⟩, ⟨rfl, rfl, .inr rfl⟩, trivial⟩, AV.wk_refl_any _, trivial⟩) (.g (.r (.ch 3 ([⟨0, 2, [[(AV.int .i64 (capM 32)), (AV.osl 1 1 10 0 (List.length [(Entry.mk k16c2 7)]))]], none⟩, ⟨1, 10, (List.map Entry.row [(Entry.mk k16c2 7)]), none⟩, ⟨0, 3, [[(AV.int .i64 0), (AV.int .i64 0), (AV.int .i64 0)]], none⟩, ⟨0, 2, [[(AV.int .i64 (((List.length [k16, k16]) : Nat) : Int)), (AV.osl 4 4 2 0 (List.length (recL [k16, k16])))]], none⟩, ⟨4, 2, (List.map Key.row (recL [k16, k16])), none⟩, ⟨0, 7, [[(AV.int .i64 1), (AV.int .i64 (Stamp.mk 7 1 2).t), (AV.int .i64 (Stamp.mk 7 1 2).node), (AV.int .i64 (Stamp.mk 7 1 2).n), (AV.obj 0 0 0 0), (AV.obj 2 0 0 0), (AV.obj 3 0 0 0)]], none⟩, ⟨0, 2, [[(AV.str (ByteArray.mk #[97])), (AV.str (ByteArray.mk #[98]))]], none⟩, ⟨0, 13, [[(AV.int .i64 2), (AV.int .i64 1), (AV.int .i64 0), (AV.int .i64 0), (AV.int .i64 4), (AV.int .i64 0), (AV.int .i64 0), (AV.str (ByteArray.mk #[97])), (AV.str (ByteArray.mk #[98])), (AV.bool false), (AV.int .u32 0), (AV.sl .any 9 []), (AV.sl .any 2 [])]], none⟩, ⟨0, 13, [[(AV.int .i64 2), (AV.int .i64 2), (AV.int .i64 0), (AV.int .i64 22), (AV.int .i64 0), (AV.int .i64 0), (AV.int .i64 0), (AV.str (ByteArray.mk #[120])), (AV.str (ByteArray.mk #[121])), (AV.bool false), (AV.int .u32 0), (AV.sl .any 9 []), (AV.sl .any 2 [])]], none⟩, ⟨0, 13, [[(AV.int .i64 0), (AV.int .i64 0), (AV.int .i64 0), (AV.int .i64 0), (AV.int .i64 0), (AV.int .i64 0), (AV.int .i64 0), (AV.str ⟨#[]⟩), (AV.str ⟨#[]⟩), (AV.bool false), (AV.int .u32 0), (AV.sl .nil 0 []), (AV.sl .nil 0 [])]], none⟩] : Heap) (ACalls.pre (args := [(AV.obj 5 0 0 0), (AV.agg (Msg.row (Msg.mk 1 3 0 0 0 0 0 (Key.mk (ByteArray.mk #[97]) (ByteArray.mk #[98])) false 0 [] []))), (AV.int .i64 7)]) (args' := [(AV.obj 5 0 0 0), (AV.agg [(AV.int .i64 1), (AV.int .i64 3), (AV.int .i64 0), (AV.int .i64 0), (AV.int .i64 0), (AV.int .i64 0), (AV.int .i64 0), (AV.str (ByteArray.mk #[97])), (AV.str (ByteArray.mk #[98])), (AV.bool false), (AV.int .u32 0), (AV.sl .nil 0 []), (AV.sl .nil 0 [])]), (AV.int .i64 7)]) (k16t3_at [(Entry.mk k16c1 5)] 1 [k16] 2 0 0 0 1 (Stamp.mk 5 1 1) (Msg.mk 1 3 0 0 0 0 0 (Key.mk (ByteArray.mk #[97]) (ByteArray.mk #[98])) false 0 [] []) 7 (by first | omega | assumption | (simp; done) | (simp; omega) | exact kr | kernel_rfl) ([⟨0, 2, [[(AV.str (ByteArray.mk #[97])), (AV.str (ByteArray.mk #[98]))]], none⟩, ⟨0, 13, [[(AV.int .i64 2), (AV.int .i64 1), (AV.int .i64 0), (AV.int .i64 0), (AV.int .i64 4), (AV.int .i64 0), (AV.int .i64 0), (AV.str (ByteArray.mk #[97])), (AV.str (ByteArray.mk #[98])), (AV.bool false), (AV.int .u32 0), (AV.sl .any 9 []), (AV.sl .any 2 [])]], none⟩, ⟨0, 13, [[(AV.int .i64 2), (AV.int .i64 2), (AV.int .i64 0), (AV.int .i64 22), (AV.int .i64 0), (AV.int .i64 0), (AV.int .i64 0), (AV.str (ByteArray.mk #[120])), (AV.str (ByteArray.mk #[121])), (AV.bool false), (AV.int .u32 0), (AV.sl .any 9 []), (AV.sl .any 2 [])]], none⟩, ⟨0, 13, [[(AV.int .i64 0), (AV.int .i64 0), (AV.int .i64 0), (AV.int .i64 0), (AV.int .i64 0), (AV.int .i64 0), (AV.int .i64 0), (AV.str ⟨#[]⟩), (AV.str ⟨#[]⟩), (AV.bool false), (AV.int .u32 0), (AV.sl .nil 0 []), (AV.sl .nil 0 [])]], none⟩] : Heap)) ⟨AV.wk_refl_any _, ⟨AV.wk_refl_any _, AV.wk_refl_any _, AV.wk_refl_any _, AV.wk_refl_any _, AV.wk_refl_any _, AV.wk_refl_any _, AV.wk_refl_any _, AV.wk_refl_any _, AV.wk_refl_any _, AV.wk_refl_any _, AV.wk_refl_any _, ⟨rfl, rfl, .inr rfl⟩, ⟨rfl, rfl, .inr rfl⟩, trivial⟩, AV.wk_refl_any _, trivial⟩) (.g (.r (.c 3 (ACalls.pre (args := [(AV.obj 5 0 0 0), (AV.agg (Msg.row (Msg.mk 1 3 0 0 0 0 0 (Key.mk (ByteArray.mk #[97]) (ByteArray.mk #[98])) false 0 [] []))), (AV.int .i64 8)]) (args' := [(AV.obj 5 0 0 0), (AV.agg [(AV.int .i64 1), (AV.int .i64 3), (AV.int .i64 0), (AV.int .i64 0), (AV.int .i64 0), (AV.int .i64 0), (AV.int .i64 0), (AV.str (ByteArray.mk #[97])), (AV.str (ByteArray.mk #[98])), (AV.bool false), (AV.int .u32 0), (AV.sl .nil 0 []), (AV.sl .nil 0 [])]), (AV.int .i64 8)]) (k16t4_at [(Entry.mk k16c2 7)] 1 [k16, k16] 4 0 0 0 1 (Stamp.mk 7 1 2) (Msg.mk 1 3 0 0 0 0 0 (Key.mk (ByteArray.mk #[97]) (ByteArray.mk #[98])) false 0 [] []) 8 (by first | omega | assumption | (simp; done) | (simp; omega) | exact kr | kernel_rfl) ([⟨0, 2, [[(AV.str (ByteArray.mk #[97])), (AV.str (ByteArray.mk #[98]))]], none⟩, ⟨0, 13, [[(AV.int .i64 2), (AV.int .i64 1), (AV.int .i64 0), (AV.int .i64 0), (AV.int .i64 4), (AV.int .i64 0), (AV.int .i64 0), (AV.str (ByteArray.mk #[97])), (AV.str (ByteArray.mk #[98])), (AV.bool false), (AV.int .u32 0), (AV.sl .any 9 []), (AV.sl .any 2 [])]], none⟩, ⟨0, 13, [[(AV.int .i64 2), (AV.int .i64 2), (AV.int .i64 0), (AV.int .i64 22), (AV.int .i64 0), (AV.int .i64 0), (AV.int .i64 0), (AV.str (ByteArray.mk #[120])), (AV.str (ByteArray.mk #[121])), (AV.bool false), (AV.int .u32 0), (AV.sl .any 9 []), (AV.sl .any 2 [])]], none⟩, ⟨0, 13, [[(AV.int .i64 2), (AV.int .i64 3), (AV.int .i64 0), (AV.int .i64 0), (AV.int .i64 0), (AV.int .i64 0), (AV.int .i64 0), (AV.str (ByteArray.mk #[97])), (AV.str (ByteArray.mk #[98])), (AV.bool false), (AV.int .u32 0), (AV.sl .any 9 []), (AV.sl .any 2 [])]], none⟩, ⟨0, 13, [[(AV.int .i64 0), (AV.int .i64 0), (AV.int .i64 0), (AV.int .i64 0), (AV.int .i64 0), (AV.int .i64 0), (AV.int .i64 0), (AV.str ⟨#[]⟩), (AV.str ⟨#[]⟩), (AV.bool false), (AV.int .u32 0), (AV.sl .nil 0 []), (AV.sl .nil 0 [])]], none⟩] : Heap)) ⟨AV.wk_refl_any _, ⟨AV.wk_refl_any _, AV.wk_refl_any _, AV.wk_refl_any _, AV.wk_refl_any _, AV.wk_refl_any _, AV.wk_refl_any _, AV.wk_refl_any _, AV.wk_refl_any _, AV.wk_refl_any _, AV.wk_refl_any _, AV.wk_refl_any _, ⟨rfl, rfl, .inr rfl⟩, ⟨rfl, rfl, .inr rfl⟩, trivial⟩, AV.wk_refl_any _, trivial⟩) (.g (.r (.yes (.yes (.yes (.yes (.yes (.yes (.yes (.yes (.yes (.yes (.yes (.yes (.h' Yg_5 (.y 19 (AV.bool ((5 == 5) && ((1 == 1) && ((1 == 1) && true)))) (AV.bool true) (Yes.bool kr) (.yes (.yes (.yes (.yes (.yes (.yes (.yes (.yes (.yes (.yes (.yes (.yes (.yes (.yes (.yes (.yes (.yes (.yes (.yes (.yes (.yes (.yes (.yes (.yes (.c 59 (ACalls.put2 [0, 1, 2, 3, 4, 5] Yg_5 (AV.obj 3 0 0 0) Yg_5 (drecent_spec [(Entry.mk k16c2 7)] 1 [k16, k16] 4 0 0 0 1 (Stamp.mk 7 1 2).t (Stamp.mk 7 1 2).node (Stamp.mk 7 1 2).n ) (⟨rfl, ⟨Ob.ren0 (Entry.rows_bdd 0 _), ⟨rfl, ⟨rfl, ⟨Ob.ren0 (Key.rows_bdd 0 _), ⟨rfl, trivial⟩⟩⟩⟩⟩⟩) (⟨rfl, ⟨Ob.ren0 (Entry.rows_bdd 0 _), ⟨rfl, ⟨rfl, ⟨Ob.ren0 (Key.rows_bdd 0 _), ⟨rfl, trivial⟩⟩⟩⟩⟩⟩)) (.yes (.c 60 (ACalls.pre (args := [(AV.obj 3 0 0 0)]) (args' := [(AV.obj 3 0 0 0)]) (ACalls.put2 [3, 4] Yg_5 (AV.int .i64 (([k16, k16].length : Nat) : Int)) Yg_5 (seq_spec [k16, k16] 4 ) (⟨rfl, ⟨Ob.ren0 (Key.rows_bdd 0 _), trivial⟩⟩) (⟨rfl, ⟨Ob.ren0 (Key.rows_bdd 0 _), trivial⟩⟩)) ⟨AV.wk_refl_any _, trivial⟩) (.yes (.g (.h' ([] : Heap) (.f 0 (AV.bool ((([k16, k16].length : Nat) : Int) == 2)) (.e (AV.bool ((([k16, k16].length : Nat) : Int) == 2))))))))))))))))))))))))))))))))))))))))))))))))))))))))))))))))))))))))))
theorem known16_at   (H : Heap) : ACalls Tryz.prog 20 [] H ((AV.bool true), H) := (known16_spec  ).lift kr kr H
attribute [local irreducible] Tp.ask Tp.card
end Go.Proofs.YtfjedpipdnlkfaaGreat.AM

set_option maxRecDepth 100000
set_option linter.unusedVariables false
set_option linter.unusedSimpArgs false
namespace Go.Proofs.YtfjedpipdnlkfaaGreat.AM
open Go Go.Proofs.YtfjedpipdnlkfaaGreat
attribute [local irreducible] ACalls funT codeT codeQ LoopTo
attribute [local irreducible] Tp.card Tp.cardT Tp.next Tp.step Tp.cards Tp.key Tp.keyT sink insSort beforeK
def deadB (now : Int) (e : Entry) : Bool := if e.card.gone = true then decide (agoE e now > 400) else false
def deadStep (now : Int) (s : List Entry × Nat) (e : Entry) : List Entry × Nat := if deadB now e = true then (s.1 ++ [e], s.2 + 1) else s
def deadS (l : List Entry) (now : Int) : List Entry × Nat := l.foldl (deadStep now) ([], 0)
theorem deadF_len (now : Int) (l : List Entry) : ∀ (s : List Entry × Nat), (l.foldl (deadStep now) s).1.length ≤ s.1.length + l.length := by
  induction l with
  | nil => intro s; simp
  | cons c l ih =>
    intro s
    have h1 := ih (deadStep now s c)
    have h2 : (deadStep now s c).1.length ≤ s.1.length + 1 := by unfold deadStep; split <;> simp
    simp only [List.foldl_cons, List.length_cons]; omega
theorem deadS_len (l : List Entry) (now : Int) : (deadS l now).1.length ≤ l.length := by
  have := deadF_len now l ([], 0)
  simpa [deadS] using this
def deadK (l : List Entry) (now : Int) : List Key := (deadS l now).1.map (·.card.key)
def dead_ann : Ann := { gh := [(8, .frz 5)], gha := [(1, .vir 5 10), (7, .cut 1)], fin := some 0, live := [(3, [1, 5, 8, 9, 10])], out := [(3, [1, 5, 8, 9, 10])] }
@[simp] abbrev Sj_1 (v1_ : Nat) (v2_ : List Entry) (v3_ : List Entry) (v4_ : Nat) : Heap := [⟨(v1_ + 1), 10, (List.map Entry.row (v2_ ++ [(nth v3_ v4_)])), none⟩]
@[simp] abbrev Sj_2 (v1_ : Int) (v2_ : Nat) (v3_ : Nat) (v4_ : List Entry) (v5_ : Nat) : Fr := (mkF 30 [(1, (AV.int .i64 v1_)), (5, (AV.osl 0 v2_ 10 0 v3_)), (8, (AV.sl .any 10 (List.map Entry.row v4_))), (9, (AV.int .i64 ((v4_.length : Nat) : Int))), (10, (AV.int .i64 ((v5_ + 1 : Nat) : Int)))])
@[simp] abbrev Sj_3 (v1_ : Int) (v2_ : Nat) (v3_ : Nat) (v4_ : List Entry) (v5_ : Nat) : Fr := (mkF 30 [(1, (AV.int .i64 v1_)), (5, (AV.osl 0 v2_ 10 0 v3_)), (8, (AV.sl .any 10 (List.map Entry.row v4_))), (9, (AV.int .i64 ((v4_.length : Nat) : Int))), (10, (AV.int .i64 ((v5_ : Nat) : Int)))])
@[simp] abbrev Sj_4 (v1_ : Nat) (v2_ : List Entry) (v3_ : List Entry) (v4_ : Nat) : Heap := [⟨v1_, 10, (List.map Entry.row v2_), none⟩, ⟨0, 10, [(Entry.row (nth v3_ v4_))], none⟩]
set_option maxRecDepth 100000 in
theorem dead_step (l few : List Entry) (now : Int) (i k g : Nat) (hk : k = few.length) (hki : k ≤ l.length) (hl : l.length < 1099511627776) {eX : Ex} {FX : Fr} {HX : Heap} (k1 : (decide (((i : Nat) : Int) < ((l.length : Nat) : Int))) = true → (nth l i).card.gone = true → (decide ((agoE (nth l i) now) > 400)) = true → LoopTo (codeQ Tryz.prog (X dead_ann) (loopOf Tryz.f58 0)) (some [1, 5, 8, 9, 10]) (some [1, 5, 8, 9, 10]) (mkF 30 [(1, (.int .i64 now)), (5, (.osl 0 (g + 1) 10 0 (k + 1))), (8, (.sl .any 10 (List.map Entry.row l))), (9, (.int .i64 ((l.length : Nat) : Int))), (10, (.int .i64 ((i + 1 : Nat) : Int)))]) (Sj_1 g few l i) eX FX HX) (k2 : (decide (((i : Nat) : Int) < ((l.length : Nat) : Int))) = true → (nth l i).card.gone = true → (decide ((agoE (nth l i) now) > 400)) = false → LoopTo (codeQ Tryz.prog (X dead_ann) (loopOf Tryz.f58 0)) (some [1, 5, 8, 9, 10]) (some [1, 5, 8, 9, 10]) (Sj_2 now g k l i) ([⟨g, 10, (List.map Entry.row few), none⟩] : Heap) eX FX HX) (k3 : (decide (((i : Nat) : Int) < ((l.length : Nat) : Int))) = true → (nth l i).card.gone = false → LoopTo (codeQ Tryz.prog (X dead_ann) (loopOf Tryz.f58 0)) (some [1, 5, 8, 9, 10]) (some [1, 5, 8, 9, 10]) (Sj_2 now g k l i) ([⟨g, 10, (List.map Entry.row few), none⟩] : Heap) eX FX HX) (k4 : (decide (((i : Nat) : Int) < ((l.length : Nat) : Int))) = false → ((.exit 0 : Ex), (Sj_3 now g k l i), ([⟨g, 10, (List.map Entry.row few), none⟩] : Heap)) = (eX, FX, HX)) : LoopTo (codeQ Tryz.prog (X dead_ann) (loopOf Tryz.f58 0)) (some [1, 5, 8, 9, 10]) (some [1, 5, 8, 9, 10]) (Sj_3 now g k l i) ([⟨g, 10, (List.map Entry.row few), none⟩] : Heap) eX FX HX :=
  stepO (.r (.g (.two (decide (((i : Nat) : Int) < ((l.length : Nat) : Int))) (fun h1 h1' => (.r (.h' ([⟨g, 10, (List.map Entry.row few), none⟩, ⟨0, 10, [[(AV.str ⟨#[]⟩), (AV.str ⟨#[]⟩), (AV.int .i64 0), (AV.int .i64 0), (AV.int .i64 0), (AV.int .i64 0), (AV.int .i64 0), (AV.int .i64 0), (AV.bool false), (AV.int .i64 0)]], none⟩] : Heap) (.is 0 10 10 (List.map Entry.row l) ((i : Nat) : Int) (Entry.row (nth l i)) (IdxSl.mk _ ow ow) (.g (.r (.two (nth l i).card.gone (fun h2 h2' => (.yes (.yes (.c 6 (ago_at (nth l i) now  (Sj_4 g few l i)) (.yes (.g (.two (decide ((agoE (nth l i) now) > 400)) (fun h3 h3' => (.r (.h' (Sj_4 g few l i) (.ap 3 104 (AV.osl 0 g 10 0 k) (AV.sl .clip 10 [(Entry.row (nth l i))]) (AV.osl 0 (g + 1) 10 0 (k + 1)) ([⟨(g + 1), 10, (List.map Entry.row (few ++ [(nth l i)])), none⟩, ⟨0, 10, [(Entry.row (nth l i))], none⟩] : Heap) (evAppend_one (row := Entry.row) (l := few) (x := (nth l i)) (T := tt) (e := 45) (te := { d := .struct [(39, 0), (2, 9)], size := 10, bytes := 96, zero := [.str ⟨#[]⟩, .str ⟨#[]⟩, .int .i64 0, .int .i64 0, .int .i64 0, .int .i64 0, .int .i64 0, .int .i64 0, .bool false, .int .i64 0] }) (z := 1) (b := 24) (y := [.sl .nil 0 []]) kr kr rfl (by decide) (by decide) kr (by first | assumption | omega | (simp; done) | (simp; omega)) rfl rfl (by first | omega | (show _ * 96 ≤ _; omega) | (simp; omega))) (.g (.r (.y 0 (.int .i64 (IntKind.i64.wrap (((i : Nat) : Int) + 1))) (AV.int .i64 ((i + 1 : Nat) : Int)) (Yes.add ow ow ow) (.h' (Sj_1 g few l i) (.b 1 (.g (.l (k1 h1 h2 h3)))))))))))) (fun h3 h3' => (.r (.h' (Sj_4 g few l i) (.y 0 (.int .i64 (IntKind.i64.wrap (((i : Nat) : Int) + 1))) (AV.int .i64 ((i + 1 : Nat) : Int)) (Yes.add ow ow ow) (.h' ([⟨g, 10, (List.map Entry.row few), none⟩] : Heap) (.b 1 (.g (.l (k2 h1 h2 h3)))))))))))))))) (fun h2 h2' => (.no (.no (.no (.g (.no (.r (.h' (Sj_4 g few l i) (.y 0 (.int .i64 (IntKind.i64.wrap (((i : Nat) : Int) + 1))) (AV.int .i64 ((i + 1 : Nat) : Int)) (Yes.add ow ow ow) (.h' ([⟨g, 10, (List.map Entry.row few), none⟩] : Heap) (.b 1 (.g (.l (k3 h1 h2))))))))))))))))))))) (fun h1 h1' => (.l (k4 h1))))))
theorem dead_loop (l : List Entry) (now : Int) (r : Nat) : ∀ (few : List Entry) (i k g : Nat) (sF : List Entry × Nat), i + r = l.length → k = few.length → k ≤ i → l.length < 1099511627776 → sF = (l.drop i).foldl (deadStep now) (few, g) →
    LoopTo (codeQ Tryz.prog (X dead_ann) (loopOf Tryz.f58 0)) (some [1, 5, 8, 9, 10]) (some [1, 5, 8, 9, 10]) (mkF 30 [(1, (.int .i64 now)), (5, (.osl 0 g 10 0 k)), (8, (.sl .any 10 (List.map Entry.row l))), (9, (.int .i64 ((l.length : Nat) : Int))), (10, (.int .i64 ((i : Nat) : Int)))]) ([⟨g, 10, (List.map Entry.row few), none⟩] : Heap) (.exit 0) (mkF 30 [(1, (.int .i64 now)), (5, (.osl 0 sF.2 10 0 sF.1.length)), (8, (.sl .any 10 (List.map Entry.row l))), (9, (.int .i64 ((l.length : Nat) : Int))), (10, (.int .i64 ((l.length : Nat) : Int)))]) ([⟨sF.2, 10, (List.map Entry.row sF.1), none⟩] : Heap) := by
  induction r with
  | zero =>
    intro few i k g sF hi hk hki hl h
    have : l.drop i = [] := List.drop_of_length_le ow
    rw [this] at h
    refine dead_step l few now i k g hk ow hl (fun h => by simp at h; omega) (fun h => by simp at h; omega) (fun h => by simp at h; omega) fun _ => ?_
    have e3 : i = l.length := by omega
    rw [h, e3, hk]
    rfl
  | succ r ih =>
    intro few i k g sF hi hk hki hl h
    rw [drop_nth ow, List.foldl_cons] at h
    refine dead_step l few now i k g hk ow hl (fun _ h2 h3 => ?_) (fun _ h2 h3 => ?_) (fun _ h2 => ?_) fun h => by simp at h; omega
    · exact ih (few ++ [nth l i]) (i + 1) (k + 1) (g + 1) sF ow (by simp [hk]) ow hl (by rw [h]; simp only [deadStep, deadB, h2, h3, if_true])
    · exact ih few (i + 1) k g sF ow hk ow hl (by rw [h]; simp only [deadStep, deadB, h2, h3, if_true, Bool.false_eq_true, if_false])
    · exact ih few (i + 1) k g sF ow hk ow hl (by rw [h]; simp only [deadStep, deadB, h2, Bool.false_eq_true, if_false])
@[simp] abbrev Sj_5 (v1_ : Int) (v2_ : List Entry) : Fr := (mkF 30 [(1, (AV.int .i64 v1_)), (5, (AV.osl 0 (deadS v2_ v1_).2 10 0 (deadS v2_ v1_).1.length)), (8, (AV.sl .any 10 (List.map Entry.row v2_))), (9, (AV.int .i64 ((v2_.length : Nat) : Int))), (10, (AV.int .i64 ((v2_.length : Nat) : Int)))])
@[simp] abbrev Sj_6 (v1_ : List Entry) (v2_ : Int) : Heap := [⟨(deadS v1_ v2_).2, 10, (List.map Entry.row (deadS v1_ v2_).1), none⟩]
set_option maxRecDepth 100000 in
theorem dead_spec (l : List Entry) (now : Int) (hl : l.length < 1099511627776) : ACalls Tryz.prog 58 [(AV.sl .any 10 (List.map Entry.row l)), (AV.int .i64 now)] ([] : Heap) ((AV.sl .any 2 (List.map Key.row (deadK l now))), ([] : Heap)) := by
  have hd := deadS_len l now
  exact specO (fn := Tryz.f58) (ann := dead_ann) (Has.o Tryz.func58) (.r (.g (.r (.g (.r (.h' ([⟨0, 10, (List.map Entry.row []), none⟩] : Heap) (.y 1 (.int .i64 ((List.length (List.map Entry.row l) : Nat) : Int)) (AV.int .i64 ((l.length : Nat) : Int)) (Yes.len _ _ _) (.g (.loop (Sj_5 now l) (show LoopTo (codeQ Tryz.prog (X dead_ann) (loopOf Tryz.f58 0)) (some [1, 5, 8, 9, 10]) (some [1, 5, 8, 9, 10]) (mkF 30 [(1, (.int .i64 now)), (5, (.osl 0 0 10 0 0)), (8, (.sl .any 10 (List.map Entry.row l))), (9, (.int .i64 ((l.length : Nat) : Int))), (10, (.int .i64 0))]) ([⟨0, 10, (List.map Entry.row []), none⟩] : Heap) (.exit 0) (Sj_5 now l) (Sj_6 l now) from (dead_loop l now (List.length l) [] 0 0 0 _ ow rfl ow hl rfl)) (.r (.w 5 (List.map Entry.row (deadS l now).1) (And.intro (rowsIn_all (room := none) kr om) (Entry.rows_bdd _ _) : rowsIn (Sj_6 l now) 10 (AV.osl 0 (deadS l now).2 10 0 (deadS l now).1.length) = some (List.map Entry.row (deadS l now).1) ∧ AV.bddss 0 (List.map Entry.row (deadS l now).1) = true) (.c 1 (keysE_at (deadS l now).1 oa ([⟨((deadS l now).2 + 1), 10, [], none⟩] : Heap)) (.g (.h' ([] : Heap) (.f 0 (AV.sl .any 2 (List.map Key.row ((deadS l now).1.map (·.card.key)))) (.e (AV.sl .any 2 (List.map Key.row ((deadS l now).1.map (·.card.key))))))))))))))))))))
theorem dead_at (l : List Entry) (now : Int) (hl : l.length < 1099511627776) (H : Heap) : ACalls Tryz.prog 58 [(AV.sl .any 10 (List.map Entry.row l)), (AV.int .i64 now)] H ((AV.sl .any 2 (List.map Key.row (deadK l now))), H) := (dead_spec l now hl).lift kr kr H
end Go.Proofs.YtfjedpipdnlkfaaGreat.AM

set_option maxRecDepth 100000
set_option linter.unusedVariables false
set_option linter.unusedSimpArgs false
namespace Go.Proofs.YtfjedpipdnlkfaaGreat.AM
open Go Go.Proofs.YtfjedpipdnlkfaaGreat
attribute [local irreducible] ACalls funT codeT codeQ LoopTo
attribute [local irreducible] Tp.card Tp.cardT Tp.next Tp.step Tp.cards Tp.key Tp.keyT sink insSort beforeK deadS deadK sortP cmpK
theorem deadF (now : Int) (l : List Entry) : ∀ (out : List Entry) (g : Nat), (l.foldl (deadStep now) (out, g)).1 = out ++ l.filter (deadB now) := by
  induction l with
  | nil => intro out g; simp
  | cons e l ih =>
    intro out g
    rw [List.foldl_cons]
    unfold deadStep at ih ⊢
    by_cases h : deadB now e = true
    · rw [if_pos h, ih]; simp [List.filter_cons, h]
    · rw [if_neg h, ih]; simp [List.filter_cons, h]
theorem deadK_eq (l : List Entry) (now : Int) : deadK l now = (l.filter (deadB now)).map (·.card.key) := by
  unfold deadK deadS; rw [deadF]; simp
theorem deadK_len (l : List Entry) (now : Int) : (deadK l now).length ≤ l.length := by rw [deadK_eq, List.length_map]; exact List.length_filter_le _ _
end Go.Proofs.YtfjedpipdnlkfaaGreat.AM

set_option linter.unusedVariables false
set_option linter.unusedSimpArgs false
set_option maxRecDepth 100000
namespace Go.Proofs.YtfjedpipdnlkfaaGreat.AM
open Go
attribute [local irreducible] Tp.card Tp.cardT Tp.next Tp.step Tp.cards Tp.key Tp.keyT
end Go.Proofs.YtfjedpipdnlkfaaGreat.AM

set_option linter.unusedVariables false
set_option linter.unusedSimpArgs false
set_option maxRecDepth 100000
namespace Go.Proofs.YtfjedpipdnlkfaaGreat.AM
open Go
theorem srtE_unlike {l : List Entry} (h : SrtE l) : List.Pairwise (fun a b : Entry => a.card.key ≠ b.card.key) l := by
  have h2 : List.Pairwise (fun a b : Entry => beforeK a.card.key b.card.key = true) l := List.pairwise_map.1 h
  exact h2.imp fun h => bk_ne h
def swOK (l : List Entry) (ks : List Key) : Prop := List.Pairwise (· ≠ ·) ks ∧ ∀ k ∈ ks, findB l k = true ∧ (getE l k).card.gone = false
theorem swOK.next {l : List Entry} (hs : SrtE l) {k : Key} {ks : List Key} (h : swOK l (k :: ks)) {x : Entry} (hx : x.card.key = k) : swOK (putL (capM 32) l x) ks := by
  obtain ⟨h1, h2⟩ := h
  have h3 := List.pairwise_cons.1 h1
  refine ⟨h3.2, fun k' hk' => ?_⟩
  have hf := h2 k (List.mem_cons_self)
  have hf' := h2 k' (List.mem_cons_of_mem _ hk')
  have hne : k' ≠ x.card.key := by rw [hx]; exact fun e => h3.1 k' hk' e.symm
  obtain ⟨g1, g2⟩ := find_putL_ne (most := capM 32) hs (e := x) (.inl (by rw [hx]; exact hf.1)) hne
  rw [g1, g2]; exact hf'
end Go.Proofs.YtfjedpipdnlkfaaGreat.AM

set_option maxRecDepth 100000
set_option linter.unusedVariables false
set_option linter.unusedSimpArgs false
namespace Go.Proofs.YtfjedpipdnlkfaaGreat.AM
open Go Go.Proofs.YtfjedpipdnlkfaaGreat
attribute [local irreducible] ACalls funT codeT codeQ LoopTo
attribute [local irreducible] Tp.card Tp.cardT Tp.next Tp.step Tp.cards Tp.key Tp.keyT sink insSort beforeK sortP cmpK
attribute [local irreducible] swapL rotS rotL bsr mgL mg mAt shU shD
end Go.Proofs.YtfjedpipdnlkfaaGreat.AM

set_option maxRecDepth 100000
set_option linter.unusedVariables false
set_option linter.unusedSimpArgs false
namespace Go.Proofs.YtfjedpipdnlkfaaGreat.AM
open Go Go.Proofs.YtfjedpipdnlkfaaGreat
attribute [local irreducible] ACalls funT codeT codeQ LoopTo
attribute [local irreducible] Tp.card Tp.cardT Tp.next Tp.step Tp.cards Tp.key Tp.keyT sink insSort beforeK sortP cmpK
attribute [local irreducible] swapL rotS rotL bsr mgL mg shU shD
end Go.Proofs.YtfjedpipdnlkfaaGreat.AM

set_option maxRecDepth 100000
set_option linter.unusedVariables false
set_option linter.unusedSimpArgs false
namespace Go.Proofs.YtfjedpipdnlkfaaGreat.AM
open Go Go.Proofs.YtfjedpipdnlkfaaGreat
attribute [local irreducible] ACalls funT codeT codeQ LoopTo
attribute [local irreducible] Tp.card Tp.cardT Tp.next Tp.step Tp.cards Tp.key Tp.keyT sink insSort beforeK sortP cmpK
attribute [local irreducible] mgL mg mAt blk allB mix sortG
end Go.Proofs.YtfjedpipdnlkfaaGreat.AM

set_option maxRecDepth 100000
set_option linter.unusedVariables false
set_option linter.unusedSimpArgs false
namespace Go.Proofs.YtfjedpipdnlkfaaGreat.AM
open Go Go.Proofs.YtfjedpipdnlkfaaGreat
attribute [local irreducible] ACalls funT codeT codeQ LoopTo
attribute [local irreducible] Tp.card Tp.cardT Tp.next Tp.step Tp.cards Tp.key Tp.keyT sink insSort beforeK deadS deadK sortP cmpK
end Go.Proofs.YtfjedpipdnlkfaaGreat.AM

set_option maxRecDepth 100000
set_option linter.unusedVariables false
set_option linter.unusedSimpArgs false
namespace Go.Proofs.YtfjedpipdnlkfaaGreat.AM
open Go Go.Proofs.YtfjedpipdnlkfaaGreat
attribute [local irreducible] ACalls funT codeT codeQ LoopTo
attribute [local irreducible] Tp.card Tp.cardT Tp.next Tp.step Tp.cards Tp.key Tp.keyT sink insSort beforeK deadS deadK sortP cmpK
end Go.Proofs.YtfjedpipdnlkfaaGreat.AM

set_option maxRecDepth 100000
set_option linter.unusedVariables false
set_option linter.unusedSimpArgs false
namespace Go.Proofs.YtfjedpipdnlkfaaGreat.AM
open Go Go.Proofs.YtfjedpipdnlkfaaGreat
attribute [local irreducible] ACalls funT codeT codeQ LoopTo
attribute [local irreducible] cmpSt maxS nextS setA setG putE putL putG getE findB tuR msgR hdD fetR hold40 errA zeroM opM withB namesK deadK dropL
@[simp] abbrev Yh_o1 (v1_ : Nat) (v2_ : List Entry) : Ob := ⟨0, 2, [[(AV.int .i64 (capM 32)), (AV.osl 1 v1_ 10 0 (List.length v2_))]], none⟩
@[simp] abbrev Yh_o2 (v1_ : Int) (v2_ : Int) (v3_ : Int) : Ob := ⟨0, 3, [[(AV.int .i64 v1_), (AV.int .i64 v2_), (AV.int .i64 v3_)]], none⟩
@[simp] abbrev Yh_o3 (v1_ : List Key) (v2_ : Nat) : Ob := ⟨0, 2, [[(AV.int .i64 (((List.length v1_) : Nat) : Int)), (AV.osl 4 v2_ 2 0 (List.length (recL v1_)))]], none⟩
@[simp] abbrev Yh_o4 (v1_ : Int) (v2_ : Stamp) : Ob := ⟨0, 7, [[(AV.int .i64 v1_), (AV.int .i64 v2_.t), (AV.int .i64 v2_.node), (AV.int .i64 v2_.n), (AV.obj 0 0 0 0), (AV.obj 2 0 0 0), (AV.obj 3 0 0 0)]], none⟩
@[simp] abbrev Yh_1 (v1_ : Nat) (v2_ : List Entry) (v3_ : Int) (v4_ : Int) (v5_ : Int) (v6_ : List Key) (v7_ : Nat) (v8_ : Int) (v9_ : Stamp) : Heap := [Yh_o1 v1_ v2_, ⟨v1_, 10, (List.map Entry.row v2_), none⟩, Yh_o2 v3_ v4_ v5_, Yh_o3 v6_ v7_, ⟨v7_, 2, (List.map Key.row (recL v6_)), none⟩, Yh_o4 v8_ v9_]
@[simp] abbrev Yh_10 (v1_ : Int) (v2_ : Int) (v3_ : Int) (v4_ : List Key) (v5_ : Nat) (v6_ : Int) (v7_ : Stamp) : Heap := [Yh_o2 v1_ v2_ v3_, Yh_o3 v4_ v5_, ⟨v5_, 2, (List.map Key.row (recL v4_)), none⟩, Yh_o4 v6_ v7_]
def dpg_ann : Ann := { gha := [(5, .cut 6)], base := 6, fin := some 6, live := [(3, [0, 5, 16, 17, 18])], out := [(3, [0, 5, 16, 17, 18])] }
@[simp] abbrev Yh_14 (v1_ : Nat) (v2_ : List Entry) (v3_ : List Key) (v4_ : Nat) (v5_ : Int) (v6_ : Int) (v7_ : Int) (v8_ : List Key) (v9_ : Nat) (v10_ : Int) (v11_ : Stamp) : Heap := [⟨0, 2, [[(AV.int .i64 (capM 32)), (AV.osl 1 v1_ 10 0 (List.length (dropL v2_ (nth v3_ v4_))))]], none⟩, ⟨v1_, 10, (List.map Entry.row (dropL v2_ (nth v3_ v4_))), none⟩, Yh_o2 v5_ v6_ v7_, Yh_o3 v8_ v9_, ⟨v9_, 2, (List.map Key.row (recL v8_)), none⟩, Yh_o4 v10_ v11_]
@[simp] abbrev Yh_15 (v1_ : List Key) (v2_ : Nat) : Fr := (mkF 31 [(0, (AV.obj 5 0 0 0)), (5, (AV.sl .any 2 (List.map Key.row v1_))), (16, (AV.sl .any 2 (List.map Key.row v1_))), (17, (AV.int .i64 ((v1_.length : Nat) : Int))), (18, (AV.int .i64 ((v2_ : Nat) : Int)))])
set_option maxRecDepth 100000 in
theorem dpg_step (g : Nat) (al : List Key) (ga : Nat) (gf : Int) (gl : Int) (gt : Int) (nd : Int) (st : Stamp) (ks : List Key) (l : List Entry) (i : Nat) (hks : ks.length < 1000) (hl : l.length < 1000) (hle_ : i ≤ ks.length) {eX : Ex} {FX : Fr} {HX : Heap} (k1 : (decide (((i : Nat) : Int) < ((ks.length : Nat) : Int))) = true → LoopTo (codeQ Tryz.prog (X dpg_ann) (loopOf Tryz.f23 0)) (some [0, 5, 16, 17, 18]) (some [0, 5, 16, 17, 18]) (mkF 31 [(0, (.obj 5 0 0 0)), (5, (.sl .any 2 (List.map Key.row ks))), (16, (.sl .any 2 (List.map Key.row ks))), (17, (.int .i64 ((ks.length : Nat) : Int))), (18, (.int .i64 ((i + 1 : Nat) : Int)))]) (Yh_14 g l ks i gf gl gt al ga nd st) eX FX HX) (k2 : (decide (((i : Nat) : Int) < ((ks.length : Nat) : Int))) = false → ((.exit 0 : Ex), (Yh_15 ks i), (Yh_1 g l gf gl gt al ga nd st)) = (eX, FX, HX)) : LoopTo (codeQ Tryz.prog (X dpg_ann) (loopOf Tryz.f23 0)) (some [0, 5, 16, 17, 18]) (some [0, 5, 16, 17, 18]) (Yh_15 ks i) (Yh_1 g l gf gl gt al ga nd st) eX FX HX :=
  stepO (.r (.g (.two (decide (((i : Nat) : Int) < ((ks.length : Nat) : Int))) (fun h1 h1' => (.r (.h' ([⟨0, 2, [[(AV.int .i64 (capM 32)), (AV.osl 1 g 10 0 (List.length l))]], none⟩, ⟨g, 10, (List.map Entry.row l), none⟩, ⟨0, 3, [[(AV.int .i64 gf), (AV.int .i64 gl), (AV.int .i64 gt)]], none⟩, ⟨0, 2, [[(AV.int .i64 (((List.length al) : Nat) : Int)), (AV.osl 4 ga 2 0 (List.length (recL al)))]], none⟩, ⟨ga, 2, (List.map Key.row (recL al)), none⟩, ⟨0, 7, [[(AV.int .i64 nd), (AV.int .i64 st.t), (AV.int .i64 st.node), (AV.int .i64 st.n), (AV.obj 0 0 0 0), (AV.obj 2 0 0 0), (AV.obj 3 0 0 0)]], none⟩, ⟨0, 2, [[(AV.str ⟨#[]⟩), (AV.str ⟨#[]⟩)]], none⟩] : Heap) (.is 0 2 2 (List.map Key.row ks) ((i : Nat) : Int) (Key.row (nth ks i)) (IdxSl.mk _ ow ow) (.g (.r (.ch 5 ([⟨0, 2, [[(AV.int .i64 (capM 32)), (AV.osl 1 g 10 0 (List.length (dropL l (nth ks i))))]], none⟩, ⟨g, 10, (List.map Entry.row (dropL l (nth ks i))), none⟩, ⟨0, 3, [[(AV.int .i64 gf), (AV.int .i64 gl), (AV.int .i64 gt)]], none⟩, ⟨0, 2, [[(AV.int .i64 (((List.length al) : Nat) : Int)), (AV.osl 4 ga 2 0 (List.length (recL al)))]], none⟩, ⟨ga, 2, (List.map Key.row (recL al)), none⟩, ⟨0, 7, [[(AV.int .i64 nd), (AV.int .i64 st.t), (AV.int .i64 st.node), (AV.int .i64 st.n), (AV.obj 0 0 0 0), (AV.obj 2 0 0 0), (AV.obj 3 0 0 0)]], none⟩, ⟨0, 2, [(Key.row (nth ks i))], none⟩] : Heap) (drop_at (capM 32) l (nth ks i) g (List.length l) oa oa ([⟨0, 3, [[(AV.int .i64 gf), (AV.int .i64 gl), (AV.int .i64 gt)]], none⟩, ⟨0, 2, [[(AV.int .i64 (((List.length al) : Nat) : Int)), (AV.osl 4 ga 2 0 (List.length (recL al)))]], none⟩, ⟨ga, 2, (List.map Key.row (recL al)), none⟩, ⟨0, 7, [[(AV.int .i64 nd), (AV.int .i64 st.t), (AV.int .i64 st.node), (AV.int .i64 st.n), (AV.obj 0 0 0 0), (AV.obj 2 0 0 0), (AV.obj 3 0 0 0)]], none⟩, ⟨0, 2, [(Key.row (nth ks i))], none⟩] : Heap)) (.h' (Yh_14 g l ks i gf gl gt al ga nd st) (.b 6 (.g (.r (.y 0 (.int .i64 (IntKind.i64.wrap (((i : Nat) : Int) + 1))) (AV.int .i64 ((i + 1 : Nat) : Int)) (Yes.add ow ow ow) (.g (.l (k1 h1))))))))))))))) (fun h1 h1' => (.l (k2 h1))))))
def dpg_f (g : Nat) (al : List Key) (ga : Nat) (gf : Int) (gl : Int) (gt : Int) (nd : Int) (st : Stamp) (ks : List Key) (i : Nat) (s : (List Entry)) : (List Entry) := (dropL s (nth ks i))
theorem dpg_loop (g : Nat) (al : List Key) (ga : Nat) (gf : Int) (gl : Int) (gt : Int) (nd : Int) (st : Stamp) (ks : List Key) (hks : ks.length < 1000)  (r_ : Nat) : ∀ (l : List Entry) (i : Nat) (sF : (List Entry)), i + r_ = ks.length → l.length < 1000 → sF = iter (dpg_f g al ga gf gl gt nd st ks) r_ i (l) →
    LoopTo (codeQ Tryz.prog (X dpg_ann) (loopOf Tryz.f23 0)) (some [0, 5, 16, 17, 18]) (some [0, 5, 16, 17, 18]) (Yh_15 ks i) (Yh_1 g l gf gl gt al ga nd st) (.exit 0) (mkF 31 [(0, (.obj 5 0 0 0)), (5, (.sl .any 2 (List.map Key.row ks))), (16, (.sl .any 2 (List.map Key.row ks))), (17, (.int .i64 ((ks.length : Nat) : Int))), (18, (.int .i64 ((ks.length : Nat) : Int)))]) ([⟨0, 2, [[(.int .i64 (capM 32)), (.osl 1 g 10 0 (List.length sF))]], none⟩, ⟨g, 10, (List.map Entry.row sF), none⟩, ⟨0, 3, [[(.int .i64 gf), (.int .i64 gl), (.int .i64 gt)]], none⟩, ⟨0, 2, [[(.int .i64 (((List.length al) : Nat) : Int)), (.osl 4 ga 2 0 (List.length (recL al)))]], none⟩, ⟨ga, 2, (List.map Key.row (recL al)), none⟩, ⟨0, 7, [[(.int .i64 nd), (.int .i64 st.t), (.int .i64 st.node), (.int .i64 st.n), (.obj 0 0 0 0), (.obj 2 0 0 0), (.obj 3 0 0 0)]], none⟩] : Heap) := by
  induction r_ with
  | zero =>
    intro l i sF hi_ hl  hF
    obtain rfl : ks.length = i := by omega
    have e_ : sF = (l) := hF
    refine dpg_step g al ga gf gl gt nd st ks l ks.length hks hl (Nat.le_refl _) (fun h => by simp at h <;> omega) (fun _ => ?_)
    first | done | rfl | (rw [e_]; done) | (rw [e_]; rfl)
  | succ r_ ih =>
    intro l i sF hi_ hl  hF
    refine dpg_step g al ga gf gl gt nd st ks l i hks hl ow (fun h1 => ?_) (fun h => by simp at h <;> omega)
    · exact ih (dropL l (nth ks i)) (i + 1) sF ow (by have u1 := dropL_len l (nth ks i); first | omega | assumption | (simp; done) | (simp; omega) | (simp [*]; done) | (simp [*]; omega))  (by rw [hF] <;> simp only [iter, dpg_f, if_true, Bool.false_eq_true, if_false])
theorem dpg_iter (g : Nat) (al : List Key) (ga : Nat) (gf gl gt nd : Int) (st : Stamp) (ks : List Key) (l : List Entry) : ks.foldl dropL l = iter (dpg_f g al ga gf gl gt nd st ks) ks.length 0 l := by
  rw [iter_all (dpg_f g al ga gf gl gt nd st ks) dropL ks (fun i s hi => rfl)]
@[simp] abbrev Yh_16 (v1_ : Nat) (v2_ : List Entry) (v3_ : Int) (v4_ : Int) (v5_ : Int) (v6_ : Int) (v7_ : List Key) (v8_ : Nat) (v9_ : Int) (v10_ : Stamp) : Heap := [⟨0, 2, [[(AV.int .i64 (capM 32)), (AV.osl 1 v1_ 10 0 (List.length (List.foldl dropL v2_ (deadK v2_ (hold40 v3_)))))]], none⟩, ⟨v1_, 10, (List.map Entry.row (List.foldl dropL v2_ (deadK v2_ (hold40 v3_)))), none⟩, Yh_o2 v4_ v5_ v6_, Yh_o3 v7_ v8_, ⟨v8_, 2, (List.map Key.row (recL v7_)), none⟩, Yh_o4 v9_ v10_]
@[simp] abbrev Yh_17 (v1_ : List Entry) (v2_ : Int) : Fr := (mkF 31 [(0, (AV.obj 5 0 0 0)), (5, (AV.sl .any 2 (List.map Key.row (deadK v1_ (hold40 v2_))))), (16, (AV.sl .any 2 (List.map Key.row (deadK v1_ (hold40 v2_))))), (17, (AV.int .i64 (((deadK v1_ (hold40 v2_)).length : Nat) : Int))), (18, (AV.int .i64 (((deadK v1_ (hold40 v2_)).length : Nat) : Int)))])
set_option maxRecDepth 100000 in
theorem dpg_spec (l : List Entry) (g : Nat) (al : List Key) (ga : Nat) (gf gl gt nd : Int) (st : Stamp) (now : Int) (hl : l.length < 1000) : ACalls Tryz.prog 23 [(AV.obj 5 0 0 0), (AV.int .i64 now)] (Yh_1 g l gf gl gt al ga nd st) ((AV.int .i64 (((List.length (deadK l (hold40 now))) : Nat) : Int)), (Yh_16 g l now gf gl gt al ga nd st)) := by
  have hdk := deadK_len l (hold40 now)
  exact specO (fn := Tryz.f23) (ann := dpg_ann) (Has.o Tryz.func23) (.r (.g (.r (.c 4 (sall_at (capM 32) l g (List.length l) oa oa (Yh_10 gf gl gt al ga nd st)) (.c 6 (dheld_at now  (Yh_1 g l gf gl gt al ga nd st)) (.c 7 (dead_at l (hold40 now) oa (Yh_1 g l gf gl gt al ga nd st)) (.g (.r (.y 1 (.int .i64 ((List.length (List.map Key.row (deadK l (hold40 now))) : Nat) : Int)) (AV.int .i64 (((deadK l (hold40 now)).length : Nat) : Int)) (Yes.len _ _ _) (.g (.loop (Yh_17 l now) (show LoopTo (codeQ Tryz.prog (X dpg_ann) (loopOf Tryz.f23 0)) (some [0, 5, 16, 17, 18]) (some [0, 5, 16, 17, 18]) (mkF 31 [(0, (.obj 5 0 0 0)), (5, (.sl .any 2 (List.map Key.row (deadK l (hold40 now))))), (16, (.sl .any 2 (List.map Key.row (deadK l (hold40 now))))), (17, (.int .i64 (((deadK l (hold40 now)).length : Nat) : Int))), (18, (.int .i64 0))]) (Yh_1 g l gf gl gt al ga nd st) (.exit 0) (Yh_17 l now) (Yh_16 g l now gf gl gt al ga nd st) from (dpg_loop g al ga gf gl gt nd st (deadK l (hold40 now)) ow (deadK l (hold40 now)).length l 0 _ ow ow (dpg_iter _ _ _ _ _ _ _ _ _ _))) (.r (.y 1 (.int .i64 ((List.length (List.map Key.row (deadK l (hold40 now))) : Nat) : Int)) (AV.int .i64 (((deadK l (hold40 now)).length : Nat) : Int)) (Yes.len _ _ _) (.g (.f 6 (AV.int .i64 (((deadK l (hold40 now)).length : Nat) : Int)) (.e (AV.int .i64 (((deadK l (hold40 now)).length : Nat) : Int))))))))))))))))))
end Go.Proofs.YtfjedpipdnlkfaaGreat.AM

set_option maxRecDepth 100000
set_option linter.unusedVariables false
set_option linter.unusedSimpArgs false
namespace Go.Proofs.YtfjedpipdnlkfaaGreat.AM
open Go Go.Proofs.YtfjedpipdnlkfaaGreat
attribute [local irreducible] ACalls funT codeT codeQ LoopTo
attribute [local irreducible] cmpSt maxS nextS setA setG putE putL putG getE findB tuR msgR hdD fetR hold40 errA zeroM opM withB namesK deadK dropL
end Go.Proofs.YtfjedpipdnlkfaaGreat.AM

set_option maxRecDepth 100000
set_option linter.unusedVariables false
set_option linter.unusedSimpArgs false
namespace Go.Proofs.YtfjedpipdnlkfaaGreat.AM
open Go Go.Proofs.YtfjedpipdnlkfaaGreat
attribute [local irreducible] ACalls funT codeT codeQ LoopTo
attribute [local irreducible] cmpSt maxS nextS setA setG putE putL putG getE findB tuR msgR hdD fetR hold40 errA zeroM opM withB namesK deadK dropL
def ltr (i : Nat) : ByteArray := Utf8.encode (IntKind.i32.wrap ((97 + i : Nat) : Int))
def keyK (i : Nat) : Key := ⟨⟨#[97, 112, 112]⟩, ((⟨#[105]⟩ : ByteArray) ++ ltr (i % 26)) ++ ltr (i / 26)⟩
theorem ltr_size (i : Nat) (h : i < 26) : (ltr i).size = 1 := by
  have key : ((List.range 26).all fun i => (ltr i).size == 1) = true := by kernel_rfl
  have := List.all_eq_true.1 key i (List.mem_range.2 h)
  simpa using this
def keyed_ann : Ann := { big := [7, 13], fin := some 0 }
@[simp] abbrev Yj_1  : Heap := [⟨0, 2, [[(AV.str ⟨#[]⟩), (AV.str ⟨#[]⟩)]], none⟩]
set_option maxRecDepth 100000 in
theorem keyed_spec (i : Nat) (hi : i < 32) : ACalls Tryz.prog 21 [(AV.int .i64 ((i : Nat) : Int))] ([] : Heap) ((AV.agg (Key.row (keyK i))), ([] : Heap)) := by
  have s1 : (Utf8.encode (IntKind.i32.wrap ((97 + (i % 26) : Nat) : Int))).size = 1 := ltr_size (i % 26) ow
  have s2 : (Utf8.encode (IntKind.i32.wrap ((97 + (i / 26) : Nat) : Int))).size = 1 := ltr_size (i / 26) ow
  have s0 : (ByteArray.mk #[105]).size = 1 := rfl
  have s3 : ((ByteArray.mk #[105]) ++ (Utf8.encode (IntKind.i32.wrap ((97 + (i % 26) : Nat) : Int)))).size = 2 := by rw [ByteArray.size_append, s1]; rfl
  exact specO (fn := Tryz.f21) (ann := keyed_ann) (Has.o Tryz.func21) (.r (.g (.r (.h' Yj_1 (.y 1 (.int .i64 (Int.tmod ((i : Nat) : Int) 26)) (AV.int .i64 ((i % 26 : Nat) : Int)) (Yes.rem) (.y 2 (.int .i64 (IntKind.i64.wrap (97 + ((i % 26 : Nat) : Int)))) (AV.int .i64 ((97 + (i % 26) : Nat) : Int)) (Yes.add ow ow ow) (.t 4 (AV.str (Utf8.encode (IntKind.i32.wrap ((97 + (i % 26) : Nat) : Int)))) Yj_1 (sat_rune (src := 21) (dst' := 9) (ts := { d := .int .i32, size := 1, bytes := 4, zero := [.int .i32 0] }) (td := { d := .string, size := 1, bytes := 16, zero := [.str ⟨#[]⟩] }) (k := .i32) (n := (IntKind.i32.wrap ((97 + (i % 26) : Nat) : Int))) ttOk kr kr kr rfl kr rfl kr : Sat Tryz.prog (X keyed_ann) (mkF 16 [(0, (AV.int .i64 ((i : Nat) : Int))), (2, (AV.obj 0 0 0 0)), (3, (AV.int .i64 ((i : Nat) : Int))), (4, (AV.int .i64 ((i % 26 : Nat) : Int))), (5, (AV.int .i64 ((97 + (i % 26) : Nat) : Int))), (6, (AV.int .i32 (IntKind.i32.wrap ((97 + (i % 26) : Nat) : Int))))]) Yj_1 1 (opIn Tryz.f21 1 4) (AV.str (Utf8.encode (IntKind.i32.wrap ((97 + (i % 26) : Nat) : Int)))) Yj_1) (.t 5 (AV.str ((ByteArray.mk #[105]) ++ (Utf8.encode (IntKind.i32.wrap ((97 + (i % 26) : Nat) : Int))))) Yj_1 (str_add ow : Option.map (fun a => (a, Yj_1)) (if (((ByteArray.mk #[105]).size + (Utf8.encode (IntKind.i32.wrap ((97 + (i % 26) : Nat) : Int))).size : Nat) : Int) > IntKind.i64.max then none else some (.str ((ByteArray.mk #[105]) ++ (Utf8.encode (IntKind.i32.wrap ((97 + (i % 26) : Nat) : Int)))))) = some ((AV.str ((ByteArray.mk #[105]) ++ (Utf8.encode (IntKind.i32.wrap ((97 + (i % 26) : Nat) : Int))))), Yj_1)) (.y 7 (.int .i64 (IntKind.i64.wrap (Int.tdiv ((i : Nat) : Int) 26))) (AV.int .i64 ((i / 26 : Nat) : Int)) (Yes.quo ow) (.y 8 (.int .i64 (IntKind.i64.wrap (97 + ((i / 26 : Nat) : Int)))) (AV.int .i64 ((97 + (i / 26) : Nat) : Int)) (Yes.add ow ow ow) (.t 10 (AV.str (Utf8.encode (IntKind.i32.wrap ((97 + (i / 26) : Nat) : Int)))) Yj_1 (sat_rune (src := 21) (dst' := 9) (ts := { d := .int .i32, size := 1, bytes := 4, zero := [.int .i32 0] }) (td := { d := .string, size := 1, bytes := 16, zero := [.str ⟨#[]⟩] }) (k := .i32) (n := (IntKind.i32.wrap ((97 + (i / 26) : Nat) : Int))) ttOk kr kr kr rfl kr rfl kr : Sat Tryz.prog (X keyed_ann) (mkF 16 [(0, (AV.int .i64 ((i : Nat) : Int))), (2, (AV.obj 0 0 0 0)), (3, (AV.int .i64 ((i : Nat) : Int))), (4, (AV.int .i64 ((i % 26 : Nat) : Int))), (5, (AV.int .i64 ((97 + (i % 26) : Nat) : Int))), (6, (AV.int .i32 (IntKind.i32.wrap ((97 + (i % 26) : Nat) : Int)))), (7, (AV.str (Utf8.encode (IntKind.i32.wrap ((97 + (i % 26) : Nat) : Int))))), (8, (AV.str ((ByteArray.mk #[105]) ++ (Utf8.encode (IntKind.i32.wrap ((97 + (i % 26) : Nat) : Int)))))), (9, (AV.int .i64 ((i : Nat) : Int))), (10, (AV.int .i64 ((i / 26 : Nat) : Int))), (11, (AV.int .i64 ((97 + (i / 26) : Nat) : Int))), (12, (AV.int .i32 (IntKind.i32.wrap ((97 + (i / 26) : Nat) : Int))))]) Yj_1 1 (opIn Tryz.f21 1 10) (AV.str (Utf8.encode (IntKind.i32.wrap ((97 + (i / 26) : Nat) : Int)))) Yj_1) (.t 11 (AV.str (((ByteArray.mk #[105]) ++ (Utf8.encode (IntKind.i32.wrap ((97 + (i % 26) : Nat) : Int)))) ++ (Utf8.encode (IntKind.i32.wrap ((97 + (i / 26) : Nat) : Int))))) Yj_1 (str_add ow : Option.map (fun a => (a, Yj_1)) (if ((((ByteArray.mk #[105]) ++ (Utf8.encode (IntKind.i32.wrap ((97 + (i % 26) : Nat) : Int)))).size + (Utf8.encode (IntKind.i32.wrap ((97 + (i / 26) : Nat) : Int))).size : Nat) : Int) > IntKind.i64.max then none else some (.str (((ByteArray.mk #[105]) ++ (Utf8.encode (IntKind.i32.wrap ((97 + (i % 26) : Nat) : Int)))) ++ (Utf8.encode (IntKind.i32.wrap ((97 + (i / 26) : Nat) : Int)))))) = some ((AV.str (((ByteArray.mk #[105]) ++ (Utf8.encode (IntKind.i32.wrap ((97 + (i % 26) : Nat) : Int)))) ++ (Utf8.encode (IntKind.i32.wrap ((97 + (i / 26) : Nat) : Int))))), Yj_1)) (.g (.h' ([] : Heap) (.f 0 (AV.agg [(AV.str (ByteArray.mk #[97, 112, 112])), (AV.str (((ByteArray.mk #[105]) ++ (Utf8.encode (IntKind.i32.wrap ((97 + (i % 26) : Nat) : Int)))) ++ (Utf8.encode (IntKind.i32.wrap ((97 + (i / 26) : Nat) : Int)))))]) (.e (AV.agg [(AV.str (ByteArray.mk #[97, 112, 112])), (AV.str (((ByteArray.mk #[105]) ++ (Utf8.encode (IntKind.i32.wrap ((97 + (i % 26) : Nat) : Int)))) ++ (Utf8.encode (IntKind.i32.wrap ((97 + (i / 26) : Nat) : Int)))))])))))))))))))))))
theorem keyed_at (i : Nat) (hi : i < 32) (H : Heap) : ACalls Tryz.prog 21 [(AV.int .i64 ((i : Nat) : Int))] H ((AV.agg (Key.row (keyK i))), H) := (keyed_spec i hi).lift kr kr H
end Go.Proofs.YtfjedpipdnlkfaaGreat.AM

set_option linter.unusedVariables false
set_option linter.unusedSimpArgs false
set_option maxRecDepth 100000
namespace Go.Proofs.YtfjedpipdnlkfaaGreat.AM
open Go
def newK : Key := ⟨⟨#[110, 101, 119]⟩, ⟨#[110, 101, 119]⟩⟩
def fuQ (k : Key) : Msg := ⟨1, 1, 1, 0, 0, 50, 0, k, false, 0, [], []⟩
def fuR (k : Key) : Msg := ⟨1, 2, 0, 0, 0, 0, 0, k, false, 0, [], []⟩
def fuC (k : Key) : Msg := ⟨1, 3, 0, 0, 0, 0, 0, k, false, 0, [], []⟩
theorem all_lt {p : Nat → Bool} {n : Nat} (h : (List.range n).all p = true) {i : Nat} (hi : i < n) : p i = true := List.all_eq_true.1 h i (List.mem_range.2 hi)
theorem key_ne {i j : Nat} (hi : i < 32) (hj : j < 32) (h : i ≠ j) : keyK i ≠ keyK j := by
  have key : ((List.range 32).all fun i => (List.range 32).all fun j => Nat.beq i j || !(Key.eqb (keyK i) (keyK j))) = true := by kernel_rfl
  have h1 := all_lt (all_lt key hi) hj
  have h2 : Nat.beq i j = false := by
    cases hb : Nat.beq i j with
    | false => rfl
    | true => exact absurd (Nat.eq_of_beq_eq_true hb) h
  rw [h2] at h1
  exact Key.eqb_false.1 (by simpa using h1)
theorem key_new {i : Nat} (hi : i < 32) : newK ≠ keyK i := by
  have key : ((List.range 32).all fun i => !(Key.eqb newK (keyK i))) = true := by kernel_rfl
  exact Key.eqb_false.1 (by simpa using all_lt key hi)
theorem fuQ_right {i : Nat} (hi : i < 32) : msgR (fuQ (keyK i)) = true := by
  have key : ((List.range 32).all fun i => msgR (fuQ (keyK i))) = true := by kernel_rfl
  exact all_lt key hi
theorem fuR_right {i : Nat} (hi : i < 32) : msgR (fuR (keyK i)) = true := by
  have key : ((List.range 32).all fun i => msgR (fuR (keyK i))) = true := by kernel_rfl
  exact all_lt key hi
theorem fuC_right {i : Nat} (hi : i < 32) : msgR (fuC (keyK i)) = true := by
  have key : ((List.range 32).all fun i => msgR (fuC (keyK i))) = true := by kernel_rfl
  exact all_lt key hi
theorem fuN_right : msgR (fuQ newK) = true := by kernel_rfl
attribute [local irreducible] msgR fetR hold40 findB findP getE putL putE putG nextS maxS cmpSt dropL deadK
def regY (nd : Int) (s : DS) (q : Msg) (now : Int) : Entry := regX q (getE s.l q.key) (findB s.l q.key) s.st (hold40 now) nd
theorem hd_reg {nd : Int} {s : DS} {q : Msg} {now : Int} (hk : q.kind = 1) (hr : msgR q = true) (ho : q.op = 1) (r : regQ q) :
    hdD nd s q now = ⟨hdM q (putE (capM 32) s.l (regY nd s q now)), givC s.l (regY nd s q now), ⟨putL (capM 32) s.l (regY nd s q now), putG (capM 32) s.l (regY nd s q now) s.g, setA s.l (regY nd s q now) s.al, setG s.l (regY nd s q now) s.ga, s.gf, s.gl, s.gt, givS s.l (regY nd s q now) s.st⟩⟩ := by
  have t : tuR s.l s.g s.al s.ga s.gt nd s.st q (hold40 now) = ⟨givC s.l (regY nd s q now), putE (capM 32) s.l (regY nd s q now), putL (capM 32) s.l (regY nd s q now), putG (capM 32) s.l (regY nd s q now) s.g, setA s.l (regY nd s q now) s.al, setG s.l (regY nd s q now) s.ga, givS s.l (regY nd s q now) s.st, s.gt⟩ := by
    unfold tuR
    rw [if_pos ho]
    unfold regC regR regL regG regA regGa regS
    simp only [if_pos r]
    rfl
  unfold hdD DS.turn
  rw [if_pos ⟨hk, hr⟩, if_neg (by rw [ho]; decide)]
  simp only [t]
theorem hd_live {nd : Int} {s : DS} {q : Msg} {now : Int} (hk : q.kind = 1) (hr : msgR q = true) (hf : findB s.l q.key = true) (hg : (getE s.l q.key).card.gone = false) :
    (q.op = 2 → hdD nd s q now = ⟨hdM q 0, [], ⟨putL (capM 32) s.l (renewE (getE s.l q.key) (hold40 now)), putG (capM 32) s.l (renewE (getE s.l q.key) (hold40 now)) s.g, s.al, s.ga, s.gf, s.gl, min (s.gt + 1) 1048576, s.st⟩⟩) ∧
    (q.op = 3 → ∃ st, (hdD nd s q now).m = hdM q 0 ∧ (hdD nd s q now).s.l = putL (capM 32) s.l (cancelE (getE s.l q.key) st (hold40 now)) ∧ (hdD nd s q now).s.gt = s.gt) := by
  have hkk := (find_get hf).2
  constructor
  · intro ho
    have e0 : putE (capM 32) s.l (renewE (getE s.l q.key) (hold40 now)) = 0 := putE_zero (.inl (by show findB s.l (getE s.l q.key).card.key = true; rw [hkk]; exact hf))
    have t : tuR s.l s.g s.al s.ga s.gt nd s.st q (hold40 now) = ⟨[], putE (capM 32) s.l (renewE (getE s.l q.key) (hold40 now)), putL (capM 32) s.l (renewE (getE s.l q.key) (hold40 now)), putG (capM 32) s.l (renewE (getE s.l q.key) (hold40 now)) s.g, s.al, s.ga, s.st, min (s.gt + 1) 1048576⟩ := by
      unfold tuR
      rw [if_neg (by rw [ho]; decide), if_neg (fun z => by rw [ho] at z; exact absurd z.1 (by decide)), if_pos ⟨hf, hg⟩, if_pos ho]
    unfold hdD DS.turn
    rw [if_pos ⟨hk, hr⟩, if_neg (by rw [ho]; decide)]
    simp only [t, e0]
  · intro ho
    refine ⟨nextS (maxS s.st (getE s.l q.key).card.stamp) (hold40 now) nd, ?_⟩
    generalize hst : nextS (maxS s.st (getE s.l q.key).card.stamp) (hold40 now) nd = st
    have e0 : putE (capM 32) s.l (cancelE (getE s.l q.key) st (hold40 now)) = 0 := putE_zero (.inl (by show findB s.l (getE s.l q.key).card.key = true; rw [hkk]; exact hf))
    have t : tuR s.l s.g s.al s.ga s.gt nd s.st q (hold40 now) = tuPut s.l s.g s.al s.ga s.gt s.st (cancelE (getE s.l q.key) st (hold40 now)) := by
      unfold tuR
      rw [if_neg (by rw [ho]; decide), if_neg (fun z => by rw [ho] at z; exact absurd z.1 (by decide)), if_pos ⟨hf, hg⟩, if_neg (by rw [ho]; decide), if_neg (by rw [ho]; decide), hst]
    unfold hdD DS.turn
    rw [if_pos ⟨hk, hr⟩, if_neg (by rw [ho]; decide)]
    simp only [t, tuPut, e0]
    exact ⟨trivial, trivial, trivial⟩
theorem regQ_fu (k : Key) : regQ (fuQ k) := ⟨by show (1 : Int) ≤ 50; decide, by show (50 : Int) ≤ 1048576; decide, .inl rfl⟩
theorem hd_full {s : DS} {k : Key} {now : Int} (hr : msgR (fuQ k) = true) (hl : s.l.length = 32) (hf : findB s.l k = false) : hdD 0 s (fuQ k) now = ⟨hdM (fuQ k) 24, [], s⟩ := by
  have hkey : (regY 0 s (fuQ k) now).card.key = k := rfl
  have e0 : putE (capM 32) s.l (regY 0 s (fuQ k) now) = 24 := by with_unfolding_all unfold putE; rw [hkey, if_neg (by rw [hf]; simp), if_pos (by rw [cap32]; omega)]
  have e1 : putL (capM 32) s.l (regY 0 s (fuQ k) now) = s.l := by with_unfolding_all unfold putL; rw [hkey, if_neg (by rw [hf]; simp), if_pos (by rw [cap32]; omega)]
  have e2 : putG (capM 32) s.l (regY 0 s (fuQ k) now) s.g = s.g := by with_unfolding_all unfold putG; rw [hkey, if_neg (by rw [hf]; simp), if_pos (by rw [cap32]; omega)]
  rw [hd_reg rfl hr rfl (regQ_fu k)]
  unfold givC setA setG givS
  rw [e0, e1, e2]
  rfl
theorem hd_room {s : DS} {k : Key} {now : Int} (hr : msgR (fuQ k) = true) (hl : s.l.length < 32) (hf : findB s.l k = false) : (hdD 0 s (fuQ k) now).m = hdM (fuQ k) 0 ∧ (hdD 0 s (fuQ k) now).s.l = putL (capM 32) s.l (regY 0 s (fuQ k) now) ∧ (hdD 0 s (fuQ k) now).s.gt = s.gt := by
  have hkey : (regY 0 s (fuQ k) now).card.key = k := rfl
  have e0 : putE (capM 32) s.l (regY 0 s (fuQ k) now) = 0 := putE_zero (.inr (by rw [cap32]; omega))
  rw [hd_reg rfl hr rfl (regQ_fu k), e0]
  exact ⟨rfl, rfl, rfl⟩
theorem putL_len_new {l : List Entry} {x : Entry} (hf : findB l x.card.key = false) (hl : l.length < 32) : (putL (capM 32) l x).length = l.length + 1 := by
  have := findP_le l x.card.key
  with_unfolding_all
    unfold putL
    rw [if_neg (by rw [hf]; simp), if_neg (by rw [cap32]; omega)]
    simp; omega
theorem putL_len_old {most : Int} {l : List Entry} {x : Entry} (hf : findB l x.card.key = true) : (putL most l x).length = l.length := by
  with_unfolding_all
    unfold putL
    rw [if_pos hf]; simp
structure FuA (s : DS) (i : Nat) : Prop where
  ok : DSok 100 s
  len : s.l.length = i
  key : ∀ j, j < 32 → findB s.l (keyK j) = decide (j < i)
  new : findB s.l newK = false
  live : ∀ e ∈ s.l, e.card.gone = false
theorem fuA_next {s : DS} {i : Nat} (h : FuA s i) (hi : i < 32) : (hdD 0 s (fuQ (keyK i)) 1).m = hdM (fuQ (keyK i)) 0 ∧ ∃ x : Entry, x.card.key = keyK i ∧ x.card.gone = false ∧ (hdD 0 s (fuQ (keyK i)) 1).s.l = putL (capM 32) s.l x ∧ (hdD 0 s (fuQ (keyK i)) 1).s.gt = s.gt := by
  have hf : findB s.l (keyK i) = false := by rw [h.key i hi]; simp
  obtain ⟨h1, h2, h3⟩ := hd_room (now := 1) (fuQ_right hi) (by have := h.len; omega) hf
  exact ⟨h1, _, rfl, rfl, h2, h3⟩
theorem fuA_put {s s' : DS} {i : Nat} (h : FuA s i) (hi : i < 32) {x : Entry} (hx : x.card.key = keyK i) (hg : x.card.gone = false) (hs : s'.l = putL (capM 32) s.l x) (hok : DSok 100 s') : FuA s' (i + 1) := by
  have hf : findB s.l (keyK i) = false := by rw [h.key i hi]; simp
  have hr : findB s.l x.card.key = true ∨ (s.l.length : Int) < capM 32 := .inr (by rw [cap32]; have := h.len; omega)
  have hl : s.l.length < 32 := by have := h.len; omega
  refine ⟨hok, ?_, fun j hj => ?_, ?_, fun e he => ?_⟩
  · rw [hs, putL_len_new (by rw [hx]; exact hf) hl, h.len]
  · rw [hs]
    by_cases e : j = i
    · subst e
      have := (find_putL h.ok.srt hr).1
      rw [hx] at this
      rw [this]; simp
    · rw [(find_putL_ne h.ok.srt hr (k := keyK j) (by rw [hx]; exact key_ne hj hi e)).1, h.key j hj]
      congr 1
      apply propext
      omega
  · rw [hs, (find_putL_ne h.ok.srt hr (k := newK) (by rw [hx]; exact key_new hi)).1]; exact h.new
  · rw [hs] at he
    rcases mem_put_sub' he with rfl | he
    · exact hg
    · exact h.live e he
theorem fuA_renew {s : DS} (h : FuA s 32) {j : Nat} (hj : j < 32) : (hdD 0 s (fuR (keyK j)) 3).m = hdM (fuR (keyK j)) 0 ∧ (DSok 100 (hdD 0 s (fuR (keyK j)) 3).s → FuA (hdD 0 s (fuR (keyK j)) 3).s 32) := by
  have hf : findB s.l (keyK j) = true := by rw [h.key j hj]; simpa using hj
  have hm := find_get hf
  have e := (hd_live (nd := 0) (s := s) (q := fuR (keyK j)) (now := 3) rfl (fuR_right hj) hf (h.live _ hm.1)).1 rfl
  rw [e]
  refine ⟨rfl, fun hok => ?_⟩
  have hx : (renewE (getE s.l (keyK j)) (hold40 3)).card.key = keyK j := hm.2
  have hr : findB s.l (renewE (getE s.l (keyK j)) (hold40 3)).card.key = true ∨ (s.l.length : Int) < capM 32 := .inl (by rw [hx]; exact hf)
  refine ⟨hok, ?_, fun i hi => ?_, ?_, fun y hy => ?_⟩
  · show (putL (capM 32) s.l (renewE (getE s.l (keyK j)) (hold40 3))).length = 32
    rw [putL_len_old (by rw [hx]; exact hf), h.len]
  · show findB (putL (capM 32) s.l (renewE (getE s.l (keyK j)) (hold40 3))) (keyK i) = _
    by_cases e2 : i = j
    · subst e2
      have := (find_putL h.ok.srt hr).1
      rw [hx] at this
      rw [this]; simp [hi]
    · rw [(find_putL_ne h.ok.srt hr (k := keyK i) (by rw [hx]; exact key_ne hi hj e2)).1, h.key i hi]
  · show findB (putL (capM 32) s.l (renewE (getE s.l (keyK j)) (hold40 3))) newK = false
    rw [(find_putL_ne h.ok.srt hr (k := newK) (by rw [hx]; exact key_new hj)).1]; exact h.new
  · have hy' : y ∈ putL (capM 32) s.l (renewE (getE s.l (keyK j)) (hold40 3)) := hy
    rcases mem_put_sub' hy' with rfl | hy'
    · show (getE s.l (keyK j)).card.gone = false
      exact h.live _ hm.1
    · exact h.live y hy'
structure FuB (s : DS) (j : Nat) : Prop where
  srt : SrtE s.l
  len : s.l.length = 32
  new : findB s.l newK = false
  at_ : ∃ e ∈ s.l, e.card.key = keyK j ∧ e.card.gone = true ∧ e.seen = 4
  live : ∀ e ∈ s.l, e.card.key ≠ keyK j → e.card.gone = false
theorem fuA_cancel {s : DS} (h : FuA s 32) {j : Nat} (hj : j < 32) : (hdD 0 s (fuC (keyK j)) 4).m = hdM (fuC (keyK j)) 0 ∧ FuB (hdD 0 s (fuC (keyK j)) 4).s j := by
  have hf : findB s.l (keyK j) = true := by rw [h.key j hj]; simpa using hj
  have hm := find_get hf
  obtain ⟨st, e1, e2, _⟩ := (hd_live (nd := 0) (s := s) (q := fuC (keyK j)) (now := 4) rfl (fuC_right hj) hf (h.live _ hm.1)).2 rfl
  refine ⟨e1, ?_⟩
  have hx : (cancelE (getE s.l (keyK j)) st (hold40 4)).card.key = keyK j := hm.2
  have hr : findB s.l (cancelE (getE s.l (keyK j)) st (hold40 4)).card.key = true ∨ (s.l.length : Int) < capM 32 := .inl (by rw [hx]; exact hf)
  have e2' : (hdD 0 s (fuC (keyK j)) 4).s.l = putL (capM 32) s.l (cancelE (getE s.l (keyK j)) st (hold40 4)) := e2
  refine ⟨?_, ?_, ?_, ?_, fun y hy hne => ?_⟩
  · rw [e2']; exact putL_srt h.ok.srt _
  · rw [e2', putL_len_old (by rw [hx]; exact hf), h.len]
  · rw [e2', (find_putL_ne h.ok.srt hr (k := newK) (by rw [hx]; exact key_new hj)).1]; exact h.new
  · refine ⟨cancelE (getE s.l (keyK j)) st (hold40 4), ?_, hx, rfl, by with_unfolding_all rfl⟩
    rw [e2', mem_putL h.ok.srt hr]; exact .inl rfl
  · rw [e2', mem_putL h.ok.srt hr] at hy
    rcases hy with rfl | hy
    · exact absurd hx hne
    · exact h.live y hy.1
theorem one_of {l : List Entry} (hs : SrtE l) {k : Key} {p : Entry → Bool} (hp : ∀ e ∈ l, p e = true → e.card.key = k) (he : ∃ e ∈ l, p e = true) : ∃ e, l.filter p = [e] ∧ e ∈ l ∧ e.card.key = k := by
  obtain ⟨e, hel, hpe⟩ := he
  have hm : e ∈ l.filter p := List.mem_filter.2 ⟨hel, hpe⟩
  have hu : List.Pairwise (fun a b : Entry => a.card.key ≠ b.card.key) (l.filter p) := List.Pairwise.filter _ (srtE_unlike hs)
  have hk : ∀ x ∈ l.filter p, x.card.key = k := fun x hx => hp x (List.mem_filter.1 hx).1 (List.mem_filter.1 hx).2
  cases hfl : l.filter p with
  | nil => rw [hfl] at hm; simp at hm
  | cons a t =>
    rw [hfl] at hu hk hm
    have ht : t = [] := by
      cases t with
      | nil => rfl
      | cons b t =>
        have := (List.pairwise_cons.1 hu).1 b List.mem_cons_self
        rw [hk a List.mem_cons_self, hk b (by simp)] at this
        exact absurd rfl this
    subst ht
    have : e = a := by simpa using hm
    subst this
    exact ⟨e, rfl, hel, hk e List.mem_cons_self⟩
theorem fuB_dead {s : DS} {j : Nat} (h : FuB s j) : deadK s.l (hold40 405) = [keyK j] := by
  obtain ⟨e, hel, hk, hg, hsn⟩ := h.at_
  have e0 : hold40 405 = 405 := by with_unfolding_all rfl
  have hd : deadB 405 e = true := by
    unfold deadB agoE held
    rw [if_pos hg, hsn]; decide
  obtain ⟨y, hy, hyl, hyk⟩ := one_of h.srt (k := keyK j) (p := deadB 405) (fun x hx hp => by
    cases hgx : x.card.gone with
    | false => unfold deadB at hp; rw [hgx] at hp; simp at hp
    | true =>
      rcases Classical.em (x.card.key = keyK j) with q | q
      · exact q
      · have := h.live x hx q
        rw [this] at hgx; simp at hgx) ⟨e, hel, hd⟩
  rw [e0, deadK_eq, hy]
  simp [hyk]
theorem fuB_room {s : DS} {j : Nat} (h : FuB s j) (hj : j < 32) : (dropL s.l (keyK j)).length = 31 ∧ findB (dropL s.l (keyK j)) newK = false ∧ SrtE (dropL s.l (keyK j)) := by
  obtain ⟨e, hel, hk, _⟩ := h.at_
  have hf : findB s.l (keyK j) = true := by rw [← hk]; exact (find_mem h.srt hel).1
  have hlt := findB_lt hf
  have hlen := h.len
  have ed : dropL s.l (keyK j) = s.l.take (findP s.l (keyK j)) ++ s.l.drop (findP s.l (keyK j) + 1) := by with_unfolding_all unfold dropL; rw [if_pos hf]
  have hsub : List.Sublist (dropL s.l (keyK j)) s.l := by
    rw [ed]
    have h1 : List.Sublist (s.l.drop (findP s.l (keyK j) + 1)) (s.l.drop (findP s.l (keyK j))) := by
      rw [← List.drop_drop]; exact List.drop_sublist _ _
    have h2 := List.Sublist.append (List.Sublist.refl (s.l.take (findP s.l (keyK j)))) h1
    rwa [List.take_append_drop] at h2
  have hsrt : SrtE (dropL s.l (keyK j)) := List.Pairwise.sublist (hsub.map kE) h.srt
  refine ⟨?_, ?_, hsrt⟩
  · rw [ed]; simp; omega
  · cases hb : findB (dropL s.l (keyK j)) newK with
    | false => rfl
    | true =>
      obtain ⟨x, hx, hxk⟩ := (find_iff hsrt newK).1 hb
      have := (find_iff h.srt newK).2 ⟨x, hsub.subset hx, hxk⟩
      rw [h.new] at this; simp at this
end Go.Proofs.YtfjedpipdnlkfaaGreat.AM
